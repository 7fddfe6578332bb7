/- lin.Solve, the document's Solve: what they hand back. -/
import Derived.Test.YtdckmpaakheppaaLC
namespace Go.Ab
set_option linter.unusedSimpArgs false
set_option linter.unusedVariables false
open Go Go.Proofs
def fJ (A : List (List Nat)) (i : Nat) (x : List Nat) : Nat → List Nat
  | 0 => x
  | m + 1 => (fJ A i x m).set i (fop .sub ((fJ A i x m).getD i 0) (fop .mul (at2 A i m) ((fJ A i x m).getD m 0)))
def fwdI (A : List (List Nat)) (π : List Int) (b : List Nat) (n : Nat) : Nat → List Nat
  | 0 => List.replicate n 0
  | m + 1 => fJ A m ((fwdI A π b n m).set m (b.getD (π.getD m 0).toNat 0)) m
def bJ (A : List (List Nat)) (i : Nat) (x : List Nat) : Nat → List Nat
  | 0 => x
  | m + 1 => (bJ A i x m).set i (fop .sub ((bJ A i x m).getD i 0) (fop .mul (at2 A i (i + 1 + m)) ((bJ A i x m).getD (i + 1 + m) 0)))
def bStep (A : List (List Nat)) (n i : Nat) (x : List Nat) : List Nat :=
  (bJ A i x (n - 1 - i)).set i (fop .div ((bJ A i x (n - 1 - i)).getD i 0) (at2 A i i))
def bckI (A : List (List Nat)) (n : Nat) (x : List Nat) : Nat → List Nat
  | 0 => x
  | m + 1 => bStep A n (n - 1 - m) (bckI A n x m)
def solveP (A : List (List Nat)) (π : List Int) (b : List Nat) (n : Nat) : List Nat := bckI A n (fwdI A π b n n) n
theorem fJ_len (A : List (List Nat)) (i : Nat) (x : List Nat) : ∀ m, (fJ A i x m).length = x.length := by
  intro m; induction m with
  | zero => rfl
  | succ m ih => simp [fJ, ih]
theorem fwdI_len (A : List (List Nat)) (π : List Int) (b : List Nat) (n : Nat) : ∀ m, (fwdI A π b n m).length = n := by
  intro m; induction m with
  | zero => simp [fwdI]
  | succ m ih => simp [fwdI, fJ_len, ih]
theorem bJ_len (A : List (List Nat)) (i : Nat) (x : List Nat) : ∀ m, (bJ A i x m).length = x.length := by
  intro m; induction m with
  | zero => rfl
  | succ m ih => simp [bJ, ih]
theorem bckI_len (A : List (List Nat)) (n : Nat) (x : List Nat) : ∀ m, (bckI A n x m).length = x.length := by
  intro m; induction m with
  | zero => rfl
  | succ m ih => simp [bckI, bStep, bJ_len, ih]
/-- Places of n. -/
def Pm (n : Nat) (π : List Int) : Prop := π.length = n ∧ ∀ i, i < n → 0 ≤ π.getD i 0 ∧ π.getD i 0 < n

def solveH (A : List (List Nat)) (π : List Int) (x : List Nat) : Heap := [(2, [rowV x]), (0, [[.d (rowsD A), .d (rowI π)]])]
set_option maxRecDepth 8000 in
theorem solve_L1 (N : Nat → Prop) (A : List (List Nat)) (π : List Int) (vb : V) (n i : Nat) (x : List Nat) (hA : Sq n A) (hx : x.length = n) (hi : i < n) (hn : n < 2 ^ 40) (Q : Ex → T → Prop)
    (hQ : ∀ v w, Q (.exit 2) ⟨[(1, vb), (2, .ptr 0 0 0 2), (5, fI n), (6, .sl 2 0 0 n 1 n), (7, fI i), (17, fI n), (18, fI i), (32, fI i), (33, v), (34, w)], solveH A π (fJ A i x i)⟩) :
    WA Try.prog N 110 (.loop A_lin_Solve_L1) Q ⟨[(1, vb), (2, .ptr 0 0 0 2), (5, fI n), (6, .sl 2 0 0 n 1 n), (7, fI i), (17, fI n), (18, fI i), (32, fI i), (33, fI 0)], solveH A π x⟩ := by
  obtain ⟨hl, hr⟩ := hA
  refine WA_for (n := i) (fun c s => ∃ m, c + m = i ∧ s = ⟨[(1, vb), (2, .ptr 0 0 0 2), (5, fI n), (6, .sl 2 0 0 n 1 n), (7, fI i), (17, fI n), (18, fI i), (32, fI i), (33, fI m)], solveH A π (fJ A i x m)⟩) ⟨0, rfl, rfl⟩ ?_
  rintro c s ⟨m, hc, rfl⟩
  have hy := fJ_len A i x m
  generalize hY : fJ A i x m = y at hy
  have g1 := hr i hi
  simp -implicitDefEqProofs only [xC_skip, evS, evT, evU, hv, effC, reduceCtorEq, ↓reduceIte, Nat.reduceEqDiff, Nat.reduceAdd, Nat.reduceMul, Int.reduceToNat, Int.reduceAdd, Int.reduceSub, Int.reduceMul, Int.reduceNeg, Int.reduceLT, Int.reduceLE, Nat.reduceLT, Nat.reduceLeDiff, A_lin_Solve_L1, solveH]
  refine condC_intro (fun h => ?_) (fun h => ?_)
  · replace h := of_decide_eq_true h
    have e1 : i < y.length := by omega
    have e2 : m < y.length := by omega
    simp -implicitDefEqProofs only [xC_skip, evS, evT, evU, hv, effC, reduceCtorEq, ↓reduceIte, Nat.reduceEqDiff, Nat.reduceAdd, Nat.reduceMul, Int.reduceToNat, Int.reduceAdd, Int.reduceSub, Int.reduceMul, Int.reduceNeg, Int.reduceLT, Int.reduceLE, Nat.reduceLT, Nat.reduceLeDiff, getD_map_fl _ _ e1, getD_map_fl _ _ e2]
    (repeat (with_reducible refine And.intro (by omega) ?_))
    rw [wrapI (by omega) (by omega)]
    refine ⟨c - 1, by omega, m + 1, by omega, ?_⟩
    simp only [fJ, hY]; rfl
  · replace h := of_decide_eq_false h
    simp -implicitDefEqProofs only [xC_skip, evS, evT, evU, hv, effC, reduceCtorEq, ↓reduceIte, Nat.reduceEqDiff, Nat.reduceAdd, Nat.reduceMul, Int.reduceToNat, Int.reduceAdd, Int.reduceSub, Int.reduceMul, Int.reduceNeg, Int.reduceLT, Int.reduceLE, Nat.reduceLT, Nat.reduceLeDiff]
    obtain rfl : i = m := by omega
    rw [hY] at hQ
    exact hQ _ _
set_option maxRecDepth 8000 in
theorem solve_L3 (N : Nat → Prop) (A : List (List Nat)) (π : List Int) (n i : Nat) (x : List Nat) (hA : Sq n A) (hx : x.length = n) (hi : i < n) (hn : n < 2 ^ 40) (Q : Ex → T → Prop)
    (hQ : ∀ v w, Q (.exit 6) ⟨[(2, .ptr 0 0 0 2), (5, fI n), (6, .sl 2 0 0 n 1 n), (9, fI i), (10, v), (69, w)], solveH A π (bJ A i x (n - 1 - i))⟩) :
    WA Try.prog N 110 (.loop A_lin_Solve_L3) Q ⟨[(2, .ptr 0 0 0 2), (5, fI n), (6, .sl 2 0 0 n 1 n), (9, fI i), (10, fI (i + 1 : Nat))], solveH A π x⟩ := by
  obtain ⟨hl, hr⟩ := hA
  refine WA_for (n := n) (fun c s => ∃ m, c + m = n ∧ i + 1 + m ≤ n ∧ s = ⟨[(2, .ptr 0 0 0 2), (5, fI n), (6, .sl 2 0 0 n 1 n), (9, fI i), (10, fI (i + 1 + m : Nat))], solveH A π (bJ A i x m)⟩) ⟨0, rfl, by omega, rfl⟩ ?_
  rintro c s ⟨m, hc, hm, rfl⟩
  have hy := bJ_len A i x m
  generalize hY : bJ A i x m = y at hy
  have g1 := hr i hi
  simp -implicitDefEqProofs only [xC_skip, evS, evT, evU, hv, effC, reduceCtorEq, ↓reduceIte, Nat.reduceEqDiff, Nat.reduceAdd, Nat.reduceMul, Int.reduceToNat, Int.reduceAdd, Int.reduceSub, Int.reduceMul, Int.reduceNeg, Int.reduceLT, Int.reduceLE, Nat.reduceLT, Nat.reduceLeDiff, A_lin_Solve_L3, solveH]
  refine condC_intro (fun h => ?_) (fun h => ?_)
  · replace h := of_decide_eq_true h
    have e1 : i < y.length := by omega
    have e2 : i + 1 + m < y.length := by omega
    simp -implicitDefEqProofs only [xC_skip, evS, evT, evU, hv, effC, reduceCtorEq, ↓reduceIte, Nat.reduceEqDiff, Nat.reduceAdd, Nat.reduceMul, Int.reduceToNat, Int.reduceAdd, Int.reduceSub, Int.reduceMul, Int.reduceNeg, Int.reduceLT, Int.reduceLE, Nat.reduceLT, Nat.reduceLeDiff, getD_map_fl _ _ e1, getD_map_fl _ _ e2]
    (repeat (with_reducible refine And.intro (by omega) ?_))
    rw [wrapI (by omega) (by omega)]
    refine ⟨c - 1, by omega, m + 1, by omega, by omega, ?_⟩
    simp only [bJ, hY]; rfl
  · replace h := of_decide_eq_false h
    simp -implicitDefEqProofs only [xC_skip, evS, evT, evU, hv, effC, reduceCtorEq, ↓reduceIte, Nat.reduceEqDiff, Nat.reduceAdd, Nat.reduceMul, Int.reduceToNat, Int.reduceAdd, Int.reduceSub, Int.reduceMul, Int.reduceNeg, Int.reduceLT, Int.reduceLE, Nat.reduceLT, Nat.reduceLeDiff]
    obtain rfl : n - 1 - i = m := by omega
    rw [hY] at hQ
    exact hQ _ _
set_option maxRecDepth 8000 in
theorem lin_Solve_ac (A : List (List Nat)) (π : List Int) (b : List Nat) (n : Nat) (hA : Sq n A) (hπ : Pm n π) (hb : b.length = n) (hn : n < 2 ^ 40) :
    AC Try.prog 69 [.agg [.d (rowsD A), .d (rowI π)], .d (rowD b)] [] (solveH A π (solveP A π b n)) (.sl 2 0 0 n 1 n) := by
  obtain ⟨hl, hr⟩ := hA
  obtain ⟨hp1, hp2⟩ := hπ
  refine AC_introA A_lin_Solve_comp rfl mixed (fun _ => False) (by simp [get_nil]) ?_
  simp -implicitDefEqProofs only [xC_skip, evS, evT, evU, hv, effC, reduceCtorEq, ↓reduceIte, Nat.reduceEqDiff, Nat.reduceAdd, Nat.reduceMul, Int.reduceToNat, Int.reduceAdd, Int.reduceSub, Int.reduceMul, Int.reduceNeg, Int.reduceLT, Int.reduceLE, Nat.reduceLT, Nat.reduceLeDiff, A_lin_Solve, hl]
  (repeat (with_reducible refine And.intro (by omega) ?_))
  refine WA_for (n := n) (fun c s => ∃ m, c + m = n ∧ s = ⟨[(1, .d (rowD b)), (2, .ptr 0 0 0 2), (5, fI n), (6, .sl 2 0 0 n 1 n), (17, fI n), (18, fI m)], solveH A π (fwdI A π b n m)⟩) ⟨0, rfl, ?_⟩ ?_
  · simp only [solveH, fwdI, rowsD, hl]; rfl
  rintro c s ⟨m, hc, rfl⟩
  have hy := fwdI_len A π b n m
  generalize hY : fwdI A π b n m = y at hy
  simp -implicitDefEqProofs only [xC_skip, evS, evT, evU, hv, effC, reduceCtorEq, ↓reduceIte, Nat.reduceEqDiff, Nat.reduceAdd, Nat.reduceMul, Int.reduceToNat, Int.reduceAdd, Int.reduceSub, Int.reduceMul, Int.reduceNeg, Int.reduceLT, Int.reduceLE, Nat.reduceLT, Nat.reduceLeDiff, A_lin_Solve_L0, solveH]
  refine condC_intro (fun h => ?_) (fun h => ?_)
  · replace h := of_decide_eq_true h
    obtain ⟨q1, q2⟩ := hp2 m h
    simp -implicitDefEqProofs only [xC_skip, evS, evT, evU, hv, effC, reduceCtorEq, ↓reduceIte, Nat.reduceEqDiff, Nat.reduceAdd, Nat.reduceMul, Int.reduceToNat, Int.reduceAdd, Int.reduceSub, Int.reduceMul, Int.reduceNeg, Int.reduceLT, Int.reduceLE, Nat.reduceLT, Nat.reduceLeDiff]
    (repeat (with_reducible refine And.intro (by omega) ?_))
    refine solve_L1 _ A π _ n m (y.set m (b.getD (π.getD m 0).toNat 0)) ⟨hl, hr⟩ (by simpa using hy) h hn _ fun v w => ?_
    simp -implicitDefEqProofs only [xC_skip, evS, evT, evU, hv, effC, reduceCtorEq, ↓reduceIte, Nat.reduceEqDiff, Nat.reduceAdd, Nat.reduceMul, Int.reduceToNat, Int.reduceAdd, Int.reduceSub, Int.reduceMul, Int.reduceNeg, Int.reduceLT, Int.reduceLE, Nat.reduceLT, Nat.reduceLeDiff]
    rw [wrapI (by omega) (by omega)]
    refine ⟨c - 1, by omega, m + 1, by omega, ?_⟩
    simp only [fwdI, hY]; rfl
  · replace h := of_decide_eq_false h
    obtain rfl : n = m := by omega
    simp -implicitDefEqProofs only [xC_skip, evS, evT, evU, hv, effC, reduceCtorEq, ↓reduceIte, Nat.reduceEqDiff, Nat.reduceAdd, Nat.reduceMul, Int.reduceToNat, Int.reduceAdd, Int.reduceSub, Int.reduceMul, Int.reduceNeg, Int.reduceLT, Int.reduceLE, Nat.reduceLT, Nat.reduceLeDiff]
    rw [wrapI (by omega) (by omega)]
    refine WA_for (n := n) (fun c s => ∃ m, ∃ z : Int, c + m = n ∧ z = (n : Int) - 1 - m ∧ s = ⟨[(2, .ptr 0 0 0 2), (5, fI n), (6, .sl 2 0 0 n 1 n), (9, fI z)], solveH A π (bckI A n y m)⟩) ⟨0, _, rfl, rfl, ?_⟩ ?_
    · simp only [Int.natCast_zero, Int.sub_zero]; rfl
    rintro c s ⟨m, z, hc, hz, rfl⟩
    have hu := bckI_len A n y m
    generalize hU : bckI A n y m = u at hu
    simp -implicitDefEqProofs only [xC_skip, evS, evT, evU, hv, effC, reduceCtorEq, ↓reduceIte, Nat.reduceEqDiff, Nat.reduceAdd, Nat.reduceMul, Int.reduceToNat, Int.reduceAdd, Int.reduceSub, Int.reduceMul, Int.reduceNeg, Int.reduceLT, Int.reduceLE, Nat.reduceLT, Nat.reduceLeDiff, A_lin_Solve_L2, solveH]
    refine condC_intro (fun h2 => ?_) (fun h2 => ?_)
    · replace h2 := of_decide_eq_true h2
      obtain ⟨i, rfl⟩ : ∃ i : Nat, z = i := ⟨n - 1 - m, by omega⟩
      have hi : i < n := by omega
      simp -implicitDefEqProofs only [xC_skip, evS, evT, evU, hv, effC, reduceCtorEq, ↓reduceIte, Nat.reduceEqDiff, Nat.reduceAdd, Nat.reduceMul, Int.reduceToNat, Int.reduceAdd, Int.reduceSub, Int.reduceMul, Int.reduceNeg, Int.reduceLT, Int.reduceLE, Nat.reduceLT, Nat.reduceLeDiff]
      rw [wrapI (by omega) (by omega)]
      refine solve_L3 _ A π n i u ⟨hl, hr⟩ (by omega) hi hn _ fun v w => ?_
      have hbl := bJ_len A i u (n - 1 - i)
      have e1 : i < (bJ A i u (n - 1 - i)).length := by omega
      have g1 := hr i hi
      simp -implicitDefEqProofs only [xC_skip, evS, evT, evU, hv, effC, reduceCtorEq, ↓reduceIte, Nat.reduceEqDiff, Nat.reduceAdd, Nat.reduceMul, Int.reduceToNat, Int.reduceAdd, Int.reduceSub, Int.reduceMul, Int.reduceNeg, Int.reduceLT, Int.reduceLE, Nat.reduceLT, Nat.reduceLeDiff, solveH, getD_map_fl _ _ e1]
      (repeat (with_reducible refine And.intro (by omega) ?_))
      rw [wrapI (by omega) (by omega)]
      refine ⟨c - 1, by omega, m + 1, (i : Int) - 1, by omega, by omega, ?_⟩
      have e : n - 1 - m = i := by omega
      simp only [bckI, hU, bStep, e]; rfl
    · replace h2 := of_decide_eq_false h2
      simp -implicitDefEqProofs only [xC_skip, evS, evT, evU, hv, effC, reduceCtorEq, ↓reduceIte, Nat.reduceEqDiff, Nat.reduceAdd, Nat.reduceMul, Int.reduceToNat, Int.reduceAdd, Int.reduceSub, Int.reduceMul, Int.reduceNeg, Int.reduceLT, Int.reduceLE, Nat.reduceLT, Nat.reduceLeDiff]
      obtain rfl : n = m := by omega
      refine endsT_keep (fun _ h => h) (resV_tmpI (t := 4) (by decide) rfl) (by simp only [solveH, solveP, hY, hU]) (.sl (by simp [solveH, get_cons]) rfl) (keep_cells fun X q cells hX v hv' => ?_)
      simp only [solveH, get_cons, get_nil] at hX
      split at hX
      · rcases q with _ | q <;> simp at hX; subst hX; exact mem_rowV hv' _ _ _
      · split at hX
        · rcases q with _ | q <;> simp at hX; subst hX
          rcases List.mem_cons.1 hv' with rfl | hv'
          · exact .d (.d _)
          · rcases List.mem_cons.1 hv' with rfl | hv'
            · exact .d (.d _)
            · cases hv'
        · cases hX
theorem lin_Solve_con (A : List (List Nat)) (π : List Int) (b : List Nat) (n : Nat) (hA : Sq n A) (hπ : Pm n π) (hb : b.length = n) (hn : n < 2 ^ 40) :
    Con Try.prog 69 [.agg [.d (rowsD A), .d (rowI π)], .d (rowD b)] (.d (rowD (solveP A π b n))) :=
  Con_of_AC (lin_Solve_ac A π b n hA hπ hb hn) (.d (snap_row (fun Y q h => by simp [get_nil] at h) (by simp [solveH, get_cons]) (by simp [solveP, bckI_len, fwdI_len]) rfl))
theorem lin_Solve_row (A : List (List Nat)) (π : List Int) (b : List Nat) (n : Nat) (hA : Sq n A) (hπ : Pm n π) (hb : b.length = n) (hn : n < 2 ^ 40) :
    AC Try.prog 69 [.agg [.d (rowsD A), .d (rowI π)], .d (rowD b)] [] [(2, [rowV (solveP A π b n)])] (.sl 2 0 0 n 1 n) := by
  refine AC_le (lin_Solve_ac A π b n hA hπ hb hn) (Le.of_wk (fun X q => (X, q)) ⟨rfl, fun i hi => ?_, fun X q c hX => ?_, fun X r Y q _ _ e => by simpa using e, fun X r h => h.elim⟩)
  · obtain rfl : i = 0 := by simpa using hi
    exact .sl (by simp [get_cons]) rfl
  · rw [get_cons, get_nil] at hX
    split at hX
    · rename_i e; subst e
      rcases q with _ | q <;> simp at hX; subst hX
      refine ⟨_, by simp [solveH, get_cons], rfl, fun j hj => ?_⟩
      rw [List.getD_eq_getElem?_getD, List.getElem?_eq_getElem hj]
      exact mem_rowV (List.getElem_mem hj) _ _ _
    · cases hX
end Go.Ab
