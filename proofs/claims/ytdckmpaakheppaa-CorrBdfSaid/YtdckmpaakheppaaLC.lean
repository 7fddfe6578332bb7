/- lin: rows of its own, the greatest below, parting, solving. -/
import Derived.Test.YtdckmpaakheppaaLB
namespace Go.Ab
set_option linter.unusedSimpArgs false
set_option linter.unusedVariables false
open Go Go.Proofs
/-- Row by row, number by number. -/
def at2 (A : List (List Nat)) (i j : Nat) : Nat := (A.getD i []).getD j 0
def up2 (A : List (List Nat)) (i j v : Nat) : List (List Nat) := A.set i ((A.getD i []).set j v)
/-- n rows of n numbers. -/
def Sq (n : Nat) (A : List (List Nat)) : Prop := A.length = n ∧ ∀ i, i < n → (A.getD i []).length = n

def pvP (A : List (List Nat)) (k : Nat) : Nat → Nat
  | 0 => k
  | m + 1 => if fcmp .gt (fabs (at2 A (k + 1 + m) k)) (fabs (at2 A (pvP A k m) k)) = true then k + 1 + m else pvP A k m

theorem pvP_lt (A : List (List Nat)) (k : Nat) : ∀ m, k ≤ pvP A k m ∧ pvP A k m ≤ k + m := by
  intro m
  induction m with
  | zero => simp [pvP]
  | succ m ih => simp only [pvP]; split <;> omega

theorem lin_pivot_con (A : List (List Nat)) (n k : Nat) (hA : Sq n A) (hk : k < n) (hn : n < 2 ^ 60) : Con Try.prog 63 [.d (rowsD A), fI k] (fI (pvP A k (n - 1 - k))) := by
  obtain ⟨hl, hr⟩ := hA
  refine Con_introA A_lin_pivot_comp rfl mixed ?_
  simp -implicitDefEqProofs only [xC_skip, evS, evT, evU, hv, effC, reduceCtorEq, ↓reduceIte, Nat.reduceEqDiff, Nat.reduceAdd, Nat.reduceMul, Int.reduceToNat, Int.reduceAdd, Int.reduceSub, Int.reduceMul, Int.reduceNeg, Int.reduceLT, Int.reduceLE, Nat.reduceLT, Nat.reduceLeDiff, A_lin_pivot]
  rw [wrapI (by omega) (by omega)]
  refine WA_for (n := n) (fun c s => ∃ m, c + m = n ∧ k + 1 + m ≤ n ∧ s = ⟨[(0, .d (rowsD A)), (1, fI k), (5, fI (pvP A k m)), (6, fI (k + 1 + m : Nat))], []⟩) ⟨0, rfl, by omega, rfl⟩ ?_
  rintro c s ⟨m, hc, hm, rfl⟩
  have hp := pvP_lt A k m
  simp -implicitDefEqProofs only [xC_skip, evS, evT, evU, hv, effC, reduceCtorEq, ↓reduceIte, Nat.reduceEqDiff, Nat.reduceAdd, Nat.reduceMul, Int.reduceToNat, Int.reduceAdd, Int.reduceSub, Int.reduceMul, Int.reduceNeg, Int.reduceLT, Int.reduceLE, Nat.reduceLT, Nat.reduceLeDiff, A_lin_pivot_L0]
  refine condC_intro (fun h => ?_) (fun h => ?_)
  · replace h := of_decide_eq_true h
    have e1 := hr (k + 1 + m) (by omega)
    have e2 := hr (pvP A k m) (by omega)
    simp -implicitDefEqProofs only [xC_skip, evS, evT, evU, hv, effC, reduceCtorEq, ↓reduceIte, Nat.reduceEqDiff, Nat.reduceAdd, Nat.reduceMul, Int.reduceToNat, Int.reduceAdd, Int.reduceSub, Int.reduceMul, Int.reduceNeg, Int.reduceLT, Int.reduceLE, Nat.reduceLT, Nat.reduceLeDiff]
    (repeat (with_reducible refine And.intro (by omega) ?_))
    first | refine callG_con (math_Abs_con (at2 A (k + 1 + m) k)) rfl ?_ | refine callCG_con (math_Abs_con (at2 A (k + 1 + m) k)) rfl ?_ | refine callSG_con (math_Abs_con (at2 A (k + 1 + m) k)) rfl ?_
    simp -implicitDefEqProofs only [xC_skip, evS, evT, evU, hv, effC, reduceCtorEq, ↓reduceIte, Nat.reduceEqDiff, Nat.reduceAdd, Nat.reduceMul, Int.reduceToNat, Int.reduceAdd, Int.reduceSub, Int.reduceMul, Int.reduceNeg, Int.reduceLT, Int.reduceLE, Nat.reduceLT, Nat.reduceLeDiff]
    (repeat (with_reducible refine And.intro (by omega) ?_))
    first | refine callG_con (math_Abs_con (at2 A (pvP A k m) k)) rfl ?_ | refine callCG_con (math_Abs_con (at2 A (pvP A k m) k)) rfl ?_ | refine callSG_con (math_Abs_con (at2 A (pvP A k m) k)) rfl ?_
    simp -implicitDefEqProofs only [xC_skip, evS, evT, evU, hv, effC, reduceCtorEq, ↓reduceIte, Nat.reduceEqDiff, Nat.reduceAdd, Nat.reduceMul, Int.reduceToNat, Int.reduceAdd, Int.reduceSub, Int.reduceMul, Int.reduceNeg, Int.reduceLT, Int.reduceLE, Nat.reduceLT, Nat.reduceLeDiff]
    refine condC_intro (fun h2 => ?_) (fun h2 => ?_)
    · simp -implicitDefEqProofs only [xC_skip, evS, evT, evU, hv, effC, reduceCtorEq, ↓reduceIte, Nat.reduceEqDiff, Nat.reduceAdd, Nat.reduceMul, Int.reduceToNat, Int.reduceAdd, Int.reduceSub, Int.reduceMul, Int.reduceNeg, Int.reduceLT, Int.reduceLE, Nat.reduceLT, Nat.reduceLeDiff]
      rw [wrapI (by omega) (by omega)]
      refine ⟨c - 1, by omega, m + 1, by omega, by omega, ?_⟩
      simp only [pvP, h2, if_true]; rfl
    · simp -implicitDefEqProofs only [xC_skip, evS, evT, evU, hv, effC, reduceCtorEq, ↓reduceIte, Nat.reduceEqDiff, Nat.reduceAdd, Nat.reduceMul, Int.reduceToNat, Int.reduceAdd, Int.reduceSub, Int.reduceMul, Int.reduceNeg, Int.reduceLT, Int.reduceLE, Nat.reduceLT, Nat.reduceLeDiff]
      rw [wrapI (by omega) (by omega)]
      refine ⟨c - 1, by omega, m + 1, by omega, by omega, ?_⟩
      simp only [pvP, h2, if_false, Bool.false_eq_true]; rfl
  · replace h := of_decide_eq_false h
    simp -implicitDefEqProofs only [xC_skip, evS, evT, evU, hv, effC, reduceCtorEq, ↓reduceIte, Nat.reduceEqDiff, Nat.reduceAdd, Nat.reduceMul, Int.reduceToNat, Int.reduceAdd, Int.reduceSub, Int.reduceMul, Int.reduceNeg, Int.reduceLT, Int.reduceLE, Nat.reduceLT, Nat.reduceLeDiff]
    have : m = n - 1 - k := by omega
    subst this
    exact endsT_rett rfl (by decide) (by simp [look])
theorem lin_own_ac (A : List (List Nat)) (n : Nat) (hA : Sq n A) (hn : n < 2 ^ 40) :
    AC Try.prog 62 [.d (rowsD A)] [] [(100, A.map rowV), (2, [hd 100 n n n])] (.sl 2 0 0 n 1 n) := by
  obtain ⟨hl, hr⟩ := hA
  subst hl
  refine AC_introA A_lin_rows_float64_own_comp rfl mixed (fun _ => False) (by simp [get_nil]) ?_
  simp -implicitDefEqProofs only [xC_skip, evS, evT, evU, hv, effC, reduceCtorEq, ↓reduceIte, Nat.reduceEqDiff, Nat.reduceAdd, Nat.reduceMul, Int.reduceToNat, Int.reduceAdd, Int.reduceSub, Int.reduceMul, Int.reduceNeg, Int.reduceLT, Int.reduceLE, Nat.reduceLT, Nat.reduceLeDiff, A_lin_rows_float64_own]
  (repeat (with_reducible refine And.intro (by omega) ?_))
  refine WA_forW (n := A.length) (fun c s => ∃ i, c + i = A.length ∧ s = ⟨[(3, .sl 2 0 0 A.length 1 A.length), (9, .d (rowsD A)), (10, fI A.length), (11, fI i)], [(100, (A.take i).map rowV), (2, [hd 100 A.length i A.length])]⟩) (s0 := ⟨_, _⟩) ?_ ⟨0, rfl, rfl⟩ ?_
  · rw [hd_zero]
    exact LeT.empty (L1 := []) (by simp [fam_cons, fam_nil])
  rintro c s ⟨i, hc, rfl⟩
  simp -implicitDefEqProofs only [xC_skip, evS, evT, evU, hv, effC, reduceCtorEq, ↓reduceIte, Nat.reduceEqDiff, Nat.reduceAdd, Nat.reduceMul, Int.reduceToNat, Int.reduceAdd, Int.reduceSub, Int.reduceMul, Int.reduceNeg, Int.reduceLT, Int.reduceLE, Nat.reduceLT, Nat.reduceLeDiff, A_lin_rows_float64_own_L0]
  refine condC_intro (fun h => ?_) (fun h => ?_)
  · replace h := of_decide_eq_true h
    simp -implicitDefEqProofs only [xC_skip, evS, evT, evU, hv, effC, reduceCtorEq, ↓reduceIte, Nat.reduceEqDiff, Nat.reduceAdd, Nat.reduceMul, Int.reduceToNat, Int.reduceAdd, Int.reduceSub, Int.reduceMul, Int.reduceNeg, Int.reduceLT, Int.reduceLE, Nat.reduceLT, Nat.reduceLeDiff]
    (repeat (with_reducible refine And.intro (by omega) ?_))
    have e1 := hr i h
    simp -implicitDefEqProofs only [xC_skip, evS, evT, evU, hv, effC, reduceCtorEq, ↓reduceIte, Nat.reduceEqDiff, Nat.reduceAdd, Nat.reduceMul, Int.reduceToNat, Int.reduceAdd, Int.reduceSub, Int.reduceMul, Int.reduceNeg, Int.reduceLT, Int.reduceLE, Nat.reduceLT, Nat.reduceLeDiff, srcCells_row, srcLen_bor, hd_set_get _ _ _ _ _ h]
    (repeat (with_reducible refine And.intro (by omega) ?_))
    rw [splice_all _ _ (by simp), wrapI (by omega) (by omega)]
    refine ⟨c - 1, _, by omega, LeT.absorb (by decide) rfl rfl (fun h => h), i + 1, by omega, ?_⟩
    have e2 : ((A.take i).map rowV).length = i := by simp; omega
    rw [e2, ren_fam, List.take_of_length_le (l := rowV (A.getD i [])) (by simp), ren_rowV, take_fam A i h]
    simp only [renS, Heap.renH, ren_absF_sl _ _ _ _ _ _ _ _ _ (by decide : (2 : Nat) ≠ 105), ren_d, List.map_cons, List.map_nil, e1, hd_absorb 105 100 _ _ _ (by decide) h]
    rfl
  · replace h := of_decide_eq_false h
    obtain rfl : i = A.length := by omega
    simp -implicitDefEqProofs only [xC_skip, evS, evT, evU, hv, effC, reduceCtorEq, ↓reduceIte, Nat.reduceEqDiff, Nat.reduceAdd, Nat.reduceMul, Int.reduceToNat, Int.reduceAdd, Int.reduceSub, Int.reduceMul, Int.reduceNeg, Int.reduceLT, Int.reduceLE, Nat.reduceLT, Nat.reduceLeDiff]
    refine endsT_keep (fun _ h => h) (by simp only [ResV]; rw [resV_tmp (by decide)]; rfl) (by simp) (.sl (by simp [get_cons]) rfl) fun X q cells hX j hj => ?_
    rw [get_cons, get_cons, get_nil] at hX
    split at hX
    · rw [List.getElem?_map] at hX
      obtain ⟨xs, h1, rfl⟩ := Option.map_eq_some_iff.1 hX
      exact le_rowV _ _ _ _
    · split at hX
      · rcases q with _ | q
        · simp at hX; subst hX
          exact le_hd _ _ _ _ (fun r hr => by simp [get_cons, hr]) _
        · simp at hX
      · cases hX
theorem lin_own_fresh (A : List (List Nat)) (n : Nat) (hA : Sq n A) (hn : n < 2 ^ 40) :
    AC Try.prog 62 [.d (rowsD A)] [] [(0, hdo 0 1 n n :: A.map rowV)] (.sl 0 0 0 n 1 n) := by
  have hl := hA.1
  refine AC_le (lin_own_ac A n hA hn) (Le.ren (sl := [.sl 2 0 0 n 1 n]) (fun X r => if X = 100 then (0, r + 1) else (0, 0)) (fun _ r => if r = 0 then (2, 0) else (100, r - 1)) ?_ ?_ (fun _ _ h => h.elim))
  · intro X r c h
    rw [get_cons, get_cons, get_nil] at h
    split at h
    · rename_i e; subst e
      rw [List.getElem?_map] at h
      obtain ⟨xs, h1, rfl⟩ := Option.map_eq_some_iff.1 h
      simp [get_cons, h1, ren_rowV, V.ren]
    · split at h
      · rename_i e e2
        rcases r with _ | r
        · simp at h; subst h
          simp only [e, if_false, get_cons, if_true, List.getElem?_cons_zero]
          refine ⟨?_, by simp [e2]⟩
          rw [hd_ren _ 100 0 1 n n (fun j hj => by simp)]
        · simp at h
      · cases h
  · intro X r c h
    rw [get_cons, get_nil] at h
    split at h
    · rename_i e; subst e
      rcases r with _ | r
      · simp [get_cons]
      · simp only [List.getElem?_cons_succ, List.getElem?_map] at h
        obtain ⟨xs, h1, rfl⟩ := Option.map_eq_some_iff.1 h
        simp [get_cons, h1]
    · cases h
theorem famUp_own (nm n len : Nat) (A : List (List Nat)) : famUp nm (hdo 0 1 n len :: A.map rowV) = hdo nm 1 n len :: A.map rowV := by
  have := ren_fam (toF nm) A
  simp only [famUp, List.map_cons]
  rw [hdo_ren _ 0 1 n len nm 1 (fun j hj => rfl), this]
/-- Elimination: of row i below row k. -/
def elimJ (A : List (List Nat)) (i k : Nat) : Nat → List (List Nat)
  | 0 => A
  | m + 1 => up2 (elimJ A i k m) i (k + 1 + m) (fop .sub (at2 (elimJ A i k m) i (k + 1 + m)) (fop .mul (at2 (elimJ A i k m) i k) (at2 (elimJ A i k m) k (k + 1 + m))))
def elimRow (A : List (List Nat)) (n i k : Nat) : List (List Nat) := elimJ (up2 A i k (fop .div (at2 A i k) (at2 A k k))) i k (n - 1 - k)
def elimI (A : List (List Nat)) (n k : Nat) : Nat → List (List Nat)
  | 0 => A
  | m + 1 => elimRow (elimI A n k m) n (k + 1 + m) k
def swapL {α : Type} (d : α) (l : List α) (i j : Nat) : List α := (l.set i (l.getD j d)).set j (l.getD i d)
def stepP (n k : Nat) (s : List (List Nat) × List Int) : Option (List (List Nat) × List Int) :=
  let p := pvP s.1 k (n - 1 - k)
  if fcmp .eq (at2 s.1 p k) 0 = true ∨ finite (at2 s.1 p k) = false then none
  else some (elimI (swapL [] s.1 k p) n k (n - 1 - k), swapL 0 s.2 k p)
def partP (A : List (List Nat)) (n : Nat) : Nat → Option (List (List Nat) × List Int)
  | 0 => some (A, (List.range n).map fun (i : Nat) => (i : Int))
  | m + 1 => (partP A n m).bind (stepP n m)
def permV (i : Nat) (n : Nat) : List Int := (List.range n).map fun (j : Nat) => if j < i then (j : Int) else 0
/-- The rows that Part works at. -/
def partH (B : List (List Nat)) (π : List Int) (n : Nat) : Heap :=
  [(7, [[.sl 2 0 0 n 1 n, .sl 5 0 0 n 1 n]]), (5, [rowIV π]), (2, hdo 2 1 n n :: B.map rowV), (0, [[.nil, .nil]])]
theorem permV_set (i n : Nat) (h : i < n) : (permV i n).set i (i : Int) = permV (i + 1) n := by
  refine List.ext_getElem? fun j => ?_
  simp only [permV, List.getElem?_set, List.length_map, List.length_range, List.getElem?_map]
  by_cases h1 : i = j
  · subst h1; simp [h]
  · by_cases h2 : j < n
    · have h3 : (List.range n)[j]? = some j := by simp [h2]
      rw [h3, if_neg h1]
      simp only [Option.map_some]
      by_cases h4 : j < i
      · rw [if_pos h4, if_pos (by omega)]
      · rw [if_neg h4, if_neg (by omega)]
    · have h3 : (List.range n)[j]? = none := by simp; omega
      rw [h3, if_neg h1]; rfl
theorem permV_all (n : Nat) : permV n n = (List.range n).map fun (j : Nat) => (j : Int) := by
  refine List.map_congr_left fun j hj => ?_
  rw [if_pos (by simpa using hj)]
theorem permV_zero (n : Nat) : List.replicate n 0 = permV 0 n := by
  refine List.ext_getElem? fun j => ?_
  by_cases h : j < n <;> simp [permV, h]
theorem permV_len (i n : Nat) : (permV i n).length = n := by simp [permV]
theorem elimJ_sq (A : List (List Nat)) (n i k : Nat) (hA : Sq n A) : ∀ m, Sq n (elimJ A i k m) := by
  have up : ∀ (B : List (List Nat)) (i j v : Nat), Sq n B → Sq n (up2 B i j v) := by
    intro B i j v hB
    refine ⟨by simp [up2, hB.1], fun r hr => ?_⟩
    have := hB.2 r hr
    simp only [up2, List.getD_eq_getElem?_getD, List.getElem?_set]
    by_cases e : i = r
    · subst e
      rw [if_pos rfl]
      split
      · simpa [List.getD_eq_getElem?_getD] using this
      · rename_i h; exact absurd (hB.1 ▸ hr) h
    · rw [if_neg e]; simpa [List.getD_eq_getElem?_getD] using this
  intro m
  induction m with
  | zero => exact hA
  | succ m ih => exact up _ _ _ _ ih
theorem up2_sq (B : List (List Nat)) (n i j v : Nat) (hB : Sq n B) : Sq n (up2 B i j v) := by
  have := elimJ_sq B n i j hB 0
  refine ⟨by simp [up2, hB.1], fun r hr => ?_⟩
  have := hB.2 r hr
  simp only [up2, List.getD_eq_getElem?_getD, List.getElem?_set]
  by_cases e : i = r
  · subst e
    rw [if_pos rfl]
    split
    · simpa [List.getD_eq_getElem?_getD] using this
    · rename_i h; exact absurd (hB.1 ▸ hr) h
  · rw [if_neg e]; simpa [List.getD_eq_getElem?_getD] using this
theorem elimI_sq (A : List (List Nat)) (n k : Nat) (hA : Sq n A) : ∀ m, Sq n (elimI A n k m) := by
  intro m
  induction m with
  | zero => exact hA
  | succ m ih => exact elimJ_sq _ _ _ _ (up2_sq _ _ _ _ _ ih) _
theorem swapL_sq (A : List (List Nat)) (n i j : Nat) (hA : Sq n A) (hi : i < n) (hj : j < n) : Sq n (swapL [] A i j) := by
  refine ⟨by simp [swapL, hA.1], fun r hr => ?_⟩
  have h1 := hA.2 i hi
  have h2 := hA.2 j hj
  have h3 := hA.2 r hr
  have hl := hA.1
  simp only [List.getD_eq_getElem?_getD] at h1 h2 h3
  simp only [swapL, List.getD_eq_getElem?_getD, List.getElem?_set, List.length_set]
  by_cases e : j = r
  · subst e; simp [hl, hj]; simpa using h1
  · rw [if_neg e]
    by_cases e2 : i = r
    · subst e2; simp [hl, hi]; simpa using h2
    · rw [if_neg e2]; exact h3
theorem partP_sq (A : List (List Nat)) (n : Nat) (hA : Sq n A) : ∀ m, m ≤ n → ∀ B π, partP A n m = some (B, π) → Sq n B ∧ π.length = n := by
  intro m
  induction m with
  | zero => intro _ B π h; simp only [partP, Option.some.injEq, Prod.mk.injEq] at h; obtain ⟨rfl, rfl⟩ := h; exact ⟨hA, by simp⟩
  | succ m ih =>
    intro hm B π h
    simp only [partP, Option.bind_eq_some_iff] at h
    obtain ⟨⟨C, σ⟩, h1, h2⟩ := h
    obtain ⟨h3, h4⟩ := ih (by omega) C σ h1
    simp only [stepP] at h2
    split at h2
    · cases h2
    · simp only [Option.some.injEq, Prod.mk.injEq] at h2
      obtain ⟨rfl, rfl⟩ := h2
      have := pvP_lt C m (n - 1 - m)
      exact ⟨elimI_sq _ _ _ (swapL_sq _ _ _ _ h3 (by omega) (by omega)) _, by simp [swapL, h4]⟩
theorem partP_none (A : List (List Nat)) (n m : Nat) (h : partP A n m = none) : ∀ d, partP A n (m + d) = none := by
  intro d
  induction d with
  | zero => exact h
  | succ d ih => show (partP A n (m + d)).bind _ = none; rw [ih]; rfl
theorem hdo_swap (X n len k p : Nat) (hk : k < n) (hp : p < n) :
    (((hdo X 1 n len).set k (.sl X (p + 1) 0 len 1 len)).set p (.sl X (k + 1) 0 len 1 len)).map (V.ren (swF X (k + 1) (p + 1))) = hdo X 1 n len := by
  refine List.ext_getElem? fun j => ?_
  simp only [List.getElem?_map, List.getElem?_set, List.length_set, hdo_length]
  have hj : ∀ j, j < n → (hdo X 1 n len)[j]? = some (.sl X (j + 1) 0 len 1 len) := fun j hj => by simp [hdo, hj]
  by_cases h1 : p = j
  · subst h1
    rw [if_pos rfl, if_pos hp, hj p hp]
    simp [V.ren, swF]
  · rw [if_neg h1]
    by_cases h2 : k = j
    · subst h2
      rw [if_pos rfl, if_pos hk, hj k hk]
      have : ¬ p = k := h1
      simp [V.ren, swF, this]
    · rw [if_neg h2]
      by_cases h3 : j < n
      · rw [hj j h3]
        have a : ¬ j = k := fun e => h2 e.symm
        have b : ¬ j = p := fun e => h1 e.symm
        simp [V.ren, swF, a, b]
      · have : (hdo X 1 n len)[j]? = none := by simp [hdo]; omega
        rw [this]; rfl
theorem part_swap (N : Nat → Prop) (hN : ∀ Y, ¬ N Y) (nt n k p : Nat) (B : List (List Nat)) (π : List Int) (sls : Sl) (hl : B.length = n) (hk : k < n) (hp : p < n) (has : renS (swF 2 (k + 1) (p + 1)) sls = sls) :
    Le N (T.s nt ⟨sls, [(7, [[.sl 2 0 0 n 1 n, .sl 5 0 0 n 1 n]]), (5, [rowIV π]), (2, ((hdo 2 1 n n).set k (.sl 2 (p + 1) 0 n 1 n)).set p (.sl 2 (k + 1) 0 n 1 n) :: B.map rowV), (0, [[.nil, .nil]])]⟩)
      (T.s nt ⟨sls, partH (swapL [] B k p) π n⟩) := by
  have : Le N (T.s nt ⟨sls, [(7, [[.sl 2 0 0 n 1 n, .sl 5 0 0 n 1 n]]), (5, [rowIV π]), (2, ((hdo 2 1 n n).set k (.sl 2 (p + 1) 0 n 1 n)).set p (.sl 2 (k + 1) 0 n 1 n) :: B.map rowV), (0, [[.nil, .nil]])]⟩) _ :=
    LeT.swap (X := 2) (a := k + 1) (b := p + 1)
      (fam := ((hdo 2 1 n n).set k (.sl 2 (p + 1) 0 n 1 n)).set p (.sl 2 (k + 1) 0 n 1 n) :: B.map rowV) (ca := rowV (B.getD k [])) (cb := rowV (B.getD p []))
      (by simp [fam_cons]) (by rw [List.getElem?_cons_succ]; exact getE B k (by omega)) (by rw [List.getElem?_cons_succ]; exact getE B p (by omega)) hN
  rw [has] at this
  refine (Eq.subst (motive := fun H => Le N _ (T.s nt ⟨sls, H⟩)) ?_ this)
  have e := hdo_swap 2 n n k p hk hp
  simp only [setFam, Heap.renH, List.map_cons, List.map_nil, List.set_cons_succ, setE, partH, swapL, ren_rowIV, ren_fam, Nat.reduceEqDiff, ↓reduceIte, e]
  simp [V.ren, swF]
set_option maxRecDepth 8000 in
theorem part_L3 (N : Nat → Prop) (hN : ∀ Y, ¬ N Y) (n k i : Nat) (D : List (List Nat)) (σ : List Int) (hn : n < 2 ^ 40) (hD : Sq n D) (hk : k < i) (hi : i < n) (Q : Ex → T → Prop)
    (hQ : ∀ v w, Q (.exit 6) ⟨[(2, .ptr 0 0 0 2), (4, .ptr 7 0 0 2), (6, fI k), (9, fI i), (10, v), (31, fI n), (32, fI k), (130, w)], partH (elimJ D i k (n - 1 - k)) σ n⟩) :
    WA Try.prog N 168 (.loop A_lin_Part_L3) Q ⟨[(2, .ptr 0 0 0 2), (4, .ptr 7 0 0 2), (6, fI k), (9, fI i), (10, fI (k + 1 : Nat)), (31, fI n), (32, fI k)], partH D σ n⟩ := by
  refine WA_for (n := n) (fun c3 s => ∃ q, c3 + q = n ∧ k + 1 + q ≤ n ∧ s = ⟨[(2, .ptr 0 0 0 2), (4, .ptr 7 0 0 2), (6, fI k), (9, fI i), (10, fI (k + 1 + q : Nat)), (31, fI n), (32, fI k)],
    partH (elimJ D i k q) σ n⟩) ⟨0, rfl, by omega, rfl⟩ ?_
  rintro c3 s ⟨q, hc3, hq, rfl⟩
  obtain ⟨hEl, hEr⟩ := elimJ_sq _ n i k hD q
  generalize hE : elimJ D i k q = E at hEl hEr
  simp -implicitDefEqProofs only [xC_skip, evS, evT, evU, hv, effC, reduceCtorEq, ↓reduceIte, Nat.reduceEqDiff, Nat.reduceAdd, Nat.reduceMul, Int.reduceToNat, Int.reduceAdd, Int.reduceSub, Int.reduceMul, Int.reduceNeg, Int.reduceLT, Int.reduceLE, Nat.reduceLT, Nat.reduceLeDiff, A_lin_Part_L3, partH]
  refine condC_intro (fun h6 => ?_) (fun h6 => ?_)
  · replace h6 := of_decide_eq_true h6
    have hj : k + 1 + q < n := by omega
    have hkn : k < n := by omega
    have g1 := hEr i hi
    have g2 := hEr k hkn
    have e7 : k + 1 + q < (E.getD i []).length := by omega
    have e8 : k + 1 + q < (E.getD k []).length := by omega
    have e9 : k < (E.getD i []).length := by omega
    have hEk : k < E.length := by omega
    have hEi : i < E.length := by omega
    simp -implicitDefEqProofs only [xC_skip, evS, evT, evU, hv, effC, reduceCtorEq, ↓reduceIte, Nat.reduceEqDiff, Nat.reduceAdd, Nat.reduceMul, Int.reduceToNat, Int.reduceAdd, Int.reduceSub, Int.reduceMul, Int.reduceNeg, Int.reduceLT, Int.reduceLE, Nat.reduceLT, Nat.reduceLeDiff, hdo_getD _ _ _ _ _ hi, hdo_getD _ _ _ _ _ hkn, getE E _ hEk, getE E _ hEi, getD_map_fl _ _ e7, getD_map_fl _ _ e8, getD_map_fl _ _ e9, setE]
    (repeat (with_reducible refine And.intro (by omega) ?_))
    rw [wrapI (by omega) (by omega)]
    refine ⟨c3 - 1, by omega, q + 1, by omega, by omega, ?_⟩
    simp only [elimJ, hE]
    rfl
  · replace h6 := of_decide_eq_false h6
    simp -implicitDefEqProofs only [xC_skip, evS, evT, evU, hv, effC, reduceCtorEq, ↓reduceIte, Nat.reduceEqDiff, Nat.reduceAdd, Nat.reduceMul, Int.reduceToNat, Int.reduceAdd, Int.reduceSub, Int.reduceMul, Int.reduceNeg, Int.reduceLT, Int.reduceLE, Nat.reduceLT, Nat.reduceLeDiff]
    have : n - 1 - k = q := by omega
    subst this
    rw [hE] at hQ
    exact hQ _ _
set_option maxRecDepth 8000 in
theorem part_L2 (N : Nat → Prop) (hN : ∀ Y, ¬ N Y) (n k : Nat) (C : List (List Nat)) (σ : List Int) (hn : n < 2 ^ 40) (hC : Sq n C) (hk : k < n) (Q : Ex → T → Prop)
    (hQ : ∀ v w, Q (.exit 4) ⟨[(2, .ptr 0 0 0 2), (4, .ptr 7 0 0 2), (6, fI k), (9, v), (31, fI n), (32, fI k), (97, w)], partH (elimI C n k (n - 1 - k)) σ n⟩) :
    WA Try.prog N 168 (.loop A_lin_Part_L2) Q ⟨[(2, .ptr 0 0 0 2), (4, .ptr 7 0 0 2), (6, fI k), (9, fI (k + 1 : Nat)), (31, fI n), (32, fI k)], partH C σ n⟩ := by
  refine WA_for (n := n) (fun c2 s => ∃ m, c2 + m = n ∧ k + 1 + m ≤ n ∧ s = ⟨[(2, .ptr 0 0 0 2), (4, .ptr 7 0 0 2), (6, fI k), (9, fI (k + 1 + m : Nat)), (31, fI n), (32, fI k)], partH (elimI C n k m) σ n⟩) ⟨0, rfl, by omega, rfl⟩ ?_
  rintro c2 s ⟨m, hc2, hm, rfl⟩
  have hDs := elimI_sq C n k hC m
  have ⟨hDl, hDr⟩ := hDs
  generalize hD : elimI C n k m = D at hDs hDl hDr
  simp -implicitDefEqProofs only [xC_skip, evS, evT, evU, hv, effC, reduceCtorEq, ↓reduceIte, Nat.reduceEqDiff, Nat.reduceAdd, Nat.reduceMul, Int.reduceToNat, Int.reduceAdd, Int.reduceSub, Int.reduceMul, Int.reduceNeg, Int.reduceLT, Int.reduceLE, Nat.reduceLT, Nat.reduceLeDiff, A_lin_Part_L2, partH]
  refine condC_intro (fun h5 => ?_) (fun h5 => ?_)
  · replace h5 := of_decide_eq_true h5
    have hi : k + 1 + m < n := by omega
    have f1 := hDr (k + 1 + m) hi
    have f2 := hDr k hk
    have e5 : k < (D.getD k []).length := by omega
    have e6 : k < (D.getD (k + 1 + m) []).length := by omega
    have hDk : k < D.length := by omega
    have hDi : k + 1 + m < D.length := by omega
    simp -implicitDefEqProofs only [xC_skip, evS, evT, evU, hv, effC, reduceCtorEq, ↓reduceIte, Nat.reduceEqDiff, Nat.reduceAdd, Nat.reduceMul, Int.reduceToNat, Int.reduceAdd, Int.reduceSub, Int.reduceMul, Int.reduceNeg, Int.reduceLT, Int.reduceLE, Nat.reduceLT, Nat.reduceLeDiff, hdo_getD _ _ _ _ _ hi, hdo_getD _ _ _ _ _ hk, getE D _ hDk, getE D _ hDi, getD_map_fl _ _ e5, getD_map_fl _ _ e6, setE]
    (repeat (with_reducible refine And.intro (by omega) ?_))
    rw [wrapI (by omega) (by omega)]
    refine part_L3 N hN n k (k + 1 + m) (up2 D (k + 1 + m) k (fop .div (at2 D (k + 1 + m) k) (at2 D k k))) σ hn (up2_sq D n _ k _ hDs) (by omega) hi _ fun v w => ?_
    simp -implicitDefEqProofs only [xC_skip, evS, evT, evU, hv, effC, reduceCtorEq, ↓reduceIte, Nat.reduceEqDiff, Nat.reduceAdd, Nat.reduceMul, Int.reduceToNat, Int.reduceAdd, Int.reduceSub, Int.reduceMul, Int.reduceNeg, Int.reduceLT, Int.reduceLE, Nat.reduceLT, Nat.reduceLeDiff]
    rw [wrapI (by omega) (by omega)]
    refine ⟨c2 - 1, by omega, m + 1, by omega, by omega, ?_⟩
    simp only [elimI, elimRow, hD]
    rfl
  · replace h5 := of_decide_eq_false h5
    simp -implicitDefEqProofs only [xC_skip, evS, evT, evU, hv, effC, reduceCtorEq, ↓reduceIte, Nat.reduceEqDiff, Nat.reduceAdd, Nat.reduceMul, Int.reduceToNat, Int.reduceAdd, Int.reduceSub, Int.reduceMul, Int.reduceNeg, Int.reduceLT, Int.reduceLE, Nat.reduceLT, Nat.reduceLeDiff]
    have : n - 1 - k = m := by omega
    subst this
    rw [hD] at hQ
    exact hQ _ _
set_option maxRecDepth 8000 in
set_option maxHeartbeats 1000000 in
theorem part_L1 (N : Nat → Prop) (hN : ∀ Y, ¬ N Y) (n : Nat) (A : List (List Nat)) (hA : Sq n A) (hn : n < 2 ^ 40) (Q : Ex → T → Prop)
    (h1 : ∀ B π v w, partP A n n = some (B, π) → Sq n B → π.length = n → Q (.exit 2) ⟨[(2, .ptr 0 0 0 2), (4, .ptr 7 0 0 2), (31, fI n), (32, v), (33, w)], partH B π n⟩)
    (h2 : ∀ s : T, partP A n n = none → s.sl = [(2, .ptr 0 0 0 2), (3, fB false)] → s.L.get 0 0 = some [.nil, .nil] → Q .ret s) :
    WA Try.prog N 168 (.loop A_lin_Part_L1) Q ⟨[(2, .ptr 0 0 0 2), (4, .ptr 7 0 0 2), (31, fI n), (32, fI 0)], partH A ((List.range n).map fun (j : Nat) => (j : Int)) n⟩ := by
  have hr := hA.2
  have hn' := hA.1
  refine WA_forW (n := n) (fun c s => ∃ k B π, c + k = n ∧ partP A n k = some (B, π) ∧ s = ⟨[(2, .ptr 0 0 0 2), (4, .ptr 7 0 0 2), (31, fI n), (32, fI k)], partH B π n⟩) (s0 := ⟨_, _⟩) (.refl _) ⟨0, A, _, rfl, rfl, rfl⟩ ?_
  rintro c s ⟨k, B, π, hc, hp, rfl⟩
  obtain ⟨⟨hBl, hBr⟩, hπ⟩ := partP_sq A n ⟨hn', hr⟩ k (by omega) B π hp
  simp -implicitDefEqProofs only [xC_skip, evS, evT, evU, hv, effC, reduceCtorEq, ↓reduceIte, Nat.reduceEqDiff, Nat.reduceAdd, Nat.reduceMul, Int.reduceToNat, Int.reduceAdd, Int.reduceSub, Int.reduceMul, Int.reduceNeg, Int.reduceLT, Int.reduceLE, Nat.reduceLT, Nat.reduceLeDiff, A_lin_Part_L1, partH]
  refine condC_intro (fun h => ?_) (fun h => ?_)
  · replace h := of_decide_eq_true h
    simp -implicitDefEqProofs only [xC_skip, evS, evT, evU, hv, effC, reduceCtorEq, ↓reduceIte, Nat.reduceEqDiff, Nat.reduceAdd, Nat.reduceMul, Int.reduceToNat, Int.reduceAdd, Int.reduceSub, Int.reduceMul, Int.reduceNeg, Int.reduceLT, Int.reduceLE, Nat.reduceLT, Nat.reduceLeDiff]
    (repeat (with_reducible refine And.intro (by omega) ?_))
    have hpv := pvP_lt B k (n - 1 - k)
    generalize hpp : pvP B k (n - 1 - k) = p at hpv
    have e1 := hBr p (by omega)
    refine callG_snap (us := [.d (rowsD B), fI k]) (lin_pivot_con B n k ⟨hBl, hBr⟩ h (by omega)) rfl ?_ (.int _ _) ?_
    · intro j hj
      rcases j with _ | _ | j
      · exact snp_rows (X := 2) (o := 1) (by simp [get_cons]) (fun r hr => ⟨by simp [get_cons, getE B r (by omega)], hBr r hr⟩) hBl rfl
      · exact .d _
      · simp at hj; omega
    rw [hpp]
    have hpn : p < n := by omega
    have e2 : k < (B.getD p []).length := by omega
    simp -implicitDefEqProofs only [xC_skip, evS, evT, evU, hv, effC, reduceCtorEq, ↓reduceIte, Nat.reduceEqDiff, Nat.reduceAdd, Nat.reduceMul, Int.reduceToNat, Int.reduceAdd, Int.reduceSub, Int.reduceMul, Int.reduceNeg, Int.reduceLT, Int.reduceLE, Nat.reduceLT, Nat.reduceLeDiff, hdo_getD _ _ _ _ _ hpn, getE B p (by omega), getD_map_fl _ _ e2]
    (repeat (with_reducible refine And.intro (by omega) ?_))
    have none_of : (fcmp .eq (at2 B p k) 0 = true ∨ finite (at2 B p k) = false) → partP A n n = none := by
      intro hd
      have e : partP A n (k + 1) = none := by
        simp only [partP, hp, Option.bind_some, stepP, hpp]
        rw [if_pos hd]
      have := partP_none A n (k + 1) e (n - (k + 1))
      rwa [show k + 1 + (n - (k + 1)) = n from by omega] at this
    cases hz : fcmp .eq ((B.getD p []).getD k 0) 0
    case true =>
      simp -implicitDefEqProofs only [xC_skip, evS, evT, evU, hv, effC, reduceCtorEq, ↓reduceIte, Nat.reduceEqDiff, Nat.reduceAdd, Nat.reduceMul, Int.reduceToNat, Int.reduceAdd, Int.reduceSub, Int.reduceMul, Int.reduceNeg, Int.reduceLT, Int.reduceLE, Nat.reduceLT, Nat.reduceLeDiff]
      exact h2 _ (none_of (.inl hz)) rfl (by simp [get_cons])
    case false =>
      simp -implicitDefEqProofs only [xC_skip, evS, evT, evU, hv, effC, reduceCtorEq, ↓reduceIte, Nat.reduceEqDiff, Nat.reduceAdd, Nat.reduceMul, Int.reduceToNat, Int.reduceAdd, Int.reduceSub, Int.reduceMul, Int.reduceNeg, Int.reduceLT, Int.reduceLE, Nat.reduceLT, Nat.reduceLeDiff]
      first | refine callG_con (fp_Finite_con (at2 B p k)) rfl ?_ | refine callCG_con (fp_Finite_con (at2 B p k)) rfl ?_ | refine callSG_con (fp_Finite_con (at2 B p k)) rfl ?_
      simp -implicitDefEqProofs only [xC_skip, evS, evT, evU, hv, effC, reduceCtorEq, ↓reduceIte, Nat.reduceEqDiff, Nat.reduceAdd, Nat.reduceMul, Int.reduceToNat, Int.reduceAdd, Int.reduceSub, Int.reduceMul, Int.reduceNeg, Int.reduceLT, Int.reduceLE, Nat.reduceLT, Nat.reduceLeDiff]
      cases hf : finite (at2 B p k)
      · simp -implicitDefEqProofs only [xC_skip, evS, evT, evU, hv, effC, reduceCtorEq, ↓reduceIte, Nat.reduceEqDiff, Nat.reduceAdd, Nat.reduceMul, Int.reduceToNat, Int.reduceAdd, Int.reduceSub, Int.reduceMul, Int.reduceNeg, Int.reduceLT, Int.reduceLE, Nat.reduceLT, Nat.reduceLeDiff]
        exact h2 _ (none_of (.inr hf)) rfl (by simp [get_cons])
      · have e3 : k < π.length := by omega
        have e4 : p < π.length := by omega
        simp -implicitDefEqProofs only [xC_skip, evS, evT, evU, hv, effC, reduceCtorEq, ↓reduceIte, Nat.reduceEqDiff, Nat.reduceAdd, Nat.reduceMul, Int.reduceToNat, Int.reduceAdd, Int.reduceSub, Int.reduceMul, Int.reduceNeg, Int.reduceLT, Int.reduceLE, Nat.reduceLT, Nat.reduceLeDiff, hdo_getD _ _ _ _ _ hpn, hdo_getD _ _ _ _ _ h, getD_rowIV _ _ e3, getD_rowIV _ _ e4]
        (repeat (with_reducible refine And.intro (by omega) ?_))
        generalize hσ : swapL 0 π k p = σ
        have hσ' : (π.set k (π.getD p 0)).set p (π.getD k 0) = σ := hσ
        rw [hσ', wrapI (by omega) (by omega)]
        have hσl : σ.length = n := by rw [← hσ]; simp [swapL, hπ]
        have hCs := swapL_sq B n k p ⟨hBl, hBr⟩ h hpn
        have hstep : partP A n (k + 1) = some (elimI (swapL [] B k p) n k (n - 1 - k), σ) := by
          simp only [partP, hp, Option.bind_some, stepP, hpp, hσ]
          rw [if_neg]
          rintro (e | e)
          · exact absurd (hz.symm.trans e) (by simp)
          · exact absurd (hf.symm.trans e) (by simp)
        refine WA_le (part_swap N hN 168 n k p B σ _ hBl h hpn (by simp [renS, V.ren, swF])) ?_
        generalize swapL [] B k p = C at hCs hstep
        refine part_L2 N hN n k C σ hn hCs h _ fun v w => ?_
        simp -implicitDefEqProofs only [xC_skip, evS, evT, evU, hv, effC, reduceCtorEq, ↓reduceIte, Nat.reduceEqDiff, Nat.reduceAdd, Nat.reduceMul, Int.reduceToNat, Int.reduceAdd, Int.reduceSub, Int.reduceMul, Int.reduceNeg, Int.reduceLT, Int.reduceLE, Nat.reduceLT, Nat.reduceLeDiff]
        rw [wrapI (by omega) (by omega)]
        exact ⟨c - 1, _, by omega, .refl _, k + 1, _, σ, by omega, hstep, rfl⟩
  · replace h := of_decide_eq_false h
    obtain rfl : n = k := by omega
    simp -implicitDefEqProofs only [xC_skip, evS, evT, evU, hv, effC, reduceCtorEq, ↓reduceIte, Nat.reduceEqDiff, Nat.reduceAdd, Nat.reduceMul, Int.reduceToNat, Int.reduceAdd, Int.reduceSub, Int.reduceMul, Int.reduceNeg, Int.reduceLT, Int.reduceLE, Nat.reduceLT, Nat.reduceLeDiff]
    exact h1 B π _ _ hp ⟨hBl, hBr⟩ hπ
set_option maxRecDepth 8000 in
theorem lin_Part_walk (A : List (List Nat)) (n : Nat) (hA : Sq n A) (hn : n < 2 ^ 40) (Q : Ex → T → Prop)
    (h1 : ∀ B π, partP A n n = some (B, π) → Sq n B → π.length = n → Q .ret ⟨[(2, .ptr 0 0 0 2), (3, fB true)], [(7, [[.sl 2 0 0 n 1 n, .sl 5 0 0 n 1 n]]), (5, [rowIV π]), (2, hdo 2 1 n n :: B.map rowV), (0, [[.sl 2 0 0 n 1 n, .sl 5 0 0 n 1 n]])]⟩)
    (h2 : ∀ s : T, partP A n n = none → s.sl = [(2, .ptr 0 0 0 2), (3, fB false)] → s.L.get 0 0 = some [.nil, .nil] → Q .ret s) :
    xC Try.prog (fun _ => False) 168 A_lin_Part Q ⟨argSl 0 [.d (rowsD A)], []⟩ := by
  obtain ⟨hl, hr⟩ := hA
  subst hl
  generalize hn' : A.length = n at *
  simp -implicitDefEqProofs only [xC_skip, evS, evT, evU, hv, effC, reduceCtorEq, ↓reduceIte, Nat.reduceEqDiff, Nat.reduceAdd, Nat.reduceMul, Int.reduceToNat, Int.reduceAdd, Int.reduceSub, Int.reduceMul, Int.reduceNeg, Int.reduceLT, Int.reduceLE, Nat.reduceLT, Nat.reduceLeDiff, A_lin_Part]
  refine callSG_fresh (lin_own_fresh A n ⟨hn', hr⟩ hn) rfl rfl ?_
  rw [famUp_own]
  simp -implicitDefEqProofs only [xC_skip, evS, evT, evU, hv, effC, reduceCtorEq, ↓reduceIte, Nat.reduceEqDiff, Nat.reduceAdd, Nat.reduceMul, Int.reduceToNat, Int.reduceAdd, Int.reduceSub, Int.reduceMul, Int.reduceNeg, Int.reduceLT, Int.reduceLE, Nat.reduceLT, Nat.reduceLeDiff, V.ren, toF, hn']
  (repeat (with_reducible refine And.intro (by omega) ?_))
  refine WA_forW (n := n) (fun c s => ∃ i, c + i = n ∧ s = ⟨[(2, .ptr 0 0 0 2), (4, .ptr 7 0 0 2), (19, fI n), (20, fI i)], partH A (permV i n) n⟩) (s0 := ⟨_, _⟩) (.refl _) ⟨0, rfl, ?_⟩ ?_
  · simp only [partH, permV_zero]; rfl
  · rintro c s ⟨i, hc, rfl⟩
    simp -implicitDefEqProofs only [xC_skip, evS, evT, evU, hv, effC, reduceCtorEq, ↓reduceIte, Nat.reduceEqDiff, Nat.reduceAdd, Nat.reduceMul, Int.reduceToNat, Int.reduceAdd, Int.reduceSub, Int.reduceMul, Int.reduceNeg, Int.reduceLT, Int.reduceLE, Nat.reduceLT, Nat.reduceLeDiff, A_lin_Part_L0, partH]
    refine condC_intro (fun h => ?_) (fun h => ?_)
    · replace h := of_decide_eq_true h
      simp -implicitDefEqProofs only [xC_skip, evS, evT, evU, hv, effC, reduceCtorEq, ↓reduceIte, Nat.reduceEqDiff, Nat.reduceAdd, Nat.reduceMul, Int.reduceToNat, Int.reduceAdd, Int.reduceSub, Int.reduceMul, Int.reduceNeg, Int.reduceLT, Int.reduceLE, Nat.reduceLT, Nat.reduceLeDiff]
      have hpl := permV_len i n
      (repeat (with_reducible refine And.intro (by omega) ?_))
      rw [wrapI (by omega) (by omega)]
      refine ⟨c - 1, _, by omega, .refl _, i + 1, by omega, ?_⟩
      rw [permV_set i n h]; rfl
    · replace h := of_decide_eq_false h
      obtain rfl : n = i := by omega
      simp -implicitDefEqProofs only [xC_skip, evS, evT, evU, hv, effC, reduceCtorEq, ↓reduceIte, Nat.reduceEqDiff, Nat.reduceAdd, Nat.reduceMul, Int.reduceToNat, Int.reduceAdd, Int.reduceSub, Int.reduceMul, Int.reduceNeg, Int.reduceLT, Int.reduceLE, Nat.reduceLT, Nat.reduceLeDiff]
      rw [permV_all]
      refine part_L1 _ (fun _ h => h) n A ⟨hn', hr⟩ hn _ (fun B π v w hp hB hπ => ?_) (fun s hs e1 e2 => ?_)
      · simp -implicitDefEqProofs only [xC_skip, evS, evT, evU, hv, effC, reduceCtorEq, ↓reduceIte, Nat.reduceEqDiff, Nat.reduceAdd, Nat.reduceMul, Int.reduceToNat, Int.reduceAdd, Int.reduceSub, Int.reduceMul, Int.reduceNeg, Int.reduceLT, Int.reduceLE, Nat.reduceLT, Nat.reduceLeDiff, partH]
        exact h1 B π hp hB hπ
      · simp -implicitDefEqProofs only [xC_skip, evS, evT, evU, hv, effC, reduceCtorEq, ↓reduceIte, Nat.reduceEqDiff, Nat.reduceAdd, Nat.reduceMul, Int.reduceToNat, Int.reduceAdd, Int.reduceSub, Int.reduceMul, Int.reduceNeg, Int.reduceLT, Int.reduceLE, Nat.reduceLT, Nat.reduceLeDiff]
        exact h2 s hs e1 e2
/-- What Part hands back. -/
abbrev luV (n : Nat) : V := .agg [.sl 2 0 0 n 1 n, .sl 5 0 0 n 1 n]
def luH (B : List (List Nat)) (π : List Int) (n : Nat) : Heap :=
  [(7, [[.sl 2 0 0 n 1 n, .sl 5 0 0 n 1 n]]), (5, [rowIV π]), (2, hdo 2 1 n n :: B.map rowV), (0, [[.sl 2 0 0 n 1 n, .sl 5 0 0 n 1 n]])]
theorem lin_Part_some (A : List (List Nat)) (n : Nat) (hA : Sq n A) (hn : n < 2 ^ 40) (B : List (List Nat)) (π : List Int) (h : partP A n n = some (B, π)) :
    AC Try.prog 38 [.d (rowsD A)] [] (luH B π n) (.tup [luV n, fB true]) := by
  refine AC_introA A_lin_Part_comp rfl mixed (fun _ => False) (by simp [get_nil]) (lin_Part_walk A n hA hn _ (fun B' π' h' hB hπ => ?_) (fun s h' _ _ => ?_))
  · obtain ⟨rfl, rfl⟩ : B = B' ∧ π = π' := by rw [h] at h'; simpa using h'
    refine endsT_keep (fun _ h => h) ⟨luV n, fB true, resV_cell (by decide) rfl (cells := [.sl 2 0 0 n 1 n, .sl 5 0 0 n 1 n]) (by simp [get_cons]) rfl (by simp) (by simp [ldv]), resV_tmpI (t := 3) (by decide) rfl, rfl⟩ rfl ?_ (keep_cells fun X q cells hX v hv => ?_)
    · refine .tup rfl fun j hj => ?_
      rcases j with _ | _ | j
      · refine .agg rfl fun j hj => ?_
        rcases j with _ | _ | j
        · exact .sl (by simp [luH, get_cons]) rfl
        · exact .sl (by simp [luH, get_cons]) rfl
        · simp at hj; omega
      · exact .d (.d _)
      · simp at hj; omega
    · have cell : ∀ v ∈ [V.sl 2 0 0 n 1 n, .sl 5 0 0 n 1 n], LeV (luH B π n) (luH B π n) (fun X q => (X, q)) v v := by
        intro v hv
        rcases List.mem_cons.1 hv with rfl | hv
        · exact .sl (by simp [luH, get_cons]) rfl
        · rcases List.mem_cons.1 hv with rfl | hv
          · exact .sl (by simp [luH, get_cons]) rfl
          · cases hv
      unfold luH at hX
      simp only [get_cons, get_nil] at hX
      split at hX
      · rcases q with _ | q <;> simp at hX; subst hX; exact cell v hv
      · split at hX
        · rcases q with _ | q <;> simp at hX; subst hX; exact mem_rowIV hv _ _ _
        · split at hX
          · rcases q with _ | q
            · simp at hX; subst hX
              exact mem_hdo hv fun r hr => by have := hB.1; simp [luH, get_cons]; omega
            · simp only [List.getElem?_cons_succ, List.getElem?_map] at hX
              obtain ⟨xs, _, rfl⟩ := Option.map_eq_some_iff.1 hX
              exact mem_rowV hv _ _ _
          · split at hX
            · rcases q with _ | q <;> simp at hX; subst hX; exact cell v hv
            · cases hX
  · rw [h] at h'; cases h'
theorem lin_Part_data (A : List (List Nat)) (n : Nat) (hA : Sq n A) (hn : n < 2 ^ 40) (B : List (List Nat)) (π : List Int) (h : partP A n n = some (B, π)) :
    Con Try.prog 38 [.d (rowsD A)] (.tup [.agg [.d (rowsD B), .d (rowI π)], fB true]) := by
  obtain ⟨⟨hl, hr⟩, hp⟩ := partP_sq A n hA n (Nat.le_refl _) B π h
  refine Con_of_AC (lin_Part_some A n hA hn B π h) (.tup rfl fun j hj => ?_)
  rcases j with _ | _ | j
  · refine .agg rfl fun j hj => ?_
    rcases j with _ | _ | j
    · refine .d (snapF_rows (X := 2) (o := 1) (fun Y q h => by simp [get_nil] at h) (fun r hr Y q h => by simp [get_nil] at h) (by simp [luH, get_cons]) (fun r hr' => ⟨?_, hr r hr'⟩) hl rfl)
      simp [luH, get_cons, getE B r (by omega)]
    · exact .d (snap_rowI (fun Y q h => by simp [get_nil] at h) (by simp [luH, get_cons]) hp rfl)
    · simp at hj; omega
  · exact .d (.d _)
  · simp at hj; omega
theorem lin_Part_nil (A : List (List Nat)) (n : Nat) (hA : Sq n A) (hn : n < 2 ^ 40) (h : partP A n n = none) :
    AC Try.prog 38 [.d (rowsD A)] [] [] (.tup [.agg [.nil, .nil], fB false]) := by
  refine AC_introA A_lin_Part_comp rfl mixed (fun _ => False) (by simp [get_nil]) (lin_Part_walk A n hA hn _ (fun B' π' h' hB hπ => ?_) (fun s h' e1 e2 => ?_))
  · rw [h] at h'; cases h'
  · refine ⟨.tup [.agg [.nil, .nil], fB false], fun X r => (X, r), ⟨.agg [.nil, .nil], fB false, resV_cell (by decide) (by rw [e1]; rfl) e2 rfl (by simp) (by simp [ldv]), resV_tmpI (t := 3) (by decide) (by rw [e1]; rfl), rfl⟩, .fin (.tup rfl fun j hj => ?_)⟩
    rcases j with _ | _ | j
    · refine .agg rfl fun j hj => ?_
      rcases j with _ | _ | j
      · exact .nil
      · exact .nil
      · simp at hj; omega
    · exact .d (.d _)
    · simp at hj; omega
theorem lin_Part_none (A : List (List Nat)) (n : Nat) (hA : Sq n A) (hn : n < 2 ^ 40) (h : partP A n n = none) :
    Con Try.prog 38 [.d (rowsD A)] (.tup [.agg [.d (rowsD []), .d (rowI [])], fB false]) := by
  refine Con_of_AC (lin_Part_nil A n hA hn h) (.tup rfl fun j hj => ?_)
  rcases j with _ | _ | j
  · refine .agg rfl fun j hj => ?_
    rcases j with _ | _ | j
    · exact .d (.nil _)
    · exact .d (.nil _)
    · simp at hj; omega
  · exact .d (.d _)
  · simp at hj; omega
end Go.Ab
