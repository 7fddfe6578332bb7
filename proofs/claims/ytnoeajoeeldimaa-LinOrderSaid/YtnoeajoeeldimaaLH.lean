/- The document's solving. -/
import Derived.Test.YtnoeajoeeldimaaLG
namespace Go.Ab
set_option linter.unusedSimpArgs false
set_option linter.unusedVariables false
open Go Go.Proofs
def gI (π : List Int) (b : List Nat) (n : Nat) : Nat → List Nat
  | 0 => List.replicate n 0
  | m + 1 => (gI π b n m).set m (b.getD (π.getD m 0).toNat 0)
def fwdR (A : List (List Nat)) (x : List Nat) : Nat → List Nat
  | 0 => x
  | m + 1 => fJ A m (fwdR A x m) m
theorem gI_len (π : List Int) (b : List Nat) (n : Nat) : ∀ m, (gI π b n m).length = n := by
  intro m; induction m with
  | zero => simp [gI]
  | succ m ih => simp [gI, ih]
theorem fwdR_len (A : List (List Nat)) (x : List Nat) : ∀ m, (fwdR A x m).length = x.length := by
  intro m; induction m with
  | zero => rfl
  | succ m ih => simp [fwdR, fJ_len, ih]
theorem gI_getD (π : List Int) (b : List Nat) (n : Nat) : ∀ m j, m ≤ n → j < m → (gI π b n m).getD j 0 = b.getD (π.getD j 0).toNat 0 := by
  intro m; induction m with
  | zero => intro j _ h; omega
  | succ m ih =>
    intro j hm hj
    have hlen := gI_len π b n m
    simp only [gI, List.getD_eq_getElem?_getD, List.getElem?_set]
    by_cases e : m = j
    · subst e; simp [hlen, show m < n from by omega]
    · have := ih j (by omega) (by omega)
      simp only [List.getD_eq_getElem?_getD] at this
      rw [if_neg e]; exact this
/-- Both go forward alike. -/
theorem fJ_agree (A : List (List Nat)) (i : Nat) (x y : List Nat) (hl : x.length = y.length) (h : ∀ j, j ≤ i → x.getD j 0 = y.getD j 0) : ∀ m, m ≤ i → ∀ j, j ≤ i → (fJ A i x m).getD j 0 = (fJ A i y m).getD j 0 := by
  intro m; induction m with
  | zero => intro _ j hj; exact h j hj
  | succ m ih =>
    intro hm j hj
    have ih := ih (by omega)
    have h1 := fJ_len A i x m
    have h2 := fJ_len A i y m
    simp only [fJ, ih i (Nat.le_refl _), ih m (by omega), List.getD_eq_getElem?_getD, List.getElem?_set]
    have := ih j hj
    simp only [List.getD_eq_getElem?_getD] at this
    by_cases e : i = j
    · subst e; simp [h1, h2, hl]
    · rw [if_neg e, if_neg e]; exact this
theorem fJ_above (A : List (List Nat)) (i : Nat) (x : List Nat) : ∀ m j, j ≠ i → (fJ A i x m).getD j 0 = x.getD j 0 := by
  intro m; induction m with
  | zero => intro j _; rfl
  | succ m ih =>
    intro j hj
    have := ih j hj
    simp only [List.getD_eq_getElem?_getD] at this
    simp only [fJ, List.getD_eq_getElem?_getD, List.getElem?_set]
    rw [if_neg (fun e => hj e.symm)]; exact this
theorem fwd_agree (A : List (List Nat)) (π : List Int) (b : List Nat) (n : Nat) : ∀ m, m ≤ n → (∀ j, j < m → (fwdI A π b n m).getD j 0 = (fwdR A (gI π b n n) m).getD j 0) ∧ (∀ j, m ≤ j → (fwdR A (gI π b n n) m).getD j 0 = (gI π b n n).getD j 0) := by
  intro m; induction m with
  | zero => intro _; exact ⟨fun j h => by omega, fun j _ => rfl⟩
  | succ m ih =>
    intro hm
    obtain ⟨h1, h2⟩ := ih (by omega)
    have hl1 := fwdI_len A π b n m
    have hl2 : (fwdR A (gI π b n n) m).length = n := by rw [fwdR_len, gI_len]
    refine ⟨fun j hj => ?_, fun j hj => ?_⟩
    · simp only [fwdI, fwdR]
      refine fJ_agree A m _ _ (by simp [hl1, hl2]) (fun j hj => ?_) m (Nat.le_refl _) j (by omega)
      by_cases e : m = j
      · subst e
        rw [h2 m (Nat.le_refl _), gI_getD π b n n m (Nat.le_refl _) (by omega)]
        simp [List.getD_eq_getElem?_getD, hl1, show m < n from by omega]
      · have := h1 j (by omega)
        simp only [List.getD_eq_getElem?_getD] at this
        simp only [List.getD_eq_getElem?_getD, List.getElem?_set]
        rw [if_neg e]; exact this
    · simp only [fwdR]
      rw [fJ_above A m _ m j (by omega)]
      exact h2 j (by omega)
theorem fwd_eq (A : List (List Nat)) (π : List Int) (b : List Nat) (n : Nat) : fwdI A π b n n = fwdR A (gI π b n n) n := by
  obtain ⟨h, _⟩ := fwd_agree A π b n n (Nat.le_refl _)
  have hl1 := fwdI_len A π b n n
  have hl2 : (fwdR A (gI π b n n) n).length = n := by rw [fwdR_len, gI_len]
  refine List.ext_getElem (by rw [hl1, hl2]) fun j h1 h2 => ?_
  have := h j (by omega)
  simpa [List.getD_eq_getElem?_getD, h1, h2] using this
set_option maxRecDepth 8000 in
theorem r6solve_L2 (N : Nat → Prop) (A : List (List Nat)) (π : List Int) (n i : Nat) (x : List Nat) (hA : Sq n A) (hx : x.length = n) (hi : i < n) (hn : n < 2 ^ 40) (Q : Ex → T → Prop)
    (hQ : ∀ v w, Q (.exit 4) ⟨[(2, .ptr 0 0 0 2), (5, fI n), (6, .sl 2 0 0 n 1 n), (8, fI i), (9, v), (41, w)], solveH A π (fJ A i x i)⟩) :
    WA Try.prog N 123 (.loop A_r6_Solve_L2) Q ⟨[(2, .ptr 0 0 0 2), (5, fI n), (6, .sl 2 0 0 n 1 n), (8, fI i), (9, fI 0)], solveH A π x⟩ := by
  obtain ⟨hl, hr⟩ := hA
  refine WA_for (n := i) (fun c s => ∃ m, c + m = i ∧ s = ⟨[(2, .ptr 0 0 0 2), (5, fI n), (6, .sl 2 0 0 n 1 n), (8, fI i), (9, fI m)], solveH A π (fJ A i x m)⟩) ⟨0, rfl, rfl⟩ ?_
  rintro c s ⟨m, hc, rfl⟩
  have hy := fJ_len A i x m
  generalize hY : fJ A i x m = y at hy
  have g1 := hr i hi
  simp -implicitDefEqProofs only [xC_skip, evS, decide_true, decide_false, decide_eq_true_eq, sides, Inst.places, List.zip_cons_cons, List.zip_nil_right, List.zip_nil_left, List.mem_cons, List.not_mem_nil, forall_eq_or_imp, forall_eq, false_implies, implies_true, Apart, xeff, xhv, hv, effC, xev, look, argSl, atL, drops, keep, inBlockT, pickX, callX, callCX, callee, List.map_cons, List.map_nil, List.append_nil, List.nil_append, List.cons_append, reduceCtorEq, ↓reduceIte, Nat.reduceEqDiff, Nat.reduceAdd, Nat.reduceMul, eq_self, List.length_replicate, Int.reduceToNat, Int.reduceAdd, Int.reduceSub, Int.reduceMul, Int.reduceNeg, Int.reduceLT, Int.reduceLE, rowD, rowI, rowsD, ivD, rowG, rowIG, rowsG, ivG, bne_self_eq_false, beq_self_eq_true, List.length_map, List.getD_cons_zero, List.getD_cons_succ, List.drop_succ_cons, List.drop_zero, List.take_succ_cons, List.take_zero, List.take_nil, List.getElem?_cons_zero, List.getElem?_cons_succ, List.length_cons, List.length_nil, List.length_set, List.set_cons_zero, List.set_cons_succ, List.all_cons, List.all_nil, Nat.reduceLT, Nat.reduceLeDiff, ne_eq, Option.some.injEq, fillV, partsV, V.okPart, gt_iff_lt, ge_iff_le, A_r6_Solve_L2, solveH]
  refine condC_intro (fun h => ?_) (fun h => ?_)
  · replace h := of_decide_eq_true h
    have e1 : i < y.length := by omega
    have e2 : m < y.length := by omega
    simp -implicitDefEqProofs only [xC_skip, evS, decide_true, decide_false, decide_eq_true_eq, sides, Inst.places, List.zip_cons_cons, List.zip_nil_right, List.zip_nil_left, List.mem_cons, List.not_mem_nil, forall_eq_or_imp, forall_eq, false_implies, implies_true, Apart, xeff, xhv, hv, effC, xev, look, argSl, atL, drops, keep, inBlockT, pickX, callX, callCX, callee, List.map_cons, List.map_nil, List.append_nil, List.nil_append, List.cons_append, reduceCtorEq, ↓reduceIte, Nat.reduceEqDiff, Nat.reduceAdd, Nat.reduceMul, eq_self, List.length_replicate, Int.reduceToNat, Int.reduceAdd, Int.reduceSub, Int.reduceMul, Int.reduceNeg, Int.reduceLT, Int.reduceLE, rowD, rowI, rowsD, ivD, rowG, rowIG, rowsG, ivG, bne_self_eq_false, beq_self_eq_true, List.length_map, List.getD_cons_zero, List.getD_cons_succ, List.drop_succ_cons, List.drop_zero, List.take_succ_cons, List.take_zero, List.take_nil, List.getElem?_cons_zero, List.getElem?_cons_succ, List.length_cons, List.length_nil, List.length_set, List.set_cons_zero, List.set_cons_succ, List.all_cons, List.all_nil, Nat.reduceLT, Nat.reduceLeDiff, ne_eq, Option.some.injEq, fillV, partsV, V.okPart, gt_iff_lt, ge_iff_le, getD_map_fl _ _ e1, getD_map_fl _ _ e2]
    (repeat (with_reducible refine And.intro (by omega) ?_))
    rw [wrapI (by omega) (by omega)]
    refine ⟨c - 1, by omega, m + 1, by omega, ?_⟩
    simp only [fJ, hY]; rfl
  · replace h := of_decide_eq_false h
    simp -implicitDefEqProofs only [xC_skip, evS, decide_true, decide_false, decide_eq_true_eq, sides, Inst.places, List.zip_cons_cons, List.zip_nil_right, List.zip_nil_left, List.mem_cons, List.not_mem_nil, forall_eq_or_imp, forall_eq, false_implies, implies_true, Apart, xeff, xhv, hv, effC, xev, look, argSl, atL, drops, keep, inBlockT, pickX, callX, callCX, callee, List.map_cons, List.map_nil, List.append_nil, List.nil_append, List.cons_append, reduceCtorEq, ↓reduceIte, Nat.reduceEqDiff, Nat.reduceAdd, Nat.reduceMul, eq_self, List.length_replicate, Int.reduceToNat, Int.reduceAdd, Int.reduceSub, Int.reduceMul, Int.reduceNeg, Int.reduceLT, Int.reduceLE, rowD, rowI, rowsD, ivD, rowG, rowIG, rowsG, ivG, bne_self_eq_false, beq_self_eq_true, List.length_map, List.getD_cons_zero, List.getD_cons_succ, List.drop_succ_cons, List.drop_zero, List.take_succ_cons, List.take_zero, List.take_nil, List.getElem?_cons_zero, List.getElem?_cons_succ, List.length_cons, List.length_nil, List.length_set, List.set_cons_zero, List.set_cons_succ, List.all_cons, List.all_nil, Nat.reduceLT, Nat.reduceLeDiff, ne_eq, Option.some.injEq, fillV, partsV, V.okPart, gt_iff_lt, ge_iff_le]
    obtain rfl : i = m := by omega
    rw [hY] at hQ
    exact hQ _ _
set_option maxRecDepth 8000 in
theorem r6solve_L4 (N : Nat → Prop) (A : List (List Nat)) (π : List Int) (n i : Nat) (z : Int) (x : List Nat) (hA : Sq n A) (hx : x.length = n) (hi : i < n) (hz : z = (i : Int) + 1) (hn : n < 2 ^ 40) (Q : Ex → T → Prop)
    (hQ : ∀ v w, Q (.exit 8) ⟨[(2, .ptr 0 0 0 2), (5, fI n), (6, .sl 2 0 0 n 1 n), (11, fI z), (12, v), (74, w)], solveH A π (bJ A i x (n - 1 - i))⟩) :
    WA Try.prog N 123 (.loop A_r6_Solve_L4) Q ⟨[(2, .ptr 0 0 0 2), (5, fI n), (6, .sl 2 0 0 n 1 n), (11, fI z), (12, fI (i + 1 : Nat))], solveH A π x⟩ := by
  obtain ⟨hl, hr⟩ := hA
  have hw : IntKind.i64.wrap (z - 1) = (i : Int) := by rw [wrapI (by omega) (by omega)]; omega
  refine WA_for (n := n) (fun c s => ∃ m, c + m = n ∧ i + 1 + m ≤ n ∧ s = ⟨[(2, .ptr 0 0 0 2), (5, fI n), (6, .sl 2 0 0 n 1 n), (11, fI z), (12, fI (i + 1 + m : Nat))], solveH A π (bJ A i x m)⟩) ⟨0, rfl, by omega, rfl⟩ ?_
  rintro c s ⟨m, hc, hm, rfl⟩
  have hy := bJ_len A i x m
  generalize hY : bJ A i x m = y at hy
  have g1 := hr i hi
  simp -implicitDefEqProofs only [xC_skip, evS, decide_true, decide_false, decide_eq_true_eq, sides, Inst.places, List.zip_cons_cons, List.zip_nil_right, List.zip_nil_left, List.mem_cons, List.not_mem_nil, forall_eq_or_imp, forall_eq, false_implies, implies_true, Apart, xeff, xhv, hv, effC, xev, look, argSl, atL, drops, keep, inBlockT, pickX, callX, callCX, callee, List.map_cons, List.map_nil, List.append_nil, List.nil_append, List.cons_append, reduceCtorEq, ↓reduceIte, Nat.reduceEqDiff, Nat.reduceAdd, Nat.reduceMul, eq_self, List.length_replicate, Int.reduceToNat, Int.reduceAdd, Int.reduceSub, Int.reduceMul, Int.reduceNeg, Int.reduceLT, Int.reduceLE, rowD, rowI, rowsD, ivD, rowG, rowIG, rowsG, ivG, bne_self_eq_false, beq_self_eq_true, List.length_map, List.getD_cons_zero, List.getD_cons_succ, List.drop_succ_cons, List.drop_zero, List.take_succ_cons, List.take_zero, List.take_nil, List.getElem?_cons_zero, List.getElem?_cons_succ, List.length_cons, List.length_nil, List.length_set, List.set_cons_zero, List.set_cons_succ, List.all_cons, List.all_nil, Nat.reduceLT, Nat.reduceLeDiff, ne_eq, Option.some.injEq, fillV, partsV, V.okPart, gt_iff_lt, ge_iff_le, A_r6_Solve_L4, solveH]
  refine condC_intro (fun h => ?_) (fun h => ?_)
  · replace h := of_decide_eq_true h
    have e1 : i < y.length := by omega
    have e2 : i + 1 + m < y.length := by omega
    simp -implicitDefEqProofs only [xC_skip, evS, decide_true, decide_false, decide_eq_true_eq, sides, Inst.places, List.zip_cons_cons, List.zip_nil_right, List.zip_nil_left, List.mem_cons, List.not_mem_nil, forall_eq_or_imp, forall_eq, false_implies, implies_true, Apart, xeff, xhv, hv, effC, xev, look, argSl, atL, drops, keep, inBlockT, pickX, callX, callCX, callee, List.map_cons, List.map_nil, List.append_nil, List.nil_append, List.cons_append, reduceCtorEq, ↓reduceIte, Nat.reduceEqDiff, Nat.reduceAdd, Nat.reduceMul, eq_self, List.length_replicate, Int.reduceToNat, Int.reduceAdd, Int.reduceSub, Int.reduceMul, Int.reduceNeg, Int.reduceLT, Int.reduceLE, rowD, rowI, rowsD, ivD, rowG, rowIG, rowsG, ivG, bne_self_eq_false, beq_self_eq_true, List.length_map, List.getD_cons_zero, List.getD_cons_succ, List.drop_succ_cons, List.drop_zero, List.take_succ_cons, List.take_zero, List.take_nil, List.getElem?_cons_zero, List.getElem?_cons_succ, List.length_cons, List.length_nil, List.length_set, List.set_cons_zero, List.set_cons_succ, List.all_cons, List.all_nil, Nat.reduceLT, Nat.reduceLeDiff, ne_eq, Option.some.injEq, fillV, partsV, V.okPart, gt_iff_lt, ge_iff_le, getD_map_fl _ _ e1, getD_map_fl _ _ e2, hw]
    (repeat (with_reducible refine And.intro (by omega) ?_))
    rw [wrapI (by omega) (by omega)]
    refine ⟨c - 1, by omega, m + 1, by omega, by omega, ?_⟩
    simp only [bJ, hY]; rfl
  · replace h := of_decide_eq_false h
    simp -implicitDefEqProofs only [xC_skip, evS, decide_true, decide_false, decide_eq_true_eq, sides, Inst.places, List.zip_cons_cons, List.zip_nil_right, List.zip_nil_left, List.mem_cons, List.not_mem_nil, forall_eq_or_imp, forall_eq, false_implies, implies_true, Apart, xeff, xhv, hv, effC, xev, look, argSl, atL, drops, keep, inBlockT, pickX, callX, callCX, callee, List.map_cons, List.map_nil, List.append_nil, List.nil_append, List.cons_append, reduceCtorEq, ↓reduceIte, Nat.reduceEqDiff, Nat.reduceAdd, Nat.reduceMul, eq_self, List.length_replicate, Int.reduceToNat, Int.reduceAdd, Int.reduceSub, Int.reduceMul, Int.reduceNeg, Int.reduceLT, Int.reduceLE, rowD, rowI, rowsD, ivD, rowG, rowIG, rowsG, ivG, bne_self_eq_false, beq_self_eq_true, List.length_map, List.getD_cons_zero, List.getD_cons_succ, List.drop_succ_cons, List.drop_zero, List.take_succ_cons, List.take_zero, List.take_nil, List.getElem?_cons_zero, List.getElem?_cons_succ, List.length_cons, List.length_nil, List.length_set, List.set_cons_zero, List.set_cons_succ, List.all_cons, List.all_nil, Nat.reduceLT, Nat.reduceLeDiff, ne_eq, Option.some.injEq, fillV, partsV, V.okPart, gt_iff_lt, ge_iff_le]
    obtain rfl : n - 1 - i = m := by omega
    rw [hY] at hQ
    exact hQ _ _
set_option maxRecDepth 8000 in
theorem r6_Solve_con (A : List (List Nat)) (π : List Int) (b : List Nat) (n : Nat) (hA : Sq n A) (hπ : Pm n π) (hb : b.length = n) (hn : n < 2 ^ 40) :
    Con Try.prog 25 [.agg [.d (rowsD A), .d (rowI π)], .d (rowD b)] (.d (rowD (solveP A π b n))) := by
  obtain ⟨hl, hr⟩ := hA
  obtain ⟨hp1, hp2⟩ := hπ
  generalize hR : rowD (solveP A π b n) = R
  refine Con_introA A_r6_Solve_comp rfl mixed ?_
  simp -implicitDefEqProofs only [xC_skip, evS, decide_true, decide_false, decide_eq_true_eq, sides, Inst.places, List.zip_cons_cons, List.zip_nil_right, List.zip_nil_left, List.mem_cons, List.not_mem_nil, forall_eq_or_imp, forall_eq, false_implies, implies_true, Apart, xeff, xhv, hv, effC, xev, look, argSl, atL, drops, keep, inBlockT, pickX, callX, callCX, callee, List.map_cons, List.map_nil, List.append_nil, List.nil_append, List.cons_append, reduceCtorEq, ↓reduceIte, Nat.reduceEqDiff, Nat.reduceAdd, Nat.reduceMul, eq_self, List.length_replicate, Int.reduceToNat, Int.reduceAdd, Int.reduceSub, Int.reduceMul, Int.reduceNeg, Int.reduceLT, Int.reduceLE, rowD, rowI, rowsD, ivD, rowG, rowIG, rowsG, ivG, bne_self_eq_false, beq_self_eq_true, List.length_map, List.getD_cons_zero, List.getD_cons_succ, List.drop_succ_cons, List.drop_zero, List.take_succ_cons, List.take_zero, List.take_nil, List.getElem?_cons_zero, List.getElem?_cons_succ, List.length_cons, List.length_nil, List.length_set, List.set_cons_zero, List.set_cons_succ, List.all_cons, List.all_nil, Nat.reduceLT, Nat.reduceLeDiff, ne_eq, Option.some.injEq, fillV, partsV, V.okPart, gt_iff_lt, ge_iff_le, A_r6_Solve]
  (repeat (with_reducible refine And.intro (by omega) ?_))
  refine WA_for (n := n) (fun c s => ∃ m, c + m = n ∧ s = ⟨[(1, .d (rowD b)), (2, .ptr 0 0 0 2), (5, fI n), (6, .sl 2 0 0 n 1 n), (7, fI m)], solveH A π (gI π b n m)⟩) ⟨0, rfl, ?_⟩ ?_
  · simp only [solveH, gI, rowD, hb]; rfl
  rintro c s ⟨m, hc, rfl⟩
  have hy := gI_len π b n m
  generalize hY : gI π b n m = y at hy
  simp -implicitDefEqProofs only [xC_skip, evS, decide_true, decide_false, decide_eq_true_eq, sides, Inst.places, List.zip_cons_cons, List.zip_nil_right, List.zip_nil_left, List.mem_cons, List.not_mem_nil, forall_eq_or_imp, forall_eq, false_implies, implies_true, Apart, xeff, xhv, hv, effC, xev, look, argSl, atL, drops, keep, inBlockT, pickX, callX, callCX, callee, List.map_cons, List.map_nil, List.append_nil, List.nil_append, List.cons_append, reduceCtorEq, ↓reduceIte, Nat.reduceEqDiff, Nat.reduceAdd, Nat.reduceMul, eq_self, List.length_replicate, Int.reduceToNat, Int.reduceAdd, Int.reduceSub, Int.reduceMul, Int.reduceNeg, Int.reduceLT, Int.reduceLE, rowD, rowI, rowsD, ivD, rowG, rowIG, rowsG, ivG, bne_self_eq_false, beq_self_eq_true, List.length_map, List.getD_cons_zero, List.getD_cons_succ, List.drop_succ_cons, List.drop_zero, List.take_succ_cons, List.take_zero, List.take_nil, List.getElem?_cons_zero, List.getElem?_cons_succ, List.length_cons, List.length_nil, List.length_set, List.set_cons_zero, List.set_cons_succ, List.all_cons, List.all_nil, Nat.reduceLT, Nat.reduceLeDiff, ne_eq, Option.some.injEq, fillV, partsV, V.okPart, gt_iff_lt, ge_iff_le, A_r6_Solve_L0, solveH]
  refine condC_intro (fun h => ?_) (fun h => ?_)
  · replace h := of_decide_eq_true h
    obtain ⟨q1, q2⟩ := hp2 m h
    simp -implicitDefEqProofs only [xC_skip, evS, decide_true, decide_false, decide_eq_true_eq, sides, Inst.places, List.zip_cons_cons, List.zip_nil_right, List.zip_nil_left, List.mem_cons, List.not_mem_nil, forall_eq_or_imp, forall_eq, false_implies, implies_true, Apart, xeff, xhv, hv, effC, xev, look, argSl, atL, drops, keep, inBlockT, pickX, callX, callCX, callee, List.map_cons, List.map_nil, List.append_nil, List.nil_append, List.cons_append, reduceCtorEq, ↓reduceIte, Nat.reduceEqDiff, Nat.reduceAdd, Nat.reduceMul, eq_self, List.length_replicate, Int.reduceToNat, Int.reduceAdd, Int.reduceSub, Int.reduceMul, Int.reduceNeg, Int.reduceLT, Int.reduceLE, rowD, rowI, rowsD, ivD, rowG, rowIG, rowsG, ivG, bne_self_eq_false, beq_self_eq_true, List.length_map, List.getD_cons_zero, List.getD_cons_succ, List.drop_succ_cons, List.drop_zero, List.take_succ_cons, List.take_zero, List.take_nil, List.getElem?_cons_zero, List.getElem?_cons_succ, List.length_cons, List.length_nil, List.length_set, List.set_cons_zero, List.set_cons_succ, List.all_cons, List.all_nil, Nat.reduceLT, Nat.reduceLeDiff, ne_eq, Option.some.injEq, fillV, partsV, V.okPart, gt_iff_lt, ge_iff_le]
    (repeat (with_reducible refine And.intro (by omega) ?_))
    rw [wrapI (by omega) (by omega)]
    refine ⟨c - 1, by omega, m + 1, by omega, ?_⟩
    simp only [gI, hY]; rfl
  · replace h := of_decide_eq_false h
    obtain rfl : n = m := by omega
    simp -implicitDefEqProofs only [xC_skip, evS, decide_true, decide_false, decide_eq_true_eq, sides, Inst.places, List.zip_cons_cons, List.zip_nil_right, List.zip_nil_left, List.mem_cons, List.not_mem_nil, forall_eq_or_imp, forall_eq, false_implies, implies_true, Apart, xeff, xhv, hv, effC, xev, look, argSl, atL, drops, keep, inBlockT, pickX, callX, callCX, callee, List.map_cons, List.map_nil, List.append_nil, List.nil_append, List.cons_append, reduceCtorEq, ↓reduceIte, Nat.reduceEqDiff, Nat.reduceAdd, Nat.reduceMul, eq_self, List.length_replicate, Int.reduceToNat, Int.reduceAdd, Int.reduceSub, Int.reduceMul, Int.reduceNeg, Int.reduceLT, Int.reduceLE, rowD, rowI, rowsD, ivD, rowG, rowIG, rowsG, ivG, bne_self_eq_false, beq_self_eq_true, List.length_map, List.getD_cons_zero, List.getD_cons_succ, List.drop_succ_cons, List.drop_zero, List.take_succ_cons, List.take_zero, List.take_nil, List.getElem?_cons_zero, List.getElem?_cons_succ, List.length_cons, List.length_nil, List.length_set, List.set_cons_zero, List.set_cons_succ, List.all_cons, List.all_nil, Nat.reduceLT, Nat.reduceLeDiff, ne_eq, Option.some.injEq, fillV, partsV, V.okPart, gt_iff_lt, ge_iff_le]
    refine WA_for (n := n) (fun c s => ∃ m, c + m = n ∧ s = ⟨[(2, .ptr 0 0 0 2), (5, fI n), (6, .sl 2 0 0 n 1 n), (8, fI m)], solveH A π (fwdR A y m)⟩) ⟨0, rfl, rfl⟩ ?_
    rintro c s ⟨m, hc, rfl⟩
    have hf := fwdR_len A y m
    generalize hF : fwdR A y m = u at hf
    simp -implicitDefEqProofs only [xC_skip, evS, decide_true, decide_false, decide_eq_true_eq, sides, Inst.places, List.zip_cons_cons, List.zip_nil_right, List.zip_nil_left, List.mem_cons, List.not_mem_nil, forall_eq_or_imp, forall_eq, false_implies, implies_true, Apart, xeff, xhv, hv, effC, xev, look, argSl, atL, drops, keep, inBlockT, pickX, callX, callCX, callee, List.map_cons, List.map_nil, List.append_nil, List.nil_append, List.cons_append, reduceCtorEq, ↓reduceIte, Nat.reduceEqDiff, Nat.reduceAdd, Nat.reduceMul, eq_self, List.length_replicate, Int.reduceToNat, Int.reduceAdd, Int.reduceSub, Int.reduceMul, Int.reduceNeg, Int.reduceLT, Int.reduceLE, rowD, rowI, rowsD, ivD, rowG, rowIG, rowsG, ivG, bne_self_eq_false, beq_self_eq_true, List.length_map, List.getD_cons_zero, List.getD_cons_succ, List.drop_succ_cons, List.drop_zero, List.take_succ_cons, List.take_zero, List.take_nil, List.getElem?_cons_zero, List.getElem?_cons_succ, List.length_cons, List.length_nil, List.length_set, List.set_cons_zero, List.set_cons_succ, List.all_cons, List.all_nil, Nat.reduceLT, Nat.reduceLeDiff, ne_eq, Option.some.injEq, fillV, partsV, V.okPart, gt_iff_lt, ge_iff_le, A_r6_Solve_L1, solveH]
    refine condC_intro (fun h2 => ?_) (fun h2 => ?_)
    · replace h2 := of_decide_eq_true h2
      simp -implicitDefEqProofs only [xC_skip, evS, decide_true, decide_false, decide_eq_true_eq, sides, Inst.places, List.zip_cons_cons, List.zip_nil_right, List.zip_nil_left, List.mem_cons, List.not_mem_nil, forall_eq_or_imp, forall_eq, false_implies, implies_true, Apart, xeff, xhv, hv, effC, xev, look, argSl, atL, drops, keep, inBlockT, pickX, callX, callCX, callee, List.map_cons, List.map_nil, List.append_nil, List.nil_append, List.cons_append, reduceCtorEq, ↓reduceIte, Nat.reduceEqDiff, Nat.reduceAdd, Nat.reduceMul, eq_self, List.length_replicate, Int.reduceToNat, Int.reduceAdd, Int.reduceSub, Int.reduceMul, Int.reduceNeg, Int.reduceLT, Int.reduceLE, rowD, rowI, rowsD, ivD, rowG, rowIG, rowsG, ivG, bne_self_eq_false, beq_self_eq_true, List.length_map, List.getD_cons_zero, List.getD_cons_succ, List.drop_succ_cons, List.drop_zero, List.take_succ_cons, List.take_zero, List.take_nil, List.getElem?_cons_zero, List.getElem?_cons_succ, List.length_cons, List.length_nil, List.length_set, List.set_cons_zero, List.set_cons_succ, List.all_cons, List.all_nil, Nat.reduceLT, Nat.reduceLeDiff, ne_eq, Option.some.injEq, fillV, partsV, V.okPart, gt_iff_lt, ge_iff_le]
      refine r6solve_L2 _ A π n m u ⟨hl, hr⟩ (by omega) h2 hn _ fun v w => ?_
      simp -implicitDefEqProofs only [xC_skip, evS, decide_true, decide_false, decide_eq_true_eq, sides, Inst.places, List.zip_cons_cons, List.zip_nil_right, List.zip_nil_left, List.mem_cons, List.not_mem_nil, forall_eq_or_imp, forall_eq, false_implies, implies_true, Apart, xeff, xhv, hv, effC, xev, look, argSl, atL, drops, keep, inBlockT, pickX, callX, callCX, callee, List.map_cons, List.map_nil, List.append_nil, List.nil_append, List.cons_append, reduceCtorEq, ↓reduceIte, Nat.reduceEqDiff, Nat.reduceAdd, Nat.reduceMul, eq_self, List.length_replicate, Int.reduceToNat, Int.reduceAdd, Int.reduceSub, Int.reduceMul, Int.reduceNeg, Int.reduceLT, Int.reduceLE, rowD, rowI, rowsD, ivD, rowG, rowIG, rowsG, ivG, bne_self_eq_false, beq_self_eq_true, List.length_map, List.getD_cons_zero, List.getD_cons_succ, List.drop_succ_cons, List.drop_zero, List.take_succ_cons, List.take_zero, List.take_nil, List.getElem?_cons_zero, List.getElem?_cons_succ, List.length_cons, List.length_nil, List.length_set, List.set_cons_zero, List.set_cons_succ, List.all_cons, List.all_nil, Nat.reduceLT, Nat.reduceLeDiff, ne_eq, Option.some.injEq, fillV, partsV, V.okPart, gt_iff_lt, ge_iff_le]
      rw [wrapI (by omega) (by omega)]
      refine ⟨c - 1, by omega, m + 1, by omega, ?_⟩
      simp only [fwdR, hF]; rfl
    · replace h2 := of_decide_eq_false h2
      obtain rfl : n = m := by omega
      simp -implicitDefEqProofs only [xC_skip, evS, decide_true, decide_false, decide_eq_true_eq, sides, Inst.places, List.zip_cons_cons, List.zip_nil_right, List.zip_nil_left, List.mem_cons, List.not_mem_nil, forall_eq_or_imp, forall_eq, false_implies, implies_true, Apart, xeff, xhv, hv, effC, xev, look, argSl, atL, drops, keep, inBlockT, pickX, callX, callCX, callee, List.map_cons, List.map_nil, List.append_nil, List.nil_append, List.cons_append, reduceCtorEq, ↓reduceIte, Nat.reduceEqDiff, Nat.reduceAdd, Nat.reduceMul, eq_self, List.length_replicate, Int.reduceToNat, Int.reduceAdd, Int.reduceSub, Int.reduceMul, Int.reduceNeg, Int.reduceLT, Int.reduceLE, rowD, rowI, rowsD, ivD, rowG, rowIG, rowsG, ivG, bne_self_eq_false, beq_self_eq_true, List.length_map, List.getD_cons_zero, List.getD_cons_succ, List.drop_succ_cons, List.drop_zero, List.take_succ_cons, List.take_zero, List.take_nil, List.getElem?_cons_zero, List.getElem?_cons_succ, List.length_cons, List.length_nil, List.length_set, List.set_cons_zero, List.set_cons_succ, List.all_cons, List.all_nil, Nat.reduceLT, Nat.reduceLeDiff, ne_eq, Option.some.injEq, fillV, partsV, V.okPart, gt_iff_lt, ge_iff_le]
      have hu : u = fwdI A π b n n := by rw [fwd_eq, ← hF, hY]
      refine WA_for (n := n) (fun c s => ∃ m, ∃ z : Int, c + m = n ∧ z = (n : Int) - m ∧ s = ⟨[(2, .ptr 0 0 0 2), (5, fI n), (6, .sl 2 0 0 n 1 n), (11, fI z)], solveH A π (bckI A n u m)⟩) ⟨0, _, rfl, rfl, ?_⟩ ?_
      · simp only [Int.natCast_zero, Int.sub_zero]; rfl
      rintro c s ⟨m, z, hc, hz, rfl⟩
      have hb2 := bckI_len A n u m
      generalize hU : bckI A n u m = t at hb2
      simp -implicitDefEqProofs only [xC_skip, evS, decide_true, decide_false, decide_eq_true_eq, sides, Inst.places, List.zip_cons_cons, List.zip_nil_right, List.zip_nil_left, List.mem_cons, List.not_mem_nil, forall_eq_or_imp, forall_eq, false_implies, implies_true, Apart, xeff, xhv, hv, effC, xev, look, argSl, atL, drops, keep, inBlockT, pickX, callX, callCX, callee, List.map_cons, List.map_nil, List.append_nil, List.nil_append, List.cons_append, reduceCtorEq, ↓reduceIte, Nat.reduceEqDiff, Nat.reduceAdd, Nat.reduceMul, eq_self, List.length_replicate, Int.reduceToNat, Int.reduceAdd, Int.reduceSub, Int.reduceMul, Int.reduceNeg, Int.reduceLT, Int.reduceLE, rowD, rowI, rowsD, ivD, rowG, rowIG, rowsG, ivG, bne_self_eq_false, beq_self_eq_true, List.length_map, List.getD_cons_zero, List.getD_cons_succ, List.drop_succ_cons, List.drop_zero, List.take_succ_cons, List.take_zero, List.take_nil, List.getElem?_cons_zero, List.getElem?_cons_succ, List.length_cons, List.length_nil, List.length_set, List.set_cons_zero, List.set_cons_succ, List.all_cons, List.all_nil, Nat.reduceLT, Nat.reduceLeDiff, ne_eq, Option.some.injEq, fillV, partsV, V.okPart, gt_iff_lt, ge_iff_le, A_r6_Solve_L3, solveH]
      refine condC_intro (fun h3 => ?_) (fun h3 => ?_)
      · replace h3 := of_decide_eq_true h3
        obtain ⟨i, hzi⟩ : ∃ i : Nat, z = (i : Int) + 1 := ⟨n - 1 - m, by omega⟩
        have hi : i < n := by omega
        have hw : IntKind.i64.wrap (z - 1) = (i : Int) := by rw [wrapI (by omega) (by omega)]; omega
        simp -implicitDefEqProofs only [xC_skip, evS, decide_true, decide_false, decide_eq_true_eq, sides, Inst.places, List.zip_cons_cons, List.zip_nil_right, List.zip_nil_left, List.mem_cons, List.not_mem_nil, forall_eq_or_imp, forall_eq, false_implies, implies_true, Apart, xeff, xhv, hv, effC, xev, look, argSl, atL, drops, keep, inBlockT, pickX, callX, callCX, callee, List.map_cons, List.map_nil, List.append_nil, List.nil_append, List.cons_append, reduceCtorEq, ↓reduceIte, Nat.reduceEqDiff, Nat.reduceAdd, Nat.reduceMul, eq_self, List.length_replicate, Int.reduceToNat, Int.reduceAdd, Int.reduceSub, Int.reduceMul, Int.reduceNeg, Int.reduceLT, Int.reduceLE, rowD, rowI, rowsD, ivD, rowG, rowIG, rowsG, ivG, bne_self_eq_false, beq_self_eq_true, List.length_map, List.getD_cons_zero, List.getD_cons_succ, List.drop_succ_cons, List.drop_zero, List.take_succ_cons, List.take_zero, List.take_nil, List.getElem?_cons_zero, List.getElem?_cons_succ, List.length_cons, List.length_nil, List.length_set, List.set_cons_zero, List.set_cons_succ, List.all_cons, List.all_nil, Nat.reduceLT, Nat.reduceLeDiff, ne_eq, Option.some.injEq, fillV, partsV, V.okPart, gt_iff_lt, ge_iff_le]
        have hz12 : fI z = fI (i + 1 : Nat) := by rw [hzi]; rfl
        rw [show ([(2, V.ptr 0 0 0 2), (5, fI n), (6, V.sl 2 0 0 n 1 n), (11, fI z), (12, fI z)] : Sl) = [(2, V.ptr 0 0 0 2), (5, fI n), (6, V.sl 2 0 0 n 1 n), (11, fI z), (12, fI (i + 1 : Nat))] from by rw [← hz12]]
        refine r6solve_L4 _ A π n i z t ⟨hl, hr⟩ (by omega) hi hzi hn _ fun v w => ?_
        have hbl := bJ_len A i t (n - 1 - i)
        have e1 : i < (bJ A i t (n - 1 - i)).length := by omega
        have g1 := hr i hi
        simp -implicitDefEqProofs only [xC_skip, evS, decide_true, decide_false, decide_eq_true_eq, sides, Inst.places, List.zip_cons_cons, List.zip_nil_right, List.zip_nil_left, List.mem_cons, List.not_mem_nil, forall_eq_or_imp, forall_eq, false_implies, implies_true, Apart, xeff, xhv, hv, effC, xev, look, argSl, atL, drops, keep, inBlockT, pickX, callX, callCX, callee, List.map_cons, List.map_nil, List.append_nil, List.nil_append, List.cons_append, reduceCtorEq, ↓reduceIte, Nat.reduceEqDiff, Nat.reduceAdd, Nat.reduceMul, eq_self, List.length_replicate, Int.reduceToNat, Int.reduceAdd, Int.reduceSub, Int.reduceMul, Int.reduceNeg, Int.reduceLT, Int.reduceLE, rowD, rowI, rowsD, ivD, rowG, rowIG, rowsG, ivG, bne_self_eq_false, beq_self_eq_true, List.length_map, List.getD_cons_zero, List.getD_cons_succ, List.drop_succ_cons, List.drop_zero, List.take_succ_cons, List.take_zero, List.take_nil, List.getElem?_cons_zero, List.getElem?_cons_succ, List.length_cons, List.length_nil, List.length_set, List.set_cons_zero, List.set_cons_succ, List.all_cons, List.all_nil, Nat.reduceLT, Nat.reduceLeDiff, ne_eq, Option.some.injEq, fillV, partsV, V.okPart, gt_iff_lt, ge_iff_le, solveH, getD_map_fl _ _ e1, hw]
        (repeat (with_reducible refine And.intro (by omega) ?_))
        refine ⟨c - 1, by omega, m + 1, (i : Int), by omega, by omega, ?_⟩
        have e : n - 1 - m = i := by omega
        simp only [bckI, hU, bStep, e]; rfl
      · replace h3 := of_decide_eq_false h3
        simp -implicitDefEqProofs only [xC_skip, evS, decide_true, decide_false, decide_eq_true_eq, sides, Inst.places, List.zip_cons_cons, List.zip_nil_right, List.zip_nil_left, List.mem_cons, List.not_mem_nil, forall_eq_or_imp, forall_eq, false_implies, implies_true, Apart, xeff, xhv, hv, effC, xev, look, argSl, atL, drops, keep, inBlockT, pickX, callX, callCX, callee, List.map_cons, List.map_nil, List.append_nil, List.nil_append, List.cons_append, reduceCtorEq, ↓reduceIte, Nat.reduceEqDiff, Nat.reduceAdd, Nat.reduceMul, eq_self, List.length_replicate, Int.reduceToNat, Int.reduceAdd, Int.reduceSub, Int.reduceMul, Int.reduceNeg, Int.reduceLT, Int.reduceLE, rowD, rowI, rowsD, ivD, rowG, rowIG, rowsG, ivG, bne_self_eq_false, beq_self_eq_true, List.length_map, List.getD_cons_zero, List.getD_cons_succ, List.drop_succ_cons, List.drop_zero, List.take_succ_cons, List.take_zero, List.take_nil, List.getElem?_cons_zero, List.getElem?_cons_succ, List.length_cons, List.length_nil, List.length_set, List.set_cons_zero, List.set_cons_succ, List.all_cons, List.all_nil, Nat.reduceLT, Nat.reduceLeDiff, ne_eq, Option.some.injEq, fillV, partsV, V.okPart, gt_iff_lt, ge_iff_le]
        obtain rfl : n = m := by omega
        rw [← hR]
        have : t = solveP A π b n := by rw [solveP, ← hu, hU]
        rw [← this]
        exact ⟨_, fun X r => (X, r), resV_tmpI (t := 4) (by decide) rfl, .fin (.d (snap_row (fun Y q h => by simp [get_nil] at h) (by simp [look, get_cons]) (by omega) rfl))⟩
end Go.Ab
