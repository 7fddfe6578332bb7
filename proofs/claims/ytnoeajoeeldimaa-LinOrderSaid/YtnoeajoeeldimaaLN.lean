/- LinOrder: rows of one number each, in any order. -/
import Derived.Test.YtnoeajoeeldimaaLO
namespace Go.Ab
set_option linter.unusedSimpArgs false
set_option linter.unusedVariables false
open Go Go.Proofs
def rangeI (m : Nat) : List Int := (List.range m).map fun (i : Nat) => (i : Int)
theorem rangeI_len (m : Nat) : (rangeI m).length = m := by simp [rangeI]
set_option maxRecDepth 8000 in
theorem order_L0 (N : Nat → Prop) (hN : ∀ Y, ¬ N Y) (order bs : List Int) (m : Nat) (hm : m < 2 ^ 20) (Q : Ex → T → Prop)
    (hQ : ∀ v w, Q (.exit 0) ⟨[(0, .d (rowI order)), (1, .d (rowI bs)), (7, fI m), (8, .sl 100 0 0 m 1 m), (9, v), (27, w)], [(100, [rowIV (rangeI m)])]⟩) :
    WA Try.prog N 123 (.loop A_l6_LinOrder_L0) Q ⟨[(0, .d (rowI order)), (1, .d (rowI bs)), (7, fI m), (8, .nil), (9, fI 0)], []⟩ := by
  refine WA_forW (n := m) (fun c s => ∃ i, c + i = m ∧ s = ⟨[(0, .d (rowI order)), (1, .d (rowI bs)), (7, fI m), (8, .sl 100 0 0 i 1 i), (9, fI i)], [(100, [rowIV (rangeI i)])]⟩)
    (s0 := ⟨_, _⟩) (LeT.nilrow (X := 100) (esz := 1) (as' := [(0, .d (rowI order)), (1, .d (rowI bs)), (7, fI m), (8, .sl 100 0 0 0 1 0), (9, fI 0)]) rfl (hN _) fun i => ?_) ⟨0, by omega, rfl⟩ ?_
  · simp only [look]
    repeat' split
    all_goals simp [rowI]
  rintro c s ⟨i, hc, rfl⟩
  have hl := rangeI_len i
  simp -implicitDefEqProofs only [xC_skip, evS, decide_true, decide_false, decide_eq_true_eq, sides, Inst.places, List.zip_cons_cons, List.zip_nil_right, List.zip_nil_left, List.mem_cons, List.not_mem_nil, forall_eq_or_imp, forall_eq, false_implies, implies_true, Apart, xeff, xhv, hv, effC, xev, look, argSl, atL, drops, keep, inBlockT, pickX, callX, callCX, callee, List.map_cons, List.map_nil, List.append_nil, List.nil_append, List.cons_append, reduceCtorEq, ↓reduceIte, Nat.reduceEqDiff, Nat.reduceAdd, Nat.reduceMul, eq_self, List.length_replicate, Int.reduceToNat, Int.reduceAdd, Int.reduceSub, Int.reduceMul, Int.reduceNeg, Int.reduceLT, Int.reduceLE, rowD, rowI, rowsD, ivD, rowG, rowIG, rowsG, ivG, bne_self_eq_false, beq_self_eq_true, List.length_map, List.getD_cons_zero, List.getD_cons_succ, List.drop_succ_cons, List.drop_zero, List.take_succ_cons, List.take_zero, List.take_nil, List.getElem?_cons_zero, List.getElem?_cons_succ, List.length_cons, List.length_nil, List.length_set, List.set_cons_zero, List.set_cons_succ, List.all_cons, List.all_nil, Nat.reduceLT, Nat.reduceLeDiff, ne_eq, Option.some.injEq, fillV, partsV, V.okPart, gt_iff_lt, ge_iff_le, A_l6_LinOrder_L0]
  refine condC_intro (fun h => ?_) (fun h => ?_)
  · replace h := of_decide_eq_true h
    simp -implicitDefEqProofs only [xC_skip, evS, decide_true, decide_false, decide_eq_true_eq, sides, Inst.places, List.zip_cons_cons, List.zip_nil_right, List.zip_nil_left, List.mem_cons, List.not_mem_nil, forall_eq_or_imp, forall_eq, false_implies, implies_true, Apart, xeff, xhv, hv, effC, xev, look, argSl, atL, drops, keep, inBlockT, pickX, callX, callCX, callee, List.map_cons, List.map_nil, List.append_nil, List.nil_append, List.cons_append, reduceCtorEq, ↓reduceIte, Nat.reduceEqDiff, Nat.reduceAdd, Nat.reduceMul, eq_self, List.length_replicate, Int.reduceToNat, Int.reduceAdd, Int.reduceSub, Int.reduceMul, Int.reduceNeg, Int.reduceLT, Int.reduceLE, rowD, rowI, rowsD, ivD, rowG, rowIG, rowsG, ivG, bne_self_eq_false, beq_self_eq_true, List.length_map, List.getD_cons_zero, List.getD_cons_succ, List.drop_succ_cons, List.drop_zero, List.take_succ_cons, List.take_zero, List.take_nil, List.getElem?_cons_zero, List.getElem?_cons_succ, List.length_cons, List.length_nil, List.length_set, List.set_cons_zero, List.set_cons_succ, List.all_cons, List.all_nil, Nat.reduceLT, Nat.reduceLeDiff, ne_eq, Option.some.injEq, fillV, partsV, V.okPart, gt_iff_lt, ge_iff_le]
    (repeat (with_reducible refine And.intro (by omega) ?_))
    rw [wrapI (by omega) (by omega)]
    have e : rowIV (rangeI i) ++ [V.d (D.int IntKind.i64 ↑i)] = rowIV (rangeI (i + 1)) := by simp [rangeI, List.range_succ]
    rw [e]
    refine ⟨c - 1, _, by omega, ?_, i + 1, by omega, rfl⟩
    refine LeT.drop hN (fun p hp => ?_) (fun X r c hX => ?_)
    · simp only [List.mem_cons, List.not_mem_nil, or_false] at hp
      rcases hp with rfl | rfl | rfl | rfl | rfl
      all_goals first | exact .d (.d _) | exact .sl (by simp [get_cons]) rfl
    · rw [get_cons, get_nil] at hX
      split at hX
      · rename_i e2; subst e2
        rcases r with _ | r <;> simp only [List.getElem?_cons_zero, List.getElem?_cons_succ, List.getElem?_nil, Option.some.injEq, reduceCtorEq] at hX
        subst hX
        exact ⟨by simp [get_cons], fun v hv' => mem_rowIV hv' _ _ _⟩
      · cases hX
  · replace h := of_decide_eq_false h
    simp -implicitDefEqProofs only [xC_skip, evS, decide_true, decide_false, decide_eq_true_eq, sides, Inst.places, List.zip_cons_cons, List.zip_nil_right, List.zip_nil_left, List.mem_cons, List.not_mem_nil, forall_eq_or_imp, forall_eq, false_implies, implies_true, Apart, xeff, xhv, hv, effC, xev, look, argSl, atL, drops, keep, inBlockT, pickX, callX, callCX, callee, List.map_cons, List.map_nil, List.append_nil, List.nil_append, List.cons_append, reduceCtorEq, ↓reduceIte, Nat.reduceEqDiff, Nat.reduceAdd, Nat.reduceMul, eq_self, List.length_replicate, Int.reduceToNat, Int.reduceAdd, Int.reduceSub, Int.reduceMul, Int.reduceNeg, Int.reduceLT, Int.reduceLE, rowD, rowI, rowsD, ivD, rowG, rowIG, rowsG, ivG, bne_self_eq_false, beq_self_eq_true, List.length_map, List.getD_cons_zero, List.getD_cons_succ, List.drop_succ_cons, List.drop_zero, List.take_succ_cons, List.take_zero, List.take_nil, List.getElem?_cons_zero, List.getElem?_cons_succ, List.length_cons, List.length_nil, List.length_set, List.set_cons_zero, List.set_cons_succ, List.all_cons, List.all_nil, Nat.reduceLT, Nat.reduceLeDiff, ne_eq, Option.some.injEq, fillV, partsV, V.okPart, gt_iff_lt, ge_iff_le]
    obtain rfl : m = i := by omega
    exact hQ _ _
def swO (order : List Int) (m : Nat) : Nat → List Int
  | 0 => rangeI m
  | i + 1 => swapL 0 (swO order m i) (i % m) (order.getD i 0 % m).toNat
theorem swO_len (order : List Int) (m i : Nat) : (swO order m i).length = m := by
  induction i with
  | zero => exact rangeI_len m
  | succ i ih => simp [swO, swapL, ih]
set_option maxRecDepth 8000 in
theorem order_L1 (N : Nat → Prop) (order bs : List Int) (m : Nat) (h0 : 0 < m) (hm : m < 2 ^ 20) (ho : order.length < 2 ^ 62) (Q : Ex → T → Prop)
    (hQ : ∀ v w i, Q (.exit 2) ⟨[(0, .d (rowI order)), (1, .d (rowI bs)), (7, fI m), (8, .sl 100 0 0 m 1 m), (10, v), (41, w)], [(100, [rowIV (swO order m i)])]⟩) :
    WA Try.prog N 123 (.loop A_l6_LinOrder_L1) Q ⟨[(0, .d (rowI order)), (1, .d (rowI bs)), (7, fI m), (8, .sl 100 0 0 m 1 m), (10, fI 0)], [(100, [rowIV (rangeI m)])]⟩ := by
  refine WA_for (n := order.length) (fun c s => ∃ i, c + i = order.length ∧ s = ⟨[(0, .d (rowI order)), (1, .d (rowI bs)), (7, fI m), (8, .sl 100 0 0 m 1 m), (10, fI i)], [(100, [rowIV (swO order m i)])]⟩) ⟨0, by omega, rfl⟩ ?_
  rintro c s ⟨i, hc, rfl⟩
  have hl := swO_len order m i
  simp -implicitDefEqProofs only [xC_skip, evS, decide_true, decide_false, decide_eq_true_eq, sides, Inst.places, List.zip_cons_cons, List.zip_nil_right, List.zip_nil_left, List.mem_cons, List.not_mem_nil, forall_eq_or_imp, forall_eq, false_implies, implies_true, Apart, xeff, xhv, hv, effC, xev, look, argSl, atL, drops, keep, inBlockT, pickX, callX, callCX, callee, List.map_cons, List.map_nil, List.append_nil, List.nil_append, List.cons_append, reduceCtorEq, ↓reduceIte, Nat.reduceEqDiff, Nat.reduceAdd, Nat.reduceMul, eq_self, List.length_replicate, Int.reduceToNat, Int.reduceAdd, Int.reduceSub, Int.reduceMul, Int.reduceNeg, Int.reduceLT, Int.reduceLE, rowD, rowI, rowsD, ivD, rowG, rowIG, rowsG, ivG, bne_self_eq_false, beq_self_eq_true, List.length_map, List.getD_cons_zero, List.getD_cons_succ, List.drop_succ_cons, List.drop_zero, List.take_succ_cons, List.take_zero, List.take_nil, List.getElem?_cons_zero, List.getElem?_cons_succ, List.length_cons, List.length_nil, List.length_set, List.set_cons_zero, List.set_cons_succ, List.all_cons, List.all_nil, Nat.reduceLT, Nat.reduceLeDiff, ne_eq, Option.some.injEq, fillV, partsV, V.okPart, gt_iff_lt, ge_iff_le, A_l6_LinOrder_L1]
  by_cases h : i < order.length
  · simp -implicitDefEqProofs only [xC_skip, evS, decide_true, decide_false, decide_eq_true_eq, sides, Inst.places, List.zip_cons_cons, List.zip_nil_right, List.zip_nil_left, List.mem_cons, List.not_mem_nil, forall_eq_or_imp, forall_eq, false_implies, implies_true, Apart, xeff, xhv, hv, effC, xev, look, argSl, atL, drops, keep, inBlockT, pickX, callX, callCX, callee, List.map_cons, List.map_nil, List.append_nil, List.nil_append, List.cons_append, reduceCtorEq, ↓reduceIte, Nat.reduceEqDiff, Nat.reduceAdd, Nat.reduceMul, eq_self, List.length_replicate, Int.reduceToNat, Int.reduceAdd, Int.reduceSub, Int.reduceMul, Int.reduceNeg, Int.reduceLT, Int.reduceLE, rowD, rowI, rowsD, ivD, rowG, rowIG, rowsG, ivG, bne_self_eq_false, beq_self_eq_true, List.length_map, List.getD_cons_zero, List.getD_cons_succ, List.drop_succ_cons, List.drop_zero, List.take_succ_cons, List.take_zero, List.take_nil, List.getElem?_cons_zero, List.getElem?_cons_succ, List.length_cons, List.length_nil, List.length_set, List.set_cons_zero, List.set_cons_succ, List.all_cons, List.all_nil, Nat.reduceLT, Nat.reduceLeDiff, ne_eq, Option.some.injEq, fillV, partsV, V.okPart, gt_iff_lt, ge_iff_le, h]
    refine condC_intro (fun h2 => ?_) (fun h2 => ?_)
    · replace h2 := of_decide_eq_true h2
      simp -implicitDefEqProofs only [xC_skip, evS, decide_true, decide_false, decide_eq_true_eq, sides, Inst.places, List.zip_cons_cons, List.zip_nil_right, List.zip_nil_left, List.mem_cons, List.not_mem_nil, forall_eq_or_imp, forall_eq, false_implies, implies_true, Apart, xeff, xhv, hv, effC, xev, look, argSl, atL, drops, keep, inBlockT, pickX, callX, callCX, callee, List.map_cons, List.map_nil, List.append_nil, List.nil_append, List.cons_append, reduceCtorEq, ↓reduceIte, Nat.reduceEqDiff, Nat.reduceAdd, Nat.reduceMul, eq_self, List.length_replicate, Int.reduceToNat, Int.reduceAdd, Int.reduceSub, Int.reduceMul, Int.reduceNeg, Int.reduceLT, Int.reduceLE, rowD, rowI, rowsD, ivD, rowG, rowIG, rowsG, ivG, bne_self_eq_false, beq_self_eq_true, List.length_map, List.getD_cons_zero, List.getD_cons_succ, List.drop_succ_cons, List.drop_zero, List.take_succ_cons, List.take_zero, List.take_nil, List.getElem?_cons_zero, List.getElem?_cons_succ, List.length_cons, List.length_nil, List.length_set, List.set_cons_zero, List.set_cons_succ, List.all_cons, List.all_nil, Nat.reduceLT, Nat.reduceLeDiff, ne_eq, Option.some.injEq, fillV, partsV, V.okPart, gt_iff_lt, ge_iff_le]
      (repeat (with_reducible refine And.intro (by omega) ?_))
      first | refine callG_con (l6_within_con (order.getD i 0) m (by omega) (by omega)) rfl ?_ | refine callCG_con (l6_within_con (order.getD i 0) m (by omega) (by omega)) rfl ?_
      have y1 := Int.emod_nonneg (order.getD i 0) (by omega : (m : Int) ≠ 0)
      have y2 := Int.emod_lt_of_pos (order.getD i 0) (by omega : (0 : Int) < m)
      have hx : (i : Int).tmod m = ((i % m : Nat) : Int) := by rw [Int.tmod_eq_emod_of_nonneg (by omega)]; omega
      have hxm : i % m < m := Nat.mod_lt _ h0
      have hs : swO order m (i + 1) = swapL 0 (swO order m i) (i % m) (order.getD i 0 % m).toNat := rfl
      obtain ⟨y, hy⟩ : ∃ y : Nat, order.getD i 0 % m = y := ⟨(order.getD i 0 % m).toNat, by omega⟩
      rw [hy] at y1 y2 hs ⊢
      have hym : y < m := by omega
      generalize hx0 : i % m = x at hx hxm hs
      generalize swO order m i = t at hl hs
      have e1 : y < t.length := by omega
      have e2 : x < t.length := by omega
      simp -implicitDefEqProofs only [xC_skip, evS, decide_true, decide_false, decide_eq_true_eq, sides, Inst.places, List.zip_cons_cons, List.zip_nil_right, List.zip_nil_left, List.mem_cons, List.not_mem_nil, forall_eq_or_imp, forall_eq, false_implies, implies_true, Apart, xeff, xhv, hv, effC, xev, look, argSl, atL, drops, keep, inBlockT, pickX, callX, callCX, callee, List.map_cons, List.map_nil, List.append_nil, List.nil_append, List.cons_append, reduceCtorEq, ↓reduceIte, Nat.reduceEqDiff, Nat.reduceAdd, Nat.reduceMul, eq_self, List.length_replicate, Int.reduceToNat, Int.reduceAdd, Int.reduceSub, Int.reduceMul, Int.reduceNeg, Int.reduceLT, Int.reduceLE, rowD, rowI, rowsD, ivD, rowG, rowIG, rowsG, ivG, bne_self_eq_false, beq_self_eq_true, List.length_map, List.getD_cons_zero, List.getD_cons_succ, List.drop_succ_cons, List.drop_zero, List.take_succ_cons, List.take_zero, List.take_nil, List.getElem?_cons_zero, List.getElem?_cons_succ, List.length_cons, List.length_nil, List.length_set, List.set_cons_zero, List.set_cons_succ, List.all_cons, List.all_nil, Nat.reduceLT, Nat.reduceLeDiff, ne_eq, Option.some.injEq, fillV, partsV, V.okPart, gt_iff_lt, ge_iff_le, hx, getD_rowIV _ _ e1, getD_rowIV _ _ e2]
      (repeat (with_reducible refine And.intro (by omega) ?_))
      rw [wrapI (by omega) (by omega)]
      refine ⟨c - 1, by omega, i + 1, by omega, ?_⟩
      rw [hs]; rfl
    · simp -implicitDefEqProofs only [xC_skip, evS, decide_true, decide_false, decide_eq_true_eq, sides, Inst.places, List.zip_cons_cons, List.zip_nil_right, List.zip_nil_left, List.mem_cons, List.not_mem_nil, forall_eq_or_imp, forall_eq, false_implies, implies_true, Apart, xeff, xhv, hv, effC, xev, look, argSl, atL, drops, keep, inBlockT, pickX, callX, callCX, callee, List.map_cons, List.map_nil, List.append_nil, List.nil_append, List.cons_append, reduceCtorEq, ↓reduceIte, Nat.reduceEqDiff, Nat.reduceAdd, Nat.reduceMul, eq_self, List.length_replicate, Int.reduceToNat, Int.reduceAdd, Int.reduceSub, Int.reduceMul, Int.reduceNeg, Int.reduceLT, Int.reduceLE, rowD, rowI, rowsD, ivD, rowG, rowIG, rowsG, ivG, bne_self_eq_false, beq_self_eq_true, List.length_map, List.getD_cons_zero, List.getD_cons_succ, List.drop_succ_cons, List.drop_zero, List.take_succ_cons, List.take_zero, List.take_nil, List.getElem?_cons_zero, List.getElem?_cons_succ, List.length_cons, List.length_nil, List.length_set, List.set_cons_zero, List.set_cons_succ, List.all_cons, List.all_nil, Nat.reduceLT, Nat.reduceLeDiff, ne_eq, Option.some.injEq, fillV, partsV, V.okPart, gt_iff_lt, ge_iff_le]
      exact hQ _ _ i
  · simp -implicitDefEqProofs only [xC_skip, evS, decide_true, decide_false, decide_eq_true_eq, sides, Inst.places, List.zip_cons_cons, List.zip_nil_right, List.zip_nil_left, List.mem_cons, List.not_mem_nil, forall_eq_or_imp, forall_eq, false_implies, implies_true, Apart, xeff, xhv, hv, effC, xev, look, argSl, atL, drops, keep, inBlockT, pickX, callX, callCX, callee, List.map_cons, List.map_nil, List.append_nil, List.nil_append, List.cons_append, reduceCtorEq, ↓reduceIte, Nat.reduceEqDiff, Nat.reduceAdd, Nat.reduceMul, eq_self, List.length_replicate, Int.reduceToNat, Int.reduceAdd, Int.reduceSub, Int.reduceMul, Int.reduceNeg, Int.reduceLT, Int.reduceLE, rowD, rowI, rowsD, ivD, rowG, rowIG, rowsG, ivG, bne_self_eq_false, beq_self_eq_true, List.length_map, List.getD_cons_zero, List.getD_cons_succ, List.drop_succ_cons, List.drop_zero, List.take_succ_cons, List.take_zero, List.take_nil, List.getElem?_cons_zero, List.getElem?_cons_succ, List.length_cons, List.length_nil, List.length_set, List.set_cons_zero, List.set_cons_succ, List.all_cons, List.all_nil, Nat.reduceLT, Nat.reduceLeDiff, ne_eq, Option.some.injEq, fillV, partsV, V.okPart, gt_iff_lt, ge_iff_le, h]
    exact hQ _ _ i
def four : Nat := 4616189618054758400
def ordM (t : List Int) (m i : Nat) : List (List Nat) := (List.range i).map fun r => (List.replicate m 0).set (t.getD r 0).toNat four
theorem ordM_len (t : List Int) (m i : Nat) : (ordM t m i).length = i := by simp [ordM]
/-- Places: each from 0 to m - 1. -/
def Pl (m : Nat) (t : List Int) : Prop := t.length = m ∧ ∀ i, i < m → ∃ y : Nat, t.getD i 0 = y ∧ y < m
set_option maxRecDepth 8000 in
theorem order_L2 (N : Nat → Prop) (hN : ∀ Y, ¬ N Y) (bs : List Int) (t : List Int) (m : Nat) (hm : m < 2 ^ 20) (ht : Pl m t) (Q : Ex → T → Prop)
    (hQ : ∀ v w, Q (.exit 4) ⟨[(1, .d (rowI bs)), (7, fI m), (8, .sl 100 0 0 m 1 m), (13, .sl 102 0 0 m 1 m), (14, v), (71, w)], [(150, (ordM t m m).map rowV), (102, [hd 150 m m m]), (100, [rowIV t])]⟩) :
    WA Try.prog N 123 (.loop A_l6_LinOrder_L2) Q ⟨[(1, .d (rowI bs)), (7, fI m), (8, .sl 100 0 0 m 1 m), (13, .sl 102 0 0 m 1 m), (14, fI 0)], [(102, [repl m [.nil]]), (100, [rowIV t])]⟩ := by
  refine WA_forW (n := m) (fun k s => ∃ i, k + i = m ∧ s = ⟨[(1, .d (rowI bs)), (7, fI m), (8, .sl 100 0 0 m 1 m), (13, .sl 102 0 0 m 1 m), (14, fI i)], [(150, (ordM t m i).map rowV), (102, [hd 150 m i m]), (100, [rowIV t])]⟩) (s0 := ⟨_, _⟩) ?_ ⟨0, by omega, rfl⟩ ?_
  · rw [hd_zero]
    exact LeT.empty (L1 := []) (by simp [fam_cons, fam_nil])
  rintro k s ⟨i, hk, rfl⟩
  have hl := ht.1
  simp -implicitDefEqProofs only [xC_skip, evS, decide_true, decide_false, decide_eq_true_eq, sides, Inst.places, List.zip_cons_cons, List.zip_nil_right, List.zip_nil_left, List.mem_cons, List.not_mem_nil, forall_eq_or_imp, forall_eq, false_implies, implies_true, Apart, xeff, xhv, hv, effC, xev, look, argSl, atL, drops, keep, inBlockT, pickX, callX, callCX, callee, List.map_cons, List.map_nil, List.append_nil, List.nil_append, List.cons_append, reduceCtorEq, ↓reduceIte, Nat.reduceEqDiff, Nat.reduceAdd, Nat.reduceMul, eq_self, List.length_replicate, Int.reduceToNat, Int.reduceAdd, Int.reduceSub, Int.reduceMul, Int.reduceNeg, Int.reduceLT, Int.reduceLE, rowD, rowI, rowsD, ivD, rowG, rowIG, rowsG, ivG, bne_self_eq_false, beq_self_eq_true, List.length_map, List.getD_cons_zero, List.getD_cons_succ, List.drop_succ_cons, List.drop_zero, List.take_succ_cons, List.take_zero, List.take_nil, List.getElem?_cons_zero, List.getElem?_cons_succ, List.length_cons, List.length_nil, List.length_set, List.set_cons_zero, List.set_cons_succ, List.all_cons, List.all_nil, Nat.reduceLT, Nat.reduceLeDiff, ne_eq, Option.some.injEq, fillV, partsV, V.okPart, gt_iff_lt, ge_iff_le, A_l6_LinOrder_L2]
  refine condC_intro (fun h => ?_) (fun h => ?_)
  · replace h := of_decide_eq_true h
    obtain ⟨y, hy, hym⟩ := ht.2 i h
    have e0 : y < (List.replicate m 0).length := by simpa using hym
    have e1 : i < t.length := by omega
    simp -implicitDefEqProofs only [xC_skip, evS, decide_true, decide_false, decide_eq_true_eq, sides, Inst.places, List.zip_cons_cons, List.zip_nil_right, List.zip_nil_left, List.mem_cons, List.not_mem_nil, forall_eq_or_imp, forall_eq, false_implies, implies_true, Apart, xeff, xhv, hv, effC, xev, look, argSl, atL, drops, keep, inBlockT, pickX, callX, callCX, callee, List.map_cons, List.map_nil, List.append_nil, List.nil_append, List.cons_append, reduceCtorEq, ↓reduceIte, Nat.reduceEqDiff, Nat.reduceAdd, Nat.reduceMul, eq_self, List.length_replicate, Int.reduceToNat, Int.reduceAdd, Int.reduceSub, Int.reduceMul, Int.reduceNeg, Int.reduceLT, Int.reduceLE, rowD, rowI, rowsD, ivD, rowG, rowIG, rowsG, ivG, bne_self_eq_false, beq_self_eq_true, List.length_map, List.getD_cons_zero, List.getD_cons_succ, List.drop_succ_cons, List.drop_zero, List.take_succ_cons, List.take_zero, List.take_nil, List.getElem?_cons_zero, List.getElem?_cons_succ, List.length_cons, List.length_nil, List.length_set, List.set_cons_zero, List.set_cons_succ, List.all_cons, List.all_nil, Nat.reduceLT, Nat.reduceLeDiff, ne_eq, Option.some.injEq, fillV, partsV, V.okPart, gt_iff_lt, ge_iff_le, hd_set_get _ _ _ _ _ h, getD_rowIV _ _ e1, hy]
    (repeat (with_reducible refine And.intro (by omega) ?_))
    rw [wrapI (by omega) (by omega)]
    refine ⟨k - 1, _, by omega, LeT.absorb (by decide) (by simp [fam_cons, fam_nil]) (by simp [fam_cons, fam_nil]) (hN _), i + 1, by omega, ?_⟩
    have e2 : ((ordM t m i).map rowV).length = i := by simp [ordM]
    have e3 : (ordM t m i).map rowV ++ [rowV ((List.replicate m 0).set y four)] = (ordM t m (i + 1)).map rowV := by simp only [ordM, List.range_succ, List.map_append, List.map_cons, List.map_nil, hy, Int.toNat_natCast]
    rw [show (4616189618054758400 : Nat) = four from rfl, e2, ren_fam, ren_rowV, e3]
    simp only [renS, Heap.renH, ren_absF_sl _ _ _ _ _ _ _ _ _ (by decide : (100 : Nat) ≠ 154), ren_absF_sl _ _ _ _ _ _ _ _ _ (by decide : (102 : Nat) ≠ 154), ren_d, List.map_cons, List.map_nil, hd_absorb 154 150 _ _ _ (by decide) h, ren_rowIV]
    rfl
  · replace h := of_decide_eq_false h
    simp -implicitDefEqProofs only [xC_skip, evS, decide_true, decide_false, decide_eq_true_eq, sides, Inst.places, List.zip_cons_cons, List.zip_nil_right, List.zip_nil_left, List.mem_cons, List.not_mem_nil, forall_eq_or_imp, forall_eq, false_implies, implies_true, Apart, xeff, xhv, hv, effC, xev, look, argSl, atL, drops, keep, inBlockT, pickX, callX, callCX, callee, List.map_cons, List.map_nil, List.append_nil, List.nil_append, List.cons_append, reduceCtorEq, ↓reduceIte, Nat.reduceEqDiff, Nat.reduceAdd, Nat.reduceMul, eq_self, List.length_replicate, Int.reduceToNat, Int.reduceAdd, Int.reduceSub, Int.reduceMul, Int.reduceNeg, Int.reduceLT, Int.reduceLE, rowD, rowI, rowsD, ivD, rowG, rowIG, rowsG, ivG, bne_self_eq_false, beq_self_eq_true, List.length_map, List.getD_cons_zero, List.getD_cons_succ, List.drop_succ_cons, List.drop_zero, List.take_succ_cons, List.take_zero, List.take_nil, List.getElem?_cons_zero, List.getElem?_cons_succ, List.length_cons, List.length_nil, List.length_set, List.set_cons_zero, List.set_cons_succ, List.all_cons, List.all_nil, Nat.reduceLT, Nat.reduceLeDiff, ne_eq, Option.some.injEq, fillV, partsV, V.okPart, gt_iff_lt, ge_iff_le]
    obtain rfl : m = i := by omega
    exact hQ _ _
set_option maxRecDepth 8000 in
theorem order_L3 (N : Nat → Prop) (m : Nat) (b x : List Nat) (t : List Int) (L : Heap) (hm : m < 2 ^ 20) (ht : Pl m t) (hb : b.length = m) (hx : x.length = m) (hL : L.get 1010 0 = some (rowV x)) (hLt : L.get 100 0 = some (rowIV t))
    (he : ∀ i, i < m → fcmp .ne (x.getD (t.getD i 0).toNat 0) (fop .div (b.getD i 0) four) = false) (Q : Ex → T → Prop)
    (hQ : ∀ v w, Q (.exit 6) ⟨[(7, fI m), (8, .sl 100 0 0 m 1 m), (15, .d (rowD b)), (18, .sl 1010 0 0 m 1 m), (19, v), (107, w)], L⟩) :
    WA Try.prog N 123 (.loop A_l6_LinOrder_L3) Q ⟨[(7, fI m), (8, .sl 100 0 0 m 1 m), (15, .d (rowD b)), (18, .sl 1010 0 0 m 1 m), (19, fI 0)], L⟩ := by
  refine WA_for (n := m) (fun k s => ∃ i, k + i = m ∧ s = ⟨[(7, fI m), (8, .sl 100 0 0 m 1 m), (15, .d (rowD b)), (18, .sl 1010 0 0 m 1 m), (19, fI i)], L⟩) ⟨0, by omega, rfl⟩ ?_
  rintro k s ⟨i, hk, rfl⟩
  have hl := ht.1
  simp -implicitDefEqProofs only [xC_skip, evS, decide_true, decide_false, decide_eq_true_eq, sides, Inst.places, List.zip_cons_cons, List.zip_nil_right, List.zip_nil_left, List.mem_cons, List.not_mem_nil, forall_eq_or_imp, forall_eq, false_implies, implies_true, Apart, xeff, xhv, hv, effC, xev, look, argSl, atL, drops, keep, inBlockT, pickX, callX, callCX, callee, List.map_cons, List.map_nil, List.append_nil, List.nil_append, List.cons_append, reduceCtorEq, ↓reduceIte, Nat.reduceEqDiff, Nat.reduceAdd, Nat.reduceMul, eq_self, List.length_replicate, Int.reduceToNat, Int.reduceAdd, Int.reduceSub, Int.reduceMul, Int.reduceNeg, Int.reduceLT, Int.reduceLE, rowD, rowI, rowsD, ivD, rowG, rowIG, rowsG, ivG, bne_self_eq_false, beq_self_eq_true, List.length_map, List.getD_cons_zero, List.getD_cons_succ, List.drop_succ_cons, List.drop_zero, List.take_succ_cons, List.take_zero, List.take_nil, List.getElem?_cons_zero, List.getElem?_cons_succ, List.length_cons, List.length_nil, List.length_set, List.set_cons_zero, List.set_cons_succ, List.all_cons, List.all_nil, Nat.reduceLT, Nat.reduceLeDiff, ne_eq, Option.some.injEq, fillV, partsV, V.okPart, gt_iff_lt, ge_iff_le, A_l6_LinOrder_L3]
  refine condC_intro (fun h => ?_) (fun h => ?_)
  · replace h := of_decide_eq_true h
    have e2 := he i h
    obtain ⟨y, hy, hym⟩ := ht.2 i h
    have e1 : y < x.length := by omega
    have e3 : i < t.length := by omega
    rw [hy, Int.toNat_natCast] at e2
    simp -implicitDefEqProofs only [xC_skip, evS, decide_true, decide_false, decide_eq_true_eq, sides, Inst.places, List.zip_cons_cons, List.zip_nil_right, List.zip_nil_left, List.mem_cons, List.not_mem_nil, forall_eq_or_imp, forall_eq, false_implies, implies_true, Apart, xeff, xhv, hv, effC, xev, look, argSl, atL, drops, keep, inBlockT, pickX, callX, callCX, callee, List.map_cons, List.map_nil, List.append_nil, List.nil_append, List.cons_append, reduceCtorEq, ↓reduceIte, Nat.reduceEqDiff, Nat.reduceAdd, Nat.reduceMul, eq_self, List.length_replicate, Int.reduceToNat, Int.reduceAdd, Int.reduceSub, Int.reduceMul, Int.reduceNeg, Int.reduceLT, Int.reduceLE, rowD, rowI, rowsD, ivD, rowG, rowIG, rowsG, ivG, bne_self_eq_false, beq_self_eq_true, List.length_map, List.getD_cons_zero, List.getD_cons_succ, List.drop_succ_cons, List.drop_zero, List.take_succ_cons, List.take_zero, List.take_nil, List.getElem?_cons_zero, List.getElem?_cons_succ, List.length_cons, List.length_nil, List.length_set, List.set_cons_zero, List.set_cons_succ, List.all_cons, List.all_nil, Nat.reduceLT, Nat.reduceLeDiff, ne_eq, Option.some.injEq, fillV, partsV, V.okPart, gt_iff_lt, ge_iff_le, hL, hLt, getD_map_fl _ _ e1, getD_rowIV _ _ e3, hy]
    (repeat (with_reducible refine And.intro (by omega) ?_))
    rw [show (4616189618054758400 : Nat) = four from rfl]
    simp -implicitDefEqProofs only [xC_skip, evS, decide_true, decide_false, decide_eq_true_eq, sides, Inst.places, List.zip_cons_cons, List.zip_nil_right, List.zip_nil_left, List.mem_cons, List.not_mem_nil, forall_eq_or_imp, forall_eq, false_implies, implies_true, Apart, xeff, xhv, hv, effC, xev, look, argSl, atL, drops, keep, inBlockT, pickX, callX, callCX, callee, List.map_cons, List.map_nil, List.append_nil, List.nil_append, List.cons_append, reduceCtorEq, ↓reduceIte, Nat.reduceEqDiff, Nat.reduceAdd, Nat.reduceMul, eq_self, List.length_replicate, Int.reduceToNat, Int.reduceAdd, Int.reduceSub, Int.reduceMul, Int.reduceNeg, Int.reduceLT, Int.reduceLE, rowD, rowI, rowsD, ivD, rowG, rowIG, rowsG, ivG, bne_self_eq_false, beq_self_eq_true, List.length_map, List.getD_cons_zero, List.getD_cons_succ, List.drop_succ_cons, List.drop_zero, List.take_succ_cons, List.take_zero, List.take_nil, List.getElem?_cons_zero, List.getElem?_cons_succ, List.length_cons, List.length_nil, List.length_set, List.set_cons_zero, List.set_cons_succ, List.all_cons, List.all_nil, Nat.reduceLT, Nat.reduceLeDiff, ne_eq, Option.some.injEq, fillV, partsV, V.okPart, gt_iff_lt, ge_iff_le, e2]
    rw [wrapI (by omega) (by omega)]
    exact ⟨k - 1, by omega, i + 1, by omega, rfl⟩
  · replace h := of_decide_eq_false h
    simp -implicitDefEqProofs only [xC_skip, evS, decide_true, decide_false, decide_eq_true_eq, sides, Inst.places, List.zip_cons_cons, List.zip_nil_right, List.zip_nil_left, List.mem_cons, List.not_mem_nil, forall_eq_or_imp, forall_eq, false_implies, implies_true, Apart, xeff, xhv, hv, effC, xev, look, argSl, atL, drops, keep, inBlockT, pickX, callX, callCX, callee, List.map_cons, List.map_nil, List.append_nil, List.nil_append, List.cons_append, reduceCtorEq, ↓reduceIte, Nat.reduceEqDiff, Nat.reduceAdd, Nat.reduceMul, eq_self, List.length_replicate, Int.reduceToNat, Int.reduceAdd, Int.reduceSub, Int.reduceMul, Int.reduceNeg, Int.reduceLT, Int.reduceLE, rowD, rowI, rowsD, ivD, rowG, rowIG, rowsG, ivG, bne_self_eq_false, beq_self_eq_true, List.length_map, List.getD_cons_zero, List.getD_cons_succ, List.drop_succ_cons, List.drop_zero, List.take_succ_cons, List.take_zero, List.take_nil, List.getElem?_cons_zero, List.getElem?_cons_succ, List.length_cons, List.length_nil, List.length_set, List.set_cons_zero, List.set_cons_succ, List.all_cons, List.all_nil, Nat.reduceLT, Nat.reduceLeDiff, ne_eq, Option.some.injEq, fillV, partsV, V.okPart, gt_iff_lt, ge_iff_le]
    exact hQ _ _
/-- Places in another order. -/
structure Pr (m : Nat) (t : List Int) : Prop where
  pl : Pl m t
  inj : ∀ i j, i < m → j < m → t.getD i 0 = t.getD j 0 → i = j
  sur : ∀ c, c < m → ∃ i, i < m ∧ t.getD i 0 = (c : Int)
theorem rangeI_getD (m i : Nat) (h : i < m) : (rangeI m).getD i 0 = (i : Int) := by simp [rangeI, List.getD_eq_getElem?_getD, h]
theorem Pr.range (m : Nat) : Pr m (rangeI m) := by
  refine ⟨⟨rangeI_len m, fun i hi => ⟨i, rangeI_getD m i hi, hi⟩⟩, fun i j hi hj e => ?_, fun c hc => ⟨c, hc, rangeI_getD m c hc⟩⟩
  rw [rangeI_getD m i hi, rangeI_getD m j hj] at e
  omega
theorem Pr.swap {m : Nat} {t : List Int} (h : Pr m t) {a b : Nat} (ha : a < m) (hb : b < m) : Pr m (swapL 0 t a b) := by
  have hl := h.pl.1
  have e := fun i => getD_swapL (0 : Int) t a b i (by omega) (by omega)
  refine ⟨⟨by simp [swapL, hl], fun i hi => ?_⟩, fun i j hi hj he => ?_, fun c hc => ?_⟩
  · rw [e i]; exact h.pl.2 _ (sw_lt ha hb hi)
  · rw [e i, e j] at he
    exact sw_inj (h.inj _ _ (sw_lt ha hb hi) (sw_lt ha hb hj) he)
  · obtain ⟨i, hi, he⟩ := h.sur c hc
    exact ⟨sw a b i, sw_lt ha hb hi, by rw [e, sw_sw, he]⟩
theorem swO_pr (order : List Int) (m : Nat) (h0 : 0 < m) : ∀ i, Pr m (swO order m i) := by
  intro i
  induction i with
  | zero => exact .range m
  | succ i ih =>
    have y1 := Int.emod_nonneg (order.getD i 0) (by omega : (m : Int) ≠ 0)
    have y2 := Int.emod_lt_of_pos (order.getD i 0) (by omega : (0 : Int) < m)
    exact ih.swap (Nat.mod_lt _ h0) (by omega)
def plN (t : List Int) (i : Nat) : Nat := (t.getD i 0).toNat
theorem Pr.lt {m : Nat} {t : List Int} (h : Pr m t) {i : Nat} (hi : i < m) : plN t i < m := by
  obtain ⟨y, hy, hy2⟩ := h.pl.2 i hi
  unfold plN; rw [hy]; exact hy2
theorem Pr.eq {m : Nat} {t : List Int} (h : Pr m t) {i : Nat} (hi : i < m) : t.getD i 0 = (plN t i : Int) := by
  obtain ⟨y, hy, hy2⟩ := h.pl.2 i hi
  unfold plN; rw [hy]; rfl
theorem Pr.injN {m : Nat} {t : List Int} (h : Pr m t) {i j : Nat} (hi : i < m) (hj : j < m) (e : plN t i = plN t j) : i = j :=
  h.inj i j hi hj (by rw [h.eq hi, h.eq hj, e])
theorem Pr.surN {m : Nat} {t : List Int} (h : Pr m t) {c : Nat} (hc : c < m) : ∃ i, i < m ∧ plN t i = c := by
  obtain ⟨i, hi, e⟩ := h.sur c hc
  exact ⟨i, hi, by unfold plN; rw [e]; rfl⟩
theorem plN_swap {m : Nat} {t : List Int} (h : Pr m t) {a b : Nat} (ha : a < m) (hb : b < m) (i : Nat) : plN (swapL 0 t a b) i = plN t (sw a b i) := by
  unfold plN; rw [getD_swapL (0 : Int) t a b i (by have := h.pl.1; omega) (by have := h.pl.1; omega)]
theorem four_one : OneC four := pow_one 2 (by decide)
theorem four_gt : fcmp .gt (fabs four) (fabs 0) = true := by decide
theorem zero_gt : fcmp .gt (fabs 0) (fabs 0) = false := by decide
theorem ord_pv (B : List (List Nat)) (m k p : Nat) (hk : k < m) (hp : k ≤ p) (hpm : p < m) (hat : ∀ r, r < m → at2 B r k = if r = p then four else 0) : ∀ d, k + 1 + d ≤ m → pvP B k d = if p ≤ k + d then p else k := by
  intro d
  induction d with
  | zero => intro _; unfold pvP; split <;> omega
  | succ d ih =>
    intro hd
    have ih := ih (by omega)
    simp only [pvP]
    rw [ih]
    have e0 := hat (k + 1 + d) (by omega)
    by_cases e : p ≤ k + d
    · rw [if_pos e, if_pos (by omega : p ≤ k + (d + 1)), hat p hpm, if_pos rfl, e0, if_neg (by omega : ¬ k + 1 + d = p), four_one.h3]; rfl
    · rw [if_neg e, hat k hk, if_neg (by omega : ¬ k = p), e0]
      by_cases e2 : k + 1 + d = p
      · rw [if_pos e2, four_gt, if_pos rfl, if_pos (by omega : p ≤ k + (d + 1))]; exact e2
      · rw [if_neg e2, zero_gt, if_neg (by omega : ¬ p ≤ k + (d + 1))]; rfl
theorem ord_part (A : List (List Nat)) (t : List Int) (m : Nat) (hA : Sq m A) (ht : Pr m t) (hat : ∀ r c, r < m → c < m → at2 A r c = if c = plN t r then four else 0) : ∀ k, k ≤ m →
    ∃ B π, partP A m k = some (B, π) ∧ Sq m B ∧ Pr m π ∧ (∀ r c, r < m → c < m → at2 B r c = if c = plN t (plN π r) then four else 0) ∧ ∀ r, r < k → plN t (plN π r) = r := by
  intro k
  induction k with
  | zero =>
    intro _
    refine ⟨A, rangeI m, rfl, hA, .range m, fun r c hr hc => ?_, fun r hr => by omega⟩
    rw [hat r c hr hc]
    have : plN (rangeI m) r = r := by unfold plN; rw [rangeI_getD m r hr]; rfl
    rw [this]
  | succ k ih =>
    intro hk
    obtain ⟨B, π, h1, h2, h3, h4, h5⟩ := ih (by omega)
    obtain ⟨q, hq, eq⟩ := ht.surN (c := k) (by omega)
    obtain ⟨p, hp, ep⟩ := h3.surN hq
    have hkp : k ≤ p := by
      by_cases e : p < k
      · have := h5 p e; rw [ep, eq] at this; omega
      · omega
    have hcol : ∀ r, r < m → at2 B r k = if r = p then four else 0 := by
      intro r hr
      rw [h4 r k hr (by omega)]
      by_cases e : r = p
      · rw [if_pos e, e, ep, eq, if_pos rfl]
      · rw [if_neg e, if_neg]
        intro h
        have h6 : plN π r = q := ht.injN (h3.lt hr) hq (by rw [eq]; exact h.symm)
        exact e (h3.injN hr hp (by rw [h6, ep]))
    have hpv := ord_pv B m k p (by omega) hkp hp hcol (m - 1 - k) (by omega)
    rw [if_pos (by omega)] at hpv
    have hpk := hcol p hp
    rw [if_pos rfl] at hpk
    have hC := swapL_sq B m k p h2 (by omega) hp
    have hCat : ∀ r c, at2 (swapL [] B k p) r c = at2 B (sw k p r) c := fun r c => at2_swapL B m k p r c h2 (by omega) hp
    have hCt : ∀ r c, r < m → c < m → at2 (swapL [] B k p) r c = if c = plN t (plN (swapL 0 π k p) r) then four else 0 := by
      intro r c hr hc
      rw [hCat, h4 _ _ (sw_lt (by omega) hp hr) hc, plN_swap h3 (by omega) hp]
    have hrow : ∀ r, r < k + 1 → plN t (plN (swapL 0 π k p) r) = r := by
      intro r hr
      rw [plN_swap h3 (by omega) hp]
      by_cases e : r = k
      · have : sw k p r = p := by unfold sw; rw [if_pos e]
        rw [this, ep, eq, e]
      · rw [sw_below hkp (by omega)]; exact h5 r (by omega)
    have hPr := h3.swap (a := k) (b := p) (by omega) hp
    refine ⟨elimI (swapL [] B k p) m k (m - 1 - k), swapL 0 π k p, ?_, elimI_sq _ _ _ hC _, hPr, fun r c hr hc => ?_, hrow⟩
    · simp only [partP, h1, Option.bind_some, stepP, hpv, hpk]
      rw [if_neg (by simp [four_one.h4, four_one.h5])]
    · rw [elim_at _ m k hC (by omega) r c hr hc]
      generalize swapL [] B k p = C at hC hCt
      generalize swapL 0 π k p = σ at hCt hrow hPr
      have hkk := hCt k k (by omega) (by omega)
      rw [hrow k (by omega), if_pos rfl] at hkk
      have hne : ∀ r, r < m → r ≠ k → plN t (plN σ r) ≠ k := by
        intro r hr e h
        exact e (hPr.injN hr (by omega) (ht.injN (hPr.lt hr) (hPr.lt (by omega)) (by rw [h, hrow k (by omega)])))
      unfold stepAt multP
      by_cases e1 : r ≤ k ∨ c < k
      · rw [if_pos e1]; exact hCt r c hr hc
      · rw [if_neg e1]
        have hrk := hCt r k hr (by omega)
        rw [if_neg (fun h => hne r hr (by omega) h.symm)] at hrk
        rw [hrk, hkk, four_one.h1]
        by_cases e2 : c = k
        · rw [if_pos e2, if_neg (fun h => hne r hr (by omega) (by rw [← h, e2]))]
        · have hkc := hCt k c (by omega) hc
          rw [hrow k (by omega), if_neg e2] at hkc
          rw [if_neg e2, hCt r c hr hc, hkc]
          split
          · exact four_one.h2
          · exact z0
theorem b_mulv (k : Nat) (hk : k < 201) : zz (fop .mul 0 (fop .div (numB k) four)) = true := (b_div 2 k (by decide) hk).1
theorem seqS_zero (v : Nat) (f : Nat → Nat) (a : Nat) (ha : a < 201) (hv : v = numB a) : ∀ m, (∀ j, j < m → zz (f j) = true) → seqS v f m = v := by
  intro m
  induction m with
  | zero => intro _; rfl
  | succ m ih => intro h; simp only [seqS]; rw [ih (fun j hj => h j (by omega)), hv]; exact b_sub a ha _ (h m (by omega))
theorem ord_solve (B : List (List Nat)) (π : List Int) (b : List Nat) (m : Nat) (hπ : Pr m π) (hat : ∀ r c, r < m → c < m → at2 B r c = if c = r then four else 0) (hb : ∀ i, i < m → ∃ k, k < 201 ∧ b.getD i 0 = numB k) :
    ∀ i, i < m → (solveP B π b m).getD i 0 = fop .div (b.getD (plN π i) 0) four := by
  obtain ⟨y, hy, hx⟩ := solve_spec B π b m
  generalize solveP B π b m = x at hx
  have hyv : ∀ n i, i < n → i < m → y i = b.getD (plN π i) 0 := by
    intro n
    induction n with
    | zero => intro i hi; omega
    | succ n ih =>
      intro i hi him
      obtain ⟨a, ha, e⟩ := hb _ (hπ.lt him)
      rw [hy i him]
      refine seqS_zero _ _ a ha e _ fun j hj => ?_
      obtain ⟨a2, ha2, e2⟩ := hb _ (hπ.lt (by omega : j < m))
      rw [hat i j him (by omega), if_neg (by omega), ih j (by omega) (by omega), e2]
      exact b_mul a2 ha2
  have hxv : ∀ n i, m - i < n → i < m → x.getD i 0 = fop .div (b.getD (plN π i) 0) four := by
    intro n
    induction n with
    | zero => intro i hi; omega
    | succ n ih =>
      intro i hi him
      obtain ⟨a, ha, e⟩ := hb _ (hπ.lt him)
      rw [hx i him, hat i i him him, if_pos rfl, hyv m i him him]
      congr 1
      refine seqS_zero _ _ a ha e _ fun j hj => ?_
      obtain ⟨a2, ha2, e2⟩ := hb _ (hπ.lt (by omega : i + 1 + j < m))
      rw [hat i (i + 1 + j) him (by omega), if_neg (by omega), ih (i + 1 + j) (by omega) (by omega), e2]
      exact b_mulv a2 ha2
  exact fun i hi => hxv (m + 1) i (by omega) hi
theorem ordM_sq (t : List Int) (m : Nat) : Sq m (ordM t m m) := ⟨ordM_len _ _ _, fun i hi => by simp [ordM, List.getD_eq_getElem?_getD, hi]⟩
theorem ordM_at (t : List Int) (m r c : Nat) (hr : r < m) (hc : c < m) (h : plN t r < m) : at2 (ordM t m m) r c = if c = plN t r then four else 0 := by
  have e : (ordM t m m).getD r [] = (List.replicate m 0).set (plN t r) four := by
    unfold ordM plN
    rw [List.getD_eq_getElem?_getD, List.getElem?_map]
    have h3 : (List.range m)[r]? = some r := by simp [hr]
    rw [h3]; rfl
  unfold at2
  rw [e, getD_set _ _ _ _ (by simpa using h)]
  split
  · rfl
  · simp [List.getD_eq_getElem?_getD, hc]
theorem fdiv_ne : ((List.range 201).all fun k => !fcmp .ne (fop .div (numB k) four) (fop .div (numB k) four)) = true := by kernel_rfl
theorem ord_law (t : List Int) (m : Nat) (bs : List Int) (ht : Pr m t) : ∃ B π, partP (ordM t m m) m m = some (B, π) ∧ ∀ i, i < m → fcmp .ne ((solveP B π (rowM m bs) m).getD (t.getD i 0).toNat 0) (fop .div ((rowM m bs).getD i 0) four) = false := by
  obtain ⟨B, π, h1, h2, h3, h4, h5⟩ := ord_part (ordM t m m) t m (ordM_sq t m) ht (fun r c hr hc => ordM_at t m r c hr hc (ht.lt hr)) m (Nat.le_refl m)
  refine ⟨B, π, h1, ?_⟩
  have hb : ∀ i, i < m → ∃ k, k < 201 ∧ (rowM m bs).getD i 0 = numB k := by
    intro i hi
    obtain ⟨k, hk, e⟩ := numR_B (if i < bs.length then bs.getD i 0 else i)
    refine ⟨k, hk, ?_⟩
    rw [← e]
    simp [rowM, List.getD_eq_getElem?_getD, hi]
  intro i hi
  have hx := ord_solve B π (rowM m bs) m h3 (fun r c hr hc => by rw [h4 r c hr hc, h5 r hr]) hb (plN t i) (ht.lt hi)
  have e : plN π (plN t i) = i := ht.injN (h3.lt (ht.lt hi)) hi (h5 _ (ht.lt hi))
  show fcmp .ne ((solveP B π (rowM m bs) m).getD (plN t i) 0) _ = false
  rw [hx, e]
  obtain ⟨k, hk, e⟩ := hb i hi
  rw [e]
  have := List.all_eq_true.1 fdiv_ne k (by simpa using hk)
  simpa using this
set_option maxRecDepth 8000 in
theorem l6_LinOrder_con (order bs : List Int) (n : Int) (ho : order.length < 2 ^ 62) (hbs : bs.length < 2 ^ 62) : Con Try.prog 6 [.d (rowI order), .d (rowI bs), fI n] (fB true) := by
  refine Con_introA A_l6_LinOrder_comp rfl mixed ?_
  simp -implicitDefEqProofs only [xC_skip, evS, decide_true, decide_false, decide_eq_true_eq, sides, Inst.places, List.zip_cons_cons, List.zip_nil_right, List.zip_nil_left, List.mem_cons, List.not_mem_nil, forall_eq_or_imp, forall_eq, false_implies, implies_true, Apart, xeff, xhv, hv, effC, xev, look, argSl, atL, drops, keep, inBlockT, pickX, callX, callCX, callee, List.map_cons, List.map_nil, List.append_nil, List.nil_append, List.cons_append, reduceCtorEq, ↓reduceIte, Nat.reduceEqDiff, Nat.reduceAdd, Nat.reduceMul, eq_self, List.length_replicate, Int.reduceToNat, Int.reduceAdd, Int.reduceSub, Int.reduceMul, Int.reduceNeg, Int.reduceLT, Int.reduceLE, rowD, rowI, rowsD, ivD, rowG, rowIG, rowsG, ivG, bne_self_eq_false, beq_self_eq_true, List.length_map, List.getD_cons_zero, List.getD_cons_succ, List.drop_succ_cons, List.drop_zero, List.take_succ_cons, List.take_zero, List.take_nil, List.getElem?_cons_zero, List.getElem?_cons_succ, List.length_cons, List.length_nil, List.length_set, List.set_cons_zero, List.set_cons_succ, List.all_cons, List.all_nil, Nat.reduceLT, Nat.reduceLeDiff, ne_eq, Option.some.injEq, fillV, partsV, V.okPart, gt_iff_lt, ge_iff_le, A_l6_LinOrder]
  first | refine callG_con (l6_known_con) rfl ?_ | refine callCG_con (l6_known_con) rfl ?_
  simp -implicitDefEqProofs only [xC_skip, evS, decide_true, decide_false, decide_eq_true_eq, sides, Inst.places, List.zip_cons_cons, List.zip_nil_right, List.zip_nil_left, List.mem_cons, List.not_mem_nil, forall_eq_or_imp, forall_eq, false_implies, implies_true, Apart, xeff, xhv, hv, effC, xev, look, argSl, atL, drops, keep, inBlockT, pickX, callX, callCX, callee, List.map_cons, List.map_nil, List.append_nil, List.nil_append, List.cons_append, reduceCtorEq, ↓reduceIte, Nat.reduceEqDiff, Nat.reduceAdd, Nat.reduceMul, eq_self, List.length_replicate, Int.reduceToNat, Int.reduceAdd, Int.reduceSub, Int.reduceMul, Int.reduceNeg, Int.reduceLT, Int.reduceLE, rowD, rowI, rowsD, ivD, rowG, rowIG, rowsG, ivG, bne_self_eq_false, beq_self_eq_true, List.length_map, List.getD_cons_zero, List.getD_cons_succ, List.drop_succ_cons, List.drop_zero, List.take_succ_cons, List.take_zero, List.take_nil, List.getElem?_cons_zero, List.getElem?_cons_succ, List.length_cons, List.length_nil, List.length_set, List.set_cons_zero, List.set_cons_succ, List.all_cons, List.all_nil, Nat.reduceLT, Nat.reduceLeDiff, ne_eq, Option.some.injEq, fillV, partsV, V.okPart, gt_iff_lt, ge_iff_le]
  first | refine callG_con (l6_within_con n 8 (by decide) (by decide)) rfl ?_ | refine callCG_con (l6_within_con n 8 (by decide) (by decide)) rfl ?_
  have m1 := Int.emod_nonneg n (by decide : (8 : Int) ≠ 0)
  have m2 := Int.emod_lt_of_pos n (by decide : (0 : Int) < 8)
  generalize n % 8 = z at m1 m2
  obtain ⟨z, rfl⟩ : ∃ z' : Nat, z = z' := ⟨z.toNat, by omega⟩
  have w1 : IntKind.i64.wrap (1 + (z : Int)) = ((z + 1 : Nat) : Int) := by rw [wrapI (by omega) (by omega)]; omega
  simp -implicitDefEqProofs only [xC_skip, evS, decide_true, decide_false, decide_eq_true_eq, sides, Inst.places, List.zip_cons_cons, List.zip_nil_right, List.zip_nil_left, List.mem_cons, List.not_mem_nil, forall_eq_or_imp, forall_eq, false_implies, implies_true, Apart, xeff, xhv, hv, effC, xev, look, argSl, atL, drops, keep, inBlockT, pickX, callX, callCX, callee, List.map_cons, List.map_nil, List.append_nil, List.nil_append, List.cons_append, reduceCtorEq, ↓reduceIte, Nat.reduceEqDiff, Nat.reduceAdd, Nat.reduceMul, eq_self, List.length_replicate, Int.reduceToNat, Int.reduceAdd, Int.reduceSub, Int.reduceMul, Int.reduceNeg, Int.reduceLT, Int.reduceLE, rowD, rowI, rowsD, ivD, rowG, rowIG, rowsG, ivG, bne_self_eq_false, beq_self_eq_true, List.length_map, List.getD_cons_zero, List.getD_cons_succ, List.drop_succ_cons, List.drop_zero, List.take_succ_cons, List.take_zero, List.take_nil, List.getElem?_cons_zero, List.getElem?_cons_succ, List.length_cons, List.length_nil, List.length_set, List.set_cons_zero, List.set_cons_succ, List.all_cons, List.all_nil, Nat.reduceLT, Nat.reduceLeDiff, ne_eq, Option.some.injEq, fillV, partsV, V.okPart, gt_iff_lt, ge_iff_le, w1]
  have hm8 : z + 1 ≤ 8 := by omega
  have hm0 : 0 < z + 1 := by omega
  generalize z + 1 = m at *
  refine order_L0 _ (fun _ h => h) order bs m (by omega) _ fun v w => ?_
  simp -implicitDefEqProofs only [xC_skip, evS, decide_true, decide_false, decide_eq_true_eq, sides, Inst.places, List.zip_cons_cons, List.zip_nil_right, List.zip_nil_left, List.mem_cons, List.not_mem_nil, forall_eq_or_imp, forall_eq, false_implies, implies_true, Apart, xeff, xhv, hv, effC, xev, look, argSl, atL, drops, keep, inBlockT, pickX, callX, callCX, callee, List.map_cons, List.map_nil, List.append_nil, List.nil_append, List.cons_append, reduceCtorEq, ↓reduceIte, Nat.reduceEqDiff, Nat.reduceAdd, Nat.reduceMul, eq_self, List.length_replicate, Int.reduceToNat, Int.reduceAdd, Int.reduceSub, Int.reduceMul, Int.reduceNeg, Int.reduceLT, Int.reduceLE, rowD, rowI, rowsD, ivD, rowG, rowIG, rowsG, ivG, bne_self_eq_false, beq_self_eq_true, List.length_map, List.getD_cons_zero, List.getD_cons_succ, List.drop_succ_cons, List.drop_zero, List.take_succ_cons, List.take_zero, List.take_nil, List.getElem?_cons_zero, List.getElem?_cons_succ, List.length_cons, List.length_nil, List.length_set, List.set_cons_zero, List.set_cons_succ, List.all_cons, List.all_nil, Nat.reduceLT, Nat.reduceLeDiff, ne_eq, Option.some.injEq, fillV, partsV, V.okPart, gt_iff_lt, ge_iff_le]
  refine order_L1 _ order bs m hm0 (by omega) ho _ fun v w i => ?_
  have ht := swO_pr order m hm0 i
  generalize swO order m i = t at ht
  simp -implicitDefEqProofs only [xC_skip, evS, decide_true, decide_false, decide_eq_true_eq, sides, Inst.places, List.zip_cons_cons, List.zip_nil_right, List.zip_nil_left, List.mem_cons, List.not_mem_nil, forall_eq_or_imp, forall_eq, false_implies, implies_true, Apart, xeff, xhv, hv, effC, xev, look, argSl, atL, drops, keep, inBlockT, pickX, callX, callCX, callee, List.map_cons, List.map_nil, List.append_nil, List.nil_append, List.cons_append, reduceCtorEq, ↓reduceIte, Nat.reduceEqDiff, Nat.reduceAdd, Nat.reduceMul, eq_self, List.length_replicate, Int.reduceToNat, Int.reduceAdd, Int.reduceSub, Int.reduceMul, Int.reduceNeg, Int.reduceLT, Int.reduceLE, rowD, rowI, rowsD, ivD, rowG, rowIG, rowsG, ivG, bne_self_eq_false, beq_self_eq_true, List.length_map, List.getD_cons_zero, List.getD_cons_succ, List.drop_succ_cons, List.drop_zero, List.take_succ_cons, List.take_zero, List.take_nil, List.getElem?_cons_zero, List.getElem?_cons_succ, List.length_cons, List.length_nil, List.length_set, List.set_cons_zero, List.set_cons_succ, List.all_cons, List.all_nil, Nat.reduceLT, Nat.reduceLeDiff, ne_eq, Option.some.injEq, fillV, partsV, V.okPart, gt_iff_lt, ge_iff_le]
  (repeat (with_reducible refine And.intro (by omega) ?_))
  refine order_L2 _ (fun _ h => h) bs t m (by omega) ht.pl _ fun v w => ?_
  simp -implicitDefEqProofs only [xC_skip, evS, decide_true, decide_false, decide_eq_true_eq, sides, Inst.places, List.zip_cons_cons, List.zip_nil_right, List.zip_nil_left, List.mem_cons, List.not_mem_nil, forall_eq_or_imp, forall_eq, false_implies, implies_true, Apart, xeff, xhv, hv, effC, xev, look, argSl, atL, drops, keep, inBlockT, pickX, callX, callCX, callee, List.map_cons, List.map_nil, List.append_nil, List.nil_append, List.cons_append, reduceCtorEq, ↓reduceIte, Nat.reduceEqDiff, Nat.reduceAdd, Nat.reduceMul, eq_self, List.length_replicate, Int.reduceToNat, Int.reduceAdd, Int.reduceSub, Int.reduceMul, Int.reduceNeg, Int.reduceLT, Int.reduceLE, rowD, rowI, rowsD, ivD, rowG, rowIG, rowsG, ivG, bne_self_eq_false, beq_self_eq_true, List.length_map, List.getD_cons_zero, List.getD_cons_succ, List.drop_succ_cons, List.drop_zero, List.take_succ_cons, List.take_zero, List.take_nil, List.getElem?_cons_zero, List.getElem?_cons_succ, List.length_cons, List.length_nil, List.length_set, List.set_cons_zero, List.set_cons_succ, List.all_cons, List.all_nil, Nat.reduceLT, Nat.reduceLeDiff, ne_eq, Option.some.injEq, fillV, partsV, V.okPart, gt_iff_lt, ge_iff_le]
  first | refine callG_con (l6_row_con m bs (by omega) hbs) rfl ?_ | refine callCG_con (l6_row_con m bs (by omega) hbs) rfl ?_
  simp -implicitDefEqProofs only [xC_skip, evS, decide_true, decide_false, decide_eq_true_eq, sides, Inst.places, List.zip_cons_cons, List.zip_nil_right, List.zip_nil_left, List.mem_cons, List.not_mem_nil, forall_eq_or_imp, forall_eq, false_implies, implies_true, Apart, xeff, xhv, hv, effC, xev, look, argSl, atL, drops, keep, inBlockT, pickX, callX, callCX, callee, List.map_cons, List.map_nil, List.append_nil, List.nil_append, List.cons_append, reduceCtorEq, ↓reduceIte, Nat.reduceEqDiff, Nat.reduceAdd, Nat.reduceMul, eq_self, List.length_replicate, Int.reduceToNat, Int.reduceAdd, Int.reduceSub, Int.reduceMul, Int.reduceNeg, Int.reduceLT, Int.reduceLE, rowD, rowI, rowsD, ivD, rowG, rowIG, rowsG, ivG, bne_self_eq_false, beq_self_eq_true, List.length_map, List.getD_cons_zero, List.getD_cons_succ, List.drop_succ_cons, List.drop_zero, List.take_succ_cons, List.take_zero, List.take_nil, List.getElem?_cons_zero, List.getElem?_cons_succ, List.length_cons, List.length_nil, List.length_set, List.set_cons_zero, List.set_cons_succ, List.all_cons, List.all_nil, Nat.reduceLT, Nat.reduceLeDiff, ne_eq, Option.some.injEq, fillV, partsV, V.okPart, gt_iff_lt, ge_iff_le]
  have hsq := ordM_sq t m
  obtain ⟨B, π, hp, hx⟩ := ord_law t m bs ht
  obtain ⟨hB, hπl⟩ := partP_sq _ _ hsq _ (Nat.le_refl _) B π hp
  have hpm := partP_pm _ _ _ (Nat.le_refl _) B π hp
  have hbl := rowM_len m bs
  generalize rowM m bs = b at hbl hx
  generalize ordM t m m = A at hsq hp
  refine callG_ac (AC_frameK 1000 (by simp [Heap.next]) (us := [.d (rowsD A)]) (lin_Part_some A m hsq (by omega) B π hp) rfl (.inr ⟨fun j hj => ?_, pure_luV m true, pure_lu B π m⟩)) ?_
  · obtain rfl : j = 0 := by simpa using hj
    have e : hd 150 m m m = hdo 150 0 m m := by
      have := hd_ren (fun X r => (X, r)) 150 150 0 m m (fun j _ => rfl)
      rw [← this]
      refine List.ext_getElem? fun j => ?_
      simp only [hd, List.getElem?_map]
      by_cases hj : j < m
      · have h3 : (List.range m)[j]? = some j := by simp [hj]
        simp [h3, hj, V.ren]
      · have h3 : (List.range m)[j]? = none := by simp; omega
        simp [h3]
    refine snp_rows (X := 150) (o := 0) (by simp [get_cons, e]) (fun r hr => ⟨?_, hsq.2 r hr⟩) hsq.1 rfl
    have := hsq.1
    rw [get_cons, if_pos rfl, Nat.add_zero]
    exact getE _ r (by omega)
  have hh : (hdo 2 1 m m).map (V.ren (upF 1000)) = hdo 1002 1 m m := hdo_ren _ 2 1 m m 1002 1 (fun j _ => rfl)
  have hf : (B.map rowV).map (fun c => c.map (V.ren (upF 1000))) = B.map rowV := ren_fam _ B
  have hi' : (rowIV π).map (V.ren (upF 1000)) = rowIV π := ren_rowIV _ _
  simp -implicitDefEqProofs only [xC_skip, evS, decide_true, decide_false, decide_eq_true_eq, sides, Inst.places, List.zip_cons_cons, List.zip_nil_right, List.zip_nil_left, List.mem_cons, List.not_mem_nil, forall_eq_or_imp, forall_eq, false_implies, implies_true, Apart, xeff, xhv, hv, effC, xev, look, argSl, atL, drops, keep, inBlockT, pickX, callX, callCX, callee, List.map_cons, List.map_nil, List.append_nil, List.nil_append, List.cons_append, reduceCtorEq, ↓reduceIte, Nat.reduceEqDiff, Nat.reduceAdd, Nat.reduceMul, eq_self, List.length_replicate, Int.reduceToNat, Int.reduceAdd, Int.reduceSub, Int.reduceMul, Int.reduceNeg, Int.reduceLT, Int.reduceLE, rowD, rowI, rowsD, ivD, rowG, rowIG, rowsG, ivG, bne_self_eq_false, beq_self_eq_true, List.length_map, List.getD_cons_zero, List.getD_cons_succ, List.drop_succ_cons, List.drop_zero, List.take_succ_cons, List.take_zero, List.take_nil, List.getElem?_cons_zero, List.getElem?_cons_succ, List.length_cons, List.length_nil, List.length_set, List.set_cons_zero, List.set_cons_succ, List.all_cons, List.all_nil, Nat.reduceLT, Nat.reduceLeDiff, ne_eq, Option.some.injEq, fillV, partsV, V.okPart, gt_iff_lt, ge_iff_le, Heap.up, luH, luV, V.ren, V.renL, hh, hf, hi', upF]
  have hsl : (solveP B π b m).length = m := by simp [solveP, bckI_len, fwdI_len]
  refine callG_ac (AC_frameK 1008 (by simp [Heap.next]) (us := [.agg [.d (rowsD B), .d (rowI π)], .d (rowD b)]) (lin_Solve_row B π b m hB hpm hbl (by omega)) rfl (.inr ⟨fun j hj => ?_, .sl .., fun X q cells hX j hj => ?_⟩)) ?_
  · rcases j with _ | _ | j
    · refine .agg rfl fun j hj => ?_
      rcases j with _ | _ | j
      · refine snp_rows (X := 1002) (o := 1) (by simp [get_cons]) (fun r hr => ⟨?_, hB.2 r hr⟩) hB.1 rfl
        have := hB.1
        have := getE B r (by omega)
        simp only [get_cons, Nat.reduceEqDiff, if_false, if_true, List.getElem?_cons_succ]
        exact this
      · exact snp_rowI (by simp [get_cons]) hπl rfl
      · simp at hj; omega
    · exact .d _
    · simp at hj; omega
  · rw [get_cons, get_nil] at hX
    split at hX
    · rcases q with _ | q <;> simp at hX; subst hX; exact pure_rowV _ j hj
    · cases hX
  generalize solveP B π b m = x at hsl hx
  have hfx : (rowV x).map (V.ren (upF 1008)) = rowV x := ren_rowV _ _
  simp -implicitDefEqProofs only [xC_skip, evS, decide_true, decide_false, decide_eq_true_eq, sides, Inst.places, List.zip_cons_cons, List.zip_nil_right, List.zip_nil_left, List.mem_cons, List.not_mem_nil, forall_eq_or_imp, forall_eq, false_implies, implies_true, Apart, xeff, xhv, hv, effC, xev, look, argSl, atL, drops, keep, inBlockT, pickX, callX, callCX, callee, List.map_cons, List.map_nil, List.append_nil, List.nil_append, List.cons_append, reduceCtorEq, ↓reduceIte, Nat.reduceEqDiff, Nat.reduceAdd, Nat.reduceMul, eq_self, List.length_replicate, Int.reduceToNat, Int.reduceAdd, Int.reduceSub, Int.reduceMul, Int.reduceNeg, Int.reduceLT, Int.reduceLE, rowD, rowI, rowsD, ivD, rowG, rowIG, rowsG, ivG, bne_self_eq_false, beq_self_eq_true, List.length_map, List.getD_cons_zero, List.getD_cons_succ, List.drop_succ_cons, List.drop_zero, List.take_succ_cons, List.take_zero, List.take_nil, List.getElem?_cons_zero, List.getElem?_cons_succ, List.length_cons, List.length_nil, List.length_set, List.set_cons_zero, List.set_cons_succ, List.all_cons, List.all_nil, Nat.reduceLT, Nat.reduceLeDiff, ne_eq, Option.some.injEq, fillV, partsV, V.okPart, gt_iff_lt, ge_iff_le, Heap.up, V.ren, V.renL, hfx, upF]
  refine order_L3 _ m b x t _ (by omega) ht.pl hbl hsl (by simp [get_cons]) (by simp [get_cons]) hx _ fun v w => ?_
  simp -implicitDefEqProofs only [xC_skip, evS, decide_true, decide_false, decide_eq_true_eq, sides, Inst.places, List.zip_cons_cons, List.zip_nil_right, List.zip_nil_left, List.mem_cons, List.not_mem_nil, forall_eq_or_imp, forall_eq, false_implies, implies_true, Apart, xeff, xhv, hv, effC, xev, look, argSl, atL, drops, keep, inBlockT, pickX, callX, callCX, callee, List.map_cons, List.map_nil, List.append_nil, List.nil_append, List.cons_append, reduceCtorEq, ↓reduceIte, Nat.reduceEqDiff, Nat.reduceAdd, Nat.reduceMul, eq_self, List.length_replicate, Int.reduceToNat, Int.reduceAdd, Int.reduceSub, Int.reduceMul, Int.reduceNeg, Int.reduceLT, Int.reduceLE, rowD, rowI, rowsD, ivD, rowG, rowIG, rowsG, ivG, bne_self_eq_false, beq_self_eq_true, List.length_map, List.getD_cons_zero, List.getD_cons_succ, List.drop_succ_cons, List.drop_zero, List.take_succ_cons, List.take_zero, List.take_nil, List.getElem?_cons_zero, List.getElem?_cons_succ, List.length_cons, List.length_nil, List.length_set, List.set_cons_zero, List.set_cons_succ, List.all_cons, List.all_nil, Nat.reduceLT, Nat.reduceLeDiff, ne_eq, Option.some.injEq, fillV, partsV, V.okPart, gt_iff_lt, ge_iff_le]
  exact endsT_rett rfl (by decide) (by simp [look])
end Go.Ab
