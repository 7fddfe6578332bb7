/- What the statements are made of: rows of numbers. -/
import Derived.Test.YtnoeajoeeldimaaLE
namespace Go.Ab
set_option linter.unusedSimpArgs false
set_option linter.unusedVariables false
open Go Go.Proofs
theorem l1_within_con (a n : Int) (hn : 0 < n) (hn2 : n < 2 ^ 62) : Con Try.prog 49 [fI a, fI n] (fI (a % n)) := by
  rw [← tmod_fix a n hn]
  refine Con_introA A_l1_within_comp rfl mixed ?_
  simp -implicitDefEqProofs only [xC_skip, evS, decide_true, decide_false, decide_eq_true_eq, sides, Inst.places, List.zip_cons_cons, List.zip_nil_right, List.zip_nil_left, List.mem_cons, List.not_mem_nil, forall_eq_or_imp, forall_eq, false_implies, implies_true, Apart, xeff, xhv, hv, effC, xev, look, argSl, atL, drops, keep, inBlockT, pickX, callX, callCX, callSX, callee, List.map_cons, List.map_nil, List.append_nil, List.nil_append, List.cons_append, reduceCtorEq, ↓reduceIte, Nat.reduceEqDiff, Nat.reduceAdd, Nat.reduceMul, eq_self, List.length_replicate, Int.reduceToNat, Int.reduceAdd, Int.reduceSub, Int.reduceMul, Int.reduceNeg, Int.reduceLT, Int.reduceLE, rowD, rowI, rowsD, ivD, rowG, rowIG, rowsG, ivG, bne_self_eq_false, beq_self_eq_true, List.length_map, List.getD_cons_zero, List.getD_cons_succ, List.drop_succ_cons, List.drop_zero, List.take_succ_cons, List.take_zero, List.take_nil, List.getElem?_cons_zero, List.getElem?_cons_succ, List.length_cons, List.length_nil, List.length_set, List.set_cons_zero, List.set_cons_succ, List.all_cons, List.all_nil, Nat.reduceLT, Nat.reduceLeDiff, ne_eq, Option.some.injEq, fillV, partsV, V.okPart, gt_iff_lt, ge_iff_le, A_l1_within]
  refine ⟨by omega, ?_⟩
  have h1 := Int.tmod_lt_of_pos a hn
  have h6 := Int.lt_tmod_of_pos a hn
  refine condC_intro (fun h => ?_) (fun h => ?_)
  · simp -implicitDefEqProofs only [xC_skip, evS, decide_true, decide_false, decide_eq_true_eq, sides, Inst.places, List.zip_cons_cons, List.zip_nil_right, List.zip_nil_left, List.mem_cons, List.not_mem_nil, forall_eq_or_imp, forall_eq, false_implies, implies_true, Apart, xeff, xhv, hv, effC, xev, look, argSl, atL, drops, keep, inBlockT, pickX, callX, callCX, callSX, callee, List.map_cons, List.map_nil, List.append_nil, List.nil_append, List.cons_append, reduceCtorEq, ↓reduceIte, Nat.reduceEqDiff, Nat.reduceAdd, Nat.reduceMul, eq_self, List.length_replicate, Int.reduceToNat, Int.reduceAdd, Int.reduceSub, Int.reduceMul, Int.reduceNeg, Int.reduceLT, Int.reduceLE, rowD, rowI, rowsD, ivD, rowG, rowIG, rowsG, ivG, bne_self_eq_false, beq_self_eq_true, List.length_map, List.getD_cons_zero, List.getD_cons_succ, List.drop_succ_cons, List.drop_zero, List.take_succ_cons, List.take_zero, List.take_nil, List.getElem?_cons_zero, List.getElem?_cons_succ, List.length_cons, List.length_nil, List.length_set, List.set_cons_zero, List.set_cons_succ, List.all_cons, List.all_nil, Nat.reduceLT, Nat.reduceLeDiff, ne_eq, Option.some.injEq, fillV, partsV, V.okPart, gt_iff_lt, ge_iff_le]
    replace h := of_decide_eq_true h
    rw [wrapI (by omega) (by omega), if_pos h]
    exact endsT_rett rfl (by decide) (by simp [look])
  · replace h := of_decide_eq_false h
    simp -implicitDefEqProofs only [xC_skip, evS, decide_true, decide_false, decide_eq_true_eq, sides, Inst.places, List.zip_cons_cons, List.zip_nil_right, List.zip_nil_left, List.mem_cons, List.not_mem_nil, forall_eq_or_imp, forall_eq, false_implies, implies_true, Apart, xeff, xhv, hv, effC, xev, look, argSl, atL, drops, keep, inBlockT, pickX, callX, callCX, callSX, callee, List.map_cons, List.map_nil, List.append_nil, List.nil_append, List.cons_append, reduceCtorEq, ↓reduceIte, Nat.reduceEqDiff, Nat.reduceAdd, Nat.reduceMul, eq_self, List.length_replicate, Int.reduceToNat, Int.reduceAdd, Int.reduceSub, Int.reduceMul, Int.reduceNeg, Int.reduceLT, Int.reduceLE, rowD, rowI, rowsD, ivD, rowG, rowIG, rowsG, ivG, bne_self_eq_false, beq_self_eq_true, List.length_map, List.getD_cons_zero, List.getD_cons_succ, List.drop_succ_cons, List.drop_zero, List.take_succ_cons, List.take_zero, List.take_nil, List.getElem?_cons_zero, List.getElem?_cons_succ, List.length_cons, List.length_nil, List.length_set, List.set_cons_zero, List.set_cons_succ, List.all_cons, List.all_nil, Nat.reduceLT, Nat.reduceLeDiff, ne_eq, Option.some.injEq, fillV, partsV, V.okPart, gt_iff_lt, ge_iff_le]
    rw [if_neg h]
    exact endsT_rett rfl (by decide) (by simp [look])
def rareL : List Nat := [qnan, finf, fninf, 0, 1, 18442240474082181119, 9218868437227405311, 4607182418800017408, 4602678819172646912, 13835058055282163712]
theorem l1_Rare_con (n : Int) : Con Try.prog 31 [fI n] (fl (rareL.getD (n % 10).toNat 0)) := by
  refine Con_introA A_l1_Rare_comp rfl mixed ?_
  simp -implicitDefEqProofs only [xC_skip, evS, decide_true, decide_false, decide_eq_true_eq, sides, Inst.places, List.zip_cons_cons, List.zip_nil_right, List.zip_nil_left, List.mem_cons, List.not_mem_nil, forall_eq_or_imp, forall_eq, false_implies, implies_true, Apart, xeff, xhv, hv, effC, xev, look, argSl, atL, drops, keep, inBlockT, pickX, callX, callCX, callSX, callee, List.map_cons, List.map_nil, List.append_nil, List.nil_append, List.cons_append, reduceCtorEq, ↓reduceIte, Nat.reduceEqDiff, Nat.reduceAdd, Nat.reduceMul, eq_self, List.length_replicate, Int.reduceToNat, Int.reduceAdd, Int.reduceSub, Int.reduceMul, Int.reduceNeg, Int.reduceLT, Int.reduceLE, rowD, rowI, rowsD, ivD, rowG, rowIG, rowsG, ivG, bne_self_eq_false, beq_self_eq_true, List.length_map, List.getD_cons_zero, List.getD_cons_succ, List.drop_succ_cons, List.drop_zero, List.take_succ_cons, List.take_zero, List.take_nil, List.getElem?_cons_zero, List.getElem?_cons_succ, List.length_cons, List.length_nil, List.length_set, List.set_cons_zero, List.set_cons_succ, List.all_cons, List.all_nil, Nat.reduceLT, Nat.reduceLeDiff, ne_eq, Option.some.injEq, fillV, partsV, V.okPart, gt_iff_lt, ge_iff_le, A_l1_Rare]
  first | refine callG_con (math_NaN_con) rfl ?_ | refine callCG_con (math_NaN_con) rfl ?_ | refine callSG_con (math_NaN_con) rfl ?_
  simp -implicitDefEqProofs only [xC_skip, evS, decide_true, decide_false, decide_eq_true_eq, sides, Inst.places, List.zip_cons_cons, List.zip_nil_right, List.zip_nil_left, List.mem_cons, List.not_mem_nil, forall_eq_or_imp, forall_eq, false_implies, implies_true, Apart, xeff, xhv, hv, effC, xev, look, argSl, atL, drops, keep, inBlockT, pickX, callX, callCX, callSX, callee, List.map_cons, List.map_nil, List.append_nil, List.nil_append, List.cons_append, reduceCtorEq, ↓reduceIte, Nat.reduceEqDiff, Nat.reduceAdd, Nat.reduceMul, eq_self, List.length_replicate, Int.reduceToNat, Int.reduceAdd, Int.reduceSub, Int.reduceMul, Int.reduceNeg, Int.reduceLT, Int.reduceLE, rowD, rowI, rowsD, ivD, rowG, rowIG, rowsG, ivG, bne_self_eq_false, beq_self_eq_true, List.length_map, List.getD_cons_zero, List.getD_cons_succ, List.drop_succ_cons, List.drop_zero, List.take_succ_cons, List.take_zero, List.take_nil, List.getElem?_cons_zero, List.getElem?_cons_succ, List.length_cons, List.length_nil, List.length_set, List.set_cons_zero, List.set_cons_succ, List.all_cons, List.all_nil, Nat.reduceLT, Nat.reduceLeDiff, ne_eq, Option.some.injEq, fillV, partsV, V.okPart, gt_iff_lt, ge_iff_le]
  first | refine callG_con (math_Inf_pos) rfl ?_ | refine callCG_con (math_Inf_pos) rfl ?_ | refine callSG_con (math_Inf_pos) rfl ?_
  simp -implicitDefEqProofs only [xC_skip, evS, decide_true, decide_false, decide_eq_true_eq, sides, Inst.places, List.zip_cons_cons, List.zip_nil_right, List.zip_nil_left, List.mem_cons, List.not_mem_nil, forall_eq_or_imp, forall_eq, false_implies, implies_true, Apart, xeff, xhv, hv, effC, xev, look, argSl, atL, drops, keep, inBlockT, pickX, callX, callCX, callSX, callee, List.map_cons, List.map_nil, List.append_nil, List.nil_append, List.cons_append, reduceCtorEq, ↓reduceIte, Nat.reduceEqDiff, Nat.reduceAdd, Nat.reduceMul, eq_self, List.length_replicate, Int.reduceToNat, Int.reduceAdd, Int.reduceSub, Int.reduceMul, Int.reduceNeg, Int.reduceLT, Int.reduceLE, rowD, rowI, rowsD, ivD, rowG, rowIG, rowsG, ivG, bne_self_eq_false, beq_self_eq_true, List.length_map, List.getD_cons_zero, List.getD_cons_succ, List.drop_succ_cons, List.drop_zero, List.take_succ_cons, List.take_zero, List.take_nil, List.getElem?_cons_zero, List.getElem?_cons_succ, List.length_cons, List.length_nil, List.length_set, List.set_cons_zero, List.set_cons_succ, List.all_cons, List.all_nil, Nat.reduceLT, Nat.reduceLeDiff, ne_eq, Option.some.injEq, fillV, partsV, V.okPart, gt_iff_lt, ge_iff_le]
  first | refine callG_con (math_Inf_neg) rfl ?_ | refine callCG_con (math_Inf_neg) rfl ?_ | refine callSG_con (math_Inf_neg) rfl ?_
  simp -implicitDefEqProofs only [xC_skip, evS, decide_true, decide_false, decide_eq_true_eq, sides, Inst.places, List.zip_cons_cons, List.zip_nil_right, List.zip_nil_left, List.mem_cons, List.not_mem_nil, forall_eq_or_imp, forall_eq, false_implies, implies_true, Apart, xeff, xhv, hv, effC, xev, look, argSl, atL, drops, keep, inBlockT, pickX, callX, callCX, callSX, callee, List.map_cons, List.map_nil, List.append_nil, List.nil_append, List.cons_append, reduceCtorEq, ↓reduceIte, Nat.reduceEqDiff, Nat.reduceAdd, Nat.reduceMul, eq_self, List.length_replicate, Int.reduceToNat, Int.reduceAdd, Int.reduceSub, Int.reduceMul, Int.reduceNeg, Int.reduceLT, Int.reduceLE, rowD, rowI, rowsD, ivD, rowG, rowIG, rowsG, ivG, bne_self_eq_false, beq_self_eq_true, List.length_map, List.getD_cons_zero, List.getD_cons_succ, List.drop_succ_cons, List.drop_zero, List.take_succ_cons, List.take_zero, List.take_nil, List.getElem?_cons_zero, List.getElem?_cons_succ, List.length_cons, List.length_nil, List.length_set, List.set_cons_zero, List.set_cons_succ, List.all_cons, List.all_nil, Nat.reduceLT, Nat.reduceLeDiff, ne_eq, Option.some.injEq, fillV, partsV, V.okPart, gt_iff_lt, ge_iff_le]
  first | refine callG_con (l1_within_con n 10 (by decide) (by decide)) rfl ?_ | refine callCG_con (l1_within_con n 10 (by decide) (by decide)) rfl ?_ | refine callSG_con (l1_within_con n 10 (by decide) (by decide)) rfl ?_
  have h1 := Int.emod_nonneg n (by decide : (10 : Int) ≠ 0)
  have h2 := Int.emod_lt_of_pos n (by decide : (0 : Int) < 10)
  simp -implicitDefEqProofs only [xC_skip, evS, decide_true, decide_false, decide_eq_true_eq, sides, Inst.places, List.zip_cons_cons, List.zip_nil_right, List.zip_nil_left, List.mem_cons, List.not_mem_nil, forall_eq_or_imp, forall_eq, false_implies, implies_true, Apart, xeff, xhv, hv, effC, xev, look, argSl, atL, drops, keep, inBlockT, pickX, callX, callCX, callSX, callee, List.map_cons, List.map_nil, List.append_nil, List.nil_append, List.cons_append, reduceCtorEq, ↓reduceIte, Nat.reduceEqDiff, Nat.reduceAdd, Nat.reduceMul, eq_self, List.length_replicate, Int.reduceToNat, Int.reduceAdd, Int.reduceSub, Int.reduceMul, Int.reduceNeg, Int.reduceLT, Int.reduceLE, rowD, rowI, rowsD, ivD, rowG, rowIG, rowsG, ivG, bne_self_eq_false, beq_self_eq_true, List.length_map, List.getD_cons_zero, List.getD_cons_succ, List.drop_succ_cons, List.drop_zero, List.take_succ_cons, List.take_zero, List.take_nil, List.getElem?_cons_zero, List.getElem?_cons_succ, List.length_cons, List.length_nil, List.length_set, List.set_cons_zero, List.set_cons_succ, List.all_cons, List.all_nil, Nat.reduceLT, Nat.reduceLeDiff, ne_eq, Option.some.injEq, fillV, partsV, V.okPart, gt_iff_lt, ge_iff_le]
  generalize n % 10 = z at h1 h2
  obtain ⟨m, rfl⟩ : ∃ m : Nat, z = m := ⟨z.toNat, by omega⟩
  refine ⟨⟨h1, h2⟩, by omega, ?_⟩
  simp only [Int.toNat_natCast]
  have : m < 10 := by omega
  refine endsT_rett rfl (by decide) ?_
  simp only [look, ↓reduceIte]
  rcases m with _ | _ | _ | _ | _ | _ | _ | _ | _ | _ | m
  all_goals first | rfl | omega
theorem l6_lu_con (a b : D) : Con Try.prog 19 [.agg [.d a, .d b]] (.agg [.d a, .d b]) := by
  refine Con_introA A_l6_lu_comp rfl mixed ?_
  simp -implicitDefEqProofs only [xC_skip, evS, decide_true, decide_false, decide_eq_true_eq, sides, Inst.places, List.zip_cons_cons, List.zip_nil_right, List.zip_nil_left, List.mem_cons, List.not_mem_nil, forall_eq_or_imp, forall_eq, false_implies, implies_true, Apart, xeff, xhv, hv, effC, xev, look, argSl, atL, drops, keep, inBlockT, pickX, callX, callCX, callSX, callee, List.map_cons, List.map_nil, List.append_nil, List.nil_append, List.cons_append, reduceCtorEq, ↓reduceIte, Nat.reduceEqDiff, Nat.reduceAdd, Nat.reduceMul, eq_self, List.length_replicate, Int.reduceToNat, Int.reduceAdd, Int.reduceSub, Int.reduceMul, Int.reduceNeg, Int.reduceLT, Int.reduceLE, rowD, rowI, rowsD, ivD, rowG, rowIG, rowsG, ivG, bne_self_eq_false, beq_self_eq_true, List.length_map, List.getD_cons_zero, List.getD_cons_succ, List.drop_succ_cons, List.drop_zero, List.take_succ_cons, List.take_zero, List.take_nil, List.getElem?_cons_zero, List.getElem?_cons_succ, List.length_cons, List.length_nil, List.length_set, List.set_cons_zero, List.set_cons_succ, List.all_cons, List.all_nil, Nat.reduceLT, Nat.reduceLeDiff, ne_eq, Option.some.injEq, fillV, partsV, V.okPart, gt_iff_lt, ge_iff_le, A_l6_lu]
  exact endsT_retm rfl (by decide) rfl rfl rfl (by simp) (by simp [ldv])
def numR (k : Int) : Nat := fop .div (FloatKind.nearest .f64 (k % 201 - 100)) 4620693217682128896
def rowM (n : Nat) (bs : List Int) : List Nat := (List.range n).map fun (i : Nat) => numR (if i < bs.length then bs.getD i 0 else i)
set_option maxRecDepth 8000 in
theorem l6_row_ac (n : Nat) (bs : List Int) (hn : n < 2 ^ 40) (hbs : bs.length < 2 ^ 62) : AC Try.prog 15 [fI n, .d (rowI bs)] [] [(100, [rowV (rowM n bs)])] (.sl 100 0 0 n 1 n) := by
  refine AC_introA A_l6_row_comp rfl mixed (fun _ => False) (by simp [get_nil]) ?_
  simp -implicitDefEqProofs only [xC_skip, evS, decide_true, decide_false, decide_eq_true_eq, sides, Inst.places, List.zip_cons_cons, List.zip_nil_right, List.zip_nil_left, List.mem_cons, List.not_mem_nil, forall_eq_or_imp, forall_eq, false_implies, implies_true, Apart, xeff, xhv, hv, effC, xev, look, argSl, atL, drops, keep, inBlockT, pickX, callX, callCX, callSX, callee, List.map_cons, List.map_nil, List.append_nil, List.nil_append, List.cons_append, reduceCtorEq, ↓reduceIte, Nat.reduceEqDiff, Nat.reduceAdd, Nat.reduceMul, eq_self, List.length_replicate, Int.reduceToNat, Int.reduceAdd, Int.reduceSub, Int.reduceMul, Int.reduceNeg, Int.reduceLT, Int.reduceLE, rowD, rowI, rowsD, ivD, rowG, rowIG, rowsG, ivG, bne_self_eq_false, beq_self_eq_true, List.length_map, List.getD_cons_zero, List.getD_cons_succ, List.drop_succ_cons, List.drop_zero, List.take_succ_cons, List.take_zero, List.take_nil, List.getElem?_cons_zero, List.getElem?_cons_succ, List.length_cons, List.length_nil, List.length_set, List.set_cons_zero, List.set_cons_succ, List.all_cons, List.all_nil, Nat.reduceLT, Nat.reduceLeDiff, ne_eq, Option.some.injEq, fillV, partsV, V.okPart, gt_iff_lt, ge_iff_le, A_l6_row]
  refine WA_forW (n := n) (fun c s => ∃ i, c + i = n ∧ s = ⟨[(0, fI n), (1, .d (rowI bs)), (5, .sl 100 0 0 i 1 i), (6, fI i)], [(100, [rowV (rowM i bs)])]⟩)
    (s0 := ⟨_, _⟩) (LeT.nilrow (X := 100) (esz := 1) (as' := [(0, fI n), (1, .d (rowI bs)), (5, .sl 100 0 0 0 1 0), (6, fI 0)]) rfl (fun h => h) fun i => ?_) ⟨0, rfl, rfl⟩ ?_
  · simp only [look]
    repeat' split
    all_goals simp [rowI]
  rintro c s ⟨i, hc, rfl⟩
  have step : ∀ (k : Int), k = (if i < bs.length then bs.getD i 0 else i) → i < n → ∀ (L0 : Heap) (Y : Nat), Y ≠ 100 → L0 = [(Y, [[fl (numR k)]]), (100, [rowV (rowM i bs) ++ [fl (numR k)]])] →
      nextW (fun _ => False) 31 (fun c s => ∃ i, c + i = n ∧ s = ⟨[(0, fI n), (1, .d (rowI bs)), (5, .sl 100 0 0 i 1 i), (6, fI i)], [(100, [rowV (rowM i bs)])]⟩) c ⟨[(0, fI n), (1, .d (rowI bs)), (5, .sl 100 0 0 (i + 1) 1 (i + 1)), (6, fI ((i : Int) + 1))], L0⟩ := by
    intro k hk hin L0 Y hY hL0
    subst hL0
    have e : rowV (rowM (i + 1) bs) = rowV (rowM i bs) ++ [fl (numR k)] := by
      rw [hk]; simp [rowM, List.range_succ]
    refine ⟨c - 1, _, by omega, ?_, i + 1, by omega, rfl⟩
    rw [e]
    refine LeT.drop (fun _ h => h) (fun p hp => ?_) (fun X r c hX => ?_)
    · simp only [List.mem_cons, List.not_mem_nil, or_false] at hp
      rcases hp with rfl | rfl | rfl | rfl
      all_goals first | exact .d (.d _) | exact .sl (by simp [get_cons]) rfl
    · rw [get_cons, get_nil] at hX
      split at hX
      · rename_i e2; subst e2
        rcases r with _ | r <;> simp only [List.getElem?_cons_zero, List.getElem?_cons_succ, List.getElem?_nil, Option.some.injEq, reduceCtorEq] at hX
        subst hX
        refine ⟨by rw [get_cons, if_neg (Ne.symm hY)]; simp [get_cons], fun v hv' => ?_⟩
        rw [← e] at hv'
        exact mem_rowV hv' _ _ _
      · cases hX
  have numw : ∀ k : Int, IntKind.i64.wrap (k % 201 - 100) = k % 201 - 100 := by
    intro k
    have h1 := Int.emod_nonneg k (by decide : (201 : Int) ≠ 0)
    have h2 := Int.emod_lt_of_pos k (by decide : (0 : Int) < 201)
    exact wrapI (by omega) (by omega)
  simp -implicitDefEqProofs only [xC_skip, evS, decide_true, decide_false, decide_eq_true_eq, sides, Inst.places, List.zip_cons_cons, List.zip_nil_right, List.zip_nil_left, List.mem_cons, List.not_mem_nil, forall_eq_or_imp, forall_eq, false_implies, implies_true, Apart, xeff, xhv, hv, effC, xev, look, argSl, atL, drops, keep, inBlockT, pickX, callX, callCX, callSX, callee, List.map_cons, List.map_nil, List.append_nil, List.nil_append, List.cons_append, reduceCtorEq, ↓reduceIte, Nat.reduceEqDiff, Nat.reduceAdd, Nat.reduceMul, eq_self, List.length_replicate, Int.reduceToNat, Int.reduceAdd, Int.reduceSub, Int.reduceMul, Int.reduceNeg, Int.reduceLT, Int.reduceLE, rowD, rowI, rowsD, ivD, rowG, rowIG, rowsG, ivG, bne_self_eq_false, beq_self_eq_true, List.length_map, List.getD_cons_zero, List.getD_cons_succ, List.drop_succ_cons, List.drop_zero, List.take_succ_cons, List.take_zero, List.take_nil, List.getElem?_cons_zero, List.getElem?_cons_succ, List.length_cons, List.length_nil, List.length_set, List.set_cons_zero, List.set_cons_succ, List.all_cons, List.all_nil, Nat.reduceLT, Nat.reduceLeDiff, ne_eq, Option.some.injEq, fillV, partsV, V.okPart, gt_iff_lt, ge_iff_le, A_l6_row_L0]
  refine condC_intro (fun h => ?_) (fun h => ?_)
  · replace h := of_decide_eq_true h
    simp -implicitDefEqProofs only [xC_skip, evS, decide_true, decide_false, decide_eq_true_eq, sides, Inst.places, List.zip_cons_cons, List.zip_nil_right, List.zip_nil_left, List.mem_cons, List.not_mem_nil, forall_eq_or_imp, forall_eq, false_implies, implies_true, Apart, xeff, xhv, hv, effC, xev, look, argSl, atL, drops, keep, inBlockT, pickX, callX, callCX, callSX, callee, List.map_cons, List.map_nil, List.append_nil, List.nil_append, List.cons_append, reduceCtorEq, ↓reduceIte, Nat.reduceEqDiff, Nat.reduceAdd, Nat.reduceMul, eq_self, List.length_replicate, Int.reduceToNat, Int.reduceAdd, Int.reduceSub, Int.reduceMul, Int.reduceNeg, Int.reduceLT, Int.reduceLE, rowD, rowI, rowsD, ivD, rowG, rowIG, rowsG, ivG, bne_self_eq_false, beq_self_eq_true, List.length_map, List.getD_cons_zero, List.getD_cons_succ, List.drop_succ_cons, List.drop_zero, List.take_succ_cons, List.take_zero, List.take_nil, List.getElem?_cons_zero, List.getElem?_cons_succ, List.length_cons, List.length_nil, List.length_set, List.set_cons_zero, List.set_cons_succ, List.all_cons, List.all_nil, Nat.reduceLT, Nat.reduceLeDiff, ne_eq, Option.some.injEq, fillV, partsV, V.okPart, gt_iff_lt, ge_iff_le]
    refine condC_intro (fun h3 => ?_) (fun h3 => ?_)
    · replace h3 := of_decide_eq_true h3
      simp -implicitDefEqProofs only [xC_skip, evS, decide_true, decide_false, decide_eq_true_eq, sides, Inst.places, List.zip_cons_cons, List.zip_nil_right, List.zip_nil_left, List.mem_cons, List.not_mem_nil, forall_eq_or_imp, forall_eq, false_implies, implies_true, Apart, xeff, xhv, hv, effC, xev, look, argSl, atL, drops, keep, inBlockT, pickX, callX, callCX, callSX, callee, List.map_cons, List.map_nil, List.append_nil, List.nil_append, List.cons_append, reduceCtorEq, ↓reduceIte, Nat.reduceEqDiff, Nat.reduceAdd, Nat.reduceMul, eq_self, List.length_replicate, Int.reduceToNat, Int.reduceAdd, Int.reduceSub, Int.reduceMul, Int.reduceNeg, Int.reduceLT, Int.reduceLE, rowD, rowI, rowsD, ivD, rowG, rowIG, rowsG, ivG, bne_self_eq_false, beq_self_eq_true, List.length_map, List.getD_cons_zero, List.getD_cons_succ, List.drop_succ_cons, List.drop_zero, List.take_succ_cons, List.take_zero, List.take_nil, List.getElem?_cons_zero, List.getElem?_cons_succ, List.length_cons, List.length_nil, List.length_set, List.set_cons_zero, List.set_cons_succ, List.all_cons, List.all_nil, Nat.reduceLT, Nat.reduceLeDiff, ne_eq, Option.some.injEq, fillV, partsV, V.okPart, gt_iff_lt, ge_iff_le]
      (repeat (with_reducible refine And.intro (by omega) ?_))
      first | refine callG_con (l6_within_con (bs.getD i 0) 201 (by decide) (by decide)) rfl ?_ | refine callCG_con (l6_within_con (bs.getD i 0) 201 (by decide) (by decide)) rfl ?_ | refine callSG_con (l6_within_con (bs.getD i 0) 201 (by decide) (by decide)) rfl ?_
      simp -implicitDefEqProofs only [xC_skip, evS, decide_true, decide_false, decide_eq_true_eq, sides, Inst.places, List.zip_cons_cons, List.zip_nil_right, List.zip_nil_left, List.mem_cons, List.not_mem_nil, forall_eq_or_imp, forall_eq, false_implies, implies_true, Apart, xeff, xhv, hv, effC, xev, look, argSl, atL, drops, keep, inBlockT, pickX, callX, callCX, callSX, callee, List.map_cons, List.map_nil, List.append_nil, List.nil_append, List.cons_append, reduceCtorEq, ↓reduceIte, Nat.reduceEqDiff, Nat.reduceAdd, Nat.reduceMul, eq_self, List.length_replicate, Int.reduceToNat, Int.reduceAdd, Int.reduceSub, Int.reduceMul, Int.reduceNeg, Int.reduceLT, Int.reduceLE, rowD, rowI, rowsD, ivD, rowG, rowIG, rowsG, ivG, bne_self_eq_false, beq_self_eq_true, List.length_map, List.getD_cons_zero, List.getD_cons_succ, List.drop_succ_cons, List.drop_zero, List.take_succ_cons, List.take_zero, List.take_nil, List.getElem?_cons_zero, List.getElem?_cons_succ, List.length_cons, List.length_nil, List.length_set, List.set_cons_zero, List.set_cons_succ, List.all_cons, List.all_nil, Nat.reduceLT, Nat.reduceLeDiff, ne_eq, Option.some.injEq, fillV, partsV, V.okPart, gt_iff_lt, ge_iff_le, numw]
      have hlr : (rowM i bs).length = i := by simp [rowM]
      (repeat (with_reducible refine And.intro (by omega) ?_))
      rw [wrapI (by omega) (by omega)]
      exact step (bs.getD i 0) (by rw [if_pos h3]) h _ _ (by decide) rfl
    · replace h3 := of_decide_eq_false h3
      simp -implicitDefEqProofs only [xC_skip, evS, decide_true, decide_false, decide_eq_true_eq, sides, Inst.places, List.zip_cons_cons, List.zip_nil_right, List.zip_nil_left, List.mem_cons, List.not_mem_nil, forall_eq_or_imp, forall_eq, false_implies, implies_true, Apart, xeff, xhv, hv, effC, xev, look, argSl, atL, drops, keep, inBlockT, pickX, callX, callCX, callSX, callee, List.map_cons, List.map_nil, List.append_nil, List.nil_append, List.cons_append, reduceCtorEq, ↓reduceIte, Nat.reduceEqDiff, Nat.reduceAdd, Nat.reduceMul, eq_self, List.length_replicate, Int.reduceToNat, Int.reduceAdd, Int.reduceSub, Int.reduceMul, Int.reduceNeg, Int.reduceLT, Int.reduceLE, rowD, rowI, rowsD, ivD, rowG, rowIG, rowsG, ivG, bne_self_eq_false, beq_self_eq_true, List.length_map, List.getD_cons_zero, List.getD_cons_succ, List.drop_succ_cons, List.drop_zero, List.take_succ_cons, List.take_zero, List.take_nil, List.getElem?_cons_zero, List.getElem?_cons_succ, List.length_cons, List.length_nil, List.length_set, List.set_cons_zero, List.set_cons_succ, List.all_cons, List.all_nil, Nat.reduceLT, Nat.reduceLeDiff, ne_eq, Option.some.injEq, fillV, partsV, V.okPart, gt_iff_lt, ge_iff_le]
      first | refine callG_con (l6_within_con i 201 (by decide) (by decide)) rfl ?_ | refine callCG_con (l6_within_con i 201 (by decide) (by decide)) rfl ?_ | refine callSG_con (l6_within_con i 201 (by decide) (by decide)) rfl ?_
      simp -implicitDefEqProofs only [xC_skip, evS, decide_true, decide_false, decide_eq_true_eq, sides, Inst.places, List.zip_cons_cons, List.zip_nil_right, List.zip_nil_left, List.mem_cons, List.not_mem_nil, forall_eq_or_imp, forall_eq, false_implies, implies_true, Apart, xeff, xhv, hv, effC, xev, look, argSl, atL, drops, keep, inBlockT, pickX, callX, callCX, callSX, callee, List.map_cons, List.map_nil, List.append_nil, List.nil_append, List.cons_append, reduceCtorEq, ↓reduceIte, Nat.reduceEqDiff, Nat.reduceAdd, Nat.reduceMul, eq_self, List.length_replicate, Int.reduceToNat, Int.reduceAdd, Int.reduceSub, Int.reduceMul, Int.reduceNeg, Int.reduceLT, Int.reduceLE, rowD, rowI, rowsD, ivD, rowG, rowIG, rowsG, ivG, bne_self_eq_false, beq_self_eq_true, List.length_map, List.getD_cons_zero, List.getD_cons_succ, List.drop_succ_cons, List.drop_zero, List.take_succ_cons, List.take_zero, List.take_nil, List.getElem?_cons_zero, List.getElem?_cons_succ, List.length_cons, List.length_nil, List.length_set, List.set_cons_zero, List.set_cons_succ, List.all_cons, List.all_nil, Nat.reduceLT, Nat.reduceLeDiff, ne_eq, Option.some.injEq, fillV, partsV, V.okPart, gt_iff_lt, ge_iff_le, numw]
      have hlr : (rowM i bs).length = i := by simp [rowM]
      (repeat (with_reducible refine And.intro (by omega) ?_))
      rw [wrapI (by omega) (by omega)]
      exact step i (by rw [if_neg h3]) h _ _ (by decide) rfl
  · replace h := of_decide_eq_false h
    simp -implicitDefEqProofs only [xC_skip, evS, decide_true, decide_false, decide_eq_true_eq, sides, Inst.places, List.zip_cons_cons, List.zip_nil_right, List.zip_nil_left, List.mem_cons, List.not_mem_nil, forall_eq_or_imp, forall_eq, false_implies, implies_true, Apart, xeff, xhv, hv, effC, xev, look, argSl, atL, drops, keep, inBlockT, pickX, callX, callCX, callSX, callee, List.map_cons, List.map_nil, List.append_nil, List.nil_append, List.cons_append, reduceCtorEq, ↓reduceIte, Nat.reduceEqDiff, Nat.reduceAdd, Nat.reduceMul, eq_self, List.length_replicate, Int.reduceToNat, Int.reduceAdd, Int.reduceSub, Int.reduceMul, Int.reduceNeg, Int.reduceLT, Int.reduceLE, rowD, rowI, rowsD, ivD, rowG, rowIG, rowsG, ivG, bne_self_eq_false, beq_self_eq_true, List.length_map, List.getD_cons_zero, List.getD_cons_succ, List.drop_succ_cons, List.drop_zero, List.take_succ_cons, List.take_zero, List.take_nil, List.getElem?_cons_zero, List.getElem?_cons_succ, List.length_cons, List.length_nil, List.length_set, List.set_cons_zero, List.set_cons_succ, List.all_cons, List.all_nil, Nat.reduceLT, Nat.reduceLeDiff, ne_eq, Option.some.injEq, fillV, partsV, V.okPart, gt_iff_lt, ge_iff_le]
    obtain rfl : n = i := by omega
    refine endsT_keep (fun _ h => h) (resV_tmpI (t := 4) (by decide) rfl) rfl (.sl (by simp [get_cons]) rfl) (keep_cells fun X q cells hX v hv' => ?_)
    rw [get_cons, get_nil] at hX
    split at hX
    · rcases q with _ | q <;> simp only [List.getElem?_cons_zero, List.getElem?_cons_succ, List.getElem?_nil, Option.some.injEq, reduceCtorEq] at hX
      subst hX; exact mem_rowV hv' _ _ _
    · cases hX
theorem rowM_len (n : Nat) (bs : List Int) : (rowM n bs).length = n := by simp [rowM]
theorem l6_row_con (n : Nat) (bs : List Int) (hn : n < 2 ^ 40) (hbs : bs.length < 2 ^ 62) : Con Try.prog 15 [fI n, .d (rowI bs)] (.d (rowD (rowM n bs))) :=
  Con_of_AC (l6_row_ac n bs hn hbs) (.d (snap_row (fun Y q h => by simp [get_nil] at h) (by simp [get_cons]) (rowM_len n bs) rfl))
def numM (w : Int) : Nat := fop .div (FloatKind.nearest .f64 (w % 33 - 16)) 4616189618054758400
def mkE (ns : List Int) (k i j : Nat) : Nat := numM (if i * k + j < ns.length then ns.getD (i * k + j) 0 else ((i * 7 + j : Nat) : Int))
def mkRow (ns : List Int) (k i m : Nat) : List Nat := (List.range m).map (mkE ns k i)
def mkM (ns : List Int) (k i : Nat) : List (List Nat) := (List.range i).map fun r => mkRow ns k r k
def makeM (n : Int) (ns : List Int) (rare : Int) : List (List Nat) :=
  let k := (n % 5).toNat + 1
  if rare % 9 = 0 then up2 (mkM ns k k) (IntKind.i64.wrap (rare.tdiv 9) % k).toNat (IntKind.i64.wrap (rare.tdiv 50) % k).toNat (rareL.getD (IntKind.i64.wrap (rare.tdiv 9) % 10).toNat 0) else mkM ns k k
theorem makeM_sq (n : Int) (ns : List Int) (rare : Int) : Sq ((n % 5).toNat + 1) (makeM n ns rare) := by
  have h : Sq ((n % 5).toNat + 1) (mkM ns ((n % 5).toNat + 1) ((n % 5).toNat + 1)) := ⟨by simp [mkM], fun i hi => by simp [mkM, List.getD_eq_getElem?_getD, hi, mkRow]⟩
  unfold makeM
  simp only
  split
  · exact up2_sq _ _ _ _ _ h
  · exact h
theorem mkRow_len (ns : List Int) (k i m : Nat) : (mkRow ns k i m).length = m := by simp [mkRow]
theorem mkM_len (ns : List Int) (k i : Nat) : (mkM ns k i).length = i := by simp [mkM]
theorem mkM_sq (ns : List Int) (k : Nat) : Sq k (mkM ns k k) := ⟨mkM_len _ _ _, fun i hi => by simp [mkM, List.getD_eq_getElem?_getD, hi, mkRow]⟩
theorem mkM_getD (ns : List Int) (k i r : Nat) (h : r < i) : (mkM ns k i).getD r [] = mkRow ns k r k := by
  simp [mkM, List.getD_eq_getElem?_getD, h]
def mkH (r : List Nat) (R : List (List Nat)) (k i : Nat) : Heap := [(300, [rowV r]), (200, R.map rowV), (100, [hdo 200 0 i k])]
theorem mk_cells (L : Heap) (r : List Nat) (R : List (List Nat)) (k i : Nat) (hR : R.length = i) : ∀ X q c, Heap.get (mkH r R k i) X q = some c → ∀ v ∈ c, LeV L (mkH r R k i) (fun X q => (X, q)) v v := by
  intro X q c hX v hv'
  unfold mkH at hX
  rw [get_cons, get_cons, get_cons, get_nil] at hX
  split at hX
  · rcases q with _ | q <;> simp only [List.getElem?_cons_zero, List.getElem?_cons_succ, List.getElem?_nil, Option.some.injEq, reduceCtorEq] at hX
    subst hX; exact mem_rowV hv' _ _ _
  · split at hX
    · rw [List.getElem?_map] at hX
      obtain ⟨xs, h1, rfl⟩ := Option.map_eq_some_iff.1 hX
      exact mem_rowV hv' _ _ _
    · split at hX
      · rcases q with _ | q <;> simp only [List.getElem?_cons_zero, List.getElem?_cons_succ, List.getElem?_nil, Option.some.injEq, reduceCtorEq] at hX
        subst hX
        obtain ⟨j, hj, rfl⟩ := List.mem_map.1 hv'
        refine .sl ?_ rfl
        have : j < i := by simpa using hj
        simp [mkH, get_cons]; omega
      · cases hX
set_option maxRecDepth 8000 in
theorem make_L1 (N : Nat → Prop) (hN : ∀ Y, ¬ N Y) (ns : List Int) (rare : Int) (k i : Nat) (R : List (List Nat)) (hR : R.length = i) (hk : k < 2 ^ 20) (hi : i < k) (hns : ns.length < 2 ^ 62) (Q : Ex → T → Prop)
    (hQ : ∀ v w, Q (.exit 2) ⟨[(1, .d (rowI ns)), (2, fI rare), (7, fI k), (8, .sl 100 0 0 i 1 i), (9, fI i), (10, .sl 300 0 0 k 1 k), (11, v), (23, w)], mkH (mkRow ns k i k) R k i⟩) :
    WA Try.prog N 77 (.loop A_l6_Make_L1) Q ⟨[(1, .d (rowI ns)), (2, fI rare), (7, fI k), (8, .sl 100 0 0 i 1 i), (9, fI i), (10, .sl 300 0 0 0 1 0), (11, fI 0)], mkH [] R k i⟩ := by
  refine WA_forW (n := k) (fun c s => ∃ m, c + m = k ∧ s = ⟨[(1, .d (rowI ns)), (2, fI rare), (7, fI k), (8, .sl 100 0 0 i 1 i), (9, fI i), (10, .sl 300 0 0 m 1 m), (11, fI m)], mkH (mkRow ns k i m) R k i⟩) (.refl _) ⟨0, rfl, rfl⟩ ?_
  rintro c s ⟨m, hc, rfl⟩
  have step : ∀ (w : Int), w = (if i * k + m < ns.length then ns.getD (i * k + m) 0 else ((i * 7 + m : Nat) : Int)) → m < k → ∀ (L0 : Heap) (Y : Nat), Y ≠ 300 → Y ≠ 200 → Y ≠ 100 → L0 = [(Y, [[fl (numM w)]]), (300, [rowV (mkRow ns k i m) ++ [fl (numM w)]]), (200, R.map rowV), (100, [hdo 200 0 i k])] →
      nextW N 77 (fun c s => ∃ m, c + m = k ∧ s = ⟨[(1, .d (rowI ns)), (2, fI rare), (7, fI k), (8, .sl 100 0 0 i 1 i), (9, fI i), (10, .sl 300 0 0 m 1 m), (11, fI m)], mkH (mkRow ns k i m) R k i⟩) c ⟨[(1, .d (rowI ns)), (2, fI rare), (7, fI k), (8, .sl 100 0 0 i 1 i), (9, fI i), (10, .sl 300 0 0 (m + 1) 1 (m + 1)), (11, fI ((m : Int) + 1))], L0⟩ := by
    intro w hw hm L0 Y h3 h2 h1 hL0
    subst hL0
    have e : rowV (mkRow ns k i (m + 1)) = rowV (mkRow ns k i m) ++ [fl (numM w)] := by
      rw [hw]; simp [mkRow, List.range_succ, mkE]
    refine ⟨c - 1, _, by omega, ?_, m + 1, by omega, rfl⟩
    rw [← e]
    refine LeT.drop hN (fun p hp => ?_) (fun X r c hX => ⟨?_, mk_cells _ _ R k i hR X r c hX⟩)
    · simp only [List.mem_cons, List.not_mem_nil, or_false] at hp
      rcases hp with rfl | rfl | rfl | rfl | rfl | rfl | rfl
      all_goals first | exact .d (.d _) | exact .sl (by simp [mkH, get_cons]) rfl
    · unfold mkH at hX
      rw [get_cons, if_neg (fun e => by subst e; rw [get_cons, get_cons, get_cons, get_nil, if_neg h3, if_neg h2, if_neg h1] at hX; cases hX)]
      exact hX
  have numw : ∀ k : Int, IntKind.i64.wrap (k % 33 - 16) = k % 33 - 16 := by
    intro k
    have h1 := Int.emod_nonneg k (by decide : (33 : Int) ≠ 0)
    have h2 := Int.emod_lt_of_pos k (by decide : (0 : Int) < 33)
    exact wrapI (by omega) (by omega)
  have hik : i * k < 2 ^ 40 := by
    have : i * k ≤ 1048575 * 1048575 := Nat.mul_le_mul (by omega) (by omega)
    exact Nat.lt_of_le_of_lt this (by decide)
  have hikz : (i : Int) * (k : Int) = ((i * k : Nat) : Int) := by simp
  have w1 : IntKind.i64.wrap ((i : Int) * 7) = ((i * 7 : Nat) : Int) := by rw [wrapI (by omega) (by omega)]; omega
  have w2 : ∀ x : Nat, x < 2 ^ 40 → IntKind.i64.wrap ((x : Int) + (m : Int)) = ((x + m : Nat) : Int) := by intro x hx; rw [wrapI (by omega) (by omega)]; omega
  have w3 : IntKind.i64.wrap ((i : Int) * (k : Int)) = ((i * k : Nat) : Int) := by rw [hikz, wrapI (by omega) (by omega)]
  simp -implicitDefEqProofs only [xC_skip, evS, decide_true, decide_false, decide_eq_true_eq, sides, Inst.places, List.zip_cons_cons, List.zip_nil_right, List.zip_nil_left, List.mem_cons, List.not_mem_nil, forall_eq_or_imp, forall_eq, false_implies, implies_true, Apart, xeff, xhv, hv, effC, xev, look, argSl, atL, drops, keep, inBlockT, pickX, callX, callCX, callSX, callee, List.map_cons, List.map_nil, List.append_nil, List.nil_append, List.cons_append, reduceCtorEq, ↓reduceIte, Nat.reduceEqDiff, Nat.reduceAdd, Nat.reduceMul, eq_self, List.length_replicate, Int.reduceToNat, Int.reduceAdd, Int.reduceSub, Int.reduceMul, Int.reduceNeg, Int.reduceLT, Int.reduceLE, rowD, rowI, rowsD, ivD, rowG, rowIG, rowsG, ivG, bne_self_eq_false, beq_self_eq_true, List.length_map, List.getD_cons_zero, List.getD_cons_succ, List.drop_succ_cons, List.drop_zero, List.take_succ_cons, List.take_zero, List.take_nil, List.getElem?_cons_zero, List.getElem?_cons_succ, List.length_cons, List.length_nil, List.length_set, List.set_cons_zero, List.set_cons_succ, List.all_cons, List.all_nil, Nat.reduceLT, Nat.reduceLeDiff, ne_eq, Option.some.injEq, fillV, partsV, V.okPart, gt_iff_lt, ge_iff_le, A_l6_Make_L1, mkH]
  refine condC_intro (fun h => ?_) (fun h => ?_)
  · replace h := of_decide_eq_true h
    simp -implicitDefEqProofs only [xC_skip, evS, decide_true, decide_false, decide_eq_true_eq, sides, Inst.places, List.zip_cons_cons, List.zip_nil_right, List.zip_nil_left, List.mem_cons, List.not_mem_nil, forall_eq_or_imp, forall_eq, false_implies, implies_true, Apart, xeff, xhv, hv, effC, xev, look, argSl, atL, drops, keep, inBlockT, pickX, callX, callCX, callSX, callee, List.map_cons, List.map_nil, List.append_nil, List.nil_append, List.cons_append, reduceCtorEq, ↓reduceIte, Nat.reduceEqDiff, Nat.reduceAdd, Nat.reduceMul, eq_self, List.length_replicate, Int.reduceToNat, Int.reduceAdd, Int.reduceSub, Int.reduceMul, Int.reduceNeg, Int.reduceLT, Int.reduceLE, rowD, rowI, rowsD, ivD, rowG, rowIG, rowsG, ivG, bne_self_eq_false, beq_self_eq_true, List.length_map, List.getD_cons_zero, List.getD_cons_succ, List.drop_succ_cons, List.drop_zero, List.take_succ_cons, List.take_zero, List.take_nil, List.getElem?_cons_zero, List.getElem?_cons_succ, List.length_cons, List.length_nil, List.length_set, List.set_cons_zero, List.set_cons_succ, List.all_cons, List.all_nil, Nat.reduceLT, Nat.reduceLeDiff, ne_eq, Option.some.injEq, fillV, partsV, V.okPart, gt_iff_lt, ge_iff_le, w1, w3, w2 (i * k) hik, w2 (i * 7) (by omega)]
    refine condC_intro (fun h3 => ?_) (fun h3 => ?_)
    · replace h3 := of_decide_eq_true h3
      simp -implicitDefEqProofs only [xC_skip, evS, decide_true, decide_false, decide_eq_true_eq, sides, Inst.places, List.zip_cons_cons, List.zip_nil_right, List.zip_nil_left, List.mem_cons, List.not_mem_nil, forall_eq_or_imp, forall_eq, false_implies, implies_true, Apart, xeff, xhv, hv, effC, xev, look, argSl, atL, drops, keep, inBlockT, pickX, callX, callCX, callSX, callee, List.map_cons, List.map_nil, List.append_nil, List.nil_append, List.cons_append, reduceCtorEq, ↓reduceIte, Nat.reduceEqDiff, Nat.reduceAdd, Nat.reduceMul, eq_self, List.length_replicate, Int.reduceToNat, Int.reduceAdd, Int.reduceSub, Int.reduceMul, Int.reduceNeg, Int.reduceLT, Int.reduceLE, rowD, rowI, rowsD, ivD, rowG, rowIG, rowsG, ivG, bne_self_eq_false, beq_self_eq_true, List.length_map, List.getD_cons_zero, List.getD_cons_succ, List.drop_succ_cons, List.drop_zero, List.take_succ_cons, List.take_zero, List.take_nil, List.getElem?_cons_zero, List.getElem?_cons_succ, List.length_cons, List.length_nil, List.length_set, List.set_cons_zero, List.set_cons_succ, List.all_cons, List.all_nil, Nat.reduceLT, Nat.reduceLeDiff, ne_eq, Option.some.injEq, fillV, partsV, V.okPart, gt_iff_lt, ge_iff_le, w1, w3, w2 (i * k) hik]
      (repeat (with_reducible refine And.intro (by omega) ?_))
      first | refine callG_con (l6_within_con (ns.getD (i * k + m) 0) 33 (by decide) (by decide)) rfl ?_ | refine callCG_con (l6_within_con (ns.getD (i * k + m) 0) 33 (by decide) (by decide)) rfl ?_ | refine callSG_con (l6_within_con (ns.getD (i * k + m) 0) 33 (by decide) (by decide)) rfl ?_
      simp -implicitDefEqProofs only [xC_skip, evS, decide_true, decide_false, decide_eq_true_eq, sides, Inst.places, List.zip_cons_cons, List.zip_nil_right, List.zip_nil_left, List.mem_cons, List.not_mem_nil, forall_eq_or_imp, forall_eq, false_implies, implies_true, Apart, xeff, xhv, hv, effC, xev, look, argSl, atL, drops, keep, inBlockT, pickX, callX, callCX, callSX, callee, List.map_cons, List.map_nil, List.append_nil, List.nil_append, List.cons_append, reduceCtorEq, ↓reduceIte, Nat.reduceEqDiff, Nat.reduceAdd, Nat.reduceMul, eq_self, List.length_replicate, Int.reduceToNat, Int.reduceAdd, Int.reduceSub, Int.reduceMul, Int.reduceNeg, Int.reduceLT, Int.reduceLE, rowD, rowI, rowsD, ivD, rowG, rowIG, rowsG, ivG, bne_self_eq_false, beq_self_eq_true, List.length_map, List.getD_cons_zero, List.getD_cons_succ, List.drop_succ_cons, List.drop_zero, List.take_succ_cons, List.take_zero, List.take_nil, List.getElem?_cons_zero, List.getElem?_cons_succ, List.length_cons, List.length_nil, List.length_set, List.set_cons_zero, List.set_cons_succ, List.all_cons, List.all_nil, Nat.reduceLT, Nat.reduceLeDiff, ne_eq, Option.some.injEq, fillV, partsV, V.okPart, gt_iff_lt, ge_iff_le, numw]
      have hlr := mkRow_len ns k i m
      (repeat (with_reducible refine And.intro (by omega) ?_))
      rw [wrapI (by omega) (by omega)]
      exact step (ns.getD (i * k + m) 0) (by rw [if_pos h3]) (by omega) _ _ (by decide) (by decide) (by decide) rfl
    · replace h3 := of_decide_eq_false h3
      simp -implicitDefEqProofs only [xC_skip, evS, decide_true, decide_false, decide_eq_true_eq, sides, Inst.places, List.zip_cons_cons, List.zip_nil_right, List.zip_nil_left, List.mem_cons, List.not_mem_nil, forall_eq_or_imp, forall_eq, false_implies, implies_true, Apart, xeff, xhv, hv, effC, xev, look, argSl, atL, drops, keep, inBlockT, pickX, callX, callCX, callSX, callee, List.map_cons, List.map_nil, List.append_nil, List.nil_append, List.cons_append, reduceCtorEq, ↓reduceIte, Nat.reduceEqDiff, Nat.reduceAdd, Nat.reduceMul, eq_self, List.length_replicate, Int.reduceToNat, Int.reduceAdd, Int.reduceSub, Int.reduceMul, Int.reduceNeg, Int.reduceLT, Int.reduceLE, rowD, rowI, rowsD, ivD, rowG, rowIG, rowsG, ivG, bne_self_eq_false, beq_self_eq_true, List.length_map, List.getD_cons_zero, List.getD_cons_succ, List.drop_succ_cons, List.drop_zero, List.take_succ_cons, List.take_zero, List.take_nil, List.getElem?_cons_zero, List.getElem?_cons_succ, List.length_cons, List.length_nil, List.length_set, List.set_cons_zero, List.set_cons_succ, List.all_cons, List.all_nil, Nat.reduceLT, Nat.reduceLeDiff, ne_eq, Option.some.injEq, fillV, partsV, V.okPart, gt_iff_lt, ge_iff_le]
      first | refine callG_con (l6_within_con ((i * 7 + m : Nat) : Int) 33 (by decide) (by decide)) rfl ?_ | refine callCG_con (l6_within_con ((i * 7 + m : Nat) : Int) 33 (by decide) (by decide)) rfl ?_ | refine callSG_con (l6_within_con ((i * 7 + m : Nat) : Int) 33 (by decide) (by decide)) rfl ?_
      simp -implicitDefEqProofs only [xC_skip, evS, decide_true, decide_false, decide_eq_true_eq, sides, Inst.places, List.zip_cons_cons, List.zip_nil_right, List.zip_nil_left, List.mem_cons, List.not_mem_nil, forall_eq_or_imp, forall_eq, false_implies, implies_true, Apart, xeff, xhv, hv, effC, xev, look, argSl, atL, drops, keep, inBlockT, pickX, callX, callCX, callSX, callee, List.map_cons, List.map_nil, List.append_nil, List.nil_append, List.cons_append, reduceCtorEq, ↓reduceIte, Nat.reduceEqDiff, Nat.reduceAdd, Nat.reduceMul, eq_self, List.length_replicate, Int.reduceToNat, Int.reduceAdd, Int.reduceSub, Int.reduceMul, Int.reduceNeg, Int.reduceLT, Int.reduceLE, rowD, rowI, rowsD, ivD, rowG, rowIG, rowsG, ivG, bne_self_eq_false, beq_self_eq_true, List.length_map, List.getD_cons_zero, List.getD_cons_succ, List.drop_succ_cons, List.drop_zero, List.take_succ_cons, List.take_zero, List.take_nil, List.getElem?_cons_zero, List.getElem?_cons_succ, List.length_cons, List.length_nil, List.length_set, List.set_cons_zero, List.set_cons_succ, List.all_cons, List.all_nil, Nat.reduceLT, Nat.reduceLeDiff, ne_eq, Option.some.injEq, fillV, partsV, V.okPart, gt_iff_lt, ge_iff_le, numw]
      have hlr := mkRow_len ns k i m
      (repeat (with_reducible refine And.intro (by omega) ?_))
      rw [wrapI (by omega) (by omega)]
      exact step ((i * 7 + m : Nat) : Int) (by rw [if_neg h3]) (by omega) _ _ (by decide) (by decide) (by decide) rfl
  · replace h := of_decide_eq_false h
    simp -implicitDefEqProofs only [xC_skip, evS, decide_true, decide_false, decide_eq_true_eq, sides, Inst.places, List.zip_cons_cons, List.zip_nil_right, List.zip_nil_left, List.mem_cons, List.not_mem_nil, forall_eq_or_imp, forall_eq, false_implies, implies_true, Apart, xeff, xhv, hv, effC, xev, look, argSl, atL, drops, keep, inBlockT, pickX, callX, callCX, callSX, callee, List.map_cons, List.map_nil, List.append_nil, List.nil_append, List.cons_append, reduceCtorEq, ↓reduceIte, Nat.reduceEqDiff, Nat.reduceAdd, Nat.reduceMul, eq_self, List.length_replicate, Int.reduceToNat, Int.reduceAdd, Int.reduceSub, Int.reduceMul, Int.reduceNeg, Int.reduceLT, Int.reduceLE, rowD, rowI, rowsD, ivD, rowG, rowIG, rowsG, ivG, bne_self_eq_false, beq_self_eq_true, List.length_map, List.getD_cons_zero, List.getD_cons_succ, List.drop_succ_cons, List.drop_zero, List.take_succ_cons, List.take_zero, List.take_nil, List.getElem?_cons_zero, List.getElem?_cons_succ, List.length_cons, List.length_nil, List.length_set, List.set_cons_zero, List.set_cons_succ, List.all_cons, List.all_nil, Nat.reduceLT, Nat.reduceLeDiff, ne_eq, Option.some.injEq, fillV, partsV, V.okPart, gt_iff_lt, ge_iff_le]
    obtain rfl : k = m := by omega
    exact hQ _ _
def mkH0 (R : List (List Nat)) (k i : Nat) : Heap := [(200, R.map rowV), (100, [hdo 200 0 i k])]
theorem mkH0_cells (L : Heap) (R : List (List Nat)) (k i : Nat) (hR : R.length = i) : ∀ X q c, Heap.get (mkH0 R k i) X q = some c → ∀ v ∈ c, LeV L (mkH0 R k i) (fun X q => (X, q)) v v := by
  intro X q c hX v hv'
  unfold mkH0 at hX
  rw [get_cons, get_cons, get_nil] at hX
  split at hX
  · rw [List.getElem?_map] at hX
    obtain ⟨xs, h1, rfl⟩ := Option.map_eq_some_iff.1 hX
    exact mem_rowV hv' _ _ _
  · split at hX
    · rcases q with _ | q <;> simp only [List.getElem?_cons_zero, List.getElem?_cons_succ, List.getElem?_nil, Option.some.injEq, reduceCtorEq] at hX
      subst hX
      obtain ⟨j, hj, rfl⟩ := List.mem_map.1 hv'
      refine .sl ?_ rfl
      have : j < i := by simpa using hj
      simp [mkH0, get_cons]; omega
    · cases hX
theorem mk_absorb (N : Nat → Prop) (hN : ∀ Y, ¬ N Y) (nt : Nat) (sls : Sl) (R : List (List Nat)) (r : List Nat) (k i Y : Nat) (hR : R.length = i) (h3 : Y ≠ 300) (h2 : Y ≠ 200) (h1 : Y ≠ 100)
    (hs : ∀ p ∈ sls, (∃ x, p.2 = .d x) ∨ ∃ o n e v, p.2 = .sl 100 0 o n e v) :
    Le N (T.s nt ⟨sls, [(Y, [[.sl 300 0 0 k 1 k]]), (300, [rowV r]), (200, R.map rowV), (100, [hdo 200 0 i k ++ [.sl 300 0 0 k 1 k]])]⟩) (T.s nt ⟨sls, mkH0 (R ++ [r]) k (i + 1)⟩) := by
  have hd1 : ∀ X q c, Heap.get [(300, [rowV r]), (200, R.map rowV), (100, [hdo 200 0 i k ++ [V.sl 300 0 0 k 1 k]])] X q = some c → ∀ v ∈ c,
      LeV [(Y, [[V.sl 300 0 0 k 1 k]]), (300, [rowV r]), (200, R.map rowV), (100, [hdo 200 0 i k ++ [V.sl 300 0 0 k 1 k]])]
        [(300, [rowV r]), (200, R.map rowV), (100, [hdo 200 0 i k ++ [V.sl 300 0 0 k 1 k]])] (fun X q => (X, q)) v v := by
    intro X q c hX v hv'
    rw [get_cons, get_cons, get_cons, get_nil] at hX
    split at hX
    · rcases q with _ | q <;> simp only [List.getElem?_cons_zero, List.getElem?_cons_succ, List.getElem?_nil, Option.some.injEq, reduceCtorEq] at hX
      subst hX; exact mem_rowV hv' _ _ _
    · split at hX
      · rw [List.getElem?_map] at hX
        obtain ⟨xs, h1, rfl⟩ := Option.map_eq_some_iff.1 hX
        exact mem_rowV hv' _ _ _
      · split at hX
        · rcases q with _ | q <;> simp only [List.getElem?_cons_zero, List.getElem?_cons_succ, List.getElem?_nil, Option.some.injEq, reduceCtorEq] at hX
          subst hX
          rcases List.mem_append.1 hv' with hv' | hv'
          · obtain ⟨j, hj, rfl⟩ := List.mem_map.1 hv'
            refine .sl ?_ rfl
            have : j < i := by simpa using hj
            simp [get_cons]; omega
          · obtain rfl : v = V.sl 300 0 0 k 1 k := by simpa using hv'
            exact .sl (by simp [get_cons]) rfl
        · cases hX
  refine Le.trans (LeT.drop hN (L' := [(300, [rowV r]), (200, R.map rowV), (100, [hdo 200 0 i k ++ [V.sl 300 0 0 k 1 k]])]) (fun p hp => ?_) (fun X q c hX => ⟨?_, hd1 X q c hX⟩)) ?_
  · rcases hs p hp with ⟨x, e⟩ | ⟨o, n, e1, v, e⟩
    · rw [e]; exact .d (.d _)
    · rw [e]; exact .sl (by simp [get_cons]) rfl
  · rw [get_cons, if_neg (fun e => by subst e; rw [get_cons, get_cons, get_cons, get_nil, if_neg h3, if_neg h2, if_neg h1] at hX; cases hX)]
    exact hX
  · have := LeT.absorb (N := N) (nt := nt) (Y := 300) (X := 200) (cells := rowV r) (fam := R.map rowV) (L := [(100, [hdo 200 0 i k ++ [V.sl 300 0 0 k 1 k]])]) (sls := sls) (by decide) (by simp [fam_cons, fam_nil]) (by simp [fam_cons, fam_nil]) (hN _)
    have e2 : (R.map rowV).length = i := by simp; omega
    have e3 : renS (absF 300 200 i) sls = sls := by
      clear this hd1
      induction sls with
      | nil => rfl
      | cons p ps ih =>
        obtain ⟨a, b⟩ := p
        simp only [renS]
        rw [ih fun p hp => hs p (by simp [hp])]
        rcases hs (a, b) (by simp) with ⟨x, e⟩ | ⟨o, n, e1, v, e⟩
        · simp only at e; rw [e, ren_d]
        · simp only at e; rw [e, ren_absF_sl _ _ _ _ _ _ _ _ _ (by decide : (100 : Nat) ≠ 300)]
    rw [e2, ren_fam, ren_rowV, e3] at this
    simp only [Heap.renH, List.map_cons, List.map_nil, hdo_absorb 300 200 _ _ (by decide)] at this
    simpa [mkH0] using this
set_option maxRecDepth 8000 in
theorem make_L0 (N : Nat → Prop) (hN : ∀ Y, ¬ N Y) (ns : List Int) (rare : Int) (k : Nat) (hk : k < 2 ^ 20) (hns : ns.length < 2 ^ 62) (Q : Ex → T → Prop)
    (hQ : ∀ v w, Q (.exit 0) ⟨[(1, .d (rowI ns)), (2, fI rare), (7, fI k), (8, .sl 100 0 0 k 1 k), (9, v), (18, w)], mkH0 (mkM ns k k) k k⟩) :
    WA Try.prog N 77 (.loop A_l6_Make_L0) Q ⟨[(1, .d (rowI ns)), (2, fI rare), (7, fI k), (8, .nil), (9, fI 0)], []⟩ := by
  refine WA_forW (n := k) (fun c s => ∃ i, c + i = k ∧ s = ⟨[(1, .d (rowI ns)), (2, fI rare), (7, fI k), (8, .sl 100 0 0 i 1 i), (9, fI i)], mkH0 (mkM ns k i) k i⟩)
    (s0 := ⟨_, _⟩) (Le.trans (LeT.nilrow (X := 100) (esz := 1) (as' := [(1, .d (rowI ns)), (2, fI rare), (7, fI k), (8, .sl 100 0 0 0 1 0), (9, fI 0)]) rfl (hN _) fun i => ?_) (LeT.empty (X := 200) (L1 := []) (by simp [fam_cons, fam_nil]))) ⟨0, rfl, rfl⟩ ?_
  · simp only [look]
    repeat' split
    all_goals simp
  rintro c s ⟨i, hc, rfl⟩
  simp -implicitDefEqProofs only [xC_skip, evS, decide_true, decide_false, decide_eq_true_eq, sides, Inst.places, List.zip_cons_cons, List.zip_nil_right, List.zip_nil_left, List.mem_cons, List.not_mem_nil, forall_eq_or_imp, forall_eq, false_implies, implies_true, Apart, xeff, xhv, hv, effC, xev, look, argSl, atL, drops, keep, inBlockT, pickX, callX, callCX, callSX, callee, List.map_cons, List.map_nil, List.append_nil, List.nil_append, List.cons_append, reduceCtorEq, ↓reduceIte, Nat.reduceEqDiff, Nat.reduceAdd, Nat.reduceMul, eq_self, List.length_replicate, Int.reduceToNat, Int.reduceAdd, Int.reduceSub, Int.reduceMul, Int.reduceNeg, Int.reduceLT, Int.reduceLE, rowD, rowI, rowsD, ivD, rowG, rowIG, rowsG, ivG, bne_self_eq_false, beq_self_eq_true, List.length_map, List.getD_cons_zero, List.getD_cons_succ, List.drop_succ_cons, List.drop_zero, List.take_succ_cons, List.take_zero, List.take_nil, List.getElem?_cons_zero, List.getElem?_cons_succ, List.length_cons, List.length_nil, List.length_set, List.set_cons_zero, List.set_cons_succ, List.all_cons, List.all_nil, Nat.reduceLT, Nat.reduceLeDiff, ne_eq, Option.some.injEq, fillV, partsV, V.okPart, gt_iff_lt, ge_iff_le, A_l6_Make_L0, mkH0]
  refine condC_intro (fun h => ?_) (fun h => ?_)
  · replace h := of_decide_eq_true h
    simp -implicitDefEqProofs only [xC_skip, evS, decide_true, decide_false, decide_eq_true_eq, sides, Inst.places, List.zip_cons_cons, List.zip_nil_right, List.zip_nil_left, List.mem_cons, List.not_mem_nil, forall_eq_or_imp, forall_eq, false_implies, implies_true, Apart, xeff, xhv, hv, effC, xev, look, argSl, atL, drops, keep, inBlockT, pickX, callX, callCX, callSX, callee, List.map_cons, List.map_nil, List.append_nil, List.nil_append, List.cons_append, reduceCtorEq, ↓reduceIte, Nat.reduceEqDiff, Nat.reduceAdd, Nat.reduceMul, eq_self, List.length_replicate, Int.reduceToNat, Int.reduceAdd, Int.reduceSub, Int.reduceMul, Int.reduceNeg, Int.reduceLT, Int.reduceLE, rowD, rowI, rowsD, ivD, rowG, rowIG, rowsG, ivG, bne_self_eq_false, beq_self_eq_true, List.length_map, List.getD_cons_zero, List.getD_cons_succ, List.drop_succ_cons, List.drop_zero, List.take_succ_cons, List.take_zero, List.take_nil, List.getElem?_cons_zero, List.getElem?_cons_succ, List.length_cons, List.length_nil, List.length_set, List.set_cons_zero, List.set_cons_succ, List.all_cons, List.all_nil, Nat.reduceLT, Nat.reduceLeDiff, ne_eq, Option.some.injEq, fillV, partsV, V.okPart, gt_iff_lt, ge_iff_le]
    refine WA_le (s' := ⟨[(1, .d (rowI ns)), (2, fI rare), (7, fI k), (8, .sl 100 0 0 i 1 i), (9, fI i), (10, .sl 300 0 0 0 1 0), (11, fI 0)], mkH [] (mkM ns k i) k i⟩) (LeT.nilrow (X := 300) (esz := 1) (by simp [fam_cons, fam_nil]) (hN _) fun i => ?_) ?_
    · simp only [look]
      repeat' split
      all_goals simp [rowI]
    refine make_L1 N hN ns rare k i (mkM ns k i) (mkM_len _ _ _) hk h hns _ fun v w => ?_
    simp -implicitDefEqProofs only [xC_skip, evS, decide_true, decide_false, decide_eq_true_eq, sides, Inst.places, List.zip_cons_cons, List.zip_nil_right, List.zip_nil_left, List.mem_cons, List.not_mem_nil, forall_eq_or_imp, forall_eq, false_implies, implies_true, Apart, xeff, xhv, hv, effC, xev, look, argSl, atL, drops, keep, inBlockT, pickX, callX, callCX, callSX, callee, List.map_cons, List.map_nil, List.append_nil, List.nil_append, List.cons_append, reduceCtorEq, ↓reduceIte, Nat.reduceEqDiff, Nat.reduceAdd, Nat.reduceMul, eq_self, List.length_replicate, Int.reduceToNat, Int.reduceAdd, Int.reduceSub, Int.reduceMul, Int.reduceNeg, Int.reduceLT, Int.reduceLE, rowD, rowI, rowsD, ivD, rowG, rowIG, rowsG, ivG, bne_self_eq_false, beq_self_eq_true, List.length_map, List.getD_cons_zero, List.getD_cons_succ, List.drop_succ_cons, List.drop_zero, List.take_succ_cons, List.take_zero, List.take_nil, List.getElem?_cons_zero, List.getElem?_cons_succ, List.length_cons, List.length_nil, List.length_set, List.set_cons_zero, List.set_cons_succ, List.all_cons, List.all_nil, Nat.reduceLT, Nat.reduceLeDiff, ne_eq, Option.some.injEq, fillV, partsV, V.okPart, gt_iff_lt, ge_iff_le, mkH]
    have hlm := mkM_len ns k i
    (repeat (with_reducible refine And.intro (by omega) ?_))
    rw [wrapI (by omega) (by omega)]
    have e : mkM ns k (i + 1) = mkM ns k i ++ [mkRow ns k i k] := by simp [mkM, List.range_succ]
    refine ⟨c - 1, ⟨[(1, .d (rowI ns)), (2, fI rare), (7, fI k), (8, .sl 100 0 0 (i + 1) 1 (i + 1)), (9, fI (i + 1 : Nat))], mkH0 (mkM ns k (i + 1)) k (i + 1)⟩, by omega, ?_, i + 1, by omega, rfl⟩
    rw [e]
    refine mk_absorb N hN 77 _ _ _ _ _ _ hlm (by decide) (by decide) (by decide) (fun p hp => ?_)
    simp only [List.mem_cons, List.not_mem_nil, or_false] at hp
    rcases hp with rfl | rfl | rfl | rfl | rfl
    all_goals first | exact .inl ⟨_, rfl⟩ | exact .inr ⟨_, _, _, _, rfl⟩
  · replace h := of_decide_eq_false h
    simp -implicitDefEqProofs only [xC_skip, evS, decide_true, decide_false, decide_eq_true_eq, sides, Inst.places, List.zip_cons_cons, List.zip_nil_right, List.zip_nil_left, List.mem_cons, List.not_mem_nil, forall_eq_or_imp, forall_eq, false_implies, implies_true, Apart, xeff, xhv, hv, effC, xev, look, argSl, atL, drops, keep, inBlockT, pickX, callX, callCX, callSX, callee, List.map_cons, List.map_nil, List.append_nil, List.nil_append, List.cons_append, reduceCtorEq, ↓reduceIte, Nat.reduceEqDiff, Nat.reduceAdd, Nat.reduceMul, eq_self, List.length_replicate, Int.reduceToNat, Int.reduceAdd, Int.reduceSub, Int.reduceMul, Int.reduceNeg, Int.reduceLT, Int.reduceLE, rowD, rowI, rowsD, ivD, rowG, rowIG, rowsG, ivG, bne_self_eq_false, beq_self_eq_true, List.length_map, List.getD_cons_zero, List.getD_cons_succ, List.drop_succ_cons, List.drop_zero, List.take_succ_cons, List.take_zero, List.take_nil, List.getElem?_cons_zero, List.getElem?_cons_succ, List.length_cons, List.length_nil, List.length_set, List.set_cons_zero, List.set_cons_succ, List.all_cons, List.all_nil, Nat.reduceLT, Nat.reduceLeDiff, ne_eq, Option.some.injEq, fillV, partsV, V.okPart, gt_iff_lt, ge_iff_le]
    obtain rfl : k = i := by omega
    exact hQ _ _
set_option maxRecDepth 8000 in
theorem l6_Make_ac (n rare : Int) (ns : List Int) (hns : ns.length < 2 ^ 62) : AC Try.prog 14 [fI n, .d (rowI ns), fI rare] [] (mkH0 (makeM n ns rare) ((n % 5).toNat + 1) ((n % 5).toNat + 1)) (.sl 100 0 0 ((n % 5).toNat + 1) 1 ((n % 5).toNat + 1)) := by
  generalize hR : makeM n ns rare = R
  have m1 := Int.emod_nonneg n (by decide : (5 : Int) ≠ 0)
  have m2 := Int.emod_lt_of_pos n (by decide : (0 : Int) < 5)
  obtain ⟨kk, hkk⟩ : ∃ kk : Nat, n % 5 = kk := ⟨(n % 5).toNat, by omega⟩
  refine AC_introA A_l6_Make_comp rfl mixed (fun _ => False) (by simp [get_nil]) ?_
  simp -implicitDefEqProofs only [xC_skip, evS, decide_true, decide_false, decide_eq_true_eq, sides, Inst.places, List.zip_cons_cons, List.zip_nil_right, List.zip_nil_left, List.mem_cons, List.not_mem_nil, forall_eq_or_imp, forall_eq, false_implies, implies_true, Apart, xeff, xhv, hv, effC, xev, look, argSl, atL, drops, keep, inBlockT, pickX, callX, callCX, callSX, callee, List.map_cons, List.map_nil, List.append_nil, List.nil_append, List.cons_append, reduceCtorEq, ↓reduceIte, Nat.reduceEqDiff, Nat.reduceAdd, Nat.reduceMul, eq_self, List.length_replicate, Int.reduceToNat, Int.reduceAdd, Int.reduceSub, Int.reduceMul, Int.reduceNeg, Int.reduceLT, Int.reduceLE, rowD, rowI, rowsD, ivD, rowG, rowIG, rowsG, ivG, bne_self_eq_false, beq_self_eq_true, List.length_map, List.getD_cons_zero, List.getD_cons_succ, List.drop_succ_cons, List.drop_zero, List.take_succ_cons, List.take_zero, List.take_nil, List.getElem?_cons_zero, List.getElem?_cons_succ, List.length_cons, List.length_nil, List.length_set, List.set_cons_zero, List.set_cons_succ, List.all_cons, List.all_nil, Nat.reduceLT, Nat.reduceLeDiff, ne_eq, Option.some.injEq, fillV, partsV, V.okPart, gt_iff_lt, ge_iff_le, A_l6_Make]
  first | refine callG_con (l6_within_con n 5 (by decide) (by decide)) rfl ?_ | refine callCG_con (l6_within_con n 5 (by decide) (by decide)) rfl ?_ | refine callSG_con (l6_within_con n 5 (by decide) (by decide)) rfl ?_
  rw [hkk]
  have w1 : IntKind.i64.wrap (1 + (kk : Int)) = ((kk + 1 : Nat) : Int) := by rw [wrapI (by omega) (by omega)]; omega
  simp -implicitDefEqProofs only [xC_skip, evS, decide_true, decide_false, decide_eq_true_eq, sides, Inst.places, List.zip_cons_cons, List.zip_nil_right, List.zip_nil_left, List.mem_cons, List.not_mem_nil, forall_eq_or_imp, forall_eq, false_implies, implies_true, Apart, xeff, xhv, hv, effC, xev, look, argSl, atL, drops, keep, inBlockT, pickX, callX, callCX, callSX, callee, List.map_cons, List.map_nil, List.append_nil, List.nil_append, List.cons_append, reduceCtorEq, ↓reduceIte, Nat.reduceEqDiff, Nat.reduceAdd, Nat.reduceMul, eq_self, List.length_replicate, Int.reduceToNat, Int.reduceAdd, Int.reduceSub, Int.reduceMul, Int.reduceNeg, Int.reduceLT, Int.reduceLE, rowD, rowI, rowsD, ivD, rowG, rowIG, rowsG, ivG, bne_self_eq_false, beq_self_eq_true, List.length_map, List.getD_cons_zero, List.getD_cons_succ, List.drop_succ_cons, List.drop_zero, List.take_succ_cons, List.take_zero, List.take_nil, List.getElem?_cons_zero, List.getElem?_cons_succ, List.length_cons, List.length_nil, List.length_set, List.set_cons_zero, List.set_cons_succ, List.all_cons, List.all_nil, Nat.reduceLT, Nat.reduceLeDiff, ne_eq, Option.some.injEq, fillV, partsV, V.okPart, gt_iff_lt, ge_iff_le, w1]
  refine make_L0 _ (fun _ h => h) ns rare (kk + 1) (by omega) hns _ fun v w => ?_
  simp -implicitDefEqProofs only [xC_skip, evS, decide_true, decide_false, decide_eq_true_eq, sides, Inst.places, List.zip_cons_cons, List.zip_nil_right, List.zip_nil_left, List.mem_cons, List.not_mem_nil, forall_eq_or_imp, forall_eq, false_implies, implies_true, Apart, xeff, xhv, hv, effC, xev, look, argSl, atL, drops, keep, inBlockT, pickX, callX, callCX, callSX, callee, List.map_cons, List.map_nil, List.append_nil, List.nil_append, List.cons_append, reduceCtorEq, ↓reduceIte, Nat.reduceEqDiff, Nat.reduceAdd, Nat.reduceMul, eq_self, List.length_replicate, Int.reduceToNat, Int.reduceAdd, Int.reduceSub, Int.reduceMul, Int.reduceNeg, Int.reduceLT, Int.reduceLE, rowD, rowI, rowsD, ivD, rowG, rowIG, rowsG, ivG, bne_self_eq_false, beq_self_eq_true, List.length_map, List.getD_cons_zero, List.getD_cons_succ, List.drop_succ_cons, List.drop_zero, List.take_succ_cons, List.take_zero, List.take_nil, List.getElem?_cons_zero, List.getElem?_cons_succ, List.length_cons, List.length_nil, List.length_set, List.set_cons_zero, List.set_cons_succ, List.all_cons, List.all_nil, Nat.reduceLT, Nat.reduceLeDiff, ne_eq, Option.some.injEq, fillV, partsV, V.okPart, gt_iff_lt, ge_iff_le]
  first | refine callG_con (l6_within_con rare 9 (by decide) (by decide)) rfl ?_ | refine callCG_con (l6_within_con rare 9 (by decide) (by decide)) rfl ?_ | refine callSG_con (l6_within_con rare 9 (by decide) (by decide)) rfl ?_
  simp -implicitDefEqProofs only [xC_skip, evS, decide_true, decide_false, decide_eq_true_eq, sides, Inst.places, List.zip_cons_cons, List.zip_nil_right, List.zip_nil_left, List.mem_cons, List.not_mem_nil, forall_eq_or_imp, forall_eq, false_implies, implies_true, Apart, xeff, xhv, hv, effC, xev, look, argSl, atL, drops, keep, inBlockT, pickX, callX, callCX, callSX, callee, List.map_cons, List.map_nil, List.append_nil, List.nil_append, List.cons_append, reduceCtorEq, ↓reduceIte, Nat.reduceEqDiff, Nat.reduceAdd, Nat.reduceMul, eq_self, List.length_replicate, Int.reduceToNat, Int.reduceAdd, Int.reduceSub, Int.reduceMul, Int.reduceNeg, Int.reduceLT, Int.reduceLE, rowD, rowI, rowsD, ivD, rowG, rowIG, rowsG, ivG, bne_self_eq_false, beq_self_eq_true, List.length_map, List.getD_cons_zero, List.getD_cons_succ, List.drop_succ_cons, List.drop_zero, List.take_succ_cons, List.take_zero, List.take_nil, List.getElem?_cons_zero, List.getElem?_cons_succ, List.length_cons, List.length_nil, List.length_set, List.set_cons_zero, List.set_cons_succ, List.all_cons, List.all_nil, Nat.reduceLT, Nat.reduceLeDiff, ne_eq, Option.some.injEq, fillV, partsV, V.okPart, gt_iff_lt, ge_iff_le]
  have hsq := mkM_sq ns (kk + 1)
  have hmake : makeM n ns rare = if rare % 9 = 0 then up2 (mkM ns (kk + 1) (kk + 1)) (IntKind.i64.wrap (rare.tdiv 9) % ((kk + 1 : Nat) : Int)).toNat (IntKind.i64.wrap (rare.tdiv 50) % ((kk + 1 : Nat) : Int)).toNat (rareL.getD (IntKind.i64.wrap (rare.tdiv 9) % 10).toNat 0) else mkM ns (kk + 1) (kk + 1) := by
    simp only [makeM, hkk, Int.toNat_natCast]
  have fin : ∀ R', R' = R → R'.length = kk + 1 → EndsT (fun x => False) 77 [(6, none)] (.sl 100 0 0 (kk + 1) 1 (kk + 1)) (mkH0 R (kk + 1) (kk + 1)) .ret ⟨[(6, .sl 100 0 0 (kk + 1) 1 (kk + 1))], mkH0 R' (kk + 1) (kk + 1)⟩ := by
    intro R' e hl
    subst e
    exact endsT_keep (fun _ h => h) (resV_tmpI (t := 6) (by decide) rfl) rfl (.sl (by simp [mkH0, get_cons]) rfl) (keep_cells fun X q cells hX v hv' => mkH0_cells _ _ _ _ hl X q cells hX v hv')
  rw [← hR, hmake] at fin
  rw [← hR, hmake]
  generalize mkM ns (kk + 1) (kk + 1) = M at hsq fin ⊢
  clear hmake
  have q1 := Int.emod_nonneg (IntKind.i64.wrap (rare.tdiv 9)) (by omega : ((kk + 1 : Nat) : Int) ≠ 0)
  have q2 := Int.emod_lt_of_pos (IntKind.i64.wrap (rare.tdiv 9)) (by omega : (0 : Int) < ((kk + 1 : Nat) : Int))
  have q3 := Int.emod_nonneg (IntKind.i64.wrap (rare.tdiv 50)) (by omega : ((kk + 1 : Nat) : Int) ≠ 0)
  have q4 := Int.emod_lt_of_pos (IntKind.i64.wrap (rare.tdiv 50)) (by omega : (0 : Int) < ((kk + 1 : Nat) : Int))
  refine condC_intro (fun h => ?_) (fun h => ?_)
  · replace h : rare % 9 = 0 := by simpa using h
    rw [if_pos h] at fin ⊢
    simp -implicitDefEqProofs only [xC_skip, evS, decide_true, decide_false, decide_eq_true_eq, sides, Inst.places, List.zip_cons_cons, List.zip_nil_right, List.zip_nil_left, List.mem_cons, List.not_mem_nil, forall_eq_or_imp, forall_eq, false_implies, implies_true, Apart, xeff, xhv, hv, effC, xev, look, argSl, atL, drops, keep, inBlockT, pickX, callX, callCX, callSX, callee, List.map_cons, List.map_nil, List.append_nil, List.nil_append, List.cons_append, reduceCtorEq, ↓reduceIte, Nat.reduceEqDiff, Nat.reduceAdd, Nat.reduceMul, eq_self, List.length_replicate, Int.reduceToNat, Int.reduceAdd, Int.reduceSub, Int.reduceMul, Int.reduceNeg, Int.reduceLT, Int.reduceLE, rowD, rowI, rowsD, ivD, rowG, rowIG, rowsG, ivG, bne_self_eq_false, beq_self_eq_true, List.length_map, List.getD_cons_zero, List.getD_cons_succ, List.drop_succ_cons, List.drop_zero, List.take_succ_cons, List.take_zero, List.take_nil, List.getElem?_cons_zero, List.getElem?_cons_succ, List.length_cons, List.length_nil, List.length_set, List.set_cons_zero, List.set_cons_succ, List.all_cons, List.all_nil, Nat.reduceLT, Nat.reduceLeDiff, ne_eq, Option.some.injEq, fillV, partsV, V.okPart, gt_iff_lt, ge_iff_le]
    refine ⟨by decide, ?_⟩
    first | refine callG_con (l6_within_con (IntKind.i64.wrap (rare.tdiv 9)) (kk + 1 : Nat) (by omega) (by omega)) rfl ?_ | refine callCG_con (l6_within_con (IntKind.i64.wrap (rare.tdiv 9)) (kk + 1 : Nat) (by omega) (by omega)) rfl ?_ | refine callSG_con (l6_within_con (IntKind.i64.wrap (rare.tdiv 9)) (kk + 1 : Nat) (by omega) (by omega)) rfl ?_
    generalize hx : IntKind.i64.wrap (rare.tdiv 9) % ((kk + 1 : Nat) : Int) = x at q1 q2 fin ⊢
    obtain ⟨x, rfl⟩ : ∃ x' : Nat, x = x' := ⟨x.toNat, by omega⟩
    have hxl : x < kk + 1 := by omega
    have hxM : x < M.length := by have := hsq.1; omega
    have g1 := hsq.2 x hxl
    simp -implicitDefEqProofs only [xC_skip, evS, decide_true, decide_false, decide_eq_true_eq, sides, Inst.places, List.zip_cons_cons, List.zip_nil_right, List.zip_nil_left, List.mem_cons, List.not_mem_nil, forall_eq_or_imp, forall_eq, false_implies, implies_true, Apart, xeff, xhv, hv, effC, xev, look, argSl, atL, drops, keep, inBlockT, pickX, callX, callCX, callSX, callee, List.map_cons, List.map_nil, List.append_nil, List.nil_append, List.cons_append, reduceCtorEq, ↓reduceIte, Nat.reduceEqDiff, Nat.reduceAdd, Nat.reduceMul, eq_self, List.length_replicate, Int.reduceToNat, Int.reduceAdd, Int.reduceSub, Int.reduceMul, Int.reduceNeg, Int.reduceLT, Int.reduceLE, rowD, rowI, rowsD, ivD, rowG, rowIG, rowsG, ivG, bne_self_eq_false, beq_self_eq_true, List.length_map, List.getD_cons_zero, List.getD_cons_succ, List.drop_succ_cons, List.drop_zero, List.take_succ_cons, List.take_zero, List.take_nil, List.getElem?_cons_zero, List.getElem?_cons_succ, List.length_cons, List.length_nil, List.length_set, List.set_cons_zero, List.set_cons_succ, List.all_cons, List.all_nil, Nat.reduceLT, Nat.reduceLeDiff, ne_eq, Option.some.injEq, fillV, partsV, V.okPart, gt_iff_lt, ge_iff_le, mkH0, hdo_getD _ _ _ _ _ hxl, getE M x hxM]
    refine ⟨hxl, by omega, by decide, ?_⟩
    first | refine callG_con (l6_within_con (IntKind.i64.wrap (rare.tdiv 50)) (kk + 1 : Nat) (by omega) (by omega)) rfl ?_ | refine callCG_con (l6_within_con (IntKind.i64.wrap (rare.tdiv 50)) (kk + 1 : Nat) (by omega) (by omega)) rfl ?_ | refine callSG_con (l6_within_con (IntKind.i64.wrap (rare.tdiv 50)) (kk + 1 : Nat) (by omega) (by omega)) rfl ?_
    generalize hy : IntKind.i64.wrap (rare.tdiv 50) % ((kk + 1 : Nat) : Int) = y at q3 q4 fin ⊢
    obtain ⟨y, rfl⟩ : ∃ y' : Nat, y = y' := ⟨y.toNat, by omega⟩
    have hyl : y < kk + 1 := by omega
    simp -implicitDefEqProofs only [xC_skip, evS, decide_true, decide_false, decide_eq_true_eq, sides, Inst.places, List.zip_cons_cons, List.zip_nil_right, List.zip_nil_left, List.mem_cons, List.not_mem_nil, forall_eq_or_imp, forall_eq, false_implies, implies_true, Apart, xeff, xhv, hv, effC, xev, look, argSl, atL, drops, keep, inBlockT, pickX, callX, callCX, callSX, callee, List.map_cons, List.map_nil, List.append_nil, List.nil_append, List.cons_append, reduceCtorEq, ↓reduceIte, Nat.reduceEqDiff, Nat.reduceAdd, Nat.reduceMul, eq_self, List.length_replicate, Int.reduceToNat, Int.reduceAdd, Int.reduceSub, Int.reduceMul, Int.reduceNeg, Int.reduceLT, Int.reduceLE, rowD, rowI, rowsD, ivD, rowG, rowIG, rowsG, ivG, bne_self_eq_false, beq_self_eq_true, List.length_map, List.getD_cons_zero, List.getD_cons_succ, List.drop_succ_cons, List.drop_zero, List.take_succ_cons, List.take_zero, List.take_nil, List.getElem?_cons_zero, List.getElem?_cons_succ, List.length_cons, List.length_nil, List.length_set, List.set_cons_zero, List.set_cons_succ, List.all_cons, List.all_nil, Nat.reduceLT, Nat.reduceLeDiff, ne_eq, Option.some.injEq, fillV, partsV, V.okPart, gt_iff_lt, ge_iff_le]
    refine ⟨by decide, ?_⟩
    first | refine callG_con (l1_Rare_con (IntKind.i64.wrap (rare.tdiv 9))) rfl ?_ | refine callCG_con (l1_Rare_con (IntKind.i64.wrap (rare.tdiv 9))) rfl ?_ | refine callSG_con (l1_Rare_con (IntKind.i64.wrap (rare.tdiv 9))) rfl ?_
    simp -implicitDefEqProofs only [xC_skip, evS, decide_true, decide_false, decide_eq_true_eq, sides, Inst.places, List.zip_cons_cons, List.zip_nil_right, List.zip_nil_left, List.mem_cons, List.not_mem_nil, forall_eq_or_imp, forall_eq, false_implies, implies_true, Apart, xeff, xhv, hv, effC, xev, look, argSl, atL, drops, keep, inBlockT, pickX, callX, callCX, callSX, callee, List.map_cons, List.map_nil, List.append_nil, List.nil_append, List.cons_append, reduceCtorEq, ↓reduceIte, Nat.reduceEqDiff, Nat.reduceAdd, Nat.reduceMul, eq_self, List.length_replicate, Int.reduceToNat, Int.reduceAdd, Int.reduceSub, Int.reduceMul, Int.reduceNeg, Int.reduceLT, Int.reduceLE, rowD, rowI, rowsD, ivD, rowG, rowIG, rowsG, ivG, bne_self_eq_false, beq_self_eq_true, List.length_map, List.getD_cons_zero, List.getD_cons_succ, List.drop_succ_cons, List.drop_zero, List.take_succ_cons, List.take_zero, List.take_nil, List.getElem?_cons_zero, List.getElem?_cons_succ, List.length_cons, List.length_nil, List.length_set, List.set_cons_zero, List.set_cons_succ, List.all_cons, List.all_nil, Nat.reduceLT, Nat.reduceLeDiff, ne_eq, Option.some.injEq, fillV, partsV, V.okPart, gt_iff_lt, ge_iff_le, getE M x hxM, setE]
    (repeat (with_reducible refine And.intro (by omega) ?_))
    exact fin _ rfl (by rw [← hsq.1]; simp [up2])
  · replace h : ¬ rare % 9 = 0 := by simpa using h
    rw [if_neg h] at fin ⊢
    simp -implicitDefEqProofs only [xC_skip, evS, decide_true, decide_false, decide_eq_true_eq, sides, Inst.places, List.zip_cons_cons, List.zip_nil_right, List.zip_nil_left, List.mem_cons, List.not_mem_nil, forall_eq_or_imp, forall_eq, false_implies, implies_true, Apart, xeff, xhv, hv, effC, xev, look, argSl, atL, drops, keep, inBlockT, pickX, callX, callCX, callSX, callee, List.map_cons, List.map_nil, List.append_nil, List.nil_append, List.cons_append, reduceCtorEq, ↓reduceIte, Nat.reduceEqDiff, Nat.reduceAdd, Nat.reduceMul, eq_self, List.length_replicate, Int.reduceToNat, Int.reduceAdd, Int.reduceSub, Int.reduceMul, Int.reduceNeg, Int.reduceLT, Int.reduceLE, rowD, rowI, rowsD, ivD, rowG, rowIG, rowsG, ivG, bne_self_eq_false, beq_self_eq_true, List.length_map, List.getD_cons_zero, List.getD_cons_succ, List.drop_succ_cons, List.drop_zero, List.take_succ_cons, List.take_zero, List.take_nil, List.getElem?_cons_zero, List.getElem?_cons_succ, List.length_cons, List.length_nil, List.length_set, List.set_cons_zero, List.set_cons_succ, List.all_cons, List.all_nil, Nat.reduceLT, Nat.reduceLeDiff, ne_eq, Option.some.injEq, fillV, partsV, V.okPart, gt_iff_lt, ge_iff_le]
    exact fin _ rfl hsq.1
theorem l6_Make_con (n rare : Int) (ns : List Int) (hns : ns.length < 2 ^ 62) : Con Try.prog 14 [fI n, .d (rowI ns), fI rare] (.d (rowsD (makeM n ns rare))) := by
  have h := makeM_sq n ns rare
  have hm := l6_Make_ac n rare ns hns
  generalize makeM n ns rare = A at h hm
  generalize (n % 5).toNat + 1 = k at h hm
  obtain ⟨h1, h2⟩ := h
  refine Con_of_AC hm (.d (snapF_rows (X := 200) (o := 0) (fun Y q h => by simp [get_nil] at h) (fun r hr Y q h => by simp [get_nil] at h) (by simp [mkH0, get_cons]) (fun r hr => ⟨?_, h2 r hr⟩) h1 rfl))
  rw [mkH0, get_cons, if_pos rfl, Nat.add_zero]
  exact getE _ r (by omega)
/-- The rows that are parted have places that are places. -/
theorem partP_pm (A : List (List Nat)) (n : Nat) : ∀ m, m ≤ n → ∀ B π, partP A n m = some (B, π) → Pm n π := by
  intro m
  induction m with
  | zero =>
    intro _ B π h
    simp only [partP, Option.some.injEq, Prod.mk.injEq] at h
    obtain ⟨_, rfl⟩ := h
    exact ⟨by simp, fun i hi => by simp [List.getD_eq_getElem?_getD, hi]⟩
  | succ m ih =>
    intro hm B π h
    simp only [partP, Option.bind_eq_some_iff] at h
    obtain ⟨⟨C, σ⟩, h1, h2⟩ := h
    obtain ⟨h3, h4⟩ := ih (by omega) C σ h1
    simp only [stepP] at h2
    split at h2
    · cases h2
    · simp only [Option.some.injEq, Prod.mk.injEq] at h2
      obtain ⟨_, rfl⟩ := h2
      have hp := pvP_lt C m (n - 1 - m)
      generalize pvP C m (n - 1 - m) = p at hp
      refine ⟨by simp [swapL, h3], fun i hi => ?_⟩
      have a := h4 m (by omega)
      have b := h4 p (by omega)
      have c := h4 i hi
      simp only [List.getD_eq_getElem?_getD] at a b c
      simp only [swapL, List.getD_eq_getElem?_getD, List.getElem?_set, List.length_set]
      by_cases e : p = i
      · subst e; simpa [h3, hi] using a
      · rw [if_neg e]
        by_cases e2 : m = i
        · subst e2; simpa [h3, hi] using b
        · rw [if_neg e2]; exact c
def two : Nat := 4611686018427387904
theorem pure_rowV (xs : List Nat) : ∀ j, j < (rowV xs).length → PureV ((rowV xs).getD j .any) := by
  intro j hj
  have : j < xs.length := by simpa using hj
  rw [getD_map_fl _ _ this]; exact .flt _
theorem known_none : partP [[0]] 1 1 = none := by kernel_rfl
theorem known_some : partP [[two]] 1 1 = some ([[two]], [0]) := by kernel_rfl
theorem sq_one (x : Nat) : Sq 1 [[x]] := ⟨rfl, fun i hi => by
  obtain rfl : i = 0 := by omega
  rfl⟩
theorem pm_one : Pm 1 [0] := ⟨rfl, fun i hi => by
  obtain rfl : i = 0 := by omega
  exact ⟨by decide, by decide⟩⟩
theorem known_solve : solveP [[two]] [0] [4618441417868443648] 1 = [4613937818241073152] := by kernel_rfl
theorem snp_one {L : Heap} {H X x : Nat} (h1 : L.get H 0 = some [.sl X 0 0 1 1 1]) (h2 : L.get X 0 = some [fl x]) : Snap L (.sl H 0 0 1 1 1) (.d (rowsD [[x]])) := by
  refine .sl h1 rfl (by simp) (fun i hi => rfl) fun i j hi hj => ?_
  obtain rfl : i = 0 := by simpa using hi
  obtain rfl : j = 0 := by omega
  exact snp_row (xs := [x]) h2 rfl rfl
theorem snp_rowI {L : Heap} {X r n ver : Nat} {xs : List Int} (h : L.get X r = some (rowIV xs)) (hn : xs.length = n) (hv : n = ver) : Snap L (.sl X r 0 n 1 ver) (.d (rowI xs)) := by
  subst hn
  refine .sl h (by simpa using hv) (by simp) (fun i hi => rfl) fun i j hi hj => ?_
  obtain rfl : j = 0 := by omega
  rw [show 0 + i * 1 + 0 = i from by omega, getD_rowIV _ _ hi]
  exact .d _
theorem pure_luV (n : Nat) (b : Bool) : PureV (.tup [luV n, fB b]) := by
  refine .tup fun j hj => ?_
  rcases j with _ | _ | j
  · refine .agg fun j hj => ?_
    rcases j with _ | _ | j
    · exact .sl ..
    · exact .sl ..
    · simp at hj; omega
  · exact .bool _
  · simp at hj; omega
theorem pure_two : ∀ j, j < 2 → PureV ([V.sl 2 0 0 1 1 1, V.sl 5 0 0 1 1 1].getD j .any) := by
  intro j hj
  rcases j with _ | _ | j
  · exact .sl ..
  · exact .sl ..
  · omega
theorem pure_lu1 : ∀ X q cells, Heap.get (luH [[two]] [0] 1) X q = some cells → ∀ j, j < cells.length → PureV (cells.getD j .any) := by
  intro X q cells hX j hj
  simp only [luH, get_cons, get_nil] at hX
  split at hX
  · rcases q with _ | q <;> simp at hX; subst hX; exact pure_two j (by simpa using hj)
  · split at hX
    · rcases q with _ | q <;> simp at hX; subst hX
      obtain rfl : j = 0 := by simpa using hj
      exact .int _ _
    · split at hX
      · rcases q with _ | _ | q
        · simp [hdo] at hX; subst hX
          obtain rfl : j = 0 := by simpa using hj
          exact .sl ..
        · simp at hX; subst hX
          obtain rfl : j = 0 := by simpa using hj
          exact .flt _
        · simp at hX
      · split at hX
        · rcases q with _ | q <;> simp at hX; subst hX; exact pure_two j (by simpa using hj)
        · cases hX
set_option maxRecDepth 8000 in
theorem l6_known_con : Con Try.prog 13 [] (fB true) := by
  refine Con_introA A_l6_known_comp rfl mixed ?_
  simp -implicitDefEqProofs only [xC_skip, evS, decide_true, decide_false, decide_eq_true_eq, sides, Inst.places, List.zip_cons_cons, List.zip_nil_right, List.zip_nil_left, List.mem_cons, List.not_mem_nil, forall_eq_or_imp, forall_eq, false_implies, implies_true, Apart, xeff, xhv, hv, effC, xev, look, argSl, atL, drops, keep, inBlockT, pickX, callX, callCX, callSX, callee, List.map_cons, List.map_nil, List.append_nil, List.nil_append, List.cons_append, reduceCtorEq, ↓reduceIte, Nat.reduceEqDiff, Nat.reduceAdd, Nat.reduceMul, eq_self, List.length_replicate, Int.reduceToNat, Int.reduceAdd, Int.reduceSub, Int.reduceMul, Int.reduceNeg, Int.reduceLT, Int.reduceLE, rowD, rowI, rowsD, ivD, rowG, rowIG, rowsG, ivG, bne_self_eq_false, beq_self_eq_true, List.length_map, List.getD_cons_zero, List.getD_cons_succ, List.drop_succ_cons, List.drop_zero, List.take_succ_cons, List.take_zero, List.take_nil, List.getElem?_cons_zero, List.getElem?_cons_succ, List.length_cons, List.length_nil, List.length_set, List.set_cons_zero, List.set_cons_succ, List.all_cons, List.all_nil, Nat.reduceLT, Nat.reduceLeDiff, ne_eq, Option.some.injEq, fillV, partsV, V.okPart, gt_iff_lt, ge_iff_le, A_l6_known]
  refine callG_ac (AC_frame (lin_Part_nil [[0]] 1 (sq_one 0) (by decide) known_none) rfl (.inr ⟨fun j hj => ?_, .tup fun j hj => ?_, fun X q cells h => by simp [get_nil] at h⟩)) ?_
  · obtain rfl : j = 0 := by simpa using hj
    exact snp_one (X := 0) (by simp [get_cons]) (by simp [get_cons])
  · rcases j with _ | _ | j
    · refine .agg fun j hj => ?_
      rcases j with _ | _ | j
      · exact .nil
      · exact .nil
      · simp at hj; omega
    · exact .bool _
    · simp at hj; omega
  simp -implicitDefEqProofs only [xC_skip, evS, decide_true, decide_false, decide_eq_true_eq, sides, Inst.places, List.zip_cons_cons, List.zip_nil_right, List.zip_nil_left, List.mem_cons, List.not_mem_nil, forall_eq_or_imp, forall_eq, false_implies, implies_true, Apart, xeff, xhv, hv, effC, xev, look, argSl, atL, drops, keep, inBlockT, pickX, callX, callCX, callSX, callee, List.map_cons, List.map_nil, List.append_nil, List.nil_append, List.cons_append, reduceCtorEq, ↓reduceIte, Nat.reduceEqDiff, Nat.reduceAdd, Nat.reduceMul, eq_self, List.length_replicate, Int.reduceToNat, Int.reduceAdd, Int.reduceSub, Int.reduceMul, Int.reduceNeg, Int.reduceLT, Int.reduceLE, rowD, rowI, rowsD, ivD, rowG, rowIG, rowsG, ivG, bne_self_eq_false, beq_self_eq_true, List.length_map, List.getD_cons_zero, List.getD_cons_succ, List.drop_succ_cons, List.drop_zero, List.take_succ_cons, List.take_zero, List.take_nil, List.getElem?_cons_zero, List.getElem?_cons_succ, List.length_cons, List.length_nil, List.length_set, List.set_cons_zero, List.set_cons_succ, List.all_cons, List.all_nil, Nat.reduceLT, Nat.reduceLeDiff, ne_eq, Option.some.injEq, fillV, partsV, V.okPart, gt_iff_lt, ge_iff_le, Heap.up, V.ren, V.renL]
  refine callG_ac (AC_frame (lin_Part_some [[two]] 1 (sq_one two) (by decide) [[two]] [0] known_some) rfl (.inr ⟨fun j hj => ?_, pure_luV 1 true, pure_lu1⟩)) ?_
  · obtain rfl : j = 0 := by simpa using hj
    exact snp_one (X := 7) (by simp [get_cons]) (by simp [get_cons, two])
  have hh : (hdo 2 1 1 1).map (V.ren (upF 9)) = hdo 11 1 1 1 := hdo_ren _ 2 1 1 1 11 1 (fun j _ => rfl)
  simp -implicitDefEqProofs only [xC_skip, evS, decide_true, decide_false, decide_eq_true_eq, sides, Inst.places, List.zip_cons_cons, List.zip_nil_right, List.zip_nil_left, List.mem_cons, List.not_mem_nil, forall_eq_or_imp, forall_eq, false_implies, implies_true, Apart, xeff, xhv, hv, effC, xev, look, argSl, atL, drops, keep, inBlockT, pickX, callX, callCX, callSX, callee, List.map_cons, List.map_nil, List.append_nil, List.nil_append, List.cons_append, reduceCtorEq, ↓reduceIte, Nat.reduceEqDiff, Nat.reduceAdd, Nat.reduceMul, eq_self, List.length_replicate, Int.reduceToNat, Int.reduceAdd, Int.reduceSub, Int.reduceMul, Int.reduceNeg, Int.reduceLT, Int.reduceLE, rowD, rowI, rowsD, ivD, rowG, rowIG, rowsG, ivG, bne_self_eq_false, beq_self_eq_true, List.length_map, List.getD_cons_zero, List.getD_cons_succ, List.drop_succ_cons, List.drop_zero, List.take_succ_cons, List.take_zero, List.take_nil, List.getElem?_cons_zero, List.getElem?_cons_succ, List.length_cons, List.length_nil, List.length_set, List.set_cons_zero, List.set_cons_succ, List.all_cons, List.all_nil, Nat.reduceLT, Nat.reduceLeDiff, ne_eq, Option.some.injEq, fillV, partsV, V.okPart, gt_iff_lt, ge_iff_le, Heap.up, luH, luV, V.ren, V.renL, hh, upF]
  refine callG_ac (AC_frame (us := [.agg [.d (rowsD [[two]]), .d (rowI [0])], .d (rowD [4618441417868443648])]) (lin_Solve_row [[two]] [0] [4618441417868443648] 1 (sq_one two) pm_one rfl (by decide)) rfl (.inr ⟨fun j hj => ?_, .sl .., fun X q cells hX j hj => ?_⟩)) ?_
  · rcases j with _ | _ | j
    · refine .agg rfl fun j hj => ?_
      rcases j with _ | _ | j
      · exact snp_rows (X := 11) (o := 1) (len := 1) (by simp [get_cons]) (fun r hr => ⟨by (obtain rfl : r = 0 := by omega); simp [get_cons], by (obtain rfl : r = 0 := by omega); rfl⟩) rfl rfl
      · exact snp_rowI (xs := [0]) (by simp [get_cons]) rfl rfl
      · simp at hj; omega
    · exact snp_row (xs := [4618441417868443648]) (by simp [get_cons]) rfl rfl
    · simp at hj; omega
  · rw [get_cons, get_nil] at hX
    split at hX
    · rcases q with _ | q <;> simp at hX; subst hX; exact pure_rowV _ j hj
    · cases hX
  rw [known_solve]
  have h3 : fcmp .eq 4613937818241073152 4613937818241073152 = true := by decide
  simp -implicitDefEqProofs only [xC_skip, evS, decide_true, decide_false, decide_eq_true_eq, sides, Inst.places, List.zip_cons_cons, List.zip_nil_right, List.zip_nil_left, List.mem_cons, List.not_mem_nil, forall_eq_or_imp, forall_eq, false_implies, implies_true, Apart, xeff, xhv, hv, effC, xev, look, argSl, atL, drops, keep, inBlockT, pickX, callX, callCX, callSX, callee, List.map_cons, List.map_nil, List.append_nil, List.nil_append, List.cons_append, reduceCtorEq, ↓reduceIte, Nat.reduceEqDiff, Nat.reduceAdd, Nat.reduceMul, eq_self, List.length_replicate, Int.reduceToNat, Int.reduceAdd, Int.reduceSub, Int.reduceMul, Int.reduceNeg, Int.reduceLT, Int.reduceLE, rowD, rowI, rowsD, ivD, rowG, rowIG, rowsG, ivG, bne_self_eq_false, beq_self_eq_true, List.length_map, List.getD_cons_zero, List.getD_cons_succ, List.drop_succ_cons, List.drop_zero, List.take_succ_cons, List.take_zero, List.take_nil, List.getElem?_cons_zero, List.getElem?_cons_succ, List.length_cons, List.length_nil, List.length_set, List.set_cons_zero, List.set_cons_succ, List.all_cons, List.all_nil, Nat.reduceLT, Nat.reduceLeDiff, ne_eq, Option.some.injEq, fillV, partsV, V.okPart, gt_iff_lt, ge_iff_le, Heap.up, V.ren, V.renL, upF, h3]
  refine callG_ac (AC_frame (us := [.d (rowsD [[two]]), .d (rowD [4613937818241073152]), .d (rowD [4618441417868443648])]) (lin_Left_ac [[two]] [4613937818241073152] [4618441417868443648] 1 (sq_one two) rfl rfl (by decide)) rfl (.inr ⟨fun j hj => ?_, .sl .., fun X q cells hX j hj => ?_⟩)) ?_
  · rcases j with _ | _ | _ | j
    · exact snp_one (X := 39) (by simp [get_cons]) (by simp [get_cons, two])
    · exact snp_row (xs := [4613937818241073152]) (by simp [get_cons]) rfl rfl
    · exact snp_row (xs := [4618441417868443648]) (by simp [get_cons]) rfl rfl
    · simp at hj; omega
  · rw [get_cons, get_nil] at hX
    split at hX
    · rcases q with _ | q <;> simp at hX; subst hX
      have : (leftP [[two]] [4613937818241073152] [4618441417868443648] 1).length = 1 := leftP_len _ _ _ _
      generalize leftP [[two]] [4613937818241073152] [4618441417868443648] 1 = ps at this hj
      rw [ivC_length, this] at hj
      have e := ivC_getD ps 0 j (by omega) (by omega)
      rw [Nat.zero_mul, Nat.zero_add] at e
      rw [e]
      rcases j with _ | _ | j
      · exact .flt _
      · exact .flt _
      · omega
    · cases hX
  simp -implicitDefEqProofs only [xC_skip, evS, decide_true, decide_false, decide_eq_true_eq, sides, Inst.places, List.zip_cons_cons, List.zip_nil_right, List.zip_nil_left, List.mem_cons, List.not_mem_nil, forall_eq_or_imp, forall_eq, false_implies, implies_true, Apart, xeff, xhv, hv, effC, xev, look, argSl, atL, drops, keep, inBlockT, pickX, callX, callCX, callSX, callee, List.map_cons, List.map_nil, List.append_nil, List.nil_append, List.cons_append, reduceCtorEq, ↓reduceIte, Nat.reduceEqDiff, Nat.reduceAdd, Nat.reduceMul, eq_self, List.length_replicate, Int.reduceToNat, Int.reduceAdd, Int.reduceSub, Int.reduceMul, Int.reduceNeg, Int.reduceLT, Int.reduceLE, rowD, rowI, rowsD, ivD, rowG, rowIG, rowsG, ivG, bne_self_eq_false, beq_self_eq_true, List.length_map, List.getD_cons_zero, List.getD_cons_succ, List.drop_succ_cons, List.drop_zero, List.take_succ_cons, List.take_zero, List.take_nil, List.getElem?_cons_zero, List.getElem?_cons_succ, List.length_cons, List.length_nil, List.length_set, List.set_cons_zero, List.set_cons_succ, List.all_cons, List.all_nil, Nat.reduceLT, Nat.reduceLeDiff, ne_eq, Option.some.injEq, fillV, partsV, V.okPart, gt_iff_lt, ge_iff_le, Heap.up, V.ren, V.renL, upF]
  exact endsT_rett rfl (by decide) (by simp [look])
end Go.Ab
