/- LinOne: rows of ones by a power of two. -/
import Derived.Test.YtnoeajoeeldimaaLK
namespace Go.Ab
set_option linter.unusedSimpArgs false
set_option linter.unusedVariables false
open Go Go.Proofs
def A_l6_LinOne_L0 : CA := (.seq (.seq (.reg [⟨0, (some 22), none, [], [], (.h (.mov (.t 9)))⟩, ⟨1, (some 23), none, [], [], (.h (.mov (.t 1)))⟩, ⟨2, (some 24), none, [], [], (.callA (.k (.d (.fn 27 [] []))) [(.t 23), (.k (.d (.int .i64 20)))])⟩, ⟨3, (some 25), none, [], [], (.h (.ibin .lss (.t 22) (.t 24)))⟩] [1, 2, 7, 8, 9, 25]) (.cond (.t 25) .skip (.exit 0))) (.seq (.block 1 (.reg [⟨0, (some 28), none, [], [], (.h (.mov (.t 8)))⟩, ⟨1, (some 29), none, [], [], (.h (.fbin .mul (.t 28) (.k (.d (.flt 4611686018427387904)))))⟩, ⟨2, (some 8), none, [], [], (.h (.mov (.t 29)))⟩] [1, 2, 7, 8, 9])) (.reg [⟨0, (some 26), none, [], [], (.h (.mov (.t 9)))⟩, ⟨1, (some 27), none, [], [], (.h (.ibin .add (.t 26) (.k (.d (.int .i64 1)))))⟩, ⟨2, (some 9), none, [], [], (.h (.mov (.t 27)))⟩] [1, 2, 7, 8, 9])))
def A_l6_LinOne_L1 : CA := (.seq (.seq (.reg [⟨0, (some 32), none, [], [], (.h (.mov (.t 11)))⟩, ⟨1, (some 33), none, [], [], (.h (.mov (.t 7)))⟩, ⟨2, (some 34), none, [], [], (.h (.ibin .lss (.t 32) (.t 33)))⟩] [2, 7, 8, 10, 11, 34]) (.cond (.t 34) .skip (.exit 2))) (.seq (.block 3 (.seq (.reg [⟨0, (some 37), none, [], [], (.h (.mov (.t 10)))⟩, ⟨1, (some 38), none, [], [], (.h (.mov (.t 11)))⟩, ⟨2, (some 39), none, [], [], (.h (.mov (.t 7)))⟩, ⟨3, (some 40), none, [], [], (.mksl [(.d (.flt 0))] 1 8 (.t 39) (.t 39) 45)⟩, ⟨4, (some 41), none, [], [], (.h (.idx (.t 37) (.t 38) 1))⟩, ⟨5, none, none, [], [], (.store (.t 41) (.t 40) 1)⟩] [2, 7, 8, 10, 11]) (.reg [⟨0, (some 42), none, [], [], (.h (.mov (.t 10)))⟩, ⟨1, (some 43), none, [], [], (.h (.mov (.t 11)))⟩, ⟨2, (some 44), none, [], [], (.h (.idx (.t 42) (.t 43) 1))⟩, ⟨3, (some 45), none, [], [], (.load (.t 44) 1 false)⟩, ⟨4, (some 46), none, [], [], (.h (.mov (.t 11)))⟩, ⟨5, (some 47), none, [], [], (.h (.mov (.t 8)))⟩, ⟨6, (some 48), none, [], [], (.h (.idx (.t 45) (.t 46) 1))⟩, ⟨7, none, none, [], [], (.store (.t 48) (.t 47) 1)⟩] [2, 7, 8, 10, 11]))) (.reg [⟨0, (some 35), none, [], [], (.h (.mov (.t 11)))⟩, ⟨1, (some 36), none, [], [], (.h (.ibin .add (.t 35) (.k (.d (.int .i64 1)))))⟩, ⟨2, (some 11), none, [], [], (.h (.mov (.t 36)))⟩] [2, 7, 8, 10, 11])))
def A_l6_LinOne_L2 : CA := (.seq (.seq (.reg [⟨0, (some 66), none, [], [], (.h (.mov (.t 16)))⟩, ⟨1, (some 67), none, [], [], (.h (.mov (.t 7)))⟩, ⟨2, (some 68), none, [], [], (.h (.ibin .lss (.t 66) (.t 67)))⟩] [7, 8, 12, 15, 16, 68]) (.cond (.t 68) .skip (.exit 4))) (.seq (.block 5 (.seq (.reg [⟨0, (some 71), none, [], [], (.h (.mov (.t 15)))⟩, ⟨1, (some 72), none, [], [], (.h (.mov (.t 16)))⟩, ⟨2, (some 73), none, [], [], (.h (.idx (.t 71) (.t 72) 1))⟩, ⟨3, (some 74), none, [], [], (.load (.t 73) 1 false)⟩, ⟨4, (some 75), none, [], [], (.h (.mov (.t 8)))⟩, ⟨5, (some 76), none, [], [], (.h (.fbin .mul (.t 74) (.t 75)))⟩, ⟨6, (some 77), none, [], [], (.h (.mov (.t 12)))⟩, ⟨7, (some 78), none, [], [], (.h (.mov (.t 16)))⟩, ⟨8, (some 79), none, [], [], (.h (.idx (.t 77) (.t 78) 1))⟩, ⟨9, (some 80), none, [], [], (.load (.t 79) 1 false)⟩, ⟨10, (some 81), none, [], [], (.h (.fcmp .ne (.t 76) (.t 80)))⟩] [7, 8, 12, 15, 16, 81]) (.cond (.t 81) (.seq (.reg [⟨0, (some 6), none, [], [], (.h (.mov (.k (.d (.bool false)))))⟩] [6]) .ret) .skip))) (.reg [⟨0, (some 69), none, [], [], (.h (.mov (.t 16)))⟩, ⟨1, (some 70), none, [], [], (.h (.ibin .add (.t 69) (.k (.d (.int .i64 1)))))⟩, ⟨2, (some 16), none, [], [], (.h (.mov (.t 70)))⟩] [7, 8, 12, 15, 16])))
def A_l6_LinOne : CA := (.seq (.reg [⟨0, (some 6), none, [], [], (.h (.mov (.k (.d (.bool false)))))⟩] [0, 1, 2]) (.seq (.seq (.reg [⟨0, (some 17), none, [], [], (.callA (.k (.d (.fn 13 [] []))) [])⟩, ⟨1, (some 18), none, [], [], (.h (.un .not (.t 17)))⟩] [0, 1, 2, 18]) (.cond (.t 18) (.seq (.reg [⟨0, (some 6), none, [], [], (.h (.mov (.k (.d (.bool false)))))⟩] [6]) .ret) .skip)) (.seq (.reg [⟨0, (some 19), none, [], [], (.h (.mov (.t 0)))⟩, ⟨1, (some 20), none, [], [], (.callA (.k (.d (.fn 27 [] []))) [(.t 19), (.k (.d (.int .i64 8)))])⟩, ⟨2, (some 21), none, [], [], (.h (.ibin .add (.k (.d (.int .i64 1))) (.t 20)))⟩, ⟨3, (some 7), none, [], [], (.h (.mov (.t 21)))⟩] [1, 2, 7]) (.seq (.reg [⟨0, (some 8), none, [], [], (.h (.mov (.k (.d (.flt 4607182418800017408)))))⟩] [1, 2, 7, 8]) (.seq (.seq (.reg [⟨0, (some 9), none, [], [], (.h (.mov (.k (.d (.int .i64 0)))))⟩] [1, 2, 7, 8, 9]) (.block 0 (.loop A_l6_LinOne_L0))) (.seq (.reg [⟨0, (some 30), none, [], [], (.h (.mov (.t 7)))⟩, ⟨1, (some 31), none, [], [], (.mksl [.nil] 1 24 (.t 30) (.t 30) 26)⟩, ⟨2, (some 10), none, [], [], (.h (.mov (.t 31)))⟩] [2, 7, 8, 10]) (.seq (.seq (.reg [⟨0, (some 11), none, [], [], (.h (.mov (.k (.d (.int .i64 0)))))⟩] [2, 7, 8, 10, 11]) (.block 2 (.loop A_l6_LinOne_L1))) (.seq (.reg [⟨0, (some 49), none, [], [], (.h (.mov (.t 7)))⟩, ⟨1, (some 50), none, [], [], (.h (.mov (.t 2)))⟩, ⟨2, (some 51), none, [], [], (.callA (.k (.d (.fn 15 [] []))) [(.t 49), (.t 50)])⟩, ⟨3, (some 12), none, [], [], (.h (.mov (.t 51)))⟩] [7, 8, 10, 12]) (.seq (.reg [⟨0, (some 53), none, [], [], (.h (.mov (.t 10)))⟩, ⟨1, (some 54), none, [], [], (.callA (.k (.d (.fn 16 [] []))) [(.t 53)])⟩, ⟨2, (some 52), none, [], [], (.h (.mov (.t 54)))⟩, ⟨3, (some 55), none, [], [], (.h (.ext (.t 52) 0))⟩, ⟨4, (some 56), none, [], [], (.h (.ext (.t 52) 1))⟩, ⟨5, (some 13), none, [], [], (.alloc [.nil, .nil] 29)⟩, ⟨6, none, none, [], [], (.store (.t 13) (.t 55) 2)⟩, ⟨7, (some 14), none, [], [], (.h (.mov (.t 56)))⟩] [7, 8, 12, 13, 14]) (.seq (.seq (.reg [⟨0, (some 57), none, [], [], (.h (.mov (.t 14)))⟩, ⟨1, (some 58), none, [], [], (.h (.un .not (.t 57)))⟩] [7, 8, 12, 13, 58]) (.cond (.t 58) (.seq (.reg [⟨0, (some 6), none, [], [], (.h (.mov (.k (.d (.bool false)))))⟩] [6]) .ret) .skip)) (.seq (.reg [⟨0, (some 59), none, [], [], (.load (.t 13) 2 true)⟩, ⟨1, (some 60), none, [], [], (.h (.mov (.t 12)))⟩, ⟨2, (some 61), none, [], [], (.callA (.k (.d (.fn 24 [] []))) [(.t 59), (.t 60)])⟩, ⟨3, (some 15), none, [], [], (.h (.mov (.t 61)))⟩] [7, 8, 12, 15]) (.seq (.seq (.reg [⟨0, (some 62), none, [], [], (.h (.mov (.t 15)))⟩, ⟨1, (some 63), none, [], [], (.h (.len (.t 62)))⟩, ⟨2, (some 64), none, [], [], (.h (.mov (.t 7)))⟩, ⟨3, (some 65), none, [], [], (.h (.ibin .neq (.t 63) (.t 64)))⟩] [7, 8, 12, 15, 65]) (.cond (.t 65) (.seq (.reg [⟨0, (some 6), none, [], [], (.h (.mov (.k (.d (.bool false)))))⟩] [6]) .ret) .skip)) (.seq (.seq (.reg [⟨0, (some 16), none, [], [], (.h (.mov (.k (.d (.int .i64 0)))))⟩] [7, 8, 12, 15, 16]) (.block 4 (.loop A_l6_LinOne_L2))) (.seq (.reg [⟨0, (some 6), none, [], [], (.h (.mov (.k (.d (.bool true)))))⟩] [6]) .ret))))))))))))))
theorem A_l6_LinOne_comp : compF Try.prog 12 = some ⟨82, [(6, none)], A_l6_LinOne.strip⟩ := by kernel_rfl
def pow2 : Nat → Nat
  | 0 => 4607182418800017408
  | m + 1 => fop .mul (pow2 m) 4611686018427387904
theorem pure_lu (B : List (List Nat)) (π : List Int) (n : Nat) : ∀ X q cells, Heap.get (luH B π n) X q = some cells → ∀ j, j < cells.length → PureV (cells.getD j .any) := by
  have two : ∀ j, j < 2 → PureV ([V.sl 2 0 0 n 1 n, V.sl 5 0 0 n 1 n].getD j .any) := by
    intro j hj
    rcases j with _ | _ | j
    · exact .sl ..
    · exact .sl ..
    · omega
  intro X q cells hX j hj
  simp only [luH, get_cons, get_nil] at hX
  split at hX
  · rcases q with _ | q <;> simp at hX; subst hX; exact two j (by simpa using hj)
  · split at hX
    · rcases q with _ | q <;> simp at hX; subst hX
      have hj' : j < π.length := by simpa using hj
      have := getD_rowIV π j hj'
      rw [this]; exact .int _ _
    · split at hX
      · rcases q with _ | q
        · simp at hX; subst hX
          have hj' : j < n := by simpa [hdo_length] using hj
          rw [hdo_getD _ _ _ _ _ hj']; exact .sl ..
        · simp only [List.getElem?_cons_succ, List.getElem?_map] at hX
          obtain ⟨xs, _, rfl⟩ := Option.map_eq_some_iff.1 hX
          exact pure_rowV xs j hj
      · split at hX
        · rcases q with _ | q <;> simp at hX; subst hX; exact two j (by simpa using hj)
        · cases hX
set_option maxRecDepth 8000 in
theorem one_L0 (N : Nat → Prop) (bs : List Int) (kk : Int) (m t : Nat) (ht : kk % 20 = t) (Q : Ex → T → Prop)
    (hQ : ∀ v w, Q (.exit 0) ⟨[(1, fI kk), (2, .d (rowI bs)), (7, fI m), (8, fl (pow2 t)), (9, v), (25, w)], []⟩) :
    WA Try.prog N 82 (.loop A_l6_LinOne_L0) Q ⟨[(1, fI kk), (2, .d (rowI bs)), (7, fI m), (8, fl (pow2 0)), (9, fI 0)], []⟩ := by
  refine WA_for (n := t) (fun c s => ∃ i, c + i = t ∧ s = ⟨[(1, fI kk), (2, .d (rowI bs)), (7, fI m), (8, fl (pow2 i)), (9, fI i)], []⟩) ⟨0, by omega, rfl⟩ ?_
  rintro c s ⟨i, hc, rfl⟩
  have ht2 : t < 20 := by
    have := Int.emod_lt_of_pos kk (by decide : (0 : Int) < 20)
    omega
  simp -implicitDefEqProofs only [xC_skip, evS, decide_true, decide_false, decide_eq_true_eq, sides, Inst.places, List.zip_cons_cons, List.zip_nil_right, List.zip_nil_left, List.mem_cons, List.not_mem_nil, forall_eq_or_imp, forall_eq, false_implies, implies_true, Apart, xeff, xhv, hv, effC, xev, look, argSl, atL, drops, keep, inBlockT, pickX, callX, callCX, callSX, callee, List.map_cons, List.map_nil, List.append_nil, List.nil_append, List.cons_append, reduceCtorEq, ↓reduceIte, Nat.reduceEqDiff, Nat.reduceAdd, Nat.reduceMul, eq_self, List.length_replicate, Int.reduceToNat, Int.reduceAdd, Int.reduceSub, Int.reduceMul, Int.reduceNeg, Int.reduceLT, Int.reduceLE, rowD, rowI, rowsD, ivD, rowG, rowIG, rowsG, ivG, bne_self_eq_false, beq_self_eq_true, List.length_map, List.getD_cons_zero, List.getD_cons_succ, List.drop_succ_cons, List.drop_zero, List.take_succ_cons, List.take_zero, List.take_nil, List.getElem?_cons_zero, List.getElem?_cons_succ, List.length_cons, List.length_nil, List.length_set, List.set_cons_zero, List.set_cons_succ, List.all_cons, List.all_nil, Nat.reduceLT, Nat.reduceLeDiff, ne_eq, Option.some.injEq, fillV, partsV, V.okPart, gt_iff_lt, ge_iff_le, A_l6_LinOne_L0]
  first | refine callG_con (l6_within_con kk 20 (by decide) (by decide)) rfl ?_ | refine callCG_con (l6_within_con kk 20 (by decide) (by decide)) rfl ?_ | refine callSG_con (l6_within_con kk 20 (by decide) (by decide)) rfl ?_
  rw [ht]
  simp -implicitDefEqProofs only [xC_skip, evS, decide_true, decide_false, decide_eq_true_eq, sides, Inst.places, List.zip_cons_cons, List.zip_nil_right, List.zip_nil_left, List.mem_cons, List.not_mem_nil, forall_eq_or_imp, forall_eq, false_implies, implies_true, Apart, xeff, xhv, hv, effC, xev, look, argSl, atL, drops, keep, inBlockT, pickX, callX, callCX, callSX, callee, List.map_cons, List.map_nil, List.append_nil, List.nil_append, List.cons_append, reduceCtorEq, ↓reduceIte, Nat.reduceEqDiff, Nat.reduceAdd, Nat.reduceMul, eq_self, List.length_replicate, Int.reduceToNat, Int.reduceAdd, Int.reduceSub, Int.reduceMul, Int.reduceNeg, Int.reduceLT, Int.reduceLE, rowD, rowI, rowsD, ivD, rowG, rowIG, rowsG, ivG, bne_self_eq_false, beq_self_eq_true, List.length_map, List.getD_cons_zero, List.getD_cons_succ, List.drop_succ_cons, List.drop_zero, List.take_succ_cons, List.take_zero, List.take_nil, List.getElem?_cons_zero, List.getElem?_cons_succ, List.length_cons, List.length_nil, List.length_set, List.set_cons_zero, List.set_cons_succ, List.all_cons, List.all_nil, Nat.reduceLT, Nat.reduceLeDiff, ne_eq, Option.some.injEq, fillV, partsV, V.okPart, gt_iff_lt, ge_iff_le]
  refine condC_intro (fun h => ?_) (fun h => ?_)
  · replace h := of_decide_eq_true h
    simp -implicitDefEqProofs only [xC_skip, evS, decide_true, decide_false, decide_eq_true_eq, sides, Inst.places, List.zip_cons_cons, List.zip_nil_right, List.zip_nil_left, List.mem_cons, List.not_mem_nil, forall_eq_or_imp, forall_eq, false_implies, implies_true, Apart, xeff, xhv, hv, effC, xev, look, argSl, atL, drops, keep, inBlockT, pickX, callX, callCX, callSX, callee, List.map_cons, List.map_nil, List.append_nil, List.nil_append, List.cons_append, reduceCtorEq, ↓reduceIte, Nat.reduceEqDiff, Nat.reduceAdd, Nat.reduceMul, eq_self, List.length_replicate, Int.reduceToNat, Int.reduceAdd, Int.reduceSub, Int.reduceMul, Int.reduceNeg, Int.reduceLT, Int.reduceLE, rowD, rowI, rowsD, ivD, rowG, rowIG, rowsG, ivG, bne_self_eq_false, beq_self_eq_true, List.length_map, List.getD_cons_zero, List.getD_cons_succ, List.drop_succ_cons, List.drop_zero, List.take_succ_cons, List.take_zero, List.take_nil, List.getElem?_cons_zero, List.getElem?_cons_succ, List.length_cons, List.length_nil, List.length_set, List.set_cons_zero, List.set_cons_succ, List.all_cons, List.all_nil, Nat.reduceLT, Nat.reduceLeDiff, ne_eq, Option.some.injEq, fillV, partsV, V.okPart, gt_iff_lt, ge_iff_le]
    rw [wrapI (by omega) (by omega)]
    exact ⟨c - 1, by omega, i + 1, by omega, rfl⟩
  · replace h := of_decide_eq_false h
    simp -implicitDefEqProofs only [xC_skip, evS, decide_true, decide_false, decide_eq_true_eq, sides, Inst.places, List.zip_cons_cons, List.zip_nil_right, List.zip_nil_left, List.mem_cons, List.not_mem_nil, forall_eq_or_imp, forall_eq, false_implies, implies_true, Apart, xeff, xhv, hv, effC, xev, look, argSl, atL, drops, keep, inBlockT, pickX, callX, callCX, callSX, callee, List.map_cons, List.map_nil, List.append_nil, List.nil_append, List.cons_append, reduceCtorEq, ↓reduceIte, Nat.reduceEqDiff, Nat.reduceAdd, Nat.reduceMul, eq_self, List.length_replicate, Int.reduceToNat, Int.reduceAdd, Int.reduceSub, Int.reduceMul, Int.reduceNeg, Int.reduceLT, Int.reduceLE, rowD, rowI, rowsD, ivD, rowG, rowIG, rowsG, ivG, bne_self_eq_false, beq_self_eq_true, List.length_map, List.getD_cons_zero, List.getD_cons_succ, List.drop_succ_cons, List.drop_zero, List.take_succ_cons, List.take_zero, List.take_nil, List.getElem?_cons_zero, List.getElem?_cons_succ, List.length_cons, List.length_nil, List.length_set, List.set_cons_zero, List.set_cons_succ, List.all_cons, List.all_nil, Nat.reduceLT, Nat.reduceLeDiff, ne_eq, Option.some.injEq, fillV, partsV, V.okPart, gt_iff_lt, ge_iff_le]
    obtain rfl : t = i := by omega
    exact hQ _ _
def oneM (c m i : Nat) : List (List Nat) := (List.range i).map fun r => (List.replicate m 0).set r c
theorem oneM_len (c m i : Nat) : (oneM c m i).length = i := by simp [oneM]
set_option maxRecDepth 8000 in
theorem one_L1 (N : Nat → Prop) (hN : ∀ Y, ¬ N Y) (bs : List Int) (m c : Nat) (hm : m < 2 ^ 20) (Q : Ex → T → Prop)
    (hQ : ∀ v w, Q (.exit 2) ⟨[(2, .d (rowI bs)), (7, fI m), (8, fl c), (10, .sl 1 0 0 m 1 m), (11, v), (34, w)], [(100, (oneM c m m).map rowV), (1, [hd 100 m m m])]⟩) :
    WA Try.prog N 82 (.loop A_l6_LinOne_L1) Q ⟨[(2, .d (rowI bs)), (7, fI m), (8, fl c), (10, .sl 1 0 0 m 1 m), (11, fI 0)], [(1, [repl m [.nil]])]⟩ := by
  refine WA_forW (n := m) (fun k s => ∃ i, k + i = m ∧ s = ⟨[(2, .d (rowI bs)), (7, fI m), (8, fl c), (10, .sl 1 0 0 m 1 m), (11, fI i)], [(100, (oneM c m i).map rowV), (1, [hd 100 m i m])]⟩) (s0 := ⟨_, _⟩) ?_ ⟨0, by omega, rfl⟩ ?_
  · rw [hd_zero]
    exact LeT.empty (L1 := []) (by simp [fam_cons, fam_nil])
  rintro k s ⟨i, hk, rfl⟩
  simp -implicitDefEqProofs only [xC_skip, evS, decide_true, decide_false, decide_eq_true_eq, sides, Inst.places, List.zip_cons_cons, List.zip_nil_right, List.zip_nil_left, List.mem_cons, List.not_mem_nil, forall_eq_or_imp, forall_eq, false_implies, implies_true, Apart, xeff, xhv, hv, effC, xev, look, argSl, atL, drops, keep, inBlockT, pickX, callX, callCX, callSX, callee, List.map_cons, List.map_nil, List.append_nil, List.nil_append, List.cons_append, reduceCtorEq, ↓reduceIte, Nat.reduceEqDiff, Nat.reduceAdd, Nat.reduceMul, eq_self, List.length_replicate, Int.reduceToNat, Int.reduceAdd, Int.reduceSub, Int.reduceMul, Int.reduceNeg, Int.reduceLT, Int.reduceLE, rowD, rowI, rowsD, ivD, rowG, rowIG, rowsG, ivG, bne_self_eq_false, beq_self_eq_true, List.length_map, List.getD_cons_zero, List.getD_cons_succ, List.drop_succ_cons, List.drop_zero, List.take_succ_cons, List.take_zero, List.take_nil, List.getElem?_cons_zero, List.getElem?_cons_succ, List.length_cons, List.length_nil, List.length_set, List.set_cons_zero, List.set_cons_succ, List.all_cons, List.all_nil, Nat.reduceLT, Nat.reduceLeDiff, ne_eq, Option.some.injEq, fillV, partsV, V.okPart, gt_iff_lt, ge_iff_le, A_l6_LinOne_L1]
  refine condC_intro (fun h => ?_) (fun h => ?_)
  · replace h := of_decide_eq_true h
    have e0 : i < (List.replicate m 0).length := by simpa using h
    simp -implicitDefEqProofs only [xC_skip, evS, decide_true, decide_false, decide_eq_true_eq, sides, Inst.places, List.zip_cons_cons, List.zip_nil_right, List.zip_nil_left, List.mem_cons, List.not_mem_nil, forall_eq_or_imp, forall_eq, false_implies, implies_true, Apart, xeff, xhv, hv, effC, xev, look, argSl, atL, drops, keep, inBlockT, pickX, callX, callCX, callSX, callee, List.map_cons, List.map_nil, List.append_nil, List.nil_append, List.cons_append, reduceCtorEq, ↓reduceIte, Nat.reduceEqDiff, Nat.reduceAdd, Nat.reduceMul, eq_self, List.length_replicate, Int.reduceToNat, Int.reduceAdd, Int.reduceSub, Int.reduceMul, Int.reduceNeg, Int.reduceLT, Int.reduceLE, rowD, rowI, rowsD, ivD, rowG, rowIG, rowsG, ivG, bne_self_eq_false, beq_self_eq_true, List.length_map, List.getD_cons_zero, List.getD_cons_succ, List.drop_succ_cons, List.drop_zero, List.take_succ_cons, List.take_zero, List.take_nil, List.getElem?_cons_zero, List.getElem?_cons_succ, List.length_cons, List.length_nil, List.length_set, List.set_cons_zero, List.set_cons_succ, List.all_cons, List.all_nil, Nat.reduceLT, Nat.reduceLeDiff, ne_eq, Option.some.injEq, fillV, partsV, V.okPart, gt_iff_lt, ge_iff_le, hd_set_get _ _ _ _ _ h]
    (repeat (with_reducible refine And.intro (by omega) ?_))
    rw [wrapI (by omega) (by omega)]
    refine ⟨k - 1, _, by omega, LeT.absorb (by decide) (by simp [fam_cons, fam_nil]) (by simp [fam_cons, fam_nil]) (hN _), i + 1, by omega, ?_⟩
    have e2 : ((oneM c m i).map rowV).length = i := by simp [oneM]
    have e3 : (oneM c m i).map rowV ++ [rowV ((List.replicate m 0).set i c)] = (oneM c m (i + 1)).map rowV := by simp [oneM, List.range_succ]
    rw [e2, ren_fam, ren_rowV, e3]
    simp only [renS, Heap.renH, ren_absF_sl _ _ _ _ _ _ _ _ _ (by decide : (1 : Nat) ≠ 104), ren_d, List.map_cons, List.map_nil, hd_absorb 104 100 _ _ _ (by decide) h]
    rfl
  · replace h := of_decide_eq_false h
    simp -implicitDefEqProofs only [xC_skip, evS, decide_true, decide_false, decide_eq_true_eq, sides, Inst.places, List.zip_cons_cons, List.zip_nil_right, List.zip_nil_left, List.mem_cons, List.not_mem_nil, forall_eq_or_imp, forall_eq, false_implies, implies_true, Apart, xeff, xhv, hv, effC, xev, look, argSl, atL, drops, keep, inBlockT, pickX, callX, callCX, callSX, callee, List.map_cons, List.map_nil, List.append_nil, List.nil_append, List.cons_append, reduceCtorEq, ↓reduceIte, Nat.reduceEqDiff, Nat.reduceAdd, Nat.reduceMul, eq_self, List.length_replicate, Int.reduceToNat, Int.reduceAdd, Int.reduceSub, Int.reduceMul, Int.reduceNeg, Int.reduceLT, Int.reduceLE, rowD, rowI, rowsD, ivD, rowG, rowIG, rowsG, ivG, bne_self_eq_false, beq_self_eq_true, List.length_map, List.getD_cons_zero, List.getD_cons_succ, List.drop_succ_cons, List.drop_zero, List.take_succ_cons, List.take_zero, List.take_nil, List.getElem?_cons_zero, List.getElem?_cons_succ, List.length_cons, List.length_nil, List.length_set, List.set_cons_zero, List.set_cons_succ, List.all_cons, List.all_nil, Nat.reduceLT, Nat.reduceLeDiff, ne_eq, Option.some.injEq, fillV, partsV, V.okPart, gt_iff_lt, ge_iff_le]
    obtain rfl : m = i := by omega
    exact hQ _ _
set_option maxRecDepth 8000 in
theorem one_L2 (N : Nat → Prop) (m c : Nat) (b x : List Nat) (L : Heap) (hm : m < 2 ^ 20) (hb : b.length = m) (hx : x.length = m) (hL : L.get 1010 0 = some (rowV x)) (he : ∀ i, i < m → fcmp .ne (fop .mul (x.getD i 0) c) (b.getD i 0) = false) (Q : Ex → T → Prop)
    (hQ : ∀ v w, Q (.exit 4) ⟨[(7, fI m), (8, fl c), (12, .d (rowD b)), (15, .sl 1010 0 0 m 1 m), (16, v), (68, w)], L⟩) :
    WA Try.prog N 82 (.loop A_l6_LinOne_L2) Q ⟨[(7, fI m), (8, fl c), (12, .d (rowD b)), (15, .sl 1010 0 0 m 1 m), (16, fI 0)], L⟩ := by
  refine WA_for (n := m) (fun k s => ∃ i, k + i = m ∧ s = ⟨[(7, fI m), (8, fl c), (12, .d (rowD b)), (15, .sl 1010 0 0 m 1 m), (16, fI i)], L⟩) ⟨0, by omega, rfl⟩ ?_
  rintro k s ⟨i, hk, rfl⟩
  simp -implicitDefEqProofs only [xC_skip, evS, decide_true, decide_false, decide_eq_true_eq, sides, Inst.places, List.zip_cons_cons, List.zip_nil_right, List.zip_nil_left, List.mem_cons, List.not_mem_nil, forall_eq_or_imp, forall_eq, false_implies, implies_true, Apart, xeff, xhv, hv, effC, xev, look, argSl, atL, drops, keep, inBlockT, pickX, callX, callCX, callSX, callee, List.map_cons, List.map_nil, List.append_nil, List.nil_append, List.cons_append, reduceCtorEq, ↓reduceIte, Nat.reduceEqDiff, Nat.reduceAdd, Nat.reduceMul, eq_self, List.length_replicate, Int.reduceToNat, Int.reduceAdd, Int.reduceSub, Int.reduceMul, Int.reduceNeg, Int.reduceLT, Int.reduceLE, rowD, rowI, rowsD, ivD, rowG, rowIG, rowsG, ivG, bne_self_eq_false, beq_self_eq_true, List.length_map, List.getD_cons_zero, List.getD_cons_succ, List.drop_succ_cons, List.drop_zero, List.take_succ_cons, List.take_zero, List.take_nil, List.getElem?_cons_zero, List.getElem?_cons_succ, List.length_cons, List.length_nil, List.length_set, List.set_cons_zero, List.set_cons_succ, List.all_cons, List.all_nil, Nat.reduceLT, Nat.reduceLeDiff, ne_eq, Option.some.injEq, fillV, partsV, V.okPart, gt_iff_lt, ge_iff_le, A_l6_LinOne_L2]
  refine condC_intro (fun h => ?_) (fun h => ?_)
  · replace h := of_decide_eq_true h
    have e1 : i < x.length := by omega
    have e2 := he i h
    simp -implicitDefEqProofs only [xC_skip, evS, decide_true, decide_false, decide_eq_true_eq, sides, Inst.places, List.zip_cons_cons, List.zip_nil_right, List.zip_nil_left, List.mem_cons, List.not_mem_nil, forall_eq_or_imp, forall_eq, false_implies, implies_true, Apart, xeff, xhv, hv, effC, xev, look, argSl, atL, drops, keep, inBlockT, pickX, callX, callCX, callSX, callee, List.map_cons, List.map_nil, List.append_nil, List.nil_append, List.cons_append, reduceCtorEq, ↓reduceIte, Nat.reduceEqDiff, Nat.reduceAdd, Nat.reduceMul, eq_self, List.length_replicate, Int.reduceToNat, Int.reduceAdd, Int.reduceSub, Int.reduceMul, Int.reduceNeg, Int.reduceLT, Int.reduceLE, rowD, rowI, rowsD, ivD, rowG, rowIG, rowsG, ivG, bne_self_eq_false, beq_self_eq_true, List.length_map, List.getD_cons_zero, List.getD_cons_succ, List.drop_succ_cons, List.drop_zero, List.take_succ_cons, List.take_zero, List.take_nil, List.getElem?_cons_zero, List.getElem?_cons_succ, List.length_cons, List.length_nil, List.length_set, List.set_cons_zero, List.set_cons_succ, List.all_cons, List.all_nil, Nat.reduceLT, Nat.reduceLeDiff, ne_eq, Option.some.injEq, fillV, partsV, V.okPart, gt_iff_lt, ge_iff_le, hL, getD_map_fl _ _ e1]
    (repeat (with_reducible refine And.intro (by omega) ?_))
    simp -implicitDefEqProofs only [xC_skip, evS, decide_true, decide_false, decide_eq_true_eq, sides, Inst.places, List.zip_cons_cons, List.zip_nil_right, List.zip_nil_left, List.mem_cons, List.not_mem_nil, forall_eq_or_imp, forall_eq, false_implies, implies_true, Apart, xeff, xhv, hv, effC, xev, look, argSl, atL, drops, keep, inBlockT, pickX, callX, callCX, callSX, callee, List.map_cons, List.map_nil, List.append_nil, List.nil_append, List.cons_append, reduceCtorEq, ↓reduceIte, Nat.reduceEqDiff, Nat.reduceAdd, Nat.reduceMul, eq_self, List.length_replicate, Int.reduceToNat, Int.reduceAdd, Int.reduceSub, Int.reduceMul, Int.reduceNeg, Int.reduceLT, Int.reduceLE, rowD, rowI, rowsD, ivD, rowG, rowIG, rowsG, ivG, bne_self_eq_false, beq_self_eq_true, List.length_map, List.getD_cons_zero, List.getD_cons_succ, List.drop_succ_cons, List.drop_zero, List.take_succ_cons, List.take_zero, List.take_nil, List.getElem?_cons_zero, List.getElem?_cons_succ, List.length_cons, List.length_nil, List.length_set, List.set_cons_zero, List.set_cons_succ, List.all_cons, List.all_nil, Nat.reduceLT, Nat.reduceLeDiff, ne_eq, Option.some.injEq, fillV, partsV, V.okPart, gt_iff_lt, ge_iff_le, e2]
    rw [wrapI (by omega) (by omega)]
    exact ⟨k - 1, by omega, i + 1, by omega, rfl⟩
  · replace h := of_decide_eq_false h
    simp -implicitDefEqProofs only [xC_skip, evS, decide_true, decide_false, decide_eq_true_eq, sides, Inst.places, List.zip_cons_cons, List.zip_nil_right, List.zip_nil_left, List.mem_cons, List.not_mem_nil, forall_eq_or_imp, forall_eq, false_implies, implies_true, Apart, xeff, xhv, hv, effC, xev, look, argSl, atL, drops, keep, inBlockT, pickX, callX, callCX, callSX, callee, List.map_cons, List.map_nil, List.append_nil, List.nil_append, List.cons_append, reduceCtorEq, ↓reduceIte, Nat.reduceEqDiff, Nat.reduceAdd, Nat.reduceMul, eq_self, List.length_replicate, Int.reduceToNat, Int.reduceAdd, Int.reduceSub, Int.reduceMul, Int.reduceNeg, Int.reduceLT, Int.reduceLE, rowD, rowI, rowsD, ivD, rowG, rowIG, rowsG, ivG, bne_self_eq_false, beq_self_eq_true, List.length_map, List.getD_cons_zero, List.getD_cons_succ, List.drop_succ_cons, List.drop_zero, List.take_succ_cons, List.take_zero, List.take_nil, List.getElem?_cons_zero, List.getElem?_cons_succ, List.length_cons, List.length_nil, List.length_set, List.set_cons_zero, List.set_cons_succ, List.all_cons, List.all_nil, Nat.reduceLT, Nat.reduceLeDiff, ne_eq, Option.some.injEq, fillV, partsV, V.okPart, gt_iff_lt, ge_iff_le]
    exact hQ _ _
theorem oneM_sq (c m : Nat) : Sq m (oneM c m m) := ⟨oneM_len _ _ _, fun i hi => by simp [oneM, List.getD_eq_getElem?_getD, hi]⟩
theorem up2_same (A : List (List Nat)) (n i j v : Nat) (hA : Sq n A) (hi : i < n) (hj : j < n) (h : at2 A i j = v) : up2 A i j v = A := by
  subst h
  have h1 : i < A.length := by have := hA.1; omega
  have h2 : j < (A.getD i []).length := by have := hA.2 i hi; omega
  unfold up2 at2
  have e : (A.getD i []).set j ((A.getD i []).getD j 0) = A.getD i [] := by
    rw [List.getD_eq_getElem?_getD (l := A.getD i []), List.getElem?_eq_getElem h2]; simp
  rw [e, List.getD_eq_getElem?_getD, List.getElem?_eq_getElem h1]; simp
structure OneC (c : Nat) : Prop where
  h1 : fop .div 0 c = 0
  h2 : fop .sub c (fop .mul 0 0) = c
  h3 : fcmp .gt (fabs 0) (fabs c) = false
  h4 : fcmp .eq c 0 = false
  h5 : finite c = true
theorem pow_chk : ((List.range 20).all fun t => fop .div 0 (pow2 t) == 0 && fop .sub (pow2 t) (fop .mul 0 0) == pow2 t && !fcmp .gt (fabs 0) (fabs (pow2 t)) && !fcmp .eq (pow2 t) 0 && finite (pow2 t)) = true := by kernel_rfl
theorem pow_one (t : Nat) (ht : t < 20) : OneC (pow2 t) := by
  have := List.all_eq_true.1 pow_chk t (by simpa using ht)
  simp only [Bool.and_eq_true, beq_iff_eq, Bool.not_eq_true'] at this
  obtain ⟨⟨⟨⟨a, b⟩, d⟩, e⟩, f⟩ := this
  exact ⟨a, b, d, e, f⟩
theorem z0 : fop .sub 0 (fop .mul 0 0) = 0 := by decide
theorem oneM_at (c m r j : Nat) (hr : r < m) (hj : j < m) : at2 (oneM c m m) r j = if r = j then c else 0 := by
  unfold at2 oneM
  simp only [List.getD_eq_getElem?_getD, List.getElem?_map]
  have h3 : (List.range m)[r]? = some r := by simp [hr]
  rw [h3]
  simp only [Option.map_some, Option.getD_some, List.getElem?_set, List.length_replicate]
  by_cases e : r = j
  · subst e; simp [hr]
  · simp [e, hj]
theorem one_elimJ (A : List (List Nat)) (c m i k : Nat) (hc : OneC c) (hA : Sq m A) (hat : ∀ r j, r < m → j < m → at2 A r j = if r = j then c else 0) (hi : i < m) (hk : k < i) : ∀ d, k + 1 + d ≤ m → elimJ A i k d = A := by
  intro d
  induction d with
  | zero => intro _; rfl
  | succ d ih =>
    intro hd
    simp only [elimJ, ih (by omega)]
    refine up2_same A m i (k + 1 + d) _ hA hi (by omega) ?_
    rw [hat i (k + 1 + d) hi (by omega), hat i k hi (by omega), hat k (k + 1 + d) (by omega) (by omega), if_neg (by omega : ¬ i = k), if_neg (by omega : ¬ k = k + 1 + d)]
    split
    · exact hc.h2.symm
    · exact z0.symm
theorem one_elimI (A : List (List Nat)) (c m k : Nat) (hc : OneC c) (hA : Sq m A) (hat : ∀ r j, r < m → j < m → at2 A r j = if r = j then c else 0) (hk : k < m) : ∀ d, k + 1 + d ≤ m → elimI A m k d = A := by
  intro d
  induction d with
  | zero => intro _; rfl
  | succ d ih =>
    intro hd
    simp only [elimI, elimRow, ih (by omega)]
    have e : up2 A (k + 1 + d) k (fop .div (at2 A (k + 1 + d) k) (at2 A k k)) = A := by
      refine up2_same A m (k + 1 + d) k _ hA (by omega) hk ?_
      rw [hat (k + 1 + d) k (by omega) hk, hat k k hk hk, if_neg (by omega : ¬ k + 1 + d = k), if_pos rfl]
      exact hc.h1.symm
    rw [e]
    exact one_elimJ A c m (k + 1 + d) k hc hA hat (by omega) (by omega) _ (by omega)
theorem one_pv (A : List (List Nat)) (c m k : Nat) (hc : OneC c) (hat : ∀ r j, r < m → j < m → at2 A r j = if r = j then c else 0) (hk : k < m) : ∀ d, k + 1 + d ≤ m → pvP A k d = k := by
  intro d
  induction d with
  | zero => intro _; rfl
  | succ d ih =>
    intro hd
    simp only [pvP, ih (by omega)]
    rw [hat (k + 1 + d) k (by omega) hk, hat k k hk hk, if_neg (by omega : ¬ k + 1 + d = k), if_pos rfl, hc.h3]
    simp
theorem swap_same {α : Type} (d : α) (l : List α) (k : Nat) (hk : k < l.length) : swapL d l k k = l := by
  unfold swapL
  rw [List.getD_eq_getElem?_getD, List.getElem?_eq_getElem hk]; simp
theorem one_part (A : List (List Nat)) (c m : Nat) (hc : OneC c) (hA : Sq m A) (hat : ∀ r j, r < m → j < m → at2 A r j = if r = j then c else 0) : ∀ k, k ≤ m → partP A m k = some (A, (List.range m).map fun (i : Nat) => (i : Int)) := by
  intro k
  induction k with
  | zero => intro _; rfl
  | succ k ih =>
    intro hk
    simp only [partP, ih (by omega), Option.bind_some, stepP]
    rw [one_pv A c m k hc hat (by omega) _ (by omega), hat k k (by omega) (by omega), if_pos rfl, if_neg (by simp [hc.h4, hc.h5]), swap_same _ A k (by have := hA.1; omega), swap_same _ _ k (by simp; omega), one_elimI A c m k hc hA hat (by omega) _ (by omega)]
theorem set_same (l : List Nat) (i : Nat) : l.set i (l.getD i 0) = l := by
  by_cases h : i < l.length
  · rw [List.getD_eq_getElem?_getD, List.getElem?_eq_getElem h]; simp
  · rw [List.set_eq_of_length_le (by omega)]
theorem fJ_same (A : List (List Nat)) (i : Nat) (x : List Nat) (h : ∀ j, j < i → fop .sub (x.getD i 0) (fop .mul (at2 A i j) (x.getD j 0)) = x.getD i 0) : ∀ m, m ≤ i → fJ A i x m = x := by
  intro m
  induction m with
  | zero => intro _; rfl
  | succ m ih =>
    intro hm
    simp only [fJ, ih (by omega), h m (by omega)]
    exact set_same x i
theorem bJ_same (A : List (List Nat)) (n i : Nat) (x : List Nat) (h : ∀ j, i < j → j < n → fop .sub (x.getD i 0) (fop .mul (at2 A i j) (x.getD j 0)) = x.getD i 0) : ∀ m, i + 1 + m ≤ n → bJ A i x m = x := by
  intro m
  induction m with
  | zero => intro _; rfl
  | succ m ih =>
    intro hm
    simp only [bJ, ih (by omega), h (i + 1 + m) (by omega) (by omega)]
    exact set_same x i
def numB (k : Nat) : Nat := fop .div (FloatKind.nearest .f64 ((k : Int) - 100)) 4620693217682128896
theorem numR_B (w : Int) : ∃ k, k < 201 ∧ numR w = numB k := by
  have h1 := Int.emod_nonneg w (by decide : (201 : Int) ≠ 0)
  have h2 := Int.emod_lt_of_pos w (by decide : (0 : Int) < 201)
  refine ⟨(w % 201).toNat, by omega, ?_⟩
  unfold numR numB
  have : (((w % 201).toNat : Nat) : Int) = w % 201 := by omega
  rw [this]
def zz (x : Nat) : Bool := x == 0 || x == 9223372036854775808
theorem b_chk1 : ((List.range 201).all fun k => zz (fop .mul 0 (numB k)) && fop .sub (numB k) 0 == numB k && fop .sub (numB k) 9223372036854775808 == numB k) = true := by kernel_rfl
theorem b_chk2 : ((List.range 20).all fun t => (List.range 201).all fun k => zz (fop .mul 0 (fop .div (numB k) (pow2 t))) && !fcmp .ne (fop .mul (fop .div (numB k) (pow2 t)) (pow2 t)) (numB k)) = true := by kernel_rfl
theorem b_sub (a : Nat) (ha : a < 201) (y : Nat) (hy : zz y = true) : fop .sub (numB a) y = numB a := by
  have h := List.all_eq_true.1 b_chk1 a (by simpa using ha)
  simp only [Bool.and_eq_true, beq_iff_eq] at h
  simp only [zz, Bool.or_eq_true, beq_iff_eq] at hy
  rcases hy with rfl | rfl
  · exact h.1.2
  · exact h.2
theorem b_mul (a : Nat) (ha : a < 201) : zz (fop .mul 0 (numB a)) = true := by
  have h := List.all_eq_true.1 b_chk1 a (by simpa using ha)
  simp only [Bool.and_eq_true] at h
  exact h.1.1
theorem b_div (t a : Nat) (ht : t < 20) (ha : a < 201) : zz (fop .mul 0 (fop .div (numB a) (pow2 t))) = true ∧ fcmp .ne (fop .mul (fop .div (numB a) (pow2 t)) (pow2 t)) (numB a) = false := by
  have h := List.all_eq_true.1 b_chk2 t (by simpa using ht)
  have h := List.all_eq_true.1 h a (by simpa using ha)
  simpa using h
theorem one_solve (A : List (List Nat)) (t m : Nat) (b : List Nat) (ht : t < 20) (hat : ∀ r j, r < m → j < m → at2 A r j = if r = j then pow2 t else 0) (hb : ∀ i, i < m → ∃ k, k < 201 ∧ b.getD i 0 = numB k) :
    ∀ i, i < m → (solveP A ((List.range m).map fun (i : Nat) => (i : Int)) b m).getD i 0 = fop .div (b.getD i 0) (pow2 t) := by
  have hπ : ∀ i, i < m → (((List.range m).map fun (i : Nat) => (i : Int)).getD i 0).toNat = i := by
    intro i hi
    simp [List.getD_eq_getElem?_getD, hi]
  have fwd : ∀ k, k ≤ m → ∀ j, j < m → (fwdI A ((List.range m).map fun (i : Nat) => (i : Int)) b m k).getD j 0 = if j < k then b.getD j 0 else 0 := by
    intro k
    induction k with
    | zero => intro _ j hj; simp [fwdI, List.getD_eq_getElem?_getD, hj]
    | succ k ih =>
      intro hk j hj
      have ih := ih (by omega)
      have hl := fwdI_len A ((List.range m).map fun (i : Nat) => (i : Int)) b m k
      simp only [fwdI, hπ k (by omega)]
      generalize fwdI A ((List.range m).map fun (i : Nat) => (i : Int)) b m k = x at ih hl
      have hset : ∀ j, j < m → (x.set k (b.getD k 0)).getD j 0 = if j < k + 1 then b.getD j 0 else 0 := by
        intro j hj
        have := ih j hj
        simp only [List.getD_eq_getElem?_getD, List.getElem?_set] at this ⊢
        by_cases e : k = j
        · subst e; simp [hl, hj]
        · rw [if_neg e, this]
          by_cases h2 : j < k
          · rw [if_pos h2, if_pos (by omega)]
          · rw [if_neg h2, if_neg (by omega)]
      rw [fJ_same A k (x.set k (b.getD k 0)) (fun j' hj' => ?_) k (Nat.le_refl _)]
      · exact hset j hj
      · rw [hset k (by omega), hset j' (by omega), if_pos (by omega), if_pos (by omega), hat k j' (by omega) (by omega), if_neg (by omega)]
        obtain ⟨a, ha, e1⟩ := hb k (by omega)
        obtain ⟨a2, ha2, e2⟩ := hb j' (by omega)
        rw [e1, e2]
        exact b_sub a ha _ (b_mul a2 ha2)
  have hl := fwdI_len A ((List.range m).map fun (i : Nat) => (i : Int)) b m m
  have fw := fwd m (Nat.le_refl m)
  unfold solveP
  generalize fwdI A ((List.range m).map fun (i : Nat) => (i : Int)) b m m = u at hl fw
  have bck : ∀ k, k ≤ m → ∀ j, j < m → (bckI A m u k).getD j 0 = if m - k ≤ j then fop .div (b.getD j 0) (pow2 t) else b.getD j 0 := by
    intro k
    induction k with
    | zero => intro _ j hj; rw [if_neg (by omega)]; simp only [bckI]; rw [fw j hj, if_pos hj]
    | succ k ih =>
      intro hk j hj
      have ih := ih (by omega)
      have hlb := bckI_len A m u k
      simp only [bckI, bStep]
      generalize bckI A m u k = x at ih hlb
      rw [bJ_same A m (m - 1 - k) x (fun j' h1 h2 => ?_) _ (by omega)]
      · have := ih j hj
        have hi := ih (m - 1 - k) (by omega)
        rw [hat (m - 1 - k) (m - 1 - k) (by omega) (by omega), if_pos rfl, hi, if_neg (by omega)]
        simp only [List.getD_eq_getElem?_getD, List.getElem?_set] at this ⊢
        by_cases e : m - 1 - k = j
        · subst e
          rw [if_pos rfl, if_pos (by omega), if_pos (by omega)]; rfl
        · rw [if_neg e, this]
          by_cases h2 : m - k ≤ j
          · rw [if_pos h2, if_pos (by omega)]
          · rw [if_neg h2, if_neg (by omega)]
      · rw [ih (m - 1 - k) (by omega), ih j' h2, if_neg (by omega), if_pos (by omega), hat (m - 1 - k) j' (by omega) h2, if_neg (by omega)]
        obtain ⟨a, ha, e1⟩ := hb (m - 1 - k) (by omega)
        obtain ⟨a2, ha2, e2⟩ := hb j' h2
        rw [e1, e2]
        exact b_sub a ha _ (b_div t a2 ht ha2).1
  intro i hi
  rw [bck m (Nat.le_refl m) i hi, if_pos (by omega)]
/-- Rows of ones: parted they are themselves; what solves them, times c, is what was asked for. -/
theorem one_law (t m : Nat) (bs : List Int) (ht : t < 20) (hm : m ≤ 8) : ∃ B π, partP (oneM (pow2 t) m m) m m = some (B, π) ∧ ∀ i, i < m → fcmp .ne (fop .mul ((solveP B π (rowM m bs) m).getD i 0) (pow2 t)) ((rowM m bs).getD i 0) = false := by
  have hc := pow_one t ht
  refine ⟨_, _, one_part (oneM (pow2 t) m m) (pow2 t) m hc (oneM_sq _ _) (fun r j hr hj => oneM_at _ _ _ _ hr hj) m (Nat.le_refl _), ?_⟩
  intro i hi
  have hb : ∀ i, i < m → ∃ k, k < 201 ∧ (rowM m bs).getD i 0 = numB k := by
    intro i hi
    obtain ⟨k, hk, e⟩ := numR_B (if i < bs.length then bs.getD i 0 else i)
    refine ⟨k, hk, ?_⟩
    rw [← e]
    simp [rowM, List.getD_eq_getElem?_getD, hi]
  rw [one_solve (oneM (pow2 t) m m) t m (rowM m bs) ht (fun r j hr hj => oneM_at _ _ _ _ hr hj) hb i hi]
  obtain ⟨k, hk, e⟩ := hb i hi
  rw [e]
  exact (b_div t k ht hk).2
set_option maxRecDepth 8000 in
theorem l6_LinOne_con (n : Int) (k : Int) (bs : List Int) (hbs : bs.length < 2 ^ 62) : Con Try.prog 12 [fI n, fI k, .d (rowI bs)] (fB true) := by
  refine Con_introA A_l6_LinOne_comp rfl mixed ?_
  simp -implicitDefEqProofs only [xC_skip, evS, decide_true, decide_false, decide_eq_true_eq, sides, Inst.places, List.zip_cons_cons, List.zip_nil_right, List.zip_nil_left, List.mem_cons, List.not_mem_nil, forall_eq_or_imp, forall_eq, false_implies, implies_true, Apart, xeff, xhv, hv, effC, xev, look, argSl, atL, drops, keep, inBlockT, pickX, callX, callCX, callSX, callee, List.map_cons, List.map_nil, List.append_nil, List.nil_append, List.cons_append, reduceCtorEq, ↓reduceIte, Nat.reduceEqDiff, Nat.reduceAdd, Nat.reduceMul, eq_self, List.length_replicate, Int.reduceToNat, Int.reduceAdd, Int.reduceSub, Int.reduceMul, Int.reduceNeg, Int.reduceLT, Int.reduceLE, rowD, rowI, rowsD, ivD, rowG, rowIG, rowsG, ivG, bne_self_eq_false, beq_self_eq_true, List.length_map, List.getD_cons_zero, List.getD_cons_succ, List.drop_succ_cons, List.drop_zero, List.take_succ_cons, List.take_zero, List.take_nil, List.getElem?_cons_zero, List.getElem?_cons_succ, List.length_cons, List.length_nil, List.length_set, List.set_cons_zero, List.set_cons_succ, List.all_cons, List.all_nil, Nat.reduceLT, Nat.reduceLeDiff, ne_eq, Option.some.injEq, fillV, partsV, V.okPart, gt_iff_lt, ge_iff_le, A_l6_LinOne]
  first | refine callG_con (l6_known_con) rfl ?_ | refine callCG_con (l6_known_con) rfl ?_ | refine callSG_con (l6_known_con) rfl ?_
  simp -implicitDefEqProofs only [xC_skip, evS, decide_true, decide_false, decide_eq_true_eq, sides, Inst.places, List.zip_cons_cons, List.zip_nil_right, List.zip_nil_left, List.mem_cons, List.not_mem_nil, forall_eq_or_imp, forall_eq, false_implies, implies_true, Apart, xeff, xhv, hv, effC, xev, look, argSl, atL, drops, keep, inBlockT, pickX, callX, callCX, callSX, callee, List.map_cons, List.map_nil, List.append_nil, List.nil_append, List.cons_append, reduceCtorEq, ↓reduceIte, Nat.reduceEqDiff, Nat.reduceAdd, Nat.reduceMul, eq_self, List.length_replicate, Int.reduceToNat, Int.reduceAdd, Int.reduceSub, Int.reduceMul, Int.reduceNeg, Int.reduceLT, Int.reduceLE, rowD, rowI, rowsD, ivD, rowG, rowIG, rowsG, ivG, bne_self_eq_false, beq_self_eq_true, List.length_map, List.getD_cons_zero, List.getD_cons_succ, List.drop_succ_cons, List.drop_zero, List.take_succ_cons, List.take_zero, List.take_nil, List.getElem?_cons_zero, List.getElem?_cons_succ, List.length_cons, List.length_nil, List.length_set, List.set_cons_zero, List.set_cons_succ, List.all_cons, List.all_nil, Nat.reduceLT, Nat.reduceLeDiff, ne_eq, Option.some.injEq, fillV, partsV, V.okPart, gt_iff_lt, ge_iff_le]
  first | refine callG_con (l6_within_con n 8 (by decide) (by decide)) rfl ?_ | refine callCG_con (l6_within_con n 8 (by decide) (by decide)) rfl ?_ | refine callSG_con (l6_within_con n 8 (by decide) (by decide)) rfl ?_
  have m1 := Int.emod_nonneg n (by decide : (8 : Int) ≠ 0)
  have m2 := Int.emod_lt_of_pos n (by decide : (0 : Int) < 8)
  generalize n % 8 = z at m1 m2
  obtain ⟨z, rfl⟩ : ∃ z' : Nat, z = z' := ⟨z.toNat, by omega⟩
  have w1 : IntKind.i64.wrap (1 + (z : Int)) = ((z + 1 : Nat) : Int) := by rw [wrapI (by omega) (by omega)]; omega
  simp -implicitDefEqProofs only [xC_skip, evS, decide_true, decide_false, decide_eq_true_eq, sides, Inst.places, List.zip_cons_cons, List.zip_nil_right, List.zip_nil_left, List.mem_cons, List.not_mem_nil, forall_eq_or_imp, forall_eq, false_implies, implies_true, Apart, xeff, xhv, hv, effC, xev, look, argSl, atL, drops, keep, inBlockT, pickX, callX, callCX, callSX, callee, List.map_cons, List.map_nil, List.append_nil, List.nil_append, List.cons_append, reduceCtorEq, ↓reduceIte, Nat.reduceEqDiff, Nat.reduceAdd, Nat.reduceMul, eq_self, List.length_replicate, Int.reduceToNat, Int.reduceAdd, Int.reduceSub, Int.reduceMul, Int.reduceNeg, Int.reduceLT, Int.reduceLE, rowD, rowI, rowsD, ivD, rowG, rowIG, rowsG, ivG, bne_self_eq_false, beq_self_eq_true, List.length_map, List.getD_cons_zero, List.getD_cons_succ, List.drop_succ_cons, List.drop_zero, List.take_succ_cons, List.take_zero, List.take_nil, List.getElem?_cons_zero, List.getElem?_cons_succ, List.length_cons, List.length_nil, List.length_set, List.set_cons_zero, List.set_cons_succ, List.all_cons, List.all_nil, Nat.reduceLT, Nat.reduceLeDiff, ne_eq, Option.some.injEq, fillV, partsV, V.okPart, gt_iff_lt, ge_iff_le, w1]
  have q1 := Int.emod_nonneg k (by decide : (20 : Int) ≠ 0)
  have q2 := Int.emod_lt_of_pos k (by decide : (0 : Int) < 20)
  obtain ⟨t, ht⟩ : ∃ t : Nat, k % 20 = t := ⟨(k % 20).toNat, by omega⟩
  refine one_L0 _ bs k (z + 1) t ht _ fun v w => ?_
  simp -implicitDefEqProofs only [xC_skip, evS, decide_true, decide_false, decide_eq_true_eq, sides, Inst.places, List.zip_cons_cons, List.zip_nil_right, List.zip_nil_left, List.mem_cons, List.not_mem_nil, forall_eq_or_imp, forall_eq, false_implies, implies_true, Apart, xeff, xhv, hv, effC, xev, look, argSl, atL, drops, keep, inBlockT, pickX, callX, callCX, callSX, callee, List.map_cons, List.map_nil, List.append_nil, List.nil_append, List.cons_append, reduceCtorEq, ↓reduceIte, Nat.reduceEqDiff, Nat.reduceAdd, Nat.reduceMul, eq_self, List.length_replicate, Int.reduceToNat, Int.reduceAdd, Int.reduceSub, Int.reduceMul, Int.reduceNeg, Int.reduceLT, Int.reduceLE, rowD, rowI, rowsD, ivD, rowG, rowIG, rowsG, ivG, bne_self_eq_false, beq_self_eq_true, List.length_map, List.getD_cons_zero, List.getD_cons_succ, List.drop_succ_cons, List.drop_zero, List.take_succ_cons, List.take_zero, List.take_nil, List.getElem?_cons_zero, List.getElem?_cons_succ, List.length_cons, List.length_nil, List.length_set, List.set_cons_zero, List.set_cons_succ, List.all_cons, List.all_nil, Nat.reduceLT, Nat.reduceLeDiff, ne_eq, Option.some.injEq, fillV, partsV, V.okPart, gt_iff_lt, ge_iff_le]
  (repeat (with_reducible refine And.intro (by omega) ?_))
  refine one_L1 _ (fun _ h => h) bs (z + 1) (pow2 t) (by omega) _ fun v w => ?_
  simp -implicitDefEqProofs only [xC_skip, evS, decide_true, decide_false, decide_eq_true_eq, sides, Inst.places, List.zip_cons_cons, List.zip_nil_right, List.zip_nil_left, List.mem_cons, List.not_mem_nil, forall_eq_or_imp, forall_eq, false_implies, implies_true, Apart, xeff, xhv, hv, effC, xev, look, argSl, atL, drops, keep, inBlockT, pickX, callX, callCX, callSX, callee, List.map_cons, List.map_nil, List.append_nil, List.nil_append, List.cons_append, reduceCtorEq, ↓reduceIte, Nat.reduceEqDiff, Nat.reduceAdd, Nat.reduceMul, eq_self, List.length_replicate, Int.reduceToNat, Int.reduceAdd, Int.reduceSub, Int.reduceMul, Int.reduceNeg, Int.reduceLT, Int.reduceLE, rowD, rowI, rowsD, ivD, rowG, rowIG, rowsG, ivG, bne_self_eq_false, beq_self_eq_true, List.length_map, List.getD_cons_zero, List.getD_cons_succ, List.drop_succ_cons, List.drop_zero, List.take_succ_cons, List.take_zero, List.take_nil, List.getElem?_cons_zero, List.getElem?_cons_succ, List.length_cons, List.length_nil, List.length_set, List.set_cons_zero, List.set_cons_succ, List.all_cons, List.all_nil, Nat.reduceLT, Nat.reduceLeDiff, ne_eq, Option.some.injEq, fillV, partsV, V.okPart, gt_iff_lt, ge_iff_le]
  first | refine callG_con (l6_row_con (z + 1) bs (by omega) hbs) rfl ?_ | refine callCG_con (l6_row_con (z + 1) bs (by omega) hbs) rfl ?_ | refine callSG_con (l6_row_con (z + 1) bs (by omega) hbs) rfl ?_
  simp -implicitDefEqProofs only [xC_skip, evS, decide_true, decide_false, decide_eq_true_eq, sides, Inst.places, List.zip_cons_cons, List.zip_nil_right, List.zip_nil_left, List.mem_cons, List.not_mem_nil, forall_eq_or_imp, forall_eq, false_implies, implies_true, Apart, xeff, xhv, hv, effC, xev, look, argSl, atL, drops, keep, inBlockT, pickX, callX, callCX, callSX, callee, List.map_cons, List.map_nil, List.append_nil, List.nil_append, List.cons_append, reduceCtorEq, ↓reduceIte, Nat.reduceEqDiff, Nat.reduceAdd, Nat.reduceMul, eq_self, List.length_replicate, Int.reduceToNat, Int.reduceAdd, Int.reduceSub, Int.reduceMul, Int.reduceNeg, Int.reduceLT, Int.reduceLE, rowD, rowI, rowsD, ivD, rowG, rowIG, rowsG, ivG, bne_self_eq_false, beq_self_eq_true, List.length_map, List.getD_cons_zero, List.getD_cons_succ, List.drop_succ_cons, List.drop_zero, List.take_succ_cons, List.take_zero, List.take_nil, List.getElem?_cons_zero, List.getElem?_cons_succ, List.length_cons, List.length_nil, List.length_set, List.set_cons_zero, List.set_cons_succ, List.all_cons, List.all_nil, Nat.reduceLT, Nat.reduceLeDiff, ne_eq, Option.some.injEq, fillV, partsV, V.okPart, gt_iff_lt, ge_iff_le]
  have hsq := oneM_sq (pow2 t) (z + 1)
  obtain ⟨B, π, hp, hx⟩ := one_law t (z + 1) bs (by omega) (by omega)
  obtain ⟨hB, hπl⟩ := partP_sq _ _ hsq _ (Nat.le_refl _) B π hp
  have hpm := partP_pm _ _ _ (Nat.le_refl _) B π hp
  have hbl := rowM_len (z + 1) bs
  generalize rowM (z + 1) bs = b at hbl hx
  generalize oneM (pow2 t) (z + 1) (z + 1) = A at hsq hp
  generalize pow2 t = c at hx
  have hm8 : z + 1 ≤ 8 := by omega
  generalize z + 1 = m at *
  refine callG_ac (AC_frameK 1000 (by simp [Heap.next]) (us := [.d (rowsD A)]) (lin_Part_some A m hsq (by omega) B π hp) rfl (.inr ⟨fun j hj => ?_, pure_luV m true, pure_lu B π m⟩)) ?_
  · obtain rfl : j = 0 := by simpa using hj
    have e : hd 100 m m m = hdo 100 0 m m := by
      have := hd_ren (fun X r => (X, r)) 100 100 0 m m (fun j _ => rfl)
      rw [← this]
      refine List.ext_getElem? fun j => ?_
      simp only [hd, List.getElem?_map]
      by_cases hj : j < m
      · have h3 : (List.range m)[j]? = some j := by simp [hj]
        simp [h3, hj, V.ren]
      · have h3 : (List.range m)[j]? = none := by simp; omega
        simp [h3]
    refine snp_rows (X := 100) (o := 0) (by simp [get_cons, e]) (fun r hr => ⟨?_, hsq.2 r hr⟩) hsq.1 rfl
    have := hsq.1
    rw [get_cons, if_pos rfl, Nat.add_zero]
    exact getE _ r (by omega)
  have hh : (hdo 2 1 m m).map (V.ren (upF 1000)) = hdo 1002 1 m m := hdo_ren _ 2 1 m m 1002 1 (fun j _ => rfl)
  have hf : (B.map rowV).map (fun c => c.map (V.ren (upF 1000))) = B.map rowV := ren_fam _ B
  have hi' : (rowIV π).map (V.ren (upF 1000)) = rowIV π := ren_rowIV _ _
  simp -implicitDefEqProofs only [xC_skip, evS, decide_true, decide_false, decide_eq_true_eq, sides, Inst.places, List.zip_cons_cons, List.zip_nil_right, List.zip_nil_left, List.mem_cons, List.not_mem_nil, forall_eq_or_imp, forall_eq, false_implies, implies_true, Apart, xeff, xhv, hv, effC, xev, look, argSl, atL, drops, keep, inBlockT, pickX, callX, callCX, callSX, callee, List.map_cons, List.map_nil, List.append_nil, List.nil_append, List.cons_append, reduceCtorEq, ↓reduceIte, Nat.reduceEqDiff, Nat.reduceAdd, Nat.reduceMul, eq_self, List.length_replicate, Int.reduceToNat, Int.reduceAdd, Int.reduceSub, Int.reduceMul, Int.reduceNeg, Int.reduceLT, Int.reduceLE, rowD, rowI, rowsD, ivD, rowG, rowIG, rowsG, ivG, bne_self_eq_false, beq_self_eq_true, List.length_map, List.getD_cons_zero, List.getD_cons_succ, List.drop_succ_cons, List.drop_zero, List.take_succ_cons, List.take_zero, List.take_nil, List.getElem?_cons_zero, List.getElem?_cons_succ, List.length_cons, List.length_nil, List.length_set, List.set_cons_zero, List.set_cons_succ, List.all_cons, List.all_nil, Nat.reduceLT, Nat.reduceLeDiff, ne_eq, Option.some.injEq, fillV, partsV, V.okPart, gt_iff_lt, ge_iff_le, Heap.up, luH, luV, V.ren, V.renL, hh, hf, hi', upF]
  have hsl : (solveP B π b m).length = m := by simp [solveP, bckI_len, fwdI_len]
  refine callG_ac (AC_frameK 1008 (by simp [Heap.next]) (us := [.agg [.d (rowsD B), .d (rowI π)], .d (rowD b)]) (lin_Solve_row B π b m hB hpm hbl (by omega)) rfl (.inr ⟨fun j hj => ?_, .sl .., fun X q cells hX j hj => ?_⟩)) ?_
  · rcases j with _ | _ | j
    · refine .agg rfl fun j hj => ?_
      rcases j with _ | _ | j
      · refine snp_rows (X := 1002) (o := 1) (by simp [get_cons]) (fun r hr => ⟨?_, hB.2 r hr⟩) hB.1 rfl
        have := hB.1
        have := getE B r (by omega)
        simp only [get_cons, Nat.reduceEqDiff, if_false, if_true, List.getElem?_cons_succ]
        exact this
      · exact snp_rowI (by simp [get_cons]) hπl rfl
      · simp at hj; omega
    · exact .d _
    · simp at hj; omega
  · rw [get_cons, get_nil] at hX
    split at hX
    · rcases q with _ | q <;> simp at hX; subst hX; exact pure_rowV _ j hj
    · cases hX
  generalize solveP B π b m = x at hsl hx
  have hfx : (rowV x).map (V.ren (upF 1008)) = rowV x := ren_rowV _ _
  simp -implicitDefEqProofs only [xC_skip, evS, decide_true, decide_false, decide_eq_true_eq, sides, Inst.places, List.zip_cons_cons, List.zip_nil_right, List.zip_nil_left, List.mem_cons, List.not_mem_nil, forall_eq_or_imp, forall_eq, false_implies, implies_true, Apart, xeff, xhv, hv, effC, xev, look, argSl, atL, drops, keep, inBlockT, pickX, callX, callCX, callSX, callee, List.map_cons, List.map_nil, List.append_nil, List.nil_append, List.cons_append, reduceCtorEq, ↓reduceIte, Nat.reduceEqDiff, Nat.reduceAdd, Nat.reduceMul, eq_self, List.length_replicate, Int.reduceToNat, Int.reduceAdd, Int.reduceSub, Int.reduceMul, Int.reduceNeg, Int.reduceLT, Int.reduceLE, rowD, rowI, rowsD, ivD, rowG, rowIG, rowsG, ivG, bne_self_eq_false, beq_self_eq_true, List.length_map, List.getD_cons_zero, List.getD_cons_succ, List.drop_succ_cons, List.drop_zero, List.take_succ_cons, List.take_zero, List.take_nil, List.getElem?_cons_zero, List.getElem?_cons_succ, List.length_cons, List.length_nil, List.length_set, List.set_cons_zero, List.set_cons_succ, List.all_cons, List.all_nil, Nat.reduceLT, Nat.reduceLeDiff, ne_eq, Option.some.injEq, fillV, partsV, V.okPart, gt_iff_lt, ge_iff_le, Heap.up, V.ren, V.renL, hfx, upF]
  refine one_L2 _ m c b x _ (by omega) hbl hsl (by simp [get_cons]) hx _ fun v w => ?_
  simp -implicitDefEqProofs only [xC_skip, evS, decide_true, decide_false, decide_eq_true_eq, sides, Inst.places, List.zip_cons_cons, List.zip_nil_right, List.zip_nil_left, List.mem_cons, List.not_mem_nil, forall_eq_or_imp, forall_eq, false_implies, implies_true, Apart, xeff, xhv, hv, effC, xev, look, argSl, atL, drops, keep, inBlockT, pickX, callX, callCX, callSX, callee, List.map_cons, List.map_nil, List.append_nil, List.nil_append, List.cons_append, reduceCtorEq, ↓reduceIte, Nat.reduceEqDiff, Nat.reduceAdd, Nat.reduceMul, eq_self, List.length_replicate, Int.reduceToNat, Int.reduceAdd, Int.reduceSub, Int.reduceMul, Int.reduceNeg, Int.reduceLT, Int.reduceLE, rowD, rowI, rowsD, ivD, rowG, rowIG, rowsG, ivG, bne_self_eq_false, beq_self_eq_true, List.length_map, List.getD_cons_zero, List.getD_cons_succ, List.drop_succ_cons, List.drop_zero, List.take_succ_cons, List.take_zero, List.take_nil, List.getElem?_cons_zero, List.getElem?_cons_succ, List.length_cons, List.length_nil, List.length_set, List.set_cons_zero, List.set_cons_succ, List.all_cons, List.all_nil, Nat.reduceLT, Nat.reduceLeDiff, ne_eq, Option.some.injEq, fillV, partsV, V.okPart, gt_iff_lt, ge_iff_le]
  exact endsT_rett rfl (by decide) (by simp [look])
end Go.Ab
