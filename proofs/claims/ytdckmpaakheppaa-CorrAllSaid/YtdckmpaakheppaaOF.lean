/- CorrAll: what is added is the document's. -/
import Derived.Test.YtdckmpaakheppaaNB
import Derived.Test.YtdckmpaakheppaaJH
import Derived.Test.YtdckmpaakheppaaCD
import Derived.Test.YtdckmpaakheppaaOB
import Derived.Test.YtdckmpaakheppaaCU
import Derived.Test.YtdckmpaakheppaaMA
import Derived.Test.YtdckmpaakheppaaMC
namespace Go.Ab
set_option linter.unusedSimpArgs false
set_option linter.unusedVariables false
open Go Go.Proofs
def A_l9_CorrAll_L1 : CA := (.seq (.seq (.reg [⟨0, (some 52), none, [], [], (.h (.mov (.t 22)))⟩, ⟨1, (some 53), none, [], [], (.h (.mov (.t 20)))⟩, ⟨2, (some 54), none, [], [], (.h (.mov (.t 21)))⟩, ⟨3, (some 55), none, [], [], (.h (.idx (.t 53) (.t 54) 1))⟩, ⟨4, (some 56), none, [], [], (.load (.t 55) 1 false)⟩, ⟨5, (some 57), none, [], [], (.h (.len (.t 56)))⟩, ⟨6, (some 58), none, [], [], (.h (.ibin .lss (.t 52) (.t 57)))⟩] [5, 7, 17, 18, 19, 20, 21, 22, 58]) (.cond (.t 58) .skip (.exit 2))) (.seq (.block 3 (.reg [⟨0, (some 61), none, [], [], (.h (.mov (.t 20)))⟩, ⟨1, (some 62), none, [], [], (.h (.mov (.t 21)))⟩, ⟨2, (some 63), none, [], [], (.h (.idx (.t 61) (.t 62) 1))⟩, ⟨3, (some 64), none, [], [], (.load (.t 63) 1 false)⟩, ⟨4, (some 65), none, [], [], (.h (.mov (.t 22)))⟩, ⟨5, (some 66), none, [], [], (.h (.mov (.t 20)))⟩, ⟨6, (some 67), none, [], [], (.h (.mov (.t 21)))⟩, ⟨7, (some 68), none, [], [], (.h (.idx (.t 66) (.t 67) 1))⟩, ⟨8, (some 69), none, [], [], (.load (.t 68) 1 false)⟩, ⟨9, (some 70), none, [], [], (.h (.mov (.t 22)))⟩, ⟨10, (some 71), none, [], [], (.h (.idx (.t 69) (.t 70) 1))⟩, ⟨11, (some 72), none, [], [], (.load (.t 71) 1 false)⟩, ⟨12, (some 73), none, [], [], (.h (.mov (.t 21)))⟩, ⟨13, (some 74), none, [], [], (.h (.ibin .mul (.k (.d (.int .i64 2))) (.t 73)))⟩, ⟨14, (some 75), none, [], [], (.h (.icv .u64 (.t 74)))⟩, ⟨15, (some 76), none, [], [], (.h (.ibin .shl (.k (.d (.int .i64 64))) (.t 75)))⟩, ⟨16, (some 77), none, [], [], (.h (.i2f (.t 76)))⟩, ⟨17, (some 78), none, [], [], (.h (.fbin .div (.t 72) (.t 77)))⟩, ⟨18, (some 79), none, [], [], (.h (.idx (.t 64) (.t 65) 1))⟩, ⟨19, none, none, [], [], (.store (.t 79) (.t 78) 1)⟩] [5, 7, 17, 18, 19, 20, 21, 22])) (.reg [⟨0, (some 59), none, [], [], (.h (.mov (.t 22)))⟩, ⟨1, (some 60), none, [], [], (.h (.ibin .add (.t 59) (.k (.d (.int .i64 1)))))⟩, ⟨2, (some 22), none, [], [], (.h (.mov (.t 60)))⟩] [5, 7, 17, 18, 19, 20, 21, 22])))
def A_l9_CorrAll_L0 : CA := (.seq (.seq (.reg [⟨0, (some 46), none, [], [], (.h (.mov (.t 21)))⟩, ⟨1, (some 47), none, [], [], (.h (.mov (.t 20)))⟩, ⟨2, (some 48), none, [], [], (.h (.len (.t 47)))⟩, ⟨3, (some 49), none, [], [], (.h (.ibin .lss (.t 46) (.t 48)))⟩] [5, 7, 17, 18, 19, 20, 21, 49]) (.cond (.t 49) .skip (.exit 0))) (.seq (.block 1 (.seq (.reg [⟨0, (some 22), none, [], [], (.h (.mov (.k (.d (.int .i64 0)))))⟩] [5, 7, 17, 18, 19, 20, 21, 22]) (.block 2 (.loop A_l9_CorrAll_L1)))) (.reg [⟨0, (some 50), none, [], [], (.h (.mov (.t 21)))⟩, ⟨1, (some 51), none, [], [], (.h (.ibin .add (.t 50) (.k (.d (.int .i64 1)))))⟩, ⟨2, (some 21), none, [], [], (.h (.mov (.t 51)))⟩] [5, 7, 17, 18, 19, 20, 21])))
def A_l9_CorrAll : CA := (.seq (.reg [⟨0, (some 16), none, [], [], (.h (.mov (.k (.d (.bool false)))))⟩] [0, 1, 2, 3, 4, 5, 6, 7]) (.seq (.seq (.reg [⟨0, (some 29), none, [], [], (.callA (.k (.d (.fn 14 [] []))) [])⟩, ⟨1, (some 30), none, [], [], (.h (.un .not (.t 29)))⟩] [0, 1, 2, 3, 4, 5, 6, 7, 30]) (.cond (.t 30) (.seq (.reg [⟨0, (some 16), none, [], [], (.h (.mov (.k (.d (.bool false)))))⟩] [16]) .ret) .skip)) (.seq (.reg [⟨0, (some 31), none, [], [], (.h (.mov (.t 0)))⟩, ⟨1, (some 32), none, [], [], (.h (.mov (.t 1)))⟩, ⟨2, (some 33), none, [], [], (.h (.mov (.t 2)))⟩, ⟨3, (some 34), none, [], [], (.callA (.k (.d (.fn 15 [] []))) [(.t 31), (.t 32), (.t 33)])⟩, ⟨4, (some 17), none, [], [], (.alloc [(.d (.int .i64 0)), .nil, .nil] 26)⟩, ⟨5, none, none, [], [], (.store (.t 17) (.t 34) 3)⟩] [3, 4, 5, 6, 7, 17]) (.seq (.reg [⟨0, (some 35), none, [], [], (.h (.mov (.t 6)))⟩, ⟨1, (some 36), none, [], [], (.callA (.k (.d (.fn 16 [] []))) [(.t 35), (.k (.d (.int .i64 2)))])⟩, ⟨2, (some 18), none, [], [], (.h (.mov (.t 36)))⟩] [3, 4, 5, 7, 17, 18]) (.seq (.reg [⟨0, (some 37), none, [], [], (.h (.mov (.t 3)))⟩, ⟨1, (some 38), none, [], [], (.callA (.k (.d (.fn 16 [] []))) [(.t 37), (.k (.d (.int .i64 4)))])⟩, ⟨2, (some 39), none, [], [], (.h (.ibin .add (.k (.d (.int .i64 1))) (.t 38)))⟩, ⟨3, (some 19), none, [], [], (.h (.mov (.t 39)))⟩] [4, 5, 7, 17, 18, 19]) (.seq (.reg [⟨0, (some 40), none, [], [], (.h (.mov (.t 19)))⟩, ⟨1, (some 41), none, [], [], (.h (.padd (.t 17) 0))⟩, ⟨2, (some 42), none, [], [], (.load (.t 41) 1 false)⟩, ⟨3, (some 43), none, [], [], (.h (.ibin .sub (.t 42) (.k (.d (.int .i64 1)))))⟩, ⟨4, (some 44), none, [], [], (.h (.mov (.t 4)))⟩, ⟨5, (some 45), none, [], [], (.callA (.k (.d (.fn 17 [] []))) [(.t 40), (.t 43), (.t 44)])⟩, ⟨6, (some 20), none, [], [], (.h (.mov (.t 45)))⟩] [5, 7, 17, 18, 19, 20]) (.seq (.seq (.reg [⟨0, (some 21), none, [], [], (.h (.mov (.k (.d (.int .i64 0)))))⟩] [5, 7, 17, 18, 19, 20, 21]) (.block 0 (.loop A_l9_CorrAll_L0))) (.seq (.reg [⟨0, (some 81), none, [], [], (.h (.mov (.t 18)))⟩, ⟨1, (some 82), none, [], [], (.h (.mov (.t 19)))⟩, ⟨2, (some 83), none, [], [], (.callA (.k (.d (.fn 18 [] []))) [(.t 81), (.t 82)])⟩, ⟨3, (some 80), none, [], [], (.h (.mov (.t 83)))⟩, ⟨4, (some 84), none, [], [], (.h (.ext (.t 80) 0))⟩, ⟨5, (some 85), none, [], [], (.h (.ext (.t 80) 1))⟩, ⟨6, (some 23), none, [], [], (.h (.mov (.t 84)))⟩, ⟨7, (some 24), none, [], [], (.h (.mov (.t 85)))⟩] [5, 7, 17, 18, 20, 23]) (.seq (.reg [⟨0, (some 86), none, [], [], (.h (.mov (.t 5)))⟩, ⟨1, (some 87), none, [], [], (.callA (.k (.d (.fn 16 [] []))) [(.t 86), (.k (.d (.int .i64 18)))])⟩, ⟨2, (some 88), none, [], [], (.h (.ibin .add (.k (.d (.int .i64 14))) (.t 87)))⟩, ⟨3, (some 89), none, [], [], (.h (.icv .u64 (.t 88)))⟩, ⟨4, (some 90), none, [], [], (.h (.ibin .shl (.k (.d (.int .i64 1))) (.t 89)))⟩, ⟨5, (some 25), none, [], [], (.h (.mov (.t 90)))⟩] [7, 17, 18, 20, 23, 25]) (.seq (.reg [⟨0, (some 91), none, [], [], (.h (.mov (.t 20)))⟩, ⟨1, (some 92), none, [], [], (.h (.idx (.t 91) (.k (.d (.int .i64 0))) 1))⟩, ⟨2, (some 93), none, [], [], (.load (.t 92) 1 false)⟩, ⟨3, (some 94), none, [], [], (.h (.mov (.t 7)))⟩, ⟨4, (some 95), none, [], [], (.callS 4 (.k (.d (.fn 16 [] []))) [(.t 94), (.k (.d (.int .i64 100000)))])⟩, ⟨5, (some 96), none, [], [], (.h (.ibin .add (.k (.d (.int .i64 1))) (.t 95)))⟩, ⟨6, (some 97), none, [], [], (.h (.i2f (.t 96)))⟩, ⟨7, (some 98), none, [], [], (.h (.fbin .div (.k (.d (.flt 4607182418800017408))) (.t 97)))⟩, ⟨8, (some 99), none, [], [], (.callA (.k (.d (.fn 19 [] []))) [(.t 93), (.t 98), (.k (.d (.flt 4576918229304087675)))])⟩, ⟨9, (some 26), none, [], [], (.h (.mov (.t 99)))⟩] [17, 18, 20, 23, 25, 26]) (.seq (.reg [⟨0, (some 100), none, [], [], (.load (.t 17) 3 true)⟩, ⟨1, (some 101), none, [], [], (.h (.mov (.t 20)))⟩, ⟨2, (some 102), none, [], [], (.h (.mov (.t 23)))⟩, ⟨3, (some 103), none, [], [], (.h (.mov (.t 25)))⟩, ⟨4, (some 104), none, [], [], (.h (.mov (.t 18)))⟩, ⟨5, (some 105), none, [], [], (.h (.mov (.t 26)))⟩, ⟨6, (some 106), none, [], [], (.callS 0 (.k (.d (.fn 20 [] []))) [(.t 100), (.t 101), (.t 102), (.t 103), (.t 104), (.t 105)])⟩, ⟨7, (some 107), none, [], [], (.load (.t 17) 3 true)⟩, ⟨8, (some 108), none, [], [], (.h (.mov (.t 20)))⟩, ⟨9, (some 109), none, [], [], (.h (.mov (.t 23)))⟩, ⟨10, (some 110), none, [], [], (.h (.mov (.t 25)))⟩, ⟨11, (some 111), none, [], [], (.h (.mov (.t 18)))⟩, ⟨12, (some 112), none, [], [], (.h (.mov (.t 26)))⟩, ⟨13, (some 113), none, [], [], (.callS 0 (.k (.d (.fn 21 [] []))) [(.t 107), (.t 108), (.t 109), (.t 110), (.t 111), (.t 112)])⟩, ⟨14, (some 27), none, [], [], (.alloc [.nil, (.d (.int .i64 0)), (.d (.int .i64 0))] 39)⟩, ⟨15, (some 28), none, [], [], (.alloc [.nil, (.d (.int .i64 0)), (.d (.int .i64 0))] 42)⟩, ⟨16, none, none, [], [], (.store (.t 27) (.t 106) 3)⟩, ⟨17, none, none, [], [], (.store (.t 28) (.t 113) 3)⟩] [27, 28]) (.seq (.reg [⟨0, (some 114), none, [], [], (.h (.padd (.t 27) 2))⟩, ⟨1, (some 115), none, [], [], (.load (.t 114) 1 false)⟩, ⟨2, (some 116), none, [], [], (.h (.padd (.t 28) 2))⟩, ⟨3, (some 117), none, [], [], (.load (.t 116) 1 false)⟩, ⟨4, (some 118), none, [], [], (.h (.ibin .eql (.t 115) (.t 117)))⟩, ⟨5, (some 119), none, [], [], (.h (.mov (.t 118)))⟩, ⟨6, (some 120), (some (119, true)), [], [], (.h (.padd (.t 27) 1))⟩, ⟨7, (some 121), (some (119, true)), [], [], (.load (.t 120) 1 false)⟩, ⟨8, (some 122), (some (119, true)), [], [], (.h (.padd (.t 28) 1))⟩, ⟨9, (some 123), (some (119, true)), [], [], (.load (.t 122) 1 false)⟩, ⟨10, (some 124), (some (119, true)), [], [], (.h (.ibin .eql (.t 121) (.t 123)))⟩, ⟨11, (some 125), none, [], [], (.h (.pick (.t 119) (.t 124) (.k (.d (.bool false)))))⟩, ⟨12, (some 126), none, [], [], (.h (.mov (.t 125)))⟩, ⟨13, (some 127), (some (126, true)), [], [], (.h (.padd (.t 27) 0))⟩, ⟨14, (some 128), (some (126, true)), [], [], (.load (.t 127) 1 false)⟩, ⟨15, (some 129), (some (126, true)), [], [], (.h (.padd (.t 28) 0))⟩, ⟨16, (some 130), (some (126, true)), [], [], (.load (.t 129) 1 false)⟩, ⟨17, (some 131), (some (126, true)), [], [], (.callA (.k (.d (.fn 22 [] []))) [(.t 128), (.t 130)])⟩, ⟨18, (some 132), none, [], [], (.h (.pick (.t 126) (.t 131) (.k (.d (.bool false)))))⟩, ⟨19, (some 16), none, [], [], (.h (.mov (.t 132)))⟩] [16]) .ret))))))))))))
theorem A_l9_CorrAll_comp : compF Try.prog 3 = some ⟨133, [(16, none)], A_l9_CorrAll.strip⟩ := by kernel_rfl
theorem hW_eq' : FloatKind.nearest .f64 1073741824 = 4742290407621132288 := by kernel_rfl
theorem r1_Rows_nils : Con Try.prog 22 [.d .nils, .d .nils] (fB true) := by
  refine Con_introA A_r1_Rows_comp rfl mixed ?_
  simp -implicitDefEqProofs only [xC_skip, evS, evT, evU, hv, effC, reduceCtorEq, ↓reduceIte, Nat.reduceEqDiff, Nat.reduceAdd, Nat.reduceMul, Int.reduceToNat, Int.reduceAdd, Int.reduceSub, Int.reduceMul, Int.reduceNeg, Int.reduceLT, Int.reduceLE, Nat.reduceLT, Nat.reduceLeDiff, A_r1_Rows]
  refine WA_for (n := 0) (fun c s => s = ⟨_, []⟩) rfl ?_
  rintro c s rfl
  simp -implicitDefEqProofs only [xC_skip, evS, evT, evU, hv, effC, reduceCtorEq, ↓reduceIte, Nat.reduceEqDiff, Nat.reduceAdd, Nat.reduceMul, Int.reduceToNat, Int.reduceAdd, Int.reduceSub, Int.reduceMul, Int.reduceNeg, Int.reduceLT, Int.reduceLE, Nat.reduceLT, Nat.reduceLeDiff, A_r1_Rows_L0]
  exact endsT_rett rfl (by decide) (by simp [look])
set_option maxRecDepth 8000 in
theorem l9_CorrAll_con (n : Int) (ns : List Int) (dv : Bool) (order : Int) (zs : List Int) (step method small : Int) (hns : ns.length < 2 ^ 62) (hzs : zs.length < 2 ^ 62) : Con Try.prog 3 [fI n, .d (rowI ns), fB dv, fI order, .d (rowI zs), fI step, fI method, fI small] (fB true) := by
  refine Con_introA A_l9_CorrAll_comp rfl mixed ?_
  simp -implicitDefEqProofs only [xC_skip, evS, evT, evU, hv, effC, reduceCtorEq, ↓reduceIte, Nat.reduceEqDiff, Nat.reduceAdd, Nat.reduceMul, Int.reduceToNat, Int.reduceAdd, Int.reduceSub, Int.reduceMul, Int.reduceNeg, Int.reduceLT, Int.reduceLE, Nat.reduceLT, Nat.reduceLeDiff, A_l9_CorrAll]
  first | refine callG_con (l9_known_con) rfl ?_ | refine callCG_con (l9_known_con) rfl ?_ | refine callSG_con (l9_known_con) rfl ?_
  simp -implicitDefEqProofs only [xC_skip, evS, evT, evU, hv, effC, reduceCtorEq, ↓reduceIte, Nat.reduceEqDiff, Nat.reduceAdd, Nat.reduceMul, Int.reduceToNat, Int.reduceAdd, Int.reduceSub, Int.reduceMul, Int.reduceNeg, Int.reduceLT, Int.reduceLE, Nat.reduceLT, Nat.reduceLeDiff]
  first | refine callG_con (l3_Make_con n ns dv hns) rfl ?_ | refine callCG_con (l3_Make_con n ns dv hns) rfl ?_ | refine callSG_con (l3_Make_con n ns dv hns) rfl ?_
  simp -implicitDefEqProofs only [xC_skip, evS, evT, evU, hv, effC, reduceCtorEq, ↓reduceIte, Nat.reduceEqDiff, Nat.reduceAdd, Nat.reduceMul, Int.reduceToNat, Int.reduceAdd, Int.reduceSub, Int.reduceMul, Int.reduceNeg, Int.reduceLT, Int.reduceLE, Nat.reduceLT, Nat.reduceLeDiff]
  have T1 := mkT_ok n ns dv
  have T2 := mkT_n n ns dv
  generalize mkT n ns dv = t at T1 T2
  have n1 := Int.emod_nonneg n (by decide : (3 : Int) ≠ 0)
  have n2 := Int.emod_lt_of_pos n (by decide : (0 : Int) < 3)
  first | refine callG_con (l9_within_con method 2 (by decide) (by decide)) rfl ?_ | refine callCG_con (l9_within_con method 2 (by decide) (by decide)) rfl ?_ | refine callSG_con (l9_within_con method 2 (by decide) (by decide)) rfl ?_
  have m1 := Int.emod_nonneg method (by decide : (2 : Int) ≠ 0)
  have m2 := Int.emod_lt_of_pos method (by decide : (0 : Int) < 2)
  generalize method % 2 = m at m1 m2
  simp -implicitDefEqProofs only [xC_skip, evS, evT, evU, hv, effC, reduceCtorEq, ↓reduceIte, Nat.reduceEqDiff, Nat.reduceAdd, Nat.reduceMul, Int.reduceToNat, Int.reduceAdd, Int.reduceSub, Int.reduceMul, Int.reduceNeg, Int.reduceLT, Int.reduceLE, Nat.reduceLT, Nat.reduceLeDiff]
  first | refine callG_con (l9_within_con order 4 (by decide) (by decide)) rfl ?_ | refine callCG_con (l9_within_con order 4 (by decide) (by decide)) rfl ?_ | refine callSG_con (l9_within_con order 4 (by decide) (by decide)) rfl ?_
  have o1 := Int.emod_nonneg order (by decide : (4 : Int) ≠ 0)
  have o2 := Int.emod_lt_of_pos order (by decide : (0 : Int) < 4)
  obtain ⟨q, hq⟩ : ∃ q : Nat, 1 + order % 4 = q := ⟨(1 + order % 4).toNat, by omega⟩
  have hq5 : 1 ≤ q ∧ q ≤ 4 := by omega
  have wq : IntKind.i64.wrap (1 + order % 4) = (q : Int) := by rw [hq]; exact wrapI (by omega) (by omega)
  have wn : IntKind.i64.wrap ((t.n : Int) - 1) = ((t.n - 1 : Nat) : Int) := by rw [wrapI (by omega) (by omega)]; omega
  have hk : t.n = (((t.n - 1 : Nat) : Int) % 3).toNat + 1 := by omega
  simp -implicitDefEqProofs only [xC_skip, evS, evT, evU, hv, effC, reduceCtorEq, ↓reduceIte, Nat.reduceEqDiff, Nat.reduceAdd, Nat.reduceMul, Int.reduceToNat, Int.reduceAdd, Int.reduceSub, Int.reduceMul, Int.reduceNeg, Int.reduceLT, Int.reduceLE, Nat.reduceLT, Nat.reduceLeDiff, wq, wn]
  refine callG_rows 20 [fI q, fI (t.n - 1 : Nat), .d (rowI zs)] (by simp [Heap.next]) (l8_Make_ac q ((t.n - 1 : Nat) : Int) zs q rfl (by omega) hzs t.n hk) ⟨.bare _, .bare _, .bare _, trivial⟩ ?_
  simp -implicitDefEqProofs only [xC_skip, evS, evT, evU, hv, effC, reduceCtorEq, ↓reduceIte, Nat.reduceEqDiff, Nat.reduceAdd, Nat.reduceMul, Int.reduceToNat, Int.reduceAdd, Int.reduceSub, Int.reduceMul, Int.reduceNeg, Int.reduceLT, Int.reduceLE, Nat.reduceLT, Nat.reduceLeDiff]
  have hz0 := zM_rk zs t.n (q + 1)
  generalize zM zs t.n (q + 1) = Z0 at hz0
  refine WA_forW (n := q + 1) (fun c s => ∃ j Z, c + j = q + 1 ∧ Rk (q + 1) t.n Z ∧ ((j ≤ q ∧ s = ⟨[(5, fI step), (7, fI small), (17, .ptr 4 0 0 3), (18, fI m), (19, fI q), (20, .sl 120 0 0 (q + 1) 1 (q + 1)), (21, fI j)], [(220, Z.map rowV), (120, [hdo 220 0 (q + 1) t.n]), (4, [jtT t])]⟩) ∨
    (j = q + 1 ∧ s = ⟨[(5, fI step), (7, fI small), (17, .ptr 4 0 0 3), (18, fI m), (19, fI q), (20, .d (rowsD Z)), (21, fI j)], [(4, [jtT t])]⟩))) (Le.refl _) ⟨0, Z0, by omega, hz0, .inl ⟨by omega, rfl⟩⟩ ?_
  rintro c s ⟨j, Z, hc, hZ, ⟨hj, rfl⟩ | ⟨rfl, rfl⟩⟩
  · have hzl := hZ.1
    have hjd : decide (j < q + 1) = true := by simp; omega
    simp -implicitDefEqProofs only [xC_skip, evS, evT, evU, hv, effC, reduceCtorEq, ↓reduceIte, Nat.reduceEqDiff, Nat.reduceAdd, Nat.reduceMul, Int.reduceToNat, Int.reduceAdd, Int.reduceSub, Int.reduceMul, Int.reduceNeg, Int.reduceLT, Int.reduceLE, Nat.reduceLT, Nat.reduceLeDiff, A_l9_CorrAll_L0, hjd]
    refine WA_for (n := t.n) (fun c s => ∃ i Z, c + i = t.n ∧ Rk (q + 1) t.n Z ∧ s = ⟨[(5, fI step), (7, fI small), (17, .ptr 4 0 0 3), (18, fI m), (19, fI q), (20, .sl 120 0 0 (q + 1) 1 (q + 1)), (21, fI j), (22, fI i)], [(220, Z.map rowV), (120, [hdo 220 0 (q + 1) t.n]), (4, [jtT t])]⟩) ⟨0, Z, by omega, hZ, rfl⟩ ?_
    rintro c' s ⟨i, Z', hc', hZ', rfl⟩
    have hzl' := hZ'.1
    have hzj := hZ'.2 j (by omega)
    simp -implicitDefEqProofs only [xC_skip, evS, evT, evU, hv, effC, reduceCtorEq, ↓reduceIte, Nat.reduceEqDiff, Nat.reduceAdd, Nat.reduceMul, Int.reduceToNat, Int.reduceAdd, Int.reduceSub, Int.reduceMul, Int.reduceNeg, Int.reduceLT, Int.reduceLE, Nat.reduceLT, Nat.reduceLeDiff, A_l9_CorrAll_L1, hdo_getD 220 0 (q + 1) t.n j (by omega)]
    refine ⟨by omega, by omega, ?_⟩
    refine condC_intro (fun hi => ?_) (fun hi => ?_)
    · replace hi := of_decide_eq_true hi
      have w2 : IntKind.i64.wrap (2 * (j : Int)) = ((2 * j : Nat) : Int) := by rw [wrapI (by omega) (by omega)]; omega
      simp -implicitDefEqProofs only [xC_skip, evS, evT, evU, hv, effC, reduceCtorEq, ↓reduceIte, Nat.reduceEqDiff, Nat.reduceAdd, Nat.reduceMul, Int.reduceToNat, Int.reduceAdd, Int.reduceSub, Int.reduceMul, Int.reduceNeg, Int.reduceLT, Int.reduceLE, Nat.reduceLT, Nat.reduceLeDiff, hdo_getD 220 0 (q + 1) t.n j (by omega), getE Z' j (by omega), getD_map_fl (Z'.getD j []) i (by omega), w2, setE]
      have wu : 0 ≤ IntKind.u64.wrap ((2 * j : Nat) : Int) := by rw [wrapU (by omega) (by omega)]; omega
      (repeat (with_reducible refine And.intro (by omega) ?_))
      rw [wrapI (by omega) (by omega)]
      exact ⟨c' - 1, by omega, i + 1, up2 Z' j i _, by omega, Rk_up2 hZ' _ _ _, rfl⟩
    · replace hi := of_decide_eq_false hi
      have e : i = t.n := by omega
      simp -implicitDefEqProofs only [xC_skip, evS, evT, evU, hv, effC, reduceCtorEq, ↓reduceIte, Nat.reduceEqDiff, Nat.reduceAdd, Nat.reduceMul, Int.reduceToNat, Int.reduceAdd, Int.reduceSub, Int.reduceMul, Int.reduceNeg, Int.reduceLT, Int.reduceLE, Nat.reduceLT, Nat.reduceLeDiff]
      rw [wrapI (by omega) (by omega)]
      by_cases hjq : j = q
      · subst hjq
        refine ⟨c - 1, _, by omega, ?_, j + 1, Z', by omega, hZ', .inr ⟨rfl, rfl⟩⟩
        have hz : ∀ L L' : Heap, L.get 120 0 = some (hdo 220 0 (j + 1) t.n) → L.fam 220 = some (Z'.map rowV) → L'.fam 120 = none → L'.fam 220 = none → Fz L L' (.sl 120 0 0 (j + 1) 1 (j + 1)) (.d (.bor Z'.length (rowsG Z'))) := fun L L' a b c d =>
          Fz_rows (X := 220) (o := 0) (len := t.n) a (fun r hr => ⟨by
            unfold Heap.get
            rw [b, Nat.add_zero]
            have : r < Z'.length := by omega
            simp [List.getD_eq_getElem?_getD, this], hZ'.2 r hr⟩) hzl' rfl c d
        exact LeT.weak (fun _ h => h) (by simp (maxDischargeDepth := 6) [Fz_rowD, Fz_rowI, Fz_rowsD, FzS_cons, FzS_nil, FzH_cons, FzH_nil, FzF_cons, FzF_nil, FzF_rows, FzA_cons, FzA_nil, FzA_app, FzA_rowV, FzA_dcells, FzA_outC, FzA_data, Fz_d, Fz_nil, Fz_any, Fz_ptr, Fz_sl, Fz_agg, get_cons, get_nil, fam_cons, fam_nil, hz]) (by simp (maxDischargeDepth := 6) [Fz_rowD, Fz_rowI, Fz_rowsD, FzS_cons, FzS_nil, FzH_cons, FzH_nil, FzF_cons, FzF_nil, FzF_rows, FzA_cons, FzA_nil, FzA_app, FzA_rowV, FzA_dcells, FzA_outC, FzA_data, Fz_d, Fz_nil, Fz_any, Fz_ptr, Fz_sl, Fz_agg, get_cons, get_nil, fam_cons, fam_nil])
      · exact ⟨c - 1, _, by omega, Le.refl _, j + 1, Z', by omega, hZ', .inl ⟨by omega, rfl⟩⟩
  · clear hz0
    have hjd : decide (q + 1 < Z.length) = false := by rw [hZ.1]; simp
    simp -implicitDefEqProofs only [xC_skip, evS, evT, evU, hv, effC, reduceCtorEq, ↓reduceIte, Nat.reduceEqDiff, Nat.reduceAdd, Nat.reduceMul, Int.reduceToNat, Int.reduceAdd, Int.reduceSub, Int.reduceMul, Int.reduceNeg, Int.reduceLT, Int.reduceLE, Nat.reduceLT, Nat.reduceLeDiff, A_l9_CorrAll_L0, hjd]
    obtain ⟨hof, hofl⟩ := r7_Of_ok m q (by omega)
    first | refine callG_con (hof) rfl ?_ | refine callCG_con (hof) rfl ?_ | refine callSG_con (hof) rfl ?_
    generalize ofL m q = l at hofl
    simp -implicitDefEqProofs only [xC_skip, evS, evT, evU, hv, effC, reduceCtorEq, ↓reduceIte, Nat.reduceEqDiff, Nat.reduceAdd, Nat.reduceMul, Int.reduceToNat, Int.reduceAdd, Int.reduceSub, Int.reduceMul, Int.reduceNeg, Int.reduceLT, Int.reduceLE, Nat.reduceLT, Nat.reduceLeDiff]
    first | refine callG_con (l9_within_con step 18 (by decide) (by decide)) rfl ?_ | refine callCG_con (l9_within_con step 18 (by decide) (by decide)) rfl ?_ | refine callSG_con (l9_within_con step 18 (by decide) (by decide)) rfl ?_
    have s1 := Int.emod_nonneg step (by decide : (18 : Int) ≠ 0)
    have s2 := Int.emod_lt_of_pos step (by decide : (0 : Int) < 18)
    obtain ⟨j, hj⟩ : ∃ j : Nat, 14 + step % 18 = j := ⟨(14 + step % 18).toNat, by omega⟩
    have hj2 : j < 32 := by omega
    have wj : IntKind.i64.wrap (14 + step % 18) = (j : Int) := by rw [hj]; exact wrapI (by omega) (by omega)
    have wu : 0 ≤ IntKind.u64.wrap (j : Int) := by rw [wrapU (by omega) (by omega)]; omega
    simp -implicitDefEqProofs only [xC_skip, evS, evT, evU, hv, effC, reduceCtorEq, ↓reduceIte, Nat.reduceEqDiff, Nat.reduceAdd, Nat.reduceMul, Int.reduceToNat, Int.reduceAdd, Int.reduceSub, Int.reduceMul, Int.reduceNeg, Int.reduceLT, Int.reduceLE, Nat.reduceLT, Nat.reduceLeDiff, wj, shl_pow j (by omega)]
    refine ⟨wu, ?_⟩
    have z1 := hZ.1
    have hZ0 := hZ.2 0 (by omega)
    have hZ1 := hZ.2 1 (by omega)
    (repeat (with_reducible refine And.intro (by omega) ?_))
    first | refine callG_con (l9_within_con small 100000 (by decide) (by decide)) rfl ?_ | refine callCG_con (l9_within_con small 100000 (by decide) (by decide)) rfl ?_ | refine callSG_con (l9_within_con small 100000 (by decide) (by decide)) rfl ?_
    have b1 := Int.emod_nonneg small (by decide : (100000 : Int) ≠ 0)
    have b2 := Int.emod_lt_of_pos small (by decide : (0 : Int) < 100000)
    simp -implicitDefEqProofs only [xC_skip, evS, evT, evU, hv, effC, reduceCtorEq, ↓reduceIte, Nat.reduceEqDiff, Nat.reduceAdd, Nat.reduceMul, Int.reduceToNat, Int.reduceAdd, Int.reduceSub, Int.reduceMul, Int.reduceNeg, Int.reduceLT, Int.reduceLE, Nat.reduceLT, Nat.reduceLeDiff]
    generalize fop .div 4607182418800017408 (FloatKind.nearest .f64 (IntKind.i64.wrap (1 + small % 100000))) = a1
    have hWt := r9_Weights_con (Z.getD 0 []) a1 4576918229304087675 (by omega)
    have hwl : (wtP (Z.getD 0 []) a1 4576918229304087675).length = t.n := (wtP_len _ _ _).trans hZ0
    generalize wtP (Z.getD 0 []) a1 4576918229304087675 = w at hWt hwl
    first | refine callG_con (hWt) rfl ?_ | refine callCG_con (hWt) rfl ?_ | refine callSG_con (hWt) rfl ?_
    simp -implicitDefEqProofs only [xC_skip, evS, evT, evU, hv, effC, reduceCtorEq, ↓reduceIte, Nat.reduceEqDiff, Nat.reduceAdd, Nat.reduceMul, Int.reduceToNat, Int.reduceAdd, Int.reduceSub, Int.reduceMul, Int.reduceNeg, Int.reduceLT, Int.reduceLE, Nat.reduceLT, Nat.reduceLeDiff]
    have zo : ∀ i, i < 2 → (Z.getD i []).length = t.n := fun i hi => by
      rcases i with _ | _ | i
      · exact hZ0
      · exact hZ1
      · omega
    have ok : Sok t Z l w (List.replicate t.n 0) := ⟨T1, by omega, zo, by omega, hwl, by simp⟩
    have hn0 : 0 < t.n := by omega
    have hh : fop .div (FloatKind.nearest .f64 ((2 ^ j : Nat) : Int)) 4742290407621132288 = hW (2 ^ j) := by
      unfold hW; rw [hW_eq']
    rcases solG_form t Z l (hW (2 ^ j)) w m with ⟨g, k, hgl, hg⟩ | ⟨k, e, hne, hg⟩
    · have hsol := corr_SolveG_ok t Z l (hW (2 ^ j)) w ((2 ^ j : Nat) : Int) m hn0 ok (Scale_pow j (by omega)) g k hg
      have hsol2 := r9_SolveG_ok t Z l (hW (2 ^ j)) w ((2 ^ j : Nat) : Int) m hn0 ok hh g k hg
      refine callS_sum _ hsol ⟨.aggs ⟨.bare _, .bare _, .bare _, trivial⟩, .bare _, .bare _, .bare _, .bare _, .bare _, trivial⟩ rfl ?_
      simp -implicitDefEqProofs only [xC_skip, evS, evT, evU, hv, effC, reduceCtorEq, ↓reduceIte, Nat.reduceEqDiff, Nat.reduceAdd, Nat.reduceMul, Int.reduceToNat, Int.reduceAdd, Int.reduceSub, Int.reduceMul, Int.reduceNeg, Int.reduceLT, Int.reduceLE, Nat.reduceLT, Nat.reduceLeDiff]
      refine callS_sum _ hsol2 ⟨.aggs ⟨.bare _, .bare _, .bare _, trivial⟩, .bare _, .bare _, .bare _, .bare _, .bare _, trivial⟩ rfl ?_
      simp -implicitDefEqProofs only [xC_skip, evS, evT, evU, hv, effC, reduceCtorEq, ↓reduceIte, Nat.reduceEqDiff, Nat.reduceAdd, Nat.reduceMul, Int.reduceToNat, Int.reduceAdd, Int.reduceSub, Int.reduceMul, Int.reduceNeg, Int.reduceLT, Int.reduceLE, Nat.reduceLT, Nat.reduceLeDiff]
      refine callG_snaps [.d (rowD g), .d (rowD g)] (r1_Rows_con g (by omega)) ⟨snp_row rfl hgl rfl, snp_row rfl hgl rfl, trivial⟩ (.bool _) ?_
      simp -implicitDefEqProofs only [xC_skip, evS, evT, evU, hv, effC, reduceCtorEq, ↓reduceIte, Nat.reduceEqDiff, Nat.reduceAdd, Nat.reduceMul, Int.reduceToNat, Int.reduceAdd, Int.reduceSub, Int.reduceMul, Int.reduceNeg, Int.reduceLT, Int.reduceLE, Nat.reduceLT, Nat.reduceLeDiff]
      exact endsT_rett rfl (by decide) (by simp [look])
    · have hsol := corr_SolveG_no t Z l (hW (2 ^ j)) w ((2 ^ j : Nat) : Int) m hn0 ok (Scale_pow j (by omega)) k e hne hg
      have hsol2 := r9_SolveG_no t Z l (hW (2 ^ j)) w ((2 ^ j : Nat) : Int) m hn0 ok hh k e hne hg
      refine callS_sumN _ hsol ⟨.aggs ⟨.bare _, .bare _, .bare _, trivial⟩, .bare _, .bare _, .bare _, .bare _, .bare _, trivial⟩ rfl ?_
      simp -implicitDefEqProofs only [xC_skip, evS, evT, evU, hv, effC, reduceCtorEq, ↓reduceIte, Nat.reduceEqDiff, Nat.reduceAdd, Nat.reduceMul, Int.reduceToNat, Int.reduceAdd, Int.reduceSub, Int.reduceMul, Int.reduceNeg, Int.reduceLT, Int.reduceLE, Nat.reduceLT, Nat.reduceLeDiff]
      refine callS_sumN _ hsol2 ⟨.aggs ⟨.bare _, .bare _, .bare _, trivial⟩, .bare _, .bare _, .bare _, .bare _, .bare _, trivial⟩ rfl ?_
      simp -implicitDefEqProofs only [xC_skip, evS, evT, evU, hv, effC, reduceCtorEq, ↓reduceIte, Nat.reduceEqDiff, Nat.reduceAdd, Nat.reduceMul, Int.reduceToNat, Int.reduceAdd, Int.reduceSub, Int.reduceMul, Int.reduceNeg, Int.reduceLT, Int.reduceLE, Nat.reduceLT, Nat.reduceLeDiff]
      refine callG_snaps [.d .nils, .d .nils] r1_Rows_nils ⟨.nil, .nil, trivial⟩ (.bool _) ?_
      simp -implicitDefEqProofs only [xC_skip, evS, evT, evU, hv, effC, reduceCtorEq, ↓reduceIte, Nat.reduceEqDiff, Nat.reduceAdd, Nat.reduceMul, Int.reduceToNat, Int.reduceAdd, Int.reduceSub, Int.reduceMul, Int.reduceNeg, Int.reduceLT, Int.reduceLE, Nat.reduceLT, Nat.reduceLeDiff]
      exact endsT_rett rfl (by decide) (by simp [look])
end Go.Ab
