/- Part 12: JA, JB, JE, JG, LP, JH. -/
import Derived.Test.YtdnldhnjbnpbcaaGreatGK
namespace Go.Ab
set_option linter.unusedSimpArgs false
set_option linter.unusedVariables false
open Nat renaming reduceEqDiff → n1_, reduceAdd → n2_, reduceMul → n3_, reduceLT → n4_, reduceLeDiff → n5_
open Int renaming reduceToNat → i1_, reduceAdd → i2_, reduceSub → i3_, reduceMul → i4_, reduceNeg → i5_, reduceLT → i6_, reduceLE → i7_
open Go Go.Proofs
def A_jac_floats_1 : CA := (.seq (.reg [i_X 0 2 (.h (.mov (.k (.d (.flt 0)))))] [0]) (.seq (.reg [i_M 0 3 0, i_M 1 2 3] [2]) .ret))
theorem A_jac_floats_1_comp : compF Tryz.prog 126 = some ⟨4, [(2, none)], A_jac_floats_1.strip⟩ := by kernel_rfl
def A_jac_floats_2 : CA := (.seq (.reg [i_X 0 4 (.h (.mov (.k (.d (.flt 0)))))] [0, 1]) (.seq (.reg [i_M 0 5 0, i_M 1 6 1, i_X 2 7 (.h (.fbin .add (.t 5) (.t 6))), i_M 3 4 7] [4]) .ret))
theorem A_jac_floats_2_comp : compF Tryz.prog 127 = some ⟨8, [(4, none)], A_jac_floats_2.strip⟩ := by kernel_rfl
def A_jac_floats_3 : CA := (.seq (.reg [i_X 0 4 (.h (.mov (.k (.d (.flt 0)))))] [0, 1]) (.seq (.reg [i_M 0 5 0, i_M 1 6 1, i_X 2 7 (.h (.fbin .sub (.t 5) (.t 6))), i_M 3 4 7] [4]) .ret))
theorem A_jac_floats_3_comp : compF Tryz.prog 128 = some ⟨8, [(4, none)], A_jac_floats_3.strip⟩ := by kernel_rfl
def A_jac_floats_4 : CA := (.seq (.reg [i_X 0 4 (.h (.mov (.k (.d (.flt 0)))))] [0, 1]) (.seq (.reg [i_M 0 5 0, i_M 1 6 1, i_X 2 7 (.h (.fbin .mul (.t 5) (.t 6))), i_M 3 4 7] [4]) .ret))
theorem A_jac_floats_4_comp : compF Tryz.prog 129 = some ⟨8, [(4, none)], A_jac_floats_4.strip⟩ := by kernel_rfl
def A_jac_floats_5 : CA := (.seq (.reg [i_X 0 4 (.h (.mov (.k (.d (.flt 0)))))] [0, 1]) (.seq (.reg [i_M 0 5 0, i_M 1 6 1, i_X 2 7 (.h (.fbin .div (.t 5) (.t 6))), i_M 3 4 7] [4]) .ret))
theorem A_jac_floats_5_comp : compF Tryz.prog 130 = some ⟨8, [(4, none)], A_jac_floats_5.strip⟩ := by kernel_rfl
def A_jac_floats : CA := (.seq (.reg [i_X 0 0 (.alloc [(.d .nilf), (.d .nilf), (.d .nilf), (.d .nilf), (.d .nilf)] 146)] [0]) (.seq (.reg [i_X 0 1 (.h (.build [(.d .nilf), (.d .nilf), (.d .nilf), (.d .nilf), (.d .nilf)] [(0, (1, (.k (.d (.fn 126 [] []))))), (1, (1, (.k (.d (.fn 127 [] []))))), (2, (1, (.k (.d (.fn 128 [] []))))), (3, (1, (.k (.d (.fn 129 [] []))))), (4, (1, (.k (.d (.fn 130 [] [])))))])), i_S 1 0 1 5] [0]) .ret))
theorem A_jac_floats_comp : compF Tryz.prog 117 = some ⟨2, [(0, (some (5, true)))], A_jac_floats.strip⟩ := by kernel_rfl
def A_jac_kind_float64_value : CA := (.seq (.reg [i_X 0 4 (.box (.t 0) 5 146), i_X 1 5 (.box (.t 1) 4 67), i_X 2 8 (.h (.mov (.k (.d (.flt 0)))))] [2, 3, 4, 5]) (.seq (.seq (.reg [i_P 0 11 5 0, i_L 1 12 11 1] [2, 3, 4, 5, 12]) (.block 0 (.seq (.reg [i_X 0 14 (.h (.ibin .eql (.t 12) (.k (.d (.int .i64 0))))), i_M 1 13 14] [2, 3, 4, 5, 12, 13]) (.cond (.t 13) (.seq (.reg [i_P 0 15 4 0, i_L 1 16 15 1, i_P 2 17 5 3, i_L 3 18 17 1, i_X 4 19 (.callA (.t 16) [(.t 18)]), i_M 5 8 19] [8]) .ret) (.seq (.reg [i_X 0 21 (.h (.ibin .eql (.t 12) (.k (.d (.int .i64 1))))), i_M 1 20 21] [2, 3, 4, 5, 20]) (.cond (.t 20) (.seq (.reg [i_M 0 22 2, i_P 1 23 5 1, i_L 2 24 23 1, i_X 3 25 (.h (.idx (.t 22) (.t 24) 1)), i_L 4 26 25 1, i_M 5 8 26] [8]) .ret) .skip)))))) (.seq (.reg [i_M 0 27 3, i_P 1 28 5 1, i_L 2 29 28 1, i_X 3 30 (.h (.idx (.t 27) (.t 29) 2)), i_P 4 31 30 0, i_L 5 32 31 1, i_M 6 33 3, i_P 7 34 5 2, i_L 8 35 34 1, i_X 9 36 (.h (.idx (.t 33) (.t 35) 2)), i_P 10 37 36 0, i_L 11 38 37 1, i_M 12 9 32, i_M 13 10 38] [4, 5, 9, 10]) (.seq (.seq (.reg [i_P 0 39 5 0, i_L 1 40 39 1] [4, 9, 10, 40]) (.block 1 (.seq (.reg [i_X 0 42 (.h (.ibin .eql (.t 40) (.k (.d (.int .i64 2))))), i_M 1 41 42] [4, 9, 10, 40, 41]) (.cond (.t 41) (.seq (.reg [i_P 0 43 4 1, i_L 1 44 43 1, i_M 2 45 9, i_M 3 46 10, i_X 4 47 (.callA (.t 44) [(.t 45), (.t 46)]), i_M 5 8 47] [8]) .ret) (.seq (.reg [i_X 0 49 (.h (.ibin .eql (.t 40) (.k (.d (.int .i64 3))))), i_M 1 48 49] [4, 9, 10, 40, 48]) (.cond (.t 48) (.seq (.reg [i_P 0 50 4 2, i_L 1 51 50 1, i_M 2 52 9, i_M 3 53 10, i_X 4 54 (.callA (.t 51) [(.t 52), (.t 53)]), i_M 5 8 54] [8]) .ret) (.seq (.reg [i_X 0 56 (.h (.ibin .eql (.t 40) (.k (.d (.int .i64 4))))), i_M 1 55 56] [4, 9, 10, 55]) (.cond (.t 55) (.seq (.reg [i_P 0 57 4 3, i_L 1 58 57 1, i_M 2 59 9, i_M 3 60 10, i_X 4 61 (.callA (.t 58) [(.t 59), (.t 60)]), i_M 5 8 61] [8]) .ret) .skip)))))))) (.seq (.reg [i_P 0 62 4 4, i_L 1 63 62 1, i_M 2 64 9, i_M 3 65 10, i_X 4 66 (.callA (.t 63) [(.t 64), (.t 65)]), i_M 5 8 66] [8]) .ret)))))
theorem A_jac_kind_float64_value_comp : compF Tryz.prog 131 = some ⟨67, [(8, none)], A_jac_kind_float64_value.strip⟩ := by kernel_rfl
def A_jac_kind_float64_slope : CA := (.seq (.reg [i_X 0 5 (.box (.t 0) 5 146), i_X 1 6 (.box (.t 1) 4 67), i_X 2 10 (.h (.mov (.k (.d (.flt 0)))))] [2, 3, 4, 5, 6]) (.seq (.block 0 (.seq (.reg [i_P 0 14 6 0, i_L 1 15 14 1, i_X 2 16 (.h (.ibin .eql (.t 15) (.k (.d (.int .i64 1))))), i_M 3 17 16, ⟨4, (some 18), (some (17, true)), [], [], (.h (.padd (.t 6) 1))⟩, ⟨5, (some 19), (some (17, true)), [], [], (.load (.t 18) 1 false)⟩, ⟨6, (some 20), (some (17, true)), [], [], (.h (.mov (.t 2)))⟩, ⟨7, (some 21), (some (17, true)), [], [], (.h (.ibin .eql (.t 19) (.t 20)))⟩, i_X 8 22 (.h (.pick (.t 17) (.t 21) (.k (.d (.bool false))))), i_M 9 13 22] [2, 3, 4, 5, 6, 13]) (.cond (.t 13) (.seq (.reg [i_P 0 23 5 0, i_L 1 24 23 1, i_X 2 25 (.callA (.t 24) [(.k (.d (.flt 4607182418800017408)))]), i_M 3 10 25] [10]) .ret) (.seq (.reg [i_P 0 27 6 0, i_L 1 28 27 1, i_X 2 29 (.h (.ibin .eql (.t 28) (.k (.d (.int .i64 0))))), i_M 3 30 29, ⟨4, (some 31), (some (30, false)), [], [], (.h (.padd (.t 6) 0))⟩, ⟨5, (some 32), (some (30, false)), [], [], (.load (.t 31) 1 false)⟩, ⟨6, (some 33), (some (30, false)), [], [], (.h (.ibin .eql (.t 32) (.k (.d (.int .i64 1)))))⟩, i_X 7 34 (.h (.pick (.t 30) (.k (.d (.bool true))) (.t 33))), i_M 8 26 34] [2, 3, 4, 5, 6, 26]) (.cond (.t 26) (.seq (.reg [i_P 0 35 5 0, i_L 1 36 35 1, i_X 2 37 (.callA (.t 36) [(.k (.d (.flt 0)))]), i_M 3 10 37] [10]) .ret) .skip))))) (.seq (.reg [i_M 0 38 4, i_P 1 39 6 1, i_L 2 40 39 1, i_X 3 41 (.h (.idx (.t 38) (.t 40) 2)), i_A 4 42 41 2, i_M 5 43 4, i_P 6 44 6 2, ⟨7, (some 45), none, [(.t 6)], [], (.load (.t 44) 1 false)⟩, i_X 8 46 (.h (.idx (.t 43) (.t 45) 2)), ⟨9, (some 47), none, [(.t 4)], [], (.load (.t 46) 2 true)⟩, i_X 10 11 (.alloc [(.d (.flt 0)), .nil] 158), i_X 11 12 (.alloc [(.d (.flt 0)), .nil] 158), ⟨12, none, none, [], [(.t 6), (.t 4)], (.store (.t 11) (.t 42) 2)⟩, i_S 13 12 47 2] [2, 3, 5, 6, 11, 12]) (.seq (.seq (.reg [i_P 0 48 6 0, i_L 1 49 48 1] [2, 3, 5, 11, 12, 49]) (.block 1 (.seq (.reg [i_X 0 51 (.h (.ibin .eql (.t 49) (.k (.d (.int .i64 2))))), i_M 1 50 51] [2, 3, 5, 11, 12, 49, 50]) (.cond (.t 50) (.seq (.reg [i_P 0 52 5 1, i_L 1 53 52 1, i_P 2 54 11 1, i_L 3 55 54 1, i_M 4 56 2, i_X 5 57 (.h (.idx (.t 55) (.t 56) 1)), i_L 6 58 57 1, i_P 7 59 12 1, i_L 8 60 59 1, i_M 9 61 2, i_X 10 62 (.h (.idx (.t 60) (.t 61) 1)), i_L 11 63 62 1, i_X 12 64 (.callA (.t 53) [(.t 58), (.t 63)]), i_M 13 10 64] [10]) .ret) (.seq (.reg [i_X 0 66 (.h (.ibin .eql (.t 49) (.k (.d (.int .i64 3))))), i_M 1 65 66] [2, 3, 5, 11, 12, 49, 65]) (.cond (.t 65) (.seq (.reg [i_P 0 67 5 2, i_L 1 68 67 1, i_P 2 69 11 1, i_L 3 70 69 1, i_M 4 71 2, i_X 5 72 (.h (.idx (.t 70) (.t 71) 1)), i_L 6 73 72 1, i_P 7 74 12 1, i_L 8 75 74 1, i_M 9 76 2, i_X 10 77 (.h (.idx (.t 75) (.t 76) 1)), i_L 11 78 77 1, i_X 12 79 (.callA (.t 68) [(.t 73), (.t 78)]), i_M 13 10 79] [10]) .ret) (.seq (.reg [i_X 0 81 (.h (.ibin .eql (.t 49) (.k (.d (.int .i64 4))))), i_M 1 80 81] [2, 3, 5, 11, 12, 80]) (.cond (.t 80) (.seq (.reg [i_P 0 82 5 1, i_L 1 83 82 1, i_P 2 84 5 3, i_L 3 85 84 1, i_P 4 86 11 1, i_L 5 87 86 1, i_M 6 88 2, i_X 7 89 (.h (.idx (.t 87) (.t 88) 1)), i_L 8 90 89 1, i_P 9 91 12 0, i_L 10 92 91 1, i_X 11 93 (.callS 11 (.t 85) [(.t 90), (.t 92)]), i_P 12 94 5 3, i_L 13 95 94 1, i_P 14 96 11 0, i_L 15 97 96 1, i_P 16 98 12 1, i_L 17 99 98 1, i_M 18 100 2, i_X 19 101 (.h (.idx (.t 99) (.t 100) 1)), i_L 20 102 101 1, i_X 21 103 (.callS 21 (.t 95) [(.t 97), (.t 102)]), i_X 22 104 (.callA (.t 83) [(.t 93), (.t 103)]), i_M 23 10 104] [10]) .ret) .skip)))))))) (.seq (.reg [i_P 0 105 5 4, i_L 1 106 105 1, i_P 2 107 5 2, i_L 3 108 107 1, i_P 4 109 11 1, i_L 5 110 109 1, i_M 6 111 2, i_X 7 112 (.h (.idx (.t 110) (.t 111) 1)), i_L 8 113 112 1, i_P 9 114 5 3, i_L 10 115 114 1, i_M 11 116 3, i_P 12 117 12 1, i_L 13 118 117 1, i_M 14 119 2, i_X 15 120 (.h (.idx (.t 118) (.t 119) 1)), i_L 16 121 120 1, i_X 17 122 (.callS 17 (.t 115) [(.t 116), (.t 121)]), i_X 18 123 (.callS 18 (.t 108) [(.t 113), (.t 122)]), i_P 19 124 12 0, i_L 20 125 124 1, i_X 21 126 (.callA (.t 106) [(.t 123), (.t 125)]), i_M 22 10 126] [10]) .ret)))))
theorem A_jac_kind_float64_slope_comp : compF Tryz.prog 132 = some ⟨127, [(10, none)], A_jac_kind_float64_slope.strip⟩ := by kernel_rfl
def A_jac_kind_float64_run_L1 : CA := (.seq (.reg [i_X 0 31 (.h (.ibin .lss (.t 30) (.t 29)))] [2, 3, 4, 7, 9, 10, 16, 17, 18, 29, 30, 31]) (.seq (.cond (.t 31) .skip (.exit 2)) (.seq (.block 3 (.seq (.reg [i_M 0 32 30, i_M 1 11 32] [2, 3, 4, 7, 9, 10, 11, 16, 17, 18, 29, 30]) (.reg [i_P 0 33 10 1, i_L 1 34 33 1, i_A 2 35 3 5, i_A 3 36 9 4, i_M 4 37 11, i_P 5 38 10 0, i_L 6 39 38 1, i_M 7 40 7, i_X 8 41 (.callS 8 (.k (.d (.fn 132 [] []))) [(.t 35), (.t 36), (.t 37), (.t 39), (.t 40)]), i_X 9 42 (.bslice [(.d (.flt 0))] 1 1 [(0, (1, (.t 41)))] 31), i_X 10 43 (.app (.t 34) (.t 42) 1 8), i_P 11 44 10 1, i_S 12 44 43 1] [2, 3, 4, 7, 9, 10, 16, 17, 18, 29, 30]))) (.reg [i_X 0 45 (.h (.ibin .add (.t 30) (.k (.d (.int .i64 1))))), i_M 1 30 45] [2, 3, 4, 7, 9, 10, 16, 17, 18, 29, 30]))))
def A_jac_kind_float64_run_L0 : CA := (.seq (.reg [i_X 0 19 (.h (.ibin .lss (.t 18) (.t 17)))] [2, 3, 4, 7, 16, 17, 18, 19]) (.seq (.cond (.t 19) .skip (.exit 0)) (.seq (.block 1 (.seq (.reg [i_X 0 20 (.h (.idx (.t 16) (.t 18) 4)), i_A 1 21 20 4, i_X 2 9 (.alloc [(.d (.int .i64 0)), (.d (.int .i64 0)), (.d (.int .i64 0)), (.d (.flt 0))] 67), i_S 3 9 21 4] [2, 3, 4, 7, 9, 16, 17, 18]) (.seq (.reg [i_A 0 22 3 5, i_A 1 23 9 4, i_M 2 24 2, i_M 3 25 7, i_X 4 26 (.callA (.k (.d (.fn 131 [] []))) [(.t 22), (.t 23), (.t 24), (.t 25)]), i_X 5 27 (.h (.build [(.d (.flt 0)), .nil] [(0, (1, (.t 26)))])), i_X 6 10 (.alloc [(.d (.flt 0)), .nil] 158), i_S 7 10 27 2] [2, 3, 4, 7, 9, 10, 16, 17, 18]) (.seq (.seq (.reg [i_P 0 28 4 0, i_L 1 29 28 1, i_X 2 30 (.h (.mov (.k (.d (.int .i64 0)))))] [2, 3, 4, 7, 9, 10, 16, 17, 18, 29, 30]) (.block 2 (.loop A_jac_kind_float64_run_L1))) (.reg [i_M 0 46 7, i_A 1 47 10 2, i_X 2 48 (.bslice [(.d (.flt 0)), .nil] 1 2 [(0, (2, (.t 47)))] 158), i_X 3 49 (.app (.t 46) (.t 48) 2 32), i_M 4 7 49] [2, 3, 4, 7, 16, 17, 18]))))) (.reg [i_X 0 50 (.h (.ibin .add (.t 18) (.k (.d (.int .i64 1))))), i_M 1 18 50] [2, 3, 4, 7, 16, 17, 18]))))
def A_jac_kind_float64_run_L2 : CA := (.seq (.reg [i_X 0 58 (.h (.ibin .lss (.t 57) (.t 56)))] [7, 12, 55, 56, 57, 58]) (.seq (.cond (.t 58) .skip (.exit 4)) (.seq (.block 5 (.seq (.reg [i_M 0 59 57, i_X 1 60 (.h (.idx (.t 55) (.t 57) 1)), i_L 2 61 60 1, i_M 3 13 59, i_M 4 14 61] [7, 12, 13, 14, 55, 56, 57]) (.reg [i_M 0 62 12, i_M 1 63 13, i_M 2 64 7, i_M 3 65 14, i_X 4 66 (.h (.idx (.t 64) (.t 65) 2)), i_P 5 67 66 1, i_L 6 68 67 1, i_X 7 69 (.app (.k .nil) (.t 68) 1 8), i_X 8 70 (.h (.idx (.t 62) (.t 63) 1)), i_S 9 70 69 1] [7, 12, 55, 56, 57]))) (.reg [i_X 0 71 (.h (.ibin .add (.t 57) (.k (.d (.int .i64 1))))), i_M 1 57 71] [7, 12, 55, 56, 57]))))
def A_jac_kind_float64_run : CA := (.seq (.reg [i_X 0 3 (.box (.t 0) 5 146), i_X 1 4 (.box (.t 1) 3 28), i_X 2 6 (.h (.mov (.k .nil)))] [2, 3, 4]) (.seq (.reg [i_X 0 7 (.h (.mov (.k .nil)))] [2, 3, 4, 7]) (.seq (.seq (.reg [i_P 0 15 4 1, i_L 1 16 15 1, i_X 2 17 (.h (.len (.t 16))), i_X 3 18 (.h (.mov (.k (.d (.int .i64 0)))))] [2, 3, 4, 7, 16, 17, 18]) (.block 0 (.loop A_jac_kind_float64_run_L0))) (.seq (.reg [i_P 0 51 4 0, i_L 1 52 51 1, i_X 2 53 (.mksl [.nil] 1 24 (.t 52) (.t 52) 30), i_M 3 12 53] [4, 7, 12]) (.seq (.seq (.reg [i_P 0 54 4 2, i_L 1 55 54 1, i_X 2 56 (.h (.len (.t 55))), i_X 3 57 (.h (.mov (.k (.d (.int .i64 0)))))] [7, 12, 55, 56, 57]) (.block 4 (.loop A_jac_kind_float64_run_L2))) (.seq (.reg [i_M 0 72 12, i_M 1 6 72] [6]) .ret))))))
theorem A_jac_kind_float64_run_comp : compF Tryz.prog 118 = some ⟨73, [(6, none)], A_jac_kind_float64_run.strip⟩ := by kernel_rfl
def A_jac_Jac : CA := (.seq (.reg [i_X 0 2 (.box (.t 0) 3 28), i_X 1 4 (.h (.mov (.k .nil)))] [1, 2]) (.seq (.reg [i_X 0 5 (.callS 0 (.k (.d (.fn 117 [] []))) []), i_A 1 6 2 3, i_M 2 7 1, i_X 3 8 (.callA (.k (.d (.fn 118 [] []))) [(.t 5), (.t 6), (.t 7)]), i_M 4 4 8] [4]) .ret))
theorem A_jac_Jac_comp : compF Tryz.prog 98 = some ⟨9, [(4, none)], A_jac_Jac.strip⟩ := by kernel_rfl
theorem jfloats1_con (x : Nat) : Con Tryz.prog 126 [fl x] (fl x) := by
  refine Con_introA A_jac_floats_1_comp rfl mixed ?_
  simp -implicitDefEqProofs only [evI, hv, effC, reduceCtorEq, ↓reduceIte, n1_, n2_, n3_, n4_, n5_, i1_, i2_, i3_, i4_, i5_, i6_, i7_, A_jac_floats_1]
  exact endsT_rett rfl (by decide) (by simp [look])
theorem jfloats2_con (x y : Nat) : Con Tryz.prog 127 [fl x, fl y] (fl (fop .add x y)) := by
  refine Con_introA A_jac_floats_2_comp rfl mixed ?_
  simp -implicitDefEqProofs only [evI, hv, effC, reduceCtorEq, ↓reduceIte, n1_, n2_, n3_, n4_, n5_, i1_, i2_, i3_, i4_, i5_, i6_, i7_, A_jac_floats_2]
  exact endsT_rett rfl (by decide) (by simp [look])
theorem jfloats3_con (x y : Nat) : Con Tryz.prog 128 [fl x, fl y] (fl (fop .sub x y)) := by
  refine Con_introA A_jac_floats_3_comp rfl mixed ?_
  simp -implicitDefEqProofs only [evI, hv, effC, reduceCtorEq, ↓reduceIte, n1_, n2_, n3_, n4_, n5_, i1_, i2_, i3_, i4_, i5_, i6_, i7_, A_jac_floats_3]
  exact endsT_rett rfl (by decide) (by simp [look])
theorem jfloats4_con (x y : Nat) : Con Tryz.prog 129 [fl x, fl y] (fl (fop .mul x y)) := by
  refine Con_introA A_jac_floats_4_comp rfl mixed ?_
  simp -implicitDefEqProofs only [evI, hv, effC, reduceCtorEq, ↓reduceIte, n1_, n2_, n3_, n4_, n5_, i1_, i2_, i3_, i4_, i5_, i6_, i7_, A_jac_floats_4]
  exact endsT_rett rfl (by decide) (by simp [look])
theorem jfloats5_con (x y : Nat) : Con Tryz.prog 130 [fl x, fl y] (fl (fop .div x y)) := by
  refine Con_introA A_jac_floats_5_comp rfl mixed ?_
  simp -implicitDefEqProofs only [evI, hv, effC, reduceCtorEq, ↓reduceIte, n1_, n2_, n3_, n4_, n5_, i1_, i2_, i3_, i4_, i5_, i6_, i7_, A_jac_floats_5]
  exact endsT_rett rfl (by decide) (by simp [look])
abbrev jfV : V := .agg [.d (.fn 126 [] []), .d (.fn 127 [] []), .d (.fn 128 [] []), .d (.fn 129 [] []), .d (.fn 130 [] [])]
theorem jfloats_con : Con Tryz.prog 117 [] jfV := by
  refine Con_introA A_jac_floats_comp rfl mixed ?_
  simp -implicitDefEqProofs only [evI, hv, effC, reduceCtorEq, ↓reduceIte, n1_, n2_, n3_, n4_, n5_, i1_, i2_, i3_, i4_, i5_, i6_, i7_, A_jac_floats]
  exact endsT_retm rfl (by decide) rfl rfl rfl (by simp) (by simp [ldv])
def oneW : Nat := 4607182418800017408
/-- How an operation's number changes with the k-th variable. -/
def slo (o : OpN) (q : Nat) (r : List Nat) (dr : List (List Nat)) (k : Nat) : Nat :=
  if o.k = 1 ∧ o.a = k then oneW else if o.k = 0 ∨ o.k = 1 then 0 else
  if o.k = 2 then fop .add ((dr.getD o.a.toNat []).getD k 0) ((dr.getD o.b.toNat []).getD k 0) else if o.k = 3 then fop .sub ((dr.getD o.a.toNat []).getD k 0) ((dr.getD o.b.toNat []).getD k 0) else
  if o.k = 4 then fop .add (fop .mul ((dr.getD o.a.toNat []).getD k 0) (r.getD o.b.toNat 0)) (fop .mul (r.getD o.a.toNat 0) ((dr.getD o.b.toNat []).getD k 0)) else
  fop .div (fop .sub ((dr.getD o.a.toNat []).getD k 0) (fop .mul q ((dr.getD o.b.toNat []).getD k 0))) (r.getD o.b.toNat 0)
def drs (t : Tp) (x : List Nat) : Nat → List (List Nat)
  | 0 => []
  | i + 1 => drs t x i ++ [tabR (slo (t.ops.getD i ⟨0, 0, 0, 0⟩) (opV (t.ops.getD i ⟨0, 0, 0, 0⟩) x (regs t x i)) (regs t x i) (drs t x i)) t.n]
theorem drs_len (t : Tp) (x : List Nat) (i : Nat) : (drs t x i).length = i := by
  induction i with
  | zero => rfl
  | succ i ih => simp [drs, ih]
theorem drs_rows (t : Tp) (x : List Nat) (i : Nat) : ∀ j, j < i → ((drs t x i).getD j []).length = t.n := by
  induction i with
  | zero => intro j hj; omega
  | succ i ih =>
    intro j hj
    have hl := drs_len t x i
    unfold drs
    by_cases h : j < i
    · have := ih j h
      rw [List.getD_eq_getElem?_getD] at this ⊢
      rwa [List.getElem?_append_left (by omega)]
    · obtain rfl : j = i := by omega
      rw [List.getD_eq_getElem?_getD, List.getElem?_append_right (by omega), hl, Nat.sub_self]
      exact tabR_len _ _
def jacT (t : Tp) (x : List Nat) : List (List Nat) := (List.range t.n).map fun i => (drs t x t.ops.length).getD (t.out.getD i 0).toNat []
def regsG (r : List Nat) (dr : List (List Nat)) (i : Nat) : List D := [.flt (r.getD i 0), rowD (dr.getD i [])]
def regsD (r : List Nat) (dr : List (List Nat)) : D := .bor r.length (regsG r dr)
abbrev opA (o : OpN) : V := .agg [fI o.k, fI o.a, fI o.b, fl o.c]
/-- An operation that may be, behind i registers, of n variables. -/
def Oko (o : OpN) (i n : Nat) : Prop := o.k = 0 ∨ (o.k = 1 ∧ 0 ≤ o.a ∧ o.a < n) ∨ ((o.k = 2 ∨ o.k = 3 ∨ o.k = 4 ∨ o.k = 5) ∧ (0 ≤ o.a ∧ o.a < i) ∧ 0 ≤ o.b ∧ o.b < i)
section
variable (o : OpN) (x r : List Nat) (dr : List (List Nat)) (n : Nat) (ho : Oko o r.length n) (hx : x.length = n)
include ho hx
set_option maxRecDepth 8000 in
theorem jvalue_con : Con Tryz.prog 131 [jfV, opA o, .d (rowD x), .d (regsD r dr)] (fl (opV o x r)) := by
  refine Con_introA A_jac_kind_float64_value_comp rfl mixed ?_
  simp -implicitDefEqProofs only [evI, hv, effC, reduceCtorEq, ↓reduceIte, n1_, n2_, n3_, n4_, n5_, i1_, i2_, i3_, i4_, i5_, i6_, i7_, A_jac_kind_float64_value]
  rcases ho with hk | ⟨hk, ha⟩ | ⟨hk, ha, hb⟩
  · simp -implicitDefEqProofs only [evI, hv, effC, reduceCtorEq, ↓reduceIte, n1_, n2_, n3_, n4_, n5_, i1_, i2_, i3_, i4_, i5_, i6_, i7_, hk]
    first | refine callG_con (jfloats1_con o.c) rfl ?_ | refine callCG_con (jfloats1_con o.c) rfl ?_ | refine callSG_con (jfloats1_con o.c) rfl ?_
    simp -implicitDefEqProofs only [evI, hv, effC, reduceCtorEq, ↓reduceIte, n1_, n2_, n3_, n4_, n5_, i1_, i2_, i3_, i4_, i5_, i6_, i7_]
    have e : opV o x r = o.c := by simp [opV, hk]
    rw [e]
    exact endsT_rett rfl (by decide) (by simp [look])
  · simp -implicitDefEqProofs only [evI, hv, effC, reduceCtorEq, ↓reduceIte, n1_, n2_, n3_, n4_, n5_, i1_, i2_, i3_, i4_, i5_, i6_, i7_, hk, Int.reduceBEq]
    refine ⟨by omega, ?_⟩
    have e : opV o x r = x.getD o.a.toNat 0 := by simp [opV, hk]
    rw [e]
    exact endsT_rett rfl (by decide) (by simp [look])
  · rcases hk with hk | hk | hk | hk
    · simp -implicitDefEqProofs only [evI, hv, effC, reduceCtorEq, ↓reduceIte, n1_, n2_, n3_, n4_, n5_, i1_, i2_, i3_, i4_, i5_, i6_, i7_, hk, Int.reduceBEq, regsD, regsG]
      refine ⟨by omega, by omega, ?_⟩
      first | refine callG_con (jfloats2_con (r.getD o.a.toNat 0) (r.getD o.b.toNat 0)) rfl ?_ | refine callCG_con (jfloats2_con (r.getD o.a.toNat 0) (r.getD o.b.toNat 0)) rfl ?_ | refine callSG_con (jfloats2_con (r.getD o.a.toNat 0) (r.getD o.b.toNat 0)) rfl ?_
      simp -implicitDefEqProofs only [evI, hv, effC, reduceCtorEq, ↓reduceIte, n1_, n2_, n3_, n4_, n5_, i1_, i2_, i3_, i4_, i5_, i6_, i7_]
      have e : opV o x r = fop .add (r.getD o.a.toNat 0) (r.getD o.b.toNat 0) := by simp [opV, hk]
      rw [e]
      exact endsT_rett rfl (by decide) (by simp [look])
    · simp -implicitDefEqProofs only [evI, hv, effC, reduceCtorEq, ↓reduceIte, n1_, n2_, n3_, n4_, n5_, i1_, i2_, i3_, i4_, i5_, i6_, i7_, hk, Int.reduceBEq, regsD, regsG]
      refine ⟨by omega, by omega, ?_⟩
      first | refine callG_con (jfloats3_con (r.getD o.a.toNat 0) (r.getD o.b.toNat 0)) rfl ?_ | refine callCG_con (jfloats3_con (r.getD o.a.toNat 0) (r.getD o.b.toNat 0)) rfl ?_ | refine callSG_con (jfloats3_con (r.getD o.a.toNat 0) (r.getD o.b.toNat 0)) rfl ?_
      simp -implicitDefEqProofs only [evI, hv, effC, reduceCtorEq, ↓reduceIte, n1_, n2_, n3_, n4_, n5_, i1_, i2_, i3_, i4_, i5_, i6_, i7_]
      have e : opV o x r = fop .sub (r.getD o.a.toNat 0) (r.getD o.b.toNat 0) := by simp [opV, hk]
      rw [e]
      exact endsT_rett rfl (by decide) (by simp [look])
    · simp -implicitDefEqProofs only [evI, hv, effC, reduceCtorEq, ↓reduceIte, n1_, n2_, n3_, n4_, n5_, i1_, i2_, i3_, i4_, i5_, i6_, i7_, hk, Int.reduceBEq, regsD, regsG]
      refine ⟨by omega, by omega, ?_⟩
      first | refine callG_con (jfloats4_con (r.getD o.a.toNat 0) (r.getD o.b.toNat 0)) rfl ?_ | refine callCG_con (jfloats4_con (r.getD o.a.toNat 0) (r.getD o.b.toNat 0)) rfl ?_ | refine callSG_con (jfloats4_con (r.getD o.a.toNat 0) (r.getD o.b.toNat 0)) rfl ?_
      simp -implicitDefEqProofs only [evI, hv, effC, reduceCtorEq, ↓reduceIte, n1_, n2_, n3_, n4_, n5_, i1_, i2_, i3_, i4_, i5_, i6_, i7_]
      have e : opV o x r = fop .mul (r.getD o.a.toNat 0) (r.getD o.b.toNat 0) := by simp [opV, hk]
      rw [e]
      exact endsT_rett rfl (by decide) (by simp [look])
    · simp -implicitDefEqProofs only [evI, hv, effC, reduceCtorEq, ↓reduceIte, n1_, n2_, n3_, n4_, n5_, i1_, i2_, i3_, i4_, i5_, i6_, i7_, hk, Int.reduceBEq, regsD, regsG]
      refine ⟨by omega, by omega, ?_⟩
      first | refine callG_con (jfloats5_con (r.getD o.a.toNat 0) (r.getD o.b.toNat 0)) rfl ?_ | refine callCG_con (jfloats5_con (r.getD o.a.toNat 0) (r.getD o.b.toNat 0)) rfl ?_ | refine callSG_con (jfloats5_con (r.getD o.a.toNat 0) (r.getD o.b.toNat 0)) rfl ?_
      simp -implicitDefEqProofs only [evI, hv, effC, reduceCtorEq, ↓reduceIte, n1_, n2_, n3_, n4_, n5_, i1_, i2_, i3_, i4_, i5_, i6_, i7_]
      have e : opV o x r = fop .div (r.getD o.a.toNat 0) (r.getD o.b.toNat 0) := by simp [opV, hk]
      rw [e]
      exact endsT_rett rfl (by decide) (by simp [look])
end
end Go.Ab

namespace Go.Ab
set_option linter.unusedSimpArgs false
set_option linter.unusedVariables false
open Nat renaming reduceEqDiff → n1_, reduceAdd → n2_, reduceMul → n3_, reduceLT → n4_, reduceLeDiff → n5_
open Int renaming reduceToNat → i1_, reduceAdd → i2_, reduceSub → i3_, reduceMul → i4_, reduceNeg → i5_, reduceLT → i6_, reduceLE → i7_
open Go Go.Proofs
section
variable (o : OpN) (r : List Nat) (dr : List (List Nat)) (n i q : Nat)
set_option maxRecDepth 8000 in
theorem jslope_k0 (hk : o.k = 0) : Con Tryz.prog 132 [jfV, opA o, fI i, fl q, .d (regsD r dr)] (fl (slo o q r dr i)) := by
  refine Con_introA A_jac_kind_float64_slope_comp rfl mixed ?_
  simp -implicitDefEqProofs only [evI, hv, effC, reduceCtorEq, ↓reduceIte, n1_, n2_, n3_, n4_, n5_, i1_, i2_, i3_, i4_, i5_, i6_, i7_, A_jac_kind_float64_slope]
  simp -implicitDefEqProofs only [evI, hv, effC, reduceCtorEq, ↓reduceIte, n1_, n2_, n3_, n4_, n5_, i1_, i2_, i3_, i4_, i5_, i6_, i7_, hk, Int.reduceBEq]
  first | refine callG_con (jfloats1_con 0) rfl ?_ | refine callCG_con (jfloats1_con 0) rfl ?_ | refine callSG_con (jfloats1_con 0) rfl ?_
  simp -implicitDefEqProofs only [evI, hv, effC, reduceCtorEq, ↓reduceIte, n1_, n2_, n3_, n4_, n5_, i1_, i2_, i3_, i4_, i5_, i6_, i7_]
  have e : slo o q r dr i = 0 := by simp [slo, hk]
  rw [e]
  exact endsT_rett rfl (by decide) (by simp [look])
set_option maxRecDepth 8000 in
theorem jslope_k1 (hk : o.k = 1) : Con Tryz.prog 132 [jfV, opA o, fI i, fl q, .d (regsD r dr)] (fl (slo o q r dr i)) := by
  refine Con_introA A_jac_kind_float64_slope_comp rfl mixed ?_
  simp -implicitDefEqProofs only [evI, hv, effC, reduceCtorEq, ↓reduceIte, n1_, n2_, n3_, n4_, n5_, i1_, i2_, i3_, i4_, i5_, i6_, i7_, A_jac_kind_float64_slope]
  simp -implicitDefEqProofs only [evI, hv, effC, reduceCtorEq, ↓reduceIte, n1_, n2_, n3_, n4_, n5_, i1_, i2_, i3_, i4_, i5_, i6_, i7_, hk, Int.reduceBEq]
  by_cases hai : o.a = (i : Int)
  · have h' : (o.a == (i : Int)) = true := by simpa using hai
    simp -implicitDefEqProofs only [evI, hv, effC, reduceCtorEq, ↓reduceIte, n1_, n2_, n3_, n4_, n5_, i1_, i2_, i3_, i4_, i5_, i6_, i7_, h']
    first | refine callG_con (jfloats1_con 4607182418800017408) rfl ?_ | refine callCG_con (jfloats1_con 4607182418800017408) rfl ?_ | refine callSG_con (jfloats1_con 4607182418800017408) rfl ?_
    simp -implicitDefEqProofs only [evI, hv, effC, reduceCtorEq, ↓reduceIte, n1_, n2_, n3_, n4_, n5_, i1_, i2_, i3_, i4_, i5_, i6_, i7_]
    have e : slo o q r dr i = 4607182418800017408 := by simp [slo, hk, hai, oneW]
    rw [e]
    exact endsT_rett rfl (by decide) (by simp [look])
  · have h' : (o.a == (i : Int)) = false := by simpa using hai
    simp -implicitDefEqProofs only [evI, hv, effC, reduceCtorEq, ↓reduceIte, n1_, n2_, n3_, n4_, n5_, i1_, i2_, i3_, i4_, i5_, i6_, i7_, h', Int.reduceBEq]
    first | refine callG_con (jfloats1_con 0) rfl ?_ | refine callCG_con (jfloats1_con 0) rfl ?_ | refine callSG_con (jfloats1_con 0) rfl ?_
    simp -implicitDefEqProofs only [evI, hv, effC, reduceCtorEq, ↓reduceIte, n1_, n2_, n3_, n4_, n5_, i1_, i2_, i3_, i4_, i5_, i6_, i7_]
    have e : slo o q r dr i = 0 := by simp [slo, hk, hai]
    rw [e]
    exact endsT_rett rfl (by decide) (by simp [look])
variable (ha : 0 ≤ o.a ∧ o.a < r.length) (hb : 0 ≤ o.b ∧ o.b < r.length) (la : (dr.getD o.a.toNat []).length = n) (lb : (dr.getD o.b.toNat []).length = n) (hi : i < n)
include ha hb la lb hi
set_option maxRecDepth 8000 in
theorem jslope_k2 (hk : o.k = 2) : Con Tryz.prog 132 [jfV, opA o, fI i, fl q, .d (regsD r dr)] (fl (slo o q r dr i)) := by
  refine Con_introA A_jac_kind_float64_slope_comp rfl mixed ?_
  simp -implicitDefEqProofs only [evI, hv, effC, reduceCtorEq, ↓reduceIte, n1_, n2_, n3_, n4_, n5_, i1_, i2_, i3_, i4_, i5_, i6_, i7_, A_jac_kind_float64_slope]
  simp -implicitDefEqProofs only [evI, hv, effC, reduceCtorEq, ↓reduceIte, n1_, n2_, n3_, n4_, n5_, i1_, i2_, i3_, i4_, i5_, i6_, i7_, hk, Int.reduceBEq, regsD, regsG]
  refine ⟨ha, hb, by omega, by omega, ?_⟩
  first | refine callG_con (jfloats2_con ((dr.getD o.a.toNat []).getD i 0) ((dr.getD o.b.toNat []).getD i 0)) rfl ?_ | refine callCG_con (jfloats2_con ((dr.getD o.a.toNat []).getD i 0) ((dr.getD o.b.toNat []).getD i 0)) rfl ?_ | refine callSG_con (jfloats2_con ((dr.getD o.a.toNat []).getD i 0) ((dr.getD o.b.toNat []).getD i 0)) rfl ?_
  simp -implicitDefEqProofs only [evI, hv, effC, reduceCtorEq, ↓reduceIte, n1_, n2_, n3_, n4_, n5_, i1_, i2_, i3_, i4_, i5_, i6_, i7_]
  have e : slo o q r dr i = fop .add ((dr.getD o.a.toNat []).getD i 0) ((dr.getD o.b.toNat []).getD i 0) := by simp [slo, hk]
  rw [e]
  exact endsT_rett rfl (by decide) (by simp [look])
set_option maxRecDepth 8000 in
theorem jslope_k3 (hk : o.k = 3) : Con Tryz.prog 132 [jfV, opA o, fI i, fl q, .d (regsD r dr)] (fl (slo o q r dr i)) := by
  refine Con_introA A_jac_kind_float64_slope_comp rfl mixed ?_
  simp -implicitDefEqProofs only [evI, hv, effC, reduceCtorEq, ↓reduceIte, n1_, n2_, n3_, n4_, n5_, i1_, i2_, i3_, i4_, i5_, i6_, i7_, A_jac_kind_float64_slope]
  simp -implicitDefEqProofs only [evI, hv, effC, reduceCtorEq, ↓reduceIte, n1_, n2_, n3_, n4_, n5_, i1_, i2_, i3_, i4_, i5_, i6_, i7_, hk, Int.reduceBEq, regsD, regsG]
  refine ⟨ha, hb, by omega, by omega, ?_⟩
  first | refine callG_con (jfloats3_con ((dr.getD o.a.toNat []).getD i 0) ((dr.getD o.b.toNat []).getD i 0)) rfl ?_ | refine callCG_con (jfloats3_con ((dr.getD o.a.toNat []).getD i 0) ((dr.getD o.b.toNat []).getD i 0)) rfl ?_ | refine callSG_con (jfloats3_con ((dr.getD o.a.toNat []).getD i 0) ((dr.getD o.b.toNat []).getD i 0)) rfl ?_
  simp -implicitDefEqProofs only [evI, hv, effC, reduceCtorEq, ↓reduceIte, n1_, n2_, n3_, n4_, n5_, i1_, i2_, i3_, i4_, i5_, i6_, i7_]
  have e : slo o q r dr i = fop .sub ((dr.getD o.a.toNat []).getD i 0) ((dr.getD o.b.toNat []).getD i 0) := by simp [slo, hk]
  rw [e]
  exact endsT_rett rfl (by decide) (by simp [look])
set_option maxRecDepth 8000 in
theorem jslope_k4 (hk : o.k = 4) : Con Tryz.prog 132 [jfV, opA o, fI i, fl q, .d (regsD r dr)] (fl (slo o q r dr i)) := by
  refine Con_introA A_jac_kind_float64_slope_comp rfl mixed ?_
  simp -implicitDefEqProofs only [evI, hv, effC, reduceCtorEq, ↓reduceIte, n1_, n2_, n3_, n4_, n5_, i1_, i2_, i3_, i4_, i5_, i6_, i7_, A_jac_kind_float64_slope]
  simp -implicitDefEqProofs only [evI, hv, effC, reduceCtorEq, ↓reduceIte, n1_, n2_, n3_, n4_, n5_, i1_, i2_, i3_, i4_, i5_, i6_, i7_, hk, Int.reduceBEq, regsD, regsG]
  refine ⟨ha, hb, by omega, ?_⟩
  first | refine callG_con (jfloats4_con ((dr.getD o.a.toNat []).getD i 0) (r.getD o.b.toNat 0)) rfl ?_ | refine callCG_con (jfloats4_con ((dr.getD o.a.toNat []).getD i 0) (r.getD o.b.toNat 0)) rfl ?_ | refine callSG_con (jfloats4_con ((dr.getD o.a.toNat []).getD i 0) (r.getD o.b.toNat 0)) rfl ?_
  simp -implicitDefEqProofs only [evI, hv, effC, reduceCtorEq, ↓reduceIte, n1_, n2_, n3_, n4_, n5_, i1_, i2_, i3_, i4_, i5_, i6_, i7_]
  (repeat (with_reducible refine And.intro (by omega) ?_))
  first | refine callG_con (jfloats4_con (r.getD o.a.toNat 0) ((dr.getD o.b.toNat []).getD i 0)) rfl ?_ | refine callCG_con (jfloats4_con (r.getD o.a.toNat 0) ((dr.getD o.b.toNat []).getD i 0)) rfl ?_ | refine callSG_con (jfloats4_con (r.getD o.a.toNat 0) ((dr.getD o.b.toNat []).getD i 0)) rfl ?_
  simp -implicitDefEqProofs only [evI, hv, effC, reduceCtorEq, ↓reduceIte, n1_, n2_, n3_, n4_, n5_, i1_, i2_, i3_, i4_, i5_, i6_, i7_]
  first | refine callG_con (jfloats2_con (fop .mul ((dr.getD o.a.toNat []).getD i 0) (r.getD o.b.toNat 0)) (fop .mul (r.getD o.a.toNat 0) ((dr.getD o.b.toNat []).getD i 0))) rfl ?_ | refine callCG_con (jfloats2_con (fop .mul ((dr.getD o.a.toNat []).getD i 0) (r.getD o.b.toNat 0)) (fop .mul (r.getD o.a.toNat 0) ((dr.getD o.b.toNat []).getD i 0))) rfl ?_ | refine callSG_con (jfloats2_con (fop .mul ((dr.getD o.a.toNat []).getD i 0) (r.getD o.b.toNat 0)) (fop .mul (r.getD o.a.toNat 0) ((dr.getD o.b.toNat []).getD i 0))) rfl ?_
  simp -implicitDefEqProofs only [evI, hv, effC, reduceCtorEq, ↓reduceIte, n1_, n2_, n3_, n4_, n5_, i1_, i2_, i3_, i4_, i5_, i6_, i7_]
  have e : slo o q r dr i = fop .add (fop .mul ((dr.getD o.a.toNat []).getD i 0) (r.getD o.b.toNat 0)) (fop .mul (r.getD o.a.toNat 0) ((dr.getD o.b.toNat []).getD i 0)) := by simp [slo, hk]
  rw [e]
  exact endsT_rett rfl (by decide) (by simp [look])
set_option maxRecDepth 8000 in
theorem jslope_k5 (hk : o.k = 5) : Con Tryz.prog 132 [jfV, opA o, fI i, fl q, .d (regsD r dr)] (fl (slo o q r dr i)) := by
  refine Con_introA A_jac_kind_float64_slope_comp rfl mixed ?_
  simp -implicitDefEqProofs only [evI, hv, effC, reduceCtorEq, ↓reduceIte, n1_, n2_, n3_, n4_, n5_, i1_, i2_, i3_, i4_, i5_, i6_, i7_, A_jac_kind_float64_slope]
  simp -implicitDefEqProofs only [evI, hv, effC, reduceCtorEq, ↓reduceIte, n1_, n2_, n3_, n4_, n5_, i1_, i2_, i3_, i4_, i5_, i6_, i7_, hk, Int.reduceBEq, regsD, regsG]
  refine ⟨ha, hb, by omega, by omega, ?_⟩
  first | refine callG_con (jfloats4_con q ((dr.getD o.b.toNat []).getD i 0)) rfl ?_ | refine callCG_con (jfloats4_con q ((dr.getD o.b.toNat []).getD i 0)) rfl ?_ | refine callSG_con (jfloats4_con q ((dr.getD o.b.toNat []).getD i 0)) rfl ?_
  simp -implicitDefEqProofs only [evI, hv, effC, reduceCtorEq, ↓reduceIte, n1_, n2_, n3_, n4_, n5_, i1_, i2_, i3_, i4_, i5_, i6_, i7_]
  first | refine callG_con (jfloats3_con ((dr.getD o.a.toNat []).getD i 0) (fop .mul q ((dr.getD o.b.toNat []).getD i 0))) rfl ?_ | refine callCG_con (jfloats3_con ((dr.getD o.a.toNat []).getD i 0) (fop .mul q ((dr.getD o.b.toNat []).getD i 0))) rfl ?_ | refine callSG_con (jfloats3_con ((dr.getD o.a.toNat []).getD i 0) (fop .mul q ((dr.getD o.b.toNat []).getD i 0))) rfl ?_
  simp -implicitDefEqProofs only [evI, hv, effC, reduceCtorEq, ↓reduceIte, n1_, n2_, n3_, n4_, n5_, i1_, i2_, i3_, i4_, i5_, i6_, i7_]
  first | refine callG_con (jfloats5_con (fop .sub ((dr.getD o.a.toNat []).getD i 0) (fop .mul q ((dr.getD o.b.toNat []).getD i 0))) (r.getD o.b.toNat 0)) rfl ?_ | refine callCG_con (jfloats5_con (fop .sub ((dr.getD o.a.toNat []).getD i 0) (fop .mul q ((dr.getD o.b.toNat []).getD i 0))) (r.getD o.b.toNat 0)) rfl ?_ | refine callSG_con (jfloats5_con (fop .sub ((dr.getD o.a.toNat []).getD i 0) (fop .mul q ((dr.getD o.b.toNat []).getD i 0))) (r.getD o.b.toNat 0)) rfl ?_
  simp -implicitDefEqProofs only [evI, hv, effC, reduceCtorEq, ↓reduceIte, n1_, n2_, n3_, n4_, n5_, i1_, i2_, i3_, i4_, i5_, i6_, i7_]
  have e : slo o q r dr i = fop .div (fop .sub ((dr.getD o.a.toNat []).getD i 0) (fop .mul q ((dr.getD o.b.toNat []).getD i 0))) (r.getD o.b.toNat 0) := by simp [slo, hk]
  rw [e]
  exact endsT_rett rfl (by decide) (by simp [look])
end
theorem jslope_con (o : OpN) (r : List Nat) (dr : List (List Nat)) (n i q : Nat) (ho : Oko o r.length n) (hdr : ∀ j, j < r.length → (dr.getD j []).length = n) (hi : i < n) : Con Tryz.prog 132 [jfV, opA o, fI i, fl q, .d (regsD r dr)] (fl (slo o q r dr i)) := by
  rcases ho with hk | ⟨hk, ha⟩ | ⟨hk, ha, hb⟩
  · exact jslope_k0 o r dr i q hk
  · exact jslope_k1 o r dr i q hk
  · have la := hdr o.a.toNat (by omega)
    have lb := hdr o.b.toNat (by omega)
    rcases hk with hk | hk | hk | hk
    · exact jslope_k2 o r dr n i q ha hb la lb hi hk
    · exact jslope_k3 o r dr n i q ha hb la lb hi hk
    · exact jslope_k4 o r dr n i q ha hb la lb hi hk
    · exact jslope_k5 o r dr n i q ha hb la lb hi hk
theorem regsG_len (r : List Nat) (dr : List (List Nat)) (i : Nat) : (regsG r dr i).length = 2 := rfl
theorem regs_step (t : Tp) (x : List Nat) (i : Nat) : dcells (i + 1) (regsG (regs t x (i + 1)) (drs t x (i + 1))) = dcells i (regsG (regs t x i) (drs t x i)) ++ [fl ((regs t x (i + 1)).getD i 0), .d (rowD ((drs t x (i + 1)).getD i []))] := by
  rw [dcells_succ]
  have h1 := regs_len t x i
  have h2 := drs_len t x i
  have e : dcells i (regsG (regs t x (i + 1)) (drs t x (i + 1))) = dcells i (regsG (regs t x i) (drs t x i)) := by
    unfold dcells
    rw [dcB_congr fun j hj => ?_]
    have a : (regs t x (i + 1)).getD j 0 = (regs t x i).getD j 0 := by
      rw [regs, List.getD_eq_getElem?_getD, List.getElem?_append_left (by omega), ← List.getD_eq_getElem?_getD]
    have b : (drs t x (i + 1)).getD j [] = (drs t x i).getD j [] := by
      rw [drs, List.getD_eq_getElem?_getD, List.getElem?_append_left (by omega), ← List.getD_eq_getElem?_getD]
    simp only [regsG, a, b]
  rw [e]; rfl
theorem regs_last (t : Tp) (x : List Nat) (i : Nat) : (regs t x (i + 1)).getD i 0 = opV (t.ops.getD i ⟨0, 0, 0, 0⟩) x (regs t x i) := by
  have h1 := regs_len t x i
  rw [regs, List.getD_eq_getElem?_getD, List.getElem?_append_right (by omega), h1, Nat.sub_self]; rfl
theorem drs_last (t : Tp) (x : List Nat) (i : Nat) : (drs t x (i + 1)).getD i [] = tabR (slo (t.ops.getD i ⟨0, 0, 0, 0⟩) (opV (t.ops.getD i ⟨0, 0, 0, 0⟩) x (regs t x i)) (regs t x i) (drs t x i)) t.n := by
  have h1 := drs_len t x i
  rw [drs, List.getD_eq_getElem?_getD, List.getElem?_append_right (by omega), h1, Nat.sub_self]; rfl
abbrev jtT (t : Tp) : List V := [fI t.n, .d (opsD t.ops), .d (rowI t.out)]
abbrev jfC : List V := [.d (.fn 126 [] []), .d (.fn 127 [] []), .d (.fn 128 [] []), .d (.fn 129 [] []), .d (.fn 130 [] [])]
abbrev jR (t : Tp) (x : List Nat) (i : Nat) : T := ⟨[(2, .d (rowD x)), (3, .ptr 0 0 0 5), (4, .ptr 1 0 0 3), (7, .sl 10 0 0 i 2 (i * 2)), (16, .d (opsD t.ops)), (17, fI t.ops.length), (18, fI i)],
  [(10, [dcells i (regsG (regs t x i) (drs t x i))]), (1, [jtT t]), (0, [jfC])]⟩
abbrev opC (o : OpN) : List V := [fI o.k, fI o.a, fI o.b, fl o.c]
abbrev jS1 (t : Tp) (x : List Nat) (i k : Nat) : Sl := [(2, .d (rowD x)), (3, .ptr 0 0 0 5), (4, .ptr 1 0 0 3), (7, .sl 10 0 0 i 2 (i * 2)), (9, .ptr 13 0 0 4), (10, .ptr 20 0 0 2), (16, .d (opsD t.ops)), (17, fI t.ops.length), (18, fI i), (29, fI t.n), (30, fI k)]
abbrev jH1 (t : Tp) (x : List Nat) (i : Nat) (o : OpN) : Heap := [(13, [opC o]), (10, [dcells i (regsG (regs t x i) (drs t x i))]), (1, [jtT t]), (0, [jfC])]
abbrev jT0 (t : Tp) (x : List Nat) (i : Nat) (o : OpN) (v : Nat) : T := ⟨jS1 t x i 0, (20, [[fl v, .nil]]) :: jH1 t x i o⟩
abbrev jT1 (t : Tp) (x : List Nat) (i : Nat) (o : OpN) (v : Nat) (f : Nat → Nat) (k : Nat) : T := ⟨jS1 t x i k, (15, [rowV (tabR f k)]) :: (20, [[fl v, .sl 15 0 0 k 1 k]]) :: jH1 t x i o⟩
set_option maxRecDepth 8000 in
theorem jrun_L1 (t : Tp) (x : List Nat) (i : Nat) (o : OpN) (v : Nat) (f : Nat → Nat) (hn : t.n < 2 ^ 20) (hn0 : 0 < t.n) (hi : i < 2 ^ 40) (hop : Oko o i t.n) (hf : f = slo o v (regs t x i) (drs t x i)) (Q : Ex → T → Prop)
    (hQ : Q (.exit 2) ⟨[(2, .d (rowD x)), (3, .ptr 0 0 0 5), (4, .ptr 1 0 0 3), (7, .sl 10 0 0 i 2 (i * 2)), (9, .ptr 13 0 0 4), (10, .ptr 20 0 0 2), (16, .d (opsD t.ops)), (17, fI t.ops.length), (18, fI i), (29, fI t.n), (30, fI t.n), (31, fB false)],
      (15, [rowV (tabR f t.n)]) :: (20, [[fl v, .sl 15 0 0 t.n 1 t.n]]) :: jH1 t x i o⟩) :
    WA Tryz.prog (fun _ => False) 73 A_jac_kind_float64_run_L1.loop Q (jT0 t x i o v) := by
  have hl := regs_len t x i
  have hdl := drs_len t x i
  have hrow := drs_rows t x i
  have hcl := dcells_len i (fun j _ => regsG_len (regs t x i) (drs t x i) j)
  have hcon : ∀ k, k < t.n → Con Tryz.prog 132 [jfV, opA o, fI k, fl v, .d (regsD (regs t x i) (drs t x i))] (fl (f k)) := fun k hk => by
    rw [hf]; exact jslope_con o _ _ t.n k v (by rw [hl]; exact hop) (fun j hj => hrow j (by omega)) hk
  clear hf hrow
  refine WA_forW (n := t.n) (fun c s => ∃ k, c + k = t.n ∧ ((k = 0 ∧ s = jT0 t x i o v) ∨ (0 < k ∧ s = jT1 t x i o v f k))) (Le.refl _) ⟨0, by omega, .inl ⟨rfl, rfl⟩⟩ ?_
  rintro c s ⟨k, hc, ⟨rfl, rfl⟩ | ⟨hk, rfl⟩⟩
  · simp -implicitDefEqProofs only [evI, hv, effC, reduceCtorEq, ↓reduceIte, n1_, n2_, n3_, n4_, n5_, i1_, i2_, i3_, i4_, i5_, i6_, i7_, A_jac_kind_float64_run_L1]
    have h0 : decide ((0 : Int) < (t.n : Int)) = true := by simpa using hn0
    simp -implicitDefEqProofs only [evI, hv, effC, reduceCtorEq, ↓reduceIte, n1_, n2_, n3_, n4_, n5_, i1_, i2_, i3_, i4_, i5_, i6_, i7_, h0]
    refine callS_snaps [jfV, opA o, fI (0 : Nat), fl v, .d (regsD (regs t x i) (drs t x i))] (hcon 0 hn0) ⟨.aggs ⟨.bare _, .bare _, .bare _, .bare _, .bare _, trivial⟩, .aggs ⟨.bare _, .bare _, .bare _, .bare _, trivial⟩, .bare _, .bare _, ?_, trivial⟩ (.flt _) ?_
    · have e : regsD (regs t x i) (drs t x i) = .bor i (regsG (regs t x i) (drs t x i)) := by unfold regsD; rw [hl]
      rw [e]
      exact snp_data (by simp [get_old, get_cons, get_nil]) (fun j _ => rfl) rfl
    simp -implicitDefEqProofs only [evI, hv, effC, reduceCtorEq, ↓reduceIte, n1_, n2_, n3_, n4_, n5_, i1_, i2_, i3_, i4_, i5_, i6_, i7_]
    refine ⟨c - 1, jT1 t x i o v f 1, by omega, ?_, 1, by omega, .inr ⟨by decide, rfl⟩⟩
    refine Le.trans (LeT.only (L' := (31, [[fl (f 0)]]) :: (20, [[fl v, .sl 31 0 0 1 1 1]]) :: jH1 t x i o) (fun X => X != 30) (fun _ h => h) rfl (by simp [KpS_cons, KpS_nil, KpH_cons, KpH_nil, KpF_cons, KpF_nil, KpF_rows, KpA_cons, KpA_nil, KpA_app, KpA_rowV, KpA_rowIV, KpA_dcells, KpA_outC, Kp_any, Kp_nilv, Kp_d, Kp_ptr, Kp_sl, Kp_agg, Kp_tup, Kp_fn, get_cons, get_nil]) (by simp [KpS_cons, KpS_nil, KpH_cons, KpH_nil, KpF_cons, KpF_nil, KpF_rows, KpA_cons, KpA_nil, KpA_app, KpA_rowV, KpA_rowIV, KpA_dcells, KpA_outC, Kp_any, Kp_nilv, Kp_d, Kp_ptr, Kp_sl, Kp_agg, Kp_tup, Kp_fn, get_cons, get_nil])) ?_
    refine Le.trans (LeT.move 15 (by decide) (by simp [fam_cons, fam_nil]) (by simp [fam_cons, fam_nil]) (fun h => h)) ?_
    have e1 : renS (absF 31 15 0) (jS1 t x i 1) = jS1 t x i 1 := by simp [renS, V.ren, absF]
    have e2 : Heap.renH (absF 31 15 0) ((20, [[fl v, .sl 31 0 0 1 1 1]]) :: jH1 t x i o) = (20, [[fl v, .sl 15 0 0 1 1 1]]) :: jH1 t x i o := by
      simp [Heap.renH, V.ren, absF, ren_dcells]
    have e3 : [fl (f 0)].map (V.ren (absF 31 15 0)) = rowV (tabR f 1) := by simp [V.ren, tabR, rowV]
    rw [e2, e3]
    exact (congrArg (fun z => Le (fun _ => False) (T.s 73 ⟨z, (jT1 t x i o v f 1).L⟩) (T.s 73 (jT1 t x i o v f 1))) e1).mpr (Le.refl _)
  · have hrl := tabR_len f k
    simp -implicitDefEqProofs only [evI, hv, effC, reduceCtorEq, ↓reduceIte, n1_, n2_, n3_, n4_, n5_, i1_, i2_, i3_, i4_, i5_, i6_, i7_, A_jac_kind_float64_run_L1]
    refine condC_intro (fun h => ?_) (fun h => ?_)
    · replace h := of_decide_eq_true h
      simp -implicitDefEqProofs only [evI, hv, effC, reduceCtorEq, ↓reduceIte, n1_, n2_, n3_, n4_, n5_, i1_, i2_, i3_, i4_, i5_, i6_, i7_]
      refine callS_snaps [jfV, opA o, fI k, fl v, .d (regsD (regs t x i) (drs t x i))] (hcon k h) ⟨.aggs ⟨.bare _, .bare _, .bare _, .bare _, .bare _, trivial⟩, .aggs ⟨.bare _, .bare _, .bare _, .bare _, trivial⟩, .bare _, .bare _, ?_, trivial⟩ (.flt _) ?_
      · have e : regsD (regs t x i) (drs t x i) = .bor i (regsG (regs t x i) (drs t x i)) := by unfold regsD; rw [hl]
        rw [e]
        exact snp_data (by simp [get_old, get_cons, get_nil]) (fun j _ => rfl) rfl
      simp -implicitDefEqProofs only [evI, hv, effC, reduceCtorEq, ↓reduceIte, n1_, n2_, n3_, n4_, n5_, i1_, i2_, i3_, i4_, i5_, i6_, i7_]
      (repeat (with_reducible refine And.intro (by omega) ?_))
      have e1 : rowV (tabR f k) ++ [fl (f k)] = rowV (tabR f (k + 1)) := (tabR_succ f k).symm
      rw [wrapI (by omega) (by omega), e1]
      exact ⟨c - 1, _, by omega, LeT.only (fun X => decide (X ≤ 20)) (fun _ h => h) rfl (by simp [KpS_cons, KpS_nil, KpH_cons, KpH_nil, KpF_cons, KpF_nil, KpF_rows, KpA_cons, KpA_nil, KpA_app, KpA_rowV, KpA_rowIV, KpA_dcells, KpA_outC, Kp_any, Kp_nilv, Kp_d, Kp_ptr, Kp_sl, Kp_agg, Kp_tup, Kp_fn, get_cons, get_nil]) (by simp [KpS_cons, KpS_nil, KpH_cons, KpH_nil, KpF_cons, KpF_nil, KpF_rows, KpA_cons, KpA_nil, KpA_app, KpA_rowV, KpA_rowIV, KpA_dcells, KpA_outC, Kp_any, Kp_nilv, Kp_d, Kp_ptr, Kp_sl, Kp_agg, Kp_tup, Kp_fn, get_cons, get_nil]), k + 1, by omega, .inr ⟨by omega, rfl⟩⟩
    · replace h := of_decide_eq_false h
      have e : k = t.n := by omega
      subst e
      simp -implicitDefEqProofs only [evI, hv, effC, reduceCtorEq, ↓reduceIte, n1_, n2_, n3_, n4_, n5_, i1_, i2_, i3_, i4_, i5_, i6_, i7_, Nat.lt_irrefl]
      exact hQ
def jacG (t : Tp) (x : List Nat) (i : Nat) : D := rowD ((jacT t x).getD i [])
set_option maxRecDepth 8000 in
theorem jrun_ac (t : Tp) (x : List Nat) (ht : Tok t) (hx : x.length = t.n) (hn0 : 0 < t.n) : AC Tryz.prog 118 [jfV, tapeV t, .d (rowD x)] [] [(13, [dcells t.n (rowsG (jacT t x))])] (.sl 13 0 0 t.n 1 t.n) := by
  have hn := ht.n
  have hlen := ht.len
  refine AC_introA A_jac_kind_float64_run_comp rfl mixed (fun _ => False) (by simp [get_nil]) ?_
  simp -implicitDefEqProofs only [evI, hv, effC, reduceCtorEq, ↓reduceIte, n1_, n2_, n3_, n4_, n5_, i1_, i2_, i3_, i4_, i5_, i6_, i7_, A_jac_kind_float64_run, opsD]
  refine WA_forW (n := t.ops.length) (fun c s => ∃ i, c + i = t.ops.length ∧ s = jR t x i)
    (LeT.nilrow (X := 10) (esz := 2) (as' := (jR t x 0).sl) (by simp [fam_cons, fam_nil]) (fun h => h) fun i => ?_) ⟨0, by omega, rfl⟩ ?_
  · simp only [look]
    repeat' split
    all_goals simp [rowD, opsD]
  rintro c s ⟨i, hc, rfl⟩
  have hl := regs_len t x i
  have hdl := drs_len t x i
  have hcl := dcells_len i (fun j _ => regsG_len (regs t x i) (drs t x i) j)
  simp -implicitDefEqProofs only [evI, hv, effC, reduceCtorEq, ↓reduceIte, n1_, n2_, n3_, n4_, n5_, i1_, i2_, i3_, i4_, i5_, i6_, i7_, A_jac_kind_float64_run_L0, opsD]
  refine condC_intro (fun h => ?_) (fun h => ?_)
  · replace h := of_decide_eq_true h
    have hop := ht.op i h
    have hra := regs_last t x i
    have hda := drs_last t x i
    generalize ho : t.ops.getD i ⟨0, 0, 0, 0⟩ = o at hop hra hda
    simp -implicitDefEqProofs only [evI, hv, effC, reduceCtorEq, ↓reduceIte, n1_, n2_, n3_, n4_, n5_, i1_, i2_, i3_, i4_, i5_, i6_, i7_, opG, ho]
    (repeat (with_reducible refine And.intro (by omega) ?_))
    refine callG_snaps [jfV, opA o, .d (rowD x), .d (regsD (regs t x i) (drs t x i))] (jvalue_con o x (regs t x i) (drs t x i) t.n (by rw [hl]; exact hop) hx) ⟨.aggs ⟨.bare _, .bare _, .bare _, .bare _, .bare _, trivial⟩, .aggs ⟨.bare _, .bare _, .bare _, .bare _, trivial⟩, .bare _, ?_, trivial⟩ (.flt _) ?_
    · have e : regsD (regs t x i) (drs t x i) = .bor i (regsG (regs t x i) (drs t x i)) := by unfold regsD; rw [hl]
      rw [e]
      exact snp_data (by simp [get_cons, get_nil]) (fun j _ => rfl) rfl
    simp -implicitDefEqProofs only [evI, hv, effC, reduceCtorEq, ↓reduceIte, n1_, n2_, n3_, n4_, n5_, i1_, i2_, i3_, i4_, i5_, i6_, i7_]
    have hr1 := regs_step t x i
    rw [hra, hda] at hr1
    generalize hv1 : opV o x (regs t x i) = v at hr1
    refine jrun_L1 t x i o v _ ht.n hn0 (by omega) hop rfl _ ?_
    generalize slo o v (regs t x i) (drs t x i) = f at hr1
    have hfl := tabR_len f t.n
    simp -implicitDefEqProofs only [evI, hv, effC, reduceCtorEq, ↓reduceIte, n1_, n2_, n3_, n4_, n5_, i1_, i2_, i3_, i4_, i5_, i6_, i7_]
    (repeat (with_reducible refine And.intro (by omega) ?_))
    have e2 : i * 2 + 2 = (i + 1) * 2 := by omega
    rw [wrapI (by omega) (by omega), e2]
    have hz : ∀ L L' : Heap, L.get 15 0 = some (rowV (tabR f t.n)) → L'.get 15 0 = none → Fz L L' (.sl 15 0 0 t.n 1 t.n) (.d (rowD (tabR f t.n))) := fun L L' a b => Fz_row a hfl rfl b
    refine ⟨c - 1, jR t x (i + 1), by omega, ?_, i + 1, by omega, rfl⟩
    unfold jR
    rw [hr1]
    exact LeT.weak (fun _ h => h) (by simp (maxDischargeDepth := 6) [Fz_rowD, Fz_rowI, Fz_rowsD, FzS_cons, FzS_nil, FzH_cons, FzH_nil, FzF_cons, FzF_nil, FzF_rows, FzA_cons, FzA_nil, FzA_app, FzA_rowV, FzA_dcells, FzA_outC, FzA_data, Fz_d, Fz_nil, Fz_any, Fz_ptr, Fz_sl, Fz_agg, get_cons, get_nil, fam_cons, fam_nil]) (by simp (maxDischargeDepth := 6) [Fz_rowD, Fz_rowI, Fz_rowsD, FzS_cons, FzS_nil, FzH_cons, FzH_nil, FzF_cons, FzF_nil, FzF_rows, FzA_cons, FzA_nil, FzA_app, FzA_rowV, FzA_dcells, FzA_outC, FzA_data, Fz_d, Fz_nil, Fz_any, Fz_ptr, Fz_sl, Fz_agg, get_cons, get_nil, fam_cons, fam_nil, hz])
  · replace h := of_decide_eq_false h
    have e : i = t.ops.length := by omega
    subst e
    simp -implicitDefEqProofs only [evI, hv, effC, reduceCtorEq, ↓reduceIte, n1_, n2_, n3_, n4_, n5_, i1_, i2_, i3_, i4_, i5_, i6_, i7_]
    (repeat (with_reducible refine And.intro (by omega) ?_))
    rw [outC_zero t.n (jacG t x)]
    have hgl := ht.outl
    refine WA_forW (n := t.n) (fun c s => ∃ i, c + i = t.n ∧ s = ⟨[(7, .sl 10 0 0 t.ops.length 2 (t.ops.length * 2)), (12, .sl 13 0 0 t.n 1 t.n), (55, .d (rowI t.out)), (56, fI t.n), (57, fI i)],
      [(13, [outC t.n (jacG t x) i]), (10, [dcells t.ops.length (regsG (regs t x t.ops.length) (drs t x t.ops.length))]), (1, [jtT t]), (0, [jfC])]⟩) (by rw [← hgl]; exact Le.refl _) ⟨0, by omega, rfl⟩ ?_
    rintro c s ⟨i, hc, rfl⟩
    have hol := outC_len t.n (jacG t x) i
    simp -implicitDefEqProofs only [evI, hv, effC, reduceCtorEq, ↓reduceIte, n1_, n2_, n3_, n4_, n5_, i1_, i2_, i3_, i4_, i5_, i6_, i7_, A_jac_kind_float64_run_L2]
    refine condC_intro (fun h => ?_) (fun h => ?_)
    · replace h := of_decide_eq_true h
      have hgo := ht.out i h
      have hjr : (jacT t x).getD i [] = (drs t x t.ops.length).getD (t.out.getD i 0).toNat [] := by
        unfold jacT
        rw [List.getD_eq_getElem?_getD, List.getElem?_map, List.getElem?_range h]; rfl
      have hjl : ((jacT t x).getD i []).length = t.n := by rw [hjr]; exact drs_rows t x _ _ (by omega)
      have hcg := dcells_get t.ops.length (fun j _ => regsG_len (regs t x t.ops.length) (drs t x t.ops.length) j) (t.out.getD i 0).toNat 1 (by omega) (by decide)
      have hg2 : (regsG (regs t x t.ops.length) (drs t x t.ops.length) (t.out.getD i 0).toNat).getD 1 default = rowD ((jacT t x).getD i []) := by rw [hjr]; rfl
      rw [hg2] at hcg
      simp -implicitDefEqProofs only [evI, hv, effC, reduceCtorEq, ↓reduceIte, n1_, n2_, n3_, n4_, n5_, i1_, i2_, i3_, i4_, i5_, i6_, i7_, hcg]
      refine ⟨by omega, by omega, ⟨hcl, by omega⟩, ?_⟩
      refine ⟨by omega, h, ⟨hol, by omega⟩, ?_⟩
      rw [hjl, wrapI (by omega) (by omega)]
      have hz : ∀ L L' : Heap, L.get 21 0 = some (rowV ((jacT t x).getD i [])) → L'.get 21 0 = none → Fz L L' (.sl 21 0 0 t.n 1 t.n) (.d (jacG t x i)) := fun L L' a b => Fz_row a hjl rfl b
      refine ⟨c - 1, _, by omega, ?_, i + 1, by omega, rfl⟩
      exact LeT.weak (fun _ h => h) (by simp (maxDischargeDepth := 6) [Fz_rowD, Fz_rowI, Fz_rowsD, FzS_cons, FzS_nil, FzH_cons, FzH_nil, FzF_cons, FzF_nil, FzF_rows, FzA_cons, FzA_nil, FzA_app, FzA_rowV, FzA_dcells, FzA_outC, FzA_data, Fz_d, Fz_nil, Fz_any, Fz_ptr, Fz_sl, Fz_agg, get_cons, get_nil, fam_cons, fam_nil]) (by simp (maxDischargeDepth := 6) [Fz_rowD, Fz_rowI, Fz_rowsD, FzS_cons, FzS_nil, FzH_cons, FzH_nil, FzF_cons, FzF_nil, FzF_rows, FzA_cons, FzA_nil, FzA_app, FzA_rowV, FzA_dcells, FzA_outC, FzA_data, Fz_d, Fz_nil, Fz_any, Fz_ptr, Fz_sl, Fz_agg, get_cons, get_nil, fam_cons, fam_nil, hz, FzA_outC_set])
    · replace h := of_decide_eq_false h
      have e : i = t.n := by omega
      subst e
      simp -implicitDefEqProofs only [evI, hv, effC, reduceCtorEq, ↓reduceIte, n1_, n2_, n3_, n4_, n5_, i1_, i2_, i3_, i4_, i5_, i6_, i7_]
      rw [outC_all]
      exact endsT_only (fun X => X == 13) (fun _ h => h) (resV_tmpI (t := 6) (by decide) rfl) rfl (by simp [KpS_cons, KpS_nil, KpH_cons, KpH_nil, KpF_cons, KpF_nil, KpF_rows, KpA_cons, KpA_nil, KpA_app, KpA_rowV, KpA_rowIV, KpA_dcells, KpA_outC, Kp_any, Kp_nilv, Kp_d, Kp_ptr, Kp_sl, Kp_agg, Kp_tup, Kp_fn, get_cons, get_nil]) (by simp [KpS_cons, KpS_nil, KpH_cons, KpH_nil, KpF_cons, KpF_nil, KpF_rows, KpA_cons, KpA_nil, KpA_app, KpA_rowV, KpA_rowIV, KpA_dcells, KpA_outC, Kp_any, Kp_nilv, Kp_d, Kp_ptr, Kp_sl, Kp_agg, Kp_tup, Kp_fn, get_cons, get_nil])
theorem jacT_len (t : Tp) (x : List Nat) : (jacT t x).length = t.n := by simp [jacT]
theorem jrun_con (t : Tp) (x : List Nat) (ht : Tok t) (hx : x.length = t.n) (hn0 : 0 < t.n) : Con Tryz.prog 118 [jfV, tapeV t, .d (rowD x)] (.d (rowsD (jacT t x))) :=
  Con_of_AC (jrun_ac t x ht hx hn0) (.d (by unfold rowsD; rw [jacT_len]; exact snapF_data (esz := 1) (fun Y q h => by simp [get_nil] at h) (by simp [get_cons]) (fun _ _ => rfl) (by omega)))
theorem jac_Jac_con (t : Tp) (x : List Nat) (ht : Tok t) (hx : x.length = t.n) (hn0 : 0 < t.n) : Con Tryz.prog 98 [tapeV t, .d (rowD x)] (.d (rowsD (jacT t x))) := by
  refine Con_introA A_jac_Jac_comp rfl mixed ?_
  simp -implicitDefEqProofs only [evI, hv, effC, reduceCtorEq, ↓reduceIte, n1_, n2_, n3_, n4_, n5_, i1_, i2_, i3_, i4_, i5_, i6_, i7_, A_jac_Jac]
  first | refine callG_con (jfloats_con) rfl ?_ | refine callCG_con (jfloats_con) rfl ?_ | refine callSG_con (jfloats_con) rfl ?_
  simp -implicitDefEqProofs only [evI, hv, effC, reduceCtorEq, ↓reduceIte, n1_, n2_, n3_, n4_, n5_, i1_, i2_, i3_, i4_, i5_, i6_, i7_]
  first | refine callG_con (jrun_con t x ht hx hn0) rfl ?_ | refine callCG_con (jrun_con t x ht hx hn0) rfl ?_ | refine callSG_con (jrun_con t x ht hx hn0) rfl ?_
  simp -implicitDefEqProofs only [evI, hv, effC, reduceCtorEq, ↓reduceIte, n1_, n2_, n3_, n4_, n5_, i1_, i2_, i3_, i4_, i5_, i6_, i7_]
  exact endsT_rett rfl (by decide) (by simp [look])
end Go.Ab

namespace Go.Ab
set_option linter.unusedSimpArgs false
set_option linter.unusedVariables false
open Nat renaming reduceEqDiff → n1_, reduceAdd → n2_, reduceMul → n3_, reduceLT → n4_, reduceLeDiff → n5_
open Int renaming reduceToNat → i1_, reduceAdd → i2_, reduceSub → i3_, reduceMul → i4_, reduceNeg → i5_, reduceLT → i6_, reduceLE → i7_
open Go Go.Proofs
def A_corr_solver_matrix_1_1 : CA := (.seq (.reg [i_X 0 5 (.h (.mov (.k (.d (.flt 0)))))] [0, 1, 2, 3]) (.seq (.reg [i_X 0 6 (.h (.mov (.k (.d (.flt 0)))))] [0, 1, 2, 3, 6]) (.seq (.seq (.reg [i_L 0 7 1 1, i_M 1 8 0, i_X 2 9 (.h (.ibin .eql (.t 7) (.t 8)))] [0, 1, 2, 3, 6, 9]) (.cond (.t 9) (.reg [i_X 0 6 (.h (.mov (.k (.d (.flt 4607182418800017408)))))] [0, 1, 2, 3, 6]) .skip)) (.seq (.reg [i_M 0 10 6, i_L 1 11 2 1, i_L 2 12 3 1, i_L 3 13 1 1, i_X 4 14 (.h (.idx (.t 12) (.t 13) 1)), i_L 5 15 14 1, i_M 6 16 0, i_X 7 17 (.h (.idx (.t 15) (.t 16) 1)), i_L 8 18 17 1, i_X 9 19 (.h (.fbin .mul (.t 11) (.t 18))), i_X 10 20 (.h (.fbin .sub (.t 10) (.t 19))), i_M 11 5 20] [5]) .ret))))
theorem A_corr_solver_matrix_1_1_comp : compF Tryz.prog 101 = some ⟨21, [(5, none)], A_corr_solver_matrix_1_1.strip⟩ := by kernel_rfl
def A_corr_solver_matrix_1 : CA := (.seq (.reg [i_X 0 4 (.box (.t 0) 1 3), i_X 1 5 (.h (.mov (.k .nil)))] [1, 2, 3, 4]) (.seq (.reg [i_L 0 6 1 1, i_X 1 7 (.h (.nilck (.t 6))), i_P 2 8 7 0, i_A 3 9 8 1, i_X 4 10 (.h (.mkfn 101 [] [(.t 4), (.t 2), (.t 3)])), i_X 5 11 (.callA (.k (.d (.fn 93 [] []))) [(.t 9), (.t 10)]), i_M 6 5 11] [5]) .ret))
theorem A_corr_solver_matrix_1_comp : compF Tryz.prog 100 = some ⟨12, [(5, none)], A_corr_solver_matrix_1.strip⟩ := by kernel_rfl
def A_corr_solver_matrix : CA := (.seq (.reg [i_X 0 1 (.box (.t 0) 1 105), i_X 1 2 (.h (.mov (.k .nil)))] [1]) (.seq (.reg [i_L 0 5 1 1, i_X 1 6 (.h (.nilck (.t 5))), i_P 2 7 6 1, i_A 3 8 7 3, i_L 4 9 1 1, i_X 5 10 (.h (.nilck (.t 9))), i_P 6 11 10 4, i_L 7 12 11 1, i_X 8 13 (.h (.idx (.t 12) (.k (.d (.int .i64 0))) 1)), i_L 9 14 13 1, i_X 10 15 (.callS 0 (.k (.d (.fn 98 [] []))) [(.t 8), (.t 14)]), i_X 11 3 (.alloc [.nil] 35), i_S 12 3 15 1] [1, 3]) (.seq (.reg [i_L 0 16 1 1, i_X 1 17 (.h (.nilck (.t 16))), i_P 2 18 17 6, i_L 3 19 18 1, i_L 4 20 1 1, i_X 5 21 (.h (.nilck (.t 20))), i_P 6 22 21 5, i_L 7 23 22 1, i_X 8 24 (.h (.idx (.t 23) (.k (.d (.int .i64 0))) 1)), i_L 9 25 24 1, i_X 10 26 (.h (.fbin .mul (.t 19) (.t 25))), i_X 11 4 (.alloc [(.d (.flt 0))] 31), i_S 12 4 26 1] [1, 3, 4]) (.seq (.reg [i_L 0 27 1 1, i_X 1 28 (.h (.nilck (.t 27))), i_P 2 29 28 0, i_P 3 30 29 0, i_L 4 31 30 1, i_X 5 32 (.h (.build [(.d (.int .i64 0))] [(0, (1, (.t 31)))])), i_X 6 33 (.h (.mkfn 100 [] [(.t 1), (.t 4), (.t 3)])), i_X 7 34 (.callA (.k (.d (.fn 99 [] []))) [(.t 32), (.t 33)]), i_M 8 2 34] [2]) .ret))))
theorem A_corr_solver_matrix_comp : compF Tryz.prog 67 = some ⟨35, [(2, none)], A_corr_solver_matrix.strip⟩ := by kernel_rfl
def A_corr_maker__float64_each_L0 : CA := (.seq (.reg [i_X 0 13 (.h (.ibin .lss (.t 12) (.t 11)))] [1, 5, 11, 12, 13]) (.seq (.cond (.t 13) .skip (.exit 0)) (.seq (.block 1 (.seq (.reg [i_M 0 14 12, i_M 1 6 14] [1, 5, 6, 11, 12]) (.reg [i_M 0 15 5, i_M 1 16 6, i_M 2 17 1, i_M 3 18 6, i_X 4 19 (.callA (.t 17) [(.t 18)]), i_X 5 20 (.h (.idx (.t 15) (.t 16) 1)), i_S 6 20 19 1] [1, 5, 11, 12]))) (.reg [i_X 0 21 (.h (.ibin .add (.t 12) (.k (.d (.int .i64 1))))), i_M 1 12 21] [1, 5, 11, 12]))))
def A_corr_maker__float64_each : CA := (.seq (.reg [i_X 0 2 (.box (.t 0) 1 134), i_X 1 4 (.h (.mov (.k .nil)))] [1, 2]) (.seq (.reg [i_P 0 7 2 0, i_L 1 8 7 1, i_X 2 9 (.mksl [.nil] 1 24 (.t 8) (.t 8) 30), i_M 3 5 9] [1, 5]) (.seq (.seq (.reg [i_M 0 10 5, i_X 1 11 (.h (.len (.t 10))), i_X 2 12 (.h (.mov (.k (.d (.int .i64 0)))))] [1, 5, 11, 12]) (.block 0 (.loop A_corr_maker__float64_each_L0))) (.seq (.reg [i_M 0 22 5, i_M 1 4 22] [4]) .ret))))
theorem A_corr_maker__float64_each_comp : compF Tryz.prog 99 = some ⟨23, [(4, none)], A_corr_maker__float64_each.strip⟩ := by kernel_rfl
def matE (t : Tp) (z : List (List Nat)) (l : List Nat) (h i k : Nat) : Nat := fop .sub (if i = k then oneW else 0) (fop .mul (fop .mul h (l.getD 0 0)) (((jacT t (z.getD 0 [])).getD i []).getD k 0))
def matT (t : Tp) (z : List (List Nat)) (l : List Nat) (h : Nat) : List (List Nat) := (List.range t.n).map fun i => tabR (matE t z l h i) t.n
theorem matT_row (t : Tp) (z : List (List Nat)) (l : List Nat) (h i : Nat) (hi : i < t.n) : (matT t z l h).getD i [] = tabR (matE t z l h i) t.n := by
  unfold matT
  rw [List.getD_eq_getElem?_getD, List.getElem?_map, List.getElem?_range hi]; rfl
theorem matT_sq (t : Tp) (z : List (List Nat)) (l : List Nat) (h : Nat) : Sq t.n (matT t z l h) := ⟨by simp [matT], fun i hi => by rw [matT_row _ _ _ _ _ hi]; exact tabR_len _ _⟩
theorem jacT_row (t : Tp) (x : List Nat) (ht : Tok t) (i : Nat) (hi : i < t.n) : ((jacT t x).getD i []).length = t.n := by
  have hgo := ht.out i hi
  have hjr : (jacT t x).getD i [] = (drs t x t.ops.length).getD (t.out.getD i 0).toNat [] := by
    unfold jacT
    rw [List.getD_eq_getElem?_getD, List.getElem?_map, List.getElem?_range hi]; rfl
  rw [hjr]; exact drs_rows t x _ _ (by omega)
/-- Rows made one by one, of what nobody writes. -/
theorem each_rows_ac (f : FuncId) (cap : List D) (n : Nat) (A : List (List Nat)) (hA : Sq n A) (hn : n < 2 ^ 20) (hf : ∀ i : Nat, i < n → AC Tryz.prog f (fI i :: cap.map .d) [] [(0, [rowV (A.getD i [])])] (.sl 0 0 0 n 1 n)) :
    AC Tryz.prog 99 [.agg [fI n], .d (.fn f [] cap)] [] [(20, A.map rowV), (3, [hdo 20 0 n n])] (.sl 3 0 0 n 1 n) := by
  obtain ⟨hl, hr⟩ := hA
  refine AC_introA A_corr_maker__float64_each_comp rfl mixed (fun _ => False) (by simp [get_nil]) ?_
  simp -implicitDefEqProofs only [evI, hv, effC, reduceCtorEq, ↓reduceIte, n1_, n2_, n3_, n4_, n5_, i1_, i2_, i3_, i4_, i5_, i6_, i7_, A_corr_maker__float64_each]
  (repeat (with_reducible refine And.intro (by omega) ?_))
  refine WA_forW (n := n) (fun c s => ∃ i, c + i = n ∧ s = ⟨[(1, .d (.fn f [] cap)), (5, .sl 3 0 0 n 1 n), (11, fI n), (12, fI i)], [(20, (A.take i).map rowV), (3, [hd 20 n i n]), (0, [[fI n]])]⟩) (s0 := ⟨_, _⟩) ?_ ⟨0, by omega, rfl⟩ ?_
  · rw [hd_zero]
    exact LeT.empty (L1 := []) (by simp [fam_cons, fam_nil])
  rintro c s ⟨i, hc, rfl⟩
  simp -implicitDefEqProofs only [evI, hv, effC, reduceCtorEq, ↓reduceIte, n1_, n2_, n3_, n4_, n5_, i1_, i2_, i3_, i4_, i5_, i6_, i7_, A_corr_maker__float64_each_L0]
  refine condC_intro (fun h => ?_) (fun h => ?_)
  · replace h := of_decide_eq_true h
    simp -implicitDefEqProofs only [evI, hv, effC, reduceCtorEq, ↓reduceIte, n1_, n2_, n3_, n4_, n5_, i1_, i2_, i3_, i4_, i5_, i6_, i7_]
    have e1 := hr i h
    refine callG_row 110 (fI i :: cap.map .d) (by simp [Heap.next]) (hf i h) ⟨.bare _, snaps_data _ _⟩ ?_
    simp -implicitDefEqProofs only [evI, hv, effC, reduceCtorEq, ↓reduceIte, n1_, n2_, n3_, n4_, n5_, i1_, i2_, i3_, i4_, i5_, i6_, i7_]
    refine ⟨h, by omega, ?_⟩
    rw [wrapI (by omega) (by omega)]
    refine ⟨c - 1, _, by omega, LeT.absorb (by decide) rfl rfl (fun h => h), i + 1, by omega, ?_⟩
    have e2 : ((A.take i).map rowV).length = i := by simp; omega
    rw [e2, ren_fam, ren_rowV, take_fam A i (by omega)]
    simp only [renS, Heap.renH, ren_absF_sl _ _ _ _ _ _ _ _ _ (by decide : (3 : Nat) ≠ 110), ren_d, List.map_cons, List.map_nil, hd_absorb 110 20 _ _ _ (by decide) h]
    rfl
  · replace h := of_decide_eq_false h
    have e : i = n := by omega
    subst e
    simp -implicitDefEqProofs only [evI, hv, effC, reduceCtorEq, ↓reduceIte, n1_, n2_, n3_, n4_, n5_, i1_, i2_, i3_, i4_, i5_, i6_, i7_]
    have e : A.take i = A := List.take_of_length_le (by omega)
    have hk1 : ∀ L : Heap, L.fam 20 = some (A.map rowV) → KpA L (hdo 20 0 i i) := fun L hL => KpA_hdoF hL (by omega)
    rw [e, hd_all]
    exact endsT_only (fun X => X == 20 || X == 3) (fun _ h => h) (resV_tmpI (t := 4) (by decide) rfl) rfl (by simp (maxDischargeDepth := 6) [KpS_cons, KpS_nil, KpH_cons, KpH_nil, KpF_cons, KpF_nil, KpF_rows, KpA_cons, KpA_nil, KpA_app, KpA_rowV, KpA_rowIV, KpA_dcells, KpA_outC, Kp_any, Kp_nilv, Kp_d, Kp_ptr, Kp_sl, Kp_agg, Kp_tup, Kp_fn, get_cons, get_nil, fam_cons, fam_nil]) (by simp (maxDischargeDepth := 6) [KpS_cons, KpS_nil, KpH_cons, KpH_nil, KpF_cons, KpF_nil, KpF_rows, KpA_cons, KpA_nil, KpA_app, KpA_rowV, KpA_rowIV, KpA_dcells, KpA_outC, Kp_any, Kp_nilv, Kp_d, Kp_ptr, Kp_sl, Kp_agg, Kp_tup, Kp_fn, get_cons, get_nil, fam_cons, fam_nil, hk1])
section
variable (t : Tp) (z : List (List Nat)) (l : List Nat) (h : Nat) (w d : List Nat) (p q : D) (ok : Sok t z l w d)
include ok
theorem matrix11_con (i k : Nat) (hi : i < t.n) (hk : k < t.n) : Con Tryz.prog 101 [fI k, .d (.bptr [.int .i64 i]), .d (.bptr [.flt (fop .mul h (l.getD 0 0))]), .d (.bptr [rowsD (jacT t (z.getD 0 []))])] (fl (matE t z l h i k)) := by
  obtain ⟨ht, hz, hzl, hl, hw, hd⟩ := ok
  have j1 := jacT_len t (z.getD 0 [])
  have j2 := jacT_row t (z.getD 0 []) ht i hi
  refine Con_introA A_corr_solver_matrix_1_1_comp rfl mixed ?_
  simp -implicitDefEqProofs only [evI, hv, effC, reduceCtorEq, ↓reduceIte, n1_, n2_, n3_, n4_, n5_, i1_, i2_, i3_, i4_, i5_, i6_, i7_, A_corr_solver_matrix_1_1]
  by_cases hik : i = k
  · have h' : ((i : Int) == (k : Int)) = true := by simp [hik]
    simp -implicitDefEqProofs only [evI, hv, effC, reduceCtorEq, ↓reduceIte, n1_, n2_, n3_, n4_, n5_, i1_, i2_, i3_, i4_, i5_, i6_, i7_, h']
    (repeat (with_reducible refine And.intro (by omega) ?_))
    have e : matE t z l h i k = fop .sub 4607182418800017408 (fop .mul (fop .mul h (l.getD 0 0)) (((jacT t (z.getD 0 [])).getD i []).getD k 0)) := by unfold matE; rw [if_pos hik]; rfl
    rw [e]
    exact endsT_rett rfl (by decide) (by simp [look])
  · have h' : ((i : Int) == (k : Int)) = false := by simp; omega
    simp -implicitDefEqProofs only [evI, hv, effC, reduceCtorEq, ↓reduceIte, n1_, n2_, n3_, n4_, n5_, i1_, i2_, i3_, i4_, i5_, i6_, i7_, h']
    (repeat (with_reducible refine And.intro (by omega) ?_))
    have e : matE t z l h i k = fop .sub 0 (fop .mul (fop .mul h (l.getD 0 0)) (((jacT t (z.getD 0 [])).getD i []).getD k 0)) := by unfold matE; rw [if_neg hik]
    rw [e]
    exact endsT_rett rfl (by decide) (by simp [look])
theorem matrix1_ac (i : Nat) (hi : i < t.n) : AC Tryz.prog 100 [fI i, .d (.bptr [.bptr (svC t z l h w d p q)]), .d (.bptr [.flt (fop .mul h (l.getD 0 0))]), .d (.bptr [rowsD (jacT t (z.getD 0 []))])] [] [(0, [rowV ((matT t z l h).getD i [])])] (.sl 0 0 0 t.n 1 t.n) := by
  have ok' := ok
  obtain ⟨ht, hz, hzl, hl, hw, hd⟩ := ok'
  have hn := ht.n
  rw [matT_row _ _ _ _ _ hi]
  refine AC_row0 (X := 120) ?_
  refine AC_introA A_corr_solver_matrix_1_comp rfl mixed (fun _ => False) (by simp [get_nil]) ?_
  simp -implicitDefEqProofs only [evI, hv, effC, reduceCtorEq, ↓reduceIte, n1_, n2_, n3_, n4_, n5_, i1_, i2_, i3_, i4_, i5_, i6_, i7_, A_corr_solver_matrix_1, svC, fnOf_pdd]
  have e1 := each_ac 101 [.bptr [.int .i64 i], .bptr [.flt (fop .mul h (l.getD 0 0))], .bptr [rowsD (jacT t (z.getD 0 []))]] t.n (matE t z l h i) (by omega) (fun k hk => matrix11_con t z l h w d ok i k hi hk)
  refine callG_row 120 _ (by simp [Heap.next]) e1 ⟨.aggs ⟨.bare _, trivial⟩, .fun3 (.box rfl (.bare _)) (.bare _) (.bare _), trivial⟩ ?_
  simp -implicitDefEqProofs only [evI, hv, effC, reduceCtorEq, ↓reduceIte, n1_, n2_, n3_, n4_, n5_, i1_, i2_, i3_, i4_, i5_, i6_, i7_]
  exact endsT_only (fun X => X == 120) (fun _ h => h) (resV_tmpI (t := 5) (by decide) rfl) rfl (by simp [KpS_cons, KpS_nil, KpH_cons, KpH_nil, KpF_cons, KpF_nil, KpF_rows, KpA_cons, KpA_nil, KpA_app, KpA_rowV, KpA_rowIV, KpA_dcells, KpA_outC, Kp_any, Kp_nilv, Kp_d, Kp_ptr, Kp_sl, Kp_agg, Kp_tup, Kp_fn, get_cons, get_nil]) (by simp [KpS_cons, KpS_nil, KpH_cons, KpH_nil, KpF_cons, KpF_nil, KpF_rows, KpA_cons, KpA_nil, KpA_app, KpA_rowV, KpA_rowIV, KpA_dcells, KpA_outC, Kp_any, Kp_nilv, Kp_d, Kp_ptr, Kp_sl, Kp_agg, Kp_tup, Kp_fn, get_cons, get_nil])
theorem matrix_ac (hn0 : 0 < t.n) : AC Tryz.prog 67 [.d (.bptr (svC t z l h w d p q))] [] [(120, (matT t z l h).map rowV), (103, [hdo 120 0 t.n t.n])] (.sl 103 0 0 t.n 1 t.n) := by
  have ok' := ok
  obtain ⟨ht, hz, hzl, hl, hw, hd⟩ := ok'
  have hn := ht.n
  have hz0 := hzl 0 (by omega)
  have hsq := matT_sq t z l h
  refine AC_introA A_corr_solver_matrix_comp rfl mixed (fun _ => False) (by simp [get_nil]) ?_
  simp -implicitDefEqProofs only [evI, hv, effC, reduceCtorEq, ↓reduceIte, n1_, n2_, n3_, n4_, n5_, i1_, i2_, i3_, i4_, i5_, i6_, i7_, A_corr_solver_matrix, svC]
  (repeat (with_reducible refine And.intro (by omega) ?_))
  first | refine callG_con (jac_Jac_con t (z.getD 0 []) ht hz0 hn0) rfl ?_ | refine callCG_con (jac_Jac_con t (z.getD 0 []) ht hz0 hn0) rfl ?_ | refine callSG_con (jac_Jac_con t (z.getD 0 []) ht hz0 hn0) rfl ?_
  simp -implicitDefEqProofs only [evI, hv, effC, reduceCtorEq, ↓reduceIte, n1_, n2_, n3_, n4_, n5_, i1_, i2_, i3_, i4_, i5_, i6_, i7_, svC]
  (repeat (with_reducible refine And.intro (by omega) ?_))
  simp -implicitDefEqProofs only [evI, hv, effC, reduceCtorEq, ↓reduceIte, n1_, n2_, n3_, n4_, n5_, i1_, i2_, i3_, i4_, i5_, i6_, i7_, fnOf_ptr3]
  have e1 := each_rows_ac 100 [.bptr [.bptr (svC t z l h w d p q)], .bptr [.flt (fop .mul h (l.getD 0 0))], .bptr [rowsD (jacT t (z.getD 0 []))]] t.n (matT t z l h) hsq hn (fun i hi => matrix1_ac t z l h w d p q ok i hi)
  refine callG_rows 100 _ (by simp [Heap.next]) e1 ⟨.aggs ⟨.bare _, trivial⟩, .fun3 (.box rfl (.bare _)) (.box rfl (.bare _)) (.box rfl (.bare _)), trivial⟩ ?_
  simp -implicitDefEqProofs only [evI, hv, effC, reduceCtorEq, ↓reduceIte, n1_, n2_, n3_, n4_, n5_, i1_, i2_, i3_, i4_, i5_, i6_, i7_]
  have hk1 : ∀ L : Heap, L.fam 120 = some ((matT t z l h).map rowV) → KpA L (hdo 120 0 t.n t.n) := fun L hL => KpA_hdoF hL (by rw [hsq.1]; exact Nat.le_refl _)
  exact endsT_only (fun X => X == 120 || X == 103) (fun _ h => h) (resV_tmpI (t := 2) (by decide) rfl) rfl (by simp (maxDischargeDepth := 6) [KpS_cons, KpS_nil, KpH_cons, KpH_nil, KpF_cons, KpF_nil, KpF_rows, KpA_cons, KpA_nil, KpA_app, KpA_rowV, KpA_rowIV, KpA_dcells, KpA_outC, Kp_any, Kp_nilv, Kp_d, Kp_ptr, Kp_sl, Kp_agg, Kp_tup, Kp_fn, get_cons, get_nil, fam_cons, fam_nil]) (by simp (maxDischargeDepth := 6) [KpS_cons, KpS_nil, KpH_cons, KpH_nil, KpF_cons, KpF_nil, KpF_rows, KpA_cons, KpA_nil, KpA_app, KpA_rowV, KpA_rowIV, KpA_dcells, KpA_outC, Kp_any, Kp_nilv, Kp_d, Kp_ptr, Kp_sl, Kp_agg, Kp_tup, Kp_fn, get_cons, get_nil, fam_cons, fam_nil, hk1])
end
end Go.Ab

namespace Go.Ab
set_option linter.unusedSimpArgs false
set_option linter.unusedVariables false
open Nat renaming reduceEqDiff → n1_, reduceAdd → n2_, reduceMul → n3_, reduceLT → n4_, reduceLeDiff → n5_
open Int renaming reduceToNat → i1_, reduceAdd → i2_, reduceSub → i3_, reduceMul → i4_, reduceNeg → i5_, reduceLT → i6_, reduceLE → i7_
open Go Go.Proofs
def A_corr_solver_bdf_1 : CA := (.seq (.reg [i_X 0 4 (.h (.mov (.k (.d (.flt 0)))))] [0, 1, 2]) (.seq (.reg [i_L 0 5 1 1, i_M 1 6 0, i_X 2 7 (.h (.idx (.t 5) (.t 6) 1)), i_L 3 8 7 1, i_L 4 9 2 1, i_X 5 10 (.h (.nilck (.t 9))), i_P 6 11 10 8, i_L 7 12 11 1, i_M 8 13 0, i_X 9 14 (.h (.idx (.t 12) (.t 13) 1)), i_L 10 15 14 1, i_X 11 16 (.h (.fbin .sub (.t 8) (.t 15))), i_M 12 4 16] [4]) .ret))
theorem A_corr_solver_bdf_1_comp : compF Tryz.prog 103 = some ⟨17, [(4, none)], A_corr_solver_bdf_1.strip⟩ := by kernel_rfl
def A_corr_solver_bdf_2 : CA := (.seq (.reg [i_X 0 4 (.h (.mov (.k (.d (.flt 0)))))] [0, 1, 2]) (.seq (.reg [i_L 0 5 1 1, i_M 1 6 0, i_X 2 7 (.h (.idx (.t 5) (.t 6) 1)), i_L 3 8 7 1, i_L 4 9 2 1, i_M 5 10 0, i_X 6 11 (.h (.idx (.t 9) (.t 10) 1)), i_L 7 12 11 1, i_X 8 13 (.h (.fbin .add (.t 8) (.t 12))), i_M 9 4 13] [4]) .ret))
theorem A_corr_solver_bdf_2_comp : compF Tryz.prog 104 = some ⟨14, [(4, none)], A_corr_solver_bdf_2.strip⟩ := by kernel_rfl
def A_corr_solver_bdf : CA := (.seq (.reg [i_X 0 1 (.box (.t 0) 1 105), i_X 1 2 (.h (.mov (.k (.d (.flt 0)))))] [1]) (.seq (.reg [i_L 0 6 1 1, i_X 1 7 (.callA (.k (.d (.fn 92 [] []))) [(.t 6)]), i_X 2 3 (.alloc [.nil] 30), i_S 3 3 7 1] [1, 3]) (.seq (.reg [i_L 0 8 1 1, i_X 1 9 (.h (.nilck (.t 8))), i_P 2 10 9 9, i_A 3 11 10 2, i_L 4 12 1 1, i_X 5 13 (.h (.nilck (.t 12))), i_P 6 14 13 0, i_A 7 15 14 1, i_X 8 16 (.h (.mkfn 103 [] [(.t 3), (.t 1)])), i_X 9 17 (.callS 9 (.k (.d (.fn 93 [] []))) [(.t 15), (.t 16)]), i_X 10 18 (.callS 0 (.k (.d (.fn 102 [] []))) [(.t 11), (.t 17)]), i_X 11 4 (.alloc [.nil] 30), i_S 12 4 18 1] [1, 4]) (.seq (.reg [i_L 0 19 1 1, i_X 1 20 (.h (.nilck (.t 19))), i_P 2 21 20 8, i_L 3 22 21 1, i_X 4 5 (.alloc [.nil] 30), i_S 5 5 22 1] [1, 4, 5]) (.seq (.reg [i_L 0 23 1 1, i_L 1 24 1 1, i_X 2 25 (.h (.nilck (.t 24))), i_P 3 26 25 0, i_A 4 27 26 1, i_X 5 28 (.h (.mkfn 104 [] [(.t 5), (.t 4)])), i_X 6 29 (.callS 6 (.k (.d (.fn 93 [] []))) [(.t 27), (.t 28)]), i_X 7 30 (.h (.nilck (.t 23))), i_P 8 31 30 8, i_S 9 31 29 1] [1, 4]) (.seq (.reg [i_L 0 32 4 1, i_L 1 33 1 1, i_X 2 34 (.h (.nilck (.t 33))), i_P 3 35 34 7, i_L 4 36 35 1, i_X 5 37 (.callA (.k (.d (.fn 37 [] []))) [(.t 32), (.t 36)]), i_M 6 2 37] [2]) .ret))))))
theorem A_corr_solver_bdf_comp : compF Tryz.prog 68 = some ⟨38, [(2, none)], A_corr_solver_bdf.strip⟩ := by kernel_rfl
def gdS (t : Tp) (z : List (List Nat)) (l : List Nat) (h : Nat) (d : List Nat) : List Nat := tabR (fun i => fop .sub ((gS t z l h d).getD i 0) (d.getD i 0)) t.n
def xB (t : Tp) (z : List (List Nat)) (l : List Nat) (h : Nat) (B : List (List Nat)) (π : List Int) (d : List Nat) : List Nat := solveP B π (gdS t z l h d) t.n
def dB (t : Tp) (z : List (List Nat)) (l : List Nat) (h : Nat) (B : List (List Nat)) (π : List Int) (d : List Nat) : List Nat := tabR (fun i => fop .add (d.getD i 0) ((xB t z l h B π d).getD i 0)) t.n
def tryB (t : Tp) (z : List (List Nat)) (l : List Nat) (h : Nat) (w : List Nat) (B : List (List Nat)) (π : List Int) (d : List Nat) : List Nat × Nat := (dB t z l h B π d, szP (xB t z l h B π d) w)
theorem solveP_len (B : List (List Nat)) (π : List Int) (b : List Nat) (n : Nat) : (solveP B π b n).length = n := by unfold solveP; rw [bckI_len, fwdI_len]
section
variable (t : Tp) (z : List (List Nat)) (l : List Nat) (h : Nat) (w d : List Nat) (p q : D) (ok : Sok t z l w d)
include ok
theorem bdf1_con (g : List Nat) (hg : g.length = t.n) (i : Nat) (hi : i < t.n) : Con Tryz.prog 103 [fI i, .d (.bptr [rowD g]), .d (.bptr [.bptr (svC t z l h w d p q)])] (fl (fop .sub (g.getD i 0) (d.getD i 0))) := by
  obtain ⟨ht, hz, hzl, hl, hw, hd⟩ := ok
  refine Con_introA A_corr_solver_bdf_1_comp rfl mixed ?_
  simp -implicitDefEqProofs only [evI, hv, effC, reduceCtorEq, ↓reduceIte, n1_, n2_, n3_, n4_, n5_, i1_, i2_, i3_, i4_, i5_, i6_, i7_, A_corr_solver_bdf_1]
  simp -implicitDefEqProofs only [evI, hv, effC, reduceCtorEq, ↓reduceIte, n1_, n2_, n3_, n4_, n5_, i1_, i2_, i3_, i4_, i5_, i6_, i7_, svC]
  (repeat (with_reducible refine And.intro (by omega) ?_))
  exact endsT_rett rfl (by decide) (by simp [look])
omit ok in
theorem bdf2_con (x y : List Nat) (n : Nat) (hx : x.length = n) (hy : y.length = n) (i : Nat) (hi : i < n) : Con Tryz.prog 104 [fI i, .d (.bptr [rowD x]), .d (.bptr [rowD y])] (fl (fop .add (x.getD i 0) (y.getD i 0))) := by
  refine Con_introA A_corr_solver_bdf_2_comp rfl mixed ?_
  simp -implicitDefEqProofs only [evI, hv, effC, reduceCtorEq, ↓reduceIte, n1_, n2_, n3_, n4_, n5_, i1_, i2_, i3_, i4_, i5_, i6_, i7_, A_corr_solver_bdf_2]
  (repeat (with_reducible refine And.intro (by omega) ?_))
  exact endsT_rett rfl (by decide) (by simp [look])
variable (B : List (List Nat)) (π : List Int) (hB : Sq t.n B) (hπ : Pm t.n π)
include hB hπ
set_option maxRecDepth 8000 in
theorem bdf_ac : AC Tryz.prog 68 [.ptr 16 0 0 11] [(16, [svV t z l h w 14 (.d (rowsD B)) (.d (rowI π))]), (14, [rowV d]), (1, [[.nil, fI 0, fI 0]]), (0, [[fI t.n, .d (opsD t.ops), .d (rowI t.out)]])]
    [(124, [rowV (dB t z l h B π d)]), (16, [svV t z l h w 124 (.d (rowsD B)) (.d (rowI π))]), (14, [rowV d]), (1, [[.nil, fI 0, fI 0]]), (0, [[fI t.n, .d (opsD t.ops), .d (rowI t.out)]])] (fl (szP (xB t z l h B π d) w)) := by
  have ok' := ok
  obtain ⟨ht, hz, hzl, hl, hw, hd⟩ := ok'
  have hn := ht.n
  refine AC_introA A_corr_solver_bdf_comp rfl mixed (fun X => X ≤ 16) ?_ ?_
  · intro X q
    simp only [get_cons, get_nil]
    repeat' split
    all_goals simp
    all_goals omega
  simp -implicitDefEqProofs only [evI, hv, effC, reduceCtorEq, ↓reduceIte, n1_, n2_, n3_, n4_, n5_, i1_, i2_, i3_, i4_, i5_, i6_, i7_, A_corr_solver_bdf]
  have hg : (gS t z l h d).length = t.n := tabR_len _ _
  have hgd : (gdS t z l h d).length = t.n := tabR_len _ _
  refine callG_row 100 [.d (.bptr (svC t z l h w d (rowsD B) (rowI π)))] (by simp [Heap.next]) (slopes_ac t z l h w d (rowsD B) (rowI π) ok) ⟨snap_sv t z l h w d (rowsD B) (rowI π) (X := 14) (pv := .d (rowsD B)) (qv := .d (rowI π)) rfl rfl hd (.bare _) (.bare _), trivial⟩ ?_
  simp -implicitDefEqProofs only [evI, hv, effC, reduceCtorEq, ↓reduceIte, n1_, n2_, n3_, n4_, n5_, i1_, i2_, i3_, i4_, i5_, i6_, i7_, fnOf_ptr2]
  have e2 := each_ac 103 [.bptr [rowD (gS t z l h d)], .bptr [.bptr (svC t z l h w d (rowsD B) (rowI π))]] t.n _ (by omega) (fun i hi => bdf1_con t z l h w d (rowsD B) (rowI π) ok _ hg i hi)
  refine callS_row _ e2 ⟨.aggs ⟨.bare _, trivial⟩, .fun2 (.box rfl (snp_row rfl hg rfl)) (.box rfl (snap_sv t z l h w d (rowsD B) (rowI π) (X := 14) (pv := .d (rowsD B)) (qv := .d (rowI π)) rfl rfl hd (.bare _) (.bare _))), trivial⟩ rfl ?_
  simp -implicitDefEqProofs only [evI, hv, effC, reduceCtorEq, ↓reduceIte, n1_, n2_, n3_, n4_, n5_, i1_, i2_, i3_, i4_, i5_, i6_, i7_]
  have e3 := AC_row0 (lin_Solve_row B π (gdS t z l h d) t.n hB hπ hgd (by omega))
  change AC Tryz.prog 102 _ [] [(0, [rowV (xB t z l h B π d)])] _ at e3
  have hx : (xB t z l h B π d).length = t.n := solveP_len _ _ _ _
  rw [show tabR (fun i => fop .sub ((gS t z l h d).getD i 0) (d.getD i 0)) t.n = gdS t z l h d from rfl]
  refine callS_row _ e3 ⟨.aggs ⟨.bare _, .bare _, trivial⟩, snp_row (by simp [get_old, get_cons]) hgd rfl, trivial⟩ rfl ?_
  simp -implicitDefEqProofs only [evI, hv, effC, reduceCtorEq, ↓reduceIte, n1_, n2_, n3_, n4_, n5_, i1_, i2_, i3_, i4_, i5_, i6_, i7_, fnOf_ptr2]
  have e4 := each_ac 104 [.bptr [rowD d], .bptr [rowD (xB t z l h B π d)]] t.n _ (by omega) (fun i hi => bdf2_con d (xB t z l h B π d) t.n hd hx i hi)
  refine callS_row _ e4 ⟨.aggs ⟨.bare _, trivial⟩, .fun2 (.box rfl (snp_row rfl hd rfl)) (.box rfl (snp_row rfl hx rfl)), trivial⟩ rfl ?_
  simp -implicitDefEqProofs only [evI, hv, effC, reduceCtorEq, ↓reduceIte, n1_, n2_, n3_, n4_, n5_, i1_, i2_, i3_, i4_, i5_, i6_, i7_]
  refine callG_snaps [.d (rowD (xB t z l h B π d)), .d (rowD w)] (corr_Size_con _ w (by omega) (by omega)) ⟨snp_row rfl hx rfl, .bare _, trivial⟩ (.flt _) ?_
  simp -implicitDefEqProofs only [evI, hv, effC, reduceCtorEq, ↓reduceIte, n1_, n2_, n3_, n4_, n5_, i1_, i2_, i3_, i4_, i5_, i6_, i7_]
  refine endsT_onlyN (fun X => decide (X ≤ 16) || X == 124) (fun X h => by simp [h]) (resV_tmpI (t := 2) (by decide) rfl) rfl (by simp [KpS_cons, KpS_nil, KpH_cons, KpH_nil, KpF_cons, KpF_nil, KpF_rows, KpA_cons, KpA_nil, KpA_app, KpA_rowV, KpA_rowIV, KpA_dcells, KpA_outC, Kp_any, Kp_nilv, Kp_d, Kp_ptr, Kp_sl, Kp_agg, Kp_tup, Kp_fn, get_cons, get_nil]) (by simp [KpS_cons, KpS_nil, KpH_cons, KpH_nil, KpF_cons, KpF_nil, KpF_rows, KpA_cons, KpA_nil, KpA_app, KpA_rowV, KpA_rowIV, KpA_dcells, KpA_outC, Kp_any, Kp_nilv, Kp_d, Kp_ptr, Kp_sl, Kp_agg, Kp_tup, Kp_fn, get_cons, get_nil])
end
end Go.Ab

namespace Go.Ab
set_option linter.unusedSimpArgs false
set_option linter.unusedVariables false
open Nat renaming reduceEqDiff → n1_, reduceAdd → n2_, reduceMul → n3_, reduceLT → n4_, reduceLeDiff → n5_
open Int renaming reduceToNat → i1_, reduceAdd → i2_, reduceSub → i3_, reduceMul → i4_, reduceNeg → i5_, reduceLT → i6_, reduceLE → i7_
open Go Go.Proofs
theorem partP_pmB (A : List (List Nat)) (n : Nat) : ∀ m, m ≤ n → ∀ B π, partP A n m = some (B, π) → Pm n π := by
  intro m
  induction m with
  | zero =>
    intro _ B π h
    simp only [partP, Option.some.injEq, Prod.mk.injEq] at h
    obtain ⟨_, rfl⟩ := h
    exact ⟨by simp, fun i hi => by simp [List.getD_eq_getElem?_getD, hi]⟩
  | succ m ih =>
    intro hm B π h
    simp only [partP, Option.bind_eq_some_iff] at h
    obtain ⟨⟨C, σ⟩, h1, h2⟩ := h
    obtain ⟨h3, h4⟩ := ih (by omega) C σ h1
    simp only [stepP] at h2
    split at h2
    · cases h2
    · simp only [Option.some.injEq, Prod.mk.injEq] at h2
      obtain ⟨_, rfl⟩ := h2
      have hp := pvP_lt C m (n - 1 - m)
      generalize pvP C m (n - 1 - m) = p at hp
      refine ⟨by simp [swapL, h3], fun i hi => ?_⟩
      have a := h4 m (by omega)
      have b := h4 p (by omega)
      have c := h4 i hi
      simp only [List.getD_eq_getElem?_getD] at a b c
      simp only [swapL, List.getD_eq_getElem?_getD, List.getElem?_set, List.length_set]
      by_cases e : p = i
      · subst e; simpa [h3, hi] using a
      · rw [if_neg e]
        by_cases e2 : m = i
        · subst e2; simpa [h3, hi] using b
        · rw [if_neg e2]; exact c
theorem pure_luVB (n : Nat) (b : Bool) : PureV (.tup [luV n, fB b]) := by
  refine .tup fun j hj => ?_
  rcases j with _ | _ | j
  · refine .agg fun j hj => ?_
    rcases j with _ | _ | j
    · exact .sl ..
    · exact .sl ..
    · simp at hj; omega
  · exact .bool _
  · simp at hj; omega
theorem pure_rowVB (xs : List Nat) : ∀ j, j < (rowV xs).length → PureV ((rowV xs).getD j .any) := by
  intro j hj
  have : j < xs.length := by simpa using hj
  rw [getD_map_fl _ _ this]; exact .flt _
theorem pure_luB (B : List (List Nat)) (π : List Int) (n : Nat) : ∀ X q cells, Heap.get (luH B π n) X q = some cells → ∀ j, j < cells.length → PureV (cells.getD j .any) := by
  have two : ∀ j, j < 2 → PureV ([V.sl 2 0 0 n 1 n, V.sl 5 0 0 n 1 n].getD j .any) := by
    intro j hj
    rcases j with _ | _ | j
    · exact .sl ..
    · exact .sl ..
    · omega
  intro X q cells hX j hj
  simp only [luH, get_cons, get_nil] at hX
  split at hX
  · rcases q with _ | q <;> simp at hX; subst hX; exact two j (by simpa using hj)
  · split at hX
    · rcases q with _ | q <;> simp at hX; subst hX
      have hj' : j < π.length := by simpa using hj
      have := getD_rowIV π j hj'
      rw [this]; exact .int _ _
    · split at hX
      · rcases q with _ | q
        · simp at hX; subst hX
          have hj' : j < n := by simpa [hdo_length] using hj
          rw [hdo_getD _ _ _ _ _ hj']; exact .sl ..
        · simp only [List.getElem?_cons_succ, List.getElem?_map] at hX
          obtain ⟨xs, _, rfl⟩ := Option.map_eq_some_iff.1 hX
          exact pure_rowVB xs j hj
      · split at hX
        · rcases q with _ | q <;> simp at hX; subst hX; exact two j (by simpa using hj)
        · cases hX
theorem part_namedB {L : Heap} {H r0 X o n : Nat} {A B : List (List Nat)} {π : List Int} (k : Nat) (hk : L.next ≤ k) (hA : Sq n A) (hn : n < 2 ^ 40) (hH : L.get H r0 = some (hdo X o n n)) (hX : ∀ r, r < n → L.get X (r + o) = some (rowV (A.getD r [])))
    (hp : partP A n n = some (B, π)) (K : V → Heap → Prop)
    (h : K (.tup [.agg [.sl (2 + k) 0 0 n 1 n, .sl (5 + k) 0 0 n 1 n], fB true]) ((7 + k, [[.sl (2 + k) 0 0 n 1 n, .sl (5 + k) 0 0 n 1 n]]) :: (5 + k, [rowIV π]) :: (2 + k, hdo (2 + k) 1 n n :: B.map rowV) :: (0 + k, [[.sl (2 + k) 0 0 n 1 n, .sl (5 + k) 0 0 n 1 n]]) :: L)) :
    callG Tryz.prog 66 [.sl H r0 0 n 1 n] L K := by
  refine callG_ac (AC_frameK k hk (us := [.d (rowsD A)]) (lin_Part_some A n hA hn B π hp) rfl (.inr ⟨fun j hj => ?_, pure_luVB n true, pure_luB B π n⟩)) ?_
  · obtain rfl : j = 0 := by simpa using hj
    exact snp_rows hH (fun r hr => ⟨hX r hr, hA.2 r hr⟩) hA.1 rfl
  have hh : (hdo 2 1 n n).map (V.ren (upF k)) = hdo (2 + k) 1 n n := hdo_ren _ 2 1 n n (2 + k) 1 (fun j _ => rfl)
  have hf : (B.map rowV).map (fun c => c.map (V.ren (upF k))) = B.map rowV := ren_fam _ B
  have hi' : (rowIV π).map (V.ren (upF k)) = rowIV π := ren_rowIV _ _
  simpa only [Heap.up, luH, luV, V.ren, V.renL, hh, hf, hi', upF, List.map_cons, List.map_nil, List.cons_append, List.nil_append] using h
theorem part_nil_namedB {L : Heap} {H r0 X o n : Nat} {A : List (List Nat)} (hA : Sq n A) (hn : n < 2 ^ 40) (hH : L.get H r0 = some (hdo X o n n)) (hX : ∀ r, r < n → L.get X (r + o) = some (rowV (A.getD r [])))
    (hp : partP A n n = none) (K : V → Heap → Prop) (h : K (.tup [.agg [.nil, .nil], fB false]) L) : callG Tryz.prog 66 [.sl H r0 0 n 1 n] L K := by
  refine callG_ac (AC_frame (us := [.d (rowsD A)]) (lin_Part_nil A n hA hn hp) rfl (.inr ⟨fun j hj => ?_, .tup fun j hj => ?_, fun X q cells h => by simp [get_nil] at h⟩)) ?_
  · obtain rfl : j = 0 := by simpa using hj
    exact snp_rows hH (fun r hr => ⟨hX r hr, hA.2 r hr⟩) hA.1 rfl
  · rcases j with _ | _ | j
    · refine .agg fun j hj => ?_
      rcases j with _ | _ | j
      · exact .nil
      · exact .nil
      · simp at hj; omega
    · exact .bool _
    · simp at hj; omega
  · simpa [Heap.up, V.ren, V.renL] using h
end Go.Ab

namespace Go.Ab
set_option linter.unusedSimpArgs false
set_option linter.unusedVariables false
open Nat renaming reduceEqDiff → n1_, reduceAdd → n2_, reduceMul → n3_, reduceLT → n4_, reduceLeDiff → n5_
open Int renaming reduceToNat → i1_, reduceAdd → i2_, reduceSub → i3_, reduceMul → i4_, reduceNeg → i5_, reduceLT → i6_, reduceLE → i7_
open Go Go.Proofs
def solB (t : Tp) (z : List (List Nat)) (l : List Nat) (h : Nat) (w : List Nat) : List Nat × Nat × Int := match partP (matT t z l h) t.n t.n with
  | none => ([], 0, 4)
  | some (B, π) => seek (tryB t z l h w B π) 4 1 (List.replicate t.n 0)
theorem Fz_fn {L L' : Heap} (g : FuncId) (a b a' b' : List V) (h1 : FzA L L' a a') (h2 : FzA L L' b b') : Fz L L' (.fn g a b) (.fn g a' b') :=
  .fn (FzA_at h1).1 (FzA_at h2).1 (FzA_at h1).2 (FzA_at h2).2
abbrev solTB (t : Tp) (z : List (List Nat)) (l : List Nat) (h : Nat) (w d : List Nat) (B : List (List Nat)) (π : List Int) (k : Nat) : T := ⟨[(12, .ptr 1 0 0 3), (13, .ptr 16 0 0 11), (14, .fn 68 [.ptr 16 0 0 11] []), (16, fI k)],
    [(16, [svV t z l h w 14 (.d (rowsD B)) (.d (rowI π))]), (14, [rowV d]), (1, [[.nil, fI 0, fI 0]]), (0, [[fI t.n, .d (opsD t.ops), .d (rowI t.out)]])]⟩
theorem solB_next (t : Tp) (z : List (List Nat)) (l : List Nat) (h : Nat) (w d g : List Nat) (B : List (List Nat)) (π : List Int) (k : Nat) : Le (fun _ => False) (T.s 76 ⟨[(12, .ptr 1 0 0 3), (13, .ptr 16 0 0 11), (14, .fn 68 [.ptr 16 0 0 11] []), (16, fI k)],
    [(124, [rowV g]), (16, [svV t z l h w 124 (.d (rowsD B)) (.d (rowI π))]), (14, [rowV d]), (1, [[.nil, fI 0, fI 0]]), (0, [[fI t.n, .d (opsD t.ops), .d (rowI t.out)]])]⟩) (T.s 76 (solTB t z l h w g B π k)) := by
  refine Le.trans (LeT.only (L' := [(124, [rowV g]), (16, [svV t z l h w 124 (.d (rowsD B)) (.d (rowI π))]), (1, [[.nil, fI 0, fI 0]]), (0, [[fI t.n, .d (opsD t.ops), .d (rowI t.out)]])]) (fun X => X != 14) (fun _ h => h) rfl (by simp [KpS_cons, KpS_nil, KpH_cons, KpH_nil, KpF_cons, KpF_nil, KpF_rows, KpA_cons, KpA_nil, KpA_app, KpA_rowV, KpA_rowIV, KpA_dcells, KpA_outC, Kp_any, Kp_nilv, Kp_d, Kp_ptr, Kp_sl, Kp_agg, Kp_tup, Kp_fn, get_cons, get_nil]) (by simp [KpS_cons, KpS_nil, KpH_cons, KpH_nil, KpF_cons, KpF_nil, KpF_rows, KpA_cons, KpA_nil, KpA_app, KpA_rowV, KpA_rowIV, KpA_dcells, KpA_outC, Kp_any, Kp_nilv, Kp_d, Kp_ptr, Kp_sl, Kp_agg, Kp_tup, Kp_fn, get_cons, get_nil])) ?_
  refine Le.trans (LeT.move 14 (by decide) (by simp [fam_cons, fam_nil]) (by simp [fam_cons, fam_nil]) (fun h => h)) ?_
  have e : renS (absF 124 14 0) [(12, .ptr 1 0 0 3), (13, .ptr 16 0 0 11), (14, .fn 68 [.ptr 16 0 0 11] []), (16, fI k)] = [(12, .ptr 1 0 0 3), (13, .ptr 16 0 0 11), (14, .fn 68 [.ptr 16 0 0 11] []), (16, fI k)] := by
    simp [renS, V.ren, V.renL, absF]
  have e2 : Heap.renH (absF 124 14 0) [(16, [svV t z l h w 124 (.d (rowsD B)) (.d (rowI π))]), (1, [[.nil, fI 0, fI 0]]), (0, [[fI t.n, .d (opsD t.ops), .d (rowI t.out)]])] = [(16, [svV t z l h w 14 (.d (rowsD B)) (.d (rowI π))]), (1, [[.nil, fI 0, fI 0]]), (0, [[fI t.n, .d (opsD t.ops), .d (rowI t.out)]])] := by
    simp [Heap.renH, V.ren, absF]
  rw [e, e2, ren_rowV]
  exact LeT.perm (fun _ h => h) (fun X => .inr (by simp only [fam_cons, fam_nil]; grind)) (by simp [KpS_cons, KpS_nil, KpH_cons, KpH_nil, KpF_cons, KpF_nil, KpF_rows, KpA_cons, KpA_nil, KpA_app, KpA_rowV, KpA_rowIV, KpA_dcells, KpA_outC, Kp_any, Kp_nilv, Kp_d, Kp_ptr, Kp_sl, Kp_agg, Kp_tup, Kp_fn, get_cons, get_nil]) (by simp [KpS_cons, KpS_nil, KpH_cons, KpH_nil, KpF_cons, KpF_nil, KpF_rows, KpA_cons, KpA_nil, KpA_app, KpA_rowV, KpA_rowIV, KpA_dcells, KpA_outC, Kp_any, Kp_nilv, Kp_d, Kp_ptr, Kp_sl, Kp_agg, Kp_tup, Kp_fn, get_cons, get_nil])
theorem seekB_succ (t : Tp) (z : List (List Nat)) (l : List Nat) (h : Nat) (w : List Nat) (B : List (List Nat)) (π : List Int) (f k : Nat) (d : List Nat) : seek (tryB t z l h w B π) (f + 1) k d =
  if finAll (dB t z l h B π d) = false then ([], k, 2) else if fcmp .le (szP (xB t z l h B π d) w) 4562146422526312448 = true then (dB t z l h B π d, k, 0) else if 4 ≤ k then ([], k, 6) else seek (tryB t z l h w B π) f (k + 1) (dB t z l h B π d) := rfl
set_option maxRecDepth 8000 in
theorem solB_gen (L' : Heap) (r : V) (t : Tp) (z : List (List Nat)) (l : List Nat) (h : Nat) (w : List Nat)
    (h1 : ∀ k g, g.length = t.n → solB t z l h w = (g, k, 0) → r = .agg [.sl 129 0 0 t.n 1 t.n, fI k, fI 0] ∧ L' = [(129, [rowV g])])
    (h2 : ∀ k e, solB t z l h w = ([], k, e) → e ≠ 0 → r = .agg [.nil, fI k, fI e] ∧ L' = [])
    (step : Int) (hn0 : 0 < t.n) (ok : Sok t z l w (List.replicate t.n 0)) (hs : Con Tryz.prog 64 [fl (FloatKind.nearest .f64 step), fI (-30)] (fl h)) :
    AC Tryz.prog 36 [tapeV t, .d (rowsD z), .d (rowD l), fI step, fI 1, .d (rowD w)] [] L' r := by
  have ok' := ok
  obtain ⟨ht, hz, hzl, hl, hw, hd⟩ := ok'
  have hn := ht.n
  have hsq := matT_sq t z l h
  refine AC_introA A_corr_Solve_comp rfl mixed (fun _ => False) (by simp [get_nil]) ?_
  simp -implicitDefEqProofs only [evI, hv, effC, reduceCtorEq, ↓reduceIte, n1_, n2_, n3_, n4_, n5_, i1_, i2_, i3_, i4_, i5_, i6_, i7_, A_corr_Solve]
  first | refine callG_con (hs) rfl ?_ | refine callCG_con (hs) rfl ?_ | refine callSG_con (hs) rfl ?_
  simp -implicitDefEqProofs only [evI, hv, effC, reduceCtorEq, ↓reduceIte, n1_, n2_, n3_, n4_, n5_, i1_, i2_, i3_, i4_, i5_, i6_, i7_, fnOf_first]
  (repeat (with_reducible refine And.intro (by omega) ?_))
  refine callG_rows 200 [.d (.bptr (svC t z l h w (List.replicate t.n 0) .nils .nils))] (by simp [Heap.next]) (matrix_ac t z l h w (List.replicate t.n 0) .nils .nils ok hn0) ⟨snap_sv t z l h w _ .nils .nils (X := 14) (pv := .nil) (qv := .nil) rfl rfl hd .nil .nil, trivial⟩ ?_
  simp -implicitDefEqProofs only [evI, hv, effC, reduceCtorEq, ↓reduceIte, n1_, n2_, n3_, n4_, n5_, i1_, i2_, i3_, i4_, i5_, i6_, i7_]
  have hX : ∀ (L : Heap) r, L.fam 320 = some ((matT t z l h).map rowV) → r < t.n → L.get 320 (r + 0) = some (rowV ((matT t z l h).getD r [])) := fun L r hL hr => by
    unfold Heap.get
    rw [hL, Nat.add_zero]
    have : r < (matT t z l h).length := by rw [hsq.1]; exact hr
    simp [List.getD_eq_getElem?_getD, this]
  obtain hp | ⟨⟨B, π⟩, hp⟩ : partP (matT t z l h) t.n t.n = none ∨ ∃ s, partP (matT t z l h) t.n t.n = some s := by cases partP (matT t z l h) t.n t.n <;> simp
  · have he : solB t z l h w = ([], 0, 4) := by unfold solB; rw [hp]
    obtain ⟨rfl, rfl⟩ := h2 0 4 he (by decide)
    refine part_nil_namedB (X := 320) (o := 0) (A := matT t z l h) hsq (by omega) (by simp [get_cons]) (fun r hr => hX _ r (by simp [fam_cons]) hr) hp _ ?_
    simp -implicitDefEqProofs only [evI, hv, effC, reduceCtorEq, ↓reduceIte, n1_, n2_, n3_, n4_, n5_, i1_, i2_, i3_, i4_, i5_, i6_, i7_, Bool.not_false]
    exact endsT_only (fun _ => false) (fun _ h => h) (resV_cellI (by decide) rfl rfl rfl (by simp) rfl) rfl (by simp [KpS_cons, KpS_nil, KpH_cons, KpH_nil, KpF_cons, KpF_nil, KpF_rows, KpA_cons, KpA_nil, KpA_app, KpA_rowV, KpA_rowIV, KpA_dcells, KpA_outC, Kp_any, Kp_nilv, Kp_d, Kp_ptr, Kp_sl, Kp_agg, Kp_tup, Kp_fn, get_cons, get_nil]) (by simp [KpS_cons, KpS_nil, KpH_cons, KpH_nil, KpF_cons, KpF_nil, KpF_rows, KpA_cons, KpA_nil, KpA_app, KpA_rowV, KpA_rowIV, KpA_dcells, KpA_outC, Kp_any, Kp_nilv, Kp_d, Kp_ptr, Kp_sl, Kp_agg, Kp_tup, Kp_fn, get_cons, get_nil])
  · obtain ⟨hB, hπl⟩ := partP_sq _ _ hsq t.n (Nat.le_refl _) B π hp
    have hπ := partP_pmB _ _ t.n (Nat.le_refl _) B π hp
    have he : solB t z l h w = seek (tryB t z l h w B π) 4 1 (List.replicate t.n 0) := by unfold solB; rw [hp]
    refine part_namedB (X := 320) (o := 0) (A := matT t z l h) 400 (by simp [Heap.next]) hsq (by omega) (by simp [get_cons]) (fun r hr => hX _ r (by simp [fam_cons]) hr) hp _ ?_
    simp -implicitDefEqProofs only [evI, hv, effC, reduceCtorEq, ↓reduceIte, n1_, n2_, n3_, n4_, n5_, i1_, i2_, i3_, i4_, i5_, i6_, i7_, Bool.not_true, fnOf_first]
    have hz1 : ∀ L L' : Heap, L.fam 402 = some (hdo 402 1 t.n t.n :: B.map rowV) → L'.fam 402 = none → Fz L L' (.sl 402 0 0 t.n 1 t.n) (.d (rowsD B)) := fun L L' a b =>
      Fz_rows (X := 402) (o := 1) (len := t.n) (by unfold Heap.get; rw [a]; rfl) (fun r hr => ⟨by
        unfold Heap.get
        rw [a]
        have : r < B.length := by rw [hB.1]; exact hr
        simp [List.getD_eq_getElem?_getD, this], hB.2 r hr⟩) hB.1 rfl b b
    have hz2 : ∀ L L' : Heap, L.get 405 0 = some (rowIV π) → L'.fam 405 = none → Fz L L' (.sl 405 0 0 t.n 1 t.n) (.d (rowI π)) := fun L L' a b => Fz_rowN a hπl rfl b
    rw [he] at h1 h2
    clear he
    generalize List.replicate t.n 0 = d0 at h1 h2 hd
    refine WA_forW (n := 4) (fun c s => ∃ k d, c + k = 5 ∧ (1 ≤ k ∧ k ≤ 4) ∧ d.length = t.n ∧ seek (tryB t z l h w B π) c k d = seek (tryB t z l h w B π) 4 1 d0 ∧ s = solTB t z l h w d B π k) (s0 := solTB t z l h w d0 B π 1) ?_ ⟨1, _, by omega, by omega, hd, rfl, rfl⟩ ?_
    · exact LeT.weak (fun _ h => h) (by simp (maxDischargeDepth := 6) [Fz_rowD, Fz_rowI, Fz_rowsD, FzS_cons, FzS_nil, FzH_cons, FzH_nil, FzF_cons, FzF_nil, FzF_rows, FzA_cons, FzA_nil, FzA_app, FzA_rowV, FzA_dcells, FzA_outC, FzA_data, Fz_d, Fz_nil, Fz_any, Fz_ptr, Fz_sl, Fz_agg, get_cons, get_nil, fam_cons, fam_nil, Fz_fn]) (by simp (maxDischargeDepth := 6) [Fz_rowD, Fz_rowI, Fz_rowsD, FzS_cons, FzS_nil, FzH_cons, FzH_nil, FzF_cons, FzF_nil, FzF_rows, FzA_cons, FzA_nil, FzA_app, FzA_rowV, FzA_dcells, FzA_outC, FzA_data, Fz_d, Fz_nil, Fz_any, Fz_ptr, Fz_sl, Fz_agg, get_cons, get_nil, fam_cons, fam_nil, hz1, hz2])
    rintro c s ⟨k, d, hc, hk, hdl, he, rfl⟩
    have okd : Sok t z l w d := ⟨ht, hz, hzl, hl, hw, hdl⟩
    have hgl : (dB t z l h B π d).length = t.n := tabR_len _ _
    have okg : Sok t z l w (dB t z l h B π d) := ⟨ht, hz, hzl, hl, hw, hgl⟩
    obtain ⟨f, rfl⟩ : ∃ f, c = f + 1 := ⟨c - 1, by omega⟩
    simp -implicitDefEqProofs only [evI, hv, effC, reduceCtorEq, ↓reduceIte, n1_, n2_, n3_, n4_, n5_, i1_, i2_, i3_, i4_, i5_, i6_, i7_, A_corr_Solve_L0]
    refine callG_ac (bdf_ac t z l h w d okd B π hB hπ) ?_
    simp -implicitDefEqProofs only [evI, hv, effC, reduceCtorEq, ↓reduceIte, n1_, n2_, n3_, n4_, n5_, i1_, i2_, i3_, i4_, i5_, i6_, i7_]
    refine callG_snaps [.d (.bptr (svC t z l h w (dB t z l h B π d) (rowsD B) (rowI π)))] (finite_con t z l h w _ (rowsD B) (rowI π) okg) ⟨snap_sv t z l h w _ (rowsD B) (rowI π) (X := 124) (pv := .d (rowsD B)) (qv := .d (rowI π)) rfl rfl hgl (.bare _) (.bare _), trivial⟩ (.bool _) ?_
    simp -implicitDefEqProofs only [evI, hv, effC, reduceCtorEq, ↓reduceIte, n1_, n2_, n3_, n4_, n5_, i1_, i2_, i3_, i4_, i5_, i6_, i7_]
    rw [seekB_succ] at he
    cases hf : finAll (dB t z l h B π d)
    · rw [if_pos hf] at he
      simp -implicitDefEqProofs only [evI, hv, effC, reduceCtorEq, ↓reduceIte, n1_, n2_, n3_, n4_, n5_, i1_, i2_, i3_, i4_, i5_, i6_, i7_, Bool.not_false]
      obtain ⟨rfl, rfl⟩ := h2 k 2 he.symm (by decide)
      exact endsT_only (fun _ => false) (fun _ h => h) (resV_cellI (by decide) rfl rfl rfl (by simp) rfl) rfl (by simp [KpS_cons, KpS_nil, KpH_cons, KpH_nil, KpF_cons, KpF_nil, KpF_rows, KpA_cons, KpA_nil, KpA_app, KpA_rowV, KpA_rowIV, KpA_dcells, KpA_outC, Kp_any, Kp_nilv, Kp_d, Kp_ptr, Kp_sl, Kp_agg, Kp_tup, Kp_fn, get_cons, get_nil]) (by simp [KpS_cons, KpS_nil, KpH_cons, KpH_nil, KpF_cons, KpF_nil, KpF_rows, KpA_cons, KpA_nil, KpA_app, KpA_rowV, KpA_rowIV, KpA_dcells, KpA_outC, Kp_any, Kp_nilv, Kp_d, Kp_ptr, Kp_sl, Kp_agg, Kp_tup, Kp_fn, get_cons, get_nil])
    · rw [if_neg (by rw [hf]; decide)] at he
      simp -implicitDefEqProofs only [evI, hv, effC, reduceCtorEq, ↓reduceIte, n1_, n2_, n3_, n4_, n5_, i1_, i2_, i3_, i4_, i5_, i6_, i7_, Bool.not_true]
      cases hle : fcmp .le (szP (xB t z l h B π d) w) 4562146422526312448
      · rw [if_neg (by rw [hle]; decide)] at he
        simp -implicitDefEqProofs only [evI, hv, effC, reduceCtorEq, ↓reduceIte, n1_, n2_, n3_, n4_, n5_, i1_, i2_, i3_, i4_, i5_, i6_, i7_]
        by_cases h4 : 4 ≤ k
        · rw [if_pos h4] at he
          have h4' : decide ((4 : Int) ≤ (k : Int)) = true := by simp; omega
          simp -implicitDefEqProofs only [evI, hv, effC, reduceCtorEq, ↓reduceIte, n1_, n2_, n3_, n4_, n5_, i1_, i2_, i3_, i4_, i5_, i6_, i7_, h4']
          obtain ⟨rfl, rfl⟩ := h2 k 6 he.symm (by decide)
          exact endsT_only (fun _ => false) (fun _ h => h) (resV_cellI (by decide) rfl rfl rfl (by simp) rfl) rfl (by simp [KpS_cons, KpS_nil, KpH_cons, KpH_nil, KpF_cons, KpF_nil, KpF_rows, KpA_cons, KpA_nil, KpA_app, KpA_rowV, KpA_rowIV, KpA_dcells, KpA_outC, Kp_any, Kp_nilv, Kp_d, Kp_ptr, Kp_sl, Kp_agg, Kp_tup, Kp_fn, get_cons, get_nil]) (by simp [KpS_cons, KpS_nil, KpH_cons, KpH_nil, KpF_cons, KpF_nil, KpF_rows, KpA_cons, KpA_nil, KpA_app, KpA_rowV, KpA_rowIV, KpA_dcells, KpA_outC, Kp_any, Kp_nilv, Kp_d, Kp_ptr, Kp_sl, Kp_agg, Kp_tup, Kp_fn, get_cons, get_nil])
        · rw [if_neg h4] at he
          have h4' : decide ((4 : Int) ≤ (k : Int)) = false := by simp; omega
          simp -implicitDefEqProofs only [evI, hv, effC, reduceCtorEq, ↓reduceIte, n1_, n2_, n3_, n4_, n5_, i1_, i2_, i3_, i4_, i5_, i6_, i7_, h4']
          rw [wrapI (by omega) (by omega)]
          exact ⟨f, _, by omega, solB_next t z l h w d (dB t z l h B π d) B π (k + 1), k + 1, _, by omega, by omega, hgl, he, rfl⟩
      · rw [if_pos hle] at he
        simp -implicitDefEqProofs only [evI, hv, effC, reduceCtorEq, ↓reduceIte, n1_, n2_, n3_, n4_, n5_, i1_, i2_, i3_, i4_, i5_, i6_, i7_]
        have htk : List.take t.n (rowV (dB t z l h B π d)) = rowV (dB t z l h B π d) := List.take_of_length_le (by simp [hgl])
        have hrl : (rowV (dB t z l h B π d)).length = t.n := by simp [hgl]
        rw [if_pos ⟨hgl, by omega⟩, htk]
        simp only []
        (repeat (with_reducible refine And.intro (by omega) ?_))
        obtain ⟨rfl, rfl⟩ := h1 k _ hgl he.symm
        refine ⟨⟨by omega, hrl, by simp [rowV, V.isCell]⟩, ?_⟩
        exact endsT_only (fun X => X == 129) (fun _ h => h) (resV_cellI (by decide) rfl rfl rfl (by simp) rfl) rfl (by simp [KpS_cons, KpS_nil, KpH_cons, KpH_nil, KpF_cons, KpF_nil, KpF_rows, KpA_cons, KpA_nil, KpA_app, KpA_rowV, KpA_rowIV, KpA_dcells, KpA_outC, Kp_any, Kp_nilv, Kp_d, Kp_ptr, Kp_sl, Kp_agg, Kp_tup, Kp_fn, get_cons, get_nil]) (by simp [KpS_cons, KpS_nil, KpH_cons, KpH_nil, KpF_cons, KpF_nil, KpF_rows, KpA_cons, KpA_nil, KpA_app, KpA_rowV, KpA_rowIV, KpA_dcells, KpA_outC, Kp_any, Kp_nilv, Kp_d, Kp_ptr, Kp_sl, Kp_agg, Kp_tup, Kp_fn, get_cons, get_nil])
theorem seekB_len (t : Tp) (z : List (List Nat)) (l : List Nat) (h : Nat) (w : List Nat) (B : List (List Nat)) (π : List Int) (f : Nat) : ∀ (k : Nat) (d g : List Nat) (a : Nat), seek (tryB t z l h w B π) f k d = (g, a, 0) → g.length = t.n := by
  induction f with
  | zero => intro k d g a he; simp [seek] at he
  | succ f ih =>
    intro k d g a he
    rw [seekB_succ] at he
    split at he
    · simp at he
    · split at he
      · injection he with h1 h2
        rw [← h1]; exact tabR_len _ _
      · split at he
        · simp at he
        · exact ih _ _ _ _ he
/-- What is added, by either method. -/
def solG (t : Tp) (z : List (List Nat)) (l : List Nat) (h : Nat) (w : List Nat) (m : Int) : List Nat × Nat × Int := if m = 1 then solB t z l h w else solA t z l h w
theorem seek_form (tr : List Nat → List Nat × Nat) (f : Nat) : ∀ k d, (∃ g a, seek tr f k d = (g, a, 0)) ∨ ∃ a e, e ≠ 0 ∧ seek tr f k d = ([], a, e) := by
  induction f with
  | zero => intro k d; exact .inr ⟨k, 6, by decide, rfl⟩
  | succ f ih =>
    intro k d
    simp only [seek]
    split
    · exact .inr ⟨k, 2, by decide, rfl⟩
    · split
      · exact .inl ⟨_, _, rfl⟩
      · split
        · exact .inr ⟨k, 6, by decide, rfl⟩
        · exact ih _ _
theorem solG_form (t : Tp) (z : List (List Nat)) (l : List Nat) (h : Nat) (w : List Nat) (m : Int) : (∃ g k, g.length = t.n ∧ solG t z l h w m = (g, k, 0)) ∨ ∃ k e, e ≠ 0 ∧ solG t z l h w m = ([], k, e) := by
  unfold solG
  split
  · unfold solB
    cases partP (matT t z l h) t.n t.n with
    | none => exact .inr ⟨0, 4, by decide, rfl⟩
    | some s =>
      obtain ⟨B, π⟩ := s
      rcases seek_form (tryB t z l h w B π) 4 1 (List.replicate t.n 0) with ⟨g, k, hg⟩ | ⟨k, e, he, hk⟩
      · exact .inl ⟨g, k, seekB_len _ _ _ _ _ _ _ _ _ _ _ _ hg, hg⟩
      · exact .inr ⟨k, e, he, hk⟩
  · rcases seek_form (tryA t z l h w) 4 1 (List.replicate t.n 0) with ⟨g, k, hg⟩ | ⟨k, e, he, hk⟩
    · exact .inl ⟨g, k, seekA_len _ _ _ _ _ _ _ _ _ _ hg, hg⟩
    · exact .inr ⟨k, e, he, hk⟩
theorem corr_SolveG_ok (t : Tp) (z : List (List Nat)) (l : List Nat) (h : Nat) (w : List Nat) (step : Int) (m : Int) (hn0 : 0 < t.n) (ok : Sok t z l w (List.replicate t.n 0)) (hs : Con Tryz.prog 64 [fl (FloatKind.nearest .f64 step), fI (-30)] (fl h))
    (g : List Nat) (k : Nat) (hg : solG t z l h w m = (g, k, 0)) : AC Tryz.prog 36 [tapeV t, .d (rowsD z), .d (rowD l), fI step, fI m, .d (rowD w)] [] [(0, [rowV g])] (.agg [.sl 0 0 0 t.n 1 t.n, fI k, fI 0]) := by
  unfold solG at hg
  split at hg
  · rename_i e
    subst e
    refine AC_sum0 (X := 129) (solB_gen _ _ t z l h w (fun k' g' _ he => ?_) (fun k' e he hne => ?_) step hn0 ok hs)
    · rw [hg] at he
      simp only [Prod.mk.injEq] at he
      obtain ⟨rfl, rfl, _⟩ := he
      exact ⟨rfl, rfl⟩
    · rw [hg] at he
      simp only [Prod.mk.injEq] at he
      exact absurd he.2.2.symm hne
  · rename_i e
    exact corr_Solve_ok t z l h w step m e ok hs g k hg
theorem corr_SolveG_no (t : Tp) (z : List (List Nat)) (l : List Nat) (h : Nat) (w : List Nat) (step : Int) (m : Int) (hn0 : 0 < t.n) (ok : Sok t z l w (List.replicate t.n 0)) (hs : Con Tryz.prog 64 [fl (FloatKind.nearest .f64 step), fI (-30)] (fl h))
    (k : Nat) (e : Int) (hne : e ≠ 0) (hg : solG t z l h w m = ([], k, e)) : AC Tryz.prog 36 [tapeV t, .d (rowsD z), .d (rowD l), fI step, fI m, .d (rowD w)] [] [] (.agg [.nil, fI k, fI e]) := by
  unfold solG at hg
  split at hg
  · rename_i e
    subst e
    refine solB_gen _ _ t z l h w (fun k' g' _ he => ?_) (fun k' e' he hne' => ?_) step hn0 ok hs
    · rw [hg] at he
      simp only [Prod.mk.injEq] at he
      exact absurd he.2.2 hne
    · rw [hg] at he
      simp only [Prod.mk.injEq] at he
      obtain ⟨_, rfl, rfl⟩ := he
      exact ⟨rfl, rfl⟩
  · rename_i e'
    exact corr_Solve_no t z l h w step m e' ok hs k e hne hg
end Go.Ab
