/- Part 14: SF, CH, SH, SI. -/
import Derived.Test.YtdnldhnjbnpbcaaGreatGM
namespace Go.Ab
set_option linter.unusedSimpArgs false
set_option linter.unusedVariables false
open Nat renaming reduceEqDiff → n1_, reduceAdd → n2_, reduceMul → n3_, reduceLT → n4_, reduceLeDiff → n5_
open Int renaming reduceToNat → i1_, reduceAdd → i2_, reduceSub → i3_, reduceMul → i4_, reduceNeg → i5_, reduceLT → i6_, reduceLE → i7_
open Go Go.Proofs
def A_nord_rows_float64_own_L0 : CA := (.seq (.reg [i_X 0 12 (.h (.ibin .lss (.t 11) (.t 10)))] [3, 9, 10, 11, 12]) (.seq (.cond (.t 12) .skip (.exit 0)) (.seq (.block 1 (.seq (.reg [i_M 0 13 11, i_X 1 14 (.h (.idx (.t 9) (.t 11) 1)), i_L 2 15 14 1, i_M 3 4 13, i_M 4 5 15] [3, 4, 5, 9, 10, 11]) (.seq (.reg [i_M 0 16 3, i_M 1 17 4, i_M 2 18 5, i_X 3 19 (.app (.k .nil) (.t 18) 1 8), i_X 4 20 (.h (.idx (.t 16) (.t 17) 1)), i_S 5 20 19 1] [3, 4, 5, 9, 10, 11]) (.reg [i_M 0 21 3, i_M 1 22 4, i_M 2 23 3, i_M 3 24 4, i_X 4 25 (.h (.idx (.t 23) (.t 24) 1)), i_L 5 26 25 1, i_M 6 27 5, i_X 7 28 (.h (.len (.t 27))), i_M 8 29 5, i_X 9 30 (.h (.len (.t 29))), i_X 10 31 (.h (.slc (.t 26) none (some (.t 28)) (some (.t 30)) 1)), i_X 11 32 (.h (.idx (.t 21) (.t 22) 1)), i_S 12 32 31 1] [3, 9, 10, 11])))) (.reg [i_X 0 33 (.h (.ibin .add (.t 11) (.k (.d (.int .i64 1))))), i_M 1 11 33] [3, 9, 10, 11]))))
def A_nord_rows_float64_own : CA := (.seq (.reg [i_X 0 2 (.h (.mov (.k .nil)))] [0]) (.seq (.reg [i_M 0 6 0, i_X 1 7 (.h (.len (.t 6))), i_X 2 8 (.mksl [.nil] 1 24 (.t 7) (.t 7) 30), i_M 3 3 8] [0, 3]) (.seq (.seq (.reg [i_M 0 9 0, i_X 1 10 (.h (.len (.t 9))), i_X 2 11 (.h (.mov (.k (.d (.int .i64 0)))))] [3, 9, 10, 11]) (.block 0 (.loop A_nord_rows_float64_own_L0))) (.seq (.reg [i_M 0 34 3, i_M 1 2 34] [2]) .ret))))
theorem A_nord_rows_float64_own_comp : compF Tryz.prog 61 = some ⟨35, [(2, none)], A_nord_rows_float64_own.strip⟩ := by kernel_rfl
def A_nord_rows_float64_each_L1 : CA := (.seq (.reg [i_X 0 22 (.h (.ibin .lss (.t 21) (.t 20)))] [1, 5, 6, 12, 13, 19, 20, 21, 22]) (.seq (.cond (.t 22) .skip (.exit 2)) (.seq (.block 3 (.seq (.reg [i_M 0 23 21, i_X 1 24 (.h (.idx (.t 19) (.t 21) 1)), i_L 2 25 24 1, i_M 3 7 23, i_M 4 8 25] [1, 5, 6, 7, 8, 12, 13, 19, 20, 21]) (.reg [i_M 0 26 5, i_M 1 27 6, i_X 2 28 (.h (.idx (.t 26) (.t 27) 1)), i_L 3 29 28 1, i_M 4 30 7, i_M 5 31 1, i_M 6 32 6, i_M 7 33 7, i_M 8 34 8, i_X 9 35 (.callS 9 (.t 31) [(.t 32), (.t 33), (.t 34)]), i_X 10 36 (.h (.idx (.t 29) (.t 30) 1)), i_S 11 36 35 1] [1, 5, 6, 12, 13, 19, 20, 21]))) (.reg [i_X 0 37 (.h (.ibin .add (.t 21) (.k (.d (.int .i64 1))))), i_M 1 21 37] [1, 5, 6, 12, 13, 19, 20, 21]))))
def A_nord_rows_float64_each_L0 : CA := (.seq (.reg [i_X 0 14 (.h (.ibin .lss (.t 13) (.t 12)))] [1, 5, 12, 13, 14]) (.seq (.cond (.t 14) .skip (.exit 0)) (.seq (.block 1 (.seq (.reg [i_M 0 15 13, i_M 1 6 15] [1, 5, 6, 12, 13]) (.seq (.reg [i_M 0 16 5, i_M 1 17 6, i_X 2 18 (.h (.idx (.t 16) (.t 17) 1)), i_L 3 19 18 1, i_X 4 20 (.h (.len (.t 19))), i_X 5 21 (.h (.mov (.k (.d (.int .i64 0)))))] [1, 5, 6, 12, 13, 19, 20, 21]) (.block 2 (.loop A_nord_rows_float64_each_L1))))) (.reg [i_X 0 38 (.h (.ibin .add (.t 13) (.k (.d (.int .i64 1))))), i_M 1 13 38] [1, 5, 12, 13]))))
def A_nord_rows_float64_each : CA := (.seq (.reg [i_X 0 4 (.h (.mov (.k .nil)))] [0, 1]) (.seq (.reg [i_M 0 9 0, i_X 1 10 (.callA (.k (.d (.fn 61 [] []))) [(.t 9)]), i_M 2 5 10] [1, 5]) (.seq (.seq (.reg [i_M 0 11 5, i_X 1 12 (.h (.len (.t 11))), i_X 2 13 (.h (.mov (.k (.d (.int .i64 0)))))] [1, 5, 12, 13]) (.block 0 (.loop A_nord_rows_float64_each_L0))) (.seq (.reg [i_M 0 39 5, i_M 1 4 39] [4]) .ret))))
theorem A_nord_rows_float64_each_comp : compF Tryz.prog 72 = some ⟨40, [(4, none)], A_nord_rows_float64_each.strip⟩ := by kernel_rfl
def A_nord_Predict_L2 : CA := (.seq (.reg [i_X 0 32 (.h (.ibin .lss (.t 31) (.t 30)))] [3, 4, 5, 6, 30, 31, 32]) (.seq (.cond (.t 32) .skip (.exit 4)) (.seq (.block 5 (.seq (.reg [i_M 0 33 31, i_M 1 7 33] [3, 4, 5, 6, 7, 30, 31]) (.reg [i_M 0 34 3, i_M 1 35 6, i_X 2 36 (.h (.idx (.t 34) (.t 35) 1)), i_L 3 37 36 1, i_M 4 38 7, i_M 5 39 3, i_M 6 40 6, i_X 7 41 (.h (.idx (.t 39) (.t 40) 1)), i_L 8 42 41 1, i_M 9 43 7, i_X 10 44 (.h (.idx (.t 42) (.t 43) 1)), i_L 11 45 44 1, i_M 12 46 3, i_M 13 47 6, i_X 14 48 (.h (.ibin .add (.t 47) (.k (.d (.int .i64 1))))), i_X 15 49 (.h (.idx (.t 46) (.t 48) 1)), i_L 16 50 49 1, i_M 17 51 7, i_X 18 52 (.h (.idx (.t 50) (.t 51) 1)), i_L 19 53 52 1, i_X 20 54 (.h (.fbin .add (.t 45) (.t 53))), i_X 21 55 (.h (.idx (.t 37) (.t 38) 1)), i_S 22 55 54 1] [3, 4, 5, 6, 30, 31]))) (.reg [i_X 0 56 (.h (.ibin .add (.t 31) (.k (.d (.int .i64 1))))), i_M 1 31 56] [3, 4, 5, 6, 30, 31]))))
def A_nord_Predict_L1 : CA := (.seq (.seq (.reg [i_M 0 20 6, i_M 1 21 5, i_X 2 22 (.h (.ibin .sub (.t 21) (.k (.d (.int .i64 1))))), i_X 3 23 (.h (.ibin .geq (.t 20) (.t 22)))] [3, 4, 5, 6, 23]) (.cond (.t 23) .skip (.exit 2))) (.seq (.block 3 (.seq (.reg [i_M 0 26 3, i_M 1 27 6, i_X 2 28 (.h (.idx (.t 26) (.t 27) 1)), i_L 3 29 28 1, i_X 4 30 (.h (.len (.t 29))), i_X 5 31 (.h (.mov (.k (.d (.int .i64 0)))))] [3, 4, 5, 6, 30, 31]) (.block 4 (.loop A_nord_Predict_L2)))) (.reg [i_M 0 24 6, i_X 1 25 (.h (.ibin .sub (.t 24) (.k (.d (.int .i64 1))))), i_M 2 6 25] [3, 4, 5, 6])))
def A_nord_Predict_L0 : CA := (.seq (.seq (.reg [i_M 0 13 5, i_M 1 14 4, i_X 2 15 (.h (.ibin .leq (.t 13) (.t 14)))] [3, 4, 5, 15]) (.cond (.t 15) .skip (.exit 0))) (.seq (.block 1 (.seq (.reg [i_M 0 18 4, i_X 1 19 (.h (.ibin .sub (.t 18) (.k (.d (.int .i64 1))))), i_M 2 6 19] [3, 4, 5, 6]) (.block 2 (.loop A_nord_Predict_L1)))) (.reg [i_M 0 16 5, i_X 1 17 (.h (.ibin .add (.t 16) (.k (.d (.int .i64 1))))), i_M 2 5 17] [3, 4, 5])))
def A_nord_Predict : CA := (.seq (.reg [i_X 0 2 (.h (.mov (.k .nil)))] [0]) (.seq (.reg [i_M 0 8 0, i_X 1 9 (.callA (.k (.d (.fn 61 [] []))) [(.t 8)]), i_M 2 3 9] [3]) (.seq (.reg [i_M 0 10 3, i_X 1 11 (.h (.len (.t 10))), i_X 2 12 (.h (.ibin .sub (.t 11) (.k (.d (.int .i64 1))))), i_M 3 4 12] [3, 4]) (.seq (.seq (.reg [i_X 0 5 (.h (.mov (.k (.d (.int .i64 1)))))] [3, 4, 5]) (.block 0 (.loop A_nord_Predict_L0))) (.seq (.reg [i_M 0 57 3, i_M 1 2 57] [2]) .ret)))))
theorem A_nord_Predict_comp : compF Tryz.prog 33 = some ⟨58, [(2, none)], A_nord_Predict.strip⟩ := by kernel_rfl
def A_nord_Correct_1 : CA := (.seq (.reg [i_X 0 8 (.h (.mov (.k (.d (.flt 0)))))] [0, 1, 2, 3, 4]) (.seq (.reg [i_M 0 9 2, i_L 1 10 3 1, i_M 2 11 0, i_X 3 12 (.h (.idx (.t 10) (.t 11) 1)), i_L 4 13 12 1, i_L 5 14 4 1, i_M 6 15 1, i_X 7 16 (.h (.idx (.t 14) (.t 15) 1)), i_L 8 17 16 1, i_X 9 18 (.h (.fbin .mul (.t 13) (.t 17))), i_X 10 19 (.h (.fbin .add (.t 9) (.t 18))), i_M 11 8 19] [8]) .ret))
theorem A_nord_Correct_1_comp : compF Tryz.prog 73 = some ⟨20, [(8, none)], A_nord_Correct_1.strip⟩ := by kernel_rfl
def A_nord_Correct : CA := (.seq (.reg [i_X 0 4 (.box (.t 1) 1 30), i_X 1 5 (.box (.t 2) 1 30), i_X 2 6 (.h (.mov (.k .nil)))] [0, 4, 5]) (.seq (.reg [i_M 0 7 0, i_X 1 8 (.h (.mkfn 73 [] [(.t 4), (.t 5)])), i_X 2 9 (.callA (.k (.d (.fn 72 [] []))) [(.t 7), (.t 8)]), i_M 3 6 9] [6]) .ret))
theorem A_nord_Correct_comp : compF Tryz.prog 38 = some ⟨10, [(6, none)], A_nord_Correct.strip⟩ := by kernel_rfl
def A_nord_Rescale_1 : CA := (.seq (.reg [i_X 0 7 (.h (.mov (.k (.d (.flt 0)))))] [0, 2, 3]) (.seq (.reg [i_M 0 8 2, i_M 1 9 0, i_L 2 10 3 1, i_X 3 11 (.h (.ibin .mul (.t 9) (.t 10))), i_X 4 12 (.callA (.k (.d (.fn 64 [] []))) [(.t 8), (.t 11)]), i_M 5 7 12] [7]) .ret))
theorem A_nord_Rescale_1_comp : compF Tryz.prog 75 = some ⟨13, [(7, none)], A_nord_Rescale_1.strip⟩ := by kernel_rfl
def A_nord_Rescale : CA := (.seq (.reg [i_X 0 3 (.box (.t 1) 1 3), i_X 1 4 (.h (.mov (.k .nil)))] [0, 3]) (.seq (.reg [i_M 0 5 0, i_X 1 6 (.h (.mkfn 75 [] [(.t 3)])), i_X 2 7 (.callA (.k (.d (.fn 72 [] []))) [(.t 5), (.t 6)]), i_M 3 4 7] [4]) .ret))
theorem A_nord_Rescale_comp : compF Tryz.prog 41 = some ⟨8, [(4, none)], A_nord_Rescale.strip⟩ := by kernel_rfl
def A_nord_Start_L0 : CA := (.seq (.reg [i_X 0 22 (.h (.ibin .lss (.t 21) (.t 20)))] [1, 2, 6, 7, 8, 19, 20, 21, 22]) (.seq (.cond (.t 22) .skip (.exit 0)) (.seq (.block 1 (.seq (.reg [i_X 0 23 (.h (.idx (.t 19) (.t 21) 1)), i_L 1 24 23 1, i_M 2 10 24] [1, 2, 6, 7, 8, 10, 19, 20, 21]) (.reg [i_M 0 25 8, i_M 1 26 7, i_M 2 27 10, i_X 3 28 (.h (.fbin .mul (.t 26) (.t 27))), i_X 4 29 (.bslice [(.d (.flt 0))] 1 1 [(0, (1, (.t 28)))] 31), i_X 5 30 (.app (.t 25) (.t 29) 1 8), i_M 6 8 30] [1, 2, 6, 7, 8, 19, 20, 21]))) (.reg [i_X 0 31 (.h (.ibin .add (.t 21) (.k (.d (.int .i64 1))))), i_M 1 21 31] [1, 2, 6, 7, 8, 19, 20, 21]))))
def A_nord_Start : CA := (.seq (.reg [i_X 0 3 (.box (.t 0) 3 28), i_X 1 6 (.alloc [(.d (.int .i64 0)), (.d (.int .i64 0)), (.d (.int .i64 0)), (.d (.int .i64 0)), .nil] 37)] [1, 2, 3, 6]) (.seq (.reg [i_M 0 11 2, i_X 1 12 (.h (.i2f (.t 11))), i_X 2 13 (.callA (.k (.d (.fn 64 [] []))) [(.t 12), (.k (.d (.int .i64 (-30))))]), i_M 3 7 13] [1, 2, 3, 6, 7]) (.seq (.reg [i_M 0 14 1, i_X 1 15 (.h (.len (.t 14))), i_X 2 16 (.mksl [(.d (.flt 0))] 1 8 (.k (.d (.int .i64 0))) (.t 15) 31), i_M 3 8 16] [1, 2, 3, 6, 7, 8]) (.seq (.seq (.reg [i_A 0 17 3 3, i_M 1 18 1, i_X 2 19 (.callA (.k (.d (.fn 105 [] []))) [(.t 17), (.t 18)]), i_X 3 20 (.h (.len (.t 19))), i_X 4 21 (.h (.mov (.k (.d (.int .i64 0)))))] [1, 2, 6, 7, 8, 19, 20, 21]) (.block 0 (.loop A_nord_Start_L0))) (.seq (.reg [i_M 0 32 2, i_M 1 33 1, i_X 2 34 (.app (.k .nil) (.t 33) 1 8), i_M 3 35 8, i_X 4 36 (.app (.k .nil) (.t 35) 1 8), i_X 5 37 (.bslice [.nil, .nil] 2 1 [(0, (1, (.t 34))), (1, (1, (.t 36)))] 30), i_X 6 38 (.h (.build [(.d (.int .i64 0)), (.d (.int .i64 0)), (.d (.int .i64 0)), (.d (.int .i64 0)), .nil] [(1, (1, (.t 32))), (2, (1, (.k (.d (.int .i64 1))))), (3, (1, (.k (.d (.int .i64 0))))), (4, (1, (.t 37)))])), i_S 7 6 38 5] [6]) .ret)))))
theorem A_nord_Start_comp : compF Tryz.prog 76 = some ⟨39, [(6, (some (5, true)))], A_nord_Start.strip⟩ := by kernel_rfl
def A_r8_copied_L0 : CA := (.seq (.seq (.reg [i_M 0 5 4, i_M 1 6 0, i_X 2 7 (.h (.len (.t 6))), i_X 3 8 (.h (.ibin .lss (.t 5) (.t 7)))] [0, 3, 4, 8]) (.cond (.t 8) .skip (.exit 0))) (.seq (.block 1 (.reg [i_M 0 11 3, i_X 1 12 (.bslice [] 0 1 [] 31), i_M 2 13 0, i_M 3 14 4, i_X 4 15 (.h (.idx (.t 13) (.t 14) 1)), i_L 5 16 15 1, i_X 6 17 (.app (.t 12) (.t 16) 1 8), i_X 7 18 (.bslice [.nil] 1 1 [(0, (1, (.t 17)))] 30), i_X 8 19 (.app (.t 11) (.t 18) 1 24), i_M 9 3 19] [0, 3, 4])) (.reg [i_M 0 9 4, i_X 1 10 (.h (.ibin .add (.t 9) (.k (.d (.int .i64 1))))), i_M 2 4 10] [0, 3, 4])))
def A_r8_copied : CA := (.seq (.reg [i_X 0 2 (.h (.mov (.k .nil)))] [0]) (.seq (.reg [i_X 0 3 (.h (.mov (.k .nil)))] [0, 3]) (.seq (.seq (.reg [i_X 0 4 (.h (.mov (.k (.d (.int .i64 0)))))] [0, 3, 4]) (.block 0 (.loop A_r8_copied_L0))) (.seq (.reg [i_M 0 20 3, i_M 1 2 20] [2]) .ret))))
theorem A_r8_copied_comp : compF Tryz.prog 49 = some ⟨21, [(2, none)], A_r8_copied.strip⟩ := by kernel_rfl
def A_r8_Predict_L2 : CA := (.seq (.seq (.reg [i_M 0 26 7, i_M 1 27 3, i_M 2 28 6, i_X 3 29 (.h (.idx (.t 27) (.t 28) 1)), i_L 4 30 29 1, i_X 5 31 (.h (.len (.t 30))), i_X 6 32 (.h (.ibin .lss (.t 26) (.t 31)))] [3, 4, 5, 6, 7, 32]) (.cond (.t 32) .skip (.exit 4))) (.seq (.block 5 (.reg [i_M 0 35 3, i_M 1 36 6, i_X 2 37 (.h (.idx (.t 35) (.t 36) 1)), i_L 3 38 37 1, i_M 4 39 7, i_M 5 40 3, i_M 6 41 6, i_X 7 42 (.h (.idx (.t 40) (.t 41) 1)), i_L 8 43 42 1, i_M 9 44 7, i_X 10 45 (.h (.idx (.t 43) (.t 44) 1)), i_L 11 46 45 1, i_M 12 47 3, i_M 13 48 6, i_X 14 49 (.h (.ibin .add (.t 48) (.k (.d (.int .i64 1))))), i_X 15 50 (.h (.idx (.t 47) (.t 49) 1)), i_L 16 51 50 1, i_M 17 52 7, i_X 18 53 (.h (.idx (.t 51) (.t 52) 1)), i_L 19 54 53 1, i_X 20 55 (.h (.fbin .add (.t 46) (.t 54))), i_X 21 56 (.h (.idx (.t 38) (.t 39) 1)), i_S 22 56 55 1] [3, 4, 5, 6, 7])) (.reg [i_M 0 33 7, i_X 1 34 (.h (.ibin .add (.t 33) (.k (.d (.int .i64 1))))), i_M 2 7 34] [3, 4, 5, 6, 7])))
def A_r8_Predict_L1 : CA := (.seq (.seq (.reg [i_M 0 20 6, i_M 1 21 5, i_X 2 22 (.h (.ibin .sub (.t 21) (.k (.d (.int .i64 1))))), i_X 3 23 (.h (.ibin .geq (.t 20) (.t 22)))] [3, 4, 5, 6, 23]) (.cond (.t 23) .skip (.exit 2))) (.seq (.block 3 (.seq (.reg [i_X 0 7 (.h (.mov (.k (.d (.int .i64 0)))))] [3, 4, 5, 6, 7]) (.block 4 (.loop A_r8_Predict_L2)))) (.reg [i_M 0 24 6, i_X 1 25 (.h (.ibin .sub (.t 24) (.k (.d (.int .i64 1))))), i_M 2 6 25] [3, 4, 5, 6])))
def A_r8_Predict_L0 : CA := (.seq (.seq (.reg [i_M 0 13 5, i_M 1 14 4, i_X 2 15 (.h (.ibin .leq (.t 13) (.t 14)))] [3, 4, 5, 15]) (.cond (.t 15) .skip (.exit 0))) (.seq (.block 1 (.seq (.reg [i_M 0 18 4, i_X 1 19 (.h (.ibin .sub (.t 18) (.k (.d (.int .i64 1))))), i_M 2 6 19] [3, 4, 5, 6]) (.block 2 (.loop A_r8_Predict_L1)))) (.reg [i_M 0 16 5, i_X 1 17 (.h (.ibin .add (.t 16) (.k (.d (.int .i64 1))))), i_M 2 5 17] [3, 4, 5])))
def A_r8_Predict : CA := (.seq (.reg [i_X 0 2 (.h (.mov (.k .nil)))] [0]) (.seq (.reg [i_M 0 8 0, i_X 1 9 (.callA (.k (.d (.fn 49 [] []))) [(.t 8)]), i_M 2 3 9] [3]) (.seq (.reg [i_M 0 10 3, i_X 1 11 (.h (.len (.t 10))), i_X 2 12 (.h (.ibin .sub (.t 11) (.k (.d (.int .i64 1))))), i_M 3 4 12] [3, 4]) (.seq (.seq (.reg [i_X 0 5 (.h (.mov (.k (.d (.int .i64 1)))))] [3, 4, 5]) (.block 0 (.loop A_r8_Predict_L0))) (.seq (.reg [i_M 0 57 3, i_M 1 2 57] [2]) .ret)))))
theorem A_r8_Predict_comp : compF Tryz.prog 24 = some ⟨58, [(2, none)], A_r8_Predict.strip⟩ := by kernel_rfl
def A_r8_Correct_L1 : CA := (.seq (.seq (.reg [i_M 0 19 9, i_M 1 20 2, i_X 2 21 (.h (.len (.t 20))), i_X 3 22 (.h (.ibin .lss (.t 19) (.t 21)))] [1, 2, 7, 8, 9, 22]) (.cond (.t 22) .skip (.exit 2))) (.seq (.block 3 (.seq (.reg [i_M 0 25 1, i_M 1 26 8, i_X 2 27 (.h (.idx (.t 25) (.t 26) 1)), i_L 3 28 27 1, i_M 4 29 2, i_M 5 30 9, i_X 6 31 (.h (.idx (.t 29) (.t 30) 1)), i_L 7 32 31 1, i_X 8 33 (.h (.fbin .mul (.t 28) (.t 32))), i_M 9 10 33] [1, 2, 7, 8, 9, 10]) (.reg [i_M 0 34 7, i_M 1 35 8, i_X 2 36 (.h (.idx (.t 34) (.t 35) 1)), i_L 3 37 36 1, i_M 4 38 9, i_M 5 39 7, i_M 6 40 8, i_X 7 41 (.h (.idx (.t 39) (.t 40) 1)), i_L 8 42 41 1, i_M 9 43 9, i_X 10 44 (.h (.idx (.t 42) (.t 43) 1)), i_L 11 45 44 1, i_M 12 46 10, i_X 13 47 (.h (.fbin .add (.t 45) (.t 46))), i_X 14 48 (.h (.idx (.t 37) (.t 38) 1)), i_S 15 48 47 1] [1, 2, 7, 8, 9]))) (.reg [i_M 0 23 9, i_X 1 24 (.h (.ibin .add (.t 23) (.k (.d (.int .i64 1))))), i_M 2 9 24] [1, 2, 7, 8, 9])))
def A_r8_Correct_L0 : CA := (.seq (.seq (.reg [i_M 0 13 8, i_M 1 14 7, i_X 2 15 (.h (.len (.t 14))), i_X 3 16 (.h (.ibin .lss (.t 13) (.t 15)))] [1, 2, 7, 8, 16]) (.cond (.t 16) .skip (.exit 0))) (.seq (.block 1 (.seq (.reg [i_X 0 9 (.h (.mov (.k (.d (.int .i64 0)))))] [1, 2, 7, 8, 9]) (.block 2 (.loop A_r8_Correct_L1)))) (.reg [i_M 0 17 8, i_X 1 18 (.h (.ibin .add (.t 17) (.k (.d (.int .i64 1))))), i_M 2 8 18] [1, 2, 7, 8])))
def A_r8_Correct : CA := (.seq (.reg [i_X 0 6 (.h (.mov (.k .nil)))] [0, 1, 2]) (.seq (.reg [i_M 0 11 0, i_X 1 12 (.callA (.k (.d (.fn 49 [] []))) [(.t 11)]), i_M 2 7 12] [1, 2, 7]) (.seq (.seq (.reg [i_X 0 8 (.h (.mov (.k (.d (.int .i64 0)))))] [1, 2, 7, 8]) (.block 0 (.loop A_r8_Correct_L0))) (.seq (.reg [i_M 0 49 7, i_M 1 6 49] [6]) .ret))))
theorem A_r8_Correct_comp : compF Tryz.prog 29 = some ⟨50, [(6, none)], A_r8_Correct.strip⟩ := by kernel_rfl
def A_r8_Rescale_L1 : CA := (.seq (.seq (.reg [i_M 0 16 7, i_M 1 17 5, i_M 2 18 6, i_X 3 19 (.h (.idx (.t 17) (.t 18) 1)), i_L 4 20 19 1, i_X 5 21 (.h (.len (.t 20))), i_X 6 22 (.h (.ibin .lss (.t 16) (.t 21)))] [1, 5, 6, 7, 22]) (.cond (.t 22) .skip (.exit 2))) (.seq (.block 3 (.reg [i_M 0 25 5, i_M 1 26 6, i_X 2 27 (.h (.idx (.t 25) (.t 26) 1)), i_L 3 28 27 1, i_M 4 29 7, i_M 5 30 5, i_M 6 31 6, i_X 7 32 (.h (.idx (.t 30) (.t 31) 1)), i_L 8 33 32 1, i_M 9 34 7, i_X 10 35 (.h (.idx (.t 33) (.t 34) 1)), i_L 11 36 35 1, i_M 12 37 6, i_M 13 38 1, i_X 14 39 (.h (.ibin .mul (.t 37) (.t 38))), i_X 15 40 (.callS 15 (.k (.d (.fn 77 [] []))) [(.t 36), (.t 39)]), i_X 16 41 (.h (.idx (.t 28) (.t 29) 1)), i_S 17 41 40 1] [1, 5, 6, 7])) (.reg [i_M 0 23 7, i_X 1 24 (.h (.ibin .add (.t 23) (.k (.d (.int .i64 1))))), i_M 2 7 24] [1, 5, 6, 7])))
def A_r8_Rescale_L0 : CA := (.seq (.seq (.reg [i_M 0 10 6, i_M 1 11 5, i_X 2 12 (.h (.len (.t 11))), i_X 3 13 (.h (.ibin .lss (.t 10) (.t 12)))] [1, 5, 6, 13]) (.cond (.t 13) .skip (.exit 0))) (.seq (.block 1 (.seq (.reg [i_X 0 7 (.h (.mov (.k (.d (.int .i64 0)))))] [1, 5, 6, 7]) (.block 2 (.loop A_r8_Rescale_L1)))) (.reg [i_M 0 14 6, i_X 1 15 (.h (.ibin .add (.t 14) (.k (.d (.int .i64 1))))), i_M 2 6 15] [1, 5, 6])))
def A_r8_Rescale : CA := (.seq (.reg [i_X 0 4 (.h (.mov (.k .nil)))] [0, 1]) (.seq (.reg [i_M 0 8 0, i_X 1 9 (.callA (.k (.d (.fn 49 [] []))) [(.t 8)]), i_M 2 5 9] [1, 5]) (.seq (.seq (.reg [i_X 0 6 (.h (.mov (.k (.d (.int .i64 0)))))] [1, 5, 6]) (.block 0 (.loop A_r8_Rescale_L0))) (.seq (.reg [i_M 0 42 5, i_M 1 4 42] [4]) .ret))))
theorem A_r8_Rescale_comp : compF Tryz.prog 43 = some ⟨43, [(4, none)], A_r8_Rescale.strip⟩ := by kernel_rfl
def A_r8_Start_L0 : CA := (.seq (.seq (.reg [i_M 0 13 9, i_M 1 14 7, i_X 2 15 (.h (.len (.t 14))), i_X 3 16 (.h (.ibin .lss (.t 13) (.t 15)))] [1, 2, 6, 7, 8, 9, 16]) (.cond (.t 16) .skip (.exit 0))) (.seq (.block 1 (.reg [i_M 0 19 8, i_M 1 20 2, i_X 2 21 (.callS 0 (.k (.d (.fn 51 [] []))) [(.t 20)]), i_M 3 22 7, i_M 4 23 9, i_X 5 24 (.h (.idx (.t 22) (.t 23) 1)), i_L 6 25 24 1, i_X 7 26 (.h (.fbin .mul (.t 21) (.t 25))), i_X 8 27 (.bslice [(.d (.flt 0))] 1 1 [(0, (1, (.t 26)))] 31), i_X 9 28 (.app (.t 19) (.t 27) 1 8), i_M 10 8 28] [1, 2, 6, 7, 8, 9])) (.reg [i_M 0 17 9, i_X 1 18 (.h (.ibin .add (.t 17) (.k (.d (.int .i64 1))))), i_M 2 9 18] [1, 2, 6, 7, 8, 9])))
def A_r8_Start : CA := (.seq (.reg [i_X 0 3 (.box (.t 0) 3 28), i_X 1 6 (.alloc [(.d (.int .i64 0)), (.d (.int .i64 0)), (.d (.int .i64 0)), (.d (.int .i64 0)), .nil] 37)] [1, 2, 3, 6]) (.seq (.reg [i_A 0 10 3 3, i_M 1 11 1, i_X 2 12 (.callA (.k (.d (.fn 60 [] []))) [(.t 10), (.t 11)]), i_M 3 7 12] [1, 2, 6, 7]) (.seq (.reg [i_X 0 8 (.h (.mov (.k .nil)))] [1, 2, 6, 7, 8]) (.seq (.seq (.reg [i_X 0 9 (.h (.mov (.k (.d (.int .i64 0)))))] [1, 2, 6, 7, 8, 9]) (.block 0 (.loop A_r8_Start_L0))) (.seq (.reg [i_M 0 29 2, i_X 1 30 (.bslice [] 0 1 [] 31), i_M 2 31 1, i_X 3 32 (.app (.t 30) (.t 31) 1 8), i_M 4 33 8, i_X 5 34 (.bslice [.nil, .nil] 2 1 [(0, (1, (.t 32))), (1, (1, (.t 33)))] 30), i_X 6 35 (.h (.build [(.d (.int .i64 0)), (.d (.int .i64 0)), (.d (.int .i64 0)), (.d (.int .i64 0)), .nil] [(1, (1, (.t 29))), (2, (1, (.k (.d (.int .i64 1))))), (4, (1, (.t 34)))])), i_S 7 6 35 5] [6]) .ret)))))
theorem A_r8_Start_comp : compF Tryz.prog 32 = some ⟨36, [(6, (some (5, true)))], A_r8_Start.strip⟩ := by kernel_rfl
def A_r1_Scale : CA := (.seq (.reg [i_X 0 4 (.h (.mov (.k (.d (.flt 0)))))] [0, 1]) (.seq (.reg [i_M 0 5 0, i_M 1 6 1, i_X 2 7 (.callA (.k (.d (.fn 91 [] []))) [(.t 5), (.t 6)]), i_M 3 4 7] [4]) .ret))
theorem A_r1_Scale_comp : compF Tryz.prog 77 = some ⟨8, [(4, none)], A_r1_Scale.strip⟩ := by kernel_rfl
set_option maxRecDepth 8000 in
theorem nord_own_ac (A : List (List Nat)) (m n : Nat) (hA : Rk m n A) (hm : m < 2 ^ 30) (hn : n < 2 ^ 40) :
    AC Tryz.prog 61 [.d (rowsD A)] [] [(100, A.map rowV), (2, [hdo 100 0 m n])] (.sl 2 0 0 m 1 m) := by
  obtain ⟨hl, hr⟩ := hA
  subst hl
  refine AC_introA A_nord_rows_float64_own_comp rfl mixed (fun _ => False) (by simp [get_nil]) ?_
  simp -implicitDefEqProofs only [evI, hv, effC, reduceCtorEq, ↓reduceIte, n1_, n2_, n3_, n4_, n5_, i1_, i2_, i3_, i4_, i5_, i6_, i7_, A_nord_rows_float64_own]
  (repeat (with_reducible refine And.intro (by omega) ?_))
  refine WA_forW (n := A.length) (fun c s => ∃ i, c + i = A.length ∧ s = ⟨[(3, .sl 2 0 0 A.length 1 A.length), (9, .d (rowsD A)), (10, fI A.length), (11, fI i)], [(100, (A.take i).map rowV), (2, [hd 100 A.length i n])]⟩) (s0 := ⟨_, _⟩) ?_ ⟨0, rfl, rfl⟩ ?_
  · rw [hd_zero]
    exact LeT.empty (L1 := []) (by simp [fam_cons, fam_nil])
  rintro c s ⟨i, hc, rfl⟩
  simp -implicitDefEqProofs only [evI, hv, effC, reduceCtorEq, ↓reduceIte, n1_, n2_, n3_, n4_, n5_, i1_, i2_, i3_, i4_, i5_, i6_, i7_, A_nord_rows_float64_own_L0]
  refine condC_intro (fun h => ?_) (fun h => ?_)
  · replace h := of_decide_eq_true h
    have e1 := hr i h
    simp -implicitDefEqProofs only [evI, hv, effC, reduceCtorEq, ↓reduceIte, n1_, n2_, n3_, n4_, n5_, i1_, i2_, i3_, i4_, i5_, i6_, i7_, srcCells_row, srcLen_bor, hd_set_get _ _ _ _ _ h]
    (repeat (with_reducible refine And.intro (by omega) ?_))
    refine ⟨0, (A.getD i []).length, (A.getD i []).length, rfl, ⟨_, rfl⟩, ⟨_, rfl⟩, by omega, by omega, by omega, ?_⟩
    (repeat (with_reducible refine And.intro (by omega) ?_))
    rw [wrapI (by omega) (by omega)]
    refine ⟨c - 1, _, by omega, LeT.absorb (by decide) rfl rfl (fun h => h), i + 1, by omega, ?_⟩
    have e2 : ((A.take i).map rowV).length = i := by simp; omega
    rw [e2, ren_fam, ren_rowV, take_fam A i h]
    simp only [renS, Heap.renH, ren_absF_sl _ _ _ _ _ _ _ _ _ (by decide : (2 : Nat) ≠ 104), ren_d, List.map_cons, List.map_nil, e1, Nat.sub_zero, List.set_set, hd_absorb 104 100 _ _ _ (by decide) h]
    rfl
  · replace h := of_decide_eq_false h
    obtain rfl : i = A.length := by omega
    simp -implicitDefEqProofs only [evI, hv, effC, reduceCtorEq, ↓reduceIte, n1_, n2_, n3_, n4_, n5_, i1_, i2_, i3_, i4_, i5_, i6_, i7_]
    rw [List.take_length, hd_all]
    have hk1 : ∀ L : Heap, L.fam 100 = some (A.map rowV) → KpA L (hdo 100 0 A.length n) := fun L hL => KpA_hdoF hL (Nat.le_refl _)
    exact endsT_only (fun X => decide (X ≤ 100)) (fun _ h => h) (resV_tmpI (t := 2) (by decide) rfl) rfl (by simp (maxDischargeDepth := 6) [KpS_cons, KpS_nil, KpH_cons, KpH_nil, KpF_cons, KpF_nil, KpF_rows, KpA_cons, KpA_nil, KpA_app, KpA_rowV, KpA_rowIV, KpA_dcells, KpA_outC, Kp_any, Kp_nilv, Kp_d, Kp_ptr, Kp_sl, Kp_agg, Kp_tup, Kp_fn, get_cons, get_nil, fam_cons, fam_nil]) (by simp (maxDischargeDepth := 6) [KpS_cons, KpS_nil, KpH_cons, KpH_nil, KpF_cons, KpF_nil, KpF_rows, KpA_cons, KpA_nil, KpA_app, KpA_rowV, KpA_rowIV, KpA_dcells, KpA_outC, Kp_any, Kp_nilv, Kp_d, Kp_ptr, Kp_sl, Kp_agg, Kp_tup, Kp_fn, get_cons, get_nil, fam_cons, fam_nil, hk1])
theorem Rk_get {m n : Nat} {A : List (List Nat)} (hA : Rk m n A) {L : Heap} {X : Nat} (h : L.fam X = some (A.map rowV)) (r : Nat) (hr : r < m) : L.get X (r + 0) = some (rowV (A.getD r [])) ∧ (A.getD r []).length = n := by
  refine ⟨?_, hA.2 r hr⟩
  unfold Heap.get
  have : r < A.length := by rw [hA.1]; exact hr
  rw [h, Nat.add_zero]
  simp [List.getD_eq_getElem?_getD, this]
theorem Fz_rk {L L' : Heap} {H X m n : Nat} {A : List (List Nat)} (hA : Rk m n A) (h : L.get H 0 = some (hdo X 0 m n)) (hX : L.fam X = some (A.map rowV)) (h1 : L'.fam H = none) (h2 : L'.fam X = none) : Fz L L' (.sl H 0 0 m 1 m) (.d (rowsD A)) :=
  Fz_rows (o := 0) (len := n) h (fun r hr => Rk_get hA hX r hr) hA.1 rfl h1 h2
theorem Con_of_rows {P : Program} {f : FuncId} {vs : List V} {X Y m n : Nat} {A : List (List Nat)} (h : AC P f vs [] [(X, A.map rowV), (Y, [hdo X 0 m n])] (.sl Y 0 0 m 1 m)) (hA : Rk m n A) (hXY : X ≠ Y) : Con P f vs (.d (rowsD A)) :=
  Con_of_AC h (Fz_rk hA (by rw [get_cons, get_cons, if_neg (Ne.symm hXY), if_pos rfl]; rfl) (by rw [fam_cons, if_pos rfl]) (fam_nil _) (fam_nil _))
theorem Fz_rk_app {L L' : Heap} {H X R m n : Nat} {A : List (List Nat)} {xs : List Nat} (hA : Rk m n A) (h : L.get H 0 = some (hdo X 0 m n ++ [.sl R 0 0 n 1 n])) (hX : L.fam X = some (A.map rowV)) (hR : L.get R 0 = some (rowV xs)) (hxs : xs.length = n)
    (h1 : L'.fam H = none) (h2 : L'.fam X = none) (h3 : L'.fam R = none) : Fz L L' (.sl H 0 0 (m + 1) 1 (m + 1)) (.d (rowsD (A ++ [xs]))) := by
  have nf : ∀ X, L'.fam X = none → ∀ r, ∀ Y q, L'.get Y q ≠ none → (Y, q) ≠ (X, r) := fun X hX r Y q hY e => by cases e; exact hY (get_of_fam_none hX _)
  have hl : (A ++ [xs]).length = m + 1 := by simp [hA.1]
  have e : rowsD (A ++ [xs]) = .bor (m + 1) (rowsG (A ++ [xs])) := by unfold rowsD; rw [hl]
  rw [e]
  refine .d (.sl (fun _ Y q hY => nf H h1 0 Y q hY) h (by simp [hdo_length]) (by simp [hdo_length]) (fun i hi => rfl) fun i j hi hj => ?_)
  obtain rfl : j = 0 := by omega
  rw [show 0 + i * 1 + 0 = i by omega, List.getD_eq_getElem?_getD]
  by_cases hi2 : i < m
  · rw [List.getElem?_append_left (by rw [hdo_length]; exact hi2), ← List.getD_eq_getElem?_getD, hdo_getD _ _ _ _ _ hi2]
    have hg := Rk_get hA hX i hi2
    have e2 : (rowsG (A ++ [xs]) i).getD 0 default = rowD (A.getD i []) := by
      show rowD ((A ++ [xs]).getD i []) = _
      rw [List.getD_eq_getElem?_getD, List.getElem?_append_left (by rw [hA.1]; exact hi2), ← List.getD_eq_getElem?_getD]
    rw [e2]
    exact snap_row (fun Y q hY => nf X h2 _ Y q hY) hg.1 hg.2 rfl
  · obtain rfl : i = m := by omega
    rw [List.getElem?_append_right (by rw [hdo_length]; omega), hdo_length, Nat.sub_self]
    have e2 : (rowsG (A ++ [xs]) i).getD 0 default = rowD xs := by
      show rowD ((A ++ [xs]).getD i []) = _
      rw [List.getD_eq_getElem?_getD, List.getElem?_append_right (by rw [hA.1]; omega), hA.1, Nat.sub_self]
      rfl
    rw [e2]
    exact snap_row (fun Y q hY => nf R h3 0 Y q hY) hR hxs rfl
theorem bare_data (cap : List D) : (cap.map V.d).all V.bareB = true := by
  rw [List.all_map, List.all_eq_true]
  intro x _
  rfl
set_option maxRecDepth 8000 in
/-- Rows, each number made anew. -/
theorem nord_each_ac (f : FuncId) (cap : List D) (g : Nat → Nat → Nat → Nat) (A : List (List Nat)) (m n : Nat) (hA : Rk m n A) (hm : m < 2 ^ 30) (hn : n < 2 ^ 40) (hf : ∀ j i x : Nat, j < m → i < n → Con Tryz.prog f (fI j :: fI i :: fl x :: cap.map .d) (fl (g j i x))) :
    AC Tryz.prog 72 [.d (rowsD A), .d (.fn f [] cap)] [] [(100, (mapJ g A n m).map rowV), (2, [hdo 100 0 m n])] (.sl 2 0 0 m 1 m) := by
  refine AC_introA A_nord_rows_float64_each_comp rfl mixed (fun _ => False) (by simp [get_nil]) ?_
  simp -implicitDefEqProofs only [evI, hv, effC, reduceCtorEq, ↓reduceIte, n1_, n2_, n3_, n4_, n5_, i1_, i2_, i3_, i4_, i5_, i6_, i7_, A_nord_rows_float64_each]
  refine callG_rows 0 [.d (rowsD A)] (by simp [Heap.next]) (nord_own_ac A m n hA hm hn) ⟨.bare _, trivial⟩ ?_
  simp -implicitDefEqProofs only [evI, hv, effC, reduceCtorEq, ↓reduceIte, n1_, n2_, n3_, n4_, n5_, i1_, i2_, i3_, i4_, i5_, i6_, i7_]
  refine WA_for (n := m) (fun c s => ∃ j, c + j = m ∧ s = ⟨[(1, .d (.fn f [] cap)), (5, .sl 2 0 0 m 1 m), (12, fI m), (13, fI j)], [(100, (mapJ g A n j).map rowV), (2, [hdo 100 0 m n])]⟩) ⟨0, by omega, rfl⟩ ?_
  rintro c s ⟨j, hc, rfl⟩
  have hZ := mapJ_rk g hA n j
  simp -implicitDefEqProofs only [evI, hv, effC, reduceCtorEq, ↓reduceIte, n1_, n2_, n3_, n4_, n5_, i1_, i2_, i3_, i4_, i5_, i6_, i7_, A_nord_rows_float64_each_L0]
  refine condC_intro (fun hj => ?_) (fun hj => ?_)
  · replace hj := of_decide_eq_true hj
    simp -implicitDefEqProofs only [evI, hv, effC, reduceCtorEq, ↓reduceIte, n1_, n2_, n3_, n4_, n5_, i1_, i2_, i3_, i4_, i5_, i6_, i7_, hdo_getD 100 0 m n j hj]
    (repeat (with_reducible refine And.intro (by omega) ?_))
    refine WA_for (n := n) (fun c s => ∃ i, c + i = n ∧ s = ⟨[(1, .d (.fn f [] cap)), (5, .sl 2 0 0 m 1 m), (6, fI j), (12, fI m), (13, fI j), (19, .sl 100 j 0 n 1 n), (20, fI n), (21, fI i)], [(100, (mapI g (mapJ g A n j) j i).map rowV), (2, [hdo 100 0 m n])]⟩) ⟨0, by omega, rfl⟩ ?_
    rintro c' s ⟨i, hc', rfl⟩
    have hZ2 := mapI_rk g hZ j i
    have hnx : mapI g (mapJ g A n j) j (i + 1) = up2 (mapI g (mapJ g A n j) j i) j i (g j i (at2 (mapI g (mapJ g A n j) j i) j i)) := rfl
    generalize hZe : mapI g (mapJ g A n j) j i = Z at hZ2 hnx
    have hzl := hZ2.1
    have hzj := hZ2.2 j hj
    simp -implicitDefEqProofs only [evI, hv, effC, reduceCtorEq, ↓reduceIte, n1_, n2_, n3_, n4_, n5_, i1_, i2_, i3_, i4_, i5_, i6_, i7_, A_nord_rows_float64_each_L1, hdo_getD 100 0 m n j hj]
    refine condC_intro (fun hi => ?_) (fun hi => ?_)
    · replace hi := of_decide_eq_true hi
      have gk := getD_map_fl (Z.getD j []) i (by omega)
      simp -implicitDefEqProofs only [evI, hv, effC, reduceCtorEq, ↓reduceIte, n1_, n2_, n3_, n4_, n5_, i1_, i2_, i3_, i4_, i5_, i6_, i7_, hdo_getD 100 0 m n j hj, getE Z j (by omega), gk]
      (repeat (with_reducible refine And.intro (by omega) ?_))
      refine callSG_con (hf j i _ hj hi) (by show (true && (true && (true && (cap.map V.d).all V.bareB))) = true; rw [bare_data]; rfl) ?_
      simp -implicitDefEqProofs only [evI, hv, effC, reduceCtorEq, ↓reduceIte, n1_, n2_, n3_, n4_, n5_, i1_, i2_, i3_, i4_, i5_, i6_, i7_, hdo_getD 100 0 m n j hj, getE Z j (by omega), setE]
      (repeat (with_reducible refine And.intro (by omega) ?_))
      rw [wrapI (by omega) (by omega)]
      refine ⟨c' - 1, by omega, i + 1, by omega, ?_⟩
      rw [hnx]
      rfl
    · replace hi := of_decide_eq_false hi
      have e : i = n := by omega
      subst e
      simp -implicitDefEqProofs only [evI, hv, effC, reduceCtorEq, ↓reduceIte, n1_, n2_, n3_, n4_, n5_, i1_, i2_, i3_, i4_, i5_, i6_, i7_]
      rw [wrapI (by omega) (by omega), ← hZe]
      exact ⟨c - 1, by omega, j + 1, by omega, rfl⟩
  · replace hj := of_decide_eq_false hj
    have e : j = m := by omega
    subst e
    simp -implicitDefEqProofs only [evI, hv, effC, reduceCtorEq, ↓reduceIte, n1_, n2_, n3_, n4_, n5_, i1_, i2_, i3_, i4_, i5_, i6_, i7_]
    have hk1 : ∀ L : Heap, L.fam 100 = some ((mapJ g A n j).map rowV) → KpA L (hdo 100 0 j n) := fun L hL => KpA_hdoF hL (by have := hZ.1; omega)
    exact endsT_only (fun X => decide (X ≤ 100)) (fun _ h => h) (resV_tmpI (t := 4) (by decide) rfl) rfl (by simp (maxDischargeDepth := 6) [KpS_cons, KpS_nil, KpH_cons, KpH_nil, KpF_cons, KpF_nil, KpF_rows, KpA_cons, KpA_nil, KpA_app, KpA_rowV, KpA_rowIV, KpA_dcells, KpA_outC, Kp_any, Kp_nilv, Kp_d, Kp_ptr, Kp_sl, Kp_agg, Kp_tup, Kp_fn, get_cons, get_nil, fam_cons, fam_nil]) (by simp (maxDischargeDepth := 6) [KpS_cons, KpS_nil, KpH_cons, KpH_nil, KpF_cons, KpF_nil, KpF_rows, KpA_cons, KpA_nil, KpA_app, KpA_rowV, KpA_rowIV, KpA_dcells, KpA_outC, Kp_any, Kp_nilv, Kp_d, Kp_ptr, Kp_sl, Kp_agg, Kp_tup, Kp_fn, get_cons, get_nil, fam_cons, fam_nil, hk1])
theorem snap_box {L : Heap} {X : Nat} {x : D} (h : L.get X 0 = some [.d x]) : Snap L (.ptr X 0 0 1) (.d (.bptr [x])) :=
  .ptr h rfl (by simp) (by simp) fun j hj => by
    rcases j with _ | j
    · exact .d x
    · simp at hj
theorem nord_Correct1_con (l d : List Nat) (k i x : Nat) (hk : k < l.length) (hi : i < d.length) (hl : l.length < 2 ^ 40) (hd : d.length < 2 ^ 40) :
    Con Tryz.prog 73 [fI k, fI i, fl x, .d (.bptr [rowD l]), .d (.bptr [rowD d])] (fl (fop .add x (fop .mul (l.getD k 0) (d.getD i 0)))) := by
  refine Con_introA A_nord_Correct_1_comp rfl mixed ?_
  simp -implicitDefEqProofs only [evI, hv, effC, reduceCtorEq, ↓reduceIte, n1_, n2_, n3_, n4_, n5_, i1_, i2_, i3_, i4_, i5_, i6_, i7_, A_nord_Correct_1]
  (repeat (with_reducible refine And.intro (by omega) ?_))
  exact endsT_rett rfl (by decide) (by simp [look])
theorem nord_Rescale1_con (k : Int) (hk : -10 ≤ k ∧ k ≤ 10) (j i x : Nat) (hj : j < 1000) : Con Tryz.prog 75 [fI j, fI i, fl x, .d (.bptr [.int .i64 k])] (fl (scl x (j * k))) := by
  refine Con_introA A_nord_Rescale_1_comp rfl mixed ?_
  simp -implicitDefEqProofs only [evI, hv, effC, reduceCtorEq, ↓reduceIte, n1_, n2_, n3_, n4_, n5_, i1_, i2_, i3_, i4_, i5_, i6_, i7_, A_nord_Rescale_1]
  have hjk : -10000 ≤ (j : Int) * k ∧ (j : Int) * k ≤ 10000 := by
    constructor
    · have := Int.mul_le_mul_of_nonneg_left hk.1 (show (0 : Int) ≤ (j : Int) by omega)
      omega
    · have := Int.mul_le_mul_of_nonneg_left hk.2 (show (0 : Int) ≤ (j : Int) by omega)
      omega
  rw [wrapI (by omega) (by omega)]
  first | refine callG_con (fp_Scale_all x ((j : Int) * k) (by omega)) rfl ?_ | refine callCG_con (fp_Scale_all x ((j : Int) * k) (by omega)) rfl ?_ | refine callSG_con (fp_Scale_all x ((j : Int) * k) (by omega)) rfl ?_
  simp -implicitDefEqProofs only [evI, hv, effC, reduceCtorEq, ↓reduceIte, n1_, n2_, n3_, n4_, n5_, i1_, i2_, i3_, i4_, i5_, i6_, i7_]
  exact endsT_rett rfl (by decide) (by simp [look])
set_option maxRecDepth 8000 in
theorem nord_Rescale_ac (A : List (List Nat)) (m n : Nat) (hA : Rk m n A) (hm : m < 1000) (hn : n < 2 ^ 40) (k : Int) (hk : -10 ≤ k ∧ k ≤ 10) :
    AC Tryz.prog 41 [.d (rowsD A), fI k] [] [(101, (scaleP A k m n).map rowV), (3, [hdo 101 0 m n])] (.sl 3 0 0 m 1 m) := by
  refine AC_introA A_nord_Rescale_comp rfl mixed (fun _ => False) (by simp [get_nil]) ?_
  simp -implicitDefEqProofs only [evI, hv, effC, reduceCtorEq, ↓reduceIte, n1_, n2_, n3_, n4_, n5_, i1_, i2_, i3_, i4_, i5_, i6_, i7_, A_nord_Rescale, fnOf_ptr]
  refine callG_rows 1 [.d (rowsD A), .d (.fn 75 [] [.bptr [.int .i64 k]])] (by simp [Heap.next]) (nord_each_ac 75 [.bptr [.int .i64 k]] (fun j _ x => scl x (j * k)) A m n hA (by omega) hn (fun j i x hj hi => nord_Rescale1_con k hk j i x (by omega)))
    ⟨.bare _, .fun1 (snap_box rfl), trivial⟩ ?_
  have hZ := scaleP_rk hA k m n
  have hk1 : ∀ L : Heap, L.fam 101 = some ((scaleP A k m n).map rowV) → KpA L (hdo 101 0 m n) := fun L hL => KpA_hdoF hL (by have := hZ.1; omega)
  have he : mapJ (fun (j _ x : Nat) => scl x ((j : Int) * k)) A n m = scaleP A k m n := rfl
  rw [he]
  simp -implicitDefEqProofs only [evI, hv, effC, reduceCtorEq, ↓reduceIte, n1_, n2_, n3_, n4_, n5_, i1_, i2_, i3_, i4_, i5_, i6_, i7_]
  exact endsT_only (fun X => X == 101 || X == 3) (fun _ h => h) (resV_tmpI (t := 4) (by decide) rfl) rfl (by simp (maxDischargeDepth := 6) [KpS_cons, KpS_nil, KpH_cons, KpH_nil, KpF_cons, KpF_nil, KpF_rows, KpA_cons, KpA_nil, KpA_app, KpA_rowV, KpA_rowIV, KpA_dcells, KpA_outC, Kp_any, Kp_nilv, Kp_d, Kp_ptr, Kp_sl, Kp_agg, Kp_tup, Kp_fn, get_cons, get_nil, fam_cons, fam_nil]) (by simp (maxDischargeDepth := 6) [KpS_cons, KpS_nil, KpH_cons, KpH_nil, KpF_cons, KpF_nil, KpF_rows, KpA_cons, KpA_nil, KpA_app, KpA_rowV, KpA_rowIV, KpA_dcells, KpA_outC, Kp_any, Kp_nilv, Kp_d, Kp_ptr, Kp_sl, Kp_agg, Kp_tup, Kp_fn, get_cons, get_nil, fam_cons, fam_nil, hk1])
theorem nord_Rescale_con (A : List (List Nat)) (m n : Nat) (hA : Rk m n A) (hm : m < 1000) (hn : n < 2 ^ 40) (k : Int) (hk : -10 ≤ k ∧ k ≤ 10) :
    Con Tryz.prog 41 [.d (rowsD A), fI k] (.d (rowsD (scaleP A k m n))) :=
  Con_of_rows (nord_Rescale_ac A m n hA hm hn k hk) (scaleP_rk hA k m n) (by decide)
set_option maxRecDepth 8000 in
theorem nord_Correct_con (A : List (List Nat)) (m n : Nat) (hA : Rk m n A) (hm : m < 1000) (hn : n < 2 ^ 40) (l d : List Nat) (hl : l.length = m) (hd : d.length = n) :
    Con Tryz.prog 38 [.d (rowsD A), .d (rowD l), .d (rowD d)] (.d (rowsD (corrP A l d m n))) := by
  refine Con_introA A_nord_Correct_comp rfl mixed ?_
  simp -implicitDefEqProofs only [evI, hv, effC, reduceCtorEq, ↓reduceIte, n1_, n2_, n3_, n4_, n5_, i1_, i2_, i3_, i4_, i5_, i6_, i7_, A_nord_Correct]
  simp -implicitDefEqProofs only [evI, hv, effC, reduceCtorEq, ↓reduceIte, n1_, n2_, n3_, n4_, n5_, i1_, i2_, i3_, i4_, i5_, i6_, i7_, fnOf_ptr2]
  refine callG_rows 2 [.d (rowsD A), .d (.fn 73 [] [.bptr [rowD l], .bptr [rowD d]])] (by simp [Heap.next]) (nord_each_ac 73 [.bptr [rowD l], .bptr [rowD d]] (fun k i x => fop .add x (fop .mul (l.getD k 0) (d.getD i 0))) A m n hA (by omega) hn (fun j i x hj hi => nord_Correct1_con l d j i x (by omega) (by omega) (by omega) (by omega)))
    ⟨.bare _, .fun2 (snap_box rfl) (snap_box rfl), trivial⟩ ?_
  simp -implicitDefEqProofs only [evI, hv, effC, reduceCtorEq, ↓reduceIte, n1_, n2_, n3_, n4_, n5_, i1_, i2_, i3_, i4_, i5_, i6_, i7_]
  exact endsT_le (.sl 4 0 0 m 1 m) (fun _ h => h) (resV_tmpI (t := 6) (by decide) rfl) (Fz_rk (X := 102) (corrP_rk hA l d m n) rfl rfl rfl rfl)
set_option maxRecDepth 8000 in
theorem nord_Predict_con (A : List (List Nat)) (q n : Nat) (hA : Rk (q + 1) n A) (hm : q < 1000) (hn : n < 2 ^ 40) : Con Tryz.prog 33 [.d (rowsD A)] (.d (rowsD (predP A n q))) := by
  refine Con_introA A_nord_Predict_comp rfl mixed ?_
  simp -implicitDefEqProofs only [evI, hv, effC, reduceCtorEq, ↓reduceIte, n1_, n2_, n3_, n4_, n5_, i1_, i2_, i3_, i4_, i5_, i6_, i7_, A_nord_Predict]
  refine callG_rows 0 [.d (rowsD A)] (by simp [Heap.next]) (nord_own_ac A (q + 1) n hA (by omega) hn) ⟨.bare _, trivial⟩ ?_
  have w1 : IntKind.i64.wrap (((q + 1 : Nat) : Int) - 1) = (q : Int) := by rw [wrapI (by omega) (by omega)]; omega
  simp -implicitDefEqProofs only [evI, hv, effC, reduceCtorEq, ↓reduceIte, n1_, n2_, n3_, n4_, n5_, i1_, i2_, i3_, i4_, i5_, i6_, i7_, w1]
  refine WA_for (n := q + 1) (fun c s => ∃ j, c + j = q + 1 ∧ j ≤ q ∧ s = ⟨[(3, .sl 2 0 0 (q + 1) 1 (q + 1)), (4, fI q), (5, fI (j + 1 : Nat))], [(100, (predJ A n q j).map rowV), (2, [hdo 100 0 (q + 1) n])]⟩) ⟨0, by omega, by omega, rfl⟩ ?_
  rintro c s ⟨j, hc, hjq, rfl⟩
  have hZ := predJ_rk hA q j
  have hnx : predJ A n q (j + 1) = predK (predJ A n q j) n (q - 1) (q - j) := rfl
  generalize hJ : predJ A n q j = Z at hZ hnx
  simp -implicitDefEqProofs only [evI, hv, effC, reduceCtorEq, ↓reduceIte, n1_, n2_, n3_, n4_, n5_, i1_, i2_, i3_, i4_, i5_, i6_, i7_, A_nord_Predict_L0]
  refine condC_intro (fun hj => ?_) (fun hj => ?_)
  · replace hj := of_decide_eq_true hj
    have w2 : IntKind.i64.wrap ((q : Int) - 1) = (q : Int) - 1 := wrapI (by omega) (by omega)
    have w3 : IntKind.i64.wrap (((j + 1 : Nat) : Int) - 1) = (j : Int) := by rw [wrapI (by omega) (by omega)]; omega
    simp -implicitDefEqProofs only [evI, hv, effC, reduceCtorEq, ↓reduceIte, n1_, n2_, n3_, n4_, n5_, i1_, i2_, i3_, i4_, i5_, i6_, i7_, w2]
    refine WA_for (n := q - j + 1) (fun c s => ∃ k, c + k = q - j + 1 ∧ k ≤ q - j ∧ s = ⟨[(3, .sl 2 0 0 (q + 1) 1 (q + 1)), (4, fI q), (5, fI (j + 1 : Nat)), (6, fI ((q : Int) - 1 - k))], [(100, (predK Z n (q - 1) k).map rowV), (2, [hdo 100 0 (q + 1) n])]⟩) ⟨0, by omega, by omega, by simp [predK]⟩ ?_
    rintro c' s ⟨k, hc', hkq, rfl⟩
    have hZk := predK_rk hZ (q - 1) k
    have hnk : predK Z n (q - 1) (k + 1) = addI (predK Z n (q - 1) k) (q - 1 - k) n := rfl
    generalize hK : predK Z n (q - 1) k = Y at hZk hnk
    simp -implicitDefEqProofs only [evI, hv, effC, reduceCtorEq, ↓reduceIte, n1_, n2_, n3_, n4_, n5_, i1_, i2_, i3_, i4_, i5_, i6_, i7_, A_nord_Predict_L1, w3]
    refine condC_intro (fun hk => ?_) (fun hk => ?_)
    · replace hk := of_decide_eq_true hk
      obtain ⟨r, hr⟩ : ∃ r : Nat, (q : Int) - 1 - k = r := ⟨((q : Int) - 1 - k).toNat, by omega⟩
      have hrq : r < q + 1 := by omega
      have hr1 : r + 1 < q + 1 := by omega
      have hrk : q - 1 - k = r := by omega
      rw [hrk] at hnk
      rw [hr]
      have w4 : IntKind.i64.wrap ((r : Int) + 1) = ((r + 1 : Nat) : Int) := by rw [wrapI (by omega) (by omega)]; omega
      simp -implicitDefEqProofs only [evI, hv, effC, reduceCtorEq, ↓reduceIte, n1_, n2_, n3_, n4_, n5_, i1_, i2_, i3_, i4_, i5_, i6_, i7_, hdo_getD 100 0 (q + 1) n r hrq]
      (repeat (with_reducible refine And.intro (by omega) ?_))
      refine WA_for (n := n) (fun c s => ∃ i, c + i = n ∧ s = ⟨[(3, .sl 2 0 0 (q + 1) 1 (q + 1)), (4, fI q), (5, fI (j + 1 : Nat)), (6, fI r), (30, fI n), (31, fI i)], [(100, (addI Y r i).map rowV), (2, [hdo 100 0 (q + 1) n])]⟩) ⟨0, by omega, rfl⟩ ?_
      rintro c2 s ⟨i, hc2, rfl⟩
      have hZi := addI_rk hZk r i
      have hni : addI Y r (i + 1) = up2 (addI Y r i) r i (fop .add (at2 (addI Y r i) r i) (at2 (addI Y r i) (r + 1) i)) := rfl
      generalize hI : addI Y r i = X at hZi hni
      have l0 := hZi.1
      have l1 := hZi.2 r hrq
      have l2 := hZi.2 (r + 1) hr1
      simp -implicitDefEqProofs only [evI, hv, effC, reduceCtorEq, ↓reduceIte, n1_, n2_, n3_, n4_, n5_, i1_, i2_, i3_, i4_, i5_, i6_, i7_, A_nord_Predict_L2]
      refine condC_intro (fun hi => ?_) (fun hi => ?_)
      · replace hi := of_decide_eq_true hi
        have g1 := getD_map_fl (X.getD r []) i (by omega)
        have g2 := getD_map_fl (X.getD (r + 1) []) i (by omega)
        simp -implicitDefEqProofs only [evI, hv, effC, reduceCtorEq, ↓reduceIte, n1_, n2_, n3_, n4_, n5_, i1_, i2_, i3_, i4_, i5_, i6_, i7_, hdo_getD 100 0 (q + 1) n r hrq, hdo_getD 100 0 (q + 1) n (r + 1) hr1, w4, getE X r (by omega), getE X (r + 1) (by omega), g1, g2, setE]
        (repeat (with_reducible refine And.intro (by omega) ?_))
        rw [wrapI (by omega) (by omega)]
        refine ⟨c2 - 1, by omega, i + 1, by omega, ?_⟩
        rw [hni]
        rfl
      · replace hi := of_decide_eq_false hi
        have e : i = n := by omega
        subst e
        simp -implicitDefEqProofs only [evI, hv, effC, reduceCtorEq, ↓reduceIte, n1_, n2_, n3_, n4_, n5_, i1_, i2_, i3_, i4_, i5_, i6_, i7_]
        rw [wrapI (by omega) (by omega)]
        refine ⟨c' - 1, by omega, k + 1, by omega, by omega, ?_⟩
        rw [hnk, hI]
        have e2 : (r : Int) - 1 = (q : Int) - 1 - ((k + 1 : Nat) : Int) := by omega
        rw [e2]
    · replace hk := of_decide_eq_false hk
      have e : k = q - j := by omega
      subst e
      simp -implicitDefEqProofs only [evI, hv, effC, reduceCtorEq, ↓reduceIte, n1_, n2_, n3_, n4_, n5_, i1_, i2_, i3_, i4_, i5_, i6_, i7_]
      rw [wrapI (by omega) (by omega)]
      refine ⟨c - 1, by omega, j + 1, by omega, by omega, ?_⟩
      rw [hnx, hK]
      rfl
  · replace hj := of_decide_eq_false hj
    have e : j = q := by omega
    subst e
    simp -implicitDefEqProofs only [evI, hv, effC, reduceCtorEq, ↓reduceIte, n1_, n2_, n3_, n4_, n5_, i1_, i2_, i3_, i4_, i5_, i6_, i7_]
    have hp : predP A n j = Z := hJ
    rw [hp]
    exact endsT_le (.sl 2 0 0 (j + 1) 1 (j + 1)) (fun _ h => h) (resV_tmpI (t := 2) (by decide) rfl) (Fz_rk (X := 100) hZ rfl rfl rfl rfl)
end Go.Ab

namespace Go.Ab
set_option linter.unusedSimpArgs false
set_option linter.unusedVariables false
open Nat renaming reduceEqDiff → n1_, reduceAdd → n2_, reduceMul → n3_, reduceLT → n4_, reduceLeDiff → n5_
open Int renaming reduceToNat → i1_, reduceAdd → i2_, reduceSub → i3_, reduceMul → i4_, reduceNeg → i5_, reduceLT → i6_, reduceLE → i7_
open Go Go.Proofs
def A_r8_H : CA := (.seq (.reg [i_X 0 2 (.h (.mov (.k (.d (.flt 0)))))] [0]) (.seq (.reg [i_M 0 3 0, i_X 1 4 (.h (.i2f (.t 3))), i_X 2 5 (.h (.fbin .div (.t 4) (.k (.d (.flt 4742290407621132288))))), i_M 3 2 5] [2]) .ret))
theorem A_r8_H_comp : compF Tryz.prog 51 = some ⟨6, [(2, none)], A_r8_H.strip⟩ := by kernel_rfl
def A_r9_minus_L0 : CA := (.seq (.seq (.reg [i_M 0 7 6, i_M 1 8 0, i_X 2 9 (.h (.len (.t 8))), i_X 3 10 (.h (.ibin .lss (.t 7) (.t 9)))] [0, 1, 5, 6, 10]) (.cond (.t 10) .skip (.exit 0))) (.seq (.block 1 (.reg [i_M 0 13 5, i_M 1 14 0, i_M 2 15 6, i_X 3 16 (.h (.idx (.t 14) (.t 15) 1)), i_L 4 17 16 1, i_M 5 18 1, i_M 6 19 6, i_X 7 20 (.h (.idx (.t 18) (.t 19) 1)), i_L 8 21 20 1, i_X 9 22 (.h (.fbin .sub (.t 17) (.t 21))), i_X 10 23 (.bslice [(.d (.flt 0))] 1 1 [(0, (1, (.t 22)))] 31), i_X 11 24 (.app (.t 13) (.t 23) 1 8), i_M 12 5 24] [0, 1, 5, 6])) (.reg [i_M 0 11 6, i_X 1 12 (.h (.ibin .add (.t 11) (.k (.d (.int .i64 1))))), i_M 2 6 12] [0, 1, 5, 6])))
def A_r9_minus : CA := (.seq (.reg [i_X 0 4 (.h (.mov (.k .nil)))] [0, 1]) (.seq (.reg [i_X 0 5 (.h (.mov (.k .nil)))] [0, 1, 5]) (.seq (.seq (.reg [i_X 0 6 (.h (.mov (.k (.d (.int .i64 0)))))] [0, 1, 5, 6]) (.block 0 (.loop A_r9_minus_L0))) (.seq (.reg [i_M 0 25 5, i_M 1 4 25] [4]) .ret))))
theorem A_r9_minus_comp : compF Tryz.prog 55 = some ⟨26, [(4, none)], A_r9_minus.strip⟩ := by kernel_rfl
def A_r9_plus_L0 : CA := (.seq (.seq (.reg [i_M 0 7 6, i_M 1 8 0, i_X 2 9 (.h (.len (.t 8))), i_X 3 10 (.h (.ibin .lss (.t 7) (.t 9)))] [0, 1, 5, 6, 10]) (.cond (.t 10) .skip (.exit 0))) (.seq (.block 1 (.reg [i_M 0 13 5, i_M 1 14 0, i_M 2 15 6, i_X 3 16 (.h (.idx (.t 14) (.t 15) 1)), i_L 4 17 16 1, i_M 5 18 1, i_M 6 19 6, i_X 7 20 (.h (.idx (.t 18) (.t 19) 1)), i_L 8 21 20 1, i_X 9 22 (.h (.fbin .add (.t 17) (.t 21))), i_X 10 23 (.bslice [(.d (.flt 0))] 1 1 [(0, (1, (.t 22)))] 31), i_X 11 24 (.app (.t 13) (.t 23) 1 8), i_M 12 5 24] [0, 1, 5, 6])) (.reg [i_M 0 11 6, i_X 1 12 (.h (.ibin .add (.t 11) (.k (.d (.int .i64 1))))), i_M 2 6 12] [0, 1, 5, 6])))
def A_r9_plus : CA := (.seq (.reg [i_X 0 4 (.h (.mov (.k .nil)))] [0, 1]) (.seq (.reg [i_X 0 5 (.h (.mov (.k .nil)))] [0, 1, 5]) (.seq (.seq (.reg [i_X 0 6 (.h (.mov (.k (.d (.int .i64 0)))))] [0, 1, 5, 6]) (.block 0 (.loop A_r9_plus_L0))) (.seq (.reg [i_M 0 25 5, i_M 1 4 25] [4]) .ret))))
theorem A_r9_plus_comp : compF Tryz.prog 56 = some ⟨26, [(4, none)], A_r9_plus.strip⟩ := by kernel_rfl
def A_r9_left_L0 : CA := (.seq (.seq (.reg [i_M 0 18 13, i_M 1 19 4, i_X 2 20 (.h (.len (.t 19))), i_X 3 21 (.h (.ibin .lss (.t 18) (.t 20)))] [1, 2, 3, 4, 5, 11, 12, 13, 21]) (.cond (.t 21) .skip (.exit 0))) (.seq (.block 1 (.seq (.reg [i_M 0 24 2, i_M 1 25 4, i_M 2 26 13, i_X 3 27 (.h (.idx (.t 25) (.t 26) 1)), i_L 4 28 27 1, i_X 5 29 (.h (.fbin .mul (.t 24) (.t 28))), i_M 6 14 29] [1, 2, 3, 4, 5, 11, 12, 13, 14]) (.reg [i_M 0 30 11, i_M 1 31 1, i_X 2 32 (.h (.idx (.t 31) (.k (.d (.int .i64 0))) 1)), i_L 3 33 32 1, i_M 4 34 13, i_X 5 35 (.h (.idx (.t 33) (.t 34) 1)), i_L 6 36 35 1, i_M 7 37 14, i_X 8 38 (.h (.fbin .add (.t 36) (.t 37))), i_X 9 39 (.bslice [(.d (.flt 0))] 1 1 [(0, (1, (.t 38)))] 31), i_X 10 40 (.app (.t 30) (.t 39) 1 8), i_M 11 11 40] [1, 2, 3, 4, 5, 11, 12, 13]))) (.reg [i_M 0 22 13, i_X 1 23 (.h (.ibin .add (.t 22) (.k (.d (.int .i64 1))))), i_M 2 13 23] [1, 2, 3, 4, 5, 11, 12, 13])))
def A_r9_left_L1 : CA := (.seq (.seq (.reg [i_M 0 44 16, i_M 1 45 4, i_X 2 46 (.h (.len (.t 45))), i_X 3 47 (.h (.ibin .lss (.t 44) (.t 46)))] [1, 3, 4, 12, 15, 16, 47]) (.cond (.t 47) .skip (.exit 2))) (.seq (.block 3 (.seq (.reg [i_M 0 50 3, i_M 1 51 15, i_M 2 52 16, i_X 3 53 (.h (.idx (.t 51) (.t 52) 1)), i_L 4 54 53 1, i_X 5 55 (.h (.fbin .mul (.t 50) (.t 54))), i_M 6 17 55] [1, 3, 4, 12, 15, 16, 17]) (.reg [i_M 0 56 12, i_M 1 57 17, i_M 2 58 1, i_X 3 59 (.h (.idx (.t 58) (.k (.d (.int .i64 1))) 1)), i_L 4 60 59 1, i_M 5 61 16, i_X 6 62 (.h (.idx (.t 60) (.t 61) 1)), i_L 7 63 62 1, i_X 8 64 (.h (.fbin .sub (.t 57) (.t 63))), i_X 9 65 (.bslice [(.d (.flt 0))] 1 1 [(0, (1, (.t 64)))] 31), i_X 10 66 (.app (.t 56) (.t 65) 1 8), i_M 11 12 66] [1, 3, 4, 12, 15, 16]))) (.reg [i_M 0 48 16, i_X 1 49 (.h (.ibin .add (.t 48) (.k (.d (.int .i64 1))))), i_M 2 16 49] [1, 3, 4, 12, 15, 16])))
def A_r9_left : CA := (.seq (.reg [i_X 0 5 (.box (.t 0) 3 28), i_X 1 10 (.h (.mov (.k .nil)))] [1, 2, 3, 4, 5]) (.seq (.reg [i_X 0 11 (.h (.mov (.k .nil))), i_X 1 12 (.h (.mov (.k .nil)))] [1, 2, 3, 4, 5, 11, 12]) (.seq (.seq (.reg [i_X 0 13 (.h (.mov (.k (.d (.int .i64 0)))))] [1, 2, 3, 4, 5, 11, 12, 13]) (.block 0 (.loop A_r9_left_L0))) (.seq (.reg [i_A 0 41 5 3, i_M 1 42 11, i_X 2 43 (.callA (.k (.d (.fn 60 [] []))) [(.t 41), (.t 42)]), i_M 3 15 43] [1, 3, 4, 12, 15]) (.seq (.seq (.reg [i_X 0 16 (.h (.mov (.k (.d (.int .i64 0)))))] [1, 3, 4, 12, 15, 16]) (.block 2 (.loop A_r9_left_L1))) (.seq (.reg [i_M 0 67 12, i_M 1 10 67] [10]) .ret))))))
theorem A_r9_left_comp : compF Tryz.prog 53 = some ⟨68, [(10, none)], A_r9_left.strip⟩ := by kernel_rfl
theorem r8_H_con (step : Int) : Con Tryz.prog 51 [fI step] (fl (fop .div (FloatKind.nearest .f64 step) 4742290407621132288)) := by
  refine Con_introA A_r8_H_comp rfl mixed ?_
  simp -implicitDefEqProofs only [evI, hv, effC, reduceCtorEq, ↓reduceIte, n1_, n2_, n3_, n4_, n5_, i1_, i2_, i3_, i4_, i5_, i6_, i7_, A_r8_H]
  exact endsT_rett rfl (by decide) (by simp [look])
theorem r3_one_con (k : Int) (x y : Nat) (hk : k = 2 ∨ k = 3 ∨ k = 4 ∨ k = 5) : Con Tryz.prog 86 [fI k, fl x, fl y] (fl (if k = 2 then fop .add x y else if k = 3 then fop .sub x y else if k = 4 then fop .mul x y else fop .div x y)) := by
  refine Con_introA A_r3_one_comp rfl mixed ?_
  simp -implicitDefEqProofs only [evI, hv, effC, reduceCtorEq, ↓reduceIte, n1_, n2_, n3_, n4_, n5_, i1_, i2_, i3_, i4_, i5_, i6_, i7_, A_r3_one]
  rcases hk with rfl | rfl | rfl | rfl
  · simp -implicitDefEqProofs only [evI, hv, effC, reduceCtorEq, ↓reduceIte, n1_, n2_, n3_, n4_, n5_, i1_, i2_, i3_, i4_, i5_, i6_, i7_, Int.reduceBEq]
    exact endsT_rett rfl (by decide) (by simp [look])
  · simp -implicitDefEqProofs only [evI, hv, effC, reduceCtorEq, ↓reduceIte, n1_, n2_, n3_, n4_, n5_, i1_, i2_, i3_, i4_, i5_, i6_, i7_, Int.reduceBEq]
    exact endsT_rett rfl (by decide) (by simp [look])
  · simp -implicitDefEqProofs only [evI, hv, effC, reduceCtorEq, ↓reduceIte, n1_, n2_, n3_, n4_, n5_, i1_, i2_, i3_, i4_, i5_, i6_, i7_, Int.reduceBEq]
    exact endsT_rett rfl (by decide) (by simp [look])
  · simp -implicitDefEqProofs only [evI, hv, effC, reduceCtorEq, ↓reduceIte, n1_, n2_, n3_, n4_, n5_, i1_, i2_, i3_, i4_, i5_, i6_, i7_, Int.reduceBEq]
    exact endsT_rett rfl (by decide) (by simp [look])
/-- The registers, those to come are 0. -/
def padR (t : Tp) (x : List Nat) (i : Nat) : List Nat := regs t x i ++ List.replicate (t.ops.length - i) 0
theorem padR_len (t : Tp) (x : List Nat) (i : Nat) (hi : i ≤ t.ops.length) : (padR t x i).length = t.ops.length := by simp [padR, regs_len]; omega
theorem padR_set (t : Tp) (x : List Nat) (i : Nat) (hi : i < t.ops.length) : (padR t x i).set i (opV (t.ops.getD i ⟨0, 0, 0, 0⟩) x (regs t x i)) = padR t x (i + 1) := by
  have hl := regs_len t x i
  unfold padR
  rw [List.set_append_right _ _ (by omega), hl, Nat.sub_self]
  obtain ⟨m, hm⟩ : ∃ m, t.ops.length - i = m + 1 := ⟨t.ops.length - i - 1, by omega⟩
  rw [hm, show t.ops.length - (i + 1) = m from by omega, List.replicate_succ, List.set_cons_zero]
  simp [regs]
theorem padR_at (t : Tp) (x : List Nat) (i j : Nat) (hj : j < i) : (padR t x i).getD j 0 = (regs t x i).getD j 0 := by
  have hl := regs_len t x i
  unfold padR
  rw [List.getD_eq_getElem?_getD, List.getD_eq_getElem?_getD, List.getElem?_append_left (by omega)]
set_option maxRecDepth 8000 in
theorem r3_Eval_ac (t : Tp) (x : List Nat) (ht : Tok t) (hx : x.length = t.n) : AC Tryz.prog 60 [tapeV t, .d (rowD x)] [] [(0, [rowV (evalT t x)])] (.sl 0 0 0 t.n 1 t.n) := by
  refine AC_row0 (X := 100) ?_
  refine AC_introA A_r3_Eval_comp rfl mixed (fun _ => False) (by simp [get_nil]) ?_
  have hlen := ht.len
  simp -implicitDefEqProofs only [evI, hv, effC, reduceCtorEq, ↓reduceIte, n1_, n2_, n3_, n4_, n5_, i1_, i2_, i3_, i4_, i5_, i6_, i7_, A_r3_Eval, opsD]
  (repeat (with_reducible refine And.intro (by omega) ?_))
  have hp0 : List.replicate t.ops.length 0 = padR t x 0 := by simp [padR, regs]
  rw [hp0]
  refine WA_forW (n := t.ops.length) (fun c s => ∃ i, c + i = t.ops.length ∧ s = ⟨[(1, .d (rowD x)), (2, .ptr 0 0 0 3), (5, .sl 4 0 0 t.ops.length 1 t.ops.length), (6, fI i)],
      [(4, [rowV (padR t x i)]), (0, [[fI t.n, .d (opsD t.ops), .d (rowI t.out)]])]⟩) (Le.refl _) ⟨0, by omega, rfl⟩ ?_
  rintro c s ⟨i, hc, rfl⟩
  have hl := padR_len t x i (by omega)
  simp -implicitDefEqProofs only [evI, hv, effC, reduceCtorEq, ↓reduceIte, n1_, n2_, n3_, n4_, n5_, i1_, i2_, i3_, i4_, i5_, i6_, i7_, A_r3_Eval_L0, opsD]
  refine condC_intro (fun h => ?_) (fun h => ?_)
  · replace h := of_decide_eq_true h
    have hop := ht.op i h
    have hset := padR_set t x i h
    generalize ho : t.ops.getD i ⟨0, 0, 0, 0⟩ = o at hop hset
    simp -implicitDefEqProofs only [evI, hv, effC, reduceCtorEq, ↓reduceIte, n1_, n2_, n3_, n4_, n5_, i1_, i2_, i3_, i4_, i5_, i6_, i7_, opG, ho]
    (repeat (with_reducible refine And.intro (by omega) ?_))
    rcases hop with hk | ⟨hk, ha⟩ | ⟨hk, ha, hb⟩
    · have hvv : opV o x (regs t x i) = o.c := by simp [opV, hk]
      rw [hvv] at hset
      simp -implicitDefEqProofs only [evI, hv, effC, reduceCtorEq, ↓reduceIte, n1_, n2_, n3_, n4_, n5_, i1_, i2_, i3_, i4_, i5_, i6_, i7_, hk, Int.reduceBEq]
      (repeat (with_reducible refine And.intro (by omega) ?_))
      rw [wrapI (by omega) (by omega), hset]
      rw [show List.map fl (padR t x (i + 1)) = rowV (padR t x (i + 1)) from rfl]
      exact ⟨c - 1, _, by omega, LeT.only (fun X => decide (X ≤ 4)) (fun _ h => h) rfl (by simp [KpS_cons, KpS_nil, KpH_cons, KpH_nil, KpF_cons, KpF_nil, KpF_rows, KpA_cons, KpA_nil, KpA_app, KpA_rowV, KpA_rowIV, KpA_dcells, KpA_outC, Kp_any, Kp_nilv, Kp_d, Kp_ptr, Kp_sl, Kp_agg, Kp_tup, Kp_fn, get_cons, get_nil]) (by simp [KpS_cons, KpS_nil, KpH_cons, KpH_nil, KpF_cons, KpF_nil, KpF_rows, KpA_cons, KpA_nil, KpA_app, KpA_rowV, KpA_rowIV, KpA_dcells, KpA_outC, Kp_any, Kp_nilv, Kp_d, Kp_ptr, Kp_sl, Kp_agg, Kp_tup, Kp_fn, get_cons, get_nil]), i + 1, by omega, rfl⟩
    · have hvv : opV o x (regs t x i) = x.getD o.a.toNat 0 := by simp [opV, hk]
      rw [hvv] at hset
      simp -implicitDefEqProofs only [evI, hv, effC, reduceCtorEq, ↓reduceIte, n1_, n2_, n3_, n4_, n5_, i1_, i2_, i3_, i4_, i5_, i6_, i7_, hk, Int.reduceBEq]
      (repeat (with_reducible refine And.intro (by omega) ?_))
      rw [wrapI (by omega) (by omega), hset]
      rw [show List.map fl (padR t x (i + 1)) = rowV (padR t x (i + 1)) from rfl]
      exact ⟨c - 1, _, by omega, LeT.only (fun X => decide (X ≤ 4)) (fun _ h => h) rfl (by simp [KpS_cons, KpS_nil, KpH_cons, KpH_nil, KpF_cons, KpF_nil, KpF_rows, KpA_cons, KpA_nil, KpA_app, KpA_rowV, KpA_rowIV, KpA_dcells, KpA_outC, Kp_any, Kp_nilv, Kp_d, Kp_ptr, Kp_sl, Kp_agg, Kp_tup, Kp_fn, get_cons, get_nil]) (by simp [KpS_cons, KpS_nil, KpH_cons, KpH_nil, KpF_cons, KpF_nil, KpF_rows, KpA_cons, KpA_nil, KpA_app, KpA_rowV, KpA_rowIV, KpA_dcells, KpA_outC, Kp_any, Kp_nilv, Kp_d, Kp_ptr, Kp_sl, Kp_agg, Kp_tup, Kp_fn, get_cons, get_nil]), i + 1, by omega, rfl⟩
    · have k0 : (o.k == 0) = false := by simp; omega
      have k1 : (o.k == 1) = false := by simp; omega
      have ga : (rowV (padR t x i)).getD o.a.toNat .any = fl ((regs t x i).getD o.a.toNat 0) := by
        rw [← padR_at t x i _ (by omega)]; exact getD_map_fl _ _ (by omega)
      have gb : (rowV (padR t x i)).getD o.b.toNat .any = fl ((regs t x i).getD o.b.toNat 0) := by
        rw [← padR_at t x i _ (by omega)]; exact getD_map_fl _ _ (by omega)
      have hvv : opV o x (regs t x i) = (if o.k = 2 then fop .add ((regs t x i).getD o.a.toNat 0) ((regs t x i).getD o.b.toNat 0) else if o.k = 3 then fop .sub ((regs t x i).getD o.a.toNat 0) ((regs t x i).getD o.b.toNat 0) else if o.k = 4 then fop .mul ((regs t x i).getD o.a.toNat 0) ((regs t x i).getD o.b.toNat 0) else fop .div ((regs t x i).getD o.a.toNat 0) ((regs t x i).getD o.b.toNat 0)) := by
        unfold opV; rw [if_neg (by omega), if_neg (by omega)]
      have hone := r3_one_con o.k ((regs t x i).getD o.a.toNat 0) ((regs t x i).getD o.b.toNat 0) hk
      rw [← hvv] at hone
      simp -implicitDefEqProofs only [evI, hv, effC, reduceCtorEq, ↓reduceIte, n1_, n2_, n3_, n4_, n5_, i1_, i2_, i3_, i4_, i5_, i6_, i7_, k0, k1, ga, gb]
      (repeat (with_reducible refine And.intro (by omega) ?_))
      first | refine callG_con (hone) rfl ?_ | refine callCG_con (hone) rfl ?_ | refine callSG_con (hone) rfl ?_
      simp -implicitDefEqProofs only [evI, hv, effC, reduceCtorEq, ↓reduceIte, n1_, n2_, n3_, n4_, n5_, i1_, i2_, i3_, i4_, i5_, i6_, i7_]
      (repeat (with_reducible refine And.intro (by omega) ?_))
      rw [wrapI (by omega) (by omega), hset]
      rw [show List.map fl (padR t x (i + 1)) = rowV (padR t x (i + 1)) from rfl]
      exact ⟨c - 1, _, by omega, LeT.only (fun X => decide (X ≤ 4)) (fun _ h => h) rfl (by simp [KpS_cons, KpS_nil, KpH_cons, KpH_nil, KpF_cons, KpF_nil, KpF_rows, KpA_cons, KpA_nil, KpA_app, KpA_rowV, KpA_rowIV, KpA_dcells, KpA_outC, Kp_any, Kp_nilv, Kp_d, Kp_ptr, Kp_sl, Kp_agg, Kp_tup, Kp_fn, get_cons, get_nil]) (by simp [KpS_cons, KpS_nil, KpH_cons, KpH_nil, KpF_cons, KpF_nil, KpF_rows, KpA_cons, KpA_nil, KpA_app, KpA_rowV, KpA_rowIV, KpA_dcells, KpA_outC, Kp_any, Kp_nilv, Kp_d, Kp_ptr, Kp_sl, Kp_agg, Kp_tup, Kp_fn, get_cons, get_nil]), i + 1, by omega, rfl⟩
  · replace h := of_decide_eq_false h
    have e : i = t.ops.length := by omega
    subst e
    have hfull : padR t x t.ops.length = regs t x t.ops.length := by simp [padR]
    rw [hfull] at hl ⊢
    have hn := ht.n
    simp -implicitDefEqProofs only [evI, hv, effC, reduceCtorEq, ↓reduceIte, n1_, n2_, n3_, n4_, n5_, i1_, i2_, i3_, i4_, i5_, i6_, i7_]
    refine WA_forW (n := t.n) (fun c s => ∃ i, c + i = t.n ∧ s = ⟨[(2, .ptr 0 0 0 3), (5, .sl 4 0 0 t.ops.length 1 t.ops.length), (8, .sl 100 0 0 i 1 i), (9, fI i)],
      [(100, [rowV (tabR (fun i => (regs t x t.ops.length).getD (t.out.getD i 0).toNat 0) i)]), (4, [rowV (regs t x t.ops.length)]), (0, [[fI t.n, .d (opsD t.ops), .d (rowI t.out)]])]⟩)
      (s0 := ⟨_, _⟩) (LeT.nilrow (X := 100) (esz := 1) (as' := [(2, .ptr 0 0 0 3), (5, .sl 4 0 0 t.ops.length 1 t.ops.length), (8, .sl 100 0 0 0 1 0), (9, fI 0)]) (by simp [fam_cons, fam_nil]) (fun h => h) fun i => ?_) ⟨0, by omega, rfl⟩ ?_
    · simp only [look]
      repeat' split
      all_goals simp
    rintro c s ⟨i, hc, rfl⟩
    have hl2 := tabR_len (fun i => (regs t x t.ops.length).getD (t.out.getD i 0).toNat 0) i
    simp -implicitDefEqProofs only [evI, hv, effC, reduceCtorEq, ↓reduceIte, n1_, n2_, n3_, n4_, n5_, i1_, i2_, i3_, i4_, i5_, i6_, i7_, A_r3_Eval_L1]
    refine condC_intro (fun h2 => ?_) (fun h2 => ?_)
    · replace h2 := of_decide_eq_true h2
      have ho := ht.out i h2
      have hol := ht.outl
      have ga : (rowV (regs t x t.ops.length)).getD (t.out.getD i 0).toNat .any = fl ((regs t x t.ops.length).getD (t.out.getD i 0).toNat 0) := getD_map_fl _ _ (by omega)
      simp -implicitDefEqProofs only [evI, hv, effC, reduceCtorEq, ↓reduceIte, n1_, n2_, n3_, n4_, n5_, i1_, i2_, i3_, i4_, i5_, i6_, i7_, ga]
      (repeat (with_reducible refine And.intro (by omega) ?_))
      have e2 : rowV (tabR (fun i => (regs t x t.ops.length).getD (t.out.getD i 0).toNat 0) i) ++ [fl ((regs t x t.ops.length).getD (t.out.getD i 0).toNat 0)] = rowV (tabR (fun i => (regs t x t.ops.length).getD (t.out.getD i 0).toNat 0) (i + 1)) := (tabR_succ _ _).symm
      rw [wrapI (by omega) (by omega), e2]
      exact ⟨c - 1, _, by omega, LeT.only (fun X => decide (X ≤ 100)) (fun _ h => h) rfl (by simp [KpS_cons, KpS_nil, KpH_cons, KpH_nil, KpF_cons, KpF_nil, KpF_rows, KpA_cons, KpA_nil, KpA_app, KpA_rowV, KpA_rowIV, KpA_dcells, KpA_outC, Kp_any, Kp_nilv, Kp_d, Kp_ptr, Kp_sl, Kp_agg, Kp_tup, Kp_fn, get_cons, get_nil]) (by simp [KpS_cons, KpS_nil, KpH_cons, KpH_nil, KpF_cons, KpF_nil, KpF_rows, KpA_cons, KpA_nil, KpA_app, KpA_rowV, KpA_rowIV, KpA_dcells, KpA_outC, Kp_any, Kp_nilv, Kp_d, Kp_ptr, Kp_sl, Kp_agg, Kp_tup, Kp_fn, get_cons, get_nil]), i + 1, by omega, rfl⟩
    · replace h2 := of_decide_eq_false h2
      have e : i = t.n := by omega
      subst e
      simp -implicitDefEqProofs only [evI, hv, effC, reduceCtorEq, ↓reduceIte, n1_, n2_, n3_, n4_, n5_, i1_, i2_, i3_, i4_, i5_, i6_, i7_]
      exact endsT_only (fun X => X == 100) (fun _ h => h) (resV_tmpI (t := 4) (by decide) rfl) rfl (by simp [KpS_cons, KpS_nil, KpH_cons, KpH_nil, KpF_cons, KpF_nil, KpF_rows, KpA_cons, KpA_nil, KpA_app, KpA_rowV, KpA_rowIV, KpA_dcells, KpA_outC, Kp_any, Kp_nilv, Kp_d, Kp_ptr, Kp_sl, Kp_agg, Kp_tup, Kp_fn, get_cons, get_nil]) (by simp [KpS_cons, KpS_nil, KpH_cons, KpH_nil, KpF_cons, KpF_nil, KpF_rows, KpA_cons, KpA_nil, KpA_app, KpA_rowV, KpA_rowIV, KpA_dcells, KpA_outC, Kp_any, Kp_nilv, Kp_d, Kp_ptr, Kp_sl, Kp_agg, Kp_tup, Kp_fn, get_cons, get_nil])
/-- a less b; a and b. -/
theorem r9_minus_ac (a b : List Nat) (n : Nat) (ha : a.length = n) (hb : b.length = n) (hn : n < 2 ^ 40) : AC Tryz.prog 55 [.d (rowD a), .d (rowD b)] [] [(0, [rowV (tabR (fun i => fop .sub (a.getD i 0) (b.getD i 0)) n)])] (.sl 0 0 0 n 1 n) := by
  refine AC_row0 (X := 100) ?_
  refine AC_introA A_r9_minus_comp rfl mixed (fun _ => False) (by simp [get_nil]) ?_
  simp -implicitDefEqProofs only [evI, hv, effC, reduceCtorEq, ↓reduceIte, n1_, n2_, n3_, n4_, n5_, i1_, i2_, i3_, i4_, i5_, i6_, i7_, A_r9_minus]
  refine WA_forW (n := n) (fun c s => ∃ i, c + i = n ∧ s = ⟨[(0, .d (rowD a)), (1, .d (rowD b)), (5, .sl 100 0 0 i 1 i), (6, fI i)], [(100, [rowV (tabR (fun i => fop .sub (a.getD i 0) (b.getD i 0)) i)])]⟩)
    (s0 := ⟨_, _⟩) (LeT.nilrow (X := 100) (esz := 1) (as' := [(0, .d (rowD a)), (1, .d (rowD b)), (5, .sl 100 0 0 0 1 0), (6, fI 0)]) (by simp [fam_nil]) (fun h => h) fun i => ?_) ⟨0, by omega, rfl⟩ ?_
  · simp only [look]
    repeat' split
    all_goals simp [rowD]
  rintro c s ⟨i, hc, rfl⟩
  have hl := tabR_len (fun i => fop .sub (a.getD i 0) (b.getD i 0)) i
  simp -implicitDefEqProofs only [evI, hv, effC, reduceCtorEq, ↓reduceIte, n1_, n2_, n3_, n4_, n5_, i1_, i2_, i3_, i4_, i5_, i6_, i7_, A_r9_minus_L0]
  refine condC_intro (fun h => ?_) (fun h => ?_)
  · replace h := of_decide_eq_true h
    simp -implicitDefEqProofs only [evI, hv, effC, reduceCtorEq, ↓reduceIte, n1_, n2_, n3_, n4_, n5_, i1_, i2_, i3_, i4_, i5_, i6_, i7_]
    (repeat (with_reducible refine And.intro (by omega) ?_))
    have e2 : rowV (tabR (fun i => fop .sub (a.getD i 0) (b.getD i 0)) i) ++ [fl (fop .sub (a.getD i 0) (b.getD i 0))] = rowV (tabR (fun i => fop .sub (a.getD i 0) (b.getD i 0)) (i + 1)) := (tabR_succ _ _).symm
    rw [wrapI (by omega) (by omega), e2]
    exact ⟨c - 1, _, by omega, LeT.only (fun X => decide (X ≤ 100)) (fun _ h => h) rfl (by simp [KpS_cons, KpS_nil, KpH_cons, KpH_nil, KpF_cons, KpF_nil, KpF_rows, KpA_cons, KpA_nil, KpA_app, KpA_rowV, KpA_rowIV, KpA_dcells, KpA_outC, Kp_any, Kp_nilv, Kp_d, Kp_ptr, Kp_sl, Kp_agg, Kp_tup, Kp_fn, get_cons, get_nil]) (by simp [KpS_cons, KpS_nil, KpH_cons, KpH_nil, KpF_cons, KpF_nil, KpF_rows, KpA_cons, KpA_nil, KpA_app, KpA_rowV, KpA_rowIV, KpA_dcells, KpA_outC, Kp_any, Kp_nilv, Kp_d, Kp_ptr, Kp_sl, Kp_agg, Kp_tup, Kp_fn, get_cons, get_nil]), i + 1, by omega, rfl⟩
  · replace h := of_decide_eq_false h
    have e : i = n := by omega
    subst e
    simp -implicitDefEqProofs only [evI, hv, effC, reduceCtorEq, ↓reduceIte, n1_, n2_, n3_, n4_, n5_, i1_, i2_, i3_, i4_, i5_, i6_, i7_]
    exact endsT_only (fun X => X == 100) (fun _ h => h) (resV_tmpI (t := 4) (by decide) rfl) rfl (by simp [KpS_cons, KpS_nil, KpH_cons, KpH_nil, KpF_cons, KpF_nil, KpF_rows, KpA_cons, KpA_nil, KpA_app, KpA_rowV, KpA_rowIV, KpA_dcells, KpA_outC, Kp_any, Kp_nilv, Kp_d, Kp_ptr, Kp_sl, Kp_agg, Kp_tup, Kp_fn, get_cons, get_nil]) (by simp [KpS_cons, KpS_nil, KpH_cons, KpH_nil, KpF_cons, KpF_nil, KpF_rows, KpA_cons, KpA_nil, KpA_app, KpA_rowV, KpA_rowIV, KpA_dcells, KpA_outC, Kp_any, Kp_nilv, Kp_d, Kp_ptr, Kp_sl, Kp_agg, Kp_tup, Kp_fn, get_cons, get_nil])
theorem r9_plus_ac (a b : List Nat) (n : Nat) (ha : a.length = n) (hb : b.length = n) (hn : n < 2 ^ 40) : AC Tryz.prog 56 [.d (rowD a), .d (rowD b)] [] [(0, [rowV (tabR (fun i => fop .add (a.getD i 0) (b.getD i 0)) n)])] (.sl 0 0 0 n 1 n) := by
  refine AC_row0 (X := 100) ?_
  refine AC_introA A_r9_plus_comp rfl mixed (fun _ => False) (by simp [get_nil]) ?_
  simp -implicitDefEqProofs only [evI, hv, effC, reduceCtorEq, ↓reduceIte, n1_, n2_, n3_, n4_, n5_, i1_, i2_, i3_, i4_, i5_, i6_, i7_, A_r9_plus]
  refine WA_forW (n := n) (fun c s => ∃ i, c + i = n ∧ s = ⟨[(0, .d (rowD a)), (1, .d (rowD b)), (5, .sl 100 0 0 i 1 i), (6, fI i)], [(100, [rowV (tabR (fun i => fop .add (a.getD i 0) (b.getD i 0)) i)])]⟩)
    (s0 := ⟨_, _⟩) (LeT.nilrow (X := 100) (esz := 1) (as' := [(0, .d (rowD a)), (1, .d (rowD b)), (5, .sl 100 0 0 0 1 0), (6, fI 0)]) (by simp [fam_nil]) (fun h => h) fun i => ?_) ⟨0, by omega, rfl⟩ ?_
  · simp only [look]
    repeat' split
    all_goals simp [rowD]
  rintro c s ⟨i, hc, rfl⟩
  have hl := tabR_len (fun i => fop .add (a.getD i 0) (b.getD i 0)) i
  simp -implicitDefEqProofs only [evI, hv, effC, reduceCtorEq, ↓reduceIte, n1_, n2_, n3_, n4_, n5_, i1_, i2_, i3_, i4_, i5_, i6_, i7_, A_r9_plus_L0]
  refine condC_intro (fun h => ?_) (fun h => ?_)
  · replace h := of_decide_eq_true h
    simp -implicitDefEqProofs only [evI, hv, effC, reduceCtorEq, ↓reduceIte, n1_, n2_, n3_, n4_, n5_, i1_, i2_, i3_, i4_, i5_, i6_, i7_]
    (repeat (with_reducible refine And.intro (by omega) ?_))
    have e2 : rowV (tabR (fun i => fop .add (a.getD i 0) (b.getD i 0)) i) ++ [fl (fop .add (a.getD i 0) (b.getD i 0))] = rowV (tabR (fun i => fop .add (a.getD i 0) (b.getD i 0)) (i + 1)) := (tabR_succ _ _).symm
    rw [wrapI (by omega) (by omega), e2]
    exact ⟨c - 1, _, by omega, LeT.only (fun X => decide (X ≤ 100)) (fun _ h => h) rfl (by simp [KpS_cons, KpS_nil, KpH_cons, KpH_nil, KpF_cons, KpF_nil, KpF_rows, KpA_cons, KpA_nil, KpA_app, KpA_rowV, KpA_rowIV, KpA_dcells, KpA_outC, Kp_any, Kp_nilv, Kp_d, Kp_ptr, Kp_sl, Kp_agg, Kp_tup, Kp_fn, get_cons, get_nil]) (by simp [KpS_cons, KpS_nil, KpH_cons, KpH_nil, KpF_cons, KpF_nil, KpF_rows, KpA_cons, KpA_nil, KpA_app, KpA_rowV, KpA_rowIV, KpA_dcells, KpA_outC, Kp_any, Kp_nilv, Kp_d, Kp_ptr, Kp_sl, Kp_agg, Kp_tup, Kp_fn, get_cons, get_nil]), i + 1, by omega, rfl⟩
  · replace h := of_decide_eq_false h
    have e : i = n := by omega
    subst e
    simp -implicitDefEqProofs only [evI, hv, effC, reduceCtorEq, ↓reduceIte, n1_, n2_, n3_, n4_, n5_, i1_, i2_, i3_, i4_, i5_, i6_, i7_]
    exact endsT_only (fun X => X == 100) (fun _ h => h) (resV_tmpI (t := 4) (by decide) rfl) rfl (by simp [KpS_cons, KpS_nil, KpH_cons, KpH_nil, KpF_cons, KpF_nil, KpF_rows, KpA_cons, KpA_nil, KpA_app, KpA_rowV, KpA_rowIV, KpA_dcells, KpA_outC, Kp_any, Kp_nilv, Kp_d, Kp_ptr, Kp_sl, Kp_agg, Kp_tup, Kp_fn, get_cons, get_nil]) (by simp [KpS_cons, KpS_nil, KpH_cons, KpH_nil, KpF_cons, KpF_nil, KpF_rows, KpA_cons, KpA_nil, KpA_app, KpA_rowV, KpA_rowIV, KpA_dcells, KpA_outC, Kp_any, Kp_nilv, Kp_d, Kp_ptr, Kp_sl, Kp_agg, Kp_tup, Kp_fn, get_cons, get_nil])
set_option maxRecDepth 8000 in
theorem r9_left_ac (t : Tp) (z : List (List Nat)) (l : List Nat) (h : Nat) (w d : List Nat) (ok : Sok t z l w d) : AC Tryz.prog 53 [tapeV t, .d (rowsD z), fl (l.getD 0 0), fl h, .d (rowD d)] [] [(0, [rowV (gS t z l h d)])] (.sl 0 0 0 t.n 1 t.n) := by
  obtain ⟨ht, hz, hzl, hl, hw, hd⟩ := ok
  have hn := ht.n
  have hz0 := hzl 0 (by omega)
  have hz1 := hzl 1 (by omega)
  refine AC_row0 (X := 200) ?_
  refine AC_introA A_r9_left_comp rfl mixed (fun _ => False) (by simp [get_nil]) ?_
  simp -implicitDefEqProofs only [evI, hv, effC, reduceCtorEq, ↓reduceIte, n1_, n2_, n3_, n4_, n5_, i1_, i2_, i3_, i4_, i5_, i6_, i7_, A_r9_left]
  generalize hfy : (fun i => fop .add ((z.getD 0 []).getD i 0) (fop .mul (l.getD 0 0) (d.getD i 0))) = fy
  have fy' : ∀ i, fy i = fop .add ((z.getD 0 []).getD i 0) (fop .mul (l.getD 0 0) (d.getD i 0)) := fun i => by rw [← hfy]
  have hy : yS z l d t.n = tabR fy t.n := by unfold yS; rw [hfy]
  refine WA_forW (n := t.n) (fun c s => ∃ i, c + i = t.n ∧ s = ⟨[(1, .d (rowsD z)), (2, fl (l.getD 0 0)), (3, fl h), (4, .d (rowD d)), (5, .ptr 0 0 0 3), (11, .sl 101 0 0 i 1 i), (12, .nil), (13, fI i)], [(101, [rowV (tabR fy i)]), (0, [[fI t.n, .d (opsD t.ops), .d (rowI t.out)]])]⟩)
    (s0 := ⟨_, _⟩) (LeT.nilrow (X := 101) (esz := 1) (as' := [(1, .d (rowsD z)), (2, fl (l.getD 0 0)), (3, fl h), (4, .d (rowD d)), (5, .ptr 0 0 0 3), (11, .sl 101 0 0 0 1 0), (12, .nil), (13, fI 0)]) (by simp [fam_cons, fam_nil]) (fun h => h) fun i => ?_) ⟨0, by omega, rfl⟩ ?_
  · simp only [look]
    repeat' split
    all_goals simp [rowD, rowsD]
  rintro c s ⟨i, hc, rfl⟩
  have hl1 := tabR_len fy i
  simp -implicitDefEqProofs only [evI, hv, effC, reduceCtorEq, ↓reduceIte, n1_, n2_, n3_, n4_, n5_, i1_, i2_, i3_, i4_, i5_, i6_, i7_, A_r9_left_L0]
  refine condC_intro (fun h1 => ?_) (fun h1 => ?_)
  · replace h1 := of_decide_eq_true h1
    simp -implicitDefEqProofs only [evI, hv, effC, reduceCtorEq, ↓reduceIte, n1_, n2_, n3_, n4_, n5_, i1_, i2_, i3_, i4_, i5_, i6_, i7_]
    (repeat (with_reducible refine And.intro (by omega) ?_))
    have e2 : rowV (tabR fy i) ++ [fl (fop .add ((z.getD 0 []).getD i 0) (fop .mul (l.getD 0 0) (d.getD i 0)))] = rowV (tabR fy (i + 1)) := by rw [← fy']; exact (tabR_succ _ _).symm
    rw [wrapI (by omega) (by omega), e2]
    exact ⟨c - 1, _, by omega, LeT.only (fun X => decide (X ≤ 101)) (fun _ h => h) rfl (by simp [KpS_cons, KpS_nil, KpH_cons, KpH_nil, KpF_cons, KpF_nil, KpF_rows, KpA_cons, KpA_nil, KpA_app, KpA_rowV, KpA_rowIV, KpA_dcells, KpA_outC, Kp_any, Kp_nilv, Kp_d, Kp_ptr, Kp_sl, Kp_agg, Kp_tup, Kp_fn, get_cons, get_nil]) (by simp [KpS_cons, KpS_nil, KpH_cons, KpH_nil, KpF_cons, KpF_nil, KpF_rows, KpA_cons, KpA_nil, KpA_app, KpA_rowV, KpA_rowIV, KpA_dcells, KpA_outC, Kp_any, Kp_nilv, Kp_d, Kp_ptr, Kp_sl, Kp_agg, Kp_tup, Kp_fn, get_cons, get_nil]), i + 1, by omega, rfl⟩
  · replace h1 := of_decide_eq_false h1
    have e : i = t.n := by omega
    subst e
    simp -implicitDefEqProofs only [evI, hv, effC, reduceCtorEq, ↓reduceIte, n1_, n2_, n3_, n4_, n5_, i1_, i2_, i3_, i4_, i5_, i6_, i7_]
    refine callG_row 110 [tapeV t, .d (rowD (tabR fy t.n))] (by simp [Heap.next]) (r3_Eval_ac t (tabR fy t.n) ht hl1) ⟨.aggs ⟨.bare _, .bare _, .bare _, trivial⟩, snp_row rfl hl1 rfl, trivial⟩ ?_
    have hfl := evalT_len t (tabR fy t.n)
    generalize hf : evalT t (tabR fy t.n) = f at hfl
    generalize hfg : (fun i => fop .sub (fop .mul h (f.getD i 0)) ((z.getD 1 []).getD i 0)) = fg
    have fg' : ∀ i, fg i = fop .sub (fop .mul h (f.getD i 0)) ((z.getD 1 []).getD i 0) := fun i => by rw [← hfg]
    have hg : gS t z l h d = tabR fg t.n := by unfold gS; rw [hy, hf, hfg]
    rw [hg]
    simp -implicitDefEqProofs only [evI, hv, effC, reduceCtorEq, ↓reduceIte, n1_, n2_, n3_, n4_, n5_, i1_, i2_, i3_, i4_, i5_, i6_, i7_]
    refine WA_forW (n := t.n) (fun c s => ∃ i, c + i = t.n ∧ s = ⟨[(1, .d (rowsD z)), (3, fl h), (4, .d (rowD d)), (12, .sl 200 0 0 i 1 i), (15, .sl 110 0 0 t.n 1 t.n), (16, fI i)], [(200, [rowV (tabR fg i)]), (110, [rowV f]), (101, [rowV (tabR fy t.n)]), (0, [[fI t.n, .d (opsD t.ops), .d (rowI t.out)]])]⟩)
      (s0 := ⟨_, _⟩) (LeT.nilrow (X := 200) (esz := 1) (as' := [(1, .d (rowsD z)), (3, fl h), (4, .d (rowD d)), (12, .sl 200 0 0 0 1 0), (15, .sl 110 0 0 t.n 1 t.n), (16, fI 0)]) (by simp [fam_cons, fam_nil]) (fun h => h) fun i => ?_) ⟨0, by omega, rfl⟩ ?_
    · simp only [look]
      repeat' split
      all_goals simp [rowD, rowsD]
    rintro c s ⟨i, hc, rfl⟩
    have hl2 := tabR_len fg i
    simp -implicitDefEqProofs only [evI, hv, effC, reduceCtorEq, ↓reduceIte, n1_, n2_, n3_, n4_, n5_, i1_, i2_, i3_, i4_, i5_, i6_, i7_, A_r9_left_L1]
    refine condC_intro (fun h2 => ?_) (fun h2 => ?_)
    · replace h2 := of_decide_eq_true h2
      have ga : (rowV f).getD i .any = fl (f.getD i 0) := getD_map_fl _ _ (by omega)
      simp -implicitDefEqProofs only [evI, hv, effC, reduceCtorEq, ↓reduceIte, n1_, n2_, n3_, n4_, n5_, i1_, i2_, i3_, i4_, i5_, i6_, i7_, ga]
      (repeat (with_reducible refine And.intro (by omega) ?_))
      have e2 : rowV (tabR fg i) ++ [fl (fop .sub (fop .mul h (f.getD i 0)) ((z.getD 1 []).getD i 0))] = rowV (tabR fg (i + 1)) := by rw [← fg']; exact (tabR_succ _ _).symm
      rw [wrapI (by omega) (by omega), e2]
      exact ⟨c - 1, _, by omega, LeT.only (fun X => decide (X ≤ 110) || X == 200) (fun _ h => h) rfl (by simp [KpS_cons, KpS_nil, KpH_cons, KpH_nil, KpF_cons, KpF_nil, KpF_rows, KpA_cons, KpA_nil, KpA_app, KpA_rowV, KpA_rowIV, KpA_dcells, KpA_outC, Kp_any, Kp_nilv, Kp_d, Kp_ptr, Kp_sl, Kp_agg, Kp_tup, Kp_fn, get_cons, get_nil]) (by simp [KpS_cons, KpS_nil, KpH_cons, KpH_nil, KpF_cons, KpF_nil, KpF_rows, KpA_cons, KpA_nil, KpA_app, KpA_rowV, KpA_rowIV, KpA_dcells, KpA_outC, Kp_any, Kp_nilv, Kp_d, Kp_ptr, Kp_sl, Kp_agg, Kp_tup, Kp_fn, get_cons, get_nil]), i + 1, by omega, rfl⟩
    · replace h2 := of_decide_eq_false h2
      have e : i = t.n := by omega
      subst e
      simp -implicitDefEqProofs only [evI, hv, effC, reduceCtorEq, ↓reduceIte, n1_, n2_, n3_, n4_, n5_, i1_, i2_, i3_, i4_, i5_, i6_, i7_]
      exact endsT_only (fun X => X == 200) (fun _ h => h) (resV_tmpI (t := 10) (by decide) rfl) rfl (by simp [KpS_cons, KpS_nil, KpH_cons, KpH_nil, KpF_cons, KpF_nil, KpF_rows, KpA_cons, KpA_nil, KpA_app, KpA_rowV, KpA_rowIV, KpA_dcells, KpA_outC, Kp_any, Kp_nilv, Kp_d, Kp_ptr, Kp_sl, Kp_agg, Kp_tup, Kp_fn, get_cons, get_nil]) (by simp [KpS_cons, KpS_nil, KpH_cons, KpH_nil, KpF_cons, KpF_nil, KpF_rows, KpA_cons, KpA_nil, KpA_app, KpA_rowV, KpA_rowIV, KpA_dcells, KpA_outC, Kp_any, Kp_nilv, Kp_d, Kp_ptr, Kp_sl, Kp_agg, Kp_tup, Kp_fn, get_cons, get_nil])
end Go.Ab

namespace Go.Ab
set_option linter.unusedSimpArgs false
set_option linter.unusedVariables false
open Nat renaming reduceEqDiff → n1_, reduceAdd → n2_, reduceMul → n3_, reduceLT → n4_, reduceLeDiff → n5_
open Int renaming reduceToNat → i1_, reduceAdd → i2_, reduceSub → i3_, reduceMul → i4_, reduceNeg → i5_, reduceLT → i6_, reduceLE → i7_
open Go Go.Proofs
set_option maxRecDepth 8000 in
theorem r8_copied_ac (A : List (List Nat)) (m n : Nat) (hA : Rk m n A) (hm : m < 2 ^ 30) (hn : n < 2 ^ 40) :
    AC Tryz.prog 49 [.d (rowsD A)] [] [(200, A.map rowV), (100, [hdo 200 0 m n])] (.sl 100 0 0 m 1 m) := by
  obtain ⟨hl, hr⟩ := hA
  refine AC_introA A_r8_copied_comp rfl mixed (fun _ => False) (by simp [get_nil]) ?_
  simp -implicitDefEqProofs only [evI, hv, effC, reduceCtorEq, ↓reduceIte, n1_, n2_, n3_, n4_, n5_, i1_, i2_, i3_, i4_, i5_, i6_, i7_, A_r8_copied]
  refine WA_forW (n := m) (fun c s => ∃ i, c + i = m ∧ s = ⟨[(0, .d (rowsD A)), (3, .sl 100 0 0 i 1 i), (4, fI i)], [(200, (A.take i).map rowV), (100, [hdo 200 0 i n])]⟩)
    (s0 := ⟨_, _⟩) (Le.trans (LeT.nilrow (X := 100) (esz := 1) (as' := [(0, .d (rowsD A)), (3, .sl 100 0 0 0 1 0), (4, fI 0)]) rfl (fun h => h) fun i => ?_) (LeT.empty (X := 200) (L1 := []) (by simp [fam_cons, fam_nil]))) ⟨0, by omega, rfl⟩ ?_
  · simp only [look]
    repeat' split
    all_goals simp [rowsD]
  rintro c s ⟨i, hc, rfl⟩
  simp -implicitDefEqProofs only [evI, hv, effC, reduceCtorEq, ↓reduceIte, n1_, n2_, n3_, n4_, n5_, i1_, i2_, i3_, i4_, i5_, i6_, i7_, A_r8_copied_L0]
  refine condC_intro (fun h => ?_) (fun h => ?_)
  · replace h := of_decide_eq_true h
    have hin : i < m := by omega
    have g1 := hr i hin
    simp -implicitDefEqProofs only [evI, hv, effC, reduceCtorEq, ↓reduceIte, n1_, n2_, n3_, n4_, n5_, i1_, i2_, i3_, i4_, i5_, i6_, i7_, Nat.zero_mul, Nat.zero_le]
    (repeat (with_reducible refine And.intro (by omega) ?_))
    rw [wrapI (by omega) (by omega), g1]
    have hk1 : ∀ L : Heap, L.fam 200 = some ((A.take i).map rowV) → KpA L (hdo 200 0 i n) := fun L hL => KpA_hdoF hL (by simp; omega)
    have htk := take_fam A i h
    refine ⟨c - 1, _, by omega, ?_, i + 1, by omega, rfl⟩
    rw [← htk]
    generalize hB : A.take i = B at hk1
    have e2 : (B.map rowV).length = i := by rw [← hB]; simp; omega
    generalize hxs : A.getD i [] = xs
    refine Le.trans (LeT.only (L' := [(202, [rowV xs]), (200, B.map rowV), (100, [hdo 200 0 i n ++ [.sl 202 0 0 n 1 n]])]) (fun X => X != 208) (fun _ h => h) rfl (by simp (maxDischargeDepth := 6) [KpS_cons, KpS_nil, KpH_cons, KpH_nil, KpF_cons, KpF_nil, KpF_rows, KpA_cons, KpA_nil, KpA_app, KpA_rowV, KpA_rowIV, KpA_dcells, KpA_outC, Kp_any, Kp_nilv, Kp_d, Kp_ptr, Kp_sl, Kp_agg, Kp_tup, Kp_fn, get_cons, get_nil, fam_cons, fam_nil]) (by simp (maxDischargeDepth := 6) [KpS_cons, KpS_nil, KpH_cons, KpH_nil, KpF_cons, KpF_nil, KpF_rows, KpA_cons, KpA_nil, KpA_app, KpA_rowV, KpA_rowIV, KpA_dcells, KpA_outC, Kp_any, Kp_nilv, Kp_d, Kp_ptr, Kp_sl, Kp_agg, Kp_tup, Kp_fn, get_cons, get_nil, fam_cons, fam_nil, hk1])) ?_
    have := LeT.absorb (N := fun _ => False) (nt := 21) (Y := 202) (X := 200) (cells := rowV xs) (fam := B.map rowV) (L := [(100, [hdo 200 0 i n ++ [.sl 202 0 0 n 1 n]])])
      (sls := [(0, .d (rowsD A)), (3, .sl 100 0 0 (i + 1) 1 (i + 1)), (4, fI ((i : Int) + 1))]) (by decide) (by simp [fam_cons, fam_nil]) (by simp [fam_cons, fam_nil]) (fun h => h)
    have e3 : Heap.renH (absF 202 200 i) [(100, [hdo 200 0 i n ++ [.sl 202 0 0 n 1 n]])] = [(100, [hdo 200 0 (i + 1) n])] := by
      simp only [Heap.renH, List.map_cons, List.map_nil, hdo_absorbL 202 200 _ _ (by decide)]
    rw [e2, ren_fam, ren_rowV, e3] at this
    exact this
  · replace h := of_decide_eq_false h
    simp -implicitDefEqProofs only [evI, hv, effC, reduceCtorEq, ↓reduceIte, n1_, n2_, n3_, n4_, n5_, i1_, i2_, i3_, i4_, i5_, i6_, i7_]
    obtain rfl : m = i := by omega
    have e : A.take m = A := List.take_of_length_le (by omega)
    rw [e]
    have hk1 : ∀ L : Heap, L.fam 200 = some (A.map rowV) → KpA L (hdo 200 0 m n) := fun L hL => KpA_hdoF hL (by omega)
    exact endsT_only (fun X => decide (X ≤ 200)) (fun _ h => h) (resV_tmpI (t := 2) (by decide) rfl) rfl (by simp (maxDischargeDepth := 6) [KpS_cons, KpS_nil, KpH_cons, KpH_nil, KpF_cons, KpF_nil, KpF_rows, KpA_cons, KpA_nil, KpA_app, KpA_rowV, KpA_rowIV, KpA_dcells, KpA_outC, Kp_any, Kp_nilv, Kp_d, Kp_ptr, Kp_sl, Kp_agg, Kp_tup, Kp_fn, get_cons, get_nil, fam_cons, fam_nil]) (by simp (maxDischargeDepth := 6) [KpS_cons, KpS_nil, KpH_cons, KpH_nil, KpF_cons, KpF_nil, KpF_rows, KpA_cons, KpA_nil, KpA_app, KpA_rowV, KpA_rowIV, KpA_dcells, KpA_outC, Kp_any, Kp_nilv, Kp_d, Kp_ptr, Kp_sl, Kp_agg, Kp_tup, Kp_fn, get_cons, get_nil, fam_cons, fam_nil, hk1])
theorem r1_Scale_con (x : Nat) (k : Int) (hk : -1000000 < k ∧ k < 1000000) : Con Tryz.prog 77 [fl x, fI k] (fl (scl x k)) := by
  refine Con_introA A_r1_Scale_comp rfl mixed ?_
  simp -implicitDefEqProofs only [evI, hv, effC, reduceCtorEq, ↓reduceIte, n1_, n2_, n3_, n4_, n5_, i1_, i2_, i3_, i4_, i5_, i6_, i7_, A_r1_Scale]
  first | refine callG_con (math_Ldexp_all x k hk) rfl ?_ | refine callCG_con (math_Ldexp_all x k hk) rfl ?_ | refine callSG_con (math_Ldexp_all x k hk) rfl ?_
  simp -implicitDefEqProofs only [evI, hv, effC, reduceCtorEq, ↓reduceIte, n1_, n2_, n3_, n4_, n5_, i1_, i2_, i3_, i4_, i5_, i6_, i7_]
  exact endsT_rett rfl (by decide) (by simp [look])
set_option maxRecDepth 8000 in
theorem r8_Correct_con (A : List (List Nat)) (m n : Nat) (hA : Rk m n A) (hm : m < 1000) (hn : n < 2 ^ 40) (l d : List Nat) (hl : l.length = m) (hd : d.length = n) :
    Con Tryz.prog 29 [.d (rowsD A), .d (rowD l), .d (rowD d)] (.d (rowsD (corrP A l d m n))) := by
  refine Con_introA A_r8_Correct_comp rfl mixed ?_
  simp -implicitDefEqProofs only [evI, hv, effC, reduceCtorEq, ↓reduceIte, n1_, n2_, n3_, n4_, n5_, i1_, i2_, i3_, i4_, i5_, i6_, i7_, A_r8_Correct]
  refine callG_rows 0 [.d (rowsD A)] (by simp [Heap.next]) (r8_copied_ac A m n hA (by omega) hn) ⟨.bare _, trivial⟩ ?_
  simp -implicitDefEqProofs only [evI, hv, effC, reduceCtorEq, ↓reduceIte, n1_, n2_, n3_, n4_, n5_, i1_, i2_, i3_, i4_, i5_, i6_, i7_]
  unfold corrP
  generalize hg : (fun k i x => fop .add x (fop .mul (l.getD k 0) (d.getD i 0))) = g
  have hg' : ∀ k i x, fop .add x (fop .mul (l.getD k 0) (d.getD i 0)) = g k i x := fun k i x => by rw [← hg]
  refine WA_for (n := m) (fun c s => ∃ j, c + j = m ∧ s = ⟨[(1, .d (rowD l)), (2, .d (rowD d)), (7, .sl 100 0 0 m 1 m), (8, fI j)], [(200, (mapJ g A n j).map rowV), (100, [hdo 200 0 m n])]⟩) ⟨0, by omega, rfl⟩ ?_
  rintro c s ⟨j, hc, rfl⟩
  have hZ := mapJ_rk g hA n j
  simp -implicitDefEqProofs only [evI, hv, effC, reduceCtorEq, ↓reduceIte, n1_, n2_, n3_, n4_, n5_, i1_, i2_, i3_, i4_, i5_, i6_, i7_, A_r8_Correct_L0]
  refine condC_intro (fun hj => ?_) (fun hj => ?_)
  · replace hj := of_decide_eq_true hj
    simp -implicitDefEqProofs only [evI, hv, effC, reduceCtorEq, ↓reduceIte, n1_, n2_, n3_, n4_, n5_, i1_, i2_, i3_, i4_, i5_, i6_, i7_]
    refine WA_for (n := n) (fun c s => ∃ i, c + i = n ∧ s = ⟨[(1, .d (rowD l)), (2, .d (rowD d)), (7, .sl 100 0 0 m 1 m), (8, fI j), (9, fI i)], [(200, (mapI g (mapJ g A n j) j i).map rowV), (100, [hdo 200 0 m n])]⟩) ⟨0, by omega, rfl⟩ ?_
    rintro c' s ⟨i, hc', rfl⟩
    have hZ2 := mapI_rk g hZ j i
    have hnx : mapI g (mapJ g A n j) j (i + 1) = up2 (mapI g (mapJ g A n j) j i) j i (g j i (at2 (mapI g (mapJ g A n j) j i) j i)) := rfl
    generalize hZe : mapI g (mapJ g A n j) j i = Z at hZ2 hnx
    have hzl := hZ2.1
    have hzj := hZ2.2 j hj
    simp -implicitDefEqProofs only [evI, hv, effC, reduceCtorEq, ↓reduceIte, n1_, n2_, n3_, n4_, n5_, i1_, i2_, i3_, i4_, i5_, i6_, i7_, A_r8_Correct_L1]
    refine condC_intro (fun hi => ?_) (fun hi => ?_)
    · replace hi := of_decide_eq_true hi
      have gk := getD_map_fl (Z.getD j []) i (by omega)
      simp -implicitDefEqProofs only [evI, hv, effC, reduceCtorEq, ↓reduceIte, n1_, n2_, n3_, n4_, n5_, i1_, i2_, i3_, i4_, i5_, i6_, i7_, hdo_getD 200 0 m n j hj, getE Z j (by omega), gk, setE, hg']
      (repeat (with_reducible refine And.intro (by omega) ?_))
      rw [wrapI (by omega) (by omega)]
      refine ⟨c' - 1, by omega, i + 1, by omega, ?_⟩
      rw [hnx]
      rfl
    · replace hi := of_decide_eq_false hi
      have e : i = n := by omega
      subst e
      simp -implicitDefEqProofs only [evI, hv, effC, reduceCtorEq, ↓reduceIte, n1_, n2_, n3_, n4_, n5_, i1_, i2_, i3_, i4_, i5_, i6_, i7_]
      rw [wrapI (by omega) (by omega), ← hZe]
      exact ⟨c - 1, by omega, j + 1, by omega, rfl⟩
  · replace hj := of_decide_eq_false hj
    have e : j = m := by omega
    subst e
    simp -implicitDefEqProofs only [evI, hv, effC, reduceCtorEq, ↓reduceIte, n1_, n2_, n3_, n4_, n5_, i1_, i2_, i3_, i4_, i5_, i6_, i7_]
    exact endsT_le (.sl 100 0 0 j 1 j) (fun _ h => h) (resV_tmpI (t := 6) (by decide) rfl) (Fz_rk (X := 200) hZ rfl rfl rfl rfl)
set_option maxRecDepth 8000 in
theorem r8_Rescale_ac (A : List (List Nat)) (m n : Nat) (hA : Rk m n A) (hm : m < 1000) (hn : n < 2 ^ 40) (k : Int) (hk : -10 ≤ k ∧ k ≤ 10) :
    AC Tryz.prog 43 [.d (rowsD A), fI k] [] [(200, (scaleP A k m n).map rowV), (100, [hdo 200 0 m n])] (.sl 100 0 0 m 1 m) := by
  refine AC_introA A_r8_Rescale_comp rfl mixed (fun _ => False) (by simp [get_nil]) ?_
  simp -implicitDefEqProofs only [evI, hv, effC, reduceCtorEq, ↓reduceIte, n1_, n2_, n3_, n4_, n5_, i1_, i2_, i3_, i4_, i5_, i6_, i7_, A_r8_Rescale]
  refine callG_rows 0 [.d (rowsD A)] (by simp [Heap.next]) (r8_copied_ac A m n hA (by omega) hn) ⟨.bare _, trivial⟩ ?_
  simp -implicitDefEqProofs only [evI, hv, effC, reduceCtorEq, ↓reduceIte, n1_, n2_, n3_, n4_, n5_, i1_, i2_, i3_, i4_, i5_, i6_, i7_]
  unfold scaleP
  generalize hg : (fun (j : Nat) (_ : Nat) x => scl x ((j : Int) * k)) = g
  have hg' : ∀ (j i : Nat) x, scl x ((j : Int) * k) = g j i x := fun j i x => by rw [← hg]
  refine WA_for (n := m) (fun c s => ∃ j, c + j = m ∧ s = ⟨[(1, fI k), (5, .sl 100 0 0 m 1 m), (6, fI j)], [(200, (mapJ g A n j).map rowV), (100, [hdo 200 0 m n])]⟩) ⟨0, by omega, rfl⟩ ?_
  rintro c s ⟨j, hc, rfl⟩
  have hZ := mapJ_rk g hA n j
  simp -implicitDefEqProofs only [evI, hv, effC, reduceCtorEq, ↓reduceIte, n1_, n2_, n3_, n4_, n5_, i1_, i2_, i3_, i4_, i5_, i6_, i7_, A_r8_Rescale_L0]
  refine condC_intro (fun hj => ?_) (fun hj => ?_)
  · replace hj := of_decide_eq_true hj
    have hjk : -10000 ≤ (j : Int) * k ∧ (j : Int) * k ≤ 10000 := by
      constructor
      · have := Int.mul_le_mul_of_nonneg_left hk.1 (show (0 : Int) ≤ (j : Int) by omega)
        omega
      · have := Int.mul_le_mul_of_nonneg_left hk.2 (show (0 : Int) ≤ (j : Int) by omega)
        omega
    have w1 : IntKind.i64.wrap ((j : Int) * k) = (j : Int) * k := wrapI (by omega) (by omega)
    simp -implicitDefEqProofs only [evI, hv, effC, reduceCtorEq, ↓reduceIte, n1_, n2_, n3_, n4_, n5_, i1_, i2_, i3_, i4_, i5_, i6_, i7_]
    refine WA_for (n := n) (fun c s => ∃ i, c + i = n ∧ s = ⟨[(1, fI k), (5, .sl 100 0 0 m 1 m), (6, fI j), (7, fI i)], [(200, (mapI g (mapJ g A n j) j i).map rowV), (100, [hdo 200 0 m n])]⟩) ⟨0, by omega, rfl⟩ ?_
    rintro c' s ⟨i, hc', rfl⟩
    have hZ2 := mapI_rk g hZ j i
    have hnx : mapI g (mapJ g A n j) j (i + 1) = up2 (mapI g (mapJ g A n j) j i) j i (g j i (at2 (mapI g (mapJ g A n j) j i) j i)) := rfl
    generalize hZe : mapI g (mapJ g A n j) j i = Z at hZ2 hnx
    have hzl := hZ2.1
    have hzj := hZ2.2 j hj
    simp -implicitDefEqProofs only [evI, hv, effC, reduceCtorEq, ↓reduceIte, n1_, n2_, n3_, n4_, n5_, i1_, i2_, i3_, i4_, i5_, i6_, i7_, A_r8_Rescale_L1, hdo_getD 200 0 m n j hj]
    (repeat (with_reducible refine And.intro (by omega) ?_))
    refine condC_intro (fun hi => ?_) (fun hi => ?_)
    · replace hi := of_decide_eq_true hi
      have gk := getD_map_fl (Z.getD j []) i (by omega)
      simp -implicitDefEqProofs only [evI, hv, effC, reduceCtorEq, ↓reduceIte, n1_, n2_, n3_, n4_, n5_, i1_, i2_, i3_, i4_, i5_, i6_, i7_, hdo_getD 200 0 m n j hj, getE Z j (by omega), gk, setE, w1]
      (repeat (with_reducible refine And.intro (by omega) ?_))
      first | refine callG_con (r1_Scale_con ((Z.getD j []).getD i 0) ((j : Int) * k) (by omega)) rfl ?_ | refine callCG_con (r1_Scale_con ((Z.getD j []).getD i 0) ((j : Int) * k) (by omega)) rfl ?_ | refine callSG_con (r1_Scale_con ((Z.getD j []).getD i 0) ((j : Int) * k) (by omega)) rfl ?_
      simp -implicitDefEqProofs only [evI, hv, effC, reduceCtorEq, ↓reduceIte, n1_, n2_, n3_, n4_, n5_, i1_, i2_, i3_, i4_, i5_, i6_, i7_, hdo_getD 200 0 m n j hj, getE Z j (by omega), setE, hg' j i]
      (repeat (with_reducible refine And.intro (by omega) ?_))
      rw [wrapI (by omega) (by omega)]
      refine ⟨c' - 1, by omega, i + 1, by omega, ?_⟩
      rw [hnx]
      rfl
    · replace hi := of_decide_eq_false hi
      have e : i = n := by omega
      subst e
      simp -implicitDefEqProofs only [evI, hv, effC, reduceCtorEq, ↓reduceIte, n1_, n2_, n3_, n4_, n5_, i1_, i2_, i3_, i4_, i5_, i6_, i7_]
      rw [wrapI (by omega) (by omega), ← hZe]
      exact ⟨c - 1, by omega, j + 1, by omega, rfl⟩
  · replace hj := of_decide_eq_false hj
    have e : j = m := by omega
    subst e
    simp -implicitDefEqProofs only [evI, hv, effC, reduceCtorEq, ↓reduceIte, n1_, n2_, n3_, n4_, n5_, i1_, i2_, i3_, i4_, i5_, i6_, i7_]
    have hk1 : ∀ L : Heap, L.fam 200 = some ((mapJ g A n j).map rowV) → KpA L (hdo 200 0 j n) := fun L hL => KpA_hdoF hL (by have := hZ.1; omega)
    exact endsT_only (fun X => X == 200 || X == 100) (fun _ h => h) (resV_tmpI (t := 4) (by decide) rfl) rfl (by simp (maxDischargeDepth := 6) [KpS_cons, KpS_nil, KpH_cons, KpH_nil, KpF_cons, KpF_nil, KpF_rows, KpA_cons, KpA_nil, KpA_app, KpA_rowV, KpA_rowIV, KpA_dcells, KpA_outC, Kp_any, Kp_nilv, Kp_d, Kp_ptr, Kp_sl, Kp_agg, Kp_tup, Kp_fn, get_cons, get_nil, fam_cons, fam_nil]) (by simp (maxDischargeDepth := 6) [KpS_cons, KpS_nil, KpH_cons, KpH_nil, KpF_cons, KpF_nil, KpF_rows, KpA_cons, KpA_nil, KpA_app, KpA_rowV, KpA_rowIV, KpA_dcells, KpA_outC, Kp_any, Kp_nilv, Kp_d, Kp_ptr, Kp_sl, Kp_agg, Kp_tup, Kp_fn, get_cons, get_nil, fam_cons, fam_nil, hk1])
theorem r8_Rescale_con (A : List (List Nat)) (m n : Nat) (hA : Rk m n A) (hm : m < 1000) (hn : n < 2 ^ 40) (k : Int) (hk : -10 ≤ k ∧ k ≤ 10) :
    Con Tryz.prog 43 [.d (rowsD A), fI k] (.d (rowsD (scaleP A k m n))) :=
  Con_of_rows (r8_Rescale_ac A m n hA hm hn k hk) (scaleP_rk hA k m n) (by decide)
set_option maxRecDepth 8000 in
theorem r8_Predict_con (A : List (List Nat)) (q n : Nat) (hA : Rk (q + 1) n A) (hm : q < 1000) (hn : n < 2 ^ 40) : Con Tryz.prog 24 [.d (rowsD A)] (.d (rowsD (predP A n q))) := by
  refine Con_introA A_r8_Predict_comp rfl mixed ?_
  simp -implicitDefEqProofs only [evI, hv, effC, reduceCtorEq, ↓reduceIte, n1_, n2_, n3_, n4_, n5_, i1_, i2_, i3_, i4_, i5_, i6_, i7_, A_r8_Predict]
  refine callG_rows 0 [.d (rowsD A)] (by simp [Heap.next]) (r8_copied_ac A (q + 1) n hA (by omega) hn) ⟨.bare _, trivial⟩ ?_
  have w1 : IntKind.i64.wrap (((q + 1 : Nat) : Int) - 1) = (q : Int) := by rw [wrapI (by omega) (by omega)]; omega
  simp -implicitDefEqProofs only [evI, hv, effC, reduceCtorEq, ↓reduceIte, n1_, n2_, n3_, n4_, n5_, i1_, i2_, i3_, i4_, i5_, i6_, i7_, w1]
  refine WA_for (n := q + 1) (fun c s => ∃ j, c + j = q + 1 ∧ j ≤ q ∧ s = ⟨[(3, .sl 100 0 0 (q + 1) 1 (q + 1)), (4, fI q), (5, fI (j + 1 : Nat))], [(200, (predJ A n q j).map rowV), (100, [hdo 200 0 (q + 1) n])]⟩) ⟨0, by omega, by omega, rfl⟩ ?_
  rintro c s ⟨j, hc, hjq, rfl⟩
  have hZ := predJ_rk hA q j
  have hnx : predJ A n q (j + 1) = predK (predJ A n q j) n (q - 1) (q - j) := rfl
  generalize hJ : predJ A n q j = Z at hZ hnx
  simp -implicitDefEqProofs only [evI, hv, effC, reduceCtorEq, ↓reduceIte, n1_, n2_, n3_, n4_, n5_, i1_, i2_, i3_, i4_, i5_, i6_, i7_, A_r8_Predict_L0]
  refine condC_intro (fun hj => ?_) (fun hj => ?_)
  · replace hj := of_decide_eq_true hj
    have w2 : IntKind.i64.wrap ((q : Int) - 1) = (q : Int) - 1 := wrapI (by omega) (by omega)
    have w3 : IntKind.i64.wrap (((j + 1 : Nat) : Int) - 1) = (j : Int) := by rw [wrapI (by omega) (by omega)]; omega
    simp -implicitDefEqProofs only [evI, hv, effC, reduceCtorEq, ↓reduceIte, n1_, n2_, n3_, n4_, n5_, i1_, i2_, i3_, i4_, i5_, i6_, i7_, w2]
    refine WA_for (n := q - j + 1) (fun c s => ∃ k, c + k = q - j + 1 ∧ k ≤ q - j ∧ s = ⟨[(3, .sl 100 0 0 (q + 1) 1 (q + 1)), (4, fI q), (5, fI (j + 1 : Nat)), (6, fI ((q : Int) - 1 - k))], [(200, (predK Z n (q - 1) k).map rowV), (100, [hdo 200 0 (q + 1) n])]⟩) ⟨0, by omega, by omega, by simp [predK]⟩ ?_
    rintro c' s ⟨k, hc', hkq, rfl⟩
    have hZk := predK_rk hZ (q - 1) k
    have hnk : predK Z n (q - 1) (k + 1) = addI (predK Z n (q - 1) k) (q - 1 - k) n := rfl
    generalize hK : predK Z n (q - 1) k = Y at hZk hnk
    simp -implicitDefEqProofs only [evI, hv, effC, reduceCtorEq, ↓reduceIte, n1_, n2_, n3_, n4_, n5_, i1_, i2_, i3_, i4_, i5_, i6_, i7_, A_r8_Predict_L1, w3]
    refine condC_intro (fun hk => ?_) (fun hk => ?_)
    · replace hk := of_decide_eq_true hk
      obtain ⟨r, hr⟩ : ∃ r : Nat, (q : Int) - 1 - k = r := ⟨((q : Int) - 1 - k).toNat, by omega⟩
      have hrq : r < q + 1 := by omega
      have hr1 : r + 1 < q + 1 := by omega
      have hrk : q - 1 - k = r := by omega
      rw [hrk] at hnk
      rw [hr]
      have w4 : IntKind.i64.wrap ((r : Int) + 1) = ((r + 1 : Nat) : Int) := by rw [wrapI (by omega) (by omega)]; omega
      simp -implicitDefEqProofs only [evI, hv, effC, reduceCtorEq, ↓reduceIte, n1_, n2_, n3_, n4_, n5_, i1_, i2_, i3_, i4_, i5_, i6_, i7_, hdo_getD 200 0 (q + 1) n r hrq]
      refine WA_for (n := n) (fun c s => ∃ i, c + i = n ∧ s = ⟨[(3, .sl 100 0 0 (q + 1) 1 (q + 1)), (4, fI q), (5, fI (j + 1 : Nat)), (6, fI r), (7, fI i)], [(200, (addI Y r i).map rowV), (100, [hdo 200 0 (q + 1) n])]⟩) ⟨0, by omega, rfl⟩ ?_
      rintro c2 s ⟨i, hc2, rfl⟩
      have hZi := addI_rk hZk r i
      have hni : addI Y r (i + 1) = up2 (addI Y r i) r i (fop .add (at2 (addI Y r i) r i) (at2 (addI Y r i) (r + 1) i)) := rfl
      generalize hI : addI Y r i = X at hZi hni
      have l0 := hZi.1
      have l1 := hZi.2 r hrq
      have l2 := hZi.2 (r + 1) hr1
      simp -implicitDefEqProofs only [evI, hv, effC, reduceCtorEq, ↓reduceIte, n1_, n2_, n3_, n4_, n5_, i1_, i2_, i3_, i4_, i5_, i6_, i7_, A_r8_Predict_L2, hdo_getD 200 0 (q + 1) n r hrq]
      (repeat (with_reducible refine And.intro (by omega) ?_))
      refine condC_intro (fun hi => ?_) (fun hi => ?_)
      · replace hi := of_decide_eq_true hi
        have g1 := getD_map_fl (X.getD r []) i (by omega)
        have g2 := getD_map_fl (X.getD (r + 1) []) i (by omega)
        simp -implicitDefEqProofs only [evI, hv, effC, reduceCtorEq, ↓reduceIte, n1_, n2_, n3_, n4_, n5_, i1_, i2_, i3_, i4_, i5_, i6_, i7_, hdo_getD 200 0 (q + 1) n r hrq, hdo_getD 200 0 (q + 1) n (r + 1) hr1, w4, getE X r (by omega), getE X (r + 1) (by omega), g1, g2, setE]
        (repeat (with_reducible refine And.intro (by omega) ?_))
        rw [wrapI (by omega) (by omega)]
        refine ⟨c2 - 1, by omega, i + 1, by omega, ?_⟩
        rw [hni]
        rfl
      · replace hi := of_decide_eq_false hi
        have e : i = n := by omega
        subst e
        simp -implicitDefEqProofs only [evI, hv, effC, reduceCtorEq, ↓reduceIte, n1_, n2_, n3_, n4_, n5_, i1_, i2_, i3_, i4_, i5_, i6_, i7_]
        rw [wrapI (by omega) (by omega)]
        refine ⟨c' - 1, by omega, k + 1, by omega, by omega, ?_⟩
        rw [hnk, hI]
        have e2 : (r : Int) - 1 = (q : Int) - 1 - ((k + 1 : Nat) : Int) := by omega
        rw [e2]
    · replace hk := of_decide_eq_false hk
      have e : k = q - j := by omega
      subst e
      simp -implicitDefEqProofs only [evI, hv, effC, reduceCtorEq, ↓reduceIte, n1_, n2_, n3_, n4_, n5_, i1_, i2_, i3_, i4_, i5_, i6_, i7_]
      rw [wrapI (by omega) (by omega)]
      refine ⟨c - 1, by omega, j + 1, by omega, by omega, ?_⟩
      rw [hnx, hK]
      rfl
  · replace hj := of_decide_eq_false hj
    have e : j = q := by omega
    subst e
    simp -implicitDefEqProofs only [evI, hv, effC, reduceCtorEq, ↓reduceIte, n1_, n2_, n3_, n4_, n5_, i1_, i2_, i3_, i4_, i5_, i6_, i7_]
    have hp : predP A n j = Z := hJ
    rw [hp]
    exact endsT_le (.sl 100 0 0 (j + 1) 1 (j + 1)) (fun _ h => h) (resV_tmpI (t := 2) (by decide) rfl) (Fz_rk (X := 200) hZ rfl rfl rfl rfl)
end Go.Ab

namespace Go.Ab
set_option linter.unusedSimpArgs false
set_option linter.unusedVariables false
open Nat renaming reduceEqDiff → n1_, reduceAdd → n2_, reduceMul → n3_, reduceLT → n4_, reduceLeDiff → n5_
open Int renaming reduceToNat → i1_, reduceAdd → i2_, reduceSub → i3_, reduceMul → i4_, reduceNeg → i5_, reduceLT → i6_, reduceLE → i7_
open Go Go.Proofs
theorem Fz_two {L L' : Heap} {H A B n m : Nat} {xs ys : List Nat} (h : L.get H 0 = some [.sl A 0 0 n 1 n, .sl B 0 0 m 1 m]) (hA : L.get A 0 = some (rowV xs)) (hB : L.get B 0 = some (rowV ys)) (ha : xs.length = n) (hb : ys.length = m)
    (h1 : L'.fam H = none) (h2 : L'.fam A = none) (h3 : L'.fam B = none) : Fz L L' (.sl H 0 0 2 1 2) (.d (rowsD [xs, ys])) := by
  have nf : ∀ X, L'.fam X = none → ∀ r, ∀ Y q, L'.get Y q ≠ none → (Y, q) ≠ (X, r) := fun X hX r Y q hY e => by cases e; exact hY (get_of_fam_none hX _)
  refine .d (.sl (fun _ Y q hY => nf H h1 0 Y q hY) h rfl (by simp) (fun i hi => rfl) fun i j hi hj => ?_)
  obtain rfl : j = 0 := by omega
  have hi : i < 2 := hi
  rcases i with _ | _ | i
  · exact snap_row (fun Y q hY => nf A h2 0 Y q hY) hA ha rfl
  · exact snap_row (fun Y q hY => nf B h3 0 Y q hY) hB hb rfl
  · omega
theorem hW_all : ((List.range 60).all fun j => scl (FloatKind.nearest .f64 ((2 ^ j : Nat) : Int)) (-30) == hW (2 ^ j)) = true := by kernel_rfl
theorem Scale_step (j : Nat) (hj : j < 60) : Con Tryz.prog 64 [fl (FloatKind.nearest .f64 ((2 ^ j : Nat) : Int)), fI (-30)] (fl (hW (2 ^ j))) := by
  have h := List.all_eq_true.1 hW_all j (by simpa using hj)
  rw [← eq_of_beq h]
  exact fp_Scale_all _ _ (by decide)
theorem r8_H_step (j : Nat) : Con Tryz.prog 51 [fI ((2 ^ j : Nat) : Int)] (fl (hW (2 ^ j))) := by
  have h := r8_H_con ((2 ^ j : Nat) : Int)
  have e : fop .div (FloatKind.nearest .f64 ((2 ^ j : Nat) : Int)) 4742290407621132288 = hW (2 ^ j) := by
    unfold hW; rw [show FloatKind.nearest .f64 1073741824 = 4742290407621132288 by kernel_rfl]
  rwa [e] at h
set_option maxRecDepth 8000 in
theorem nord_Start_con (t : Tp) (y : List Nat) (j : Nat) (ht : Tok t) (hy : y.length = t.n) (hj : j < 60) :
    Con Tryz.prog 76 [tapeV t, .d (rowD y), fI ((2 ^ j : Nat) : Int)] (ndV ⟨0, ((2 ^ j : Nat) : Int), 1, 0, startZ t y (hW (2 ^ j))⟩) := by
  have hn := ht.n
  refine Con_introA A_nord_Start_comp rfl mixed ?_
  simp -implicitDefEqProofs only [evI, hv, effC, reduceCtorEq, ↓reduceIte, n1_, n2_, n3_, n4_, n5_, i1_, i2_, i3_, i4_, i5_, i6_, i7_, A_nord_Start]
  first | refine callG_con (Scale_step j hj) rfl ?_ | refine callCG_con (Scale_step j hj) rfl ?_ | refine callSG_con (Scale_step j hj) rfl ?_
  generalize hW (2 ^ j) = h
  generalize ((2 ^ j : Nat) : Int) = st
  simp -implicitDefEqProofs only [evI, hv, effC, reduceCtorEq, ↓reduceIte, n1_, n2_, n3_, n4_, n5_, i1_, i2_, i3_, i4_, i5_, i6_, i7_]
  (repeat (with_reducible refine And.intro (by omega) ?_))
  refine callG_row 100 [tapeV t, .d (rowD y)] (by simp [Heap.next]) (tape_Eval_ac t y ht hy) ⟨.aggs ⟨.bare _, .bare _, .bare _, trivial⟩, .bare _, trivial⟩ ?_
  have hfl := evalT_len t y
  unfold startZ
  generalize evalT t y = f at hfl
  generalize hg : (fun i => fop .mul h (f.getD i 0)) = g
  have hg' : ∀ i, fop .mul h (f.getD i 0) = g i := fun i => by rw [← hg]
  simp -implicitDefEqProofs only [evI, hv, effC, reduceCtorEq, ↓reduceIte, n1_, n2_, n3_, n4_, n5_, i1_, i2_, i3_, i4_, i5_, i6_, i7_]
  refine WA_forW (n := t.n) (fun c s => ∃ i, c + i = t.n ∧ s = ⟨[(1, .d (rowD y)), (2, fI st), (6, .ptr 1 0 0 5), (7, fl h), (8, .sl 4 0 0 i 1 i), (19, .sl 100 0 0 t.n 1 t.n), (20, fI t.n), (21, fI i)],
    [(100, [rowV f]), (4, [rowV (tabR g i)]), (1, [[fI 0, fI 0, fI 0, fI 0, .nil]])]⟩) (s0 := ⟨_, _⟩) (LeT.only (L' := [(100, [rowV f]), (4, [rowV (tabR g 0)]), (1, [[fI 0, fI 0, fI 0, fI 0, .nil]])]) (fun X => X != 0) (fun _ h => h) rfl (by simp [KpS_cons, KpS_nil, KpH_cons, KpH_nil, KpF_cons, KpF_nil, KpF_rows, KpA_cons, KpA_nil, KpA_app, KpA_rowV, KpA_rowIV, KpA_dcells, KpA_outC, Kp_any, Kp_nilv, Kp_d, Kp_ptr, Kp_sl, Kp_agg, Kp_tup, Kp_fn, get_cons, get_nil]) (by simp [KpS_cons, KpS_nil, KpH_cons, KpH_nil, KpF_cons, KpF_nil, KpF_rows, KpA_cons, KpA_nil, KpA_app, KpA_rowV, KpA_rowIV, KpA_dcells, KpA_outC, Kp_any, Kp_nilv, Kp_d, Kp_ptr, Kp_sl, Kp_agg, Kp_tup, Kp_fn, get_cons, get_nil])) ⟨0, by omega, rfl⟩ ?_
  rintro c s ⟨i, hc, rfl⟩
  have hl := tabR_len g i
  simp -implicitDefEqProofs only [evI, hv, effC, reduceCtorEq, ↓reduceIte, n1_, n2_, n3_, n4_, n5_, i1_, i2_, i3_, i4_, i5_, i6_, i7_, A_nord_Start_L0]
  refine condC_intro (fun hi => ?_) (fun hi => ?_)
  · replace hi := of_decide_eq_true hi
    have gk := getD_map_fl f i (by omega)
    simp -implicitDefEqProofs only [evI, hv, effC, reduceCtorEq, ↓reduceIte, n1_, n2_, n3_, n4_, n5_, i1_, i2_, i3_, i4_, i5_, i6_, i7_, gk, hg']
    (repeat (with_reducible refine And.intro (by omega) ?_))
    have e2 : rowV (tabR g i) ++ [fl (g i)] = rowV (tabR g (i + 1)) := (tabR_succ _ _).symm
    rw [wrapI (by omega) (by omega), e2]
    exact ⟨c - 1, _, by omega, LeT.only (fun X => X == 100 || X == 4 || X == 1) (fun _ h => h) rfl (by simp [KpS_cons, KpS_nil, KpH_cons, KpH_nil, KpF_cons, KpF_nil, KpF_rows, KpA_cons, KpA_nil, KpA_app, KpA_rowV, KpA_rowIV, KpA_dcells, KpA_outC, Kp_any, Kp_nilv, Kp_d, Kp_ptr, Kp_sl, Kp_agg, Kp_tup, Kp_fn, get_cons, get_nil]) (by simp [KpS_cons, KpS_nil, KpH_cons, KpH_nil, KpF_cons, KpF_nil, KpF_rows, KpA_cons, KpA_nil, KpA_app, KpA_rowV, KpA_rowIV, KpA_dcells, KpA_outC, Kp_any, Kp_nilv, Kp_d, Kp_ptr, Kp_sl, Kp_agg, Kp_tup, Kp_fn, get_cons, get_nil]), i + 1, by omega, rfl⟩
  · replace hi := of_decide_eq_false hi
    have e : i = t.n := by omega
    subst e
    simp -implicitDefEqProofs only [evI, hv, effC, reduceCtorEq, ↓reduceIte, n1_, n2_, n3_, n4_, n5_, i1_, i2_, i3_, i4_, i5_, i6_, i7_, srcCells_row, srcLen_bor]
    (repeat (with_reducible refine And.intro (by omega) ?_))
    rw [if_pos ⟨hl, by omega⟩]
    have hta : List.take t.n (rowV (tabR g t.n)) = rowV (tabR g t.n) := List.take_of_length_le (by simp [hl])
    rw [hta]
    simp only []
    refine ⟨⟨by omega, by simp [hl], by simp [rowV, V.isCell]⟩, ?_⟩
    exact endsT_le (.agg [fI 0, fI st, fI 1, fI 0, .sl 106 0 0 2 1 2]) (fun _ h => h) (resV_cellI (by decide) rfl rfl rfl (by simp) rfl)
      (Fz_agg _ _ ⟨Fz_d _, Fz_d _, Fz_d _, Fz_d _, Fz_two (A := 103) (B := 105) rfl rfl rfl rfl hl rfl rfl rfl, trivial⟩)
set_option maxRecDepth 8000 in
theorem r8_Start_con (t : Tp) (y : List Nat) (j : Nat) (ht : Tok t) (hy : y.length = t.n) (hj : j < 60) :
    Con Tryz.prog 32 [tapeV t, .d (rowD y), fI ((2 ^ j : Nat) : Int)] (ndV ⟨0, ((2 ^ j : Nat) : Int), 1, 0, startZ t y (hW (2 ^ j))⟩) := by
  have hn := ht.n
  have hH := r8_H_step j
  refine Con_introA A_r8_Start_comp rfl mixed ?_
  simp -implicitDefEqProofs only [evI, hv, effC, reduceCtorEq, ↓reduceIte, n1_, n2_, n3_, n4_, n5_, i1_, i2_, i3_, i4_, i5_, i6_, i7_, A_r8_Start]
  generalize hW (2 ^ j) = h at hH
  generalize ((2 ^ j : Nat) : Int) = st at hH
  refine callG_row 100 [tapeV t, .d (rowD y)] (by simp [Heap.next]) (r3_Eval_ac t y ht hy) ⟨.aggs ⟨.bare _, .bare _, .bare _, trivial⟩, .bare _, trivial⟩ ?_
  have hfl := evalT_len t y
  unfold startZ
  generalize evalT t y = f at hfl
  generalize hg : (fun i => fop .mul h (f.getD i 0)) = g
  have hg' : ∀ i, fop .mul h (f.getD i 0) = g i := fun i => by rw [← hg]
  simp -implicitDefEqProofs only [evI, hv, effC, reduceCtorEq, ↓reduceIte, n1_, n2_, n3_, n4_, n5_, i1_, i2_, i3_, i4_, i5_, i6_, i7_]
  refine WA_forW (n := t.n) (fun c s => ∃ i, c + i = t.n ∧ s = ⟨[(1, .d (rowD y)), (2, fI st), (6, .ptr 1 0 0 5), (7, .sl 100 0 0 t.n 1 t.n), (8, .sl 101 0 0 i 1 i), (9, fI i)],
    [(101, [rowV (tabR g i)]), (100, [rowV f]), (1, [[fI 0, fI 0, fI 0, fI 0, .nil]])]⟩) (s0 := ⟨_, _⟩) (Le.trans (LeT.nilrow (X := 101) (esz := 1) (as' := [(1, .d (rowD y)), (2, fI st), (6, .ptr 1 0 0 5), (7, .sl 100 0 0 t.n 1 t.n), (8, .sl 101 0 0 0 1 0), (9, fI 0)]) (by simp [fam_cons, fam_nil]) (fun h => h) fun i => ?_)
      (LeT.only (L' := [(101, [rowV (tabR g 0)]), (100, [rowV f]), (1, [[fI 0, fI 0, fI 0, fI 0, .nil]])]) (fun X => X != 0) (fun _ h => h) rfl (by simp [KpS_cons, KpS_nil, KpH_cons, KpH_nil, KpF_cons, KpF_nil, KpF_rows, KpA_cons, KpA_nil, KpA_app, KpA_rowV, KpA_rowIV, KpA_dcells, KpA_outC, Kp_any, Kp_nilv, Kp_d, Kp_ptr, Kp_sl, Kp_agg, Kp_tup, Kp_fn, get_cons, get_nil]) (by simp [KpS_cons, KpS_nil, KpH_cons, KpH_nil, KpF_cons, KpF_nil, KpF_rows, KpA_cons, KpA_nil, KpA_app, KpA_rowV, KpA_rowIV, KpA_dcells, KpA_outC, Kp_any, Kp_nilv, Kp_d, Kp_ptr, Kp_sl, Kp_agg, Kp_tup, Kp_fn, get_cons, get_nil]))) ⟨0, by omega, rfl⟩ ?_
  · simp only [look]
    repeat' split
    all_goals simp [rowD]
  rintro c s ⟨i, hc, rfl⟩
  have hl := tabR_len g i
  simp -implicitDefEqProofs only [evI, hv, effC, reduceCtorEq, ↓reduceIte, n1_, n2_, n3_, n4_, n5_, i1_, i2_, i3_, i4_, i5_, i6_, i7_, A_r8_Start_L0]
  refine condC_intro (fun hi => ?_) (fun hi => ?_)
  · replace hi := of_decide_eq_true hi
    have gk := getD_map_fl f i (by omega)
    simp -implicitDefEqProofs only [evI, hv, effC, reduceCtorEq, ↓reduceIte, n1_, n2_, n3_, n4_, n5_, i1_, i2_, i3_, i4_, i5_, i6_, i7_, gk]
    first | refine callG_con (hH) rfl ?_ | refine callCG_con (hH) rfl ?_ | refine callSG_con (hH) rfl ?_
    simp -implicitDefEqProofs only [evI, hv, effC, reduceCtorEq, ↓reduceIte, n1_, n2_, n3_, n4_, n5_, i1_, i2_, i3_, i4_, i5_, i6_, i7_, gk, hg']
    (repeat (with_reducible refine And.intro (by omega) ?_))
    have e2 : rowV (tabR g i) ++ [fl (g i)] = rowV (tabR g (i + 1)) := (tabR_succ _ _).symm
    rw [wrapI (by omega) (by omega), e2]
    exact ⟨c - 1, _, by omega, LeT.only (fun X => X == 101 || X == 100 || X == 1) (fun _ h => h) rfl (by simp [KpS_cons, KpS_nil, KpH_cons, KpH_nil, KpF_cons, KpF_nil, KpF_rows, KpA_cons, KpA_nil, KpA_app, KpA_rowV, KpA_rowIV, KpA_dcells, KpA_outC, Kp_any, Kp_nilv, Kp_d, Kp_ptr, Kp_sl, Kp_agg, Kp_tup, Kp_fn, get_cons, get_nil]) (by simp [KpS_cons, KpS_nil, KpH_cons, KpH_nil, KpF_cons, KpF_nil, KpF_rows, KpA_cons, KpA_nil, KpA_app, KpA_rowV, KpA_rowIV, KpA_dcells, KpA_outC, Kp_any, Kp_nilv, Kp_d, Kp_ptr, Kp_sl, Kp_agg, Kp_tup, Kp_fn, get_cons, get_nil]), i + 1, by omega, rfl⟩
  · replace hi := of_decide_eq_false hi
    have e : i = t.n := by omega
    subst e
    simp -implicitDefEqProofs only [evI, hv, effC, reduceCtorEq, ↓reduceIte, n1_, n2_, n3_, n4_, n5_, i1_, i2_, i3_, i4_, i5_, i6_, i7_, srcCells_row, srcLen_bor]
    (repeat (with_reducible refine And.intro (by omega) ?_))
    exact endsT_le (.agg [fI 0, fI st, fI 1, fI 0, .sl 107 0 0 2 1 2]) (fun _ h => h) (resV_cellI (by decide) rfl rfl rfl (by simp) rfl)
      (Fz_agg _ _ ⟨Fz_d _, Fz_d _, Fz_d _, Fz_d _, Fz_two (A := 103) (B := 101) rfl rfl rfl rfl hl rfl rfl rfl, trivial⟩)
end Go.Ab
