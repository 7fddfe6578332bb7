/- Part 10: LF, LA, LB, LC, LD, CA, SA. -/
import Derived.Test.YtdnldhnjbnpbcaaGreatGI
import Derived.Test.YtdnldhnjbnpbcaaGreatChecked
namespace Go.Ab
set_option linter.unusedSimpArgs false
set_option linter.unusedVariables false
open Nat renaming reduceEqDiff → n1_, reduceAdd → n2_, reduceMul → n3_, reduceLT → n4_, reduceLeDiff → n5_
open Int renaming reduceToNat → i1_, reduceAdd → i2_, reduceSub → i3_, reduceMul → i4_, reduceNeg → i5_, reduceLT → i6_, reduceLE → i7_
open Go Go.Proofs
theorem mixed : Tryz.prog.follows .mixedOrders = true := by kernel_rfl
def A_math_IsNaN : CA := (.seq (.reg [i_X 0 2 (.h (.mov (.k (.d (.bool false)))))] [0]) (.seq (.reg [i_M 0 3 0, i_M 1 4 0, i_X 2 5 (.h (.fcmp .ne (.t 3) (.t 4))), i_M 3 2 5] [2]) .ret))
theorem A_math_IsNaN_comp : compF Tryz.prog 70 = some ⟨6, [(2, none)], A_math_IsNaN.strip⟩ := by kernel_rfl
def A_math_IsInf : CA := (.seq (.reg [i_X 0 4 (.h (.mov (.k (.d (.bool false)))))] [0, 1]) (.seq (.seq (.reg [i_M 0 5 1, i_X 1 6 (.h (.ibin .eql (.t 5) (.k (.d (.int .i64 0)))))] [0, 1, 6]) (.cond (.t 6) (.reg [i_M 0 7 0, i_X 1 8 (.callA (.k (.d (.fn 63 [] []))) [(.t 7)]), i_M 2 0 8] [0]) (.seq (.reg [i_M 0 9 1, i_X 1 10 (.h (.ibin .lss (.t 9) (.k (.d (.int .i64 0)))))] [0, 10]) (.cond (.t 10) (.reg [i_M 0 11 0, i_X 1 12 (.h (.un .neg (.t 11))), i_M 2 0 12] [0]) .skip)))) (.seq (.reg [i_M 0 13 0, i_X 1 14 (.h (.fcmp .gt (.t 13) (.k (.d (.flt 9218868437227405311))))), i_M 2 4 14] [4]) .ret)))
theorem A_math_IsInf_comp : compF Tryz.prog 116 = some ⟨15, [(4, none)], A_math_IsInf.strip⟩ := by kernel_rfl
def A_math_Inf : CA := (.seq (.reg [i_X 0 2 (.h (.mov (.k (.d (.flt 0)))))] [0]) (.seq (.reg [i_X 0 3 (.h (.mov (.k (.d (.int .u64 0)))))] [0]) (.seq (.seq (.reg [i_M 0 4 0, i_X 1 5 (.h (.ibin .geq (.t 4) (.k (.d (.int .i64 0)))))] [5]) (.cond (.t 5) (.reg [i_X 0 3 (.h (.mov (.k (.d (.int .u64 9218868437227405312)))))] [3]) (.reg [i_X 0 3 (.h (.mov (.k (.d (.int .u64 18442240474082181120)))))] [3]))) (.seq (.reg [i_M 0 6 3, i_X 1 7 (.h (.frombits (.t 6))), i_M 2 2 7] [2]) .ret))))
theorem A_math_Inf_comp : compF Tryz.prog 71 = some ⟨8, [(2, none)], A_math_Inf.strip⟩ := by kernel_rfl
def A_math_Abs : CA := (.seq (.reg [i_X 0 2 (.h (.mov (.k (.d (.flt 0)))))] [0]) (.seq (.reg [i_M 0 3 0, i_X 1 4 (.h (.bits (.t 3))), i_X 2 5 (.h (.ibin .andNot (.t 4) (.k (.d (.int .u64 9223372036854775808))))), i_X 3 6 (.h (.frombits (.t 5))), i_M 4 2 6] [2]) .ret))
theorem A_math_Abs_comp : compF Tryz.prog 63 = some ⟨7, [(2, none)], A_math_Abs.strip⟩ := by kernel_rfl
def A_math_Copysign : CA := (.seq (.reg [i_X 0 4 (.h (.mov (.k (.d (.flt 0)))))] [0, 1]) (.seq (.reg [i_M 0 5 0, i_X 1 6 (.h (.bits (.t 5))), i_X 2 7 (.h (.ibin .andNot (.t 6) (.k (.d (.int .u64 9223372036854775808))))), i_M 3 8 1, i_X 4 9 (.h (.bits (.t 8))), i_X 5 10 (.h (.ibin .and (.t 9) (.k (.d (.int .u64 9223372036854775808))))), i_X 6 11 (.h (.ibin .or (.t 7) (.t 10))), i_X 7 12 (.h (.frombits (.t 11))), i_M 8 4 12] [4]) .ret))
theorem A_math_Copysign_comp : compF Tryz.prog 125 = some ⟨13, [(4, none)], A_math_Copysign.strip⟩ := by kernel_rfl
def A_fp_Finite : CA := (.seq (.reg [i_X 0 2 (.h (.mov (.k (.d (.bool false)))))] [0]) (.seq (.reg [i_M 0 3 0, i_X 1 4 (.callA (.k (.d (.fn 70 [] []))) [(.t 3)]), i_X 2 5 (.h (.un .not (.t 4))), i_M 3 6 5, ⟨4, (some 7), (some (6, true)), [], [], (.h (.mov (.t 0)))⟩, ⟨5, (some 8), (some (6, true)), [], [], (.callA (.k (.d (.fn 116 [] []))) [(.t 7), (.k (.d (.int .i64 0)))])⟩, ⟨6, (some 9), (some (6, true)), [], [], (.h (.un .not (.t 8)))⟩, i_X 7 10 (.h (.pick (.t 6) (.t 9) (.k (.d (.bool false))))), i_M 8 2 10] [2]) .ret))
theorem A_fp_Finite_comp : compF Tryz.prog 97 = some ⟨11, [(2, none)], A_fp_Finite.strip⟩ := by kernel_rfl
def A_r1_Finite : CA := (.seq (.reg [i_X 0 2 (.h (.mov (.k (.d (.bool false)))))] [0]) (.seq (.reg [i_M 0 3 0, i_M 1 4 0, i_X 2 5 (.h (.fbin .sub (.t 3) (.t 4))), i_X 3 6 (.h (.fcmp .eq (.t 5) (.k (.d (.flt 0))))), i_M 4 2 6] [2]) .ret))
theorem A_r1_Finite_comp : compF Tryz.prog 57 = some ⟨7, [(2, none)], A_r1_Finite.strip⟩ := by kernel_rfl
def A_r1_Same : CA := (.seq (.reg [i_X 0 4 (.h (.mov (.k (.d (.bool false)))))] [0, 1]) (.seq (.reg [i_M 0 5 0, i_M 1 6 1, i_X 2 7 (.h (.fcmp .eq (.t 5) (.t 6))), i_M 3 8 7, ⟨4, (some 9), (some (8, false)), [], [], (.h (.mov (.t 0)))⟩, ⟨5, (some 10), (some (8, false)), [], [], (.h (.mov (.t 0)))⟩, ⟨6, (some 11), (some (8, false)), [], [], (.h (.fcmp .ne (.t 9) (.t 10)))⟩, ⟨7, (some 12), (some (8, false)), [], [], (.h (.mov (.t 11)))⟩, ⟨8, (some 13), (some (12, true)), [], [], (.h (.mov (.t 1)))⟩, ⟨9, (some 14), (some (12, true)), [], [], (.h (.mov (.t 1)))⟩, ⟨10, (some 15), (some (12, true)), [], [], (.h (.fcmp .ne (.t 13) (.t 14)))⟩, ⟨11, (some 16), (some (8, false)), [], [], (.h (.pick (.t 12) (.t 15) (.k (.d (.bool false)))))⟩, i_X 12 17 (.h (.pick (.t 8) (.k (.d (.bool true))) (.t 16))), i_M 13 4 17] [4]) .ret))
theorem A_r1_Same_comp : compF Tryz.prog 48 = some ⟨18, [(4, none)], A_r1_Same.strip⟩ := by kernel_rfl
def A_r1_Rows_L0 : CA := (.seq (.seq (.reg [i_M 0 11 5, i_M 1 12 0, i_X 2 13 (.h (.len (.t 12))), i_X 3 14 (.h (.ibin .lss (.t 11) (.t 13)))] [0, 1, 5, 14]) (.cond (.t 14) .skip (.exit 0))) (.seq (.block 1 (.seq (.reg [i_M 0 17 0, i_M 1 18 5, i_X 2 19 (.h (.idx (.t 17) (.t 18) 1)), i_L 3 20 19 1, i_M 4 21 1, i_M 5 22 5, i_X 6 23 (.h (.idx (.t 21) (.t 22) 1)), i_L 7 24 23 1, i_X 8 25 (.callA (.k (.d (.fn 48 [] []))) [(.t 20), (.t 24)]), i_X 9 26 (.h (.un .not (.t 25)))] [0, 1, 5, 26]) (.cond (.t 26) (.seq (.reg [i_X 0 4 (.h (.mov (.k (.d (.bool false)))))] [4]) .ret) .skip))) (.reg [i_M 0 15 5, i_X 1 16 (.h (.ibin .add (.t 15) (.k (.d (.int .i64 1))))), i_M 2 5 16] [0, 1, 5])))
def A_r1_Rows : CA := (.seq (.reg [i_X 0 4 (.h (.mov (.k (.d (.bool false)))))] [0, 1]) (.seq (.seq (.reg [i_M 0 6 0, i_X 1 7 (.h (.len (.t 6))), i_M 2 8 1, i_X 3 9 (.h (.len (.t 8))), i_X 4 10 (.h (.ibin .neq (.t 7) (.t 9)))] [0, 1, 10]) (.cond (.t 10) (.seq (.reg [i_X 0 4 (.h (.mov (.k (.d (.bool false)))))] [4]) .ret) .skip)) (.seq (.seq (.reg [i_X 0 5 (.h (.mov (.k (.d (.int .i64 0)))))] [0, 1, 5]) (.block 0 (.loop A_r1_Rows_L0))) (.seq (.reg [i_X 0 4 (.h (.mov (.k (.d (.bool true)))))] [4]) .ret))))
theorem A_r1_Rows_comp : compF Tryz.prog 23 = some ⟨27, [(4, none)], A_r1_Rows.strip⟩ := by kernel_rfl
def A_r1_Tables_L0 : CA := (.seq (.seq (.reg [i_M 0 11 5, i_M 1 12 0, i_X 2 13 (.h (.len (.t 12))), i_X 3 14 (.h (.ibin .lss (.t 11) (.t 13)))] [0, 1, 5, 14]) (.cond (.t 14) .skip (.exit 0))) (.seq (.block 1 (.seq (.reg [i_M 0 17 0, i_M 1 18 5, i_X 2 19 (.h (.idx (.t 17) (.t 18) 1)), i_L 3 20 19 1, i_M 4 21 1, i_M 5 22 5, i_X 6 23 (.h (.idx (.t 21) (.t 22) 1)), i_L 7 24 23 1, i_X 8 25 (.callA (.k (.d (.fn 23 [] []))) [(.t 20), (.t 24)]), i_X 9 26 (.h (.un .not (.t 25)))] [0, 1, 5, 26]) (.cond (.t 26) (.seq (.reg [i_X 0 4 (.h (.mov (.k (.d (.bool false)))))] [4]) .ret) .skip))) (.reg [i_M 0 15 5, i_X 1 16 (.h (.ibin .add (.t 15) (.k (.d (.int .i64 1))))), i_M 2 5 16] [0, 1, 5])))
def A_r1_Tables : CA := (.seq (.reg [i_X 0 4 (.h (.mov (.k (.d (.bool false)))))] [0, 1]) (.seq (.seq (.reg [i_M 0 6 0, i_X 1 7 (.h (.len (.t 6))), i_M 2 8 1, i_X 3 9 (.h (.len (.t 8))), i_X 4 10 (.h (.ibin .neq (.t 7) (.t 9)))] [0, 1, 10]) (.cond (.t 10) (.seq (.reg [i_X 0 4 (.h (.mov (.k (.d (.bool false)))))] [4]) .ret) .skip)) (.seq (.seq (.reg [i_X 0 5 (.h (.mov (.k (.d (.int .i64 0)))))] [0, 1, 5]) (.block 0 (.loop A_r1_Tables_L0))) (.seq (.reg [i_X 0 4 (.h (.mov (.k (.d (.bool true)))))] [4]) .ret))))
theorem A_r1_Tables_comp : compF Tryz.prog 28 = some ⟨27, [(4, none)], A_r1_Tables.strip⟩ := by kernel_rfl
def A_r1_Abs : CA := (.seq (.reg [i_X 0 2 (.h (.mov (.k (.d (.flt 0)))))] [0]) (.seq (.reg [i_M 0 3 0, i_X 1 4 (.callA (.k (.d (.fn 63 [] []))) [(.t 3)]), i_M 2 2 4] [2]) .ret))
theorem A_r1_Abs_comp : compF Tryz.prog 58 = some ⟨5, [(2, none)], A_r1_Abs.strip⟩ := by kernel_rfl
def A_r1_Inf : CA := (.seq (.reg [i_X 0 0 (.h (.mov (.k (.d (.flt 0)))))] []) (.seq (.reg [i_X 0 1 (.callA (.k (.d (.fn 71 [] []))) [(.k (.d (.int .i64 1)))]), i_M 1 0 1] [0]) .ret))
theorem A_r1_Inf_comp : compF Tryz.prog 79 = some ⟨2, [(0, none)], A_r1_Inf.strip⟩ := by kernel_rfl
def A_lin_rows_float64_own_L0 : CA := (.seq (.reg [i_X 0 12 (.h (.ibin .lss (.t 11) (.t 10)))] [3, 9, 10, 11, 12]) (.seq (.cond (.t 12) .skip (.exit 0)) (.seq (.block 1 (.seq (.reg [i_M 0 13 11, i_X 1 14 (.h (.idx (.t 9) (.t 11) 1)), i_L 2 15 14 1, i_M 3 4 13, i_M 4 5 15] [3, 4, 5, 9, 10, 11]) (.seq (.reg [i_M 0 16 3, i_M 1 17 4, i_M 2 18 5, i_X 3 19 (.h (.len (.t 18))), i_X 4 20 (.mksl [(.d (.flt 0))] 1 8 (.t 19) (.t 19) 31), i_X 5 21 (.h (.idx (.t 16) (.t 17) 1)), i_S 6 21 20 1] [3, 4, 5, 9, 10, 11]) (.reg [i_M 0 22 3, i_M 1 23 4, i_X 2 24 (.h (.idx (.t 22) (.t 23) 1)), i_L 3 25 24 1, i_M 4 26 5, i_X 5 27 (.cpy (.t 25) (.t 26) 1)] [3, 9, 10, 11])))) (.reg [i_X 0 28 (.h (.ibin .add (.t 11) (.k (.d (.int .i64 1))))), i_M 1 11 28] [3, 9, 10, 11]))))
def A_lin_rows_float64_own : CA := (.seq (.reg [i_X 0 2 (.h (.mov (.k .nil)))] [0]) (.seq (.reg [i_M 0 6 0, i_X 1 7 (.h (.len (.t 6))), i_X 2 8 (.mksl [.nil] 1 24 (.t 7) (.t 7) 30), i_M 3 3 8] [0, 3]) (.seq (.seq (.reg [i_M 0 9 0, i_X 1 10 (.h (.len (.t 9))), i_X 2 11 (.h (.mov (.k (.d (.int .i64 0)))))] [3, 9, 10, 11]) (.block 0 (.loop A_lin_rows_float64_own_L0))) (.seq (.reg [i_M 0 29 3, i_M 1 2 29] [2]) .ret))))
theorem A_lin_rows_float64_own_comp : compF Tryz.prog 95 = some ⟨30, [(2, none)], A_lin_rows_float64_own.strip⟩ := by kernel_rfl
def A_lin_pivot_L0 : CA := (.seq (.seq (.reg [i_M 0 10 6, i_M 1 11 0, i_X 2 12 (.h (.len (.t 11))), i_X 3 13 (.h (.ibin .lss (.t 10) (.t 12)))] [0, 1, 5, 6, 13]) (.cond (.t 13) .skip (.exit 0))) (.seq (.block 1 (.seq (.reg [i_M 0 16 0, i_M 1 17 6, i_X 2 18 (.h (.idx (.t 16) (.t 17) 1)), i_L 3 19 18 1, i_M 4 20 1, i_X 5 21 (.h (.idx (.t 19) (.t 20) 1)), i_L 6 22 21 1, i_X 7 23 (.callS 0 (.k (.d (.fn 63 [] []))) [(.t 22)]), i_M 8 24 0, i_M 9 25 5, i_X 10 26 (.h (.idx (.t 24) (.t 25) 1)), i_L 11 27 26 1, i_M 12 28 1, i_X 13 29 (.h (.idx (.t 27) (.t 28) 1)), i_L 14 30 29 1, i_X 15 31 (.callA (.k (.d (.fn 63 [] []))) [(.t 30)]), i_X 16 32 (.h (.fcmp .gt (.t 23) (.t 31)))] [0, 1, 5, 6, 32]) (.cond (.t 32) (.reg [i_M 0 33 6, i_M 1 5 33] [0, 1, 5, 6]) .skip))) (.reg [i_M 0 14 6, i_X 1 15 (.h (.ibin .add (.t 14) (.k (.d (.int .i64 1))))), i_M 2 6 15] [0, 1, 5, 6])))
def A_lin_pivot : CA := (.seq (.reg [i_X 0 4 (.h (.mov (.k (.d (.int .i64 0)))))] [0, 1]) (.seq (.reg [i_M 0 7 1, i_M 1 5 7] [0, 1, 5]) (.seq (.seq (.reg [i_M 0 8 1, i_X 1 9 (.h (.ibin .add (.t 8) (.k (.d (.int .i64 1))))), i_M 2 6 9] [0, 1, 5, 6]) (.block 0 (.loop A_lin_pivot_L0))) (.seq (.reg [i_M 0 34 5, i_M 1 4 34] [4]) .ret))))
theorem A_lin_pivot_comp : compF Tryz.prog 96 = some ⟨35, [(4, none)], A_lin_pivot.strip⟩ := by kernel_rfl
def A_lin_Part_L0 : CA := (.seq (.reg [i_X 0 21 (.h (.ibin .lss (.t 20) (.t 19)))] [2, 4, 19, 20, 21]) (.seq (.cond (.t 21) .skip (.exit 0)) (.seq (.block 1 (.seq (.reg [i_M 0 22 20, i_M 1 5 22] [2, 4, 5, 19, 20]) (.reg [i_P 0 23 4 1, i_L 1 24 23 1, i_M 2 25 5, i_M 3 26 5, i_X 4 27 (.h (.idx (.t 24) (.t 25) 1)), i_S 5 27 26 1] [2, 4, 19, 20]))) (.reg [i_X 0 28 (.h (.ibin .add (.t 20) (.k (.d (.int .i64 1))))), i_M 1 20 28] [2, 4, 19, 20]))))
def A_lin_Part_L3 : CA := (.seq (.seq (.reg [i_M 0 126 10, i_P 1 127 4 0, i_L 2 128 127 1, i_X 3 129 (.h (.len (.t 128))), i_X 4 130 (.h (.ibin .lss (.t 126) (.t 129)))] [2, 4, 6, 9, 10, 31, 32, 130]) (.cond (.t 130) .skip (.exit 6))) (.seq (.block 7 (.reg [i_P 0 133 4 0, i_L 1 134 133 1, i_M 2 135 9, i_X 3 136 (.h (.idx (.t 134) (.t 135) 1)), i_L 4 137 136 1, i_M 5 138 10, i_P 6 139 4 0, i_L 7 140 139 1, i_M 8 141 9, i_X 9 142 (.h (.idx (.t 140) (.t 141) 1)), i_L 10 143 142 1, i_M 11 144 10, i_X 12 145 (.h (.idx (.t 143) (.t 144) 1)), i_L 13 146 145 1, i_P 14 147 4 0, i_L 15 148 147 1, i_M 16 149 9, i_X 17 150 (.h (.idx (.t 148) (.t 149) 1)), i_L 18 151 150 1, i_M 19 152 6, i_X 20 153 (.h (.idx (.t 151) (.t 152) 1)), i_L 21 154 153 1, i_P 22 155 4 0, i_L 23 156 155 1, i_M 24 157 6, i_X 25 158 (.h (.idx (.t 156) (.t 157) 1)), i_L 26 159 158 1, i_M 27 160 10, i_X 28 161 (.h (.idx (.t 159) (.t 160) 1)), i_L 29 162 161 1, i_X 30 163 (.h (.fbin .mul (.t 154) (.t 162))), i_X 31 164 (.h (.fbin .sub (.t 146) (.t 163))), i_X 32 165 (.h (.idx (.t 137) (.t 138) 1)), i_S 33 165 164 1] [2, 4, 6, 9, 10, 31, 32])) (.reg [i_M 0 131 10, i_X 1 132 (.h (.ibin .add (.t 131) (.k (.d (.int .i64 1))))), i_M 2 10 132] [2, 4, 6, 9, 10, 31, 32])))
def A_lin_Part_L2 : CA := (.seq (.seq (.reg [i_M 0 93 9, i_P 1 94 4 0, i_L 2 95 94 1, i_X 3 96 (.h (.len (.t 95))), i_X 4 97 (.h (.ibin .lss (.t 93) (.t 96)))] [2, 4, 6, 9, 31, 32, 97]) (.cond (.t 97) .skip (.exit 4))) (.seq (.block 5 (.seq (.reg [i_P 0 100 4 0, i_L 1 101 100 1, i_M 2 102 9, i_X 3 103 (.h (.idx (.t 101) (.t 102) 1)), i_L 4 104 103 1, i_M 5 105 6, i_P 6 106 4 0, i_L 7 107 106 1, i_M 8 108 9, i_X 9 109 (.h (.idx (.t 107) (.t 108) 1)), i_L 10 110 109 1, i_M 11 111 6, i_X 12 112 (.h (.idx (.t 110) (.t 111) 1)), i_L 13 113 112 1, i_P 14 114 4 0, i_L 15 115 114 1, i_M 16 116 6, i_X 17 117 (.h (.idx (.t 115) (.t 116) 1)), i_L 18 118 117 1, i_M 19 119 6, i_X 20 120 (.h (.idx (.t 118) (.t 119) 1)), i_L 21 121 120 1, i_X 22 122 (.h (.fbin .div (.t 113) (.t 121))), i_X 23 123 (.h (.idx (.t 104) (.t 105) 1)), i_S 24 123 122 1] [2, 4, 6, 9, 31, 32]) (.seq (.reg [i_M 0 124 6, i_X 1 125 (.h (.ibin .add (.t 124) (.k (.d (.int .i64 1))))), i_M 2 10 125] [2, 4, 6, 9, 10, 31, 32]) (.block 6 (.loop A_lin_Part_L3))))) (.reg [i_M 0 98 9, i_X 1 99 (.h (.ibin .add (.t 98) (.k (.d (.int .i64 1))))), i_M 2 9 99] [2, 4, 6, 9, 31, 32])))
def A_lin_Part_L1 : CA := (.seq (.reg [i_X 0 33 (.h (.ibin .lss (.t 32) (.t 31)))] [2, 4, 31, 32, 33]) (.seq (.cond (.t 33) .skip (.exit 2)) (.seq (.block 3 (.seq (.reg [i_M 0 34 32, i_M 1 6 34] [2, 4, 6, 31, 32]) (.seq (.reg [i_P 0 35 4 0, i_L 1 36 35 1, i_M 2 37 6, i_X 3 38 (.callA (.k (.d (.fn 96 [] []))) [(.t 36), (.t 37)]), i_M 4 7 38] [2, 4, 6, 7, 31, 32]) (.seq (.seq (.reg [i_P 0 39 4 0, i_L 1 40 39 1, i_M 2 41 7, i_X 3 42 (.h (.idx (.t 40) (.t 41) 1)), i_L 4 43 42 1, i_M 5 44 6, i_X 6 45 (.h (.idx (.t 43) (.t 44) 1)), i_L 7 46 45 1, i_M 8 8 46] [2, 4, 6, 7, 8, 31, 32]) (.seq (.reg [i_M 0 47 8, i_X 1 48 (.h (.fcmp .eq (.t 47) (.k (.d (.flt 0))))), i_M 2 49 48, ⟨3, (some 50), (some (49, false)), [], [], (.h (.mov (.t 8)))⟩, ⟨4, (some 51), (some (49, false)), [], [], (.callA (.k (.d (.fn 97 [] []))) [(.t 50)])⟩, ⟨5, (some 52), (some (49, false)), [], [], (.h (.un .not (.t 51)))⟩, i_X 6 53 (.h (.pick (.t 49) (.k (.d (.bool true))) (.t 52)))] [2, 4, 6, 7, 31, 32, 53]) (.cond (.t 53) (.seq (.reg [i_X 0 54 (.h (.build [.nil, .nil] [])), i_S 1 2 54 2, i_X 2 3 (.h (.mov (.k (.d (.bool false)))))] [2, 3]) .ret) .skip))) (.seq (.reg [i_P 0 55 4 0, i_L 1 56 55 1, i_M 2 57 6, i_P 3 58 4 0, ⟨4, (some 59), none, [(.t 4)], [], (.load (.t 58) 1 false)⟩, i_M 5 60 7, i_P 6 61 4 0, i_L 7 62 61 1, i_M 8 63 7, i_X 9 64 (.h (.idx (.t 62) (.t 63) 1)), i_L 10 65 64 1, i_P 11 66 4 0, i_L 12 67 66 1, i_M 13 68 6, i_X 14 69 (.h (.idx (.t 67) (.t 68) 1)), i_L 15 70 69 1, i_X 16 71 (.h (.idx (.t 56) (.t 57) 1)), ⟨17, none, none, [], [(.t 4)], (.store (.t 71) (.t 65) 1)⟩, i_X 18 72 (.h (.idx (.t 59) (.t 60) 1)), i_S 19 72 70 1] [2, 4, 6, 7, 31, 32]) (.seq (.reg [i_P 0 73 4 1, i_L 1 74 73 1, i_M 2 75 6, i_P 3 76 4 1, ⟨4, (some 77), none, [(.t 4)], [], (.load (.t 76) 1 false)⟩, i_M 5 78 7, i_P 6 79 4 1, i_L 7 80 79 1, i_M 8 81 7, i_X 9 82 (.h (.idx (.t 80) (.t 81) 1)), i_L 10 83 82 1, i_P 11 84 4 1, i_L 12 85 84 1, i_M 13 86 6, i_X 14 87 (.h (.idx (.t 85) (.t 86) 1)), i_L 15 88 87 1, i_X 16 89 (.h (.idx (.t 74) (.t 75) 1)), ⟨17, none, none, [], [(.t 4)], (.store (.t 89) (.t 83) 1)⟩, i_X 18 90 (.h (.idx (.t 77) (.t 78) 1)), i_S 19 90 88 1] [2, 4, 6, 31, 32]) (.seq (.reg [i_M 0 91 6, i_X 1 92 (.h (.ibin .add (.t 91) (.k (.d (.int .i64 1))))), i_M 2 9 92] [2, 4, 6, 9, 31, 32]) (.block 4 (.loop A_lin_Part_L2))))))))) (.reg [i_X 0 166 (.h (.ibin .add (.t 32) (.k (.d (.int .i64 1))))), i_M 1 32 166] [2, 4, 31, 32]))))
def A_lin_Part : CA := (.seq (.reg [i_X 0 2 (.alloc [.nil, .nil] 109), i_X 1 3 (.h (.mov (.k (.d (.bool false)))))] [0, 2]) (.seq (.reg [i_M 0 11 0, i_X 1 12 (.callS 0 (.k (.d (.fn 95 [] []))) [(.t 11)]), i_M 2 13 0, i_X 3 14 (.h (.len (.t 13))), i_X 4 15 (.mksl [(.d (.int .i64 0))] 1 8 (.t 14) (.t 14) 3), i_X 5 16 (.h (.build [.nil, .nil] [(0, (1, (.t 12))), (1, (1, (.t 15)))])), i_X 6 4 (.alloc [.nil, .nil] 109), i_S 7 4 16 2] [2, 4]) (.seq (.seq (.reg [i_P 0 17 4 1, i_L 1 18 17 1, i_X 2 19 (.h (.len (.t 18))), i_X 3 20 (.h (.mov (.k (.d (.int .i64 0)))))] [2, 4, 19, 20]) (.block 0 (.loop A_lin_Part_L0))) (.seq (.seq (.reg [i_P 0 29 4 0, i_L 1 30 29 1, i_X 2 31 (.h (.len (.t 30))), i_X 3 32 (.h (.mov (.k (.d (.int .i64 0)))))] [2, 4, 31, 32]) (.block 2 (.loop A_lin_Part_L1))) (.seq (.reg [i_A 0 167 4 2, i_S 1 2 167 2, i_X 2 3 (.h (.mov (.k (.d (.bool true)))))] [2, 3]) .ret)))))
theorem A_lin_Part_comp : compF Tryz.prog 66 = some ⟨168, [(2, (some (2, true))), (3, none)], A_lin_Part.strip⟩ := by kernel_rfl
def A_lin_Solve_L1 : CA := (.seq (.reg [i_X 0 34 (.h (.ibin .lss (.t 33) (.t 32)))] [1, 2, 5, 6, 7, 17, 18, 32, 33, 34]) (.seq (.cond (.t 34) .skip (.exit 2)) (.seq (.block 3 (.seq (.reg [i_M 0 35 33, i_M 1 8 35] [1, 2, 5, 6, 7, 8, 17, 18, 32, 33]) (.reg [i_M 0 36 6, i_M 1 37 7, i_M 2 38 6, i_M 3 39 7, i_X 4 40 (.h (.idx (.t 38) (.t 39) 1)), i_L 5 41 40 1, i_P 6 42 2 0, i_L 7 43 42 1, i_M 8 44 7, i_X 9 45 (.h (.idx (.t 43) (.t 44) 1)), i_L 10 46 45 1, i_M 11 47 8, i_X 12 48 (.h (.idx (.t 46) (.t 47) 1)), i_L 13 49 48 1, i_M 14 50 6, i_M 15 51 8, i_X 16 52 (.h (.idx (.t 50) (.t 51) 1)), i_L 17 53 52 1, i_X 18 54 (.h (.fbin .mul (.t 49) (.t 53))), i_X 19 55 (.h (.fbin .sub (.t 41) (.t 54))), i_X 20 56 (.h (.idx (.t 36) (.t 37) 1)), i_S 21 56 55 1] [1, 2, 5, 6, 7, 17, 18, 32, 33]))) (.reg [i_X 0 57 (.h (.ibin .add (.t 33) (.k (.d (.int .i64 1))))), i_M 1 33 57] [1, 2, 5, 6, 7, 17, 18, 32, 33]))))
def A_lin_Solve_L0 : CA := (.seq (.reg [i_X 0 19 (.h (.ibin .lss (.t 18) (.t 17)))] [1, 2, 5, 6, 17, 18, 19]) (.seq (.cond (.t 19) .skip (.exit 0)) (.seq (.block 1 (.seq (.reg [i_M 0 20 18, i_M 1 7 20] [1, 2, 5, 6, 7, 17, 18]) (.seq (.reg [i_M 0 21 6, i_M 1 22 7, i_M 2 23 1, i_P 3 24 2 1, i_L 4 25 24 1, i_M 5 26 7, i_X 6 27 (.h (.idx (.t 25) (.t 26) 1)), i_L 7 28 27 1, i_X 8 29 (.h (.idx (.t 23) (.t 28) 1)), i_L 9 30 29 1, i_X 10 31 (.h (.idx (.t 21) (.t 22) 1)), i_S 11 31 30 1] [1, 2, 5, 6, 7, 17, 18]) (.seq (.reg [i_M 0 32 7, i_X 1 33 (.h (.mov (.k (.d (.int .i64 0)))))] [1, 2, 5, 6, 7, 17, 18, 32, 33]) (.block 2 (.loop A_lin_Solve_L1)))))) (.reg [i_X 0 58 (.h (.ibin .add (.t 18) (.k (.d (.int .i64 1))))), i_M 1 18 58] [1, 2, 5, 6, 17, 18]))))
def A_lin_Solve_L3 : CA := (.seq (.seq (.reg [i_M 0 67 10, i_M 1 68 5, i_X 2 69 (.h (.ibin .lss (.t 67) (.t 68)))] [2, 5, 6, 9, 10, 69]) (.cond (.t 69) .skip (.exit 6))) (.seq (.block 7 (.reg [i_M 0 72 6, i_M 1 73 9, i_M 2 74 6, i_M 3 75 9, i_X 4 76 (.h (.idx (.t 74) (.t 75) 1)), i_L 5 77 76 1, i_P 6 78 2 0, i_L 7 79 78 1, i_M 8 80 9, i_X 9 81 (.h (.idx (.t 79) (.t 80) 1)), i_L 10 82 81 1, i_M 11 83 10, i_X 12 84 (.h (.idx (.t 82) (.t 83) 1)), i_L 13 85 84 1, i_M 14 86 6, i_M 15 87 10, i_X 16 88 (.h (.idx (.t 86) (.t 87) 1)), i_L 17 89 88 1, i_X 18 90 (.h (.fbin .mul (.t 85) (.t 89))), i_X 19 91 (.h (.fbin .sub (.t 77) (.t 90))), i_X 20 92 (.h (.idx (.t 72) (.t 73) 1)), i_S 21 92 91 1] [2, 5, 6, 9, 10])) (.reg [i_M 0 70 10, i_X 1 71 (.h (.ibin .add (.t 70) (.k (.d (.int .i64 1))))), i_M 2 10 71] [2, 5, 6, 9, 10])))
def A_lin_Solve_L2 : CA := (.seq (.seq (.reg [i_M 0 61 9, i_X 1 62 (.h (.ibin .geq (.t 61) (.k (.d (.int .i64 0)))))] [2, 5, 6, 9, 62]) (.cond (.t 62) .skip (.exit 4))) (.seq (.block 5 (.seq (.seq (.reg [i_M 0 65 9, i_X 1 66 (.h (.ibin .add (.t 65) (.k (.d (.int .i64 1))))), i_M 2 10 66] [2, 5, 6, 9, 10]) (.block 6 (.loop A_lin_Solve_L3))) (.reg [i_M 0 93 6, i_M 1 94 9, i_M 2 95 6, i_M 3 96 9, i_X 4 97 (.h (.idx (.t 95) (.t 96) 1)), i_L 5 98 97 1, i_P 6 99 2 0, i_L 7 100 99 1, i_M 8 101 9, i_X 9 102 (.h (.idx (.t 100) (.t 101) 1)), i_L 10 103 102 1, i_M 11 104 9, i_X 12 105 (.h (.idx (.t 103) (.t 104) 1)), i_L 13 106 105 1, i_X 14 107 (.h (.fbin .div (.t 98) (.t 106))), i_X 15 108 (.h (.idx (.t 93) (.t 94) 1)), i_S 16 108 107 1] [2, 5, 6, 9]))) (.reg [i_M 0 63 9, i_X 1 64 (.h (.ibin .sub (.t 63) (.k (.d (.int .i64 1))))), i_M 2 9 64] [2, 5, 6, 9])))
def A_lin_Solve : CA := (.seq (.reg [i_X 0 2 (.box (.t 0) 2 109), i_X 1 4 (.h (.mov (.k .nil)))] [1, 2]) (.seq (.reg [i_P 0 11 2 0, i_L 1 12 11 1, i_X 2 13 (.h (.len (.t 12))), i_M 3 5 13] [1, 2, 5]) (.seq (.reg [i_M 0 14 5, i_X 1 15 (.mksl [(.d (.flt 0))] 1 8 (.t 14) (.t 14) 31), i_M 2 6 15] [1, 2, 5, 6]) (.seq (.seq (.reg [i_M 0 16 6, i_X 1 17 (.h (.len (.t 16))), i_X 2 18 (.h (.mov (.k (.d (.int .i64 0)))))] [1, 2, 5, 6, 17, 18]) (.block 0 (.loop A_lin_Solve_L0))) (.seq (.seq (.reg [i_M 0 59 5, i_X 1 60 (.h (.ibin .sub (.t 59) (.k (.d (.int .i64 1))))), i_M 2 9 60] [2, 5, 6, 9]) (.block 4 (.loop A_lin_Solve_L2))) (.seq (.reg [i_M 0 109 6, i_M 1 4 109] [4]) .ret))))))
theorem A_lin_Solve_comp : compF Tryz.prog 102 = some ⟨110, [(4, none)], A_lin_Solve.strip⟩ := by kernel_rfl
def A_r6_copied_L0 : CA := (.seq (.seq (.reg [i_M 0 5 4, i_M 1 6 0, i_X 2 7 (.h (.len (.t 6))), i_X 3 8 (.h (.ibin .lss (.t 5) (.t 7)))] [0, 3, 4, 8]) (.cond (.t 8) .skip (.exit 0))) (.seq (.block 1 (.reg [i_M 0 11 3, i_X 1 12 (.bslice [] 0 1 [] 31), i_M 2 13 0, i_M 3 14 4, i_X 4 15 (.h (.idx (.t 13) (.t 14) 1)), i_L 5 16 15 1, i_X 6 17 (.app (.t 12) (.t 16) 1 8), i_X 7 18 (.bslice [.nil] 1 1 [(0, (1, (.t 17)))] 30), i_X 8 19 (.app (.t 11) (.t 18) 1 24), i_M 9 3 19] [0, 3, 4])) (.reg [i_M 0 9 4, i_X 1 10 (.h (.ibin .add (.t 9) (.k (.d (.int .i64 1))))), i_M 2 4 10] [0, 3, 4])))
def A_r6_copied : CA := (.seq (.reg [i_X 0 2 (.h (.mov (.k .nil)))] [0]) (.seq (.reg [i_X 0 3 (.h (.mov (.k .nil)))] [0, 3]) (.seq (.seq (.reg [i_X 0 4 (.h (.mov (.k (.d (.int .i64 0)))))] [0, 3, 4]) (.block 0 (.loop A_r6_copied_L0))) (.seq (.reg [i_M 0 20 3, i_M 1 2 20] [2]) .ret))))
theorem A_r6_copied_comp : compF Tryz.prog 109 = some ⟨21, [(2, none)], A_r6_copied.strip⟩ := by kernel_rfl
end Go.Ab

namespace Go.Ab
set_option linter.unusedSimpArgs false
set_option linter.unusedVariables false
open Nat renaming reduceEqDiff → n1_, reduceAdd → n2_, reduceMul → n3_, reduceLT → n4_, reduceLeDiff → n5_
open Int renaming reduceToNat → i1_, reduceAdd → i2_, reduceSub → i3_, reduceMul → i4_, reduceNeg → i5_, reduceLT → i6_, reduceLE → i7_
open Go Go.Proofs
theorem math_IsNaN_con (x : Nat) : Con Tryz.prog 70 [fl x] (fB (isNan x)) := by
  refine Con_introA A_math_IsNaN_comp rfl mixed ?_
  simp -implicitDefEqProofs only [evI, hv, effC, reduceCtorEq, ↓reduceIte, n1_, n2_, n3_, n4_, n5_, i1_, i2_, i3_, i4_, i5_, i6_, i7_, A_math_IsNaN]
  rw [fcmp_ne_self]
  exact endsT_rett rfl (by decide) (by simp [look])
theorem math_Inf_pos : Con Tryz.prog 71 [fI 1] (fl finf) := by
  refine Con_introA A_math_Inf_comp rfl mixed ?_
  simp -implicitDefEqProofs only [evI, hv, effC, reduceCtorEq, ↓reduceIte, n1_, n2_, n3_, n4_, n5_, i1_, i2_, i3_, i4_, i5_, i6_, i7_, A_math_Inf]
  have : cf 9218868437227405312 = finf := by decide
  rw [this]
  exact endsT_rett rfl (by decide) (by simp [look])
theorem math_Inf_neg : Con Tryz.prog 71 [fI (-1)] (fl fninf) := by
  refine Con_introA A_math_Inf_comp rfl mixed ?_
  simp -implicitDefEqProofs only [evI, hv, effC, reduceCtorEq, ↓reduceIte, n1_, n2_, n3_, n4_, n5_, i1_, i2_, i3_, i4_, i5_, i6_, i7_, A_math_Inf]
  have : cf 18442240474082181120 = fninf := by decide
  rw [this]
  exact endsT_rett rfl (by decide) (by simp [look])
theorem math_Abs_con (x : Nat) : Con Tryz.prog 63 [fl x] (fl (fabs x)) := by
  refine Con_of_raw (compF_go A_math_Abs_comp) fun b hb hx => ?_
  refine Con_introA A_math_Abs_comp rfl mixed ?_
  simp -implicitDefEqProofs only [evI, hv, effC, reduceCtorEq, ↓reduceIte, n1_, n2_, n3_, n4_, n5_, i1_, i2_, i3_, i4_, i5_, i6_, i7_, A_math_Abs]
  rw [andNot_sign hb]
  have : bits0 b < 9223372036854775808 := by unfold bits0; omega
  refine ⟨⟨by omega, by omega⟩, ?_⟩
  simp only [Int.toNat_natCast, fabs_raw, hx]
  exact endsT_rett rfl (by decide) (by simp [look])
theorem math_IsInf_con (x : Nat) : Con Tryz.prog 116 [fl x, fI 0] (fB (isInf x)) := by
  refine Con_introA A_math_IsInf_comp rfl mixed ?_
  simp -implicitDefEqProofs only [evI, hv, effC, reduceCtorEq, ↓reduceIte, n1_, n2_, n3_, n4_, n5_, i1_, i2_, i3_, i4_, i5_, i6_, i7_, A_math_IsInf]
  first | refine callG_con (math_Abs_con x) rfl ?_ | refine callCG_con (math_Abs_con x) rfl ?_ | refine callSG_con (math_Abs_con x) rfl ?_
  simp -implicitDefEqProofs only [evI, hv, effC, reduceCtorEq, ↓reduceIte, n1_, n2_, n3_, n4_, n5_, i1_, i2_, i3_, i4_, i5_, i6_, i7_]
  exact endsT_rett rfl (by decide) (by simp [look, isInf])
theorem math_Copysign_con (x y : Nat) (hx : isNan x = false) (hy : isNan y = false) : Con Tryz.prog 125 [fl x, fl y] (fl (csign x y)) := by
  refine Con_introA A_math_Copysign_comp rfl mixed ?_
  simp -implicitDefEqProofs only [evI, hv, effC, reduceCtorEq, ↓reduceIte, n1_, n2_, n3_, n4_, n5_, i1_, i2_, i3_, i4_, i5_, i6_, i7_, A_math_Copysign]
  refine ⟨hx, hy, bitsOp_u64 _ _ _, ?_⟩
  exact endsT_rett rfl (by decide) (by simp [look, csign])
theorem r1_Abs_con (x : Nat) : Con Tryz.prog 58 [fl x] (fl (fabs x)) := by
  refine Con_introA A_r1_Abs_comp rfl mixed ?_
  simp -implicitDefEqProofs only [evI, hv, effC, reduceCtorEq, ↓reduceIte, n1_, n2_, n3_, n4_, n5_, i1_, i2_, i3_, i4_, i5_, i6_, i7_, A_r1_Abs]
  first | refine callG_con (math_Abs_con x) rfl ?_ | refine callCG_con (math_Abs_con x) rfl ?_ | refine callSG_con (math_Abs_con x) rfl ?_
  simp -implicitDefEqProofs only [evI, hv, effC, reduceCtorEq, ↓reduceIte, n1_, n2_, n3_, n4_, n5_, i1_, i2_, i3_, i4_, i5_, i6_, i7_]
  exact endsT_rett rfl (by decide) (by simp [look])
theorem r1_Inf_con : Con Tryz.prog 79 [] (fl finf) := by
  refine Con_introA A_r1_Inf_comp rfl mixed ?_
  simp -implicitDefEqProofs only [evI, hv, effC, reduceCtorEq, ↓reduceIte, n1_, n2_, n3_, n4_, n5_, i1_, i2_, i3_, i4_, i5_, i6_, i7_, A_r1_Inf]
  first | refine callG_con (math_Inf_pos) rfl ?_ | refine callCG_con (math_Inf_pos) rfl ?_ | refine callSG_con (math_Inf_pos) rfl ?_
  simp -implicitDefEqProofs only [evI, hv, effC, reduceCtorEq, ↓reduceIte, n1_, n2_, n3_, n4_, n5_, i1_, i2_, i3_, i4_, i5_, i6_, i7_]
  exact endsT_rett rfl (by decide) (by simp [look])
theorem r1_Same_con (x y : Nat) : Con Tryz.prog 48 [fl x, fl y] (fB (fsame x y)) := by
  refine Con_introA A_r1_Same_comp rfl mixed ?_
  simp -implicitDefEqProofs only [evI, hv, effC, reduceCtorEq, ↓reduceIte, n1_, n2_, n3_, n4_, n5_, i1_, i2_, i3_, i4_, i5_, i6_, i7_, A_r1_Same]
  cases h1 : fcmp .eq x y <;> simp only [fsame, h1, Bool.true_or, Bool.false_or]
  · simp -implicitDefEqProofs only [evI, hv, effC, reduceCtorEq, ↓reduceIte, n1_, n2_, n3_, n4_, n5_, i1_, i2_, i3_, i4_, i5_, i6_, i7_, fcmp_ne_self]
    cases h2 : isNan x <;> simp only [Bool.false_and, Bool.true_and]
    · simp -implicitDefEqProofs only [evI, hv, effC, reduceCtorEq, ↓reduceIte, n1_, n2_, n3_, n4_, n5_, i1_, i2_, i3_, i4_, i5_, i6_, i7_]
      exact endsT_rett rfl (by decide) (by simp [look])
    · simp -implicitDefEqProofs only [evI, hv, effC, reduceCtorEq, ↓reduceIte, n1_, n2_, n3_, n4_, n5_, i1_, i2_, i3_, i4_, i5_, i6_, i7_, fcmp_ne_self]
      exact endsT_rett rfl (by decide) (by simp [look])
  · simp -implicitDefEqProofs only [evI, hv, effC, reduceCtorEq, ↓reduceIte, n1_, n2_, n3_, n4_, n5_, i1_, i2_, i3_, i4_, i5_, i6_, i7_]
    exact endsT_rett rfl (by decide) (by simp [look])
theorem fp_Finite_con (x : Nat) : Con Tryz.prog 97 [fl x] (fB (finite x)) := by
  refine Con_introA A_fp_Finite_comp rfl mixed ?_
  simp -implicitDefEqProofs only [evI, hv, effC, reduceCtorEq, ↓reduceIte, n1_, n2_, n3_, n4_, n5_, i1_, i2_, i3_, i4_, i5_, i6_, i7_, A_fp_Finite]
  first | refine callG_con (math_IsNaN_con x) rfl ?_ | refine callCG_con (math_IsNaN_con x) rfl ?_ | refine callSG_con (math_IsNaN_con x) rfl ?_
  simp -implicitDefEqProofs only [evI, hv, effC, reduceCtorEq, ↓reduceIte, n1_, n2_, n3_, n4_, n5_, i1_, i2_, i3_, i4_, i5_, i6_, i7_]
  cases h1 : isNan x <;> simp only [finite, h1, Bool.true_or, Bool.false_or, Bool.not_true, Bool.not_false, Bool.true_and, Bool.false_and]
  · simp -implicitDefEqProofs only [evI, hv, effC, reduceCtorEq, ↓reduceIte, n1_, n2_, n3_, n4_, n5_, i1_, i2_, i3_, i4_, i5_, i6_, i7_, h1]
    first | refine callG_con (math_IsInf_con x) rfl ?_ | refine callCG_con (math_IsInf_con x) rfl ?_ | refine callSG_con (math_IsInf_con x) rfl ?_
    simp -implicitDefEqProofs only [evI, hv, effC, reduceCtorEq, ↓reduceIte, n1_, n2_, n3_, n4_, n5_, i1_, i2_, i3_, i4_, i5_, i6_, i7_]
    exact endsT_rett rfl (by decide) (by simp [look])
  · simp -implicitDefEqProofs only [evI, hv, effC, reduceCtorEq, ↓reduceIte, n1_, n2_, n3_, n4_, n5_, i1_, i2_, i3_, i4_, i5_, i6_, i7_, h1]
    exact endsT_rett rfl (by decide) (by simp [look])
theorem r1_Finite_con (x : Nat) : Con Tryz.prog 57 [fl x] (fB (fcmp .eq (fop .sub x x) 0)) := by
  refine Con_introA A_r1_Finite_comp rfl mixed ?_
  simp -implicitDefEqProofs only [evI, hv, effC, reduceCtorEq, ↓reduceIte, n1_, n2_, n3_, n4_, n5_, i1_, i2_, i3_, i4_, i5_, i6_, i7_, A_r1_Finite]
  exact endsT_rett rfl (by decide) (by simp [look])
end Go.Ab

namespace Go.Ab
set_option linter.unusedSimpArgs false
set_option linter.unusedVariables false
open Nat renaming reduceEqDiff → n1_, reduceAdd → n2_, reduceMul → n3_, reduceLT → n4_, reduceLeDiff → n5_
open Int renaming reduceToNat → i1_, reduceAdd → i2_, reduceSub → i3_, reduceMul → i4_, reduceNeg → i5_, reduceLT → i6_, reduceLE → i7_
open Go Go.Proofs
theorem fsame_self (x : Nat) : fsame x x = true := by
  simp only [fsame, fcmp_eq_self]; cases isNan x <;> rfl
theorem r1_Rows_con (a : List Nat) (ha : a.length < 2 ^ 62) : Con Tryz.prog 23 [.d (rowD a), .d (rowD a)] (fB true) := by
  refine Con_introA A_r1_Rows_comp rfl mixed ?_
  simp -implicitDefEqProofs only [evI, hv, effC, reduceCtorEq, ↓reduceIte, n1_, n2_, n3_, n4_, n5_, i1_, i2_, i3_, i4_, i5_, i6_, i7_, A_r1_Rows]
  refine WA_for (n := a.length) (fun n s => ∃ i, n + i = a.length ∧ s = ⟨[(0, .d (rowD a)), (1, .d (rowD a)), (5, fI i)], []⟩) ⟨0, rfl, rfl⟩ ?_
  rintro n s ⟨i, hn, rfl⟩
  simp -implicitDefEqProofs only [evI, hv, effC, reduceCtorEq, ↓reduceIte, n1_, n2_, n3_, n4_, n5_, i1_, i2_, i3_, i4_, i5_, i6_, i7_, A_r1_Rows_L0]
  refine condC_intro (fun h => ?_) (fun h => ?_)
  · replace h := of_decide_eq_true h
    simp -implicitDefEqProofs only [evI, hv, effC, reduceCtorEq, ↓reduceIte, n1_, n2_, n3_, n4_, n5_, i1_, i2_, i3_, i4_, i5_, i6_, i7_]
    (repeat (with_reducible refine And.intro (by omega) ?_))
    first | refine callG_con (r1_Same_con (a.getD i 0) (a.getD i 0)) rfl ?_ | refine callCG_con (r1_Same_con (a.getD i 0) (a.getD i 0)) rfl ?_ | refine callSG_con (r1_Same_con (a.getD i 0) (a.getD i 0)) rfl ?_
    rw [fsame_self]
    simp -implicitDefEqProofs only [evI, hv, effC, reduceCtorEq, ↓reduceIte, n1_, n2_, n3_, n4_, n5_, i1_, i2_, i3_, i4_, i5_, i6_, i7_]
    rw [wrapI (by omega) (by omega)]
    exact ⟨n - 1, by omega, i + 1, by omega, rfl⟩
  · simp -implicitDefEqProofs only [evI, hv, effC, reduceCtorEq, ↓reduceIte, n1_, n2_, n3_, n4_, n5_, i1_, i2_, i3_, i4_, i5_, i6_, i7_]
    exact endsT_rett rfl (by decide) (by simp [look])
theorem r1_Tables_con (a : List (List Nat)) (ha : a.length < 2 ^ 62) (hr : ∀ i, i < a.length → (a.getD i []).length < 2 ^ 62) : Con Tryz.prog 28 [.d (rowsD a), .d (rowsD a)] (fB true) := by
  refine Con_introA A_r1_Tables_comp rfl mixed ?_
  simp -implicitDefEqProofs only [evI, hv, effC, reduceCtorEq, ↓reduceIte, n1_, n2_, n3_, n4_, n5_, i1_, i2_, i3_, i4_, i5_, i6_, i7_, A_r1_Tables]
  refine WA_for (n := a.length) (fun n s => ∃ i, n + i = a.length ∧ s = ⟨[(0, .d (rowsD a)), (1, .d (rowsD a)), (5, fI i)], []⟩) ⟨0, rfl, rfl⟩ ?_
  rintro n s ⟨i, hn, rfl⟩
  simp -implicitDefEqProofs only [evI, hv, effC, reduceCtorEq, ↓reduceIte, n1_, n2_, n3_, n4_, n5_, i1_, i2_, i3_, i4_, i5_, i6_, i7_, A_r1_Tables_L0]
  refine condC_intro (fun h => ?_) (fun h => ?_)
  · replace h := of_decide_eq_true h
    simp -implicitDefEqProofs only [evI, hv, effC, reduceCtorEq, ↓reduceIte, n1_, n2_, n3_, n4_, n5_, i1_, i2_, i3_, i4_, i5_, i6_, i7_]
    (repeat (with_reducible refine And.intro (by omega) ?_))
    first | refine callG_con (r1_Rows_con (a.getD i []) (hr i (by omega))) rfl ?_ | refine callCG_con (r1_Rows_con (a.getD i []) (hr i (by omega))) rfl ?_ | refine callSG_con (r1_Rows_con (a.getD i []) (hr i (by omega))) rfl ?_
    simp -implicitDefEqProofs only [evI, hv, effC, reduceCtorEq, ↓reduceIte, n1_, n2_, n3_, n4_, n5_, i1_, i2_, i3_, i4_, i5_, i6_, i7_]
    rw [wrapI (by omega) (by omega)]
    exact ⟨n - 1, by omega, i + 1, by omega, rfl⟩
  · simp -implicitDefEqProofs only [evI, hv, effC, reduceCtorEq, ↓reduceIte, n1_, n2_, n3_, n4_, n5_, i1_, i2_, i3_, i4_, i5_, i6_, i7_]
    exact endsT_rett rfl (by decide) (by simp [look])
theorem tmod_fix (a n : Int) (hn : 0 < n) : (if a.tmod n < 0 then a.tmod n + n else a.tmod n) = a % n := by
  have h1 := Int.tmod_lt_of_pos a hn
  have h2 : a.tmod n = a - n * (a.tdiv n) := by have := Int.mul_tdiv_add_tmod a n; omega
  have h3 : a % n = a - n * (a / n) := by have := Int.mul_ediv_add_emod a n; omega
  have h4 := Int.emod_nonneg a (by omega : n ≠ 0)
  have h5 := Int.emod_lt_of_pos a hn
  have h6 : -n < a.tmod n := by
    have := Int.lt_tmod_of_pos a hn
    omega
  have e : a.tmod n % n = a % n := by
    rw [h2, Int.sub_mul_emod_self_left]
  split
  · have : (a.tmod n + n) % n = a.tmod n + n := Int.emod_eq_of_lt (by omega) (by omega)
    rw [← e, ← this, Int.add_emod_right]
  · have : a.tmod n % n = a.tmod n := Int.emod_eq_of_lt (by omega) (by omega)
    rw [← e, this]
end Go.Ab

namespace Go.Ab
set_option linter.unusedSimpArgs false
set_option linter.unusedVariables false
open Nat renaming reduceEqDiff → n1_, reduceAdd → n2_, reduceMul → n3_, reduceLT → n4_, reduceLeDiff → n5_
open Int renaming reduceToNat → i1_, reduceAdd → i2_, reduceSub → i3_, reduceMul → i4_, reduceNeg → i5_, reduceLT → i6_, reduceLE → i7_
open Go Go.Proofs
/-- Row by row, number by number. -/
def at2 (A : List (List Nat)) (i j : Nat) : Nat := (A.getD i []).getD j 0
def up2 (A : List (List Nat)) (i j v : Nat) : List (List Nat) := A.set i ((A.getD i []).set j v)
/-- n rows of n numbers. -/
def Sq (n : Nat) (A : List (List Nat)) : Prop := A.length = n ∧ ∀ i, i < n → (A.getD i []).length = n
def pvP (A : List (List Nat)) (k : Nat) : Nat → Nat
  | 0 => k
  | m + 1 => if fcmp .gt (fabs (at2 A (k + 1 + m) k)) (fabs (at2 A (pvP A k m) k)) = true then k + 1 + m else pvP A k m
theorem pvP_lt (A : List (List Nat)) (k : Nat) : ∀ m, k ≤ pvP A k m ∧ pvP A k m ≤ k + m := by
  intro m
  induction m with
  | zero => simp [pvP]
  | succ m ih => simp only [pvP]; split <;> omega
theorem lin_pivot_con (A : List (List Nat)) (n k : Nat) (hA : Sq n A) (hk : k < n) (hn : n < 2 ^ 60) : Con Tryz.prog 96 [.d (rowsD A), fI k] (fI (pvP A k (n - 1 - k))) := by
  obtain ⟨hl, hr⟩ := hA
  refine Con_introA A_lin_pivot_comp rfl mixed ?_
  simp -implicitDefEqProofs only [evI, hv, effC, reduceCtorEq, ↓reduceIte, n1_, n2_, n3_, n4_, n5_, i1_, i2_, i3_, i4_, i5_, i6_, i7_, A_lin_pivot]
  rw [wrapI (by omega) (by omega)]
  refine WA_for (n := n) (fun c s => ∃ m, c + m = n ∧ k + 1 + m ≤ n ∧ s = ⟨[(0, .d (rowsD A)), (1, fI k), (5, fI (pvP A k m)), (6, fI (k + 1 + m : Nat))], []⟩) ⟨0, rfl, by omega, rfl⟩ ?_
  rintro c s ⟨m, hc, hm, rfl⟩
  have hp := pvP_lt A k m
  simp -implicitDefEqProofs only [evI, hv, effC, reduceCtorEq, ↓reduceIte, n1_, n2_, n3_, n4_, n5_, i1_, i2_, i3_, i4_, i5_, i6_, i7_, A_lin_pivot_L0]
  refine condC_intro (fun h => ?_) (fun h => ?_)
  · replace h := of_decide_eq_true h
    have e1 := hr (k + 1 + m) (by omega)
    have e2 := hr (pvP A k m) (by omega)
    simp -implicitDefEqProofs only [evI, hv, effC, reduceCtorEq, ↓reduceIte, n1_, n2_, n3_, n4_, n5_, i1_, i2_, i3_, i4_, i5_, i6_, i7_]
    (repeat (with_reducible refine And.intro (by omega) ?_))
    first | refine callG_con (math_Abs_con (at2 A (k + 1 + m) k)) rfl ?_ | refine callCG_con (math_Abs_con (at2 A (k + 1 + m) k)) rfl ?_ | refine callSG_con (math_Abs_con (at2 A (k + 1 + m) k)) rfl ?_
    simp -implicitDefEqProofs only [evI, hv, effC, reduceCtorEq, ↓reduceIte, n1_, n2_, n3_, n4_, n5_, i1_, i2_, i3_, i4_, i5_, i6_, i7_]
    (repeat (with_reducible refine And.intro (by omega) ?_))
    first | refine callG_con (math_Abs_con (at2 A (pvP A k m) k)) rfl ?_ | refine callCG_con (math_Abs_con (at2 A (pvP A k m) k)) rfl ?_ | refine callSG_con (math_Abs_con (at2 A (pvP A k m) k)) rfl ?_
    simp -implicitDefEqProofs only [evI, hv, effC, reduceCtorEq, ↓reduceIte, n1_, n2_, n3_, n4_, n5_, i1_, i2_, i3_, i4_, i5_, i6_, i7_]
    refine condC_intro (fun h2 => ?_) (fun h2 => ?_)
    · simp -implicitDefEqProofs only [evI, hv, effC, reduceCtorEq, ↓reduceIte, n1_, n2_, n3_, n4_, n5_, i1_, i2_, i3_, i4_, i5_, i6_, i7_]
      rw [wrapI (by omega) (by omega)]
      refine ⟨c - 1, by omega, m + 1, by omega, by omega, ?_⟩
      simp only [pvP, h2, if_true]; rfl
    · simp -implicitDefEqProofs only [evI, hv, effC, reduceCtorEq, ↓reduceIte, n1_, n2_, n3_, n4_, n5_, i1_, i2_, i3_, i4_, i5_, i6_, i7_]
      rw [wrapI (by omega) (by omega)]
      refine ⟨c - 1, by omega, m + 1, by omega, by omega, ?_⟩
      simp only [pvP, h2, if_false, Bool.false_eq_true]; rfl
  · replace h := of_decide_eq_false h
    simp -implicitDefEqProofs only [evI, hv, effC, reduceCtorEq, ↓reduceIte, n1_, n2_, n3_, n4_, n5_, i1_, i2_, i3_, i4_, i5_, i6_, i7_]
    have : m = n - 1 - k := by omega
    subst this
    exact endsT_rett rfl (by decide) (by simp [look])
theorem lin_own_ac (A : List (List Nat)) (n : Nat) (hA : Sq n A) (hn : n < 2 ^ 40) :
    AC Tryz.prog 95 [.d (rowsD A)] [] [(100, A.map rowV), (2, [hd 100 n n n])] (.sl 2 0 0 n 1 n) := by
  obtain ⟨hl, hr⟩ := hA
  subst hl
  refine AC_introA A_lin_rows_float64_own_comp rfl mixed (fun _ => False) (by simp [get_nil]) ?_
  simp -implicitDefEqProofs only [evI, hv, effC, reduceCtorEq, ↓reduceIte, n1_, n2_, n3_, n4_, n5_, i1_, i2_, i3_, i4_, i5_, i6_, i7_, A_lin_rows_float64_own]
  (repeat (with_reducible refine And.intro (by omega) ?_))
  refine WA_forW (n := A.length) (fun c s => ∃ i, c + i = A.length ∧ s = ⟨[(3, .sl 2 0 0 A.length 1 A.length), (9, .d (rowsD A)), (10, fI A.length), (11, fI i)], [(100, (A.take i).map rowV), (2, [hd 100 A.length i A.length])]⟩) (s0 := ⟨_, _⟩) ?_ ⟨0, rfl, rfl⟩ ?_
  · rw [hd_zero]
    exact LeT.empty (L1 := []) (by simp [fam_cons, fam_nil])
  rintro c s ⟨i, hc, rfl⟩
  simp -implicitDefEqProofs only [evI, hv, effC, reduceCtorEq, ↓reduceIte, n1_, n2_, n3_, n4_, n5_, i1_, i2_, i3_, i4_, i5_, i6_, i7_, A_lin_rows_float64_own_L0]
  refine condC_intro (fun h => ?_) (fun h => ?_)
  · replace h := of_decide_eq_true h
    simp -implicitDefEqProofs only [evI, hv, effC, reduceCtorEq, ↓reduceIte, n1_, n2_, n3_, n4_, n5_, i1_, i2_, i3_, i4_, i5_, i6_, i7_]
    (repeat (with_reducible refine And.intro (by omega) ?_))
    have e1 := hr i h
    simp -implicitDefEqProofs only [evI, hv, effC, reduceCtorEq, ↓reduceIte, n1_, n2_, n3_, n4_, n5_, i1_, i2_, i3_, i4_, i5_, i6_, i7_, srcCells_row, srcLen_bor, hd_set_get _ _ _ _ _ h]
    (repeat (with_reducible refine And.intro (by omega) ?_))
    rw [splice_all _ _ (by simp), wrapI (by omega) (by omega)]
    refine ⟨c - 1, _, by omega, LeT.absorb (by decide) rfl rfl (fun h => h), i + 1, by omega, ?_⟩
    have e2 : ((A.take i).map rowV).length = i := by simp; omega
    rw [e2, ren_fam, List.take_of_length_le (l := rowV (A.getD i [])) (by simp), ren_rowV, take_fam A i h]
    simp only [renS, Heap.renH, ren_absF_sl _ _ _ _ _ _ _ _ _ (by decide : (2 : Nat) ≠ 105), ren_d, List.map_cons, List.map_nil, e1, hd_absorb 105 100 _ _ _ (by decide) h]
    rfl
  · replace h := of_decide_eq_false h
    obtain rfl : i = A.length := by omega
    simp -implicitDefEqProofs only [evI, hv, effC, reduceCtorEq, ↓reduceIte, n1_, n2_, n3_, n4_, n5_, i1_, i2_, i3_, i4_, i5_, i6_, i7_]
    refine endsT_keep (fun _ h => h) (by simp only [ResV]; rw [resV_tmp (by decide)]; rfl) (by simp) (.sl (by simp [get_cons]) rfl) fun X q cells hX j hj => ?_
    rw [get_cons, get_cons, get_nil] at hX
    split at hX
    · rw [List.getElem?_map] at hX
      obtain ⟨xs, h1, rfl⟩ := Option.map_eq_some_iff.1 hX
      exact le_rowV _ _ _ _
    · split at hX
      · rcases q with _ | q
        · simp at hX; subst hX
          exact le_hd _ _ _ _ (fun r hr => by simp [get_cons, hr]) _
        · simp at hX
      · cases hX
theorem lin_own_fresh (A : List (List Nat)) (n : Nat) (hA : Sq n A) (hn : n < 2 ^ 40) :
    AC Tryz.prog 95 [.d (rowsD A)] [] [(0, hdo 0 1 n n :: A.map rowV)] (.sl 0 0 0 n 1 n) := by
  have hl := hA.1
  refine AC_le (lin_own_ac A n hA hn) (Le.ren (sl := [.sl 2 0 0 n 1 n]) (fun X r => if X = 100 then (0, r + 1) else (0, 0)) (fun _ r => if r = 0 then (2, 0) else (100, r - 1)) ?_ ?_ (fun _ _ h => h.elim))
  · intro X r c h
    rw [get_cons, get_cons, get_nil] at h
    split at h
    · rename_i e; subst e
      rw [List.getElem?_map] at h
      obtain ⟨xs, h1, rfl⟩ := Option.map_eq_some_iff.1 h
      simp [get_cons, h1, ren_rowV, V.ren]
    · split at h
      · rename_i e e2
        rcases r with _ | r
        · simp at h; subst h
          simp only [e, if_false, get_cons, if_true, List.getElem?_cons_zero]
          refine ⟨?_, by simp [e2]⟩
          rw [hd_ren _ 100 0 1 n n (fun j hj => by simp)]
        · simp at h
      · cases h
  · intro X r c h
    rw [get_cons, get_nil] at h
    split at h
    · rename_i e; subst e
      rcases r with _ | r
      · simp [get_cons]
      · simp only [List.getElem?_cons_succ, List.getElem?_map] at h
        obtain ⟨xs, h1, rfl⟩ := Option.map_eq_some_iff.1 h
        simp [get_cons, h1]
    · cases h
theorem famUp_own (nm n len : Nat) (A : List (List Nat)) : famUp nm (hdo 0 1 n len :: A.map rowV) = hdo nm 1 n len :: A.map rowV := by
  have := ren_fam (toF nm) A
  simp only [famUp, List.map_cons]
  rw [hdo_ren _ 0 1 n len nm 1 (fun j hj => rfl), this]
/-- Elimination: of row i below row k. -/
def elimJ (A : List (List Nat)) (i k : Nat) : Nat → List (List Nat)
  | 0 => A
  | m + 1 => up2 (elimJ A i k m) i (k + 1 + m) (fop .sub (at2 (elimJ A i k m) i (k + 1 + m)) (fop .mul (at2 (elimJ A i k m) i k) (at2 (elimJ A i k m) k (k + 1 + m))))
def elimRow (A : List (List Nat)) (n i k : Nat) : List (List Nat) := elimJ (up2 A i k (fop .div (at2 A i k) (at2 A k k))) i k (n - 1 - k)
def elimI (A : List (List Nat)) (n k : Nat) : Nat → List (List Nat)
  | 0 => A
  | m + 1 => elimRow (elimI A n k m) n (k + 1 + m) k
def swapL {α : Type} (d : α) (l : List α) (i j : Nat) : List α := (l.set i (l.getD j d)).set j (l.getD i d)
def stepP (n k : Nat) (s : List (List Nat) × List Int) : Option (List (List Nat) × List Int) :=
  let p := pvP s.1 k (n - 1 - k)
  if fcmp .eq (at2 s.1 p k) 0 = true ∨ finite (at2 s.1 p k) = false then none
  else some (elimI (swapL [] s.1 k p) n k (n - 1 - k), swapL 0 s.2 k p)
def partP (A : List (List Nat)) (n : Nat) : Nat → Option (List (List Nat) × List Int)
  | 0 => some (A, (List.range n).map fun (i : Nat) => (i : Int))
  | m + 1 => (partP A n m).bind (stepP n m)
def permV (i : Nat) (n : Nat) : List Int := (List.range n).map fun (j : Nat) => if j < i then (j : Int) else 0
/-- The rows that Part works at. -/
def partH (B : List (List Nat)) (π : List Int) (n : Nat) : Heap :=
  [(7, [[.sl 2 0 0 n 1 n, .sl 5 0 0 n 1 n]]), (5, [rowIV π]), (2, hdo 2 1 n n :: B.map rowV), (0, [[.nil, .nil]])]
theorem permV_set (i n : Nat) (h : i < n) : (permV i n).set i (i : Int) = permV (i + 1) n := by
  refine List.ext_getElem? fun j => ?_
  simp only [permV, List.getElem?_set, List.length_map, List.length_range, List.getElem?_map]
  by_cases h1 : i = j
  · subst h1; simp [h]
  · by_cases h2 : j < n
    · have h3 : (List.range n)[j]? = some j := by simp [h2]
      rw [h3, if_neg h1]
      simp only [Option.map_some]
      by_cases h4 : j < i
      · rw [if_pos h4, if_pos (by omega)]
      · rw [if_neg h4, if_neg (by omega)]
    · have h3 : (List.range n)[j]? = none := by simp; omega
      rw [h3, if_neg h1]; rfl
theorem permV_all (n : Nat) : permV n n = (List.range n).map fun (j : Nat) => (j : Int) := by
  refine List.map_congr_left fun j hj => ?_
  rw [if_pos (by simpa using hj)]
theorem permV_zero (n : Nat) : List.replicate n 0 = permV 0 n := by
  refine List.ext_getElem? fun j => ?_
  by_cases h : j < n <;> simp [permV, h]
theorem permV_len (i n : Nat) : (permV i n).length = n := by simp [permV]
theorem elimJ_sq (A : List (List Nat)) (n i k : Nat) (hA : Sq n A) : ∀ m, Sq n (elimJ A i k m) := by
  have up : ∀ (B : List (List Nat)) (i j v : Nat), Sq n B → Sq n (up2 B i j v) := by
    intro B i j v hB
    refine ⟨by simp [up2, hB.1], fun r hr => ?_⟩
    have := hB.2 r hr
    simp only [up2, List.getD_eq_getElem?_getD, List.getElem?_set]
    by_cases e : i = r
    · subst e
      rw [if_pos rfl]
      split
      · simpa [List.getD_eq_getElem?_getD] using this
      · rename_i h; exact absurd (hB.1 ▸ hr) h
    · rw [if_neg e]; simpa [List.getD_eq_getElem?_getD] using this
  intro m
  induction m with
  | zero => exact hA
  | succ m ih => exact up _ _ _ _ ih
theorem up2_sq (B : List (List Nat)) (n i j v : Nat) (hB : Sq n B) : Sq n (up2 B i j v) := by
  have := elimJ_sq B n i j hB 0
  refine ⟨by simp [up2, hB.1], fun r hr => ?_⟩
  have := hB.2 r hr
  simp only [up2, List.getD_eq_getElem?_getD, List.getElem?_set]
  by_cases e : i = r
  · subst e
    rw [if_pos rfl]
    split
    · simpa [List.getD_eq_getElem?_getD] using this
    · rename_i h; exact absurd (hB.1 ▸ hr) h
  · rw [if_neg e]; simpa [List.getD_eq_getElem?_getD] using this
theorem elimI_sq (A : List (List Nat)) (n k : Nat) (hA : Sq n A) : ∀ m, Sq n (elimI A n k m) := by
  intro m
  induction m with
  | zero => exact hA
  | succ m ih => exact elimJ_sq _ _ _ _ (up2_sq _ _ _ _ _ ih) _
theorem swapL_sq (A : List (List Nat)) (n i j : Nat) (hA : Sq n A) (hi : i < n) (hj : j < n) : Sq n (swapL [] A i j) := by
  refine ⟨by simp [swapL, hA.1], fun r hr => ?_⟩
  have h1 := hA.2 i hi
  have h2 := hA.2 j hj
  have h3 := hA.2 r hr
  have hl := hA.1
  simp only [List.getD_eq_getElem?_getD] at h1 h2 h3
  simp only [swapL, List.getD_eq_getElem?_getD, List.getElem?_set, List.length_set]
  by_cases e : j = r
  · subst e; simp [hl, hj]; simpa using h1
  · rw [if_neg e]
    by_cases e2 : i = r
    · subst e2; simp [hl, hi]; simpa using h2
    · rw [if_neg e2]; exact h3
theorem partP_sq (A : List (List Nat)) (n : Nat) (hA : Sq n A) : ∀ m, m ≤ n → ∀ B π, partP A n m = some (B, π) → Sq n B ∧ π.length = n := by
  intro m
  induction m with
  | zero => intro _ B π h; simp only [partP, Option.some.injEq, Prod.mk.injEq] at h; obtain ⟨rfl, rfl⟩ := h; exact ⟨hA, by simp⟩
  | succ m ih =>
    intro hm B π h
    simp only [partP, Option.bind_eq_some_iff] at h
    obtain ⟨⟨C, σ⟩, h1, h2⟩ := h
    obtain ⟨h3, h4⟩ := ih (by omega) C σ h1
    simp only [stepP] at h2
    split at h2
    · cases h2
    · simp only [Option.some.injEq, Prod.mk.injEq] at h2
      obtain ⟨rfl, rfl⟩ := h2
      have := pvP_lt C m (n - 1 - m)
      exact ⟨elimI_sq _ _ _ (swapL_sq _ _ _ _ h3 (by omega) (by omega)) _, by simp [swapL, h4]⟩
theorem partP_none (A : List (List Nat)) (n m : Nat) (h : partP A n m = none) : ∀ d, partP A n (m + d) = none := by
  intro d
  induction d with
  | zero => exact h
  | succ d ih => show (partP A n (m + d)).bind _ = none; rw [ih]; rfl
theorem hdo_swap (X n len k p : Nat) (hk : k < n) (hp : p < n) :
    (((hdo X 1 n len).set k (.sl X (p + 1) 0 len 1 len)).set p (.sl X (k + 1) 0 len 1 len)).map (V.ren (swF X (k + 1) (p + 1))) = hdo X 1 n len := by
  refine List.ext_getElem? fun j => ?_
  simp only [List.getElem?_map, List.getElem?_set, List.length_set, hdo_length]
  have hj : ∀ j, j < n → (hdo X 1 n len)[j]? = some (.sl X (j + 1) 0 len 1 len) := fun j hj => by simp [hdo, hj]
  by_cases h1 : p = j
  · subst h1
    rw [if_pos rfl, if_pos hp, hj p hp]
    simp [V.ren, swF]
  · rw [if_neg h1]
    by_cases h2 : k = j
    · subst h2
      rw [if_pos rfl, if_pos hk, hj k hk]
      have : ¬ p = k := h1
      simp [V.ren, swF, this]
    · rw [if_neg h2]
      by_cases h3 : j < n
      · rw [hj j h3]
        have a : ¬ j = k := fun e => h2 e.symm
        have b : ¬ j = p := fun e => h1 e.symm
        simp [V.ren, swF, a, b]
      · have : (hdo X 1 n len)[j]? = none := by simp [hdo]; omega
        rw [this]; rfl
theorem part_swap (N : Nat → Prop) (hN : ∀ Y, ¬ N Y) (nt n k p : Nat) (B : List (List Nat)) (π : List Int) (sls : Sl) (hl : B.length = n) (hk : k < n) (hp : p < n) (has : renS (swF 2 (k + 1) (p + 1)) sls = sls) :
    Le N (T.s nt ⟨sls, [(7, [[.sl 2 0 0 n 1 n, .sl 5 0 0 n 1 n]]), (5, [rowIV π]), (2, ((hdo 2 1 n n).set k (.sl 2 (p + 1) 0 n 1 n)).set p (.sl 2 (k + 1) 0 n 1 n) :: B.map rowV), (0, [[.nil, .nil]])]⟩)
      (T.s nt ⟨sls, partH (swapL [] B k p) π n⟩) := by
  have : Le N (T.s nt ⟨sls, [(7, [[.sl 2 0 0 n 1 n, .sl 5 0 0 n 1 n]]), (5, [rowIV π]), (2, ((hdo 2 1 n n).set k (.sl 2 (p + 1) 0 n 1 n)).set p (.sl 2 (k + 1) 0 n 1 n) :: B.map rowV), (0, [[.nil, .nil]])]⟩) _ :=
    LeT.swap (X := 2) (a := k + 1) (b := p + 1)
      (fam := ((hdo 2 1 n n).set k (.sl 2 (p + 1) 0 n 1 n)).set p (.sl 2 (k + 1) 0 n 1 n) :: B.map rowV) (ca := rowV (B.getD k [])) (cb := rowV (B.getD p []))
      (by simp [fam_cons]) (by rw [List.getElem?_cons_succ]; exact getE B k (by omega)) (by rw [List.getElem?_cons_succ]; exact getE B p (by omega)) hN
  rw [has] at this
  refine (Eq.subst (motive := fun H => Le N _ (T.s nt ⟨sls, H⟩)) ?_ this)
  have e := hdo_swap 2 n n k p hk hp
  simp only [setFam, Heap.renH, List.map_cons, List.map_nil, List.set_cons_succ, setE, partH, swapL, ren_rowIV, ren_fam, Nat.reduceEqDiff, ↓reduceIte, e]
  simp [V.ren, swF]
set_option maxRecDepth 8000 in
theorem part_L3 (N : Nat → Prop) (hN : ∀ Y, ¬ N Y) (n k i : Nat) (D : List (List Nat)) (σ : List Int) (hn : n < 2 ^ 40) (hD : Sq n D) (hk : k < i) (hi : i < n) (Q : Ex → T → Prop)
    (hQ : ∀ v w, Q (.exit 6) ⟨[(2, .ptr 0 0 0 2), (4, .ptr 7 0 0 2), (6, fI k), (9, fI i), (10, v), (31, fI n), (32, fI k), (130, w)], partH (elimJ D i k (n - 1 - k)) σ n⟩) :
    WA Tryz.prog N 168 (.loop A_lin_Part_L3) Q ⟨[(2, .ptr 0 0 0 2), (4, .ptr 7 0 0 2), (6, fI k), (9, fI i), (10, fI (k + 1 : Nat)), (31, fI n), (32, fI k)], partH D σ n⟩ := by
  refine WA_for (n := n) (fun c3 s => ∃ q, c3 + q = n ∧ k + 1 + q ≤ n ∧ s = ⟨[(2, .ptr 0 0 0 2), (4, .ptr 7 0 0 2), (6, fI k), (9, fI i), (10, fI (k + 1 + q : Nat)), (31, fI n), (32, fI k)],
    partH (elimJ D i k q) σ n⟩) ⟨0, rfl, by omega, rfl⟩ ?_
  rintro c3 s ⟨q, hc3, hq, rfl⟩
  obtain ⟨hEl, hEr⟩ := elimJ_sq _ n i k hD q
  generalize hE : elimJ D i k q = E at hEl hEr
  simp -implicitDefEqProofs only [evI, hv, effC, reduceCtorEq, ↓reduceIte, n1_, n2_, n3_, n4_, n5_, i1_, i2_, i3_, i4_, i5_, i6_, i7_, A_lin_Part_L3, partH]
  refine condC_intro (fun h6 => ?_) (fun h6 => ?_)
  · replace h6 := of_decide_eq_true h6
    have hj : k + 1 + q < n := by omega
    have hkn : k < n := by omega
    have g1 := hEr i hi
    have g2 := hEr k hkn
    have e7 : k + 1 + q < (E.getD i []).length := by omega
    have e8 : k + 1 + q < (E.getD k []).length := by omega
    have e9 : k < (E.getD i []).length := by omega
    have hEk : k < E.length := by omega
    have hEi : i < E.length := by omega
    simp -implicitDefEqProofs only [evI, hv, effC, reduceCtorEq, ↓reduceIte, n1_, n2_, n3_, n4_, n5_, i1_, i2_, i3_, i4_, i5_, i6_, i7_, hdo_getD _ _ _ _ _ hi, hdo_getD _ _ _ _ _ hkn, getE E _ hEk, getE E _ hEi, getD_map_fl _ _ e7, getD_map_fl _ _ e8, getD_map_fl _ _ e9, setE]
    (repeat (with_reducible refine And.intro (by omega) ?_))
    rw [wrapI (by omega) (by omega)]
    refine ⟨c3 - 1, by omega, q + 1, by omega, by omega, ?_⟩
    simp only [elimJ, hE]
    rfl
  · replace h6 := of_decide_eq_false h6
    simp -implicitDefEqProofs only [evI, hv, effC, reduceCtorEq, ↓reduceIte, n1_, n2_, n3_, n4_, n5_, i1_, i2_, i3_, i4_, i5_, i6_, i7_]
    have : n - 1 - k = q := by omega
    subst this
    rw [hE] at hQ
    exact hQ _ _
set_option maxRecDepth 8000 in
theorem part_L2 (N : Nat → Prop) (hN : ∀ Y, ¬ N Y) (n k : Nat) (C : List (List Nat)) (σ : List Int) (hn : n < 2 ^ 40) (hC : Sq n C) (hk : k < n) (Q : Ex → T → Prop)
    (hQ : ∀ v w, Q (.exit 4) ⟨[(2, .ptr 0 0 0 2), (4, .ptr 7 0 0 2), (6, fI k), (9, v), (31, fI n), (32, fI k), (97, w)], partH (elimI C n k (n - 1 - k)) σ n⟩) :
    WA Tryz.prog N 168 (.loop A_lin_Part_L2) Q ⟨[(2, .ptr 0 0 0 2), (4, .ptr 7 0 0 2), (6, fI k), (9, fI (k + 1 : Nat)), (31, fI n), (32, fI k)], partH C σ n⟩ := by
  refine WA_for (n := n) (fun c2 s => ∃ m, c2 + m = n ∧ k + 1 + m ≤ n ∧ s = ⟨[(2, .ptr 0 0 0 2), (4, .ptr 7 0 0 2), (6, fI k), (9, fI (k + 1 + m : Nat)), (31, fI n), (32, fI k)], partH (elimI C n k m) σ n⟩) ⟨0, rfl, by omega, rfl⟩ ?_
  rintro c2 s ⟨m, hc2, hm, rfl⟩
  have hDs := elimI_sq C n k hC m
  have ⟨hDl, hDr⟩ := hDs
  generalize hD : elimI C n k m = D at hDs hDl hDr
  simp -implicitDefEqProofs only [evI, hv, effC, reduceCtorEq, ↓reduceIte, n1_, n2_, n3_, n4_, n5_, i1_, i2_, i3_, i4_, i5_, i6_, i7_, A_lin_Part_L2, partH]
  refine condC_intro (fun h5 => ?_) (fun h5 => ?_)
  · replace h5 := of_decide_eq_true h5
    have hi : k + 1 + m < n := by omega
    have f1 := hDr (k + 1 + m) hi
    have f2 := hDr k hk
    have e5 : k < (D.getD k []).length := by omega
    have e6 : k < (D.getD (k + 1 + m) []).length := by omega
    have hDk : k < D.length := by omega
    have hDi : k + 1 + m < D.length := by omega
    simp -implicitDefEqProofs only [evI, hv, effC, reduceCtorEq, ↓reduceIte, n1_, n2_, n3_, n4_, n5_, i1_, i2_, i3_, i4_, i5_, i6_, i7_, hdo_getD _ _ _ _ _ hi, hdo_getD _ _ _ _ _ hk, getE D _ hDk, getE D _ hDi, getD_map_fl _ _ e5, getD_map_fl _ _ e6, setE]
    (repeat (with_reducible refine And.intro (by omega) ?_))
    rw [wrapI (by omega) (by omega)]
    refine part_L3 N hN n k (k + 1 + m) (up2 D (k + 1 + m) k (fop .div (at2 D (k + 1 + m) k) (at2 D k k))) σ hn (up2_sq D n _ k _ hDs) (by omega) hi _ fun v w => ?_
    simp -implicitDefEqProofs only [evI, hv, effC, reduceCtorEq, ↓reduceIte, n1_, n2_, n3_, n4_, n5_, i1_, i2_, i3_, i4_, i5_, i6_, i7_]
    rw [wrapI (by omega) (by omega)]
    refine ⟨c2 - 1, by omega, m + 1, by omega, by omega, ?_⟩
    simp only [elimI, elimRow, hD]
    rfl
  · replace h5 := of_decide_eq_false h5
    simp -implicitDefEqProofs only [evI, hv, effC, reduceCtorEq, ↓reduceIte, n1_, n2_, n3_, n4_, n5_, i1_, i2_, i3_, i4_, i5_, i6_, i7_]
    have : n - 1 - k = m := by omega
    subst this
    rw [hD] at hQ
    exact hQ _ _
set_option maxRecDepth 8000 in
set_option maxHeartbeats 1000000 in
theorem part_L1 (N : Nat → Prop) (hN : ∀ Y, ¬ N Y) (n : Nat) (A : List (List Nat)) (hA : Sq n A) (hn : n < 2 ^ 40) (Q : Ex → T → Prop)
    (h1 : ∀ B π v w, partP A n n = some (B, π) → Sq n B → π.length = n → Q (.exit 2) ⟨[(2, .ptr 0 0 0 2), (4, .ptr 7 0 0 2), (31, fI n), (32, v), (33, w)], partH B π n⟩)
    (h2 : ∀ s : T, partP A n n = none → s.sl = [(2, .ptr 0 0 0 2), (3, fB false)] → s.L.get 0 0 = some [.nil, .nil] → Q .ret s) :
    WA Tryz.prog N 168 (.loop A_lin_Part_L1) Q ⟨[(2, .ptr 0 0 0 2), (4, .ptr 7 0 0 2), (31, fI n), (32, fI 0)], partH A ((List.range n).map fun (j : Nat) => (j : Int)) n⟩ := by
  have hr := hA.2
  have hn' := hA.1
  refine WA_forW (n := n) (fun c s => ∃ k B π, c + k = n ∧ partP A n k = some (B, π) ∧ s = ⟨[(2, .ptr 0 0 0 2), (4, .ptr 7 0 0 2), (31, fI n), (32, fI k)], partH B π n⟩) (s0 := ⟨_, _⟩) (.refl _) ⟨0, A, _, rfl, rfl, rfl⟩ ?_
  rintro c s ⟨k, B, π, hc, hp, rfl⟩
  obtain ⟨⟨hBl, hBr⟩, hπ⟩ := partP_sq A n ⟨hn', hr⟩ k (by omega) B π hp
  simp -implicitDefEqProofs only [evI, hv, effC, reduceCtorEq, ↓reduceIte, n1_, n2_, n3_, n4_, n5_, i1_, i2_, i3_, i4_, i5_, i6_, i7_, A_lin_Part_L1, partH]
  refine condC_intro (fun h => ?_) (fun h => ?_)
  · replace h := of_decide_eq_true h
    simp -implicitDefEqProofs only [evI, hv, effC, reduceCtorEq, ↓reduceIte, n1_, n2_, n3_, n4_, n5_, i1_, i2_, i3_, i4_, i5_, i6_, i7_]
    (repeat (with_reducible refine And.intro (by omega) ?_))
    have hpv := pvP_lt B k (n - 1 - k)
    generalize hpp : pvP B k (n - 1 - k) = p at hpv
    have e1 := hBr p (by omega)
    refine callG_snap (us := [.d (rowsD B), fI k]) (lin_pivot_con B n k ⟨hBl, hBr⟩ h (by omega)) rfl ?_ (.int _ _) ?_
    · intro j hj
      rcases j with _ | _ | j
      · exact snp_rows (X := 2) (o := 1) (by simp [get_cons]) (fun r hr => ⟨by simp [get_cons, getE B r (by omega)], hBr r hr⟩) hBl rfl
      · exact .d _
      · simp at hj; omega
    rw [hpp]
    have hpn : p < n := by omega
    have e2 : k < (B.getD p []).length := by omega
    simp -implicitDefEqProofs only [evI, hv, effC, reduceCtorEq, ↓reduceIte, n1_, n2_, n3_, n4_, n5_, i1_, i2_, i3_, i4_, i5_, i6_, i7_, hdo_getD _ _ _ _ _ hpn, getE B p (by omega), getD_map_fl _ _ e2]
    (repeat (with_reducible refine And.intro (by omega) ?_))
    have none_of : (fcmp .eq (at2 B p k) 0 = true ∨ finite (at2 B p k) = false) → partP A n n = none := by
      intro hd
      have e : partP A n (k + 1) = none := by
        simp only [partP, hp, Option.bind_some, stepP, hpp]
        rw [if_pos hd]
      have := partP_none A n (k + 1) e (n - (k + 1))
      rwa [show k + 1 + (n - (k + 1)) = n from by omega] at this
    cases hz : fcmp .eq ((B.getD p []).getD k 0) 0
    case true =>
      simp -implicitDefEqProofs only [evI, hv, effC, reduceCtorEq, ↓reduceIte, n1_, n2_, n3_, n4_, n5_, i1_, i2_, i3_, i4_, i5_, i6_, i7_]
      exact h2 _ (none_of (.inl hz)) rfl (by simp [get_cons])
    case false =>
      simp -implicitDefEqProofs only [evI, hv, effC, reduceCtorEq, ↓reduceIte, n1_, n2_, n3_, n4_, n5_, i1_, i2_, i3_, i4_, i5_, i6_, i7_]
      first | refine callG_con (fp_Finite_con (at2 B p k)) rfl ?_ | refine callCG_con (fp_Finite_con (at2 B p k)) rfl ?_ | refine callSG_con (fp_Finite_con (at2 B p k)) rfl ?_
      simp -implicitDefEqProofs only [evI, hv, effC, reduceCtorEq, ↓reduceIte, n1_, n2_, n3_, n4_, n5_, i1_, i2_, i3_, i4_, i5_, i6_, i7_]
      cases hf : finite (at2 B p k)
      · simp -implicitDefEqProofs only [evI, hv, effC, reduceCtorEq, ↓reduceIte, n1_, n2_, n3_, n4_, n5_, i1_, i2_, i3_, i4_, i5_, i6_, i7_]
        exact h2 _ (none_of (.inr hf)) rfl (by simp [get_cons])
      · have e3 : k < π.length := by omega
        have e4 : p < π.length := by omega
        simp -implicitDefEqProofs only [evI, hv, effC, reduceCtorEq, ↓reduceIte, n1_, n2_, n3_, n4_, n5_, i1_, i2_, i3_, i4_, i5_, i6_, i7_, hdo_getD _ _ _ _ _ hpn, hdo_getD _ _ _ _ _ h, getD_rowIV _ _ e3, getD_rowIV _ _ e4]
        (repeat (with_reducible refine And.intro (by omega) ?_))
        generalize hσ : swapL 0 π k p = σ
        have hσ' : (π.set k (π.getD p 0)).set p (π.getD k 0) = σ := hσ
        rw [hσ', wrapI (by omega) (by omega)]
        have hσl : σ.length = n := by rw [← hσ]; simp [swapL, hπ]
        have hCs := swapL_sq B n k p ⟨hBl, hBr⟩ h hpn
        have hstep : partP A n (k + 1) = some (elimI (swapL [] B k p) n k (n - 1 - k), σ) := by
          simp only [partP, hp, Option.bind_some, stepP, hpp, hσ]
          rw [if_neg]
          rintro (e | e)
          · exact absurd (hz.symm.trans e) (by simp)
          · exact absurd (hf.symm.trans e) (by simp)
        refine WA_le (part_swap N hN 168 n k p B σ _ hBl h hpn (by simp [renS, V.ren, swF])) ?_
        generalize swapL [] B k p = C at hCs hstep
        refine part_L2 N hN n k C σ hn hCs h _ fun v w => ?_
        simp -implicitDefEqProofs only [evI, hv, effC, reduceCtorEq, ↓reduceIte, n1_, n2_, n3_, n4_, n5_, i1_, i2_, i3_, i4_, i5_, i6_, i7_]
        rw [wrapI (by omega) (by omega)]
        exact ⟨c - 1, _, by omega, .refl _, k + 1, _, σ, by omega, hstep, rfl⟩
  · replace h := of_decide_eq_false h
    obtain rfl : n = k := by omega
    simp -implicitDefEqProofs only [evI, hv, effC, reduceCtorEq, ↓reduceIte, n1_, n2_, n3_, n4_, n5_, i1_, i2_, i3_, i4_, i5_, i6_, i7_]
    exact h1 B π _ _ hp ⟨hBl, hBr⟩ hπ
set_option maxRecDepth 8000 in
theorem lin_Part_walk (A : List (List Nat)) (n : Nat) (hA : Sq n A) (hn : n < 2 ^ 40) (Q : Ex → T → Prop)
    (h1 : ∀ B π, partP A n n = some (B, π) → Sq n B → π.length = n → Q .ret ⟨[(2, .ptr 0 0 0 2), (3, fB true)], [(7, [[.sl 2 0 0 n 1 n, .sl 5 0 0 n 1 n]]), (5, [rowIV π]), (2, hdo 2 1 n n :: B.map rowV), (0, [[.sl 2 0 0 n 1 n, .sl 5 0 0 n 1 n]])]⟩)
    (h2 : ∀ s : T, partP A n n = none → s.sl = [(2, .ptr 0 0 0 2), (3, fB false)] → s.L.get 0 0 = some [.nil, .nil] → Q .ret s) :
    xC Tryz.prog (fun _ => False) 168 A_lin_Part Q ⟨argSl 0 [.d (rowsD A)], []⟩ := by
  obtain ⟨hl, hr⟩ := hA
  subst hl
  generalize hn' : A.length = n at *
  simp -implicitDefEqProofs only [evI, hv, effC, reduceCtorEq, ↓reduceIte, n1_, n2_, n3_, n4_, n5_, i1_, i2_, i3_, i4_, i5_, i6_, i7_, A_lin_Part]
  refine callSG_fresh (lin_own_fresh A n ⟨hn', hr⟩ hn) rfl rfl ?_
  rw [famUp_own]
  simp -implicitDefEqProofs only [evI, hv, effC, reduceCtorEq, ↓reduceIte, n1_, n2_, n3_, n4_, n5_, i1_, i2_, i3_, i4_, i5_, i6_, i7_, V.ren, toF, hn']
  (repeat (with_reducible refine And.intro (by omega) ?_))
  refine WA_forW (n := n) (fun c s => ∃ i, c + i = n ∧ s = ⟨[(2, .ptr 0 0 0 2), (4, .ptr 7 0 0 2), (19, fI n), (20, fI i)], partH A (permV i n) n⟩) (s0 := ⟨_, _⟩) (.refl _) ⟨0, rfl, ?_⟩ ?_
  · simp only [partH, permV_zero]; rfl
  · rintro c s ⟨i, hc, rfl⟩
    simp -implicitDefEqProofs only [evI, hv, effC, reduceCtorEq, ↓reduceIte, n1_, n2_, n3_, n4_, n5_, i1_, i2_, i3_, i4_, i5_, i6_, i7_, A_lin_Part_L0, partH]
    refine condC_intro (fun h => ?_) (fun h => ?_)
    · replace h := of_decide_eq_true h
      simp -implicitDefEqProofs only [evI, hv, effC, reduceCtorEq, ↓reduceIte, n1_, n2_, n3_, n4_, n5_, i1_, i2_, i3_, i4_, i5_, i6_, i7_]
      have hpl := permV_len i n
      (repeat (with_reducible refine And.intro (by omega) ?_))
      rw [wrapI (by omega) (by omega)]
      refine ⟨c - 1, _, by omega, .refl _, i + 1, by omega, ?_⟩
      rw [permV_set i n h]; rfl
    · replace h := of_decide_eq_false h
      obtain rfl : n = i := by omega
      simp -implicitDefEqProofs only [evI, hv, effC, reduceCtorEq, ↓reduceIte, n1_, n2_, n3_, n4_, n5_, i1_, i2_, i3_, i4_, i5_, i6_, i7_]
      rw [permV_all]
      refine part_L1 _ (fun _ h => h) n A ⟨hn', hr⟩ hn _ (fun B π v w hp hB hπ => ?_) (fun s hs e1 e2 => ?_)
      · simp -implicitDefEqProofs only [evI, hv, effC, reduceCtorEq, ↓reduceIte, n1_, n2_, n3_, n4_, n5_, i1_, i2_, i3_, i4_, i5_, i6_, i7_, partH]
        exact h1 B π hp hB hπ
      · simp -implicitDefEqProofs only [evI, hv, effC, reduceCtorEq, ↓reduceIte, n1_, n2_, n3_, n4_, n5_, i1_, i2_, i3_, i4_, i5_, i6_, i7_]
        exact h2 s hs e1 e2
/-- What Part hands back. -/
abbrev luV (n : Nat) : V := .agg [.sl 2 0 0 n 1 n, .sl 5 0 0 n 1 n]
def luH (B : List (List Nat)) (π : List Int) (n : Nat) : Heap :=
  [(7, [[.sl 2 0 0 n 1 n, .sl 5 0 0 n 1 n]]), (5, [rowIV π]), (2, hdo 2 1 n n :: B.map rowV), (0, [[.sl 2 0 0 n 1 n, .sl 5 0 0 n 1 n]])]
theorem lin_Part_some (A : List (List Nat)) (n : Nat) (hA : Sq n A) (hn : n < 2 ^ 40) (B : List (List Nat)) (π : List Int) (h : partP A n n = some (B, π)) :
    AC Tryz.prog 66 [.d (rowsD A)] [] (luH B π n) (.tup [luV n, fB true]) := by
  refine AC_introA A_lin_Part_comp rfl mixed (fun _ => False) (by simp [get_nil]) (lin_Part_walk A n hA hn _ (fun B' π' h' hB hπ => ?_) (fun s h' _ _ => ?_))
  · obtain ⟨rfl, rfl⟩ : B = B' ∧ π = π' := by rw [h] at h'; simpa using h'
    refine endsT_keep (fun _ h => h) ⟨luV n, fB true, resV_cell (by decide) rfl (cells := [.sl 2 0 0 n 1 n, .sl 5 0 0 n 1 n]) (by simp [get_cons]) rfl (by simp) (by simp [ldv]), resV_tmpI (t := 3) (by decide) rfl, rfl⟩ rfl ?_ (keep_cells fun X q cells hX v hv => ?_)
    · refine .tup rfl fun j hj => ?_
      rcases j with _ | _ | j
      · refine .agg rfl fun j hj => ?_
        rcases j with _ | _ | j
        · exact .sl (by simp [luH, get_cons]) rfl
        · exact .sl (by simp [luH, get_cons]) rfl
        · simp at hj; omega
      · exact .d (.d _)
      · simp at hj; omega
    · have cell : ∀ v ∈ [V.sl 2 0 0 n 1 n, .sl 5 0 0 n 1 n], LeV (luH B π n) (luH B π n) (fun X q => (X, q)) v v := by
        intro v hv
        rcases List.mem_cons.1 hv with rfl | hv
        · exact .sl (by simp [luH, get_cons]) rfl
        · rcases List.mem_cons.1 hv with rfl | hv
          · exact .sl (by simp [luH, get_cons]) rfl
          · cases hv
      unfold luH at hX
      simp only [get_cons, get_nil] at hX
      split at hX
      · rcases q with _ | q <;> simp at hX; subst hX; exact cell v hv
      · split at hX
        · rcases q with _ | q <;> simp at hX; subst hX; exact mem_rowIV hv _ _ _
        · split at hX
          · rcases q with _ | q
            · simp at hX; subst hX
              exact mem_hdo hv fun r hr => by have := hB.1; simp [luH, get_cons]; omega
            · simp only [List.getElem?_cons_succ, List.getElem?_map] at hX
              obtain ⟨xs, _, rfl⟩ := Option.map_eq_some_iff.1 hX
              exact mem_rowV hv _ _ _
          · split at hX
            · rcases q with _ | q <;> simp at hX; subst hX; exact cell v hv
            · cases hX
  · rw [h] at h'; cases h'
theorem lin_Part_nil (A : List (List Nat)) (n : Nat) (hA : Sq n A) (hn : n < 2 ^ 40) (h : partP A n n = none) :
    AC Tryz.prog 66 [.d (rowsD A)] [] [] (.tup [.agg [.nil, .nil], fB false]) := by
  refine AC_introA A_lin_Part_comp rfl mixed (fun _ => False) (by simp [get_nil]) (lin_Part_walk A n hA hn _ (fun B' π' h' hB hπ => ?_) (fun s h' e1 e2 => ?_))
  · rw [h] at h'; cases h'
  · refine ⟨.tup [.agg [.nil, .nil], fB false], fun X r => (X, r), ⟨.agg [.nil, .nil], fB false, resV_cell (by decide) (by rw [e1]; rfl) e2 rfl (by simp) (by simp [ldv]), resV_tmpI (t := 3) (by decide) (by rw [e1]; rfl), rfl⟩, .fin (.tup rfl fun j hj => ?_)⟩
    rcases j with _ | _ | j
    · refine .agg rfl fun j hj => ?_
      rcases j with _ | _ | j
      · exact .nil
      · exact .nil
      · simp at hj; omega
    · exact .d (.d _)
    · simp at hj; omega
end Go.Ab

namespace Go.Ab
set_option linter.unusedSimpArgs false
set_option linter.unusedVariables false
open Nat renaming reduceEqDiff → n1_, reduceAdd → n2_, reduceMul → n3_, reduceLT → n4_, reduceLeDiff → n5_
open Int renaming reduceToNat → i1_, reduceAdd → i2_, reduceSub → i3_, reduceMul → i4_, reduceNeg → i5_, reduceLT → i6_, reduceLE → i7_
open Go Go.Proofs
def fJ (A : List (List Nat)) (i : Nat) (x : List Nat) : Nat → List Nat
  | 0 => x
  | m + 1 => (fJ A i x m).set i (fop .sub ((fJ A i x m).getD i 0) (fop .mul (at2 A i m) ((fJ A i x m).getD m 0)))
def fwdI (A : List (List Nat)) (π : List Int) (b : List Nat) (n : Nat) : Nat → List Nat
  | 0 => List.replicate n 0
  | m + 1 => fJ A m ((fwdI A π b n m).set m (b.getD (π.getD m 0).toNat 0)) m
def bJ (A : List (List Nat)) (i : Nat) (x : List Nat) : Nat → List Nat
  | 0 => x
  | m + 1 => (bJ A i x m).set i (fop .sub ((bJ A i x m).getD i 0) (fop .mul (at2 A i (i + 1 + m)) ((bJ A i x m).getD (i + 1 + m) 0)))
def bStep (A : List (List Nat)) (n i : Nat) (x : List Nat) : List Nat :=
  (bJ A i x (n - 1 - i)).set i (fop .div ((bJ A i x (n - 1 - i)).getD i 0) (at2 A i i))
def bckI (A : List (List Nat)) (n : Nat) (x : List Nat) : Nat → List Nat
  | 0 => x
  | m + 1 => bStep A n (n - 1 - m) (bckI A n x m)
def solveP (A : List (List Nat)) (π : List Int) (b : List Nat) (n : Nat) : List Nat := bckI A n (fwdI A π b n n) n
theorem fJ_len (A : List (List Nat)) (i : Nat) (x : List Nat) : ∀ m, (fJ A i x m).length = x.length := by
  intro m; induction m with
  | zero => rfl
  | succ m ih => simp [fJ, ih]
theorem fwdI_len (A : List (List Nat)) (π : List Int) (b : List Nat) (n : Nat) : ∀ m, (fwdI A π b n m).length = n := by
  intro m; induction m with
  | zero => simp [fwdI]
  | succ m ih => simp [fwdI, fJ_len, ih]
theorem bJ_len (A : List (List Nat)) (i : Nat) (x : List Nat) : ∀ m, (bJ A i x m).length = x.length := by
  intro m; induction m with
  | zero => rfl
  | succ m ih => simp [bJ, ih]
theorem bckI_len (A : List (List Nat)) (n : Nat) (x : List Nat) : ∀ m, (bckI A n x m).length = x.length := by
  intro m; induction m with
  | zero => rfl
  | succ m ih => simp [bckI, bStep, bJ_len, ih]
/-- Places of n. -/
def Pm (n : Nat) (π : List Int) : Prop := π.length = n ∧ ∀ i, i < n → 0 ≤ π.getD i 0 ∧ π.getD i 0 < n
def solveH (A : List (List Nat)) (π : List Int) (x : List Nat) : Heap := [(2, [rowV x]), (0, [[.d (rowsD A), .d (rowI π)]])]
set_option maxRecDepth 8000 in
theorem solve_L1 (N : Nat → Prop) (A : List (List Nat)) (π : List Int) (vb : V) (n i : Nat) (x : List Nat) (hA : Sq n A) (hx : x.length = n) (hi : i < n) (hn : n < 2 ^ 40) (Q : Ex → T → Prop)
    (hQ : ∀ v w, Q (.exit 2) ⟨[(1, vb), (2, .ptr 0 0 0 2), (5, fI n), (6, .sl 2 0 0 n 1 n), (7, fI i), (17, fI n), (18, fI i), (32, fI i), (33, v), (34, w)], solveH A π (fJ A i x i)⟩) :
    WA Tryz.prog N 110 (.loop A_lin_Solve_L1) Q ⟨[(1, vb), (2, .ptr 0 0 0 2), (5, fI n), (6, .sl 2 0 0 n 1 n), (7, fI i), (17, fI n), (18, fI i), (32, fI i), (33, fI 0)], solveH A π x⟩ := by
  obtain ⟨hl, hr⟩ := hA
  refine WA_for (n := i) (fun c s => ∃ m, c + m = i ∧ s = ⟨[(1, vb), (2, .ptr 0 0 0 2), (5, fI n), (6, .sl 2 0 0 n 1 n), (7, fI i), (17, fI n), (18, fI i), (32, fI i), (33, fI m)], solveH A π (fJ A i x m)⟩) ⟨0, rfl, rfl⟩ ?_
  rintro c s ⟨m, hc, rfl⟩
  have hy := fJ_len A i x m
  generalize hY : fJ A i x m = y at hy
  have g1 := hr i hi
  simp -implicitDefEqProofs only [evI, hv, effC, reduceCtorEq, ↓reduceIte, n1_, n2_, n3_, n4_, n5_, i1_, i2_, i3_, i4_, i5_, i6_, i7_, A_lin_Solve_L1, solveH]
  refine condC_intro (fun h => ?_) (fun h => ?_)
  · replace h := of_decide_eq_true h
    have e1 : i < y.length := by omega
    have e2 : m < y.length := by omega
    simp -implicitDefEqProofs only [evI, hv, effC, reduceCtorEq, ↓reduceIte, n1_, n2_, n3_, n4_, n5_, i1_, i2_, i3_, i4_, i5_, i6_, i7_, getD_map_fl _ _ e1, getD_map_fl _ _ e2]
    (repeat (with_reducible refine And.intro (by omega) ?_))
    rw [wrapI (by omega) (by omega)]
    refine ⟨c - 1, by omega, m + 1, by omega, ?_⟩
    simp only [fJ, hY]; rfl
  · replace h := of_decide_eq_false h
    simp -implicitDefEqProofs only [evI, hv, effC, reduceCtorEq, ↓reduceIte, n1_, n2_, n3_, n4_, n5_, i1_, i2_, i3_, i4_, i5_, i6_, i7_]
    obtain rfl : i = m := by omega
    rw [hY] at hQ
    exact hQ _ _
set_option maxRecDepth 8000 in
theorem solve_L3 (N : Nat → Prop) (A : List (List Nat)) (π : List Int) (n i : Nat) (x : List Nat) (hA : Sq n A) (hx : x.length = n) (hi : i < n) (hn : n < 2 ^ 40) (Q : Ex → T → Prop)
    (hQ : ∀ v w, Q (.exit 6) ⟨[(2, .ptr 0 0 0 2), (5, fI n), (6, .sl 2 0 0 n 1 n), (9, fI i), (10, v), (69, w)], solveH A π (bJ A i x (n - 1 - i))⟩) :
    WA Tryz.prog N 110 (.loop A_lin_Solve_L3) Q ⟨[(2, .ptr 0 0 0 2), (5, fI n), (6, .sl 2 0 0 n 1 n), (9, fI i), (10, fI (i + 1 : Nat))], solveH A π x⟩ := by
  obtain ⟨hl, hr⟩ := hA
  refine WA_for (n := n) (fun c s => ∃ m, c + m = n ∧ i + 1 + m ≤ n ∧ s = ⟨[(2, .ptr 0 0 0 2), (5, fI n), (6, .sl 2 0 0 n 1 n), (9, fI i), (10, fI (i + 1 + m : Nat))], solveH A π (bJ A i x m)⟩) ⟨0, rfl, by omega, rfl⟩ ?_
  rintro c s ⟨m, hc, hm, rfl⟩
  have hy := bJ_len A i x m
  generalize hY : bJ A i x m = y at hy
  have g1 := hr i hi
  simp -implicitDefEqProofs only [evI, hv, effC, reduceCtorEq, ↓reduceIte, n1_, n2_, n3_, n4_, n5_, i1_, i2_, i3_, i4_, i5_, i6_, i7_, A_lin_Solve_L3, solveH]
  refine condC_intro (fun h => ?_) (fun h => ?_)
  · replace h := of_decide_eq_true h
    have e1 : i < y.length := by omega
    have e2 : i + 1 + m < y.length := by omega
    simp -implicitDefEqProofs only [evI, hv, effC, reduceCtorEq, ↓reduceIte, n1_, n2_, n3_, n4_, n5_, i1_, i2_, i3_, i4_, i5_, i6_, i7_, getD_map_fl _ _ e1, getD_map_fl _ _ e2]
    (repeat (with_reducible refine And.intro (by omega) ?_))
    rw [wrapI (by omega) (by omega)]
    refine ⟨c - 1, by omega, m + 1, by omega, by omega, ?_⟩
    simp only [bJ, hY]; rfl
  · replace h := of_decide_eq_false h
    simp -implicitDefEqProofs only [evI, hv, effC, reduceCtorEq, ↓reduceIte, n1_, n2_, n3_, n4_, n5_, i1_, i2_, i3_, i4_, i5_, i6_, i7_]
    obtain rfl : n - 1 - i = m := by omega
    rw [hY] at hQ
    exact hQ _ _
set_option maxRecDepth 8000 in
theorem lin_Solve_ac (A : List (List Nat)) (π : List Int) (b : List Nat) (n : Nat) (hA : Sq n A) (hπ : Pm n π) (hb : b.length = n) (hn : n < 2 ^ 40) :
    AC Tryz.prog 102 [.agg [.d (rowsD A), .d (rowI π)], .d (rowD b)] [] (solveH A π (solveP A π b n)) (.sl 2 0 0 n 1 n) := by
  obtain ⟨hl, hr⟩ := hA
  obtain ⟨hp1, hp2⟩ := hπ
  refine AC_introA A_lin_Solve_comp rfl mixed (fun _ => False) (by simp [get_nil]) ?_
  simp -implicitDefEqProofs only [evI, hv, effC, reduceCtorEq, ↓reduceIte, n1_, n2_, n3_, n4_, n5_, i1_, i2_, i3_, i4_, i5_, i6_, i7_, A_lin_Solve, hl]
  (repeat (with_reducible refine And.intro (by omega) ?_))
  refine WA_for (n := n) (fun c s => ∃ m, c + m = n ∧ s = ⟨[(1, .d (rowD b)), (2, .ptr 0 0 0 2), (5, fI n), (6, .sl 2 0 0 n 1 n), (17, fI n), (18, fI m)], solveH A π (fwdI A π b n m)⟩) ⟨0, rfl, ?_⟩ ?_
  · simp only [solveH, fwdI, rowsD, hl]; rfl
  rintro c s ⟨m, hc, rfl⟩
  have hy := fwdI_len A π b n m
  generalize hY : fwdI A π b n m = y at hy
  simp -implicitDefEqProofs only [evI, hv, effC, reduceCtorEq, ↓reduceIte, n1_, n2_, n3_, n4_, n5_, i1_, i2_, i3_, i4_, i5_, i6_, i7_, A_lin_Solve_L0, solveH]
  refine condC_intro (fun h => ?_) (fun h => ?_)
  · replace h := of_decide_eq_true h
    obtain ⟨q1, q2⟩ := hp2 m h
    simp -implicitDefEqProofs only [evI, hv, effC, reduceCtorEq, ↓reduceIte, n1_, n2_, n3_, n4_, n5_, i1_, i2_, i3_, i4_, i5_, i6_, i7_]
    (repeat (with_reducible refine And.intro (by omega) ?_))
    refine solve_L1 _ A π _ n m (y.set m (b.getD (π.getD m 0).toNat 0)) ⟨hl, hr⟩ (by simpa using hy) h hn _ fun v w => ?_
    simp -implicitDefEqProofs only [evI, hv, effC, reduceCtorEq, ↓reduceIte, n1_, n2_, n3_, n4_, n5_, i1_, i2_, i3_, i4_, i5_, i6_, i7_]
    rw [wrapI (by omega) (by omega)]
    refine ⟨c - 1, by omega, m + 1, by omega, ?_⟩
    simp only [fwdI, hY]; rfl
  · replace h := of_decide_eq_false h
    obtain rfl : n = m := by omega
    simp -implicitDefEqProofs only [evI, hv, effC, reduceCtorEq, ↓reduceIte, n1_, n2_, n3_, n4_, n5_, i1_, i2_, i3_, i4_, i5_, i6_, i7_]
    rw [wrapI (by omega) (by omega)]
    refine WA_for (n := n) (fun c s => ∃ m, ∃ z : Int, c + m = n ∧ z = (n : Int) - 1 - m ∧ s = ⟨[(2, .ptr 0 0 0 2), (5, fI n), (6, .sl 2 0 0 n 1 n), (9, fI z)], solveH A π (bckI A n y m)⟩) ⟨0, _, rfl, rfl, ?_⟩ ?_
    · simp only [Int.natCast_zero, Int.sub_zero]; rfl
    rintro c s ⟨m, z, hc, hz, rfl⟩
    have hu := bckI_len A n y m
    generalize hU : bckI A n y m = u at hu
    simp -implicitDefEqProofs only [evI, hv, effC, reduceCtorEq, ↓reduceIte, n1_, n2_, n3_, n4_, n5_, i1_, i2_, i3_, i4_, i5_, i6_, i7_, A_lin_Solve_L2, solveH]
    refine condC_intro (fun h2 => ?_) (fun h2 => ?_)
    · replace h2 := of_decide_eq_true h2
      obtain ⟨i, rfl⟩ : ∃ i : Nat, z = i := ⟨n - 1 - m, by omega⟩
      have hi : i < n := by omega
      simp -implicitDefEqProofs only [evI, hv, effC, reduceCtorEq, ↓reduceIte, n1_, n2_, n3_, n4_, n5_, i1_, i2_, i3_, i4_, i5_, i6_, i7_]
      rw [wrapI (by omega) (by omega)]
      refine solve_L3 _ A π n i u ⟨hl, hr⟩ (by omega) hi hn _ fun v w => ?_
      have hbl := bJ_len A i u (n - 1 - i)
      have e1 : i < (bJ A i u (n - 1 - i)).length := by omega
      have g1 := hr i hi
      simp -implicitDefEqProofs only [evI, hv, effC, reduceCtorEq, ↓reduceIte, n1_, n2_, n3_, n4_, n5_, i1_, i2_, i3_, i4_, i5_, i6_, i7_, solveH, getD_map_fl _ _ e1]
      (repeat (with_reducible refine And.intro (by omega) ?_))
      rw [wrapI (by omega) (by omega)]
      refine ⟨c - 1, by omega, m + 1, (i : Int) - 1, by omega, by omega, ?_⟩
      have e : n - 1 - m = i := by omega
      simp only [bckI, hU, bStep, e]; rfl
    · replace h2 := of_decide_eq_false h2
      simp -implicitDefEqProofs only [evI, hv, effC, reduceCtorEq, ↓reduceIte, n1_, n2_, n3_, n4_, n5_, i1_, i2_, i3_, i4_, i5_, i6_, i7_]
      obtain rfl : n = m := by omega
      refine endsT_keep (fun _ h => h) (resV_tmpI (t := 4) (by decide) rfl) (by simp only [solveH, solveP, hY, hU]) (.sl (by simp [solveH, get_cons]) rfl) (keep_cells fun X q cells hX v hv' => ?_)
      simp only [solveH, get_cons, get_nil] at hX
      split at hX
      · rcases q with _ | q <;> simp at hX; subst hX; exact mem_rowV hv' _ _ _
      · split at hX
        · rcases q with _ | q <;> simp at hX; subst hX
          rcases List.mem_cons.1 hv' with rfl | hv'
          · exact .d (.d _)
          · rcases List.mem_cons.1 hv' with rfl | hv'
            · exact .d (.d _)
            · cases hv'
        · cases hX
theorem lin_Solve_row (A : List (List Nat)) (π : List Int) (b : List Nat) (n : Nat) (hA : Sq n A) (hπ : Pm n π) (hb : b.length = n) (hn : n < 2 ^ 40) :
    AC Tryz.prog 102 [.agg [.d (rowsD A), .d (rowI π)], .d (rowD b)] [] [(2, [rowV (solveP A π b n)])] (.sl 2 0 0 n 1 n) := by
  refine AC_le (lin_Solve_ac A π b n hA hπ hb hn) (Le.of_wk (fun X q => (X, q)) ⟨rfl, fun i hi => ?_, fun X q c hX => ?_, fun X r Y q _ _ e => by simpa using e, fun X r h => h.elim⟩)
  · obtain rfl : i = 0 := by simpa using hi
    exact .sl (by simp [get_cons]) rfl
  · rw [get_cons, get_nil] at hX
    split at hX
    · rename_i e; subst e
      rcases q with _ | q <;> simp at hX; subst hX
      refine ⟨_, by simp [solveH, get_cons], rfl, fun j hj => ?_⟩
      rw [List.getD_eq_getElem?_getD, List.getElem?_eq_getElem hj]
      exact mem_rowV (List.getElem_mem hj) _ _ _
    · cases hX
end Go.Ab

namespace Go.Ab
set_option linter.unusedSimpArgs false
set_option linter.unusedVariables false
open Nat renaming reduceEqDiff → n1_, reduceAdd → n2_, reduceMul → n3_, reduceLT → n4_, reduceLeDiff → n5_
open Int renaming reduceToNat → i1_, reduceAdd → i2_, reduceSub → i3_, reduceMul → i4_, reduceNeg → i5_, reduceLT → i6_, reduceLE → i7_
open Go Go.Proofs
def A_math_normalize : CA := (.seq (.reg [i_X 0 2 (.h (.mov (.k (.d (.flt 0))))), i_X 1 3 (.h (.mov (.k (.d (.int .i64 0)))))] [0]) (.seq (.seq (.reg [i_M 0 4 0, i_X 1 5 (.callA (.k (.d (.fn 63 [] []))) [(.t 4)]), i_X 2 6 (.h (.fcmp .lt (.t 5) (.k (.d (.flt 4503599627370496)))))] [0, 6]) (.cond (.t 6) (.seq (.reg [i_M 0 7 0, i_X 1 8 (.h (.fbin .mul (.t 7) (.k (.d (.flt 4841369599423283200))))), i_M 2 2 8, i_X 3 3 (.h (.mov (.k (.d (.int .i64 (-52))))))] [2, 3]) .ret) .skip)) (.seq (.reg [i_M 0 9 0, i_M 1 2 9, i_X 2 3 (.h (.mov (.k (.d (.int .i64 0)))))] [2, 3]) .ret)))
theorem A_math_normalize_comp : compF Tryz.prog 124 = some ⟨10, [(2, none), (3, none)], A_math_normalize.strip⟩ := by kernel_rfl
def A_math_ldexp : CA := (.seq (.reg [i_X 0 4 (.h (.mov (.k (.d (.flt 0)))))] [0, 1]) (.seq (.block 0 (.seq (.reg [i_M 0 9 0, i_X 1 10 (.h (.fcmp .eq (.t 9) (.k (.d (.flt 0))))), i_M 2 8 10] [0, 1, 8]) (.cond (.t 8) (.seq (.reg [i_M 0 11 0, i_M 1 4 11] [4]) .ret) (.seq (.reg [i_M 0 13 0, i_X 1 14 (.callA (.k (.d (.fn 116 [] []))) [(.t 13), (.k (.d (.int .i64 0)))]), i_M 2 15 14, ⟨3, (some 16), (some (15, false)), [], [], (.h (.mov (.t 0)))⟩, ⟨4, (some 17), (some (15, false)), [], [], (.callA (.k (.d (.fn 70 [] []))) [(.t 16)])⟩, i_X 5 18 (.h (.pick (.t 15) (.k (.d (.bool true))) (.t 17))), i_M 6 12 18] [0, 1, 12]) (.cond (.t 12) (.seq (.reg [i_M 0 19 0, i_M 1 4 19] [4]) .ret) .skip))))) (.seq (.reg [i_M 0 21 0, i_X 1 22 (.callA (.k (.d (.fn 124 [] []))) [(.t 21)]), i_M 2 20 22, i_X 3 23 (.h (.ext (.t 20) 0)), i_X 4 24 (.h (.ext (.t 20) 1)), i_M 5 0 23, i_M 6 5 24] [0, 1, 5]) (.seq (.reg [i_M 0 25 1, i_M 1 26 5, i_X 2 27 (.h (.ibin .add (.t 25) (.t 26))), i_M 3 1 27] [0, 1]) (.seq (.reg [i_M 0 28 0, i_X 1 29 (.h (.bits (.t 28))), i_M 2 6 29] [0, 1, 6]) (.seq (.reg [i_M 0 30 1, i_M 1 31 6, i_X 2 32 (.h (.ibin .shr (.t 31) (.k (.d (.int .u64 52))))), i_X 3 33 (.h (.icv .i64 (.t 32))), i_X 4 34 (.h (.ibin .and (.t 33) (.k (.d (.int .i64 2047))))), i_X 5 35 (.h (.ibin .sub (.t 34) (.k (.d (.int .i64 1023))))), i_X 6 36 (.h (.ibin .add (.t 30) (.t 35))), i_M 7 1 36] [0, 1, 6]) (.seq (.seq (.reg [i_M 0 37 1, i_X 1 38 (.h (.ibin .lss (.t 37) (.k (.d (.int .i64 (-1075))))))] [0, 1, 6, 38]) (.cond (.t 38) (.seq (.reg [i_M 0 39 0, i_X 1 40 (.callA (.k (.d (.fn 125 [] []))) [(.k (.d (.flt 0))), (.t 39)]), i_M 2 4 40] [4]) .ret) .skip)) (.seq (.seq (.reg [i_M 0 41 1, i_X 1 42 (.h (.ibin .gtr (.t 41) (.k (.d (.int .i64 1023)))))] [0, 1, 6, 42]) (.cond (.t 42) (.seq (.seq (.reg [i_M 0 43 0, i_X 1 44 (.h (.fcmp .lt (.t 43) (.k (.d (.flt 0)))))] [44]) (.cond (.t 44) (.seq (.reg [i_X 0 45 (.callA (.k (.d (.fn 71 [] []))) [(.k (.d (.int .i64 (-1))))]), i_M 1 4 45] [4]) .ret) .skip)) (.seq (.reg [i_X 0 46 (.callA (.k (.d (.fn 71 [] []))) [(.k (.d (.int .i64 1)))]), i_M 1 4 46] [4]) .ret)) .skip)) (.seq (.reg [i_X 0 7 (.h (.mov (.k (.d (.flt 4607182418800017408)))))] [1, 6, 7]) (.seq (.seq (.reg [i_M 0 47 1, i_X 1 48 (.h (.ibin .lss (.t 47) (.k (.d (.int .i64 (-1022))))))] [1, 6, 7, 48]) (.cond (.t 48) (.seq (.reg [i_M 0 49 1, i_X 1 50 (.h (.ibin .add (.t 49) (.k (.d (.int .i64 53))))), i_M 2 1 50] [1, 6]) (.reg [i_X 0 7 (.h (.mov (.k (.d (.flt 4368491638549381120)))))] [1, 6, 7])) .skip)) (.seq (.reg [i_M 0 51 6, i_X 1 52 (.h (.ibin .andNot (.t 51) (.k (.d (.int .u64 9218868437227405312))))), i_M 2 6 52] [1, 6, 7]) (.seq (.reg [i_M 0 53 6, i_M 1 54 1, i_X 2 55 (.h (.ibin .add (.t 54) (.k (.d (.int .i64 1023))))), i_X 3 56 (.h (.icv .u64 (.t 55))), i_X 4 57 (.h (.ibin .shl (.t 56) (.k (.d (.int .u64 52))))), i_X 5 58 (.h (.ibin .or (.t 53) (.t 57))), i_M 6 6 58] [6, 7]) (.seq (.reg [i_M 0 59 7, i_M 1 60 6, i_X 2 61 (.h (.frombits (.t 60))), i_X 3 62 (.h (.fbin .mul (.t 59) (.t 61))), i_M 4 4 62] [4]) .ret)))))))))))))
theorem A_math_ldexp_comp : compF Tryz.prog 113 = some ⟨63, [(4, none)], A_math_ldexp.strip⟩ := by kernel_rfl
def A_math_Ldexp : CA := (.seq (.reg [i_X 0 4 (.h (.mov (.k (.d (.flt 0)))))] [0, 1]) (.seq (.cond (.k (.d (.bool false))) (.seq (.reg [i_M 0 5 0, i_M 1 6 1, i_X 2 7 (.callA (.k (.d (.fn 112 [] []))) [(.t 5), (.t 6)]), i_M 3 4 7] [4]) .ret) .skip) (.seq (.reg [i_M 0 8 0, i_M 1 9 1, i_X 2 10 (.callA (.k (.d (.fn 113 [] []))) [(.t 8), (.t 9)]), i_M 3 4 10] [4]) .ret)))
theorem A_math_Ldexp_comp : compF Tryz.prog 91 = some ⟨11, [(4, none)], A_math_Ldexp.strip⟩ := by kernel_rfl
def A_fp_Scale : CA := (.seq (.reg [i_X 0 4 (.h (.mov (.k (.d (.flt 0)))))] [0, 1]) (.seq (.reg [i_M 0 5 0, i_M 1 6 1, i_X 2 7 (.callA (.k (.d (.fn 91 [] []))) [(.t 5), (.t 6)]), i_M 3 4 7] [4]) .ret))
theorem A_fp_Scale_comp : compF Tryz.prog 64 = some ⟨8, [(4, none)], A_fp_Scale.strip⟩ := by kernel_rfl
def A_corr_Weights_L0 : CA := (.seq (.reg [i_X 0 16 (.h (.ibin .lss (.t 15) (.t 14)))] [1, 2, 7, 13, 14, 15, 16]) (.seq (.cond (.t 16) .skip (.exit 0)) (.seq (.block 1 (.seq (.reg [i_M 0 17 15, i_X 1 18 (.h (.idx (.t 13) (.t 15) 1)), i_L 2 19 18 1, i_M 3 8 17, i_M 4 9 19] [1, 2, 7, 8, 9, 13, 14, 15]) (.reg [i_M 0 20 7, i_M 1 21 8, i_M 2 22 1, i_M 3 23 2, i_M 4 24 9, i_X 5 25 (.callA (.k (.d (.fn 63 [] []))) [(.t 24)]), i_X 6 26 (.h (.fbin .mul (.t 23) (.t 25))), i_X 7 27 (.h (.fbin .add (.t 22) (.t 26))), i_X 8 28 (.h (.idx (.t 20) (.t 21) 1)), i_S 9 28 27 1] [1, 2, 7, 13, 14, 15]))) (.reg [i_X 0 29 (.h (.ibin .add (.t 15) (.k (.d (.int .i64 1))))), i_M 1 15 29] [1, 2, 7, 13, 14, 15]))))
def A_corr_Weights : CA := (.seq (.reg [i_X 0 6 (.h (.mov (.k .nil)))] [0, 1, 2]) (.seq (.reg [i_M 0 10 0, i_X 1 11 (.h (.len (.t 10))), i_X 2 12 (.mksl [(.d (.flt 0))] 1 8 (.t 11) (.t 11) 31), i_M 3 7 12] [0, 1, 2, 7]) (.seq (.seq (.reg [i_M 0 13 0, i_X 1 14 (.h (.len (.t 13))), i_X 2 15 (.h (.mov (.k (.d (.int .i64 0)))))] [1, 2, 7, 13, 14, 15]) (.block 0 (.loop A_corr_Weights_L0))) (.seq (.reg [i_M 0 30 7, i_M 1 6 30] [6]) .ret))))
theorem A_corr_Weights_comp : compF Tryz.prog 35 = some ⟨31, [(6, none)], A_corr_Weights.strip⟩ := by kernel_rfl
def A_r9_Weights_L0 : CA := (.seq (.seq (.reg [i_M 0 10 8, i_M 1 11 0, i_X 2 12 (.h (.len (.t 11))), i_X 3 13 (.h (.ibin .lss (.t 10) (.t 12)))] [0, 1, 2, 7, 8, 13]) (.cond (.t 13) .skip (.exit 0))) (.seq (.block 1 (.seq (.reg [i_M 0 16 2, i_M 1 17 0, i_M 2 18 8, i_X 3 19 (.h (.idx (.t 17) (.t 18) 1)), i_L 4 20 19 1, i_X 5 21 (.callA (.k (.d (.fn 58 [] []))) [(.t 20)]), i_X 6 22 (.h (.fbin .mul (.t 16) (.t 21))), i_M 7 9 22] [0, 1, 2, 7, 8, 9]) (.reg [i_M 0 23 7, i_M 1 24 1, i_M 2 25 9, i_X 3 26 (.h (.fbin .add (.t 24) (.t 25))), i_X 4 27 (.bslice [(.d (.flt 0))] 1 1 [(0, (1, (.t 26)))] 31), i_X 5 28 (.app (.t 23) (.t 27) 1 8), i_M 6 7 28] [0, 1, 2, 7, 8]))) (.reg [i_M 0 14 8, i_X 1 15 (.h (.ibin .add (.t 14) (.k (.d (.int .i64 1))))), i_M 2 8 15] [0, 1, 2, 7, 8])))
def A_r9_Weights : CA := (.seq (.reg [i_X 0 6 (.h (.mov (.k .nil)))] [0, 1, 2]) (.seq (.reg [i_X 0 7 (.h (.mov (.k .nil)))] [0, 1, 2, 7]) (.seq (.seq (.reg [i_X 0 8 (.h (.mov (.k (.d (.int .i64 0)))))] [0, 1, 2, 7, 8]) (.block 0 (.loop A_r9_Weights_L0))) (.seq (.reg [i_M 0 29 7, i_M 1 6 29] [6]) .ret))))
theorem A_r9_Weights_comp : compF Tryz.prog 27 = some ⟨30, [(6, none)], A_r9_Weights.strip⟩ := by kernel_rfl
def A_corr_Size_L0 : CA := (.seq (.reg [i_X 0 12 (.h (.ibin .lss (.t 11) (.t 10)))] [1, 5, 9, 10, 11, 12]) (.seq (.cond (.t 12) .skip (.exit 0)) (.seq (.block 1 (.seq (.reg [i_M 0 13 11, i_X 1 14 (.h (.idx (.t 9) (.t 11) 1)), i_L 2 15 14 1, i_M 3 6 13, i_M 4 7 15] [1, 5, 6, 7, 9, 10, 11]) (.seq (.reg [i_M 0 16 7, i_X 1 17 (.callS 0 (.k (.d (.fn 63 [] []))) [(.t 16)]), i_M 2 18 1, i_M 3 19 6, i_X 4 20 (.h (.idx (.t 18) (.t 19) 1)), i_L 5 21 20 1, i_X 6 22 (.h (.fbin .div (.t 17) (.t 21))), i_M 7 8 22] [1, 5, 6, 8, 9, 10, 11]) (.seq (.seq (.reg [i_M 0 23 8, i_X 1 24 (.callA (.k (.d (.fn 70 [] []))) [(.t 23)])] [1, 5, 6, 8, 9, 10, 11, 24]) (.cond (.t 24) (.seq (.reg [i_X 0 25 (.callA (.k (.d (.fn 71 [] []))) [(.k (.d (.int .i64 1)))]), i_M 1 4 25] [4]) .ret) .skip)) (.seq (.reg [i_M 0 26 6, i_X 1 27 (.h (.ibin .eql (.t 26) (.k (.d (.int .i64 0))))), i_M 2 28 27, ⟨3, (some 29), (some (28, false)), [], [], (.h (.mov (.t 8)))⟩, ⟨4, (some 30), (some (28, false)), [], [], (.h (.mov (.t 5)))⟩, ⟨5, (some 31), (some (28, false)), [], [], (.h (.fcmp .gt (.t 29) (.t 30)))⟩, i_X 6 32 (.h (.pick (.t 28) (.k (.d (.bool true))) (.t 31)))] [1, 5, 8, 9, 10, 11, 32]) (.cond (.t 32) (.reg [i_M 0 33 8, i_M 1 5 33] [1, 5, 9, 10, 11]) .skip)))))) (.reg [i_X 0 34 (.h (.ibin .add (.t 11) (.k (.d (.int .i64 1))))), i_M 1 11 34] [1, 5, 9, 10, 11]))))
def A_corr_Size : CA := (.seq (.reg [i_X 0 4 (.h (.mov (.k (.d (.flt 0)))))] [0, 1]) (.seq (.reg [i_X 0 5 (.h (.mov (.k (.d (.flt 0)))))] [0, 1, 5]) (.seq (.seq (.reg [i_M 0 9 0, i_X 1 10 (.h (.len (.t 9))), i_X 2 11 (.h (.mov (.k (.d (.int .i64 0)))))] [1, 5, 9, 10, 11]) (.block 0 (.loop A_corr_Size_L0))) (.seq (.reg [i_M 0 35 5, i_M 1 4 35] [4]) .ret))))
theorem A_corr_Size_comp : compF Tryz.prog 37 = some ⟨36, [(4, none)], A_corr_Size.strip⟩ := by kernel_rfl
def A_r9_Size_L0 : CA := (.seq (.seq (.reg [i_M 0 8 6, i_M 1 9 0, i_X 2 10 (.h (.len (.t 9))), i_X 3 11 (.h (.ibin .lss (.t 8) (.t 10)))] [0, 1, 5, 6, 11]) (.cond (.t 11) .skip (.exit 0))) (.seq (.block 1 (.seq (.reg [i_M 0 14 0, i_M 1 15 6, i_X 2 16 (.h (.idx (.t 14) (.t 15) 1)), i_L 3 17 16 1, i_X 4 18 (.callS 0 (.k (.d (.fn 58 [] []))) [(.t 17)]), i_M 5 19 1, i_M 6 20 6, i_X 7 21 (.h (.idx (.t 19) (.t 20) 1)), i_L 8 22 21 1, i_X 9 23 (.h (.fbin .div (.t 18) (.t 22))), i_M 10 7 23] [0, 1, 5, 6, 7]) (.seq (.seq (.reg [i_M 0 24 7, i_M 1 25 7, i_X 2 26 (.h (.fcmp .ne (.t 24) (.t 25)))] [0, 1, 5, 6, 7, 26]) (.cond (.t 26) (.seq (.reg [i_X 0 27 (.callA (.k (.d (.fn 79 [] []))) []), i_M 1 4 27] [4]) .ret) .skip)) (.seq (.reg [i_M 0 28 6, i_X 1 29 (.h (.ibin .eql (.t 28) (.k (.d (.int .i64 0))))), i_M 2 30 29, ⟨3, (some 31), (some (30, false)), [], [], (.h (.mov (.t 7)))⟩, ⟨4, (some 32), (some (30, false)), [], [], (.h (.mov (.t 5)))⟩, ⟨5, (some 33), (some (30, false)), [], [], (.h (.fcmp .gt (.t 31) (.t 32)))⟩, i_X 6 34 (.h (.pick (.t 30) (.k (.d (.bool true))) (.t 33)))] [0, 1, 5, 6, 7, 34]) (.cond (.t 34) (.reg [i_M 0 35 7, i_M 1 5 35] [0, 1, 5, 6]) .skip))))) (.reg [i_M 0 12 6, i_X 1 13 (.h (.ibin .add (.t 12) (.k (.d (.int .i64 1))))), i_M 2 6 13] [0, 1, 5, 6])))
def A_r9_Size : CA := (.seq (.reg [i_X 0 4 (.h (.mov (.k (.d (.flt 0)))))] [0, 1]) (.seq (.reg [i_X 0 5 (.h (.mov (.k (.d (.flt 0)))))] [0, 1, 5]) (.seq (.seq (.reg [i_X 0 6 (.h (.mov (.k (.d (.int .i64 0)))))] [0, 1, 5, 6]) (.block 0 (.loop A_r9_Size_L0))) (.seq (.reg [i_M 0 36 5, i_M 1 4 36] [4]) .ret))))
theorem A_r9_Size_comp : compF Tryz.prog 45 = some ⟨37, [(4, none)], A_r9_Size.strip⟩ := by kernel_rfl
theorem math_normalize_con (x : Nat) (h : fcmp .lt (fabs x) 4503599627370496 = false) : Con Tryz.prog 124 [fl x] (.tup [fl x, fI 0]) := by
  refine Con_introA A_math_normalize_comp rfl mixed ?_
  simp -implicitDefEqProofs only [evI, hv, effC, reduceCtorEq, ↓reduceIte, n1_, n2_, n3_, n4_, n5_, i1_, i2_, i3_, i4_, i5_, i6_, i7_, A_math_normalize]
  first | refine callG_con (math_Abs_con x) rfl ?_ | refine callCG_con (math_Abs_con x) rfl ?_ | refine callSG_con (math_Abs_con x) rfl ?_
  simp -implicitDefEqProofs only [evI, hv, effC, reduceCtorEq, ↓reduceIte, n1_, n2_, n3_, n4_, n5_, i1_, i2_, i3_, i4_, i5_, i6_, i7_, h]
  refine endsT_ret rfl ⟨fl x, fI 0, ?_, ?_, rfl⟩
  · exact resV_tmpI (by decide) rfl
  · exact resV_tmpI (by decide) rfl
/-- A step's length. -/
def hW (step : Nat) : Nat := fop .div (FloatKind.nearest .f64 (step : Int)) (FloatKind.nearest .f64 1073741824)
/-- How far off each number may be. -/
def wtF (atol rtol x : Nat) : Nat := fop .add atol (fop .mul rtol (fabs x))
def wtP (y : List Nat) (atol rtol : Nat) : List Nat := tabR (fun i => wtF atol rtol (y.getD i 0)) y.length
theorem wtP_len (y : List Nat) (atol rtol : Nat) : (wtP y atol rtol).length = y.length := tabR_len _ _
/-- How great numbers are, by weights. -/
def szF (d w : List Nat) : Nat → Option Nat
  | 0 => some 0
  | i + 1 => (szF d w i).bind fun o =>
    if isNan (fop .div (fabs (d.getD i 0)) (w.getD i 0)) = true then none
    else some (if (i == 0 || fcmp .gt (fop .div (fabs (d.getD i 0)) (w.getD i 0)) o) = true then fop .div (fabs (d.getD i 0)) (w.getD i 0) else o)
def szP (d w : List Nat) : Nat := (szF d w d.length).getD finf
theorem szF_none (d w : List Nat) (i : Nat) (h : szF d w i = none) : ∀ m, szF d w (i + m) = none := by
  intro m
  induction m with
  | zero => exact h
  | succ m ih => show (szF d w (i + m)).bind _ = none; rw [ih]; rfl
set_option maxRecDepth 8000 in
theorem corr_Size_con (d w : List Nat) (h : w.length = d.length) (hd : d.length < 2 ^ 62) : Con Tryz.prog 37 [.d (rowD d), .d (rowD w)] (fl (szP d w)) := by
  refine Con_introA A_corr_Size_comp rfl mixed ?_
  simp -implicitDefEqProofs only [evI, hv, effC, reduceCtorEq, ↓reduceIte, n1_, n2_, n3_, n4_, n5_, i1_, i2_, i3_, i4_, i5_, i6_, i7_, A_corr_Size]
  refine WA_for (n := d.length) (fun c s => ∃ i o, c + i = d.length ∧ szF d w i = some o ∧ s = ⟨[(1, .d (rowD w)), (5, fl o), (9, .d (rowD d)), (10, fI d.length), (11, fI i)], []⟩) ⟨0, 0, by omega, rfl, rfl⟩ ?_
  rintro c s ⟨i, o, hc, ho, rfl⟩
  simp -implicitDefEqProofs only [evI, hv, effC, reduceCtorEq, ↓reduceIte, n1_, n2_, n3_, n4_, n5_, i1_, i2_, i3_, i4_, i5_, i6_, i7_, A_corr_Size_L0]
  refine condC_intro (fun h1 => ?_) (fun h1 => ?_)
  · replace h1 := of_decide_eq_true h1
    simp -implicitDefEqProofs only [evI, hv, effC, reduceCtorEq, ↓reduceIte, n1_, n2_, n3_, n4_, n5_, i1_, i2_, i3_, i4_, i5_, i6_, i7_]
    (repeat (with_reducible refine And.intro (by omega) ?_))
    first | refine callG_con (math_Abs_con (d.getD i 0)) rfl ?_ | refine callCG_con (math_Abs_con (d.getD i 0)) rfl ?_ | refine callSG_con (math_Abs_con (d.getD i 0)) rfl ?_
    simp -implicitDefEqProofs only [evI, hv, effC, reduceCtorEq, ↓reduceIte, n1_, n2_, n3_, n4_, n5_, i1_, i2_, i3_, i4_, i5_, i6_, i7_]
    (repeat (with_reducible refine And.intro (by omega) ?_))
    generalize hq : fop .div (fabs (d.getD i 0)) (w.getD i 0) = q
    first | refine callG_con (math_IsNaN_con q) rfl ?_ | refine callCG_con (math_IsNaN_con q) rfl ?_ | refine callSG_con (math_IsNaN_con q) rfl ?_
    simp -implicitDefEqProofs only [evI, hv, effC, reduceCtorEq, ↓reduceIte, n1_, n2_, n3_, n4_, n5_, i1_, i2_, i3_, i4_, i5_, i6_, i7_]
    have hnext : szF d w (i + 1) = if isNan q = true then none else some (if (i == 0 || fcmp .gt q o) = true then q else o) := by
      simp only [szF, ho, Option.bind_some, hq]
    cases hn : isNan q
    · rw [hn] at hnext
      simp only [Bool.false_eq_true, if_false] at hnext
      by_cases hi0 : i = 0
      · subst hi0
        simp -implicitDefEqProofs only [evI, hv, effC, reduceCtorEq, ↓reduceIte, n1_, n2_, n3_, n4_, n5_, i1_, i2_, i3_, i4_, i5_, i6_, i7_]
        rw [wrapI (by omega) (by omega)]
        exact ⟨c - 1, by omega, 1, q, by omega, by simpa using hnext, rfl⟩
      · have hib : ((i : Int) == 0) = false := by simp; omega
        have hin : (i == 0) = false := by simp; omega
        rw [hin, Bool.false_or] at hnext
        simp -implicitDefEqProofs only [evI, hv, effC, reduceCtorEq, ↓reduceIte, n1_, n2_, n3_, n4_, n5_, i1_, i2_, i3_, i4_, i5_, i6_, i7_, hib]
        cases hg : fcmp .gt q o
        · rw [hg] at hnext
          simp -implicitDefEqProofs only [evI, hv, effC, reduceCtorEq, ↓reduceIte, n1_, n2_, n3_, n4_, n5_, i1_, i2_, i3_, i4_, i5_, i6_, i7_]
          rw [wrapI (by omega) (by omega)]
          exact ⟨c - 1, by omega, i + 1, o, by omega, by simpa using hnext, rfl⟩
        · rw [hg] at hnext
          simp -implicitDefEqProofs only [evI, hv, effC, reduceCtorEq, ↓reduceIte, n1_, n2_, n3_, n4_, n5_, i1_, i2_, i3_, i4_, i5_, i6_, i7_]
          rw [wrapI (by omega) (by omega)]
          exact ⟨c - 1, by omega, i + 1, q, by omega, by simpa using hnext, rfl⟩
    · rw [hn] at hnext
      have hz : szP d w = finf := by
        have := szF_none d w (i + 1) (by simpa using hnext) (d.length - (i + 1))
        rw [show i + 1 + (d.length - (i + 1)) = d.length from by omega] at this
        unfold szP; rw [this]; rfl
      rw [hz]
      simp -implicitDefEqProofs only [evI, hv, effC, reduceCtorEq, ↓reduceIte, n1_, n2_, n3_, n4_, n5_, i1_, i2_, i3_, i4_, i5_, i6_, i7_]
      first | refine callG_con (math_Inf_pos) rfl ?_ | refine callCG_con (math_Inf_pos) rfl ?_ | refine callSG_con (math_Inf_pos) rfl ?_
      simp -implicitDefEqProofs only [evI, hv, effC, reduceCtorEq, ↓reduceIte, n1_, n2_, n3_, n4_, n5_, i1_, i2_, i3_, i4_, i5_, i6_, i7_]
      exact endsT_rett rfl (by decide) (by simp [look])
  · replace h1 := of_decide_eq_false h1
    have e : i = d.length := by omega
    have hz : szP d w = o := by unfold szP; rw [← e, ho]; rfl
    rw [hz]
    simp -implicitDefEqProofs only [evI, hv, effC, reduceCtorEq, ↓reduceIte, n1_, n2_, n3_, n4_, n5_, i1_, i2_, i3_, i4_, i5_, i6_, i7_]
    exact endsT_rett rfl (by decide) (by simp [look])
set_option maxRecDepth 8000 in
theorem corr_Weights_ac (y : List Nat) (atol rtol : Nat) (hy : y.length < 2 ^ 40) : AC Tryz.prog 35 [.d (rowD y), fl atol, fl rtol] [] [(2, [rowV (wtP y atol rtol)])] (.sl 2 0 0 y.length 1 y.length) := by
  refine AC_introA A_corr_Weights_comp rfl mixed (fun _ => False) (by simp [get_nil]) ?_
  simp -implicitDefEqProofs only [evI, hv, effC, reduceCtorEq, ↓reduceIte, n1_, n2_, n3_, n4_, n5_, i1_, i2_, i3_, i4_, i5_, i6_, i7_, A_corr_Weights]
  (repeat (with_reducible refine And.intro (by omega) ?_))
  rw [← fillR_zero (fun i => wtF atol rtol (y.getD i 0))]
  refine WA_for (n := y.length) (fun c s => ∃ i, c + i = y.length ∧ s = ⟨[(1, fl atol), (2, fl rtol), (7, .sl 2 0 0 y.length 1 y.length), (13, .d (rowD y)), (14, fI y.length), (15, fI i)], [(2, [rowV (fillR (fun i => wtF atol rtol (y.getD i 0)) y.length i)])]⟩) ⟨0, by omega, rfl⟩ ?_
  rintro c s ⟨i, hc, rfl⟩
  have hl := fillR_len (fun i => wtF atol rtol (y.getD i 0)) y.length i
  simp -implicitDefEqProofs only [evI, hv, effC, reduceCtorEq, ↓reduceIte, n1_, n2_, n3_, n4_, n5_, i1_, i2_, i3_, i4_, i5_, i6_, i7_, A_corr_Weights_L0]
  refine condC_intro (fun h => ?_) (fun h => ?_)
  · replace h := of_decide_eq_true h
    have hs := fillR_set (fun i => wtF atol rtol (y.getD i 0)) y.length i h
    generalize fillR (fun i => wtF atol rtol (y.getD i 0)) y.length i = x at hl hs
    simp -implicitDefEqProofs only [evI, hv, effC, reduceCtorEq, ↓reduceIte, n1_, n2_, n3_, n4_, n5_, i1_, i2_, i3_, i4_, i5_, i6_, i7_]
    (repeat (with_reducible refine And.intro (by omega) ?_))
    first | refine callG_con (math_Abs_con (y.getD i 0)) rfl ?_ | refine callCG_con (math_Abs_con (y.getD i 0)) rfl ?_ | refine callSG_con (math_Abs_con (y.getD i 0)) rfl ?_
    simp -implicitDefEqProofs only [evI, hv, effC, reduceCtorEq, ↓reduceIte, n1_, n2_, n3_, n4_, n5_, i1_, i2_, i3_, i4_, i5_, i6_, i7_]
    (repeat (with_reducible refine And.intro (by omega) ?_))
    rw [wrapI (by omega) (by omega)]
    refine ⟨c - 1, by omega, i + 1, by omega, ?_⟩
    rw [← hs]; rfl
  · replace h := of_decide_eq_false h
    have e : i = y.length := by omega
    subst e
    rw [fillR_all]
    simp -implicitDefEqProofs only [evI, hv, effC, reduceCtorEq, ↓reduceIte, n1_, n2_, n3_, n4_, n5_, i1_, i2_, i3_, i4_, i5_, i6_, i7_]
    exact endsT_row (fun _ h => h) (resV_tmpI (t := 6) (by decide) rfl) rfl
theorem corr_Weights_con (y : List Nat) (atol rtol : Nat) (hy : y.length < 2 ^ 40) : Con Tryz.prog 35 [.d (rowD y), fl atol, fl rtol] (.d (rowD (wtP y atol rtol))) :=
  Con_of_row (corr_Weights_ac y atol rtol hy) (wtP_len _ _ _)
set_option maxRecDepth 8000 in
theorem r9_Weights_ac (y : List Nat) (atol rtol : Nat) (hy : y.length < 2 ^ 40) : AC Tryz.prog 27 [.d (rowD y), fl atol, fl rtol] [] [(100, [rowV (wtP y atol rtol)])] (.sl 100 0 0 y.length 1 y.length) := by
  refine AC_introA A_r9_Weights_comp rfl mixed (fun _ => False) (by simp [get_nil]) ?_
  simp -implicitDefEqProofs only [evI, hv, effC, reduceCtorEq, ↓reduceIte, n1_, n2_, n3_, n4_, n5_, i1_, i2_, i3_, i4_, i5_, i6_, i7_, A_r9_Weights]
  refine WA_forW (n := y.length) (fun c s => ∃ i, c + i = y.length ∧ s = ⟨[(0, .d (rowD y)), (1, fl atol), (2, fl rtol), (7, .sl 100 0 0 i 1 i), (8, fI i)], [(100, [rowV (tabR (fun i => wtF atol rtol (y.getD i 0)) i)])]⟩)
    (s0 := ⟨_, _⟩) (LeT.nilrow (X := 100) (esz := 1) (as' := [(0, .d (rowD y)), (1, fl atol), (2, fl rtol), (7, .sl 100 0 0 0 1 0), (8, fI 0)]) rfl (fun h => h) fun i => ?_) ⟨0, by omega, rfl⟩ ?_
  · simp only [look]
    repeat' split
    all_goals simp [rowD]
  rintro c s ⟨i, hc, rfl⟩
  have hl := tabR_len (fun i => wtF atol rtol (y.getD i 0)) i
  simp -implicitDefEqProofs only [evI, hv, effC, reduceCtorEq, ↓reduceIte, n1_, n2_, n3_, n4_, n5_, i1_, i2_, i3_, i4_, i5_, i6_, i7_, A_r9_Weights_L0]
  refine condC_intro (fun h => ?_) (fun h => ?_)
  · replace h := of_decide_eq_true h
    simp -implicitDefEqProofs only [evI, hv, effC, reduceCtorEq, ↓reduceIte, n1_, n2_, n3_, n4_, n5_, i1_, i2_, i3_, i4_, i5_, i6_, i7_]
    (repeat (with_reducible refine And.intro (by omega) ?_))
    first | refine callG_con (r1_Abs_con (y.getD i 0)) rfl ?_ | refine callCG_con (r1_Abs_con (y.getD i 0)) rfl ?_ | refine callSG_con (r1_Abs_con (y.getD i 0)) rfl ?_
    simp -implicitDefEqProofs only [evI, hv, effC, reduceCtorEq, ↓reduceIte, n1_, n2_, n3_, n4_, n5_, i1_, i2_, i3_, i4_, i5_, i6_, i7_]
    (repeat (with_reducible refine And.intro (by omega) ?_))
    rw [wrapI (by omega) (by omega)]
    have e := tabR_succ (fun i => wtF atol rtol (y.getD i 0)) i
    have e2 : V.d (.flt (fop .add atol (fop .mul rtol (fabs (y.getD i 0))))) = fl (wtF atol rtol (y.getD i 0)) := rfl
    rw [e2, ← e]
    refine ⟨c - 1, _, by omega, LeT.dropRow (fun _ h => h) (by decide) (fun p hp => ?_), i + 1, by omega, rfl⟩
    simp only [List.mem_cons, List.not_mem_nil, or_false] at hp
    rcases hp with rfl | rfl | rfl | rfl | rfl
    all_goals first | exact .d (.d _) | exact .sl (by simp [get_cons]) rfl
  · replace h := of_decide_eq_false h
    have e : i = y.length := by omega
    subst e
    simp -implicitDefEqProofs only [evI, hv, effC, reduceCtorEq, ↓reduceIte, n1_, n2_, n3_, n4_, n5_, i1_, i2_, i3_, i4_, i5_, i6_, i7_]
    exact endsT_row (fun _ h => h) (resV_tmpI (t := 6) (by decide) rfl) rfl
theorem r9_Weights_con (y : List Nat) (atol rtol : Nat) (hy : y.length < 2 ^ 40) : Con Tryz.prog 27 [.d (rowD y), fl atol, fl rtol] (.d (rowD (wtP y atol rtol))) :=
  Con_of_row (r9_Weights_ac y atol rtol hy) (wtP_len _ _ _)
set_option maxRecDepth 8000 in
theorem r9_Size_con (d w : List Nat) (h : w.length = d.length) (hd : d.length < 2 ^ 62) : Con Tryz.prog 45 [.d (rowD d), .d (rowD w)] (fl (szP d w)) := by
  refine Con_introA A_r9_Size_comp rfl mixed ?_
  simp -implicitDefEqProofs only [evI, hv, effC, reduceCtorEq, ↓reduceIte, n1_, n2_, n3_, n4_, n5_, i1_, i2_, i3_, i4_, i5_, i6_, i7_, A_r9_Size]
  refine WA_for (n := d.length) (fun c s => ∃ i o, c + i = d.length ∧ szF d w i = some o ∧ s = ⟨[(0, .d (rowD d)), (1, .d (rowD w)), (5, fl o), (6, fI i)], []⟩) ⟨0, 0, by omega, rfl, rfl⟩ ?_
  rintro c s ⟨i, o, hc, ho, rfl⟩
  simp -implicitDefEqProofs only [evI, hv, effC, reduceCtorEq, ↓reduceIte, n1_, n2_, n3_, n4_, n5_, i1_, i2_, i3_, i4_, i5_, i6_, i7_, A_r9_Size_L0]
  refine condC_intro (fun h1 => ?_) (fun h1 => ?_)
  · replace h1 := of_decide_eq_true h1
    simp -implicitDefEqProofs only [evI, hv, effC, reduceCtorEq, ↓reduceIte, n1_, n2_, n3_, n4_, n5_, i1_, i2_, i3_, i4_, i5_, i6_, i7_]
    (repeat (with_reducible refine And.intro (by omega) ?_))
    first | refine callG_con (r1_Abs_con (d.getD i 0)) rfl ?_ | refine callCG_con (r1_Abs_con (d.getD i 0)) rfl ?_ | refine callSG_con (r1_Abs_con (d.getD i 0)) rfl ?_
    simp -implicitDefEqProofs only [evI, hv, effC, reduceCtorEq, ↓reduceIte, n1_, n2_, n3_, n4_, n5_, i1_, i2_, i3_, i4_, i5_, i6_, i7_]
    (repeat (with_reducible refine And.intro (by omega) ?_))
    generalize hq : fop .div (fabs (d.getD i 0)) (w.getD i 0) = q
    simp -implicitDefEqProofs only [evI, hv, effC, reduceCtorEq, ↓reduceIte, n1_, n2_, n3_, n4_, n5_, i1_, i2_, i3_, i4_, i5_, i6_, i7_, fcmp_ne_self]
    have hnext : szF d w (i + 1) = if isNan q = true then none else some (if (i == 0 || fcmp .gt q o) = true then q else o) := by
      simp only [szF, ho, Option.bind_some, hq]
    cases hn : isNan q
    · rw [hn] at hnext
      simp only [Bool.false_eq_true, if_false] at hnext
      by_cases hi0 : i = 0
      · subst hi0
        simp -implicitDefEqProofs only [evI, hv, effC, reduceCtorEq, ↓reduceIte, n1_, n2_, n3_, n4_, n5_, i1_, i2_, i3_, i4_, i5_, i6_, i7_]
        rw [wrapI (by omega) (by omega)]
        exact ⟨c - 1, by omega, 1, q, by omega, by simpa using hnext, rfl⟩
      · have hib : ((i : Int) == 0) = false := by simp; omega
        have hin : (i == 0) = false := by simp; omega
        rw [hin, Bool.false_or] at hnext
        simp -implicitDefEqProofs only [evI, hv, effC, reduceCtorEq, ↓reduceIte, n1_, n2_, n3_, n4_, n5_, i1_, i2_, i3_, i4_, i5_, i6_, i7_, hib]
        cases hg : fcmp .gt q o
        · rw [hg] at hnext
          simp -implicitDefEqProofs only [evI, hv, effC, reduceCtorEq, ↓reduceIte, n1_, n2_, n3_, n4_, n5_, i1_, i2_, i3_, i4_, i5_, i6_, i7_]
          rw [wrapI (by omega) (by omega)]
          exact ⟨c - 1, by omega, i + 1, o, by omega, by simpa using hnext, rfl⟩
        · rw [hg] at hnext
          simp -implicitDefEqProofs only [evI, hv, effC, reduceCtorEq, ↓reduceIte, n1_, n2_, n3_, n4_, n5_, i1_, i2_, i3_, i4_, i5_, i6_, i7_]
          rw [wrapI (by omega) (by omega)]
          exact ⟨c - 1, by omega, i + 1, q, by omega, by simpa using hnext, rfl⟩
    · rw [hn] at hnext
      have hz : szP d w = finf := by
        have := szF_none d w (i + 1) (by simpa using hnext) (d.length - (i + 1))
        rw [show i + 1 + (d.length - (i + 1)) = d.length from by omega] at this
        unfold szP; rw [this]; rfl
      rw [hz]
      simp -implicitDefEqProofs only [evI, hv, effC, reduceCtorEq, ↓reduceIte, n1_, n2_, n3_, n4_, n5_, i1_, i2_, i3_, i4_, i5_, i6_, i7_]
      first | refine callG_con (r1_Inf_con) rfl ?_ | refine callCG_con (r1_Inf_con) rfl ?_ | refine callSG_con (r1_Inf_con) rfl ?_
      simp -implicitDefEqProofs only [evI, hv, effC, reduceCtorEq, ↓reduceIte, n1_, n2_, n3_, n4_, n5_, i1_, i2_, i3_, i4_, i5_, i6_, i7_]
      exact endsT_rett rfl (by decide) (by simp [look])
  · replace h1 := of_decide_eq_false h1
    have e : i = d.length := by omega
    have hz : szP d w = o := by unfold szP; rw [← e, ho]; rfl
    rw [hz]
    simp -implicitDefEqProofs only [evI, hv, effC, reduceCtorEq, ↓reduceIte, n1_, n2_, n3_, n4_, n5_, i1_, i2_, i3_, i4_, i5_, i6_, i7_]
    exact endsT_rett rfl (by decide) (by simp [look])
end Go.Ab

namespace Go.Ab
set_option linter.unusedSimpArgs false
set_option linter.unusedVariables false
open Nat renaming reduceEqDiff → n1_, reduceAdd → n2_, reduceMul → n3_, reduceLT → n4_, reduceLeDiff → n5_
open Int renaming reduceToNat → i1_, reduceAdd → i2_, reduceSub → i3_, reduceMul → i4_, reduceNeg → i5_, reduceLT → i6_, reduceLE → i7_
open Go Go.Proofs
theorem and2047 (a : Int) : 0 ≤ bitsOp .and .i64 a 2047 ∧ bitsOp .and .i64 a 2047 ≤ 2047 := by
  unfold bitsOp
  simp only
  have h : (BitVec.ofInt IntKind.i64.bits a &&& BitVec.ofInt IntKind.i64.bits 2047).toNat ≤ 2047 := by
    rw [BitVec.toNat_and]
    exact Nat.le_trans Nat.and_le_right (by decide)
  rw [wrapI (by omega) (by omega)]
  omega
theorem sub_up {x : Nat} (hx : fin x) (h : fcmp .lt (fabs x) 4503599627370496 = true) : fin (fop .mul x 4841369599423283200) := by
  have r1 : Ieee.double.read 4503599627370496 = .number false 4503599627370496 (-1074) := by decide +kernel
  have r2 : Ieee.double.read 4841369599423283200 = .number false 4503599627370496 0 := by decide +kernel
  obtain ⟨f1, v1⟩ := val_fabs hx
  rw [fcmp_lt f1 ⟨_, _, _, r1⟩, val_eq r1, v1] at h
  refine (fop_mul hx ⟨_, _, _, r2⟩ ?_).fin
  rw [val_eq r2, rabs_mul]
  have h1 : (4503599627370496 : Rat) * pw (-1074) ≤ 1 := by decide +kernel
  have h2 : rabs (val x) ≤ 1 := by simp at h; grind
  have h3 : rabs ((if false = true then -((4503599627370496 : Nat) : Rat) else ((4503599627370496 : Nat) : Rat)) * pw 0) = 4503599627370496 := by
    rw [pw_zero]; decide +kernel
  rw [h3]
  have h4 : (4503599627370496 : Rat) ≤ big := by
    have a1 : (4503599627370496 : Rat) ≤ pw 60 := by decide +kernel
    have a2 : pw 60 ≤ big := pw_mono (by decide)
    grind
  grind
/-- A number that is as great as it should be, and its place. -/
def nrmF (x : Nat) : Nat := if fcmp .lt (fabs x) 4503599627370496 = true then fop .mul x 4841369599423283200 else x
def nrmE (x : Nat) : Int := if fcmp .lt (fabs x) 4503599627370496 = true then -52 else 0
theorem math_normalize_all (x : Nat) : Con Tryz.prog 124 [fl x] (.tup [fl (nrmF x), fI (nrmE x)]) := by
  refine Con_introA A_math_normalize_comp rfl mixed ?_
  simp -implicitDefEqProofs only [evI, hv, effC, reduceCtorEq, ↓reduceIte, n1_, n2_, n3_, n4_, n5_, i1_, i2_, i3_, i4_, i5_, i6_, i7_, A_math_normalize]
  first | refine callG_con (math_Abs_con x) rfl ?_ | refine callCG_con (math_Abs_con x) rfl ?_ | refine callSG_con (math_Abs_con x) rfl ?_
  simp -implicitDefEqProofs only [evI, hv, effC, reduceCtorEq, ↓reduceIte, n1_, n2_, n3_, n4_, n5_, i1_, i2_, i3_, i4_, i5_, i6_, i7_]
  unfold nrmF nrmE
  refine condC_intro (fun h => ?_) (fun h => ?_)
  · rw [if_pos h, if_pos h]
    simp -implicitDefEqProofs only [evI, hv, effC, reduceCtorEq, ↓reduceIte, n1_, n2_, n3_, n4_, n5_, i1_, i2_, i3_, i4_, i5_, i6_, i7_]
    refine endsT_ret rfl ⟨_, _, ?_, ?_, rfl⟩
    · exact resV_tmpI (by decide) rfl
    · exact resV_tmpI (by decide) rfl
  · rw [if_neg (by simp [h]), if_neg (by simp [h])]
    simp -implicitDefEqProofs only [evI, hv, effC, reduceCtorEq, ↓reduceIte, n1_, n2_, n3_, n4_, n5_, i1_, i2_, i3_, i4_, i5_, i6_, i7_]
    refine endsT_ret rfl ⟨_, _, ?_, ?_, rfl⟩
    · exact resV_tmpI (by decide) rfl
    · exact resV_tmpI (by decide) rfl
def exF (f : Nat) : Int := bitsOp .and .i64 (IntKind.i64.wrap ((f : Int).fdiv (2 ^ 52))) 2047 - 1023
def layW (f : Nat) (e : Int) : Nat := cf (bitsOp .or .u64 (bitsOp .andNot .u64 f 9218868437227405312) (IntKind.u64.wrap (IntKind.u64.wrap (e + 1023) * 2 ^ 52))).toNat
/-- x times 2 to the k. -/
def scl (x : Nat) (k : Int) : Nat :=
  if fcmp .eq x 0 = true then x else if finite x = false then x else
  let f := nrmF x
  let e := k + nrmE x + exF f
  if e < -1075 then csign 0 f else if 1023 < e then (if fcmp .lt f 0 = true then fninf else finf) else
  if e < -1022 then fop .mul 4368491638549381120 (layW f (e + 53)) else fop .mul 4607182418800017408 (layW f e)
theorem nrm_fin {x : Nat} (hx : fin x) : fin (nrmF x) := by
  unfold nrmF; split
  · rename_i h; exact sub_up hx h
  · exact hx
set_option maxRecDepth 8000 in
theorem math_ldexp_all (x : Nat) (k : Int) (hk : -1000000 < k ∧ k < 1000000) : Con Tryz.prog 113 [fl x, fI k] (fl (scl x k)) := by
  refine Con_introA A_math_ldexp_comp rfl mixed ?_
  simp -implicitDefEqProofs only [evI, hv, effC, reduceCtorEq, ↓reduceIte, n1_, n2_, n3_, n4_, n5_, i1_, i2_, i3_, i4_, i5_, i6_, i7_, A_math_ldexp]
  unfold scl
  refine condC_intro (fun h1 => ?_) (fun h1 => ?_)
  · rw [if_pos h1]
    simp -implicitDefEqProofs only [evI, hv, effC, reduceCtorEq, ↓reduceIte, n1_, n2_, n3_, n4_, n5_, i1_, i2_, i3_, i4_, i5_, i6_, i7_]
    exact endsT_rett rfl (by decide) (by simp [look])
  · rw [if_neg (by simp [h1])]
    simp -implicitDefEqProofs only [evI, hv, effC, reduceCtorEq, ↓reduceIte, n1_, n2_, n3_, n4_, n5_, i1_, i2_, i3_, i4_, i5_, i6_, i7_]
    first | refine callG_con (math_IsInf_con x) rfl ?_ | refine callCG_con (math_IsInf_con x) rfl ?_ | refine callSG_con (math_IsInf_con x) rfl ?_
    simp -implicitDefEqProofs only [evI, hv, effC, reduceCtorEq, ↓reduceIte, n1_, n2_, n3_, n4_, n5_, i1_, i2_, i3_, i4_, i5_, i6_, i7_]
    have hfi : finite x = (!isNan x && !isInf x) := rfl
    cases hi : isInf x with
    | true =>
      rw [if_pos (by rw [hfi, hi]; simp)]
      simp -implicitDefEqProofs only [evI, hv, effC, reduceCtorEq, ↓reduceIte, n1_, n2_, n3_, n4_, n5_, i1_, i2_, i3_, i4_, i5_, i6_, i7_]
      exact endsT_rett rfl (by decide) (by simp [look])
    | false =>
      simp -implicitDefEqProofs only [evI, hv, effC, reduceCtorEq, ↓reduceIte, n1_, n2_, n3_, n4_, n5_, i1_, i2_, i3_, i4_, i5_, i6_, i7_]
      first | refine callG_con (math_IsNaN_con x) rfl ?_ | refine callCG_con (math_IsNaN_con x) rfl ?_ | refine callSG_con (math_IsNaN_con x) rfl ?_
      simp -implicitDefEqProofs only [evI, hv, effC, reduceCtorEq, ↓reduceIte, n1_, n2_, n3_, n4_, n5_, i1_, i2_, i3_, i4_, i5_, i6_, i7_]
      cases hn : isNan x with
      | true =>
        rw [if_pos (by rw [hfi, hn]; simp)]
        simp -implicitDefEqProofs only [evI, hv, effC, reduceCtorEq, ↓reduceIte, n1_, n2_, n3_, n4_, n5_, i1_, i2_, i3_, i4_, i5_, i6_, i7_]
        exact endsT_rett rfl (by decide) (by simp [look])
      | false =>
        have hx : fin x := finite_fin (by rw [hfi, hi, hn]; rfl)
        rw [if_neg (by rw [hfi, hi, hn]; simp)]
        simp -implicitDefEqProofs only [evI, hv, effC, reduceCtorEq, ↓reduceIte, n1_, n2_, n3_, n4_, n5_, i1_, i2_, i3_, i4_, i5_, i6_, i7_]
        first | refine callG_con (math_normalize_all x) rfl ?_ | refine callCG_con (math_normalize_all x) rfl ?_ | refine callSG_con (math_normalize_all x) rfl ?_
        simp -implicitDefEqProofs only [evI, hv, effC, reduceCtorEq, ↓reduceIte, n1_, n2_, n3_, n4_, n5_, i1_, i2_, i3_, i4_, i5_, i6_, i7_]
        have hf := nrm_fin hx
        have hE : nrmE x = -52 ∨ nrmE x = 0 := by unfold nrmE; split <;> simp
        generalize nrmF x = f at hf
        generalize nrmE x = e0 at hE
        have hfn := fin_not_nan hf
        refine ⟨hfn, ?_⟩
        have h2 := and2047 (IntKind.i64.wrap ((f : Int).fdiv (2 ^ 52)))
        have w1 : IntKind.i64.wrap (k + e0) = k + e0 := wrapI (by omega) (by omega)
        simp only [show Int.toNat 52 = 52 from rfl, show min 52 IntKind.u64.bits = 52 from rfl, w1]
        have w2 : IntKind.i64.wrap (k + e0 + IntKind.i64.wrap (bitsOp .and .i64 (IntKind.i64.wrap ((f : Int).fdiv (2 ^ 52))) 2047 - 1023)) = k + e0 + exF f := by
          unfold exF
          rw [wrapI (a := bitsOp .and .i64 (IntKind.i64.wrap ((f : Int).fdiv (2 ^ 52))) 2047 - 1023) (by omega) (by omega)]
          exact wrapI (by omega) (by omega)
        rw [w2]
        have he : -1023 ≤ exF f ∧ exF f ≤ 1024 := by unfold exF; omega
        have hlay : ∀ e : Int, layW f e = cf (bitsOp .or .u64 (bitsOp .andNot .u64 f 9218868437227405312) (IntKind.u64.wrap (IntKind.u64.wrap (e + 1023) * 2 ^ 52))).toNat := fun _ => rfl
        generalize exF f = ex at he
        generalize hEE : k + e0 + ex = e
        refine condC_intro (fun h3 => ?_) (fun h3 => ?_)
        · replace h3 := of_decide_eq_true h3
          rw [if_pos h3]
          simp -implicitDefEqProofs only [evI, hv, effC, reduceCtorEq, ↓reduceIte, n1_, n2_, n3_, n4_, n5_, i1_, i2_, i3_, i4_, i5_, i6_, i7_]
          first | refine callG_con (math_Copysign_con 0 f (by decide) hfn) rfl ?_ | refine callCG_con (math_Copysign_con 0 f (by decide) hfn) rfl ?_ | refine callSG_con (math_Copysign_con 0 f (by decide) hfn) rfl ?_
          simp -implicitDefEqProofs only [evI, hv, effC, reduceCtorEq, ↓reduceIte, n1_, n2_, n3_, n4_, n5_, i1_, i2_, i3_, i4_, i5_, i6_, i7_]
          exact endsT_rett rfl (by decide) (by simp [look])
        · replace h3 := of_decide_eq_false h3
          rw [if_neg h3]
          simp -implicitDefEqProofs only [evI, hv, effC, reduceCtorEq, ↓reduceIte, n1_, n2_, n3_, n4_, n5_, i1_, i2_, i3_, i4_, i5_, i6_, i7_]
          refine condC_intro (fun h4 => ?_) (fun h4 => ?_)
          · replace h4 := of_decide_eq_true h4
            rw [if_pos (by omega)]
            simp -implicitDefEqProofs only [evI, hv, effC, reduceCtorEq, ↓reduceIte, n1_, n2_, n3_, n4_, n5_, i1_, i2_, i3_, i4_, i5_, i6_, i7_]
            refine condC_intro (fun h5 => ?_) (fun h5 => ?_)
            · rw [if_pos h5]
              simp -implicitDefEqProofs only [evI, hv, effC, reduceCtorEq, ↓reduceIte, n1_, n2_, n3_, n4_, n5_, i1_, i2_, i3_, i4_, i5_, i6_, i7_]
              first | refine callG_con (math_Inf_neg) rfl ?_ | refine callCG_con (math_Inf_neg) rfl ?_ | refine callSG_con (math_Inf_neg) rfl ?_
              simp -implicitDefEqProofs only [evI, hv, effC, reduceCtorEq, ↓reduceIte, n1_, n2_, n3_, n4_, n5_, i1_, i2_, i3_, i4_, i5_, i6_, i7_]
              exact endsT_rett rfl (by decide) (by simp [look])
            · rw [if_neg (by simp [h5])]
              simp -implicitDefEqProofs only [evI, hv, effC, reduceCtorEq, ↓reduceIte, n1_, n2_, n3_, n4_, n5_, i1_, i2_, i3_, i4_, i5_, i6_, i7_]
              first | refine callG_con (math_Inf_pos) rfl ?_ | refine callCG_con (math_Inf_pos) rfl ?_ | refine callSG_con (math_Inf_pos) rfl ?_
              simp -implicitDefEqProofs only [evI, hv, effC, reduceCtorEq, ↓reduceIte, n1_, n2_, n3_, n4_, n5_, i1_, i2_, i3_, i4_, i5_, i6_, i7_]
              exact endsT_rett rfl (by decide) (by simp [look])
          · replace h4 := of_decide_eq_false h4
            rw [if_neg (by omega)]
            simp -implicitDefEqProofs only [evI, hv, effC, reduceCtorEq, ↓reduceIte, n1_, n2_, n3_, n4_, n5_, i1_, i2_, i3_, i4_, i5_, i6_, i7_]
            refine condC_intro (fun h5 => ?_) (fun h5 => ?_)
            · replace h5 := of_decide_eq_true h5
              rw [if_pos (by omega)]
              have w3 : IntKind.i64.wrap (e + 53) = e + 53 := wrapI (by omega) (by omega)
              have w4 : IntKind.i64.wrap (e + 53 + 1023) = e + 53 + 1023 := wrapI (by omega) (by omega)
              simp -implicitDefEqProofs only [evI, hv, effC, reduceCtorEq, ↓reduceIte, n1_, n2_, n3_, n4_, n5_, i1_, i2_, i3_, i4_, i5_, i6_, i7_, w3, w4, show min (Int.toNat 52) IntKind.u64.bits = 52 from rfl]
              refine ⟨bitsOp_u64 _ _ _, endsT_rett rfl (by decide) ?_⟩
              rw [hlay]
              rfl
            · replace h5 := of_decide_eq_false h5
              rw [if_neg (by omega)]
              have w4 : IntKind.i64.wrap (e + 1023) = e + 1023 := wrapI (by omega) (by omega)
              simp -implicitDefEqProofs only [evI, hv, effC, reduceCtorEq, ↓reduceIte, n1_, n2_, n3_, n4_, n5_, i1_, i2_, i3_, i4_, i5_, i6_, i7_, w4, show min (Int.toNat 52) IntKind.u64.bits = 52 from rfl]
              refine ⟨bitsOp_u64 _ _ _, endsT_rett rfl (by decide) ?_⟩
              rw [hlay]
              rfl
theorem math_Ldexp_all (x : Nat) (k : Int) (hk : -1000000 < k ∧ k < 1000000) : Con Tryz.prog 91 [fl x, fI k] (fl (scl x k)) := by
  refine Con_introA A_math_Ldexp_comp rfl mixed ?_
  simp -implicitDefEqProofs only [evI, hv, effC, reduceCtorEq, ↓reduceIte, n1_, n2_, n3_, n4_, n5_, i1_, i2_, i3_, i4_, i5_, i6_, i7_, A_math_Ldexp]
  first | refine callG_con (math_ldexp_all x k hk) rfl ?_ | refine callCG_con (math_ldexp_all x k hk) rfl ?_ | refine callSG_con (math_ldexp_all x k hk) rfl ?_
  simp -implicitDefEqProofs only [evI, hv, effC, reduceCtorEq, ↓reduceIte, n1_, n2_, n3_, n4_, n5_, i1_, i2_, i3_, i4_, i5_, i6_, i7_]
  exact endsT_rett rfl (by decide) (by simp [look])
theorem fp_Scale_all (x : Nat) (k : Int) (hk : -1000000 < k ∧ k < 1000000) : Con Tryz.prog 64 [fl x, fI k] (fl (scl x k)) := by
  refine Con_introA A_fp_Scale_comp rfl mixed ?_
  simp -implicitDefEqProofs only [evI, hv, effC, reduceCtorEq, ↓reduceIte, n1_, n2_, n3_, n4_, n5_, i1_, i2_, i3_, i4_, i5_, i6_, i7_, A_fp_Scale]
  first | refine callG_con (math_Ldexp_all x k hk) rfl ?_ | refine callCG_con (math_Ldexp_all x k hk) rfl ?_ | refine callSG_con (math_Ldexp_all x k hk) rfl ?_
  simp -implicitDefEqProofs only [evI, hv, effC, reduceCtorEq, ↓reduceIte, n1_, n2_, n3_, n4_, n5_, i1_, i2_, i3_, i4_, i5_, i6_, i7_]
  exact endsT_rett rfl (by decide) (by simp [look])
end Go.Ab
