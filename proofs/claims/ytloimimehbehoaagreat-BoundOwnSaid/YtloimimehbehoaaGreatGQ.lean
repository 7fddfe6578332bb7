/- Part 17: BK, BL, BM, BO, BN. -/
import Derived.Test.YtloimimehbehoaaGreatGP
namespace Go.Ab
set_option linter.unusedSimpArgs false
set_option linter.unusedVariables false
open Nat renaming reduceEqDiff → n1_, reduceAdd → n2_, reduceMul → n3_, reduceLT → n4_, reduceLeDiff → n5_
open Int renaming reduceToNat → i1_, reduceAdd → i2_, reduceSub → i3_, reduceMul → i4_, reduceNeg → i5_, reduceLT → i6_, reduceLE → i7_
open Go Go.Proofs
def A_jac_Norm_L0 : CA := (.seq (.reg [i_N 0 12 .lss 11 10] [3, 4, 10, 11, 12]) (.seq (.cond (.t 12) .skip (.exit 0)) (.seq (.block 1 (.seq (.reg [i_M 0 13 11, i_M 1 5 13] [3, 4, 5, 10, 11]) (.seq (.reg [i_M 0 14 3, i_M 1 15 5, i_X 2 16 (.callA (.t 14) [(.t 15)]), i_M 3 6 16] [3, 4, 5, 6, 10, 11]) (.seq (.seq (.reg [i_M 0 17 6, i_X 1 18 (.callA (kF 88) [(.t 17)])] [3, 4, 5, 6, 10, 11, 18]) (.cond (.t 18) (.seq (.reg [i_X 0 19 (.callA (kF 91) [(kI 1)]), i_M 1 2 19] [2]) .ret) .skip)) (.seq (.reg [i_M 0 20 5, i_B 1 21 .eql 20 0, i_M 2 22 21, ⟨3, (some 23), (some (22, false)), [], [], (.h (.mov (.t 6)))⟩, ⟨4, (some 24), (some (22, false)), [], [], (.h (.mov (.t 4)))⟩, ⟨5, (some 25), (some (22, false)), [], [], (.h (.fcmp .gt (.t 23) (.t 24)))⟩, i_X 6 26 (.h (.pick (.t 22) (.k (.d (.bool true))) (.t 25)))] [3, 4, 6, 10, 11, 26]) (.cond (.t 26) (.reg [i_M 0 27 6, i_M 1 4 27] [3, 4, 10, 11]) .skip)))))) (.reg [i_B 0 28 .add 11 1, i_M 1 11 28] [3, 4, 10, 11]))))
def A_jac_Norm : CA := (.seq (.reg [i_X 0 1 (.box (.t 0) 1 95), i_X 1 2 (.h (.mov (.k (.d (.flt 0)))))] [1]) (.seq (.reg [i_X 0 7 (.h (.mkfn 95 [] [(.t 1)])), i_M 1 3 7] [1, 3]) (.seq (.reg [i_X 0 8 (.callA (kF 91) [(.k (.d (.int .i64 (-1))))]), i_M 1 4 8] [1, 3, 4]) (.seq (.seq (.reg [i_L 0 9 1 1, i_X 1 10 (.h (.len (.t 9))), i_K 2 11 0] [3, 4, 10, 11]) (.block 0 (.loop A_jac_Norm_L0))) (.seq (.reg [i_M 0 29 4, i_M 1 2 29] [2]) .ret)))))
theorem A_jac_Norm_comp : compF Tryz.prog 43 = some ⟨30, [(2, none)], A_jac_Norm.strip⟩ := by kernel_rfl
def A_jac_Norm_1_L0 : CA := (.seq (.reg [i_N 0 21 .lss 20 19] [0, 4, 18, 19, 20, 21]) (.seq (.cond (.t 21) .skip (.exit 0)) (.seq (.block 1 (.seq (.reg [i_M 0 22 20, i_I 1 23 18 20 2, i_A 2 24 23 2, i_X 3 6 (.alloc [(.d (.flt 0)), (.d (.flt 0))] 58), i_M 4 5 22, i_S 5 6 24 2] [0, 4, 5, 6, 18, 19, 20]) (.seq (.reg [i_M 0 25 5, i_M 1 26 0, i_N 2 27 .neq 25 26] [0, 4, 6, 18, 19, 20, 27]) (.cond (.t 27) (.reg [i_M 0 28 4, i_A 1 29 6 2, i_X 2 30 (.callA (kF 81) [(.t 29)]), i_F 3 31 .add 28 30, i_X 4 32 (.callA (kF 40) [(.t 31)]), i_M 5 4 32] [0, 4, 18, 19, 20]) .skip)))) (.reg [i_B 0 33 .add 20 1, i_M 1 20 33] [0, 4, 18, 19, 20]))))
def A_jac_Norm_1 : CA := (.seq (.reg [i_X 0 3 (.h (.mov (.k (.d (.flt 0)))))] [0, 1]) (.seq (.reg [i_L 0 7 1 1, i_M 1 8 0, i_I 2 9 7 8 1, i_L 3 10 9 1, i_M 4 11 0, i_I 5 12 10 11 2, i_P 6 13 12 1, i_L 7 14 13 1, i_M 8 4 14] [0, 1, 4]) (.seq (.seq (.reg [i_L 0 15 1 1, i_M 1 16 0, i_I 2 17 15 16 1, i_L 3 18 17 1, i_X 4 19 (.h (.len (.t 18))), i_K 5 20 0] [0, 4, 18, 19, 20]) (.block 0 (.loop A_jac_Norm_1_L0))) (.seq (.reg [i_M 0 34 4, i_M 1 3 34] [3]) .ret))))
theorem A_jac_Norm_1_comp : compF Tryz.prog 95 = some ⟨35, [(3, none)], A_jac_Norm_1.strip⟩ := by kernel_rfl
def A_r4_changeIv : CA := (.seq (.reg [i_X 0 7 (.box (.t 1) 2 58), i_X 1 8 (.box (.t 2) 2 58), i_X 2 9 (.box (.t 3) 2 58), i_X 3 10 (.box (.t 4) 2 58), i_X 4 11 (.box (.t 5) 2 58), i_X 5 12 (.alloc [(.d (.flt 0)), (.d (.flt 0))] 58)] [0, 7, 8, 9, 10, 11, 12]) (.seq (.seq (.reg [i_M 0 13 0] [7, 8, 9, 10, 11, 12, 13]) (.block 0 (.seq (.reg [i_B 0 15 .eql 13 2, i_M 1 14 15] [7, 8, 9, 10, 11, 12, 13, 14]) (.cond (.t 14) (.seq (.reg [i_A 0 16 10 2, i_A 1 17 11 2, i_X 2 18 (.callA (kF 55) [(.t 16), (.t 17)]), i_S 3 12 18 2] [12]) .ret) (.seq (.reg [i_B 0 20 .eql 13 3, i_M 1 19 20] [7, 8, 9, 10, 11, 12, 13, 19]) (.cond (.t 19) (.seq (.reg [i_A 0 21 10 2, i_A 1 22 11 2, i_X 2 23 (.callA (kF 102) [(.t 21), (.t 22)]), i_S 3 12 23 2] [12]) .ret) (.seq (.reg [i_B 0 25 .eql 13 4, i_M 1 24 25] [7, 8, 9, 10, 11, 12, 24]) (.cond (.t 24) (.seq (.reg [i_A 0 26 10 2, i_A 1 27 8 2, i_X 2 28 (.callS 0 (kF 108) [(.t 26), (.t 27)]), i_A 3 29 7 2, i_A 4 30 11 2, i_X 5 31 (.callA (kF 108) [(.t 29), (.t 30)]), i_X 6 32 (.callA (kF 55) [(.t 28), (.t 31)]), i_S 7 12 32 2] [12]) .ret) .skip)))))))) (.seq (.reg [i_A 0 33 10 2, i_A 1 34 9 2, i_A 2 35 11 2, i_X 3 36 (.callS 3 (kF 108) [(.t 34), (.t 35)]), i_X 4 37 (.callS 0 (kF 102) [(.t 33), (.t 36)]), i_A 5 38 8 2, i_X 6 39 (.callA (kF 109) [(.t 37), (.t 38)]), i_S 7 12 39 2] [12]) .ret)))
theorem A_r4_changeIv_comp : compF Tryz.prog 110 = some ⟨40, [(12, (some (2, true)))], A_r4_changeIv.strip⟩ := by kernel_rfl
def A_r4_JacIv_L1 : CA := (.seq (.seq (.reg [i_M 0 128 9, i_P 1 129 2 0, i_L 2 130 129 1, i_N 3 131 .lss 128 130] [1, 2, 5, 6, 7, 8, 9, 131]) (.cond (.t 131) .skip (.exit 3))) (.seq (.block 4 (.reg [i_M 0 134 6, i_M 1 135 7, i_I 2 136 134 135 1, i_L 3 137 136 1, i_M 4 138 9, i_P 5 139 8 0, i_L 6 140 139 1, i_M 7 141 5, i_P 8 142 8 1, i_L 9 143 142 1, i_I 10 144 141 143 2, i_A 11 145 144 2, i_M 12 146 5, i_P 13 147 8 2, i_L 14 148 147 1, i_I 15 149 146 148 2, i_A 16 150 149 2, i_M 17 151 5, i_M 18 152 7, i_I 19 153 151 152 2, i_A 20 154 153 2, i_M 21 155 6, i_P 22 156 8 1, i_L 23 157 156 1, i_I 24 158 155 157 1, i_L 25 159 158 1, i_M 26 160 9, i_I 27 161 159 160 2, i_A 28 162 161 2, i_M 29 163 6, i_P 30 164 8 2, i_L 31 165 164 1, i_I 32 166 163 165 1, i_L 33 167 166 1, i_M 34 168 9, i_I 35 169 167 168 2, i_A 36 170 169 2, i_X 37 171 (.callS 37 (kF 110) [(.t 140), (.t 145), (.t 150), (.t 154), (.t 162), (.t 170)]), i_I 38 172 137 138 2, i_S 39 172 171 2] [1, 2, 5, 6, 7, 8, 9])) (.reg [i_M 0 132 9, i_B 1 133 .add 132 1, i_M 2 9 133] [1, 2, 5, 6, 7, 8, 9])))
def A_r4_JacIv_L0 : CA := (.seq (.seq (.reg [i_M 0 20 7, i_P 1 21 2 1, i_L 2 22 21 1, i_X 3 23 (.h (.len (.t 22))), i_N 4 24 .lss 20 23] [1, 2, 5, 6, 7, 24]) (.cond (.t 24) .skip (.exit 0))) (.seq (.block 1 (.seq (.reg [i_P 0 27 2 1, i_L 1 28 27 1, i_M 2 29 7, i_I 3 30 28 29 4, i_A 4 31 30 4, i_X 5 8 (.alloc [(.d (.int .i64 0)), (.d (.int .i64 0)), (.d (.int .i64 0)), (.d (.flt 0))] 62), i_S 6 8 31 4] [1, 2, 5, 6, 7, 8]) (.seq (.reg [i_M 0 32 6, i_M 1 33 7, i_P 2 34 2 0, i_L 3 35 34 1, i_X 4 36 (.mksl [(.d (.flt 0)), (.d (.flt 0))] 2 16 (.t 35) (.t 35) 58), i_I 5 37 32 33 1, i_S 6 37 36 1] [1, 2, 5, 6, 7, 8]) (.seq (.seq (.reg [i_P 0 38 8 0, i_L 1 39 38 1] [1, 2, 5, 6, 7, 8, 39]) (.block 2 (.seq (.reg [i_B 0 55 .eql 39 0, i_M 1 54 55] [1, 2, 5, 6, 7, 8, 39, 54]) (.cond (.t 54) (.seq (.reg [i_M 0 56 5, i_M 1 57 7, i_P 2 58 8 3, i_L 3 59 58 1, i_X 4 60 (.callA (kF 99) [(.t 59)]), i_I 5 61 56 57 2, i_S 6 61 60 2] [1, 2, 5, 6, 7]) (.exit 1)) (.seq (.reg [i_B 0 63 .eql 39 1, i_M 1 62 63] [1, 2, 5, 6, 7, 8, 39, 62]) (.cond (.t 62) (.seq (.reg [i_M 0 64 5, i_M 1 65 7, i_M 2 66 6, i_M 3 67 7, i_I 4 68 66 67 1, i_L 5 69 68 1, i_P 6 70 8 1, ⟨7, (some 71), none, [(.t 8)], [], (.load (.t 70) 1 false)⟩, i_M 8 72 1, i_P 9 73 8 1, i_L 10 74 73 1, i_I 11 75 72 74 2, i_A 12 76 75 2, i_X 13 77 (.callS 13 (kF 99) [(.k (.d (.flt 4607182418800017408)))]), i_I 14 78 64 65 2, ⟨15, none, none, [], [(.t 8)], (.store (.t 78) (.t 76) 2)⟩, i_I 16 79 69 71 2, i_S 17 79 77 2] [1, 2, 5, 6, 7]) (.exit 1)) (.seq (.reg [i_B 0 81 .eql 39 2, i_M 1 80 81] [1, 2, 5, 6, 7, 8, 39, 80]) (.cond (.t 80) (.reg [i_M 0 82 5, i_M 1 83 7, i_M 2 84 5, i_P 3 85 8 1, i_L 4 86 85 1, i_I 5 87 84 86 2, i_A 6 88 87 2, i_M 7 89 5, i_P 8 90 8 2, i_L 9 91 90 1, i_I 10 92 89 91 2, i_A 11 93 92 2, i_X 12 94 (.callA (kF 55) [(.t 88), (.t 93)]), i_I 13 95 82 83 2, i_S 14 95 94 2] [1, 2, 5, 6, 7, 8]) (.seq (.reg [i_B 0 97 .eql 39 3, i_M 1 96 97] [1, 2, 5, 6, 7, 8, 39, 96]) (.cond (.t 96) (.reg [i_M 0 98 5, i_M 1 99 7, i_M 2 100 5, i_P 3 101 8 1, i_L 4 102 101 1, i_I 5 103 100 102 2, i_A 6 104 103 2, i_M 7 105 5, i_P 8 106 8 2, i_L 9 107 106 1, i_I 10 108 105 107 2, i_A 11 109 108 2, i_X 12 110 (.callA (kF 102) [(.t 104), (.t 109)]), i_I 13 111 98 99 2, i_S 14 111 110 2] [1, 2, 5, 6, 7, 8]) (.seq (.reg [i_B 0 113 .eql 39 4, i_M 1 112 113] [1, 2, 5, 6, 7, 8, 112]) (.cond (.t 112) (.reg [i_M 0 114 5, i_M 1 115 7, i_M 2 116 5, i_P 3 117 8 1, i_L 4 118 117 1, i_I 5 119 116 118 2, i_A 6 120 119 2, i_M 7 121 5, i_P 8 122 8 2, i_L 9 123 122 1, i_I 10 124 121 123 2, i_A 11 125 124 2, i_X 12 126 (.callA (kF 108) [(.t 120), (.t 125)]), i_I 13 127 114 115 2, i_S 14 127 126 2] [1, 2, 5, 6, 7, 8]) (.reg [i_M 0 40 5, i_M 1 41 7, i_M 2 42 5, i_P 3 43 8 1, i_L 4 44 43 1, i_I 5 45 42 44 2, i_A 6 46 45 2, i_M 7 47 5, i_P 8 48 8 2, i_L 9 49 48 1, i_I 10 50 47 49 2, i_A 11 51 50 2, i_X 12 52 (.callA (kF 109) [(.t 46), (.t 51)]), i_I 13 53 40 41 2, i_S 14 53 52 2] [1, 2, 5, 6, 7, 8]))))))))))))) (.seq (.reg [i_K 0 9 0] [1, 2, 5, 6, 7, 8, 9]) (.block 3 (.loop A_r4_JacIv_L1))))))) (.reg [i_M 0 25 7, i_B 1 26 .add 25 1, i_M 2 7 26] [1, 2, 5, 6, 7])))
def A_r4_JacIv_L2 : CA := (.seq (.seq (.reg [i_M 0 173 11, i_P 1 174 2 0, i_L 2 175 174 1, i_N 3 176 .lss 173 175] [2, 6, 10, 11, 176]) (.cond (.t 176) .skip (.exit 5))) (.seq (.block 6 (.reg [i_M 0 179 10, i_X 1 180 (.bslice [] 0 2 [] 58), i_M 2 181 6, i_P 3 182 2 2, i_L 4 183 182 1, i_M 5 184 11, i_I 6 185 183 184 1, i_L 7 186 185 1, i_I 8 187 181 186 1, i_L 9 188 187 1, i_X 10 189 (.app (.t 180) (.t 188) 2 16), i_X 11 190 (.bslice [.nil] 1 1 [(0, (1, (.t 189)))] 29), i_X 12 191 (.app (.t 179) (.t 190) 1 24), i_M 13 10 191] [2, 6, 10, 11])) (.reg [i_M 0 177 11, i_B 1 178 .add 177 1, i_M 2 11 178] [2, 6, 10, 11])))
def A_r4_JacIv : CA := (.seq (.reg [i_X 0 2 (.box (.t 0) 3 28), i_X 1 4 (.h (.mov (.k .nil)))] [1, 2]) (.seq (.reg [i_P 0 12 2 1, i_L 1 13 12 1, i_X 2 14 (.h (.len (.t 13))), i_X 3 15 (.mksl [(.d (.flt 0)), (.d (.flt 0))] 2 16 (.t 14) (.t 14) 58), i_M 4 5 15] [1, 2, 5]) (.seq (.reg [i_P 0 16 2 1, i_L 1 17 16 1, i_X 2 18 (.h (.len (.t 17))), i_X 3 19 (.mksl [.nil] 1 24 (.t 18) (.t 18) 29), i_M 4 6 19] [1, 2, 5, 6]) (.seq (.seq (.reg [i_K 0 7 0] [1, 2, 5, 6, 7]) (.block 0 (.loop A_r4_JacIv_L0))) (.seq (.reg [i_X 0 10 (.h (.mov (.k .nil)))] [2, 6, 10]) (.seq (.seq (.reg [i_K 0 11 0] [2, 6, 10, 11]) (.block 5 (.loop A_r4_JacIv_L2))) (.seq (.reg [i_M 0 192 10, i_M 1 4 192] [4]) .ret)))))))
theorem A_r4_JacIv_comp : compF Tryz.prog 53 = some ⟨193, [(4, none)], A_r4_JacIv.strip⟩ := by kernel_rfl
def A_r4_Norm_L1 : CA := (.seq (.seq (.reg [i_M 0 23 6, i_M 1 24 0, i_X 2 25 (.h (.len (.t 24))), i_N 3 26 .lss 23 25] [0, 3, 4, 5, 6, 26]) (.cond (.t 26) .skip (.exit 2))) (.seq (.block 3 (.seq (.reg [i_M 0 29 6, i_M 1 30 4, i_N 2 31 .neq 29 30] [0, 3, 4, 5, 6, 31]) (.cond (.t 31) (.reg [i_M 0 32 5, i_M 1 33 0, i_M 2 34 4, i_I 3 35 33 34 1, i_L 4 36 35 1, i_M 5 37 6, i_I 6 38 36 37 2, i_A 7 39 38 2, i_X 8 40 (.callA (kF 101) [(.t 39)]), i_F 9 41 .add 32 40, i_X 10 42 (.callA (kF 50) [(.t 41)]), i_M 11 5 42] [0, 3, 4, 5, 6]) .skip))) (.reg [i_M 0 27 6, i_B 1 28 .add 27 1, i_M 2 6 28] [0, 3, 4, 5, 6])))
def A_r4_Norm_L0 : CA := (.seq (.seq (.reg [i_M 0 9 4, i_M 1 10 0, i_X 2 11 (.h (.len (.t 10))), i_N 3 12 .lss 9 11] [0, 3, 4, 12]) (.cond (.t 12) .skip (.exit 0))) (.seq (.block 1 (.seq (.reg [i_M 0 15 0, i_M 1 16 4, i_I 2 17 15 16 1, i_L 3 18 17 1, i_M 4 19 4, i_I 5 20 18 19 2, i_P 6 21 20 1, i_L 7 22 21 1, i_M 8 5 22] [0, 3, 4, 5]) (.seq (.seq (.reg [i_K 0 6 0] [0, 3, 4, 5, 6]) (.block 2 (.loop A_r4_Norm_L1))) (.seq (.seq (.reg [i_M 0 43 5, i_M 1 44 5, i_X 2 45 (.h (.fcmp .ne (.t 43) (.t 44)))] [0, 3, 4, 5, 45]) (.cond (.t 45) (.seq (.reg [i_X 0 46 (.callA (kF 71) []), i_M 1 2 46] [2]) .ret) .skip)) (.seq (.reg [i_M 0 47 5, i_M 1 48 3, i_X 2 49 (.h (.fcmp .gt (.t 47) (.t 48)))] [0, 3, 4, 5, 49]) (.cond (.t 49) (.reg [i_M 0 50 5, i_M 1 3 50] [0, 3, 4]) .skip)))))) (.reg [i_M 0 13 4, i_B 1 14 .add 13 1, i_M 2 4 14] [0, 3, 4])))
def A_r4_Norm : CA := (.seq (.reg [i_X 0 2 (.h (.mov (.k (.d (.flt 0)))))] [0]) (.seq (.reg [i_X 0 7 (.callA (kF 71) []), i_X 1 8 (.h (.fbin .sub (.k (.d (.flt 0))) (.t 7))), i_M 2 3 8] [0, 3]) (.seq (.seq (.reg [i_K 0 4 0] [0, 3, 4]) (.block 0 (.loop A_r4_Norm_L0))) (.seq (.reg [i_M 0 51 3, i_M 1 2 51] [2]) .ret))))
theorem A_r4_Norm_comp : compF Tryz.prog 52 = some ⟨52, [(2, none)], A_r4_Norm.strip⟩ := by kernel_rfl
set_option maxRecDepth 8000 in
theorem jac_Norm1_con (J : List (List Iv)) (n i : Nat) (hJ : J.length = n) (hr : ∀ i, i < n → (J.getD i []).length = n) (hn : n < 2 ^ 40) (hi : i < n) : Con Tryz.prog 95 [fI i, .d (.bptr [ivsD J])] (fl (rowS (J.getD i []) i n)) := by
  have hl := hr i hi
  refine Con_introA A_jac_Norm_1_comp rfl mixed ?_
  refine evx @A_jac_Norm_1.eq_1 ?_
  refine evx (And.intro @ivsD.eq_1 (And.intro @ivD.eq_1 @ivG_eq)) ?_
  (repeat (with_reducible refine And.intro (by omega) ?_))
  generalize J.getD i [] = l at hl ⊢
  refine WA_forW (n := n) (fun c s => ∃ k, c + k = n ∧ s = ⟨[(0, fI i), (4, fl (rowS l i k)), (18, .d (ivD l)), (19, fI n), (20, fI k)], []⟩) (s0 := ⟨_, _⟩) (by rw [← hl]; exact Le.refl _) ⟨0, by omega, rfl⟩ ?_
  rintro c s ⟨k, hc, rfl⟩
  refine evx @A_jac_Norm_1_L0.eq_1 ?_
  refine condC_intro (fun h => ?_) (fun h => ?_)
  · replace h := of_decide_eq_true h
    have hk : k < n := by omega
    refine evx (And.intro @ivD.eq_1 @ivG_eq) ?_
    (repeat (with_reducible refine And.intro (by omega) ?_))
    by_cases hki : k = i
    · subst hki
      refine ev ?_
      rw [wrapI (by omega) (by omega)]
      have e : rowS l k (k + 1) = rowS l k k := by rw [rowS, if_pos rfl]
      refine ⟨c - 1, _, by omega, LeT.only (fun X => false) (fun _ h => h) rfl (by simp [kpS]) (by simp [kpS]), k + 1, by omega, ?_⟩
      rw [e]; rfl
    · have h2 : ((k : Int) != (i : Int)) = true := by simp; omega
      refine evx h2 ?_
      refine callG_con (iv_Mag_con (l.getD k (0, 0))) rfl ?_
      refine ev ?_
      refine callG_con (fp_Up_con _) rfl ?_
      refine ev ?_
      rw [wrapI (by omega) (by omega)]
      have e : rowS l i (k + 1) = up (fop .add (rowS l i k) (ivMag (mG l k))) := by rw [rowS, if_neg hki]
      refine ⟨c - 1, _, by omega, LeT.only (fun X => false) (fun _ h => h) rfl (by simp [kpS]) (by simp [kpS]), k + 1, by omega, ?_⟩
      rw [e]; rfl
  · replace h := of_decide_eq_false h
    obtain rfl : k = n := by omega
    refine ev ?_
    exact endsT_rett rfl (by decide) (by simp [look])
theorem cw_ninf {s : Nat} (h : cw s) (hn : isNan s = false) (hg : fcmp .gt s fninf = false) : s = fninf := by
  have rd : Ieee.double.read fninf = .infinity true := by decide
  rcases h with rfl | rfl | rfl | ⟨b, r, hr, rfl⟩
  · have : isNan qnan = true := by decide
    rw [this] at hn; cases hn
  · have : fcmp .gt finf fninf = true := by decide
    rw [this] at hg; cases hg
  · rfl
  · obtain ⟨s', m, i, hd⟩ := fin_word b r hr
    have : fcmp .gt (Ieee.double.word b r) fninf = true := by simp [fcmp, Ieee.Format.order, hd, rd, Ieee.Datum.order]
    rw [this] at hg; cases hg
def Jcw (J : List (List Iv)) : Prop := ∀ i, cw (mG (J.getD i []) i).2
theorem up_cw {x : Nat} (h : cw x) : cw (up x) := by
  have key : ∀ b : Int, cw (cf (IntKind.wrap .u64 b).toNat) := fun b => cw_lt (by have := wrap_u64_range b; omega)
  unfold up nextF
  repeat' split
  · exact .inl rfl
  · exact h
  · exact cw_lt (by decide)
  · exact key _
  · exact key _
theorem rowS_cw (l : List Iv) (i k : Nat) (h : cw (mG l i).2) : cw (rowS l i k) := by
  induction k with
  | zero => exact h
  | succ k ih =>
    rw [rowS]; split
    · exact ih
    · exact up_cw (fop_cw _ _ _)
set_option maxRecDepth 8000 in
theorem jac_Norm_con (J : List (List Iv)) (n : Nat) (hJ : J.length = n) (hr : ∀ i, i < n → (J.getD i []).length = n) (hn : n < 2 ^ 40) (hcw : Jcw J) : Con Tryz.prog 43 [.d (ivsD J)] (fl (normI J)) := by
  have e1 : normI J = (normK J n).getD finf := by unfold normI; rw [hJ]
  rw [e1]
  refine Con_introA A_jac_Norm_comp rfl mixed ?_
  refine evx @A_jac_Norm.eq_1 ?_
  refine callG_con (math_Inf_neg) rfl ?_
  simp -implicitDefEqProofs only [evI, hv, effC, reduceCtorEq, ↓reduceIte, n1_, n2_, n3_, n4_, n5_, i1_, i2_, i3_, i4_, i5_, i6_, i7_, ivsD, fnOf, allD]
  refine WA_forW (n := n) (fun c s => ∃ i b, c + i = n ∧ normK J i = some b ∧ (i = 0 → b = fninf) ∧ s = ⟨[(3, .fn 95 [] [.ptr 0 0 0 1]), (4, fl b), (10, fI n), (11, fI i)], [(0, [[.d (ivsD J)]])]⟩) (s0 := ⟨_, _⟩) (by rw [← hJ]; exact Le.refl _) ⟨0, fninf, by omega, rfl, fun _ => rfl, rfl⟩ ?_
  rintro c s ⟨i, b, hc, hb, hb0, rfl⟩
  refine evx @A_jac_Norm_L0.eq_1 ?_
  refine condC_intro (fun h => ?_) (fun h => ?_)
  · replace h := of_decide_eq_true h
    have hi : i < n := by omega
    have hs : ∀ s, rowS (J.getD i []) i n = s → normK J (i + 1) = if isNan s = true then none else some (if fcmp .gt s b = true then s else b) := fun s e => by
      rw [normK, hb, hJ, e]
    have hk := jac_Norm1_con J n i hJ hr hn hi
    have hc1 := rowS_cw (J.getD i []) i n (hcw i)
    refine ev ?_
    refine callG_snaps [fI i, .d (.bptr [ivsD J])] hk ⟨.bare _, snap_box rfl, trivial⟩ (.flt _) ?_
    generalize hs1 : rowS (J.getD i []) i n = s at hc1 ⊢
    have hs2 := hs s hs1
    refine ev ?_
    refine callG_con (math_IsNaN_con s) rfl ?_
    refine ev ?_
    refine condC_intro (fun h3 => ?_) (fun h3 => ?_)
    · rw [if_pos h3] at hs2
      refine ev ?_
      refine callG_con (math_Inf_pos) rfl ?_
      refine ev ?_
      have : normK J n = none := by
        have key : ∀ m, i + 1 ≤ m → normK J m = none := fun m hm => by
          induction m with
          | zero => omega
          | succ m ih =>
            by_cases e : i = m
            · subst e; exact hs2
            · rw [normK, ih (by omega)]
        exact key n (by omega)
      rw [this]
      exact endsT_rett rfl (by decide) (by simp [look])
    · rw [if_neg (by simp [h3])] at hs2
      by_cases hi0 : i = 0
      · subst hi0
        have hb1 := hb0 rfl
        subst hb1
        refine ev ?_
        rw [wrapI (by omega) (by omega)]
        have e2 : (if fcmp .gt s fninf = true then s else fninf) = s := by
          split
          · rfl
          · rename_i h4; exact (cw_ninf hc1 h3 (by simpa using h4)).symm
        rw [e2] at hs2
        exact ⟨c - 1, _, by omega, Le.refl _, 0 + 1, s, by omega, hs2, fun h => by omega, rfl⟩
      · have h4 : ((i : Int) == 0) = false := by simp; omega
        refine evx h4 ?_
        refine condC_intro (fun h5 => ?_) (fun h5 => ?_)
        · rw [if_pos h5] at hs2
          refine ev ?_
          rw [wrapI (by omega) (by omega)]
          exact ⟨c - 1, _, by omega, Le.refl _, i + 1, s, by omega, hs2, fun h => by omega, rfl⟩
        · rw [if_neg (by simp [h5])] at hs2
          refine ev ?_
          rw [wrapI (by omega) (by omega)]
          exact ⟨c - 1, _, by omega, Le.refl _, i + 1, b, by omega, hs2, fun h => by omega, rfl⟩
  · replace h := of_decide_eq_false h
    obtain rfl : i = n := by omega
    refine ev ?_
    rw [hb]
    exact endsT_rett rfl (by decide) (by simp [look])
set_option maxRecDepth 8000 in
theorem r4_Norm_L1 (J : List (List Iv)) (n i : Nat) (b : Nat) (hJ : J.length = n) (hr : ∀ i, i < n → (J.getD i []).length = n) (hn : n < 2 ^ 40) (hi : i < n) (Q : Ex → T → Prop)
    (hQ : ∀ w, Q (.exit 2) ⟨[(0, .d (ivsD J)), (3, fl b), (4, fI i), (5, fl (rowS (J.getD i []) i n)), (6, fI n), (26, w)], []⟩) :
    WA Tryz.prog (fun _ => False) 52 (.loop A_r4_Norm_L1) Q ⟨[(0, .d (ivsD J)), (3, fl b), (4, fI i), (5, fl (rowS (J.getD i []) i 0)), (6, fI 0)], []⟩ := by
  have hl := hr i hi
  refine WA_for (n := n) (fun c s => ∃ k, c + k = n ∧ s = ⟨[(0, .d (ivsD J)), (3, fl b), (4, fI i), (5, fl (rowS (J.getD i []) i k)), (6, fI k)], []⟩) ⟨0, by omega, rfl⟩ ?_
  rintro c s ⟨k, hc, rfl⟩
  refine evx (And.intro @A_r4_Norm_L1.eq_1 @ivsD.eq_1) ?_
  refine condC_intro (fun h => ?_) (fun h => ?_)
  · replace h := of_decide_eq_true h
    have hk : k < n := by omega
    by_cases hki : k = i
    · subst hki
      refine ev ?_
      rw [wrapI (by omega) (by omega)]
      have e : rowS (J.getD k []) k (k + 1) = rowS (J.getD k []) k k := by rw [rowS, if_pos rfl]
      refine ⟨c - 1, by omega, k + 1, by omega, ?_⟩
      rw [e]; rfl
    · have h2 : ((k : Int) != (i : Int)) = true := by simp; omega
      refine evx (And.intro h2 (And.intro @ivD.eq_1 @ivG_eq)) ?_
      (repeat (with_reducible refine And.intro (by omega) ?_))
      refine callG_con (r2_Mag_con ((J.getD i []).getD k (0, 0))) rfl ?_
      refine ev ?_
      refine callG_con (r1_Up_con _) rfl ?_
      refine ev ?_
      rw [wrapI (by omega) (by omega)]
      have e : rowS (J.getD i []) i (k + 1) = up (fop .add (rowS (J.getD i []) i k) (ivMag (mG (J.getD i []) k))) := by rw [rowS, if_neg hki]
      refine ⟨c - 1, by omega, k + 1, by omega, ?_⟩
      rw [e]; rfl
  · replace h := of_decide_eq_false h
    obtain rfl : k = n := by omega
    refine ev ?_
    exact hQ _
set_option maxRecDepth 8000 in
theorem r4_Norm_con (J : List (List Iv)) (n : Nat) (hJ : J.length = n) (hr : ∀ i, i < n → (J.getD i []).length = n) (hn : n < 2 ^ 40) : Con Tryz.prog 52 [.d (ivsD J)] (fl (normI J)) := by
  have e1 : normI J = (normK J n).getD finf := by unfold normI; rw [hJ]
  have e0 : fop .sub 0 finf = fninf := by decide
  rw [e1]
  refine Con_introA A_r4_Norm_comp rfl mixed ?_
  refine evx @A_r4_Norm.eq_1 ?_
  refine callG_con (r1_Inf_con) rfl ?_
  refine evx e0 ?_
  refine WA_for (n := n) (fun c s => ∃ i b, c + i = n ∧ normK J i = some b ∧ s = ⟨[(0, .d (ivsD J)), (3, fl b), (4, fI i)], []⟩) ⟨0, fninf, by omega, rfl, rfl⟩ ?_
  rintro c s ⟨i, b, hc, hb, rfl⟩
  refine evx (And.intro @A_r4_Norm_L0.eq_1 @ivsD.eq_1) ?_
  refine condC_intro (fun h => ?_) (fun h => ?_)
  · replace h := of_decide_eq_true h
    have hi : i < n := by omega
    have hl := hr i hi
    have hs : ∀ s, rowS (J.getD i []) i n = s → normK J (i + 1) = if isNan s = true then none else some (if fcmp .gt s b = true then s else b) := fun s e => by
      rw [normK, hb, hJ, e]
    refine evx (And.intro @ivD.eq_1 @ivG_eq) ?_
    (repeat (with_reducible refine And.intro (by omega) ?_))
    refine r4_Norm_L1 J n i b hJ hr hn hi _ fun w => ?_
    generalize hs1 : rowS (J.getD i []) i n = s
    have hs2 := hs s hs1
    have hne : fcmp .ne s s = isNan s := fcmp_ne_self s
    refine evx hne ?_
    refine condC_intro (fun h3 => ?_) (fun h3 => ?_)
    · rw [if_pos h3] at hs2
      refine ev ?_
      refine callG_con (r1_Inf_con) rfl ?_
      refine ev ?_
      have : normK J n = none := by
        have key : ∀ m, i + 1 ≤ m → normK J m = none := fun m hm => by
          induction m with
          | zero => omega
          | succ m ih =>
            by_cases e : i = m
            · subst e; exact hs2
            · rw [normK, ih (by omega)]
        exact key n (by omega)
      rw [this]
      exact endsT_rett rfl (by decide) (by simp [look])
    · rw [if_neg (by simp [h3])] at hs2
      refine ev ?_
      refine condC_intro (fun h5 => ?_) (fun h5 => ?_)
      · rw [if_pos h5] at hs2
        refine ev ?_
        rw [wrapI (by omega) (by omega)]
        exact ⟨c - 1, by omega, i + 1, s, by omega, hs2, rfl⟩
      · rw [if_neg (by simp [h5])] at hs2
        refine ev ?_
        rw [wrapI (by omega) (by omega)]
        exact ⟨c - 1, by omega, i + 1, b, by omega, hs2, rfl⟩
  · replace h := of_decide_eq_false h
    obtain rfl : i = n := by omega
    refine ev ?_
    rw [hb]
    exact endsT_rett rfl (by decide) (by simp [look])
set_option maxRecDepth 8000 in
theorem iv_Exp_con (x : Nat) : Con Tryz.prog 98 [fl x] (fl (ivExp x)) := by
  unfold ivExp
  refine Con_introA A_iv_Exp_comp rfl mixed ?_
  refine evx @A_iv_Exp.eq_1 ?_
  refine callG_con (math_IsNaN_con x) rfl ?_
  refine ev ?_
  cases hx : isNan x
  · refine ev ?_
    cases h2 : fcmp .ge x 4647714815446351872
    · refine ev ?_
      rw [if_neg (by decide)]
      generalize hy : ivDiv (pt oneW) (ivSub (pt oneW) (ivDiv (pt x) (pt 4652218415073722368))) = y
      refine callG_con (iv_point_con 4607182418800017408) rfl ?_
      refine ev ?_
      refine callG_con (iv_point_con 4607182418800017408) rfl ?_
      refine ev ?_
      refine callG_con (iv_point_con x) rfl ?_
      refine ev ?_
      refine callG_con (iv_point_con 4652218415073722368) rfl ?_
      refine ev ?_
      refine callG_con (iv_Div_con (pt x) (pt 4652218415073722368)) rfl ?_
      refine ev ?_
      refine callG_con (iv_Sub_con (pt 4607182418800017408) (ivDiv (pt x) (pt 4652218415073722368))) rfl ?_
      refine ev ?_
      refine callG_con (iv_Div_con (pt 4607182418800017408) (ivSub (pt 4607182418800017408) (ivDiv (pt x) (pt 4652218415073722368)))) rfl ?_
      have hy' : ivDiv (pt 4607182418800017408) (ivSub (pt 4607182418800017408) (ivDiv (pt x) (pt 4652218415073722368))) = y := hy
      rw [hy']
      refine ev ?_
      refine WA_for (n := 10) (fun c s => ∃ k, c + k = 10 ∧ s = ⟨[(3, .ptr 8 0 0 2), (19, fI k)], [(8, [[fl (sqI y k).1, fl (sqI y k).2]])]⟩) ⟨0, by omega, rfl⟩ ?_
      rintro c s ⟨k, hc, rfl⟩
      refine evx @A_iv_Exp_L0.eq_1 ?_
      refine condC_intro (fun h => ?_) (fun h => ?_)
      · replace h := of_decide_eq_true h
        refine ev ?_
        refine callG_con (iv_Mul_con (sqI y k) (sqI y k)) rfl ?_
        refine ev ?_
        rw [wrapI (by omega) (by omega)]
        exact ⟨c - 1, by omega, k + 1, by omega, rfl⟩
      · replace h := of_decide_eq_false h
        obtain rfl : k = 10 := by omega
        refine ev ?_
        exact endsT_rett rfl (by decide) (by simp [look])
    · refine ev ?_
      refine callG_con (math_Inf_pos) rfl ?_
      refine ev ?_
      exact endsT_rett rfl (by decide) (by simp [look])
  · refine ev ?_
    refine callG_con (math_Inf_pos) rfl ?_
    refine ev ?_
    exact endsT_rett rfl (by decide) (by simp [look])
set_option maxRecDepth 8000 in
theorem r2_Exp_con (x : Nat) : Con Tryz.prog 54 [fl x] (fl (ivExp x)) := by
  unfold ivExp
  have hne : fcmp .ne x x = isNan x := fcmp_ne_self x
  refine Con_introA A_r2_Exp_comp rfl mixed ?_
  refine evx @A_r2_Exp.eq_1 ?_
  refine evx hne ?_
  cases hx : isNan x
  · refine ev ?_
    cases h2 : fcmp .ge x 4647714815446351872
    · refine ev ?_
      rw [if_neg (by decide)]
      generalize hy : ivDiv (pt oneW) (ivSub (pt oneW) (ivDiv (pt x) (pt 4652218415073722368))) = y
      refine callG_con (r2_Point_con 4607182418800017408) rfl ?_
      refine ev ?_
      refine callG_con (r2_Point_con 4607182418800017408) rfl ?_
      refine ev ?_
      refine callG_con (r2_Point_con x) rfl ?_
      refine ev ?_
      refine callG_con (r2_Point_con 4652218415073722368) rfl ?_
      refine ev ?_
      refine callG_con (r2_Div_con (pt x) (pt 4652218415073722368)) rfl ?_
      refine ev ?_
      refine callG_con (r2_Sub_con (pt 4607182418800017408) (ivDiv (pt x) (pt 4652218415073722368))) rfl ?_
      refine ev ?_
      refine callG_con (r2_Div_con (pt 4607182418800017408) (ivSub (pt 4607182418800017408) (ivDiv (pt x) (pt 4652218415073722368)))) rfl ?_
      have hy' : ivDiv (pt 4607182418800017408) (ivSub (pt 4607182418800017408) (ivDiv (pt x) (pt 4652218415073722368))) = y := hy
      rw [hy']
      refine ev ?_
      refine WA_for (n := 10) (fun c s => ∃ k, c + k = 10 ∧ s = ⟨[(3, .ptr 8 0 0 2), (4, fI k)], [(8, [[fl (sqI y k).1, fl (sqI y k).2]])]⟩) ⟨0, by omega, rfl⟩ ?_
      rintro c s ⟨k, hc, rfl⟩
      refine evx @A_r2_Exp_L0.eq_1 ?_
      refine condC_intro (fun h => ?_) (fun h => ?_)
      · replace h := of_decide_eq_true h
        refine ev ?_
        refine callG_con (r2_Mul_con (sqI y k) (sqI y k)) rfl ?_
        refine ev ?_
        rw [wrapI (by omega) (by omega)]
        exact ⟨c - 1, by omega, k + 1, by omega, rfl⟩
      · replace h := of_decide_eq_false h
        obtain rfl : k = 10 := by omega
        refine ev ?_
        exact endsT_rett rfl (by decide) (by simp [look])
    · refine ev ?_
      refine callG_con (r1_Inf_con) rfl ?_
      refine ev ?_
      exact endsT_rett rfl (by decide) (by simp [look])
  · refine ev ?_
    refine callG_con (r1_Inf_con) rfl ?_
    refine ev ?_
    exact endsT_rett rfl (by decide) (by simp [look])
end Go.Ab
namespace Go.Ab
set_option linter.unusedSimpArgs false
set_option linter.unusedVariables false
open Go Go.Proofs
def chI (k : Int) (u v q da db : Iv) : Iv := if k = 2 then ivAdd da db else if k = 3 then ivSub da db else if k = 4 then ivAdd (ivMul da v) (ivMul u db) else ivDiv (ivSub da (ivMul q db)) v
set_option maxRecDepth 8000 in
theorem r4chI_con (k : Int) (u v q da db : Iv) (hk : k = 2 ∨ k = 3 ∨ k = 4 ∨ k = 5) : Con Tryz.prog 110 [fI k, ivV u, ivV v, ivV q, ivV da, ivV db] (ivV (chI k u v q da db)) := by
  unfold chI
  refine Con_introA A_r4_changeIv_comp rfl mixed ?_
  refine evx @A_r4_changeIv.eq_1 ?_
  rcases hk with rfl | rfl | rfl | rfl
  · refine ev ?_
    refine callG_con (r2_Add_con da db) rfl ?_
    refine ev ?_
    exact endsT_retm rfl (by decide) rfl rfl rfl (by simp) (by simp [ldv])
  · rw [if_neg (by decide), if_pos rfl]
    refine evb ?_
    refine callG_con (r2_Sub_con da db) rfl ?_
    refine ev ?_
    exact endsT_retm rfl (by decide) rfl rfl rfl (by simp) (by simp [ldv])
  · rw [if_neg (by decide), if_neg (by decide), if_pos rfl]
    refine evb ?_
    refine callSG_con (r2_Mul_con da v) rfl ?_
    refine ev ?_
    refine callG_con (r2_Mul_con u db) rfl ?_
    refine ev ?_
    refine callG_con (r2_Add_con (ivMul da v) (ivMul u db)) rfl ?_
    refine ev ?_
    exact endsT_retm rfl (by decide) rfl rfl rfl (by simp) (by simp [ldv])
  · rw [if_neg (by decide), if_neg (by decide), if_neg (by decide)]
    refine evb ?_
    refine callSG_con (r2_Mul_con q db) rfl ?_
    refine ev ?_
    refine callSG_con (r2_Sub_con da (ivMul q db)) rfl ?_
    refine ev ?_
    refine callG_con (r2_Div_con (ivSub da (ivMul q db)) v) rfl ?_
    refine ev ?_
    exact endsT_retm rfl (by decide) rfl rfl rfl (by simp) (by simp [ldv])
theorem regI_pre (t : Tp) (x : List Iv) (i m j : Nat) (h : i ≤ m) (hj : j < i) : mG (regI t x m) j = mG (regI t x i) j := by
  induction m with
  | zero => omega
  | succ m ih =>
    by_cases e : i = m + 1
    · subst e; rfl
    · have hl := regI_len t x m
      have : mG (regI t x (m + 1)) j = mG (regI t x m) j := by
        unfold mG
        rw [regI, List.getD_eq_getElem?_getD, List.getElem?_append_left (by omega), ← List.getD_eq_getElem?_getD]
      rw [this]
      exact ih (by omega)
theorem drI_pre (t : Tp) (x : List Iv) (i m j : Nat) (h : i ≤ m) (hj : j < i) : (drI t x m).getD j [] = (drI t x i).getD j [] := by
  induction m with
  | zero => omega
  | succ m ih =>
    by_cases e : i = m + 1
    · subst e; rfl
    · have hl := drI_len t x m
      rw [drI, List.getD_eq_getElem?_getD, List.getElem?_append_left (by omega), ← List.getD_eq_getElem?_getD]
      exact ih (by omega)
def rGI (t : Tp) (x : List Iv) (i : Nat) : Iv := mG (regI t x t.ops.length) i
def dGI (t : Tp) (x : List Iv) (i : Nat) : D := ivD ((drI t x t.ops.length).getD i [])
abbrev zI : Nat → Iv := fun _ => (0, 0)
abbrev riS0 (t : Tp) (x : List Iv) (i : Nat) : Sl := [(1, .d (ivD x)), (2, .ptr 0 0 0 3), (5, .sl 4 0 0 t.ops.length 2 (t.ops.length * 2)), (6, .sl 8 0 0 t.ops.length 1 t.ops.length), (7, fI i)]
abbrev riT0 (t : Tp) (x : List Iv) (i : Nat) : T := ⟨riS0 t x i, [(8, [outC t.ops.length (dGI t x) i]), (4, [ivC (filI (rGI t x) zI t.ops.length i)]), (0, [jtT t])]⟩
theorem r4I_next (t : Tp) (x : List Iv) (i : Nat) (junk : List (List V)) (d : List Iv) (hD : (drI t x t.ops.length).getD i [] = d) (hl : d.length = t.n) :
    Le (fun _ => False) (T.s 193 ⟨riS0 t x (i + 1), [(19, [ivC d]), (14, junk), (8, [(outC t.ops.length (dGI t x) i).set i (.sl 19 0 0 t.n 2 (t.n * 2))]), (4, [ivC (filI (rGI t x) zI t.ops.length (i + 1))]), (0, [jtT t])]⟩) (T.s 193 (riT0 t x (i + 1))) := by
  have hz : ∀ L L' : Heap, L.get 19 0 = some (ivC d) → L'.get 19 0 = none → Fz L L' (.sl 19 0 0 t.n 2 (t.n * 2)) (.d (dGI t x i)) := fun L L' a b => by
    unfold dGI; rw [hD]; exact Fz_ivs a hl rfl b
  have hc : ∀ (L L' : Heap) (ps : List Iv), FzA L L' (ivC ps) (ivC ps) := fun L L' ps => by rw [ivC_data]; exact FzA_data _
  exact LeT.weak (fun _ h => h) (by simp (maxDischargeDepth := 6) [fzS]) (by simp (maxDischargeDepth := 6) [fzS, hz, FzA_outC_set, hc])
theorem sloI_var (o : OpN) (q : Iv) (r : List Iv) (dr : List (List Iv)) (n : Nat) (hk : o.k = 1) (ha : 0 ≤ o.a ∧ o.a < n) : tabI (sloI o q r dr) n = (List.replicate n (0, 0)).set o.a.toNat (pt oneW) := by
  refine List.ext_getElem (by simp [tabI_len]) fun k h1 h2 => ?_
  rw [tabI_len] at h1
  simp only [tabI, List.getElem_map, List.getElem_range, List.getElem_set, List.getElem_replicate, sloI]
  by_cases e : o.a = (k : Int)
  · rw [if_pos ⟨hk, e⟩, if_pos (by omega)]
  · rw [if_neg (fun h => e h.2), if_pos (.inr hk), if_neg (by omega)]
theorem sloI_const (o : OpN) (q : Iv) (r : List Iv) (dr : List (List Iv)) (n : Nat) (hk : o.k = 0) : tabI (sloI o q r dr) n = List.replicate n (0, 0) := by
  refine List.ext_getElem (by simp [tabI_len]) fun k h1 h2 => ?_
  simp [tabI, sloI, hk]
theorem filI_zero (f : Nat → Iv) (n : Nat) : filI f zI n 0 = List.replicate n (0, 0) := by
  refine List.ext_getElem (by simp [filI]) fun k h1 h2 => ?_
  simp [filI]
abbrev riH (t : Tp) (x : List Iv) (i : Nat) (o : OpN) (d : List Iv) : Heap := [(19, [ivC d]), (14, [opC o]), (8, [(outC t.ops.length (dGI t x) i).set i (.sl 19 0 0 t.n 2 (t.n * 2))]), (4, [ivC (filI (rGI t x) zI t.ops.length (i + 1))]), (0, [jtT t])]
abbrev riS (t : Tp) (x : List Iv) (i k : Nat) : Sl := [(1, .d (ivD x)), (2, .ptr 0 0 0 3), (5, .sl 4 0 0 t.ops.length 2 (t.ops.length * 2)), (6, .sl 8 0 0 t.ops.length 1 t.ops.length), (7, fI i), (8, .ptr 14 0 0 4), (9, fI k)]
set_option maxRecDepth 8000 in
theorem r4I_L1 (t : Tp) (x : List Iv) (i : Nat) (o : OpN) (f : Nat → Iv) (hn : t.n < 2 ^ 20) (hlen : t.ops.length < 2 ^ 40) (h : i < t.ops.length) (hk : o.k = 2 ∨ o.k = 3 ∨ o.k = 4 ∨ o.k = 5) (ha : 0 ≤ o.a ∧ o.a < (i : Int)) (hb : 0 ≤ o.b ∧ o.b < (i : Int))
    (hf : f = sloI o (rGI t x i) (regI t x i) (drI t x i)) (Q : Ex → T → Prop) (hQ : Q (.exit 3) ⟨riS t x i t.n ++ [(131, fB false)], riH t x i o (tabI f t.n)⟩) :
    WA Tryz.prog (fun _ => False) 193 A_r4_JacIv_L1.loop Q ⟨riS t x i 0, riH t x i o (List.replicate t.n (0, 0))⟩ := by
  rw [← filI_zero f]
  have rl := filI_len (rGI t x) zI t.ops.length (i + 1)
  have rget : ∀ j, j < i + 1 → mG (filI (rGI t x) zI t.ops.length (i + 1)) j = rGI t x j := fun j hj => by
    rw [filI_get _ _ _ _ _ (by omega), if_pos hj]
  have r1 := ivC_two (filI (rGI t x) zI t.ops.length (i + 1)) o.a.toNat (by omega)
  have r2 := ivC_two (filI (rGI t x) zI t.ops.length (i + 1)) o.b.toNat (by omega)
  have r3 := ivC_two (filI (rGI t x) zI t.ops.length (i + 1)) i (by omega)
  rw [rget _ (by omega)] at r1 r2 r3
  have s1 := outC_set_get t.ops.length (dGI t x) i o.a.toNat (.sl 19 0 0 t.n 2 (t.n * 2)) (by omega) h
  have s2 := outC_set_get t.ops.length (dGI t x) i o.b.toNat (.sl 19 0 0 t.n 2 (t.n * 2)) (by omega) h
  have s3 := outC_set_self t.ops.length (dGI t x) i (.sl 19 0 0 t.n 2 (t.n * 2)) h
  have sl : ((outC t.ops.length (dGI t x) i).set i (V.sl 19 0 0 t.n 2 (t.n * 2))).length = t.ops.length := by rw [List.length_set, outC_len]
  have d1 := drI_rows t x t.ops.length o.a.toNat (by omega)
  have d2 := drI_rows t x t.ops.length o.b.toNat (by omega)
  refine WA_for (n := t.n) (fun c s => ∃ k, c + k = t.n ∧ s = ⟨riS t x i k, riH t x i o (filI f zI t.n k)⟩) ⟨0, by omega, rfl⟩ ?_
  rintro c s ⟨k, hc, rfl⟩
  have hkl := filI_len f zI t.n k
  refine evx @A_r4_JacIv_L1.eq_1 ?_
  refine condC_intro (fun hi => ?_) (fun hi => ?_)
  · replace hi := of_decide_eq_true hi
    have hfs := filI_set f zI t.n k _ rfl
    generalize filI f zI t.n k = d at hkl hfs
    have hol := outC_len t.ops.length (dGI t x) i
    refine evx (And.intro r1 (And.intro r2 (And.intro r3 (And.intro s1 (And.intro s2 (And.intro s3 (And.intro @dGI.eq_1 (And.intro @ivD.eq_1 @ivG_eq)))))))) ?_
    repeat (with_reducible refine And.intro (by omega) ?_)
    refine callSG_con (r4chI_con o.k (rGI t x o.a.toNat) (rGI t x o.b.toNat) (rGI t x i) (mG ((drI t x t.ops.length).getD o.a.toNat []) k) (mG ((drI t x t.ops.length).getD o.b.toNat []) k) hk) rfl ?_
    have ef : chI o.k (rGI t x o.a.toNat) (rGI t x o.b.toNat) (rGI t x i) (mG ((drI t x t.ops.length).getD o.a.toNat []) k) (mG ((drI t x t.ops.length).getD o.b.toNat []) k) = f k := by
      rw [hf]
      unfold sloI rGI chI dI
      rw [drI_pre t x i t.ops.length o.a.toNat (by omega) (by omega), drI_pre t x i t.ops.length o.b.toNat (by omega) (by omega), regI_pre t x i t.ops.length o.a.toNat (by omega) (by omega), regI_pre t x i t.ops.length o.b.toNat (by omega) (by omega)]
      rcases hk with hk | hk | hk | hk <;> simp [hk]
    rw [ef]
    refine ev ?_
    (repeat (with_reducible refine And.intro (by omega) ?_))
    rw [wrapI (by omega) (by omega), ivC_put _ _ _ _ (by omega), hfs]
    exact ⟨c - 1, by omega, k + 1, by omega, rfl⟩
  · replace hi := of_decide_eq_false hi
    have e : k = t.n := by omega
    subst e
    rw [filI_all]
    refine evx @Nat.lt_irrefl ?_
    exact hQ
set_option maxRecDepth 8000 in
theorem r4_JacIv_con (t : Tp) (x : List Iv) (ht : Tok t) (hx : x.length = t.n) : Con Tryz.prog 53 [tapeV t, .d (ivD x)] (.d (ivsD (jacI t x))) := by
  have hn := ht.n
  have hlen := ht.len
  refine Con_introA A_r4_JacIv_comp rfl mixed ?_
  refine evx @A_r4_JacIv.eq_1 ?_
  refine evx @opsD.eq_1 ?_
  refine ⟨by omega, by omega, ?_⟩
  rw [outC_zero t.ops.length (dGI t x), ← filI_zero (rGI t x)]
  refine WA_forW (n := t.ops.length) (fun c s => ∃ i, c + i = t.ops.length ∧ s = riT0 t x i) (Le.refl _) ⟨0, by omega, rfl⟩ ?_
  rintro c s ⟨i, hc, rfl⟩
  have hrl := filI_len (rGI t x) zI t.ops.length i
  have hol := outC_len t.ops.length (dGI t x) i
  refine evx (And.intro @A_r4_JacIv_L0.eq_1 @opsD.eq_1) ?_
  refine condC_intro (fun h => ?_) (fun h => ?_)
  · replace h := of_decide_eq_true h
    have hop := ht.op i h
    have hra := regI_last t x i
    have hda := drI_last t x i
    rw [← regI_pre t x (i + 1) t.ops.length i (by omega) (by omega)] at hra
    rw [← drI_pre t x (i + 1) t.ops.length i (by omega) (by omega)] at hda
    generalize ho : t.ops.getD i ⟨0, 0, 0, 0⟩ = o at hop hra hda
    have hs := filI_set (rGI t x) zI t.ops.length i _ rfl
    have rget : ∀ j, j < i → ((ivC (filI (rGI t x) zI t.ops.length i)).drop (j * 2)).take 2 = [fl (rGI t x j).1, fl (rGI t x j).2] := fun j hj => by
      rw [ivC_two _ j (by omega), filI_get _ _ _ _ _ (by omega), if_pos hj]
    generalize filI (rGI t x) zI t.ops.length i = R at hrl hs rget
    refine evx (And.intro @opG.eq_1 (And.intro ho @opsD.eq_1)) ?_
    (repeat (with_reducible refine And.intro (by omega) ?_))
    (repeat (with_reducible refine And.intro (by omega) ?_))
    (repeat (with_reducible refine And.intro (by omega) ?_))
    rcases hop with hk | ⟨hk, ha⟩ | ⟨hk, ha, hb⟩
    · refine evx hk ?_
      refine callG_con (r2_Point_con o.c) rfl ?_
      refine ev ?_
      (repeat (with_reducible refine And.intro (by omega) ?_))
      have e : pt o.c = rGI t x i := by rw [rGI, hra]; simp [opI, hk]
      rw [ivC_put _ _ _ _ (by omega), wrapI (by omega) (by omega)]
      have e' : (o.c, o.c) = rGI t x i := e
      rw [e', hs]
      rw [sloI_const _ _ _ _ _ hk] at hda
      exact ⟨c - 1, _, by omega, r4I_next t x i _ _ hda (by simp), i + 1, by omega, rfl⟩
    · refine evbx (And.intro hk (And.intro (outC_set_self t.ops.length (dGI t x) i (V.sl 19 0 0 t.n 2 (t.n * 2)) h) (And.intro @ivD.eq_1 @ivG_eq))) ?_
      repeat (with_reducible refine And.intro (by omega) ?_)
      refine callSG_con (r2_Point_con 4607182418800017408) rfl ?_
      refine ev ?_
      repeat (with_reducible refine And.intro (by omega) ?_)
      have e1 : x.getD o.a.toNat (0, 0) = rGI t x i := by rw [rGI, hra]; simp [opI, hk, mG]
      have q1 := ivC_put (List.replicate t.n (0, 0)) o.a.toNat 4607182418800017408 4607182418800017408 (by rw [List.length_replicate]; omega)
      have q2 := ivC_put R i (rGI t x i).1 (rGI t x i).2 (by omega)
      rw [sloI_var _ _ _ _ _ hk ha] at hda
      have hda' : (drI t x t.ops.length).getD i [] = (List.replicate t.n (0, 0)).set o.a.toNat (4607182418800017408, 4607182418800017408) := hda
      rw [wrapI (by omega) (by omega), e1, q1, q2, hs]
      exact ⟨c - 1, _, by omega, r4I_next t x i _ _ hda' (by simp), i + 1, by omega, rfl⟩
    · have r1 := rget o.a.toNat (by omega)
      have r2 := rget o.b.toNat (by omega)
      have p1 := regI_pre t x i t.ops.length o.a.toNat (by omega) (by omega)
      have p2 := regI_pre t x i t.ops.length o.b.toNat (by omega) (by omega)
      have hvv : opI o x (regI t x i) = rGI t x i := by rw [rGI, hra]
      rw [hvv] at hda
      have hk4 := hk
      rcases hk with hk | hk | hk | hk
      · refine evbx (And.intro hk (And.intro r1 r2)) ?_
        repeat (with_reducible refine And.intro (by omega) ?_)
        refine callG_con (r2_Add_con (rGI t x o.a.toNat) (rGI t x o.b.toNat)) rfl ?_
        have e : ivAdd (rGI t x o.a.toNat) (rGI t x o.b.toNat) = rGI t x i := by
          rw [← hvv]; unfold rGI; rw [p1, p2]; simp [opI, hk]
        rw [e]
        refine ev ?_
        repeat (with_reducible refine And.intro (by omega) ?_)
        rw [ivC_put _ _ _ _ (by omega), hs, ← hk]
        refine r4I_L1 t x i o _ ht.n hlen h hk4 ha hb rfl _ ?_
        refine ev ?_
        rw [wrapI (by omega) (by omega)]
        exact ⟨c - 1, _, by omega, r4I_next t x i _ _ hda (tabI_len _ _), i + 1, by omega, rfl⟩
      · refine evbx (And.intro hk (And.intro r1 r2)) ?_
        repeat (with_reducible refine And.intro (by omega) ?_)
        refine callG_con (r2_Sub_con (rGI t x o.a.toNat) (rGI t x o.b.toNat)) rfl ?_
        have e : ivSub (rGI t x o.a.toNat) (rGI t x o.b.toNat) = rGI t x i := by
          rw [← hvv]; unfold rGI; rw [p1, p2]; simp [opI, hk]
        rw [e]
        refine ev ?_
        repeat (with_reducible refine And.intro (by omega) ?_)
        rw [ivC_put _ _ _ _ (by omega), hs, ← hk]
        refine r4I_L1 t x i o _ ht.n hlen h hk4 ha hb rfl _ ?_
        refine ev ?_
        rw [wrapI (by omega) (by omega)]
        exact ⟨c - 1, _, by omega, r4I_next t x i _ _ hda (tabI_len _ _), i + 1, by omega, rfl⟩
      · refine evbx (And.intro hk (And.intro r1 r2)) ?_
        repeat (with_reducible refine And.intro (by omega) ?_)
        refine callG_con (r2_Mul_con (rGI t x o.a.toNat) (rGI t x o.b.toNat)) rfl ?_
        have e : ivMul (rGI t x o.a.toNat) (rGI t x o.b.toNat) = rGI t x i := by
          rw [← hvv]; unfold rGI; rw [p1, p2]; simp [opI, hk]
        rw [e]
        refine ev ?_
        repeat (with_reducible refine And.intro (by omega) ?_)
        rw [ivC_put _ _ _ _ (by omega), hs, ← hk]
        refine r4I_L1 t x i o _ ht.n hlen h hk4 ha hb rfl _ ?_
        refine ev ?_
        rw [wrapI (by omega) (by omega)]
        exact ⟨c - 1, _, by omega, r4I_next t x i _ _ hda (tabI_len _ _), i + 1, by omega, rfl⟩
      · refine evbx (And.intro hk (And.intro r1 r2)) ?_
        repeat (with_reducible refine And.intro (by omega) ?_)
        refine callG_con (r2_Div_con (rGI t x o.a.toNat) (rGI t x o.b.toNat)) rfl ?_
        have e : ivDiv (rGI t x o.a.toNat) (rGI t x o.b.toNat) = rGI t x i := by
          rw [← hvv]; unfold rGI; rw [p1, p2]; simp [opI, hk]
        rw [e]
        refine ev ?_
        repeat (with_reducible refine And.intro (by omega) ?_)
        rw [ivC_put _ _ _ _ (by omega), hs, ← hk]
        refine r4I_L1 t x i o _ ht.n hlen h hk4 ha hb rfl _ ?_
        refine ev ?_
        rw [wrapI (by omega) (by omega)]
        exact ⟨c - 1, _, by omega, r4I_next t x i _ _ hda (tabI_len _ _), i + 1, by omega, rfl⟩
  · replace h := of_decide_eq_false h
    have e : i = t.ops.length := by omega
    subst e
    refine ev ?_
    have hjl := jacI_len t x
    have hgl := ht.outl
    refine WA_forW (n := t.n) (fun c s => ∃ i, c + i = t.n ∧ s = ⟨[(2, .ptr 0 0 0 3), (6, .sl 8 0 0 t.ops.length 1 t.ops.length), (10, .sl 20 0 0 i 1 i), (11, fI i)],
      [(20, [dcells i fun j => [ivD ((jacI t x).getD j [])]]), (8, [outC t.ops.length (dGI t x) t.ops.length]), (4, [ivC (filI (rGI t x) zI t.ops.length t.ops.length)]), (0, [jtT t])]⟩)
      (s0 := ⟨_, _⟩) (LeT.nilrow (X := 20) (esz := 1) (as' := [(2, .ptr 0 0 0 3), (6, .sl 8 0 0 t.ops.length 1 t.ops.length), (10, .sl 20 0 0 0 1 0), (11, fI 0)]) (by simp [fam_cons, fam_nil]) (fun h => h) fun i => ?_) ⟨0, by omega, rfl⟩ ?_
    · simp only [look]
      repeat' split
      all_goals simp
    rintro c s ⟨i, hc, rfl⟩
    have hdl : (dcells i fun j => [ivD ((jacI t x).getD j [])]).length = i := by rw [dcells_len (esz := 1) i (fun _ _ => rfl)]; omega
    refine evx @A_r4_JacIv_L2.eq_1 ?_
    refine condC_intro (fun hi => ?_) (fun hi => ?_)
    · replace hi := of_decide_eq_true hi
      have hgo := ht.out i hi
      have hcell : (outC t.ops.length (dGI t x) t.ops.length).getD (t.out.getD i 0).toNat .any = .d (dGI t x (t.out.getD i 0).toNat) := by
        rw [outC_get, if_pos (by omega), if_pos (by omega)]
      have hjr : (jacI t x).getD i [] = (drI t x t.ops.length).getD (t.out.getD i 0).toNat [] := by
        unfold jacI
        rw [List.getD_eq_getElem?_getD, List.getElem?_map, List.getElem?_range hi]; rfl
      have hrl : ((jacI t x).getD i []).length = t.n := by rw [hjr]; exact drI_rows t x _ _ (by omega)
      have hdg : dGI t x (t.out.getD i 0).toNat = ivD ((jacI t x).getD i []) := by rw [hjr]; rfl
      rw [hdg] at hcell
      refine evx (And.intro hcell @srcCells_iv) ?_
      have hdl2 : (dcells i fun j => [D.bor ((jacI t x).getD j []).length (ivG ((jacI t x).getD j []))]).length = i := hdl
      (repeat (with_reducible refine And.intro (by omega) ?_))
      rw [hrl, wrapI (by omega) (by omega)]
      have hz : ∀ L L' : Heap, L.get 22 0 = some (ivC ((jacI t x).getD i [])) → L'.get 22 0 = none → Fz L L' (.sl 22 0 0 t.n 2 (t.n * 2)) (.d (ivD ((jacI t x).getD i []))) := fun L L' a b => Fz_ivs a hrl rfl b
      have hcf : ∀ (L L' : Heap) (ps : List Iv), FzA L L' (ivC ps) (ivC ps) := fun L L' ps => by rw [ivC_data]; exact FzA_data _
      have e3 : dcells (i + 1) (fun j => [D.bor ((jacI t x).getD j []).length (ivG ((jacI t x).getD j []))]) = (dcells i fun j => [D.bor ((jacI t x).getD j []).length (ivG ((jacI t x).getD j []))]) ++ [.d (ivD ((jacI t x).getD i []))] := by rw [dcells_succ]; rfl
      refine ⟨c - 1, _, by omega, ?_, i + 1, by omega, rfl⟩
      rw [e3]
      generalize (fun j => [D.bor ((jacI t x).getD j []).length (ivG ((jacI t x).getD j []))]) = G
      generalize (jacI t x).getD i [] = row at hz ⊢
      exact LeT.weak (fun _ h => h) (by simp (maxDischargeDepth := 6) [fzS]) (by simp (maxDischargeDepth := 6) [fzS, hz, hcf])
    · replace hi := of_decide_eq_false hi
      have e : i = t.n := by omega
      subst e
      refine ev ?_
      refine endsT_le (.sl 20 0 0 t.n 1 t.n) (fun _ h => h) (resV_tmpI (t := 4) (by decide) rfl) ?_
      unfold ivsD
      rw [jacI_len]
      exact .d (snapF_data (esz := 1) (fun Y q h => by simp [get_nil] at h) (by simp [get_cons]; rfl) (fun j hj => rfl) (by simp))
end Go.Ab
namespace Go.Ab
set_option linter.unusedSimpArgs false
set_option linter.unusedVariables false
open Nat renaming reduceEqDiff → n1_, reduceAdd → n2_, reduceMul → n3_, reduceLT → n4_, reduceLeDiff → n5_
open Int renaming reduceToNat → i1_, reduceAdd → i2_, reduceSub → i3_, reduceMul → i4_, reduceNeg → i5_, reduceLT → i6_, reduceLE → i7_
open Go Go.Proofs
def A_bound_point : CA := (.seq (.reg [i_X 0 2 (.alloc [(.d (.flt 0)), (.d (.flt 0))] 58)] [0, 2]) (.seq (.reg [i_M 0 3 0, i_M 1 4 0, i_X 2 5 (.h (.build [(.d (.flt 0)), (.d (.flt 0))] [(0, (1, (.t 3))), (1, (1, (.t 4)))])), i_S 3 2 5 2] [2]) .ret))
theorem A_bound_point_comp : compF Tryz.prog 80 = some ⟨6, [(2, (some (2, true)))], A_bound_point.strip⟩ := by kernel_rfl
def A_bound_greatest_api_Iv_see : CA := (.seq (.reg [i_X 0 4 (.box (.t 1) 2 58)] [0, 2, 4]) (.seq (.reg [i_M 0 7 2, i_A 1 8 4 2, i_X 2 9 (.callA (.t 7) [(.t 8)]), i_M 3 6 9] [0, 6]) (.seq (.reg [i_M 0 10 0, i_X 1 11 (.h (.nilck (.t 10))), i_P 2 12 11 1, i_L 3 13 12 1, i_X 4 14 (.h (.un .not (.t 13))), i_M 5 15 14, ⟨6, (some 16), (some (15, false)), [], [], (.h (.mov (.t 6)))⟩, ⟨7, (some 17), (some (15, false)), [], [], (.h (.mov (.t 0)))⟩, ⟨8, (some 18), (some (15, false)), [], [], (.h (.nilck (.t 17)))⟩, ⟨9, (some 19), (some (15, false)), [], [], (.h (.padd (.t 18) 0))⟩, ⟨10, (some 20), (some (15, false)), [], [], (.load (.t 19) 1 false)⟩, ⟨11, (some 21), (some (15, false)), [], [], (.h (.fcmp .gt (.t 16) (.t 20)))⟩, i_X 12 22 (.h (.pick (.t 15) (.k (.d (.bool true))) (.t 21)))] [0, 6, 22]) (.cond (.t 22) (.reg [i_M 0 23 0, i_M 1 24 0, i_M 2 25 6, i_X 3 26 (.h (.nilck (.t 23))), i_P 4 27 26 0, i_S 5 27 25 1, i_X 6 28 (.h (.nilck (.t 24))), i_P 7 29 28 1, ⟨8, none, none, [], [], (.store (.t 29) (.k (.d (.bool true))) 1)⟩] []) .skip))))
theorem A_bound_greatest_api_Iv_see_comp : compF Tryz.prog 78 = some ⟨30, [], A_bound_greatest_api_Iv_see.strip⟩ := by kernel_rfl
def A_bound_greatest_api_Model_see : CA := (.seq (.reg [i_X 0 4 (.box (.t 1) 20 87)] [0, 2, 4]) (.seq (.reg [i_M 0 7 2, i_A 1 8 4 20, i_X 2 9 (.callA (.t 7) [(.t 8)]), i_M 3 6 9] [0, 6]) (.seq (.reg [i_M 0 10 0, i_X 1 11 (.h (.nilck (.t 10))), i_P 2 12 11 1, i_L 3 13 12 1, i_X 4 14 (.h (.un .not (.t 13))), i_M 5 15 14, ⟨6, (some 16), (some (15, false)), [], [], (.h (.mov (.t 6)))⟩, ⟨7, (some 17), (some (15, false)), [], [], (.h (.mov (.t 0)))⟩, ⟨8, (some 18), (some (15, false)), [], [], (.h (.nilck (.t 17)))⟩, ⟨9, (some 19), (some (15, false)), [], [], (.h (.padd (.t 18) 0))⟩, ⟨10, (some 20), (some (15, false)), [], [], (.load (.t 19) 1 false)⟩, ⟨11, (some 21), (some (15, false)), [], [], (.h (.fcmp .gt (.t 16) (.t 20)))⟩, i_X 12 22 (.h (.pick (.t 15) (.k (.d (.bool true))) (.t 21)))] [0, 6, 22]) (.cond (.t 22) (.reg [i_M 0 23 0, i_M 1 24 0, i_M 2 25 6, i_X 3 26 (.h (.nilck (.t 23))), i_P 4 27 26 0, i_S 5 27 25 1, i_X 6 28 (.h (.nilck (.t 24))), i_P 7 29 28 1, ⟨8, none, none, [], [], (.store (.t 29) (.k (.d (.bool true))) 1)⟩] []) .skip))))
theorem A_bound_greatest_api_Model_see_comp : compF Tryz.prog 84 = some ⟨30, [], A_bound_greatest_api_Model_see.strip⟩ := by kernel_rfl
def A_bound_part_at_L0 : CA := (.seq (.seq (.reg [i_M 0 22 5, i_B 1 23 .geq 22 0] [1, 2, 4, 5, 23]) (.cond (.t 23) .skip (.exit 0))) (.seq (.block 1 (.reg [i_A 0 26 4 2, i_X 1 27 (.callS 1 (kF 80) [(.k (.d (.flt 13830554455654793216)))]), i_X 2 28 (.callS 0 (kF 125) [(.t 26), (.t 27)]), i_P 3 29 1 0, i_L 4 30 29 1, i_M 5 31 5, i_I 6 32 30 31 1, i_L 7 33 32 1, i_P 8 34 1 1, i_L 9 35 34 1, i_I 10 36 33 35 1, i_L 11 37 36 1, i_X 12 38 (.callA (kF 80) [(.t 37)]), i_X 13 39 (.callA (kF 92) [(.t 28), (.t 38)]), i_S 14 4 39 2] [1, 2, 4, 5])) (.reg [i_M 0 24 5, i_B 1 25 .sub 24 1, i_M 2 5 25] [1, 2, 4, 5])))
def A_bound_part_at : CA := (.seq (.reg [i_X 0 1 (.box (.t 0) 2 84), i_X 1 2 (.alloc [(.d (.flt 0)), (.d (.flt 0))] 58)] [1, 2]) (.seq (.reg [i_P 0 6 1 0, i_L 1 7 6 1, i_X 2 8 (.h (.len (.t 7))), i_B 3 9 .sub 8 1, i_M 4 3 9] [1, 2, 3]) (.seq (.reg [i_P 0 10 1 0, i_L 1 11 10 1, i_M 2 12 3, i_I 3 13 11 12 1, i_L 4 14 13 1, i_P 5 15 1 1, i_L 6 16 15 1, i_I 7 17 14 16 1, i_L 8 18 17 1, i_X 9 19 (.callS 0 (kF 80) [(.t 18)]), i_X 10 4 (.alloc [(.d (.flt 0)), (.d (.flt 0))] 58), i_S 11 4 19 2] [1, 2, 3, 4]) (.seq (.seq (.reg [i_M 0 20 3, i_B 1 21 .sub 20 1, i_M 2 5 21] [1, 2, 4, 5]) (.block 0 (.loop A_bound_part_at_L0))) (.seq (.reg [i_A 0 40 4 2, i_S 1 2 40 2] [2]) .ret)))))
theorem A_bound_part_at_comp : compF Tryz.prog 77 = some ⟨41, [(2, (some (2, true)))], A_bound_part_at.strip⟩ := by kernel_rfl
def A_bound_part_model_L0 : CA := (.seq (.reg [i_N 0 10 .lss 9 8] [1, 2, 3, 7, 8, 9, 10]) (.seq (.cond (.t 10) .skip (.exit 0)) (.seq (.block 1 (.seq (.reg [i_I 0 11 7 9 1, i_L 1 12 11 1, i_M 2 5 12] [1, 2, 3, 5, 7, 8, 9]) (.reg [i_M 0 13 3, i_M 1 14 5, i_P 2 15 1 1, i_L 3 16 15 1, i_I 4 17 14 16 1, i_L 5 18 17 1, i_X 6 19 (.bslice [(.d (.flt 0))] 1 1 [(0, (1, (.t 18)))] 31), i_X 7 20 (.app (.t 13) (.t 19) 1 8), i_M 8 3 20] [1, 2, 3, 7, 8, 9]))) (.reg [i_B 0 21 .add 9 1, i_M 1 9 21] [1, 2, 3, 7, 8, 9]))))
def A_bound_part_model : CA := (.seq (.reg [i_X 0 1 (.box (.t 0) 2 84), i_X 1 2 (.alloc z_20 87)] [1, 2]) (.seq (.reg [i_X 0 3 (.h (.mov (.k .nil)))] [1, 2, 3]) (.seq (.seq (.reg [i_P 0 6 1 0, i_L 1 7 6 1, i_X 2 8 (.h (.len (.t 7))), i_K 3 9 0] [1, 2, 3, 7, 8, 9]) (.block 0 (.loop A_bound_part_model_L0))) (.seq (.reg [i_M 0 22 3, i_X 1 23 (.callA (kF 76) [(.t 22)]), i_S 2 2 23 20] [2]) .ret))))
theorem A_bound_part_model_comp : compF Tryz.prog 36 = some ⟨24, [(2, (some (20, true)))], A_bound_part_model.strip⟩ := by kernel_rfl
def A_bound_part_slope_L0 : CA := (.seq (.reg [i_N 0 13 .lss 12 11] [1, 2, 4, 5, 11, 12, 13]) (.seq (.cond (.t 13) .skip (.exit 0)) (.seq (.block 1 (.seq (.reg [i_M 0 14 12, i_M 1 6 14] [1, 2, 4, 5, 6, 11, 12]) (.reg [i_M 0 15 6, i_M 1 16 6, i_B 2 17 .add 16 1, i_X 3 18 (.h (.i2f (.t 17))), i_X 4 19 (.callS 0 (kF 80) [(.t 18)]), i_P 5 20 2 0, i_L 6 21 20 1, i_M 7 22 6, i_B 8 23 .add 22 1, i_I 9 24 21 23 1, i_L 10 25 24 1, i_P 11 26 2 1, i_L 12 27 26 1, i_I 13 28 25 27 1, i_L 14 29 28 1, i_X 15 30 (.callA (kF 80) [(.t 29)]), i_X 16 31 (.callA (kF 125) [(.t 19), (.t 30)]), i_M 17 32 1, i_X 18 33 (.callA (kF 80) [(.t 32)]), i_X 19 34 (.callA (kF 131) [(.t 31), (.t 33)]), i_P 20 35 5 0, i_X 21 36 (.h (.idxa (.t 35) (.t 15) 9 2)), i_S 22 36 34 2] [1, 2, 4, 5, 11, 12]))) (.reg [i_B 0 37 .add 12 1, i_M 1 12 37] [1, 2, 4, 5, 11, 12]))))
def A_bound_part_slope : CA := (.seq (.reg [i_X 0 2 (.box (.t 0) 2 84), i_X 1 4 (.alloc z_20 87)] [1, 2, 4]) (.seq (.reg [i_X 0 7 (.callA (kF 76) [(.k .nil)]), i_X 1 5 (.alloc z_20 87), i_S 2 5 7 20] [1, 2, 4, 5]) (.seq (.seq (.reg [i_P 0 8 2 0, i_L 1 9 8 1, i_X 2 10 (.h (.len (.t 9))), i_B 3 11 .sub 10 1, i_K 4 12 0] [1, 2, 4, 5, 11, 12]) (.block 0 (.loop A_bound_part_slope_L0))) (.seq (.reg [i_A 0 38 5 20, i_S 1 4 38 20] [4]) .ret))))
theorem A_bound_part_slope_comp : compF Tryz.prog 83 = some ⟨39, [(4, (some (20, true)))], A_bound_part_slope.strip⟩ := by kernel_rfl
def A_bound_parts_L0 : CA := (.seq (.reg [i_N 0 11 .lss 10 9] [1, 3, 9, 10, 11]) (.seq (.cond (.t 11) .skip (.exit 0)) (.seq (.block 1 (.seq (.reg [i_M 0 12 10, i_M 1 4 12] [1, 3, 4, 9, 10]) (.reg [i_M 0 13 3, i_P 1 14 1 4, i_L 2 15 14 1, i_M 3 16 4, i_X 4 17 (.h (.build [.nil, (.d (.int .i64 0))] [(0, (1, (.t 15))), (1, (1, (.t 16)))])), i_X 5 18 (.bslice [.nil, (.d (.int .i64 0))] 1 2 [(0, (2, (.t 17)))] 84), i_X 6 19 (.app (.t 13) (.t 18) 2 32), i_M 7 3 19] [1, 3, 9, 10]))) (.reg [i_B 0 20 .add 10 1, i_M 1 10 20] [1, 3, 9, 10]))))
def A_bound_parts : CA := (.seq (.reg [i_X 0 1 (.box (.t 0) 5 37), i_X 1 2 (.h (.mov (.k .nil)))] [1]) (.seq (.reg [i_X 0 3 (.h (.mov (.k .nil)))] [1, 3]) (.seq (.seq (.reg [i_P 0 5 1 4, i_L 1 6 5 1, i_X 2 7 (.h (.idx (.t 6) (kI 0) 1)), i_L 3 8 7 1, i_X 4 9 (.h (.len (.t 8))), i_K 5 10 0] [1, 3, 9, 10]) (.block 0 (.loop A_bound_parts_L0))) (.seq (.reg [i_M 0 21 3, i_M 1 2 21] [2]) .ret))))
theorem A_bound_parts_comp : compF Tryz.prog 35 = some ⟨22, [(2, none)], A_bound_parts.strip⟩ := by kernel_rfl
def A_bound_jump_L0 : CA := (.seq (.reg [i_N 0 12 .lss 11 10] [1, 5, 6, 9, 10, 11, 12]) (.seq (.cond (.t 12) .skip (.exit 0)) (.seq (.block 1 (.seq (.reg [i_M 0 13 11, i_I 1 14 9 11 2, i_A 2 15 14 2, i_X 3 8 (.alloc [.nil, (.d (.int .i64 0))] 84), i_M 4 7 13, i_S 5 8 15 2] [1, 5, 6, 7, 8, 9, 10, 11]) (.reg [i_M 0 16 6, i_A 1 17 8 2, i_X 2 18 (.callS 0 (.t 16) [(.t 17)]), i_M 3 19 1, i_M 4 20 7, i_I 5 21 19 20 1, i_L 6 22 21 1, i_X 7 23 (.callA (kF 80) [(.t 22)]), i_X 8 24 (.callA (kF 79) [(.t 18), (.t 23)]), i_X 9 25 (.callA (kF 78) [(.t 5), (.t 24), (kF 81)])] [1, 5, 6, 9, 10, 11]))) (.reg [i_B 0 26 .add 11 1, i_M 1 11 26] [1, 5, 6, 9, 10, 11]))))
def A_bound_jump : CA := (.seq (.reg [i_X 0 4 (.h (.mov (.k (.d (.flt 0)))))] [0, 1]) (.seq (.reg [i_X 0 5 (.alloc [(.d (.flt 0)), (.d (.bool false))] 126)] [0, 1, 5]) (.seq (.reg [i_X 0 6 (.h (.mov (kF 77)))] [0, 1, 5, 6]) (.seq (.seq (.reg [i_M 0 9 0, i_X 1 10 (.h (.len (.t 9))), i_K 2 11 0] [1, 5, 6, 9, 10, 11]) (.block 0 (.loop A_bound_jump_L0))) (.seq (.reg [i_P 0 27 5 0, i_L 1 28 27 1, i_M 2 4 28] [4]) .ret)))))
theorem A_bound_jump_comp : compF Tryz.prog 37 = some ⟨29, [(4, none)], A_bound_jump.strip⟩ := by kernel_rfl
def A_bound_defect_L0 : CA := (.seq (.reg [i_N 0 20 .lss 19 18] [3, 9, 10, 11, 17, 18, 19, 20]) (.seq (.cond (.t 20) .skip (.exit 0)) (.seq (.block 1 (.seq (.reg [i_M 0 21 19, i_I 1 22 17 19 2, i_A 2 23 22 2, i_X 3 13 (.alloc [.nil, (.d (.int .i64 0))] 84), i_M 4 12 21, i_S 5 13 23 2] [3, 9, 10, 11, 12, 13, 17, 18, 19]) (.reg [i_M 0 24 10, i_M 1 25 12, i_I 2 26 24 25 20, i_A 3 27 26 20, i_M 4 28 11, i_A 5 29 13 2, i_M 6 30 3, i_X 7 31 (.callS 7 (.t 28) [(.t 29), (.t 30)]), i_X 8 32 (.callA (kF 85) [(.t 27), (.t 31)]), i_X 9 33 (.callA (kF 84) [(.t 9), (.t 32), (kF 86)])] [3, 9, 10, 11, 17, 18, 19]))) (.reg [i_B 0 34 .add 19 1, i_M 1 19 34] [3, 9, 10, 11, 17, 18, 19]))))
def A_bound_defect : CA := (.seq (.reg [i_X 0 4 (.box (.t 0) 3 28), i_X 1 8 (.h (.mov (.k (.d (.flt 0)))))] [1, 2, 3, 4]) (.seq (.reg [i_X 0 9 (.alloc [(.d (.flt 0)), (.d (.bool false))] 132)] [1, 2, 3, 4, 9]) (.seq (.reg [i_A 0 14 4 3, i_M 1 15 2, i_X 2 16 (.callA (kF 82) [(.t 14), (.t 15)]), i_M 3 10 16] [1, 3, 9, 10]) (.seq (.reg [i_X 0 11 (.h (.mov (kF 83)))] [1, 3, 9, 10, 11]) (.seq (.seq (.reg [i_M 0 17 1, i_X 1 18 (.h (.len (.t 17))), i_K 2 19 0] [3, 9, 10, 11, 17, 18, 19]) (.block 0 (.loop A_bound_defect_L0))) (.seq (.reg [i_P 0 35 9 0, i_L 1 36 35 1, i_M 2 8 36] [8]) .ret))))))
theorem A_bound_defect_comp : compF Tryz.prog 38 = some ⟨37, [(8, none)], A_bound_defect.strip⟩ := by kernel_rfl
def A_bound_defect_1 : CA := (.seq (.reg [i_X 0 1 (.box (.t 0) 20 87), i_X 1 2 (.h (.mov (.k (.d (.flt 0)))))] [1]) (.seq (.reg [i_A 0 3 1 20, i_X 1 4 (.callA (kF 87) [(.t 3)]), i_X 2 5 (.callA (kF 81) [(.t 4)]), i_M 3 2 5] [2]) .ret))
theorem A_bound_defect_1_comp : compF Tryz.prog 86 = some ⟨6, [(2, none)], A_bound_defect_1.strip⟩ := by kernel_rfl
def A_bound_tube_L0 : CA := (.seq (.reg [i_N 0 11 .lss 10 9] [1, 5, 8, 9, 10, 11]) (.seq (.cond (.t 11) .skip (.exit 0)) (.seq (.block 1 (.seq (.reg [i_I 0 12 8 10 20, i_A 1 13 12 20, i_X 2 7 (.alloc z_20 87), i_S 3 7 13 20] [1, 5, 7, 8, 9, 10]) (.reg [i_M 0 14 5, i_A 1 15 7 20, i_X 2 16 (.callA (kF 87) [(.t 15)]), i_M 3 17 1, i_X 4 18 (.h (.un .neg (.t 17))), i_M 5 19 1, i_X 6 20 (.callA (kF 93) [(.t 18), (.t 19)]), i_X 7 21 (.callA (kF 92) [(.t 16), (.t 20)]), i_X 8 22 (.bslice [(.d (.flt 0)), (.d (.flt 0))] 1 2 [(0, (2, (.t 21)))] 58), i_X 9 23 (.app (.t 14) (.t 22) 2 16), i_M 10 5 23] [1, 5, 8, 9, 10]))) (.reg [i_B 0 24 .add 10 1, i_M 1 10 24] [1, 5, 8, 9, 10]))))
def A_bound_tube : CA := (.seq (.reg [i_X 0 4 (.h (.mov (.k .nil)))] [0, 1]) (.seq (.reg [i_X 0 5 (.h (.mov (.k .nil)))] [0, 1, 5]) (.seq (.seq (.reg [i_M 0 8 0, i_X 1 9 (.h (.len (.t 8))), i_K 2 10 0] [1, 5, 8, 9, 10]) (.block 0 (.loop A_bound_tube_L0))) (.seq (.reg [i_M 0 25 5, i_M 1 4 25] [4]) .ret))))
theorem A_bound_tube_comp : compF Tryz.prog 41 = some ⟨26, [(4, none)], A_bound_tube.strip⟩ := by kernel_rfl
def A_bound_inside_L0 : CA := (.seq (.reg [i_N 0 10 .lss 9 8] [1, 7, 8, 9, 10]) (.seq (.cond (.t 10) .skip (.exit 0)) (.seq (.block 1 (.seq (.reg [i_M 0 11 9, i_I 1 12 7 9 2, i_A 2 13 12 2, i_X 3 6 (.alloc [(.d (.flt 0)), (.d (.flt 0))] 58), i_M 4 5 11, i_S 5 6 13 2] [1, 5, 6, 7, 8, 9]) (.seq (.reg [i_A 0 14 6 2, i_M 1 15 1, i_M 2 16 5, i_I 3 17 15 16 2, i_A 4 18 17 2, i_X 5 19 (.callA (kF 94) [(.t 14), (.t 18)]), i_X 6 20 (.h (.un .not (.t 19)))] [1, 7, 8, 9, 20]) (.cond (.t 20) (.seq (.reg [i_X 0 4 (.h (.mov (.k (.d (.bool false)))))] [4]) .ret) .skip)))) (.reg [i_B 0 21 .add 9 1, i_M 1 9 21] [1, 7, 8, 9]))))
def A_bound_inside : CA := (.seq (.reg [i_X 0 4 (.h (.mov (.k (.d (.bool false)))))] [0, 1]) (.seq (.seq (.reg [i_M 0 7 0, i_X 1 8 (.h (.len (.t 7))), i_K 2 9 0] [1, 7, 8, 9]) (.block 0 (.loop A_bound_inside_L0))) (.seq (.reg [i_X 0 4 (.h (.mov (.k (.d (.bool true)))))] [4]) .ret)))
theorem A_bound_inside_comp : compF Tryz.prog 42 = some ⟨22, [(4, none)], A_bound_inside.strip⟩ := by kernel_rfl
def A_bound_growth : CA := (.seq (.reg [i_X 0 4 (.h (.mov (.k (.d (.flt 0)))))] [0, 1]) (.seq (.seq (.reg [i_M 0 5 1, i_X 1 6 (.h (.fcmp .le (.t 5) (.k (.d (.flt 0)))))] [0, 1, 6]) (.cond (.t 6) (.seq (.reg [i_X 0 4 (.h (.mov (.k (.d (.flt 4607182418800017408)))))] [4]) .ret) .skip)) (.seq (.reg [i_M 0 7 0, i_M 1 8 1, i_F 2 9 .mul 7 8, i_X 3 10 (.callA (kF 40) [(.t 9)]), i_X 4 11 (.callA (kF 98) [(.t 10)]), i_X 5 12 (.h (.mm true (.k (.d (.flt 4607182418800017408))) (.t 11))), i_M 6 4 12] [4]) .ret)))
theorem A_bound_growth_comp : compF Tryz.prog 45 = some ⟨13, [(4, none)], A_bound_growth.strip⟩ := by kernel_rfl
theorem bound_point_con (x : Nat) : Con Tryz.prog 80 [fl x] (ivV (pt x)) := by
  refine Con_introA A_bound_point_comp rfl mixed ?_
  refine evx @A_bound_point.eq_1 ?_
  exact endsT_retm rfl (by decide) rfl rfl rfl (by simp) (by simp [ldv, pt])
def gr (m : Nat) (s : Bool) (n : Nat) : Nat := if s = true then (if fcmp .gt n m = true then n else m) else n
set_option maxRecDepth 8000 in
theorem see_iv_ac (m : Nat) (s : Bool) (n : Nat) (p : Iv) (sz : Nat) (hsz : Con Tryz.prog sz [ivV p] (fl n)) (z : D) (i : Int) : AC Tryz.prog 78 [.ptr 0 0 0 2, ivV p, .d (.fn sz [] [])] [(4, [[.d z, fI i]]), (0, [[fl m, fB s]])]
    [(4, [[.d z, fI i]]), (0, [[fl (gr m s n), fB true]])] (.tup []) := by
  refine AC_introA A_bound_greatest_api_Iv_see_comp rfl mixed (fun X => X = 4 ∨ X = 0) ?_ ?_
  · intro X q
    simp only [get_cons, get_nil]
    grind
  refine evx @A_bound_greatest_api_Iv_see.eq_1 ?_
  refine callG_con (hsz) rfl ?_
  unfold gr
  cases s
  · refine ev ?_
    show EndsT _ _ _ _ _ _ _
    exact endsT_onlyN (fun X => X == 4 || X == 0) (fun X h => by simp; omega) rfl rfl (by simp [kpS]) (by simp [kpS])
  · refine ev ?_
    refine condC_intro (fun h => ?_) (fun h => ?_)
    · refine evx h ?_
      show EndsT _ _ _ _ _ _ _
      exact endsT_onlyN (fun X => X == 4 || X == 0) (fun X h => by simp; omega) rfl rfl (by simp [kpS]) (by simp [kpS])
    · refine evx h ?_
      show EndsT _ _ _ _ _ _ _
      exact endsT_onlyN (fun X => X == 4 || X == 0) (fun X h => by simp; omega) rfl rfl (by simp [kpS]) (by simp [kpS])
set_option maxRecDepth 8000 in
theorem see_md_ac (m : Nat) (s : Bool) (n : Nat) (p : Md) (hp : p.length = 10) (sz : Nat) (hsz : Con Tryz.prog sz [mdV p] (fl n)) (z : D) (i : Int) (c0 : List V) (hc0 : ∀ L, KpA L c0) : AC Tryz.prog 84 [.ptr 1 0 0 2, mdV p, .d (.fn sz [] [])] [(5, [[.d z, fI i]]), (1, [[fl m, fB s]]), (0, [c0])]
    [(5, [[.d z, fI i]]), (1, [[fl (gr m s n), fB true]]), (0, [c0])] (.tup []) := by
  refine AC_introA A_bound_greatest_api_Model_see_comp rfl mixed (fun X => X = 5 ∨ X = 1 ∨ X = 0) ?_ ?_
  · intro X q
    simp only [get_cons, get_nil]
    grind
  refine evx (And.intro @A_bound_greatest_api_Model_see.eq_1 (ivC_20 p hp)) ?_
  (repeat (with_reducible refine And.intro (by omega) ?_))
  first | refine callG_con (hsz) (by simp [bare_d, ivC_bare]) ?_ | refine callCG_con (hsz) (by simp [bare_d, ivC_bare]) ?_ | refine callSG_con (hsz) (by simp [bare_d, ivC_bare]) ?_
  unfold gr
  cases s
  · refine ev ?_
    show EndsT _ _ _ _ _ _ _
    exact endsT_onlyN (fun X => X == 5 || X == 1 || X == 0) (fun X h => by simp; omega) rfl rfl (by simp [kpS]) (by simp (maxDischargeDepth := 6) [kpS, fam_cons, fam_nil, hc0])
  · refine ev ?_
    refine condC_intro (fun h => ?_) (fun h => ?_)
    · refine evx h ?_
      show EndsT _ _ _ _ _ _ _
      exact endsT_onlyN (fun X => X == 5 || X == 1 || X == 0) (fun X h => by simp; omega) rfl rfl (by simp [kpS]) (by simp (maxDischargeDepth := 6) [kpS, fam_cons, fam_nil, hc0])
    · refine evx h ?_
      show EndsT _ _ _ _ _ _ _
      exact endsT_onlyN (fun X => X == 5 || X == 1 || X == 0) (fun X h => by simp; omega) rfl rfl (by simp [kpS]) (by simp (maxDischargeDepth := 6) [kpS, fam_cons, fam_nil, hc0])
abbrev ptV (Z : List (List Nat)) (i : Nat) : V := .agg [.d (rowsD Z), fI i]
def ptG (Z : List (List Nat)) (i : Nat) : List D := [rowsD Z, .int .i64 i]
def ptD (Z : List (List Nat)) (n : Nat) : D := .bor n (ptG Z)
theorem valK_next (c : List Nat) (s k : Nat) : valK c s (k + 1) = ivAdd (ivMul (valK c s k) (pt s)) (pt (c.getD (c.length - 2 - k) 0)) := rfl
set_option maxRecDepth 8000 in
theorem part_at_con (Z : List (List Nat)) (m n i : Nat) (hZ : Rk (m + 1) n Z) (hi : i < n) (hm : m < 1000) : Con Tryz.prog 77 [ptV Z i] (ivV (valC (colT Z i) negW)) := by
  have hl := hZ.1
  have hcl := colT_len Z i
  have hr := fun k h => hZ.2 k h
  have hca := fun k h => colT_at Z i k h
  unfold valC
  rw [hcl, hl, show m + 1 - 1 = m from rfl]
  refine Con_introA A_bound_part_at_comp rfl mixed ?_
  refine evx @A_bound_part_at.eq_1 ?_
  have w1 : IntKind.i64.wrap ((Z.length : Int) - 1) = (m : Int) := by rw [wrapI (by omega) (by omega)]; omega
  have r0 := hr m (by omega)
  refine evx (And.intro @rowsD.eq_1 (And.intro @rowsG.eq_1 w1)) ?_
  (repeat (with_reducible refine And.intro (by omega) ?_))
  refine callSG_con (bound_point_con ((Z.getD m []).getD i 0)) rfl ?_
  refine ev ?_
  have e0 : valK (colT Z i) negW 0 = pt ((Z.getD m []).getD i 0) := by rw [valK, hcl, hl, show m + 1 - 1 = m from rfl, hca m (by omega)]
  rw [← e0]
  have e5 : IntKind.i64.wrap ((m : Int) - 1) = (m : Int) - 1 - ((0 : Nat) : Int) := by rw [wrapI (by omega) (by omega)]; omega
  rw [e5]
  refine WA_forW (n := m) (fun c s => ∃ k, c + k = m ∧ s = ⟨[(1, .ptr 0 0 0 2), (2, .ptr 1 0 0 2), (4, .ptr 12 0 0 2), (5, fI ((m : Int) - 1 - (k : Int)))],
    [(12, [[fl (valK (colT Z i) negW k).1, fl (valK (colT Z i) negW k).2]]), (1, [[fl 0, fl 0]]), (0, [[.d (rowsD Z), fI i]])]⟩) (Le.refl _) ⟨0, by omega, rfl⟩ ?_
  rintro c s ⟨k, hc, rfl⟩
  refine evx @A_bound_part_at_L0.eq_1 ?_
  refine condC_intro (fun h => ?_) (fun h => ?_)
  · replace h := of_decide_eq_true h
    obtain ⟨j, hj⟩ : ∃ j : Nat, (m : Int) - 1 - (k : Int) = j := ⟨m - 1 - k, by omega⟩
    have hj2 : j = (colT Z i).length - 2 - k := by omega
    have rj := hr j (by omega)
    rw [hj]
    refine evx (And.intro @rowsD.eq_1 @rowsG.eq_1) ?_
    refine callSG_con (bound_point_con 13830554455654793216) rfl ?_
    refine ev ?_
    refine callSG_con (iv_Mul_con (valK (colT Z i) negW k) (pt 13830554455654793216)) rfl ?_
    refine evx (And.intro @rowsD.eq_1 @rowsG.eq_1) ?_
    (repeat (with_reducible refine And.intro (by omega) ?_))
    refine callG_con (bound_point_con ((Z.getD j []).getD i 0)) rfl ?_
    refine ev ?_
    refine callG_con (iv_Add_con (ivMul (valK (colT Z i) negW k) (pt 13830554455654793216)) (pt ((Z.getD j []).getD i 0))) rfl ?_
    have e1 : ivAdd (ivMul (valK (colT Z i) negW k) (pt 13830554455654793216)) (pt ((Z.getD j []).getD i 0)) = valK (colT Z i) negW (k + 1) := by
      rw [valK_next, ← hj2, hca j (by omega)]; rfl
    rw [e1]
    refine ev ?_
    rw [show IntKind.i64.wrap ((j : Int) - 1) = (m : Int) - 1 - ((k + 1 : Nat) : Int) by rw [wrapI (by omega) (by omega)]; omega]
    exact ⟨c - 1, _, by omega, Le.refl _, k + 1, by omega, rfl⟩
  · replace h := of_decide_eq_false h
    obtain rfl : k = m := by omega
    refine ev ?_
    exact endsT_retm rfl (by decide) rfl rfl rfl (by simp) (by simp [ldv])
theorem colT_tab (Z : List (List Nat)) (i : Nat) : tabR (fun k => (Z.getD k []).getD i 0) Z.length = colT Z i := by
  refine List.ext_getElem (by simp [tabR_len, colT]) fun k h1 h2 => ?_
  rw [tabR_len] at h1
  simp [tabR, colT, List.getD_eq_getElem?_getD, h1]
set_option maxRecDepth 8000 in
theorem part_model_con (Z : List (List Nat)) (m n i : Nat) (hZ : Rk (m + 1) n Z) (hi : i < n) (hm : m < 1000) : Con Tryz.prog 36 [ptV Z i] (mdV (ofM (colT Z i))) := by
  have hl := hZ.1
  have hcl := colT_len Z i
  have hr := fun k h => hZ.2 k h
  rw [← colT_tab]
  refine Con_introA A_bound_part_model_comp rfl mixed ?_
  refine evx @A_bound_part_model.eq_1 ?_
  have hz0 : ∀ L : Heap, KpA L [.d (rowsD Z), fI i] := fun L => by rw [KpA_cons, KpA_cons]; exact ⟨Kp_d _, Kp_d _, KpA_nil⟩
  refine WA_forW (n := m + 1) (fun c s => ∃ k, c + k = m + 1 ∧ s = ⟨[(1, .ptr 0 0 0 2), (2, .ptr 1 0 0 20), (3, .sl 100 0 0 k 1 k), (7, .d (rowsD Z)), (8, fI Z.length), (9, fI k)],
    [(100, [rowV (tabR (fun k => (Z.getD k []).getD i 0) k)]), (1, [ivC (List.replicate 10 (0, 0))]), (0, [[.d (rowsD Z), fI i]])]⟩) (s0 := ⟨_, _⟩)
    (LeT.nilrow (X := 100) (esz := 1) (as' := [(1, .ptr 0 0 0 2), (2, .ptr 1 0 0 20), (3, .sl 100 0 0 0 1 0), (7, .d (rowsD Z)), (8, fI Z.length), (9, fI 0)]) (by simp [fam_cons, fam_nil]) (fun h => h) fun i => ?_) ⟨0, by omega, rfl⟩ ?_
  · simp only [look]
    repeat' split
    all_goals simp [rowsD]
  rintro c s ⟨k, hc, rfl⟩
  have htl := tabR_len (fun k => (Z.getD k []).getD i 0) k
  refine evx @A_bound_part_model_L0.eq_1 ?_
  refine condC_intro (fun h => ?_) (fun h => ?_)
  · replace h := of_decide_eq_true h
    have hk : k < m + 1 := by omega
    have rk := hr k hk
    refine evx (And.intro @rowsD.eq_1 @rowsG.eq_1) ?_
    (repeat (with_reducible refine And.intro (by omega) ?_))
    have e : rowV (tabR (fun k => (Z.getD k []).getD i 0) k) ++ [fl ((Z.getD k []).getD i 0)] = rowV (tabR (fun k => (Z.getD k []).getD i 0) (k + 1)) := (tabR_succ _ _).symm
    rw [wrapI (by omega) (by omega), e]
    exact ⟨c - 1, _, by omega, LeT.only (fun X => decide (X ≤ 100)) (fun _ h => h) rfl (by simp (maxDischargeDepth := 6) [kpS, fam_cons, fam_nil, KpA_ivC']) (by simp (maxDischargeDepth := 6) [kpS, fam_cons, fam_nil, KpA_ivC']), k + 1, by omega, rfl⟩
  · replace h := of_decide_eq_false h
    obtain rfl : k = m + 1 := by omega
    rw [← hl] at htl ⊢
    refine ev ?_
    refine callG_snaps [.d (rowD (tabR (fun k => (Z.getD k []).getD i 0) Z.length))] (model_Of_con _ (by omega)) ⟨snp_row rfl (tabR_len _ _) rfl, trivial⟩ (scalar_iv _) ?_
    have hp := ofM_len (tabR (fun k => (Z.getD k []).getD i 0) Z.length)
    refine ev ?_
    (repeat (with_reducible refine And.intro (by omega) ?_))
    rw [splice_all _ _ (by rw [ivC_length, ivC_length, hp]; rfl)]
    exact endsT_ivs _ (by omega) (by decide) rfl rfl rfl
def sloF (c : List Nat) (h k : Nat) : Iv := ivDiv (ivMul (pt (FloatKind.nearest .f64 ((k : Int) + 1))) (pt (c.getD (k + 1) 0))) (pt h)
theorem sloM_fil (c : List Nat) (h m : Nat) (hc : c.length = m + 1) (hm : m < 9) : filI (sloF c h) zI 10 m = sloM c h := by
  refine List.ext_getElem (by simp [filI, sloM]) fun j h1 h2 => ?_
  simp only [filI, sloM, List.getElem_map, List.getElem_range, sloF]
  by_cases e : j < m
  · rw [if_pos e, if_pos (by omega)]
  · rw [if_neg e, if_neg (by omega)]
set_option maxRecDepth 8000 in
theorem part_slope_con (Z : List (List Nat)) (m n i h : Nat) (hZ : Rk (m + 1) n Z) (hi : i < n) (hm : m < 9) : Con Tryz.prog 83 [ptV Z i, fl h] (mdV (sloM (colT Z i) h)) := by
  have hl := hZ.1
  have hcl := colT_len Z i
  have hr := fun k h => hZ.2 k h
  have hca := fun k h => colT_at Z i k h
  have hfil := sloM_fil (colT Z i) h m (by omega) hm
  have e2 : ofM [] = List.replicate 10 (0, 0) := by rfl
  have w1 : IntKind.i64.wrap ((Z.length : Int) - 1) = (m : Int) := by rw [wrapI (by omega) (by omega)]; omega
  refine Con_introA A_bound_part_slope_comp rfl mixed ?_
  refine evx @A_bound_part_slope.eq_1 ?_
  refine callG_con (model_Of_nil_con) rfl ?_
  refine evx (And.intro @rowsD.eq_1 w1) ?_
  (repeat (with_reducible refine And.intro (by omega) ?_))
  rw [splice_all _ _ (by rw [ivC_length, ofM_len]; rfl), e2]
  refine ⟨rfl, ?_⟩
  refine WA_forW (n := m) (fun c s => ∃ k, c + k = m ∧ s = ⟨[(1, fl h), (2, .ptr 0 0 0 2), (4, .ptr 1 0 0 20), (5, .ptr 3 0 0 20), (11, fI m), (12, fI k)],
    [(3, [ivC (filI (sloF (colT Z i) h) zI 10 k)]), (1, [ivC (List.replicate 10 (0, 0))]), (0, [[.d (rowsD Z), fI i]])]⟩) (Le.refl _) ⟨0, by omega, rfl⟩ ?_
  rintro c s ⟨k, hc, rfl⟩
  have hfl := filI_len (sloF (colT Z i) h) zI 10 k
  refine evx @A_bound_part_slope_L0.eq_1 ?_
  refine condC_intro (fun h2 => ?_) (fun h2 => ?_)
  · replace h2 := of_decide_eq_true h2
    have hk : k < m := by omega
    have rk := hr (k + 1) (by omega)
    have w2 : IntKind.i64.wrap ((k : Int) + 1) = ((k + 1 : Nat) : Int) := by rw [wrapI (by omega) (by omega)]; omega
    refine evx (And.intro @rowsD.eq_1 (And.intro @rowsG.eq_1 w2)) ?_
    refine callSG_con (bound_point_con (FloatKind.nearest .f64 ((k + 1 : Nat) : Int))) rfl ?_
    refine evx (And.intro @rowsD.eq_1 (And.intro @rowsG.eq_1 w2)) ?_
    (repeat (with_reducible refine And.intro (by omega) ?_))
    refine callG_con (bound_point_con ((Z.getD (k + 1) []).getD i 0)) rfl ?_
    refine ev ?_
    refine callG_con (iv_Mul_con (pt (FloatKind.nearest .f64 ((k + 1 : Nat) : Int))) (pt ((Z.getD (k + 1) []).getD i 0))) rfl ?_
    refine ev ?_
    refine callG_con (bound_point_con h) rfl ?_
    refine ev ?_
    refine callG_con (iv_Div_con (ivMul (pt (FloatKind.nearest .f64 ((k + 1 : Nat) : Int))) (pt ((Z.getD (k + 1) []).getD i 0))) (pt h)) rfl ?_
    have e1 : ivDiv (ivMul (pt (FloatKind.nearest .f64 ((k + 1 : Nat) : Int))) (pt ((Z.getD (k + 1) []).getD i 0))) (pt h) = sloF (colT Z i) h k := by
      unfold sloF; rw [hca (k + 1) (by omega)]; rfl
    rw [e1]
    refine evx w2 ?_
    (repeat (with_reducible refine And.intro (by omega) ?_))
    rw [ivC_put _ _ _ _ (by omega), filI_set _ _ _ _ _ rfl]
    exact ⟨c - 1, _, by omega, LeT.only (fun X => decide (X ≤ 3)) (fun _ h => h) rfl (by simp (maxDischargeDepth := 6) [kpS, fam_cons, fam_nil, KpA_ivC']) (by simp (maxDischargeDepth := 6) [kpS, fam_cons, fam_nil, KpA_ivC']), k + 1, by omega, rfl⟩
  · replace h2 := of_decide_eq_false h2
    obtain rfl : k = m := by omega
    rw [hfil] at hfl ⊢
    simp -implicitDefEqProofs only [evI, hv, effC, reduceCtorEq, ↓reduceIte, n1_, n2_, n3_, n4_, n5_, i1_, i2_, i3_, i4_, i5_, i6_, i7_, ivC_20 _ hfl]
    (repeat (with_reducible refine And.intro (by omega) ?_))
    rw [splice_all _ _ (by rw [ivC_length, ivC_length, hfl]; rfl)]
    exact endsT_ivs _ (by omega) (by decide) rfl rfl rfl
set_option maxRecDepth 8000 in
theorem bound_parts_con (v : Nd) (n : Nat) (hl : 0 < v.z.length) (hz : (v.z.getD 0 []).length = n) (hn : n < 2 ^ 40) : Con Tryz.prog 35 [ndV v] (.d (ptD v.z n)) := by
  refine Con_introA A_bound_parts_comp rfl mixed ?_
  refine evx @A_bound_parts.eq_1 ?_
  (repeat (with_reducible refine And.intro (by omega) ?_))
  refine WA_forW (n := n) (fun c s => ∃ k, c + k = n ∧ s = ⟨[(1, .ptr 0 0 0 5), (3, .sl 100 0 0 k 2 (k * 2)), (9, fI (v.z.getD 0 []).length), (10, fI k)],
    [(100, [dcells k (ptG v.z)]), (0, [ndC v])]⟩) (s0 := ⟨_, _⟩)
    (LeT.nilrow (X := 100) (esz := 2) (as' := [(1, .ptr 0 0 0 5), (3, .sl 100 0 0 0 2 0), (9, fI (v.z.getD 0 []).length), (10, fI 0)]) (by simp [fam_cons, fam_nil]) (fun h => h) fun i => ?_) ⟨0, by omega, rfl⟩ ?_
  · simp only [look]
    repeat' split
    all_goals simp
  rintro c s ⟨k, hc, rfl⟩
  have hdl : (dcells k (ptG v.z)).length = k * 2 := dcells_len k fun _ _ => rfl
  refine evx @A_bound_parts_L0.eq_1 ?_
  refine condC_intro (fun h => ?_) (fun h => ?_)
  · replace h := of_decide_eq_true h
    refine ev ?_
    (repeat (with_reducible refine And.intro (by omega) ?_))
    have e : dcells k (ptG v.z) ++ [.d (.bor v.z.length (rowsG v.z)), .d (.int .i64 (k : Int))] = dcells (k + 1) (ptG v.z) := by rw [dcells_succ]; rfl
    rw [e, wrapI (by omega) (by omega), show k * 2 + 2 = (k + 1) * 2 by omega]
    exact ⟨c - 1, _, by omega, LeT.only (fun X => decide (X ≤ 100)) (fun _ h => h) rfl (by simp [kpS]) (by simp [kpS]), k + 1, by omega, rfl⟩
  · replace h := of_decide_eq_false h
    obtain rfl : k = n := by omega
    refine ev ?_
    refine endsT_le (.sl 100 0 0 k 2 (k * 2)) (fun _ h => h) (resV_tmpI (t := 2) (by decide) rfl) ?_
    exact .d (snapF_data (esz := 2) (fun Y q h => by simp [get_nil] at h) (by simp [get_cons]) (fun j hj => rfl) rfl)
theorem bestF_gr (f : Nat → Nat) (k : Nat) : gr (if k = 0 then 0 else bestF f (k - 1)) (decide (0 < k)) (f k) = bestF f k := by
  rcases k with _ | k
  · rfl
  · rw [if_neg (by omega), Nat.add_sub_cancel, decide_eq_true (by omega)]; rfl
set_option maxRecDepth 8000 in
theorem bound_jump_con (Z : List (List Nat)) (y : List Nat) (m n : Nat) (hZ : Rk (m + 1) n Z) (hy : y.length = n) (hn : 0 < n ∧ n < 2 ^ 40) (hm : m < 1000) : Con Tryz.prog 37 [.d (ptD Z n), .d (rowD y)] (fl (bestF (jmpI Z y) (n - 1))) := by
  refine Con_introA A_bound_jump_comp rfl mixed ?_
  refine evx @A_bound_jump.eq_1 ?_
  refine evx @ptD.eq_1 ?_
  refine WA_forW (n := n) (fun c s => ∃ k, c + k = n ∧ s = ⟨[(1, .d (rowD y)), (5, .ptr 0 0 0 2), (6, .d (.fn 77 [] [])), (9, .d (ptD Z n)), (10, fI n), (11, fI k)],
    [(0, [[fl (if k = 0 then 0 else bestF (jmpI Z y) (k - 1)), fB (decide (0 < k))]])]⟩) (Le.refl _) ⟨0, by omega, rfl⟩ ?_
  rintro c s ⟨k, hc, rfl⟩
  refine evx (And.intro @A_bound_jump_L0.eq_1 @ptD.eq_1) ?_
  refine condC_intro (fun h => ?_) (fun h => ?_)
  · replace h := of_decide_eq_true h
    have hk : k < n := by omega
    refine evx @ptG.eq_1 ?_
    (repeat (with_reducible refine And.intro (by omega) ?_))
    refine callSG_con (part_at_con Z m n k hZ hk hm) rfl ?_
    refine ev ?_
    (repeat (with_reducible refine And.intro (by omega) ?_))
    refine callG_con (bound_point_con (y.getD k 0)) rfl ?_
    refine ev ?_
    refine callG_con (iv_Sub_con (valC (colT Z k) negW) (pt (y.getD k 0))) rfl ?_
    refine ev ?_
    refine callG_ac (see_iv_ac _ _ (jmpI Z y k) (ivSub (valC (colT Z k) negW) (pt (y.getD k 0))) 81 (iv_Mag_con _) (rowsD Z) k) ?_
    rw [bestF_gr]
    refine ev ?_
    rw [wrapI (by omega) (by omega)]
    refine ⟨c - 1, _, by omega, LeT.only (fun X => X == 0) (fun _ h => h) rfl (by simp [kpS]) (by simp [kpS]), k + 1, by omega, ?_⟩
    rw [if_neg (by omega), Nat.add_sub_cancel, decide_eq_true (by omega : 0 < k + 1)]
    rfl
  · replace h := of_decide_eq_false h
    obtain rfl : k = n := by omega
    rw [if_neg (by omega)]
    refine ev ?_
    exact endsT_rett rfl (by decide) (by simp [look])
theorem defect1_con (m : Md) (hm : m.length = 10) : Con Tryz.prog 86 [mdV m] (fl (ivMag (rngM m))) := by
  refine Con_introA A_bound_defect_1_comp rfl mixed ?_
  refine evx @A_bound_defect_1.eq_1 ?_
  refine evx (ivC_20 m hm) ?_
  (repeat (with_reducible refine And.intro (by omega) ?_))
  first | refine callG_con (model_Range_con m hm) (by simp [bare_d, ivC_bare]) ?_ | refine callCG_con (model_Range_con m hm) (by simp [bare_d, ivC_bare]) ?_ | refine callSG_con (model_Range_con m hm) (by simp [bare_d, ivC_bare]) ?_
  refine ev ?_
  refine callG_con (iv_Mag_con (rngM m)) rfl ?_
  refine ev ?_
  exact endsT_rett rfl (by decide) (by simp [look])
theorem sloM_len (c : List Nat) (h : Nat) : (sloM c h).length = 10 := by simp [sloM]
set_option maxRecDepth 8000 in
theorem bound_defect_con (t : Tp) (Z : List (List Nat)) (q : List Md) (h m n : Nat) (ht : Tok t) (htn : t.n = n) (hlen : t.ops.length < 2 ^ 39) (hZ : Rk (m + 1) n Z) (hq : q.length = n) (hqr : ∀ i, i < n → (q.getD i []).length = 10) (hn : 0 < n ∧ n < 2 ^ 40) (hm : m < 9) :
    Con Tryz.prog 38 [tapeV t, .d (ptD Z n), .d (mdD q), fl h] (fl (bestF (dftI t Z q h) (n - 1))) := by
  have hcon := model_Eval_con t q ht (by omega) (by rw [htn]; exact hqr) hlen
  have hel := evalM_len t q
  have her := evalM_rows t q ht (by rw [htn]; exact hqr)
  refine Con_introA A_bound_defect_comp rfl mixed ?_
  refine evx @A_bound_defect.eq_1 ?_
  refine callG_con (hcon) rfl ?_
  refine evx @ptD.eq_1 ?_
  refine WA_forW (n := n) (fun c s => ∃ k, c + k = n ∧ s = ⟨[(3, fl h), (9, .ptr 1 0 0 2), (10, .d (mdD (evalM t q))), (11, .d (.fn 83 [] [])), (17, .d (ptD Z n)), (18, fI n), (19, fI k)],
    [(1, [[fl (if k = 0 then 0 else bestF (dftI t Z q h) (k - 1)), fB (decide (0 < k))]]), (0, [[fI t.n, .d (opsD t.ops), .d (rowI t.out)]])]⟩) (Le.refl _) ⟨0, by omega, rfl⟩ ?_
  rintro c s ⟨k, hc, rfl⟩
  refine evx (And.intro @A_bound_defect_L0.eq_1 @ptD.eq_1) ?_
  refine condC_intro (fun h2 => ?_) (fun h2 => ?_)
  · replace h2 := of_decide_eq_true h2
    have hk : k < n := by omega
    have hp := her k (by omega)
    have hgm := mdG_len (evalM t q) k hp
    simp -implicitDefEqProofs only [evI, hv, effC, reduceCtorEq, ↓reduceIte, n1_, n2_, n3_, n4_, n5_, i1_, i2_, i3_, i4_, i5_, i6_, i7_, ptG, mdD, mdG_map, hgm, ivC_20 _ hp]
    (repeat (with_reducible refine And.intro (by omega) ?_))
    refine callSG_con (part_slope_con Z m n k h hZ hk hm) rfl ?_
    refine ev ?_
    first | refine callG_con (model_Sub_con ((evalM t q).getD k []) (sloM (colT Z k) h) hp (sloM_len _ _)) (by simp [bare_d, ivC_bare]) ?_ | refine callCG_con (model_Sub_con ((evalM t q).getD k []) (sloM (colT Z k) h) hp (sloM_len _ _)) (by simp [bare_d, ivC_bare]) ?_ | refine callSG_con (model_Sub_con ((evalM t q).getD k []) (sloM (colT Z k) h) hp (sloM_len _ _)) (by simp [bare_d, ivC_bare]) ?_
    refine ev ?_
    refine callG_ac (see_md_ac _ _ (dftI t Z q h k) (zipM ivSub ((evalM t q).getD k []) (sloM (colT Z k) h)) (zipM_len _ _ _) 86 (defect1_con _ (zipM_len _ _ _)) (rowsD Z) k _ (fun L => by simp [KpA_cons, KpA_nil, Kp_d])) ?_
    rw [bestF_gr]
    refine ev ?_
    rw [wrapI (by omega) (by omega)]
    refine ⟨c - 1, _, by omega, LeT.only (fun X => X == 0 || X == 1) (fun _ h => h) rfl (by simp [kpS]) (by simp [kpS]), k + 1, by omega, ?_⟩
    rw [if_neg (by omega), Nat.add_sub_cancel, decide_eq_true (by omega : 0 < k + 1)]
    rfl
  · replace h2 := of_decide_eq_false h2
    obtain rfl : k = n := by omega
    rw [if_neg (by omega)]
    refine ev ?_
    exact endsT_rett rfl (by decide) (by simp [look])
theorem xor_sign {r : Nat} (h : Pw r) : cf (r ^^^ 9223372036854775808) = 9223372036854775808 + r := by
  unfold Pw at h
  have e : r ^^^ 9223372036854775808 = 9223372036854775808 + r := by
    have h2 : 9223372036854775808 + r = 2 ^ 63 ||| r := by
      have := Nat.two_pow_add_eq_or_of_lt (i := 63) (b := r) (by omega) 1
      simpa using this
    rw [h2, show (9223372036854775808 : Nat) = 2 ^ 63 from rfl]
    refine Nat.eq_of_testBit_eq fun i => ?_
    rw [Nat.testBit_xor, Nat.testBit_or, Nat.testBit_two_pow]
    by_cases hi : 63 = i
    · subst hi
      have : r.testBit 63 = false := Nat.testBit_lt_two_pow (by omega)
      simp [this]
    · simp [hi]
  rw [e]
  refine cf_not ?_
  unfold isNan
  simp only [decide_eq_false_iff_not]
  omega
theorem neg_iv {r : Nat} (h : Pw r) (h0 : 0 < r) : ivMake (cf (r ^^^ 9223372036854775808)) r = (fop .sub 0 r, r) := by
  obtain ⟨h1, h2⟩ := neg_Pw h h0
  rw [xor_sign h, h1]
  unfold ivMake
  rw [if_pos h2]
set_option maxRecDepth 8000 in
theorem bound_tube_con (q : List Md) (r n : Nat) (hq : q.length = n) (hqr : ∀ i, i < n → (q.getD i []).length = 10) (hn : n < 2 ^ 40) (hr : Pw r) (h0 : 0 < r) : Con Tryz.prog 41 [.d (mdD q), fl r] (.d (ivD (tabI (tubI q r) n))) := by
  have htl := tabI_len (tubI q r) n
  refine Con_introA A_bound_tube_comp rfl mixed ?_
  refine evx @A_bound_tube.eq_1 ?_
  refine evx @mdD.eq_1 ?_
  refine WA_forW (n := n) (fun c s => ∃ k, c + k = n ∧ s = ⟨[(1, fl r), (5, .sl 100 0 0 k 2 (k * 2)), (8, .d (mdD q)), (9, fI q.length), (10, fI k)], [(100, [ivC (tabI (tubI q r) k)])]⟩) (s0 := ⟨_, _⟩)
    (LeT.nilrow (X := 100) (esz := 2) (as' := [(1, fl r), (5, .sl 100 0 0 0 2 0), (8, .d (mdD q)), (9, fI q.length), (10, fI 0)]) (by simp [fam_cons, fam_nil]) (fun h => h) fun i => ?_) ⟨0, by omega, rfl⟩ ?_
  · simp only [look]
    repeat' split
    all_goals simp [mdD]
  rintro c s ⟨k, hc, rfl⟩
  have hkl := tabI_len (tubI q r) k
  refine evx (And.intro @A_bound_tube_L0.eq_1 @mdD.eq_1) ?_
  refine condC_intro (fun h => ?_) (fun h => ?_)
  · replace h := of_decide_eq_true h
    have hk : k < n := by omega
    have hp := hqr k hk
    have hgm := mdG_len q k hp
    simp -implicitDefEqProofs only [evI, hv, effC, reduceCtorEq, ↓reduceIte, n1_, n2_, n3_, n4_, n5_, i1_, i2_, i3_, i4_, i5_, i6_, i7_, mdG_map, hgm, ivC_20 _ hp, ivC_len20 _ hp, splice_z20 _ hp]
    (repeat (with_reducible refine And.intro (by omega) ?_))
    first | refine callG_con (model_Range_con (q.getD k []) hp) (by simp [bare_d, ivC_bare]) ?_ | refine callCG_con (model_Range_con (q.getD k []) hp) (by simp [bare_d, ivC_bare]) ?_ | refine callSG_con (model_Range_con (q.getD k []) hp) (by simp [bare_d, ivC_bare]) ?_
    refine ev ?_
    refine callG_con (iv_Make_con (cf (r ^^^ 9223372036854775808)) r) rfl ?_
    rw [neg_iv hr h0]
    refine ev ?_
    refine callG_con (iv_Add_con (rngM (q.getD k [])) (fop .sub 0 r, r)) rfl ?_
    refine ev ?_
    (repeat (with_reducible refine And.intro (by omega) ?_))
    have e : ivAdd (rngM (q.getD k [])) (fop .sub 0 r, r) = tubI q r k := rfl
    rw [e, wrapI (by omega) (by omega), ivC_tabI, show k * 2 + 2 = (k + 1) * 2 by omega]
    exact ⟨c - 1, _, by omega, LeT.only (fun X => X == 100) (fun _ h => h) rfl (by simp (maxDischargeDepth := 6) [kpS, fam_cons, fam_nil, KpA_ivC']) (by simp (maxDischargeDepth := 6) [kpS, fam_cons, fam_nil, KpA_ivC']), k + 1, by omega, rfl⟩
  · replace h := of_decide_eq_false h
    obtain rfl : k = n := by omega
    refine ev ?_
    refine endsT_le (.sl 100 0 0 k 2 (k * 2)) (fun _ h => h) (resV_tmpI (t := 4) (by decide) rfl) ?_
    exact .d (snap_iv (fun Y q h => by simp [get_nil] at h) (by simp [get_cons]) htl rfl)
def insL (l box : List Iv) (k : Nat) : Bool := (List.range k).all fun i => withinI (mG l i) (mG box i)
theorem insL_succ (l box : List Iv) (k : Nat) : insL l box (k + 1) = (insL l box k && withinI (mG l k) (mG box k)) := by simp [insL, List.range_succ]
theorem insL_false (l box : List Iv) (k n : Nat) (h : k ≤ n) (hf : insL l box k = false) : insL l box n = false := by
  induction n with
  | zero => obtain rfl : k = 0 := by omega
            exact hf
  | succ n ih =>
    by_cases e : k = n + 1
    · subst e; exact hf
    · rw [insL_succ, ih (by omega)]; rfl
set_option maxRecDepth 8000 in
theorem bound_inside_con (l box : List Iv) (n : Nat) (hl : l.length = n) (hb : n ≤ box.length) (hn : n < 2 ^ 40) : Con Tryz.prog 42 [.d (ivD l), .d (ivD box)] (fB (insL l box n)) := by
  refine Con_introA A_bound_inside_comp rfl mixed ?_
  refine evx @A_bound_inside.eq_1 ?_
  refine WA_forW (n := n) (fun c s => ∃ k, c + k = n ∧ insL l box k = true ∧ s = ⟨[(1, .d (ivD box)), (7, .d (ivD l)), (8, fI l.length), (9, fI k)], []⟩) (Le.refl _) ⟨0, by omega, rfl, rfl⟩ ?_
  rintro c s ⟨k, hc, hin, rfl⟩
  refine evx @A_bound_inside_L0.eq_1 ?_
  refine condC_intro (fun h => ?_) (fun h => ?_)
  · replace h := of_decide_eq_true h
    have hk : k < n := by omega
    have e := insL_succ l box k
    rw [hin] at e
    refine evx @ivG_eq ?_
    (repeat (with_reducible refine And.intro (by omega) ?_))
    refine callG_con (iv_Within_con (mG l k) (mG box k)) rfl ?_
    cases hw : withinI (mG l k) (mG box k)
    · rw [hw] at e
      refine ev ?_
      rw [insL_false l box (k + 1) n (by omega) e]
      exact endsT_rett rfl (by decide) (by simp [look])
    · rw [hw] at e
      refine ev ?_
      rw [wrapI (by omega) (by omega)]
      exact ⟨c - 1, _, by omega, LeT.only (fun X => false) (fun _ h => h) rfl (by simp [kpS]) (by simp [kpS]), k + 1, by omega, e, rfl⟩
  · replace h := of_decide_eq_false h
    obtain rfl : k = n := by omega
    refine ev ?_
    rw [hin]
    exact endsT_rett rfl (by decide) (by simp [look])
theorem max1 {g : Nat} (h : isNan g = false) : fmaxmin true 4607182418800017408 g = if fcmp .gt g 4607182418800017408 = true then g else 4607182418800017408 := by
  have f1 : fin 4607182418800017408 := ⟨false, 4503599627370496, -52, by decide +kernel⟩
  have r1 : Ieee.double.read 4607182418800017408 = .number false 4503599627370496 (-52) := by decide +kernel
  have rn : (Ieee.double.read 4607182418800017408).neg = false := by rw [r1]; rfl
  unfold fmaxmin fcmp
  simp only [rn]
  cases hd : Ieee.double.read g with
  | nan s t =>
    have : isNan g = true := by rw [← read_nan, hd]; rfl
    rw [this] at h; cases h
  | infinity s =>
    unfold Ieee.Format.order
    rw [hd, r1]
    cases s <;> simp [Ieee.Datum.order]
  | number s m i =>
    have fg : fin g := ⟨s, m, i, hd⟩
    rcases order_fin f1 fg with ⟨h1, e1⟩ | ⟨h1, e1⟩ | ⟨h1, e1⟩ <;> rcases order_fin fg f1 with ⟨h2, e2⟩ | ⟨h2, e2⟩ | ⟨h2, e2⟩ <;> first | (rw [e1, e2]; simp; done) | (exfalso; grind)
theorem ivMake_nan (lo hi : Nat) : isNan (ivMake lo hi).2 = false := by
  unfold ivMake
  split
  · rename_i h
    show isNan hi = false
    cases hn : isNan hi with
    | false => rfl
    | true =>
      unfold fcmp at h
      rw [order_none_r hn] at h
      simp at h
  · decide
theorem spanF_nan (l : List Nat) : ∀ lo hi, isNan (spanF l lo hi).2 = false := by
  induction l with
  | nil => intro lo hi; exact ivMake_nan _ _
  | cons x l ih =>
    intro lo hi
    unfold spanF
    split
    · decide
    · exact ih _ _
theorem ivExp_nan (x : Nat) : isNan (ivExp x) = false := by
  unfold ivExp
  split
  · decide
  · exact spanF_nan _ _ _
theorem bound_growth_con (h m : Nat) : Con Tryz.prog 45 [fl h, fl m] (fl (growF h m)) := by
  unfold growF
  rw [show oneW = 4607182418800017408 from rfl]
  refine Con_introA A_bound_growth_comp rfl mixed ?_
  refine evx @A_bound_growth.eq_1 ?_
  refine condC_intro (fun h2 => ?_) (fun h2 => ?_)
  · rw [if_pos h2]
    refine ev ?_
    exact endsT_rett rfl (by decide) (by simp [look])
  · rw [if_neg (by simp [h2])]
    refine ev ?_
    refine callG_con (fp_Up_con _) rfl ?_
    refine ev ?_
    refine callG_con (iv_Exp_con _) rfl ?_
    refine ev ?_
    rw [max1 (ivExp_nan _)]
    exact endsT_rett rfl (by decide) (by simp [look])
end Go.Ab
namespace Go.Ab
set_option linter.unusedSimpArgs false
set_option linter.unusedVariables false
open Go Go.Proofs
theorem ivMake_cw {lo hi : Nat} (h : cw hi) : cw (ivMake lo hi).2 := by
  unfold ivMake; split
  · exact h
  · exact .inr (.inl rfl)
theorem spanF_cw (l : List Nat) : ∀ lo hi, (∀ x ∈ l, cw x) → cw hi → cw (spanF l lo hi).2 := by
  induction l with
  | nil => intro lo hi _ h; exact ivMake_cw (up_cw h)
  | cons x l ih =>
    intro lo hi hl h
    unfold spanF
    split
    · exact .inr (.inl rfl)
    · refine ih _ _ (fun y hy => hl y (List.mem_cons_of_mem _ hy)) ?_
      split
      · exact hl x (List.mem_cons_self ..)
      · exact h
theorem ivAdd_cw (a b : Iv) : cw (ivAdd a b).2 := ivMake_cw (up_cw (fop_cw _ _ _))
theorem ivSub_cw (a b : Iv) : cw (ivSub a b).2 := ivMake_cw (up_cw (fop_cw _ _ _))
theorem ivMul_cw (a b : Iv) : cw (ivMul a b).2 := by
  refine spanF_cw _ _ _ (fun x hx => ?_) (fop_cw _ _ _)
  simp at hx
  rcases hx with rfl | rfl | rfl | rfl <;> exact fop_cw _ _ _
theorem ivDiv_cw (a b : Iv) : cw (ivDiv a b).2 := by
  unfold ivDiv; split
  · exact .inr (.inl rfl)
  · refine spanF_cw _ _ _ (fun x hx => ?_) (fop_cw _ _ _)
    simp at hx
    rcases hx with rfl | rfl | rfl | rfl <;> exact fop_cw _ _ _
theorem cw_oneW : cw oneW := .inr (.inr (.inr ⟨false, 4607182418800017408, by decide, by decide⟩))
theorem sloI_cw (o : OpN) (q : Iv) (r : List Iv) (dr : List (List Iv)) (k : Nat) : cw (sloI o q r dr k).2 := by
  unfold sloI
  repeat' split
  · exact cw_oneW
  · exact cw_zero
  · exact ivAdd_cw _ _
  · exact ivSub_cw _ _
  · exact ivAdd_cw _ _
  · exact ivDiv_cw _ _
theorem drI_cw (t : Tp) (x : List Iv) (i : Nat) : ∀ j k, cw (mG ((drI t x i).getD j []) k).2 := by
  induction i with
  | zero => intro j k; exact cw_zero
  | succ i ih =>
    intro j k
    have hl := drI_len t x i
    unfold drI
    by_cases h : j < i
    · rw [List.getD_eq_getElem?_getD, List.getElem?_append_left (by omega), ← List.getD_eq_getElem?_getD]
      exact ih j k
    · rw [List.getD_eq_getElem?_getD, List.getElem?_append_right (by omega), hl]
      by_cases h2 : j - i = 0
      · rw [h2]
        show cw (mG (tabI _ t.n) k).2
        by_cases hk : k < t.n
        · rw [mG_tabI _ _ _ hk]; exact sloI_cw _ _ _ _ _
        · have : mG (tabI (sloI (t.ops.getD i ⟨0, 0, 0, 0⟩) (opI (t.ops.getD i ⟨0, 0, 0, 0⟩) x (regI t x i)) (regI t x i) (drI t x i)) t.n) k = (0, 0) := by
            unfold mG
            rw [List.getD_eq_getElem?_getD, List.getElem?_eq_none (by rw [tabI_len]; omega)]; rfl
          rw [this]; exact cw_zero
      · rw [List.getElem?_eq_none (by simp; omega)]; exact cw_zero
theorem jacI_cw (t : Tp) (x : List Iv) : Jcw (jacI t x) := fun i => by
  unfold jacI
  by_cases h : i < t.n
  · rw [List.getD_eq_getElem?_getD, List.getElem?_map, List.getElem?_range h]
    exact drI_cw t x _ _ _
  · rw [List.getD_eq_getElem?_getD, List.getElem?_eq_none (by simp; omega)]; exact cw_zero
theorem jacI_rows (t : Tp) (x : List Iv) (ht : Tok t) (i : Nat) (h : i < t.n) : ((jacI t x).getD i []).length = t.n := by
  unfold jacI
  rw [List.getD_eq_getElem?_getD, List.getElem?_map, List.getElem?_range h]
  have := ht.out i h
  exact drI_rows t x _ _ (by omega)
theorem sqI_cw (y : Iv) (k : Nat) : cw (sqI y (k + 1)).2 := ivMul_cw _ _
theorem ivExp_cw (x : Nat) : cw (ivExp x) := by
  unfold ivExp; split
  · exact .inr (.inl rfl)
  · exact sqI_cw _ 9
theorem f1W : fin oneW := ⟨false, 4503599627370496, -52, by decide +kernel⟩
theorem v1W : val oneW = 1 := by
  have h : Ieee.double.read oneW = .number false 4503599627370496 (-52) := by decide +kernel
  rw [val_eq h]; decide +kernel
theorem cw_gt1 {x : Nat} (h : cw x) (hg : fcmp .gt x oneW = true) : Pw x ∧ 0 < x := by
  rcases h with rfl | rfl | rfl | ⟨s, r, hr, rfl⟩
  · have : fcmp .gt qnan oneW = false := by decide +kernel
    rw [this] at hg; cases hg
  · exact ⟨Nat.le_refl _, by decide⟩
  · have : fcmp .gt fninf oneW = false := by decide +kernel
    rw [this] at hg; cases hg
  · have hf := fin_word s r hr
    rw [fcmp_gt hf f1W, val_word s r hr, v1W] at hg
    have h0 := rv_nonneg r
    cases s
    · rw [word_false]
      unfold Pw
      refine ⟨by omega, ?_⟩
      rcases Nat.eq_zero_or_pos r with rfl | h1
      · rw [rv_zero] at hg; simp at hg; grind
      · exact h1
    · simp at hg; grind
theorem growF_Pw (h m : Nat) : Pw (growF h m) ∧ 0 < growF h m := by
  unfold growF
  split
  · exact ⟨by unfold Pw; decide, by decide⟩
  · split
    · rename_i h2; exact cw_gt1 (ivExp_cw _) h2
    · exact ⟨by unfold Pw; decide, by decide⟩
theorem Pw_pos {x : Nat} (h : x < 9218868437227405312) (h0 : 0 < x) : fin x ∧ 0 < val x := by
  refine ⟨Pw_fin h, ?_⟩
  rw [Pw_val h]
  have := rv_lt h0
  rwa [rv_zero] at this
theorem Pw_mul2 {x y : Nat} (hx : Pw x) (h0 : 0 < x) (hy : Pw y) (hy0 : 0 < y) : Pw (fop .mul x y) := by
  by_cases e : x = 9218868437227405312
  · subst e
    unfold fop Ieee.Format.mul
    simp only
    rcases Pw_read hy with ⟨n, j, h2⟩ | rfl
    · rw [read_inf, h2]
      have hn : n ≠ 0 := by
        rintro rfl
        by_cases e2 : y = 9218868437227405312
        · subst e2; rw [read_inf] at h2; cases h2
        · unfold Pw at hy
          have := (Pw_pos (by omega) hy0).2
          rw [val_eq h2] at this
          simp at this
      have e : Ieee.Datum.product (.infinity false) (.number false n j) = some (.infinity false) := by simp only [Ieee.Datum.product, hn, if_false, Bool.xor_self]
      rw [e]; exact Pw_some _ Pw_inf
    · rw [read_inf, show Ieee.Datum.product (.infinity false) (.infinity false) = some (.infinity false) from rfl]; exact Pw_some _ Pw_inf
  · unfold Pw at hx
    obtain ⟨f, v⟩ := Pw_pos (by omega) h0
    exact Pw_mul f (by unfold Pw; omega) v hy
theorem fabs_Pw {x : Nat} (h : finite (fabs x) = true) : Pw (fabs x) := by
  unfold finite at h
  simp only [Bool.and_eq_true, Bool.not_eq_true'] at h
  have hn := h.1
  unfold fabs at hn ⊢
  rw [isNan_cf] at hn
  rw [cf_not hn]
  have hb : bits0 x < 9223372036854775808 := Nat.mod_lt _ (by decide)
  unfold isNan at hn
  simp only [decide_eq_false_iff_not] at hn
  unfold Pw
  omega
theorem mag_Pw {p : Iv} (h : finite (ivMag p) = true) : Pw (ivMag p) := by
  unfold ivMag at h ⊢
  split at h
  · rename_i h1; rw [if_pos h1]; exact fabs_Pw h
  · rename_i h1; rw [if_neg h1]; exact fabs_Pw h
theorem bestF_is (f : Nat → Nat) (k : Nat) : ∃ i, i ≤ k ∧ bestF f k = f i := by
  induction k with
  | zero => exact ⟨0, Nat.le_refl _, rfl⟩
  | succ k ih =>
    rw [bestF]; split
    · exact ⟨k + 1, Nat.le_refl _, rfl⟩
    · obtain ⟨i, h, e⟩ := ih; exact ⟨i, by omega, e⟩
theorem hW_rng : ((List.range 60).all fun j => decide (0 < hW (2 ^ j)) && decide (hW (2 ^ j) < 9218868437227405312)) = true := by kernel_rfl
theorem hW_Pw (j : Nat) (h : j < 60) : 0 < hW (2 ^ j) ∧ hW (2 ^ j) < 9218868437227405312 := by
  have := List.all_eq_true.1 hW_rng j (by simpa using h)
  simpa using this
theorem four_Pw {x : Nat} (h : Pw x) : Pw (up (fop .mul 4616189618054758400 x)) ∧ 0 < up (fop .mul 4616189618054758400 x) := by
  obtain ⟨f, v⟩ := Pw_pos (x := 4616189618054758400) (by decide) (by decide)
  exact up_pos (Pw_mul f (by unfold Pw; decide) v h)
theorem bnd_begin {w j d h : Nat} (hw : Pw w) (hj : Pw j) (hd : Pw d) (h0 : 0 < h ∧ h < 9218868437227405312) :
    Pw (up (fop .add (up (fop .add w j)) (up (fop .mul h d)))) ∧ 0 < up (fop .add (up (fop .add w j)) (up (fop .mul h d))) := by
  obtain ⟨f, v⟩ := Pw_pos h0.2 h0.1
  exact up_pos (Pw_add (up_pos (Pw_add hw hj)).1 (up_pos (Pw_mul f (by unfold Pw; omega) v hd)).1)
theorem insK_eq (q : List Md) (box : List Iv) (r n : Nat) : insK q box r n = insL (tabI (tubI q r) n) box n := by
  unfold insK insL
  rw [Bool.eq_iff_iff, List.all_eq_true, List.all_eq_true]
  constructor <;> intro h i hi <;> have := h i hi <;> rw [List.mem_range] at hi <;> rw [mG_tabI _ _ _ hi] at * <;> exact this
end Go.Ab
namespace Go.Ab
set_option linter.unusedSimpArgs false
set_option linter.unusedVariables false
open Nat renaming reduceEqDiff → n1_, reduceAdd → n2_, reduceMul → n3_, reduceLT → n4_, reduceLeDiff → n5_
open Int renaming reduceToNat → i1_, reduceAdd → i2_, reduceSub → i3_, reduceMul → i4_, reduceNeg → i5_, reduceLT → i6_, reduceLE → i7_
open Go Go.Proofs
def A_bound_Step_L0 : CA := (.seq (.reg [i_N 0 30 .lss 29 28] [2, 3, 4, 8, 10, 11, 12, 27, 28, 29, 30]) (.seq (.cond (.t 30) .skip (.exit 0)) (.seq (.block 1 (.seq (.reg [i_I 0 31 27 29 2, i_A 1 32 31 2, i_X 2 14 (.alloc [.nil, (.d (.int .i64 0))] 84), i_S 3 14 32 2] [2, 3, 4, 8, 10, 11, 12, 14, 27, 28, 29]) (.reg [i_M 0 33 12, i_A 1 34 14 2, i_X 2 35 (.callA (kF 36) [(.t 34)]), i_X 3 36 (.bslice z_20 1 20 [(0, (20, (.t 35)))] 87), i_X 4 37 (.app (.t 33) (.t 36) 20 160), i_M 5 12 37] [2, 3, 4, 8, 10, 11, 12, 27, 28, 29]))) (.reg [i_B 0 38 .add 29 1, i_M 1 29 38] [2, 3, 4, 8, 10, 11, 12, 27, 28, 29]))))
def A_bound_Step_L1 : CA := (.seq (.reg [i_B 0 77 .lss 76 3] [4, 8, 10, 12, 15, 17, 18, 76, 77]) (.seq (.cond (.t 77) .skip (.exit 2)) (.seq (.block 3 (.seq (.reg [i_M 0 78 12, i_M 1 79 18, i_X 2 80 (.callA (kF 41) [(.t 78), (.t 79)]), i_M 3 19 80] [4, 8, 10, 12, 15, 17, 18, 19, 76]) (.seq (.seq (.reg [i_M 0 81 19, i_P 1 82 4 3, i_L 2 83 82 1, i_X 3 84 (.callA (kF 42) [(.t 81), (.t 83)]), i_X 4 85 (.h (.un .not (.t 84)))] [4, 8, 10, 12, 15, 17, 18, 19, 76, 85]) (.cond (.t 85) (.seq (.reg [i_X 0 86 (.h (.build z_5 [])), i_S 1 8 86 5, i_K 2 9 3] [8, 9]) .ret) .skip)) (.seq (.reg [i_P 0 87 4 0, i_A 1 88 87 3, i_M 2 89 19, i_X 3 90 (.callA (kF 44) [(.t 88), (.t 89)]), i_X 4 91 (.callA (kF 43) [(.t 90)]), i_P 5 92 15 2, i_S 6 92 91 1] [4, 8, 10, 12, 15, 17, 18, 76]) (.seq (.reg [i_M 0 93 10, i_P 1 94 15 2, i_L 2 95 94 1, i_X 3 96 (.callA (kF 45) [(.t 93), (.t 95)]), i_P 4 97 15 3, i_S 5 97 96 1] [4, 8, 10, 12, 15, 17, 18, 76]) (.seq (.reg [i_P 0 98 15 3, i_L 1 99 98 1, i_M 2 100 17, i_F 3 101 .mul 99 100, i_X 4 102 (.callA (kF 40) [(.t 101)]), i_M 5 20 102] [4, 8, 10, 12, 15, 17, 18, 20, 76]) (.seq (.seq (.reg [i_M 0 103 20, i_M 1 104 18, i_X 2 105 (.h (.fcmp .lt (.t 103) (.t 104)))] [4, 8, 10, 12, 15, 17, 20, 76, 105]) (.cond (.t 105) (.seq (.reg [i_M 0 106 20, i_P 1 107 15 4, i_S 2 107 106 1] [8, 15]) (.seq (.reg [i_A 0 108 15 5, i_S 1 8 108 5, i_K 2 9 0] [8, 9]) .ret)) .skip)) (.seq (.seq (.reg [i_M 0 109 20, i_X 1 110 (.callA (kF 39) [(.t 109)]), i_X 2 111 (.h (.un .not (.t 110)))] [4, 8, 10, 12, 15, 17, 20, 76, 111]) (.cond (.t 111) (.exit 2) .skip)) (.reg [i_M 0 112 20, i_X 1 113 (.h (.fbin .mul (.k (.d (.flt 4616189618054758400))) (.t 112))), i_X 2 114 (.callA (kF 40) [(.t 113)]), i_M 3 18 114] [4, 8, 10, 12, 15, 17, 18, 76]))))))))) (.reg [i_B 0 115 .add 76 1, i_M 1 76 115] [4, 8, 10, 12, 15, 17, 18, 76]))))
def A_bound_Step : CA := (.seq (.reg [i_X 0 4 (.box (.t 0) 13 33), i_X 1 5 (.box (.t 1) 5 37), i_X 2 8 (.alloc z_5 46), i_K 3 9 0] [2, 3, 4, 5, 8]) (.seq (.reg [i_P 0 21 5 1, i_L 1 22 21 1, i_X 2 23 (.h (.i2f (.t 22))), i_X 3 24 (.callA (kF 34) [(.t 23), (.k (.d (.int .i64 (-30))))]), i_M 4 10 24] [2, 3, 4, 5, 8, 10]) (.seq (.reg [i_A 0 25 5 5, i_X 1 26 (.callA (kF 35) [(.t 25)]), i_M 2 11 26] [2, 3, 4, 8, 10, 11]) (.seq (.reg [i_X 0 12 (.h (.mov (.k .nil)))] [2, 3, 4, 8, 10, 11, 12]) (.seq (.seq (.reg [i_M 0 27 11, i_X 1 28 (.h (.len (.t 27))), i_K 2 29 0] [2, 3, 4, 8, 10, 11, 12, 27, 28, 29]) (.block 0 (.loop A_bound_Step_L0))) (.seq (.reg [i_M 0 39 11, i_M 1 40 2, i_X 2 41 (.callS 0 (kF 37) [(.t 39), (.t 40)]), i_P 3 42 4 0, i_A 4 43 42 3, i_M 5 44 11, i_M 6 45 12, i_M 7 46 10, i_X 8 47 (.callS 0 (kF 38) [(.t 43), (.t 44), (.t 45), (.t 46)]), i_X 9 48 (.h (.build z_5 [(0, (1, (.t 41))), (1, (1, (.t 47)))])), i_X 10 15 (.alloc z_5 46), i_S 11 15 48 5] [3, 4, 8, 10, 12, 15]) (.seq (.seq (.reg [i_P 0 49 15 0, i_L 1 50 49 1, i_X 2 51 (.callA (kF 39) [(.t 50)]), i_X 3 52 (.h (.un .not (.t 51))), i_M 4 53 52, ⟨5, (some 54), (some (53, false)), [], [], (.h (.padd (.t 15) 1))⟩, ⟨6, (some 55), (some (53, false)), [], [], (.load (.t 54) 1 false)⟩, ⟨7, (some 56), (some (53, false)), [], [], (.callA (kF 39) [(.t 55)])⟩, ⟨8, (some 57), (some (53, false)), [], [], (.h (.un .not (.t 56)))⟩, i_X 9 58 (.h (.pick (.t 53) (.k (.d (.bool true))) (.t 57)))] [3, 4, 8, 10, 12, 15, 58]) (.cond (.t 58) (.seq (.reg [i_X 0 59 (.h (.build z_5 [])), i_S 1 8 59 5, i_K 2 9 7] [8, 9]) .ret) .skip)) (.seq (.reg [i_M 0 60 3, i_P 1 61 15 0, i_L 2 62 61 1, i_F 3 63 .add 60 62, i_X 4 64 (.callA (kF 40) [(.t 63)]), i_M 5 16 64] [4, 8, 10, 12, 15, 16]) (.seq (.reg [i_M 0 65 16, i_M 1 66 10, i_P 2 67 15 1, i_L 3 68 67 1, i_F 4 69 .mul 66 68, i_X 5 70 (.callA (kF 40) [(.t 69)]), i_F 6 71 .add 65 70, i_X 7 72 (.callA (kF 40) [(.t 71)]), i_M 8 17 72] [4, 8, 10, 12, 15, 17]) (.seq (.reg [i_M 0 73 17, i_X 1 74 (.h (.fbin .mul (.k (.d (.flt 4616189618054758400))) (.t 73))), i_X 2 75 (.callA (kF 40) [(.t 74)]), i_M 3 18 75] [4, 8, 10, 12, 15, 17, 18]) (.seq (.seq (.reg [i_K 0 76 0] [4, 8, 10, 12, 15, 17, 18, 76]) (.block 2 (.loop A_bound_Step_L1))) (.seq (.reg [i_X 0 116 (.h (.build z_5 [])), i_S 1 8 116 5, i_K 2 9 7] [8, 9]) .ret))))))))))))
theorem A_bound_Step_comp : compF Tryz.prog 17 = some ⟨117, [(8, (some (5, true))), (9, none)], A_bound_Step.strip⟩ := by kernel_rfl
abbrev bdV (b : Bnd) : V := .agg [fl b.jump, fl b.defect, fl b.norm, fl b.growth, fl b.bound]
theorem colsM_row (z : List (List Nat)) (n i : Nat) (h : i < n) : (colsM z n).getD i [] = ofM (colT z i) := by
  simp [colsM, List.getD_eq_getElem?_getD, h]
theorem colsM_rows (z : List (List Nat)) (n i : Nat) (h : i < n) : ((colsM z n).getD i []).length = 10 := by rw [colsM_row z n i h]; exact ofM_len _
structure Bok (p : Pb) (v : Nd) (y : List Nat) (w : Nat) : Prop where
  t : Tok p.t
  n : 0 < p.t.n
  len : p.t.ops.length < 2 ^ 39
  rk : Rk (v.order.toNat + 1) p.t.n v.z
  ord : v.order.toNat < 9
  step : ∃ j : Nat, j < 60 ∧ v.step = (2 ^ j : Nat)
  y : y.length = p.t.n
  w : Pw w
  box : p.box.length = p.t.n
theorem Fz_md {L L' : Heap} {Y r n : Nat} {q : List Md} (h : L.get Y r = some (dcells n (mdG q))) (hn : q.length = n) (hr : ∀ i, i < n → (q.getD i []).length = 10) (h' : L'.get Y r = none) : Fz L L' (.sl Y r 0 n 20 (n * 20)) (.d (mdD q)) := by
  unfold mdD
  rw [hn]
  exact .d (snapF_data (esz := 20) (fun Z q hZ e => by cases e; exact hZ h') h (fun j hj => mdG_len _ _ (hr j hj)) rfl)
def NilTo (v : V) : Sl → Sl → Prop
  | [], [] => True
  | (i, a) :: s, (j, b) :: s' => i = j ∧ (b = a ∨ (a = .nil ∧ b = v)) ∧ NilTo v s s'
  | _, _ => False
theorem NilTo.look {v : V} {s s' : Sl} (h : NilTo v s s') (i : Nat) : look s' i = look s i ∨ (look s i = .nil ∧ look s' i = v) := by
  induction s generalizing s' with
  | nil => cases s' with
    | nil => exact .inl rfl
    | cons u us => exact h.elim
  | cons p s ih => cases s' with
    | nil => exact h.elim
    | cons q s' =>
      obtain ⟨k, a⟩ := p
      obtain ⟨k', b⟩ := q
      obtain ⟨rfl, hv, h2⟩ := h
      simp only [Ab.look]
      split
      · exact hv
      · exact ih h2
abbrev bsS0 (y : List Nat) (w H : Nat) (Z : List (List Nat)) (n : Nat) (v : V) (k : Nat) : Sl := [(2, .d (rowD y)), (3, fl w), (4, .ptr 0 0 0 13), (8, .ptr 2 0 0 5), (10, fl H), (11, .d (ptD Z n)), (12, v), (27, .d (ptD Z n)), (28, fI n), (29, fI k)]
abbrev bsH (nd pb : List V) : Heap := [(2, [[fl 0, fl 0, fl 0, fl 0, fl 0]]), (1, [nd]), (0, [pb])]
set_option maxRecDepth 8000 in
theorem bstep_L0 (nd pb : List V) (hnd : ∀ L, KpA L nd) (hpb : ∀ L, KpA L pb) (hndF : ∀ L L', FzA L L' nd nd) (hpbF : ∀ L L', FzA L L' pb pb) (y : List Nat) (w H : Nat) (Z : List (List Nat)) (n m : Nat) (hk : Rk (m + 1) n Z) (hn : 0 < n ∧ n < 2 ^ 20) (ho : m < 9) (Q : Ex → T → Prop)
    (hQ : ∀ a, Q (.exit 0) ⟨bsS0 y w H Z n (.d (mdD (colsM Z n))) n ++ [(30, a)], bsH nd pb⟩) :
    WA Tryz.prog (fun _ => False) 117 (.loop A_bound_Step_L0) Q ⟨bsS0 y w H Z n .nil 0, bsH nd pb⟩ := by
  have hqr := colsM_rows Z n
  have hql := colsM_len Z n
  have hrow := colsM_row Z n
  refine WA_forW (n := n) (fun c s => ∃ k, c + k = n ∧ ((k < n ∧ s = ⟨bsS0 y w H Z n (.sl 100 0 0 k 20 (k * 20)) k, (100, [dcells k (mdG (colsM Z n))]) :: bsH nd pb⟩) ∨ (k = n ∧ s = ⟨bsS0 y w H Z n (.d (mdD (colsM Z n))) k, bsH nd pb⟩))) (s0 := ⟨_, _⟩)
    (LeT.nilrow (X := 100) (esz := 20) (as' := bsS0 y w H Z n (.sl 100 0 0 0 20 0) 0) (by simp [fam_cons, fam_nil]) (fun h => h) (NilTo.look ?_)) ⟨0, by omega, .inl ⟨by omega, rfl⟩⟩ ?_
  · repeat (first | exact trivial | refine ⟨rfl, .inl rfl, ?_⟩ | refine ⟨rfl, .inr ⟨rfl, rfl⟩, ?_⟩)
  rintro c s ⟨k, hc, ⟨hkn, rfl⟩ | ⟨hkn, rfl⟩⟩
  · have hcl : (dcells k (mdG (colsM Z n))).length = k * 20 := dcells_len k fun j hj => mdG_len _ _ (hqr j (by omega))
    have hpo := ofM_len (colT Z k)
    refine evx (And.intro @A_bound_Step_L0.eq_1 @ptD.eq_1) ?_
    have h2 : decide (k < n) = true := decide_eq_true (by omega)
    refine evx (And.intro h2 @ptG.eq_1) ?_
    (repeat (with_reducible refine And.intro (by omega) ?_))
    refine callG_con (part_model_con Z m n k hk hkn (by omega)) rfl ?_
    simp -implicitDefEqProofs only [evI, hv, effC, reduceCtorEq, ↓reduceIte, n1_, n2_, n3_, n4_, n5_, i1_, i2_, i3_, i4_, i5_, i6_, i7_, ivC_len20 _ hpo, splice_z20 _ hpo, ivC_20 _ hpo]
    (repeat (with_reducible refine And.intro (by omega) ?_))
    have e : dcells k (mdG (colsM Z n)) ++ ivC (ofM (colT Z k)) = dcells (k + 1) (mdG (colsM Z n)) := by rw [dcells_succ, ivC_data, mdG, hrow k hkn]
    rw [e, wrapI (by omega) (by omega), show k * 20 + 20 = (k + 1) * 20 by omega]
    by_cases hlast : k + 1 = n
    · have hz : ∀ L : Heap, L.get 100 0 = some (dcells (k + 1) (mdG (colsM Z n))) → Fz L (bsH nd pb) (.sl 100 0 0 (k + 1) 20 ((k + 1) * 20)) (.d (mdD (colsM Z n))) := fun L a => Fz_md a (by omega) (fun i hi => hqr i (by omega)) (by simp [get_cons, get_nil])
      have hpt : ∀ L L' : Heap, Fz L L' (.d (.bor n (ptG Z))) (.d (ptD Z n)) := fun L L' => .d (.d _)
      refine ⟨c - 1, _, by omega, ?_, k + 1, by omega, .inr ⟨hlast, rfl⟩⟩
      have hz2 := hz ((107, [ivC (ofM (colT Z k))]) :: (103, [[.d (.bor Z.length (rowsG Z)), .d (.int .i64 (k : Int))]]) :: (100, [dcells (k + 1) (mdG (colsM Z n))]) :: bsH nd pb) (by simp [get_cons])
      exact LeT.weak (fun _ h => h) (by simp (maxDischargeDepth := 6) [fzS, hpt, hz2]) (by simp (maxDischargeDepth := 6) [fzS, hpt, hndF, hpbF])
    · refine ⟨c - 1, _, by omega, LeT.only (fun X => decide (X ≤ 100)) (fun _ h => h) rfl (by simp (maxDischargeDepth := 6) [kpS, fam_cons, fam_nil, hnd, hpb]) (by simp (maxDischargeDepth := 6) [kpS, fam_cons, fam_nil, hnd, hpb]), k + 1, by omega, .inl ⟨by omega, rfl⟩⟩
  · subst hkn
    refine evx (And.intro @A_bound_Step_L0.eq_1 (And.intro @ptD.eq_1 @Nat.lt_irrefl)) ?_
    exact hQ _
abbrev bsS1 (h e r : Nat) (q : List Md) (k : Nat) : Sl := [(4, .ptr 0 0 0 13), (8, .ptr 2 0 0 5), (10, fl h), (12, .d (mdD q)), (15, .ptr 13 0 0 5), (17, fl e), (18, fl r), (76, fI k)]
abbrev bsH1 (nd : List V) (p : Pb) (od : D) (o : List Nat) : Heap := [(13, [rowV o]), (2, [[fl 0, fl 0, fl 0, fl 0, fl 0]]), (1, [nd]), (0, [pbCo p od])]
set_option maxRecDepth 8000 in
theorem bstep_L1 (nd : List V) (p : Pb) (od : D) (q : List Md) (h e j d : Nat) (ht : Tok p.t) (hn : 0 < p.t.n) (hb : p.box.length = p.t.n) (hq : q.length = p.t.n) (hqr : ∀ i, i < p.t.n → (q.getD i []).length = 10) (he : Pw e ∧ 0 < e) (r0 : Nat) (hr0 : Pw r0 ∧ 0 < r0) (Q : Ex → T → Prop) (R : Bnd × Int) (hR : bndK p.t p.box q h e j d 3 r0 = R)
    (hQ1 : ∀ o : List Nat, o.length = 5 → Q .ret ⟨[(8, .ptr 2 0 0 5), (9, fI R.2)], [(13, [rowV o]), (2, [[fl R.1.jump, fl R.1.defect, fl R.1.norm, fl R.1.growth, fl R.1.bound]]), (1, [nd]), (0, [pbCo p od])]⟩)
    (hQ2 : R = (⟨0, 0, 0, 0, 0⟩, 7) → ∀ (o : List Nat) r k a, Q (.exit 2) ⟨bsS1 h e r q k ++ [(77, a)], bsH1 nd p od o⟩)
    (hQ3 : R = (⟨0, 0, 0, 0, 0⟩, 7) → ∀ (o : List Nat) b k a, Q (.exit 2) ⟨[(4, .ptr 0 0 0 13), (8, .ptr 2 0 0 5), (10, fl h), (12, .d (mdD q)), (15, .ptr 13 0 0 5), (17, fl e), (20, fl b), (76, k), (111, a)], bsH1 nd p od o⟩) :
    WA Tryz.prog (fun _ => False) 117 (.loop A_bound_Step_L1) Q ⟨bsS1 h e r0 q 0, bsH1 nd p od [j, d, 0, 0, 0]⟩ := by
  have hn20 := ht.n
  refine WA_for (n := 3) (fun c s => ∃ k r a b, c + k = 3 ∧ Pw r ∧ 0 < r ∧ bndK p.t p.box q h e j d c r = R ∧ s = ⟨bsS1 h e r q k, bsH1 nd p od [j, d, a, b, 0]⟩) ⟨0, r0, 0, 0, by omega, hr0.1, hr0.2, hR, rfl⟩ ?_
  rintro c s ⟨k, r, a, b, hc, hr, hrp, hR, rfl⟩
  refine evx @A_bound_Step_L1.eq_1 ?_
  refine condC_intro (fun h2 => ?_) (fun h2 => ?_)
  · replace h2 := of_decide_eq_true h2
    obtain ⟨c', rfl⟩ : ∃ c', c = c' + 1 := ⟨c - 1, by omega⟩
    have htl := tabI_len (tubI q r) p.t.n
    have hjl := jacI_len p.t (tabI (tubI q r) p.t.n)
    have hjr := fun i hi => jacI_rows p.t (tabI (tubI q r) p.t.n) ht i hi
    have hcw := jacI_cw p.t (tabI (tubI q r) p.t.n)
    rw [bndK, insK_eq] at hR
    refine ev ?_
    refine callG_con (bound_tube_con q r p.t.n hq hqr (by omega) hr hrp) rfl ?_
    refine ev ?_
    refine callG_con (bound_inside_con (tabI (tubI q r) p.t.n) p.box p.t.n htl (by omega) (by omega)) rfl ?_
    cases hin : insL (tabI (tubI q r) p.t.n) p.box p.t.n
    · rw [hin, if_pos rfl] at hR
      subst hR
      refine ev ?_
      exact hQ1 [j, d, a, b, 0] rfl
    · rw [hin, if_neg (by decide)] at hR
      simp only at hR
      refine ev ?_
      refine callG_con (JacIv_con p.t (tabI (tubI q r) p.t.n) ht htl hn) rfl ?_
      refine ev ?_
      refine callG_con (jac_Norm_con (jacI p.t (tabI (tubI q r) p.t.n)) p.t.n hjl hjr (by omega) hcw) rfl ?_
      generalize normI (jacI p.t (tabI (tubI q r) p.t.n)) = nm at hR ⊢
      refine ev ?_
      refine callG_con (bound_growth_con h nm) rfl ?_
      obtain ⟨g1, g2⟩ := growF_Pw h nm
      generalize growF h nm = g at hR g1 g2 ⊢
      refine ev ?_
      refine callG_con (fp_Up_con (fop .mul g e)) rfl ?_
      have hb1 := up_pos (Pw_mul2 g1 g2 he.1 he.2)
      generalize up (fop .mul g e) = b2 at hR hb1 ⊢
      refine ev ?_
      refine condC_intro (fun h3 => ?_) (fun h3 => ?_)
      · rw [if_pos h3] at hR
        subst hR
        refine ev ?_
        exact hQ1 [j, d, nm, g, b2] rfl
      · rw [if_neg (by simp [h3])] at hR
        refine ev ?_
        refine callG_con (fp_Finite_con b2) rfl ?_
        cases hf : finite b2
        · rw [hf, if_pos rfl] at hR
          refine ev ?_
          exact hQ3 hR.symm [j, d, nm, g, 0] _ _ _
        · rw [hf, if_neg (by decide)] at hR
          obtain ⟨f1, f2⟩ := four_Pw hb1.1
          refine ev ?_
          refine callG_con (fp_Up_con (fop .mul 4616189618054758400 b2)) rfl ?_
          refine ev ?_
          rw [wrapI (by omega) (by omega)]
          exact ⟨c', by omega, k + 1, _, nm, g, by omega, f1, f2, hR, rfl⟩
  · replace h2 := of_decide_eq_false h2
    obtain rfl : c = 0 := by omega
    rw [bndK] at hR
    refine ev ?_
    exact hQ2 hR.symm [j, d, a, b, 0] _ _ _
theorem endsT_bd {s : T} {R : Bnd × Int} (h1 : look s.sl 8 = .ptr 2 0 0 5) (h2 : look s.sl 9 = fI R.2) (h3 : s.L.get 2 0 = some [fl R.1.jump, fl R.1.defect, fl R.1.norm, fl R.1.growth, fl R.1.bound]) : EndsT (fun _ => False) 117 [(8, some (5, true)), (9, none)] (.tup [bdV R.1, fI R.2]) [] .ret s :=
  endsT_ret rfl ⟨_, _, resV_cell (by decide) h1 h3 rfl (by simp) (by simp [ldv]), by rw [← h2]; exact resV_tmpI (by decide) rfl, rfl⟩
set_option maxRecDepth 16000 in
theorem bound_Step_conO (p : Pb) (od : D) (v : Nd) (y : List Nat) (w : Nat) (h : Bok p v y w) : Con Tryz.prog 17 [pbVo p od, ndV v, .d (rowD y), fl w] (.tup [bdV (bndP p.t p.box v.z (hW v.step.toNat) y w).1, fI (bndP p.t p.box v.z (hW v.step.toNat) y w).2]) := by
  obtain ⟨ht, hn, hlen, hk, ho, ⟨j, hj, hst⟩, hy, hw, hb⟩ := h
  have hn20 := ht.n
  have hp := bound_parts_con v p.t.n (by have := hk.1; omega) (hk.2 0 (by omega)) (by omega)
  refine Con_introA A_bound_Step_comp rfl mixed ?_
  refine evx @A_bound_Step.eq_1 ?_
  rw [hst]
  refine callG_con (Scale_step j hj) rfl ?_
  refine ev ?_
  refine callG_con (hp) rfl ?_
  have hH := hW_Pw j hj
  generalize hW (2 ^ j) = H at hH ⊢
  obtain ⟨pos, st, o, mt, Z⟩ := v
  simp only at hst hk ho hp ⊢
  obtain ⟨m, hm⟩ : ∃ m, o.toNat = m := ⟨_, rfl⟩
  rw [hm] at hk ho
  have hqr := colsM_rows Z p.t.n
  have hql := colsM_len Z p.t.n
  refine evx @ptD.eq_1 ?_
  refine bstep_L0 (ndC ⟨pos, st, o, mt, Z⟩) (pbCo p od) (fun L => by simp [KpA_cons, KpA_nil, Kp_d]) (fun L => by simp [KpA_cons, KpA_nil, Kp_d]) (fun L L' => by simp [FzA_cons, FzA_nil, Fz_d]) (fun L L' => by simp [FzA_cons, FzA_nil, Fz_d]) y w H Z p.t.n m hk ⟨hn, hn20⟩ (by omega) _ fun a => ?_
  have hj1 := bound_jump_con Z y m p.t.n hk hy ⟨hn, by omega⟩ (by omega)
  have hd1 := bound_defect_con p.t Z (colsM Z p.t.n) H m p.t.n ht rfl hlen hk hql hqr ⟨hn, by omega⟩ (by omega)
  obtain ⟨ji, _, jE⟩ := bestF_is (jmpI Z y) (p.t.n - 1)
  obtain ⟨di, _, dE⟩ := bestF_is (dftI p.t Z (colsM Z p.t.n) H) (p.t.n - 1)
  have hjP : finite (bestF (jmpI Z y) (p.t.n - 1)) = true → Pw (bestF (jmpI Z y) (p.t.n - 1)) := fun hf => by rw [jE] at hf ⊢; exact mag_Pw hf
  have hdP : finite (bestF (dftI p.t Z (colsM Z p.t.n) H) (p.t.n - 1)) = true → Pw (bestF (dftI p.t Z (colsM Z p.t.n) H) (p.t.n - 1)) := fun hf => by rw [dE] at hf ⊢; exact mag_Pw hf
  unfold bndP
  simp only
  clear jE dE
  refine ev ?_
  refine callSG_con (hj1) rfl ?_
  refine ev ?_
  refine callSG_con (hd1) rfl ?_
  generalize bestF (jmpI Z y) (p.t.n - 1) = jj at hjP ⊢
  generalize bestF (dftI p.t Z (colsM Z p.t.n) H) (p.t.n - 1) = dd at hdP ⊢
  refine ev ?_
  refine callG_con (fp_Finite_con jj) rfl ?_
  generalize hR : (if (finite jj && finite dd) = false then ((⟨0, 0, 0, 0, 0⟩, 7) : Bnd × Int) else bndK p.t p.box (colsM Z p.t.n) H (up (fop .add (up (fop .add w jj)) (up (fop .mul H dd)))) jj dd 3 (up (fop .mul 4616189618054758400 (up (fop .add (up (fop .add w jj)) (up (fop .mul H dd))))))) = R
  cases h1 : finite jj
  · rw [h1, Bool.false_and, if_pos rfl] at hR
    subst hR
    refine ev ?_
    exact endsT_bd (R := (⟨0, 0, 0, 0, 0⟩, 7)) rfl rfl rfl
  · refine ev ?_
    refine callG_con (fp_Finite_con dd) rfl ?_
    cases h2 : finite dd
    · rw [h1, h2, Bool.and_false, if_pos rfl] at hR
      subst hR
      refine ev ?_
      exact endsT_bd (R := (⟨0, 0, 0, 0, 0⟩, 7)) rfl rfl rfl
    · rw [h1, h2, Bool.and_self, if_neg (by decide)] at hR
      have hb1 := bnd_begin hw (hjP h1) (hdP h2) hH
      refine ev ?_
      refine callG_con (fp_Up_con (fop .add w jj)) rfl ?_
      refine ev ?_
      refine callG_con (fp_Up_con (fop .mul H dd)) rfl ?_
      refine ev ?_
      refine callG_con (fp_Up_con (fop .add (up (fop .add w jj)) (up (fop .mul H dd)))) rfl ?_
      generalize up (fop .add (up (fop .add w jj)) (up (fop .mul H dd))) = e at hb1 hR ⊢
      have hr1 := four_Pw hb1.1
      refine ev ?_
      refine callG_con (fp_Up_con (fop .mul 4616189618054758400 e)) rfl ?_
      generalize up (fop .mul 4616189618054758400 e) = r at hr1 hR ⊢
      refine ev ?_
      refine bstep_L1 _ p od (colsM Z p.t.n) H e jj dd ht hn hb hql hqr hb1 r hr1 _ R hR ?_ ?_ ?_
      · intro ov ho5
        refine ev ?_
        exact endsT_bd rfl rfl rfl
      · rintro rfl ov r' k' a'
        refine ev ?_
        exact endsT_bd (R := (⟨0, 0, 0, 0, 0⟩, 7)) rfl rfl rfl
      · rintro rfl ov b' k' a'
        refine ev ?_
        exact endsT_bd (R := (⟨0, 0, 0, 0, 0⟩, 7)) rfl rfl rfl
theorem bound_Step_con (p : Pb) (v : Nd) (y : List Nat) (w : Nat) (h : Bok p v y w) : Con Tryz.prog 17 [pbV p, ndV v, .d (rowD y), fl w] (.tup [bdV (bndP p.t p.box v.z (hW v.step.toNat) y w).1, fI (bndP p.t p.box v.z (hW v.step.toNat) y w).2]) := bound_Step_conO p (rowI p.outs) v y w h
end Go.Ab
