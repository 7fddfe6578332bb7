/- Part 16: BG, BH, BI. -/
import Derived.Test.YtloimimehbehoaaGreatGO
namespace Go.Ab
set_option linter.unusedSimpArgs false
set_option linter.unusedVariables false
open Nat renaming reduceEqDiff → n1_, reduceAdd → n2_, reduceMul → n3_, reduceLT → n4_, reduceLeDiff → n5_
open Int renaming reduceToNat → i1_, reduceAdd → i2_, reduceSub → i3_, reduceMul → i4_, reduceNeg → i5_, reduceLT → i6_, reduceLE → i7_
open Go Go.Proofs
def A_r5_power : CA := (.seq (.reg [i_X 0 2 (.alloc [(.d (.flt 0)), (.d (.flt 0))] 58)] [0, 2]) (.seq (.seq (.reg [i_M 0 3 0, i_B 1 4 .rem 3 2, i_B 2 5 .eql 4 0] [2, 5]) (.cond (.t 5) (.seq (.reg [i_X 0 6 (.h (.build [(.d (.flt 0)), (.d (.flt 0))] [(0, (1, (.k (.d (.flt 0))))), (1, (1, (.k (.d (.flt 4607182418800017408)))))])), i_S 1 2 6 2] [2]) .ret) .skip)) (.seq (.reg [i_X 0 7 (.h (.build [(.d (.flt 0)), (.d (.flt 0))] [(0, (1, (.k (.d (.flt 13830554455654793216))))), (1, (1, (.k (.d (.flt 0)))))])), i_S 1 2 7 2] [2]) .ret)))
theorem A_r5_power_comp : compF Tryz.prog 148 = some ⟨8, [(2, (some (2, true)))], A_r5_power.strip⟩ := by kernel_rfl
def A_r5_Of_L0 : CA := (.seq (.seq (.reg [i_M 0 5 4, i_M 1 6 0, i_X 2 7 (.h (.len (.t 6))), i_N 3 8 .lss 5 7] [0, 2, 3, 4, 8]) (.cond (.t 8) .skip (.exit 0))) (.seq (.block 1 (.reg [i_M 0 11 4, i_M 1 12 0, i_M 2 13 4, i_I 3 14 12 13 1, i_L 4 15 14 1, i_X 5 16 (.callA (kF 99) [(.t 15)]), i_P 6 17 3 0, i_X 7 18 (.h (.idxa (.t 17) (.t 11) 9 2)), i_S 8 18 16 2] [0, 2, 3, 4])) (.reg [i_M 0 9 4, i_B 1 10 .add 9 1, i_M 2 4 10] [0, 2, 3, 4])))
def A_r5_Of : CA := (.seq (.reg [i_X 0 2 (.alloc z_20 87)] [0, 2]) (.seq (.reg [i_X 0 3 (.alloc z_20 87)] [0, 2, 3]) (.seq (.seq (.reg [i_K 0 4 0] [0, 2, 3, 4]) (.block 0 (.loop A_r5_Of_L0))) (.seq (.reg [i_A 0 19 3 20, i_S 1 2 19 20] [2]) .ret))))
theorem A_r5_Of_comp : compF Tryz.prog 46 = some ⟨20, [(2, (some (20, true)))], A_r5_Of.strip⟩ := by kernel_rfl
def A_r5_poly_L0 : CA := (.seq (.seq (.reg [i_M 0 8 4, i_B 1 9 .leq 8 8] [1, 2, 3, 4, 9]) (.cond (.t 9) .skip (.exit 0))) (.seq (.block 1 (.reg [i_A 0 12 3 2, i_M 1 13 4, i_P 2 14 1 0, i_X 3 15 (.h (.idxa (.t 14) (.t 13) 9 2)), i_A 4 16 15 2, i_M 5 17 4, i_X 6 18 (.callS 6 (kF 148) [(.t 17)]), i_X 7 19 (.callS 7 (kF 108) [(.t 16), (.t 18)]), i_X 8 20 (.callA (kF 55) [(.t 12), (.t 19)]), i_S 9 3 20 2] [1, 2, 3, 4])) (.reg [i_M 0 10 4, i_B 1 11 .add 10 1, i_M 2 4 11] [1, 2, 3, 4])))
def A_r5_poly : CA := (.seq (.reg [i_X 0 1 (.box (.t 0) 20 87), i_X 1 2 (.alloc [(.d (.flt 0)), (.d (.flt 0))] 58)] [1, 2]) (.seq (.reg [i_P 0 5 1 0, i_X 1 6 (.h (.idxa (.t 5) (kI 0) 9 2)), i_A 2 7 6 2, i_X 3 3 (.alloc [(.d (.flt 0)), (.d (.flt 0))] 58), i_S 4 3 7 2] [1, 2, 3]) (.seq (.seq (.reg [i_K 0 4 1] [1, 2, 3, 4]) (.block 0 (.loop A_r5_poly_L0))) (.seq (.reg [i_A 0 21 3 2, i_S 1 2 21 2] [2]) .ret))))
theorem A_r5_poly_comp : compF Tryz.prog 113 = some ⟨22, [(2, (some (2, true)))], A_r5_poly.strip⟩ := by kernel_rfl
def A_r5_Range : CA := (.seq (.reg [i_X 0 1 (.box (.t 0) 20 87), i_X 1 2 (.alloc [(.d (.flt 0)), (.d (.flt 0))] 58)] [1, 2]) (.seq (.reg [i_A 0 3 1 20, i_X 1 4 (.callS 0 (kF 113) [(.t 3)]), i_P 2 5 1 18, i_A 3 6 5 2, i_X 4 7 (.callA (kF 55) [(.t 4), (.t 6)]), i_S 5 2 7 2] [2]) .ret))
theorem A_r5_Range_comp : compF Tryz.prog 56 = some ⟨8, [(2, (some (2, true)))], A_r5_Range.strip⟩ := by kernel_rfl
def A_r5_Add_L0 : CA := (.seq (.seq (.reg [i_M 0 6 5, i_B 1 7 .leq 6 8] [2, 3, 4, 5, 7]) (.cond (.t 7) .skip (.exit 0))) (.seq (.block 1 (.reg [i_M 0 10 5, i_M 1 11 5, i_P 2 12 2 0, i_X 3 13 (.h (.idxa (.t 12) (.t 11) 9 2)), i_A 4 14 13 2, i_M 5 15 5, i_P 6 16 3 0, i_X 7 17 (.h (.idxa (.t 16) (.t 15) 9 2)), i_A 8 18 17 2, i_X 9 19 (.callA (kF 55) [(.t 14), (.t 18)]), i_P 10 20 2 0, i_X 11 21 (.h (.idxa (.t 20) (.t 10) 9 2)), i_S 12 21 19 2] [2, 3, 4, 5])) (.reg [i_M 0 8 5, i_B 1 9 .add 8 1, i_M 2 5 9] [2, 3, 4, 5])))
def A_r5_Add : CA := (.seq (.reg [i_X 0 2 (.box (.t 0) 20 87), i_X 1 3 (.box (.t 1) 20 87), i_X 2 4 (.alloc z_20 87)] [2, 3, 4]) (.seq (.seq (.reg [i_K 0 5 0] [2, 3, 4, 5]) (.block 0 (.loop A_r5_Add_L0))) (.seq (.reg [i_P 0 22 2 18, i_A 1 23 22 2, i_P 2 24 3 18, i_A 3 25 24 2, i_X 4 26 (.callA (kF 55) [(.t 23), (.t 25)]), i_P 5 27 2 18, i_S 6 27 26 2] [2, 4]) (.seq (.reg [i_A 0 28 2 20, i_S 1 4 28 20] [4]) .ret))))
theorem A_r5_Add_comp : compF Tryz.prog 160 = some ⟨29, [(4, (some (20, true)))], A_r5_Add.strip⟩ := by kernel_rfl
def A_r5_Sub_L0 : CA := (.seq (.seq (.reg [i_M 0 6 5, i_B 1 7 .leq 6 8] [2, 3, 4, 5, 7]) (.cond (.t 7) .skip (.exit 0))) (.seq (.block 1 (.reg [i_M 0 10 5, i_M 1 11 5, i_P 2 12 2 0, i_X 3 13 (.h (.idxa (.t 12) (.t 11) 9 2)), i_A 4 14 13 2, i_M 5 15 5, i_P 6 16 3 0, i_X 7 17 (.h (.idxa (.t 16) (.t 15) 9 2)), i_A 8 18 17 2, i_X 9 19 (.callA (kF 102) [(.t 14), (.t 18)]), i_P 10 20 2 0, i_X 11 21 (.h (.idxa (.t 20) (.t 10) 9 2)), i_S 12 21 19 2] [2, 3, 4, 5])) (.reg [i_M 0 8 5, i_B 1 9 .add 8 1, i_M 2 5 9] [2, 3, 4, 5])))
def A_r5_Sub : CA := (.seq (.reg [i_X 0 2 (.box (.t 0) 20 87), i_X 1 3 (.box (.t 1) 20 87), i_X 2 4 (.alloc z_20 87)] [2, 3, 4]) (.seq (.seq (.reg [i_K 0 5 0] [2, 3, 4, 5]) (.block 0 (.loop A_r5_Sub_L0))) (.seq (.reg [i_P 0 22 2 18, i_A 1 23 22 2, i_P 2 24 3 18, i_A 3 25 24 2, i_X 4 26 (.callA (kF 102) [(.t 23), (.t 25)]), i_P 5 27 2 18, i_S 6 27 26 2] [2, 4]) (.seq (.reg [i_A 0 28 2 20, i_S 1 4 28 20] [4]) .ret))))
theorem A_r5_Sub_comp : compF Tryz.prog 104 = some ⟨29, [(4, (some (20, true)))], A_r5_Sub.strip⟩ := by kernel_rfl
def A_r5_Mul_L1 : CA := (.seq (.seq (.reg [i_M 0 24 8, i_M 1 25 6, i_N 2 26 .leq 24 25] [2, 3, 4, 5, 6, 7, 8, 26]) (.cond (.t 26) .skip (.exit 2))) (.seq (.block 3 (.reg [i_A 0 29 7 2, i_M 1 30 8, i_P 2 31 2 0, i_X 3 32 (.h (.idxa (.t 31) (.t 30) 9 2)), i_A 4 33 32 2, i_M 5 34 6, i_M 6 35 8, i_N 7 36 .sub 34 35, i_P 8 37 3 0, i_X 9 38 (.h (.idxa (.t 37) (.t 36) 9 2)), i_A 10 39 38 2, i_X 11 40 (.callS 11 (kF 108) [(.t 33), (.t 39)]), i_X 12 41 (.callA (kF 55) [(.t 29), (.t 40)]), i_S 13 7 41 2] [2, 3, 4, 5, 6, 7, 8])) (.reg [i_M 0 27 8, i_B 1 28 .add 27 1, i_M 2 8 28] [2, 3, 4, 5, 6, 7, 8])))
def A_r5_Mul_L0 : CA := (.seq (.seq (.reg [i_M 0 12 6, i_B 1 13 .leq 12 8] [2, 3, 4, 5, 6, 13]) (.cond (.t 13) .skip (.exit 0))) (.seq (.block 1 (.seq (.reg [i_P 0 16 2 0, i_X 1 17 (.h (.idxa (.t 16) (kI 0) 9 2)), i_A 2 18 17 2, i_M 3 19 6, i_P 4 20 3 0, i_X 5 21 (.h (.idxa (.t 20) (.t 19) 9 2)), i_A 6 22 21 2, i_X 7 23 (.callS 0 (kF 108) [(.t 18), (.t 22)]), i_X 8 7 (.alloc [(.d (.flt 0)), (.d (.flt 0))] 58), i_S 9 7 23 2] [2, 3, 4, 5, 6, 7]) (.seq (.seq (.reg [i_K 0 8 1] [2, 3, 4, 5, 6, 7, 8]) (.block 2 (.loop A_r5_Mul_L1))) (.reg [i_M 0 42 6, i_A 1 43 7 2, i_P 2 44 5 0, i_X 3 45 (.h (.idxa (.t 44) (.t 42) 9 2)), i_S 4 45 43 2] [2, 3, 4, 5, 6])))) (.reg [i_M 0 14 6, i_B 1 15 .add 14 1, i_M 2 6 15] [2, 3, 4, 5, 6])))
def A_r5_Mul_L3 : CA := (.seq (.seq (.reg [i_M 0 51 11, i_B 1 52 .leq 51 8] [2, 3, 4, 5, 9, 10, 11, 52]) (.cond (.t 52) .skip (.exit 6))) (.seq (.block 7 (.seq (.reg [i_M 0 55 10, i_M 1 56 11, i_N 2 57 .add 55 56, i_B 3 58 .gtr 57 8] [2, 3, 4, 5, 9, 10, 11, 58]) (.cond (.t 58) (.reg [i_A 0 59 9 2, i_M 1 60 10, i_P 2 61 2 0, i_X 3 62 (.h (.idxa (.t 61) (.t 60) 9 2)), i_A 4 63 62 2, i_M 5 64 11, i_P 6 65 3 0, i_X 7 66 (.h (.idxa (.t 65) (.t 64) 9 2)), i_A 8 67 66 2, i_X 9 68 (.callS 9 (kF 108) [(.t 63), (.t 67)]), i_M 10 69 10, i_M 11 70 11, i_N 12 71 .add 69 70, i_X 13 72 (.callS 13 (kF 148) [(.t 71)]), i_X 14 73 (.callS 14 (kF 108) [(.t 68), (.t 72)]), i_X 15 74 (.callA (kF 55) [(.t 59), (.t 73)]), i_S 16 9 74 2] [2, 3, 4, 5, 9, 10, 11]) .skip))) (.reg [i_M 0 53 11, i_B 1 54 .add 53 1, i_M 2 11 54] [2, 3, 4, 5, 9, 10, 11])))
def A_r5_Mul_L2 : CA := (.seq (.seq (.reg [i_M 0 47 10, i_B 1 48 .leq 47 8] [2, 3, 4, 5, 9, 10, 48]) (.cond (.t 48) .skip (.exit 4))) (.seq (.block 5 (.seq (.reg [i_K 0 11 0] [2, 3, 4, 5, 9, 10, 11]) (.block 6 (.loop A_r5_Mul_L3)))) (.reg [i_M 0 49 10, i_B 1 50 .add 49 1, i_M 2 10 50] [2, 3, 4, 5, 9, 10])))
def A_r5_Mul : CA := (.seq (.reg [i_X 0 2 (.box (.t 0) 20 87), i_X 1 3 (.box (.t 1) 20 87), i_X 2 4 (.alloc z_20 87)] [2, 3, 4]) (.seq (.reg [i_X 0 5 (.alloc z_20 87)] [2, 3, 4, 5]) (.seq (.seq (.reg [i_K 0 6 0] [2, 3, 4, 5, 6]) (.block 0 (.loop A_r5_Mul_L0))) (.seq (.reg [i_X 0 46 (.callA (kF 99) [(.k (.d (.flt 0)))]), i_X 1 9 (.alloc [(.d (.flt 0)), (.d (.flt 0))] 58), i_S 2 9 46 2] [2, 3, 4, 5, 9]) (.seq (.seq (.reg [i_K 0 10 0] [2, 3, 4, 5, 9, 10]) (.block 4 (.loop A_r5_Mul_L2))) (.seq (.reg [i_A 0 75 9 2, i_P 1 76 2 18, i_A 2 77 76 2, i_A 3 78 3 20, i_X 4 79 (.callS 4 (kF 56) [(.t 78)]), i_X 5 80 (.callS 5 (kF 108) [(.t 77), (.t 79)]), i_X 6 81 (.callA (kF 55) [(.t 75), (.t 80)]), i_S 7 9 81 2] [2, 3, 4, 5, 9]) (.seq (.reg [i_A 0 82 9 2, i_A 1 83 2 20, i_X 2 84 (.callS 2 (kF 113) [(.t 83)]), i_P 3 85 3 18, i_A 4 86 85 2, i_X 5 87 (.callS 5 (kF 108) [(.t 84), (.t 86)]), i_X 6 88 (.callA (kF 55) [(.t 82), (.t 87)]), i_P 7 89 5 18, i_S 8 89 88 2] [4, 5]) (.seq (.reg [i_A 0 90 5 20, i_S 1 4 90 20] [4]) .ret))))))))
theorem A_r5_Mul_comp : compF Tryz.prog 161 = some ⟨91, [(4, (some (20, true)))], A_r5_Mul.strip⟩ := by kernel_rfl
def A_r5_Div_L1 : CA := (.seq (.seq (.reg [i_M 0 28 8, i_M 1 29 6, i_N 2 30 .leq 28 29] [2, 3, 4, 5, 6, 7, 8, 30]) (.cond (.t 30) .skip (.exit 2))) (.seq (.block 3 (.reg [i_A 0 33 7 2, i_M 1 34 8, i_P 2 35 3 0, i_X 3 36 (.h (.idxa (.t 35) (.t 34) 9 2)), i_A 4 37 36 2, i_M 5 38 6, i_M 6 39 8, i_N 7 40 .sub 38 39, i_P 8 41 5 0, i_X 9 42 (.h (.idxa (.t 41) (.t 40) 9 2)), i_A 10 43 42 2, i_X 11 44 (.callS 11 (kF 108) [(.t 37), (.t 43)]), i_X 12 45 (.callA (kF 102) [(.t 33), (.t 44)]), i_S 13 7 45 2] [2, 3, 4, 5, 6, 7, 8])) (.reg [i_M 0 31 8, i_B 1 32 .add 31 1, i_M 2 8 32] [2, 3, 4, 5, 6, 7, 8])))
def A_r5_Div_L0 : CA := (.seq (.seq (.reg [i_M 0 20 6, i_B 1 21 .leq 20 8] [2, 3, 4, 5, 6, 21]) (.cond (.t 21) .skip (.exit 0))) (.seq (.block 1 (.seq (.reg [i_M 0 24 6, i_P 1 25 2 0, i_X 2 26 (.h (.idxa (.t 25) (.t 24) 9 2)), i_A 3 27 26 2, i_X 4 7 (.alloc [(.d (.flt 0)), (.d (.flt 0))] 58), i_S 5 7 27 2] [2, 3, 4, 5, 6, 7]) (.seq (.seq (.reg [i_K 0 8 1] [2, 3, 4, 5, 6, 7, 8]) (.block 2 (.loop A_r5_Div_L1))) (.reg [i_M 0 46 6, i_A 1 47 7 2, i_P 2 48 3 0, i_X 3 49 (.h (.idxa (.t 48) (kI 0) 9 2)), i_A 4 50 49 2, i_X 5 51 (.callA (kF 109) [(.t 47), (.t 50)]), i_P 6 52 5 0, i_X 7 53 (.h (.idxa (.t 52) (.t 46) 9 2)), i_S 8 53 51 2] [2, 3, 4, 5, 6])))) (.reg [i_M 0 22 6, i_B 1 23 .add 22 1, i_M 2 6 23] [2, 3, 4, 5, 6])))
def A_r5_Div : CA := (.seq (.reg [i_X 0 2 (.box (.t 0) 20 87), i_X 1 3 (.box (.t 1) 20 87), i_X 2 4 (.alloc z_20 87)] [2, 3, 4]) (.seq (.seq (.reg [i_P 0 9 3 0, i_X 1 10 (.h (.idxa (.t 9) (kI 0) 9 2)), i_A 2 11 10 2, i_X 3 12 (.callA (kF 146) [(.t 11)]), i_M 4 13 12, ⟨5, (some 14), (some (13, false)), [], [], (.load (.t 3) 20 true)⟩, ⟨6, (some 15), (some (13, false)), [], [], (.callA (kF 56) [(.t 14)])⟩, ⟨7, (some 16), (some (13, false)), [], [], (.callA (kF 146) [(.t 15)])⟩, i_X 8 17 (.h (.pick (.t 13) (.k (.d (.bool true))) (.t 16)))] [2, 3, 4, 17]) (.cond (.t 17) (.seq (.reg [i_X 0 18 (.callA (kF 147) []), i_X 1 19 (.h (.build z_20 [(18, (2, (.t 18)))])), i_S 2 4 19 20] [4]) .ret) .skip)) (.seq (.reg [i_X 0 5 (.alloc z_20 87)] [2, 3, 4, 5]) (.seq (.seq (.reg [i_K 0 6 0] [2, 3, 4, 5, 6]) (.block 0 (.loop A_r5_Div_L0))) (.seq (.reg [i_A 0 54 2 20, i_A 1 55 3 20, i_A 2 56 5 20, i_X 3 57 (.callS 3 (kF 161) [(.t 55), (.t 56)]), i_X 4 58 (.callS 0 (kF 104) [(.t 54), (.t 57)]), i_X 5 59 (.callS 0 (kF 56) [(.t 58)]), i_A 6 60 3 20, i_X 7 61 (.callA (kF 56) [(.t 60)]), i_X 8 62 (.callA (kF 109) [(.t 59), (.t 61)]), i_P 9 63 5 18, i_S 10 63 62 2] [4, 5]) (.seq (.reg [i_A 0 64 5 20, i_S 1 4 64 20] [4]) .ret))))))
theorem A_r5_Div_comp : compF Tryz.prog 162 = some ⟨65, [(4, (some (20, true)))], A_r5_Div.strip⟩ := by kernel_rfl
def A_r5_two : CA := (.seq (.reg [i_X 0 4 (.box (.t 1) 20 87), i_X 1 5 (.box (.t 2) 20 87), i_X 2 6 (.alloc z_20 87)] [0, 4, 5, 6]) (.seq (.seq (.reg [i_M 0 7 0] [4, 5, 6, 7]) (.block 0 (.seq (.reg [i_B 0 9 .eql 7 2, i_M 1 8 9] [4, 5, 6, 7, 8]) (.cond (.t 8) (.seq (.reg [i_A 0 10 4 20, i_A 1 11 5 20, i_X 2 12 (.callA (kF 160) [(.t 10), (.t 11)]), i_S 3 6 12 20] [6]) .ret) (.seq (.reg [i_B 0 14 .eql 7 3, i_M 1 13 14] [4, 5, 6, 7, 13]) (.cond (.t 13) (.seq (.reg [i_A 0 15 4 20, i_A 1 16 5 20, i_X 2 17 (.callA (kF 104) [(.t 15), (.t 16)]), i_S 3 6 17 20] [6]) .ret) (.seq (.reg [i_B 0 19 .eql 7 4, i_M 1 18 19] [4, 5, 6, 18]) (.cond (.t 18) (.seq (.reg [i_A 0 20 4 20, i_A 1 21 5 20, i_X 2 22 (.callA (kF 161) [(.t 20), (.t 21)]), i_S 3 6 22 20] [6]) .ret) .skip)))))))) (.seq (.reg [i_A 0 23 4 20, i_A 1 24 5 20, i_X 2 25 (.callA (kF 162) [(.t 23), (.t 24)]), i_S 3 6 25 20] [6]) .ret)))
theorem A_r5_two_comp : compF Tryz.prog 141 = some ⟨26, [(6, (some (20, true)))], A_r5_two.strip⟩ := by kernel_rfl
theorem r5_power_con (k : Nat) (hk : k < 2 ^ 40) : Con Tryz.prog 148 [fI k] (ivV (pwI k)) := by
  refine Con_introA A_r5_power_comp rfl mixed ?_
  refine evx @A_r5_power.eq_1 ?_
  have e : Int.tmod (k : Int) 2 = ((k % 2 : Nat) : Int) := by rw [Int.tmod_eq_emod_of_nonneg (by omega)]; omega
  have hn : fop .sub 0 4607182418800017408 = negW := by kernel_rfl
  refine evx e ?_
  unfold pwI
  by_cases h : k % 2 = 0
  · rw [h, if_pos rfl]
    refine ev ?_
    refine ⟨by decide, ?_⟩
    exact endsT_retm rfl (by decide) rfl rfl rfl (by simp) (by simp [ldv, oneW])
  · have h1 : k % 2 = 1 := by omega
    rw [if_neg h, h1]
    refine evbx hn ?_
    refine ⟨by decide, ?_⟩
    exact endsT_retm rfl (by decide) rfl rfl rfl (by simp) (by simp [ldv, negW])
theorem ofM_fil' (z : List Nat) (hz : z.length ≤ 9) : filI (ofF z) (fun _ => (0, 0)) 10 z.length = ofM z := by
  refine List.ext_getElem (by simp [filI, ofM]) fun j h1 h2 => ?_
  simp only [filI, ofM, List.getElem_map, List.getElem_range, ofF]
  by_cases h : j < z.length
  · rw [if_pos h]
  · rw [if_neg h, if_neg (fun e => h e.1)]
set_option maxRecDepth 8000 in
theorem r5_Of_con (z : List Nat) (hz : z.length ≤ 9) : Con Tryz.prog 46 [.d (rowD z)] (mdV (ofM z)) := by
  refine Con_introA A_r5_Of_comp rfl mixed ?_
  refine evx @A_r5_Of.eq_1 ?_
  refine WA_forW (n := z.length) (fun c s => ∃ i, c + i = z.length ∧ s = ⟨[(0, .d (rowD z)), (2, .ptr 0 0 0 20), (3, .ptr 1 0 0 20), (4, fI i)], [(1, [ivC (filI (ofF z) (fun _ => (0, 0)) 10 i)]), (0, [ivC (List.replicate 10 (0, 0))])]⟩) (Le.refl _) ⟨0, by omega, rfl⟩ ?_
  rintro c s ⟨i, hc, rfl⟩
  have hl := filI_len (ofF z) (fun _ => (0, 0)) 10 i
  refine evx @A_r5_Of_L0.eq_1 ?_
  refine condC_intro (fun h => ?_) (fun h => ?_)
  · replace h := of_decide_eq_true h
    have h9 : i < z.length := by omega
    refine ev ?_
    (repeat (with_reducible refine And.intro (by omega) ?_))
    refine callG_con (r2_Point_con (z.getD i 0)) rfl ?_
    refine ev ?_
    (repeat (with_reducible refine And.intro (by omega) ?_))
    rw [wrapI (by omega) (by omega), ivC_put _ _ _ _ (by omega), filI_set _ _ _ _ _ (by unfold ofF; rw [if_pos ⟨h9, by omega⟩]; rfl)]
    exact ⟨c - 1, _, by omega, LeT.only (fun X => decide (X ≤ 3)) (fun _ h => h) rfl (by simp (maxDischargeDepth := 6) [kpS, fam_cons, fam_nil, KpA_ivC']) (by simp (maxDischargeDepth := 6) [kpS, fam_cons, fam_nil, KpA_ivC']), i + 1, by omega, rfl⟩
  · replace h := of_decide_eq_false h
    obtain rfl : i = z.length := by omega
    refine ev ?_
    have hol := ofM_len z
    rw [ofM_fil' z hz, ivC_take _ 20 (by omega), splice_all _ _ (by simp [ivC_length, hol])]
    refine ⟨by omega, ⟨by simp [ivC_length, hol], ivC_cells _⟩, ?_⟩
    exact endsT_ivs _ (by omega) (by decide) rfl rfl rfl
set_option maxRecDepth 8000 in
theorem r5_poly_con (m : Md) (hm : m.length = 10) : Con Tryz.prog 113 [mdV m] (ivV (polyM m)) := by
  unfold polyM
  refine Con_introA A_r5_poly_comp rfl mixed ?_
  refine evx @A_r5_poly.eq_1 ?_
  (repeat (with_reducible refine And.intro (by omega) ?_))
  simp -implicitDefEqProofs only [evI, hv, effC, reduceCtorEq, ↓reduceIte, n1_, n2_, n3_, n4_, n5_, i1_, i2_, i3_, i4_, i5_, i6_, i7_, ivC_0 m (by omega)]
  refine WA_forW (n := 8) (fun n s => ∃ k, n + k = 8 ∧ s = ⟨[(1, .ptr 0 0 0 20), (2, .ptr 1 0 0 2), (3, .ptr 5 0 0 2), (4, fI (k + 1 : Nat))],
    [(5, [[fl (polyK m k).1, fl (polyK m k).2]]), (1, [[fl 0, fl 0]]), (0, [ivC m])]⟩) (Le.refl _) ⟨0, by omega, rfl⟩ ?_
  rintro n s ⟨k, hk, rfl⟩
  refine evx @A_r5_poly_L0.eq_1 ?_
  refine condC_intro (fun h => ?_) (fun h => ?_)
  · replace h := of_decide_eq_true h
    have h8 : k < 8 := by omega
    simp -implicitDefEqProofs only [evI, hv, effC, reduceCtorEq, ↓reduceIte, n1_, n2_, n3_, n4_, n5_, i1_, i2_, i3_, i4_, i5_, i6_, i7_, ivC_two m (k + 1) (by omega)]
    (repeat (with_reducible refine And.intro (by omega) ?_))
    refine callSG_con (r5_power_con (k + 1) (by omega)) rfl ?_
    refine ev ?_
    refine callSG_con (r2_Mul_con (mG m (k + 1)) (pwI (k + 1))) rfl ?_
    refine ev ?_
    refine callG_con (r2_Add_con (polyK m k) (ivMul (mG m (k + 1)) (pwI (k + 1)))) rfl ?_
    refine ev ?_
    rw [show IntKind.i64.wrap (((k + 1 : Nat) : Int) + 1) = ((k + 1 + 1 : Nat) : Int) by rw [wrapI (by omega) (by omega)]; omega]
    exact ⟨n - 1, _, by omega, Le.refl _, k + 1, by omega, rfl⟩
  · replace h := of_decide_eq_false h
    obtain rfl : k = 8 := by omega
    refine ev ?_
    exact endsT_retm rfl (by decide) rfl rfl rfl (by simp) (by simp [ldv])
theorem r5_Range_con (m : Md) (hm : m.length = 10) : Con Tryz.prog 56 [mdV m] (ivV (rngM m)) := by
  refine Con_introA A_r5_Range_comp rfl mixed ?_
  refine evx @A_r5_Range.eq_1 ?_
  refine evx (And.intro (ivC_20 m hm) (ivC_R m hm)) ?_
  (repeat (with_reducible refine And.intro (by omega) ?_))
  first | refine callG_con (r5_poly_con m hm) (by simp [bare_d, ivC_bare]) ?_ | refine callCG_con (r5_poly_con m hm) (by simp [bare_d, ivC_bare]) ?_ | refine callSG_con (r5_poly_con m hm) (by simp [bare_d, ivC_bare]) ?_
  refine evx (ivC_R m hm) ?_
  (repeat (with_reducible refine And.intro (by omega) ?_))
  refine callG_con (r2_Add_con (polyM m) (mG m 9)) rfl ?_
  refine ev ?_
  exact endsT_retm rfl (by decide) rfl rfl rfl (by simp) (by simp [ldv, rngM])
def zipK (F : Iv → Iv → Iv) (a b : Md) (k : Nat) : Md := filI (fun i => F (mG a i) (mG b i)) (mG a) 10 k
theorem zipK_zero (F : Iv → Iv → Iv) (a b : Md) (h : a.length = 10) : zipK F a b 0 = a := by
  refine List.ext_getElem (by simp [zipK, filI, h]) fun j h1 h2 => ?_
  simp [zipK, filI, mG, List.getD_eq_getElem?_getD, h2]
theorem zipK_all (F : Iv → Iv → Iv) (a b : Md) : zipK F a b 10 = zipM F a b := filI_all _ _ _
set_option maxRecDepth 8000 in
theorem r5_Add_con (a b : Md) (ha : a.length = 10) (hb : b.length = 10) : Con Tryz.prog 160 [mdV a, mdV b] (mdV (zipM ivAdd a b)) := by
  refine Con_introA A_r5_Add_comp rfl mixed ?_
  refine evx @A_r5_Add.eq_1 ?_
  (repeat (with_reducible refine And.intro (by omega) ?_))
  refine WA_for (n := 9) (fun c s => ∃ k, c + k = 9 ∧ s = ⟨[(2, .ptr 0 0 0 20), (3, .ptr 1 0 0 20), (4, .ptr 2 0 0 20), (5, fI k)], [(2, [ivC (List.replicate 10 (0, 0))]), (1, [ivC b]), (0, [ivC (zipK ivAdd a b k)])]⟩) ⟨0, by omega, by rw [zipK_zero _ _ _ ha]; rfl⟩ ?_
  rintro c s ⟨k, hc, rfl⟩
  have hl : (zipK ivAdd a b k).length = 10 := filI_len _ _ _ _
  refine evx @A_r5_Add_L0.eq_1 ?_
  refine condC_intro (fun h => ?_) (fun h => ?_)
  · replace h := of_decide_eq_true h
    have hk : k < 9 := by omega
    have hg : mG (zipK ivAdd a b k) k = mG a k := by unfold zipK; rw [filI_get _ _ _ _ _ (by omega), if_neg (by omega)]
    simp -implicitDefEqProofs only [evI, hv, effC, reduceCtorEq, ↓reduceIte, n1_, n2_, n3_, n4_, n5_, i1_, i2_, i3_, i4_, i5_, i6_, i7_, ivC_two (zipK ivAdd a b k) k (by omega), ivC_two b k (by omega), hg]
    (repeat (with_reducible refine And.intro (by omega) ?_))
    refine callG_con (r2_Add_con (mG a k) (mG b k)) rfl ?_
    refine ev ?_
    (repeat (with_reducible refine And.intro (by omega) ?_))
    rw [wrapI (by omega) (by omega), ivC_put _ _ _ _ (by omega)]
    refine ⟨c - 1, by omega, k + 1, by omega, ?_⟩
    unfold zipK
    rw [filI_set _ _ _ _ _ rfl]
    rfl
  · replace h := of_decide_eq_false h
    obtain rfl : k = 9 := by omega
    have hg : mG (zipK ivAdd a b 9) 9 = mG a 9 := by unfold zipK; rw [filI_get _ _ _ _ _ (by omega), if_neg (by omega)]
    simp -implicitDefEqProofs only [evI, hv, effC, reduceCtorEq, ↓reduceIte, n1_, n2_, n3_, n4_, n5_, i1_, i2_, i3_, i4_, i5_, i6_, i7_, ivC_R _ hl, ivC_R b hb, hg]
    (repeat (with_reducible refine And.intro (by omega) ?_))
    refine callG_con (r2_Add_con (mG a 9) (mG b 9)) rfl ?_
    refine ev ?_
    have f : ((ivC (zipK ivAdd a b 9)).set 18 (fl (ivAdd (mG a 9) (mG b 9)).1)).set 19 (fl (ivAdd (mG a 9) (mG b 9)).2) = ivC (zipM ivAdd a b) := by
      rw [← zipK_all]
      unfold zipK
      rw [← filI_set (fun i => ivAdd (mG a i) (mG b i)) (mG a) 10 9 _ rfl]
      exact ivC_put _ 9 _ _ (by rw [filI_len]; decide)
    have hz := zipM_len ivAdd a b
    rw [f]
    simp -implicitDefEqProofs only [evI, hv, effC, reduceCtorEq, ↓reduceIte, n1_, n2_, n3_, n4_, n5_, i1_, i2_, i3_, i4_, i5_, i6_, i7_, ivC_20 _ hz]
    (repeat (with_reducible refine And.intro (by omega) ?_))
    rw [splice_all _ _ (by rw [ivC_length, hz]; rfl)]
    exact endsT_ivs _ (by omega) (by decide) rfl rfl rfl
set_option maxRecDepth 8000 in
theorem r5_Sub_con (a b : Md) (ha : a.length = 10) (hb : b.length = 10) : Con Tryz.prog 104 [mdV a, mdV b] (mdV (zipM ivSub a b)) := by
  refine Con_introA A_r5_Sub_comp rfl mixed ?_
  refine evx @A_r5_Sub.eq_1 ?_
  (repeat (with_reducible refine And.intro (by omega) ?_))
  refine WA_for (n := 9) (fun c s => ∃ k, c + k = 9 ∧ s = ⟨[(2, .ptr 0 0 0 20), (3, .ptr 1 0 0 20), (4, .ptr 2 0 0 20), (5, fI k)], [(2, [ivC (List.replicate 10 (0, 0))]), (1, [ivC b]), (0, [ivC (zipK ivSub a b k)])]⟩) ⟨0, by omega, by rw [zipK_zero _ _ _ ha]; rfl⟩ ?_
  rintro c s ⟨k, hc, rfl⟩
  have hl : (zipK ivSub a b k).length = 10 := filI_len _ _ _ _
  refine evx @A_r5_Sub_L0.eq_1 ?_
  refine condC_intro (fun h => ?_) (fun h => ?_)
  · replace h := of_decide_eq_true h
    have hk : k < 9 := by omega
    have hg : mG (zipK ivSub a b k) k = mG a k := by unfold zipK; rw [filI_get _ _ _ _ _ (by omega), if_neg (by omega)]
    simp -implicitDefEqProofs only [evI, hv, effC, reduceCtorEq, ↓reduceIte, n1_, n2_, n3_, n4_, n5_, i1_, i2_, i3_, i4_, i5_, i6_, i7_, ivC_two (zipK ivSub a b k) k (by omega), ivC_two b k (by omega), hg]
    (repeat (with_reducible refine And.intro (by omega) ?_))
    refine callG_con (r2_Sub_con (mG a k) (mG b k)) rfl ?_
    refine ev ?_
    (repeat (with_reducible refine And.intro (by omega) ?_))
    rw [wrapI (by omega) (by omega), ivC_put _ _ _ _ (by omega)]
    refine ⟨c - 1, by omega, k + 1, by omega, ?_⟩
    unfold zipK
    rw [filI_set _ _ _ _ _ rfl]
    rfl
  · replace h := of_decide_eq_false h
    obtain rfl : k = 9 := by omega
    have hg : mG (zipK ivSub a b 9) 9 = mG a 9 := by unfold zipK; rw [filI_get _ _ _ _ _ (by omega), if_neg (by omega)]
    simp -implicitDefEqProofs only [evI, hv, effC, reduceCtorEq, ↓reduceIte, n1_, n2_, n3_, n4_, n5_, i1_, i2_, i3_, i4_, i5_, i6_, i7_, ivC_R _ hl, ivC_R b hb, hg]
    (repeat (with_reducible refine And.intro (by omega) ?_))
    refine callG_con (r2_Sub_con (mG a 9) (mG b 9)) rfl ?_
    refine ev ?_
    have f : ((ivC (zipK ivSub a b 9)).set 18 (fl (ivSub (mG a 9) (mG b 9)).1)).set 19 (fl (ivSub (mG a 9) (mG b 9)).2) = ivC (zipM ivSub a b) := by
      rw [← zipK_all]
      unfold zipK
      rw [← filI_set (fun i => ivSub (mG a i) (mG b i)) (mG a) 10 9 _ rfl]
      exact ivC_put _ 9 _ _ (by rw [filI_len]; decide)
    have hz := zipM_len ivSub a b
    rw [f]
    simp -implicitDefEqProofs only [evI, hv, effC, reduceCtorEq, ↓reduceIte, n1_, n2_, n3_, n4_, n5_, i1_, i2_, i3_, i4_, i5_, i6_, i7_, ivC_20 _ hz]
    (repeat (with_reducible refine And.intro (by omega) ?_))
    rw [splice_all _ _ (by rw [ivC_length, hz]; rfl)]
    exact endsT_ivs _ (by omega) (by decide) rfl rfl rfl
abbrev rmH (a b c : Md) : Heap := [(3, [ivC c]), (2, [ivC (List.replicate 10 (0, 0))]), (1, [ivC b]), (0, [ivC a])]
abbrev rmS (r : Sl) : Sl := (2, .ptr 0 0 0 20) :: (3, .ptr 1 0 0 20) :: (4, .ptr 2 0 0 20) :: (5, .ptr 3 0 0 20) :: r
set_option maxRecDepth 8000 in
theorem rmul_L1 (a b C : Md) (k : Nat) (ha : a.length = 10) (hb : b.length = 10) (hk : k < 9) (Q : Ex → T → Prop)
    (hQ : ∀ v w, Q (.exit 2) ⟨rmS [(6, fI k), (7, .ptr 12 0 0 2), (8, v), (26, w)], (12, [[fl (mulK a b k k).1, fl (mulK a b k k).2]]) :: rmH a b C⟩) :
    WA Tryz.prog (fun _ => False) 91 (.loop A_r5_Mul_L1) Q ⟨rmS [(6, fI k), (7, .ptr 12 0 0 2), (8, fI 1)], (12, [[fl (mulK a b k 0).1, fl (mulK a b k 0).2]]) :: rmH a b C⟩ := by
  refine WA_for (n := k) (fun c s => ∃ i, c + i = k ∧ s = ⟨rmS [(6, fI k), (7, .ptr 12 0 0 2), (8, fI (i + 1 : Nat))], (12, [[fl (mulK a b k i).1, fl (mulK a b k i).2]]) :: rmH a b C⟩) ⟨0, by omega, rfl⟩ ?_
  rintro c s ⟨i, hc, rfl⟩
  refine evx @A_r5_Mul_L1.eq_1 ?_
  refine condC_intro (fun h => ?_) (fun h => ?_)
  · replace h := of_decide_eq_true h
    have hik : i + 1 ≤ k := by omega
    have w1 : IntKind.i64.wrap ((k : Int) - ((i + 1 : Nat) : Int)) = ((k - (i + 1) : Nat) : Int) := by rw [wrapI (by omega) (by omega)]; omega
    simp -implicitDefEqProofs only [evI, hv, effC, reduceCtorEq, ↓reduceIte, n1_, n2_, n3_, n4_, n5_, i1_, i2_, i3_, i4_, i5_, i6_, i7_, w1, ivC_two a (i + 1) (by omega), ivC_two b (k - (i + 1)) (by omega)]
    (repeat (with_reducible refine And.intro (by omega) ?_))
    refine callSG_con (r2_Mul_con (mG a (i + 1)) (mG b (k - (i + 1)))) rfl ?_
    refine ev ?_
    refine callG_con (r2_Add_con (mulK a b k i) (ivMul (mG a (i + 1)) (mG b (k - (i + 1))))) rfl ?_
    refine ev ?_
    rw [show IntKind.i64.wrap (((i + 1 : Nat) : Int) + 1) = ((i + 1 + 1 : Nat) : Int) by rw [wrapI (by omega) (by omega)]; omega]
    exact ⟨c - 1, by omega, i + 1, by omega, rfl⟩
  · replace h := of_decide_eq_false h
    obtain rfl : i = k := by omega
    refine ev ?_
    exact hQ _ _
set_option maxRecDepth 8000 in
theorem rmul_L0 (a b : Md) (ha : a.length = 10) (hb : b.length = 10) (Q : Ex → T → Prop)
    (hQ : ∀ v w, Q (.exit 0) ⟨rmS [(6, v), (13, w)], rmH a b (filI (fun k => mulK a b k k) (fun _ => (0, 0)) 10 9)⟩) :
    WA Tryz.prog (fun _ => False) 91 (.loop A_r5_Mul_L0) Q ⟨rmS [(6, fI 0)], rmH a b (filI (fun k => mulK a b k k) (fun _ => (0, 0)) 10 0)⟩ := by
  refine WA_forW (n := 9) (fun c s => ∃ k, c + k = 9 ∧ s = ⟨rmS [(6, fI k)], rmH a b (filI (fun k => mulK a b k k) (fun _ => (0, 0)) 10 k)⟩) (Le.refl _) ⟨0, by omega, rfl⟩ ?_
  rintro c s ⟨k, hc, rfl⟩
  have hl := filI_len (fun k => mulK a b k k) (fun _ => (0, 0)) 10 k
  refine evx @A_r5_Mul_L0.eq_1 ?_
  refine condC_intro (fun h => ?_) (fun h => ?_)
  · replace h := of_decide_eq_true h
    have hk : k < 9 := by omega
    simp -implicitDefEqProofs only [evI, hv, effC, reduceCtorEq, ↓reduceIte, n1_, n2_, n3_, n4_, n5_, i1_, i2_, i3_, i4_, i5_, i6_, i7_, ivC_0 a (by omega), ivC_two b k (by omega)]
    (repeat (with_reducible refine And.intro (by omega) ?_))
    refine callSG_con (r2_Mul_con (mG a 0) (mG b k)) rfl ?_
    refine ev ?_
    refine rmul_L1 a b _ k ha hb hk _ fun v w => ?_
    refine ev ?_
    (repeat (with_reducible refine And.intro (by omega) ?_))
    rw [wrapI (by omega) (by omega), ivC_put _ _ _ _ (by omega), filI_set _ _ _ _ _ rfl]
    exact ⟨c - 1, _, by omega, LeT.only (fun X => decide (X ≤ 3)) (fun _ h => h) rfl (by simp (maxDischargeDepth := 6) [kpS, fam_cons, fam_nil, KpA_ivC']) (by simp (maxDischargeDepth := 6) [kpS, fam_cons, fam_nil, KpA_ivC']), k + 1, by omega, rfl⟩
  · replace h := of_decide_eq_false h
    obtain rfl : k = 9 := by omega
    refine ev ?_
    exact hQ _ _
set_option maxRecDepth 8000 in
theorem rmul_L3 (a b C : Md) (i : Nat) (r : Iv) (ha : a.length = 10) (hb : b.length = 10) (hi : i < 9) (Q : Ex → T → Prop)
    (hQ : ∀ v w, Q (.exit 6) ⟨rmS [(9, .ptr 5 0 0 2), (10, fI i), (11, v), (52, w)], (5, [[fl (mulJ a b i r 9).1, fl (mulJ a b i r 9).2]]) :: rmH a b C⟩) :
    WA Tryz.prog (fun _ => False) 91 (.loop A_r5_Mul_L3) Q ⟨rmS [(9, .ptr 5 0 0 2), (10, fI i), (11, fI 0)], (5, [[fl r.1, fl r.2]]) :: rmH a b C⟩ := by
  refine WA_for (n := 9) (fun c s => ∃ j, c + j = 9 ∧ s = ⟨rmS [(9, .ptr 5 0 0 2), (10, fI i), (11, fI j)], (5, [[fl (mulJ a b i r j).1, fl (mulJ a b i r j).2]]) :: rmH a b C⟩) ⟨0, by omega, rfl⟩ ?_
  rintro c s ⟨j, hc, rfl⟩
  refine evx @A_r5_Mul_L3.eq_1 ?_
  refine condC_intro (fun h => ?_) (fun h => ?_)
  · replace h := of_decide_eq_true h
    have hj : j < 9 := by omega
    have w1 : IntKind.i64.wrap ((i : Int) + (j : Int)) = ((i + j : Nat) : Int) := by rw [wrapI (by omega) (by omega)]; omega
    have w2 : IntKind.i64.wrap ((j : Int) + 1) = ((j + 1 : Nat) : Int) := by rw [wrapI (by omega) (by omega)]; omega
    refine evx w1 ?_
    refine condC_intro (fun h8 => ?_) (fun h8 => ?_)
    · replace h8 := of_decide_eq_true h8
      have h8' : 8 < i + j := by omega
      simp -implicitDefEqProofs only [evI, hv, effC, reduceCtorEq, ↓reduceIte, n1_, n2_, n3_, n4_, n5_, i1_, i2_, i3_, i4_, i5_, i6_, i7_, w1, ivC_two a i (by omega), ivC_two b j (by omega)]
      (repeat (with_reducible refine And.intro (by omega) ?_))
      refine callSG_con (r2_Mul_con (mG a i) (mG b j)) rfl ?_
      refine evx w1 ?_
      refine callSG_con (r5_power_con (i + j) (by omega)) rfl ?_
      refine ev ?_
      refine callSG_con (r2_Mul_con (ivMul (mG a i) (mG b j)) (pwI (i + j))) rfl ?_
      refine ev ?_
      refine callG_con (r2_Add_con (mulJ a b i r j) (ivMul (ivMul (mG a i) (mG b j)) (pwI (i + j)))) rfl ?_
      refine ev ?_
      have e2 : mulJ a b i r (j + 1) = ivAdd (mulJ a b i r j) (ivMul (ivMul (mG a i) (mG b j)) (pwI (i + j))) := by rw [mulJ, if_pos h8']
      rw [w2, ← e2]
      exact ⟨c - 1, by omega, j + 1, by omega, rfl⟩
    · replace h8 := of_decide_eq_false h8
      have e2 : mulJ a b i r (j + 1) = mulJ a b i r j := by rw [mulJ, if_neg (by omega)]
      refine ev ?_
      rw [w2]
      exact ⟨c - 1, by omega, j + 1, by omega, by rw [e2]⟩
  · replace h := of_decide_eq_false h
    obtain rfl : j = 9 := by omega
    refine ev ?_
    exact hQ _ _
set_option maxRecDepth 8000 in
theorem rmul_L2 (a b C : Md) (ha : a.length = 10) (hb : b.length = 10) (Q : Ex → T → Prop)
    (hQ : ∀ v w, Q (.exit 4) ⟨rmS [(9, .ptr 5 0 0 2), (10, v), (48, w)], (5, [[fl (mulI a b 9).1, fl (mulI a b 9).2]]) :: rmH a b C⟩) :
    WA Tryz.prog (fun _ => False) 91 (.loop A_r5_Mul_L2) Q ⟨rmS [(9, .ptr 5 0 0 2), (10, fI 0)], (5, [[fl 0, fl 0]]) :: rmH a b C⟩ := by
  refine WA_for (n := 9) (fun c s => ∃ i, c + i = 9 ∧ s = ⟨rmS [(9, .ptr 5 0 0 2), (10, fI i)], (5, [[fl (mulI a b i).1, fl (mulI a b i).2]]) :: rmH a b C⟩) ⟨0, by omega, rfl⟩ ?_
  rintro c s ⟨i, hc, rfl⟩
  refine evx @A_r5_Mul_L2.eq_1 ?_
  refine condC_intro (fun h => ?_) (fun h => ?_)
  · replace h := of_decide_eq_true h
    have hi : i < 9 := by omega
    refine ev ?_
    refine rmul_L3 a b C i (mulI a b i) ha hb hi _ fun v w => ?_
    refine ev ?_
    rw [wrapI (by omega) (by omega)]
    exact ⟨c - 1, by omega, i + 1, by omega, rfl⟩
  · replace h := of_decide_eq_false h
    obtain rfl : i = 9 := by omega
    refine ev ?_
    exact hQ _ _
set_option maxRecDepth 8000 in
theorem r5_Mul_con (a b : Md) (ha : a.length = 10) (hb : b.length = 10) : Con Tryz.prog 161 [mdV a, mdV b] (mdV (mulM a b)) := by
  refine Con_introA A_r5_Mul_comp rfl mixed ?_
  refine evx @A_r5_Mul.eq_1 ?_
  (repeat (with_reducible refine And.intro (by omega) ?_))
  refine rmul_L0 a b ha hb _ fun v w => ?_
  have hl := filI_len (fun k => mulK a b k k) (fun _ => (0, 0)) 10 9
  have hm := mulM_len a b
  have hset : (filI (fun k => mulK a b k k) (fun _ => (0, 0)) 10 9).set 9 (ivAdd (ivAdd (mulI a b 9) (ivMul (mG a 9) (rngM b))) (ivMul (polyM a) (mG b 9))) = mulM a b := by
    rw [mulM_set]; unfold mulM; rfl
  generalize filI (fun k => mulK a b k k) (fun _ => (0, 0)) 10 9 = C at hl hset
  refine ev ?_
  refine callG_con (r2_Point_con 0) rfl ?_
  refine ev ?_
  refine rmul_L2 a b C ha hb _ fun v w => ?_
  refine evx (And.intro (ivC_R a ha) (ivC_20 b hb)) ?_
  (repeat (with_reducible refine And.intro (by omega) ?_))
  first | refine callG_con (r5_Range_con b hb) (by simp [bare_d, ivC_bare]) ?_ | refine callCG_con (r5_Range_con b hb) (by simp [bare_d, ivC_bare]) ?_ | refine callSG_con (r5_Range_con b hb) (by simp [bare_d, ivC_bare]) ?_
  refine ev ?_
  refine callSG_con (r2_Mul_con (mG a 9) (rngM b)) rfl ?_
  refine ev ?_
  refine callG_con (r2_Add_con (mulI a b 9) (ivMul (mG a 9) (rngM b))) rfl ?_
  refine evx (And.intro (ivC_20 a ha) (ivC_R b hb)) ?_
  (repeat (with_reducible refine And.intro (by omega) ?_))
  first | refine callG_con (r5_poly_con a ha) (by simp [bare_d, ivC_bare]) ?_ | refine callCG_con (r5_poly_con a ha) (by simp [bare_d, ivC_bare]) ?_ | refine callSG_con (r5_poly_con a ha) (by simp [bare_d, ivC_bare]) ?_
  refine evx (ivC_R b hb) ?_
  (repeat (with_reducible refine And.intro (by omega) ?_))
  refine callSG_con (r2_Mul_con (polyM a) (mG b 9)) rfl ?_
  refine ev ?_
  refine callG_con (r2_Add_con (ivAdd (mulI a b 9) (ivMul (mG a 9) (rngM b))) (ivMul (polyM a) (mG b 9))) rfl ?_
  generalize ivAdd (ivAdd (mulI a b 9) (ivMul (mG a 9) (rngM b))) (ivMul (polyM a) (mG b 9)) = r2 at hset ⊢
  refine ev ?_
  have f : ((ivC C).set 18 (fl r2.1)).set 19 (fl r2.2) = ivC (mulM a b) := by
    rw [← hset]; exact ivC_put C 9 r2.1 r2.2 (by omega)
  rw [f]
  simp -implicitDefEqProofs only [evI, hv, effC, reduceCtorEq, ↓reduceIte, n1_, n2_, n3_, n4_, n5_, i1_, i2_, i3_, i4_, i5_, i6_, i7_, ivC_20 _ hm]
  (repeat (with_reducible refine And.intro (by omega) ?_))
  rw [splice_all _ _ (by rw [ivC_length, hm]; rfl)]
  exact endsT_ivs _ (by omega) (by decide) rfl rfl rfl
abbrev rdH (a b q : Md) : Heap := [(3, [ivC q]), (2, [ivC (List.replicate 10 (0, 0))]), (1, [ivC b]), (0, [ivC a])]
set_option maxRecDepth 8000 in
theorem rdiv_L1 (a b : Md) (k : Nat) (hb : b.length = 10) (hk : k < 9) (Q : Ex → T → Prop)
    (hQ : ∀ v w, Q (.exit 2) ⟨rmS [(6, fI k), (7, .ptr 8 0 0 2), (8, v), (30, w)], (8, [[fl (divW a b (divQ a b k) k k).1, fl (divW a b (divQ a b k) k k).2]]) :: rdH a b (qC a b k)⟩) :
    WA Tryz.prog (fun _ => False) 65 (.loop A_r5_Div_L1) Q ⟨rmS [(6, fI k), (7, .ptr 8 0 0 2), (8, fI 1)], (8, [[fl (divW a b (divQ a b k) k 0).1, fl (divW a b (divQ a b k) k 0).2]]) :: rdH a b (qC a b k)⟩ := by
  have hl := qC_len a b k (by omega)
  refine WA_for (n := k) (fun c s => ∃ i, c + i = k ∧ s = ⟨rmS [(6, fI k), (7, .ptr 8 0 0 2), (8, fI (i + 1 : Nat))], (8, [[fl (divW a b (divQ a b k) k i).1, fl (divW a b (divQ a b k) k i).2]]) :: rdH a b (qC a b k)⟩) ⟨0, by omega, rfl⟩ ?_
  rintro c s ⟨i, hc, rfl⟩
  refine evx @A_r5_Div_L1.eq_1 ?_
  refine condC_intro (fun h => ?_) (fun h => ?_)
  · replace h := of_decide_eq_true h
    have hik : i + 1 ≤ k := by omega
    have w1 : IntKind.i64.wrap ((k : Int) - ((i + 1 : Nat) : Int)) = ((k - (i + 1) : Nat) : Int) := by rw [wrapI (by omega) (by omega)]; omega
    simp -implicitDefEqProofs only [evI, hv, effC, reduceCtorEq, ↓reduceIte, n1_, n2_, n3_, n4_, n5_, i1_, i2_, i3_, i4_, i5_, i6_, i7_, w1, ivC_two b (i + 1) (by omega), ivC_two (qC a b k) (k - (i + 1)) (by omega), qC_get a b k (k - (i + 1)) (by omega)]
    (repeat (with_reducible refine And.intro (by omega) ?_))
    refine callSG_con (r2_Mul_con (mG b (i + 1)) (mG (divQ a b k) (k - (i + 1)))) rfl ?_
    refine ev ?_
    refine callG_con (r2_Sub_con (divW a b (divQ a b k) k i) (ivMul (mG b (i + 1)) (mG (divQ a b k) (k - (i + 1))))) rfl ?_
    refine ev ?_
    rw [show IntKind.i64.wrap (((i + 1 : Nat) : Int) + 1) = ((i + 1 + 1 : Nat) : Int) by rw [wrapI (by omega) (by omega)]; omega]
    exact ⟨c - 1, by omega, i + 1, by omega, rfl⟩
  · replace h := of_decide_eq_false h
    obtain rfl : i = k := by omega
    refine ev ?_
    exact hQ _ _
set_option maxRecDepth 8000 in
theorem rdiv_L0 (a b : Md) (ha : a.length = 10) (hb : b.length = 10) (Q : Ex → T → Prop)
    (hQ : ∀ v w, Q (.exit 0) ⟨rmS [(6, v), (21, w)], rdH a b (qC a b 9)⟩) :
    WA Tryz.prog (fun _ => False) 65 (.loop A_r5_Div_L0) Q ⟨rmS [(6, fI 0)], rdH a b (qC a b 0)⟩ := by
  refine WA_forW (n := 9) (fun c s => ∃ k, c + k = 9 ∧ s = ⟨rmS [(6, fI k)], rdH a b (qC a b k)⟩) (Le.refl _) ⟨0, by omega, rfl⟩ ?_
  rintro c s ⟨k, hc, rfl⟩
  refine evx @A_r5_Div_L0.eq_1 ?_
  refine condC_intro (fun h => ?_) (fun h => ?_)
  · replace h := of_decide_eq_true h
    have hk : k < 9 := by omega
    have hl := qC_len a b k (by omega)
    simp -implicitDefEqProofs only [evI, hv, effC, reduceCtorEq, ↓reduceIte, n1_, n2_, n3_, n4_, n5_, i1_, i2_, i3_, i4_, i5_, i6_, i7_, ivC_two a k (by omega)]
    (repeat (with_reducible refine And.intro (by omega) ?_))
    refine rdiv_L1 a b k hb hk _ fun v w => ?_
    simp -implicitDefEqProofs only [evI, hv, effC, reduceCtorEq, ↓reduceIte, n1_, n2_, n3_, n4_, n5_, i1_, i2_, i3_, i4_, i5_, i6_, i7_, ivC_0 b (by omega)]
    (repeat (with_reducible refine And.intro (by omega) ?_))
    refine callG_con (r2_Div_con (divW a b (divQ a b k) k k) (mG b 0)) rfl ?_
    refine ev ?_
    (repeat (with_reducible refine And.intro (by omega) ?_))
    rw [wrapI (by omega) (by omega), ivC_put _ _ _ _ (by omega), qC_set a b k (by omega) _ rfl]
    exact ⟨c - 1, _, by omega, LeT.only (fun X => decide (X ≤ 3)) (fun _ h => h) rfl (by simp (maxDischargeDepth := 6) [kpS, fam_cons, fam_nil, KpA_ivC']) (by simp (maxDischargeDepth := 6) [kpS, fam_cons, fam_nil, KpA_ivC']), k + 1, by omega, rfl⟩
  · replace h := of_decide_eq_false h
    obtain rfl : k = 9 := by omega
    refine ev ?_
    exact hQ _ _
set_option maxRecDepth 8000 in
theorem r5_Div_con (a b : Md) (ha : a.length = 10) (hb : b.length = 10) : Con Tryz.prog 162 [mdV a, mdV b] (mdV (divM a b)) := by
  have hn : noneM.length = 10 := by rfl
  have en : ([fl 0, fl 0, fl 0, fl 0, fl 0, fl 0, fl 0, fl 0, fl 0, fl 0, fl 0, fl 0, fl 0, fl 0, fl 0, fl 0, fl 0, fl 0, fl fninf, fl finf] : List V) = ivC noneM := rfl
  refine Con_introA A_r5_Div_comp rfl mixed ?_
  refine evx @A_r5_Div.eq_1 ?_
  (repeat (with_reducible refine And.intro (by omega) ?_))
  rw [ivC_0 b (by omega)]
  (repeat (with_reducible refine And.intro (by omega) ?_))
  refine callG_con (r2_Holds_con (mG b 0)) rfl ?_
  cases h0 : in0 (mG b 0)
  · refine evx (ivC_20 b hb) ?_
    (repeat (with_reducible refine And.intro (by omega) ?_))
    first | refine callG_con (r5_Range_con b hb) (by simp [bare_d, ivC_bare]) ?_ | refine callCG_con (r5_Range_con b hb) (by simp [bare_d, ivC_bare]) ?_ | refine callSG_con (r5_Range_con b hb) (by simp [bare_d, ivC_bare]) ?_
    refine ev ?_
    refine callG_con (r2_Holds_con (rngM b)) rfl ?_
    cases h1 : in0 (rngM b)
    · have e1 : qC a b 0 = List.replicate 10 (0, 0) := rfl
      have ed : divM a b = divQ a b 9 ++ [ivDiv (rngM (zipM ivSub a (mulM b (divQ a b 9 ++ [(0, 0)])))) (rngM b)] := by unfold divM; rw [h0, h1]; rfl
      rw [ed]
      refine ev ?_
      refine rdiv_L0 a b ha hb _ fun v w => ?_
      have hl := qC_len a b 9 (by decide)
      have hq : divQ a b 9 ++ [(0, 0)] = qC a b 9 := rfl
      have hset : (qC a b 9).set 9 (ivDiv (rngM (zipM ivSub a (mulM b (qC a b 9)))) (rngM b)) = divQ a b 9 ++ [ivDiv (rngM (zipM ivSub a (mulM b (qC a b 9)))) (rngM b)] := by
        have := divQ_len a b 9
        unfold qC
        rw [List.set_append_right _ _ (by omega), this]; rfl
      rw [hq, ← hset]
      generalize qC a b 9 = q at hl ⊢
      refine evx (And.intro (ivC_20 a ha) (And.intro (ivC_20 b hb) (ivC_20 q hl))) ?_
      (repeat (with_reducible refine And.intro (by omega) ?_))
      first | refine callG_con (r5_Mul_con b q hb hl) (by simp [bare_d, ivC_bare]) ?_ | refine callCG_con (r5_Mul_con b q hb hl) (by simp [bare_d, ivC_bare]) ?_ | refine callSG_con (r5_Mul_con b q hb hl) (by simp [bare_d, ivC_bare]) ?_
      refine ev ?_
      first | refine callG_con (r5_Sub_con a (mulM b q) ha (mulM_len b q)) (by simp [bare_d, ivC_bare]) ?_ | refine callCG_con (r5_Sub_con a (mulM b q) ha (mulM_len b q)) (by simp [bare_d, ivC_bare]) ?_ | refine callSG_con (r5_Sub_con a (mulM b q) ha (mulM_len b q)) (by simp [bare_d, ivC_bare]) ?_
      refine ev ?_
      first | refine callG_con (r5_Range_con (zipM ivSub a (mulM b q)) (zipM_len _ _ _)) (by simp [bare_d, ivC_bare]) ?_ | refine callCG_con (r5_Range_con (zipM ivSub a (mulM b q)) (zipM_len _ _ _)) (by simp [bare_d, ivC_bare]) ?_ | refine callSG_con (r5_Range_con (zipM ivSub a (mulM b q)) (zipM_len _ _ _)) (by simp [bare_d, ivC_bare]) ?_
      refine evx (ivC_20 b hb) ?_
      (repeat (with_reducible refine And.intro (by omega) ?_))
      first | refine callG_con (r5_Range_con b hb) (by simp [bare_d, ivC_bare]) ?_ | refine callCG_con (r5_Range_con b hb) (by simp [bare_d, ivC_bare]) ?_ | refine callSG_con (r5_Range_con b hb) (by simp [bare_d, ivC_bare]) ?_
      refine ev ?_
      refine callG_con (r2_Div_con (rngM (zipM ivSub a (mulM b q))) (rngM b)) rfl ?_
      generalize ivDiv (rngM (zipM ivSub a (mulM b q))) (rngM b) = r
      refine ev ?_
      have f : ((ivC q).set 18 (fl r.1)).set 19 (fl r.2) = ivC (q.set 9 r) := ivC_put q 9 r.1 r.2 (by omega)
      have hl2 : (q.set 9 r).length = 10 := by rw [List.length_set]; exact hl
      rw [f]
      simp -implicitDefEqProofs only [evI, hv, effC, reduceCtorEq, ↓reduceIte, n1_, n2_, n3_, n4_, n5_, i1_, i2_, i3_, i4_, i5_, i6_, i7_, ivC_20 _ hl2]
      (repeat (with_reducible refine And.intro (by omega) ?_))
      rw [splice_all _ _ (by rw [ivC_length, hl2]; rfl)]
      exact endsT_ivs _ (by omega) (by decide) rfl rfl rfl
    · have ed : divM a b = noneM := by unfold divM; rw [h0, h1]; rfl
      rw [ed]
      refine ev ?_
      refine callG_con (r2_Whole_con) rfl ?_
      refine ev ?_
      exact endsT_ivs _ (by omega) (by decide) rfl rfl rfl
  · have ed : divM a b = noneM := by unfold divM; rw [h0]; rfl
    rw [ed]
    refine ev ?_
    refine callG_con (r2_Whole_con) rfl ?_
    refine ev ?_
    exact endsT_ivs _ (by omega) (by decide) rfl rfl rfl
set_option maxRecDepth 8000 in
theorem r5_two_con (k : Int) (a b : Md) (ha : a.length = 10) (hb : b.length = 10) (hk : k = 2 ∨ k = 3 ∨ k = 4 ∨ k = 5) : Con Tryz.prog 141 [fI k, mdV a, mdV b] (mdV (if k = 2 then zipM ivAdd a b else if k = 3 then zipM ivSub a b else if k = 4 then mulM a b else divM a b)) := by
  refine Con_introA A_r5_two_comp rfl mixed ?_
  refine evx @A_r5_two.eq_1 ?_
  (repeat (with_reducible refine And.intro (by omega) ?_))
  rcases hk with rfl | rfl | rfl | rfl
  · have hz := zipM_len ivAdd a b
    refine evx (And.intro (ivC_20 a ha) (ivC_20 b hb)) ?_
    (repeat (with_reducible refine And.intro (by omega) ?_))
    first | refine callG_con (r5_Add_con a b ha hb) (by simp [bare_d, ivC_bare]) ?_ | refine callCG_con (r5_Add_con a b ha hb) (by simp [bare_d, ivC_bare]) ?_ | refine callSG_con (r5_Add_con a b ha hb) (by simp [bare_d, ivC_bare]) ?_
    refine ev ?_
    (repeat (with_reducible refine And.intro (by omega) ?_))
    rw [splice_all _ _ (by rw [ivC_length, hz]; rfl)]
    exact endsT_ivs _ (by omega) (by decide) rfl rfl rfl
  · have hz := zipM_len ivSub a b
    rw [if_neg (by decide), if_pos rfl]
    refine evbx (And.intro (ivC_20 a ha) (ivC_20 b hb)) ?_
    (repeat (with_reducible refine And.intro (by omega) ?_))
    first | refine callG_con (r5_Sub_con a b ha hb) (by simp [bare_d, ivC_bare]) ?_ | refine callCG_con (r5_Sub_con a b ha hb) (by simp [bare_d, ivC_bare]) ?_ | refine callSG_con (r5_Sub_con a b ha hb) (by simp [bare_d, ivC_bare]) ?_
    refine ev ?_
    (repeat (with_reducible refine And.intro (by omega) ?_))
    rw [splice_all _ _ (by rw [ivC_length, hz]; rfl)]
    exact endsT_ivs _ (by omega) (by decide) rfl rfl rfl
  · have hz := mulM_len a b
    rw [if_neg (by decide), if_neg (by decide), if_pos rfl]
    refine evbx (And.intro (ivC_20 a ha) (ivC_20 b hb)) ?_
    (repeat (with_reducible refine And.intro (by omega) ?_))
    first | refine callG_con (r5_Mul_con a b ha hb) (by simp [bare_d, ivC_bare]) ?_ | refine callCG_con (r5_Mul_con a b ha hb) (by simp [bare_d, ivC_bare]) ?_ | refine callSG_con (r5_Mul_con a b ha hb) (by simp [bare_d, ivC_bare]) ?_
    refine ev ?_
    (repeat (with_reducible refine And.intro (by omega) ?_))
    rw [splice_all _ _ (by rw [ivC_length, hz]; rfl)]
    exact endsT_ivs _ (by omega) (by decide) rfl rfl rfl
  · have hz := divM_len a b
    rw [if_neg (by decide), if_neg (by decide), if_neg (by decide)]
    refine evbx (And.intro (ivC_20 a ha) (ivC_20 b hb)) ?_
    (repeat (with_reducible refine And.intro (by omega) ?_))
    first | refine callG_con (r5_Div_con a b ha hb) (by simp [bare_d, ivC_bare]) ?_ | refine callCG_con (r5_Div_con a b ha hb) (by simp [bare_d, ivC_bare]) ?_ | refine callSG_con (r5_Div_con a b ha hb) (by simp [bare_d, ivC_bare]) ?_
    refine ev ?_
    (repeat (with_reducible refine And.intro (by omega) ?_))
    rw [splice_all _ _ (by rw [ivC_length, hz]; rfl)]
    exact endsT_ivs _ (by omega) (by decide) rfl rfl rfl
def A_model_Eval_L0 : CA := (.seq (.reg [i_N 0 15 .lss 14 13] [1, 2, 5, 12, 13, 14, 15]) (.seq (.cond (.t 15) .skip (.exit 0)) (.seq (.block 1 (.seq (.reg [i_I 0 16 12 14 4, i_A 1 17 16 4, i_X 2 7 (.alloc [(.d (.int .i64 0)), (.d (.int .i64 0)), (.d (.int .i64 0)), (.d (.flt 0))] 62), i_S 3 7 17 4] [1, 2, 5, 7, 12, 13, 14]) (.seq (.reg [i_P 0 18 7 0, i_L 1 19 18 1] [1, 2, 5, 7, 12, 13, 14, 19]) (.block 2 (.seq (.reg [i_B 0 21 .eql 19 0, i_M 1 20 21] [1, 2, 5, 7, 12, 13, 14, 19, 20]) (.cond (.t 20) (.reg [i_M 0 22 5, i_P 1 23 7 3, i_L 2 24 23 1, i_X 3 25 (.bslice [(.d (.flt 0))] 1 1 [(0, (1, (.t 24)))] 31), i_X 4 26 (.callA (kF 76) [(.t 25)]), i_X 5 27 (.bslice z_20 1 20 [(0, (20, (.t 26)))] 87), i_X 6 28 (.app (.t 22) (.t 27) 20 160), i_M 7 5 28] [1, 2, 5, 12, 13, 14]) (.seq (.reg [i_B 0 30 .eql 19 1, i_M 1 29 30] [1, 2, 5, 7, 12, 13, 14, 19, 29]) (.cond (.t 29) (.reg [i_M 0 31 5, i_M 1 32 1, i_P 2 33 7 1, i_L 3 34 33 1, i_I 4 35 32 34 20, i_A 5 36 35 20, i_X 6 37 (.bslice z_20 1 20 [(0, (20, (.t 36)))] 87), i_X 7 38 (.app (.t 31) (.t 37) 20 160), i_M 8 5 38] [1, 2, 5, 12, 13, 14]) (.seq (.reg [i_B 0 40 .eql 19 2, i_M 1 39 40] [1, 2, 5, 7, 12, 13, 14, 19, 39]) (.cond (.t 39) (.reg [i_M 0 41 5, i_M 1 42 5, i_P 2 43 7 1, i_L 3 44 43 1, i_I 4 45 42 44 20, i_A 5 46 45 20, i_M 6 47 5, i_P 7 48 7 2, i_L 8 49 48 1, i_I 9 50 47 49 20, i_A 10 51 50 20, i_X 11 52 (.callA (kF 128) [(.t 46), (.t 51)]), i_X 12 53 (.bslice z_20 1 20 [(0, (20, (.t 52)))] 87), i_X 13 54 (.app (.t 41) (.t 53) 20 160), i_M 14 5 54] [1, 2, 5, 12, 13, 14]) (.seq (.reg [i_B 0 56 .eql 19 3, i_M 1 55 56] [1, 2, 5, 7, 12, 13, 14, 19, 55]) (.cond (.t 55) (.reg [i_M 0 57 5, i_M 1 58 5, i_P 2 59 7 1, i_L 3 60 59 1, i_I 4 61 58 60 20, i_A 5 62 61 20, i_M 6 63 5, i_P 7 64 7 2, i_L 8 65 64 1, i_I 9 66 63 65 20, i_A 10 67 66 20, i_X 11 68 (.callA (kF 85) [(.t 62), (.t 67)]), i_X 12 69 (.bslice z_20 1 20 [(0, (20, (.t 68)))] 87), i_X 13 70 (.app (.t 57) (.t 69) 20 160), i_M 14 5 70] [1, 2, 5, 12, 13, 14]) (.seq (.reg [i_B 0 72 .eql 19 4, i_M 1 71 72] [1, 2, 5, 7, 12, 13, 14, 19, 71]) (.cond (.t 71) (.reg [i_M 0 73 5, i_M 1 74 5, i_P 2 75 7 1, i_L 3 76 75 1, i_I 4 77 74 76 20, i_A 5 78 77 20, i_M 6 79 5, i_P 7 80 7 2, i_L 8 81 80 1, i_I 9 82 79 81 20, i_A 10 83 82 20, i_X 11 84 (.callA (kF 129) [(.t 78), (.t 83)]), i_X 12 85 (.bslice z_20 1 20 [(0, (20, (.t 84)))] 87), i_X 13 86 (.app (.t 73) (.t 85) 20 160), i_M 14 5 86] [1, 2, 5, 12, 13, 14]) (.seq (.reg [i_B 0 88 .eql 19 5, i_M 1 87 88] [1, 2, 5, 7, 12, 13, 14, 87]) (.cond (.t 87) (.reg [i_M 0 89 5, i_M 1 90 5, i_P 2 91 7 1, i_L 3 92 91 1, i_I 4 93 90 92 20, i_A 5 94 93 20, i_M 6 95 5, i_P 7 96 7 2, i_L 8 97 96 1, i_I 9 98 95 97 20, i_A 10 99 98 20, i_X 11 100 (.callA (kF 130) [(.t 94), (.t 99)]), i_X 12 101 (.bslice z_20 1 20 [(0, (20, (.t 100)))] 87), i_X 13 102 (.app (.t 89) (.t 101) 20 160), i_M 14 5 102] [1, 2, 5, 12, 13, 14]) .skip)))))))))))))))) (.reg [i_B 0 103 .add 14 1, i_M 1 14 103] [1, 2, 5, 12, 13, 14]))))
def A_model_Eval_L1 : CA := (.seq (.reg [i_N 0 111 .lss 110 109] [5, 8, 108, 109, 110, 111]) (.seq (.cond (.t 111) .skip (.exit 3)) (.seq (.block 4 (.seq (.reg [i_M 0 112 110, i_I 1 113 108 110 1, i_L 2 114 113 1, i_M 3 9 112, i_M 4 10 114] [5, 8, 9, 10, 108, 109, 110]) (.reg [i_M 0 115 8, i_M 1 116 9, i_M 2 117 5, i_M 3 118 10, i_I 4 119 117 118 20, i_A 5 120 119 20, i_I 6 121 115 116 20, i_S 7 121 120 20] [5, 8, 108, 109, 110]))) (.reg [i_B 0 122 .add 110 1, i_M 1 110 122] [5, 8, 108, 109, 110]))))
def A_model_Eval : CA := (.seq (.reg [i_X 0 2 (.box (.t 0) 3 28), i_X 1 4 (.h (.mov (.k .nil)))] [1, 2]) (.seq (.reg [i_X 0 5 (.h (.mov (.k .nil)))] [1, 2, 5]) (.seq (.seq (.reg [i_P 0 11 2 1, i_L 1 12 11 1, i_X 2 13 (.h (.len (.t 12))), i_K 3 14 0] [1, 2, 5, 12, 13, 14]) (.block 0 (.loop A_model_Eval_L0))) (.seq (.reg [i_P 0 104 2 0, i_L 1 105 104 1, i_X 2 106 (.mksl z_20 20 160 (.t 105) (.t 105) 87), i_M 3 8 106] [2, 5, 8]) (.seq (.seq (.reg [i_P 0 107 2 2, i_L 1 108 107 1, i_X 2 109 (.h (.len (.t 108))), i_K 3 110 0] [5, 8, 108, 109, 110]) (.block 3 (.loop A_model_Eval_L1))) (.seq (.reg [i_M 0 123 8, i_M 1 4 123] [4]) .ret))))))
theorem A_model_Eval_comp : compF Tryz.prog 82 = some ⟨124, [(4, none)], A_model_Eval.strip⟩ := by kernel_rfl
def A_r5_Eval_L0 : CA := (.seq (.seq (.reg [i_M 0 14 6, i_P 1 15 2 1, i_L 2 16 15 1, i_X 3 17 (.h (.len (.t 16))), i_N 4 18 .lss 14 17] [1, 2, 5, 6, 18]) (.cond (.t 18) .skip (.exit 0))) (.seq (.block 1 (.seq (.reg [i_P 0 21 2 1, i_L 1 22 21 1, i_M 2 23 6, i_I 3 24 22 23 4, i_A 4 25 24 4, i_X 5 7 (.alloc [(.d (.int .i64 0)), (.d (.int .i64 0)), (.d (.int .i64 0)), (.d (.flt 0))] 62), i_S 6 7 25 4] [1, 2, 5, 6, 7]) (.seq (.reg [i_P 0 26 7 0, i_L 1 27 26 1] [1, 2, 5, 6, 7, 27]) (.block 2 (.seq (.reg [i_B 0 45 .eql 27 0, i_M 1 44 45] [1, 2, 5, 6, 7, 27, 44]) (.cond (.t 44) (.reg [i_M 0 46 5, i_M 1 47 6, i_P 2 48 7 3, i_L 3 49 48 1, i_X 4 50 (.bslice [(.d (.flt 0))] 1 1 [(0, (1, (.t 49)))] 31), i_X 5 51 (.callA (kF 46) [(.t 50)]), i_I 6 52 46 47 20, i_S 7 52 51 20] [1, 2, 5, 6]) (.seq (.reg [i_B 0 54 .eql 27 1, i_M 1 53 54] [1, 2, 5, 6, 7, 53]) (.cond (.t 53) (.reg [i_M 0 55 5, i_M 1 56 6, i_M 2 57 1, i_P 3 58 7 1, i_L 4 59 58 1, i_I 5 60 57 59 20, i_A 6 61 60 20, i_I 7 62 55 56 20, i_S 8 62 61 20] [1, 2, 5, 6]) (.reg [i_M 0 28 5, i_M 1 29 6, i_P 2 30 7 0, i_L 3 31 30 1, i_M 4 32 5, i_P 5 33 7 1, i_L 6 34 33 1, i_I 7 35 32 34 20, i_A 8 36 35 20, i_M 9 37 5, i_P 10 38 7 2, i_L 11 39 38 1, i_I 12 40 37 39 20, i_A 13 41 40 20, i_X 14 42 (.callA (kF 141) [(.t 31), (.t 36), (.t 41)]), i_I 15 43 28 29 20, i_S 16 43 42 20] [1, 2, 5, 6]))))))))) (.reg [i_M 0 19 6, i_B 1 20 .add 19 1, i_M 2 6 20] [1, 2, 5, 6])))
def A_r5_Eval_L1 : CA := (.seq (.seq (.reg [i_M 0 63 9, i_P 1 64 2 0, i_L 2 65 64 1, i_N 3 66 .lss 63 65] [2, 5, 8, 9, 66]) (.cond (.t 66) .skip (.exit 3))) (.seq (.block 4 (.reg [i_M 0 69 8, i_M 1 70 5, i_P 2 71 2 2, i_L 3 72 71 1, i_M 4 73 9, i_I 5 74 72 73 1, i_L 6 75 74 1, i_I 7 76 70 75 20, i_A 8 77 76 20, i_X 9 78 (.bslice z_20 1 20 [(0, (20, (.t 77)))] 87), i_X 10 79 (.app (.t 69) (.t 78) 20 160), i_M 11 8 79] [2, 5, 8, 9])) (.reg [i_M 0 67 9, i_B 1 68 .add 67 1, i_M 2 9 68] [2, 5, 8, 9])))
def A_r5_Eval : CA := (.seq (.reg [i_X 0 2 (.box (.t 0) 3 28), i_X 1 4 (.h (.mov (.k .nil)))] [1, 2]) (.seq (.reg [i_P 0 10 2 1, i_L 1 11 10 1, i_X 2 12 (.h (.len (.t 11))), i_X 3 13 (.mksl z_20 20 160 (.t 12) (.t 12) 87), i_M 4 5 13] [1, 2, 5]) (.seq (.seq (.reg [i_K 0 6 0] [1, 2, 5, 6]) (.block 0 (.loop A_r5_Eval_L0))) (.seq (.reg [i_X 0 8 (.h (.mov (.k .nil)))] [2, 5, 8]) (.seq (.seq (.reg [i_K 0 9 0] [2, 5, 8, 9]) (.block 3 (.loop A_r5_Eval_L1))) (.seq (.reg [i_M 0 80 8, i_M 1 4 80] [4]) .ret))))))
theorem A_r5_Eval_comp : compF Tryz.prog 100 = some ⟨81, [(4, none)], A_r5_Eval.strip⟩ := by kernel_rfl
theorem scalar_iv (ps : List Iv) : Scalar (.agg (ivC ps)) := by
  refine .agg fun j hj => ?_
  rw [ivC_data, List.getD_eq_getElem?_getD, List.getElem?_map]
  have hj2 : j < (ivDs ps).length := by rw [ivC_data, List.length_map] at hj; exact hj
  rw [List.getElem?_eq_getElem hj2]
  show Scalar (.d (ivDs ps)[j])
  have : ∀ d ∈ ivDs ps, Scalar (.d d) := fun d hd => by
    unfold ivDs at hd
    obtain ⟨p, _, hp⟩ := List.mem_flatMap.1 hd
    simp at hp
    rcases hp with rfl | rfl <;> exact .flt _
  exact this _ (List.getElem_mem hj2)
theorem mdG_len (r : List Md) (i : Nat) (h : (r.getD i []).length = 10) : (mdG r i).length = 20 := by show (ivDs _).length = 20; rw [ivDs_len, h]
theorem regM_pre (t : Tp) (x : List Md) (i j : Nat) (h : j < i) : (regM t x (i + 1)).getD j [] = (regM t x i).getD j [] := by
  have hl := regM_len t x i
  rw [regM, List.getD_eq_getElem?_getD, List.getElem?_append_left (by omega), ← List.getD_eq_getElem?_getD]
theorem regM_last (t : Tp) (x : List Md) (i : Nat) : (regM t x (i + 1)).getD i [] = opM (t.ops.getD i ⟨0, 0, 0, 0⟩) x (regM t x i) := by
  have hl := regM_len t x i
  rw [regM, List.getD_eq_getElem?_getD, List.getElem?_append_right (by omega), hl, Nat.sub_self]; rfl
theorem regM_step (t : Tp) (x : List Md) (i : Nat) : dcells (i + 1) (mdG (regM t x (i + 1))) = dcells i (mdG (regM t x i)) ++ ivC (opM (t.ops.getD i ⟨0, 0, 0, 0⟩) x (regM t x i)) := by
  rw [dcells_succ]
  have e : dcells i (mdG (regM t x (i + 1))) = dcells i (mdG (regM t x i)) := by
    unfold dcells
    rw [dcB_congr fun j hj => ?_]
    simp only [mdG, regM_pre t x i j hj]
  rw [e, ivC_data, mdG, regM_last]
def outG (g : Nat → Md) (i j : Nat) : List D := if j < i then ivDs (g j) else ivDs (List.replicate 10 (0, 0))
theorem outG_len (g : Nat → Md) (i j : Nat) (h : (g j).length = 10) : (outG g i j).length = 20 := by
  unfold outG; split
  · rw [ivDs_len, h]
  · rw [ivDs_len]; rfl
theorem splice_block {get get' : Nat → List D} {esz : Nat} (n : Nat) (h : ∀ i, i < n → (get i).length = esz) (h' : ∀ i, i < n → (get' i).length = esz) (i : Nat) (hi : i < n) (he : ∀ j, j < n → j ≠ i → get' j = get j) : splice (dcells n get) (i * esz) ((get' i).map .d) = dcells n get' := by
  have l1 := dcells_len n h
  have l2 := dcells_len n h'
  refine List.ext_getElem? fun k => ?_
  rw [splice_at, List.length_map, h' i hi, l1]
  by_cases hk : k < n * esz
  · have e0 : 0 < esz := by
      rcases Nat.eq_zero_or_pos esz with h0 | h0
      · subst h0; simp at hk
      · exact h0
    have e1 : k / esz < n := (Nat.div_lt_iff_lt_mul e0).2 hk
    have e2 : k % esz < esz := Nat.mod_lt _ e0
    have e3 : k / esz * esz + k % esz = k := Nat.div_add_mod' k esz
    have g1 := dcells_get n h (k / esz) (k % esz) e1 e2
    have g2 := dcells_get n h' (k / esz) (k % esz) e1 e2
    rw [e3, List.getD_eq_getElem?_getD, List.getElem?_eq_getElem (by omega)] at g1 g2
    rw [List.getElem?_eq_getElem (by omega : k < (dcells n get').length)]
    by_cases hb : i * esz ≤ k ∧ k < i * esz + esz ∧ k < n * esz
    · rw [if_pos hb]
      have ei : k / esz = i := by
        refine Nat.div_eq_of_lt_le (by omega) ?_
        rw [Nat.succ_mul]; omega
      have ej : k - i * esz = k % esz := by rw [← ei]; omega
      rw [ej, List.getElem?_map, List.getElem?_eq_getElem (by rw [h' i hi]; exact e2)]
      simp only [Option.getD_some] at g2
      rw [g2, ei]
      simp [List.getD_eq_getElem?_getD, h' i hi, e2]
    · rw [if_neg hb, List.getElem?_eq_getElem (by omega)]
      have en : k / esz ≠ i := fun e => hb ⟨by rw [← e]; omega, by rw [← e]; omega, hk⟩
      simp only [Option.getD_some] at g1 g2
      rw [g1, g2, he _ e1 en]
  · rw [if_neg (by omega), List.getElem?_eq_none (by omega), List.getElem?_eq_none (by omega)]
theorem outG_zero (g : Nat → Md) (n : Nat) : repl n [fl 0, fl 0, fl 0, fl 0, fl 0, fl 0, fl 0, fl 0, fl 0, fl 0, fl 0, fl 0, fl 0, fl 0, fl 0, fl 0, fl 0, fl 0, fl 0, fl 0] = dcells n (outG g 0) := by
  induction n with
  | zero => rfl
  | succ n ih =>
    rw [dcells_succ, ← ih]
    unfold repl
    rw [List.replicate_succ', List.flatten_append]
    rfl
theorem outG_all (g : Nat → Md) (n : Nat) : dcells n (outG g n) = dcells n fun j => ivDs (g j) := by
  unfold dcells
  rw [dcB_congr fun j hj => by unfold outG; rw [if_pos hj]]
theorem mdG_map (r : List Md) (i : Nat) : (mdG r i).map V.d = ivC (r.getD i []) := (ivC_data _).symm
theorem ivC_len20 (p : Md) (h : p.length = 10) : (ivC p).length = 20 := by rw [ivC_length, h]
theorem splice_z20 (p : Md) (h : p.length = 10) : splice [fl 0, fl 0, fl 0, fl 0, fl 0, fl 0, fl 0, fl 0, fl 0, fl 0, fl 0, fl 0, fl 0, fl 0, fl 0, fl 0, fl 0, fl 0, fl 0, fl 0] 0 (ivC p) = ivC p := splice_all _ _ (by rw [ivC_length, h]; rfl)
set_option maxRecDepth 8000 in
theorem model_Eval_con (t : Tp) (x : List Md) (ht : Tok t) (hx : x.length = t.n) (hxr : ∀ i, i < t.n → (x.getD i []).length = 10) (hlen : t.ops.length < 2 ^ 39) : Con Tryz.prog 82 [tapeV t, .d (mdD x)] (.d (mdD (evalM t x))) := by
  refine Con_introA A_model_Eval_comp rfl mixed ?_
  refine evx @A_model_Eval.eq_1 ?_
  refine evx @opsD.eq_1 ?_
  refine WA_forW (n := t.ops.length) (fun c s => ∃ i, c + i = t.ops.length ∧ s = ⟨[(1, .d (mdD x)), (2, .ptr 0 0 0 3), (5, .sl 100 0 0 i 20 (i * 20)), (12, .d (opsD t.ops)), (13, fI t.ops.length), (14, fI i)],
      [(100, [dcells i (mdG (regM t x i))]), (0, [[fI t.n, .d (opsD t.ops), .d (rowI t.out)]])]⟩)
    (s0 := ⟨_, _⟩) (LeT.nilrow (X := 100) (esz := 20) (as' := [(1, .d (mdD x)), (2, .ptr 0 0 0 3), (5, .sl 100 0 0 0 20 0), (12, .d (opsD t.ops)), (13, fI t.ops.length), (14, fI 0)]) (by simp [fam_cons, fam_nil]) (fun h => h) fun i => ?_) ⟨0, by omega, rfl⟩ ?_
  · simp only [look]
    repeat' split
    all_goals simp [opsD]
  rintro c s ⟨i, hc, rfl⟩
  have hl := regM_len t x i
  have hrr : ∀ j, j < i → ((regM t x i).getD j []).length = 10 := regM_rows t x ht hxr i (by omega)
  have hcl : (dcells i (mdG (regM t x i))).length = i * 20 := dcells_len i fun j hj => mdG_len _ _ (hrr j hj)
  refine evx (And.intro @A_model_Eval_L0.eq_1 @opsD.eq_1) ?_
  refine condC_intro (fun h => ?_) (fun h => ?_)
  · replace h := of_decide_eq_true h
    have hop := ht.op i h
    have hstep := regM_step t x i
    generalize ho : t.ops.getD i ⟨0, 0, 0, 0⟩ = o at hop hstep
    refine evx (And.intro @opG.eq_1 ho) ?_
    rcases hop with hk | ⟨hk, ha⟩ | ⟨hk, ha, hb⟩
    · have hp := ofM_len [o.c]
      have e : dcells (i + 1) (mdG (regM t x (i + 1))) = dcells i (mdG (regM t x i)) ++ ivC (ofM [o.c]) := by rw [hstep]; simp [opM, hk]
      refine evx hk ?_
      (repeat (with_reducible refine And.intro (by omega) ?_))
      refine callG_snaps [.d (rowD [o.c])] (model_Of_con [o.c] (by simp)) ⟨snp_row rfl rfl rfl, trivial⟩ (scalar_iv _) ?_
      generalize ofM [o.c] = p at hp e ⊢
      refine evx (And.intro (ivC_len20 p hp) (And.intro (splice_z20 p hp) (ivC_20 p hp))) ?_
      (repeat (with_reducible refine And.intro (by omega) ?_))
      rw [show i * 20 + 20 = (i + 1) * 20 by omega, wrapI (by omega) (by omega), ← e]
      exact ⟨c - 1, _, by omega, LeT.only (fun X => decide (X ≤ 100)) (fun _ h => h) rfl (by simp [kpS]) (by simp [kpS]), i + 1, by omega, rfl⟩
    · have hp := hxr o.a.toNat (by omega)
      have e : dcells (i + 1) (mdG (regM t x (i + 1))) = dcells i (mdG (regM t x i)) ++ ivC (x.getD o.a.toNat []) := by rw [hstep]; simp [opM, hk]
      have hg := mdG_len x o.a.toNat hp
      simp -implicitDefEqProofs only [evI, hv, effC, reduceCtorEq, ↓reduceIte, n1_, n2_, n3_, n4_, n5_, i1_, i2_, i3_, i4_, i5_, i6_, i7_, hk, Int.reduceBEq, mdD, mdG_map, hg, ivC_20 _ hp, ivC_len20 _ hp, splice_z20 _ hp]
      (repeat (with_reducible refine And.intro (by omega) ?_))
      rw [show i * 20 + 20 = (i + 1) * 20 by omega, wrapI (by omega) (by omega), ← e]
      exact ⟨c - 1, _, by omega, LeT.only (fun X => decide (X ≤ 100)) (fun _ h => h) rfl (by simp [kpS]) (by simp [kpS]), i + 1, by omega, rfl⟩
    · have ga := md_block (regM t x i) i hrr o.a.toNat (by omega)
      have gb := md_block (regM t x i) i hrr o.b.toNat (by omega)
      have la := hrr o.a.toNat (by omega)
      have lb := hrr o.b.toNat (by omega)
      rcases hk with hk | hk | hk | hk
      · have hp := zipM_len ivAdd ((regM t x i).getD o.a.toNat []) ((regM t x i).getD o.b.toNat [])
        have e : dcells (i + 1) (mdG (regM t x (i + 1))) = dcells i (mdG (regM t x i)) ++ ivC (zipM ivAdd ((regM t x i).getD o.a.toNat []) ((regM t x i).getD o.b.toNat [])) := by rw [hstep]; simp [opM, hk]
        refine evbx (And.intro hk (And.intro ga gb)) ?_
        (repeat (with_reducible refine And.intro (by omega) ?_))
        first | refine callG_con (model_Add_con _ _ la lb) (by simp [bare_d, ivC_bare]) ?_ | refine callCG_con (model_Add_con _ _ la lb) (by simp [bare_d, ivC_bare]) ?_ | refine callSG_con (model_Add_con _ _ la lb) (by simp [bare_d, ivC_bare]) ?_
        generalize zipM ivAdd ((regM t x i).getD o.a.toNat []) ((regM t x i).getD o.b.toNat []) = p at hp e ⊢
        refine evx (And.intro (ivC_len20 p hp) (And.intro (splice_z20 p hp) (ivC_20 p hp))) ?_
        (repeat (with_reducible refine And.intro (by omega) ?_))
        rw [show i * 20 + 20 = (i + 1) * 20 by omega, wrapI (by omega) (by omega), ← e]
        exact ⟨c - 1, _, by omega, LeT.only (fun X => decide (X ≤ 100)) (fun _ h => h) rfl (by simp [kpS]) (by simp [kpS]), i + 1, by omega, rfl⟩
      · have hp := zipM_len ivSub ((regM t x i).getD o.a.toNat []) ((regM t x i).getD o.b.toNat [])
        have e : dcells (i + 1) (mdG (regM t x (i + 1))) = dcells i (mdG (regM t x i)) ++ ivC (zipM ivSub ((regM t x i).getD o.a.toNat []) ((regM t x i).getD o.b.toNat [])) := by rw [hstep]; simp [opM, hk]
        refine evbx (And.intro hk (And.intro ga gb)) ?_
        (repeat (with_reducible refine And.intro (by omega) ?_))
        first | refine callG_con (model_Sub_con _ _ la lb) (by simp [bare_d, ivC_bare]) ?_ | refine callCG_con (model_Sub_con _ _ la lb) (by simp [bare_d, ivC_bare]) ?_ | refine callSG_con (model_Sub_con _ _ la lb) (by simp [bare_d, ivC_bare]) ?_
        generalize zipM ivSub ((regM t x i).getD o.a.toNat []) ((regM t x i).getD o.b.toNat []) = p at hp e ⊢
        refine evx (And.intro (ivC_len20 p hp) (And.intro (splice_z20 p hp) (ivC_20 p hp))) ?_
        (repeat (with_reducible refine And.intro (by omega) ?_))
        rw [show i * 20 + 20 = (i + 1) * 20 by omega, wrapI (by omega) (by omega), ← e]
        exact ⟨c - 1, _, by omega, LeT.only (fun X => decide (X ≤ 100)) (fun _ h => h) rfl (by simp [kpS]) (by simp [kpS]), i + 1, by omega, rfl⟩
      · have hp := mulM_len ((regM t x i).getD o.a.toNat []) ((regM t x i).getD o.b.toNat [])
        have e : dcells (i + 1) (mdG (regM t x (i + 1))) = dcells i (mdG (regM t x i)) ++ ivC (mulM ((regM t x i).getD o.a.toNat []) ((regM t x i).getD o.b.toNat [])) := by rw [hstep]; simp [opM, hk]
        refine evbx (And.intro hk (And.intro ga gb)) ?_
        (repeat (with_reducible refine And.intro (by omega) ?_))
        first | refine callG_con (model_Mul_con _ _ la lb) (by simp [bare_d, ivC_bare]) ?_ | refine callCG_con (model_Mul_con _ _ la lb) (by simp [bare_d, ivC_bare]) ?_ | refine callSG_con (model_Mul_con _ _ la lb) (by simp [bare_d, ivC_bare]) ?_
        generalize mulM ((regM t x i).getD o.a.toNat []) ((regM t x i).getD o.b.toNat []) = p at hp e ⊢
        refine evx (And.intro (ivC_len20 p hp) (And.intro (splice_z20 p hp) (ivC_20 p hp))) ?_
        (repeat (with_reducible refine And.intro (by omega) ?_))
        rw [show i * 20 + 20 = (i + 1) * 20 by omega, wrapI (by omega) (by omega), ← e]
        exact ⟨c - 1, _, by omega, LeT.only (fun X => decide (X ≤ 100)) (fun _ h => h) rfl (by simp [kpS]) (by simp [kpS]), i + 1, by omega, rfl⟩
      · have hp := divM_len ((regM t x i).getD o.a.toNat []) ((regM t x i).getD o.b.toNat [])
        have e : dcells (i + 1) (mdG (regM t x (i + 1))) = dcells i (mdG (regM t x i)) ++ ivC (divM ((regM t x i).getD o.a.toNat []) ((regM t x i).getD o.b.toNat [])) := by rw [hstep]; simp [opM, hk]
        refine evbx (And.intro hk (And.intro ga gb)) ?_
        (repeat (with_reducible refine And.intro (by omega) ?_))
        first | refine callG_con (model_Div_con _ _ la lb) (by simp [bare_d, ivC_bare]) ?_ | refine callCG_con (model_Div_con _ _ la lb) (by simp [bare_d, ivC_bare]) ?_ | refine callSG_con (model_Div_con _ _ la lb) (by simp [bare_d, ivC_bare]) ?_
        generalize divM ((regM t x i).getD o.a.toNat []) ((regM t x i).getD o.b.toNat []) = p at hp e ⊢
        refine evx (And.intro (ivC_len20 p hp) (And.intro (splice_z20 p hp) (ivC_20 p hp))) ?_
        (repeat (with_reducible refine And.intro (by omega) ?_))
        rw [show i * 20 + 20 = (i + 1) * 20 by omega, wrapI (by omega) (by omega), ← e]
        exact ⟨c - 1, _, by omega, LeT.only (fun X => decide (X ≤ 100)) (fun _ h => h) rfl (by simp [kpS]) (by simp [kpS]), i + 1, by omega, rfl⟩
  · replace h := of_decide_eq_false h
    have e : i = t.ops.length := by omega
    subst e
    have hn := ht.n
    have hol := ht.outl
    have hev := evalM_rows t x ht hxr
    have hel := evalM_len t x
    have hg0 : ∀ j, j < t.n → (evalM t x).getD j [] = (regM t x t.ops.length).getD (t.out.getD j 0).toNat [] := fun j hj => by
      unfold evalM
      rw [List.getD_eq_getElem?_getD, List.getElem?_map, List.getElem?_range hj]; rfl
    refine ev ?_
    (repeat (with_reducible refine And.intro (by omega) ?_))
    rw [outG_zero (fun j => (evalM t x).getD j [])]
    refine WA_for (n := t.n) (fun c s => ∃ i, c + i = t.n ∧ s = ⟨[(5, .sl 100 0 0 t.ops.length 20 (t.ops.length * 20)), (8, .sl 103 0 0 t.n 20 (t.n * 20)), (108, .d (rowI t.out)), (109, fI t.n), (110, fI i)],
      [(103, [dcells t.n (outG (fun j => (evalM t x).getD j []) i)]), (100, [dcells t.ops.length (mdG (regM t x t.ops.length))]), (0, [[fI t.n, .d (opsD t.ops), .d (rowI t.out)]])]⟩) ⟨0, by omega, by rw [← hol]; rfl⟩ ?_
    rintro c s ⟨i, hc, rfl⟩
    have hlo := fun i => dcells_len (esz := 20) t.n (get := outG (fun j => (evalM t x).getD j []) i) (fun j hj => outG_len _ _ _ (hev j hj))
    have hli := hlo i
    refine evx @A_model_Eval_L1.eq_1 ?_
    refine condC_intro (fun h => ?_) (fun h => ?_)
    · replace h := of_decide_eq_true h
      have hi : i < t.n := by omega
      have ho := ht.out i hi
      have gb := md_block (regM t x t.ops.length) t.ops.length hrr (t.out.getD i 0).toNat (by omega)
      rw [← hg0 i hi] at gb
      have hp := hev i hi
      simp -implicitDefEqProofs only [evI, hv, effC, reduceCtorEq, ↓reduceIte, n1_, n2_, n3_, n4_, n5_, i1_, i2_, i3_, i4_, i5_, i6_, i7_, gb, ivC_len20 _ hp]
      (repeat (with_reducible refine And.intro (by omega) ?_))
      have es : splice (dcells t.n (outG (fun j => (evalM t x).getD j []) i)) (i * 20) (ivC ((evalM t x).getD i [])) = dcells t.n (outG (fun j => (evalM t x).getD j []) (i + 1)) := by
        have := splice_block (esz := 20) t.n (get := outG (fun j => (evalM t x).getD j []) i) (get' := outG (fun j => (evalM t x).getD j []) (i + 1)) (fun j hj => outG_len _ _ _ (hev j hj)) (fun j hj => outG_len _ _ _ (hev j hj)) i hi (fun j _ hne => by
          unfold outG
          by_cases e : j < i
          · rw [if_pos e, if_pos (by omega)]
          · rw [if_neg e, if_neg (by omega)])
        rw [← this]
        unfold outG
        rw [if_pos (by omega), ← ivC_data]
      rw [wrapI (by omega) (by omega), es]
      exact ⟨c - 1, by omega, i + 1, by omega, rfl⟩
    · replace h := of_decide_eq_false h
      have e : i = t.n := by omega
      subst e
      refine evx @Nat.lt_irrefl ?_
      rw [outG_all]
      refine endsT_le (.sl 103 0 0 t.n 20 (t.n * 20)) (fun _ h => h) (resV_tmpI (t := 4) (by decide) rfl) ?_
      unfold mdD
      rw [hel]
      exact .d (snapF_data (esz := 20) (fun Y q h => by simp [get_nil] at h) (by simp [get_cons]; rfl) (fun j hj => mdG_len _ _ (hev j hj)) rfl)
theorem regM_at (t : Tp) (x : List Md) (i m j : Nat) (h : i ≤ m) (hj : j < i) : (regM t x m).getD j [] = (regM t x i).getD j [] := by
  induction m with
  | zero => omega
  | succ m ih =>
    by_cases e : i = m + 1
    · subst e; rfl
    · rw [regM_pre t x m j (by omega)]
      exact ih (by omega)
theorem outG_block (g : Nat → Md) (n i j : Nat) (h : ∀ j, j < n → (g j).length = 10) (hi : i ≤ n) (hj : j < i) : ((dcells n (outG g i)).drop (j * 20)).take 20 = ivC (g j) := by
  rw [dcells_block n (fun k hk => outG_len _ _ _ (h k hk)) j (by omega), outG, if_pos hj, ← ivC_data]
theorem outG_set (g : Nat → Md) (n i : Nat) (h : ∀ j, j < n → (g j).length = 10) (hi : i < n) (p : Md) (hp : p = g i) : splice (dcells n (outG g i)) (i * 20) (ivC p) = dcells n (outG g (i + 1)) := by
  subst hp
  have := splice_block (esz := 20) n (get := outG g i) (get' := outG g (i + 1)) (fun j hj => outG_len _ _ _ (h j hj)) (fun j hj => outG_len _ _ _ (h j hj)) i hi (fun j _ hne => by
    unfold outG
    by_cases e : j < i
    · rw [if_pos e, if_pos (by omega)]
    · rw [if_neg e, if_neg (by omega)])
  rw [← this]
  unfold outG
  rw [if_pos (by omega), ← ivC_data]
set_option maxRecDepth 8000 in
theorem r5_Eval_con (t : Tp) (x : List Md) (ht : Tok t) (hx : x.length = t.n) (hxr : ∀ i, i < t.n → (x.getD i []).length = 10) (hlen : t.ops.length < 2 ^ 39) : Con Tryz.prog 100 [tapeV t, .d (mdD x)] (.d (mdD (evalM t x))) := by
  obtain ⟨g, hg⟩ : ∃ g : Nat → Md, g = fun j => (regM t x t.ops.length).getD j [] := ⟨_, rfl⟩
  have hgl : ∀ j, j < t.ops.length → (g j).length = 10 := fun j hj => by rw [hg]; exact regM_rows t x ht hxr _ (Nat.le_refl _) j hj
  have hga : ∀ i j, i ≤ t.ops.length → j < i → (regM t x i).getD j [] = g j := fun i j hi hj => by rw [hg]; exact (regM_at t x i _ j hi hj).symm
  refine Con_introA A_r5_Eval_comp rfl mixed ?_
  refine evx @A_r5_Eval.eq_1 ?_
  refine evx @opsD.eq_1 ?_
  (repeat (with_reducible refine And.intro (by omega) ?_))
  rw [outG_zero g]
  refine WA_forW (n := t.ops.length) (fun c s => ∃ i, c + i = t.ops.length ∧ s = ⟨[(1, .d (mdD x)), (2, .ptr 0 0 0 3), (5, .sl 4 0 0 t.ops.length 20 (t.ops.length * 20)), (6, fI i)],
      [(4, [dcells t.ops.length (outG g i)]), (0, [[fI t.n, .d (opsD t.ops), .d (rowI t.out)]])]⟩) (Le.refl _) ⟨0, by omega, rfl⟩ ?_
  rintro c s ⟨i, hc, rfl⟩
  have hcl : (dcells t.ops.length (outG g i)).length = t.ops.length * 20 := dcells_len _ fun j hj => outG_len _ _ _ (hgl j hj)
  refine evx (And.intro @A_r5_Eval_L0.eq_1 @opsD.eq_1) ?_
  refine condC_intro (fun h => ?_) (fun h => ?_)
  · replace h := of_decide_eq_true h
    have hop := ht.op i h
    have hlast := regM_last t x i
    rw [hga (i + 1) i (by omega) (by omega)] at hlast
    have hsp := fun p hp => outG_set g t.ops.length i hgl h p hp
    generalize ho : t.ops.getD i ⟨0, 0, 0, 0⟩ = o at hop hlast
    refine evx (And.intro @opG.eq_1 ho) ?_
    rcases hop with hk | ⟨hk, ha⟩ | ⟨hk, ha, hb⟩
    · have hp := ofM_len [o.c]
      have e : opM o x (regM t x i) = ofM [o.c] := by simp [opM, hk]
      rw [e] at hlast
      refine evx hk ?_
      (repeat (with_reducible refine And.intro (by omega) ?_))
      refine callG_snaps [.d (rowD [o.c])] (r5_Of_con [o.c] (by simp)) ⟨snp_row rfl rfl rfl, trivial⟩ (scalar_iv _) ?_
      generalize ofM [o.c] = p at hp hlast ⊢
      refine evx (ivC_len20 p hp) ?_
      (repeat (with_reducible refine And.intro (by omega) ?_))
      rw [wrapI (by omega) (by omega), hsp p hlast.symm]
      exact ⟨c - 1, _, by omega, LeT.only (fun X => decide (X ≤ 4)) (fun _ h => h) rfl (by simp [kpS]) (by simp [kpS]), i + 1, by omega, rfl⟩
    · have hp := hxr o.a.toNat (by omega)
      have e : opM o x (regM t x i) = x.getD o.a.toNat [] := by simp [opM, hk]
      rw [e] at hlast
      have hgm := mdG_len x o.a.toNat hp
      simp -implicitDefEqProofs only [evI, hv, effC, reduceCtorEq, ↓reduceIte, n1_, n2_, n3_, n4_, n5_, i1_, i2_, i3_, i4_, i5_, i6_, i7_, hk, Int.reduceBEq, mdD, mdG_map, hgm, ivC_20 _ hp, ivC_len20 _ hp]
      (repeat (with_reducible refine And.intro (by omega) ?_))
      rw [wrapI (by omega) (by omega), hsp _ hlast.symm]
      exact ⟨c - 1, _, by omega, LeT.only (fun X => decide (X ≤ 4)) (fun _ h => h) rfl (by simp [kpS]) (by simp [kpS]), i + 1, by omega, rfl⟩
    · have ga := outG_block g t.ops.length i o.a.toNat hgl (by omega) (by omega)
      have gb := outG_block g t.ops.length i o.b.toNat hgl (by omega) (by omega)
      have la := hgl o.a.toNat (by omega)
      have lb := hgl o.b.toNat (by omega)
      have ea := hga i o.a.toNat (by omega) (by omega)
      have eb := hga i o.b.toNat (by omega) (by omega)
      have hp : (opM o x (regM t x i)).length = 10 := by rw [← hlast]; exact hgl i h
      have e : (if o.k = 2 then zipM ivAdd (g o.a.toNat) (g o.b.toNat) else if o.k = 3 then zipM ivSub (g o.a.toNat) (g o.b.toNat) else if o.k = 4 then mulM (g o.a.toNat) (g o.b.toNat) else divM (g o.a.toNat) (g o.b.toNat)) = opM o x (regM t x i) := by
        unfold opM
        rw [if_neg (by omega : ¬ o.k = 0), if_neg (by omega : ¬ o.k = 1), ea, eb]
      have k0 : (o.k == 0) = false := by simp; omega
      have k1 : (o.k == 1) = false := by simp; omega
      refine evx (And.intro k0 (And.intro k1 (And.intro ga gb))) ?_
      (repeat (with_reducible refine And.intro (by omega) ?_))
      first | refine callG_con (r5_two_con o.k _ _ la lb hk) (by simp [bare_d, ivC_bare]) ?_ | refine callCG_con (r5_two_con o.k _ _ la lb hk) (by simp [bare_d, ivC_bare]) ?_ | refine callSG_con (r5_two_con o.k _ _ la lb hk) (by simp [bare_d, ivC_bare]) ?_
      rw [e]
      generalize opM o x (regM t x i) = p at hp hlast ⊢
      refine evx (ivC_len20 p hp) ?_
      (repeat (with_reducible refine And.intro (by omega) ?_))
      rw [wrapI (by omega) (by omega), hsp p hlast.symm]
      exact ⟨c - 1, _, by omega, LeT.only (fun X => decide (X ≤ 4)) (fun _ h => h) rfl (by simp [kpS]) (by simp [kpS]), i + 1, by omega, rfl⟩
  · replace h := of_decide_eq_false h
    have e : i = t.ops.length := by omega
    subst e
    have hn := ht.n
    have hol := ht.outl
    have hev := evalM_rows t x ht hxr
    have hel := evalM_len t x
    have hg0 : ∀ j, j < t.n → (evalM t x).getD j [] = g (t.out.getD j 0).toNat := fun j hj => by
      unfold evalM
      rw [List.getD_eq_getElem?_getD, List.getElem?_map, List.getElem?_range hj, hg]; rfl
    refine ev ?_
    refine WA_forW (n := t.n) (fun c s => ∃ i, c + i = t.n ∧ s = ⟨[(2, .ptr 0 0 0 3), (5, .sl 4 0 0 t.ops.length 20 (t.ops.length * 20)), (8, .sl 100 0 0 i 20 (i * 20)), (9, fI i)],
      [(100, [dcells i (mdG (evalM t x))]), (4, [dcells t.ops.length (outG g t.ops.length)]), (0, [[fI t.n, .d (opsD t.ops), .d (rowI t.out)]])]⟩) (s0 := ⟨_, _⟩)
      (LeT.nilrow (X := 100) (esz := 20) (as' := [(2, .ptr 0 0 0 3), (5, .sl 4 0 0 t.ops.length 20 (t.ops.length * 20)), (8, .sl 100 0 0 0 20 0), (9, fI 0)]) (by simp [fam_cons, fam_nil]) (fun h => h) fun i => ?_) ⟨0, by omega, rfl⟩ ?_
    · simp only [look]
      repeat' split
      all_goals simp
    rintro c s ⟨i, hc, rfl⟩
    refine evx @A_r5_Eval_L1.eq_1 ?_
    refine condC_intro (fun h => ?_) (fun h => ?_)
    · replace h := of_decide_eq_true h
      have hi : i < t.n := by omega
      have ho := ht.out i hi
      have gb := outG_block g t.ops.length t.ops.length (t.out.getD i 0).toNat hgl (Nat.le_refl _) (by omega)
      rw [← hg0 i hi] at gb
      have hp := hev i hi
      have hc2 : (dcells i (mdG (evalM t x))).length = i * 20 := dcells_len i fun j hj => mdG_len _ _ (hev j (by omega))
      simp -implicitDefEqProofs only [evI, hv, effC, reduceCtorEq, ↓reduceIte, n1_, n2_, n3_, n4_, n5_, i1_, i2_, i3_, i4_, i5_, i6_, i7_, gb, ivC_len20 _ hp, splice_z20 _ hp, ivC_20 _ hp]
      (repeat (with_reducible refine And.intro (by omega) ?_))
      have e2 : dcells i (mdG (evalM t x)) ++ ivC ((evalM t x).getD i []) = dcells (i + 1) (mdG (evalM t x)) := by rw [dcells_succ, ivC_data]; rfl
      rw [wrapI (by omega) (by omega), e2, show i * 20 + 20 = (i + 1) * 20 by omega]
      exact ⟨c - 1, _, by omega, LeT.only (fun X => X == 100 || X == 4 || X == 0) (fun _ h => h) rfl (by simp [kpS]) (by simp [kpS]), i + 1, by omega, rfl⟩
    · replace h := of_decide_eq_false h
      have e : i = t.n := by omega
      subst e
      refine evx @Nat.lt_irrefl ?_
      refine endsT_le (.sl 100 0 0 t.n 20 (t.n * 20)) (fun _ h => h) (resV_tmpI (t := 4) (by decide) rfl) ?_
      unfold mdD
      rw [hel]
      exact .d (snapF_data (esz := 20) (fun Y q h => by simp [get_nil] at h) (by simp [get_cons]) (fun j hj => mdG_len _ _ (hev j hj)) rfl)
end Go.Ab
namespace Go.Ab
set_option linter.unusedSimpArgs false
set_option linter.unusedVariables false
open Go Go.Proofs
def A_jac_ranges : CA := (.seq (.reg [i_X 0 0 (.alloc [(.d .nilf), (.d .nilf), (.d .nilf), (.d .nilf), (.d .nilf)] 142)] [0]) (.seq (.reg [i_X 0 1 (.h (.build [(.d .nilf), (.d .nilf), (.d .nilf), (.d .nilf), (.d .nilf)] [(0, (1, (kF 137))), (1, (1, (kF 92))), (2, (1, (kF 79))), (3, (1, (kF 125))), (4, (1, (kF 131)))])), i_S 1 0 1 5] [0]) .ret))
theorem A_jac_ranges_comp : compF Tryz.prog 96 = some ⟨2, [(0, (some (5, true)))], A_jac_ranges.strip⟩ := by kernel_rfl
def A_jac_ranges_1 : CA := (.seq (.reg [i_X 0 2 (.alloc [(.d (.flt 0)), (.d (.flt 0))] 58)] [0, 2]) (.seq (.reg [i_M 0 3 0, i_M 1 4 0, i_X 2 5 (.h (.build [(.d (.flt 0)), (.d (.flt 0))] [(0, (1, (.t 3))), (1, (1, (.t 4)))])), i_S 3 2 5 2] [2]) .ret))
theorem A_jac_ranges_1_comp : compF Tryz.prog 137 = some ⟨6, [(2, (some (2, true)))], A_jac_ranges_1.strip⟩ := by kernel_rfl
def A_jac_kind_api_Iv_value : CA := (.seq (.reg [i_X 0 4 (.box (.t 0) 5 142), i_X 1 5 (.box (.t 1) 4 62), i_X 2 8 (.alloc [(.d (.flt 0)), (.d (.flt 0))] 58)] [2, 3, 4, 5, 8]) (.seq (.seq (.reg [i_P 0 11 5 0, i_L 1 12 11 1] [2, 3, 4, 5, 8, 12]) (.block 0 (.seq (.reg [i_B 0 14 .eql 12 0, i_M 1 13 14] [2, 3, 4, 5, 8, 12, 13]) (.cond (.t 13) (.seq (.reg [i_P 0 15 4 0, i_L 1 16 15 1, i_P 2 17 5 3, i_L 3 18 17 1, i_X 4 19 (.callA (.t 16) [(.t 18)]), i_S 5 8 19 2] [8]) .ret) (.seq (.reg [i_B 0 21 .eql 12 1, i_M 1 20 21] [2, 3, 4, 5, 8, 20]) (.cond (.t 20) (.seq (.reg [i_M 0 22 2, i_P 1 23 5 1, i_L 2 24 23 1, i_I 3 25 22 24 2, i_A 4 26 25 2, i_S 5 8 26 2] [8]) .ret) .skip)))))) (.seq (.reg [i_M 0 27 3, i_P 1 28 5 1, i_L 2 29 28 1, i_I 3 30 27 29 3, i_P 4 31 30 0, i_A 5 32 31 2, i_M 6 33 3, i_P 7 34 5 2, ⟨8, (some 35), none, [(.t 5)], [], (.load (.t 34) 1 false)⟩, i_I 9 36 33 35 3, i_P 10 37 36 0, ⟨11, (some 38), none, [(.t 3)], [], (.load (.t 37) 2 true)⟩, i_X 12 9 (.alloc [(.d (.flt 0)), (.d (.flt 0))] 58), i_X 13 10 (.alloc [(.d (.flt 0)), (.d (.flt 0))] 58), ⟨14, none, none, [], [(.t 5), (.t 3)], (.store (.t 9) (.t 32) 2)⟩, i_S 15 10 38 2] [4, 5, 8, 9, 10]) (.seq (.seq (.reg [i_P 0 39 5 0, i_L 1 40 39 1] [4, 8, 9, 10, 40]) (.block 1 (.seq (.reg [i_B 0 42 .eql 40 2, i_M 1 41 42] [4, 8, 9, 10, 40, 41]) (.cond (.t 41) (.seq (.reg [i_P 0 43 4 1, i_L 1 44 43 1, i_A 2 45 9 2, i_A 3 46 10 2, i_X 4 47 (.callA (.t 44) [(.t 45), (.t 46)]), i_S 5 8 47 2] [8]) .ret) (.seq (.reg [i_B 0 49 .eql 40 3, i_M 1 48 49] [4, 8, 9, 10, 40, 48]) (.cond (.t 48) (.seq (.reg [i_P 0 50 4 2, i_L 1 51 50 1, i_A 2 52 9 2, i_A 3 53 10 2, i_X 4 54 (.callA (.t 51) [(.t 52), (.t 53)]), i_S 5 8 54 2] [8]) .ret) (.seq (.reg [i_B 0 56 .eql 40 4, i_M 1 55 56] [4, 8, 9, 10, 55]) (.cond (.t 55) (.seq (.reg [i_P 0 57 4 3, i_L 1 58 57 1, i_A 2 59 9 2, i_A 3 60 10 2, i_X 4 61 (.callA (.t 58) [(.t 59), (.t 60)]), i_S 5 8 61 2] [8]) .ret) .skip)))))))) (.seq (.reg [i_P 0 62 4 4, i_L 1 63 62 1, i_A 2 64 9 2, i_A 3 65 10 2, i_X 4 66 (.callA (.t 63) [(.t 64), (.t 65)]), i_S 5 8 66 2] [8]) .ret)))))
theorem A_jac_kind_api_Iv_value_comp : compF Tryz.prog 138 = some ⟨67, [(8, (some (2, true)))], A_jac_kind_api_Iv_value.strip⟩ := by kernel_rfl
def A_jac_kind_api_Iv_slope : CA := (.seq (.reg [i_X 0 5 (.box (.t 0) 5 142), i_X 1 6 (.box (.t 1) 4 62), i_X 2 8 (.box (.t 3) 2 58), i_X 3 10 (.alloc [(.d (.flt 0)), (.d (.flt 0))] 58)] [2, 4, 5, 6, 8, 10]) (.seq (.block 0 (.seq (.reg [i_P 0 14 6 0, i_L 1 15 14 1, i_B 2 16 .eql 15 1, i_M 3 17 16, ⟨4, (some 18), (some (17, true)), [], [], (.h (.padd (.t 6) 1))⟩, ⟨5, (some 19), (some (17, true)), [], [], (.load (.t 18) 1 false)⟩, ⟨6, (some 20), (some (17, true)), [], [], (.h (.mov (.t 2)))⟩, ⟨7, (some 21), (some (17, true)), [], [], (.h (.ibin .eql (.t 19) (.t 20)))⟩, i_X 8 22 (.h (.pick (.t 17) (.t 21) (.k (.d (.bool false))))), i_M 9 13 22] [2, 4, 5, 6, 8, 10, 13]) (.cond (.t 13) (.seq (.reg [i_P 0 23 5 0, i_L 1 24 23 1, i_X 2 25 (.callA (.t 24) [(.k (.d (.flt 4607182418800017408)))]), i_S 3 10 25 2] [10]) .ret) (.seq (.reg [i_P 0 27 6 0, i_L 1 28 27 1, i_B 2 29 .eql 28 0, i_M 3 30 29, ⟨4, (some 31), (some (30, false)), [], [], (.h (.padd (.t 6) 0))⟩, ⟨5, (some 32), (some (30, false)), [], [], (.load (.t 31) 1 false)⟩, ⟨6, (some 33), (some (30, false)), [], [], (.h (.ibin .eql (.t 32) (kI 1)))⟩, i_X 7 34 (.h (.pick (.t 30) (.k (.d (.bool true))) (.t 33))), i_M 8 26 34] [2, 4, 5, 6, 8, 10, 26]) (.cond (.t 26) (.seq (.reg [i_P 0 35 5 0, i_L 1 36 35 1, i_X 2 37 (.callA (.t 36) [(.k (.d (.flt 0)))]), i_S 3 10 37 2] [10]) .ret) .skip))))) (.seq (.reg [i_M 0 38 4, i_P 1 39 6 1, i_L 2 40 39 1, i_I 3 41 38 40 3, i_A 4 42 41 3, i_M 5 43 4, i_P 6 44 6 2, ⟨7, (some 45), none, [(.t 6)], [], (.load (.t 44) 1 false)⟩, i_I 8 46 43 45 3, ⟨9, (some 47), none, [(.t 4)], [], (.load (.t 46) 3 true)⟩, i_X 10 11 (.alloc [(.d (.flt 0)), (.d (.flt 0)), .nil] 167), i_X 11 12 (.alloc [(.d (.flt 0)), (.d (.flt 0)), .nil] 167), ⟨12, none, none, [], [(.t 6), (.t 4)], (.store (.t 11) (.t 42) 3)⟩, i_S 13 12 47 3] [2, 5, 6, 8, 10, 11, 12]) (.seq (.seq (.reg [i_P 0 48 6 0, i_L 1 49 48 1] [2, 5, 8, 10, 11, 12, 49]) (.block 1 (.seq (.reg [i_B 0 51 .eql 49 2, i_M 1 50 51] [2, 5, 8, 10, 11, 12, 49, 50]) (.cond (.t 50) (.seq (.reg [i_P 0 52 5 1, i_L 1 53 52 1, i_P 2 54 11 2, i_L 3 55 54 1, i_M 4 56 2, i_I 5 57 55 56 2, i_A 6 58 57 2, i_P 7 59 12 2, i_L 8 60 59 1, i_M 9 61 2, i_I 10 62 60 61 2, i_A 11 63 62 2, i_X 12 64 (.callA (.t 53) [(.t 58), (.t 63)]), i_S 13 10 64 2] [10]) .ret) (.seq (.reg [i_B 0 66 .eql 49 3, i_M 1 65 66] [2, 5, 8, 10, 11, 12, 49, 65]) (.cond (.t 65) (.seq (.reg [i_P 0 67 5 2, i_L 1 68 67 1, i_P 2 69 11 2, i_L 3 70 69 1, i_M 4 71 2, i_I 5 72 70 71 2, i_A 6 73 72 2, i_P 7 74 12 2, i_L 8 75 74 1, i_M 9 76 2, i_I 10 77 75 76 2, i_A 11 78 77 2, i_X 12 79 (.callA (.t 68) [(.t 73), (.t 78)]), i_S 13 10 79 2] [10]) .ret) (.seq (.reg [i_B 0 81 .eql 49 4, i_M 1 80 81] [2, 5, 8, 10, 11, 12, 80]) (.cond (.t 80) (.seq (.reg [i_P 0 82 5 1, i_L 1 83 82 1, i_P 2 84 5 3, i_L 3 85 84 1, i_P 4 86 11 2, i_L 5 87 86 1, i_M 6 88 2, i_I 7 89 87 88 2, i_A 8 90 89 2, i_P 9 91 12 0, i_A 10 92 91 2, i_X 11 93 (.callS 11 (.t 85) [(.t 90), (.t 92)]), i_P 12 94 5 3, i_L 13 95 94 1, i_P 14 96 11 0, i_A 15 97 96 2, i_P 16 98 12 2, i_L 17 99 98 1, i_M 18 100 2, i_I 19 101 99 100 2, i_A 20 102 101 2, i_X 21 103 (.callS 21 (.t 95) [(.t 97), (.t 102)]), i_X 22 104 (.callA (.t 83) [(.t 93), (.t 103)]), i_S 23 10 104 2] [10]) .ret) .skip)))))))) (.seq (.reg [i_P 0 105 5 4, i_L 1 106 105 1, i_P 2 107 5 2, i_L 3 108 107 1, i_P 4 109 11 2, i_L 5 110 109 1, i_M 6 111 2, i_I 7 112 110 111 2, i_A 8 113 112 2, i_P 9 114 5 3, i_L 10 115 114 1, i_A 11 116 8 2, i_P 12 117 12 2, i_L 13 118 117 1, i_M 14 119 2, i_I 15 120 118 119 2, i_A 16 121 120 2, i_X 17 122 (.callS 17 (.t 115) [(.t 116), (.t 121)]), i_X 18 123 (.callS 18 (.t 108) [(.t 113), (.t 122)]), i_P 19 124 12 0, i_A 20 125 124 2, i_X 21 126 (.callA (.t 106) [(.t 123), (.t 125)]), i_S 22 10 126 2] [10]) .ret)))))
theorem A_jac_kind_api_Iv_slope_comp : compF Tryz.prog 139 = some ⟨127, [(10, (some (2, true)))], A_jac_kind_api_Iv_slope.strip⟩ := by kernel_rfl
def A_jac_kind_api_Iv_run_L1 : CA := (.seq (.reg [i_N 0 31 .lss 30 29] [2, 3, 4, 7, 9, 10, 16, 17, 18, 29, 30, 31]) (.seq (.cond (.t 31) .skip (.exit 2)) (.seq (.block 3 (.seq (.reg [i_M 0 32 30, i_M 1 11 32] [2, 3, 4, 7, 9, 10, 11, 16, 17, 18, 29, 30]) (.reg [i_P 0 33 10 2, i_L 1 34 33 1, i_A 2 35 3 5, i_A 3 36 9 4, i_M 4 37 11, i_P 5 38 10 0, i_A 6 39 38 2, i_M 7 40 7, i_X 8 41 (.callS 8 (kF 139) [(.t 35), (.t 36), (.t 37), (.t 39), (.t 40)]), i_X 9 42 (.bslice [(.d (.flt 0)), (.d (.flt 0))] 1 2 [(0, (2, (.t 41)))] 58), i_X 10 43 (.app (.t 34) (.t 42) 2 16), i_P 11 44 10 2, i_S 12 44 43 1] [2, 3, 4, 7, 9, 10, 16, 17, 18, 29, 30]))) (.reg [i_B 0 45 .add 30 1, i_M 1 30 45] [2, 3, 4, 7, 9, 10, 16, 17, 18, 29, 30]))))
def A_jac_kind_api_Iv_run_L0 : CA := (.seq (.reg [i_N 0 19 .lss 18 17] [2, 3, 4, 7, 16, 17, 18, 19]) (.seq (.cond (.t 19) .skip (.exit 0)) (.seq (.block 1 (.seq (.reg [i_I 0 20 16 18 4, i_A 1 21 20 4, i_X 2 9 (.alloc [(.d (.int .i64 0)), (.d (.int .i64 0)), (.d (.int .i64 0)), (.d (.flt 0))] 62), i_S 3 9 21 4] [2, 3, 4, 7, 9, 16, 17, 18]) (.seq (.reg [i_A 0 22 3 5, i_A 1 23 9 4, i_M 2 24 2, i_M 3 25 7, i_X 4 26 (.callA (kF 138) [(.t 22), (.t 23), (.t 24), (.t 25)]), i_X 5 27 (.h (.build [(.d (.flt 0)), (.d (.flt 0)), .nil] [(0, (2, (.t 26)))])), i_X 6 10 (.alloc [(.d (.flt 0)), (.d (.flt 0)), .nil] 167), i_S 7 10 27 3] [2, 3, 4, 7, 9, 10, 16, 17, 18]) (.seq (.seq (.reg [i_P 0 28 4 0, i_L 1 29 28 1, i_K 2 30 0] [2, 3, 4, 7, 9, 10, 16, 17, 18, 29, 30]) (.block 2 (.loop A_jac_kind_api_Iv_run_L1))) (.reg [i_M 0 46 7, i_A 1 47 10 3, i_X 2 48 (.bslice [(.d (.flt 0)), (.d (.flt 0)), .nil] 1 3 [(0, (3, (.t 47)))] 167), i_X 3 49 (.app (.t 46) (.t 48) 3 40), i_M 4 7 49] [2, 3, 4, 7, 16, 17, 18]))))) (.reg [i_B 0 50 .add 18 1, i_M 1 18 50] [2, 3, 4, 7, 16, 17, 18]))))
def A_jac_kind_api_Iv_run_L2 : CA := (.seq (.reg [i_N 0 58 .lss 57 56] [7, 12, 55, 56, 57, 58]) (.seq (.cond (.t 58) .skip (.exit 4)) (.seq (.block 5 (.seq (.reg [i_M 0 59 57, i_I 1 60 55 57 1, i_L 2 61 60 1, i_M 3 13 59, i_M 4 14 61] [7, 12, 13, 14, 55, 56, 57]) (.reg [i_M 0 62 12, i_M 1 63 13, i_M 2 64 7, i_M 3 65 14, i_I 4 66 64 65 3, i_P 5 67 66 2, i_L 6 68 67 1, i_X 7 69 (.app (.k .nil) (.t 68) 2 16), i_I 8 70 62 63 1, i_S 9 70 69 1] [7, 12, 55, 56, 57]))) (.reg [i_B 0 71 .add 57 1, i_M 1 57 71] [7, 12, 55, 56, 57]))))
def A_jac_kind_api_Iv_run : CA := (.seq (.reg [i_X 0 3 (.box (.t 0) 5 142), i_X 1 4 (.box (.t 1) 3 28), i_X 2 6 (.h (.mov (.k .nil)))] [2, 3, 4]) (.seq (.reg [i_X 0 7 (.h (.mov (.k .nil)))] [2, 3, 4, 7]) (.seq (.seq (.reg [i_P 0 15 4 1, i_L 1 16 15 1, i_X 2 17 (.h (.len (.t 16))), i_K 3 18 0] [2, 3, 4, 7, 16, 17, 18]) (.block 0 (.loop A_jac_kind_api_Iv_run_L0))) (.seq (.reg [i_P 0 51 4 0, i_L 1 52 51 1, i_X 2 53 (.mksl [.nil] 1 24 (.t 52) (.t 52) 29), i_M 3 12 53] [4, 7, 12]) (.seq (.seq (.reg [i_P 0 54 4 2, i_L 1 55 54 1, i_X 2 56 (.h (.len (.t 55))), i_K 3 57 0] [7, 12, 55, 56, 57]) (.block 4 (.loop A_jac_kind_api_Iv_run_L2))) (.seq (.reg [i_M 0 72 12, i_M 1 6 72] [6]) .ret))))))
theorem A_jac_kind_api_Iv_run_comp : compF Tryz.prog 97 = some ⟨73, [(6, none)], A_jac_kind_api_Iv_run.strip⟩ := by kernel_rfl
def A_jac_JacIv : CA := (.seq (.reg [i_X 0 2 (.box (.t 0) 3 28), i_X 1 4 (.h (.mov (.k .nil)))] [1, 2]) (.seq (.reg [i_X 0 5 (.callS 0 (kF 96) []), i_A 1 6 2 3, i_M 2 7 1, i_X 3 8 (.callA (kF 97) [(.t 5), (.t 6), (.t 7)]), i_M 4 4 8] [4]) .ret))
theorem A_jac_JacIv_comp : compF Tryz.prog 44 = some ⟨9, [(4, none)], A_jac_JacIv.strip⟩ := by kernel_rfl
theorem jranges1_con (x : Nat) : Con Tryz.prog 137 [fl x] (ivV (pt x)) := by
  refine Con_introA A_jac_ranges_1_comp rfl mixed ?_
  refine evx @A_jac_ranges_1.eq_1 ?_
  exact endsT_retm rfl (by decide) rfl rfl rfl (by simp) (by simp [ldv, pt])
abbrev jrV : V := .agg [.d (.fn 137 [] []), .d (.fn 92 [] []), .d (.fn 79 [] []), .d (.fn 125 [] []), .d (.fn 131 [] [])]
theorem jranges_con : Con Tryz.prog 96 [] jrV := by
  refine Con_introA A_jac_ranges_comp rfl mixed ?_
  refine evx @A_jac_ranges.eq_1 ?_
  exact endsT_retm rfl (by decide) rfl rfl rfl (by simp) (by simp [ldv])
def riG (r : List Iv) (dr : List (List Iv)) (i : Nat) : List D := [.flt (mG r i).1, .flt (mG r i).2, ivD (dr.getD i [])]
def riD (r : List Iv) (dr : List (List Iv)) : D := .bor r.length (riG r dr)
theorem ivG_eq (x : List Iv) (i : Nat) : ivG x i = [.flt (mG x i).1, .flt (mG x i).2] := rfl
section
variable (o : OpN) (x r : List Iv) (dr : List (List Iv)) (n : Nat) (ho : Oko o r.length n) (hx : x.length = n)
include ho hx
set_option maxRecDepth 8000 in
theorem ivalue_con : Con Tryz.prog 138 [jrV, opA o, .d (ivD x), .d (riD r dr)] (ivV (opI o x r)) := by
  refine Con_introA A_jac_kind_api_Iv_value_comp rfl mixed ?_
  refine evx @A_jac_kind_api_Iv_value.eq_1 ?_
  rcases ho with hk | ⟨hk, ha⟩ | ⟨hk, ha, hb⟩
  · refine evx hk ?_
    refine callG_con (jranges1_con o.c) rfl ?_
    refine ev ?_
    have e : opI o x r = pt o.c := by simp [opI, hk]
    rw [e]
    exact endsT_retm rfl (by decide) rfl rfl rfl (by simp) (by simp [ldv])
  · refine evbx (And.intro hk (And.intro @ivD.eq_1 @ivG_eq)) ?_
    refine ⟨by omega, ?_⟩
    have e : opI o x r = mG x o.a.toNat := by simp [opI, hk]
    rw [e]
    exact endsT_retm rfl (by decide) rfl rfl rfl (by simp) (by simp [ldv, mG])
  · rcases hk with hk | hk | hk | hk
    · refine evbx (And.intro hk (And.intro @riD.eq_1 @riG.eq_1)) ?_
      refine ⟨by omega, by omega, ?_⟩
      refine callG_con (iv_Add_con (mG r o.a.toNat) (mG r o.b.toNat)) rfl ?_
      refine ev ?_
      have e : opI o x r = ivAdd (mG r o.a.toNat) (mG r o.b.toNat) := by simp [opI, hk]
      rw [e]
      exact endsT_retm rfl (by decide) rfl rfl rfl (by simp) (by simp [ldv])
    · refine evbx (And.intro hk (And.intro @riD.eq_1 @riG.eq_1)) ?_
      refine ⟨by omega, by omega, ?_⟩
      refine callG_con (iv_Sub_con (mG r o.a.toNat) (mG r o.b.toNat)) rfl ?_
      refine ev ?_
      have e : opI o x r = ivSub (mG r o.a.toNat) (mG r o.b.toNat) := by simp [opI, hk]
      rw [e]
      exact endsT_retm rfl (by decide) rfl rfl rfl (by simp) (by simp [ldv])
    · refine evbx (And.intro hk (And.intro @riD.eq_1 @riG.eq_1)) ?_
      refine ⟨by omega, by omega, ?_⟩
      refine callG_con (iv_Mul_con (mG r o.a.toNat) (mG r o.b.toNat)) rfl ?_
      refine ev ?_
      have e : opI o x r = ivMul (mG r o.a.toNat) (mG r o.b.toNat) := by simp [opI, hk]
      rw [e]
      exact endsT_retm rfl (by decide) rfl rfl rfl (by simp) (by simp [ldv])
    · refine evbx (And.intro hk (And.intro @riD.eq_1 @riG.eq_1)) ?_
      refine ⟨by omega, by omega, ?_⟩
      refine callG_con (iv_Div_con (mG r o.a.toNat) (mG r o.b.toNat)) rfl ?_
      refine ev ?_
      have e : opI o x r = ivDiv (mG r o.a.toNat) (mG r o.b.toNat) := by simp [opI, hk]
      rw [e]
      exact endsT_retm rfl (by decide) rfl rfl rfl (by simp) (by simp [ldv])
end
section
variable (o : OpN) (r : List Iv) (dr : List (List Iv)) (n i : Nat) (q : Iv)
set_option maxRecDepth 8000 in
theorem islope_k0 (hk : o.k = 0) : Con Tryz.prog 139 [jrV, opA o, fI i, ivV q, .d (riD r dr)] (ivV (sloI o q r dr i)) := by
  refine Con_introA A_jac_kind_api_Iv_slope_comp rfl mixed ?_
  refine evx @A_jac_kind_api_Iv_slope.eq_1 ?_
  refine evbx hk ?_
  refine callG_con (jranges1_con 0) rfl ?_
  refine ev ?_
  have e : sloI o q r dr i = pt 0 := by simp [sloI, hk, pt]
  rw [e]
  exact endsT_retm rfl (by decide) rfl rfl rfl (by simp) (by simp [ldv])
set_option maxRecDepth 8000 in
theorem islope_k1 (hk : o.k = 1) : Con Tryz.prog 139 [jrV, opA o, fI i, ivV q, .d (riD r dr)] (ivV (sloI o q r dr i)) := by
  refine Con_introA A_jac_kind_api_Iv_slope_comp rfl mixed ?_
  refine evx @A_jac_kind_api_Iv_slope.eq_1 ?_
  refine evbx hk ?_
  by_cases hai : o.a = (i : Int)
  · have h' : (o.a == (i : Int)) = true := by simpa using hai
    refine evx h' ?_
    refine callG_con (jranges1_con 4607182418800017408) rfl ?_
    refine ev ?_
    have e : sloI o q r dr i = pt 4607182418800017408 := by simp [sloI, hk, hai, oneW]
    rw [e]
    exact endsT_retm rfl (by decide) rfl rfl rfl (by simp) (by simp [ldv])
  · have h' : (o.a == (i : Int)) = false := by simpa using hai
    refine evbx h' ?_
    refine callG_con (jranges1_con 0) rfl ?_
    refine ev ?_
    have e : sloI o q r dr i = pt 0 := by simp [sloI, hk, hai, pt]
    rw [e]
    exact endsT_retm rfl (by decide) rfl rfl rfl (by simp) (by simp [ldv])
variable (ha : 0 ≤ o.a ∧ o.a < r.length) (hb : 0 ≤ o.b ∧ o.b < r.length) (la : (dr.getD o.a.toNat []).length = n) (lb : (dr.getD o.b.toNat []).length = n) (hi : i < n)
include ha hb la lb hi
set_option maxRecDepth 8000 in
theorem islope_k2 (hk : o.k = 2) : Con Tryz.prog 139 [jrV, opA o, fI i, ivV q, .d (riD r dr)] (ivV (sloI o q r dr i)) := by
  refine Con_introA A_jac_kind_api_Iv_slope_comp rfl mixed ?_
  refine evx @A_jac_kind_api_Iv_slope.eq_1 ?_
  refine evbx (And.intro hk (And.intro @riD.eq_1 (And.intro @riG.eq_1 (And.intro @ivD.eq_1 @ivG_eq)))) ?_
  (repeat (with_reducible refine And.intro (by omega) ?_))
  refine callG_con (iv_Add_con (dI dr o.a i) (dI dr o.b i)) rfl ?_
  refine ev ?_
  have e : sloI o q r dr i = ivAdd (dI dr o.a i) (dI dr o.b i) := by simp [sloI, hk]
  rw [e]
  exact endsT_retm rfl (by decide) rfl rfl rfl (by simp) (by simp [ldv])
set_option maxRecDepth 8000 in
theorem islope_k3 (hk : o.k = 3) : Con Tryz.prog 139 [jrV, opA o, fI i, ivV q, .d (riD r dr)] (ivV (sloI o q r dr i)) := by
  refine Con_introA A_jac_kind_api_Iv_slope_comp rfl mixed ?_
  refine evx @A_jac_kind_api_Iv_slope.eq_1 ?_
  refine evbx (And.intro hk (And.intro @riD.eq_1 (And.intro @riG.eq_1 (And.intro @ivD.eq_1 @ivG_eq)))) ?_
  (repeat (with_reducible refine And.intro (by omega) ?_))
  refine callG_con (iv_Sub_con (dI dr o.a i) (dI dr o.b i)) rfl ?_
  refine ev ?_
  have e : sloI o q r dr i = ivSub (dI dr o.a i) (dI dr o.b i) := by simp [sloI, hk]
  rw [e]
  exact endsT_retm rfl (by decide) rfl rfl rfl (by simp) (by simp [ldv])
set_option maxRecDepth 8000 in
theorem islope_k4 (hk : o.k = 4) : Con Tryz.prog 139 [jrV, opA o, fI i, ivV q, .d (riD r dr)] (ivV (sloI o q r dr i)) := by
  refine Con_introA A_jac_kind_api_Iv_slope_comp rfl mixed ?_
  refine evx @A_jac_kind_api_Iv_slope.eq_1 ?_
  refine evbx (And.intro hk (And.intro @riD.eq_1 (And.intro @riG.eq_1 (And.intro @ivD.eq_1 @ivG_eq)))) ?_
  (repeat (with_reducible refine And.intro (by omega) ?_))
  refine callSG_con (iv_Mul_con (dI dr o.a i) (mG r o.b.toNat)) rfl ?_
  refine ev ?_
  (repeat (with_reducible refine And.intro (by omega) ?_))
  refine callSG_con (iv_Mul_con (mG r o.a.toNat) (dI dr o.b i)) rfl ?_
  refine ev ?_
  (repeat (with_reducible refine And.intro (by omega) ?_))
  refine callG_con (iv_Add_con (ivMul (dI dr o.a i) (mG r o.b.toNat)) (ivMul (mG r o.a.toNat) (dI dr o.b i))) rfl ?_
  refine ev ?_
  have e : sloI o q r dr i = ivAdd (ivMul (dI dr o.a i) (mG r o.b.toNat)) (ivMul (mG r o.a.toNat) (dI dr o.b i)) := by simp [sloI, hk]
  rw [e]
  exact endsT_retm rfl (by decide) rfl rfl rfl (by simp) (by simp [ldv])
set_option maxRecDepth 8000 in
theorem islope_k5 (hk : o.k = 5) : Con Tryz.prog 139 [jrV, opA o, fI i, ivV q, .d (riD r dr)] (ivV (sloI o q r dr i)) := by
  refine Con_introA A_jac_kind_api_Iv_slope_comp rfl mixed ?_
  refine evx @A_jac_kind_api_Iv_slope.eq_1 ?_
  refine evbx (And.intro hk (And.intro @riD.eq_1 (And.intro @riG.eq_1 (And.intro @ivD.eq_1 @ivG_eq)))) ?_
  (repeat (with_reducible refine And.intro (by omega) ?_))
  refine callSG_con (iv_Mul_con q (dI dr o.b i)) rfl ?_
  refine ev ?_
  (repeat (with_reducible refine And.intro (by omega) ?_))
  refine callSG_con (iv_Sub_con (dI dr o.a i) (ivMul q (dI dr o.b i))) rfl ?_
  refine ev ?_
  (repeat (with_reducible refine And.intro (by omega) ?_))
  refine callG_con (iv_Div_con (ivSub (dI dr o.a i) (ivMul q (dI dr o.b i))) (mG r o.b.toNat)) rfl ?_
  refine ev ?_
  have e : sloI o q r dr i = ivDiv (ivSub (dI dr o.a i) (ivMul q (dI dr o.b i))) (mG r o.b.toNat) := by simp [sloI, hk]
  rw [e]
  exact endsT_retm rfl (by decide) rfl rfl rfl (by simp) (by simp [ldv])
end
theorem islope_con (o : OpN) (r : List Iv) (dr : List (List Iv)) (n i : Nat) (q : Iv) (ho : Oko o r.length n) (hdr : ∀ j, j < r.length → (dr.getD j []).length = n) (hi : i < n) : Con Tryz.prog 139 [jrV, opA o, fI i, ivV q, .d (riD r dr)] (ivV (sloI o q r dr i)) := by
  rcases ho with hk | ⟨hk, ha⟩ | ⟨hk, ha, hb⟩
  · exact islope_k0 o r dr i q hk
  · exact islope_k1 o r dr i q hk
  · have la := hdr o.a.toNat (by omega)
    have lb := hdr o.b.toNat (by omega)
    rcases hk with hk | hk | hk | hk
    · exact islope_k2 o r dr n i q ha hb la lb hi hk
    · exact islope_k3 o r dr n i q ha hb la lb hi hk
    · exact islope_k4 o r dr n i q ha hb la lb hi hk
    · exact islope_k5 o r dr n i q ha hb la lb hi hk
theorem riG_len (r : List Iv) (dr : List (List Iv)) (i : Nat) : (riG r dr i).length = 3 := rfl
theorem regI_step (t : Tp) (x : List Iv) (i : Nat) : dcells (i + 1) (riG (regI t x (i + 1)) (drI t x (i + 1))) = dcells i (riG (regI t x i) (drI t x i)) ++ [fl (mG (regI t x (i + 1)) i).1, fl (mG (regI t x (i + 1)) i).2, .d (ivD ((drI t x (i + 1)).getD i []))] := by
  rw [dcells_succ]
  have h1 := regI_len t x i
  have h2 := drI_len t x i
  have e : dcells i (riG (regI t x (i + 1)) (drI t x (i + 1))) = dcells i (riG (regI t x i) (drI t x i)) := by
    unfold dcells
    rw [dcB_congr fun j hj => ?_]
    have a : mG (regI t x (i + 1)) j = mG (regI t x i) j := by
      unfold mG
      rw [regI, List.getD_eq_getElem?_getD, List.getElem?_append_left (by omega), ← List.getD_eq_getElem?_getD]
    have b : (drI t x (i + 1)).getD j [] = (drI t x i).getD j [] := by
      rw [drI, List.getD_eq_getElem?_getD, List.getElem?_append_left (by omega), ← List.getD_eq_getElem?_getD]
    simp only [riG, a, b]
  rw [e]; rfl
theorem regI_last (t : Tp) (x : List Iv) (i : Nat) : mG (regI t x (i + 1)) i = opI (t.ops.getD i ⟨0, 0, 0, 0⟩) x (regI t x i) := by
  have h1 := regI_len t x i
  unfold mG
  rw [regI, List.getD_eq_getElem?_getD, List.getElem?_append_right (by omega), h1, Nat.sub_self]; rfl
theorem drI_last (t : Tp) (x : List Iv) (i : Nat) : (drI t x (i + 1)).getD i [] = tabI (sloI (t.ops.getD i ⟨0, 0, 0, 0⟩) (opI (t.ops.getD i ⟨0, 0, 0, 0⟩) x (regI t x i)) (regI t x i) (drI t x i)) t.n := by
  have h1 := drI_len t x i
  rw [drI, List.getD_eq_getElem?_getD, List.getElem?_append_right (by omega), h1, Nat.sub_self]; rfl
theorem ivC_tabI (f : Nat → Iv) (k : Nat) : ivC (tabI f k) ++ [fl (f k).1, fl (f k).2] = ivC (tabI f (k + 1)) := by rw [tabI_succ, ivC_app]
theorem Fz_ivs {L L' : Heap} {Y r n ver : Nat} {ps : List Iv} (h : L.get Y r = some (ivC ps)) (hn : ps.length = n) (hv : n * 2 = ver) (h' : L'.get Y r = none) : Fz L L' (.sl Y r 0 n 2 ver) (.d (ivD ps)) :=
  .d (snap_iv (fun Z q hZ e => by cases e; exact hZ h') h hn hv)
theorem dcells_iv (ps : List Iv) : dcells ps.length (ivG ps) = ivC ps := by
  have key : ∀ n, n ≤ ps.length → dcells n (ivG ps) = ivC (ps.take n) := fun n => by
    induction n with
    | zero => intro _; rfl
    | succ n ih =>
      intro h
      rw [dcells_succ, ih (by omega), List.take_succ_eq_append_getElem (by omega), ← ivC_app]
      have e : mG ps n = ps[n] := by simp [mG, List.getD_eq_getElem?_getD, show n < ps.length by omega]
      rw [ivG_eq, e]; rfl
  rw [key _ (Nat.le_refl _), List.take_length]
theorem srcCells_iv (L : Heap) (esz : Nat) (ps : List Iv) : srcCells L esz (.d (.bor ps.length (ivG ps))) = some (ivC ps) := by
  simp only [srcCells]
  rw [← dcells_iv]; rfl
theorem Fz_ivD {L L' : Heap} (x : List Iv) : Fz L L' (.d (.bor x.length (ivG x))) (.d (ivD x)) := .d (.d _)
abbrev jrC : List V := [.d (.fn 137 [] []), .d (.fn 92 [] []), .d (.fn 79 [] []), .d (.fn 125 [] []), .d (.fn 131 [] [])]
abbrev jiR (t : Tp) (x : List Iv) (i : Nat) : T := ⟨[(2, .d (ivD x)), (3, .ptr 0 0 0 5), (4, .ptr 1 0 0 3), (7, .sl 10 0 0 i 3 (i * 3)), (16, .d (opsD t.ops)), (17, fI t.ops.length), (18, fI i)],
  [(10, [dcells i (riG (regI t x i) (drI t x i))]), (1, [jtT t]), (0, [jrC])]⟩
abbrev jiS (t : Tp) (x : List Iv) (i k : Nat) : Sl := [(2, .d (ivD x)), (3, .ptr 0 0 0 5), (4, .ptr 1 0 0 3), (7, .sl 10 0 0 i 3 (i * 3)), (9, .ptr 13 0 0 4), (10, .ptr 20 0 0 3), (16, .d (opsD t.ops)), (17, fI t.ops.length), (18, fI i), (29, fI t.n), (30, fI k)]
abbrev jiH (t : Tp) (x : List Iv) (i : Nat) (o : OpN) : Heap := [(13, [opC o]), (10, [dcells i (riG (regI t x i) (drI t x i))]), (1, [jtT t]), (0, [jrC])]
abbrev jiT0 (t : Tp) (x : List Iv) (i : Nat) (o : OpN) (v : Iv) : T := ⟨jiS t x i 0, (20, [[fl v.1, fl v.2, .nil]]) :: jiH t x i o⟩
abbrev jiT1 (t : Tp) (x : List Iv) (i : Nat) (o : OpN) (v : Iv) (f : Nat → Iv) (k : Nat) : T := ⟨jiS t x i k, (15, [ivC (tabI f k)]) :: (20, [[fl v.1, fl v.2, .sl 15 0 0 k 2 (k * 2)]]) :: jiH t x i o⟩
set_option maxRecDepth 8000 in
theorem irun_L1 (t : Tp) (x : List Iv) (i : Nat) (o : OpN) (v : Iv) (f : Nat → Iv) (hn : t.n < 2 ^ 20) (hn0 : 0 < t.n) (hi : i < 2 ^ 40) (hop : Oko o i t.n) (hf : f = sloI o v (regI t x i) (drI t x i)) (Q : Ex → T → Prop)
    (hQ : Q (.exit 2) ⟨[(2, .d (ivD x)), (3, .ptr 0 0 0 5), (4, .ptr 1 0 0 3), (7, .sl 10 0 0 i 3 (i * 3)), (9, .ptr 13 0 0 4), (10, .ptr 20 0 0 3), (16, .d (opsD t.ops)), (17, fI t.ops.length), (18, fI i), (29, fI t.n), (30, fI t.n), (31, fB false)],
      (15, [ivC (tabI f t.n)]) :: (20, [[fl v.1, fl v.2, .sl 15 0 0 t.n 2 (t.n * 2)]]) :: jiH t x i o⟩) :
    WA Tryz.prog (fun _ => False) 73 A_jac_kind_api_Iv_run_L1.loop Q (jiT0 t x i o v) := by
  have hl := regI_len t x i
  have hdl := drI_len t x i
  have hrow := drI_rows t x i
  have hcl := dcells_len i (fun j _ => riG_len (regI t x i) (drI t x i) j)
  have hcon : ∀ k, k < t.n → Con Tryz.prog 139 [jrV, opA o, fI k, ivV v, .d (riD (regI t x i) (drI t x i))] (ivV (f k)) := fun k hk => by
    rw [hf]; exact islope_con o _ _ t.n k v (by rw [hl]; exact hop) (fun j hj => hrow j (by omega)) hk
  have sc : ∀ p : Iv, Scalar (ivV p) := fun p => scalar_iv [p]
  clear hf hrow
  refine WA_forW (n := t.n) (fun c s => ∃ k, c + k = t.n ∧ ((k = 0 ∧ s = jiT0 t x i o v) ∨ (0 < k ∧ s = jiT1 t x i o v f k))) (Le.refl _) ⟨0, by omega, .inl ⟨rfl, rfl⟩⟩ ?_
  rintro c s ⟨k, hc, ⟨rfl, rfl⟩ | ⟨hk, rfl⟩⟩
  · refine evx @A_jac_kind_api_Iv_run_L1.eq_1 ?_
    have h0 : decide ((0 : Int) < (t.n : Int)) = true := by simpa using hn0
    refine evx h0 ?_
    refine callS_snaps [jrV, opA o, fI (0 : Nat), ivV v, .d (riD (regI t x i) (drI t x i))] (hcon 0 hn0) ⟨.aggs ⟨.bare _, .bare _, .bare _, .bare _, .bare _, trivial⟩, .aggs ⟨.bare _, .bare _, .bare _, .bare _, trivial⟩, .bare _, .aggs ⟨.bare _, .bare _, trivial⟩, ?_, trivial⟩ (sc _) ?_
    · have e : riD (regI t x i) (drI t x i) = .bor i (riG (regI t x i) (drI t x i)) := by unfold riD; rw [hl]
      rw [e]
      exact snp_data (by simp [get_old, get_cons, get_nil]) (fun j _ => rfl) rfl
    refine ev ?_
    refine ⟨c - 1, jiT1 t x i o v f 1, by omega, ?_, 1, by omega, .inr ⟨by decide, rfl⟩⟩
    refine Le.trans (LeT.only (L' := (31, [[fl (f 0).1, fl (f 0).2]]) :: (20, [[fl v.1, fl v.2, .sl 31 0 0 1 2 2]]) :: jiH t x i o) (fun X => X != 30) (fun _ h => h) rfl (by simp [kpS]) (by simp [kpS])) ?_
    refine Le.trans (LeT.move 15 (by decide) (by simp [fam_cons, fam_nil]) (by simp [fam_cons, fam_nil]) (fun h => h)) ?_
    have e1 : renS (absF 31 15 0) (jiS t x i 1) = jiS t x i 1 := by simp [renS, V.ren, absF]
    have e2 : Heap.renH (absF 31 15 0) ((20, [[fl v.1, fl v.2, .sl 31 0 0 1 2 2]]) :: jiH t x i o) = (20, [[fl v.1, fl v.2, .sl 15 0 0 1 2 2]]) :: jiH t x i o := by
      simp [Heap.renH, V.ren, absF, ren_dcells]
    have e3 : [fl (f 0).1, fl (f 0).2].map (V.ren (absF 31 15 0)) = ivC (tabI f 1) := by simp [V.ren, tabI, ivC]
    rw [e2, e3]
    exact (congrArg (fun z => Le (fun _ => False) (T.s 73 ⟨z, (jiT1 t x i o v f 1).L⟩) (T.s 73 (jiT1 t x i o v f 1))) e1).mpr (Le.refl _)
  · have hrl := tabI_len f k
    refine evx @A_jac_kind_api_Iv_run_L1.eq_1 ?_
    refine condC_intro (fun h => ?_) (fun h => ?_)
    · replace h := of_decide_eq_true h
      refine ev ?_
      refine callS_snaps [jrV, opA o, fI k, ivV v, .d (riD (regI t x i) (drI t x i))] (hcon k h) ⟨.aggs ⟨.bare _, .bare _, .bare _, .bare _, .bare _, trivial⟩, .aggs ⟨.bare _, .bare _, .bare _, .bare _, trivial⟩, .bare _, .aggs ⟨.bare _, .bare _, trivial⟩, ?_, trivial⟩ (sc _) ?_
      · have e : riD (regI t x i) (drI t x i) = .bor i (riG (regI t x i) (drI t x i)) := by unfold riD; rw [hl]
        rw [e]
        exact snp_data (by simp [get_old, get_cons, get_nil]) (fun j _ => rfl) rfl
      refine ev ?_
      (repeat (with_reducible refine And.intro (by omega) ?_))
      rw [wrapI (by omega) (by omega), ivC_tabI, show k * 2 + 2 = (k + 1) * 2 by omega]
      exact ⟨c - 1, _, by omega, LeT.only (fun X => decide (X ≤ 20)) (fun _ h => h) rfl (by simp (maxDischargeDepth := 6) [kpS, fam_cons, fam_nil, KpA_ivC']) (by simp (maxDischargeDepth := 6) [kpS, fam_cons, fam_nil, KpA_ivC']), k + 1, by omega, .inr ⟨by omega, rfl⟩⟩
    · replace h := of_decide_eq_false h
      have e : k = t.n := by omega
      subst e
      refine evx @Nat.lt_irrefl ?_
      exact hQ
def ivsD (J : List (List Iv)) : D := .bor J.length fun i => [ivD (J.getD i [])]
def jiG (t : Tp) (x : List Iv) (i : Nat) : D := ivD ((jacI t x).getD i [])
set_option maxRecDepth 8000 in
theorem irun_con (t : Tp) (x : List Iv) (ht : Tok t) (hx : x.length = t.n) (hn0 : 0 < t.n) : Con Tryz.prog 97 [jrV, tapeV t, .d (ivD x)] (.d (ivsD (jacI t x))) := by
  have hn := ht.n
  have hlen := ht.len
  refine Con_introA A_jac_kind_api_Iv_run_comp rfl mixed ?_
  refine evx @A_jac_kind_api_Iv_run.eq_1 ?_
  refine evx @opsD.eq_1 ?_
  refine WA_forW (n := t.ops.length) (fun c s => ∃ i, c + i = t.ops.length ∧ s = jiR t x i)
    (LeT.nilrow (X := 10) (esz := 3) (as' := (jiR t x 0).sl) (by simp [fam_cons, fam_nil]) (fun h => h) fun i => ?_) ⟨0, by omega, rfl⟩ ?_
  · simp only [look]
    repeat' split
    all_goals simp [ivD, opsD]
  rintro c s ⟨i, hc, rfl⟩
  have hl := regI_len t x i
  have hdl := drI_len t x i
  have hcl := dcells_len i (fun j _ => riG_len (regI t x i) (drI t x i) j)
  refine evx (And.intro @A_jac_kind_api_Iv_run_L0.eq_1 @opsD.eq_1) ?_
  refine condC_intro (fun h => ?_) (fun h => ?_)
  · replace h := of_decide_eq_true h
    have hop := ht.op i h
    have hra := regI_last t x i
    have hda := drI_last t x i
    generalize ho : t.ops.getD i ⟨0, 0, 0, 0⟩ = o at hop hra hda
    refine evx (And.intro @opG.eq_1 ho) ?_
    (repeat (with_reducible refine And.intro (by omega) ?_))
    refine callG_snaps [jrV, opA o, .d (ivD x), .d (riD (regI t x i) (drI t x i))] (ivalue_con o x (regI t x i) (drI t x i) t.n (by rw [hl]; exact hop) hx) ⟨.aggs ⟨.bare _, .bare _, .bare _, .bare _, .bare _, trivial⟩, .aggs ⟨.bare _, .bare _, .bare _, .bare _, trivial⟩, .bare _, ?_, trivial⟩ (scalar_iv [opI o x (regI t x i)]) ?_
    · have e : riD (regI t x i) (drI t x i) = .bor i (riG (regI t x i) (drI t x i)) := by unfold riD; rw [hl]
      rw [e]
      exact snp_data (by simp [get_cons, get_nil]) (fun j _ => rfl) rfl
    refine ev ?_
    have hr1 := regI_step t x i
    rw [hra, hda] at hr1
    generalize hv1 : opI o x (regI t x i) = v at hr1
    refine irun_L1 t x i o v _ ht.n hn0 (by omega) hop rfl _ ?_
    generalize sloI o v (regI t x i) (drI t x i) = f at hr1
    have hfl := tabI_len f t.n
    refine ev ?_
    (repeat (with_reducible refine And.intro (by omega) ?_))
    have e2 : i * 3 + 3 = (i + 1) * 3 := by omega
    rw [wrapI (by omega) (by omega), e2]
    have hz : ∀ L L' : Heap, L.get 15 0 = some (ivC (tabI f t.n)) → L'.get 15 0 = none → Fz L L' (.sl 15 0 0 t.n 2 (t.n * 2)) (.d (ivD (tabI f t.n))) := fun L L' a b => Fz_ivs a hfl rfl b
    refine ⟨c - 1, jiR t x (i + 1), by omega, ?_, i + 1, by omega, rfl⟩
    unfold jiR
    rw [hr1]
    exact LeT.weak (fun _ h => h) (by simp (maxDischargeDepth := 6) [fzS, Fz_ivD]) (by simp (maxDischargeDepth := 6) [fzS, hz])
  · replace h := of_decide_eq_false h
    have e : i = t.ops.length := by omega
    subst e
    refine ev ?_
    (repeat (with_reducible refine And.intro (by omega) ?_))
    rw [outC_zero t.n (jiG t x)]
    have hgl := ht.outl
    refine WA_forW (n := t.n) (fun c s => ∃ i, c + i = t.n ∧ s = ⟨[(7, .sl 10 0 0 t.ops.length 3 (t.ops.length * 3)), (12, .sl 13 0 0 t.n 1 t.n), (55, .d (rowI t.out)), (56, fI t.n), (57, fI i)],
      [(13, [outC t.n (jiG t x) i]), (10, [dcells t.ops.length (riG (regI t x t.ops.length) (drI t x t.ops.length))]), (1, [jtT t]), (0, [jrC])]⟩) (by rw [← hgl]; exact Le.refl _) ⟨0, by omega, rfl⟩ ?_
    rintro c s ⟨i, hc, rfl⟩
    have hol := outC_len t.n (jiG t x) i
    refine evx @A_jac_kind_api_Iv_run_L2.eq_1 ?_
    refine condC_intro (fun h => ?_) (fun h => ?_)
    · replace h := of_decide_eq_true h
      have hgo := ht.out i h
      have hjr : (jacI t x).getD i [] = (drI t x t.ops.length).getD (t.out.getD i 0).toNat [] := by
        unfold jacI
        rw [List.getD_eq_getElem?_getD, List.getElem?_map, List.getElem?_range h]; rfl
      have hjl : ((jacI t x).getD i []).length = t.n := by rw [hjr]; exact drI_rows t x _ _ (by omega)
      have hcg := dcells_get t.ops.length (fun j _ => riG_len (regI t x t.ops.length) (drI t x t.ops.length) j) (t.out.getD i 0).toNat 2 (by omega) (by decide)
      have hg2 : (riG (regI t x t.ops.length) (drI t x t.ops.length) (t.out.getD i 0).toNat).getD 2 default = ivD ((jacI t x).getD i []) := by rw [hjr]; rfl
      rw [hg2] at hcg
      refine evx (And.intro hcg @srcCells_iv) ?_
      (repeat (with_reducible refine And.intro (by omega) ?_))
      rw [hjl, wrapI (by omega) (by omega)]
      have hz : ∀ L L' : Heap, L.get 21 0 = some (ivC ((jacI t x).getD i [])) → L'.get 21 0 = none → Fz L L' (.sl 21 0 0 t.n 2 (t.n * 2)) (.d (jiG t x i)) := fun L L' a b => Fz_ivs a hjl rfl b
      refine ⟨c - 1, _, by omega, ?_, i + 1, by omega, rfl⟩
      exact LeT.weak (fun _ h => h) (by simp (maxDischargeDepth := 6) [fzS]) (by simp (maxDischargeDepth := 6) [fzS, hz, FzA_outC_set])
    · replace h := of_decide_eq_false h
      have e : i = t.n := by omega
      subst e
      refine ev ?_
      rw [outC_all]
      refine endsT_le (.sl 13 0 0 t.n 1 t.n) (fun _ h => h) (resV_tmpI (t := 6) (by decide) rfl) ?_
      unfold ivsD
      rw [jacI_len]
      exact .d (snapF_data (esz := 1) (fun Y q h => by simp [get_nil] at h) (by simp [get_cons]; rfl) (fun j hj => rfl) (by simp))
theorem JacIv_con (t : Tp) (x : List Iv) (ht : Tok t) (hx : x.length = t.n) (hn0 : 0 < t.n) : Con Tryz.prog 44 [tapeV t, .d (ivD x)] (.d (ivsD (jacI t x))) := by
  refine Con_introA A_jac_JacIv_comp rfl mixed ?_
  refine evx @A_jac_JacIv.eq_1 ?_
  refine callSG_con (jranges_con) rfl ?_
  refine ev ?_
  refine callG_con (irun_con t x ht hx hn0) rfl ?_
  refine ev ?_
  exact endsT_rett rfl (by decide) (by simp [look])
end Go.Ab
