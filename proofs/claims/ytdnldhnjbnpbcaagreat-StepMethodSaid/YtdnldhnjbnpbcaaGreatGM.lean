/- Part 13: OA, OB, SD, SE. -/
import Derived.Test.YtdnldhnjbnpbcaaGreatGL
namespace Go.Ab
set_option linter.unusedSimpArgs false
set_option linter.unusedVariables false
open Nat renaming reduceEqDiff → n1_, reduceAdd → n2_, reduceMul → n3_, reduceLT → n4_, reduceLeDiff → n5_
open Int renaming reduceToNat → i1_, reduceAdd → i2_, reduceSub → i3_, reduceMul → i4_, reduceNeg → i5_, reduceLT → i6_, reduceLE → i7_
open Go Go.Proofs
def A_r7_gcd_L0 : CA := (.seq (.seq (.reg [i_M 0 9 1, i_X 1 10 (.h (.ibin .neq (.t 9) (.k (.d (.int .i64 0)))))] [0, 1, 10]) (.cond (.t 10) .skip (.exit 0))) (.block 1 (.reg [i_M 0 11 1, i_M 1 12 0, i_M 2 13 1, i_X 3 14 (.h (.ibin .rem (.t 12) (.t 13))), i_M 4 0 11, i_M 5 1 14] [0, 1])))
def A_r7_gcd : CA := (.seq (.reg [i_X 0 4 (.h (.mov (.k (.d (.int .i64 0)))))] [0, 1]) (.seq (.seq (.reg [i_M 0 5 0, i_X 1 6 (.h (.ibin .lss (.t 5) (.k (.d (.int .i64 0)))))] [0, 1, 6]) (.cond (.t 6) (.reg [i_M 0 7 0, i_X 1 8 (.h (.ibin .sub (.k (.d (.int .i64 0))) (.t 7))), i_M 2 0 8] [0, 1]) .skip)) (.seq (.block 0 (.loop A_r7_gcd_L0)) (.seq (.reg [i_M 0 15 0, i_M 1 4 15] [4]) .ret))))
theorem A_r7_gcd_comp : compF Tryz.prog 121 = some ⟨16, [(4, none)], A_r7_gcd.strip⟩ := by kernel_rfl
def A_r7_low : CA := (.seq (.reg [i_X 0 4 (.h (.mov (.k (.d (.int .i64 0))))), i_X 1 5 (.h (.mov (.k (.d (.int .i64 0)))))] [0, 1]) (.seq (.seq (.reg [i_M 0 7 1, i_X 1 8 (.h (.ibin .lss (.t 7) (.k (.d (.int .i64 0)))))] [0, 1, 8]) (.cond (.t 8) (.reg [i_M 0 9 0, i_X 1 10 (.h (.ibin .sub (.k (.d (.int .i64 0))) (.t 9))), i_M 2 11 1, i_X 3 12 (.h (.ibin .sub (.k (.d (.int .i64 0))) (.t 11))), i_M 4 0 10, i_M 5 1 12] [0, 1]) .skip)) (.seq (.seq (.reg [i_M 0 13 0, i_X 1 14 (.h (.ibin .eql (.t 13) (.k (.d (.int .i64 0)))))] [0, 1, 14]) (.cond (.t 14) (.seq (.reg [i_X 0 4 (.h (.mov (.k (.d (.int .i64 0))))), i_X 1 5 (.h (.mov (.k (.d (.int .i64 1)))))] [4, 5]) .ret) .skip)) (.seq (.reg [i_M 0 15 0, i_M 1 16 1, i_X 2 17 (.callA (.k (.d (.fn 121 [] []))) [(.t 15), (.t 16)]), i_M 3 6 17] [0, 1, 6]) (.seq (.seq (.reg [i_M 0 18 6, i_X 1 19 (.h (.ibin .lss (.t 18) (.k (.d (.int .i64 0)))))] [0, 1, 6, 19]) (.cond (.t 19) (.reg [i_M 0 20 6, i_X 1 21 (.h (.ibin .sub (.k (.d (.int .i64 0))) (.t 20))), i_M 2 6 21] [0, 1, 6]) .skip)) (.seq (.reg [i_M 0 22 0, i_M 1 23 6, i_X 2 24 (.h (.ibin .quo (.t 22) (.t 23))), i_M 3 25 1, i_M 4 26 6, i_X 5 27 (.h (.ibin .quo (.t 25) (.t 26))), i_M 6 4 24, i_M 7 5 27] [4, 5]) .ret))))))
theorem A_r7_low_comp : compF Tryz.prog 107 = some ⟨28, [(4, none), (5, none)], A_r7_low.strip⟩ := by kernel_rfl
def A_r7_product_L1 : CA := (.seq (.seq (.reg [i_M 0 17 6, i_M 1 18 3, i_X 2 19 (.h (.len (.t 18))), i_X 3 20 (.h (.ibin .lss (.t 17) (.t 19)))] [0, 3, 4, 5, 6, 20]) (.cond (.t 20) .skip (.exit 2))) (.seq (.block 3 (.seq (.reg [i_M 0 23 5, i_M 1 24 6, i_M 2 25 5, i_M 3 26 6, i_X 4 27 (.h (.idx (.t 25) (.t 26) 1)), i_L 5 28 27 1, i_M 6 29 4, i_M 7 30 3, i_M 8 31 6, i_X 9 32 (.h (.idx (.t 30) (.t 31) 1)), i_L 10 33 32 1, i_X 11 34 (.h (.ibin .mul (.t 29) (.t 33))), i_X 12 35 (.h (.ibin .add (.t 28) (.t 34))), i_X 13 36 (.h (.idx (.t 23) (.t 24) 1)), i_S 14 36 35 1] [0, 3, 4, 5, 6]) (.reg [i_M 0 37 5, i_M 1 38 6, i_X 2 39 (.h (.ibin .add (.t 38) (.k (.d (.int .i64 1))))), i_M 3 40 5, i_M 4 41 6, i_X 5 42 (.h (.ibin .add (.t 41) (.k (.d (.int .i64 1))))), i_X 6 43 (.h (.idx (.t 40) (.t 42) 1)), i_L 7 44 43 1, i_M 8 45 3, i_M 9 46 6, i_X 10 47 (.h (.idx (.t 45) (.t 46) 1)), i_L 11 48 47 1, i_X 12 49 (.h (.ibin .add (.t 44) (.t 48))), i_X 13 50 (.h (.idx (.t 37) (.t 39) 1)), i_S 14 50 49 1] [0, 3, 4, 5, 6]))) (.reg [i_M 0 21 6, i_X 1 22 (.h (.ibin .add (.t 21) (.k (.d (.int .i64 1))))), i_M 2 6 22] [0, 3, 4, 5, 6])))
def A_r7_product_L0 : CA := (.seq (.seq (.reg [i_M 0 8 4, i_M 1 9 0, i_X 2 10 (.h (.ibin .leq (.t 8) (.t 9)))] [0, 3, 4, 10]) (.cond (.t 10) .skip (.exit 0))) (.seq (.block 1 (.seq (.reg [i_M 0 13 3, i_X 1 14 (.h (.len (.t 13))), i_X 2 15 (.h (.ibin .add (.t 14) (.k (.d (.int .i64 1))))), i_X 3 16 (.mksl [(.d (.int .i64 0))] 1 8 (.t 15) (.t 15) 3), i_M 4 5 16] [0, 3, 4, 5]) (.seq (.seq (.reg [i_X 0 6 (.h (.mov (.k (.d (.int .i64 0)))))] [0, 3, 4, 5, 6]) (.block 2 (.loop A_r7_product_L1))) (.reg [i_M 0 51 5, i_M 1 3 51] [0, 3, 4])))) (.reg [i_M 0 11 4, i_X 1 12 (.h (.ibin .add (.t 11) (.k (.d (.int .i64 1))))), i_M 2 4 12] [0, 3, 4])))
def A_r7_product : CA := (.seq (.reg [i_X 0 2 (.h (.mov (.k .nil)))] [0]) (.seq (.reg [i_X 0 7 (.bslice [(.d (.int .i64 0))] 1 1 [(0, (1, (.k (.d (.int .i64 1)))))] 3), i_M 1 3 7] [0, 3]) (.seq (.seq (.reg [i_X 0 4 (.h (.mov (.k (.d (.int .i64 1)))))] [0, 3, 4]) (.block 0 (.loop A_r7_product_L0))) (.seq (.reg [i_M 0 52 3, i_M 1 2 52] [2]) .ret))))
theorem A_r7_product_comp : compF Tryz.prog 106 = some ⟨53, [(2, none)], A_r7_product.strip⟩ := by kernel_rfl
def A_r7_adams_L0 : CA := (.seq (.seq (.reg [i_M 0 24 7, i_M 1 25 0, i_X 2 26 (.h (.ibin .leq (.t 24) (.t 25)))] [0, 2, 3, 4, 5, 6, 7, 26]) (.cond (.t 26) .skip (.exit 0))) (.seq (.block 1 (.seq (.reg [i_M 0 30 3, i_M 1 31 7, i_X 2 32 (.h (.ibin .sub (.t 31) (.k (.d (.int .i64 1))))), i_X 3 33 (.h (.idx (.t 30) (.t 32) 1)), i_L 4 34 33 1, i_M 5 35 3, i_X 6 36 (.h (.idx (.t 35) (.k (.d (.int .i64 0))) 1)), i_L 7 37 36 1, i_M 8 38 7, i_X 9 39 (.h (.ibin .mul (.t 37) (.t 38))), i_X 10 40 (.callA (.k (.d (.fn 107 [] []))) [(.t 34), (.t 39)]), i_M 11 29 40, i_X 12 41 (.h (.ext (.t 29) 0)), i_X 13 42 (.h (.ext (.t 29) 1)), i_M 14 8 41, i_M 15 9 42] [0, 2, 3, 4, 5, 6, 7, 8, 9]) (.seq (.reg [i_P 0 43 4 0, i_L 1 44 43 1, i_M 2 45 8, i_X 3 46 (.bslice [(.d (.int .i64 0))] 1 1 [(0, (1, (.t 45)))] 3), ⟨4, (some 47), none, [], [(.t 4)], (.app (.t 44) (.t 46) 1 8)⟩, i_P 5 48 4 1, ⟨6, (some 49), none, [(.t 4)], [], (.load (.t 48) 1 false)⟩, i_M 7 50 9, i_X 8 51 (.bslice [(.d (.int .i64 0))] 1 1 [(0, (1, (.t 50)))] 3), i_X 9 52 (.app (.t 49) (.t 51) 1 8), i_P 10 53 4 0, i_S 11 53 47 1, i_P 12 54 4 1, i_S 13 54 52 1] [0, 2, 3, 4, 5, 6, 7, 8, 9]) (.seq (.reg [i_X 0 10 (.h (.mov (.k (.d (.int .i64 1)))))] [0, 2, 3, 4, 5, 6, 7, 8, 9, 10]) (.seq (.seq (.reg [i_M 0 55 7, i_X 1 56 (.h (.ibin .rem (.t 55) (.k (.d (.int .i64 2))))), i_X 2 57 (.h (.ibin .eql (.t 56) (.k (.d (.int .i64 1)))))] [0, 2, 3, 4, 5, 6, 7, 8, 9, 10, 57]) (.cond (.t 57) (.reg [i_X 0 10 (.h (.mov (.k (.d (.int .i64 (-1))))))] [0, 2, 3, 4, 5, 6, 7, 8, 9, 10]) .skip)) (.reg [i_M 0 59 5, i_M 1 60 9, i_X 2 61 (.h (.ibin .mul (.t 59) (.t 60))), i_M 3 62 10, i_M 4 63 8, i_X 5 64 (.h (.ibin .mul (.t 62) (.t 63))), i_M 6 65 6, i_X 7 66 (.h (.ibin .mul (.t 64) (.t 65))), i_X 8 67 (.h (.ibin .add (.t 61) (.t 66))), i_M 9 68 6, i_M 10 69 9, i_X 11 70 (.h (.ibin .mul (.t 68) (.t 69))), i_X 12 71 (.callA (.k (.d (.fn 107 [] []))) [(.t 67), (.t 70)]), i_M 13 58 71, i_X 14 72 (.h (.ext (.t 58) 0)), i_X 15 73 (.h (.ext (.t 58) 1)), i_M 16 5 72, i_M 17 6 73] [0, 2, 3, 4, 5, 6, 7])))))) (.reg [i_M 0 27 7, i_X 1 28 (.h (.ibin .add (.t 27) (.k (.d (.int .i64 1))))), i_M 2 7 28] [0, 2, 3, 4, 5, 6, 7])))
def A_r7_adams : CA := (.seq (.reg [i_X 0 2 (.alloc [.nil, .nil] 86)] [0, 2]) (.seq (.reg [i_M 0 11 0, i_X 1 12 (.h (.ibin .sub (.t 11) (.k (.d (.int .i64 1))))), i_X 2 13 (.callA (.k (.d (.fn 106 [] []))) [(.t 12)]), i_M 3 3 13] [0, 2, 3]) (.seq (.reg [i_X 0 4 (.alloc [.nil, .nil] 86)] [0, 2, 3, 4]) (.seq (.reg [i_P 0 14 4 0, i_L 1 15 14 1, i_X 2 16 (.bslice [(.d (.int .i64 0))] 1 1 [(0, (1, (.k (.d (.int .i64 0)))))] 3), ⟨3, (some 17), none, [], [(.t 4)], (.app (.t 15) (.t 16) 1 8)⟩, i_P 4 18 4 1, ⟨5, (some 19), none, [(.t 4)], [], (.load (.t 18) 1 false)⟩, i_X 6 20 (.bslice [(.d (.int .i64 0))] 1 1 [(0, (1, (.k (.d (.int .i64 1)))))] 3), i_X 7 21 (.app (.t 19) (.t 20) 1 8), i_P 8 22 4 0, i_S 9 22 17 1, i_P 10 23 4 1, i_S 11 23 21 1] [0, 2, 3, 4]) (.seq (.reg [i_X 0 5 (.h (.mov (.k (.d (.int .i64 0))))), i_X 1 6 (.h (.mov (.k (.d (.int .i64 1)))))] [0, 2, 3, 4, 5, 6]) (.seq (.seq (.reg [i_X 0 7 (.h (.mov (.k (.d (.int .i64 1)))))] [0, 2, 3, 4, 5, 6, 7]) (.block 0 (.loop A_r7_adams_L0))) (.seq (.reg [i_P 0 75 4 0, i_L 1 76 75 1, i_P 2 77 4 1, ⟨3, (some 78), none, [(.t 4)], [], (.load (.t 77) 1 false)⟩, i_M 4 79 5, i_X 5 80 (.h (.ibin .sub (.k (.d (.int .i64 0))) (.t 79))), i_M 6 81 6, i_X 7 82 (.callS 7 (.k (.d (.fn 107 [] []))) [(.t 80), (.t 81)]), i_M 8 74 82, i_X 9 83 (.h (.ext (.t 74) 0)), i_X 10 84 (.h (.ext (.t 74) 1)), i_X 11 85 (.h (.idx (.t 76) (.k (.d (.int .i64 0))) 1)), ⟨12, none, none, [], [(.t 4)], (.store (.t 85) (.t 83) 1)⟩, i_X 13 86 (.h (.idx (.t 78) (.k (.d (.int .i64 0))) 1)), i_S 14 86 84 1] [2, 4]) (.seq (.reg [i_A 0 87 4 2, i_S 1 2 87 2] [2]) .ret))))))))
theorem A_r7_adams_comp : compF Tryz.prog 82 = some ⟨88, [(2, (some (2, true)))], A_r7_adams.strip⟩ := by kernel_rfl
def A_r7_bdf_L0 : CA := (.seq (.seq (.reg [i_M 0 10 5, i_M 1 11 0, i_X 2 12 (.h (.ibin .leq (.t 10) (.t 11)))] [0, 2, 3, 4, 5, 12]) (.cond (.t 12) .skip (.exit 0))) (.seq (.block 1 (.seq (.reg [i_M 0 16 3, i_M 1 17 5, i_X 2 18 (.h (.idx (.t 16) (.t 17) 1)), i_L 3 19 18 1, i_M 4 20 3, i_X 5 21 (.h (.idx (.t 20) (.k (.d (.int .i64 1))) 1)), i_L 6 22 21 1, i_X 7 23 (.callA (.k (.d (.fn 107 [] []))) [(.t 19), (.t 22)]), i_M 8 15 23, i_X 9 24 (.h (.ext (.t 15) 0)), i_X 10 25 (.h (.ext (.t 15) 1)), i_M 11 6 24, i_M 12 7 25] [0, 2, 3, 4, 5, 6, 7]) (.reg [i_P 0 26 4 0, i_L 1 27 26 1, i_M 2 28 6, i_X 3 29 (.bslice [(.d (.int .i64 0))] 1 1 [(0, (1, (.t 28)))] 3), ⟨4, (some 30), none, [], [(.t 4)], (.app (.t 27) (.t 29) 1 8)⟩, i_P 5 31 4 1, ⟨6, (some 32), none, [(.t 4)], [], (.load (.t 31) 1 false)⟩, i_M 7 33 7, i_X 8 34 (.bslice [(.d (.int .i64 0))] 1 1 [(0, (1, (.t 33)))] 3), i_X 9 35 (.app (.t 32) (.t 34) 1 8), i_P 10 36 4 0, i_S 11 36 30 1, i_P 12 37 4 1, i_S 13 37 35 1] [0, 2, 3, 4, 5]))) (.reg [i_M 0 13 5, i_X 1 14 (.h (.ibin .add (.t 13) (.k (.d (.int .i64 1))))), i_M 2 5 14] [0, 2, 3, 4, 5])))
def A_r7_bdf : CA := (.seq (.reg [i_X 0 2 (.alloc [.nil, .nil] 86)] [0, 2]) (.seq (.reg [i_M 0 8 0, i_X 1 9 (.callA (.k (.d (.fn 106 [] []))) [(.t 8)]), i_M 2 3 9] [0, 2, 3]) (.seq (.reg [i_X 0 4 (.alloc [.nil, .nil] 86)] [0, 2, 3, 4]) (.seq (.seq (.reg [i_X 0 5 (.h (.mov (.k (.d (.int .i64 0)))))] [0, 2, 3, 4, 5]) (.block 0 (.loop A_r7_bdf_L0))) (.seq (.reg [i_A 0 38 4 2, i_S 1 2 38 2] [2]) .ret)))))
theorem A_r7_bdf_comp : compF Tryz.prog 83 = some ⟨39, [(2, (some (2, true)))], A_r7_bdf.strip⟩ := by kernel_rfl
def A_r7_Exact : CA := (.seq (.reg [i_X 0 4 (.alloc [.nil, .nil] 86), i_X 1 5 (.h (.mov (.k (.d (.bool false)))))] [0, 1, 4]) (.seq (.block 0 (.seq (.reg [i_M 0 7 0, i_X 1 8 (.h (.ibin .eql (.t 7) (.k (.d (.int .i64 0))))), i_M 2 9 8, ⟨3, (some 10), (some (9, true)), [], [], (.h (.mov (.t 1)))⟩, ⟨4, (some 11), (some (9, true)), [], [], (.h (.ibin .geq (.t 10) (.k (.d (.int .i64 1)))))⟩, i_X 5 12 (.h (.pick (.t 9) (.t 11) (.k (.d (.bool false))))), i_M 6 13 12, ⟨7, (some 14), (some (13, true)), [], [], (.h (.mov (.t 1)))⟩, ⟨8, (some 15), (some (13, true)), [], [], (.h (.ibin .leq (.t 14) (.k (.d (.int .i64 5)))))⟩, i_X 9 16 (.h (.pick (.t 13) (.t 15) (.k (.d (.bool false))))), i_M 10 6 16] [0, 1, 4, 6]) (.cond (.t 6) (.seq (.reg [i_M 0 17 1, i_X 1 18 (.callA (.k (.d (.fn 82 [] []))) [(.t 17)]), i_S 2 4 18 2, i_X 3 5 (.h (.mov (.k (.d (.bool true)))))] [4, 5]) .ret) (.seq (.reg [i_M 0 20 0, i_X 1 21 (.h (.ibin .eql (.t 20) (.k (.d (.int .i64 1))))), i_M 2 22 21, ⟨3, (some 23), (some (22, true)), [], [], (.h (.mov (.t 1)))⟩, ⟨4, (some 24), (some (22, true)), [], [], (.h (.ibin .geq (.t 23) (.k (.d (.int .i64 1)))))⟩, i_X 5 25 (.h (.pick (.t 22) (.t 24) (.k (.d (.bool false))))), i_M 6 26 25, ⟨7, (some 27), (some (26, true)), [], [], (.h (.mov (.t 1)))⟩, ⟨8, (some 28), (some (26, true)), [], [], (.h (.ibin .leq (.t 27) (.k (.d (.int .i64 4)))))⟩, i_X 9 29 (.h (.pick (.t 26) (.t 28) (.k (.d (.bool false))))), i_M 10 19 29] [1, 4, 19]) (.cond (.t 19) (.seq (.reg [i_M 0 30 1, i_X 1 31 (.callA (.k (.d (.fn 83 [] []))) [(.t 30)]), i_S 2 4 31 2, i_X 3 5 (.h (.mov (.k (.d (.bool true)))))] [4, 5]) .ret) .skip))))) (.seq (.reg [i_X 0 32 (.h (.build [.nil, .nil] [])), i_S 1 4 32 2, i_X 2 5 (.h (.mov (.k (.d (.bool false)))))] [4, 5]) .ret)))
theorem A_r7_Exact_comp : compF Tryz.prog 50 = some ⟨33, [(4, (some (2, true))), (5, none)], A_r7_Exact.strip⟩ := by kernel_rfl
def A_r7_Of_L0 : CA := (.seq (.seq (.reg [i_M 0 18 9, i_P 1 19 6 0, i_L 2 20 19 1, i_X 3 21 (.h (.len (.t 20))), i_X 4 22 (.h (.ibin .lss (.t 18) (.t 21)))] [6, 8, 9, 22]) (.cond (.t 22) .skip (.exit 0))) (.seq (.block 1 (.reg [i_M 0 25 8, i_P 1 26 6 0, i_L 2 27 26 1, i_M 3 28 9, i_X 4 29 (.h (.idx (.t 27) (.t 28) 1)), i_L 5 30 29 1, i_X 6 31 (.h (.i2f (.t 30))), i_P 7 32 6 1, i_L 8 33 32 1, i_M 9 34 9, i_X 10 35 (.h (.idx (.t 33) (.t 34) 1)), i_L 11 36 35 1, i_X 12 37 (.h (.i2f (.t 36))), i_X 13 38 (.h (.fbin .div (.t 31) (.t 37))), i_X 14 39 (.bslice [(.d (.flt 0))] 1 1 [(0, (1, (.t 38)))] 31), i_X 15 40 (.app (.t 25) (.t 39) 1 8), i_M 16 8 40] [6, 8, 9])) (.reg [i_M 0 23 9, i_X 1 24 (.h (.ibin .add (.t 23) (.k (.d (.int .i64 1))))), i_M 2 9 24] [6, 8, 9])))
def A_r7_Of : CA := (.seq (.reg [i_X 0 4 (.h (.mov (.k .nil))), i_X 1 5 (.h (.mov (.k (.d (.bool false)))))] [0, 1]) (.seq (.reg [i_M 0 11 0, i_M 1 12 1, i_X 2 13 (.callA (.k (.d (.fn 50 [] []))) [(.t 11), (.t 12)]), i_M 3 10 13, i_X 4 14 (.h (.ext (.t 10) 0)), i_X 5 15 (.h (.ext (.t 10) 1)), i_X 6 6 (.alloc [.nil, .nil] 86), i_S 7 6 14 2, i_M 8 7 15] [6, 7]) (.seq (.seq (.reg [i_M 0 16 7, i_X 1 17 (.h (.un .not (.t 16)))] [6, 17]) (.cond (.t 17) (.seq (.reg [i_X 0 4 (.h (.mov (.k .nil))), i_X 1 5 (.h (.mov (.k (.d (.bool false)))))] [4, 5]) .ret) .skip)) (.seq (.reg [i_X 0 8 (.h (.mov (.k .nil)))] [6, 8]) (.seq (.seq (.reg [i_X 0 9 (.h (.mov (.k (.d (.int .i64 0)))))] [6, 8, 9]) (.block 0 (.loop A_r7_Of_L0))) (.seq (.reg [i_M 0 41 8, i_M 1 4 41, i_X 2 5 (.h (.mov (.k (.d (.bool true)))))] [4, 5]) .ret))))))
theorem A_r7_Of_comp : compF Tryz.prog 25 = some ⟨42, [(4, none), (5, none)], A_r7_Of.strip⟩ := by kernel_rfl
abbrev w64 (a : Int) : Int := IntKind.i64.wrap a
def gcdF : Nat → Int → Int → Option Int
  | 0, _, _ => none
  | f + 1, a, b => if b = 0 then some a else gcdF f b (a.tmod b)
theorem gcd_L0 (a b r : Int) (f : Nat) (h : gcdF f a b = some r) (Q : Ex → T → Prop) (hQ : Q (.exit 0) ⟨[(0, fI r), (1, fI 0), (10, fB false)], []⟩) : WA Tryz.prog (fun _ => False) 16 (.loop A_r7_gcd_L0) Q ⟨[(0, fI a), (1, fI b)], []⟩ := by
  refine WA_for (n := f) (fun c s => ∃ a b, gcdF c a b = some r ∧ s = ⟨[(0, fI a), (1, fI b)], []⟩) ⟨a, b, h, rfl⟩ ?_
  rintro c s ⟨a, b, hg, rfl⟩
  cases c with
  | zero => cases hg
  | succ c =>
    simp only [gcdF] at hg
    simp -implicitDefEqProofs only [evI, hv, effC, reduceCtorEq, ↓reduceIte, n1_, n2_, n3_, n4_, n5_, i1_, i2_, i3_, i4_, i5_, i6_, i7_, A_r7_gcd_L0]
    by_cases hb : b = 0
    · subst hb
      rw [if_pos rfl] at hg
      obtain rfl := Option.some.inj hg
      simp -implicitDefEqProofs only [evI, hv, effC, reduceCtorEq, ↓reduceIte, n1_, n2_, n3_, n4_, n5_, i1_, i2_, i3_, i4_, i5_, i6_, i7_]
      exact hQ
    · rw [if_neg hb] at hg
      have h' : (b != 0) = true := by simpa using hb
      simp -implicitDefEqProofs only [evI, hv, effC, reduceCtorEq, ↓reduceIte, n1_, n2_, n3_, n4_, n5_, i1_, i2_, i3_, i4_, i5_, i6_, i7_, h']
      exact ⟨hb, c, by omega, b, _, hg, rfl⟩
set_option maxRecDepth 8000 in
theorem r7_gcd_con (a b r : Int) (f : Nat) (h : gcdF f (if a < 0 then w64 (0 - a) else a) b = some r) : Con Tryz.prog 121 [fI a, fI b] (fI r) := by
  refine Con_introA A_r7_gcd_comp rfl mixed ?_
  simp -implicitDefEqProofs only [evI, hv, effC, reduceCtorEq, ↓reduceIte, n1_, n2_, n3_, n4_, n5_, i1_, i2_, i3_, i4_, i5_, i6_, i7_, A_r7_gcd]
  by_cases ha : a < 0
  · have h' : decide (a < 0) = true := decide_eq_true ha
    rw [if_pos ha] at h
    simp -implicitDefEqProofs only [evI, hv, effC, reduceCtorEq, ↓reduceIte, n1_, n2_, n3_, n4_, n5_, i1_, i2_, i3_, i4_, i5_, i6_, i7_, h']
    refine gcd_L0 _ _ r f h _ ?_
    simp -implicitDefEqProofs only [evI, hv, effC, reduceCtorEq, ↓reduceIte, n1_, n2_, n3_, n4_, n5_, i1_, i2_, i3_, i4_, i5_, i6_, i7_]
    exact endsT_rett rfl (by decide) (by simp [look])
  · have h' : decide (a < 0) = false := decide_eq_false ha
    rw [if_neg ha] at h
    simp -implicitDefEqProofs only [evI, hv, effC, reduceCtorEq, ↓reduceIte, n1_, n2_, n3_, n4_, n5_, i1_, i2_, i3_, i4_, i5_, i6_, i7_, h']
    refine WA_le (Le.keep ⟨_, []⟩ [0, 1]) (gcd_L0 _ _ r f h _ ?_)
    simp -implicitDefEqProofs only [evI, hv, effC, reduceCtorEq, ↓reduceIte, n1_, n2_, n3_, n4_, n5_, i1_, i2_, i3_, i4_, i5_, i6_, i7_]
    exact endsT_rett rfl (by decide) (by simp [look])
def lowF (f : Nat) (n d : Int) : Option (Int × Int) :=
  if d < 0 then none else if n = 0 then some (0, 1) else
  (gcdF f (if n < 0 then w64 (0 - n) else n) d).bind fun g => if g ≤ 0 then none else some (w64 (n.tdiv g), w64 (d.tdiv g))
set_option maxRecDepth 8000 in
theorem r7_low_con (n d x y : Int) (f : Nat) (h : lowF f n d = some (x, y)) : Con Tryz.prog 107 [fI n, fI d] (.tup [fI x, fI y]) := by
  unfold lowF at h
  refine Con_introA A_r7_low_comp rfl mixed ?_
  simp -implicitDefEqProofs only [evI, hv, effC, reduceCtorEq, ↓reduceIte, n1_, n2_, n3_, n4_, n5_, i1_, i2_, i3_, i4_, i5_, i6_, i7_, A_r7_low]
  by_cases hd : d < 0
  · rw [if_pos hd] at h; cases h
  · have h' : decide (d < 0) = false := decide_eq_false hd
    rw [if_neg hd] at h
    simp -implicitDefEqProofs only [evI, hv, effC, reduceCtorEq, ↓reduceIte, n1_, n2_, n3_, n4_, n5_, i1_, i2_, i3_, i4_, i5_, i6_, i7_, h']
    by_cases hn : n = 0
    · rw [if_pos hn] at h
      obtain ⟨rfl, rfl⟩ : 0 = x ∧ 1 = y := by simpa using h
      have h2 : (n == 0) = true := by simpa using hn
      simp -implicitDefEqProofs only [evI, hv, effC, reduceCtorEq, ↓reduceIte, n1_, n2_, n3_, n4_, n5_, i1_, i2_, i3_, i4_, i5_, i6_, i7_, h2]
      exact endsT_only (fun _ => false) (fun _ h => h) ⟨_, _, resV_tmpI (t := 4) (by decide) rfl, resV_tmpI (t := 5) (by decide) rfl, rfl⟩ rfl (by simp [KpS_cons, KpS_nil, KpH_cons, KpH_nil, KpF_cons, KpF_nil, KpF_rows, KpA_cons, KpA_nil, KpA_app, KpA_rowV, KpA_rowIV, KpA_dcells, KpA_outC, Kp_any, Kp_nilv, Kp_d, Kp_ptr, Kp_sl, Kp_agg, Kp_tup, Kp_fn, get_cons, get_nil]) (by simp [KpS_cons, KpS_nil, KpH_cons, KpH_nil, KpF_cons, KpF_nil, KpF_rows, KpA_cons, KpA_nil, KpA_app, KpA_rowV, KpA_rowIV, KpA_dcells, KpA_outC, Kp_any, Kp_nilv, Kp_d, Kp_ptr, Kp_sl, Kp_agg, Kp_tup, Kp_fn, get_cons, get_nil])
    · rw [if_neg hn] at h
      have h2 : (n == 0) = false := by simpa using hn
      simp -implicitDefEqProofs only [evI, hv, effC, reduceCtorEq, ↓reduceIte, n1_, n2_, n3_, n4_, n5_, i1_, i2_, i3_, i4_, i5_, i6_, i7_, h2]
      obtain ⟨g, hg, h3⟩ := Option.bind_eq_some_iff.1 h
      first | refine callG_con (r7_gcd_con n d g f hg) rfl ?_ | refine callCG_con (r7_gcd_con n d g f hg) rfl ?_ | refine callSG_con (r7_gcd_con n d g f hg) rfl ?_
      split at h3
      · cases h3
      · rename_i hg0
        obtain ⟨rfl, rfl⟩ : w64 (n.tdiv g) = x ∧ w64 (d.tdiv g) = y := by simpa using h3
        have h4 : decide (g < 0) = false := by simp; omega
        simp -implicitDefEqProofs only [evI, hv, effC, reduceCtorEq, ↓reduceIte, n1_, n2_, n3_, n4_, n5_, i1_, i2_, i3_, i4_, i5_, i6_, i7_, h4]
        refine ⟨by omega, by omega, ?_⟩
        exact endsT_only (fun _ => false) (fun _ h => h) ⟨_, _, resV_tmpI (t := 4) (by decide) rfl, resV_tmpI (t := 5) (by decide) rfl, rfl⟩ rfl (by simp [KpS_cons, KpS_nil, KpH_cons, KpH_nil, KpF_cons, KpF_nil, KpF_rows, KpA_cons, KpA_nil, KpA_app, KpA_rowV, KpA_rowIV, KpA_dcells, KpA_outC, Kp_any, Kp_nilv, Kp_d, Kp_ptr, Kp_sl, Kp_agg, Kp_tup, Kp_fn, get_cons, get_nil]) (by simp [KpS_cons, KpS_nil, KpH_cons, KpH_nil, KpF_cons, KpF_nil, KpF_rows, KpA_cons, KpA_nil, KpA_app, KpA_rowV, KpA_rowIV, KpA_dcells, KpA_outC, Kp_any, Kp_nilv, Kp_d, Kp_ptr, Kp_sl, Kp_agg, Kp_tup, Kp_fn, get_cons, get_nil])
/-- A row of whole numbers, each with what the one ahead brings. -/
def prodJ (i : Int) (p : List Int) : Nat → List Int
  | 0 => List.replicate (p.length + 1) 0
  | j + 1 => let q := prodJ i p j; let q1 := q.set j (w64 (q.getD j 0 + w64 (i * p.getD j 0))); q1.set (j + 1) (w64 (q1.getD (j + 1) 0 + p.getD j 0))
def prodP : Nat → List Int
  | 0 => [1]
  | i + 1 => prodJ ((i + 1 : Nat) : Int) (prodP i) (prodP i).length
theorem prodJ_len (i : Int) (p : List Int) (j : Nat) : (prodJ i p j).length = p.length + 1 := by
  induction j with
  | zero => simp [prodJ]
  | succ j ih => simp [prodJ, ih]
theorem prodP_len (i : Nat) : (prodP i).length = i + 1 := by
  induction i with
  | zero => rfl
  | succ i ih => simp only [prodP, prodJ_len, ih]
theorem getD_map_fI (xs : List Int) (j : Nat) (h : j < xs.length) : (rowIV xs).getD j .any = fI (xs.getD j 0) := by
  simp [rowIV, List.getD_eq_getElem?_getD, h]
set_option maxRecDepth 8000 in
theorem r7_product_ac (z : Int) (k : Nat) (hz : z = k) (hk : k < 2 ^ 20) : AC Tryz.prog 106 [fI z] [] [(0, [rowIV (prodP k)])] (.sl 0 0 0 (k + 1) 1 (k + 1)) := by
  subst hz
  refine AC_introA A_r7_product_comp rfl mixed (fun _ => False) (by simp [get_nil]) ?_
  simp -implicitDefEqProofs only [evI, hv, effC, reduceCtorEq, ↓reduceIte, n1_, n2_, n3_, n4_, n5_, i1_, i2_, i3_, i4_, i5_, i6_, i7_, A_r7_product]
  refine WA_forW (n := k) (fun c s => ∃ i, c + i = k ∧ s = ⟨[(0, fI k), (3, .sl 0 0 0 (i + 1) 1 (i + 1)), (4, fI (i + 1 : Nat))], [(0, [rowIV (prodP i)])]⟩) (Le.refl _) ⟨0, by omega, rfl⟩ ?_
  rintro c s ⟨i, hc, rfl⟩
  have hl := prodP_len i
  simp -implicitDefEqProofs only [evI, hv, effC, reduceCtorEq, ↓reduceIte, n1_, n2_, n3_, n4_, n5_, i1_, i2_, i3_, i4_, i5_, i6_, i7_, A_r7_product_L0]
  refine condC_intro (fun h => ?_) (fun h => ?_)
  · replace h := of_decide_eq_true h
    have w1 : IntKind.i64.wrap (((i + 1 : Nat) : Int) + 1) = ((i + 2 : Nat) : Int) := by rw [wrapI (by omega) (by omega)]; omega
    simp -implicitDefEqProofs only [evI, hv, effC, reduceCtorEq, ↓reduceIte, n1_, n2_, n3_, n4_, n5_, i1_, i2_, i3_, i4_, i5_, i6_, i7_, w1]
    (repeat (with_reducible refine And.intro (by omega) ?_))
    have hp : prodP (i + 1) = prodJ ((i + 1 : Nat) : Int) (prodP i) (i + 1) := by simp only [prodP]; rw [hl]
    generalize prodP i = p at hl hp
    have e0 : rowIV (List.replicate (i + 2) 0) = rowIV (prodJ ((i + 1 : Nat) : Int) p 0) := by simp [prodJ, hl]
    refine WA_for (n := i + 1) (fun c s => ∃ j, c + j = i + 1 ∧ s = ⟨[(0, fI k), (3, .sl 0 0 0 (i + 1) 1 (i + 1)), (4, fI (i + 1 : Nat)), (5, .sl 4 0 0 (i + 2) 1 (i + 2)), (6, fI j)], [(4, [rowIV (prodJ ((i + 1 : Nat) : Int) p j)]), (0, [rowIV p])]⟩) ⟨0, by omega, by rw [← e0]; rfl⟩ ?_
    rintro c' s ⟨j, hc', rfl⟩
    have hjl := prodJ_len ((i + 1 : Nat) : Int) p j
    simp -implicitDefEqProofs only [evI, hv, effC, reduceCtorEq, ↓reduceIte, n1_, n2_, n3_, n4_, n5_, i1_, i2_, i3_, i4_, i5_, i6_, i7_, A_r7_product_L1]
    refine condC_intro (fun hj => ?_) (fun hj => ?_)
    · replace hj := of_decide_eq_true hj
      have w2 : IntKind.i64.wrap ((j : Int) + 1) = ((j + 1 : Nat) : Int) := by rw [wrapI (by omega) (by omega)]; omega
      have hnx : prodJ ((i + 1 : Nat) : Int) p (j + 1) = _ := rfl
      generalize hq : prodJ ((i + 1 : Nat) : Int) p j = q at hjl
      have hq1 : (q.set j (w64 (q.getD j 0 + w64 (((i + 1 : Nat) : Int) * p.getD j 0)))).length = p.length + 1 := by rw [List.length_set]; exact hjl
      have g3 : (rowIV (q.set j (IntKind.i64.wrap (q.getD j 0 + IntKind.i64.wrap (((i + 1 : Nat) : Int) * p.getD j 0))))).getD (j + 1) .any = fI ((q.set j (w64 (q.getD j 0 + w64 (((i + 1 : Nat) : Int) * p.getD j 0)))).getD (j + 1) 0) := getD_map_fI _ _ (by rw [List.length_set]; omega)
      have hx : prodJ ((i + 1 : Nat) : Int) p (j + 1) = (q.set j (w64 (q.getD j 0 + w64 (((i + 1 : Nat) : Int) * p.getD j 0)))).set (j + 1) (w64 ((q.set j (w64 (q.getD j 0 + w64 (((i + 1 : Nat) : Int) * p.getD j 0)))).getD (j + 1) 0 + p.getD j 0)) := by rw [← hq]; rfl
      simp -implicitDefEqProofs only [evI, hv, effC, reduceCtorEq, ↓reduceIte, n1_, n2_, n3_, n4_, n5_, i1_, i2_, i3_, i4_, i5_, i6_, i7_, w2, getD_map_fI q j (by omega), getD_map_fI p j (by omega), g3]
      (repeat (with_reducible refine And.intro (by omega) ?_))
      refine ⟨c' - 1, by omega, j + 1, by omega, ?_⟩
      rw [hx]
    · replace hj := of_decide_eq_false hj
      have e : j = i + 1 := by omega
      subst e
      simp -implicitDefEqProofs only [evI, hv, effC, reduceCtorEq, ↓reduceIte, n1_, n2_, n3_, n4_, n5_, i1_, i2_, i3_, i4_, i5_, i6_, i7_]
      rw [wrapI (by omega) (by omega)]
      rw [← hp] at *
      refine ⟨c - 1, _, by omega, ?_, i + 1, by omega, rfl⟩
      refine Le.trans (LeT.only (L' := [(4, [rowIV (prodP (i + 1))])]) (fun X => X == 4) (fun _ h => h) rfl (by simp [KpS_cons, KpS_nil, KpH_cons, KpH_nil, KpF_cons, KpF_nil, KpF_rows, KpA_cons, KpA_nil, KpA_app, KpA_rowV, KpA_rowIV, KpA_dcells, KpA_outC, Kp_any, Kp_nilv, Kp_d, Kp_ptr, Kp_sl, Kp_agg, Kp_tup, Kp_fn, get_cons, get_nil]) (by simp [KpS_cons, KpS_nil, KpH_cons, KpH_nil, KpF_cons, KpF_nil, KpF_rows, KpA_cons, KpA_nil, KpA_app, KpA_rowV, KpA_rowIV, KpA_dcells, KpA_outC, Kp_any, Kp_nilv, Kp_d, Kp_ptr, Kp_sl, Kp_agg, Kp_tup, Kp_fn, get_cons, get_nil])) ?_
      exact LeT.move (Y := 4) (cells := rowIV (prodP (i + 1))) 0 (by decide) (by simp [fam_nil]) (by simp [fam_nil]) (fun h => h) |>.trans (by
        have e1 : renS (absF 4 0 0) [(0, fI k), (3, .sl 4 0 0 (i + 2) 1 (i + 2)), (4, fI ((i + 1 : Nat) + 1 : Int))] = [(0, fI k), (3, .sl 0 0 0 (i + 1 + 1) 1 (i + 1 + 1)), (4, fI (i + 1 + 1 : Nat))] := by
          simp [renS, V.ren, absF]
        rw [e1, ren_rowIV]
        exact Le.refl _)
  · replace h := of_decide_eq_false h
    have e : i = k := by omega
    subst e
    simp -implicitDefEqProofs only [evI, hv, effC, reduceCtorEq, ↓reduceIte, n1_, n2_, n3_, n4_, n5_, i1_, i2_, i3_, i4_, i5_, i6_, i7_]
    exact endsT_only (fun X => X == 0) (fun _ h => h) (resV_tmpI (t := 2) (by decide) rfl) rfl (by simp [KpS_cons, KpS_nil, KpH_cons, KpH_nil, KpF_cons, KpF_nil, KpF_rows, KpA_cons, KpA_nil, KpA_app, KpA_rowV, KpA_rowIV, KpA_dcells, KpA_outC, Kp_any, Kp_nilv, Kp_d, Kp_ptr, Kp_sl, Kp_agg, Kp_tup, Kp_fn, get_cons, get_nil]) (by simp [KpS_cons, KpS_nil, KpH_cons, KpH_nil, KpF_cons, KpF_nil, KpF_rows, KpA_cons, KpA_nil, KpA_app, KpA_rowV, KpA_rowIV, KpA_dcells, KpA_outC, Kp_any, Kp_nilv, Kp_d, Kp_ptr, Kp_sl, Kp_agg, Kp_tup, Kp_fn, get_cons, get_nil])
theorem r7_product_con (z : Int) (k : Nat) (hz : z = k) (hk : k < 2 ^ 20) : Con Tryz.prog 106 [fI z] (.d (rowI (prodP k))) :=
  Con_of_AC (r7_product_ac z k hz hk) (.d (snap_rowI (fun Y q h => by simp [get_nil] at h) (by simp [get_cons]) (prodP_len k) rfl))
end Go.Ab

namespace Go.Ab
set_option linter.unusedSimpArgs false
set_option linter.unusedVariables false
open Nat renaming reduceEqDiff → n1_, reduceAdd → n2_, reduceMul → n3_, reduceLT → n4_, reduceLeDiff → n5_
open Int renaming reduceToNat → i1_, reduceAdd → i2_, reduceSub → i3_, reduceMul → i4_, reduceNeg → i5_, reduceLT → i6_, reduceLE → i7_
open Go Go.Proofs
abbrev AdT := List Int × List Int × Int × Int
def adStep (p : List Int) (k : Nat) (s : AdT) : Option AdT :=
  (lowF 64 (p.getD k 0) (w64 (p.getD 0 0 * ((k + 1 : Nat) : Int)))).bind fun ab =>
    (lowF 64 (w64 (w64 (s.2.2.1 * ab.2) + w64 (w64 ((if (k + 1) % 2 = 1 then -1 else 1) * ab.1) * s.2.2.2))) (w64 (s.2.2.2 * ab.2))).map fun nd => (s.1 ++ [ab.1], s.2.1 ++ [ab.2], nd.1, nd.2)
def adS (p : List Int) : Nat → Option AdT
  | 0 => some ([0], [1], 0, 1)
  | k + 1 => (adS p k).bind (adStep p k)
theorem adS_prev (p : List Int) (k : Nat) : ∀ d s, adS p (k + d) = some s → ∃ s', adS p k = some s'
  | 0, s, h => ⟨s, h⟩
  | d + 1, s, h => by
    obtain ⟨s1, h1, _⟩ := Option.bind_eq_some_iff.1 (show (adS p (k + d)).bind (adStep p (k + d)) = some s from h)
    exact adS_prev p k d s1 h1
theorem adS_len (p : List Int) (k : Nat) : ∀ s, adS p k = some s → s.1.length = k + 1 ∧ s.2.1.length = k + 1 := by
  induction k with
  | zero => intro s h; simp only [adS, Option.some.injEq] at h; subst h; exact ⟨rfl, rfl⟩
  | succ k ih =>
    intro s h
    obtain ⟨s1, h1, h2⟩ := Option.bind_eq_some_iff.1 (show (adS p k).bind (adStep p k) = some s from h)
    obtain ⟨a, b⟩ := ih s1 h1
    simp only [adStep, Option.bind_eq_some_iff, Option.map_eq_some_iff] at h2
    obtain ⟨ab, _, nd, _, rfl⟩ := h2
    exact ⟨by simp [a], by simp [b]⟩
theorem tmod2 (n : Nat) : ((n : Nat) : Int).tmod 2 = ((n % 2 : Nat) : Int) := rfl
set_option maxRecDepth 8000 in
theorem r7_adams_con (z : Int) (o : Nat) (hz : z = (o + 1 : Nat)) (ho : o < 2 ^ 20) (N E : List Int) (n d x y : Int) (h : adS (prodP o) (o + 1) = some (N, E, n, d)) (hl : lowF 64 (w64 (0 - n)) d = some (x, y)) :
    Con Tryz.prog 82 [fI z] (.agg [.d (rowI (N.set 0 x)), .d (rowI (E.set 0 y))]) := by
  subst hz
  refine Con_introA A_r7_adams_comp rfl mixed ?_
  simp -implicitDefEqProofs only [evI, hv, effC, reduceCtorEq, ↓reduceIte, n1_, n2_, n3_, n4_, n5_, i1_, i2_, i3_, i4_, i5_, i6_, i7_, A_r7_adams]
  have w1 : IntKind.i64.wrap (((o + 1 : Nat) : Int) - 1) = (o : Int) := by rw [wrapI (by omega) (by omega)]; omega
  simp -implicitDefEqProofs only [evI, hv, effC, reduceCtorEq, ↓reduceIte, n1_, n2_, n3_, n4_, n5_, i1_, i2_, i3_, i4_, i5_, i6_, i7_, w1]
  first | refine callG_con (r7_product_con (o : Int) o rfl (by omega)) rfl ?_ | refine callCG_con (r7_product_con (o : Int) o rfl (by omega)) rfl ?_ | refine callSG_con (r7_product_con (o : Int) o rfl (by omega)) rfl ?_
  have hp := prodP_len o
  generalize prodP o = p at hp h
  simp -implicitDefEqProofs only [evI, hv, effC, reduceCtorEq, ↓reduceIte, n1_, n2_, n3_, n4_, n5_, i1_, i2_, i3_, i4_, i5_, i6_, i7_]
  refine WA_forW (n := o + 1) (fun c s => ∃ k N' E' n' d', c + k = o + 1 ∧ adS p k = some (N', E', n', d') ∧ s = ⟨[(0, fI (o + 1 : Nat)), (2, .ptr 0 0 0 2), (3, .d (rowI p)), (4, .ptr 1 0 0 2), (5, fI n'), (6, fI d'), (7, fI (k + 1 : Nat))],
      [(9, [rowIV E']), (5, [rowIV N']), (1, [[.sl 5 0 0 (k + 1) 1 (k + 1), .sl 9 0 0 (k + 1) 1 (k + 1)]]), (0, [[.nil, .nil]])]⟩) (s0 := ⟨_, _⟩) (LeT.only (fun X => X != 8 && X != 4) (fun _ h => h) rfl (by simp [KpS_cons, KpS_nil, KpH_cons, KpH_nil, KpF_cons, KpF_nil, KpF_rows, KpA_cons, KpA_nil, KpA_app, KpA_rowV, KpA_rowIV, KpA_dcells, KpA_outC, Kp_any, Kp_nilv, Kp_d, Kp_ptr, Kp_sl, Kp_agg, Kp_tup, Kp_fn, get_cons, get_nil]) (by simp [KpS_cons, KpS_nil, KpH_cons, KpH_nil, KpF_cons, KpF_nil, KpF_rows, KpA_cons, KpA_nil, KpA_app, KpA_rowV, KpA_rowIV, KpA_dcells, KpA_outC, Kp_any, Kp_nilv, Kp_d, Kp_ptr, Kp_sl, Kp_agg, Kp_tup, Kp_fn, get_cons, get_nil])) ⟨0, _, _, _, _, by omega, rfl, rfl⟩ ?_
  rintro c s ⟨k, N', E', n', d', hc, hs, rfl⟩
  obtain ⟨l1, l2⟩ := adS_len p k _ hs
  simp only at l1 l2
  simp -implicitDefEqProofs only [evI, hv, effC, reduceCtorEq, ↓reduceIte, n1_, n2_, n3_, n4_, n5_, i1_, i2_, i3_, i4_, i5_, i6_, i7_, A_r7_adams_L0]
  refine condC_intro (fun hk => ?_) (fun hk => ?_)
  · replace hk := of_decide_eq_true hk
    obtain ⟨⟨N2, E2, n2, d2⟩, hs2⟩ := adS_prev p (k + 1) (o - k) _ (by rw [show k + 1 + (o - k) = o + 1 by omega]; exact h)
    have hst : adStep p k (N', E', n', d') = some (N2, E2, n2, d2) := by
      have : (adS p k).bind (adStep p k) = some (N2, E2, n2, d2) := hs2
      rw [hs] at this; exact this
    simp only [adStep, Option.bind_eq_some_iff, Option.map_eq_some_iff] at hst
    obtain ⟨⟨a, b⟩, hab, ⟨n3, d3⟩, hnd, e⟩ := hst
    simp only [Prod.mk.injEq] at e
    obtain ⟨rfl, rfl, rfl, rfl⟩ := e
    have w2 : IntKind.i64.wrap (((k + 1 : Nat) : Int) - 1) = (k : Int) := by rw [wrapI (by omega) (by omega)]; omega
    simp -implicitDefEqProofs only [evI, hv, effC, reduceCtorEq, ↓reduceIte, n1_, n2_, n3_, n4_, n5_, i1_, i2_, i3_, i4_, i5_, i6_, i7_, w2]
    (repeat (with_reducible refine And.intro (by omega) ?_))
    first | refine callG_con (r7_low_con (p.getD k 0) (w64 (p.getD 0 0 * ((k + 1 : Nat) : Int))) a b 64 hab) rfl ?_ | refine callCG_con (r7_low_con (p.getD k 0) (w64 (p.getD 0 0 * ((k + 1 : Nat) : Int))) a b 64 hab) rfl ?_ | refine callSG_con (r7_low_con (p.getD k 0) (w64 (p.getD 0 0 * ((k + 1 : Nat) : Int))) a b 64 hab) rfl ?_
    simp -implicitDefEqProofs only [evI, hv, effC, reduceCtorEq, ↓reduceIte, n1_, n2_, n3_, n4_, n5_, i1_, i2_, i3_, i4_, i5_, i6_, i7_]
    (repeat (with_reducible refine And.intro (by omega) ?_))
    simp only [] at hnd
    have e1 : rowIV N' ++ [fI a] = rowIV (N' ++ [a]) := by simp [rowIV]
    have e2 : rowIV E' ++ [fI b] = rowIV (E' ++ [b]) := by simp [rowIV]
    by_cases h2 : (k + 1) % 2 = 1
    · have h' : (((k + 1 : Nat) : Int).tmod 2 == 1) = true := by rw [tmod2]; simp; omega
      rw [if_pos h2] at hnd
      simp -implicitDefEqProofs only [evI, hv, effC, reduceCtorEq, ↓reduceIte, n1_, n2_, n3_, n4_, n5_, i1_, i2_, i3_, i4_, i5_, i6_, i7_, h']
      first | refine callG_con (r7_low_con (w64 (w64 (n' * b) + w64 (w64 (-1 * a) * d'))) (w64 (d' * b)) n3 d3 64 hnd) rfl ?_ | refine callCG_con (r7_low_con (w64 (w64 (n' * b) + w64 (w64 (-1 * a) * d'))) (w64 (d' * b)) n3 d3 64 hnd) rfl ?_ | refine callSG_con (r7_low_con (w64 (w64 (n' * b) + w64 (w64 (-1 * a) * d'))) (w64 (d' * b)) n3 d3 64 hnd) rfl ?_
      simp -implicitDefEqProofs only [evI, hv, effC, reduceCtorEq, ↓reduceIte, n1_, n2_, n3_, n4_, n5_, i1_, i2_, i3_, i4_, i5_, i6_, i7_]
      rw [wrapI (by omega) (by omega)]
      rw [e1, e2]
      exact ⟨c - 1, _, by omega, LeT.only (fun X => decide (X ≤ 5) || X == 9) (fun _ h => h) rfl (by simp [KpS_cons, KpS_nil, KpH_cons, KpH_nil, KpF_cons, KpF_nil, KpF_rows, KpA_cons, KpA_nil, KpA_app, KpA_rowV, KpA_rowIV, KpA_dcells, KpA_outC, Kp_any, Kp_nilv, Kp_d, Kp_ptr, Kp_sl, Kp_agg, Kp_tup, Kp_fn, get_cons, get_nil]) (by simp [KpS_cons, KpS_nil, KpH_cons, KpH_nil, KpF_cons, KpF_nil, KpF_rows, KpA_cons, KpA_nil, KpA_app, KpA_rowV, KpA_rowIV, KpA_dcells, KpA_outC, Kp_any, Kp_nilv, Kp_d, Kp_ptr, Kp_sl, Kp_agg, Kp_tup, Kp_fn, get_cons, get_nil]), k + 1, _, _, _, _, by omega, hs2, rfl⟩
    · have h' : (((k + 1 : Nat) : Int).tmod 2 == 1) = false := by rw [tmod2]; simp; omega
      rw [if_neg h2] at hnd
      simp -implicitDefEqProofs only [evI, hv, effC, reduceCtorEq, ↓reduceIte, n1_, n2_, n3_, n4_, n5_, i1_, i2_, i3_, i4_, i5_, i6_, i7_, h']
      first | refine callG_con (r7_low_con (w64 (w64 (n' * b) + w64 (w64 (1 * a) * d'))) (w64 (d' * b)) n3 d3 64 hnd) rfl ?_ | refine callCG_con (r7_low_con (w64 (w64 (n' * b) + w64 (w64 (1 * a) * d'))) (w64 (d' * b)) n3 d3 64 hnd) rfl ?_ | refine callSG_con (r7_low_con (w64 (w64 (n' * b) + w64 (w64 (1 * a) * d'))) (w64 (d' * b)) n3 d3 64 hnd) rfl ?_
      simp -implicitDefEqProofs only [evI, hv, effC, reduceCtorEq, ↓reduceIte, n1_, n2_, n3_, n4_, n5_, i1_, i2_, i3_, i4_, i5_, i6_, i7_]
      rw [wrapI (by omega) (by omega)]
      rw [e1, e2]
      exact ⟨c - 1, _, by omega, LeT.only (fun X => decide (X ≤ 5) || X == 9) (fun _ h => h) rfl (by simp [KpS_cons, KpS_nil, KpH_cons, KpH_nil, KpF_cons, KpF_nil, KpF_rows, KpA_cons, KpA_nil, KpA_app, KpA_rowV, KpA_rowIV, KpA_dcells, KpA_outC, Kp_any, Kp_nilv, Kp_d, Kp_ptr, Kp_sl, Kp_agg, Kp_tup, Kp_fn, get_cons, get_nil]) (by simp [KpS_cons, KpS_nil, KpH_cons, KpH_nil, KpF_cons, KpF_nil, KpF_rows, KpA_cons, KpA_nil, KpA_app, KpA_rowV, KpA_rowIV, KpA_dcells, KpA_outC, Kp_any, Kp_nilv, Kp_d, Kp_ptr, Kp_sl, Kp_agg, Kp_tup, Kp_fn, get_cons, get_nil]), k + 1, _, _, _, _, by omega, hs2, rfl⟩
  · replace hk := of_decide_eq_false hk
    have e : k = o + 1 := by omega
    subst e
    rw [h] at hs
    simp only [Option.some.injEq, Prod.mk.injEq] at hs
    obtain ⟨rfl, rfl, rfl, rfl⟩ := hs
    simp -implicitDefEqProofs only [evI, hv, effC, reduceCtorEq, ↓reduceIte, n1_, n2_, n3_, n4_, n5_, i1_, i2_, i3_, i4_, i5_, i6_, i7_]
    first | refine callG_con (r7_low_con (w64 (0 - n)) d x y 64 hl) rfl ?_ | refine callCG_con (r7_low_con (w64 (0 - n)) d x y 64 hl) rfl ?_ | refine callSG_con (r7_low_con (w64 (0 - n)) d x y 64 hl) rfl ?_
    simp -implicitDefEqProofs only [evI, hv, effC, reduceCtorEq, ↓reduceIte, n1_, n2_, n3_, n4_, n5_, i1_, i2_, i3_, i4_, i5_, i6_, i7_]
    (repeat (with_reducible refine And.intro (by omega) ?_))
    have hz1 : ∀ L L' : Heap, L.get 5 0 = some (rowIV (N.set 0 x)) → L'.fam 5 = none → Fz L L' (.sl 5 0 0 (o + 1 + 1) 1 (o + 1 + 1)) (.d (rowI (N.set 0 x))) := fun L L' a b => Fz_rowN a (by rw [List.length_set]; exact l1) rfl b
    have hz2 : ∀ L L' : Heap, L.get 9 0 = some (rowIV (E.set 0 y)) → L'.fam 9 = none → Fz L L' (.sl 9 0 0 (o + 1 + 1) 1 (o + 1 + 1)) (.d (rowI (E.set 0 y))) := fun L L' a b => Fz_rowN a (by rw [List.length_set]; exact l2) rfl b
    have e3 : D.bor N.length (rowIG (N.set 0 x)) = rowI (N.set 0 x) := by unfold rowI; rw [List.length_set]
    have e4 : D.bor E.length (rowIG (E.set 0 y)) = rowI (E.set 0 y) := by unfold rowI; rw [List.length_set]
    rw [e3, e4]
    exact endsT_le (.agg [.sl 5 0 0 (o + 1 + 1) 1 (o + 1 + 1), .sl 9 0 0 (o + 1 + 1) 1 (o + 1 + 1)]) (fun _ h => h) (resV_cellI (by decide) rfl rfl rfl (by simp) rfl) (Fz_agg _ _ ⟨hz1 _ _ (by simp [get_cons]) (by simp [fam_nil]), hz2 _ _ (by simp [get_cons]) (by simp [fam_nil]), trivial⟩)
/-- Bdf's. -/
def bdS (p : List Int) : Nat → Option (List Int × List Int)
  | 0 => some ([], [])
  | k + 1 => (bdS p k).bind fun s => (lowF 64 (p.getD k 0) (p.getD 1 0)).map fun ab => (s.1 ++ [ab.1], s.2 ++ [ab.2])
theorem bdS_prev (p : List Int) (k : Nat) : ∀ d s, bdS p (k + d) = some s → ∃ s', bdS p k = some s'
  | 0, s, h => ⟨s, h⟩
  | d + 1, s, h => by
    obtain ⟨s1, h1, _⟩ := Option.bind_eq_some_iff.1 (show (bdS p (k + d)).bind _ = some s from h)
    exact bdS_prev p k d s1 h1
theorem bdS_len (p : List Int) (k : Nat) : ∀ s, bdS p k = some s → s.1.length = k ∧ s.2.length = k := by
  induction k with
  | zero => intro s h; simp only [bdS, Option.some.injEq] at h; subst h; exact ⟨rfl, rfl⟩
  | succ k ih =>
    intro s h
    obtain ⟨s1, h1, h2⟩ := Option.bind_eq_some_iff.1 (show (bdS p k).bind _ = some s from h)
    obtain ⟨a, b⟩ := ih s1 h1
    obtain ⟨ab, _, rfl⟩ := Option.map_eq_some_iff.1 h2
    exact ⟨by simp [a], by simp [b]⟩
set_option maxRecDepth 8000 in
theorem r7_bdf_con (z : Int) (o : Nat) (hz : z = (o + 1 : Nat)) (ho1 : o + 1 < 2 ^ 20) (N E : List Int) (h : bdS (prodP (o + 1)) (o + 2) = some (N, E)) :
    Con Tryz.prog 83 [fI z] (.agg [.d (rowI N), .d (rowI E)]) := by
  subst hz
  refine Con_introA A_r7_bdf_comp rfl mixed ?_
  simp -implicitDefEqProofs only [evI, hv, effC, reduceCtorEq, ↓reduceIte, n1_, n2_, n3_, n4_, n5_, i1_, i2_, i3_, i4_, i5_, i6_, i7_, A_r7_bdf]
  first | refine callG_con (r7_product_con ((o + 1 : Nat) : Int) (o + 1) rfl ho1) rfl ?_ | refine callCG_con (r7_product_con ((o + 1 : Nat) : Int) (o + 1) rfl ho1) rfl ?_ | refine callSG_con (r7_product_con ((o + 1 : Nat) : Int) (o + 1) rfl ho1) rfl ?_
  have hp := prodP_len (o + 1)
  generalize prodP (o + 1) = p at hp h
  simp -implicitDefEqProofs only [evI, hv, effC, reduceCtorEq, ↓reduceIte, n1_, n2_, n3_, n4_, n5_, i1_, i2_, i3_, i4_, i5_, i6_, i7_]
  refine WA_forW (n := o + 2) (fun c s => ∃ k N' E', c + k = o + 2 ∧ bdS p k = some (N', E') ∧ ((k = 0 ∧ s = ⟨[(0, fI (o + 1 : Nat)), (2, .ptr 0 0 0 2), (3, .d (rowI p)), (4, .ptr 1 0 0 2), (5, fI k)], [(1, [[.nil, .nil]]), (0, [[.nil, .nil]])]⟩) ∨
      (0 < k ∧ s = ⟨[(0, fI (o + 1 : Nat)), (2, .ptr 0 0 0 2), (3, .d (rowI p)), (4, .ptr 1 0 0 2), (5, fI k)], [(11, [rowIV E']), (6, [rowIV N']), (1, [[.sl 6 0 0 k 1 k, .sl 11 0 0 k 1 k]]), (0, [[.nil, .nil]])]⟩))) (Le.refl _) ⟨0, [], [], rfl, rfl, .inl ⟨rfl, rfl⟩⟩ ?_
  rintro c s ⟨k, N', E', hc, hs, ⟨rfl, rfl⟩ | ⟨hk0, rfl⟩⟩
  · simp -implicitDefEqProofs only [evI, hv, effC, reduceCtorEq, ↓reduceIte, n1_, n2_, n3_, n4_, n5_, i1_, i2_, i3_, i4_, i5_, i6_, i7_, A_r7_bdf_L0]
    obtain ⟨⟨N2, E2⟩, hs2⟩ := bdS_prev p (0 + 1) (o + 2 - (0 + 1)) _ (by rw [show 0 + 1 + (o + 2 - (0 + 1)) = o + 2 by omega]; exact h)
    have hst := hs2
    rw [show bdS p (0 + 1) = (bdS p 0).bind fun s => (lowF 64 (p.getD 0 0) (p.getD 1 0)).map fun ab => (s.1 ++ [ab.1], s.2 ++ [ab.2]) from rfl, hs] at hst
    simp only [Option.bind_some, Option.map_eq_some_iff] at hst
    obtain ⟨⟨a, b⟩, hab, e⟩ := hst
    simp only [Prod.mk.injEq] at e
    obtain ⟨rfl, rfl⟩ := e
    (repeat (with_reducible refine And.intro (by omega) ?_))
    first | refine callG_con (r7_low_con (p.getD 0 0) (p.getD 1 0) a b 64 hab) rfl ?_ | refine callCG_con (r7_low_con (p.getD 0 0) (p.getD 1 0) a b 64 hab) rfl ?_ | refine callSG_con (r7_low_con (p.getD 0 0) (p.getD 1 0) a b 64 hab) rfl ?_
    simp -implicitDefEqProofs only [evI, hv, effC, reduceCtorEq, ↓reduceIte, n1_, n2_, n3_, n4_, n5_, i1_, i2_, i3_, i4_, i5_, i6_, i7_]
    obtain ⟨rfl, rfl⟩ : [] = N' ∧ [] = E' := by simpa [bdS] using hs
    rw [show IntKind.i64.wrap 1 = ((0 + 1 : Nat) : Int) from by decide]
    exact ⟨c - 1, _, by omega, LeT.only (fun X => X != 10 && X != 5) (fun _ h => h) rfl (by simp [KpS_cons, KpS_nil, KpH_cons, KpH_nil, KpF_cons, KpF_nil, KpF_rows, KpA_cons, KpA_nil, KpA_app, KpA_rowV, KpA_rowIV, KpA_dcells, KpA_outC, Kp_any, Kp_nilv, Kp_d, Kp_ptr, Kp_sl, Kp_agg, Kp_tup, Kp_fn, get_cons, get_nil]) (by simp [KpS_cons, KpS_nil, KpH_cons, KpH_nil, KpF_cons, KpF_nil, KpF_rows, KpA_cons, KpA_nil, KpA_app, KpA_rowV, KpA_rowIV, KpA_dcells, KpA_outC, Kp_any, Kp_nilv, Kp_d, Kp_ptr, Kp_sl, Kp_agg, Kp_tup, Kp_fn, get_cons, get_nil]), 0 + 1, _, _, by omega, hs2, .inr ⟨by omega, rfl⟩⟩
  · obtain ⟨l1, l2⟩ := bdS_len p k _ hs
    simp only at l1 l2
    simp -implicitDefEqProofs only [evI, hv, effC, reduceCtorEq, ↓reduceIte, n1_, n2_, n3_, n4_, n5_, i1_, i2_, i3_, i4_, i5_, i6_, i7_, A_r7_bdf_L0]
    refine condC_intro (fun hk => ?_) (fun hk => ?_)
    · replace hk := of_decide_eq_true hk
      simp -implicitDefEqProofs only [evI, hv, effC, reduceCtorEq, ↓reduceIte, n1_, n2_, n3_, n4_, n5_, i1_, i2_, i3_, i4_, i5_, i6_, i7_]
      obtain ⟨⟨N2, E2⟩, hs2⟩ := bdS_prev p (k + 1) (o + 2 - (k + 1)) _ (by rw [show k + 1 + (o + 2 - (k + 1)) = o + 2 by omega]; exact h)
      have hst := hs2
      rw [show bdS p (k + 1) = (bdS p k).bind fun s => (lowF 64 (p.getD k 0) (p.getD 1 0)).map fun ab => (s.1 ++ [ab.1], s.2 ++ [ab.2]) from rfl, hs] at hst
      simp only [Option.bind_some, Option.map_eq_some_iff] at hst
      obtain ⟨⟨a, b⟩, hab, e⟩ := hst
      simp only [Prod.mk.injEq] at e
      obtain ⟨rfl, rfl⟩ := e
      (repeat (with_reducible refine And.intro (by omega) ?_))
      first | refine callG_con (r7_low_con (p.getD k 0) (p.getD 1 0) a b 64 hab) rfl ?_ | refine callCG_con (r7_low_con (p.getD k 0) (p.getD 1 0) a b 64 hab) rfl ?_ | refine callSG_con (r7_low_con (p.getD k 0) (p.getD 1 0) a b 64 hab) rfl ?_
      simp -implicitDefEqProofs only [evI, hv, effC, reduceCtorEq, ↓reduceIte, n1_, n2_, n3_, n4_, n5_, i1_, i2_, i3_, i4_, i5_, i6_, i7_]
      (repeat (with_reducible refine And.intro (by omega) ?_))
      have e1 : rowIV N' ++ [fI a] = rowIV (N' ++ [a]) := by simp [rowIV]
      have e2 : rowIV E' ++ [fI b] = rowIV (E' ++ [b]) := by simp [rowIV]
      rw [wrapI (by omega) (by omega), e1, e2]
      exact ⟨c - 1, _, by omega, LeT.only (fun X => decide (X ≤ 6) || X == 11) (fun _ h => h) rfl (by simp [KpS_cons, KpS_nil, KpH_cons, KpH_nil, KpF_cons, KpF_nil, KpF_rows, KpA_cons, KpA_nil, KpA_app, KpA_rowV, KpA_rowIV, KpA_dcells, KpA_outC, Kp_any, Kp_nilv, Kp_d, Kp_ptr, Kp_sl, Kp_agg, Kp_tup, Kp_fn, get_cons, get_nil]) (by simp [KpS_cons, KpS_nil, KpH_cons, KpH_nil, KpF_cons, KpF_nil, KpF_rows, KpA_cons, KpA_nil, KpA_app, KpA_rowV, KpA_rowIV, KpA_dcells, KpA_outC, Kp_any, Kp_nilv, Kp_d, Kp_ptr, Kp_sl, Kp_agg, Kp_tup, Kp_fn, get_cons, get_nil]), k + 1, _, _, by omega, hs2, .inr ⟨by omega, rfl⟩⟩
    · replace hk := of_decide_eq_false hk
      have e : k = o + 2 := by omega
      subst e
      rw [h] at hs
      simp only [Option.some.injEq, Prod.mk.injEq] at hs
      obtain ⟨rfl, rfl⟩ := hs
      simp -implicitDefEqProofs only [evI, hv, effC, reduceCtorEq, ↓reduceIte, n1_, n2_, n3_, n4_, n5_, i1_, i2_, i3_, i4_, i5_, i6_, i7_]
      have hz1 : ∀ L L' : Heap, L.get 6 0 = some (rowIV N) → L'.fam 6 = none → Fz L L' (.sl 6 0 0 (o + 2) 1 (o + 2)) (.d (rowI N)) := fun L L' a b => Fz_rowN a l1 rfl b
      have hz2 : ∀ L L' : Heap, L.get 11 0 = some (rowIV E) → L'.fam 11 = none → Fz L L' (.sl 11 0 0 (o + 2) 1 (o + 2)) (.d (rowI E)) := fun L L' a b => Fz_rowN a l2 rfl b
      exact endsT_le (.agg [.sl 6 0 0 (o + 2) 1 (o + 2), .sl 11 0 0 (o + 2) 1 (o + 2)]) (fun _ h => h) (resV_cellI (by decide) rfl rfl rfl (by simp) rfl) (Fz_agg _ _ ⟨hz1 _ _ (by simp [get_cons]) (by simp [fam_nil]), hz2 _ _ (by simp [get_cons]) (by simp [fam_nil]), trivial⟩)
/-- The row of a method and an order, as fractions. -/
def exS (m : Int) (q : Nat) : Option (List Int × List Int) :=
  if m = 0 then (adS (prodP (q - 1)) q).bind fun s => (lowF 64 (w64 (0 - s.2.2.1)) s.2.2.2).map fun xy => (s.1.set 0 xy.1, s.2.1.set 0 xy.2)
  else bdS (prodP q) (q + 1)
set_option maxRecDepth 8000 in
theorem r7_Exact_con (m : Int) (q : Nat) (hm : (m = 0 ∧ 1 ≤ q ∧ q ≤ 5) ∨ (m = 1 ∧ 1 ≤ q ∧ q ≤ 4)) (N E : List Int) (h : exS m q = some (N, E)) :
    Con Tryz.prog 50 [fI m, fI q] (.tup [.agg [.d (rowI N), .d (rowI E)], fB true]) := by
  refine Con_introA A_r7_Exact_comp rfl mixed ?_
  simp -implicitDefEqProofs only [evI, hv, effC, reduceCtorEq, ↓reduceIte, n1_, n2_, n3_, n4_, n5_, i1_, i2_, i3_, i4_, i5_, i6_, i7_, A_r7_Exact]
  obtain ⟨o, rfl⟩ : ∃ o, q = o + 1 := ⟨q - 1, by omega⟩
  rcases hm with ⟨rfl, h1, h2⟩ | ⟨rfl, h1, h2⟩
  · have g1 : decide ((1 : Int) ≤ ((o + 1 : Nat) : Int)) = true := by simp; omega
    have g2 : decide (((o + 1 : Nat) : Int) ≤ 5) = true := by simp; omega
    unfold exS at h
    rw [if_pos rfl] at h
    obtain ⟨⟨N', E', n, d⟩, hs, h3⟩ := Option.bind_eq_some_iff.1 h
    obtain ⟨⟨x, y⟩, hl, e⟩ := Option.map_eq_some_iff.1 h3
    simp only [Prod.mk.injEq] at e
    obtain ⟨rfl, rfl⟩ := e
    simp -implicitDefEqProofs only [evI, hv, effC, reduceCtorEq, ↓reduceIte, n1_, n2_, n3_, n4_, n5_, i1_, i2_, i3_, i4_, i5_, i6_, i7_, g1, g2]
    first | refine callG_con (r7_adams_con ((o + 1 : Nat) : Int) o rfl (by omega) N' E' n d x y hs hl) rfl ?_ | refine callCG_con (r7_adams_con ((o + 1 : Nat) : Int) o rfl (by omega) N' E' n d x y hs hl) rfl ?_ | refine callSG_con (r7_adams_con ((o + 1 : Nat) : Int) o rfl (by omega) N' E' n d x y hs hl) rfl ?_
    simp -implicitDefEqProofs only [evI, hv, effC, reduceCtorEq, ↓reduceIte, n1_, n2_, n3_, n4_, n5_, i1_, i2_, i3_, i4_, i5_, i6_, i7_]
    exact endsT_only (fun _ => false) (fun _ h => h) ⟨_, _, resV_cell (by decide) rfl (cells := [_, _]) (by simp [get_cons]) rfl (by simp) rfl, resV_tmpI (t := 5) (by decide) rfl, rfl⟩ rfl (by simp [KpS_cons, KpS_nil, KpH_cons, KpH_nil, KpF_cons, KpF_nil, KpF_rows, KpA_cons, KpA_nil, KpA_app, KpA_rowV, KpA_rowIV, KpA_dcells, KpA_outC, Kp_any, Kp_nilv, Kp_d, Kp_ptr, Kp_sl, Kp_agg, Kp_tup, Kp_fn, get_cons, get_nil]) (by simp [KpS_cons, KpS_nil, KpH_cons, KpH_nil, KpF_cons, KpF_nil, KpF_rows, KpA_cons, KpA_nil, KpA_app, KpA_rowV, KpA_rowIV, KpA_dcells, KpA_outC, Kp_any, Kp_nilv, Kp_d, Kp_ptr, Kp_sl, Kp_agg, Kp_tup, Kp_fn, get_cons, get_nil])
  · have g1 : decide ((1 : Int) ≤ ((o + 1 : Nat) : Int)) = true := by simp; omega
    have g2 : decide (((o + 1 : Nat) : Int) ≤ 4) = true := by simp; omega
    unfold exS at h
    rw [if_neg (by decide)] at h
    simp -implicitDefEqProofs only [evI, hv, effC, reduceCtorEq, ↓reduceIte, n1_, n2_, n3_, n4_, n5_, i1_, i2_, i3_, i4_, i5_, i6_, i7_, g1, g2, Int.reduceBEq]
    first | refine callG_con (r7_bdf_con ((o + 1 : Nat) : Int) o rfl (by omega) N E h) rfl ?_ | refine callCG_con (r7_bdf_con ((o + 1 : Nat) : Int) o rfl (by omega) N E h) rfl ?_ | refine callSG_con (r7_bdf_con ((o + 1 : Nat) : Int) o rfl (by omega) N E h) rfl ?_
    simp -implicitDefEqProofs only [evI, hv, effC, reduceCtorEq, ↓reduceIte, n1_, n2_, n3_, n4_, n5_, i1_, i2_, i3_, i4_, i5_, i6_, i7_]
    exact endsT_only (fun _ => false) (fun _ h => h) ⟨_, _, resV_cell (by decide) rfl (cells := [_, _]) (by simp [get_cons]) rfl (by simp) rfl, resV_tmpI (t := 5) (by decide) rfl, rfl⟩ rfl (by simp [KpS_cons, KpS_nil, KpH_cons, KpH_nil, KpF_cons, KpF_nil, KpF_rows, KpA_cons, KpA_nil, KpA_app, KpA_rowV, KpA_rowIV, KpA_dcells, KpA_outC, Kp_any, Kp_nilv, Kp_d, Kp_ptr, Kp_sl, Kp_agg, Kp_tup, Kp_fn, get_cons, get_nil]) (by simp [KpS_cons, KpS_nil, KpH_cons, KpH_nil, KpF_cons, KpF_nil, KpF_rows, KpA_cons, KpA_nil, KpA_app, KpA_rowV, KpA_rowIV, KpA_dcells, KpA_outC, Kp_any, Kp_nilv, Kp_d, Kp_ptr, Kp_sl, Kp_agg, Kp_tup, Kp_fn, get_cons, get_nil])
def ofP (N E : List Int) : List Nat := tabR (fun i => fop .div (FloatKind.nearest .f64 (N.getD i 0)) (FloatKind.nearest .f64 (E.getD i 0))) N.length
theorem exS_len (m : Int) (q : Nat) (hq : 1 ≤ q) (N E : List Int) (h : exS m q = some (N, E)) : N.length = q + 1 ∧ E.length = q + 1 := by
  unfold exS at h
  split at h
  · obtain ⟨⟨N', E', n, d⟩, hs, h3⟩ := Option.bind_eq_some_iff.1 h
    obtain ⟨⟨x, y⟩, hl, e⟩ := Option.map_eq_some_iff.1 h3
    simp only [Prod.mk.injEq] at e
    obtain ⟨rfl, rfl⟩ := e
    obtain ⟨a, b⟩ := adS_len _ _ _ hs
    exact ⟨by simpa using a, by simpa using b⟩
  · exact bdS_len _ _ _ h
set_option maxRecDepth 8000 in
theorem r7_Of_con (m : Int) (q : Nat) (hm : (m = 0 ∧ 1 ≤ q ∧ q ≤ 5) ∨ (m = 1 ∧ 1 ≤ q ∧ q ≤ 4)) (N E : List Int) (h : exS m q = some (N, E)) :
    Con Tryz.prog 25 [fI m, fI q] (.tup [.d (rowD (ofP N E)), fB true]) := by
  obtain ⟨l1, l2⟩ := exS_len m q (by omega) N E h
  refine Con_introA A_r7_Of_comp rfl mixed ?_
  simp -implicitDefEqProofs only [evI, hv, effC, reduceCtorEq, ↓reduceIte, n1_, n2_, n3_, n4_, n5_, i1_, i2_, i3_, i4_, i5_, i6_, i7_, A_r7_Of]
  first | refine callG_con (r7_Exact_con m q hm N E h) rfl ?_ | refine callCG_con (r7_Exact_con m q hm N E h) rfl ?_ | refine callSG_con (r7_Exact_con m q hm N E h) rfl ?_
  simp -implicitDefEqProofs only [evI, hv, effC, reduceCtorEq, ↓reduceIte, n1_, n2_, n3_, n4_, n5_, i1_, i2_, i3_, i4_, i5_, i6_, i7_, Bool.not_true]
  refine WA_forW (n := q + 1) (fun c s => ∃ i, c + i = q + 1 ∧ s = ⟨[(6, .ptr 6 0 0 2), (8, .sl 20 0 0 i 1 i), (9, fI i)], [(20, [rowV (tabR (fun i => fop .div (FloatKind.nearest .f64 (N.getD i 0)) (FloatKind.nearest .f64 (E.getD i 0))) i)]), (6, [[.d (rowI N), .d (rowI E)]])]⟩) (s0 := ⟨_, _⟩)
    (LeT.nilrow (X := 20) (esz := 1) (as' := [(6, .ptr 6 0 0 2), (8, .sl 20 0 0 0 1 0), (9, fI 0)]) (by simp [fam_cons, fam_nil]) (fun h => h) fun i => ?_) ⟨0, by omega, rfl⟩ ?_
  · simp only [look]
    repeat' split
    all_goals simp
  rintro c s ⟨i, hc, rfl⟩
  have hl := tabR_len (fun i => fop .div (FloatKind.nearest .f64 (N.getD i 0)) (FloatKind.nearest .f64 (E.getD i 0))) i
  have hsc := tabR_succ (fun i => fop .div (FloatKind.nearest .f64 (N.getD i 0)) (FloatKind.nearest .f64 (E.getD i 0))) i
  simp -implicitDefEqProofs only [evI, hv, effC, reduceCtorEq, ↓reduceIte, n1_, n2_, n3_, n4_, n5_, i1_, i2_, i3_, i4_, i5_, i6_, i7_, A_r7_Of_L0]
  refine condC_intro (fun hi => ?_) (fun hi => ?_)
  · replace hi := of_decide_eq_true hi
    simp -implicitDefEqProofs only [evI, hv, effC, reduceCtorEq, ↓reduceIte, n1_, n2_, n3_, n4_, n5_, i1_, i2_, i3_, i4_, i5_, i6_, i7_]
    (repeat (with_reducible refine And.intro (by omega) ?_))
    rw [wrapI (by omega) (by omega)]
    have e : rowV (tabR (fun i => fop .div (FloatKind.nearest .f64 (N.getD i 0)) (FloatKind.nearest .f64 (E.getD i 0))) i) ++ [fl (fop .div (FloatKind.nearest .f64 (N.getD i 0)) (FloatKind.nearest .f64 (E.getD i 0)))] = rowV (tabR (fun i => fop .div (FloatKind.nearest .f64 (N.getD i 0)) (FloatKind.nearest .f64 (E.getD i 0))) (i + 1)) := hsc.symm
    rw [e]
    exact ⟨c - 1, _, by omega, LeT.only (fun X => decide (X ≤ 20)) (fun _ h => h) rfl (by simp [KpS_cons, KpS_nil, KpH_cons, KpH_nil, KpF_cons, KpF_nil, KpF_rows, KpA_cons, KpA_nil, KpA_app, KpA_rowV, KpA_rowIV, KpA_dcells, KpA_outC, Kp_any, Kp_nilv, Kp_d, Kp_ptr, Kp_sl, Kp_agg, Kp_tup, Kp_fn, get_cons, get_nil]) (by simp [KpS_cons, KpS_nil, KpH_cons, KpH_nil, KpF_cons, KpF_nil, KpF_rows, KpA_cons, KpA_nil, KpA_app, KpA_rowV, KpA_rowIV, KpA_dcells, KpA_outC, Kp_any, Kp_nilv, Kp_d, Kp_ptr, Kp_sl, Kp_agg, Kp_tup, Kp_fn, get_cons, get_nil]), i + 1, by omega, rfl⟩
  · replace hi := of_decide_eq_false hi
    have e : i = q + 1 := by omega
    subst e
    simp -implicitDefEqProofs only [evI, hv, effC, reduceCtorEq, ↓reduceIte, n1_, n2_, n3_, n4_, n5_, i1_, i2_, i3_, i4_, i5_, i6_, i7_]
    have ho : ofP N E = tabR (fun i => fop .div (FloatKind.nearest .f64 (N.getD i 0)) (FloatKind.nearest .f64 (E.getD i 0))) (q + 1) := by unfold ofP; rw [l1]
    rw [← ho]
    rw [← ho] at hl
    have hz : Fz [(20, [rowV (ofP N E)]), (6, [[.d (rowI N), .d (rowI E)]])] [] (.sl 20 0 0 (q + 1) 1 (q + 1)) (.d (rowD (ofP N E))) := Fz_row (by simp [get_cons]) hl rfl (by simp [get_nil])
    refine endsT_le (.tup [.sl 20 0 0 (q + 1) 1 (q + 1), fB true]) (fun _ h => h) ⟨_, _, resV_tmpI (t := 4) (by decide) rfl, resV_tmpI (t := 5) (by decide) rfl, rfl⟩ (.tup rfl fun j hj => ?_)
    rcases j with _ | _ | j
    · exact hz
    · exact Fz_d _
    · simp at hj; omega
theorem exS_some (m : Int) (q : Nat) (hm : (m = 0 ∧ 1 ≤ q ∧ q ≤ 5) ∨ (m = 1 ∧ 1 ≤ q ∧ q ≤ 4)) : ∃ N E, exS m q = some (N, E) := by
  have h0 : ((List.range 5).all fun i => (exS 0 (i + 1)).isSome) = true := by kernel_rfl
  have h1 : ((List.range 4).all fun i => (exS 1 (i + 1)).isSome) = true := by kernel_rfl
  have : (exS m q).isSome = true := by
    obtain ⟨o, rfl⟩ : ∃ o, q = o + 1 := ⟨q - 1, by omega⟩
    rcases hm with ⟨rfl, a, b⟩ | ⟨rfl, a, b⟩
    · exact List.all_eq_true.1 h0 o (by simp; omega)
    · exact List.all_eq_true.1 h1 o (by simp; omega)
  obtain ⟨⟨N, E⟩, h⟩ := Option.isSome_iff_exists.1 this
  exact ⟨N, E, h⟩
/-- The numbers of a method and an order. -/
def ofL (m : Int) (q : Nat) : List Nat := match exS m q with
  | some s => ofP s.1 s.2
  | none => []
theorem r7_Of_ok (m : Int) (q : Nat) (hm : (m = 0 ∧ 1 ≤ q ∧ q ≤ 5) ∨ (m = 1 ∧ 1 ≤ q ∧ q ≤ 4)) : Con Tryz.prog 25 [fI m, fI q] (.tup [.d (rowD (ofL m q)), fB true]) ∧ (ofL m q).length = q + 1 := by
  obtain ⟨N, E, h⟩ := exS_some m q hm
  obtain ⟨l1, l2⟩ := exS_len m q (by omega) N E h
  have e : ofL m q = ofP N E := by unfold ofL; rw [h]
  rw [e]
  exact ⟨r7_Of_con m q hm N E h, by unfold ofP; rw [tabR_len]; exact l1⟩
end Go.Ab

namespace Go.Ab
set_option linter.unusedSimpArgs false
set_option linter.unusedVariables false
open Nat renaming reduceEqDiff → n1_, reduceAdd → n2_, reduceMul → n3_, reduceLT → n4_, reduceLeDiff → n5_
open Int renaming reduceToNat → i1_, reduceAdd → i2_, reduceSub → i3_, reduceMul → i4_, reduceNeg → i5_, reduceLT → i6_, reduceLE → i7_
open Go Go.Proofs
/-- A problem. -/
structure Pb where
  t : Tp
  box : List (Nat × Nat)
  y : List Nat
  fin : Int
  first : Int
  least : Int
  atol : Nat
  rtol : Nat
  cap : Nat
  most : Int
  outs : List Int
abbrev pbC (p : Pb) : List V := [fI p.t.n, .d (opsD p.t.ops), .d (rowI p.t.out), .d (ivD p.box), .d (rowD p.y), fI p.fin, fI p.first, fI p.least, fl p.atol, fl p.rtol, fl p.cap, fI p.most, .d (rowI p.outs)]
abbrev pbV (p : Pb) : V := .agg (pbC p)
/-- Where a solution is. -/
structure Nd where
  pos : Int
  step : Int
  order : Int
  method : Int
  z : List (List Nat)
abbrev ndC (n : Nd) : List V := [fI n.pos, fI n.step, fI n.order, fI n.method, .d (rowsD n.z)]
abbrev ndV (n : Nd) : V := .agg (ndC n)
/-- How steps went. -/
structure Sta where
  n : Nd
  good : Int
  fails : Int
  slow : Int
abbrev staC (s : Sta) : List V := [fI s.n.pos, fI s.n.step, fI s.n.order, fI s.n.method, .d (rowsD s.n.z), fI s.good, fI s.fails, fI s.slow]
abbrev staV (s : Sta) : V := .agg (staC s)
/-- What came of a try. -/
structure Trd where
  s : Sta
  n : Nd
  taken : Bool
  err : Nat
  e : Int
abbrev trdC (r : Trd) : List V := [fI r.s.n.pos, fI r.s.n.step, fI r.s.n.order, fI r.s.n.method, .d (rowsD r.s.n.z), fI r.s.good, fI r.s.fails, fI r.s.slow,
  fI r.n.pos, fI r.n.step, fI r.n.order, fI r.n.method, .d (rowsD r.n.z), fB r.taken, fl r.err, fI r.e]
abbrev trdV (r : Trd) : V := .agg (trdC r)
/-- A beginning anew, where n is. -/
def freshP (p : Pb) (n : Nd) : Nd := ⟨n.pos, n.step, 1, n.method, startZ p.t (n.z.getD 0 []) (hW n.step.toNat)⟩
def lessW (k : Nat) : Nat := scl 4607182418800017408 (-(k : Int))
def mostO (m : Int) : Int := if m = 0 then 5 else 4
/-- A step's next row. -/
def nextR (l d : List Nat) (q : Nat) : List Nat := tabR (fun i => fop .div (fop .mul (l.getD q 0) (d.getD i 0)) (FloatKind.nearest .f64 ((q : Int) + 1))) d.length
def takeP (p : Pb) (s : Sta) (z : List (List Nat)) (l d : List Nat) (err : Nat) : Trd :=
  let q := s.n.order.toNat
  let n : Nd := { s.n with pos := s.n.pos + s.n.step, z := corrP z l d (q + 1) p.t.n }
  let s' : Sta :=
    if s.good + 1 ≤ s.n.order + 1 then ⟨n, s.good + 1, 0, s.slow⟩
    else if fcmp .le err (lessW (q + 3)) = true ∧ s.n.step ≤ p.fin then ⟨{ n with step := 2 * s.n.step, z := scaleP n.z 1 (q + 1) p.t.n }, 0, 0, s.slow⟩
    else if fcmp .le err 4598175219545276416 = true ∧ s.n.order < mostO s.n.method then ⟨{ n with order := s.n.order + 1, z := n.z ++ [nextR l d q] }, 0, 0, s.slow⟩
    else ⟨n, s.good + 1, 0, s.slow⟩
  ⟨s', n, true, err, 0⟩
def failP (p : Pb) (s : Sta) (e : Int) (err : Nat) : Trd :=
  let q := s.n.order.toNat
  if s.n.step ≤ p.least then ⟨s, ⟨0, 0, 0, 0, []⟩, false, err, if e = 4 ∨ e = 2 then e else 5⟩
  else
    let slow := if e = 6 ∧ s.n.method = 0 then s.slow + 1 else s.slow
    let n : Nd := { s.n with step := s.n.step / 2, z := scaleP s.n.z (-1) (q + 1) p.t.n }
    let s' : Sta :=
      if 2 ≤ slow then ⟨freshP p { n with method := 1 }, 0, 0, 0⟩
      else if s.fails + 1 < 3 then ⟨n, 0, s.fails + 1, slow⟩
      else ⟨freshP p n, 0, 0, slow⟩
    ⟨s', ⟨0, 0, 0, 0, []⟩, false, err, 0⟩
def tryP (p : Pb) (s : Sta) : Trd :=
  let q := s.n.order.toNat
  let z := predP s.n.z p.t.n q
  let l := ofL s.n.method q
  let w := wtP (s.n.z.getD 0 []) p.atol p.rtol
  let c := solG p.t z l (hW s.n.step.toNat) w s.n.method
  if c.2.2 ≠ 0 then failP p s c.2.2 0
  else
    let err := fop .div (szP c.1 w) (FloatKind.nearest .f64 (s.n.order + 1))
    if fcmp .le err 4607182418800017408 = true then takeP p s z l c.1 err else failP p s 0 err
/-- A problem's field may be. -/
structure Pok (p : Pb) : Prop where
  t : Tok p.t
  n : 0 < p.t.n
  least : 1 ≤ p.least
/-- Where a solution may be. -/
structure Nok (t : Tp) (n : Nd) : Prop where
  m : (n.method = 0 ∧ 1 ≤ n.order ∧ n.order ≤ 5) ∨ (n.method = 1 ∧ 1 ≤ n.order ∧ n.order ≤ 4)
  step : ∃ j : Nat, j < 60 ∧ n.step = (2 ^ j : Nat)
  rk : Rk (n.order.toNat + 1) t.n n.z
  cw : Cw n.z
  pos : 0 ≤ n.pos ∧ n.pos < 2305843009213693952
structure Sta.ok (t : Tp) (s : Sta) : Prop where
  n : Nok t s.n
  good : 0 ≤ s.good ∧ s.good < 1000000000
  fails : 0 ≤ s.fails ∧ s.fails < 1000000000
  slow : 0 ≤ s.slow ∧ s.slow < 1000000000
end Go.Ab

namespace Go.Ab
set_option linter.unusedSimpArgs false
set_option linter.unusedVariables false
open Nat renaming reduceEqDiff → n1_, reduceAdd → n2_, reduceMul → n3_, reduceLT → n4_, reduceLeDiff → n5_
open Int renaming reduceToNat → i1_, reduceAdd → i2_, reduceSub → i3_, reduceMul → i4_, reduceNeg → i5_, reduceLT → i6_, reduceLE → i7_
open Go Go.Proofs
def A_coef_size_int : CA := (.seq (.reg [i_X 0 2 (.h (.mov (.k (.d (.int .i64 0)))))] [0]) (.seq (.seq (.reg [i_M 0 3 0, i_X 1 4 (.h (.ibin .lss (.t 3) (.k (.d (.int .i64 0)))))] [0, 4]) (.cond (.t 4) (.seq (.reg [i_M 0 5 0, i_X 1 6 (.h (.un .neg (.t 5))), i_M 2 2 6] [2]) .ret) .skip)) (.seq (.reg [i_M 0 7 0, i_M 1 2 7] [2]) .ret)))
theorem A_coef_size_int_comp : compF Tryz.prog 138 = some ⟨8, [(2, none)], A_coef_size_int.strip⟩ := by kernel_rfl
def A_coef_common_int_L0 : CA := (.seq (.seq (.reg [i_M 0 5 1, i_X 1 6 (.h (.ibin .neq (.t 5) (.k (.d (.int .i64 0)))))] [0, 1, 6]) (.cond (.t 6) .skip (.exit 0))) (.block 1 (.reg [i_M 0 7 1, i_M 1 8 0, i_M 2 9 1, i_X 3 10 (.h (.ibin .rem (.t 8) (.t 9))), i_M 4 0 7, i_M 5 1 10] [0, 1])))
def A_coef_common_int : CA := (.seq (.reg [i_X 0 4 (.h (.mov (.k (.d (.int .i64 0)))))] [0, 1]) (.seq (.block 0 (.loop A_coef_common_int_L0)) (.seq (.reg [i_M 0 11 0, i_X 1 12 (.callA (.k (.d (.fn 138 [] []))) [(.t 11)]), i_M 2 4 12] [4]) .ret)))
theorem A_coef_common_int_comp : compF Tryz.prog 123 = some ⟨13, [(4, none)], A_coef_common_int.strip⟩ := by kernel_rfl
def A_coef_times_L0 : CA := (.seq (.reg [i_X 0 15 (.h (.ibin .lss (.t 14) (.t 13)))] [1, 5, 12, 13, 14, 15]) (.seq (.cond (.t 15) .skip (.exit 0)) (.seq (.block 1 (.seq (.reg [i_M 0 16 14, i_X 1 17 (.h (.idx (.t 12) (.t 14) 1)), i_L 2 18 17 1, i_M 3 6 16, i_M 4 7 18] [1, 5, 6, 7, 12, 13, 14]) (.seq (.reg [i_M 0 19 5, i_M 1 20 6, i_X 2 21 (.h (.idx (.t 19) (.t 20) 1)), i_L 3 22 21 1, i_M 4 23 1, i_M 5 24 7, i_X 6 25 (.h (.ibin .mul (.t 23) (.t 24))), i_X 7 26 (.h (.ibin .add (.t 22) (.t 25))), i_X 8 27 (.h (.idx (.t 19) (.t 20) 1)), i_S 9 27 26 1] [1, 5, 6, 7, 12, 13, 14]) (.reg [i_M 0 28 5, i_M 1 29 6, i_X 2 30 (.h (.ibin .add (.t 29) (.k (.d (.int .i64 1))))), i_X 3 31 (.h (.idx (.t 28) (.t 30) 1)), i_L 4 32 31 1, i_M 5 33 7, i_X 6 34 (.h (.ibin .add (.t 32) (.t 33))), i_X 7 35 (.h (.idx (.t 28) (.t 30) 1)), i_S 8 35 34 1] [1, 5, 12, 13, 14])))) (.reg [i_X 0 36 (.h (.ibin .add (.t 14) (.k (.d (.int .i64 1))))), i_M 1 14 36] [1, 5, 12, 13, 14]))))
def A_coef_times : CA := (.seq (.reg [i_X 0 4 (.h (.mov (.k .nil)))] [0, 1]) (.seq (.reg [i_M 0 8 0, i_X 1 9 (.h (.len (.t 8))), i_X 2 10 (.h (.ibin .add (.t 9) (.k (.d (.int .i64 1))))), i_X 3 11 (.mksl [(.d (.int .i64 0))] 1 8 (.t 10) (.t 10) 3), i_M 4 5 11] [0, 1, 5]) (.seq (.seq (.reg [i_M 0 12 0, i_X 1 13 (.h (.len (.t 12))), i_X 2 14 (.h (.mov (.k (.d (.int .i64 0)))))] [1, 5, 12, 13, 14]) (.block 0 (.loop A_coef_times_L0))) (.seq (.reg [i_M 0 37 5, i_M 1 4 37] [4]) .ret))))
theorem A_coef_times_comp : compF Tryz.prog 122 = some ⟨38, [(4, none)], A_coef_times.strip⟩ := by kernel_rfl
def A_coef_product_L0 : CA := (.seq (.reg [i_X 0 8 (.h (.ibin .lss (.t 7) (.t 6)))] [3, 6, 7, 8]) (.seq (.cond (.t 8) .skip (.exit 0)) (.seq (.block 1 (.seq (.reg [i_M 0 9 7, i_M 1 4 9] [3, 4, 6, 7]) (.reg [i_M 0 10 3, i_M 1 11 4, i_X 2 12 (.h (.ibin .add (.t 11) (.k (.d (.int .i64 1))))), i_X 3 13 (.callA (.k (.d (.fn 122 [] []))) [(.t 10), (.t 12)]), i_M 4 3 13] [3, 6, 7]))) (.reg [i_X 0 14 (.h (.ibin .add (.t 7) (.k (.d (.int .i64 1))))), i_M 1 7 14] [3, 6, 7]))))
def A_coef_product : CA := (.seq (.reg [i_X 0 2 (.h (.mov (.k .nil)))] [0]) (.seq (.reg [i_X 0 5 (.bslice [(.d (.int .i64 0))] 1 1 [(0, (1, (.k (.d (.int .i64 1)))))] 3), i_M 1 3 5] [0, 3]) (.seq (.seq (.reg [i_M 0 6 0, i_X 1 7 (.h (.mov (.k (.d (.int .i64 0)))))] [3, 6, 7]) (.block 0 (.loop A_coef_product_L0))) (.seq (.reg [i_M 0 15 3, i_M 1 2 15] [2]) .ret))))
theorem A_coef_product_comp : compF Tryz.prog 110 = some ⟨16, [(2, none)], A_coef_product.strip⟩ := by kernel_rfl
def A_coef_Row_add : CA := (.seq (.seq (.reg [i_M 0 7 2, i_X 1 8 (.h (.ibin .lss (.t 7) (.k (.d (.int .i64 0)))))] [0, 1, 2, 8]) (.cond (.t 8) (.reg [i_M 0 9 1, i_X 1 10 (.h (.un .neg (.t 9))), i_M 2 11 2, i_X 3 12 (.h (.un .neg (.t 11))), i_M 4 1 10, i_M 5 2 12] [0, 1, 2]) .skip)) (.seq (.reg [i_M 0 13 1, i_M 1 14 2, i_X 2 15 (.callA (.k (.d (.fn 123 [] []))) [(.t 13), (.t 14)]), i_M 3 6 15] [0, 1, 2, 6]) (.reg [i_M 0 16 0, i_M 1 17 0, i_M 2 18 0, i_X 3 19 (.h (.nilck (.t 18))), i_P 4 20 19 0, i_L 5 21 20 1, i_M 6 22 1, i_M 7 23 6, i_X 8 24 (.h (.ibin .quo (.t 22) (.t 23))), i_X 9 25 (.bslice [(.d (.int .i64 0))] 1 1 [(0, (1, (.t 24)))] 3), ⟨10, (some 26), none, [], [(.t 0)], (.app (.t 21) (.t 25) 1 8)⟩, i_M 11 27 0, i_X 12 28 (.h (.nilck (.t 27))), i_P 13 29 28 1, ⟨14, (some 30), none, [(.t 0)], [], (.load (.t 29) 1 false)⟩, i_M 15 31 2, i_M 16 32 6, i_X 17 33 (.h (.ibin .quo (.t 31) (.t 32))), i_X 18 34 (.bslice [(.d (.int .i64 0))] 1 1 [(0, (1, (.t 33)))] 3), i_X 19 35 (.app (.t 30) (.t 34) 1 8), i_X 20 36 (.h (.nilck (.t 16))), i_P 21 37 36 0, i_S 22 37 26 1, i_X 23 38 (.h (.nilck (.t 17))), i_P 24 39 38 1, i_S 25 39 35 1] [])))
theorem A_coef_Row_add_comp : compF Tryz.prog 111 = some ⟨40, [], A_coef_Row_add.strip⟩ := by kernel_rfl
def A_coef_adams_L0 : CA := (.seq (.reg [i_X 0 18 (.h (.ibin .lss (.t 17) (.t 16)))] [2, 3, 4, 16, 17, 18]) (.seq (.cond (.t 18) .skip (.exit 0)) (.seq (.block 1 (.seq (.reg [i_M 0 19 17, i_M 1 5 19] [2, 3, 4, 5, 16, 17]) (.reg [i_M 0 20 4, i_M 1 21 5, i_X 2 22 (.h (.mm true (.t 21) (.k (.d (.int .i64 1))))), i_X 3 23 (.h (.ibin .mul (.t 20) (.t 22))), i_M 4 4 23] [2, 3, 4, 16, 17]))) (.reg [i_X 0 24 (.h (.ibin .add (.t 17) (.k (.d (.int .i64 1))))), i_M 1 17 24] [2, 3, 4, 16, 17]))))
def A_coef_adams_L1 : CA := (.seq (.reg [i_X 0 28 (.h (.ibin .lss (.t 27) (.t 26)))] [2, 3, 4, 6, 7, 25, 26, 27, 28]) (.seq (.cond (.t 28) .skip (.exit 2)) (.seq (.block 3 (.seq (.reg [i_M 0 29 27, i_X 1 30 (.h (.idx (.t 25) (.t 27) 1)), i_L 2 31 30 1, i_M 3 8 29, i_M 4 9 31] [2, 3, 4, 6, 7, 8, 9, 25, 26, 27]) (.seq (.reg [i_M 0 32 6, i_M 1 33 7, i_M 2 34 9, i_X 3 35 (.h (.ibin .mul (.t 33) (.t 34))), i_M 4 36 8, i_X 5 37 (.h (.ibin .add (.t 36) (.k (.d (.int .i64 1))))), i_X 6 38 (.h (.ibin .quo (.k (.d (.int .i64 60))) (.t 37))), i_X 7 39 (.h (.ibin .mul (.t 35) (.t 38))), i_X 8 40 (.h (.ibin .add (.t 32) (.t 39))), i_M 9 6 40] [2, 3, 4, 6, 7, 25, 26, 27]) (.reg [i_M 0 41 7, i_X 1 42 (.h (.un .neg (.t 41))), i_M 2 7 42] [2, 3, 4, 6, 7, 25, 26, 27])))) (.reg [i_X 0 43 (.h (.ibin .add (.t 27) (.k (.d (.int .i64 1))))), i_M 1 27 43] [2, 3, 4, 6, 7, 25, 26, 27]))))
def A_coef_adams_L2 : CA := (.seq (.reg [i_X 0 52 (.h (.ibin .lss (.t 51) (.t 50)))] [2, 4, 10, 49, 50, 51, 52]) (.seq (.cond (.t 52) .skip (.exit 4)) (.seq (.block 5 (.seq (.reg [i_M 0 53 51, i_X 1 54 (.h (.idx (.t 49) (.t 51) 1)), i_L 2 55 54 1, i_M 3 11 53, i_M 4 12 55] [2, 4, 10, 11, 12, 49, 50, 51]) (.reg [i_M 0 56 12, i_M 1 57 4, i_M 2 58 11, i_X 3 59 (.h (.ibin .add (.t 58) (.k (.d (.int .i64 1))))), i_X 4 60 (.h (.ibin .mul (.t 57) (.t 59))), i_X 5 61 (.callA (.k (.d (.fn 111 [] []))) [(.t 10), (.t 56), (.t 60)])] [2, 4, 10, 49, 50, 51]))) (.reg [i_X 0 62 (.h (.ibin .add (.t 51) (.k (.d (.int .i64 1))))), i_M 1 51 62] [2, 4, 10, 49, 50, 51]))))
def A_coef_adams : CA := (.seq (.reg [i_X 0 2 (.alloc [.nil, .nil] 102)] [0, 2]) (.seq (.reg [i_M 0 13 0, i_X 1 14 (.h (.ibin .sub (.t 13) (.k (.d (.int .i64 1))))), i_X 2 15 (.callA (.k (.d (.fn 110 [] []))) [(.t 14)]), i_M 3 3 15] [0, 2, 3]) (.seq (.reg [i_X 0 4 (.h (.mov (.k (.d (.int .i64 1)))))] [0, 2, 3, 4]) (.seq (.seq (.reg [i_M 0 16 0, i_X 1 17 (.h (.mov (.k (.d (.int .i64 0)))))] [2, 3, 4, 16, 17]) (.block 0 (.loop A_coef_adams_L0))) (.seq (.reg [i_X 0 6 (.h (.mov (.k (.d (.int .i64 0))))), i_X 1 7 (.h (.mov (.k (.d (.int .i64 (-1))))))] [2, 3, 4, 6, 7]) (.seq (.seq (.reg [i_M 0 25 3, i_X 1 26 (.h (.len (.t 25))), i_X 2 27 (.h (.mov (.k (.d (.int .i64 0)))))] [2, 3, 4, 6, 7, 25, 26, 27]) (.block 2 (.loop A_coef_adams_L1))) (.seq (.reg [i_X 0 10 (.alloc [.nil, .nil] 102)] [2, 3, 4, 6, 10]) (.seq (.reg [i_M 0 44 6, i_X 1 45 (.h (.un .neg (.t 44))), i_M 2 46 4, i_X 3 47 (.h (.ibin .mul (.k (.d (.int .i64 60))) (.t 46))), i_X 4 48 (.callA (.k (.d (.fn 111 [] []))) [(.t 10), (.t 45), (.t 47)])] [2, 3, 4, 10]) (.seq (.seq (.reg [i_M 0 49 3, i_X 1 50 (.h (.len (.t 49))), i_X 2 51 (.h (.mov (.k (.d (.int .i64 0)))))] [2, 4, 10, 49, 50, 51]) (.block 4 (.loop A_coef_adams_L2))) (.seq (.reg [i_A 0 63 10 2, i_S 1 2 63 2] [2]) .ret))))))))))
theorem A_coef_adams_comp : compF Tryz.prog 87 = some ⟨64, [(2, (some (2, true)))], A_coef_adams.strip⟩ := by kernel_rfl
def A_coef_bdf_L0 : CA := (.seq (.reg [i_X 0 12 (.h (.ibin .lss (.t 11) (.t 10)))] [2, 3, 4, 9, 10, 11, 12]) (.seq (.cond (.t 12) .skip (.exit 0)) (.seq (.block 1 (.seq (.reg [i_X 0 13 (.h (.idx (.t 9) (.t 11) 1)), i_L 1 14 13 1, i_M 2 6 14] [2, 3, 4, 6, 9, 10, 11]) (.reg [i_M 0 15 6, i_M 1 16 3, i_X 2 17 (.h (.idx (.t 16) (.k (.d (.int .i64 1))) 1)), i_L 3 18 17 1, i_X 4 19 (.callA (.k (.d (.fn 111 [] []))) [(.t 4), (.t 15), (.t 18)])] [2, 3, 4, 9, 10, 11]))) (.reg [i_X 0 20 (.h (.ibin .add (.t 11) (.k (.d (.int .i64 1))))), i_M 1 11 20] [2, 3, 4, 9, 10, 11]))))
def A_coef_bdf : CA := (.seq (.reg [i_X 0 2 (.alloc [.nil, .nil] 102)] [0, 2]) (.seq (.reg [i_M 0 7 0, i_X 1 8 (.callA (.k (.d (.fn 110 [] []))) [(.t 7)]), i_M 2 3 8] [2, 3]) (.seq (.reg [i_X 0 4 (.alloc [.nil, .nil] 102)] [2, 3, 4]) (.seq (.seq (.reg [i_M 0 9 3, i_X 1 10 (.h (.len (.t 9))), i_X 2 11 (.h (.mov (.k (.d (.int .i64 0)))))] [2, 3, 4, 9, 10, 11]) (.block 0 (.loop A_coef_bdf_L0))) (.seq (.reg [i_A 0 21 4 2, i_S 1 2 21 2] [2]) .ret)))))
theorem A_coef_bdf_comp : compF Tryz.prog 88 = some ⟨22, [(2, (some (2, true)))], A_coef_bdf.strip⟩ := by kernel_rfl
def A_coef_Exact : CA := (.seq (.reg [i_X 0 4 (.alloc [.nil, .nil] 102), i_X 1 5 (.h (.mov (.k (.d (.bool false)))))] [0, 1, 4]) (.seq (.reg [i_X 0 6 (.alloc [.nil, .nil] 102)] [0, 1, 4, 6]) (.seq (.block 0 (.seq (.reg [i_M 0 9 0, i_X 1 10 (.h (.ibin .eql (.t 9) (.k (.d (.int .i64 0))))), i_M 2 11 10, ⟨3, (some 12), (some (11, true)), [], [], (.h (.mov (.t 1)))⟩, ⟨4, (some 13), (some (11, true)), [], [], (.h (.ibin .geq (.t 12) (.k (.d (.int .i64 1)))))⟩, i_X 5 14 (.h (.pick (.t 11) (.t 13) (.k (.d (.bool false))))), i_M 6 15 14, ⟨7, (some 16), (some (15, true)), [], [], (.h (.mov (.t 1)))⟩, ⟨8, (some 17), (some (15, true)), [], [], (.h (.ibin .leq (.t 16) (.k (.d (.int .i64 5)))))⟩, i_X 9 18 (.h (.pick (.t 15) (.t 17) (.k (.d (.bool false))))), i_M 10 8 18] [0, 1, 4, 6, 8]) (.cond (.t 8) (.reg [i_M 0 19 1, i_X 1 20 (.callA (.k (.d (.fn 87 [] []))) [(.t 19)]), i_S 2 6 20 2] [4, 6]) (.seq (.reg [i_M 0 22 0, i_X 1 23 (.h (.ibin .eql (.t 22) (.k (.d (.int .i64 1))))), i_M 2 24 23, ⟨3, (some 25), (some (24, true)), [], [], (.h (.mov (.t 1)))⟩, ⟨4, (some 26), (some (24, true)), [], [], (.h (.ibin .geq (.t 25) (.k (.d (.int .i64 1)))))⟩, i_X 5 27 (.h (.pick (.t 24) (.t 26) (.k (.d (.bool false))))), i_M 6 28 27, ⟨7, (some 29), (some (28, true)), [], [], (.h (.mov (.t 1)))⟩, ⟨8, (some 30), (some (28, true)), [], [], (.h (.ibin .leq (.t 29) (.k (.d (.int .i64 4)))))⟩, i_X 9 31 (.h (.pick (.t 28) (.t 30) (.k (.d (.bool false))))), i_M 10 21 31] [1, 4, 6, 21]) (.cond (.t 21) (.reg [i_M 0 32 1, i_X 1 33 (.callA (.k (.d (.fn 88 [] []))) [(.t 32)]), i_S 2 6 33 2] [4, 6]) (.seq (.reg [i_X 0 7 (.h (.build [.nil, .nil] [])), i_S 1 4 7 2, i_X 2 5 (.h (.mov (.k (.d (.bool false)))))] [4, 5]) .ret)))))) (.seq (.reg [i_P 0 34 6 0, i_L 1 35 34 1, ⟨2, (some 36), none, [], [(.t 6)], (.app (.k .nil) (.t 35) 1 8)⟩, i_P 3 37 6 1, ⟨4, (some 38), none, [(.t 6)], [], (.load (.t 37) 1 false)⟩, i_X 5 39 (.app (.k .nil) (.t 38) 1 8), i_X 6 40 (.h (.build [.nil, .nil] [(0, (1, (.t 36))), (1, (1, (.t 39)))])), i_S 7 4 40 2, i_X 8 5 (.h (.mov (.k (.d (.bool true)))))] [4, 5]) .ret))))
theorem A_coef_Exact_comp : compF Tryz.prog 62 = some ⟨41, [(4, (some (2, true))), (5, none)], A_coef_Exact.strip⟩ := by kernel_rfl
def A_coef_Of_L0 : CA := (.seq (.reg [i_X 0 26 (.h (.ibin .lss (.t 25) (.t 24)))] [6, 8, 24, 25, 26]) (.seq (.cond (.t 26) .skip (.exit 0)) (.seq (.block 1 (.seq (.reg [i_M 0 27 25, i_M 1 9 27] [6, 8, 9, 24, 25]) (.reg [i_M 0 28 8, i_M 1 29 9, i_P 2 30 6 0, i_L 3 31 30 1, i_M 4 32 9, i_X 5 33 (.h (.idx (.t 31) (.t 32) 1)), i_L 6 34 33 1, i_X 7 35 (.h (.i2f (.t 34))), i_P 8 36 6 1, i_L 9 37 36 1, i_M 10 38 9, i_X 11 39 (.h (.idx (.t 37) (.t 38) 1)), i_L 12 40 39 1, i_X 13 41 (.h (.i2f (.t 40))), i_X 14 42 (.h (.fbin .div (.t 35) (.t 41))), i_X 15 43 (.h (.idx (.t 28) (.t 29) 1)), i_S 16 43 42 1] [6, 8, 24, 25]))) (.reg [i_X 0 44 (.h (.ibin .add (.t 25) (.k (.d (.int .i64 1))))), i_M 1 25 44] [6, 8, 24, 25]))))
def A_coef_Of : CA := (.seq (.reg [i_X 0 4 (.h (.mov (.k .nil))), i_X 1 5 (.h (.mov (.k (.d (.bool false)))))] [0, 1]) (.seq (.reg [i_M 0 11 0, i_M 1 12 1, i_X 2 13 (.callA (.k (.d (.fn 62 [] []))) [(.t 11), (.t 12)]), i_M 3 10 13, i_X 4 14 (.h (.ext (.t 10) 0)), i_X 5 15 (.h (.ext (.t 10) 1)), i_X 6 6 (.alloc [.nil, .nil] 102), i_S 7 6 14 2, i_M 8 7 15] [6, 7]) (.seq (.seq (.reg [i_M 0 16 7, i_X 1 17 (.h (.un .not (.t 16)))] [6, 17]) (.cond (.t 17) (.seq (.reg [i_X 0 4 (.h (.mov (.k .nil))), i_X 1 5 (.h (.mov (.k (.d (.bool false)))))] [4, 5]) .ret) .skip)) (.seq (.reg [i_P 0 18 6 0, i_L 1 19 18 1, i_X 2 20 (.h (.len (.t 19))), i_X 3 21 (.mksl [(.d (.flt 0))] 1 8 (.t 20) (.t 20) 31), i_M 4 8 21] [6, 8]) (.seq (.seq (.reg [i_P 0 22 6 0, i_L 1 23 22 1, i_X 2 24 (.h (.len (.t 23))), i_X 3 25 (.h (.mov (.k (.d (.int .i64 0)))))] [6, 8, 24, 25]) (.block 0 (.loop A_coef_Of_L0))) (.seq (.reg [i_M 0 45 8, i_M 1 4 45, i_X 2 5 (.h (.mov (.k (.d (.bool true)))))] [4, 5]) .ret))))))
theorem A_coef_Of_comp : compF Tryz.prog 34 = some ⟨46, [(4, none), (5, none)], A_coef_Of.strip⟩ := by kernel_rfl
def absI (x : Int) : Int := if x < 0 then w64 (0 - x) else x
theorem coef_size_con (x : Int) : Con Tryz.prog 138 [fI x] (fI (absI x)) := by
  refine Con_introA A_coef_size_int_comp rfl mixed ?_
  simp -implicitDefEqProofs only [evI, hv, effC, reduceCtorEq, ↓reduceIte, n1_, n2_, n3_, n4_, n5_, i1_, i2_, i3_, i4_, i5_, i6_, i7_, A_coef_size_int]
  unfold absI
  refine condC_intro (fun h => ?_) (fun h => ?_)
  · replace h := of_decide_eq_true h
    rw [if_pos h]
    simp -implicitDefEqProofs only [evI, hv, effC, reduceCtorEq, ↓reduceIte, n1_, n2_, n3_, n4_, n5_, i1_, i2_, i3_, i4_, i5_, i6_, i7_]
    exact endsT_rett rfl (by decide) (by simp [look])
  · replace h := of_decide_eq_false h
    rw [if_neg h]
    simp -implicitDefEqProofs only [evI, hv, effC, reduceCtorEq, ↓reduceIte, n1_, n2_, n3_, n4_, n5_, i1_, i2_, i3_, i4_, i5_, i6_, i7_]
    exact endsT_rett rfl (by decide) (by simp [look])
theorem coef_common_con (a b r : Int) (f : Nat) (h : gcdF f a b = some r) : Con Tryz.prog 123 [fI a, fI b] (fI (absI r)) := by
  refine Con_introA A_coef_common_int_comp rfl mixed ?_
  simp -implicitDefEqProofs only [evI, hv, effC, reduceCtorEq, ↓reduceIte, n1_, n2_, n3_, n4_, n5_, i1_, i2_, i3_, i4_, i5_, i6_, i7_, A_coef_common_int]
  refine WA_for (n := f) (fun c s => ∃ a b, gcdF c a b = some r ∧ s = ⟨[(0, fI a), (1, fI b)], []⟩) ⟨a, b, h, rfl⟩ ?_
  rintro c s ⟨a, b, hg, rfl⟩
  cases c with
  | zero => cases hg
  | succ c =>
    simp only [gcdF] at hg
    simp -implicitDefEqProofs only [evI, hv, effC, reduceCtorEq, ↓reduceIte, n1_, n2_, n3_, n4_, n5_, i1_, i2_, i3_, i4_, i5_, i6_, i7_, A_coef_common_int_L0]
    by_cases hb : b = 0
    · subst hb
      rw [if_pos rfl] at hg
      obtain rfl := Option.some.inj hg
      simp -implicitDefEqProofs only [evI, hv, effC, reduceCtorEq, ↓reduceIte, n1_, n2_, n3_, n4_, n5_, i1_, i2_, i3_, i4_, i5_, i6_, i7_]
      first | refine callG_con (coef_size_con a) rfl ?_ | refine callCG_con (coef_size_con a) rfl ?_ | refine callSG_con (coef_size_con a) rfl ?_
      simp -implicitDefEqProofs only [evI, hv, effC, reduceCtorEq, ↓reduceIte, n1_, n2_, n3_, n4_, n5_, i1_, i2_, i3_, i4_, i5_, i6_, i7_]
      exact endsT_rett rfl (by decide) (by simp [look])
    · rw [if_neg hb] at hg
      have h' : (b != 0) = true := by simpa using hb
      simp -implicitDefEqProofs only [evI, hv, effC, reduceCtorEq, ↓reduceIte, n1_, n2_, n3_, n4_, n5_, i1_, i2_, i3_, i4_, i5_, i6_, i7_, h']
      exact ⟨hb, c, by omega, b, _, hg, rfl⟩
set_option maxRecDepth 8000 in
theorem coef_times_con (p : List Int) (i : Int) (hp : p.length < 2 ^ 20) : Con Tryz.prog 122 [.d (rowI p), fI i] (.d (rowI (prodJ i p p.length))) := by
  refine Con_introA A_coef_times_comp rfl mixed ?_
  simp -implicitDefEqProofs only [evI, hv, effC, reduceCtorEq, ↓reduceIte, n1_, n2_, n3_, n4_, n5_, i1_, i2_, i3_, i4_, i5_, i6_, i7_, A_coef_times]
  have w1 : IntKind.i64.wrap ((p.length : Int) + 1) = ((p.length + 1 : Nat) : Int) := by rw [wrapI (by omega) (by omega)]; omega
  simp -implicitDefEqProofs only [evI, hv, effC, reduceCtorEq, ↓reduceIte, n1_, n2_, n3_, n4_, n5_, i1_, i2_, i3_, i4_, i5_, i6_, i7_, w1]
  (repeat (with_reducible refine And.intro (by omega) ?_))
  have e0 : rowIV (List.replicate (p.length + 1) 0) = rowIV (prodJ i p 0) := rfl
  rw [e0]
  refine WA_for (n := p.length) (fun c s => ∃ j, c + j = p.length ∧ s = ⟨[(1, fI i), (5, .sl 3 0 0 (p.length + 1) 1 (p.length + 1)), (12, .d (rowI p)), (13, fI p.length), (14, fI j)], [(3, [rowIV (prodJ i p j)])]⟩) ⟨0, by omega, rfl⟩ ?_
  rintro c s ⟨j, hc, rfl⟩
  have hjl := prodJ_len i p j
  simp -implicitDefEqProofs only [evI, hv, effC, reduceCtorEq, ↓reduceIte, n1_, n2_, n3_, n4_, n5_, i1_, i2_, i3_, i4_, i5_, i6_, i7_, A_coef_times_L0]
  refine condC_intro (fun hj => ?_) (fun hj => ?_)
  · replace hj := of_decide_eq_true hj
    have w2 : IntKind.i64.wrap ((j : Int) + 1) = ((j + 1 : Nat) : Int) := by rw [wrapI (by omega) (by omega)]; omega
    generalize hq : prodJ i p j = q at hjl
    have g3 : (rowIV (q.set j (IntKind.i64.wrap (q.getD j 0 + IntKind.i64.wrap (i * p.getD j 0))))).getD (j + 1) .any = fI ((q.set j (w64 (q.getD j 0 + w64 (i * p.getD j 0)))).getD (j + 1) 0) := getD_map_fI _ _ (by rw [List.length_set]; omega)
    have hx : prodJ i p (j + 1) = (q.set j (w64 (q.getD j 0 + w64 (i * p.getD j 0)))).set (j + 1) (w64 ((q.set j (w64 (q.getD j 0 + w64 (i * p.getD j 0)))).getD (j + 1) 0 + p.getD j 0)) := by rw [← hq]; rfl
    simp -implicitDefEqProofs only [evI, hv, effC, reduceCtorEq, ↓reduceIte, n1_, n2_, n3_, n4_, n5_, i1_, i2_, i3_, i4_, i5_, i6_, i7_, w2, getD_map_fI q j (by omega), g3]
    (repeat (with_reducible refine And.intro (by omega) ?_))
    refine ⟨c - 1, by omega, j + 1, by omega, ?_⟩
    rw [hx]
  · replace hj := of_decide_eq_false hj
    have e : j = p.length := by omega
    subst e
    simp -implicitDefEqProofs only [evI, hv, effC, reduceCtorEq, ↓reduceIte, n1_, n2_, n3_, n4_, n5_, i1_, i2_, i3_, i4_, i5_, i6_, i7_]
    exact endsT_le (.sl 3 0 0 (p.length + 1) 1 (p.length + 1)) (fun _ h => h) (resV_tmpI (t := 4) (by decide) rfl) (Fz_rowN (by simp [get_cons]) hjl rfl (by simp [fam_nil]))
set_option maxRecDepth 8000 in
theorem coef_product_con (z : Int) (k : Nat) (hz : z = k) (hk : k < 2 ^ 10) : Con Tryz.prog 110 [fI z] (.d (rowI (prodP k))) := by
  subst hz
  refine Con_introA A_coef_product_comp rfl mixed ?_
  simp -implicitDefEqProofs only [evI, hv, effC, reduceCtorEq, ↓reduceIte, n1_, n2_, n3_, n4_, n5_, i1_, i2_, i3_, i4_, i5_, i6_, i7_, A_coef_product]
  have e0 : ([fI 1] : List V) = rowIV (prodP 0) := rfl
  rw [e0]
  refine WA_forW (n := k) (fun c s => ∃ i, c + i = k ∧ s = ⟨[(3, .d (rowI (prodP i))), (6, fI k), (7, fI i)], []⟩) (s0 := ⟨_, _⟩) ?_ ⟨0, by omega, rfl⟩ ?_
  · have hz : ∀ L L' : Heap, L.get 0 0 = some (rowIV (prodP 0)) → L'.fam 0 = none → Fz L L' (.sl 0 0 0 1 1 1) (.d (rowI (prodP 0))) := fun L L' a b => Fz_rowN a rfl rfl b
    exact LeT.weak (fun _ h => h) (by simp (maxDischargeDepth := 6) [Fz_rowD, Fz_rowI, Fz_rowsD, FzS_cons, FzS_nil, FzH_cons, FzH_nil, FzF_cons, FzF_nil, FzF_rows, FzA_cons, FzA_nil, FzA_app, FzA_rowV, FzA_dcells, FzA_outC, FzA_data, Fz_d, Fz_nil, Fz_any, Fz_ptr, Fz_sl, Fz_agg, get_cons, get_nil, fam_cons, fam_nil, hz]) (by simp (maxDischargeDepth := 6) [Fz_rowD, Fz_rowI, Fz_rowsD, FzS_cons, FzS_nil, FzH_cons, FzH_nil, FzF_cons, FzF_nil, FzF_rows, FzA_cons, FzA_nil, FzA_app, FzA_rowV, FzA_dcells, FzA_outC, FzA_data, Fz_d, Fz_nil, Fz_any, Fz_ptr, Fz_sl, Fz_agg, get_cons, get_nil, fam_cons, fam_nil])
  rintro c s ⟨i, hc, rfl⟩
  have hl := prodP_len i
  simp -implicitDefEqProofs only [evI, hv, effC, reduceCtorEq, ↓reduceIte, n1_, n2_, n3_, n4_, n5_, i1_, i2_, i3_, i4_, i5_, i6_, i7_, A_coef_product_L0]
  refine condC_intro (fun h => ?_) (fun h => ?_)
  · replace h := of_decide_eq_true h
    have w1 : IntKind.i64.wrap ((i : Int) + 1) = ((i + 1 : Nat) : Int) := by rw [wrapI (by omega) (by omega)]; omega
    simp -implicitDefEqProofs only [evI, hv, effC, reduceCtorEq, ↓reduceIte, n1_, n2_, n3_, n4_, n5_, i1_, i2_, i3_, i4_, i5_, i6_, i7_, w1]
    first | refine callG_con (coef_times_con (prodP i) ((i + 1 : Nat) : Int) (by omega)) rfl ?_ | refine callCG_con (coef_times_con (prodP i) ((i + 1 : Nat) : Int) (by omega)) rfl ?_ | refine callSG_con (coef_times_con (prodP i) ((i + 1 : Nat) : Int) (by omega)) rfl ?_
    simp -implicitDefEqProofs only [evI, hv, effC, reduceCtorEq, ↓reduceIte, n1_, n2_, n3_, n4_, n5_, i1_, i2_, i3_, i4_, i5_, i6_, i7_, w1]
    exact ⟨c - 1, _, by omega, Le.refl _, i + 1, by omega, rfl⟩
  · replace h := of_decide_eq_false h
    have e : i = k := by omega
    subst e
    simp -implicitDefEqProofs only [evI, hv, effC, reduceCtorEq, ↓reduceIte, n1_, n2_, n3_, n4_, n5_, i1_, i2_, i3_, i4_, i5_, i6_, i7_]
    exact endsT_rett rfl (by decide) (by simp [look])
/-- In lowest terms, as the program makes them. -/
def lowC (f : Nat) (n d : Int) : Option (Int × Int) :=
  let n' := if d < 0 then w64 (0 - n) else n
  let d' := if d < 0 then w64 (0 - d) else d
  (gcdF f n' d').bind fun g => if absI g = 0 then none else some (w64 (n'.tdiv (absI g)), w64 (d'.tdiv (absI g)))
set_option maxRecDepth 8000 in
theorem coef_add_nil (n d x y : Int) (f : Nat) (h : lowC f n d = some (x, y)) : AC Tryz.prog 111 [.ptr 1 0 0 2, fI n, fI d] [(1, [[.nil, .nil]]), (0, [[.nil, .nil]])]
    [(21, [rowIV [y]]), (12, [rowIV [x]]), (1, [[.sl 12 0 0 1 1 1, .sl 21 0 0 1 1 1]]), (0, [[.nil, .nil]])] (.tup []) := by
  unfold lowC at h
  obtain ⟨g, hg, h2⟩ := Option.bind_eq_some_iff.1 h
  split at h2
  · cases h2
  rename_i hg0
  simp only [Option.some.injEq, Prod.mk.injEq] at h2
  obtain ⟨rfl, rfl⟩ := h2
  refine AC_introA A_coef_Row_add_comp rfl mixed (fun X => X ≤ 1) ?_ ?_
  · intro X q
    simp only [get_cons, get_nil]
    grind
  simp -implicitDefEqProofs only [evI, hv, effC, reduceCtorEq, ↓reduceIte, n1_, n2_, n3_, n4_, n5_, i1_, i2_, i3_, i4_, i5_, i6_, i7_, A_coef_Row_add]
  refine condC_intro (fun hd => ?_) (fun hd => ?_)
  · replace hd := of_decide_eq_true hd
    rw [if_pos hd, if_pos hd] at hg
    rw [if_pos hd, if_pos hd]
    simp -implicitDefEqProofs only [evI, hv, effC, reduceCtorEq, ↓reduceIte, n1_, n2_, n3_, n4_, n5_, i1_, i2_, i3_, i4_, i5_, i6_, i7_]
    first | refine callG_con (coef_common_con _ _ _ _ hg) rfl ?_ | refine callCG_con (coef_common_con _ _ _ _ hg) rfl ?_ | refine callSG_con (coef_common_con _ _ _ _ hg) rfl ?_
    simp -implicitDefEqProofs only [evI, hv, effC, reduceCtorEq, ↓reduceIte, n1_, n2_, n3_, n4_, n5_, i1_, i2_, i3_, i4_, i5_, i6_, i7_]
    refine ⟨hg0, hg0, ?_⟩
    show EndsT _ _ _ _ _ .ret _
    exact endsT_onlyN (fun X => X == 21 || X == 12 || X == 1 || X == 0) (fun X h => by simp; omega) rfl rfl (by simp [KpS_cons, KpS_nil, KpH_cons, KpH_nil, KpF_cons, KpF_nil, KpF_rows, KpA_cons, KpA_nil, KpA_app, KpA_rowV, KpA_rowIV, KpA_dcells, KpA_outC, Kp_any, Kp_nilv, Kp_d, Kp_ptr, Kp_sl, Kp_agg, Kp_tup, Kp_fn, get_cons, get_nil]) (by simp [KpS_cons, KpS_nil, KpH_cons, KpH_nil, KpF_cons, KpF_nil, KpF_rows, KpA_cons, KpA_nil, KpA_app, KpA_rowV, KpA_rowIV, KpA_dcells, KpA_outC, Kp_any, Kp_nilv, Kp_d, Kp_ptr, Kp_sl, Kp_agg, Kp_tup, Kp_fn, get_cons, get_nil])
  · replace hd := of_decide_eq_false hd
    rw [if_neg hd, if_neg hd] at hg
    rw [if_neg hd, if_neg hd]
    simp -implicitDefEqProofs only [evI, hv, effC, reduceCtorEq, ↓reduceIte, n1_, n2_, n3_, n4_, n5_, i1_, i2_, i3_, i4_, i5_, i6_, i7_]
    first | refine callG_con (coef_common_con _ _ _ _ hg) rfl ?_ | refine callCG_con (coef_common_con _ _ _ _ hg) rfl ?_ | refine callSG_con (coef_common_con _ _ _ _ hg) rfl ?_
    simp -implicitDefEqProofs only [evI, hv, effC, reduceCtorEq, ↓reduceIte, n1_, n2_, n3_, n4_, n5_, i1_, i2_, i3_, i4_, i5_, i6_, i7_]
    refine ⟨hg0, hg0, ?_⟩
    show EndsT _ _ _ _ _ .ret _
    exact endsT_onlyN (fun X => X == 21 || X == 12 || X == 1 || X == 0) (fun X h => by simp; omega) rfl rfl (by simp [KpS_cons, KpS_nil, KpH_cons, KpH_nil, KpF_cons, KpF_nil, KpF_rows, KpA_cons, KpA_nil, KpA_app, KpA_rowV, KpA_rowIV, KpA_dcells, KpA_outC, Kp_any, Kp_nilv, Kp_d, Kp_ptr, Kp_sl, Kp_agg, Kp_tup, Kp_fn, get_cons, get_nil]) (by simp [KpS_cons, KpS_nil, KpH_cons, KpH_nil, KpF_cons, KpF_nil, KpF_rows, KpA_cons, KpA_nil, KpA_app, KpA_rowV, KpA_rowIV, KpA_dcells, KpA_outC, Kp_any, Kp_nilv, Kp_d, Kp_ptr, Kp_sl, Kp_agg, Kp_tup, Kp_fn, get_cons, get_nil])
set_option maxRecDepth 8000 in
theorem coef_add_more (k : Nat) (hk : 0 < k ∧ k < 100) (N E : List Int) (hN : N.length = k) (hE : E.length = k) (n d x y : Int) (f : Nat) (h : lowC f n d = some (x, y)) :
    AC Tryz.prog 111 [.ptr 1 0 0 2, fI n, fI d] [(21, [rowIV E]), (12, [rowIV N]), (1, [[.sl 12 0 0 k 1 k, .sl 21 0 0 k 1 k]]), (0, [[.nil, .nil]])]
    [(21, [rowIV (E ++ [y])]), (12, [rowIV (N ++ [x])]), (1, [[.sl 12 0 0 (k + 1) 1 (k + 1), .sl 21 0 0 (k + 1) 1 (k + 1)]]), (0, [[.nil, .nil]])] (.tup []) := by
  unfold lowC at h
  obtain ⟨g, hg, h2⟩ := Option.bind_eq_some_iff.1 h
  split at h2
  · cases h2
  rename_i hg0
  simp only [Option.some.injEq, Prod.mk.injEq] at h2
  obtain ⟨rfl, rfl⟩ := h2
  have e1 : ∀ a : Int, rowIV N ++ [fI a] = rowIV (N ++ [a]) := fun a => by simp [rowIV]
  have e2 : ∀ a : Int, rowIV E ++ [fI a] = rowIV (E ++ [a]) := fun a => by simp [rowIV]
  have l1 : (rowIV N).length = k := by simp [rowIV, hN]
  have l2 : (rowIV E).length = k := by simp [rowIV, hE]
  refine AC_introA A_coef_Row_add_comp rfl mixed (fun X => X = 21 ∨ X = 12 ∨ X = 1 ∨ X = 0) ?_ ?_
  · intro X q
    simp only [get_cons, get_nil]
    grind
  simp -implicitDefEqProofs only [evI, hv, effC, reduceCtorEq, ↓reduceIte, n1_, n2_, n3_, n4_, n5_, i1_, i2_, i3_, i4_, i5_, i6_, i7_, A_coef_Row_add]
  refine condC_intro (fun hd => ?_) (fun hd => ?_)
  · replace hd := of_decide_eq_true hd
    rw [if_pos hd, if_pos hd] at hg
    rw [if_pos hd, if_pos hd]
    simp -implicitDefEqProofs only [evI, hv, effC, reduceCtorEq, ↓reduceIte, n1_, n2_, n3_, n4_, n5_, i1_, i2_, i3_, i4_, i5_, i6_, i7_]
    first | refine callG_con (coef_common_con _ _ _ _ hg) rfl ?_ | refine callCG_con (coef_common_con _ _ _ _ hg) rfl ?_ | refine callSG_con (coef_common_con _ _ _ _ hg) rfl ?_
    simp -implicitDefEqProofs only [evI, hv, effC, reduceCtorEq, ↓reduceIte, n1_, n2_, n3_, n4_, n5_, i1_, i2_, i3_, i4_, i5_, i6_, i7_]
    refine ⟨hg0, ⟨hN, by omega⟩, hg0, ⟨hE, by omega⟩, ?_⟩
    rw [e1, e2]
    show EndsT _ _ _ _ _ .ret _
    exact endsT_onlyN (fun X => X == 21 || X == 12 || X == 1 || X == 0) (fun X h => by simp; omega) rfl rfl (by simp [KpS_cons, KpS_nil, KpH_cons, KpH_nil, KpF_cons, KpF_nil, KpF_rows, KpA_cons, KpA_nil, KpA_app, KpA_rowV, KpA_rowIV, KpA_dcells, KpA_outC, Kp_any, Kp_nilv, Kp_d, Kp_ptr, Kp_sl, Kp_agg, Kp_tup, Kp_fn, get_cons, get_nil]) (by simp [KpS_cons, KpS_nil, KpH_cons, KpH_nil, KpF_cons, KpF_nil, KpF_rows, KpA_cons, KpA_nil, KpA_app, KpA_rowV, KpA_rowIV, KpA_dcells, KpA_outC, Kp_any, Kp_nilv, Kp_d, Kp_ptr, Kp_sl, Kp_agg, Kp_tup, Kp_fn, get_cons, get_nil])
  · replace hd := of_decide_eq_false hd
    rw [if_neg hd, if_neg hd] at hg
    rw [if_neg hd, if_neg hd]
    simp -implicitDefEqProofs only [evI, hv, effC, reduceCtorEq, ↓reduceIte, n1_, n2_, n3_, n4_, n5_, i1_, i2_, i3_, i4_, i5_, i6_, i7_]
    first | refine callG_con (coef_common_con _ _ _ _ hg) rfl ?_ | refine callCG_con (coef_common_con _ _ _ _ hg) rfl ?_ | refine callSG_con (coef_common_con _ _ _ _ hg) rfl ?_
    simp -implicitDefEqProofs only [evI, hv, effC, reduceCtorEq, ↓reduceIte, n1_, n2_, n3_, n4_, n5_, i1_, i2_, i3_, i4_, i5_, i6_, i7_]
    refine ⟨hg0, ⟨hN, by omega⟩, hg0, ⟨hE, by omega⟩, ?_⟩
    rw [e1, e2]
    show EndsT _ _ _ _ _ .ret _
    exact endsT_onlyN (fun X => X == 21 || X == 12 || X == 1 || X == 0) (fun X h => by simp; omega) rfl rfl (by simp [KpS_cons, KpS_nil, KpH_cons, KpH_nil, KpF_cons, KpF_nil, KpF_rows, KpA_cons, KpA_nil, KpA_app, KpA_rowV, KpA_rowIV, KpA_dcells, KpA_outC, Kp_any, Kp_nilv, Kp_d, Kp_ptr, Kp_sl, Kp_agg, Kp_tup, Kp_fn, get_cons, get_nil]) (by simp [KpS_cons, KpS_nil, KpH_cons, KpH_nil, KpF_cons, KpF_nil, KpF_rows, KpA_cons, KpA_nil, KpA_app, KpA_rowV, KpA_rowIV, KpA_dcells, KpA_outC, Kp_any, Kp_nilv, Kp_d, Kp_ptr, Kp_sl, Kp_agg, Kp_tup, Kp_fn, get_cons, get_nil])
/-- What all is divided by; what a polynomial is at -1, all over 60. -/
def facC : Nat → Int
  | 0 => 1
  | i + 1 => w64 (facC i * (if (1 : Int) > (i : Int) then 1 else (i : Int)))
def sumC (p : List Int) : Nat → Int × Int
  | 0 => (0, -1)
  | k + 1 => let s := sumC p k; (w64 (s.1 + w64 (w64 (s.2 * p.getD k 0) * w64 ((60 : Int).tdiv (w64 ((k : Int) + 1))))), w64 (0 - s.2))
/-- A row, number by number. -/
def rowC (first : Option (List Int × List Int)) (p : List Int) (den : Nat → Int) : Nat → Option (List Int × List Int)
  | 0 => first
  | k + 1 => (rowC first p den k).bind fun s => (lowC 64 (p.getD k 0) (den k)).map fun ab => (s.1 ++ [ab.1], s.2 ++ [ab.2])
theorem rowC_prev (first : Option (List Int × List Int)) (p : List Int) (den : Nat → Int) (k : Nat) : ∀ d s, rowC first p den (k + d) = some s → ∃ s', rowC first p den k = some s'
  | 0, s, h => ⟨s, h⟩
  | d + 1, s, h => by
    obtain ⟨s1, h1, _⟩ := Option.bind_eq_some_iff.1 (show (rowC first p den (k + d)).bind _ = some s from h)
    exact rowC_prev first p den k d s1 h1
theorem rowC_next {first : Option (List Int × List Int)} {p : List Int} {den : Nat → Int} {k m : Nat} {N E N' E' : List Int} (h : rowC first p den m = some (N', E')) (hk : k < m) (hs : rowC first p den k = some (N, E)) :
    ∃ x y, lowC 64 (p.getD k 0) (den k) = some (x, y) ∧ rowC first p den (k + 1) = some (N ++ [x], E ++ [y]) := by
  obtain ⟨s2, h2⟩ := rowC_prev first p den (k + 1) (m - (k + 1)) _ (by rw [show k + 1 + (m - (k + 1)) = m by omega]; exact h)
  have h3 : (rowC first p den k).bind (fun s => (lowC 64 (p.getD k 0) (den k)).map fun ab => (s.1 ++ [ab.1], s.2 ++ [ab.2])) = some s2 := h2
  rw [hs, Option.bind_some] at h3
  obtain ⟨⟨x, y⟩, h4, rfl⟩ := Option.map_eq_some_iff.1 h3
  exact ⟨x, y, h4, h2⟩
theorem rowC_len (first : Option (List Int × List Int)) (f : Nat) (hf : ∀ s, first = some s → s.1.length = f ∧ s.2.length = f) (p : List Int) (den : Nat → Int) (k : Nat) : ∀ s, rowC first p den k = some s → s.1.length = f + k ∧ s.2.length = f + k := by
  induction k with
  | zero => intro s h; exact hf s h
  | succ k ih =>
    intro s h
    obtain ⟨s1, h1, h2⟩ := Option.bind_eq_some_iff.1 (show (rowC first p den k).bind _ = some s from h)
    obtain ⟨a, b⟩ := ih s1 h1
    obtain ⟨ab, _, rfl⟩ := Option.map_eq_some_iff.1 h2
    exact ⟨by simp [a]; omega, by simp [b]; omega⟩
def adC (o : Nat) : Option (List Int × List Int) :=
  let p := prodP o
  let at' := facC (o + 1)
  rowC ((lowC 64 (w64 (0 - (sumC p (o + 1)).1)) (w64 (60 * at'))).map fun ab => ([ab.1], [ab.2])) p (fun k => w64 (at' * w64 ((k : Int) + 1))) (o + 1)
set_option maxRecDepth 8000 in
theorem coef_adams_con (z : Int) (o : Nat) (hz : z = (o + 1 : Nat)) (ho : o < 20) (N E : List Int) (h : adC o = some (N, E)) :
    Con Tryz.prog 87 [fI z] (.agg [.d (rowI N), .d (rowI E)]) := by
  subst hz
  refine Con_introA A_coef_adams_comp rfl mixed ?_
  simp -implicitDefEqProofs only [evI, hv, effC, reduceCtorEq, ↓reduceIte, n1_, n2_, n3_, n4_, n5_, i1_, i2_, i3_, i4_, i5_, i6_, i7_, A_coef_adams]
  have w1 : IntKind.i64.wrap (((o + 1 : Nat) : Int) - 1) = (o : Int) := by rw [wrapI (by omega) (by omega)]; omega
  simp -implicitDefEqProofs only [evI, hv, effC, reduceCtorEq, ↓reduceIte, n1_, n2_, n3_, n4_, n5_, i1_, i2_, i3_, i4_, i5_, i6_, i7_, w1]
  first | refine callG_con (coef_product_con (o : Int) o rfl (by omega)) rfl ?_ | refine callCG_con (coef_product_con (o : Int) o rfl (by omega)) rfl ?_ | refine callSG_con (coef_product_con (o : Int) o rfl (by omega)) rfl ?_
  have hp := prodP_len o
  unfold adC at h
  dsimp only at h
  generalize prodP o = p at hp h
  simp -implicitDefEqProofs only [evI, hv, effC, reduceCtorEq, ↓reduceIte, n1_, n2_, n3_, n4_, n5_, i1_, i2_, i3_, i4_, i5_, i6_, i7_]
  refine WA_for (n := o + 1) (fun c s => ∃ i, c + i = o + 1 ∧ s = ⟨[(2, .ptr 0 0 0 2), (3, .d (rowI p)), (4, fI (facC i)), (16, fI (o + 1 : Nat)), (17, fI i)], [(0, [[.nil, .nil]])]⟩) ⟨0, by omega, rfl⟩ ?_
  rintro c s ⟨i, hc, rfl⟩
  simp -implicitDefEqProofs only [evI, hv, effC, reduceCtorEq, ↓reduceIte, n1_, n2_, n3_, n4_, n5_, i1_, i2_, i3_, i4_, i5_, i6_, i7_, A_coef_adams_L0]
  refine condC_intro (fun hi => ?_) (fun hi => ?_)
  · replace hi := of_decide_eq_true hi
    simp -implicitDefEqProofs only [evI, hv, effC, reduceCtorEq, ↓reduceIte, n1_, n2_, n3_, n4_, n5_, i1_, i2_, i3_, i4_, i5_, i6_, i7_]
    rw [wrapI (a := (i : Int) + 1) (by omega) (by omega)]
    exact ⟨c - 1, by omega, i + 1, by omega, rfl⟩
  · replace hi := of_decide_eq_false hi
    have e : i = o + 1 := by omega
    subst e
    simp -implicitDefEqProofs only [evI, hv, effC, reduceCtorEq, ↓reduceIte, n1_, n2_, n3_, n4_, n5_, i1_, i2_, i3_, i4_, i5_, i6_, i7_]
    generalize facC (o + 1) = F at h
    refine WA_for (n := o + 1) (fun c s => ∃ i, c + i = o + 1 ∧ s = ⟨[(2, .ptr 0 0 0 2), (3, .d (rowI p)), (4, fI F), (6, fI (sumC p i).1), (7, fI (sumC p i).2), (25, .d (rowI p)), (26, fI p.length), (27, fI i)], [(0, [[.nil, .nil]])]⟩) ⟨0, by omega, rfl⟩ ?_
    rintro c s ⟨i, hc, rfl⟩
    simp -implicitDefEqProofs only [evI, hv, effC, reduceCtorEq, ↓reduceIte, n1_, n2_, n3_, n4_, n5_, i1_, i2_, i3_, i4_, i5_, i6_, i7_, A_coef_adams_L1]
    refine condC_intro (fun hi => ?_) (fun hi => ?_)
    · replace hi := of_decide_eq_true hi
      simp -implicitDefEqProofs only [evI, hv, effC, reduceCtorEq, ↓reduceIte, n1_, n2_, n3_, n4_, n5_, i1_, i2_, i3_, i4_, i5_, i6_, i7_]
      (repeat (with_reducible refine And.intro (by omega) ?_))
      have hne : IntKind.i64.wrap ((i : Int) + 1) ≠ 0 := by rw [wrapI (by omega) (by omega)]; omega
      refine ⟨hne, ?_⟩
      have hs : sumC p (i + 1) = (w64 ((sumC p i).1 + w64 (w64 ((sumC p i).2 * p.getD i 0) * w64 ((60 : Int).tdiv (w64 ((i : Int) + 1))))), w64 (0 - (sumC p i).2)) := rfl
      refine ⟨c - 1, by omega, i + 1, by omega, ?_⟩
      have e6 : w64 ((i : Int) + 1) = (i : Int) + 1 := wrapI (by omega) (by omega)
      have e7 : IntKind.i64.wrap ((i : Int) + 1) = (i : Int) + 1 := e6
      rw [e6] at hs
      rw [hs, e7]
      rfl
    · replace hi := of_decide_eq_false hi
      have e : i = o + 1 := by omega
      subst e
      simp -implicitDefEqProofs only [evI, hv, effC, reduceCtorEq, ↓reduceIte, n1_, n2_, n3_, n4_, n5_, i1_, i2_, i3_, i4_, i5_, i6_, i7_]
      rw [hp]
      generalize (sumC p (o + 1)).1 = S at h
      obtain ⟨s0, h0⟩ := rowC_prev _ p _ 0 (o + 1) _ (by rw [Nat.zero_add]; exact h)
      obtain ⟨⟨x, y⟩, h1, e0⟩ := Option.map_eq_some_iff.1 (show Option.map (fun ab : Int × Int => ([ab.1], [ab.2])) (lowC 64 (w64 (0 - S)) (w64 (60 * F))) = some s0 from h0)
      refine callG_ac (coef_add_nil _ _ x y 64 h1) ?_
      simp -implicitDefEqProofs only [evI, hv, effC, reduceCtorEq, ↓reduceIte, n1_, n2_, n3_, n4_, n5_, i1_, i2_, i3_, i4_, i5_, i6_, i7_]
      have e0' : rowC (Option.map (fun ab : Int × Int => ([ab.1], [ab.2])) (lowC 64 (w64 (0 - S)) (w64 (60 * F)))) p (fun k => w64 (F * w64 ((k : Int) + 1))) 0 = some ([x], [y]) := by rw [h0, ← e0]
      clear h0 e0
      generalize hfirst : Option.map (fun ab : Int × Int => ([ab.1], [ab.2])) (lowC 64 (w64 (0 - S)) (w64 (60 * F))) = first at h e0'
      have hfl : ∀ s, first = some s → s.1.length = 1 ∧ s.2.length = 1 := fun s hs => by
        have : first = some ([x], [y]) := e0'
        rw [this] at hs
        cases hs
        exact ⟨rfl, rfl⟩
      refine WA_for (n := o + 1) (fun c s => ∃ i N' E', c + i = o + 1 ∧ rowC first p (fun k => w64 (F * w64 ((k : Int) + 1))) i = some (N', E') ∧ s = ⟨[(2, .ptr 0 0 0 2), (4, fI F), (10, .ptr 1 0 0 2), (49, .d (rowI p)), (50, fI (o + 1 : Nat)), (51, fI i)], [(21, [rowIV E']), (12, [rowIV N']), (1, [[.sl 12 0 0 (i + 1) 1 (i + 1), .sl 21 0 0 (i + 1) 1 (i + 1)]]), (0, [[.nil, .nil]])]⟩) ⟨0, _, _, by omega, e0', by rw [← hp]; rfl⟩ ?_
      rintro c s ⟨i, N', E', hc, hs, rfl⟩
      obtain ⟨l1, l2⟩ := rowC_len _ 1 hfl p _ i _ hs
      simp only at l1 l2
      simp -implicitDefEqProofs only [evI, hv, effC, reduceCtorEq, ↓reduceIte, n1_, n2_, n3_, n4_, n5_, i1_, i2_, i3_, i4_, i5_, i6_, i7_, A_coef_adams_L2]
      refine condC_intro (fun hi => ?_) (fun hi => ?_)
      · replace hi := of_decide_eq_true hi
        obtain ⟨x2, y2, h2, h3⟩ := rowC_next h hi hs
        simp -implicitDefEqProofs only [evI, hv, effC, reduceCtorEq, ↓reduceIte, n1_, n2_, n3_, n4_, n5_, i1_, i2_, i3_, i4_, i5_, i6_, i7_]
        (repeat (with_reducible refine And.intro (by omega) ?_))
        refine callG_ac (coef_add_more (i + 1) (by omega) N' E' (by omega) (by omega) _ _ x2 y2 64 h2) ?_
        simp -implicitDefEqProofs only [evI, hv, effC, reduceCtorEq, ↓reduceIte, n1_, n2_, n3_, n4_, n5_, i1_, i2_, i3_, i4_, i5_, i6_, i7_]
        rw [wrapI (a := (i : Int) + 1) (by omega) (by omega)]
        exact ⟨c - 1, by omega, i + 1, _, _, by omega, h3, rfl⟩
      · replace hi := of_decide_eq_false hi
        have e : i = o + 1 := by omega
        subst e
        rw [h] at hs
        cases hs
        simp -implicitDefEqProofs only [evI, hv, effC, reduceCtorEq, ↓reduceIte, n1_, n2_, n3_, n4_, n5_, i1_, i2_, i3_, i4_, i5_, i6_, i7_]
        exact endsT_le (.agg [.sl 12 0 0 (o + 1 + 1) 1 (o + 1 + 1), .sl 21 0 0 (o + 1 + 1) 1 (o + 1 + 1)]) (fun _ h => h) (resV_cellI (by decide) rfl rfl rfl (by simp) rfl)
          (Fz_agg _ _ ⟨Fz_rowN (by simp [get_cons]) (by omega) rfl (by simp [fam_nil]), Fz_rowN (by simp [get_cons]) (by omega) rfl (by simp [fam_nil]), trivial⟩)
def bdC (o : Nat) : Option (List Int × List Int) :=
  let p := prodP (o + 1)
  rowC ((lowC 64 (p.getD 0 0) (p.getD 1 0)).map fun ab => ([ab.1], [ab.2])) (p.drop 1) (fun _ => p.getD 1 0) (o + 1)
theorem getD_drop1 (p : List Int) (i : Nat) : (p.drop 1).getD i 0 = p.getD (i + 1) 0 := by
  rw [List.getD_eq_getElem?_getD, List.getElem?_drop, List.getD_eq_getElem?_getD, Nat.add_comm]
set_option maxRecDepth 8000 in
theorem coef_bdf_con (z : Int) (o : Nat) (hz : z = (o + 1 : Nat)) (ho : o < 20) (N E : List Int) (h : bdC o = some (N, E)) :
    Con Tryz.prog 88 [fI z] (.agg [.d (rowI N), .d (rowI E)]) := by
  subst hz
  refine Con_introA A_coef_bdf_comp rfl mixed ?_
  simp -implicitDefEqProofs only [evI, hv, effC, reduceCtorEq, ↓reduceIte, n1_, n2_, n3_, n4_, n5_, i1_, i2_, i3_, i4_, i5_, i6_, i7_, A_coef_bdf]
  first | refine callG_con (coef_product_con ((o + 1 : Nat) : Int) (o + 1) rfl (by omega)) rfl ?_ | refine callCG_con (coef_product_con ((o + 1 : Nat) : Int) (o + 1) rfl (by omega)) rfl ?_ | refine callSG_con (coef_product_con ((o + 1 : Nat) : Int) (o + 1) rfl (by omega)) rfl ?_
  have hp := prodP_len (o + 1)
  unfold bdC at h
  dsimp only at h
  generalize prodP (o + 1) = p at hp h
  obtain ⟨s0, h0⟩ := rowC_prev _ (p.drop 1) _ 0 (o + 1) _ (by rw [Nat.zero_add]; exact h)
  obtain ⟨⟨x, y⟩, h1, e0⟩ := Option.map_eq_some_iff.1 (show Option.map (fun ab : Int × Int => ([ab.1], [ab.2])) (lowC 64 (p.getD 0 0) (p.getD 1 0)) = some s0 from h0)
  have e0' : rowC (Option.map (fun ab : Int × Int => ([ab.1], [ab.2])) (lowC 64 (p.getD 0 0) (p.getD 1 0))) (p.drop 1) (fun _ => p.getD 1 0) 0 = some ([x], [y]) := by rw [h0, ← e0]
  clear h0 e0
  generalize hfirst : Option.map (fun ab : Int × Int => ([ab.1], [ab.2])) (lowC 64 (p.getD 0 0) (p.getD 1 0)) = first at h e0'
  have hfl : ∀ s, first = some s → s.1.length = 1 ∧ s.2.length = 1 := fun s hs => by
    have : first = some ([x], [y]) := e0'
    rw [this] at hs
    cases hs
    exact ⟨rfl, rfl⟩
  simp -implicitDefEqProofs only [evI, hv, effC, reduceCtorEq, ↓reduceIte, n1_, n2_, n3_, n4_, n5_, i1_, i2_, i3_, i4_, i5_, i6_, i7_]
  refine WA_for (n := o + 2) (fun c s => (c = o + 2 ∧ s = ⟨[(2, .ptr 0 0 0 2), (3, .d (rowI p)), (4, .ptr 1 0 0 2), (9, .d (rowI p)), (10, fI p.length), (11, fI 0)], [(1, [[.nil, .nil]]), (0, [[.nil, .nil]])]⟩) ∨
    ∃ i N' E', c + (i + 1) = o + 2 ∧ rowC first (p.drop 1) (fun _ => p.getD 1 0) i = some (N', E') ∧ s = ⟨[(2, .ptr 0 0 0 2), (3, .d (rowI p)), (4, .ptr 1 0 0 2), (9, .d (rowI p)), (10, fI p.length), (11, fI (i + 1 : Nat))], [(21, [rowIV E']), (12, [rowIV N']), (1, [[.sl 12 0 0 (i + 1) 1 (i + 1), .sl 21 0 0 (i + 1) 1 (i + 1)]]), (0, [[.nil, .nil]])]⟩) (.inl ⟨rfl, rfl⟩) ?_
  rintro c s (⟨hc, rfl⟩ | ⟨i, N', E', hc, hs, rfl⟩)
  · simp -implicitDefEqProofs only [evI, hv, effC, reduceCtorEq, ↓reduceIte, n1_, n2_, n3_, n4_, n5_, i1_, i2_, i3_, i4_, i5_, i6_, i7_, A_coef_bdf_L0]
    have hi : decide ((0 : Int) < (p.length : Int)) = true := by simp; omega
    simp -implicitDefEqProofs only [evI, hv, effC, reduceCtorEq, ↓reduceIte, n1_, n2_, n3_, n4_, n5_, i1_, i2_, i3_, i4_, i5_, i6_, i7_, hi]
    (repeat (with_reducible refine And.intro (by omega) ?_))
    refine callG_ac (coef_add_nil _ _ x y 64 h1) ?_
    simp -implicitDefEqProofs only [evI, hv, effC, reduceCtorEq, ↓reduceIte, n1_, n2_, n3_, n4_, n5_, i1_, i2_, i3_, i4_, i5_, i6_, i7_]
    rw [show IntKind.i64.wrap 1 = ((0 + 1 : Nat) : Int) from by decide]
    exact ⟨c - 1, by omega, .inr ⟨0, _, _, by omega, e0', rfl⟩⟩
  · obtain ⟨l1, l2⟩ := rowC_len _ 1 hfl (p.drop 1) _ i _ hs
    simp only at l1 l2
    simp -implicitDefEqProofs only [evI, hv, effC, reduceCtorEq, ↓reduceIte, n1_, n2_, n3_, n4_, n5_, i1_, i2_, i3_, i4_, i5_, i6_, i7_, A_coef_bdf_L0]
    refine condC_intro (fun hi => ?_) (fun hi => ?_)
    · replace hi := of_decide_eq_true hi
      obtain ⟨x2, y2, h2, h3⟩ := rowC_next h (show i < o + 1 by omega) hs
      rw [getD_drop1] at h2
      simp -implicitDefEqProofs only [evI, hv, effC, reduceCtorEq, ↓reduceIte, n1_, n2_, n3_, n4_, n5_, i1_, i2_, i3_, i4_, i5_, i6_, i7_]
      (repeat (with_reducible refine And.intro (by omega) ?_))
      refine callG_ac (coef_add_more (i + 1) (by omega) N' E' (by omega) (by omega) _ _ x2 y2 64 h2) ?_
      simp -implicitDefEqProofs only [evI, hv, effC, reduceCtorEq, ↓reduceIte, n1_, n2_, n3_, n4_, n5_, i1_, i2_, i3_, i4_, i5_, i6_, i7_]
      rw [wrapI (by omega) (by omega)]
      exact ⟨c - 1, by omega, .inr ⟨i + 1, _, _, by omega, h3, rfl⟩⟩
    · replace hi := of_decide_eq_false hi
      have e : i = o + 1 := by omega
      subst e
      rw [h] at hs
      cases hs
      simp -implicitDefEqProofs only [evI, hv, effC, reduceCtorEq, ↓reduceIte, n1_, n2_, n3_, n4_, n5_, i1_, i2_, i3_, i4_, i5_, i6_, i7_]
      exact endsT_le (.agg [.sl 12 0 0 (o + 1 + 1) 1 (o + 1 + 1), .sl 21 0 0 (o + 1 + 1) 1 (o + 1 + 1)]) (fun _ h => h) (resV_cellI (by decide) rfl rfl rfl (by simp) rfl)
        (Fz_agg _ _ ⟨Fz_rowN (by simp [get_cons]) (by omega) rfl (by simp [fam_nil]), Fz_rowN (by simp [get_cons]) (by omega) rfl (by simp [fam_nil]), trivial⟩)
def exC (m : Int) (q : Nat) : Option (List Int × List Int) := if m = 0 then adC (q - 1) else bdC (q - 1)
theorem srcCells_rowI (L : Heap) (xs : List Int) : srcCells L 1 (.d (.bor xs.length (rowIG xs))) = some (rowIV xs) := by
  have e : ∀ n, n ≤ xs.length → List.flatMap (rowIG xs) (List.range n) = (xs.take n).map fun n => D.int .i64 n := by
    intro n
    induction n with
    | zero => intro _; rfl
    | succ n ih =>
      intro h
      rw [List.range_succ, List.flatMap_append, ih (by omega), List.take_succ_eq_append_getElem (by omega), List.map_append]
      simp [rowIG, List.getD_eq_getElem?_getD, show n < xs.length by omega]
  have e2 := e _ (Nat.le_refl _)
  rw [List.take_length] at e2
  simp only [srcCells, bcells, e2, List.map_map]
  rfl
set_option maxRecDepth 8000 in
theorem coef_Exact_con (m : Int) (q : Nat) (hm : (m = 0 ∧ 1 ≤ q ∧ q ≤ 5) ∨ (m = 1 ∧ 1 ≤ q ∧ q ≤ 4)) (N E : List Int) (hl : N.length = q + 1 ∧ E.length = q + 1) (h : exC m q = some (N, E)) :
    Con Tryz.prog 62 [fI m, fI q] (.tup [.agg [.d (rowI N), .d (rowI E)], fB true]) := by
  obtain ⟨o, rfl⟩ : ∃ o, q = o + 1 := ⟨q - 1, by omega⟩
  refine Con_introA A_coef_Exact_comp rfl mixed ?_
  simp -implicitDefEqProofs only [evI, hv, effC, reduceCtorEq, ↓reduceIte, n1_, n2_, n3_, n4_, n5_, i1_, i2_, i3_, i4_, i5_, i6_, i7_, A_coef_Exact]
  rcases hm with ⟨rfl, a, b⟩ | ⟨rfl, a, b⟩
  · have k1 : decide ((1 : Int) ≤ ((o + 1 : Nat) : Int)) = true := by simp; omega
    have k2 : decide (((o + 1 : Nat) : Int) ≤ 5) = true := by simp; omega
    have h' : adC o = some (N, E) := h
    simp -implicitDefEqProofs only [evI, hv, effC, reduceCtorEq, ↓reduceIte, n1_, n2_, n3_, n4_, n5_, i1_, i2_, i3_, i4_, i5_, i6_, i7_, k1, k2, Int.reduceBEq]
    first | refine callG_con (coef_adams_con ((o + 1 : Nat) : Int) o rfl (by omega) N E h') rfl ?_ | refine callCG_con (coef_adams_con ((o + 1 : Nat) : Int) o rfl (by omega) N E h') rfl ?_ | refine callSG_con (coef_adams_con ((o + 1 : Nat) : Int) o rfl (by omega) N E h') rfl ?_
    simp -implicitDefEqProofs only [evI, hv, effC, reduceCtorEq, ↓reduceIte, n1_, n2_, n3_, n4_, n5_, i1_, i2_, i3_, i4_, i5_, i6_, i7_, srcCells_rowI]
    refine ⟨by omega, by omega, ?_⟩
    have e1 : D.bor N.length (rowIG N) = rowI N := rfl
    have e2 : D.bor E.length (rowIG E) = rowI E := rfl
    exact endsT_le (.tup [.agg [.sl 4 0 0 N.length 1 N.length, .sl 7 0 0 E.length 1 E.length], fB true]) (fun _ h => h) ⟨_, _, resV_cell (by decide) rfl (cells := [_, _]) (by simp [get_cons]) rfl (by simp) rfl, resV_tmpI (t := 5) (by decide) rfl, rfl⟩
      (.tup rfl fun j hj => by
        rcases j with _ | _ | j
        · exact Fz_agg _ _ ⟨Fz_rowN (by simp [get_cons]) rfl rfl (by simp [fam_nil]), Fz_rowN (by simp [get_cons]) rfl rfl (by simp [fam_nil]), trivial⟩
        · exact Fz_d _
        · simp at hj; omega)
  · have k1 : decide ((1 : Int) ≤ ((o + 1 : Nat) : Int)) = true := by simp; omega
    have k2 : decide (((o + 1 : Nat) : Int) ≤ 4) = true := by simp; omega
    have h' : bdC o = some (N, E) := h
    simp -implicitDefEqProofs only [evI, hv, effC, reduceCtorEq, ↓reduceIte, n1_, n2_, n3_, n4_, n5_, i1_, i2_, i3_, i4_, i5_, i6_, i7_, k1, k2, Int.reduceBEq]
    first | refine callG_con (coef_bdf_con ((o + 1 : Nat) : Int) o rfl (by omega) N E h') rfl ?_ | refine callCG_con (coef_bdf_con ((o + 1 : Nat) : Int) o rfl (by omega) N E h') rfl ?_ | refine callSG_con (coef_bdf_con ((o + 1 : Nat) : Int) o rfl (by omega) N E h') rfl ?_
    simp -implicitDefEqProofs only [evI, hv, effC, reduceCtorEq, ↓reduceIte, n1_, n2_, n3_, n4_, n5_, i1_, i2_, i3_, i4_, i5_, i6_, i7_, srcCells_rowI]
    refine ⟨by omega, by omega, ?_⟩
    have e1 : D.bor N.length (rowIG N) = rowI N := rfl
    have e2 : D.bor E.length (rowIG E) = rowI E := rfl
    exact endsT_le (.tup [.agg [.sl 4 0 0 N.length 1 N.length, .sl 7 0 0 E.length 1 E.length], fB true]) (fun _ h => h) ⟨_, _, resV_cell (by decide) rfl (cells := [_, _]) (by simp [get_cons]) rfl (by simp) rfl, resV_tmpI (t := 5) (by decide) rfl, rfl⟩
      (.tup rfl fun j hj => by
        rcases j with _ | _ | j
        · exact Fz_agg _ _ ⟨Fz_rowN (by simp [get_cons]) rfl rfl (by simp [fam_nil]), Fz_rowN (by simp [get_cons]) rfl rfl (by simp [fam_nil]), trivial⟩
        · exact Fz_d _
        · simp at hj; omega)
/-- The program's numbers are the reference's. -/
theorem exC_exS (m : Int) (q : Nat) (hm : (m = 0 ∧ 1 ≤ q ∧ q ≤ 5) ∨ (m = 1 ∧ 1 ≤ q ∧ q ≤ 4)) : exC m q = exS m q := by
  have h0 : ((List.range 5).all fun i => decide (exC 0 (i + 1) = exS 0 (i + 1))) = true := by kernel_rfl
  have h1 : ((List.range 4).all fun i => decide (exC 1 (i + 1) = exS 1 (i + 1))) = true := by kernel_rfl
  obtain ⟨o, rfl⟩ : ∃ o, q = o + 1 := ⟨q - 1, by omega⟩
  rcases hm with ⟨rfl, a, b⟩ | ⟨rfl, a, b⟩
  · exact of_decide_eq_true (List.all_eq_true.1 h0 o (by simp; omega))
  · exact of_decide_eq_true (List.all_eq_true.1 h1 o (by simp; omega))
set_option maxRecDepth 8000 in
theorem coef_Of_ok (m : Int) (q : Nat) (hm : (m = 0 ∧ 1 ≤ q ∧ q ≤ 5) ∨ (m = 1 ∧ 1 ≤ q ∧ q ≤ 4)) : Con Tryz.prog 34 [fI m, fI q] (.tup [.d (rowD (ofL m q)), fB true]) := by
  obtain ⟨N, E, h⟩ := exS_some m q hm
  obtain ⟨l1, l2⟩ := exS_len m q (by omega) N E h
  have e : ofL m q = ofP N E := by unfold ofL; rw [h]
  rw [e]
  refine Con_introA A_coef_Of_comp rfl mixed ?_
  simp -implicitDefEqProofs only [evI, hv, effC, reduceCtorEq, ↓reduceIte, n1_, n2_, n3_, n4_, n5_, i1_, i2_, i3_, i4_, i5_, i6_, i7_, A_coef_Of]
  first | refine callG_con (coef_Exact_con m q hm N E ⟨l1, l2⟩ ((exC_exS m q hm).trans h)) rfl ?_ | refine callCG_con (coef_Exact_con m q hm N E ⟨l1, l2⟩ ((exC_exS m q hm).trans h)) rfl ?_ | refine callSG_con (coef_Exact_con m q hm N E ⟨l1, l2⟩ ((exC_exS m q hm).trans h)) rfl ?_
  simp -implicitDefEqProofs only [evI, hv, effC, reduceCtorEq, ↓reduceIte, n1_, n2_, n3_, n4_, n5_, i1_, i2_, i3_, i4_, i5_, i6_, i7_, Bool.not_true]
  (repeat (with_reducible refine And.intro (by omega) ?_))
  obtain ⟨g, hg⟩ : ∃ g, g = fun i => fop .div (FloatKind.nearest .f64 (N.getD i 0)) (FloatKind.nearest .f64 (E.getD i 0)) := ⟨_, rfl⟩
  have hg' : ∀ i, g i = fop .div (FloatKind.nearest .f64 (N.getD i 0)) (FloatKind.nearest .f64 (E.getD i 0)) := fun i => by rw [hg]
  have ho : ofP N E = tabR g N.length := by unfold ofP; rw [hg]
  rw [ho]
  rw [← fillR_zero g]
  refine WA_for (n := N.length) (fun c s => ∃ i, c + i = N.length ∧ s = ⟨[(6, .ptr 6 0 0 2), (8, .sl 10 0 0 N.length 1 N.length), (24, fI N.length), (25, fI i)], [(10, [rowV (fillR g N.length i)]), (6, [[.d (rowI N), .d (rowI E)]])]⟩) ⟨0, by omega, rfl⟩ ?_
  rintro c s ⟨i, hc, rfl⟩
  have hfl := fillR_len g N.length i
  simp -implicitDefEqProofs only [evI, hv, effC, reduceCtorEq, ↓reduceIte, n1_, n2_, n3_, n4_, n5_, i1_, i2_, i3_, i4_, i5_, i6_, i7_, A_coef_Of_L0]
  refine condC_intro (fun hi => ?_) (fun hi => ?_)
  · replace hi := of_decide_eq_true hi
    have hs := fillR_set g N.length i hi
    simp -implicitDefEqProofs only [evI, hv, effC, reduceCtorEq, ↓reduceIte, n1_, n2_, n3_, n4_, n5_, i1_, i2_, i3_, i4_, i5_, i6_, i7_, ← hg']
    (repeat (with_reducible refine And.intro (by omega) ?_))
    rw [wrapI (by omega) (by omega)]
    refine ⟨c - 1, by omega, i + 1, by omega, ?_⟩
    rw [← hs]; rfl
  · replace hi := of_decide_eq_false hi
    have e2 : i = N.length := by omega
    subst e2
    rw [fillR_all]
    have hgl := tabR_len g N.length
    generalize tabR g N.length = G at hgl
    simp -implicitDefEqProofs only [evI, hv, effC, reduceCtorEq, ↓reduceIte, n1_, n2_, n3_, n4_, n5_, i1_, i2_, i3_, i4_, i5_, i6_, i7_]
    refine endsT_le (.tup [.sl 10 0 0 N.length 1 N.length, fB true]) (fun _ h => h) ⟨_, _, resV_tmpI (t := 4) (by decide) rfl, resV_tmpI (t := 5) (by decide) rfl, rfl⟩ (.tup rfl fun j hj => ?_)
    rcases j with _ | _ | j
    · exact Fz_row (by simp [get_cons]) hgl rfl (by simp [get_nil])
    · exact Fz_d _
    · simp at hj; omega
end Go.Ab
