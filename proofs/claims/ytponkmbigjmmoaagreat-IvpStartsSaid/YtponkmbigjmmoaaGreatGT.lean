/- Part 20: IG, IH, II, IJ, IK, IL, IN, IR, IS, IU, IV. -/
import Derived.Test.YtponkmbigjmmoaaGreatGS
set_option linter.unusedSimpArgs false
set_option linter.unusedVariables false
set_option maxRecDepth 8000
namespace Go.Ab
open Go Go.Proofs
def a58 : CA := (.seq (.reg [i_X 0 4 (.h (.mov (.k (.d (.bool false)))))] [0, 1]) (.seq (.reg [i_M 0 5 0, i_B 1 6 .geq 5 0, i_M 2 7 6, g_T 3 8 7 (.h (.mov (.t 0))), g_T 4 9 7 (.h (.mov (.t 1))), g_T 5 10 7 (.h (.ibin .lss (.t 8) (.t 9))), i_X 6 11 (.h (.pick (.t 7) (.t 10) (.k (.d (.bool false))))), i_M 7 4 11] [4]) .ret))
theorem a57 : f6 Tryz.prog 81 = some ⟨12, [(4, none)], a58.strip⟩ := by kernel_rfl
def b59 : CA := (.seq (.reg [i_X 0 3 (.box (.t 0) 4 81), i_X 1 6 (.h (.mov (.k (.d (.bool false)))))] [1, 2, 3]) (.seq (.seq (.reg [i_P 0 7 3 0, i_L 1 8 7 1] [1, 2, 3, 8]) (.block 0 (.seq (.reg [i_B 0 10 .eql 8 0, i_M 1 9 10] [1, 2, 3, 8, 9]) (.cond (.t 9) (.seq (.reg [i_P 0 11 3 3, i_L 1 12 11 1, i_X 2 13 (.callA (kF 83) [(.t 12)]), i_M 3 14 13, g_T 4 15 14 (.h (.padd (.t 3) 1)), g_T 5 16 14 (.load (.t 15) 1 false), g_T 6 17 14 (.h (.ibin .eql (.t 16) (kI 0))), i_X 7 18 (.h (.pick (.t 14) (.t 17) (.k (.d (.bool false))))), i_M 8 19 18, g_T 9 20 19 (.h (.padd (.t 3) 2)), g_T 10 21 19 (.load (.t 20) 1 false), g_T 11 22 19 (.h (.ibin .eql (.t 21) (kI 0))), i_X 12 23 (.h (.pick (.t 19) (.t 22) (.k (.d (.bool false))))), i_M 13 6 23] [6]) .ret) (.seq (.reg [i_B 0 25 .eql 8 1, i_M 1 24 25] [1, 2, 3, 8, 24]) (.cond (.t 24) (.seq (.reg [i_P 0 26 3 1, i_L 1 27 26 1, i_M 2 28 2, i_X 3 29 (.callA (kF 81) [(.t 27), (.t 28)]), i_M 4 30 29, g_T 5 31 30 (.h (.padd (.t 3) 2)), g_T 6 32 30 (.load (.t 31) 1 false), g_T 7 33 30 (.h (.ibin .eql (.t 32) (kI 0))), i_X 8 34 (.h (.pick (.t 30) (.t 33) (.k (.d (.bool false))))), i_M 9 35 34, g_T 10 36 35 (.h (.padd (.t 3) 3)), g_T 11 37 35 (.load (.t 36) 1 false), g_T 12 38 35 (.h (.fcmp .eq (.t 37) (.k (.d (.flt 0))))), i_X 13 39 (.h (.pick (.t 35) (.t 38) (.k (.d (.bool false))))), i_M 14 6 39] [6]) .ret) (.seq (.seq (.reg [i_B 0 41 .eql 8 2, i_M 1 40 41] [1, 3, 8, 40]) (.cond (.t 40) .skip (.seq (.reg [i_B 0 42 .eql 8 3, i_M 1 40 42] [1, 3, 8, 40]) (.cond (.t 40) .skip (.seq (.reg [i_B 0 43 .eql 8 4, i_M 1 40 43] [1, 3, 8, 40]) (.cond (.t 40) .skip (.reg [i_B 0 44 .eql 8 5, i_M 1 40 44] [1, 3, 40]))))))) (.cond (.t 40) (.seq (.reg [i_P 0 45 3 1, i_L 1 46 45 1, i_M 2 47 1, i_X 3 48 (.callA (kF 81) [(.t 46), (.t 47)]), i_M 4 49 48, g_T 5 50 49 (.h (.padd (.t 3) 2)), g_T 6 51 49 (.load (.t 50) 1 false), g_T 7 52 49 (.h (.mov (.t 1))), g_T 8 53 49 (.callA (kF 81) [(.t 51), (.t 52)]), i_X 9 54 (.h (.pick (.t 49) (.t 53) (.k (.d (.bool false))))), i_M 10 55 54, g_T 11 56 55 (.h (.padd (.t 3) 3)), g_T 12 57 55 (.load (.t 56) 1 false), g_T 13 58 55 (.h (.fcmp .eq (.t 57) (.k (.d (.flt 0))))), i_X 14 59 (.h (.pick (.t 55) (.t 58) (.k (.d (.bool false))))), i_M 15 6 59] [6]) .ret) .skip)))))))) (.seq (.reg [i_X 0 6 (.h (.mov (.k (.d (.bool false)))))] [6]) .ret)))
theorem b1A : f6 Tryz.prog 80 = some ⟨60, [(6, none)], b59.strip⟩ := by kernel_rfl
def a2D : CA := (.seq (.reg [i_N 0 32 .lss 31 30] [1, 29, 30, 31, 32]) (.seq (.cond (.t 32) .skip (.exit 0)) (.seq (.block 1 (.seq (.reg [i_M 0 33 31, i_I 1 34 29 31 4, i_A 2 35 34 4, i_X 3 4 (.alloc [fI 0, fI 0, fI 0, fl 0] 81), i_M 4 3 33, i_S 5 4 35 4] [1, 3, 4, 29, 30, 31]) (.seq (.reg [i_A 0 36 4 4, i_M 1 37 3, i_P 2 38 1 0, i_L 3 39 38 1, i_X 4 40 (.callA (kF 80) [(.t 36), (.t 37), (.t 39)]), i_X 5 41 (.h (.un .not (.t 40)))] [1, 29, 30, 31, 41]) (.cond (.t 41) (.seq (.reg [i_X 0 2 (.h (.mov (.k (.d (.bool false)))))] [2]) .ret) .skip)))) (.reg [i_B 0 42 .add 31 1, i_M 1 31 42] [1, 29, 30, 31]))))
def a2C : CA := (.seq (.reg [i_N 0 46 .lss 45 44] [1, 44, 45, 46]) (.seq (.cond (.t 46) .skip (.exit 2)) (.seq (.block 3 (.seq (.reg [i_M 0 47 45, i_M 1 5 47] [1, 5, 44, 45]) (.seq (.reg [i_P 0 48 1 2, i_L 1 49 48 1, i_M 2 50 5, i_I 3 51 49 50 1, i_L 4 52 51 1, i_P 5 53 1 1, i_L 6 54 53 1, i_X 7 55 (.h (.len (.t 54))), i_X 8 56 (.callA (kF 81) [(.t 52), (.t 55)]), i_X 9 57 (.h (.un .not (.t 56)))] [1, 44, 45, 57]) (.cond (.t 57) (.seq (.reg [i_X 0 2 (.h (.mov (.k (.d (.bool false)))))] [2]) .ret) .skip)))) (.reg [i_B 0 58 .add 45 1, i_M 1 45 58] [1, 44, 45]))))
def a2E : CA := (.seq (.reg [i_X 0 1 (.box (.t 0) 3 28), i_X 1 2 (.h (.mov (.k (.d (.bool false)))))] [1]) (.seq (.seq (.reg [i_P 0 6 1 0, i_L 1 7 6 1, i_B 2 8 .lss 7 1, i_M 3 9 8, g_F 4 10 9 (.h (.padd (.t 1) 0)), g_F 5 11 9 (.load (.t 10) 1 false), g_F 6 12 9 (.h (.ibin .gtr (.t 11) (kI 4))), i_X 7 13 (.h (.pick (.t 9) (.k (.d (.bool true))) (.t 12))), i_M 8 14 13, g_F 9 15 14 (.h (.padd (.t 1) 1)), g_F 10 16 14 (.load (.t 15) 1 false), g_F 11 17 14 (.h (.len (.t 16))), g_F 12 18 14 (.h (.ibin .gtr (.t 17) (kI 60))), i_X 13 19 (.h (.pick (.t 14) (.k (.d (.bool true))) (.t 18))), i_M 14 20 19, g_F 15 21 20 (.h (.padd (.t 1) 2)), g_F 16 22 20 (.load (.t 21) 1 false), g_F 17 23 20 (.h (.len (.t 22))), g_F 18 24 20 (.h (.padd (.t 1) 0)), g_F 19 25 20 (.load (.t 24) 1 false), g_F 20 26 20 (.h (.ibin .neq (.t 23) (.t 25))), i_X 21 27 (.h (.pick (.t 20) (.k (.d (.bool true))) (.t 26)))] [1, 27]) (.cond (.t 27) (.seq (.reg [i_X 0 2 (.h (.mov (.k (.d (.bool false)))))] [2]) .ret) .skip)) (.seq (.seq (.reg [i_P 0 28 1 1, i_L 1 29 28 1, i_X 2 30 (.h (.len (.t 29))), i_K 3 31 0] [1, 29, 30, 31]) (.block 0 (.loop a2D))) (.seq (.seq (.reg [i_P 0 43 1 0, i_L 1 44 43 1, i_K 2 45 0] [1, 44, 45]) (.block 2 (.loop a2C))) (.seq (.reg [i_X 0 2 (.h (.mov (.k (.d (.bool true)))))] [2]) .ret)))))
theorem a0M : f6 Tryz.prog 39 = some ⟨59, [(2, none)], a2E.strip⟩ := by kernel_rfl
def b0L : CA := (.seq (.reg [i_X 0 2 (.h (.mov (.k (.d (.bool false)))))] [0]) (.seq (.reg [i_M 0 3 0, i_B 1 4 .geq 3 1, i_M 2 5 4, g_T 3 6 5 (.h (.mov (.t 0))), g_T 4 7 5 (.h (.ibin .leq (.t 6) (kI 4294967296))), i_X 5 8 (.h (.pick (.t 5) (.t 7) (.k (.d (.bool false))))), i_M 6 9 8, g_T 7 10 9 (.h (.mov (.t 0))), g_T 8 11 9 (.h (.mov (.t 0))), g_T 9 12 9 (.h (.ibin .sub (.t 11) (kI 1))), g_T 10 13 9 (.h (.ibin .and (.t 10) (.t 12))), g_T 11 14 9 (.h (.ibin .eql (.t 13) (kI 0))), i_X 12 15 (.h (.pick (.t 9) (.t 14) (.k (.d (.bool false))))), i_M 13 2 15] [2]) .ret))
theorem a8Q : f6 Tryz.prog 85 = some ⟨16, [(2, none)], b0L.strip⟩ := by kernel_rfl
def a0W : CA := (.seq (.reg [i_X 0 3 (.box (.t 0) 13 89), i_X 1 5 (.box (.t 2) 2 83), i_X 2 6 (.h (.mov (.k (.d (.bool false)))))] [1, 3, 5]) (.seq (.reg [i_A 0 7 5 2, i_X 1 8 (.callA (kF 82) [(.t 7)]), i_M 2 9 8, g_T 3 10 9 (.h (.padd (.t 5) 0)), g_T 4 11 9 (.load (.t 10) 1 false), g_T 5 12 9 (.callA (kF 83) [(.t 11)]), i_X 6 13 (.h (.pick (.t 9) (.t 12) (.k (.d (.bool false))))), i_M 7 14 13, g_T 8 15 14 (.h (.padd (.t 5) 1)), g_T 9 16 14 (.load (.t 15) 1 false), g_T 10 17 14 (.callA (kF 83) [(.t 16)]), i_X 11 18 (.h (.pick (.t 14) (.t 17) (.k (.d (.bool false))))), i_M 12 19 18, g_T 13 20 19 (.h (.padd (.t 3) 0)), g_T 14 21 19 (.h (.padd (.t 20) 4)), g_T 15 22 19 (.load (.t 21) 1 false), g_T 16 23 19 (.h (.mov (.t 1))), g_T 17 24 19 (.h (.idx (.t 22) (.t 23) 1)), g_T 18 25 19 (.load (.t 24) 1 false), g_T 19 26 19 (.load (.t 5) 2 true), g_T 20 27 19 (.callA (kF 84) [(.t 25), (.t 26)]), i_X 21 28 (.h (.pick (.t 19) (.t 27) (.k (.d (.bool false))))), i_M 22 6 28] [6]) .ret))
theorem a1V : f6 Tryz.prog 41 = some ⟨29, [(6, none)], a0W.strip⟩ := by kernel_rfl
def a0V : CA := (.seq (.reg [i_X 0 3 (.box (.t 0) 13 89), i_X 1 6 (.h (.mov (.k (.d (.bool false)))))] [1, 2, 3]) (.seq (.reg [i_M 0 7 2, i_B 1 8 .geq 7 0, i_M 2 9 8, g_T 3 10 9 (.h (.mov (.t 2))), g_T 4 11 9 (.h (.padd (.t 3) 0)), g_T 5 12 9 (.h (.padd (.t 11) 5)), g_T 6 13 9 (.load (.t 12) 1 false), g_T 7 14 9 (.h (.ibin .leq (.t 10) (.t 13))), i_X 8 15 (.h (.pick (.t 9) (.t 14) (.k (.d (.bool false))))), i_M 9 16 15, g_T 10 17 16 (.h (.mov (.t 1))), g_T 11 18 16 (.h (.ibin .eql (.t 17) (kI 0))), g_T 12 19 16 (.h (.mov (.t 18))), g_F 13 20 19 (.h (.padd (.t 3) 0)), g_F 14 21 19 (.h (.padd (.t 20) 12)), g_F 15 22 19 (.load (.t 21) 1 false), g_F 16 23 19 (.h (.mov (.t 1))), g_F 17 24 19 (.h (.ibin .sub (.t 23) (kI 1))), g_F 18 25 19 (.h (.idx (.t 22) (.t 24) 1)), g_F 19 26 19 (.load (.t 25) 1 false), g_F 20 27 19 (.h (.mov (.t 2))), g_F 21 28 19 (.h (.ibin .leq (.t 26) (.t 27))), g_T 22 29 16 (.h (.pick (.t 19) (.k (.d (.bool true))) (.t 28))), i_X 23 30 (.h (.pick (.t 16) (.t 29) (.k (.d (.bool false))))), i_M 24 6 30] [6]) .ret))
theorem a1U : f6 Tryz.prog 45 = some ⟨31, [(6, none)], a0V.strip⟩ := by kernel_rfl
def W2 : CA := (.seq (.reg [i_X 0 1 (.box (.t 0) 13 89), i_X 1 2 (.h (.mov (.k (.d (.bool false)))))] [1]) (.seq (.reg [i_P 0 4 1 0, i_A 1 5 4 13, i_X 2 3 (.alloc [fI 0, .nil, .nil, .nil, .nil, fI 0, fI 0, fI 0, fl 0, fl 0, fl 0, fI 0, .nil] 33), i_S 3 3 5 13] [3]) (.seq (.reg [i_P 0 6 3 5, i_L 1 7 6 1, i_B 2 8 .geq 7 1, i_M 3 9 8, g_T 4 10 9 (.h (.padd (.t 3) 5)), g_T 5 11 9 (.load (.t 10) 1 false), g_T 6 12 9 (.h (.ibin .leq (.t 11) (kI 1099511627776))), i_X 7 13 (.h (.pick (.t 9) (.t 12) (.k (.d (.bool false))))), i_M 8 14 13, g_T 9 15 14 (.h (.padd (.t 3) 6)), g_T 10 16 14 (.load (.t 15) 1 false), g_T 11 17 14 (.callA (kF 85) [(.t 16)]), i_X 12 18 (.h (.pick (.t 14) (.t 17) (.k (.d (.bool false))))), i_M 13 19 18, g_T 14 20 19 (.h (.padd (.t 3) 7)), g_T 15 21 19 (.load (.t 20) 1 false), g_T 16 22 19 (.callA (kF 85) [(.t 21)]), i_X 17 23 (.h (.pick (.t 19) (.t 22) (.k (.d (.bool false))))), i_M 18 24 23, g_T 19 25 24 (.h (.padd (.t 3) 7)), g_T 20 26 24 (.load (.t 25) 1 false), g_T 21 27 24 (.h (.padd (.t 3) 6)), g_T 22 28 24 (.load (.t 27) 1 false), g_T 23 29 24 (.h (.ibin .leq (.t 26) (.t 28))), i_X 24 30 (.h (.pick (.t 24) (.t 29) (.k (.d (.bool false))))), i_M 25 31 30, g_T 26 32 31 (.h (.padd (.t 3) 11)), g_T 27 33 31 (.load (.t 32) 1 false), g_T 28 34 31 (.h (.ibin .geq (.t 33) (kI 1))), i_X 29 35 (.h (.pick (.t 31) (.t 34) (.k (.d (.bool false))))), i_M 30 36 35, g_T 31 37 36 (.h (.padd (.t 3) 11)), g_T 32 38 36 (.load (.t 37) 1 false), g_T 33 39 36 (.h (.ibin .leq (.t 38) (kI 10000))), i_X 34 40 (.h (.pick (.t 36) (.t 39) (.k (.d (.bool false))))), i_M 35 2 40] [2]) .ret)))
theorem a0U : f6 Tryz.prog 42 = some ⟨41, [(2, none)], W2.strip⟩ := by kernel_rfl
def R9 : CA := (.seq (.reg [i_X 0 1 (.box (.t 0) 13 89), i_X 1 2 (.h (.mov (.k (.d (.bool false)))))] [1]) (.seq (.reg [i_P 0 4 1 0, i_A 1 5 4 13, i_X 2 3 (.alloc [fI 0, .nil, .nil, .nil, .nil, fI 0, fI 0, fI 0, fl 0, fl 0, fl 0, fI 0, .nil] 33), i_S 3 3 5 13] [3]) (.seq (.reg [i_P 0 6 3 8, i_L 1 7 6 1, i_X 2 8 (.callA (kF 83) [(.t 7)]), i_M 3 9 8, g_T 4 10 9 (.h (.padd (.t 3) 8)), g_T 5 11 9 (.load (.t 10) 1 false), g_T 6 12 9 (.h (.fcmp .gt (.t 11) (.k (.d (.flt 0))))), i_X 7 13 (.h (.pick (.t 9) (.t 12) (.k (.d (.bool false))))), i_M 8 14 13, g_T 9 15 14 (.h (.padd (.t 3) 9)), g_T 10 16 14 (.load (.t 15) 1 false), g_T 11 17 14 (.callA (kF 83) [(.t 16)]), i_X 12 18 (.h (.pick (.t 14) (.t 17) (.k (.d (.bool false))))), i_M 13 19 18, g_T 14 20 19 (.h (.padd (.t 3) 9)), g_T 15 21 19 (.load (.t 20) 1 false), g_T 16 22 19 (.h (.fcmp .ge (.t 21) (.k (.d (.flt 0))))), i_X 17 23 (.h (.pick (.t 19) (.t 22) (.k (.d (.bool false))))), i_M 18 24 23, g_T 19 25 24 (.h (.padd (.t 3) 10)), g_T 20 26 24 (.load (.t 25) 1 false), g_T 21 27 24 (.callA (kF 83) [(.t 26)]), i_X 22 28 (.h (.pick (.t 24) (.t 27) (.k (.d (.bool false))))), i_M 23 29 28, g_T 24 30 29 (.h (.padd (.t 3) 10)), g_T 25 31 29 (.load (.t 30) 1 false), g_T 26 32 29 (.h (.fcmp .gt (.t 31) (.k (.d (.flt 0))))), i_X 27 33 (.h (.pick (.t 29) (.t 32) (.k (.d (.bool false))))), i_M 28 2 33] [2]) .ret)))
theorem a0x : f6 Tryz.prog 43 = some ⟨34, [(2, none)], R9.strip⟩ := by kernel_rfl
def K7 : CA := (.seq (.reg [i_N 0 10 .lss 9 8] [1, 7, 8, 9, 10]) (.seq (.cond (.t 10) .skip (.exit 0)) (.seq (.block 1 (.seq (.reg [i_M 0 11 9, i_I 1 12 7 9 2, i_A 2 13 12 2, i_X 3 6 (.alloc [fl 0, fl 0] 83), i_M 4 5 11, i_S 5 6 13 2] [1, 5, 6, 7, 8, 9]) (.seq (.reg [i_M 0 14 1, i_M 1 15 5, i_A 2 16 6 2, i_X 3 17 (.callA (.t 14) [(.t 15), (.t 16)]), i_X 4 18 (.h (.un .not (.t 17)))] [1, 7, 8, 9, 18]) (.cond (.t 18) (.seq (.reg [i_X 0 4 (.h (.mov (.k (.d (.bool false)))))] [4]) .ret) .skip)))) (.reg [i_B 0 19 .add 9 1, i_M 1 9 19] [1, 7, 8, 9]))))
def T2 : CA := (.seq (.reg [i_X 0 4 (.h (.mov (.k (.d (.bool false)))))] [0, 1]) (.seq (.seq (.reg [i_M 0 7 0, i_X 1 8 (.h (.len (.t 7))), i_K 2 9 0] [1, 7, 8, 9]) (.block 0 (.loop K7))) (.seq (.reg [i_X 0 4 (.h (.mov (.k (.d (.bool true)))))] [4]) .ret)))
theorem a0y : f6 Tryz.prog 40 = some ⟨20, [(4, none)], T2.strip⟩ := by kernel_rfl
def T1 : CA := (.seq (.reg [i_N 0 10 .lss 9 8] [1, 7, 8, 9, 10]) (.seq (.cond (.t 10) .skip (.exit 0)) (.seq (.block 1 (.seq (.reg [i_M 0 11 9, i_I 1 12 7 9 1, i_L 2 13 12 1, i_M 3 5 11, i_M 4 6 13] [1, 5, 6, 7, 8, 9]) (.seq (.reg [i_M 0 14 1, i_M 1 15 5, i_M 2 16 6, i_X 3 17 (.callA (.t 14) [(.t 15), (.t 16)]), i_X 4 18 (.h (.un .not (.t 17)))] [1, 7, 8, 9, 18]) (.cond (.t 18) (.seq (.reg [i_X 0 4 (.h (.mov (.k (.d (.bool false)))))] [4]) .ret) .skip)))) (.reg [i_B 0 19 .add 9 1, i_M 1 9 19] [1, 7, 8, 9]))))
def a0X : CA := (.seq (.reg [i_X 0 4 (.h (.mov (.k (.d (.bool false)))))] [0, 1]) (.seq (.seq (.reg [i_M 0 7 0, i_X 1 8 (.h (.len (.t 7))), i_K 2 9 0] [1, 7, 8, 9]) (.block 0 (.loop T1))) (.seq (.reg [i_X 0 4 (.h (.mov (.k (.d (.bool true)))))] [4]) .ret)))
theorem a1W : f6 Tryz.prog 44 = some ⟨20, [(4, none)], a0X.strip⟩ := by kernel_rfl
def a43 : CA := (.seq (.reg [i_X 0 1 (.box (.t 0) 13 33), i_X 1 2 (.h (.mov (.k (.d (.bool false)))))] [1]) (.seq (.seq (.reg [i_P 0 4 1 0, i_A 1 5 4 3, i_X 2 6 (.callA (kF 39) [(.t 5)]), i_X 3 7 (.h (.un .not (.t 6))), i_M 4 8 7, g_F 5 9 8 (.h (.padd (.t 1) 3)), g_F 6 10 8 (.load (.t 9) 1 false), g_F 7 11 8 (.h (.len (.t 10))), g_F 8 12 8 (.h (.padd (.t 1) 0)), g_F 9 13 8 (.h (.padd (.t 12) 0)), g_F 10 14 8 (.load (.t 13) 1 false), g_F 11 15 8 (.h (.ibin .neq (.t 11) (.t 14))), i_X 12 16 (.h (.pick (.t 8) (.k (.d (.bool true))) (.t 15))), i_M 13 17 16, g_F 14 18 17 (.h (.padd (.t 1) 4)), g_F 15 19 17 (.load (.t 18) 1 false), g_F 16 20 17 (.h (.len (.t 19))), g_F 17 21 17 (.h (.padd (.t 1) 0)), g_F 18 22 17 (.h (.padd (.t 21) 0)), g_F 19 23 17 (.load (.t 22) 1 false), g_F 20 24 17 (.h (.ibin .neq (.t 20) (.t 23))), i_X 21 25 (.h (.pick (.t 17) (.k (.d (.bool true))) (.t 24))), i_M 22 26 25, g_F 23 27 26 (.h (.padd (.t 1) 12)), g_F 24 28 26 (.load (.t 27) 1 false), g_F 25 29 26 (.h (.len (.t 28))), g_F 26 30 26 (.h (.ibin .gtr (.t 29) (kI 1000))), i_X 27 31 (.h (.pick (.t 26) (.k (.d (.bool true))) (.t 30)))] [1, 31]) (.cond (.t 31) (.seq (.reg [i_X 0 2 (.h (.mov (.k (.d (.bool false)))))] [2]) .ret) .skip)) (.seq (.reg [i_A 0 32 1 13, i_X 1 33 (.h (.build [fI 0, .nil, .nil, .nil, .nil, fI 0, fI 0, fI 0, fl 0, fl 0, fl 0, fI 0, .nil] [(0, (13, (.t 32)))])), i_X 2 3 (.alloc [fI 0, .nil, .nil, .nil, .nil, fI 0, fI 0, fI 0, fl 0, fl 0, fl 0, fI 0, .nil] 89), i_S 3 3 33 13] [1, 3]) (.seq (.reg [i_P 0 34 1 3, i_L 1 35 34 1, i_A 2 36 3 13, i_X 3 37 (.h (.mkfn 41 [(.t 36)] [])), i_X 4 38 (.callA (kF 40) [(.t 35), (.t 37)]), i_M 5 39 38, g_T 6 40 39 (.load (.t 3) 13 true), g_T 7 41 39 (.callA (kF 42) [(.t 40)]), i_X 8 42 (.h (.pick (.t 39) (.t 41) (.k (.d (.bool false))))), i_M 9 43 42, g_T 10 44 43 (.load (.t 3) 13 true), g_T 11 45 43 (.callA (kF 43) [(.t 44)]), i_X 12 46 (.h (.pick (.t 43) (.t 45) (.k (.d (.bool false))))), i_M 13 47 46, g_T 14 48 47 (.h (.padd (.t 1) 12)), g_T 15 49 47 (.load (.t 48) 1 false), g_T 16 50 47 (.load (.t 3) 13 true), g_T 17 51 47 (.h (.mkfn 45 [(.t 50)] [])), g_T 18 52 47 (.callA (kF 44) [(.t 49), (.t 51)]), i_X 19 53 (.h (.pick (.t 47) (.t 52) (.k (.d (.bool false))))), i_M 20 2 53] [2]) .ret))))
theorem a1M : f6 Tryz.prog 18 = some ⟨54, [(2, none)], a43.strip⟩ := by kernel_rfl
def a42 : CA := (.seq (.reg [i_X 0 1 (.box (.t 0) 13 33), i_X 1 2 (.alloc [.nil, fI 0, fI 0, fI 0, fI 0, fI 0, .nil, fI 0, fI 0, fI 0, .nil, fl 0, fI 0, fI 0] 53)] [1, 2]) (.seq (.seq (.reg [i_A 0 4 1 13, i_X 1 5 (.callA (kF 18) [(.t 4)]), i_X 2 6 (.h (.un .not (.t 5)))] [1, 2, 6]) (.cond (.t 6) (.seq (.reg [i_X 0 7 (.h (.build [.nil, fI 0, fI 0, fI 0, fI 0, fI 0, .nil, fI 0, fI 0, fI 0, .nil, fl 0, fI 0, fI 0] [(1, (1, (kI 1)))])), i_S 1 2 7 14] [2]) .ret) .skip)) (.seq (.reg [i_A 0 8 1 13, i_A 1 9 1 13, i_X 2 10 (.callS 2 (kF 27) [(.t 9)]), i_P 3 11 1 11, i_L 4 12 11 1, i_X 5 13 (.callS 0 (kF 26) [(.t 8), (.t 10), (.t 12)]), i_X 6 3 (.alloc [.nil, fI 0, fI 0, fI 0, fI 0, fI 0, .nil, fI 0, fI 0, fI 0, .nil, fl 0, fI 0, fI 0] 53), i_S 7 3 13 14] [1, 2, 3]) (.seq (.seq (.reg [i_P 0 14 3 1, i_L 1 15 14 1, i_B 2 16 .eql 15 0, i_M 3 17 16, g_T 4 18 17 (.h (.padd (.t 3) 2)), g_T 5 19 17 (.h (.padd (.t 18) 0)), g_T 6 20 17 (.h (.padd (.t 19) 0)), g_T 7 21 17 (.h (.padd (.t 20) 0)), g_T 8 22 17 (.load (.t 21) 1 false), g_T 9 23 17 (.h (.padd (.t 1) 5)), g_T 10 24 17 (.load (.t 23) 1 false), g_T 11 25 17 (.h (.ibin .lss (.t 22) (.t 24))), i_X 12 26 (.h (.pick (.t 17) (.t 25) (.k (.d (.bool false)))))] [2, 3, 26]) (.cond (.t 26) (.reg [i_P 0 27 3 1, ⟨1, none, none, [], [], (.store (.t 27) (kI 6) 1)⟩] [2, 3]) .skip)) (.seq (.reg [i_A 0 28 3 14, i_S 1 2 28 14] [2]) .ret)))))
theorem a1L : f6 Tryz.prog 21 = some ⟨29, [(2, (some (14, true)))], a42.strip⟩ := by kernel_rfl
structure Vop (o : OpN) (k n : Nat) : Prop where
 is : (o.k = 0 /\ p7 o.c = true /\ o.a = 0 /\ o.b = 0) \/ (o.k = 1 /\ (0 <= o.a /\ o.a < n) /\ o.b = 0 /\ fcmp .eq o.c 0 = true) \/ ((o.k = 2 \/ o.k = 3 \/ o.k = 4 \/ o.k = 5) /\ (0 <= o.a /\ o.a < k) /\ (0 <= o.b /\ o.b < k) /\ fcmp .eq o.c 0 = true)
structure Vtp (t : Tp) : Prop where
 n : 1 <= t.n /\ t.n <= 4
 len : t.ops.length <= 60
 outl : t.out.length = t.n
 op : ∀ i, i < t.ops.length -> Vop (t.ops.getD i ⟨0, 0, 0, 0⟩) i t.n
 out : ∀ i, i < t.n -> 0 <= t.out.getD i 0 /\ t.out.getD i 0 < t.ops.length
def powB (n : Int) : Bool := decide (1 <= n) && decide (n <= 4294967296) && (z9 .and .i64 n (n - 1) == 0)
structure Vpb (p : Pb) : Prop where
 t : Vtp p.t
 boxl : p.box.length = p.t.n
 yl : p.y.length = p.t.n
 outsl : p.outs.length <= 1000
 box : ∀ i, i < p.t.n -> fcmp .le (mG p.box i).1 (mG p.box i).2 = true /\ p7 (mG p.box i).1 = true /\ p7 (mG p.box i).2 = true /\ fcmp .le (mG p.box i).1 (p.y.getD i 0) = true /\ fcmp .le (p.y.getD i 0) (mG p.box i).2 = true
 fin : 1 <= p.fin /\ p.fin <= 1099511627776
 first : powB p.first = true
 least : powB p.least = true
 le : p.least <= p.first
 most : 1 <= p.most /\ p.most <= 10000
 atol : p7 p.atol = true /\ fcmp .gt p.atol 0 = true
 rtol : p7 p.rtol = true /\ fcmp .ge p.rtol 0 = true
 cap : p7 p.cap = true /\ fcmp .gt p.cap 0 = true
 outs : ∀ i, i < p.outs.length -> 0 <= p.outs.getD i 0 /\ p.outs.getD i 0 <= p.fin /\ (i = 0 \/ p.outs.getD (i - 1) 0 <= p.outs.getD i 0)
theorem s4 (i n : Int) (h : 0 <= i /\ i < n) : Con Tryz.prog 81 [fI i, fI n] (fB true) := by
 refine b7 a57 rfl f5 ?_
 refine evx @a58.eq_1 ?_
 rw [decide_eq_true h.1]
 refine ev ?_
 rw [decide_eq_true h.2]
 exact b9 rfl (by decide) (by simp [look])
theorem b6C (o : OpN) (k n : Nat) (h : Vop o k n) : Con Tryz.prog 80 [.agg [fI o.k, fI o.a, fI o.b, fl o.c], fI k, fI n] (fB true) := by
 obtain ⟨ok, oa, ob, oc⟩ := o
 obtain ⟨h⟩ := h
 simp only at h
 refine b7 b1A rfl f5 ?_
 refine evx @b59.eq_1 ?_
 rcases h with ⟨rfl, hf, rfl, rfl⟩ | ⟨rfl, ha, rfl, hc⟩ | ⟨hk, ha, hb, hc⟩
 ·refine ev ?_
  refine a0 (p9 oc) rfl ?_
  rw [hf]
  refine ev ?_
  exact b9 rfl (by decide) (by simp [look])
 ·refine evb ?_
  refine a0 (s4 oa n ha) rfl ?_
  refine evx hc ?_
  exact b9 rfl (by decide) (by simp [look])
 ·have c0 : (ok == 0) = false := by simp; omega
  have c1 : (ok == 1) = false := by simp; omega
  refine evx (And.intro c0 c1) ?_
  rcases hk with rfl | rfl | rfl | rfl
  ·refine evb ?_
   refine a0 (s4 oa k ha) rfl ?_
   refine ev ?_
   refine a0 (s4 ob k hb) rfl ?_
   refine evx hc ?_
   exact b9 rfl (by decide) (by simp [look])
  ·refine evb ?_
   refine a0 (s4 oa k ha) rfl ?_
   refine ev ?_
   refine a0 (s4 ob k hb) rfl ?_
   refine evx hc ?_
   exact b9 rfl (by decide) (by simp [look])
  ·refine evb ?_
   refine a0 (s4 oa k ha) rfl ?_
   refine ev ?_
   refine a0 (s4 ob k hb) rfl ?_
   refine evx hc ?_
   exact b9 rfl (by decide) (by simp [look])
  ·refine evb ?_
   refine a0 (s4 oa k ha) rfl ?_
   refine ev ?_
   refine a0 (s4 ob k hb) rfl ?_
   refine evx hc ?_
   exact b9 rfl (by decide) (by simp [look])
theorem b5g (n : Int) (h : powB n = true) : Con Tryz.prog 85 [fI n] (fB true) := by
 unfold powB at h
 simp only [Bool.and_eq_true, decide_eq_true_eq] at h
 obtain ⟨⟨h1, h2⟩, h3⟩ := h
 refine b7 a8Q rfl f5 ?_
 refine evx @b0L.eq_1 ?_
 rw [decide_eq_true h1]
 refine ev ?_
 rw [decide_eq_true h2]
 have w : IntKind.i64.wrap (n - 1) = n - 1 := f4 (by omega) (by omega)
 refine evx (And.intro w h3) ?_
 exact b9 rfl (by decide) (by simp [look])
theorem b02 (t : Tp) (h : Vtp t) : Con Tryz.prog 39 [Q3 t] (fB true) := by
 have hn := h.n
 have hlen := h.len
 have houtl := h.outl
 have d1 : decide ((t.n : Int) < 1) = false := decide_eq_false (by omega)
 have d2 : decide ((4 : Int) < (t.n : Int)) = false := decide_eq_false (by omega)
 have d3 : decide ((60 : Int) < (t.ops.length : Int)) = false := decide_eq_false (by omega)
 have d4 : ((t.out.length : Int) != (t.n : Int)) = false := by rw [houtl]; simp
 refine b7 a0M rfl f5 ?_
 refine evx @a2E.eq_1 ?_
 rw [d1]
 refine ev ?_
 rw [d2]
 refine evx @opsD.eq_1 ?_
 rw [d3]
 refine ev ?_
 rw [d4]
 refine ev ?_
 refine j3 (n := t.ops.length) (fun c s => ∃ i : Nat, c + i = t.ops.length /\ s = ⟨[(1, .ptr 0 0 0 3), (29, .d (opsD t.ops)), (30, fI t.ops.length), (31, fI i)], [(0, [[fI t.n, .d (opsD t.ops), .d (rowI t.out)]])]⟩) (Le.refl _) ⟨0, by omega, rfl⟩ ?_
 rintro c s ⟨i, hc, rfl⟩
 refine evx @a2D.eq_1 ?_
 refine d5 (fun hi => ?_) (fun hi => ?_)
 ·replace hi := of_decide_eq_true hi
  refine evx (And.intro @opsD.eq_1 @opG.eq_1) ?_
  refine ⟨by omega, ?_⟩
  refine a0 (b6C (t.ops.getD i ⟨0, 0, 0, 0⟩) i t.n (h.op i (by omega))) rfl ?_
  refine ev ?_
  rw [f4 (by omega) (by omega)]
  exact ⟨c - 1, _, by omega, LeT.only (fun X => decide (X <= 0)) (fun _ h => h) rfl (by simp [kpS]) (by simp [kpS]), i + 1, by omega, rfl⟩
 ·refine ev ?_
  refine j3 (n := t.n) (fun c s => ∃ i : Nat, c + i = t.n /\ s = ⟨[(1, .ptr 0 0 0 3), (44, fI t.n), (45, fI i)], [(0, [[fI t.n, .d (opsD t.ops), .d (rowI t.out)]])]⟩) (Le.refl _) ⟨0, by omega, rfl⟩ ?_
  rintro c2 s ⟨j, hc2, rfl⟩
  refine evx @a2C.eq_1 ?_
  refine d5 (fun hj => ?_) (fun hj => ?_)
  ·replace hj := of_decide_eq_true hj
   refine evx @opsD.eq_1 ?_
   refine ⟨by omega, ?_⟩
   refine a0 (s4 (t.out.getD j 0) t.ops.length (h.out j (by omega))) rfl ?_
   refine ev ?_
   rw [f4 (by omega) (by omega)]
   exact ⟨c2 - 1, _, by omega, LeT.only (fun X => decide (X <= 0)) (fun _ h => h) rfl (by simp [kpS]) (by simp [kpS]), j + 1, by omega, rfl⟩
  ·refine ev ?_
   exact b9 rfl (by decide) (by simp [look])
theorem c8D (p : Pb) (i : Nat) (hi : i < p.t.n) (h : Vpb p) : Con Tryz.prog 41 [pbV p, fI i, ivV (mG p.box i)] (fB true) := by
 obtain ⟨h1, h2, h3, h4, h5⟩ := h.box i hi
 have hy := h.yl
 refine b7 a1V rfl f5 ?_
 refine evx @a0W.eq_1 ?_
 refine a0 (a7D (mG p.box i)) rfl ?_
 rw [h1]
 refine ev ?_
 refine a0 (p9 (mG p.box i).1) rfl ?_
 rw [h2]
 refine ev ?_
 refine a0 (p9 (mG p.box i).2) rfl ?_
 rw [h3]
 refine ev ?_
 refine ⟨by omega, ?_⟩
 refine a0 (a5D (p.y.getD i 0) (mG p.box i)) rfl ?_
 rw [h4, h5]
 refine ev ?_
 exact b9 rfl (by decide) (by simp [look])
theorem c7K (p : Pb) (i : Nat) (hi : i < p.outs.length) (h : Vpb p) : Con Tryz.prog 45 [pbV p, fI i, fI (p.outs.getD i 0)] (fB true) := by
 obtain ⟨h1, h2, h3⟩ := h.outs i hi
 have hl := h.outsl
 refine b7 a1U rfl f5 ?_
 refine evx @a0V.eq_1 ?_
 rw [decide_eq_true h1]
 refine ev ?_
 rw [decide_eq_true h2]
 refine ev ?_
 by_cases h0 : i = 0
 ·have h0b : ((i : Int) == 0) = true := by subst h0; rfl
  rw [h0b]
  refine ev ?_
  exact b9 rfl (by decide) (by simp [look])
 ·have h0b : ((i : Int) == 0) = false := by simp; omega
  rw [h0b]
  have w : IntKind.i64.wrap ((i : Int) - 1) = ((i - 1 : Nat) : Int) := by rw [f4 (by omega) (by omega)]; omega
  refine evx w ?_
  refine ⟨by omega, ?_⟩
  rw [decide_eq_true (h3.resolve_left h0)]
  exact b9 rfl (by decide) (by simp [look])
theorem c1j (p : Pb) (h : Vpb p) : Con Tryz.prog 42 [pbV p] (fB true) := by
 refine b7 a0U rfl f5 ?_
 refine evx @W2.eq_1 ?_
 rw [decide_eq_true h.fin.1]
 refine ev ?_
 rw [decide_eq_true h.fin.2]
 refine ev ?_
 refine a0 (b5g p.first h.first) rfl ?_
 refine ev ?_
 refine a0 (b5g p.least h.least) rfl ?_
 refine ev ?_
 rw [decide_eq_true h.le]
 refine ev ?_
 rw [decide_eq_true h.most.1]
 refine ev ?_
 rw [decide_eq_true h.most.2]
 exact b9 rfl (by decide) (by simp [look])
theorem c0E (p : Pb) (h : Vpb p) : Con Tryz.prog 43 [pbV p] (fB true) := by
 refine b7 a0x rfl f5 ?_
 refine evx @R9.eq_1 ?_
 refine a0 (p9 p.atol) rfl ?_
 rw [h.atol.1]
 refine evx h.atol.2 ?_
 refine a0 (p9 p.rtol) rfl ?_
 rw [h.rtol.1]
 refine evx h.rtol.2 ?_
 refine a0 (p9 p.cap) rfl ?_
 rw [h.cap.1]
 refine evx h.cap.2 ?_
 exact b9 rfl (by decide) (by simp [look])
theorem b7N (p : Pb) (h : Vpb p) (hn : p.t.n < 1000) : Con Tryz.prog 40 [.d (ivD p.box), .fn 41 [pbV p] []] (fB true) := by
 have hl := h.boxl
 refine b7 a0y rfl f5 ?_
 refine evx @T2.eq_1 ?_
 refine j3 (n := p.box.length) (fun c s => ∃ i : Nat, c + i = p.box.length /\ s = ⟨[(1, .fn 41 [pbV p] []), (7, .d (ivD p.box)), (8, fI p.box.length), (9, fI i)], []⟩) (Le.refl _) ⟨0, by omega, rfl⟩ ?_
 rintro c s ⟨i, hc, rfl⟩
 refine evx @K7.eq_1 ?_
 refine d5 (fun hi => ?_) (fun hi => ?_)
 ·replace hi := of_decide_eq_true hi
  refine evx (And.intro @ivD.eq_1 @ivG.eq_1) ?_
  refine ⟨by omega, ?_⟩
  refine a0 (c8D p i (by omega) h) rfl ?_
  refine ev ?_
  rw [f4 (by omega) (by omega)]
  exact ⟨c - 1, _, by omega, LeT.only (L' := []) (fun X => false) (fun _ h => h) rfl (by simp [kpS]) (by simp [kpS]), i + 1, by omega, rfl⟩
 ·refine ev ?_
  exact b9 rfl (by decide) (by simp [look])
theorem b7M (p : Pb) (h : Vpb p) : Con Tryz.prog 44 [.d (rowI p.outs), .fn 45 [pbV p] []] (fB true) := by
 have hl := h.outsl
 refine b7 a1W rfl f5 ?_
 refine evx @a0X.eq_1 ?_
 refine j3 (n := p.outs.length) (fun c s => ∃ i : Nat, c + i = p.outs.length /\ s = ⟨[(1, .fn 45 [pbV p] []), (7, .d (rowI p.outs)), (8, fI p.outs.length), (9, fI i)], []⟩) (Le.refl _) ⟨0, by omega, rfl⟩ ?_
 rintro c s ⟨i, hc, rfl⟩
 refine evx @T1.eq_1 ?_
 refine d5 (fun hi => ?_) (fun hi => ?_)
 ·replace hi := of_decide_eq_true hi
  refine ev ?_
  refine ⟨by omega, ?_⟩
  refine a0 (c7K p i (by omega) h) rfl ?_
  refine ev ?_
  rw [f4 (by omega) (by omega)]
  exact ⟨c - 1, _, by omega, Le.refl _, i + 1, by omega, rfl⟩
 ·refine ev ?_
  exact b9 rfl (by decide) (by simp [look])
theorem b2t {P : Program} {g : FuncId} {vs : List V} {L : Heap} {K : V -> Heap -> Prop} {r : V} (h : Con P g vs r) (hb : ∀ j, j < vs.length -> Bare (vs.getD j .any)) (hk : K r L) : b1w P g vs L K := ⟨L, r, a3j rfl (.inl ⟨rfl, hb⟩) h, hk⟩
theorem c3U {x : D} {f : FuncId} {xs : List V} (h : xs.all V.isD = true) : ∀ j, j < [V.d x, .fn f [.agg xs] []].length -> Bare ([V.d x, .fn f [.agg xs] []].getD j .any) := fun j hj => by
 rcases j with _ | _ | j
 ·exact .d _
 ·refine .fn (fun i hi => ?_) (fun i hi => by simp at hi)
  obtain rfl : i = 0 := by simpa using hi
  exact V0 (v := .agg xs) h
 ·simp at hj; omega
theorem b8F (f : FuncId) (xs : List V) : fnOf f [.agg xs] [] = .fn f [.agg xs] [] := rfl
theorem a5C (p : Pb) (h : Vpb p) : Con Tryz.prog 18 [pbV p] (fB true) := by
 have hn := h.t.n
 have hbl := h.boxl
 have hyl := h.yl
 have hol := h.outsl
 have d1 : ((p.box.length : Int) != (p.t.n : Int)) = false := by rw [hbl]; simp
 have d2 : ((p.y.length : Int) != (p.t.n : Int)) = false := by rw [hyl]; simp
 have d3 : decide ((1000 : Int) < (p.outs.length : Int)) = false := decide_eq_false (by omega)
 refine b7 a1M rfl f5 ?_
 refine evx @a43.eq_1 ?_
 refine a0 (b02 p.t h.t) rfl ?_
 refine evx d1 ?_
 refine evx d2 ?_
 refine evx (And.intro d3 @b8F) ?_
 refine b2t (b7N p h (by omega)) (c3U rfl) ?_
 refine ev ?_
 refine a0 (c1j p h) rfl ?_
 refine ev ?_
 refine a0 (c0E p h) rfl ?_
 refine evx @b8F ?_
 refine b2t (b7M p h) (c3U rfl) ?_
 refine ev ?_
 exact b9 rfl (by decide) (by simp [look])
theorem c8X {p : Pb} (h : Vpb p) : Outs p := ⟨by have := h.outsl; omega, fun i hi => by have := h.outs i hi; have := h.fin; omega, by have := h.most; omega⟩
theorem T9 (p : Pb) (hp : Pk2 p) (h : Vpb p) : Con Tryz.prog 21 [pbV p] (edV (R6 p)) := by
 have hm := h.most
 refine b7 a1L rfl f5 ?_
 refine evx @a42.eq_1 ?_
 refine a0 (a5C p h) rfl ?_
 refine ev ?_
 refine d6 (b3H p hp.pk) rfl ?_
 refine ev ?_
 refine d6 (b95 p (m7 p) p.most 0 hp (c8X h) (b2u hp) (by omega) (d1Z _) (by omega) h.yl) rfl ?_
 have e : R6 p = ((goP p (m7 p) p.most.toNat).1, (goP p (m7 p) p.most.toNat).2.1, if (goP p (m7 p) p.most.toNat).2.2 = 0 /\ (goP p (m7 p) p.most.toNat).1.s.n.pos < p.fin then 6 else (goP p (m7 p) p.most.toNat).2.2) := rfl
 rw [e]
 generalize goP p (m7 p) p.most.toNat = x
 obtain ⟨x1, x2, x3⟩ := x
 refine ev ?_
 by_cases h3 : x3 = 0
 ·subst h3
  refine evb ?_
  by_cases h4 : x1.s.n.pos < p.fin
  ·have d4 : decide (x1.s.n.pos < p.fin) = true := decide_eq_true h4
   refine evx d4 ?_
   rw [if_pos (by first | exact h4 | exact ⟨rfl, h4⟩)]
   exact f8 rfl (by decide) rfl rfl rfl (by simp) (by simp [ldv, g6, rowD])
  ·have d4 : decide (x1.s.n.pos < p.fin) = false := decide_eq_false h4
   refine evx d4 ?_
   rw [if_neg (by first | exact h4 | exact fun h => h4 h.2)]
   exact f8 rfl (by decide) rfl rfl rfl (by simp) (by simp [ldv, g6, rowD])
 ·have h3b : (x3 == 0) = false := by simpa using h3
  refine evx h3b ?_
  rw [if_neg (fun h => h3 h.1)]
  exact f8 rfl (by decide) rfl rfl rfl (by simp) (by simp [ldv, g6, rowD])
end Go.Ab
namespace Go.Ab
open Go Go.Proofs
section
variable {P : Program} {N : Nat -> Prop} {nt : Nat}
def cutC (P : Program) (N : Nat -> Prop) (nt : Nat) (b : CA) (Q : Ex -> T -> Prop) : Ex -> T -> Prop
 | .normal, t => ∃ t', Le N (t.s nt) (t'.s nt) /\ WA P N nt b Q t'
 | e, t => Q e t
theorem a94 (b : CA) (Q : Ex -> T -> Prop) (t : T) : cutC P N nt b Q .normal t = ∃ t', Le N (t.s nt) (t'.s nt) /\ WA P N nt b Q t' := rfl
theorem c61 {a b : CA} {Q : Ex -> T -> Prop} {s : T} (h : xC P N nt a (cutC P N nt b Q) s) : WA P N nt (.seq a b) Q s := by
 intro hok
 simp only [CA.ok, Bool.and_eq_true] at hok
 refine c8T ((a1v a _ s h hok.1).mono fun e t ⟨s', h1, h2⟩ => ?_)
 cases e with
 | normal =>
  obtain ⟨t', h3, h4⟩ := h2
  exact W_le (h1.trans h3) (h4 hok.2)
 | _ => exact ⟨s', h1, h2⟩
theorem b2v {a b : CA} {Q : Ex -> T -> Prop} {s : T} (h : xC P N nt a (fun e t => match e with | .normal => WA P N nt b Q t | e => Q e t) s) : WA P N nt (.seq a b) Q s := by
 intro hok
 simp only [CA.ok, Bool.and_eq_true] at hok
 refine c8T ((a1v a _ s h hok.1).mono fun e t ⟨s', h1, h2⟩ => ?_)
 cases e with
 | normal => exact W_le h1 (h2 hok.2)
 | _ => exact ⟨s', h1, h2⟩
theorem b2y {f : FuncId} {res : List (Nat × Option (Nat × Bool))} {c : CA} {r : V} {vs : List V} (hF : f6 P f = some ⟨nt, res, c.strip⟩) (hok : (c.ok nt && decide (vs.length <= nt)) = true) (hm : P.follows .mixedOrders = true)
  (h : WA P (fun _ => False) nt c (V7 (fun _ => False) nt res r []) ⟨argSl 0 vs, []⟩) : Con P f vs r := by
 simp only [Bool.and_eq_true, decide_eq_true_eq] at hok
 have e : enter ⟨nt, res, c.strip⟩ vs [] = T.s nt ⟨argSl 0 vs, []⟩ := by
  simp only [enter, T.s, S.mk.injEq, and_true]
  refine List.ext_getElem? fun i => ?_
  by_cases h : i < nt
  ·have h1 : (build nt (argSl 0 vs)).getD i .any = _ := y5 _ h
   rw [b8t] at h1
   simp only [Nat.zero_le, if_true, Nat.sub_zero] at h1
   rw [d1M, d1N (by rw [y4]; exact h)] at h1
   rw [d1N (l := build nt _) (by rw [y4]; exact h)]
   simp only [Option.getD_some] at h1
   rw [h1, List.getElem?_append]
   split
   ·rename_i h2; simp [d1M, h2]
   ·rename_i h2
    rw [List.getElem?_replicate]
    simp only [d1M]
    rw [d1U (by omega)]
    rw [if_pos (by omega)]; rfl
  ·rw [d1U (by simp; omega), d1U (by rw [y4]; omega)]
 refine b9j hF hm (fun _ => False) (fun X q hX => by simp [Heap.get, Heap.fam] at hX) ?_
 rw [e]
 refine b56 (h hok.1) fun e t ⟨s', h1, h2⟩ => ⟨s'.s nt, h1, ?_⟩
 cases e <;> first | exact h2 | exact h2.elim
end
def b0H : CA := (.seq (.reg [i_X 0 0 (.h (.mov (.k (.d (.bool false)))))] []) (.seq (.reg [i_X 0 3 (.h (.build [fI 0, fI 0, fI 0, fl 0] [])), i_X 1 4 (.bslice [fI 0, fI 0, fI 0, fl 0] 1 4 [(0, (4, (.t 3)))] 81), i_X 2 5 (.bslice [fI 0] 1 1 [(0, (1, (kI 0)))] 3), i_X 3 6 (.h (.build [fI 0, .nil, .nil] [(0, (1, (kI 1))), (1, (1, (.t 4))), (2, (1, (.t 5)))])), i_X 4 7 (.h (.build [fl 0, fl 0] [(0, (1, (.k (.d (.flt 13844628204490326016))))), (1, (1, (.k (.d (.flt 4621256167635550208)))))])), i_X 5 8 (.bslice [fl 0, fl 0] 1 2 [(0, (2, (.t 7)))] 83), i_X 6 9 (.bslice [fl 0] 1 1 [(0, (1, (.k (.d (.flt 4607182418800017408)))))] 31), i_X 7 10 (.bslice [fI 0] 1 1 [(0, (1, (kI 536870912)))] 3), i_X 8 11 (.h (.build [fI 0, .nil, .nil, .nil, .nil, fI 0, fI 0, fI 0, fl 0, fl 0, fl 0, fI 0, .nil] [(0, (3, (.t 6))), (3, (1, (.t 8))), (4, (1, (.t 9))), (5, (1, (kI 1073741824))), (6, (1, (kI 268435456))), (7, (1, (kI 1))), (8, (1, (.k (.d (.flt 4607182418800017408))))), (10, (1, (.k (.d (.flt 4607182418800017408))))), (11, (1, (kI 90))), (12, (1, (.t 10)))])), i_X 9 1 (.alloc [fI 0, .nil, .nil, .nil, .nil, fI 0, fI 0, fI 0, fl 0, fl 0, fl 0, fI 0, .nil] 33), i_S 10 1 11 13] [1]) (.seq (.reg [i_A 0 12 1 13, i_X 1 13 (.callA (kF 21) [(.t 12)]), i_X 2 2 (.alloc [.nil, fI 0, fI 0, fI 0, fI 0, fI 0, .nil, fI 0, fI 0, fI 0, .nil, fl 0, fI 0, fI 0] 53), i_S 3 2 13 14] [1, 2]) (.seq (.reg [i_X 0 14 (.h (.build [fI 0, .nil, .nil, .nil, .nil, fI 0, fI 0, fI 0, fl 0, fl 0, fl 0, fI 0, .nil] [])), i_X 1 15 (.callA (kF 21) [(.t 14)]), i_X 2 16 (.h (.fld (.t 15) 1 1 false)), i_B 3 17 .eql 16 1, i_M 4 18 17, g_T 5 19 18 (.h (.padd (.t 2) 1)), g_T 6 20 18 (.load (.t 19) 1 false), g_T 7 21 18 (.h (.ibin .eql (.t 20) (kI 0))), i_X 8 22 (.h (.pick (.t 18) (.t 21) (.k (.d (.bool false))))), i_M 9 23 22, g_T 10 24 23 (.h (.padd (.t 2) 0)), g_T 11 25 23 (.load (.t 24) 1 false), g_T 12 26 23 (.h (.len (.t 25))), g_T 13 27 23 (.h (.ibin .eql (.t 26) (kI 1))), i_X 14 28 (.h (.pick (.t 23) (.t 27) (.k (.d (.bool false))))), i_M 15 29 28, g_T 16 30 29 (.h (.padd (.t 2) 0)), g_T 17 31 29 (.load (.t 30) 1 false), g_T 18 32 29 (.h (.idx (.t 31) (kI 0) 3)), g_T 19 33 29 (.h (.padd (.t 32) 1)), g_T 20 34 29 (.load (.t 33) 1 false), g_T 21 35 29 (.h (.len (.t 34))), g_T 22 36 29 (.h (.ibin .eql (.t 35) (kI 1))), i_X 23 37 (.h (.pick (.t 29) (.t 36) (.k (.d (.bool false))))), i_M 24 38 37, g_T 25 39 38 (.h (.padd (.t 2) 0)), g_T 26 40 38 (.load (.t 39) 1 false), g_T 27 41 38 (.h (.idx (.t 40) (kI 0) 3)), g_T 28 42 38 (.h (.padd (.t 41) 1)), g_T 29 43 38 (.load (.t 42) 1 false), g_T 30 44 38 (.h (.idx (.t 43) (kI 0) 1)), g_T 31 45 38 (.load (.t 44) 1 false), g_T 32 46 38 (.h (.fcmp .eq (.t 45) (.k (.d (.flt 4607182418800017408))))), i_X 33 47 (.h (.pick (.t 38) (.t 46) (.k (.d (.bool false))))), i_M 34 48 47, g_T 35 49 48 (.h (.padd (.t 2) 0)), g_T 36 50 48 (.load (.t 49) 1 false), g_T 37 51 48 (.h (.idx (.t 50) (kI 0) 3)), g_T 38 52 48 (.h (.padd (.t 51) 2)), g_T 39 53 48 (.load (.t 52) 1 false), g_T 40 54 48 (.h (.fcmp .lt (.t 53) (.k (.d (.flt 4517329193108106637))))), i_X 41 55 (.h (.pick (.t 48) (.t 54) (.k (.d (.bool false))))), i_M 42 56 55, g_T 43 57 56 (.load (.t 1) 13 true), g_T 44 58 56 (.callA (kF 18) [(.t 57)]), i_X 45 59 (.h (.pick (.t 56) (.t 58) (.k (.d (.bool false))))), i_M 46 0 59] [0]) .ret))))
theorem a8N : f6 Tryz.prog 15 = some ⟨60, [(0, none)], b0H.strip⟩ := by kernel_rfl
def a76 : CA := (.seq (.reg [i_K 0 4 0] [0, 1]) (.seq (.reg [i_M 0 6 0, i_M 1 7 1, i_N 2 8 .rem 6 7, i_M 3 5 8] [1, 5]) (.seq (.seq (.reg [i_M 0 9 5, i_B 1 10 .lss 9 0] [1, 5, 10]) (.cond (.t 10) (.reg [i_M 0 11 5, i_M 1 12 1, i_N 2 13 .add 11 12, i_M 3 5 13] [5]) .skip)) (.seq (.reg [i_M 0 14 5, i_M 1 4 14] [4]) .ret))))
theorem a7j : f6 Tryz.prog 28 = some ⟨15, [(4, none)], a76.strip⟩ := by kernel_rfl
theorem a3Y (a n : Int) (hn : 0 < n) (hn2 : n < 2 ^ 62) : Con Tryz.prog 28 [fI a, fI n] (fI (a % n)) := by
 rw [<- b2Z a n hn]
 refine b7 a7j rfl f5 ?_
 refine evx @a76.eq_1 ?_
 refine ⟨by omega, ?_⟩
 have h1 := Int.tmod_lt_of_pos a hn
 have h2 : -n < a.tmod n := Int.lt_tmod_of_pos a hn
 refine d5 (fun h => ?_) (fun h => ?_)
 ·have h := of_decide_eq_true h
  rw [if_pos h]
  refine ev ?_
  rw [f4 (by omega) (by omega)]
  exact b9 rfl (by decide) (by simp [look])
 ·have h := of_decide_eq_false h
  rw [if_neg h]
  refine ev ?_
  exact b9 rfl (by decide) (by simp [look])
abbrev noP : V := .agg [fI 0, .nil, .nil, .nil, .nil, fI 0, fI 0, fI 0, fl 0, fl 0, fl 0, fI 0, .nil]
theorem b20 : Con Tryz.prog 39 [.agg [fI 0, .nil, .nil]] (fB false) := by
 refine b7 a0M rfl f5 ?_
 refine evx @a2E.eq_1 ?_
 exact b9 rfl (by decide) (by simp [look])
theorem b5A : Con Tryz.prog 18 [noP] (fB false) := by
 refine b7 a1M rfl f5 ?_
 refine evx @a43.eq_1 ?_
 refine a0 (b20) rfl ?_
 refine ev ?_
 exact b9 rfl (by decide) (by simp [look])
theorem b5z : Con Tryz.prog 21 [noP] (.agg [.nil, fI 1, fI 0, fI 0, fI 0, fI 0, .nil, fI 0, fI 0, fI 0, .nil, fl 0, fI 0, fI 0]) := by
 refine b7 a1L rfl f5 ?_
 refine evx @a42.eq_1 ?_
 refine a0 (b5A) rfl ?_
 refine ev ?_
 exact f8 rfl (by decide) rfl rfl rfl (by simp) (by simp [ldv])
def kp12 : Pb := ⟨⟨1, [⟨0, 0, 0, 0⟩], [0]⟩, [(13844628204490326016, 4621256167635550208)], [4607182418800017408], 1073741824, 268435456, 1, 4607182418800017408, 0, 4607182418800017408, 90, [536870912]⟩
theorem c79 : Pk2 kp12 := by
 refine ⟨⟨⟨⟨by decide, by decide, fun i hi => ?_, rfl, fun i hi => ?_⟩, by decide, by decide⟩, ⟨28, by decide, rfl⟩, ⟨0, by decide, rfl⟩, by decide, by decide, rfl, fun i => ?_⟩, by decide, rfl, by decide⟩
 ·have : i = 0 := by have hi : i < 1 := hi; omega
  subst this; exact .inl rfl
 ·have : i = 0 := by have hi : i < 1 := hi; omega
  subst this; exact ⟨by decide, by decide⟩
 ·rcases i with _ | i
  ·exact b7A
  ·exact J9
theorem c6H : Vpb kp12 := by
 refine ⟨⟨by decide, by decide, rfl, fun i hi => ?_, fun i hi => ?_⟩, rfl, rfl, by decide, fun i hi => ?_, by decide, by decide, by decide, by decide, by decide, by decide, by decide, by decide, fun i hi => ?_⟩
 ·have : i = 0 := by have hi : i < 1 := hi; omega
  subst this; exact ⟨.inl ⟨rfl, by decide, rfl, rfl⟩⟩
 ·have : i = 0 := by have hi : i < 1 := hi; omega
  subst this; exact ⟨by decide, by decide⟩
 ·have : i = 0 := by have hi : i < 1 := hi; omega
  subst this; exact ⟨by decide, by decide, by decide, by decide, by decide⟩
 ·have : i = 0 := by have hi : i < 1 := hi; omega
  subst this; exact ⟨by decide, by decide, .inl rfl⟩
def c2J (x : Rn × List Ou × Int) : Bool := x.2.2 == 0 && decide (x.2.1.length = 1) && decide ((x.2.1.getD 0 ⟨0, [], 0⟩).y.length = 1) && fcmp .eq ((x.2.1.getD 0 ⟨0, [], 0⟩).y.getD 0 0) 4607182418800017408 && fcmp .lt (x.2.1.getD 0 ⟨0, [], 0⟩).bound 4517329193108106637
theorem c5s : c2J (R6 kp12) = true := by kernel_rfl
theorem a5B : Con Tryz.prog 15 [] (fB true) := by
 have hs := T9 kp12 c79 c6H
 have hk := c5s
 generalize R6 kp12 = x at hs hk
 obtain ⟨x1, x2, x3⟩ := x
 unfold c2J at hk
 simp only [Bool.and_eq_true, beq_iff_eq, decide_eq_true_eq] at hk
 obtain ⟨⟨⟨⟨k1, k2⟩, k3⟩, k4⟩, k5⟩ := hk
 refine b2y a8N rfl f5 ?_
 unfold b0H
 refine b2v ?_
 refine ev ?_
 refine c61 ?_
 refine evx @a94 ?_
 refine ⟨⟨[(1, .ptr 9 0 0 13)], [(9, [pbC kp12])]⟩, ?_, ?_⟩
 ·exact LeT.weak (fun _ h => h) (by simp (maxDischargeDepth := 6) [fzS]) ⟨⟨_, rfl, ⟨Fz_d _, .d (y0 (fun Y q hY e => by cases e; exact hY rfl) rfl (fun _ _ => rfl) rfl), .d (y0 (fun Y q hY e => by cases e; exact hY rfl) rfl (fun _ _ => rfl) rfl), .d (y0 (fun Y q hY e => by cases e; exact hY rfl) rfl (fun _ _ => rfl) rfl), .d (y0 (fun Y q hY e => by cases e; exact hY rfl) rfl (fun _ _ => rfl) rfl),
   Fz_d _, Fz_d _, Fz_d _, Fz_d _, Fz_d _, Fz_d _, Fz_d _, .d (y0 (fun Y q hY e => by cases e; exact hY rfl) rfl (fun _ _ => rfl) rfl), trivial⟩, trivial⟩, trivial⟩
 ·refine a1v _ _ _ ?_
  subst k1
  refine ev ?_
  refine a0 (hs) rfl ?_
  refine ev ?_
  refine a0 (b5z) rfl ?_
  refine evbx k2 ?_
  refine evx @ousG.eq_1 ?_
  have k3' : (((x2.getD 0 ⟨0, [], 0⟩).y.length : Int) == 1) = true := by rw [k3]; rfl
  refine evx (And.intro @ousG.eq_1 k3') ?_
  rw [k3]
  refine evx (And.intro k4 (And.intro k5 @ousG.eq_1)) ?_
  refine ⟨by omega, by omega, ?_⟩
  refine a0 (a5C kp12 c6H) rfl ?_
  refine ev ?_
  exact b9 rfl (by decide) (by simp [look])
end Go.Ab
namespace Go.Ab
open Go Go.Proofs
theorem ix_4 : Ix 2 4616189618054758400 1 := by
 have r : Ieee.double.read 4616189618054758400 = .number false 4503599627370496 (-50) := by decide
 refine ⟨⟨_, _, _, r⟩, ?_⟩
 rw [A5 r]
 have h7 : (2 : Int) = -50 + (52 : Nat) := by decide
 have := (congrArg pw h7).trans (N9 _ _)
 rw [this]; simp
theorem c0t (w : Int) (h : -100 <= w /\ w <= 100) : p7 (fop .div (FloatKind.nearest .f64 w) 4620693217682128896) = true :=
 U8 (Ix.div (g := -3) (c := w) (Ix.ofInt w (by omega)) ix_8 (by decide) (by decide) (by omega) (by omega) (by decide) (by decide)).fin
theorem b60 (w : Int) (h : -100 <= w /\ w <= 100) : p7 (fop .div (FloatKind.nearest .f64 w) 4616189618054758400) = true :=
 U8 (Ix.div (g := -2) (c := w) (Ix.ofInt w (by omega)) ix_4 (by decide) (by decide) (by omega) (by omega) (by decide) (by decide)).fin
theorem eq00 : fcmp .eq 0 0 = true := by decide
theorem c7U (n : Int) (ns : List Int) (div : Bool) (N i : Nat) : ∀ j, j < N + 1 + i -> Vop ((J4 n ns div N i).getD j ⟨0, 0, 0, 0⟩) j N := by
 induction i with
 | zero =>
  intro j hj
  have hl := a3m N
  unfold J4 b4b
  by_cases h : j < N
  ·rw [d1M, d1P (by omega)]
   have : (L5 N)[j]? = some ⟨1, j, 0, 0⟩ := by simp [L5, h]
   rw [this]
   exact ⟨.inr (.inl ⟨rfl, ⟨by simp, by simpa using h⟩, rfl, eq00⟩)⟩
  ·obtain rfl : j = N := by omega
   rw [d1M, d1Q (by omega), hl, Nat.sub_self]
   exact ⟨.inl ⟨rfl, b60 _ (by omega), rfl, rfl⟩⟩
 | succ i ih =>
  intro j hj
  have hl := V5 n ns div N i
  unfold J4
  by_cases h : j < N + 1 + i
  ·have := ih j h
   rw [d1M] at this ⊢
   rwa [d1P (by omega)]
  ·obtain rfl : j = N + 1 + i := by omega
   rw [d1M, d1Q (by omega), hl, Nat.sub_self]
   show Vop (mkOp ns div (N + 1 + i) i) (N + 1 + i) N
   unfold mkOp
   simp only
   generalize ns.getD i 0 = k
   have a1 := d1T (IntKind.i64.wrap (k.tdiv 4)) (by omega : ((N + 1 + i : Nat) : Int) ≠ 0)
   have a2 := d1R (IntKind.i64.wrap (k.tdiv 4)) (by omega : (0 : Int) < ((N + 1 + i : Nat) : Int))
   have b1 := d1T (IntKind.i64.wrap (k.tdiv 40)) (by omega : ((N + 1 + i : Nat) : Int) ≠ 0)
   have b2 := d1R (IntKind.i64.wrap (k.tdiv 40)) (by omega : (0 : Int) < ((N + 1 + i : Nat) : Int))
   split
   ·exact ⟨.inl ⟨rfl, c0t _ (by omega), rfl, rfl⟩⟩
   ·refine ⟨.inr (.inr ⟨?_, ⟨a1, a2⟩, ⟨b1, b2⟩, eq00⟩)⟩
    show (if div = true /\ k % 7 = 0 then (5 : Int) else 2 + k % 3) = 2 \/ _
    split
    ·exact .inr (.inr (.inr rfl))
    ·show (2 + k % 3 = 2) \/ (2 + k % 3 = 3) \/ (2 + k % 3 = 4) \/ (2 + k % 3 = 5)
     omega
theorem d08 (n : Int) (ns : List Int) (dv : Bool) : Vtp (mkT n ns dv) := by
 have hok := c6G n ns dv
 have hn := b9X n ns dv
 have m1 := d1T n (by decide : (3 : Int) ≠ 0)
 have m2 := d1R n (by decide : (0 : Int) < 3)
 have hl := V5 n ns dv ((n % 3).toNat + 1) (min ns.length 8)
 refine ⟨by rw [hn]; omega, ?_, hok.outl, fun i hi => ?_, hok.out⟩
 ·show (J4 n ns dv ((n % 3).toNat + 1) (min ns.length 8)).length <= 60
  omega
 ·have hi' : i < (J4 n ns dv ((n % 3).toNat + 1) (min ns.length 8)).length := hi
  exact c7U n ns dv ((n % 3).toNat + 1) (min ns.length 8) i (by omega)
theorem c7E : ((List.range 29).all fun a => powB ((2 ^ a : Nat) : Int)) = true := by decide
theorem c6D (a : Nat) (h : a <= 28) : powB ((2 ^ a : Nat) : Int) = true := List.all_eq_true.1 c7E a (by simp; omega)
theorem d0y : ((List.range 24).all fun k => p7 (fop .div 4607182418800017408 (FloatKind.nearest .f64 ((2 ^ k : Nat) : Int))) && fcmp .gt (fop .div 4607182418800017408 (FloatKind.nearest .f64 ((2 ^ k : Nat) : Int))) 0) = true := by kernel_rfl
theorem c9u : ((List.range 3).all fun k => p7 (fop .div (FloatKind.nearest .f64 (k : Int)) 4652218415073722368) && fcmp .ge (fop .div (FloatKind.nearest .f64 (k : Int)) 4652218415073722368) 0) = true := by kernel_rfl
theorem c7W (tol : Int) : p7 (mkAt tol) = true /\ fcmp .gt (mkAt tol) 0 = true := by
 have t1 := d1T tol (by decide : (24 : Int) ≠ 0)
 have t2 := d1R tol (by decide : (0 : Int) < 24)
 have := List.all_eq_true.1 d0y (tol % 24).toNat (by simp; omega)
 simpa [mkAt] using this
theorem c7T (tol : Int) : p7 (mkRt tol) = true /\ fcmp .ge (mkRt tol) 0 = true := by
 unfold mkRt
 generalize IntKind.i64.wrap (tol.tdiv 24) = w
 have t1 := d1T w (by decide : (3 : Int) ≠ 0)
 have t2 := d1R w (by decide : (0 : Int) < 3)
 obtain ⟨k, hk⟩ : ∃ k : Nat, w % 3 = k := ⟨(w % 3).toNat, by omega⟩
 have := List.all_eq_true.1 c9u k (by simp; omega)
 rw [hk]
 simpa using this
theorem c5j (A : List Int) (E : Int) (hA : ∀ i, i < A.length -> 0 <= A.getD i 0 /\ A.getD i 0 <= E) : ∀ k, k < A.length \/ A.length = 0 -> (∀ i, i < A.length -> 0 <= (maxL A k).getD i 0 /\ (maxL A k).getD i 0 <= E) /\ (∀ i, 0 < i -> i <= k -> (maxL A k).getD (i - 1) 0 <= (maxL A k).getD i 0) := by
 intro k
 induction k with
 | zero => intro _; exact ⟨hA, fun i h1 h2 => by omega⟩
 | succ k ih =>
  intro hk
  rcases hk with hk | hk
  ·obtain ⟨r, s⟩ := ih (.inl (by omega))
   have hl := a84 A k
   have set_at : ∀ v i, ((maxL A k).set (k + 1) v).getD i 0 = if i = k + 1 then v else (maxL A k).getD i 0 := fun v i => by
    rw [d1M, List.getElem?_set]
    by_cases h : k + 1 = i
    ·subst h; rw [if_pos rfl, if_pos rfl, if_pos (by omega)]; rfl
    ·rw [if_neg h, if_neg (fun e => h e.symm), <- d1M]
   have r1 := r (k + 1) hk
   have r2 := r k (by omega)
   unfold maxL
   refine ⟨fun i hi => ?_, fun i h1 h2 => ?_⟩
   ·rw [set_at]
    split
    ·split <;> omega
    ·exact r i hi
   ·rw [set_at, set_at]
    by_cases h : i = k + 1
    ·subst h
     rw [if_neg (by omega), if_pos rfl, Nat.add_sub_cancel]
     split <;> omega
    ·rw [if_neg (by omega), if_neg h]
     exact s i h1 (by omega)
  ·refine ⟨fun i hi => by omega, fun i h1 h2 => ?_⟩
   have hl := a84 A (k + 1)
   rw [d1M, d1M, d1U (by omega), d1U (by omega)]
   exact Int.le_refl _
theorem c9P (outs : List Int) (E : Int) (hE : 0 <= E) : ∀ i, i < (mkO outs E).length -> 0 <= (mkO outs E).getD i 0 /\ (mkO outs E).getD i 0 <= E /\ (i = 0 \/ (mkO outs E).getD (i - 1) 0 <= (mkO outs E).getD i 0) := by
 intro i hi
 rw [b3w] at hi
 have hal := a5r outs E (min outs.length 8)
 have hA : ∀ i, i < (a3C outs E (min outs.length 8)).length -> 0 <= (a3C outs E (min outs.length 8)).getD i 0 /\ (a3C outs E (min outs.length 8)).getD i 0 <= E := fun i hi => by
  rw [hal] at hi
  have e : (a3C outs E (min outs.length 8)).getD i 0 = outE outs E i := by
   unfold a3C
   rw [d1M, List.getElem?_map, List.getElem?_range hi]; rfl
  rw [e]
  unfold outE
  have a1 := d1T (outs.getD i 0) (by omega : E + 1 ≠ 0)
  have a2 := d1R (outs.getD i 0) (by omega : (0 : Int) < E + 1)
  omega
 obtain ⟨r, s⟩ := c5j (a3C outs E (min outs.length 8)) E hA (min outs.length 8 - 1) (by omega)
 obtain ⟨r1, r2⟩ := r i (by omega)
 refine ⟨r1, r2, ?_⟩
 by_cases h : i = 0
 ·exact .inl h
 ·exact .inr (s i (by omega) (by omega))
theorem c9N (n first least tol fin : Int) (ns ms outs : List Int) (dv : Bool) : Vpb (mkPb n first least tol fin ns ms outs dv) := by
 have f1 := d1T first (by decide : (13 : Int) ≠ 0)
 have f2 := d1R first (by decide : (0 : Int) < 13)
 have hA : mkA first <= 28 := by unfold mkA; omega
 have e1 := d1T fin (by decide : (536870912 : Int) ≠ 0)
 have e2 := d1R fin (by decide : (0 : Int) < 536870912)
 have hF : 0 < 2 ^ mkA first /\ 2 ^ mkA first <= 2 ^ 28 := ⟨Nat.pow_pos (by decide), d11 (by decide) hA⟩
 have hE : 1 <= mkE fin (2 ^ mkA first) /\ mkE fin (2 ^ mkA first) <= 1099511627776 := by unfold mkE; split <;> omega
 have hb := b8p n first least tol fin ns ms outs dv
 have hp := c2w n first least tol fin ns ms outs dv
 refine ⟨d08 n ns dv, a50 _ _, hp.yl, ?_, fun i hi => ?_, hE, c6D _ hA, c6D _ (by omega), ?_, ⟨by show (1 : Int) <= 24; decide, by show (24 : Int) <= 10000; decide⟩, c7W tol, c7T tol, ⟨by show p7 4616189618054758400 = true; decide, by show fcmp .gt 4616189618054758400 0 = true; decide⟩, c9P outs _ (by omega)⟩
 ·show (mkO outs (mkE fin (2 ^ mkA first))).length <= 1000
  rw [b3w]; omega
 ·obtain ⟨b1, b2, b3⟩ := hb.box i hi
  obtain ⟨k, hk, _⟩ := hb.y i hi
  have d16 : (0 : Rat) <= 16 := by decide
  exact ⟨(a2n b1.1 b1.2).2 (by grind), U8 b1.1, U8 b1.2, (a2n b1.1 hk.fin).2 (by grind), (a2n hk.fin b1.2).2 (by grind)⟩
 ·show ((2 ^ (mkA first - mkB least) : Nat) : Int) <= ((2 ^ mkA first : Nat) : Int)
  exact Int.ofNat_le.2 (d11 (by decide) (Nat.sub_le _ _))
def a6d : CA := (.seq (.seq (.reg [i_M 0 11 5, i_M 1 12 0, i_X 2 13 (.h (.len (.t 12))), i_N 3 14 .lss 11 13] [0, 1, 5, 14]) (.cond (.t 14) .skip (.exit 0))) (.seq (.block 1 (.seq (.reg [i_M 0 17 0, i_M 1 18 5, i_I 2 19 17 18 3, i_P 3 20 19 0, i_L 4 21 20 1, i_M 5 22 1, i_M 6 23 5, i_I 7 24 22 23 3, i_P 8 25 24 0, i_L 9 26 25 1, i_N 10 27 .neq 21 26, i_M 11 28 27, g_F 12 29 28 (.h (.mov (.t 0))), g_F 13 30 28 (.h (.mov (.t 5))), g_F 14 31 28 (.h (.idx (.t 29) (.t 30) 3)), g_F 15 32 28 (.h (.padd (.t 31) 1)), g_F 16 33 28 (.load (.t 32) 1 false), g_F 17 34 28 (.h (.mov (.t 1))), g_F 18 35 28 (.h (.mov (.t 5))), g_F 19 36 28 (.h (.idx (.t 34) (.t 35) 3)), g_F 20 37 28 (.h (.padd (.t 36) 1)), g_F 21 38 28 (.load (.t 37) 1 false), g_F 22 39 28 (.callA (kF 58) [(.t 33), (.t 38)]), g_F 23 40 28 (.h (.un .not (.t 39))), i_X 24 41 (.h (.pick (.t 28) (.k (.d (.bool true))) (.t 40))), i_M 25 42 41, g_F 26 43 42 (.h (.mov (.t 0))), g_F 27 44 42 (.h (.mov (.t 5))), g_F 28 45 42 (.h (.idx (.t 43) (.t 44) 3)), g_F 29 46 42 (.h (.padd (.t 45) 2)), g_F 30 47 42 (.load (.t 46) 1 false), g_F 31 48 42 (.h (.mov (.t 1))), g_F 32 49 42 (.h (.mov (.t 5))), g_F 33 50 42 (.h (.idx (.t 48) (.t 49) 3)), g_F 34 51 42 (.h (.padd (.t 50) 2)), g_F 35 52 42 (.load (.t 51) 1 false), g_F 36 53 42 (.callA (kF 59) [(.t 47), (.t 52)]), g_F 37 54 42 (.h (.un .not (.t 53))), i_X 38 55 (.h (.pick (.t 42) (.k (.d (.bool true))) (.t 54)))] [0, 1, 5, 55]) (.cond (.t 55) (.seq (.reg [i_X 0 4 (.h (.mov (.k (.d (.bool false)))))] [4]) .ret) .skip))) (.reg [i_M 0 15 5, i_B 1 16 .add 15 1, i_M 2 5 16] [0, 1, 5])))
def b2G : CA := (.seq (.reg [i_X 0 4 (.h (.mov (.k (.d (.bool false)))))] [0, 1]) (.seq (.seq (.reg [i_M 0 6 0, i_X 1 7 (.h (.len (.t 6))), i_M 2 8 1, i_X 3 9 (.h (.len (.t 8))), i_N 4 10 .neq 7 9] [0, 1, 10]) (.cond (.t 10) (.seq (.reg [i_X 0 4 (.h (.mov (.k (.d (.bool false)))))] [4]) .ret) .skip)) (.seq (.seq (.reg [i_K 0 5 0] [0, 1, 5]) (.block 0 (.loop a6d))) (.seq (.reg [i_X 0 4 (.h (.mov (.k (.d (.bool true)))))] [4]) .ret))))
theorem b0t : f6 Tryz.prog 29 = some ⟨56, [(4, none)], b2G.strip⟩ := by kernel_rfl
structure Rl (r : Rn) : Prop where
 z : Zl r.s.n.z
 last : r.last.length < 2 ^ 62
theorem y50 {p : Pb} (hx : Pbx p) {i : Nat} (hi : i < p.t.n) : rabs (val (p.y.getD i 0)) <= 50 := by
 obtain ⟨ky, hky, hkb⟩ := hx.y i hi
 rw [hky.val]
 have p16 := N9 (-3) 3
 rw [show (-3 : Int) + (3 : Nat) = 0 from rfl, C6] at p16
 have e1 : ((2 ^ 3 : Nat) : Rat) = 8 := rfl
 have p0 := q6 (-3)
 have hri := b3b ky
 have : rabs (ky : Rat) <= ((400 : Nat) : Rat) := by rw [hri]; exact d10.2 hkb
 have q := v9 (ky : Rat)
 have e4 : ((400 : Nat) : Rat) = 400 := rfl
 have m1 := d1V (show (ky : Rat) <= 400 by grind) (d1W p0)
 have m2 := d1V (show -(ky : Rat) <= 400 by grind) (d1W p0)
 exact r6 (by grind) (by grind)
theorem c4K {v : Nd} {a : Int} (hst : ∃ j : Nat, j < 50 /\ v.step = (2 ^ j : Nat)) (h1 : v.pos - v.step < a) (h2 : a <= v.pos) : cw (sP v a) /\ fin (sP v a) /\ rabs (val (sP v a)) <= 1 := by
 obtain ⟨j, hj, he⟩ := hst
 have hp : 2 ^ j <= 2 ^ 49 := d11 (by decide) (by omega)
 have hp0 : 0 < 2 ^ j := Nat.pow_pos (by decide)
 have x := Ix.ofInt (a - v.pos) (by omega)
 have y := Ix.ofInt v.step (by omega)
 have xv := x.val
 have yv := y.val
 rw [C6] at xv yv
 have hy0 : (0 : Rat) < (v.step : Rat) := by exact_mod_cast Rat.intCast_lt_intCast.2 (show (0 : Int) < v.step by omega)
 have hyn : val (FloatKind.nearest .f64 v.step) ≠ 0 := by grind
 have hq : val (FloatKind.nearest .f64 (a - v.pos)) / val (FloatKind.nearest .f64 v.step) * val (FloatKind.nearest .f64 v.step) = val (FloatKind.nearest .f64 (a - v.pos)) := Rat.div_mul_cancel hyn
 generalize val (FloatKind.nearest .f64 (a - v.pos)) / val (FloatKind.nearest .f64 v.step) = q at hq
 have hq' := hq
 rw [xv, yv] at hq'
 have c1 : ((a - v.pos : Int) : Rat) <= 0 := by exact_mod_cast Rat.intCast_le_intCast.2 (show a - v.pos <= 0 by omega)
 have c2 : -(v.step : Rat) <= ((a - v.pos : Int) : Rat) := by
  rw [<- Rat.intCast_neg]
  exact Rat.intCast_le_intCast.2 (show -v.step <= a - v.pos by omega)
 have q1 : rabs q <= 1 := by
  clear xv yv hq hyn x y
  generalize ((a - v.pos : Int) : Rat) = D at c1 c2 hq'
  generalize (v.step : Rat) = S at hy0 c2 hq'
  have le1 : q <= 0 := by
   by_cases h : q <= 0
   ·exact h
   ·have := Rat.mul_pos (show 0 < q by grind) hy0; grind
  have le2 : -1 <= q := by
   by_cases h : -1 <= q
   ·exact h
   ·have := Rat.mul_pos (show 0 < -1 - q by grind) hy0; grind
  exact r6 (by grind) (by grind)
 have b2 := z1 (x := 2) (by rw [g8 (by decide)]; decide)
 rw [g8 (by decide)] at b2
 have Q := c3n x.fin y.fin hyn hq (by grind)
 exact ⟨A2 _ _ _, Q.fin, Q.one q1⟩
theorem c3u : 40 * eps <= 1 := by
 have h1 := G0 (show (-30 : Int) <= 0 by decide)
 rw [C6] at h1
 have h2 := N9 (-36) 6
 rw [show (-36 : Int) + (6 : Nat) = -30 from rfl] at h2
 have h3 : ((2 ^ 6 : Nat) : Rat) = 64 := rfl
 have h4 : eps = pw (-36) := rfl
 have := q6 (-36)
 grind
theorem c17 {p : Pb} {v : Nd} {b e r : Nat} {y : List Nat} {w : Nat} {R : Bnd × Int} {a : Int} (hx : Pbx p) (hn : 0 < p.t.n) (hrk : Rk (v.order.toNat + 1) p.t.n v.z) (hord : v.order.toNat < 9) (hz : Cw v.z) (h0 : 0 < hW v.step.toNat /\ hW v.step.toNat < 9218868437227405312)
  (hs : PSpec p.t p.box v.z (hW v.step.toNat) y w e r R) (hst : ∃ j : Nat, j < 50 /\ v.step = (2 ^ j : Nat)) (h1 : v.pos - v.step < a) (h2 : a <= v.pos) (hb : Pw b) (hb2 : b < 9218868437227405312) (hb3 : val b <= 100) :
  (outP v p.t.n b a).y.length = p.t.n /\ fin (outP v p.t.n b a).bound /\ val b <= val (outP v p.t.n b a).bound /\ val (outP v p.t.n b a).bound <= val b + 35 * eps := by
 obtain ⟨s1, s2, s3⟩ := c4K hst h1 h2
 have hl := hrk.1
 have ep := a6R
 have es := c3u
 have hb0 : 0 <= val b := by rw [P4 hb2]; exact s5 _
 have each : ∀ i, i < p.t.n -> Pw (outB v p.t.n (sP v a) b i) /\ fin (outB v p.t.n (sP v a) b i) /\ val b <= val (outB v p.t.n (sP v a) b i) /\ val (outB v p.t.n (sP v a) b i) <= val b + 35 * eps := by
  intro i hi
  obtain ⟨x1, x2, x3⟩ := hx.box i hi
  have cs := c0A hz (by omega) hi x1 x2 x3 (y50 hx hi) hs h0
  have hc := fun k => c6Z hz i k
  have hcl := U0 v.z i
  obtain ⟨o1, o2, o3⟩ := c2f hc (fun j => (cs j).1) (fun j => (cs j).2) s1 s2 s3 (by omega)
  have eo : outB v p.t.n (sP v a) b i = up (fop .add b (P2 (y7 (valC (colT v.z i) (sP v a)) (pt (M7 (colT v.z i) (sP v a) ((colT v.z i).length - 1)))))) := by
   unfold outB offP
   rw [c8H v.z p.t.n (sP v a) i hi (by omega), hcl]
  rw [eo]
  generalize hM : P2 (y7 (valC (colT v.z i) (sP v a)) (pt (M7 (colT v.z i) (sP v a) ((colT v.z i).length - 1)))) = M at o1 o2 o3
  have hMP : Pw M := by rw [<- hM]; exact a9G (by rw [hM]; exact U8 o1)
  have sm := (a2g (F0 hb2) o1 (z1 (r6 (by grind) (by grind)))).small (show rabs (val b + val M) <= 4000 from r6 (by grind) (by grind))
  have uf := (a2g (F0 hb2) o1 (z1 (r6 (by grind) (by grind)))).up.1
  exact ⟨(Y3 (b0f hb hMP)).1, uf, by grind, by grind⟩
 refine ⟨j9 _ _, ?_⟩
 show fin (z8 _ _) /\ val b <= val (z8 _ _) /\ val (z8 _ _) <= _
 obtain ⟨i, hi, e⟩ := a1t (outB v p.t.n (sP v a) b) (p.t.n - 1)
 rw [e]
 obtain ⟨_, e2, e3, e4⟩ := each i (by omega)
 exact ⟨e2, e3, e4⟩
def ou0 : Ou := ⟨0, [], 0⟩
structure Ook (p : Pb) (o : Ou) (i : Nat) : Prop where
 pos : o.pos = p.outs.getD i 0
 y : o.y.length = p.t.n
 fin : fin o.bound
 lo : 0 <= val o.bound
 hi : val o.bound <= val p.cap + 35 * eps
structure GI (p : Pb) (k : Nat) (x : Rn × List Ou × Int) : Prop where
 r : RInv p k x.1
 nx : x.1.next = x.2.1.length
 ou : ∀ i, i < x.2.1.length -> Ook p (x.2.1.getD i ou0) i
 ahead : ∀ i, x.1.next <= i -> i < p.outs.length -> x.1.s.n.pos < p.outs.getD i 0
 bl : x.1.bound < 9218868437227405312
 bc : val x.1.bound <= val p.cap
 att : x.1.att <= k
 e : 0 <= x.2.2 /\ x.2.2 <= 8 /\ x.2.2 ≠ 1
 now : ∀ i, i < x.2.1.length -> val (x.2.1.getD i ou0).bound <= val x.1.bound + 35 * eps
 ord : ∀ i j, i < j -> j < x.2.1.length -> val (x.2.1.getD i ou0).bound <= val (x.2.1.getD j ou0).bound + 35 * eps
structure Pst (p : Pb) : Prop where
 k2 : Pk2 p
 v : Vpb p
 x : Pbx p
 capl : p.cap < 9218868437227405312
 cap : val p.cap <= 64
theorem Pst.cap0 {p : Pb} (h : Pst p) : 0 <= val p.cap := by rw [P4 h.capl]; exact s5 _
theorem a5L {l l2 : List Ou} {i : Nat} : (l ++ l2).getD i ou0 = if i < l.length then l.getD i ou0 else l2.getD (i - l.length) ou0 := by
 rw [d1M]
 by_cases h : i < l.length
 ·rw [if_pos h, d1P h, <- d1M]
 ·rw [if_neg h, d1Q (by omega), <- d1M]
theorem c4v (p : Pb) (v : Nd) (b k i : Nat) (hi : i < (B4 p v b k).length) : (B4 p v b k).getD i ou0 = outP v p.t.n b (p.outs.getD (k + i) 0) := by
 have h1 := b4K p v b k i hi
 have h2 : ((B4 p v b k).take (i + 1))[i]? = some (outP v p.t.n b (p.outs.getD (k + i) 0)) := by
  rw [h1, d1Q (by rw [List.length_take]; omega), List.length_take, Nat.min_eq_left (by omega), Nat.sub_self]; rfl
 rw [List.getElem?_take, if_pos (by omega)] at h2
 rw [d1M, h2]; rfl
theorem b5J (p : Pb) (r : Rn) (i : Nat) (hi : i < (q9 p r).length) : (q9 p r).getD i ou0 = ⟨0, p.y, 0⟩ := by
 have h1 := b2k p r i hi
 have h2 : ((q9 p r).take (i + 1))[i]? = some ⟨0, p.y, 0⟩ := by
  rw [h1, d1Q (by rw [List.length_take]; omega), List.length_take, Nat.min_eq_left (by omega), Nat.sub_self]; rfl
 rw [List.getElem?_take, if_pos (by omega)] at h2
 rw [d1M, h2]; rfl
theorem c9x {p : Pb} (h : Vpb p) {i j : Nat} (hij : i <= j) (hj : j < p.outs.length) : p.outs.getD i 0 <= p.outs.getD j 0 := by
 obtain ⟨d, rfl⟩ : ∃ d, j = i + d := ⟨j - i, by omega⟩
 clear hij
 induction d with
 | zero => exact Int.le_refl _
 | succ d ih =>
  have h1 := ih (by omega)
  have h2 := (h.outs (i + (d + 1)) hj).2.2
  rcases h2 with h2 | h2
  ·omega
  ·rw [show i + (d + 1) - 1 = i + d by omega] at h2
   omega
theorem c0M {p : Pb} (h : Vpb p) (v : Nd) (b k : Nat) : ∀ i, k + (B4 p v b k).length <= i -> i < p.outs.length -> v.pos < p.outs.getD i 0 := by
 intro i h1 h2
 by_cases hc : v.pos < p.outs.getD (k + (B4 p v b k).length) 0
 ·have := c9x h h1 h2
  omega
 ·have := (b6B p v b k (B4 p v b k).length (d1Z _)).2 ⟨by omega, by omega⟩
  omega
structure Took (p : Pb) (r : Rn) : Prop where
 np : (tryP p r.s).n.pos = r.s.n.pos + r.s.n.step
 ns : (tryP p r.s).n.step = r.s.n.step
 sp : (tryP p r.s).s.n.pos = r.s.n.pos + r.s.n.step
 st : ∃ j : Nat, j < 50 /\ (tryP p r.s).n.step = (2 ^ j : Nat)
 hw : 0 < hW (tryP p r.s).n.step.toNat /\ hW (tryP p r.s).n.step.toNat < 9218868437227405312
 ok : Bok p (tryP p r.s).n r.last r.bound
 cw : Cw (tryP p r.s).n.z
 sp0 : 1 <= r.s.n.step
theorem c09 {p : Pb} {k : Nat} {x : Sta} (hp : Pk2 p) (hi : Inv p k x) (ht : (tryP p x).taken = true) : Cw (tryP p x).n.z := by
 rcases a3n hp.pk hi with ⟨_, sp⟩ | ⟨h, _⟩
 ·obtain ⟨d, kk, hd, hs, hz⟩ := sp.sol
  rw [hz]; exact a5W (a5p hi.ok.n.cw _ _) _ _ _ _
 ·rw [h] at ht; cases ht
theorem took {p : Pb} {k : Nat} {r : Rn} (h : Pk2 p) (hr : RInv p k r) (ht : (tryP p r.s).taken = true) : Took p r := by
 have hbk := a9c h hr.s ht r.last r.bound hr.last hr.bound
 have hc := c09 h hr.s ht
 rcases a3n h.pk hr.s with ⟨_, sp⟩ | ⟨e, _⟩
 ·have hst := hbk.step
  obtain ⟨j, hj, he⟩ := hst
  have hlo := hr.s.lo
  have hhi := hr.s.hi
  have hl1 := h.pk.ok.least
  have hfin := h.pk.fin
  obtain ⟨a, ha, hfa⟩ := h.pk.fst
  have pa : 2 ^ a <= 2 ^ 28 := d11 (by decide) ha
  have hns := sp.nstep
  have hj2 : j < 50 := by
   have h1 : 2 ^ j < 2 ^ 50 := by
    have : r.s.n.step <= 4294967296 := by omega
    omega
   exact (Nat.pow_lt_pow_iff_right (by decide)).1 h1
  exact ⟨sp.npos, hns, sp.pos, ⟨j, hj2, he⟩, by rw [he, Int.toNat_natCast]; exact c8p j hj, hbk, hc, by omega⟩
 ·rw [e] at ht; cases ht
theorem d0a {p : Pb} (h : Pst p) {b : Nat} (hb : b < 9218868437227405312) (hg : fcmp .gt b p.cap = false) : val b <= val p.cap := by
 have h1 : ¬ fcmp .gt b p.cap = true := by rw [hg]; simp
 rw [J8 (F0 hb) (F0 h.capl)] at h1
 grind
theorem c7v {p : Pb} {k : Nat} {x : Rn × List Ou × Int} (h : Pst p) (hx : GI p k x) (hk : k < 100000) : GI p (k + 1) ((A7 p x.1).1, x.2.1 ++ (A7 p x.1).2.1, (A7 p x.1).2.2) := by
 obtain ⟨r, l, e⟩ := x
 obtain ⟨hr, hnx, hou, hah, hbl, hbc, hat, he, hno, hor⟩ := hx
 simp only at hr hnx hou hah hbl hbc hat he hno hor
 have hri := b4N h.k2 hr hk
 rcases F9 p r with ⟨_, e1⟩ | ⟨_, h2, e1⟩ | ⟨_, _, ht, herr, e1⟩ | ⟨_, _, ht, hB, hg, e1⟩
 ·rw [e1] at hri
  simp only
  rw [e1, List.append_nil]
  exact ⟨hri, hnx, hou, hah, hbl, hbc, by show r.att <= k + 1; omega, ⟨by show (0 : Int) <= 6; decide, by show (6 : Int) <= 8; decide, by show (6 : Int) ≠ 1; decide⟩, hno, hor⟩
 ·rw [e1] at hri
  simp only
  rw [e1, List.append_nil]
  rcases a3n h.k2.pk hr.s with ⟨ht, sp⟩ | ⟨ht, sp⟩
  ·rcases h2 with h2 | h2
   ·exact absurd sp.e h2
   ·rw [ht] at h2; cases h2
  ·have hp := sp.pos
   refine ⟨hri, hnx, hou, fun i h1 h3 => ?_, hbl, hbc, by show r.att + 1 <= k + 1; omega, ?_, hno, hor⟩
   ·show (tryP p r.s).s.n.pos < _
    rw [hp]; exact hah i h1 h3
   ·show 0 <= (tryP p r.s).e /\ (tryP p r.s).e <= 8 /\ (tryP p r.s).e ≠ 1
    by_cases h0 : (tryP p r.s).e = 0
    ·rw [h0]; decide
    ·have := (sp.stay h0).2.2
     omega
 ·rw [e1] at hri
  simp only
  rw [e1, List.append_nil]
  refine ⟨hri, hnx, hou, hah, hbl, hbc, by show r.att + 1 <= k + 1; omega, ?_, hno, hor⟩
  show 0 <= errR p r /\ errR p r <= 8 /\ errR p r ≠ 1
  have hok := c8E p.t p.box (tryP p r.s).n.z (hW (tryP p r.s).n.step.toNat) r.last r.bound
  unfold errR
  split
  ·decide
  ·rcases hok with ⟨o1, _⟩ | ⟨_, o2⟩
   ·have : (bdR p r).2 = 0 := o1
    omega
   ·have : (bdR p r).2 = 3 \/ (bdR p r).2 = 7 := o2
    omega
 ·have tk := took h.k2 hr ht
  obtain ⟨ee, rr, ps⟩ := b53 p.t p.box (tryP p r.s).n.z (hW (tryP p r.s).n.step.toNat) r.last r.bound hr.bound tk.hw hB
  have hn := h.k2.pk.ok.n
  obtain ⟨b1, b2, b3⟩ := h.x.box 0 hn
  have B := c6E ⟨b1, by grind⟩ hn hr.bound ps tk.hw
  have hbB : (bdR p r).1.bound < 9218868437227405312 := B.bl
  have hvb := d0a h hbB hg
  have hcap := h.cap
  have hbP : Pw (bdR p r).1.bound := Nat.le_of_lt hbB
  have hwb : val r.bound <= val (bdR p r).1.bound := by
   have q1 := B.lo
   have q2 : val ee <= val (bdR p r).1.bound := B.be
   have q3 := B.j0
   have q4 := B.x0
   grind
  have hb0 : 0 <= val (bdR p r).1.bound := by rw [P4 hbB]; exact s5 _
  have ep := a6R
  have new : ∀ i, l.length <= i -> i < l.length + (B4 p (tryP p r.s).n (bdR p r).1.bound r.next).length -> (B4 p (tryP p r.s).n (bdR p r).1.bound r.next).getD (i - l.length) ou0 = outP (tryP p r.s).n p.t.n (bdR p r).1.bound (p.outs.getD i 0) /\
    (outP (tryP p r.s).n p.t.n (bdR p r).1.bound (p.outs.getD i 0)).y.length = p.t.n /\ fin (outP (tryP p r.s).n p.t.n (bdR p r).1.bound (p.outs.getD i 0)).bound /\ val (bdR p r).1.bound <= val (outP (tryP p r.s).n p.t.n (bdR p r).1.bound (p.outs.getD i 0)).bound /\
    val (outP (tryP p r.s).n p.t.n (bdR p r).1.bound (p.outs.getD i 0)).bound <= val (bdR p r).1.bound + 35 * eps := by
   intro i h3 h4
   have hi2 : i - l.length < (B4 p (tryP p r.s).n (bdR p r).1.bound r.next).length := by omega
   have hg := c4v _ _ _ _ _ hi2
   have hta := (b6B p (tryP p r.s).n (bdR p r).1.bound r.next (i - l.length) (by omega)).1 hi2
   rw [hnx, show l.length + (i - l.length) = i by omega] at hta
   rw [hnx, show l.length + (i - l.length) = i by omega, <- hnx] at hg
   have ha := hah i (by omega) hta.1
   have hnp := tk.np
   have hns := tk.ns
   obtain ⟨q1, q2, q3, q4⟩ := c17 h.x hn tk.ok.rk tk.ok.ord tk.cw tk.hw ps tk.st (a := p.outs.getD i 0) (by omega) hta.2 hbP hbB (by grind)
   exact ⟨by rw [<- hnx]; exact hg, q1, q2, q3, q4⟩
  rw [e1] at hri
  simp only
  rw [e1]
  refine ⟨hri, ?_, fun i hi => ?_, ?_, hbB, hvb, by show r.att + 1 <= k + 1; omega, ⟨by show (0 : Int) <= 0; decide, by show (0 : Int) <= 8; decide, by show (0 : Int) ≠ 1; decide⟩, fun i hi => ?_, fun i j hij hj => ?_⟩
  ·show r.next + (B4 _ _ _ _).length = (l ++ B4 _ _ _ _).length
   rw [List.length_append, hnx]
  ·simp only at hi ⊢
   rw [List.length_append] at hi
   rw [a5L]
   split
   ·rename_i h3; exact hou i h3
   ·rename_i h3
    obtain ⟨q0, q1, q2, q3, q4⟩ := new i (by omega) hi
    rw [q0]
    exact ⟨rfl, q1, q2, by grind, by grind⟩
  ·intro i h1 h2
   have := c0M h.v (tryP p r.s).n (bdR p r).1.bound r.next i h1 h2
   have hsp := tk.sp
   have hnp := tk.np
   show (tryP p r.s).s.n.pos < _
   omega
  ·simp only at hi ⊢
   rw [List.length_append] at hi
   show _ <= val (bdR p r).1.bound + 35 * eps
   rw [a5L]
   split
   ·rename_i h3
    have := hno i h3
    grind
   ·rename_i h3
    obtain ⟨q0, q1, q2, q3, q4⟩ := new i (by omega) hi
    rw [q0]; exact q4
  ·simp only at hj ⊢
   rw [List.length_append] at hj
   rw [a5L, a5L]
   by_cases h4 : j < l.length
   ·rw [if_pos h4, if_pos (by omega)]
    exact hor i j hij h4
   ·obtain ⟨q0, q1, q2, q3, q4⟩ := new j (by omega) hj
    rw [if_neg h4, q0]
    split
    ·rename_i h3
     have := hno i h3
     grind
    ·rename_i h3
     obtain ⟨u0, u1, u2, u3, u4⟩ := new i (by omega) (by omega)
     rw [u0]
     grind
theorem b39 {p : Pb} (h : Pst p) : GI p 0 (⟨a2t p, p.y, 0, 0, (q9 p (m7 p)).length⟩, q9 p (m7 p), 0) := by
 have hr := b2u h.k2
 have hat := fun i hi => b3R p (m7 p) i hi
 have hpos0 : (m7 p).s.n.pos = 0 := rfl
 have hnx0 : (m7 p).next = 0 := rfl
 simp only [hpos0, hnx0, Nat.zero_add] at hat
 have hfl := a9Z p (m7 p)
 have hg := fun i hi => b5J p (m7 p) i hi
 generalize q9 p (m7 p) = T0 at hat hfl hg ⊢
 have ep := a6R
 have hc := h.cap0
 refine ⟨⟨hr.s, hr.last, hr.bound, hfl⟩, rfl, fun i hi => ?_, fun i h1 h2 => ?_, by show 0 < 9218868437227405312; decide, by show val 0 <= _; rw [r8]; exact hc, d1Z _, ⟨by show (0 : Int) <= 0; decide, by show (0 : Int) <= 8; decide, by show (0 : Int) ≠ 1; decide⟩, fun i hi => ?_, fun i j hij hj => ?_⟩
 ·have hi : i < T0.length := hi
  show Ook p (T0.getD i ou0) i
  rw [hg i hi]
  have := (hat i (by omega)).1 hi
  exact ⟨this.2.2.symm, h.v.yl, t0, by show 0 <= val 0; rw [r8]; exact Rat.le_refl, by show val 0 <= _; rw [r8]; grind⟩
 ·have h1 : T0.length <= i := h1
  show (0 : Int) < _
  have h3 := c9x h.v h1 h2
  have h4 := (h.v.outs T0.length (by omega)).1
  by_cases h5 : p.outs.getD T0.length 0 = 0
  ·have := (hat T0.length (d1Z _)).2 ⟨trivial, by omega, h5⟩
   omega
  ·omega
 ·have hi : i < T0.length := hi
  show val (T0.getD i ou0).bound <= val 0 + 35 * eps
  rw [hg i hi]
  show val 0 <= _
  grind
 ·have hj : j < T0.length := hj
  show val (T0.getD i ou0).bound <= val (T0.getD j ou0).bound + 35 * eps
  rw [hg i (by omega), hg j hj]
  show val 0 <= val 0 + _
  grind
theorem c8s {p : Pb} (h : Pst p) : ∀ c x k, GI p k x -> k + c < 100000 -> ∃ k', k' <= k + c /\ GI p k' (goK p c x) := by
 intro c
 induction c with
 | zero => intro x k hx _; exact ⟨k, d1Z _, hx⟩
 | succ c ih =>
  intro x k hx hk
  unfold goK
  split
  ·obtain ⟨k', h1, h2⟩ := ih _ (k + 1) (c7v h hx (by omega)) (by omega)
   exact ⟨k', by omega, h2⟩
  ·exact ⟨k, by omega, hx⟩
theorem a9T (p : Pb) (m : Nat) : goP p (m7 p) m = goK p m (⟨a2t p, p.y, 0, 0, (q9 p (m7 p)).length⟩, q9 p (m7 p), 0) := by
 unfold goP
 have : (⟨(m7 p).s, (m7 p).last, (m7 p).bound, (m7 p).att, (m7 p).next + (q9 p (m7 p)).length⟩ : Rn) = ⟨a2t p, p.y, 0, 0, (q9 p (m7 p)).length⟩ := by
  unfold m7; simp
 rw [this]
structure SolS (p : Pb) (x : Rn × List Ou × Int) : Prop where
 len : x.2.1.length <= p.outs.length
 nx : x.1.next = x.2.1.length
 all : x.2.2 = 0 -> x.2.1.length = p.outs.length
 ou : ∀ i, i < x.2.1.length -> Ook p (x.2.1.getD i ou0) i
 att : (x.1.att : Int) <= p.most
 bl : x.1.bound < 9218868437227405312
 bc : val x.1.bound <= val p.cap
 at' : x.2.2 ≠ 0 \/ p.fin <= x.1.s.n.pos
 e : 0 <= x.2.2 /\ x.2.2 <= 8 /\ x.2.2 ≠ 1
 ord : ∀ i j, i < j -> j < x.2.1.length -> val (x.2.1.getD i ou0).bound <= val (x.2.1.getD j ou0).bound + 35 * eps
 l : Rl x.1
theorem b6N {p : Pb} (h : Pst p) : SolS p (R6 p) := by
 have hm := h.v.most
 obtain ⟨k, hk, g⟩ := c8s h p.most.toNat _ 0 (b39 h) (by omega)
 rw [<- a9T] at g
 have e : R6 p = ((goP p (m7 p) p.most.toNat).1, (goP p (m7 p) p.most.toNat).2.1, if (goP p (m7 p) p.most.toNat).2.2 = 0 /\ (goP p (m7 p) p.most.toNat).1.s.n.pos < p.fin then 6 else (goP p (m7 p) p.most.toNat).2.2) := rfl
 rw [e]
 generalize goP p (m7 p) p.most.toNat = y at g
 obtain ⟨r, l, e3⟩ := y
 obtain ⟨hr, hnx, hou, hah, hbl, hbc, hat, he, hno, hor⟩ := g
 simp only at hr hnx hou hah hbl hbc hat he hno hor ⊢
 have hnl := hr.next
 have hn3 := h.k2.n
 have hlast := hr.last
 refine ⟨by show l.length <= _; omega, hnx, fun h0 => ?_, hou, by show (r.att : Int) <= _; omega, hbl, hbc, ?_, ?_, hor, ⟨d1z hr.s.ok.n.rk (by have := hr.s.ok.n.m; omega) (by omega), by show r.last.length < _; omega⟩⟩
 ·have h0 : (if e3 = 0 /\ r.s.n.pos < p.fin then (6 : Int) else e3) = 0 := h0
  show l.length = p.outs.length
  by_cases hc : e3 = 0 /\ r.s.n.pos < p.fin
  ·rw [if_pos hc] at h0; cases h0
  ·rw [if_neg hc] at h0
   by_cases hl : l.length < p.outs.length
   ·have h1 := hah l.length (by omega) hl
    have h2 := (h.v.outs l.length hl).2.1
    exact absurd ⟨h0, by omega⟩ hc
   ·omega
 ·show (if e3 = 0 /\ r.s.n.pos < p.fin then (6 : Int) else e3) ≠ 0 \/ p.fin <= r.s.n.pos
  by_cases hc : e3 = 0 /\ r.s.n.pos < p.fin
  ·rw [if_pos hc]; exact .inl (by decide)
  ·rw [if_neg hc]
   by_cases h0 : e3 = 0
   ·right
    by_cases hp : r.s.n.pos < p.fin
    ·exact absurd ⟨h0, hp⟩ hc
    ·omega
   ·exact .inl h0
 ·have key : ∀ z : Int, (z = 6 \/ z = e3) -> 0 <= z /\ z <= 8 /\ z ≠ 1 := fun z hz => by
   rcases hz with rfl | rfl
   ·decide
   ·exact he
  refine key _ ?_
  show (if e3 = 0 /\ r.s.n.pos < p.fin then (6 : Int) else e3) = 6 \/ _
  split
  ·exact .inl rfl
  ·exact .inr rfl
theorem ix_4z : Ix 0 4616189618054758400 4 := by
 refine ⟨ix_4.fin, ?_⟩
 rw [ix_4.val]
 have := N9 0 2
 rw [show (0 : Int) + (2 : Nat) = 2 from rfl, C6] at this
 have e : ((2 ^ 2 : Nat) : Rat) = 4 := rfl
 rw [C6]
 have e1 : ((1 : Int) : Rat) = 1 := rfl
 have e4 : ((4 : Int) : Rat) = 4 := rfl
 grind
theorem c2v (n first least tol fin : Int) (ns ms outs : List Int) (dv : Bool) : Pst (mkPb n first least tol fin ns ms outs dv) :=
 ⟨c5d n first least tol fin ns ms outs dv, c9N n first least tol fin ns ms outs dv, b8p n first least tol fin ns ms outs dv, by show 4616189618054758400 < 9218868437227405312; decide, by
  show val 4616189618054758400 <= 64
  rw [ix_4z.val, C6]
  have e4 : ((4 : Int) : Rat) = 4 := rfl
  grind⟩
def c6 : Nat := 4517329193108106637
def pm (p : Pb) (m : Int) : Pb := ⟨p.t, p.box, p.y, p.fin, p.first, p.least, p.atol, p.rtol, p.cap, m, p.outs⟩
theorem c41 {p : Pb} (h : Pst p) (m : Int) (h1 : 1 <= m) (h2 : m <= 10000) : Pst (pm p m) := by
 obtain ⟨⟨⟨⟨a1, a2, a3⟩, a4, a5, a6, a7, a8, a9⟩, b1, b2, b3⟩, ⟨c1, c2, c3, c4, c5, c6, c7, c8, c9, _, d1, d2, d3, d4⟩, ⟨e1, e2⟩, e3, e4⟩ := h
 exact ⟨⟨⟨⟨a1, a2, a3⟩, a4, a5, a6, a7, a8, a9⟩, b1, b2, b3⟩, ⟨c1, c2, c3, c4, c5, c6, c7, c8, c9, ⟨h1, h2⟩, d1, d2, d3, d4⟩, ⟨e1, e2⟩, e3, e4⟩
theorem c7u (p : Pb) (m m' : Int) (r : Rn) (h1 : (r.att : Int) < m) (h2 : (r.att : Int) < m') : A7 (pm p m) r = A7 (pm p m') r := by
 have e1 : ¬ (pm p m).most <= (r.att : Int) := by show ¬ m <= _; omega
 have e2 : ¬ (pm p m').most <= (r.att : Int) := by show ¬ m' <= _; omega
 unfold A7
 rw [if_neg e1, if_neg e2]
 rfl
theorem c4C (p : Pb) (r : Rn) (h : (r.att : Int) < p.most) : (A7 p r).1.att = r.att + 1 := by
 rcases F9 p r with ⟨h1, _⟩ | ⟨_, _, e⟩ | ⟨_, _, _, _, e⟩ | ⟨_, _, _, _, _, e⟩
 ·omega
 ·rw [e]
 ·rw [e]
 ·rw [e]; rfl
theorem d0c (p : Pb) (m m' : Int) : ∀ c x, ((x.1.att + c : Nat) : Int) <= m -> ((x.1.att + c : Nat) : Int) <= m' -> goK (pm p m) c x = goK (pm p m') c x := by
 intro c
 induction c with
 | zero => intro x _ _; rfl
 | succ c ih =>
  intro x h1 h2
  unfold goK
  rw [c7u p m m' x.1 (by omega) (by omega)]
  have ha := c4C (pm p m') x.1 (by show _ < m'; omega)
  have hf : (pm p m).fin = (pm p m').fin := rfl
  rw [hf]
  split
  ·exact ih _ (by show (((A7 (pm p m') x.1).1.att + c : Nat) : Int) <= m; omega) (by show (((A7 (pm p m') x.1).1.att + c : Nat) : Int) <= m'; omega)
  ·rfl
theorem c5L (p : Pb) (c : Nat) (x : Rn × List Ou × Int) : goK p (c + 1) x = if x.2.2 = 0 /\ x.1.s.n.pos < p.fin then goK p c ((A7 p x.1).1, x.2.1 ++ (A7 p x.1).2.1, (A7 p x.1).2.2) else x := rfl
theorem c8r (p : Pb) : ∀ c x, goK p (c + 1) x = goK p 1 (goK p c x) := by
 intro c
 induction c with
 | zero => intro x; rfl
 | succ c ih =>
  intro x
  have e1 := c5L p (c + 1) x
  have e2 := c5L p c x
  by_cases h : x.2.2 = 0 /\ x.1.s.n.pos < p.fin
  ·rw [if_pos h] at e1 e2
   rw [e1, e2]; exact ih _
  ·rw [if_neg h] at e1 e2
   rw [e1, e2]
   exact ((c5L p 0 x).trans (if_neg h)).symm
theorem c1k {p : Pb} {k : Nat} {r : Rn} (h : Pst p) (hr : RInv p k r) (hbl : r.bound < 9218868437227405312) : r.s.n.pos <= (A7 p r).1.s.n.pos /\ val r.bound <= val (A7 p r).1.bound := by
 rcases F9 p r with ⟨_, e1⟩ | ⟨_, h2, e1⟩ | ⟨_, _, ht, herr, e1⟩ | ⟨_, _, ht, hB, hg, e1⟩
 ·rw [e1]; exact ⟨Int.le_refl _, Rat.le_refl⟩
 ·rw [e1]
  refine ⟨?_, Rat.le_refl⟩
  show r.s.n.pos <= (tryP p r.s).s.n.pos
  rcases a3n h.k2.pk hr.s with ⟨ht, sp⟩ | ⟨ht, sp⟩
  ·rcases h2 with h2 | h2
   ·exact absurd sp.e h2
   ·rw [ht] at h2; cases h2
  ·rw [sp.pos]; exact Int.le_refl _
 ·rw [e1]; exact ⟨Int.le_refl _, Rat.le_refl⟩
 ·rw [e1]
  have tk := took h.k2 hr ht
  obtain ⟨ee, rr, ps⟩ := b53 p.t p.box (tryP p r.s).n.z (hW (tryP p r.s).n.step.toNat) r.last r.bound hr.bound tk.hw hB
  have hn := h.k2.pk.ok.n
  obtain ⟨b1, b2, b3⟩ := h.x.box 0 hn
  have B := c6E ⟨b1, by grind⟩ hn hr.bound ps tk.hw
  have q1 := B.lo
  have q2 : val ee <= val (bdR p r).1.bound := B.be
  have q3 := B.j0
  have q4 := B.x0
  refine ⟨?_, ?_⟩
  ·show r.s.n.pos <= (tryP p r.s).s.n.pos
   rw [tk.sp]; have := tk.sp0; omega
  ·show val r.bound <= val (bdR p r).1.bound
   grind
structure MostS (a b : Rn × List Ou × Int) : Prop where
 ou : ∃ l2, b.2.1 = a.2.1 ++ l2
 at' : a.1.s.n.pos <= b.1.s.n.pos
 e : a.2.2 = 6 \/ a.2.2 = b.2.2
 bd : val a.1.bound <= val b.1.bound
theorem c5c {p : Pb} (h : Pst p) (m : Int) (h1 : 1 <= m) (h2 : m < 10000) : MostS (R6 (pm p m)) (R6 (pm p (m + 1))) := by
 have ha := c41 h m h1 (by omega)
 have hb := c41 h (m + 1) (by omega) (by omega)
 have ea : R6 (pm p m) = ((goP (pm p m) (m7 (pm p m)) m.toNat).1, (goP (pm p m) (m7 (pm p m)) m.toNat).2.1, if (goP (pm p m) (m7 (pm p m)) m.toNat).2.2 = 0 /\ (goP (pm p m) (m7 (pm p m)) m.toNat).1.s.n.pos < p.fin then 6 else (goP (pm p m) (m7 (pm p m)) m.toNat).2.2) := rfl
 have eb : R6 (pm p (m + 1)) = ((goP (pm p (m + 1)) (m7 (pm p (m + 1))) (m + 1).toNat).1, (goP (pm p (m + 1)) (m7 (pm p (m + 1))) (m + 1).toNat).2.1, if (goP (pm p (m + 1)) (m7 (pm p (m + 1))) (m + 1).toNat).2.2 = 0 /\ (goP (pm p (m + 1)) (m7 (pm p (m + 1))) (m + 1).toNat).1.s.n.pos < p.fin then 6 else (goP (pm p (m + 1)) (m7 (pm p (m + 1))) (m + 1).toNat).2.2) := rfl
 have g0 := b39 ha
 obtain ⟨k, hk, g⟩ := c8s ha m.toNat _ 0 g0 (by omega)
 have gB := b39 hb
 obtain ⟨kb, hkb, gb⟩ := c8s hb m.toNat _ 0 gB (by omega)
 have et : (m + 1).toNat = m.toNat + 1 := by omega
 rw [a9T] at ea eb
 have e1 : goK (pm p (m + 1)) (m + 1).toNat (⟨a2t (pm p (m + 1)), (pm p (m + 1)).y, 0, 0, (q9 (pm p (m + 1)) (m7 (pm p (m + 1)))).length⟩, q9 (pm p (m + 1)) (m7 (pm p (m + 1))), 0) = goK (pm p (m + 1)) 1 (goK (pm p m) m.toNat (⟨a2t (pm p m), (pm p m).y, 0, 0, (q9 (pm p m) (m7 (pm p m))).length⟩, q9 (pm p m) (m7 (pm p m)), 0)) := by
  rw [et, c8r]
  rw [d0c p m (m + 1) m.toNat _ (by show ((0 + m.toNat : Nat) : Int) <= m; omega) (by show ((0 + m.toNat : Nat) : Int) <= m + 1; omega)]
  rfl
 rw [d0c p (m + 1) m m.toNat _ (by show ((0 + m.toNat : Nat) : Int) <= m + 1; omega) (by show ((0 + m.toNat : Nat) : Int) <= m; omega)] at gb
 have gb2 : GI (pm p (m + 1)) kb (goK (pm p m) m.toNat (⟨a2t (pm p m), (pm p m).y, 0, 0, (q9 (pm p m) (m7 (pm p m))).length⟩, q9 (pm p m) (m7 (pm p m)), 0)) := gb
 rw [e1] at eb
 generalize goK (pm p m) m.toNat (⟨a2t (pm p m), (pm p m).y, 0, 0, (q9 (pm p m) (m7 (pm p m))).length⟩, q9 (pm p m) (m7 (pm p m)), 0) = y at ea eb g gb2
 rw [ea, eb]
 clear ea eb e1 gb
 by_cases hc : y.2.2 = 0 /\ y.1.s.n.pos < p.fin
 ·have ey : goK (pm p (m + 1)) 1 y = ((A7 (pm p (m + 1)) y.1).1, y.2.1 ++ (A7 (pm p (m + 1)) y.1).2.1, (A7 (pm p (m + 1)) y.1).2.2) := by
   rw [goK]
   exact if_pos hc
  have sm := c1k hb gb2.r gb2.bl
  rw [ey, if_pos hc]
  exact ⟨⟨_, rfl⟩, sm.1, .inl rfl, sm.2⟩
 ·have ey : goK (pm p (m + 1)) 1 y = y := by
   rw [goK]
   exact if_neg hc
  rw [ey]
  exact ⟨⟨[], (List.append_nil _).symm⟩, Int.le_refl _, .inr rfl, Rat.le_refl⟩
def a6s : CA := (.seq (.reg [i_X 0 2 (.box (.t 0) 9 24), i_X 1 4 (.h (.mov (.k (.d (.bool false)))))] [1, 2]) (.seq (.seq (.reg [i_X 0 9 (.callA (kF 15) []), i_X 1 10 (.h (.un .not (.t 9)))] [1, 2, 10]) (.cond (.t 10) (.seq (.reg [i_X 0 4 (.h (.mov (.k (.d (.bool false)))))] [4]) .ret) .skip)) (.seq (.seq (.reg [i_A 0 11 2 9, i_X 1 12 (.callA (kF 16) [(.t 11)]), i_X 2 13 (.h (.un .not (.t 12)))] [1, 2, 13]) (.cond (.t 13) (.seq (.reg [i_X 0 4 (.h (.mov (.k (.d (.bool true)))))] [4]) .ret) .skip)) (.seq (.reg [i_A 0 14 2 9, i_X 1 15 (.callS 0 (kF 17) [(.t 14)]), i_A 2 16 2 9, i_X 3 17 (.callS 0 (kF 17) [(.t 16)]), i_X 4 5 (.alloc [fI 0, .nil, .nil, .nil, .nil, fI 0, fI 0, fI 0, fl 0, fl 0, fl 0, fI 0, .nil] 33), i_X 5 6 (.alloc [fI 0, .nil, .nil, .nil, .nil, fI 0, fI 0, fI 0, fl 0, fl 0, fl 0, fI 0, .nil] 33), i_S 6 5 15 13, i_S 7 6 17 13] [1, 5, 6]) (.seq (.reg [i_M 0 18 1, i_X 1 19 (.callA (kF 28) [(.t 18), (kI 20)]), i_X 2 20 (.h (.ibin .add (kI 1) (.t 19))), i_P 3 21 5 11, i_S 4 21 20 1] [5, 6]) (.seq (.reg [i_P 0 22 5 11, i_L 1 23 22 1, i_B 2 24 .add 23 1, i_P 3 25 6 11, i_S 4 25 24 1] [5, 6]) (.seq (.reg [i_A 0 26 5 13, i_X 1 27 (.callS 0 (kF 21) [(.t 26)]), i_A 2 28 6 13, i_X 3 29 (.callS 0 (kF 21) [(.t 28)]), i_X 4 7 (.alloc [.nil, fI 0, fI 0, fI 0, fI 0, fI 0, .nil, fI 0, fI 0, fI 0, .nil, fl 0, fI 0, fI 0] 53), i_X 5 8 (.alloc [.nil, fI 0, fI 0, fI 0, fI 0, fI 0, .nil, fI 0, fI 0, fI 0, .nil, fl 0, fI 0, fI 0] 53), i_S 6 7 27 14, i_S 7 8 29 14] [7, 8]) (.seq (.seq (.reg [i_P 0 30 7 0, i_L 1 31 30 1, i_X 2 32 (.h (.len (.t 31))), i_P 3 33 8 0, i_L 4 34 33 1, i_X 5 35 (.h (.len (.t 34))), i_N 6 36 .gtr 32 35, i_M 7 37 36, g_F 8 38 37 (.h (.padd (.t 7) 0)), g_F 9 39 37 (.load (.t 38) 1 false), g_F 10 40 37 (.h (.padd (.t 8) 0)), g_F 11 41 37 (.load (.t 40) 1 false), g_F 12 42 37 (.h (.padd (.t 7) 0)), g_F 13 43 37 (.load (.t 42) 1 false), g_F 14 44 37 (.h (.len (.t 43))), g_F 15 45 37 (.h (.slc (.t 41) none (some (.t 44)) none 3)), g_F 16 46 37 (.callA (kF 29) [(.t 39), (.t 45)]), g_F 17 47 37 (.h (.un .not (.t 46))), i_X 18 48 (.h (.pick (.t 37) (.k (.d (.bool true))) (.t 47)))] [7, 8, 48]) (.cond (.t 48) (.seq (.reg [i_X 0 4 (.h (.mov (.k (.d (.bool false)))))] [4]) .ret) .skip)) (.seq (.reg [i_P 0 49 8 2, i_P 1 50 49 0, i_P 2 51 50 0, i_P 3 52 51 0, i_L 4 53 52 1, i_P 5 54 7 2, i_P 6 55 54 0, i_P 7 56 55 0, i_P 8 57 56 0, i_L 9 58 57 1, i_N 10 59 .geq 53 58, i_M 11 60 59, g_T 12 61 60 (.h (.padd (.t 7) 1)), g_T 13 62 60 (.load (.t 61) 1 false), g_T 14 63 60 (.h (.ibin .eql (.t 62) (kI 6))), g_T 15 64 60 (.h (.mov (.t 63))), g_F 16 65 64 (.h (.padd (.t 7) 1)), g_F 17 66 64 (.load (.t 65) 1 false), g_F 18 67 64 (.h (.padd (.t 8) 1)), g_F 19 68 64 (.load (.t 67) 1 false), g_F 20 69 64 (.h (.ibin .eql (.t 66) (.t 68))), g_T 21 70 60 (.h (.pick (.t 64) (.k (.d (.bool true))) (.t 69))), i_X 22 71 (.h (.pick (.t 60) (.t 70) (.k (.d (.bool false))))), i_M 23 72 71, g_T 24 73 72 (.h (.padd (.t 8) 2)), g_T 25 74 72 (.h (.padd (.t 73) 9)), g_T 26 75 72 (.load (.t 74) 1 false), g_T 27 76 72 (.h (.padd (.t 7) 2)), g_T 28 77 72 (.h (.padd (.t 76) 9)), g_T 29 78 72 (.load (.t 77) 1 false), g_T 30 79 72 (.h (.fcmp .ge (.t 75) (.t 78))), i_X 31 80 (.h (.pick (.t 72) (.t 79) (.k (.d (.bool false))))), i_M 32 4 80] [4]) .ret)))))))))
theorem a6r : f6 Tryz.prog 14 = some ⟨81, [(4, none)], a6s.strip⟩ := by kernel_rfl
theorem b3d (l : List Ou) (g : Nat -> List D) (hg : ∀ i, i < l.length -> g i = ousG l i) (h : ∀ i, i < l.length -> (l.getD i ⟨0, [], 0⟩).y.length < 2 ^ 62) (hl : l.length < 2 ^ 62) : Con Tryz.prog 29 [.d (ousD l), .d (.bor l.length g)] (fB true) := by
 refine b7 b0t rfl f5 ?_
 refine evx @b2G.eq_1 ?_
 refine r5 (n := l.length) (fun c t => ∃ i : Nat, c + i = l.length /\ t = ⟨[(0, .d (ousD l)), (1, .d (.bor l.length g)), (5, fI i)], []⟩) ⟨0, by omega, rfl⟩ ?_
 rintro c t ⟨i, hc, rfl⟩
 refine evx @a6d.eq_1 ?_
 refine d5 (fun hi => ?_) (fun hi => ?_)
 ·replace hi := of_decide_eq_true hi
  have hh := h i (by omega)
  have gi := hg i (by omega)
  refine evx (And.intro gi @ousG.eq_1) ?_
  (repeat (with_reducible refine And.intro (by omega) ?_))
  refine a0 (b6Z (l.getD i ⟨0, [], 0⟩).y hh) rfl ?_
  refine evx (And.intro gi @ousG.eq_1) ?_
  (repeat (with_reducible refine And.intro (by omega) ?_))
  refine a0 (a9q (l.getD i ⟨0, [], 0⟩).bound (l.getD i ⟨0, [], 0⟩).bound) rfl ?_
  rw [b2j]
  refine ev ?_
  rw [f4 (by omega) (by omega)]
  exact ⟨c - 1, by omega, i + 1, by omega, rfl⟩
 ·refine ev ?_
  exact b9 rfl (by decide) (by simp [look])
theorem l12_IvpMost_con (n first least tol fin : Int) (ns ms outs : List Int) (dv : Bool) (k : Int) : Con Tryz.prog 14 [.agg (shC n first least tol fin ns ms outs dv), fI k] (fB true) := by
 refine b7 a6r rfl f5 ?_
 refine evx @a6s.eq_1 ?_
 refine a0 (a5B) rfl ?_
 refine ev ?_
 refine a0 (a9H n first least tol fin ns ms outs dv) rfl ?_
 by_cases hfew : ns.length <= 60 /\ ms.length <= 60 /\ outs.length <= 60
 ·rw [decide_eq_true hfew]
  refine ev ?_
  refine d6 (a2c n first least tol fin ns ms outs dv hfew.1 hfew.2.1 hfew.2.2) rfl ?_
  refine ev ?_
  refine d6 (a2c n first least tol fin ns ms outs dv hfew.1 hfew.2.1 hfew.2.2) rfl ?_
  have hst := c2v n first least tol fin ns ms outs dv
  generalize mkPb n first least tol fin ns ms outs dv = p at hst
  refine ev ?_
  refine a0 (a3Y k 20 (by decide) (by decide)) rfl ?_
  have k1 := d1T k (by decide : (20 : Int) ≠ 0)
  have k2 := d1R k (by decide : (0 : Int) < 20)
  have wk : IntKind.i64.wrap (1 + k % 20) = 1 + k % 20 := f4 (by omega) (by omega)
  have wk2 : IntKind.i64.wrap (1 + k % 20 + 1) = 1 + k % 20 + 1 := f4 (by omega) (by omega)
  refine evx wk ?_
  refine evx wk2 ?_
  have hm := c5c hst (1 + k % 20) (by omega) (by omega)
  have ha := c41 hst (1 + k % 20) (by omega) (by omega)
  have hb := c41 hst (1 + k % 20 + 1) (by omega) (by omega)
  refine d6 (T9 (pm p (1 + k % 20)) ha.k2 ha.v) rfl ?_
  refine ev ?_
  refine d6 (T9 (pm p (1 + k % 20 + 1)) hb.k2 hb.v) rfl ?_
  have sa := b6N ha
  have sb := b6N hb
  generalize R6 (pm p (1 + k % 20)) = a at hm sa
  generalize R6 (pm p (1 + k % 20 + 1)) = b at hm sb
  obtain ⟨ra, la, ea⟩ := a
  obtain ⟨rb, lb, eb⟩ := b
  obtain ⟨⟨l2, m1⟩, m2, m3, m4⟩ := hm
  simp only at m1 m2 m3 m4
  subst m1
  have hln : (la ++ l2).length = la.length + l2.length := List.length_append
  refine evx hln ?_
  have d1 : decide (la.length + l2.length < la.length) = false := decide_eq_false (by omega)
  rw [d1]
  refine ev ?_
  refine ⟨0, la.length, rfl, ⟨_, rfl⟩, Nat.zero_le _, by omega, rfl, fun _ => rfl, ?_⟩
  have h1 : ∀ i, i < la.length -> ousG (la ++ l2) (0 + i) = ousG la i := fun i hi => by
   unfold ousG
   rw [Nat.zero_add, d1M, d1M, d1P hi]
  have hol := ha.v.outsl
  have h2 : la.length <= (pm p (1 + k % 20)).outs.length := sa.len
  have h3 : ∀ i, i < la.length -> (la.getD i ⟨0, [], 0⟩).y.length < 2 ^ 62 := fun i hi => by
   have q1 : (la.getD i ⟨0, [], 0⟩).y.length = p.t.n := (sa.ou i hi).y
   have q2 := hst.k2.n
   omega
  refine a0 (b3d la _ h1 h3 (by omega)) rfl ?_
  refine ev ?_
  have t1 : decide (ra.s.n.pos <= rb.s.n.pos) = true := decide_eq_true m2
  have t2 : fcmp .ge rb.bound ra.bound = true := (c8v (F0 sb.bl) (F0 sa.bl)).2 m4
  rw [t1]
  refine ev ?_
  by_cases h6 : ea = 6
  ·have t3 : (ea == 6) = true := by simpa using h6
   rw [t3]
   refine evx t2 ?_
   exact b9 rfl (by decide) (by simp [look])
  ·have t3 : (ea == 6) = false := by simpa using h6
   have t4 : (ea == eb) = true := by simpa using m3.resolve_left h6
   rw [t3]
   refine evx (And.intro t4 t2) ?_
   exact b9 rfl (by decide) (by simp [look])
 ·rw [decide_eq_false hfew]
  refine ev ?_
  exact b9 rfl (by decide) (by simp [look])
def po (p : Pb) (o : List Int) : Pb := ⟨p.t, p.box, p.y, p.fin, p.first, p.least, p.atol, p.rtol, p.cap, p.most, o⟩
theorem d05 {p : Pb} (h : Pst p) (o : List Int) (hl : o.length <= 1000) (ho : ∀ i, i < o.length -> 0 <= o.getD i 0 /\ o.getD i 0 <= p.fin /\ (i = 0 \/ o.getD (i - 1) 0 <= o.getD i 0)) : Pst (po p o) := by
 obtain ⟨⟨⟨⟨a1, a2, a3⟩, a4, a5, a6, a7, a8, a9⟩, b1, b2, b3⟩, ⟨c1, c2, c3, c4, c5, c6, c7, c8, c9, d0, d1, d2, d3, d4⟩, ⟨e1, e2⟩, e3, e4⟩ := h
 exact ⟨⟨⟨⟨a1, a2, a3⟩, a4, a5, a6, a7, a8, a9⟩, b1, b2, b3⟩, ⟨c1, c2, c3, hl, c5, c6, c7, c8, c9, d0, d1, d2, d3, ho⟩, ⟨e1, e2⟩, e3, e4⟩
theorem d0b (p : Pb) : ∀ c x, ∃ l2, (goK p c x).2.1 = x.2.1 ++ l2 := by
 intro c
 induction c with
 | zero => intro x; exact ⟨[], (List.append_nil _).symm⟩
 | succ c ih =>
  intro x
  rw [c5L]
  split
  ·obtain ⟨l2, e⟩ := ih ((A7 p x.1).1, x.2.1 ++ (A7 p x.1).2.1, (A7 p x.1).2.2)
   exact ⟨(A7 p x.1).2.1 ++ l2, by rw [e]; exact List.append_assoc _ _ _⟩
  ·exact ⟨[], (List.append_nil _).symm⟩
def zO (p : Pb) (k : Nat) : List Int := List.replicate k 0 ++ p.outs
theorem c0V (p : Pb) (k i : Nat) : (zO p k).getD i 0 = if i < k then 0 else p.outs.getD (i - k) 0 := by
 unfold zO
 rw [d1M]
 by_cases h : i < k
 ·rw [if_pos h, d1P (by rw [List.length_replicate]; exact h), List.getElem?_replicate, if_pos h]; rfl
 ·rw [if_neg h, d1Q (by rw [List.length_replicate]; omega), List.length_replicate, <- d1M]
theorem b4B (p : Pb) (k : Nat) : (zO p k).length = k + p.outs.length := by unfold zO; rw [List.length_append, List.length_replicate]
theorem d01 {p : Pb} (h : Pst p) (k : Nat) (hl : p.outs.length + k <= 1000) : Pst (po p (zO p k)) := by
 refine d05 h _ (by rw [b4B]; omega) fun i hi => ?_
 rw [b4B] at hi
 rw [c0V, c0V]
 have hf := h.v.fin
 by_cases h1 : i < k
 ·rw [if_pos h1, if_pos (by omega)]
  exact ⟨by omega, by omega, .inr (by omega)⟩
 ·rw [if_neg h1]
  obtain ⟨o1, o2, o3⟩ := h.v.outs (i - k) (by omega)
  refine ⟨o1, o2, ?_⟩
  by_cases h2 : i - 1 < k
  ·rw [if_pos h2]; exact .inr o1
  ·rw [if_neg h2]
   rcases o3 with o3 | o3
   ·left; omega
   ·right; rw [show i - 1 - k = i - k - 1 by omega]; exact o3
theorem b9r {p : Pb} (h : Pst p) (k : Nat) : k <= (R6 (po p (zO p k))).2.1.length /\ ∀ i, i < k -> (R6 (po p (zO p k))).2.1.getD i ou0 = ⟨0, p.y, 0⟩ := by
 have e : (R6 (po p (zO p k))).2.1 = (goP (po p (zO p k)) (m7 (po p (zO p k))) (po p (zO p k)).most.toNat).2.1 := rfl
 rw [a9T] at e
 obtain ⟨l2, e2⟩ := d0b (po p (zO p k)) (po p (zO p k)).most.toNat (⟨a2t (po p (zO p k)), (po p (zO p k)).y, 0, 0, (q9 (po p (zO p k)) (m7 (po p (zO p k)))).length⟩, q9 (po p (zO p k)) (m7 (po p (zO p k))), 0)
 rw [e, e2]
 clear e e2
 have hk : k <= (q9 (po p (zO p k)) (m7 (po p (zO p k)))).length := by
  by_cases hc : k <= (q9 (po p (zO p k)) (m7 (po p (zO p k)))).length
  ·exact hc
  ·have := (b3R (po p (zO p k)) (m7 (po p (zO p k))) _ (d1Z _)).2 ⟨rfl, by
    show 0 + _ < (zO p k).length
    rw [b4B]; omega, by
    show (zO p k).getD (0 + _) 0 = 0
    rw [c0V, if_pos (by omega)]⟩
   omega
 refine ⟨by simp only; rw [List.length_append]; omega, fun i hi => ?_⟩
 simp only
 rw [a5L, if_pos (by omega), b5J _ _ _ (by omega)]
 rfl
def K4 : CA := (.seq (.seq (.reg [i_M 0 60 10, i_P 1 61 5 4, i_L 2 62 61 1, i_X 3 63 (.h (.len (.t 62))), i_N 4 64 .lss 60 63] [5, 6, 7, 8, 9, 10, 64]) (.cond (.t 64) .skip (.exit 2))) (.seq (.block 3 (.seq (.reg [i_P 0 67 9 1, i_L 1 68 67 1, i_M 2 69 10, i_I 3 70 68 69 1, i_L 4 71 70 1, i_P 5 72 5 4, i_L 6 73 72 1, i_M 7 74 10, i_I 8 75 73 74 1, i_L 9 76 75 1, i_X 10 77 (.h (.fcmp .ne (.t 71) (.t 76)))] [5, 6, 7, 8, 9, 10, 77]) (.cond (.t 77) (.seq (.reg [i_X 0 4 (.h (.mov (.k (.d (.bool false)))))] [4]) .ret) .skip))) (.reg [i_M 0 65 10, i_B 1 66 .add 65 1, i_M 2 10 66] [5, 6, 7, 8, 9, 10])))
def K5 : CA := (.seq (.seq (.reg [i_M 0 33 8, i_M 1 34 6, i_N 2 35 .lss 33 34] [5, 6, 7, 8, 35]) (.cond (.t 35) .skip (.exit 0))) (.seq (.block 1 (.seq (.reg [i_P 0 38 7 0, i_L 1 39 38 1, i_M 2 40 8, i_I 3 41 39 40 3, i_A 4 42 41 3, i_X 5 9 (.alloc [fI 0, .nil, fl 0] 67), i_S 6 9 42 3] [5, 6, 7, 8, 9]) (.seq (.seq (.reg [i_P 0 43 9 0, i_L 1 44 43 1, i_B 2 45 .neq 44 0, i_M 3 46 45, g_F 4 47 46 (.h (.padd (.t 9) 2)), g_F 5 48 46 (.load (.t 47) 1 false), g_F 6 49 46 (.h (.fcmp .ne (.t 48) (.k (.d (.flt 0))))), i_X 7 50 (.h (.pick (.t 46) (.k (.d (.bool true))) (.t 49))), i_M 8 51 50, g_F 9 52 51 (.h (.padd (.t 9) 1)), g_F 10 53 51 (.load (.t 52) 1 false), g_F 11 54 51 (.h (.len (.t 53))), g_F 12 55 51 (.h (.padd (.t 5) 4)), g_F 13 56 51 (.load (.t 55) 1 false), g_F 14 57 51 (.h (.len (.t 56))), g_F 15 58 51 (.h (.ibin .neq (.t 54) (.t 57))), i_X 16 59 (.h (.pick (.t 51) (.k (.d (.bool true))) (.t 58)))] [5, 6, 7, 8, 9, 59]) (.cond (.t 59) (.seq (.reg [i_X 0 4 (.h (.mov (.k (.d (.bool false)))))] [4]) .ret) .skip)) (.seq (.reg [i_K 0 10 0] [5, 6, 7, 8, 9, 10]) (.block 2 (.loop K4)))))) (.reg [i_M 0 36 8, i_B 1 37 .add 36 1, i_M 2 8 37] [5, 6, 7, 8])))
def a22 : CA := (.seq (.reg [i_X 0 2 (.box (.t 0) 9 24), i_X 1 4 (.h (.mov (.k (.d (.bool false)))))] [1, 2]) (.seq (.seq (.reg [i_X 0 11 (.callA (kF 15) []), i_X 1 12 (.h (.un .not (.t 11)))] [1, 2, 12]) (.cond (.t 12) (.seq (.reg [i_X 0 4 (.h (.mov (.k (.d (.bool false)))))] [4]) .ret) .skip)) (.seq (.seq (.reg [i_A 0 13 2 9, i_X 1 14 (.callA (kF 16) [(.t 13)]), i_X 2 15 (.h (.un .not (.t 14)))] [1, 2, 15]) (.cond (.t 15) (.seq (.reg [i_X 0 4 (.h (.mov (.k (.d (.bool true)))))] [4]) .ret) .skip)) (.seq (.reg [i_A 0 16 2 9, i_X 1 17 (.callA (kF 17) [(.t 16)]), i_X 2 5 (.alloc [fI 0, .nil, .nil, .nil, .nil, fI 0, fI 0, fI 0, fl 0, fl 0, fl 0, fI 0, .nil] 33), i_S 3 5 17 13] [1, 5]) (.seq (.reg [i_M 0 18 1, i_X 1 19 (.callA (kF 28) [(.t 18), (kI 5)]), i_M 2 6 19] [5, 6]) (.seq (.reg [i_M 0 20 6, i_X 1 21 (.mksl [fI 0] 1 8 (.t 20) (.t 20) 3), i_P 2 22 5 12, i_L 3 23 22 1, i_X 4 24 (.app (.t 21) (.t 23) 1 8), i_P 5 25 5 12, i_S 6 25 24 1] [5, 6]) (.seq (.reg [i_A 0 26 5 13, i_X 1 27 (.callA (kF 21) [(.t 26)]), i_X 2 7 (.alloc [.nil, fI 0, fI 0, fI 0, fI 0, fI 0, .nil, fI 0, fI 0, fI 0, .nil, fl 0, fI 0, fI 0] 53), i_S 3 7 27 14] [5, 6, 7]) (.seq (.seq (.reg [i_P 0 28 7 0, i_L 1 29 28 1, i_X 2 30 (.h (.len (.t 29))), i_M 3 31 6, i_N 4 32 .lss 30 31] [5, 6, 7, 32]) (.cond (.t 32) (.seq (.reg [i_X 0 4 (.h (.mov (.k (.d (.bool false)))))] [4]) .ret) .skip)) (.seq (.seq (.reg [i_K 0 8 0] [5, 6, 7, 8]) (.block 0 (.loop K5))) (.seq (.reg [i_X 0 4 (.h (.mov (.k (.d (.bool true)))))] [4]) .ret))))))))))
theorem a3K : f6 Tryz.prog 10 = some ⟨78, [(4, none)], a22.strip⟩ := by kernel_rfl
theorem c1q (p : Pb) (q i : Nat) (r : Rn) (l : List Ou) (e : Int) (sh : List V) (hsh : ∀ L, KpA L sh) (hst : Pst p) (Q : Ex -> T -> Prop)
  (hQ : ∀ (j : Nat) (w : V), Q (.exit 2) ⟨[(5, .ptr 3 0 0 13), (6, fI q), (7, .ptr 6 0 0 14), (8, fI i), (9, .ptr 12 0 0 3), (10, fI j), (64, w)], [(12, [[fI 0, .d (rowD p.y), fl 0]]), (6, [edC (r, l, e)]), (3, [pbCo p (rowI (zO p q))]), (0, [sh])]⟩) :
  WA Tryz.prog (fun _ => False) 78 (.loop K4) Q ⟨[(5, .ptr 3 0 0 13), (6, fI q), (7, .ptr 6 0 0 14), (8, fI i), (9, .ptr 12 0 0 3), (10, fI 0)], [(12, [[fI 0, .d (rowD p.y), fl 0]]), (6, [edC (r, l, e)]), (3, [pbCo p (rowI (zO p q))]), (0, [sh])]⟩ := by
 have hyl := hst.v.yl
 have hn3 := hst.k2.n
 refine j3 (n := p.y.length) (fun c t => ∃ j : Nat, c + j = p.y.length /\ t = ⟨[(5, .ptr 3 0 0 13), (6, fI q), (7, .ptr 6 0 0 14), (8, fI i), (9, .ptr 12 0 0 3), (10, fI j)], [(12, [[fI 0, .d (rowD p.y), fl 0]]), (6, [edC (r, l, e)]), (3, [pbCo p (rowI (zO p q))]), (0, [sh])]⟩) (Le.refl _) ⟨0, by omega, rfl⟩ ?_
 rintro c t ⟨j, hc, rfl⟩
 refine evx @K4.eq_1 ?_
 refine d5 (fun hj => ?_) (fun hj => ?_)
 ·replace hj := of_decide_eq_true hj
  have hj' : j < p.y.length := by omega
  obtain ⟨ky, hky, _⟩ := hst.x.y j (by omega)
  have hne : fcmp .ne (p.y.getD j 0) (p.y.getD j 0) = false := by
   have : ¬ fcmp .ne (p.y.getD j 0) (p.y.getD j 0) = true := by rw [c8u hky.fin hky.fin]; simp
   simpa using this
  refine ev ?_
  (repeat (with_reducible refine And.intro (by omega) ?_))
  rw [hne]
  refine ev ?_
  rw [f4 (by omega) (by omega)]
  exact ⟨c - 1, _, by omega, LeT.only (fun X => decide (X <= 12)) (fun _ h => h) rfl (by simp [kpS]) (by simp (maxDischargeDepth := 6) [kpS, d7, f0, hsh]), j + 1, by omega, rfl⟩
 ·refine ev ?_
  exact hQ _ _
theorem c1r (p : Pb) (q : Nat) (r : Rn) (l : List Ou) (e : Int) (sh : List V) (hsh : ∀ L, KpA L sh) (hst : Pst p) (hq : q < 5) (w1 : q <= l.length) (w2 : ∀ i, i < q -> l.getD i ou0 = ⟨0, p.y, 0⟩) (Q : Ex -> T -> Prop)
  (hQ : ∀ (i : Nat) (w : V), Q (.exit 0) ⟨[(5, .ptr 3 0 0 13), (6, fI q), (7, .ptr 6 0 0 14), (8, fI i), (35, w)], [(6, [edC (r, l, e)]), (3, [pbCo p (rowI (zO p q))]), (0, [sh])]⟩) :
  WA Tryz.prog (fun _ => False) 78 (.loop K5) Q ⟨[(5, .ptr 3 0 0 13), (6, fI q), (7, .ptr 6 0 0 14), (8, fI 0)], [(6, [edC (r, l, e)]), (3, [pbCo p (rowI (zO p q))]), (0, [sh])]⟩ := by
 have hyl := hst.v.yl
 have hn3 := hst.k2.n
 refine j3 (n := q) (fun c t => ∃ i : Nat, c + i = q /\ t = ⟨[(5, .ptr 3 0 0 13), (6, fI q), (7, .ptr 6 0 0 14), (8, fI i)], [(6, [edC (r, l, e)]), (3, [pbCo p (rowI (zO p q))]), (0, [sh])]⟩) (Le.refl _) ⟨0, by omega, rfl⟩ ?_
 rintro c t ⟨i, hc, rfl⟩
 refine evx @K5.eq_1 ?_
 refine d5 (fun hi => ?_) (fun hi => ?_)
 ·replace hi := of_decide_eq_true hi
  have hi' : i < q := by omega
  have hx : l.getD i ⟨0, [], 0⟩ = ⟨0, p.y, 0⟩ := w2 i hi'
  refine evx (And.intro @ousG.eq_1 hx) ?_
  (repeat (with_reducible refine And.intro (by omega) ?_))
  have ne00 : fcmp .ne 0 0 = false := by decide
  rw [ne00]
  refine ev ?_
  refine c1q p q i r l e sh hsh hst _ fun j w => ?_
  refine ev ?_
  rw [f4 (by omega) (by omega)]
  exact ⟨c - 1, _, by omega, LeT.only (fun X => decide (X <= 6)) (fun _ h => h) rfl (by simp [kpS]) (by simp (maxDischargeDepth := 6) [kpS, d7, f0, hsh]), i + 1, by omega, rfl⟩
 ·refine ev ?_
  exact hQ _ _
theorem l12_IvpStarts_con (n first least tol fin : Int) (ns ms outs : List Int) (dv : Bool) (k : Int) : Con Tryz.prog 10 [.agg (shC n first least tol fin ns ms outs dv), fI k] (fB true) := by
 refine b2y a3K rfl f5 ?_
 unfold a22
 refine b2v ?_
 refine ev ?_
 refine b2v ?_
 refine ev ?_
 refine a0 (a5B) rfl ?_
 refine ev ?_
 refine b2v ?_
 refine ev ?_
 refine a0 (a9H n first least tol fin ns ms outs dv) rfl ?_
 by_cases hfew : ns.length <= 60 /\ ms.length <= 60 /\ outs.length <= 60
 ·rw [decide_eq_true hfew]
  refine ev ?_
  refine b2v ?_
  refine ev ?_
  refine a0 (a2c n first least tol fin ns ms outs dv hfew.1 hfew.2.1 hfew.2.2) rfl ?_
  have hst := c2v n first least tol fin ns ms outs dv
  have hol : (mkPb n first least tol fin ns ms outs dv).outs.length <= 8 := by
   show (mkO outs _).length <= 8
   rw [b3w]; omega
  generalize mkPb n first least tol fin ns ms outs dv = p at hst hol
  refine ev ?_
  refine b2v ?_
  refine ev ?_
  refine a0 (a3Y k 5 (by decide) (by decide)) rfl ?_
  have k1 := d1T k (by decide : (5 : Int) ≠ 0)
  have k2 := d1R k (by decide : (0 : Int) < 5)
  obtain ⟨q, hq⟩ : ∃ q : Nat, k % 5 = q := ⟨(k % 5).toNat, by omega⟩
  rw [hq]
  have hq5 : q < 5 := by omega
  clear k1 k2
  refine ev ?_
  refine c61 ?_
  refine evx (And.intro @a94 @a1c) ?_
  have hz : ∀ L L' : Heap, L.get 5 0 = some (k7 (zO p q)) -> L'.get 5 0 = none -> Fz L L' (.sl 5 0 0 (q + p.outs.length) 1 (q + p.outs.length)) (.d (rowI (zO p q))) := fun L L' a b => c37 a (b4B p q) b
  have hb : ∀ L L' : Heap, Fz L L' (.d (.bor p.box.length (ivG p.box))) (.d (ivD p.box)) := fun L L' => Fz_d _
  have e : k7 (List.replicate q 0) ++ k7 p.outs = k7 (zO p q) := List.map_append.symm
  rw [e]
  refine ⟨by omega, by omega, ⟨[(5, .ptr 3 0 0 13), (6, fI q)], [(3, [pbCo p (rowI (zO p q))]), (0, [shC n first least tol fin ns ms outs dv])]⟩, ?_, a1v _ _ _ ?_⟩
  ·exact LeT.weak (fun _ h => h) (by simp (maxDischargeDepth := 6) [fzS]) (by simp (maxDischargeDepth := 6) [fzS, hz, hb])
  have hst2 := d01 hst q (by omega)
  have hlaw := b9r hst q
  have hyl := hst.v.yl
  refine ev ?_
  refine a0 (T9 (po p (zO p q)) hst2.k2 hst2.v) rfl ?_
  have hs := b6N hst2
  generalize R6 (po p (zO p q)) = x at hs hlaw
  obtain ⟨r, l, e⟩ := x
  obtain ⟨w1, w2⟩ := hlaw
  have s1 : l.length <= (zO p q).length := hs.len
  rw [b4B] at s1
  simp only at w1 w2
  refine ev ?_
  have d1 : decide (l.length < q) = false := decide_eq_false (by omega)
  rw [d1]
  refine ev ?_
  have hsh : ∀ L, KpA L (shC n first least tol fin ns ms outs dv) := fun L => by simp only [F8]; exact ⟨Kp_d _, Kp_d _, Kp_d _, Kp_d _, Kp_d _, Kp_d _, Kp_d _, Kp_d _, Kp_d _, a0k⟩
  refine c1r p q r l e _ hsh hst hq5 w1 w2 _ fun i w => ?_
  refine ev ?_
  exact b9 rfl (by decide) (by simp [look])
 ·rw [decide_eq_false hfew]
  refine ev ?_
  exact b9 rfl (by decide) (by simp [look])
end Go.Ab
