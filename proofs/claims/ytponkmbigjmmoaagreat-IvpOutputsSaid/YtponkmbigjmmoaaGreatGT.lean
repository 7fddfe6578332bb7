import Derived.Test.YtponkmbigjmmoaaGreatGS
set_option linter.unusedSimpArgs false
set_option linter.unusedVariables false
set_option maxRecDepth 8000
namespace Go.Ab
open Go Go.Proofs
def a6t : CA := (.seq (.reg [i_X 0 4 (.h (.mov (.k (.d (.bool false)))))] [0, 1]) (.seq (.reg [i_M 0 5 0, i_B 1 6 .geq 5 0, i_M 2 7 6, g_T 3 8 7 (.h (.mov (.t 0))), g_T 4 9 7 (.h (.mov (.t 1))), g_T 5 10 7 (.h (.ibin .lss (.t 8) (.t 9))), i_X 6 11 (.h (.pick (.t 7) (.t 10) (.k (.d (.bool false))))), i_M 7 4 11] [4]) .ret))
theorem a6s : f7 Tryz.prog 81 = some ⟨12, [(4, none)], a6t.strip⟩ := by kernel_rfl
def b6B : CA := (.seq (.reg [i_X 0 3 (.box (.t 0) 4 81), i_X 1 6 (.h (.mov (.k (.d (.bool false)))))] [1, 2, 3]) (.seq (.seq (.reg [i_P 0 7 3 0, i_L 1 8 7 1] [1, 2, 3, 8]) (.block 0 (.seq (.reg [i_B 0 10 .eql 8 0, i_M 1 9 10] [1, 2, 3, 8, 9]) (.cond (.t 9) (.seq (.reg [i_P 0 11 3 3, i_L 1 12 11 1, i_X 2 13 (.callA (kF 83) [(.t 12)]), i_M 3 14 13, g_T 4 15 14 (.h (.padd (.t 3) 1)), g_T 5 16 14 (.load (.t 15) 1 false), g_T 6 17 14 (.h (.ibin .eql (.t 16) (kI 0))), i_X 7 18 (.h (.pick (.t 14) (.t 17) (.k (.d (.bool false))))), i_M 8 19 18, g_T 9 20 19 (.h (.padd (.t 3) 2)), g_T 10 21 19 (.load (.t 20) 1 false), g_T 11 22 19 (.h (.ibin .eql (.t 21) (kI 0))), i_X 12 23 (.h (.pick (.t 19) (.t 22) (.k (.d (.bool false))))), i_M 13 6 23] [6]) .ret) (.seq (.reg [i_B 0 25 .eql 8 1, i_M 1 24 25] [1, 2, 3, 8, 24]) (.cond (.t 24) (.seq (.reg [i_P 0 26 3 1, i_L 1 27 26 1, i_M 2 28 2, i_X 3 29 (.callA (kF 81) [(.t 27), (.t 28)]), i_M 4 30 29, g_T 5 31 30 (.h (.padd (.t 3) 2)), g_T 6 32 30 (.load (.t 31) 1 false), g_T 7 33 30 (.h (.ibin .eql (.t 32) (kI 0))), i_X 8 34 (.h (.pick (.t 30) (.t 33) (.k (.d (.bool false))))), i_M 9 35 34, g_T 10 36 35 (.h (.padd (.t 3) 3)), g_T 11 37 35 (.load (.t 36) 1 false), g_T 12 38 35 (.h (.fcmp .eq (.t 37) (.k (.d (.flt 0))))), i_X 13 39 (.h (.pick (.t 35) (.t 38) (.k (.d (.bool false))))), i_M 14 6 39] [6]) .ret) (.seq (.seq (.reg [i_B 0 41 .eql 8 2, i_M 1 40 41] [1, 3, 8, 40]) (.cond (.t 40) .skip (.seq (.reg [i_B 0 42 .eql 8 3, i_M 1 40 42] [1, 3, 8, 40]) (.cond (.t 40) .skip (.seq (.reg [i_B 0 43 .eql 8 4, i_M 1 40 43] [1, 3, 8, 40]) (.cond (.t 40) .skip (.reg [i_B 0 44 .eql 8 5, i_M 1 40 44] [1, 3, 40]))))))) (.cond (.t 40) (.seq (.reg [i_P 0 45 3 1, i_L 1 46 45 1, i_M 2 47 1, i_X 3 48 (.callA (kF 81) [(.t 46), (.t 47)]), i_M 4 49 48, g_T 5 50 49 (.h (.padd (.t 3) 2)), g_T 6 51 49 (.load (.t 50) 1 false), g_T 7 52 49 (.h (.mov (.t 1))), g_T 8 53 49 (.callA (kF 81) [(.t 51), (.t 52)]), i_X 9 54 (.h (.pick (.t 49) (.t 53) (.k (.d (.bool false))))), i_M 10 55 54, g_T 11 56 55 (.h (.padd (.t 3) 3)), g_T 12 57 55 (.load (.t 56) 1 false), g_T 13 58 55 (.h (.fcmp .eq (.t 57) (.k (.d (.flt 0))))), i_X 14 59 (.h (.pick (.t 55) (.t 58) (.k (.d (.bool false))))), i_M 15 6 59] [6]) .ret) .skip)))))))) (.seq (.reg [i_X 0 6 (.h (.mov (.k (.d (.bool false)))))] [6]) .ret)))
theorem b1Y : f7 Tryz.prog 80 = some ⟨60, [(6, none)], b6B.strip⟩ := by kernel_rfl
def a2U : CA := (.seq (.reg [i_N 0 32 .lss 31 30] [1, 29, 30, 31, 32]) (.seq (.cond (.t 32) .skip (.exit 0)) (.seq (.block 1 (.seq (.reg [i_M 0 33 31, i_I 1 34 29 31 4, i_A 2 35 34 4, i_X 3 4 (.alloc [fI 0, fI 0, fI 0, fl 0] 81), i_M 4 3 33, i_S 5 4 35 4] [1, 3, 4, 29, 30, 31]) (.seq (.reg [i_A 0 36 4 4, i_M 1 37 3, i_P 2 38 1 0, i_L 3 39 38 1, i_X 4 40 (.callA (kF 80) [(.t 36), (.t 37), (.t 39)]), i_X 5 41 (.h (.un .not (.t 40)))] [1, 29, 30, 31, 41]) (.cond (.t 41) (.seq (.reg [i_X 0 2 (.h (.mov (.k (.d (.bool false)))))] [2]) .ret) .skip)))) (.reg [i_B 0 42 .add 31 1, i_M 1 31 42] [1, 29, 30, 31]))))
def a2T : CA := (.seq (.reg [i_N 0 46 .lss 45 44] [1, 44, 45, 46]) (.seq (.cond (.t 46) .skip (.exit 2)) (.seq (.block 3 (.seq (.reg [i_M 0 47 45, i_M 1 5 47] [1, 5, 44, 45]) (.seq (.reg [i_P 0 48 1 2, i_L 1 49 48 1, i_M 2 50 5, i_I 3 51 49 50 1, i_L 4 52 51 1, i_P 5 53 1 1, i_L 6 54 53 1, i_X 7 55 (.h (.len (.t 54))), i_X 8 56 (.callA (kF 81) [(.t 52), (.t 55)]), i_X 9 57 (.h (.un .not (.t 56)))] [1, 44, 45, 57]) (.cond (.t 57) (.seq (.reg [i_X 0 2 (.h (.mov (.k (.d (.bool false)))))] [2]) .ret) .skip)))) (.reg [i_B 0 58 .add 45 1, i_M 1 45 58] [1, 44, 45]))))
def a2V : CA := (.seq (.reg [i_X 0 1 (.box (.t 0) 3 28), i_X 1 2 (.h (.mov (.k (.d (.bool false)))))] [1]) (.seq (.seq (.reg [i_P 0 6 1 0, i_L 1 7 6 1, i_B 2 8 .lss 7 1, i_M 3 9 8, g_F 4 10 9 (.h (.padd (.t 1) 0)), g_F 5 11 9 (.load (.t 10) 1 false), g_F 6 12 9 (.h (.ibin .gtr (.t 11) (kI 4))), i_X 7 13 (.h (.pick (.t 9) (.k (.d (.bool true))) (.t 12))), i_M 8 14 13, g_F 9 15 14 (.h (.padd (.t 1) 1)), g_F 10 16 14 (.load (.t 15) 1 false), g_F 11 17 14 (.h (.len (.t 16))), g_F 12 18 14 (.h (.ibin .gtr (.t 17) (kI 60))), i_X 13 19 (.h (.pick (.t 14) (.k (.d (.bool true))) (.t 18))), i_M 14 20 19, g_F 15 21 20 (.h (.padd (.t 1) 2)), g_F 16 22 20 (.load (.t 21) 1 false), g_F 17 23 20 (.h (.len (.t 22))), g_F 18 24 20 (.h (.padd (.t 1) 0)), g_F 19 25 20 (.load (.t 24) 1 false), g_F 20 26 20 (.h (.ibin .neq (.t 23) (.t 25))), i_X 21 27 (.h (.pick (.t 20) (.k (.d (.bool true))) (.t 26)))] [1, 27]) (.cond (.t 27) (.seq (.reg [i_X 0 2 (.h (.mov (.k (.d (.bool false)))))] [2]) .ret) .skip)) (.seq (.seq (.reg [i_P 0 28 1 1, i_L 1 29 28 1, i_X 2 30 (.h (.len (.t 29))), i_K 3 31 0] [1, 29, 30, 31]) (.block 0 (.loop a2U))) (.seq (.seq (.reg [i_P 0 43 1 0, i_L 1 44 43 1, i_K 2 45 0] [1, 44, 45]) (.block 2 (.loop a2T))) (.seq (.reg [i_X 0 2 (.h (.mov (.k (.d (.bool true)))))] [2]) .ret)))))
theorem a01 : f7 Tryz.prog 39 = some ⟨59, [(2, none)], a2V.strip⟩ := by kernel_rfl
def b08 : CA := (.seq (.reg [i_X 0 2 (.h (.mov (.k (.d (.bool false)))))] [0]) (.seq (.reg [i_M 0 3 0, i_B 1 4 .geq 3 1, i_M 2 5 4, g_T 3 6 5 (.h (.mov (.t 0))), g_T 4 7 5 (.h (.ibin .leq (.t 6) (kI 4294967296))), i_X 5 8 (.h (.pick (.t 5) (.t 7) (.k (.d (.bool false))))), i_M 6 9 8, g_T 7 10 9 (.h (.mov (.t 0))), g_T 8 11 9 (.h (.mov (.t 0))), g_T 9 12 9 (.h (.ibin .sub (.t 11) (kI 1))), g_T 10 13 9 (.h (.ibin .and (.t 10) (.t 12))), g_T 11 14 9 (.h (.ibin .eql (.t 13) (kI 0))), i_X 12 15 (.h (.pick (.t 9) (.t 14) (.k (.d (.bool false))))), i_M 13 2 15] [2]) .ret))
theorem a9a : f7 Tryz.prog 85 = some ⟨16, [(2, none)], b08.strip⟩ := by kernel_rfl
def a09 : CA := (.seq (.reg [i_X 0 3 (.box (.t 0) 13 89), i_X 1 5 (.box (.t 2) 2 83), i_X 2 6 (.h (.mov (.k (.d (.bool false)))))] [1, 3, 5]) (.seq (.reg [i_A 0 7 5 2, i_X 1 8 (.callA (kF 82) [(.t 7)]), i_M 2 9 8, g_T 3 10 9 (.h (.padd (.t 5) 0)), g_T 4 11 9 (.load (.t 10) 1 false), g_T 5 12 9 (.callA (kF 83) [(.t 11)]), i_X 6 13 (.h (.pick (.t 9) (.t 12) (.k (.d (.bool false))))), i_M 7 14 13, g_T 8 15 14 (.h (.padd (.t 5) 1)), g_T 9 16 14 (.load (.t 15) 1 false), g_T 10 17 14 (.callA (kF 83) [(.t 16)]), i_X 11 18 (.h (.pick (.t 14) (.t 17) (.k (.d (.bool false))))), i_M 12 19 18, g_T 13 20 19 (.h (.padd (.t 3) 0)), g_T 14 21 19 (.h (.padd (.t 20) 4)), g_T 15 22 19 (.load (.t 21) 1 false), g_T 16 23 19 (.h (.mov (.t 1))), g_T 17 24 19 (.h (.idx (.t 22) (.t 23) 1)), g_T 18 25 19 (.load (.t 24) 1 false), g_T 19 26 19 (.load (.t 5) 2 true), g_T 20 27 19 (.callA (kF 84) [(.t 25), (.t 26)]), i_X 21 28 (.h (.pick (.t 19) (.t 27) (.k (.d (.bool false))))), i_M 22 6 28] [6]) .ret))
theorem a2a : f7 Tryz.prog 41 = some ⟨29, [(6, none)], a09.strip⟩ := by kernel_rfl
def a08 : CA := (.seq (.reg [i_X 0 3 (.box (.t 0) 13 89), i_X 1 6 (.h (.mov (.k (.d (.bool false)))))] [1, 2, 3]) (.seq (.reg [i_M 0 7 2, i_B 1 8 .geq 7 0, i_M 2 9 8, g_T 3 10 9 (.h (.mov (.t 2))), g_T 4 11 9 (.h (.padd (.t 3) 0)), g_T 5 12 9 (.h (.padd (.t 11) 5)), g_T 6 13 9 (.load (.t 12) 1 false), g_T 7 14 9 (.h (.ibin .leq (.t 10) (.t 13))), i_X 8 15 (.h (.pick (.t 9) (.t 14) (.k (.d (.bool false))))), i_M 9 16 15, g_T 10 17 16 (.h (.mov (.t 1))), g_T 11 18 16 (.h (.ibin .eql (.t 17) (kI 0))), g_T 12 19 16 (.h (.mov (.t 18))), g_F 13 20 19 (.h (.padd (.t 3) 0)), g_F 14 21 19 (.h (.padd (.t 20) 12)), g_F 15 22 19 (.load (.t 21) 1 false), g_F 16 23 19 (.h (.mov (.t 1))), g_F 17 24 19 (.h (.ibin .sub (.t 23) (kI 1))), g_F 18 25 19 (.h (.idx (.t 22) (.t 24) 1)), g_F 19 26 19 (.load (.t 25) 1 false), g_F 20 27 19 (.h (.mov (.t 2))), g_F 21 28 19 (.h (.ibin .leq (.t 26) (.t 27))), g_T 22 29 16 (.h (.pick (.t 19) (.k (.d (.bool true))) (.t 28))), i_X 23 30 (.h (.pick (.t 16) (.t 29) (.k (.d (.bool false))))), i_M 24 6 30] [6]) .ret))
theorem a19 : f7 Tryz.prog 45 = some ⟨31, [(6, none)], a08.strip⟩ := by kernel_rfl
def X4 : CA := (.seq (.reg [i_X 0 1 (.box (.t 0) 13 89), i_X 1 2 (.h (.mov (.k (.d (.bool false)))))] [1]) (.seq (.reg [i_P 0 4 1 0, i_A 1 5 4 13, i_X 2 3 (.alloc [fI 0, .nil, .nil, .nil, .nil, fI 0, fI 0, fI 0, fl 0, fl 0, fl 0, fI 0, .nil] 33), i_S 3 3 5 13] [3]) (.seq (.reg [i_P 0 6 3 5, i_L 1 7 6 1, i_B 2 8 .geq 7 1, i_M 3 9 8, g_T 4 10 9 (.h (.padd (.t 3) 5)), g_T 5 11 9 (.load (.t 10) 1 false), g_T 6 12 9 (.h (.ibin .leq (.t 11) (kI 1099511627776))), i_X 7 13 (.h (.pick (.t 9) (.t 12) (.k (.d (.bool false))))), i_M 8 14 13, g_T 9 15 14 (.h (.padd (.t 3) 6)), g_T 10 16 14 (.load (.t 15) 1 false), g_T 11 17 14 (.callA (kF 85) [(.t 16)]), i_X 12 18 (.h (.pick (.t 14) (.t 17) (.k (.d (.bool false))))), i_M 13 19 18, g_T 14 20 19 (.h (.padd (.t 3) 7)), g_T 15 21 19 (.load (.t 20) 1 false), g_T 16 22 19 (.callA (kF 85) [(.t 21)]), i_X 17 23 (.h (.pick (.t 19) (.t 22) (.k (.d (.bool false))))), i_M 18 24 23, g_T 19 25 24 (.h (.padd (.t 3) 7)), g_T 20 26 24 (.load (.t 25) 1 false), g_T 21 27 24 (.h (.padd (.t 3) 6)), g_T 22 28 24 (.load (.t 27) 1 false), g_T 23 29 24 (.h (.ibin .leq (.t 26) (.t 28))), i_X 24 30 (.h (.pick (.t 24) (.t 29) (.k (.d (.bool false))))), i_M 25 31 30, g_T 26 32 31 (.h (.padd (.t 3) 11)), g_T 27 33 31 (.load (.t 32) 1 false), g_T 28 34 31 (.h (.ibin .geq (.t 33) (kI 1))), i_X 29 35 (.h (.pick (.t 31) (.t 34) (.k (.d (.bool false))))), i_M 30 36 35, g_T 31 37 36 (.h (.padd (.t 3) 11)), g_T 32 38 36 (.load (.t 37) 1 false), g_T 33 39 36 (.h (.ibin .leq (.t 38) (kI 10000))), i_X 34 40 (.h (.pick (.t 36) (.t 39) (.k (.d (.bool false))))), i_M 35 2 40] [2]) .ret)))
theorem a07 : f7 Tryz.prog 42 = some ⟨41, [(2, none)], X4.strip⟩ := by kernel_rfl
def U1 : CA := (.seq (.reg [i_X 0 1 (.box (.t 0) 13 89), i_X 1 2 (.h (.mov (.k (.d (.bool false)))))] [1]) (.seq (.reg [i_P 0 4 1 0, i_A 1 5 4 13, i_X 2 3 (.alloc [fI 0, .nil, .nil, .nil, .nil, fI 0, fI 0, fI 0, fl 0, fl 0, fl 0, fI 0, .nil] 33), i_S 3 3 5 13] [3]) (.seq (.reg [i_P 0 6 3 8, i_L 1 7 6 1, i_X 2 8 (.callA (kF 83) [(.t 7)]), i_M 3 9 8, g_T 4 10 9 (.h (.padd (.t 3) 8)), g_T 5 11 9 (.load (.t 10) 1 false), g_T 6 12 9 (.h (.fcmp .gt (.t 11) (.k (.d (.flt 0))))), i_X 7 13 (.h (.pick (.t 9) (.t 12) (.k (.d (.bool false))))), i_M 8 14 13, g_T 9 15 14 (.h (.padd (.t 3) 9)), g_T 10 16 14 (.load (.t 15) 1 false), g_T 11 17 14 (.callA (kF 83) [(.t 16)]), i_X 12 18 (.h (.pick (.t 14) (.t 17) (.k (.d (.bool false))))), i_M 13 19 18, g_T 14 20 19 (.h (.padd (.t 3) 9)), g_T 15 21 19 (.load (.t 20) 1 false), g_T 16 22 19 (.h (.fcmp .ge (.t 21) (.k (.d (.flt 0))))), i_X 17 23 (.h (.pick (.t 19) (.t 22) (.k (.d (.bool false))))), i_M 18 24 23, g_T 19 25 24 (.h (.padd (.t 3) 10)), g_T 20 26 24 (.load (.t 25) 1 false), g_T 21 27 24 (.callA (kF 83) [(.t 26)]), i_X 22 28 (.h (.pick (.t 24) (.t 27) (.k (.d (.bool false))))), i_M 23 29 28, g_T 24 30 29 (.h (.padd (.t 3) 10)), g_T 25 31 29 (.load (.t 30) 1 false), g_T 26 32 29 (.h (.fcmp .gt (.t 31) (.k (.d (.flt 0))))), i_X 27 33 (.h (.pick (.t 29) (.t 32) (.k (.d (.bool false))))), i_M 28 2 33] [2]) .ret)))
theorem a0J : f7 Tryz.prog 43 = some ⟨34, [(2, none)], U1.strip⟩ := by kernel_rfl
def M1 : CA := (.seq (.reg [i_N 0 10 .lss 9 8] [1, 7, 8, 9, 10]) (.seq (.cond (.t 10) .skip (.exit 0)) (.seq (.block 1 (.seq (.reg [i_M 0 11 9, i_I 1 12 7 9 2, i_A 2 13 12 2, i_X 3 6 (.alloc [fl 0, fl 0] 83), i_M 4 5 11, i_S 5 6 13 2] [1, 5, 6, 7, 8, 9]) (.seq (.reg [i_M 0 14 1, i_M 1 15 5, i_A 2 16 6 2, i_X 3 17 (.callA (.t 14) [(.t 15), (.t 16)]), i_X 4 18 (.h (.un .not (.t 17)))] [1, 7, 8, 9, 18]) (.cond (.t 18) (.seq (.reg [i_X 0 4 (.h (.mov (.k (.d (.bool false)))))] [4]) .ret) .skip)))) (.reg [i_B 0 19 .add 9 1, i_M 1 9 19] [1, 7, 8, 9]))))
def U3 : CA := (.seq (.reg [i_X 0 4 (.h (.mov (.k (.d (.bool false)))))] [0, 1]) (.seq (.seq (.reg [i_M 0 7 0, i_X 1 8 (.h (.len (.t 7))), i_K 2 9 0] [1, 7, 8, 9]) (.block 0 (.loop M1))) (.seq (.reg [i_X 0 4 (.h (.mov (.k (.d (.bool true)))))] [4]) .ret)))
theorem a0K : f7 Tryz.prog 40 = some ⟨20, [(4, none)], U3.strip⟩ := by kernel_rfl
def U2 : CA := (.seq (.reg [i_N 0 10 .lss 9 8] [1, 7, 8, 9, 10]) (.seq (.cond (.t 10) .skip (.exit 0)) (.seq (.block 1 (.seq (.reg [i_M 0 11 9, i_I 1 12 7 9 1, i_L 2 13 12 1, i_M 3 5 11, i_M 4 6 13] [1, 5, 6, 7, 8, 9]) (.seq (.reg [i_M 0 14 1, i_M 1 15 5, i_M 2 16 6, i_X 3 17 (.callA (.t 14) [(.t 15), (.t 16)]), i_X 4 18 (.h (.un .not (.t 17)))] [1, 7, 8, 9, 18]) (.cond (.t 18) (.seq (.reg [i_X 0 4 (.h (.mov (.k (.d (.bool false)))))] [4]) .ret) .skip)))) (.reg [i_B 0 19 .add 9 1, i_M 1 9 19] [1, 7, 8, 9]))))
def a1a : CA := (.seq (.reg [i_X 0 4 (.h (.mov (.k (.d (.bool false)))))] [0, 1]) (.seq (.seq (.reg [i_M 0 7 0, i_X 1 8 (.h (.len (.t 7))), i_K 2 9 0] [1, 7, 8, 9]) (.block 0 (.loop U2))) (.seq (.reg [i_X 0 4 (.h (.mov (.k (.d (.bool true)))))] [4]) .ret)))
theorem a2b : f7 Tryz.prog 44 = some ⟨20, [(4, none)], a1a.strip⟩ := by kernel_rfl
def a5p : CA := (.seq (.reg [i_X 0 1 (.box (.t 0) 13 33), i_X 1 2 (.h (.mov (.k (.d (.bool false)))))] [1]) (.seq (.seq (.reg [i_P 0 4 1 0, i_A 1 5 4 3, i_X 2 6 (.callA (kF 39) [(.t 5)]), i_X 3 7 (.h (.un .not (.t 6))), i_M 4 8 7, g_F 5 9 8 (.h (.padd (.t 1) 3)), g_F 6 10 8 (.load (.t 9) 1 false), g_F 7 11 8 (.h (.len (.t 10))), g_F 8 12 8 (.h (.padd (.t 1) 0)), g_F 9 13 8 (.h (.padd (.t 12) 0)), g_F 10 14 8 (.load (.t 13) 1 false), g_F 11 15 8 (.h (.ibin .neq (.t 11) (.t 14))), i_X 12 16 (.h (.pick (.t 8) (.k (.d (.bool true))) (.t 15))), i_M 13 17 16, g_F 14 18 17 (.h (.padd (.t 1) 4)), g_F 15 19 17 (.load (.t 18) 1 false), g_F 16 20 17 (.h (.len (.t 19))), g_F 17 21 17 (.h (.padd (.t 1) 0)), g_F 18 22 17 (.h (.padd (.t 21) 0)), g_F 19 23 17 (.load (.t 22) 1 false), g_F 20 24 17 (.h (.ibin .neq (.t 20) (.t 23))), i_X 21 25 (.h (.pick (.t 17) (.k (.d (.bool true))) (.t 24))), i_M 22 26 25, g_F 23 27 26 (.h (.padd (.t 1) 12)), g_F 24 28 26 (.load (.t 27) 1 false), g_F 25 29 26 (.h (.len (.t 28))), g_F 26 30 26 (.h (.ibin .gtr (.t 29) (kI 1000))), i_X 27 31 (.h (.pick (.t 26) (.k (.d (.bool true))) (.t 30)))] [1, 31]) (.cond (.t 31) (.seq (.reg [i_X 0 2 (.h (.mov (.k (.d (.bool false)))))] [2]) .ret) .skip)) (.seq (.reg [i_A 0 32 1 13, i_X 1 33 (.h (.build [fI 0, .nil, .nil, .nil, .nil, fI 0, fI 0, fI 0, fl 0, fl 0, fl 0, fI 0, .nil] [(0, (13, (.t 32)))])), i_X 2 3 (.alloc [fI 0, .nil, .nil, .nil, .nil, fI 0, fI 0, fI 0, fl 0, fl 0, fl 0, fI 0, .nil] 89), i_S 3 3 33 13] [1, 3]) (.seq (.reg [i_P 0 34 1 3, i_L 1 35 34 1, i_A 2 36 3 13, i_X 3 37 (.h (.mkfn 41 [(.t 36)] [])), i_X 4 38 (.callA (kF 40) [(.t 35), (.t 37)]), i_M 5 39 38, g_T 6 40 39 (.load (.t 3) 13 true), g_T 7 41 39 (.callA (kF 42) [(.t 40)]), i_X 8 42 (.h (.pick (.t 39) (.t 41) (.k (.d (.bool false))))), i_M 9 43 42, g_T 10 44 43 (.load (.t 3) 13 true), g_T 11 45 43 (.callA (kF 43) [(.t 44)]), i_X 12 46 (.h (.pick (.t 43) (.t 45) (.k (.d (.bool false))))), i_M 13 47 46, g_T 14 48 47 (.h (.padd (.t 1) 12)), g_T 15 49 47 (.load (.t 48) 1 false), g_T 16 50 47 (.load (.t 3) 13 true), g_T 17 51 47 (.h (.mkfn 45 [(.t 50)] [])), g_T 18 52 47 (.callA (kF 44) [(.t 49), (.t 51)]), i_X 19 53 (.h (.pick (.t 47) (.t 52) (.k (.d (.bool false))))), i_M 20 2 53] [2]) .ret))))
theorem a13 : f7 Tryz.prog 18 = some ⟨54, [(2, none)], a5p.strip⟩ := by kernel_rfl
def a5n : CA := (.seq (.reg [i_X 0 1 (.box (.t 0) 13 33), i_X 1 2 (.alloc [.nil, fI 0, fI 0, fI 0, fI 0, fI 0, .nil, fI 0, fI 0, fI 0, .nil, fl 0, fI 0, fI 0] 53)] [1, 2]) (.seq (.seq (.reg [i_A 0 4 1 13, i_X 1 5 (.callA (kF 18) [(.t 4)]), i_X 2 6 (.h (.un .not (.t 5)))] [1, 2, 6]) (.cond (.t 6) (.seq (.reg [i_X 0 7 (.h (.build [.nil, fI 0, fI 0, fI 0, fI 0, fI 0, .nil, fI 0, fI 0, fI 0, .nil, fl 0, fI 0, fI 0] [(1, (1, (kI 1)))])), i_S 1 2 7 14] [2]) .ret) .skip)) (.seq (.reg [i_A 0 8 1 13, i_A 1 9 1 13, i_X 2 10 (.callS 2 (kF 27) [(.t 9)]), i_P 3 11 1 11, i_L 4 12 11 1, i_X 5 13 (.callS 0 (kF 26) [(.t 8), (.t 10), (.t 12)]), i_X 6 3 (.alloc [.nil, fI 0, fI 0, fI 0, fI 0, fI 0, .nil, fI 0, fI 0, fI 0, .nil, fl 0, fI 0, fI 0] 53), i_S 7 3 13 14] [1, 2, 3]) (.seq (.seq (.reg [i_P 0 14 3 1, i_L 1 15 14 1, i_B 2 16 .eql 15 0, i_M 3 17 16, g_T 4 18 17 (.h (.padd (.t 3) 2)), g_T 5 19 17 (.h (.padd (.t 18) 0)), g_T 6 20 17 (.h (.padd (.t 19) 0)), g_T 7 21 17 (.h (.padd (.t 20) 0)), g_T 8 22 17 (.load (.t 21) 1 false), g_T 9 23 17 (.h (.padd (.t 1) 5)), g_T 10 24 17 (.load (.t 23) 1 false), g_T 11 25 17 (.h (.ibin .lss (.t 22) (.t 24))), i_X 12 26 (.h (.pick (.t 17) (.t 25) (.k (.d (.bool false)))))] [2, 3, 26]) (.cond (.t 26) (.reg [i_P 0 27 3 1, ⟨1, none, none, [], [], (.store (.t 27) (kI 6) 1)⟩] [2, 3]) .skip)) (.seq (.reg [i_A 0 28 3 14, i_S 1 2 28 14] [2]) .ret)))))
theorem a12 : f7 Tryz.prog 21 = some ⟨29, [(2, (some (14, true)))], a5n.strip⟩ := by kernel_rfl
structure Vop (o : OpN) (k n : Nat) : Prop where
 is : (o.k = 0 /\ p9 o.c = true /\ o.a = 0 /\ o.b = 0) \/ (o.k = 1 /\ (0 <= o.a /\ o.a < n) /\ o.b = 0 /\ fcmp .eq o.c 0 = true) \/ ((o.k = 2 \/ o.k = 3 \/ o.k = 4 \/ o.k = 5) /\ (0 <= o.a /\ o.a < k) /\ (0 <= o.b /\ o.b < k) /\ fcmp .eq o.c 0 = true)
structure Vtp (t : Tp) : Prop where
 n : 1 <= t.n /\ t.n <= 4
 len : t.ops.length <= 60
 outl : t.out.length = t.n
 op : ∀ i, i < t.ops.length -> Vop (t.ops.getD i ⟨0, 0, 0, 0⟩) i t.n
 out : ∀ i, i < t.n -> 0 <= t.out.getD i 0 /\ t.out.getD i 0 < t.ops.length
def powB (n : Int) : Bool := decide (1 <= n) && decide (n <= 4294967296) && (A6 .and .i64 n (n - 1) == 0)
structure Vpb (p : Pb) : Prop where
 t : Vtp p.t
 boxl : p.box.length = p.t.n
 yl : p.y.length = p.t.n
 outsl : p.outs.length <= 1000
 box : ∀ i, i < p.t.n -> fcmp .le (mG p.box i).1 (mG p.box i).2 = true /\ p9 (mG p.box i).1 = true /\ p9 (mG p.box i).2 = true /\ fcmp .le (mG p.box i).1 (p.y.getD i 0) = true /\ fcmp .le (p.y.getD i 0) (mG p.box i).2 = true
 fin : 1 <= p.fin /\ p.fin <= 1099511627776
 first : powB p.first = true
 least : powB p.least = true
 le : p.least <= p.first
 most : 1 <= p.most /\ p.most <= 10000
 atol : p9 p.atol = true /\ fcmp .gt p.atol 0 = true
 rtol : p9 p.rtol = true /\ fcmp .ge p.rtol 0 = true
 cap : p9 p.cap = true /\ fcmp .gt p.cap 0 = true
 outs : ∀ i, i < p.outs.length -> 0 <= p.outs.getD i 0 /\ p.outs.getD i 0 <= p.fin /\ (i = 0 \/ p.outs.getD (i - 1) 0 <= p.outs.getD i 0)
theorem s5 (i n : Int) (h : 0 <= i /\ i < n) : Con Tryz.prog 81 [fI i, fI n] (fB true) := by
 refine b7 a6s rfl f5 ?_
 refine evx @a6t.eq_1 ?_
 rw [decide_eq_true h.1]
 refine ev ?_
 rw [decide_eq_true h.2]
 exact g9
theorem b64 (o : OpN) (k n : Nat) (h : Vop o k n) : Con Tryz.prog 80 [.agg [fI o.k, fI o.a, fI o.b, fl o.c], fI k, fI n] (fB true) := by
 obtain ⟨ok, oa, ob, oc⟩ := o
 obtain ⟨h⟩ := h
 simp only at h
 refine b7 b1Y rfl f5 ?_
 refine evx @b6B.eq_1 ?_
 rcases h with ⟨rfl, hf, rfl, rfl⟩ | ⟨rfl, ha, rfl, hc⟩ | ⟨hk, ha, hb, hc⟩
 ·refine ev ?_
  refine a0 (q6 oc) rfl ?_
  rw [hf]
  refine ev ?_
  exact g9
 ·refine evb ?_
  refine a0 (s5 oa n ha) rfl ?_
  refine evx hc ?_
  exact g9
 ·have c0 : (ok == 0) = false := by simp; omega
  have c1 : (ok == 1) = false := by simp; omega
  refine evx (And.intro c0 c1) ?_
  rcases hk with rfl | rfl | rfl | rfl
  ·refine evb ?_
   refine a0 (s5 oa k ha) rfl ?_
   refine ev ?_
   refine a0 (s5 ob k hb) rfl ?_
   refine evx hc ?_
   exact g9
  ·refine evb ?_
   refine a0 (s5 oa k ha) rfl ?_
   refine ev ?_
   refine a0 (s5 ob k hb) rfl ?_
   refine evx hc ?_
   exact g9
  ·refine evb ?_
   refine a0 (s5 oa k ha) rfl ?_
   refine ev ?_
   refine a0 (s5 ob k hb) rfl ?_
   refine evx hc ?_
   exact g9
  ·refine evb ?_
   refine a0 (s5 oa k ha) rfl ?_
   refine ev ?_
   refine a0 (s5 ob k hb) rfl ?_
   refine evx hc ?_
   exact g9
theorem b5J (n : Int) (h : powB n = true) : Con Tryz.prog 85 [fI n] (fB true) := by
 unfold powB at h
 simp only [Bool.and_eq_true, decide_eq_true_eq] at h
 obtain ⟨⟨h1, h2⟩, h3⟩ := h
 refine b7 a9a rfl f5 ?_
 refine evx @b08.eq_1 ?_
 rw [decide_eq_true h1]
 refine ev ?_
 rw [decide_eq_true h2]
 have w : IntKind.i64.wrap (n - 1) = n - 1 := f0 (by omega) (by omega)
 refine evx (And.intro w h3) ?_
 exact g9
theorem b1s (t : Tp) (h : Vtp t) : Con Tryz.prog 39 [R7 t] (fB true) := by
 have hn := h.n
 have hlen := h.len
 have houtl := h.outl
 have d1 : decide ((t.n : Int) < 1) = false := decide_eq_false (by omega)
 have d2 : decide ((4 : Int) < (t.n : Int)) = false := decide_eq_false (by omega)
 have d3 : decide ((60 : Int) < (t.ops.length : Int)) = false := decide_eq_false (by omega)
 have d4 : ((t.out.length : Int) != (t.n : Int)) = false := by rw [houtl]; simp
 refine b7 a01 rfl f5 ?_
 refine evx @a2V.eq_1 ?_
 rw [d1]
 refine ev ?_
 rw [d2]
 refine evx @opsD.eq_1 ?_
 rw [d3]
 refine ev ?_
 rw [d4]
 refine ev ?_
 refine j5 (n := t.ops.length) (λc s => ∃ i : Nat, c + i = t.ops.length /\ s = ⟨[(1, .ptr 0 0 0 3), (29, .d (opsD t.ops)), (30, fI t.ops.length), (31, fI i)], [(0, [[fI t.n, .d (opsD t.ops), .d (rowI t.out)]])]⟩) (Le.refl _) ⟨0, by omega, rfl⟩ ?_
 rintro c s ⟨i, hc, rfl⟩
 refine evx @a2U.eq_1 ?_
 refine b9 (λhi => ?_) (λhi => ?_)
 ·replace hi := d2b hi
  refine evx (And.intro @opsD.eq_1 @opG.eq_1) ?_
  refine ⟨by omega, ?_⟩
  refine a0 (b64 (t.ops.getD i ⟨0, 0, 0, 0⟩) i t.n (h.op i (by omega))) rfl ?_
  refine ev ?_
  rw [f0 (by omega) (by omega)]
  exact ⟨c - 1, _, by omega, LeT.only (λX => decide (X <= 0)) (λ_ h => h) rfl (by simp [kpS]) (by simp [kpS]), i + 1, by omega, rfl⟩
 ·refine ev ?_
  refine j5 (n := t.n) (λc s => ∃ i : Nat, c + i = t.n /\ s = ⟨[(1, .ptr 0 0 0 3), (44, fI t.n), (45, fI i)], [(0, [[fI t.n, .d (opsD t.ops), .d (rowI t.out)]])]⟩) (Le.refl _) ⟨0, by omega, rfl⟩ ?_
  rintro c2 s ⟨j, hc2, rfl⟩
  refine evx @a2T.eq_1 ?_
  refine b9 (λhj => ?_) (λhj => ?_)
  ·replace hj := d2b hj
   refine evx @opsD.eq_1 ?_
   refine ⟨by omega, ?_⟩
   refine a0 (s5 (t.out.getD j 0) t.ops.length (h.out j (by omega))) rfl ?_
   refine ev ?_
   rw [f0 (by omega) (by omega)]
   exact ⟨c2 - 1, _, by omega, LeT.only (λX => decide (X <= 0)) (λ_ h => h) rfl (by simp [kpS]) (by simp [kpS]), j + 1, by omega, rfl⟩
  ·refine ev ?_
   exact g9
theorem c83 (p : Pb) (i : Nat) (hi : i < p.t.n) (h : Vpb p) : Con Tryz.prog 41 [pbV p, fI i, ivV (mG p.box i)] (fB true) := by
 obtain ⟨h1, h2, h3, h4, h5⟩ := h.box i hi
 have hy := h.yl
 refine b7 a2a rfl f5 ?_
 refine evx @a09.eq_1 ?_
 refine a0 (a7W (mG p.box i)) rfl ?_
 rw [h1]
 refine ev ?_
 refine a0 (q6 (mG p.box i).1) rfl ?_
 rw [h2]
 refine ev ?_
 refine a0 (q6 (mG p.box i).2) rfl ?_
 rw [h3]
 refine ev ?_
 refine ⟨by omega, ?_⟩
 refine a0 (a5W (p.y.getD i 0) (mG p.box i)) rfl ?_
 rw [h4, h5]
 refine ev ?_
 exact g9
theorem c8c (p : Pb) (i : Nat) (hi : i < p.outs.length) (h : Vpb p) : Con Tryz.prog 45 [pbV p, fI i, fI (p.outs.getD i 0)] (fB true) := by
 obtain ⟨h1, h2, h3⟩ := h.outs i hi
 have hl := h.outsl
 refine b7 a19 rfl f5 ?_
 refine evx @a08.eq_1 ?_
 rw [decide_eq_true h1]
 refine ev ?_
 rw [decide_eq_true h2]
 refine ev ?_
 by_cases h0 : i = 0
 ·have h0b : ((i : Int) == 0) = true := by subst h0; rfl
  rw [h0b]
  refine ev ?_
  exact g9
 ·have h0b : ((i : Int) == 0) = false := by simp; omega
  rw [h0b]
  have w : IntKind.i64.wrap ((i : Int) - 1) = ((i - 1 : Nat) : Int) := by rw [f0 (by omega) (by omega)]; omega
  refine evx w ?_
  refine ⟨by omega, ?_⟩
  rw [decide_eq_true (h3.resolve_left h0)]
  exact g9
theorem c1V (p : Pb) (h : Vpb p) : Con Tryz.prog 42 [pbV p] (fB true) := by
 refine b7 a07 rfl f5 ?_
 refine evx @X4.eq_1 ?_
 rw [decide_eq_true h.fin.1]
 refine ev ?_
 rw [decide_eq_true h.fin.2]
 refine ev ?_
 refine a0 (b5J p.first h.first) rfl ?_
 refine ev ?_
 refine a0 (b5J p.least h.least) rfl ?_
 refine ev ?_
 rw [decide_eq_true h.le]
 refine ev ?_
 rw [decide_eq_true h.most.1]
 refine ev ?_
 rw [decide_eq_true h.most.2]
 exact g9
theorem c1f (p : Pb) (h : Vpb p) : Con Tryz.prog 43 [pbV p] (fB true) := by
 refine b7 a0J rfl f5 ?_
 refine evx @U1.eq_1 ?_
 refine a0 (q6 p.atol) rfl ?_
 rw [h.atol.1]
 refine evx h.atol.2 ?_
 refine a0 (q6 p.rtol) rfl ?_
 rw [h.rtol.1]
 refine evx h.rtol.2 ?_
 refine a0 (q6 p.cap) rfl ?_
 rw [h.cap.1]
 refine evx h.cap.2 ?_
 exact g9
theorem b8j (p : Pb) (h : Vpb p) (hn : p.t.n < 1000) : Con Tryz.prog 40 [.d (ivD p.box), .fn 41 [pbV p] []] (fB true) := by
 have hl := h.boxl
 refine b7 a0K rfl f5 ?_
 refine evx @U3.eq_1 ?_
 refine j5 (n := p.box.length) (λc s => ∃ i : Nat, c + i = p.box.length /\ s = ⟨[(1, .fn 41 [pbV p] []), (7, .d (ivD p.box)), (8, fI p.box.length), (9, fI i)], []⟩) (Le.refl _) ⟨0, by omega, rfl⟩ ?_
 rintro c s ⟨i, hc, rfl⟩
 refine evx @M1.eq_1 ?_
 refine b9 (λhi => ?_) (λhi => ?_)
 ·replace hi := d2b hi
  refine evx (And.intro @ivD.eq_1 @ivG.eq_1) ?_
  refine ⟨by omega, ?_⟩
  refine a0 (c83 p i (by omega) h) rfl ?_
  refine ev ?_
  rw [f0 (by omega) (by omega)]
  exact ⟨c - 1, _, by omega, LeT.only (L' := []) (λX => false) (λ_ h => h) rfl (by simp [kpS]) (by simp [kpS]), i + 1, by omega, rfl⟩
 ·refine ev ?_
  exact g9
theorem b8g (p : Pb) (h : Vpb p) : Con Tryz.prog 44 [.d (rowI p.outs), .fn 45 [pbV p] []] (fB true) := by
 have hl := h.outsl
 refine b7 a2b rfl f5 ?_
 refine evx @a1a.eq_1 ?_
 refine j5 (n := p.outs.length) (λc s => ∃ i : Nat, c + i = p.outs.length /\ s = ⟨[(1, .fn 45 [pbV p] []), (7, .d (rowI p.outs)), (8, fI p.outs.length), (9, fI i)], []⟩) (Le.refl _) ⟨0, by omega, rfl⟩ ?_
 rintro c s ⟨i, hc, rfl⟩
 refine evx @U2.eq_1 ?_
 refine b9 (λhi => ?_) (λhi => ?_)
 ·replace hi := d2b hi
  refine ev ?_
  refine ⟨by omega, ?_⟩
  refine a0 (c8c p i (by omega) h) rfl ?_
  refine ev ?_
  rw [f0 (by omega) (by omega)]
  exact ⟨c - 1, _, by omega, Le.refl _, i + 1, by omega, rfl⟩
 ·refine ev ?_
  exact g9
theorem b2R {P : Program} {g : FuncId} {vs : List V} {L : Heap} {K : V -> Heap -> Prop} {r : V} (h : Con P g vs r) (hb : ∀ j, j < vs.length -> Bare (vs.getD j .any)) (hk : K r L) : b1U P g vs L K := ⟨L, r, a3z rfl (.inl ⟨rfl, hb⟩) h, hk⟩
theorem c4u {x : D} {f : FuncId} {xs : List V} (h : xs.all V.isD = true) : ∀ j, j < [V.d x, .fn f [.agg xs] []].length -> Bare ([V.d x, .fn f [.agg xs] []].getD j .any) := λj hj => by
 rcases j with _ | _ | j
 ·exact .d _
 ·refine .fn (λi hi => ?_) (λi hi => by simp at hi)
  obtain rfl : i = 0 := by simpa using hi
  exact W0 (v := .agg xs) h
 ·simp at hj; omega
theorem b9b (f : FuncId) (xs : List V) : fnOf f [.agg xs] [] = .fn f [.agg xs] [] := rfl
theorem a5V (p : Pb) (h : Vpb p) : Con Tryz.prog 18 [pbV p] (fB true) := by
 have hn := h.t.n
 have hbl := h.boxl
 have hyl := h.yl
 have hol := h.outsl
 have d1 : ((p.box.length : Int) != (p.t.n : Int)) = false := by rw [hbl]; simp
 have d2 : ((p.y.length : Int) != (p.t.n : Int)) = false := by rw [hyl]; simp
 have d3 : decide ((1000 : Int) < (p.outs.length : Int)) = false := decide_eq_false (by omega)
 refine b7 a13 rfl f5 ?_
 refine evx @a5p.eq_1 ?_
 refine a0 (b1s p.t h.t) rfl ?_
 refine evx d1 ?_
 refine evx d2 ?_
 refine evx (And.intro d3 @b9b) ?_
 refine b2R (b8j p h (by omega)) (c4u rfl) ?_
 refine ev ?_
 refine a0 (c1V p h) rfl ?_
 refine ev ?_
 refine a0 (c1f p h) rfl ?_
 refine evx @b9b ?_
 refine b2R (b8g p h) (c4u rfl) ?_
 refine ev ?_
 exact g9
theorem c9p {p : Pb} (h : Vpb p) : Outs p := ⟨by have := h.outsl; omega, λi hi => by have := h.outs i hi; have := h.fin; omega, by have := h.most; omega⟩
theorem a1C (p : Pb) (hp : Pk2 p) (h : Vpb p) : Con Tryz.prog 21 [pbV p] (edV (a1W p)) := by
 have hm := h.most
 refine b7 a12 rfl f5 ?_
 refine evx @a5n.eq_1 ?_
 refine a0 (a5V p h) rfl ?_
 refine ev ?_
 refine d5 (b38 p hp.pk) rfl ?_
 refine ev ?_
 refine d5 (c0G p (p7 p) p.most 0 hp (c9p h) (b2T hp) (by omega) (d2t _) (by omega) h.yl) rfl ?_
 have e : a1W p = ((goP p (p7 p) p.most.toNat).1, (goP p (p7 p) p.most.toNat).2.1, if (goP p (p7 p) p.most.toNat).2.2 = 0 /\ (goP p (p7 p) p.most.toNat).1.s.n.pos < p.fin then 6 else (goP p (p7 p) p.most.toNat).2.2) := rfl
 rw [e]
 generalize goP p (p7 p) p.most.toNat = x
 obtain ⟨x1, x2, x3⟩ := x
 refine ev ?_
 by_cases h3 : x3 = 0
 ·subst h3
  refine evb ?_
  by_cases h4 : x1.s.n.pos < p.fin
  ·have d4 : decide (x1.s.n.pos < p.fin) = true := decide_eq_true h4
   refine evx d4 ?_
   rw [if_pos (by first | exact h4 | exact ⟨rfl, h4⟩)]
   exact f9 rfl (by decide) rfl rfl rfl (by simp) (by simp [ldv, g6, rowD])
  ·have d4 : decide (x1.s.n.pos < p.fin) = false := decide_eq_false h4
   refine evx d4 ?_
   rw [if_neg (by first | exact h4 | exact λh => h4 h.2)]
   exact f9 rfl (by decide) rfl rfl rfl (by simp) (by simp [ldv, g6, rowD])
 ·have h3b : (x3 == 0) = false := by simpa using h3
  refine evx h3b ?_
  rw [if_neg (λh => h3 h.1)]
  exact f9 rfl (by decide) rfl rfl rfl (by simp) (by simp [ldv, g6, rowD])
section
variable {P : Program} {N : Nat -> Prop} {nt : Nat}
def cutC (P : Program) (N : Nat -> Prop) (nt : Nat) (b : CA) (Q : Ex -> T -> Prop) : Ex -> T -> Prop
 | .normal, t => ∃ t', Le N (t.s nt) (t'.s nt) /\ WA P N nt b Q t'
 | e, t => Q e t
theorem H2 (b : CA) (Q : Ex -> T -> Prop) (t : T) : cutC P N nt b Q .normal t = ∃ t', Le N (t.s nt) (t'.s nt) /\ WA P N nt b Q t' := rfl
theorem c4E {a b : CA} {Q : Ex -> T -> Prop} {s : T} (h : xC P N nt a (cutC P N nt b Q) s) : WA P N nt (.seq a b) Q s := by
 intro hok
 simp only [CA.ok, Bool.and_eq_true] at hok
 refine c9j ((a1K a _ s h hok.1).mono λe t ⟨s', h1, h2⟩ => ?_)
 cases e with
 | normal =>
  obtain ⟨t', h3, h4⟩ := h2
  exact W_le (h1.trans h3) (h4 hok.2)
 | _ => exact ⟨s', h1, h2⟩
theorem a6m {a b : CA} {Q : Ex -> T -> Prop} {s : T} (h : xC P N nt a (λe t => match e with | .normal => WA P N nt b Q t | e => Q e t) s) : WA P N nt (.seq a b) Q s := by
 intro hok
 simp only [CA.ok, Bool.and_eq_true] at hok
 refine c9j ((a1K a _ s h hok.1).mono λe t ⟨s', h1, h2⟩ => ?_)
 cases e with
 | normal => exact W_le h1 (h2 hok.2)
 | _ => exact ⟨s', h1, h2⟩
theorem b2W {f : FuncId} {res : List (Nat × Option (Nat × Bool))} {c : CA} {r : V} {vs : List V} (hF : f7 P f = some ⟨nt, res, c.strip⟩) (hok : (c.ok nt && decide (vs.length <= nt)) = true) (hm : P.follows .mixedOrders = true)
  (h : WA P (λ_ => False) nt c (M4 (λ_ => False) nt res r []) ⟨argSl 0 vs, []⟩) : Con P f vs r := by
 simp only [Bool.and_eq_true, decide_eq_true_eq] at hok
 have e : enter ⟨nt, res, c.strip⟩ vs [] = T.s nt ⟨argSl 0 vs, []⟩ := by
  simp only [enter, T.s, S.mk.injEq, and_true]
  refine List.ext_getElem? λi => ?_
  by_cases h : i < nt
  ·have h1 : (build nt (argSl 0 vs)).getD i .any = _ := z2 _ h
   rw [b8Z] at h1
   simp only [Nat.zero_le, if_true, Nat.sub_zero] at h1
   rw [d2d, d2f (by rw [y9]; exact h)] at h1
   rw [d2f (l := build nt _) (by rw [y9]; exact h)]
   simp only [Option.getD_some] at h1
   rw [h1, List.getElem?_append]
   split
   ·rename_i h2; simp [d2d, h2]
   ·rename_i h2
    rw [List.getElem?_replicate]
    simp only [d2d]
    rw [d2n (by omega)]
    rw [if_pos (by omega)]; rfl
  ·rw [d2n (by simp; omega), d2n (by rw [y9]; omega)]
 refine b9R hF hm (λ_ => False) (λX q hX => by simp [Heap.get, Heap.fam] at hX) ?_
 rw [e]
 refine b6y (h hok.1) λe t ⟨s', h1, h2⟩ => ⟨s'.s nt, h1, ?_⟩
 cases e <;> first | exact h2 | exact h2.elim
end
def b05 : CA := (.seq (.reg [i_X 0 0 (.h (.mov (.k (.d (.bool false)))))] []) (.seq (.reg [i_X 0 3 (.h (.build [fI 0, fI 0, fI 0, fl 0] [])), i_X 1 4 (.bslice [fI 0, fI 0, fI 0, fl 0] 1 4 [(0, (4, (.t 3)))] 81), i_X 2 5 (.bslice [fI 0] 1 1 [(0, (1, (kI 0)))] 3), i_X 3 6 (.h (.build [fI 0, .nil, .nil] [(0, (1, (kI 1))), (1, (1, (.t 4))), (2, (1, (.t 5)))])), i_X 4 7 (.h (.build [fl 0, fl 0] [(0, (1, (.k (.d (.flt 13844628204490326016))))), (1, (1, (.k (.d (.flt 4621256167635550208)))))])), i_X 5 8 (.bslice [fl 0, fl 0] 1 2 [(0, (2, (.t 7)))] 83), i_X 6 9 (.bslice [fl 0] 1 1 [(0, (1, (.k (.d (.flt 4607182418800017408)))))] 31), i_X 7 10 (.bslice [fI 0] 1 1 [(0, (1, (kI 536870912)))] 3), i_X 8 11 (.h (.build [fI 0, .nil, .nil, .nil, .nil, fI 0, fI 0, fI 0, fl 0, fl 0, fl 0, fI 0, .nil] [(0, (3, (.t 6))), (3, (1, (.t 8))), (4, (1, (.t 9))), (5, (1, (kI 1073741824))), (6, (1, (kI 268435456))), (7, (1, (kI 1))), (8, (1, (.k (.d (.flt 4607182418800017408))))), (10, (1, (.k (.d (.flt 4607182418800017408))))), (11, (1, (kI 90))), (12, (1, (.t 10)))])), i_X 9 1 (.alloc [fI 0, .nil, .nil, .nil, .nil, fI 0, fI 0, fI 0, fl 0, fl 0, fl 0, fI 0, .nil] 33), i_S 10 1 11 13] [1]) (.seq (.reg [i_A 0 12 1 13, i_X 1 13 (.callA (kF 21) [(.t 12)]), i_X 2 2 (.alloc [.nil, fI 0, fI 0, fI 0, fI 0, fI 0, .nil, fI 0, fI 0, fI 0, .nil, fl 0, fI 0, fI 0] 53), i_S 3 2 13 14] [1, 2]) (.seq (.reg [i_X 0 14 (.h (.build [fI 0, .nil, .nil, .nil, .nil, fI 0, fI 0, fI 0, fl 0, fl 0, fl 0, fI 0, .nil] [])), i_X 1 15 (.callA (kF 21) [(.t 14)]), i_X 2 16 (.h (.fld (.t 15) 1 1 false)), i_B 3 17 .eql 16 1, i_M 4 18 17, g_T 5 19 18 (.h (.padd (.t 2) 1)), g_T 6 20 18 (.load (.t 19) 1 false), g_T 7 21 18 (.h (.ibin .eql (.t 20) (kI 0))), i_X 8 22 (.h (.pick (.t 18) (.t 21) (.k (.d (.bool false))))), i_M 9 23 22, g_T 10 24 23 (.h (.padd (.t 2) 0)), g_T 11 25 23 (.load (.t 24) 1 false), g_T 12 26 23 (.h (.len (.t 25))), g_T 13 27 23 (.h (.ibin .eql (.t 26) (kI 1))), i_X 14 28 (.h (.pick (.t 23) (.t 27) (.k (.d (.bool false))))), i_M 15 29 28, g_T 16 30 29 (.h (.padd (.t 2) 0)), g_T 17 31 29 (.load (.t 30) 1 false), g_T 18 32 29 (.h (.idx (.t 31) (kI 0) 3)), g_T 19 33 29 (.h (.padd (.t 32) 1)), g_T 20 34 29 (.load (.t 33) 1 false), g_T 21 35 29 (.h (.len (.t 34))), g_T 22 36 29 (.h (.ibin .eql (.t 35) (kI 1))), i_X 23 37 (.h (.pick (.t 29) (.t 36) (.k (.d (.bool false))))), i_M 24 38 37, g_T 25 39 38 (.h (.padd (.t 2) 0)), g_T 26 40 38 (.load (.t 39) 1 false), g_T 27 41 38 (.h (.idx (.t 40) (kI 0) 3)), g_T 28 42 38 (.h (.padd (.t 41) 1)), g_T 29 43 38 (.load (.t 42) 1 false), g_T 30 44 38 (.h (.idx (.t 43) (kI 0) 1)), g_T 31 45 38 (.load (.t 44) 1 false), g_T 32 46 38 (.h (.fcmp .eq (.t 45) (.k (.d (.flt 4607182418800017408))))), i_X 33 47 (.h (.pick (.t 38) (.t 46) (.k (.d (.bool false))))), i_M 34 48 47, g_T 35 49 48 (.h (.padd (.t 2) 0)), g_T 36 50 48 (.load (.t 49) 1 false), g_T 37 51 48 (.h (.idx (.t 50) (kI 0) 3)), g_T 38 52 48 (.h (.padd (.t 51) 2)), g_T 39 53 48 (.load (.t 52) 1 false), g_T 40 54 48 (.h (.fcmp .lt (.t 53) (.k (.d (.flt 4517329193108106637))))), i_X 41 55 (.h (.pick (.t 48) (.t 54) (.k (.d (.bool false))))), i_M 42 56 55, g_T 43 57 56 (.load (.t 1) 13 true), g_T 44 58 56 (.callA (kF 18) [(.t 57)]), i_X 45 59 (.h (.pick (.t 56) (.t 58) (.k (.d (.bool false))))), i_M 46 0 59] [0]) .ret))))
theorem a88 : f7 Tryz.prog 15 = some ⟨60, [(0, none)], b05.strip⟩ := by kernel_rfl
def a8s : CA := (.seq (.reg [i_K 0 4 0] [0, 1]) (.seq (.reg [i_M 0 6 0, i_M 1 7 1, i_N 2 8 .rem 6 7, i_M 3 5 8] [1, 5]) (.seq (.seq (.reg [i_M 0 9 5, i_B 1 10 .lss 9 0] [1, 5, 10]) (.cond (.t 10) (.reg [i_M 0 11 5, i_M 1 12 1, i_N 2 13 .add 11 12, i_M 3 5 13] [5]) .skip)) (.seq (.reg [i_M 0 14 5, i_M 1 4 14] [4]) .ret))))
theorem a7A : f7 Tryz.prog 28 = some ⟨15, [(4, none)], a8s.strip⟩ := by kernel_rfl
theorem a4b (a n : Int) (hn : 0 < n) (hn2 : n < 2 ^ 62) : Con Tryz.prog 28 [fI a, fI n] (fI (a % n)) := by
 rw [<- b3r a n hn]
 refine b7 a7A rfl f5 ?_
 refine evx @a8s.eq_1 ?_
 refine ⟨by omega, ?_⟩
 have h1 := Int.tmod_lt_of_pos a hn
 have h2 : -n < a.tmod n := Int.lt_tmod_of_pos a hn
 refine b9 (λh => ?_) (λh => ?_)
 ·have h := d2b h
  rw [if_pos h]
  refine ev ?_
  rw [f0 (by omega) (by omega)]
  exact g9
 ·have h := d2c h
  rw [if_neg h]
  refine ev ?_
  exact g9
abbrev noP : V := .agg [fI 0, .nil, .nil, .nil, .nil, fI 0, fI 0, fI 0, fl 0, fl 0, fl 0, fI 0, .nil]
theorem b3t : Con Tryz.prog 39 [.agg [fI 0, .nil, .nil]] (fB false) := by
 refine b7 a01 rfl f5 ?_
 refine evx @a2V.eq_1 ?_
 exact g9
theorem b51 : Con Tryz.prog 18 [noP] (fB false) := by
 refine b7 a13 rfl f5 ?_
 refine evx @a5p.eq_1 ?_
 refine a0 (b3t) rfl ?_
 refine ev ?_
 exact g9
theorem b50 : Con Tryz.prog 21 [noP] (.agg [.nil, fI 1, fI 0, fI 0, fI 0, fI 0, .nil, fI 0, fI 0, fI 0, .nil, fl 0, fI 0, fI 0]) := by
 refine b7 a12 rfl f5 ?_
 refine evx @a5n.eq_1 ?_
 refine a0 (b51) rfl ?_
 refine ev ?_
 exact f9 rfl (by decide) rfl rfl rfl (by simp) (by simp [ldv])
def kp12 : Pb := ⟨⟨1, [⟨0, 0, 0, 0⟩], [0]⟩, [(13844628204490326016, 4621256167635550208)], [4607182418800017408], 1073741824, 268435456, 1, 4607182418800017408, 0, 4607182418800017408, 90, [536870912]⟩
theorem c8F : Pk2 kp12 := by
 refine ⟨⟨⟨⟨by decide, by decide, λi hi => ?_, rfl, λi hi => ?_⟩, by decide, by decide⟩, ⟨28, by decide, rfl⟩, ⟨0, by decide, rfl⟩, by decide, by decide, rfl, λi => ?_⟩, by decide, rfl, by decide⟩
 ·have : i = 0 := by have hi : i < 1 := hi; omega
  subst this; exact .inl rfl
 ·have : i = 0 := by have hi : i < 1 := hi; omega
  subst this; exact ⟨by decide, by decide⟩
 ·rcases i with _ | i
  ·exact b74
  ·exact L4
theorem c7d : Vpb kp12 := by
 refine ⟨⟨by decide, by decide, rfl, λi hi => ?_, λi hi => ?_⟩, rfl, rfl, by decide, λi hi => ?_, by decide, by decide, by decide, by decide, by decide, by decide, by decide, by decide, λi hi => ?_⟩
 ·have : i = 0 := by have hi : i < 1 := hi; omega
  subst this; exact ⟨.inl ⟨rfl, by decide, rfl, rfl⟩⟩
 ·have : i = 0 := by have hi : i < 1 := hi; omega
  subst this; exact ⟨by decide, by decide⟩
 ·have : i = 0 := by have hi : i < 1 := hi; omega
  subst this; exact ⟨by decide, by decide, by decide, by decide, by decide⟩
 ·have : i = 0 := by have hi : i < 1 := hi; omega
  subst this; exact ⟨by decide, by decide, .inl rfl⟩
def c3k (x : Rn × List Ou × Int) : Bool := x.2.2 == 0 && decide (x.2.1.length = 1) && decide ((x.2.1.getD 0 ⟨0, [], 0⟩).y.length = 1) && fcmp .eq ((x.2.1.getD 0 ⟨0, [], 0⟩).y.getD 0 0) 4607182418800017408 && fcmp .lt (x.2.1.getD 0 ⟨0, [], 0⟩).bound 4517329193108106637
theorem c5Z : c3k (a1W kp12) = true := by kernel_rfl
theorem b35 : Con Tryz.prog 15 [] (fB true) := by
 have hs := a1C kp12 c8F c7d
 have hk := c5Z
 generalize a1W kp12 = x at hs hk
 obtain ⟨x1, x2, x3⟩ := x
 unfold c3k at hk
 simp only [Bool.and_eq_true, beq_iff_eq, decide_eq_true_eq] at hk
 obtain ⟨⟨⟨⟨k1, k2⟩, k3⟩, k4⟩, k5⟩ := hk
 refine b2W a88 rfl f5 ?_
 unfold b05
 refine a6m ?_
 refine ev ?_
 refine c4E ?_
 refine evx @H2 ?_
 refine ⟨⟨[(1, .ptr 9 0 0 13)], [(9, [pbC kp12])]⟩, ?_, ?_⟩
 ·exact LeT.weak (λ_ h => h) (by simp (maxDischargeDepth := 6) [fzS]) ⟨⟨_, rfl, ⟨Fz_d _, .d (y6 (λY q hY e => by cases e; exact hY rfl) rfl (λ_ _ => rfl) rfl), .d (y6 (λY q hY e => by cases e; exact hY rfl) rfl (λ_ _ => rfl) rfl), .d (y6 (λY q hY e => by cases e; exact hY rfl) rfl (λ_ _ => rfl) rfl), .d (y6 (λY q hY e => by cases e; exact hY rfl) rfl (λ_ _ => rfl) rfl),
   Fz_d _, Fz_d _, Fz_d _, Fz_d _, Fz_d _, Fz_d _, Fz_d _, .d (y6 (λY q hY e => by cases e; exact hY rfl) rfl (λ_ _ => rfl) rfl), trivial⟩, trivial⟩, trivial⟩
 ·refine a1K _ _ _ ?_
  subst k1
  refine ev ?_
  refine a0 (hs) rfl ?_
  refine ev ?_
  refine a0 (b50) rfl ?_
  refine evbx k2 ?_
  refine evx @ousG.eq_1 ?_
  have k3' : (((x2.getD 0 ⟨0, [], 0⟩).y.length : Int) == 1) = true := by rw [k3]; rfl
  refine evx (And.intro @ousG.eq_1 k3') ?_
  rw [k3]
  refine evx (And.intro k4 (And.intro k5 @ousG.eq_1)) ?_
  refine ⟨by omega, by omega, ?_⟩
  refine a0 (a5V kp12 c7d) rfl ?_
  refine ev ?_
  exact g9
end Go.Ab
namespace Go.Ab
open Go Go.Proofs
theorem ix_4 : Ix 2 4616189618054758400 1 := by
 have r : Ieee.double.read 4616189618054758400 = .number false 4503599627370496 (-50) := by decide
 refine ⟨⟨_, _, _, r⟩, ?_⟩
 rw [B3 r]
 have h7 : (2 : Int) = -50 + (52 : Nat) := by decide
 have := (congrArg pw h7).trans (Q0 _ _)
 rw [this]; simp
theorem c02 (w : Int) (h : -100 <= w /\ w <= 100) : p9 (fop .div (FloatKind.nearest .f64 w) 4620693217682128896) = true :=
 V8 (Ix.div (g := -3) (c := w) (Ix.ofInt w (by omega)) ix_8 (by decide) (by decide) (by omega) (by omega) (by decide) (by decide)).fin
theorem b7t (w : Int) (h : -100 <= w /\ w <= 100) : p9 (fop .div (FloatKind.nearest .f64 w) 4616189618054758400) = true :=
 V8 (Ix.div (g := -2) (c := w) (Ix.ofInt w (by omega)) ix_4 (by decide) (by decide) (by omega) (by omega) (by decide) (by decide)).fin
theorem eq00 : fcmp .eq 0 0 = true := by decide
theorem c8q (n : Int) (ns : List Int) (div : Bool) (N i : Nat) : ∀ j, j < N + 1 + i -> Vop ((K5 n ns div N i).getD j ⟨0, 0, 0, 0⟩) j N := by
 induction i with
 | zero =>
  intro j hj
  have hl := a3B N
  unfold K5 b4D
  by_cases h : j < N
  ·rw [d2d, d2g (by omega)]
   have : (M6 N)[j]? = some ⟨1, j, 0, 0⟩ := by simp [M6, h]
   rw [this]
   exact ⟨.inr (.inl ⟨rfl, ⟨by simp, by simpa using h⟩, rfl, eq00⟩)⟩
  ·obtain rfl : j = N := by omega
   rw [d2d, d2j (by omega), hl, Nat.sub_self]
   exact ⟨.inl ⟨rfl, b7t _ (by omega), rfl, rfl⟩⟩
 | succ i ih =>
  intro j hj
  have hl := W6 n ns div N i
  unfold K5
  by_cases h : j < N + 1 + i
  ·have := ih j h
   rw [d2d] at this ⊢
   rwa [d2g (by omega)]
  ·obtain rfl : j = N + 1 + i := by omega
   rw [d2d, d2j (by omega), hl, Nat.sub_self]
   show Vop (mkOp ns div (N + 1 + i) i) (N + 1 + i) N
   unfold mkOp
   simp only
   generalize ns.getD i 0 = k
   have a1 := d2m (IntKind.i64.wrap (k.tdiv 4)) (by omega : ((N + 1 + i : Nat) : Int) ≠ 0)
   have a2 := d2k (IntKind.i64.wrap (k.tdiv 4)) (by omega : (0 : Int) < ((N + 1 + i : Nat) : Int))
   have b1 := d2m (IntKind.i64.wrap (k.tdiv 40)) (by omega : ((N + 1 + i : Nat) : Int) ≠ 0)
   have b2 := d2k (IntKind.i64.wrap (k.tdiv 40)) (by omega : (0 : Int) < ((N + 1 + i : Nat) : Int))
   split
   ·exact ⟨.inl ⟨rfl, c02 _ (by omega), rfl, rfl⟩⟩
   ·refine ⟨.inr (.inr ⟨?_, ⟨a1, a2⟩, ⟨b1, b2⟩, eq00⟩)⟩
    show (if div = true /\ k % 7 = 0 then (5 : Int) else 2 + k % 3) = 2 \/ _
    split
    ·exact .inr (.inr (.inr rfl))
    ·show (2 + k % 3 = 2) \/ (2 + k % 3 = 3) \/ (2 + k % 3 = 4) \/ (2 + k % 3 = 5)
     omega
theorem d1y (n : Int) (ns : List Int) (dv : Bool) : Vtp (mkT n ns dv) := by
 have hok := c7c n ns dv
 have hn := c0y n ns dv
 have m1 := d2m n (by decide : (3 : Int) ≠ 0)
 have m2 := d2k n (by decide : (0 : Int) < 3)
 have hl := W6 n ns dv ((n % 3).toNat + 1) (min ns.length 8)
 refine ⟨by rw [hn]; omega, ?_, hok.outl, λi hi => ?_, hok.out⟩
 ·show (K5 n ns dv ((n % 3).toNat + 1) (min ns.length 8)).length <= 60
  omega
 ·have hi' : i < (K5 n ns dv ((n % 3).toNat + 1) (min ns.length 8)).length := hi
  exact c8q n ns dv ((n % 3).toNat + 1) (min ns.length 8) i (by omega)
theorem c76 : ((List.range 29).all λa => powB ((2 ^ a : Nat) : Int)) = true := by decide
theorem c69 (a : Nat) (h : a <= 28) : powB ((2 ^ a : Nat) : Int) = true := List.all_eq_true.1 c76 a (by simp; omega)
theorem d0Y : ((List.range 24).all λk => p9 (fop .div 4607182418800017408 (FloatKind.nearest .f64 ((2 ^ k : Nat) : Int))) && fcmp .gt (fop .div 4607182418800017408 (FloatKind.nearest .f64 ((2 ^ k : Nat) : Int))) 0) = true := by kernel_rfl
theorem c9U : ((List.range 3).all λk => p9 (fop .div (FloatKind.nearest .f64 (k : Int)) 4652218415073722368) && fcmp .ge (fop .div (FloatKind.nearest .f64 (k : Int)) 4652218415073722368) 0) = true := by kernel_rfl
theorem c8s (tol : Int) : p9 (mkAt tol) = true /\ fcmp .gt (mkAt tol) 0 = true := by
 have t1 := d2m tol (by decide : (24 : Int) ≠ 0)
 have t2 := d2k tol (by decide : (0 : Int) < 24)
 have := List.all_eq_true.1 d0Y (tol % 24).toNat (by simp; omega)
 simpa [mkAt] using this
theorem c8n (tol : Int) : p9 (mkRt tol) = true /\ fcmp .ge (mkRt tol) 0 = true := by
 unfold mkRt
 generalize IntKind.i64.wrap (tol.tdiv 24) = w
 have t1 := d2m w (by decide : (3 : Int) ≠ 0)
 have t2 := d2k w (by decide : (0 : Int) < 3)
 obtain ⟨k, hk⟩ : ∃ k : Nat, w % 3 = k := ⟨(w % 3).toNat, by omega⟩
 have := List.all_eq_true.1 c9U k (by simp; omega)
 rw [hk]
 simpa using this
theorem b8V (A : List Int) (E : Int) (hA : ∀ i, i < A.length -> 0 <= A.getD i 0 /\ A.getD i 0 <= E) : ∀ k, k < A.length \/ A.length = 0 -> (∀ i, i < A.length -> 0 <= (maxL A k).getD i 0 /\ (maxL A k).getD i 0 <= E) /\ (∀ i, 0 < i -> i <= k -> (maxL A k).getD (i - 1) 0 <= (maxL A k).getD i 0) := by
 intro k
 induction k with
 | zero => intro _; exact ⟨hA, λi h1 h2 => by omega⟩
 | succ k ih =>
  intro hk
  rcases hk with hk | hk
  ·obtain ⟨r, s⟩ := ih (.inl (by omega))
   have hl := a3J A k
   have set_at : ∀ v i, ((maxL A k).set (k + 1) v).getD i 0 = if i = k + 1 then v else (maxL A k).getD i 0 := λv i => by
    rw [d2d, List.getElem?_set]
    by_cases h : k + 1 = i
    ·subst h; rw [if_pos rfl, if_pos rfl, if_pos (by omega)]; rfl
    ·rw [if_neg h, if_neg (λe => h e.symm), <- d2d]
   have r1 := r (k + 1) hk
   have r2 := r k (by omega)
   unfold maxL
   refine ⟨λi hi => ?_, λi h1 h2 => ?_⟩
   ·rw [set_at]
    split
    ·split <;> omega
    ·exact r i hi
   ·rw [set_at, set_at]
    by_cases h : i = k + 1
    ·subst h
     rw [if_neg (by omega), if_pos rfl, Nat.add_sub_cancel]
     split <;> omega
    ·rw [if_neg (by omega), if_neg h]
     exact s i h1 (by omega)
  ·refine ⟨λi hi => by omega, λi h1 h2 => ?_⟩
   have hl := a3J A (k + 1)
   rw [d2d, d2d, d2n (by omega), d2n (by omega)]
   exact Int.le_refl _
theorem d0d (outs : List Int) (E : Int) (hE : 0 <= E) : ∀ i, i < (mkO outs E).length -> 0 <= (mkO outs E).getD i 0 /\ (mkO outs E).getD i 0 <= E /\ (i = 0 \/ (mkO outs E).getD (i - 1) 0 <= (mkO outs E).getD i 0) := by
 intro i hi
 rw [b7E] at hi
 have hal := Q1 outs E (min outs.length 8)
 have hA : ∀ i, i < (H0 outs E (min outs.length 8)).length -> 0 <= (H0 outs E (min outs.length 8)).getD i 0 /\ (H0 outs E (min outs.length 8)).getD i 0 <= E := λi hi => by
  rw [hal] at hi
  have e : (H0 outs E (min outs.length 8)).getD i 0 = outE outs E i := by
   unfold H0
   rw [d2d, List.getElem?_map, List.getElem?_range hi]; rfl
  rw [e]
  unfold outE
  have a1 := d2m (outs.getD i 0) (by omega : E + 1 ≠ 0)
  have a2 := d2k (outs.getD i 0) (by omega : (0 : Int) < E + 1)
  omega
 obtain ⟨r, s⟩ := b8V (H0 outs E (min outs.length 8)) E hA (min outs.length 8 - 1) (by omega)
 obtain ⟨r1, r2⟩ := r i (by omega)
 refine ⟨r1, r2, ?_⟩
 by_cases h : i = 0
 ·exact .inl h
 ·exact .inr (s i (by omega) (by omega))
theorem d0c (n first least tol fin : Int) (ns ms outs : List Int) (dv : Bool) : Vpb (mkPb n first least tol fin ns ms outs dv) := by
 have f1 := d2m first (by decide : (13 : Int) ≠ 0)
 have f2 := d2k first (by decide : (0 : Int) < 13)
 have hA : mkA first <= 28 := by unfold mkA; omega
 have e1 := d2m fin (by decide : (536870912 : Int) ≠ 0)
 have e2 := d2k fin (by decide : (0 : Int) < 536870912)
 have hF : 0 < 2 ^ mkA first /\ 2 ^ mkA first <= 2 ^ 28 := ⟨Nat.pow_pos (by decide), d2v (by decide) hA⟩
 have hE : 1 <= mkE fin (2 ^ mkA first) /\ mkE fin (2 ^ mkA first) <= 1099511627776 := by unfold mkE; split <;> omega
 have hb := b8U n first least tol fin ns ms outs dv
 have hp := c24 n first least tol fin ns ms outs dv
 refine ⟨d1y n ns dv, a6g _ _, hp.yl, ?_, λi hi => ?_, hE, c69 _ hA, c69 _ (by omega), ?_, ⟨by show (1 : Int) <= 24; decide, by show (24 : Int) <= 10000; decide⟩, c8s tol, c8n tol, ⟨by show p9 4616189618054758400 = true; decide, by show fcmp .gt 4616189618054758400 0 = true; decide⟩, d0d outs _ (by omega)⟩
 ·show (mkO outs (mkE fin (2 ^ mkA first))).length <= 1000
  rw [b7E]; omega
 ·obtain ⟨b1, b2, b3⟩ := hb.box i hi
  obtain ⟨k, hk, _⟩ := hb.y i hi
  have d16 : (0 : Rat) <= 16 := by decide
  exact ⟨(a2D b1.1 b1.2).2 (by grind), V8 b1.1, V8 b1.2, (a2D b1.1 hk.fin).2 (by grind), (a2D hk.fin b1.2).2 (by grind)⟩
 ·show ((2 ^ (mkA first - mkB least) : Nat) : Int) <= ((2 ^ mkA first : Nat) : Int)
  exact Int.ofNat_le.2 (d2v (by decide) (Nat.sub_le _ _))
def b6K : CA := (.seq (.reg [i_X 0 1 (.box (.t 0) 12 51), i_X 1 2 (.alloc [fI 0, fI 0, fI 0, fI 0, .nil, fI 0, fI 0, fI 0, .nil, fl 0, fI 0, fI 0] 44)] [1, 2]) (.seq (.reg [i_P 0 3 1 0, i_P 1 4 3 0, i_A 2 5 4 5, i_P 3 6 1 0, i_P 4 7 6 5, i_L 5 8 7 1, i_P 6 9 1 0, i_P 7 10 9 6, i_L 8 11 10 1, i_P 9 12 1 0, i_P 10 13 12 7, i_L 11 14 13 1, i_X 12 15 (.h (.build [fI 0, fI 0, fI 0, fI 0, .nil, fI 0, fI 0, fI 0] [(0, (5, (.t 5))), (5, (1, (.t 8))), (6, (1, (.t 11))), (7, (1, (.t 14)))])), i_P 13 16 1 8, i_L 14 17 16 1, i_P 15 18 1 9, i_L 16 19 18 1, i_P 17 20 1 10, i_L 18 21 20 1, i_P 19 22 1 11, i_L 20 23 22 1, i_X 21 24 (.h (.build [fI 0, fI 0, fI 0, fI 0, .nil, fI 0, fI 0, fI 0, .nil, fl 0, fI 0, fI 0] [(0, (8, (.t 15))), (8, (1, (.t 17))), (9, (1, (.t 19))), (10, (1, (.t 21))), (11, (1, (.t 23)))])), i_S 22 2 24 12] [2]) .ret))
theorem b15 : f7 Tryz.prog 31 = some ⟨25, [(2, (some (12, true)))], b6K.strip⟩ := by kernel_rfl
def a6y : CA := (.seq (.seq (.reg [i_M 0 11 5, i_M 1 12 0, i_X 2 13 (.h (.len (.t 12))), i_N 3 14 .lss 11 13] [0, 1, 5, 14]) (.cond (.t 14) .skip (.exit 0))) (.seq (.block 1 (.seq (.reg [i_M 0 17 0, i_M 1 18 5, i_I 2 19 17 18 3, i_P 3 20 19 0, i_L 4 21 20 1, i_M 5 22 1, i_M 6 23 5, i_I 7 24 22 23 3, i_P 8 25 24 0, i_L 9 26 25 1, i_N 10 27 .neq 21 26, i_M 11 28 27, g_F 12 29 28 (.h (.mov (.t 0))), g_F 13 30 28 (.h (.mov (.t 5))), g_F 14 31 28 (.h (.idx (.t 29) (.t 30) 3)), g_F 15 32 28 (.h (.padd (.t 31) 1)), g_F 16 33 28 (.load (.t 32) 1 false), g_F 17 34 28 (.h (.mov (.t 1))), g_F 18 35 28 (.h (.mov (.t 5))), g_F 19 36 28 (.h (.idx (.t 34) (.t 35) 3)), g_F 20 37 28 (.h (.padd (.t 36) 1)), g_F 21 38 28 (.load (.t 37) 1 false), g_F 22 39 28 (.callA (kF 58) [(.t 33), (.t 38)]), g_F 23 40 28 (.h (.un .not (.t 39))), i_X 24 41 (.h (.pick (.t 28) (.k (.d (.bool true))) (.t 40))), i_M 25 42 41, g_F 26 43 42 (.h (.mov (.t 0))), g_F 27 44 42 (.h (.mov (.t 5))), g_F 28 45 42 (.h (.idx (.t 43) (.t 44) 3)), g_F 29 46 42 (.h (.padd (.t 45) 2)), g_F 30 47 42 (.load (.t 46) 1 false), g_F 31 48 42 (.h (.mov (.t 1))), g_F 32 49 42 (.h (.mov (.t 5))), g_F 33 50 42 (.h (.idx (.t 48) (.t 49) 3)), g_F 34 51 42 (.h (.padd (.t 50) 2)), g_F 35 52 42 (.load (.t 51) 1 false), g_F 36 53 42 (.callA (kF 59) [(.t 47), (.t 52)]), g_F 37 54 42 (.h (.un .not (.t 53))), i_X 38 55 (.h (.pick (.t 42) (.k (.d (.bool true))) (.t 54)))] [0, 1, 5, 55]) (.cond (.t 55) (.seq (.reg [i_X 0 4 (.h (.mov (.k (.d (.bool false)))))] [4]) .ret) .skip))) (.reg [i_M 0 15 5, i_B 1 16 .add 15 1, i_M 2 5 16] [0, 1, 5])))
def b25 : CA := (.seq (.reg [i_X 0 4 (.h (.mov (.k (.d (.bool false)))))] [0, 1]) (.seq (.seq (.reg [i_M 0 6 0, i_X 1 7 (.h (.len (.t 6))), i_M 2 8 1, i_X 3 9 (.h (.len (.t 8))), i_N 4 10 .neq 7 9] [0, 1, 10]) (.cond (.t 10) (.seq (.reg [i_X 0 4 (.h (.mov (.k (.d (.bool false)))))] [4]) .ret) .skip)) (.seq (.seq (.reg [i_K 0 5 0] [0, 1, 5]) (.block 0 (.loop a6y))) (.seq (.reg [i_X 0 4 (.h (.mov (.k (.d (.bool true)))))] [4]) .ret))))
theorem b0P : f7 Tryz.prog 29 = some ⟨56, [(4, none)], b25.strip⟩ := by kernel_rfl
def b24 : CA := (.seq (.reg [i_X 0 2 (.box (.t 0) 12 44), i_X 1 3 (.box (.t 1) 12 44), i_X 2 4 (.h (.mov (.k (.d (.bool false)))))] [2, 3]) (.seq (.reg [i_P 0 5 2 0, i_A 1 6 5 8, i_P 2 7 3 0, i_A 3 8 7 8, i_X 4 9 (.callA (kF 60) [(.t 6), (.t 8)]), i_M 5 10 9, g_T 6 11 10 (.h (.padd (.t 2) 8)), g_T 7 12 10 (.load (.t 11) 1 false), g_T 8 13 10 (.h (.padd (.t 3) 8)), g_T 9 14 10 (.load (.t 13) 1 false), g_T 10 15 10 (.callA (kF 58) [(.t 12), (.t 14)]), i_X 11 16 (.h (.pick (.t 10) (.t 15) (.k (.d (.bool false))))), i_M 12 17 16, g_T 13 18 17 (.h (.padd (.t 2) 9)), g_T 14 19 17 (.load (.t 18) 1 false), g_T 15 20 17 (.h (.padd (.t 3) 9)), g_T 16 21 17 (.load (.t 20) 1 false), g_T 17 22 17 (.callA (kF 59) [(.t 19), (.t 21)]), i_X 18 23 (.h (.pick (.t 17) (.t 22) (.k (.d (.bool false))))), i_M 19 24 23, g_T 20 25 24 (.h (.padd (.t 2) 10)), g_T 21 26 24 (.load (.t 25) 1 false), g_T 22 27 24 (.h (.padd (.t 3) 10)), g_T 23 28 24 (.load (.t 27) 1 false), g_T 24 29 24 (.h (.ibin .eql (.t 26) (.t 28))), i_X 25 30 (.h (.pick (.t 24) (.t 29) (.k (.d (.bool false))))), i_M 26 31 30, g_T 27 32 31 (.h (.padd (.t 2) 11)), g_T 28 33 31 (.load (.t 32) 1 false), g_T 29 34 31 (.h (.padd (.t 3) 11)), g_T 30 35 31 (.load (.t 34) 1 false), g_T 31 36 31 (.h (.ibin .eql (.t 33) (.t 35))), i_X 32 37 (.h (.pick (.t 31) (.t 36) (.k (.d (.bool false))))), i_M 33 4 37] [4]) .ret))
theorem b0N : f7 Tryz.prog 30 = some ⟨38, [(4, none)], b24.strip⟩ := by kernel_rfl
theorem a92 (r : Rn) : Con Tryz.prog 31 [rnV r] (rnV r) := by
 refine b7 b15 rfl f5 ?_
 refine evx @b6K.eq_1 ?_
 exact f9 rfl (by decide) rfl rfl rfl (by simp) (by simp [ldv, g6, rowD])
structure Rl (r : Rn) : Prop where
 z : Zl r.s.n.z
 last : r.last.length < 2 ^ 62
theorem b5A (r : Rn) (h : Rl r) : Con Tryz.prog 30 [rnV r, rnV r] (fB true) := by
 refine b7 b0N rfl f5 ?_
 refine evx @b24.eq_1 ?_
 refine a0 (b5D r.s h.z) rfl ?_
 refine ev ?_
 refine a0 (a4P r.last h.last) rfl ?_
 refine ev ?_
 refine a0 (a4N r.bound r.bound) rfl ?_
 rw [a63]
 refine ev ?_
 exact g9
theorem y50 {p : Pb} (hx : Pbx p) {i : Nat} (hi : i < p.t.n) : rabs (val (p.y.getD i 0)) <= 50 := by
 obtain ⟨ky, hky, hkb⟩ := hx.y i hi
 rw [hky.val]
 have p16 := Q0 (-3) 3
 rw [show (-3 : Int) + (3 : Nat) = 0 from rfl, D4] at p16
 have e1 : ((2 ^ 3 : Nat) : Rat) = 8 := rfl
 have p0 := q8 (-3)
 have hri := b3E ky
 have : rabs (ky : Rat) <= ((400 : Nat) : Rat) := by rw [hri]; exact d2u.2 hkb
 have q := x6 (ky : Rat)
 have e4 : ((400 : Nat) : Rat) = 400 := rfl
 have m1 := d2p (show (ky : Rat) <= 400 by grind) (d2q p0)
 have m2 := d2p (show -(ky : Rat) <= 400 by grind) (d2q p0)
 exact r7 (by grind) (by grind)
theorem c5k {v : Nd} {a : Int} (hst : ∃ j : Nat, j < 50 /\ v.step = (2 ^ j : Nat)) (h1 : v.pos - v.step < a) (h2 : a <= v.pos) : cw (sP v a) /\ fin (sP v a) /\ rabs (val (sP v a)) <= 1 := by
 obtain ⟨j, hj, he⟩ := hst
 have hp : 2 ^ j <= 2 ^ 49 := d2v (by decide) (by omega)
 have hp0 : 0 < 2 ^ j := Nat.pow_pos (by decide)
 have x := Ix.ofInt (a - v.pos) (by omega)
 have y := Ix.ofInt v.step (by omega)
 have xv := x.val
 have yv := y.val
 rw [D4] at xv yv
 have hy0 : (0 : Rat) < (v.step : Rat) := by exact_mod_cast Rat.intCast_lt_intCast.2 (show (0 : Int) < v.step by omega)
 have hyn : val (FloatKind.nearest .f64 v.step) ≠ 0 := by grind
 have hq : val (FloatKind.nearest .f64 (a - v.pos)) / val (FloatKind.nearest .f64 v.step) * val (FloatKind.nearest .f64 v.step) = val (FloatKind.nearest .f64 (a - v.pos)) := Rat.div_mul_cancel hyn
 generalize val (FloatKind.nearest .f64 (a - v.pos)) / val (FloatKind.nearest .f64 v.step) = q at hq
 have hq' := hq
 rw [xv, yv] at hq'
 have c1 : ((a - v.pos : Int) : Rat) <= 0 := by exact_mod_cast Rat.intCast_le_intCast.2 (show a - v.pos <= 0 by omega)
 have c2 : -(v.step : Rat) <= ((a - v.pos : Int) : Rat) := by
  rw [<- Rat.intCast_neg]
  exact Rat.intCast_le_intCast.2 (show -v.step <= a - v.pos by omega)
 have q1 : rabs q <= 1 := by
  clear xv yv hq hyn x y
  generalize ((a - v.pos : Int) : Rat) = D at c1 c2 hq'
  generalize (v.step : Rat) = S at hy0 c2 hq'
  have le1 : q <= 0 := by
   by_cases h : q <= 0
   ·exact h
   ·have := Rat.mul_pos (show 0 < q by grind) hy0; grind
  have le2 : -1 <= q := by
   by_cases h : -1 <= q
   ·exact h
   ·have := Rat.mul_pos (show 0 < -1 - q by grind) hy0; grind
  exact r7 (by grind) (by grind)
 have b2 := A0 (x := 2) (by rw [j3 (by decide)]; decide)
 rw [j3 (by decide)] at b2
 have Q := c3W x.fin y.fin hyn hq (by grind)
 exact ⟨A9 _ _ _, Q.fin, Q.one q1⟩
theorem c32 : 40 * eps <= 1 := by
 have h1 := G8 (show (-30 : Int) <= 0 by decide)
 rw [D4] at h1
 have h2 := Q0 (-36) 6
 rw [show (-36 : Int) + (6 : Nat) = -30 from rfl] at h2
 have h3 : ((2 ^ 6 : Nat) : Rat) = 64 := rfl
 have h4 : eps = pw (-36) := rfl
 have := q8 (-36)
 grind
theorem c2K {p : Pb} {v : Nd} {b e r : Nat} {y : List Nat} {w : Nat} {R : Bnd × Int} {a : Int} (hx : Pbx p) (hn : 0 < p.t.n) (hrk : Rk (v.order.toNat + 1) p.t.n v.z) (hord : v.order.toNat < 9) (hz : Cw v.z) (h0 : 0 < hW v.step.toNat /\ hW v.step.toNat < 9218868437227405312)
  (hs : PSpec p.t p.box v.z (hW v.step.toNat) y w e r R) (hst : ∃ j : Nat, j < 50 /\ v.step = (2 ^ j : Nat)) (h1 : v.pos - v.step < a) (h2 : a <= v.pos) (hb : Pw b) (hb2 : b < 9218868437227405312) (hb3 : val b <= 100) :
  (outP v p.t.n b a).y.length = p.t.n /\ fin (outP v p.t.n b a).bound /\ val b <= val (outP v p.t.n b a).bound /\ val (outP v p.t.n b a).bound <= val b + 35 * eps := by
 obtain ⟨s1, s2, s3⟩ := c5k hst h1 h2
 have hl := hrk.1
 have ep := a67
 have es := c32
 have hb0 : 0 <= val b := by rw [Q6 hb2]; exact s6 _
 have each : ∀ i, i < p.t.n -> Pw (outB v p.t.n (sP v a) b i) /\ fin (outB v p.t.n (sP v a) b i) /\ val b <= val (outB v p.t.n (sP v a) b i) /\ val (outB v p.t.n (sP v a) b i) <= val b + 35 * eps := by
  intro i hi
  obtain ⟨x1, x2, x3⟩ := hx.box i hi
  have cs := c09 hz (by omega) hi x1 x2 x3 (y50 hx hi) hs h0
  have hc := λk => c7x hz i k
  have hcl := V0 v.z i
  obtain ⟨o1, o2, o3⟩ := c2R hc (λj => (cs j).1) (λj => (cs j).2) s1 s2 s3 (by omega)
  have eo : outB v p.t.n (sP v a) b i = up (fop .add b (Q4 (z4 (valC (colT v.z i) (sP v a)) (pt (N9 (colT v.z i) (sP v a) ((colT v.z i).length - 1)))))) := by
   unfold outB offP
   rw [c87 v.z p.t.n (sP v a) i hi (by omega), hcl]
  rw [eo]
  generalize hM : Q4 (z4 (valC (colT v.z i) (sP v a)) (pt (N9 (colT v.z i) (sP v a) ((colT v.z i).length - 1)))) = M at o1 o2 o3
  have hMP : Pw M := by rw [<- hM]; exact a90 (by rw [hM]; exact V8 o1)
  have sm := (a2z (L6 hb2) o1 (A0 (r7 (by grind) (by grind)))).small (show rabs (val b + val M) <= 4000 from r7 (by grind) (by grind))
  have uf := (a2z (L6 hb2) o1 (A0 (r7 (by grind) (by grind)))).up.1
  exact ⟨(Z3 (b0B hb hMP)).1, uf, by grind, by grind⟩
 refine ⟨k8 _ _, ?_⟩
 show fin (A5 _ _) /\ val b <= val (A5 _ _) /\ val (A5 _ _) <= _
 obtain ⟨i, hi, e⟩ := a1H (outB v p.t.n (sP v a) b) (p.t.n - 1)
 rw [e]
 obtain ⟨_, e2, e3, e4⟩ := each i (by omega)
 exact ⟨e2, e3, e4⟩
def ou0 : Ou := ⟨0, [], 0⟩
structure Ook (p : Pb) (o : Ou) (i : Nat) : Prop where
 pos : o.pos = p.outs.getD i 0
 y : o.y.length = p.t.n
 fin : fin o.bound
 lo : 0 <= val o.bound
 hi : val o.bound <= val p.cap + 35 * eps
structure GI (p : Pb) (k : Nat) (x : Rn × List Ou × Int) : Prop where
 r : RInv p k x.1
 nx : x.1.next = x.2.1.length
 ou : ∀ i, i < x.2.1.length -> Ook p (x.2.1.getD i ou0) i
 ahead : ∀ i, x.1.next <= i -> i < p.outs.length -> x.1.s.n.pos < p.outs.getD i 0
 bl : x.1.bound < 9218868437227405312
 bc : val x.1.bound <= val p.cap
 att : x.1.att <= k
 e : 0 <= x.2.2 /\ x.2.2 <= 8 /\ x.2.2 ≠ 1
 now : ∀ i, i < x.2.1.length -> val (x.2.1.getD i ou0).bound <= val x.1.bound + 35 * eps
 ord : ∀ i j, i < j -> j < x.2.1.length -> val (x.2.1.getD i ou0).bound <= val (x.2.1.getD j ou0).bound + 35 * eps
structure Pst (p : Pb) : Prop where
 k2 : Pk2 p
 v : Vpb p
 x : Pbx p
 capl : p.cap < 9218868437227405312
 cap : val p.cap <= 64
theorem Pst.cap0 {p : Pb} (h : Pst p) : 0 <= val p.cap := by rw [Q6 h.capl]; exact s6 _
theorem a0d {l l2 : List Ou} {i : Nat} : (l ++ l2).getD i ou0 = if i < l.length then l.getD i ou0 else l2.getD (i - l.length) ou0 := by
 rw [d2d]
 by_cases h : i < l.length
 ·rw [if_pos h, d2g h, <- d2d]
 ·rw [if_neg h, d2j (by omega), <- d2d]
theorem b8v (p : Pb) (v : Nd) (b k i : Nat) (hi : i < (A3 p v b k).length) : (A3 p v b k).getD i ou0 = outP v p.t.n b (p.outs.getD (k + i) 0) := by
 have h1 := b48 p v b k i hi
 have h2 : ((A3 p v b k).take (i + 1))[i]? = some (outP v p.t.n b (p.outs.getD (k + i) 0)) := by
  rw [h1, d2j (by rw [List.length_take]; omega), List.length_take, Nat.min_eq_left (by omega), Nat.sub_self]; rfl
 rw [List.getElem?_take, if_pos (by omega)] at h2
 rw [d2d, h2]; rfl
theorem b0m (p : Pb) (r : Rn) (i : Nat) (hi : i < (t7 p r).length) : (t7 p r).getD i ou0 = ⟨0, p.y, 0⟩ := by
 have h1 := b2J p r i hi
 have h2 : ((t7 p r).take (i + 1))[i]? = some ⟨0, p.y, 0⟩ := by
  rw [h1, d2j (by rw [List.length_take]; omega), List.length_take, Nat.min_eq_left (by omega), Nat.sub_self]; rfl
 rw [List.getElem?_take, if_pos (by omega)] at h2
 rw [d2d, h2]; rfl
theorem c9X {p : Pb} (h : Vpb p) {i j : Nat} (hij : i <= j) (hj : j < p.outs.length) : p.outs.getD i 0 <= p.outs.getD j 0 := by
 obtain ⟨d, rfl⟩ : ∃ d, j = i + d := ⟨j - i, by omega⟩
 clear hij
 induction d with
 | zero => exact Int.le_refl _
 | succ d ih =>
  have h1 := ih (by omega)
  have h2 := (h.outs (i + (d + 1)) hj).2.2
  rcases h2 with h2 | h2
  ·omega
  ·rw [show i + (d + 1) - 1 = i + d by omega] at h2
   omega
theorem c1q {p : Pb} (h : Vpb p) (v : Nd) (b k : Nat) : ∀ i, k + (A3 p v b k).length <= i -> i < p.outs.length -> v.pos < p.outs.getD i 0 := by
 intro i h1 h2
 by_cases hc : v.pos < p.outs.getD (k + (A3 p v b k).length) 0
 ·have := c9X h h1 h2
  omega
 ·have := (b3s p v b k (A3 p v b k).length (d2t _)).2 ⟨by omega, by omega⟩
  omega
structure Took (p : Pb) (r : Rn) : Prop where
 np : (tryP p r.s).n.pos = r.s.n.pos + r.s.n.step
 ns : (tryP p r.s).n.step = r.s.n.step
 sp : (tryP p r.s).s.n.pos = r.s.n.pos + r.s.n.step
 st : ∃ j : Nat, j < 50 /\ (tryP p r.s).n.step = (2 ^ j : Nat)
 hw : 0 < hW (tryP p r.s).n.step.toNat /\ hW (tryP p r.s).n.step.toNat < 9218868437227405312
 ok : Bok p (tryP p r.s).n r.last r.bound
 cw : Cw (tryP p r.s).n.z
 sp0 : 1 <= r.s.n.step
theorem c1N {p : Pb} {k : Nat} {x : Sta} (hp : Pk2 p) (hi : Inv p k x) (ht : (tryP p x).taken = true) : Cw (tryP p x).n.z := by
 rcases a3C hp.pk hi with ⟨_, sp⟩ | ⟨h, _⟩
 ·obtain ⟨d, kk, hd, hs, hz⟩ := sp.sol
  rw [hz]; exact a6b (a5H hi.ok.n.cw _ _) _ _ _ _
 ·rw [h] at ht; cases ht
theorem took {p : Pb} {k : Nat} {r : Rn} (h : Pk2 p) (hr : RInv p k r) (ht : (tryP p r.s).taken = true) : Took p r := by
 have hbk := a9z h hr.s ht r.last r.bound hr.last hr.bound
 have hc := c1N h hr.s ht
 rcases a3C h.pk hr.s with ⟨_, sp⟩ | ⟨e, _⟩
 ·have hst := hbk.step
  obtain ⟨j, hj, he⟩ := hst
  have hlo := hr.s.lo
  have hhi := hr.s.hi
  have hl1 := h.pk.ok.least
  have hfin := h.pk.fin
  obtain ⟨a, ha, hfa⟩ := h.pk.fst
  have pa : 2 ^ a <= 2 ^ 28 := d2v (by decide) ha
  have hns := sp.nstep
  have hj2 : j < 50 := by
   have h1 : 2 ^ j < 2 ^ 50 := by
    have : r.s.n.step <= 4294967296 := by omega
    omega
   exact (Nat.pow_lt_pow_iff_right (by decide)).1 h1
  exact ⟨sp.npos, hns, sp.pos, ⟨j, hj2, he⟩, by rw [he, Int.toNat_natCast]; exact c8T j hj, hbk, hc, by omega⟩
 ·rw [e] at ht; cases ht
theorem d0C {p : Pb} (h : Pst p) {b : Nat} (hb : b < 9218868437227405312) (hg : fcmp .gt b p.cap = false) : val b <= val p.cap := by
 have h1 : ¬ fcmp .gt b p.cap = true := by rw [hg]; simp
 rw [K9 (L6 hb) (L6 h.capl)] at h1
 grind
theorem b69 {p : Pb} {k : Nat} {x : Rn × List Ou × Int} (h : Pst p) (hx : GI p k x) (hk : k < 100000) : GI p (k + 1) ((B2 p x.1).1, x.2.1 ++ (B2 p x.1).2.1, (B2 p x.1).2.2) := by
 obtain ⟨r, l, e⟩ := x
 obtain ⟨hr, hnx, hou, hah, hbl, hbc, hat, he, hno, hor⟩ := hx
 simp only at hr hnx hou hah hbl hbc hat he hno hor
 have hri := b5b h.k2 hr hk
 rcases G7 p r with ⟨_, e1⟩ | ⟨_, h2, e1⟩ | ⟨_, _, ht, herr, e1⟩ | ⟨_, _, ht, hB, hg, e1⟩
 ·rw [e1] at hri
  simp only
  rw [e1, List.append_nil]
  exact ⟨hri, hnx, hou, hah, hbl, hbc, by show r.att <= k + 1; omega, ⟨by show (0 : Int) <= 6; decide, by show (6 : Int) <= 8; decide, by show (6 : Int) ≠ 1; decide⟩, hno, hor⟩
 ·rw [e1] at hri
  simp only
  rw [e1, List.append_nil]
  rcases a3C h.k2.pk hr.s with ⟨ht, sp⟩ | ⟨ht, sp⟩
  ·rcases h2 with h2 | h2
   ·exact absurd sp.e h2
   ·rw [ht] at h2; cases h2
  ·have hp := sp.pos
   refine ⟨hri, hnx, hou, λi h1 h3 => ?_, hbl, hbc, by show r.att + 1 <= k + 1; omega, ?_, hno, hor⟩
   ·show (tryP p r.s).s.n.pos < _
    rw [hp]; exact hah i h1 h3
   ·show 0 <= (tryP p r.s).e /\ (tryP p r.s).e <= 8 /\ (tryP p r.s).e ≠ 1
    by_cases h0 : (tryP p r.s).e = 0
    ·rw [h0]; decide
    ·have := (sp.stay h0).2.2
     omega
 ·rw [e1] at hri
  simp only
  rw [e1, List.append_nil]
  refine ⟨hri, hnx, hou, hah, hbl, hbc, by show r.att + 1 <= k + 1; omega, ?_, hno, hor⟩
  show 0 <= errR p r /\ errR p r <= 8 /\ errR p r ≠ 1
  have hok := c84 p.t p.box (tryP p r.s).n.z (hW (tryP p r.s).n.step.toNat) r.last r.bound
  unfold errR
  split
  ·decide
  ·rcases hok with ⟨o1, _⟩ | ⟨_, o2⟩
   ·have : (bdR p r).2 = 0 := o1
    omega
   ·have : (bdR p r).2 = 3 \/ (bdR p r).2 = 7 := o2
    omega
 ·have tk := took h.k2 hr ht
  obtain ⟨ee, rr, ps⟩ := b6v p.t p.box (tryP p r.s).n.z (hW (tryP p r.s).n.step.toNat) r.last r.bound hr.bound tk.hw hB
  have hn := h.k2.pk.ok.n
  obtain ⟨b1, b2, b3⟩ := h.x.box 0 hn
  have B := c7a ⟨b1, by grind⟩ hn hr.bound ps tk.hw
  have hbB : (bdR p r).1.bound < 9218868437227405312 := B.bl
  have hvb := d0C h hbB hg
  have hcap := h.cap
  have hbP : Pw (bdR p r).1.bound := Nat.le_of_lt hbB
  have hwb : val r.bound <= val (bdR p r).1.bound := by
   have q1 := B.lo
   have q2 : val ee <= val (bdR p r).1.bound := B.be
   have q3 := B.j0
   have q4 := B.x0
   grind
  have hb0 : 0 <= val (bdR p r).1.bound := by rw [Q6 hbB]; exact s6 _
  have ep := a67
  have new : ∀ i, l.length <= i -> i < l.length + (A3 p (tryP p r.s).n (bdR p r).1.bound r.next).length -> (A3 p (tryP p r.s).n (bdR p r).1.bound r.next).getD (i - l.length) ou0 = outP (tryP p r.s).n p.t.n (bdR p r).1.bound (p.outs.getD i 0) /\
    (outP (tryP p r.s).n p.t.n (bdR p r).1.bound (p.outs.getD i 0)).y.length = p.t.n /\ fin (outP (tryP p r.s).n p.t.n (bdR p r).1.bound (p.outs.getD i 0)).bound /\ val (bdR p r).1.bound <= val (outP (tryP p r.s).n p.t.n (bdR p r).1.bound (p.outs.getD i 0)).bound /\
    val (outP (tryP p r.s).n p.t.n (bdR p r).1.bound (p.outs.getD i 0)).bound <= val (bdR p r).1.bound + 35 * eps := by
   intro i h3 h4
   have hi2 : i - l.length < (A3 p (tryP p r.s).n (bdR p r).1.bound r.next).length := by omega
   have hg := b8v _ _ _ _ _ hi2
   have hta := (b3s p (tryP p r.s).n (bdR p r).1.bound r.next (i - l.length) (by omega)).1 hi2
   rw [hnx, show l.length + (i - l.length) = i by omega] at hta
   rw [hnx, show l.length + (i - l.length) = i by omega, <- hnx] at hg
   have ha := hah i (by omega) hta.1
   have hnp := tk.np
   have hns := tk.ns
   obtain ⟨q1, q2, q3, q4⟩ := c2K h.x hn tk.ok.rk tk.ok.ord tk.cw tk.hw ps tk.st (a := p.outs.getD i 0) (by omega) hta.2 hbP hbB (by grind)
   exact ⟨by rw [<- hnx]; exact hg, q1, q2, q3, q4⟩
  rw [e1] at hri
  simp only
  rw [e1]
  refine ⟨hri, ?_, λi hi => ?_, ?_, hbB, hvb, by show r.att + 1 <= k + 1; omega, ⟨by show (0 : Int) <= 0; decide, by show (0 : Int) <= 8; decide, by show (0 : Int) ≠ 1; decide⟩, λi hi => ?_, λi j hij hj => ?_⟩
  ·show r.next + (A3 _ _ _ _).length = (l ++ A3 _ _ _ _).length
   rw [List.length_append, hnx]
  ·simp only at hi ⊢
   rw [List.length_append] at hi
   rw [a0d]
   split
   ·rename_i h3; exact hou i h3
   ·rename_i h3
    obtain ⟨q0, q1, q2, q3, q4⟩ := new i (by omega) hi
    rw [q0]
    exact ⟨rfl, q1, q2, by grind, by grind⟩
  ·intro i h1 h2
   have := c1q h.v (tryP p r.s).n (bdR p r).1.bound r.next i h1 h2
   have hsp := tk.sp
   have hnp := tk.np
   show (tryP p r.s).s.n.pos < _
   omega
  ·simp only at hi ⊢
   rw [List.length_append] at hi
   show _ <= val (bdR p r).1.bound + 35 * eps
   rw [a0d]
   split
   ·rename_i h3
    have := hno i h3
    grind
   ·rename_i h3
    obtain ⟨q0, q1, q2, q3, q4⟩ := new i (by omega) hi
    rw [q0]; exact q4
  ·simp only at hj ⊢
   rw [List.length_append] at hj
   rw [a0d, a0d]
   by_cases h4 : j < l.length
   ·rw [if_pos h4, if_pos (by omega)]
    exact hor i j hij h4
   ·obtain ⟨q0, q1, q2, q3, q4⟩ := new j (by omega) hj
    rw [if_neg h4, q0]
    split
    ·rename_i h3
     have := hno i h3
     grind
    ·rename_i h3
     obtain ⟨u0, u1, u2, u3, u4⟩ := new i (by omega) (by omega)
     rw [u0]
     grind
theorem b4B {p : Pb} (h : Pst p) : GI p 0 (⟨a70 p, p.y, 0, 0, (t7 p (p7 p)).length⟩, t7 p (p7 p), 0) := by
 have hr := b2T h.k2
 have hat := λi hi => b9c p (p7 p) i hi
 have hpos0 : (p7 p).s.n.pos = 0 := rfl
 have hnx0 : (p7 p).next = 0 := rfl
 simp only [hpos0, hnx0, Nat.zero_add] at hat
 have hfl := b0k p (p7 p)
 have hg := λi hi => b0m p (p7 p) i hi
 generalize t7 p (p7 p) = T0 at hat hfl hg ⊢
 have ep := a67
 have hc := h.cap0
 refine ⟨⟨hr.s, hr.last, hr.bound, hfl⟩, rfl, λi hi => ?_, λi h1 h2 => ?_, by show 0 < 9218868437227405312; decide, by show val 0 <= _; rw [r9]; exact hc, d2t _, ⟨by show (0 : Int) <= 0; decide, by show (0 : Int) <= 8; decide, by show (0 : Int) ≠ 1; decide⟩, λi hi => ?_, λi j hij hj => ?_⟩
 ·have hi : i < T0.length := hi
  show Ook p (T0.getD i ou0) i
  rw [hg i hi]
  have := (hat i (by omega)).1 hi
  exact ⟨this.2.2.symm, h.v.yl, t8, by show 0 <= val 0; rw [r9]; exact Rat.le_refl, by show val 0 <= _; rw [r9]; grind⟩
 ·have h1 : T0.length <= i := h1
  show (0 : Int) < _
  have h3 := c9X h.v h1 h2
  have h4 := (h.v.outs T0.length (by omega)).1
  by_cases h5 : p.outs.getD T0.length 0 = 0
  ·have := (hat T0.length (d2t _)).2 ⟨trivial, by omega, h5⟩
   omega
  ·omega
 ·have hi : i < T0.length := hi
  show val (T0.getD i ou0).bound <= val 0 + 35 * eps
  rw [hg i hi]
  show val 0 <= _
  grind
 ·have hj : j < T0.length := hj
  show val (T0.getD i ou0).bound <= val (T0.getD j ou0).bound + 35 * eps
  rw [hg i (by omega), hg j hj]
  show val 0 <= val 0 + _
  grind
theorem d1K {p : Pb} (h : Pst p) : ∀ c x k, GI p k x -> k + c < 100000 -> ∃ k', k' <= k + c /\ GI p k' (goK p c x) := by
 intro c
 induction c with
 | zero => intro x k hx _; exact ⟨k, d2t _, hx⟩
 | succ c ih =>
  intro x k hx hk
  unfold goK
  split
  ·obtain ⟨k', h1, h2⟩ := ih _ (k + 1) (b69 h hx (by omega)) (by omega)
   exact ⟨k', by omega, h2⟩
  ·exact ⟨k, by omega, hx⟩
theorem b0b (p : Pb) (m : Nat) : goP p (p7 p) m = goK p m (⟨a70 p, p.y, 0, 0, (t7 p (p7 p)).length⟩, t7 p (p7 p), 0) := by
 unfold goP
 have : (⟨(p7 p).s, (p7 p).last, (p7 p).bound, (p7 p).att, (p7 p).next + (t7 p (p7 p)).length⟩ : Rn) = ⟨a70 p, p.y, 0, 0, (t7 p (p7 p)).length⟩ := by
  unfold p7; simp
 rw [this]
structure SolS (p : Pb) (x : Rn × List Ou × Int) : Prop where
 len : x.2.1.length <= p.outs.length
 nx : x.1.next = x.2.1.length
 all : x.2.2 = 0 -> x.2.1.length = p.outs.length
 ou : ∀ i, i < x.2.1.length -> Ook p (x.2.1.getD i ou0) i
 att : (x.1.att : Int) <= p.most
 bl : x.1.bound < 9218868437227405312
 bc : val x.1.bound <= val p.cap
 at' : x.2.2 ≠ 0 \/ p.fin <= x.1.s.n.pos
 e : 0 <= x.2.2 /\ x.2.2 <= 8 /\ x.2.2 ≠ 1
 ord : ∀ i j, i < j -> j < x.2.1.length -> val (x.2.1.getD i ou0).bound <= val (x.2.1.getD j ou0).bound + 35 * eps
 l : Rl x.1
theorem c14 {p : Pb} (h : Pst p) : SolS p (a1W p) := by
 have hm := h.v.most
 obtain ⟨k, hk, g⟩ := d1K h p.most.toNat _ 0 (b4B h) (by omega)
 rw [<- b0b] at g
 have e : a1W p = ((goP p (p7 p) p.most.toNat).1, (goP p (p7 p) p.most.toNat).2.1, if (goP p (p7 p) p.most.toNat).2.2 = 0 /\ (goP p (p7 p) p.most.toNat).1.s.n.pos < p.fin then 6 else (goP p (p7 p) p.most.toNat).2.2) := rfl
 rw [e]
 generalize goP p (p7 p) p.most.toNat = y at g
 obtain ⟨r, l, e3⟩ := y
 obtain ⟨hr, hnx, hou, hah, hbl, hbc, hat, he, hno, hor⟩ := g
 simp only at hr hnx hou hah hbl hbc hat he hno hor ⊢
 have hnl := hr.next
 have hn3 := h.k2.n
 have hlast := hr.last
 refine ⟨by show l.length <= _; omega, hnx, λh0 => ?_, hou, by show (r.att : Int) <= _; omega, hbl, hbc, ?_, ?_, hor, ⟨d1Y hr.s.ok.n.rk (by have := hr.s.ok.n.m; omega) (by omega), by show r.last.length < _; omega⟩⟩
 ·have h0 : (if e3 = 0 /\ r.s.n.pos < p.fin then (6 : Int) else e3) = 0 := h0
  show l.length = p.outs.length
  by_cases hc : e3 = 0 /\ r.s.n.pos < p.fin
  ·rw [if_pos hc] at h0; cases h0
  ·rw [if_neg hc] at h0
   by_cases hl : l.length < p.outs.length
   ·have h1 := hah l.length (by omega) hl
    have h2 := (h.v.outs l.length hl).2.1
    exact absurd ⟨h0, by omega⟩ hc
   ·omega
 ·show (if e3 = 0 /\ r.s.n.pos < p.fin then (6 : Int) else e3) ≠ 0 \/ p.fin <= r.s.n.pos
  by_cases hc : e3 = 0 /\ r.s.n.pos < p.fin
  ·rw [if_pos hc]; exact .inl (by decide)
  ·rw [if_neg hc]
   by_cases h0 : e3 = 0
   ·right
    by_cases hp : r.s.n.pos < p.fin
    ·exact absurd ⟨h0, hp⟩ hc
    ·omega
   ·exact .inl h0
 ·have key : ∀ z : Int, (z = 6 \/ z = e3) -> 0 <= z /\ z <= 8 /\ z ≠ 1 := λz hz => by
   rcases hz with rfl | rfl
   ·decide
   ·exact he
  refine key _ ?_
  show (if e3 = 0 /\ r.s.n.pos < p.fin then (6 : Int) else e3) = 6 \/ _
  split
  ·exact .inl rfl
  ·exact .inr rfl
theorem ix_4z : Ix 0 4616189618054758400 4 := by
 refine ⟨ix_4.fin, ?_⟩
 rw [ix_4.val]
 have := Q0 0 2
 rw [show (0 : Int) + (2 : Nat) = 2 from rfl, D4] at this
 have e : ((2 ^ 2 : Nat) : Rat) = 4 := rfl
 rw [D4]
 have e1 : ((1 : Int) : Rat) = 1 := rfl
 have e4 : ((4 : Int) : Rat) = 4 := rfl
 grind
theorem c8p (n first least tol fin : Int) (ns ms outs : List Int) (dv : Bool) : Pst (mkPb n first least tol fin ns ms outs dv) :=
 ⟨c5N n first least tol fin ns ms outs dv, d0c n first least tol fin ns ms outs dv, b8U n first least tol fin ns ms outs dv, by show 4616189618054758400 < 9218868437227405312; decide, by
  show val 4616189618054758400 <= 64
  rw [ix_4z.val, D4]
  have e4 : ((4 : Int) : Rat) = 4 := rfl
  grind⟩
def c6 : Nat := 4517329193108106637
theorem d0E (p : Pb) (c : Nat) (x : Rn × List Ou × Int) : goK p (c + 1) x = if x.2.2 = 0 /\ x.1.s.n.pos < p.fin then goK p c ((B2 p x.1).1, x.2.1 ++ (B2 p x.1).2.1, (B2 p x.1).2.2) else x := rfl
theorem c1W {p : Pb} {k : Nat} {r : Rn} (h : Pst p) (hr : RInv p k r) (hbl : r.bound < 9218868437227405312) : r.s.n.pos <= (B2 p r).1.s.n.pos /\ val r.bound <= val (B2 p r).1.bound := by
 rcases G7 p r with ⟨_, e1⟩ | ⟨_, h2, e1⟩ | ⟨_, _, ht, herr, e1⟩ | ⟨_, _, ht, hB, hg, e1⟩
 ·rw [e1]; exact ⟨Int.le_refl _, Rat.le_refl⟩
 ·rw [e1]
  refine ⟨?_, Rat.le_refl⟩
  show r.s.n.pos <= (tryP p r.s).s.n.pos
  rcases a3C h.k2.pk hr.s with ⟨ht, sp⟩ | ⟨ht, sp⟩
  ·rcases h2 with h2 | h2
   ·exact absurd sp.e h2
   ·rw [ht] at h2; cases h2
  ·rw [sp.pos]; exact Int.le_refl _
 ·rw [e1]; exact ⟨Int.le_refl _, Rat.le_refl⟩
 ·rw [e1]
  have tk := took h.k2 hr ht
  obtain ⟨ee, rr, ps⟩ := b6v p.t p.box (tryP p r.s).n.z (hW (tryP p r.s).n.step.toNat) r.last r.bound hr.bound tk.hw hB
  have hn := h.k2.pk.ok.n
  obtain ⟨b1, b2, b3⟩ := h.x.box 0 hn
  have B := c7a ⟨b1, by grind⟩ hn hr.bound ps tk.hw
  have q1 := B.lo
  have q2 : val ee <= val (bdR p r).1.bound := B.be
  have q3 := B.j0
  have q4 := B.x0
  refine ⟨?_, ?_⟩
  ·show r.s.n.pos <= (tryP p r.s).s.n.pos
   rw [tk.sp]; have := tk.sp0; omega
  ·show val r.bound <= val (bdR p r).1.bound
   grind
def po (p : Pb) (o : List Int) : Pb := ⟨p.t, p.box, p.y, p.fin, p.first, p.least, p.atol, p.rtol, p.cap, p.most, o⟩
theorem c77 {p : Pb} (h : Pst p) (o : List Int) (hl : o.length <= 1000) (ho : ∀ i, i < o.length -> 0 <= o.getD i 0 /\ o.getD i 0 <= p.fin /\ (i = 0 \/ o.getD (i - 1) 0 <= o.getD i 0)) : Pst (po p o) := by
 obtain ⟨⟨⟨⟨a1, a2, a3⟩, a4, a5, a6, a7, a8, a9⟩, b1, b2, b3⟩, ⟨c1, c2, c3, c4, c5, c6, c7, c8, c9, d0, d1, d2, d3, d4⟩, ⟨e1, e2⟩, e3, e4⟩ := h
 exact ⟨⟨⟨⟨a1, a2, a3⟩, a4, a5, a6, a7, a8, a9⟩, b1, b2, b3⟩, ⟨c1, c2, c3, hl, c5, c6, c7, c8, c9, d0, d1, d2, d3, ho⟩, ⟨e1, e2⟩, e3, e4⟩
def wn (r : Rn) (n : Nat) : Rn := ⟨r.s, r.last, r.bound, r.att, n⟩
structure Two (x y : Rn × List Ou × Int) : Prop where
 r : ∃ n, y.1 = wn x.1 n
 e : y.2.2 = x.2.2
 pa : ∀ i, i < x.2.1.length -> (x.2.1.getD i ou0).pos <= x.1.s.n.pos
 pb : ∀ i, i < y.2.1.length -> (y.2.1.getD i ou0).pos <= x.1.s.n.pos
 eq : ∀ i j, i < x.2.1.length -> j < y.2.1.length -> (x.2.1.getD i ou0).pos = (y.2.1.getD j ou0).pos -> x.2.1.getD i ou0 = y.2.1.getD j ou0
theorem b62 {x y : Rn × List Ou × Int} {r2 : Rn} {n : Nat} {e : Int} (t : Two x y) (hp : x.1.s.n.pos <= r2.s.n.pos) : Two (r2, x.2.1 ++ [], e) (wn r2 n, y.2.1 ++ [], e) := by
 obtain ⟨_, _, t3, t4, t5⟩ := t
 rw [List.append_nil, List.append_nil]
 exact ⟨⟨n, rfl⟩, rfl, λi hi => Int.le_trans (t3 i hi) hp, λi hi => Int.le_trans (t4 i hi) hp, t5⟩
theorem c1L {p : Pb} {k : Nat} {r : Rn} {l : List Ou} {e : Int} (h : Pst p) (g : GI p k (r, l, e)) (ht : (tryP p r.s).taken = true) (b : Nat) : ∀ i, i < (A3 p (tryP p r.s).n b r.next).length -> ∃ a, r.s.n.pos < a /\ a <= (tryP p r.s).n.pos /\ (A3 p (tryP p r.s).n b r.next).getD i ou0 = outP (tryP p r.s).n p.t.n b a := by
 intro i hi
 have hta := (b3s p (tryP p r.s).n b r.next i (by omega)).1 hi
 exact ⟨p.outs.getD (r.next + i) 0, g.ahead _ (by show r.next <= _; omega) hta.1, hta.2, b8v _ _ _ _ _ hi⟩
theorem c4Z {p : Pb} {o : List Int} {k : Nat} {x y : Rn × List Ou × Int} (h : Pst p) (h' : Pst (po p o)) (g : GI p k x) (g' : GI (po p o) k y) (t : Two x y) :
  Two ((B2 p x.1).1, x.2.1 ++ (B2 p x.1).2.1, (B2 p x.1).2.2) ((B2 (po p o) y.1).1, y.2.1 ++ (B2 (po p o) y.1).2.1, (B2 (po p o) y.1).2.2) := by
 have sm := (c1W h g.r g.bl).1
 obtain ⟨r, l, e⟩ := x
 obtain ⟨r', l', e'⟩ := y
 obtain ⟨n, hn⟩ := t.r
 have hn : r' = wn r n := hn
 subst hn
 rcases G7 p r with ⟨c1, e1⟩ | ⟨c1, c2, e1⟩ | ⟨c1, c2, c3, c4, e1⟩ | ⟨c1, c2, c3, c4, c5, e1⟩
 ·have e2 : B2 (po p o) (wn r n) = (wn r n, [], 6) := by unfold B2; exact if_pos c1
  simp only
  rw [e1, e2]
  exact b62 t (Int.le_refl _)
 ·have e2 : B2 (po p o) (wn r n) = (wn ⟨(tryP p r.s).s, r.last, r.bound, r.att + 1, r.next⟩ n, [], (tryP p r.s).e) := by
   unfold B2
   exact (if_neg (by show ¬ p.most <= (r.att : Int); omega)).trans (if_pos c2)
  simp only at sm ⊢
  rw [e1] at sm
  rw [e1, e2]
  exact b62 t sm
 ·have e2 : B2 (po p o) (wn r n) = (wn ⟨r.s, r.last, r.bound, r.att + 1, r.next⟩ n, [], errR p r) := by
   unfold B2
   refine (if_neg (by show ¬ p.most <= (r.att : Int); omega)).trans ((if_neg ?_).trans (if_pos c4))
   show ¬ ((tryP p r.s).e ≠ 0 \/ (tryP p r.s).taken = false)
   rw [c2, c3]; simp
  simp only at sm ⊢
  rw [e1] at sm
  rw [e1, e2]
  exact b62 t sm
 ·have c6 : ¬ errR p r ≠ 0 := by unfold errR; rw [c4, c5]; simp
  have e2 : B2 (po p o) (wn r n) = (c1E (po p o) (wn r n), A3 (po p o) (tryP p r.s).n (bdR p r).1.bound n, 0) := by
   unfold B2
   refine (if_neg (by show ¬ p.most <= (r.att : Int); omega)).trans ((if_neg ?_).trans (if_neg c6))
   show ¬ ((tryP p r.s).e ≠ 0 \/ (tryP p r.s).taken = false)
   rw [c2, c3]; simp
  have i1 := c1L h g c3 (bdR p r).1.bound
  have i2 : ∀ i, i < (A3 (po p o) (tryP p r.s).n (bdR p r).1.bound n).length -> ∃ a, r.s.n.pos < a /\ a <= (tryP p r.s).n.pos /\ (A3 (po p o) (tryP p r.s).n (bdR p r).1.bound n).getD i ou0 = outP (tryP p r.s).n p.t.n (bdR p r).1.bound a := c1L h' g' c3 (bdR p r).1.bound
  have tk := took h.k2 g.r c3
  have hnp := tk.np
  have hsp := tk.sp
  obtain ⟨_, _, t3, t4, t5⟩ := t
  simp only at t3 t4 t5 sm ⊢
  rw [e1] at sm
  rw [e1, e2]
  have hpos : (c1E p r).s.n.pos = (tryP p r.s).n.pos := by
   show (tryP p r.s).s.n.pos = _
   rw [hsp, hnp]
  refine ⟨⟨_, rfl⟩, rfl, λi hi => ?_, λi hi => ?_, λi j hi hj hij => ?_⟩
  ·simp only at hi sm ⊢
   rw [List.length_append] at hi
   rw [a0d]
   split
   ·rename_i q; exact Int.le_trans (t3 i q) sm
   ·obtain ⟨a, _, a2, a3⟩ := i1 (i - l.length) (by omega)
    rw [a3, hpos]; exact a2
  ·simp only at hi sm ⊢
   rw [List.length_append] at hi
   rw [a0d]
   split
   ·rename_i q; exact Int.le_trans (t4 i q) sm
   ·obtain ⟨a, _, a2, a3⟩ := i2 (i - l'.length) (by omega)
    rw [a3, hpos]; exact a2
  ·simp only at hi hj hij ⊢
   rw [List.length_append] at hi hj
   rw [a0d, a0d] at hij ⊢
   by_cases q1 : i < l.length
   ·rw [if_pos q1] at hij ⊢
    by_cases q2 : j < l'.length
    ·rw [if_pos q2] at hij ⊢
     exact t5 i j q1 q2 hij
    ·rw [if_neg q2] at hij ⊢
     obtain ⟨a, a1, a2, a3⟩ := i2 (j - l'.length) (by omega)
     have := t3 i q1
     rw [a3] at hij
     have hij : (l.getD i ou0).pos = a := hij
     omega
   ·rw [if_neg q1] at hij ⊢
    obtain ⟨a, a1, a2, a3⟩ := i1 (i - l.length) (by omega)
    by_cases q2 : j < l'.length
    ·rw [if_pos q2] at hij ⊢
     have := t4 j q2
     rw [a3] at hij
     have hij : a = (l'.getD j ou0).pos := hij
     omega
    ·rw [if_neg q2] at hij ⊢
     obtain ⟨a', _, _, a3'⟩ := i2 (j - l'.length) (by omega)
     rw [a3, a3'] at hij
     have hij : a = a' := hij
     rw [a3, a3', hij]
theorem d0D {p : Pb} {o : List Int} (h : Pst p) (h' : Pst (po p o)) : ∀ c x y k, GI p k x -> GI (po p o) k y -> Two x y -> k + c < 100000 -> Two (goK p c x) (goK (po p o) c y) := by
 intro c
 induction c with
 | zero => intro x y k _ _ t _; exact t
 | succ c ih =>
  intro x y k g g' t hk
  rw [d0E, d0E]
  obtain ⟨n, hn⟩ := t.r
  have e1 : y.1.s.n.pos = x.1.s.n.pos := by rw [hn]; rfl
  have e2 := t.e
  have e3 : (po p o).fin = p.fin := rfl
  rw [e1, e2, e3]
  split
  ·exact ih _ _ (k + 1) (b69 h g (by omega)) (b69 h' g' (by omega)) (c4Z h h' g g' t) (by omega)
  ·exact t
theorem b7x {p : Pb} {o : List Int} (h : Pst p) (h' : Pst (po p o)) : Two (a1W p) (a1W (po p o)) := by
 have hm := h.v.most
 have g := b4B h
 have g' := b4B h'
 have t0 : Two (⟨a70 p, p.y, 0, 0, (t7 p (p7 p)).length⟩, t7 p (p7 p), 0) (⟨a70 (po p o), (po p o).y, 0, 0, (t7 (po p o) (p7 (po p o))).length⟩, t7 (po p o) (p7 (po p o)), 0) := by
  have f1 := b0m p (p7 p)
  have f2 := b0m (po p o) (p7 (po p o))
  refine ⟨⟨_, rfl⟩, rfl, λi hi => ?_, λi hi => ?_, λi j hi hj _ => ?_⟩
  ·have := f1 i hi
   simp only at this ⊢
   rw [this]; exact Int.le_refl _
  ·have := f2 i hi
   simp only at this ⊢
   rw [this]; exact Int.le_refl _
  ·have q1 := f1 i hi
   have q2 := f2 j hj
   simp only at q1 q2 ⊢
   rw [q1, q2]; rfl
 have t := d0D h h' p.most.toNat _ _ 0 g g' t0 (by omega)
 rw [<- b0b, <- b0b] at t
 have e : a1W p = ((goP p (p7 p) p.most.toNat).1, (goP p (p7 p) p.most.toNat).2.1, if (goP p (p7 p) p.most.toNat).2.2 = 0 /\ (goP p (p7 p) p.most.toNat).1.s.n.pos < p.fin then 6 else (goP p (p7 p) p.most.toNat).2.2) := rfl
 have e' : a1W (po p o) = ((goP (po p o) (p7 (po p o)) p.most.toNat).1, (goP (po p o) (p7 (po p o)) p.most.toNat).2.1, if (goP (po p o) (p7 (po p o)) p.most.toNat).2.2 = 0 /\ (goP (po p o) (p7 (po p o)) p.most.toNat).1.s.n.pos < p.fin then 6 else (goP (po p o) (p7 (po p o)) p.most.toNat).2.2) := rfl
 rw [e, e']
 generalize goP p (p7 p) p.most.toNat = x at t
 generalize goP (po p o) (p7 (po p o)) p.most.toNat = y at t
 obtain ⟨⟨n, t1⟩, t2, t3, t4, t5⟩ := t
 refine ⟨⟨n, t1⟩, ?_, t3, t4, t5⟩
 simp only
 rw [t2, t1]
 rfl
def cL : CA -> CA
 | .seq a _ => a
 | c => c
def cR : CA -> CA
 | .seq _ b => b
 | c => c
end Go.Ab
