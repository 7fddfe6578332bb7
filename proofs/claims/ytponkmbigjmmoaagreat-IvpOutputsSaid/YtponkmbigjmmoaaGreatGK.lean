import Derived.Test.YtponkmbigjmmoaaGreatGJ
import Derived.Test.YtponkmbigjmmoaaGreatChecked
set_option linter.unusedSimpArgs false
set_option linter.unusedVariables false
set_option maxRecDepth 8000
namespace Go.Ab
open Go Go.Proofs
theorem f5 : Tryz.prog.follows .mixedOrders = true := by kernel_rfl
def a8q : CA := (.seq (.reg [i_X 0 2 (.h (.mov (.k (.d (.bool false)))))] [0]) (.seq (.reg [i_M 0 3 0, i_M 1 4 0, i_X 2 5 (.h (.fcmp .ne (.t 3) (.t 4))), i_M 3 2 5] [2]) .ret))
theorem a7w : f7 Tryz.prog 130 = some ⟨6, [(2, none)], a8q.strip⟩ := by kernel_rfl
def a8r : CA := (.seq (.reg [i_X 0 4 (.h (.mov (.k (.d (.bool false)))))] [0, 1]) (.seq (.seq (.reg [i_M 0 5 1, i_B 1 6 .eql 5 0] [0, 1, 6]) (.cond (.t 6) (.reg [i_M 0 7 0, i_X 1 8 (.callA (kF 162) [(.t 7)]), i_M 2 0 8] [0]) (.seq (.reg [i_M 0 9 1, i_B 1 10 .lss 9 0] [0, 10]) (.cond (.t 10) (.reg [i_M 0 11 0, i_X 1 12 (.h (.un .neg (.t 11))), i_M 2 0 12] [0]) .skip)))) (.seq (.reg [i_M 0 13 0, i_X 1 14 (.h (.fcmp .gt (.t 13) (.k (.d (.flt 9218868437227405311))))), i_M 2 4 14] [4]) .ret)))
theorem a7x : f7 Tryz.prog 131 = some ⟨15, [(4, none)], a8r.strip⟩ := by kernel_rfl
def a7y : CA := (.seq (.reg [i_X 0 2 (.h (.mov (.k (.d (.flt 0)))))] [0]) (.seq (.reg [i_X 0 3 (.h (.mov (.k (.d (.int .u64 0)))))] [0]) (.seq (.seq (.reg [i_M 0 4 0, i_B 1 5 .geq 4 0] [5]) (.cond (.t 5) (.reg [i_X 0 3 (.h (.mov (.k (.d (.int .u64 9218868437227405312)))))] [3]) (.reg [i_X 0 3 (.h (.mov (.k (.d (.int .u64 18442240474082181120)))))] [3]))) (.seq (.reg [i_M 0 6 3, i_X 1 7 (.h (.frombits (.t 6))), i_M 2 2 7] [2]) .ret))))
theorem a3b : f7 Tryz.prog 87 = some ⟨8, [(2, none)], a7y.strip⟩ := by kernel_rfl
def b3a : CA := (.seq (.reg [i_X 0 0 (.h (.mov (.k (.d (.flt 0)))))] []) (.seq (.reg [i_X 0 1 (.h (.frombits (.k (.d (.int .u64 9221120237041090561))))), i_M 1 0 1] [0]) .ret))
theorem b00 : f7 Tryz.prog 86 = some ⟨2, [(0, none)], b3a.strip⟩ := by kernel_rfl
def b3b : CA := (.seq (.reg [i_X 0 2 (.h (.mov (.k (.d (.flt 0)))))] [0]) (.seq (.reg [i_M 0 3 0, i_X 1 4 (.h (.bits (.t 3))), i_X 2 5 (.h (.ibin .andNot (.t 4) (.k (.d (.int .u64 9223372036854775808))))), i_X 3 6 (.h (.frombits (.t 5))), i_M 4 2 6] [2]) .ret))
theorem a3d : f7 Tryz.prog 162 = some ⟨7, [(2, none)], b3b.strip⟩ := by kernel_rfl
def a3c : CA := (.seq (.reg [i_X 0 4 (.h (.mov (.k (.d (.flt 0)))))] [0, 1]) (.seq (.reg [i_M 0 5 0, i_X 1 6 (.h (.bits (.t 5))), i_X 2 7 (.h (.ibin .andNot (.t 6) (.k (.d (.int .u64 9223372036854775808))))), i_M 3 8 1, i_X 4 9 (.h (.bits (.t 8))), i_X 5 10 (.h (.ibin .and (.t 9) (.k (.d (.int .u64 9223372036854775808))))), i_N 6 11 .or 7 10, i_X 7 12 (.h (.frombits (.t 11))), i_M 8 4 12] [4]) .ret))
theorem a3Z : f7 Tryz.prog 170 = some ⟨13, [(4, none)], a3c.strip⟩ := by kernel_rfl
def a10 : CA := (.seq (.reg [i_X 0 4 (.h (.mov (.k (.d (.flt 0)))))] [0, 1]) (.seq (.block 0 (.seq (.reg [i_M 0 10 0, i_X 1 11 (.callA (kF 130) [(.t 10)]), i_M 2 12 11, g_F 3 13 12 (.h (.mov (.t 1))), g_F 4 14 12 (.callA (kF 130) [(.t 13)]), i_X 5 15 (.h (.pick (.t 12) (.k (.d (.bool true))) (.t 14))), i_M 6 9 15] [0, 1, 9]) (.cond (.t 9) (.reg [i_X 0 16 (.callA (kF 86) []), i_M 1 4 16] [4]) (.seq (.reg [i_M 0 18 0, i_M 1 19 1, i_X 2 20 (.h (.fcmp .eq (.t 18) (.t 19))), i_M 3 17 20] [0, 1, 17]) (.cond (.t 17) (.reg [i_M 0 21 0, i_M 1 4 21] [4]) (.seq (.reg [i_M 0 23 0, i_X 1 24 (.h (.fcmp .eq (.t 23) (.k (.d (.flt 0))))), i_M 2 22 24] [0, 1, 22]) (.cond (.t 22) (.reg [i_X 0 25 (.h (.frombits (.k (.d (.int .u64 1))))), i_M 1 26 1, i_X 2 27 (.callA (kF 170) [(.t 25), (.t 26)]), i_M 3 4 27] [4]) (.seq (.reg [i_M 0 29 1, i_M 1 30 0, i_X 2 31 (.h (.fcmp .gt (.t 29) (.t 30))), i_M 3 32 0, i_X 4 33 (.h (.fcmp .gt (.t 32) (.k (.d (.flt 0))))), i_X 5 34 (.h (.bcmp false (.t 31) (.t 33))), i_M 6 28 34] [0, 28]) (.cond (.t 28) (.reg [i_M 0 35 0, i_X 1 36 (.h (.bits (.t 35))), i_X 2 37 (.h (.ibin .add (.t 36) (.k (.d (.int .u64 1))))), i_X 3 38 (.h (.frombits (.t 37))), i_M 4 4 38] [4]) (.reg [i_M 0 5 0, i_X 1 6 (.h (.bits (.t 5))), i_X 2 7 (.h (.ibin .sub (.t 6) (.k (.d (.int .u64 1))))), i_X 3 8 (.h (.frombits (.t 7))), i_M 4 4 8] [4])))))))))) .ret))
theorem a3a : f7 Tryz.prog 122 = some ⟨39, [(4, none)], a10.strip⟩ := by kernel_rfl
def a1b : CA := (.seq (.reg [i_X 0 4 (.h (.mov (.k (.d (.flt 0)))))] [0, 1]) (.seq (.reg [i_M 0 5 0, i_M 1 6 1, i_X 2 7 (.callA (kF 122) [(.t 5), (.t 6)]), i_M 3 4 7] [4]) .ret))
theorem a2c : f7 Tryz.prog 199 = some ⟨8, [(4, none)], a1b.strip⟩ := by kernel_rfl
def c4M : CA := (.seq (.reg [i_X 0 2 (.h (.mov (.k (.d (.flt 0)))))] [0]) (.seq (.reg [i_M 0 3 0, i_X 1 4 (.callA (kF 87) [(kI 1)]), i_X 2 5 (.callA (kF 199) [(.t 3), (.t 4)]), i_M 3 2 5] [2]) .ret))
theorem b6U : f7 Tryz.prog 148 = some ⟨6, [(2, none)], c4M.strip⟩ := by kernel_rfl
def b6V : CA := (.seq (.reg [i_X 0 2 (.h (.mov (.k (.d (.flt 0)))))] [0]) (.seq (.reg [i_M 0 3 0, i_X 1 4 (.callA (kF 87) [(.k (.d (.int .i64 (-1))))]), i_X 2 5 (.callA (kF 199) [(.t 3), (.t 4)]), i_M 3 2 5] [2]) .ret))
theorem b2d : f7 Tryz.prog 261 = some ⟨6, [(2, none)], b6V.strip⟩ := by kernel_rfl
def b1m : CA := (.seq (.reg [i_X 0 2 (.h (.mov (.k (.d (.bool false)))))] [0]) (.seq (.reg [i_M 0 3 0, i_X 1 4 (.callA (kF 130) [(.t 3)]), i_X 2 5 (.h (.un .not (.t 4))), i_M 3 6 5, g_T 4 7 6 (.h (.mov (.t 0))), g_T 5 8 6 (.callA (kF 131) [(.t 7), (kI 0)]), g_T 6 9 6 (.h (.un .not (.t 8))), i_X 7 10 (.h (.pick (.t 6) (.t 9) (.k (.d (.bool false))))), i_M 8 2 10] [2]) .ret))
theorem a9f : f7 Tryz.prog 83 = some ⟨11, [(2, none)], b1m.strip⟩ := by kernel_rfl
def b6F : CA := (.seq (.reg [i_X 0 4 (.h (.mov (.k (.d (.bool false)))))] [0, 1]) (.seq (.reg [i_M 0 5 0, i_M 1 6 1, i_X 2 7 (.h (.fcmp .eq (.t 5) (.t 6))), i_M 3 8 7, g_F 4 9 8 (.h (.mov (.t 0))), g_F 5 10 8 (.h (.mov (.t 0))), g_F 6 11 8 (.h (.fcmp .ne (.t 9) (.t 10))), g_F 7 12 8 (.h (.mov (.t 11))), g_T 8 13 12 (.h (.mov (.t 1))), g_T 9 14 12 (.h (.mov (.t 1))), g_T 10 15 12 (.h (.fcmp .ne (.t 13) (.t 14))), g_F 11 16 8 (.h (.pick (.t 12) (.t 15) (.k (.d (.bool false))))), i_X 12 17 (.h (.pick (.t 8) (.k (.d (.bool true))) (.t 16))), i_M 13 4 17] [4]) .ret))
theorem b11 : f7 Tryz.prog 59 = some ⟨18, [(4, none)], b6F.strip⟩ := by kernel_rfl
def a8a : CA := (.seq (.seq (.reg [i_M 0 11 5, i_M 1 12 0, i_X 2 13 (.h (.len (.t 12))), i_N 3 14 .lss 11 13] [0, 1, 5, 14]) (.cond (.t 14) .skip (.exit 0))) (.seq (.block 1 (.seq (.reg [i_M 0 17 0, i_M 1 18 5, i_I 2 19 17 18 1, i_L 3 20 19 1, i_M 4 21 1, i_M 5 22 5, i_I 6 23 21 22 1, i_L 7 24 23 1, i_X 8 25 (.callA (kF 59) [(.t 20), (.t 24)]), i_X 9 26 (.h (.un .not (.t 25)))] [0, 1, 5, 26]) (.cond (.t 26) (.seq (.reg [i_X 0 4 (.h (.mov (.k (.d (.bool false)))))] [4]) .ret) .skip))) (.reg [i_M 0 15 5, i_B 1 16 .add 15 1, i_M 2 5 16] [0, 1, 5])))
def b6G : CA := (.seq (.reg [i_X 0 4 (.h (.mov (.k (.d (.bool false)))))] [0, 1]) (.seq (.seq (.reg [i_M 0 6 0, i_X 1 7 (.h (.len (.t 6))), i_M 2 8 1, i_X 3 9 (.h (.len (.t 8))), i_N 4 10 .neq 7 9] [0, 1, 10]) (.cond (.t 10) (.seq (.reg [i_X 0 4 (.h (.mov (.k (.d (.bool false)))))] [4]) .ret) .skip)) (.seq (.seq (.reg [i_K 0 5 0] [0, 1, 5]) (.block 0 (.loop a8a))) (.seq (.reg [i_X 0 4 (.h (.mov (.k (.d (.bool true)))))] [4]) .ret))))
theorem b12 : f7 Tryz.prog 58 = some ⟨27, [(4, none)], b6G.strip⟩ := by kernel_rfl
def a4j : CA := (.seq (.seq (.reg [i_M 0 11 5, i_M 1 12 0, i_X 2 13 (.h (.len (.t 12))), i_N 3 14 .lss 11 13] [0, 1, 5, 14]) (.cond (.t 14) .skip (.exit 0))) (.seq (.block 1 (.seq (.reg [i_M 0 17 0, i_M 1 18 5, i_I 2 19 17 18 1, i_L 3 20 19 1, i_M 4 21 1, i_M 5 22 5, i_I 6 23 21 22 1, i_L 7 24 23 1, i_X 8 25 (.callA (kF 58) [(.t 20), (.t 24)]), i_X 9 26 (.h (.un .not (.t 25)))] [0, 1, 5, 26]) (.cond (.t 26) (.seq (.reg [i_X 0 4 (.h (.mov (.k (.d (.bool false)))))] [4]) .ret) .skip))) (.reg [i_M 0 15 5, i_B 1 16 .add 15 1, i_M 2 5 16] [0, 1, 5])))
def b0L : CA := (.seq (.reg [i_X 0 4 (.h (.mov (.k (.d (.bool false)))))] [0, 1]) (.seq (.seq (.reg [i_M 0 6 0, i_X 1 7 (.h (.len (.t 6))), i_M 2 8 1, i_X 3 9 (.h (.len (.t 8))), i_N 4 10 .neq 7 9] [0, 1, 10]) (.cond (.t 10) (.seq (.reg [i_X 0 4 (.h (.mov (.k (.d (.bool false)))))] [4]) .ret) .skip)) (.seq (.seq (.reg [i_K 0 5 0] [0, 1, 5]) (.block 0 (.loop a4j))) (.seq (.reg [i_X 0 4 (.h (.mov (.k (.d (.bool true)))))] [4]) .ret))))
theorem a8Y : f7 Tryz.prog 159 = some ⟨27, [(4, none)], b0L.strip⟩ := by kernel_rfl
def b3d : CA := (.seq (.reg [i_X 0 0 (.alloc [fl 0, fl 0] 83)] [0]) (.seq (.reg [i_X 0 1 (.callA (kF 87) [(.k (.d (.int .i64 (-1))))]), i_X 1 2 (.callA (kF 87) [(kI 1)]), i_X 2 3 (.h (.build [fl 0, fl 0] [(0, (1, (.t 1))), (1, (1, (.t 2)))])), i_S 3 0 3 2] [0]) .ret))
theorem b1c : f7 Tryz.prog 247 = some ⟨4, [(0, (some (2, true)))], b3d.strip⟩ := by kernel_rfl
def b3g : CA := (.seq (.reg [i_X 0 1 (.box (.t 0) 2 83), i_X 1 2 (.h (.mov (.k (.d (.bool false)))))] [1]) (.seq (.reg [i_P 0 3 1 0, i_L 1 4 3 1, i_P 2 5 1 1, i_L 3 6 5 1, i_X 4 7 (.h (.fcmp .le (.t 4) (.t 6))), i_M 5 2 7] [2]) .ret))
theorem b1g : f7 Tryz.prog 82 = some ⟨8, [(2, none)], b3g.strip⟩ := by kernel_rfl
def b6R : CA := (.seq (.reg [i_X 0 4 (.alloc [fl 0, fl 0] 83)] [0, 1, 4]) (.seq (.seq (.reg [i_M 0 6 0, i_M 1 7 1, i_X 2 8 (.h (.build [fl 0, fl 0] [(0, (1, (.t 6))), (1, (1, (.t 7)))])), i_X 3 5 (.alloc [fl 0, fl 0] 83), i_S 4 5 8 2] [4, 5]) (.seq (.reg [i_A 0 9 5 2, i_X 1 10 (.callA (kF 82) [(.t 9)])] [4, 5, 10]) (.cond (.t 10) (.seq (.reg [i_A 0 11 5 2, i_S 1 4 11 2] [4]) .ret) .skip))) (.seq (.reg [i_X 0 12 (.callA (kF 247) []), i_S 1 4 12 2] [4]) .ret)))
theorem b2c : f7 Tryz.prog 201 = some ⟨13, [(4, (some (2, true)))], b6R.strip⟩ := by kernel_rfl
def R1 : CA := (.seq (.reg [i_X 0 2 (.box (.t 0) 2 256), i_X 1 4 (.alloc [fl 0, fl 0] 83)] [1, 2, 4]) (.seq (.reg [i_M 0 5 1, i_P 1 6 2 0, i_L 2 7 6 1, i_X 3 8 (.callS 0 (.t 5) [(.t 7)]), i_X 4 9 (.callS 0 (kF 261) [(.t 8)]), i_M 5 10 1, i_P 6 11 2 1, i_L 7 12 11 1, i_X 8 13 (.callA (.t 10) [(.t 12)]), i_X 9 14 (.callA (kF 148) [(.t 13)]), i_X 10 15 (.callA (kF 201) [(.t 9), (.t 14)]), i_S 11 4 15 2] [4]) .ret))
theorem Z1 : f7 Tryz.prog 239 = some ⟨16, [(4, (some (2, true)))], R1.strip⟩ := by kernel_rfl
def b6Q : CA := (.seq (.reg [i_X 0 2 (.h (.mov (.k (.d (.flt 0)))))] [0]) (.seq (.reg [i_M 0 3 0, i_M 1 2 3] [2]) .ret))
theorem b2b : f7 Tryz.prog 240 = some ⟨4, [(2, none)], b6Q.strip⟩ := by kernel_rfl
def b9K : CA := (.seq (.reg [i_X 0 2 (.box (.t 0) 2 83), i_X 1 3 (.box (.t 1) 2 83), i_X 2 4 (.alloc [fl 0, fl 0] 83)] [2, 3, 4]) (.seq (.reg [i_P 0 5 2 0, i_L 1 6 5 1, i_P 2 7 3 1, i_L 3 8 7 1, i_F 4 9 .sub 6 8, i_P 5 10 2 1, i_L 6 11 10 1, i_P 7 12 3 0, i_L 8 13 12 1, i_F 9 14 .sub 11 13, i_X 10 15 (.h (.build [fl 0, fl 0] [(0, (1, (.t 9))), (1, (1, (.t 14)))])), i_X 11 16 (.callA (kF 239) [(.t 15), (kF 240)]), i_S 12 4 16 2] [4]) .ret))
theorem b4U : f7 Tryz.prog 190 = some ⟨17, [(4, (some (2, true)))], b9K.strip⟩ := by kernel_rfl
def a8y : CA := (.seq (.reg [i_B 0 13 .lss 12 4] [2, 3, 11, 12, 13]) (.seq (.cond (.t 13) .skip (.exit 0)) (.seq (.block 1 (.seq (.reg [i_X 0 14 (.h (.idxv (.t 11) (.t 12) 4 1 false)), i_M 1 5 14] [2, 3, 5, 11, 12]) (.seq (.seq (.reg [i_M 0 15 5, i_X 1 16 (.callA (kF 130) [(.t 15)])] [2, 3, 5, 11, 12, 16]) (.cond (.t 16) (.seq (.reg [i_X 0 17 (.callA (kF 247) []), i_S 1 2 17 2] [2]) .ret) .skip)) (.seq (.seq (.reg [i_M 0 18 5, i_P 1 19 3 0, i_L 2 20 19 1, i_X 3 21 (.h (.fcmp .lt (.t 18) (.t 20)))] [2, 3, 5, 11, 12, 21]) (.cond (.t 21) (.reg [i_M 0 22 5, i_P 1 23 3 0, i_S 2 23 22 1] [2, 3, 5, 11, 12]) .skip)) (.seq (.reg [i_M 0 24 5, i_P 1 25 3 1, i_L 2 26 25 1, i_X 3 27 (.h (.fcmp .gt (.t 24) (.t 26)))] [2, 3, 5, 11, 12, 27]) (.cond (.t 27) (.reg [i_M 0 28 5, i_P 1 29 3 1, i_S 2 29 28 1] [2, 3, 11, 12]) .skip)))))) (.reg [i_B 0 30 .add 12 1, i_M 1 12 30] [2, 3, 11, 12]))))
def b6P : CA := (.seq (.reg [i_X 0 1 (.box (.t 0) 4 210), i_X 1 2 (.alloc [fl 0, fl 0] 83)] [1, 2]) (.seq (.reg [i_X 0 6 (.h (.idxa (.t 1) (kI 0) 4 1)), i_L 1 7 6 1, i_X 2 8 (.h (.idxa (.t 1) (kI 0) 4 1)), i_L 3 9 8 1, i_X 4 10 (.h (.build [fl 0, fl 0] [(0, (1, (.t 7))), (1, (1, (.t 9)))])), i_X 5 3 (.alloc [fl 0, fl 0] 256), i_S 6 3 10 2] [1, 2, 3]) (.seq (.seq (.reg [i_A 0 11 1 4, i_K 1 12 0] [2, 3, 11, 12]) (.block 0 (.loop a8y))) (.seq (.reg [i_A 0 31 3 2, i_X 1 32 (.callA (kF 239) [(.t 31), (kF 240)]), i_S 2 2 32 2] [2]) .ret))))
theorem b2a : f7 Tryz.prog 252 = some ⟨33, [(2, (some (2, true)))], b6P.strip⟩ := by kernel_rfl
def b9L : CA := (.seq (.reg [i_X 0 2 (.box (.t 0) 2 83), i_X 1 3 (.box (.t 1) 2 83), i_X 2 4 (.alloc [fl 0, fl 0] 83)] [2, 3, 4]) (.seq (.reg [i_P 0 5 2 0, i_L 1 6 5 1, i_P 2 7 3 0, i_L 3 8 7 1, i_F 4 9 .mul 6 8, i_P 5 10 2 0, i_L 6 11 10 1, i_P 7 12 3 1, i_L 8 13 12 1, i_F 9 14 .mul 11 13, i_P 10 15 2 1, i_L 11 16 15 1, i_P 12 17 3 0, i_L 13 18 17 1, i_F 14 19 .mul 16 18, i_P 15 20 2 1, i_L 16 21 20 1, i_P 17 22 3 1, i_L 18 23 22 1, i_F 19 24 .mul 21 23, i_X 20 25 (.h (.build z_4 [(0, (1, (.t 9))), (1, (1, (.t 14))), (2, (1, (.t 19))), (3, (1, (.t 24)))])), i_X 21 26 (.callA (kF 252) [(.t 25)]), i_S 22 4 26 2] [4]) .ret))
theorem b4V : f7 Tryz.prog 208 = some ⟨27, [(4, (some (2, true)))], b9L.strip⟩ := by kernel_rfl
def F9 : CA := (.seq (.reg [i_N 0 12 .lss 11 10] [3, 9, 10, 11, 12]) (.seq (.cond (.t 12) .skip (.exit 0)) (.seq (.block 1 (.seq (.reg [i_M 0 13 11, i_I 1 14 9 11 1, i_L 2 15 14 1, i_M 3 4 13, i_M 4 5 15] [3, 4, 5, 9, 10, 11]) (.seq (.reg [i_M 0 16 3, i_M 1 17 4, i_M 2 18 5, i_X 3 19 (.h (.len (.t 18))), i_X 4 20 (.mksl [fl 0] 1 8 (.t 19) (.t 19) 31), i_I 5 21 16 17 1, i_S 6 21 20 1] [3, 4, 5, 9, 10, 11]) (.reg [i_M 0 22 3, i_M 1 23 4, i_I 2 24 22 23 1, i_L 3 25 24 1, i_M 4 26 5, i_X 5 27 (.cpy (.t 25) (.t 26) 1)] [3, 9, 10, 11])))) (.reg [i_B 0 28 .add 11 1, i_M 1 11 28] [3, 9, 10, 11]))))
def M7 : CA := (.seq (.reg [i_X 0 2 (.h (.mov (.k .nil)))] [0]) (.seq (.reg [i_M 0 6 0, i_X 1 7 (.h (.len (.t 6))), i_X 2 8 (.mksl [.nil] 1 24 (.t 7) (.t 7) 30), i_M 3 3 8] [0, 3]) (.seq (.seq (.reg [i_M 0 9 0, i_X 1 10 (.h (.len (.t 9))), i_K 2 11 0] [3, 9, 10, 11]) (.block 0 (.loop F9))) (.seq (.reg [i_M 0 29 3, i_M 1 2 29] [2]) .ret))))
theorem X0 : f7 Tryz.prog 229 = some ⟨30, [(2, none)], M7.strip⟩ := by kernel_rfl
def a4q : CA := (.seq (.seq (.reg [i_M 0 10 6, i_M 1 11 0, i_X 2 12 (.h (.len (.t 11))), i_N 3 13 .lss 10 12] [0, 1, 5, 6, 13]) (.cond (.t 13) .skip (.exit 0))) (.seq (.block 1 (.seq (.reg [i_M 0 16 0, i_M 1 17 6, i_I 2 18 16 17 1, i_L 3 19 18 1, i_M 4 20 1, i_I 5 21 19 20 1, i_L 6 22 21 1, i_X 7 23 (.callS 0 (kF 162) [(.t 22)]), i_M 8 24 0, i_M 9 25 5, i_I 10 26 24 25 1, i_L 11 27 26 1, i_M 12 28 1, i_I 13 29 27 28 1, i_L 14 30 29 1, i_X 15 31 (.callA (kF 162) [(.t 30)]), i_X 16 32 (.h (.fcmp .gt (.t 23) (.t 31)))] [0, 1, 5, 6, 32]) (.cond (.t 32) (.reg [i_M 0 33 6, i_M 1 5 33] [0, 1, 5, 6]) .skip))) (.reg [i_M 0 14 6, i_B 1 15 .add 14 1, i_M 2 6 15] [0, 1, 5, 6])))
def b01 : CA := (.seq (.reg [i_K 0 4 0] [0, 1]) (.seq (.reg [i_M 0 7 1, i_M 1 5 7] [0, 1, 5]) (.seq (.seq (.reg [i_M 0 8 1, i_B 1 9 .add 8 1, i_M 2 6 9] [0, 1, 5, 6]) (.block 0 (.loop a4q))) (.seq (.reg [i_M 0 34 5, i_M 1 4 34] [4]) .ret))))
theorem a84 : f7 Tryz.prog 230 = some ⟨35, [(4, none)], b01.strip⟩ := by kernel_rfl
def a6G : CA := (.seq (.reg [i_N 0 21 .lss 20 19] [2, 4, 19, 20, 21]) (.seq (.cond (.t 21) .skip (.exit 0)) (.seq (.block 1 (.seq (.reg [i_M 0 22 20, i_M 1 5 22] [2, 4, 5, 19, 20]) (.reg [i_P 0 23 4 1, i_L 1 24 23 1, i_M 2 25 5, i_M 3 26 5, i_I 4 27 24 25 1, i_S 5 27 26 1] [2, 4, 19, 20]))) (.reg [i_B 0 28 .add 20 1, i_M 1 20 28] [2, 4, 19, 20]))))
def a1N : CA := (.seq (.seq (.reg [i_M 0 126 10, i_P 1 127 4 0, i_L 2 128 127 1, i_X 3 129 (.h (.len (.t 128))), i_N 4 130 .lss 126 129] [2, 4, 6, 9, 10, 31, 32, 130]) (.cond (.t 130) .skip (.exit 6))) (.seq (.block 7 (.reg [i_P 0 133 4 0, i_L 1 134 133 1, i_M 2 135 9, i_I 3 136 134 135 1, i_L 4 137 136 1, i_M 5 138 10, i_P 6 139 4 0, i_L 7 140 139 1, i_M 8 141 9, i_I 9 142 140 141 1, i_L 10 143 142 1, i_M 11 144 10, i_I 12 145 143 144 1, i_L 13 146 145 1, i_P 14 147 4 0, i_L 15 148 147 1, i_M 16 149 9, i_I 17 150 148 149 1, i_L 18 151 150 1, i_M 19 152 6, i_I 20 153 151 152 1, i_L 21 154 153 1, i_P 22 155 4 0, i_L 23 156 155 1, i_M 24 157 6, i_I 25 158 156 157 1, i_L 26 159 158 1, i_M 27 160 10, i_I 28 161 159 160 1, i_L 29 162 161 1, i_F 30 163 .mul 154 162, i_F 31 164 .sub 146 163, i_I 32 165 137 138 1, i_S 33 165 164 1] [2, 4, 6, 9, 10, 31, 32])) (.reg [i_M 0 131 10, i_B 1 132 .add 131 1, i_M 2 10 132] [2, 4, 6, 9, 10, 31, 32])))
def a1P : CA := (.seq (.seq (.reg [i_M 0 93 9, i_P 1 94 4 0, i_L 2 95 94 1, i_X 3 96 (.h (.len (.t 95))), i_N 4 97 .lss 93 96] [2, 4, 6, 9, 31, 32, 97]) (.cond (.t 97) .skip (.exit 4))) (.seq (.block 5 (.seq (.reg [i_P 0 100 4 0, i_L 1 101 100 1, i_M 2 102 9, i_I 3 103 101 102 1, i_L 4 104 103 1, i_M 5 105 6, i_P 6 106 4 0, i_L 7 107 106 1, i_M 8 108 9, i_I 9 109 107 108 1, i_L 10 110 109 1, i_M 11 111 6, i_I 12 112 110 111 1, i_L 13 113 112 1, i_P 14 114 4 0, i_L 15 115 114 1, i_M 16 116 6, i_I 17 117 115 116 1, i_L 18 118 117 1, i_M 19 119 6, i_I 20 120 118 119 1, i_L 21 121 120 1, i_F 22 122 .div 113 121, i_I 23 123 104 105 1, i_S 24 123 122 1] [2, 4, 6, 9, 31, 32]) (.seq (.reg [i_M 0 124 6, i_B 1 125 .add 124 1, i_M 2 10 125] [2, 4, 6, 9, 10, 31, 32]) (.block 6 (.loop a1N))))) (.reg [i_M 0 98 9, i_B 1 99 .add 98 1, i_M 2 9 99] [2, 4, 6, 9, 31, 32])))
def a1Q : CA := (.seq (.reg [i_N 0 33 .lss 32 31] [2, 4, 31, 32, 33]) (.seq (.cond (.t 33) .skip (.exit 2)) (.seq (.block 3 (.seq (.reg [i_M 0 34 32, i_M 1 6 34] [2, 4, 6, 31, 32]) (.seq (.reg [i_P 0 35 4 0, i_L 1 36 35 1, i_M 2 37 6, i_X 3 38 (.callA (kF 230) [(.t 36), (.t 37)]), i_M 4 7 38] [2, 4, 6, 7, 31, 32]) (.seq (.seq (.reg [i_P 0 39 4 0, i_L 1 40 39 1, i_M 2 41 7, i_I 3 42 40 41 1, i_L 4 43 42 1, i_M 5 44 6, i_I 6 45 43 44 1, i_L 7 46 45 1, i_M 8 8 46] [2, 4, 6, 7, 8, 31, 32]) (.seq (.reg [i_M 0 47 8, i_X 1 48 (.h (.fcmp .eq (.t 47) (.k (.d (.flt 0))))), i_M 2 49 48, g_F 3 50 49 (.h (.mov (.t 8))), g_F 4 51 49 (.callA (kF 83) [(.t 50)]), g_F 5 52 49 (.h (.un .not (.t 51))), i_X 6 53 (.h (.pick (.t 49) (.k (.d (.bool true))) (.t 52)))] [2, 4, 6, 7, 31, 32, 53]) (.cond (.t 53) (.seq (.reg [i_X 0 54 (.h (.build [.nil, .nil] [])), i_S 1 2 54 2, i_X 2 3 (.h (.mov (.k (.d (.bool false)))))] [2, 3]) .ret) .skip))) (.seq (.reg [i_P 0 55 4 0, i_L 1 56 55 1, i_M 2 57 6, i_P 3 58 4 0, ⟨4, (some 59), none, [(.t 4)], [], (.load (.t 58) 1 false)⟩, i_M 5 60 7, i_P 6 61 4 0, i_L 7 62 61 1, i_M 8 63 7, i_I 9 64 62 63 1, i_L 10 65 64 1, i_P 11 66 4 0, i_L 12 67 66 1, i_M 13 68 6, i_I 14 69 67 68 1, i_L 15 70 69 1, i_I 16 71 56 57 1, ⟨17, none, none, [], [(.t 4)], (.store (.t 71) (.t 65) 1)⟩, i_I 18 72 59 60 1, i_S 19 72 70 1] [2, 4, 6, 7, 31, 32]) (.seq (.reg [i_P 0 73 4 1, i_L 1 74 73 1, i_M 2 75 6, i_P 3 76 4 1, ⟨4, (some 77), none, [(.t 4)], [], (.load (.t 76) 1 false)⟩, i_M 5 78 7, i_P 6 79 4 1, i_L 7 80 79 1, i_M 8 81 7, i_I 9 82 80 81 1, i_L 10 83 82 1, i_P 11 84 4 1, i_L 12 85 84 1, i_M 13 86 6, i_I 14 87 85 86 1, i_L 15 88 87 1, i_I 16 89 74 75 1, ⟨17, none, none, [], [(.t 4)], (.store (.t 89) (.t 83) 1)⟩, i_I 18 90 77 78 1, i_S 19 90 88 1] [2, 4, 6, 31, 32]) (.seq (.reg [i_M 0 91 6, i_B 1 92 .add 91 1, i_M 2 9 92] [2, 4, 6, 9, 31, 32]) (.block 4 (.loop a1P))))))))) (.reg [i_B 0 166 .add 32 1, i_M 1 32 166] [2, 4, 31, 32]))))
def a7z : CA := (.seq (.reg [i_X 0 2 (.alloc [.nil, .nil] 220), i_X 1 3 (.h (.mov (.k (.d (.bool false)))))] [0, 2]) (.seq (.reg [i_M 0 11 0, i_X 1 12 (.callS 0 (kF 229) [(.t 11)]), i_M 2 13 0, i_X 3 14 (.h (.len (.t 13))), i_X 4 15 (.mksl [fI 0] 1 8 (.t 14) (.t 14) 3), i_X 5 16 (.h (.build [.nil, .nil] [(0, (1, (.t 12))), (1, (1, (.t 15)))])), i_X 6 4 (.alloc [.nil, .nil] 220), i_S 7 4 16 2] [2, 4]) (.seq (.seq (.reg [i_P 0 17 4 1, i_L 1 18 17 1, i_X 2 19 (.h (.len (.t 18))), i_K 3 20 0] [2, 4, 19, 20]) (.block 0 (.loop a6G))) (.seq (.seq (.reg [i_P 0 29 4 0, i_L 1 30 29 1, i_X 2 31 (.h (.len (.t 30))), i_K 3 32 0] [2, 4, 31, 32]) (.block 2 (.loop a1Q))) (.seq (.reg [i_A 0 167 4 2, i_S 1 2 167 2, i_X 2 3 (.h (.mov (.k (.d (.bool true)))))] [2, 3]) .ret)))))
theorem a3f : f7 Tryz.prog 181 = some ⟨168, [(2, (some (2, true))), (3, none)], a7z.strip⟩ := by kernel_rfl
def a0G : CA := (.seq (.reg [i_N 0 34 .lss 33 32] [1, 2, 5, 6, 7, 17, 18, 32, 33, 34]) (.seq (.cond (.t 34) .skip (.exit 2)) (.seq (.block 3 (.seq (.reg [i_M 0 35 33, i_M 1 8 35] [1, 2, 5, 6, 7, 8, 17, 18, 32, 33]) (.reg [i_M 0 36 6, i_M 1 37 7, i_M 2 38 6, i_M 3 39 7, i_I 4 40 38 39 1, i_L 5 41 40 1, i_P 6 42 2 0, i_L 7 43 42 1, i_M 8 44 7, i_I 9 45 43 44 1, i_L 10 46 45 1, i_M 11 47 8, i_I 12 48 46 47 1, i_L 13 49 48 1, i_M 14 50 6, i_M 15 51 8, i_I 16 52 50 51 1, i_L 17 53 52 1, i_F 18 54 .mul 49 53, i_F 19 55 .sub 41 54, i_I 20 56 36 37 1, i_S 21 56 55 1] [1, 2, 5, 6, 7, 17, 18, 32, 33]))) (.reg [i_B 0 57 .add 33 1, i_M 1 33 57] [1, 2, 5, 6, 7, 17, 18, 32, 33]))))
def a4s : CA := (.seq (.reg [i_N 0 19 .lss 18 17] [1, 2, 5, 6, 17, 18, 19]) (.seq (.cond (.t 19) .skip (.exit 0)) (.seq (.block 1 (.seq (.reg [i_M 0 20 18, i_M 1 7 20] [1, 2, 5, 6, 7, 17, 18]) (.seq (.reg [i_M 0 21 6, i_M 1 22 7, i_M 2 23 1, i_P 3 24 2 1, i_L 4 25 24 1, i_M 5 26 7, i_I 6 27 25 26 1, i_L 7 28 27 1, i_I 8 29 23 28 1, i_L 9 30 29 1, i_I 10 31 21 22 1, i_S 11 31 30 1] [1, 2, 5, 6, 7, 17, 18]) (.seq (.reg [i_M 0 32 7, i_K 1 33 0] [1, 2, 5, 6, 7, 17, 18, 32, 33]) (.block 2 (.loop a0G)))))) (.reg [i_B 0 58 .add 18 1, i_M 1 18 58] [1, 2, 5, 6, 17, 18]))))
def a0F : CA := (.seq (.seq (.reg [i_M 0 67 10, i_M 1 68 5, i_N 2 69 .lss 67 68] [2, 5, 6, 9, 10, 69]) (.cond (.t 69) .skip (.exit 6))) (.seq (.block 7 (.reg [i_M 0 72 6, i_M 1 73 9, i_M 2 74 6, i_M 3 75 9, i_I 4 76 74 75 1, i_L 5 77 76 1, i_P 6 78 2 0, i_L 7 79 78 1, i_M 8 80 9, i_I 9 81 79 80 1, i_L 10 82 81 1, i_M 11 83 10, i_I 12 84 82 83 1, i_L 13 85 84 1, i_M 14 86 6, i_M 15 87 10, i_I 16 88 86 87 1, i_L 17 89 88 1, i_F 18 90 .mul 85 89, i_F 19 91 .sub 77 90, i_I 20 92 72 73 1, i_S 21 92 91 1] [2, 5, 6, 9, 10])) (.reg [i_M 0 70 10, i_B 1 71 .add 70 1, i_M 2 10 71] [2, 5, 6, 9, 10])))
def a4r : CA := (.seq (.seq (.reg [i_M 0 61 9, i_B 1 62 .geq 61 0] [2, 5, 6, 9, 62]) (.cond (.t 62) .skip (.exit 4))) (.seq (.block 5 (.seq (.seq (.reg [i_M 0 65 9, i_B 1 66 .add 65 1, i_M 2 10 66] [2, 5, 6, 9, 10]) (.block 6 (.loop a0F))) (.reg [i_M 0 93 6, i_M 1 94 9, i_M 2 95 6, i_M 3 96 9, i_I 4 97 95 96 1, i_L 5 98 97 1, i_P 6 99 2 0, i_L 7 100 99 1, i_M 8 101 9, i_I 9 102 100 101 1, i_L 10 103 102 1, i_M 11 104 9, i_I 12 105 103 104 1, i_L 13 106 105 1, i_F 14 107 .div 98 106, i_I 15 108 93 94 1, i_S 16 108 107 1] [2, 5, 6, 9]))) (.reg [i_M 0 63 9, i_B 1 64 .sub 63 1, i_M 2 9 64] [2, 5, 6, 9])))
def b02 : CA := (.seq (.reg [i_X 0 2 (.box (.t 0) 2 220), i_X 1 4 (.h (.mov (.k .nil)))] [1, 2]) (.seq (.reg [i_P 0 11 2 0, i_L 1 12 11 1, i_X 2 13 (.h (.len (.t 12))), i_M 3 5 13] [1, 2, 5]) (.seq (.reg [i_M 0 14 5, i_X 1 15 (.mksl [fl 0] 1 8 (.t 14) (.t 14) 31), i_M 2 6 15] [1, 2, 5, 6]) (.seq (.seq (.reg [i_M 0 16 6, i_X 1 17 (.h (.len (.t 16))), i_K 2 18 0] [1, 2, 5, 6, 17, 18]) (.block 0 (.loop a4s))) (.seq (.seq (.reg [i_M 0 59 5, i_B 1 60 .sub 59 1, i_M 2 9 60] [2, 5, 6, 9]) (.block 4 (.loop a4r))) (.seq (.reg [i_M 0 109 6, i_M 1 4 109] [4]) .ret))))))
theorem a85 : f7 Tryz.prog 235 = some ⟨110, [(4, none)], b02.strip⟩ := by kernel_rfl
end Go.Ab
namespace Go.Ab
open Nat renaming reduceEqDiff -> n1_, reduceAdd -> n2_, reduceMul -> n3_, reduceLT -> n4_, reduceLeDiff -> n5_
open Int renaming reduceToNat -> i1_, reduceAdd -> i2_, reduceSub -> i3_, reduceMul -> i4_, reduceNeg -> i5_, reduceLT -> i6_, reduceLE -> i7_
open Go Go.Proofs
theorem t9 (x : Nat) : Con Tryz.prog 130 [fl x] (fB (j7 x)) := by
 refine b7 a7w rfl f5 ?_
 refine evx @a8q.eq_1 ?_
 rw [a2C]
 exact g9
theorem a7U : Con Tryz.prog 86 [] (fl qnan) := by
 refine b7 b00 rfl f5 ?_
 refine evx @b3a.eq_1 ?_
 have : cf 9221120237041090561 = qnan := by decide
 rw [this]
 exact g9
theorem y3 : Con Tryz.prog 87 [fI 1] (fl finf) := by
 refine b7 a3b rfl f5 ?_
 refine evx @a7y.eq_1 ?_
 have : cf 9218868437227405312 = finf := by decide
 rw [this]
 exact g9
theorem Q2 : Con Tryz.prog 87 [fI (-1)] (fl s8) := by
 refine b7 a3b rfl f5 ?_
 refine evx @a7y.eq_1 ?_
 have : cf 18442240474082181120 = s8 := by decide
 rw [this]
 exact g9
theorem q5 (x : Nat) : Con Tryz.prog 162 [fl x] (fl (fabs x)) := by
 refine c1v (c6A a3d) λb hb hx => ?_
 refine b7 a3d rfl f5 ?_
 refine evx @b3b.eq_1 ?_
 rw [b8k hb]
 have : L5 b < 9223372036854775808 := by unfold L5; omega
 refine ⟨⟨by omega, by omega⟩, ?_⟩
 simp only [Int.toNat_natCast, c6t, hx]
 exact g9
theorem a4a (x : Nat) : Con Tryz.prog 131 [fl x, fI 0] (fB (b4b x)) := by
 refine b7 a7x rfl f5 ?_
 refine evx @a8r.eq_1 ?_
 refine a0 (q5 x) rfl ?_
 refine ev ?_
 exact a0V rfl (by decide) (by simp [look, b4b])
theorem a0T (x y : Nat) (hx : j7 x = false) (hy : j7 y = false) : Con Tryz.prog 170 [fl x, fl y] (fl (b1N x y)) := by
 refine b7 a3Z rfl f5 ?_
 refine evx @a3c.eq_1 ?_
 refine ⟨hx, hy, a3T _ _ _, ?_⟩
 exact a0V rfl (by decide) (by simp [look, b1N])
theorem a5Q (x y : Nat) : Con Tryz.prog 122 [fl x, fl y] (fl (a8L x y)) := by
 refine b7 a3a rfl f5 ?_
 refine evx @a10.eq_1 ?_
 refine a0 (t9 x) rfl ?_
 refine ev ?_
 unfold a8L
 by_cases hx : j7 x = true
 ·refine evx (And.intro hx true_or) ?_
  refine a0 (a7U) rfl ?_
  refine ev ?_
  exact g9
 have hx : j7 x = false := by simpa using hx
 refine evx hx ?_
 refine a0 (t9 y) rfl ?_
 refine ev ?_
 by_cases hy : j7 y = true
 ·refine evx (And.intro hy or_true) ?_
  refine a0 (a7U) rfl ?_
  refine ev ?_
  exact g9
 have hy : j7 y = false := by simpa using hy
 refine evx (And.intro hy or_self) ?_
 refine b9 (λh1 => ?_) (λh1 => ?_)
 ·refine evx h1 ?_
  exact g9
 refine evx h1 ?_
 refine b9 (λh2 => ?_) (λh2 => ?_)
 ·refine evx h2 ?_
  have e : cf 1 = 1 := by decide
  rw [e]
  refine a0 (a0T 1 y rfl hy) rfl ?_
  refine ev ?_
  exact g9
 refine evx h2 ?_
 refine b9 (λh3 => ?_) (λh3 => ?_)
 ·refine evx h3 ?_
  refine ⟨hx, P2 _, ?_⟩
  exact g9
 ·refine evx h3 ?_
  refine ⟨hx, P2 _, ?_⟩
  exact g9
theorem b0f (x y : Nat) : Con Tryz.prog 199 [fl x, fl y] (fl (a8L x y)) := by
 refine b7 a2c rfl f5 ?_
 refine evx @a1b.eq_1 ?_
 refine a0 (a5Q x y) rfl ?_
 refine ev ?_
 exact g9
theorem F6 (x : Nat) : Con Tryz.prog 148 [fl x] (fl (up x)) := by
 refine b7 b6U rfl f5 ?_
 refine evx @c4M.eq_1 ?_
 refine a0 (y3) rfl ?_
 refine ev ?_
 refine a0 (b0f x finf) rfl ?_
 refine ev ?_
 exact g9
theorem b7V (x : Nat) : Con Tryz.prog 261 [fl x] (fl (down x)) := by
 refine b7 b2d rfl f5 ?_
 refine evx @b6V.eq_1 ?_
 refine a0 (Q2) rfl ?_
 refine ev ?_
 refine a0 (b0f x s8) rfl ?_
 refine ev ?_
 exact g9
theorem a4N (x y : Nat) : Con Tryz.prog 59 [fl x, fl y] (fB (c6m x y)) := by
 refine b7 b11 rfl f5 ?_
 refine evx @b6F.eq_1 ?_
 cases h1 : fcmp .eq x y <;> simp only [c6m, h1, Bool.true_or, Bool.false_or]
 ·refine evx @a2C ?_
  cases h2 : j7 x <;> simp only [Bool.false_and, Bool.true_and]
  ·refine ev ?_
   exact g9
  ·refine evx @a2C ?_
   exact g9
 ·refine ev ?_
  exact g9
theorem q6 (x : Nat) : Con Tryz.prog 83 [fl x] (fB (p9 x)) := by
 refine b7 a9f rfl f5 ?_
 refine evx @b1m.eq_1 ?_
 refine a0 (t9 x) rfl ?_
 refine ev ?_
 cases h1 : j7 x <;> simp only [p9, h1, Bool.true_or, Bool.false_or, Bool.not_true, Bool.not_false, Bool.true_and, Bool.false_and]
 ·refine evx h1 ?_
  refine a0 (a4a x) rfl ?_
  refine ev ?_
  exact g9
 ·refine evx h1 ?_
  exact g9
theorem a7W (a : Nat × Nat) : Con Tryz.prog 82 [ivV a] (fB (fcmp .le a.1 a.2)) := by
 refine b7 b1g rfl f5 ?_
 refine evx @b3g.eq_1 ?_
 exact g9
theorem a2x : Con Tryz.prog 247 [] (ivV (s8, finf)) := by
 refine b7 b1c rfl f5 ?_
 refine evx @b3d.eq_1 ?_
 refine a0 (Q2) rfl ?_
 refine ev ?_
 refine a0 (y3) rfl ?_
 refine ev ?_
 exact f9 rfl (by decide) rfl rfl rfl (by simp) (by simp [ldv])
theorem a4W (lo hi : Nat) : Con Tryz.prog 201 [fl lo, fl hi] (ivV (F0 lo hi)) := by
 refine b7 b2c rfl f5 ?_
 refine evx @b6R.eq_1 ?_
 refine a0 (a7W (lo, hi)) rfl ?_
 refine ev ?_
 unfold F0
 refine b9 (λh => ?_) (λh => ?_)
 ·refine ev ?_
  rw [if_pos h]
  exact f9 rfl (by decide) rfl rfl rfl (by simp) (by simp [ldv])
 ·refine ev ?_
  refine a0 (a2x) rfl ?_
  refine ev ?_
  rw [if_neg (by simp [h])]
  exact f9 rfl (by decide) rfl rfl rfl (by simp) (by simp [ldv])
theorem a94 (x : Nat) : Con Tryz.prog 240 [fl x] (fl x) := by
 refine b7 b2b rfl f5 ?_
 refine evx @b6Q.eq_1 ?_
 exact g9
theorem a61 (lo hi : Nat) : Con Tryz.prog 239 [ivV (lo, hi), .d (.fn 240 [] [])] (ivV (F0 (down lo) (up hi))) := by
 refine b7 Z1 rfl f5 ?_
 refine evx @R1.eq_1 ?_
 refine d5 (a94 lo) rfl ?_
 refine ev ?_
 refine d5 (b7V lo) rfl ?_
 refine ev ?_
 refine a0 (a94 hi) rfl ?_
 refine ev ?_
 refine a0 (F6 hi) rfl ?_
 refine ev ?_
 refine a0 (a4W _ _) rfl ?_
 refine ev ?_
 exact f9 rfl (by decide) rfl rfl rfl (by simp) (by simp [ldv])
theorem D3 (a b : Nat × Nat) : Con Tryz.prog 190 [ivV a, ivV b] (ivV (z4 a b)) := by
 refine b7 b4U rfl f5 ?_
 refine evx @b9K.eq_1 ?_
 refine a0 (a61 (fop .sub a.1 b.2) (fop .sub a.2 b.1)) rfl ?_
 refine ev ?_
 exact f9 rfl (by decide) rfl rfl rfl (by simp) (by simp [ldv, z4])
theorem c6n (a b c d i : Nat) (h : i < 4) : ∃ x, [fl a, fl b, fl c, fl d].getD i .any = fl x /\ [a, b, c, d].drop i = x :: [a, b, c, d].drop (i + 1) := by
 rcases i with _ | _ | _ | _ | i
 ·exact ⟨a, rfl, rfl⟩
 ·exact ⟨b, rfl, rfl⟩
 ·exact ⟨c, rfl, rfl⟩
 ·exact ⟨d, rfl, rfl⟩
 ·omega
theorem a93 (a b c d : Nat) : Con Tryz.prog 252 [.agg [fl a, fl b, fl c, fl d]] (ivV (Y4 [a, b, c, d] a a)) := by
 generalize hR : Y4 [a, b, c, d] a a = R
 refine b7 b2a rfl f5 ?_
 refine evx @b6P.eq_1 ?_
 refine r5 (n := 4) (λn s => ∃ i lo hi, n + i = 4 /\ Y4 ([a, b, c, d].drop i) lo hi = R /\ s = ⟨[(2, .ptr 1 0 0 2), (3, .ptr 7 0 0 2), (11, .agg [fl a, fl b, fl c, fl d]), (12, fI i)], [(7, [[fl lo, fl hi]]), (1, [[fl 0, fl 0]]), (0, [[fl a, fl b, fl c, fl d]])]⟩) ⟨0, a, a, rfl, hR, rfl⟩ ?_
 rintro n s ⟨i, lo, hi, hn, hsp, rfl⟩
 refine evx @a8y.eq_1 ?_
 refine b9 (λh => ?_) (λh => ?_)
 ·have h : i < 4 := by have := d2b h; omega
  obtain ⟨x, hx, hd⟩ := c6n a b c d i h
  refine evx hx ?_
  refine ⟨by omega, by omega, ?_⟩
  refine a0 (t9 x) rfl ?_
  refine ev ?_
  rw [hd, Y4] at hsp
  refine b9 (λh1 => ?_) (λh1 => ?_)
  ·refine ev ?_
   refine a0 (a2x) rfl ?_
   refine ev ?_
   rw [if_pos h1] at hsp
   rw [<- hsp]
   exact f9 rfl (by decide) rfl rfl rfl (by simp) (by simp [ldv])
  ·rw [if_neg (by simp [h1])] at hsp
   refine ev ?_
   refine b9 (λh2 => ?_) (λh2 => ?_) <;> simp -implicitDefEqProofs only [evI, hv, effC, reduceCtorEq, ↓reduceIte, n1_, n2_, n3_, n4_, n5_, i1_, i2_, i3_, i4_, i5_, i6_, i7_]<;> refine b9 (λh3 => ?_) (λh3 => ?_) <;> simp -implicitDefEqProofs only [evI, hv, effC, reduceCtorEq, ↓reduceIte, n1_, n2_, n3_, n4_, n5_, i1_, i2_, i3_, i4_, i5_, i6_, i7_]<;> rw [f0 (by omega) (by omega)] <;> simp only [h2, h3, if_true, Bool.false_eq_true, if_false] at hsp <;>
    exact ⟨n - 1, by omega, i + 1, _, _, by omega, hsp, rfl⟩
 ·refine ev ?_
  have : i = 4 := by have := d2c h; omega
  subst this
  refine a0 (a61 lo hi) rfl ?_
  refine ev ?_
  have hsp : F0 (down lo) (up hi) = R := hsp
  rw [<- hsp]
  exact f9 rfl (by decide) rfl rfl rfl (by simp) (by simp [ldv])
theorem u8 (a b : Nat × Nat) : Con Tryz.prog 208 [ivV a, ivV b] (ivV (s9 a b)) := by
 refine b7 b4V rfl f5 ?_
 refine evx @b9L.eq_1 ?_
 refine a0 (a93 (fop .mul a.1 b.1) (fop .mul a.1 b.2) (fop .mul a.2 b.1) (fop .mul a.2 b.2)) rfl ?_
 refine ev ?_
 exact f9 rfl (by decide) rfl rfl rfl (by simp) (by simp [ldv, s9])
theorem a63 (x : Nat) : c6m x x = true := by
 simp only [c6m, b6b]; cases j7 x <;> rfl
theorem a4P (a : List Nat) (ha : a.length < 2 ^ 62) : Con Tryz.prog 58 [.d (rowD a), .d (rowD a)] (fB true) := by
 refine b7 b12 rfl f5 ?_
 refine evx @b6G.eq_1 ?_
 refine r5 (n := a.length) (λn s => ∃ i, n + i = a.length /\ s = ⟨[(0, .d (rowD a)), (1, .d (rowD a)), (5, fI i)], []⟩) ⟨0, rfl, rfl⟩ ?_
 rintro n s ⟨i, hn, rfl⟩
 refine evx @a8a.eq_1 ?_
 refine b9 (λh => ?_) (λh => ?_)
 ·replace h := d2b h
  refine ev ?_
  repeat with_reducible refine andO ?_
  refine a0 (a4N (a.getD i 0) (a.getD i 0)) rfl ?_
  rw [a63]
  refine ev ?_
  rw [f0 (by omega) (by omega)]
  exact ⟨n - 1, by omega, i + 1, by omega, rfl⟩
 ·refine ev ?_
  exact g9
theorem a1x (a : List (List Nat)) (ha : a.length < 2 ^ 62) (hr : ∀ i, i < a.length -> (a.getD i []).length < 2 ^ 62) : Con Tryz.prog 159 [.d (g6 a), .d (g6 a)] (fB true) := by
 refine b7 a8Y rfl f5 ?_
 refine evx @b0L.eq_1 ?_
 refine r5 (n := a.length) (λn s => ∃ i, n + i = a.length /\ s = ⟨[(0, .d (g6 a)), (1, .d (g6 a)), (5, fI i)], []⟩) ⟨0, rfl, rfl⟩ ?_
 rintro n s ⟨i, hn, rfl⟩
 refine evx @a4j.eq_1 ?_
 refine b9 (λh => ?_) (λh => ?_)
 ·replace h := d2b h
  refine ev ?_
  repeat with_reducible refine andO ?_
  refine a0 (a4P (a.getD i []) (hr i (by omega))) rfl ?_
  refine ev ?_
  rw [f0 (by omega) (by omega)]
  exact ⟨n - 1, by omega, i + 1, by omega, rfl⟩
 ·refine ev ?_
  exact g9
theorem b3r (a n : Int) (hn : 0 < n) : (if a.tmod n < 0 then a.tmod n + n else a.tmod n) = a % n := by
 have h1 := Int.tmod_lt_of_pos a hn
 have h2 : a.tmod n = a - n * (a.tdiv n) := by have := Int.mul_tdiv_add_tmod a n; omega
 have h3 : a % n = a - n * (a / n) := by have := Int.mul_ediv_add_emod a n; omega
 have h4 := d2m a (by omega : n ≠ 0)
 have h5 := d2k a hn
 have h6 : -n < a.tmod n := by
  have := Int.lt_tmod_of_pos a hn
  omega
 have e : a.tmod n % n = a % n := by
  rw [h2, Int.sub_mul_emod_self_left]
 split
 ·have : (a.tmod n + n) % n = a.tmod n + n := Int.emod_eq_of_lt (by omega) (by omega)
  rw [<- e, <- this, Int.add_emod_right]
 ·have : a.tmod n % n = a.tmod n := Int.emod_eq_of_lt (by omega) (by omega)
  rw [<- e, this]
end Go.Ab
namespace Go.Ab
open Nat renaming reduceEqDiff -> n1_, reduceAdd -> n2_, reduceMul -> n3_, reduceLT -> n4_, reduceLeDiff -> n5_
open Int renaming reduceToNat -> i1_, reduceAdd -> i2_, reduceSub -> i3_, reduceMul -> i4_, reduceNeg -> i5_, reduceLT -> i6_, reduceLE -> i7_
open Go Go.Proofs
def at2 (A : List (List Nat)) (i j : Nat) : Nat := (A.getD i []).getD j 0
def up2 (A : List (List Nat)) (i j v : Nat) : List (List Nat) := A.set i ((A.getD i []).set j v)
def Sq (n : Nat) (A : List (List Nat)) : Prop := A.length = n /\ ∀ i, i < n -> (A.getD i []).length = n
def pvP (A : List (List Nat)) (k : Nat) : Nat -> Nat
 | 0 => k
 | m + 1 => if fcmp .gt (fabs (at2 A (k + 1 + m) k)) (fabs (at2 A (pvP A k m) k)) = true then k + 1 + m else pvP A k m
theorem b8G (A : List (List Nat)) (k : Nat) : ∀ m, k <= pvP A k m /\ pvP A k m <= k + m := by
 intro m
 induction m with
 | zero => simp [pvP]
 | succ m ih => simp only [pvP]; split <;> omega
theorem b30 (A : List (List Nat)) (n k : Nat) (hA : Sq n A) (hk : k < n) (hn : n < 2 ^ 60) : Con Tryz.prog 230 [.d (g6 A), fI k] (fI (pvP A k (n - 1 - k))) := by
 obtain ⟨hl, hr⟩ := hA
 refine b7 a84 rfl f5 ?_
 refine evx @b01.eq_1 ?_
 rw [f0 (by omega) (by omega)]
 refine r5 (n := n) (λc s => ∃ m, c + m = n /\ k + 1 + m <= n /\ s = ⟨[(0, .d (g6 A)), (1, fI k), (5, fI (pvP A k m)), (6, fI (k + 1 + m : Nat))], []⟩) ⟨0, rfl, by omega, rfl⟩ ?_
 rintro c s ⟨m, hc, hm, rfl⟩
 have hp := b8G A k m
 refine evx @a4q.eq_1 ?_
 refine b9 (λh => ?_) (λh => ?_)
 ·replace h := d2b h
  have e1 := hr (k + 1 + m) (by omega)
  have e2 := hr (pvP A k m) (by omega)
  refine ev ?_
  repeat with_reducible refine andO ?_
  first | refine a0 (q5 (at2 A (k + 1 + m) k)) rfl ?_ | refine d7 (q5 (at2 A (k + 1 + m) k)) rfl ?_ | refine d5 (q5 (at2 A (k + 1 + m) k)) rfl ?_
  refine ev ?_
  repeat with_reducible refine andO ?_
  first | refine a0 (q5 (at2 A (pvP A k m) k)) rfl ?_ | refine d7 (q5 (at2 A (pvP A k m) k)) rfl ?_ | refine d5 (q5 (at2 A (pvP A k m) k)) rfl ?_
  refine ev ?_
  refine b9 (λh2 => ?_) (λh2 => ?_)
  ·refine ev ?_
   rw [f0 (by omega) (by omega)]
   refine ⟨c - 1, by omega, m + 1, by omega, by omega, ?_⟩
   simp only [pvP, h2, if_true]; rfl
  ·refine ev ?_
   rw [f0 (by omega) (by omega)]
   refine ⟨c - 1, by omega, m + 1, by omega, by omega, ?_⟩
   simp only [pvP, h2, if_false, Bool.false_eq_true]; rfl
 ·replace h := d2c h
  refine ev ?_
  have : m = n - 1 - k := by omega
  subst this
  exact g9
theorem c0C (A : List (List Nat)) (n : Nat) (hA : Sq n A) (hn : n < 2 ^ 40) :
  AC Tryz.prog 229 [.d (g6 A)] [] [(100, A.map rowV), (2, [hd 100 n n n])] (.sl 2 0 0 n 1 n) := by
 obtain ⟨hl, hr⟩ := hA
 subst hl
 refine k9 X0 rfl f5 (λ_ => False) (by simp [g5]) ?_
 refine evx @M7.eq_1 ?_
 repeat with_reducible refine andO ?_
 refine j5 (n := A.length) (λc s => ∃ i, c + i = A.length /\ s = ⟨[(3, .sl 2 0 0 A.length 1 A.length), (9, .d (g6 A)), (10, fI A.length), (11, fI i)], [(100, (A.take i).map rowV), (2, [hd 100 A.length i A.length])]⟩) (s0 := ⟨_, _⟩) ?_ ⟨0, rfl, rfl⟩ ?_
 ·rw [b7U]
  exact LeT.empty (L1 := []) (by simp [d6, d9])
 rintro c s ⟨i, hc, rfl⟩
 refine evx @F9.eq_1 ?_
 refine b9 (λh => ?_) (λh => ?_)
 ·replace h := d2b h
  refine ev ?_
  repeat with_reducible refine andO ?_
  have e1 := hr i h
  simp -implicitDefEqProofs only [evI, hv, effC, reduceCtorEq, ↓reduceIte, n1_, n2_, n3_, n4_, n5_, i1_, i2_, i3_, i4_, i5_, i6_, i7_, P6, V4, b2H _ _ _ _ _ h]
  repeat with_reducible refine andO ?_
  rw [s4 _ _ (by simp), f0 (by omega) (by omega)]
  refine ⟨c - 1, _, by omega, LeT.absorb (by decide) rfl rfl (λh => h), i + 1, by omega, ?_⟩
  have e2 : ((A.take i).map rowV).length = i := by simp; omega
  rw [e2, a2n, d2r (l := rowV (A.getD i [])) (by simp), Z5, a9k A i h]
  simp only [renS, Heap.renH, a4L _ _ _ _ _ _ _ _ _ (by decide : (2 : Nat) ≠ 105), c75, List.map_cons, List.map_nil, e1, a98 105 100 _ _ _ (by decide) h]
  rfl
 ·replace h := d2c h
  obtain rfl : i = A.length := by omega
  refine ev ?_
  refine a3Q (λ_ h => h) (by simp only [ResV]; rw [b3D (by decide)]; rfl) (by simp) (.sl (by simp [d8]) rfl) λX q cells hX j hj => ?_
  rw [d8, d8, g5] at hX
  split at hX
  ·rw [List.getElem?_map] at hX
   obtain ⟨xs, h1, rfl⟩ := Option.map_eq_some_iff.1 hX
   exact c8C _ _ _ _
  ·split at hX
   ·rcases q with _ | q
    ·simp at hX; subst hX
     exact d1z _ _ _ _ (λr hr => by simp [d8, hr]) _
    ·simp at hX
   ·cases hX
theorem b31 (A : List (List Nat)) (n : Nat) (hA : Sq n A) (hn : n < 2 ^ 40) :
  AC Tryz.prog 229 [.d (g6 A)] [] [(0, hdo 0 1 n n :: A.map rowV)] (.sl 0 0 0 n 1 n) := by
 have hl := hA.1
 refine c61 (c0C A n hA hn) (Le.ren (sl := [.sl 2 0 0 n 1 n]) (λX r => if X = 100 then (0, r + 1) else (0, 0)) (λ_ r => if r = 0 then (2, 0) else (100, r - 1)) ?_ ?_ (λ_ _ h => h.elim))
 ·intro X r c h
  rw [d8, d8, g5] at h
  split at h
  ·rename_i e; subst e
   rw [List.getElem?_map] at h
   obtain ⟨xs, h1, rfl⟩ := Option.map_eq_some_iff.1 h
   simp [d8, h1, Z5, V.ren]
  ·split at h
   ·rename_i e e2
    rcases r with _ | r
    ·simp at h; subst h
     simp only [e, if_false, d8, if_true, List.getElem?_cons_zero]
     refine ⟨?_, by simp [e2]⟩
     rw [d0p _ 100 0 1 n n (λj hj => by simp)]
    ·simp at h
   ·cases h
 ·intro X r c h
  rw [d8, g5] at h
  split at h
  ·rename_i e; subst e
   rcases r with _ | r
   ·simp [d8]
   ·simp only [List.getElem?_cons_succ, List.getElem?_map] at h
    obtain ⟨xs, h1, rfl⟩ := Option.map_eq_some_iff.1 h
    simp [d8, h1]
  ·cases h
theorem c3Z (nm n len : Nat) (A : List (List Nat)) : Y8 nm (hdo 0 1 n len :: A.map rowV) = hdo nm 1 n len :: A.map rowV := by
 have := a2n (toF nm) A
 simp only [Y8, List.map_cons]
 rw [b4f _ 0 1 n len nm 1 (λj hj => rfl), this]
def b1L (A : List (List Nat)) (i k : Nat) : Nat -> List (List Nat)
 | 0 => A
 | m + 1 => up2 (b1L A i k m) i (k + 1 + m) (fop .sub (at2 (b1L A i k m) i (k + 1 + m)) (fop .mul (at2 (b1L A i k m) i k) (at2 (b1L A i k m) k (k + 1 + m))))
def c34 (A : List (List Nat)) (n i k : Nat) : List (List Nat) := b1L (up2 A i k (fop .div (at2 A i k) (at2 A k k))) i k (n - 1 - k)
def b6f (A : List (List Nat)) (n k : Nat) : Nat -> List (List Nat)
 | 0 => A
 | m + 1 => c34 (b6f A n k m) n (k + 1 + m) k
def a5y {α : Type} (d : α) (l : List α) (i j : Nat) : List α := (l.set i (l.getD j d)).set j (l.getD i d)
def c1Z (n k : Nat) (s : List (List Nat) × List Int) : Option (List (List Nat) × List Int) :=
 let p := pvP s.1 k (n - 1 - k)
 if fcmp .eq (at2 s.1 p k) 0 = true \/ p9 (at2 s.1 p k) = false then none
 else some (b6f (a5y [] s.1 k p) n k (n - 1 - k), a5y 0 s.2 k p)
def K4 (A : List (List Nat)) (n : Nat) : Nat -> Option (List (List Nat) × List Int)
 | 0 => some (A, (List.range n).map λ(i : Nat) => (i : Int))
 | m + 1 => (K4 A n m).bind (c1Z n m)
def b3N (i : Nat) (n : Nat) : List Int := (List.range n).map λ(j : Nat) => if j < i then (j : Int) else 0
def a17 (B : List (List Nat)) (π : List Int) (n : Nat) : Heap :=
 [(7, [[.sl 2 0 0 n 1 n, .sl 5 0 0 n 1 n]]), (5, [k7 π]), (2, hdo 2 1 n n :: B.map rowV), (0, [[.nil, .nil]])]
theorem c2D (i n : Nat) (h : i < n) : (b3N i n).set i (i : Int) = b3N (i + 1) n := by
 refine List.ext_getElem? λj => ?_
 simp only [b3N, List.getElem?_set, List.length_map, List.length_range, List.getElem?_map]
 by_cases h1 : i = j
 ·subst h1; simp [h]
 ·by_cases h2 : j < n
  ·have h3 : (List.range n)[j]? = some j := by simp [h2]
   rw [h3, if_neg h1]
   simp only [Option.map_some]
   by_cases h4 : j < i
   ·rw [if_pos h4, if_pos (by omega)]
   ·rw [if_neg h4, if_neg (by omega)]
  ·have h3 : (List.range n)[j]? = none := by simp; omega
   rw [h3, if_neg h1]; rfl
theorem c2F (n : Nat) : b3N n n = (List.range n).map λ(j : Nat) => (j : Int) := by
 refine List.map_congr_left λj hj => ?_
 rw [if_pos (by simpa using hj)]
theorem c0k (n : Nat) : List.replicate n 0 = b3N 0 n := by
 refine List.ext_getElem? λj => ?_
 by_cases h : j < n <;> simp [b3N, h]
theorem c2E (i n : Nat) : (b3N i n).length = n := by simp [b3N]
theorem b4p (A : List (List Nat)) (n i k : Nat) (hA : Sq n A) : ∀ m, Sq n (b1L A i k m) := by
 have up : ∀ (B : List (List Nat)) (i j v : Nat), Sq n B -> Sq n (up2 B i j v) := by
  intro B i j v hB
  refine ⟨by simp [up2, hB.1], λr hr => ?_⟩
  have := hB.2 r hr
  simp only [up2, d2d, List.getElem?_set]
  by_cases e : i = r
  ·subst e
   rw [if_pos rfl]
   split
   ·simpa [d2d] using this
   ·rename_i h; exact absurd (hB.1 ▸ hr) h
  ·rw [if_neg e]; simpa [d2d] using this
 intro m
 induction m with
 | zero => exact hA
 | succ m ih => exact up _ _ _ _ ih
theorem c65 (B : List (List Nat)) (n i j v : Nat) (hB : Sq n B) : Sq n (up2 B i j v) := by
 have := b4p B n i j hB 0
 refine ⟨by simp [up2, hB.1], λr hr => ?_⟩
 have := hB.2 r hr
 simp only [up2, d2d, List.getElem?_set]
 by_cases e : i = r
 ·subst e
  rw [if_pos rfl]
  split
  ·simpa [d2d] using this
  ·rename_i h; exact absurd (hB.1 ▸ hr) h
 ·rw [if_neg e]; simpa [d2d] using this
theorem b9n (A : List (List Nat)) (n k : Nat) (hA : Sq n A) : ∀ m, Sq n (b6f A n k m) := by
 intro m
 induction m with
 | zero => exact hA
 | succ m ih => exact b4p _ _ _ _ (c65 _ _ _ _ _ ih) _
theorem b8w (A : List (List Nat)) (n i j : Nat) (hA : Sq n A) (hi : i < n) (hj : j < n) : Sq n (a5y [] A i j) := by
 refine ⟨by simp [a5y, hA.1], λr hr => ?_⟩
 have h1 := hA.2 i hi
 have h2 := hA.2 j hj
 have h3 := hA.2 r hr
 have hl := hA.1
 simp only [d2d] at h1 h2 h3
 simp only [a5y, d2d, List.getElem?_set, List.length_set]
 by_cases e : j = r
 ·subst e; simp [hl, hj]; simpa using h1
 ·rw [if_neg e]
  by_cases e2 : i = r
  ·subst e2; simp [hl, hi]; simpa using h2
  ·rw [if_neg e2]; exact h3
theorem b8L (A : List (List Nat)) (n : Nat) (hA : Sq n A) : ∀ m, m <= n -> ∀ B π, K4 A n m = some (B, π) -> Sq n B /\ π.length = n := by
 intro m
 induction m with
 | zero => intro _ B π h; simp only [K4, Option.some.injEq, Prod.mk.injEq] at h; obtain ⟨rfl, rfl⟩ := h; exact ⟨hA, by simp⟩
 | succ m ih =>
  intro hm B π h
  simp only [K4, Option.bind_eq_some_iff] at h
  obtain ⟨⟨C, σ⟩, h1, h2⟩ := h
  obtain ⟨h3, h4⟩ := ih (by omega) C σ h1
  simp only [c1Z] at h2
  split at h2
  ·cases h2
  ·simp only [Option.some.injEq, Prod.mk.injEq] at h2
   obtain ⟨rfl, rfl⟩ := h2
   have := b8G C m (n - 1 - m)
   exact ⟨b9n _ _ _ (b8w _ _ _ _ h3 (by omega) (by omega)) _, by simp [a5y, h4]⟩
theorem c0m (A : List (List Nat)) (n m : Nat) (h : K4 A n m = none) : ∀ d, K4 A n (m + d) = none := by
 intro d
 induction d with
 | zero => exact h
 | succ d ih => show (K4 A n (m + d)).bind _ = none; rw [ih]; rfl
theorem c6f (X n len k p : Nat) (hk : k < n) (hp : p < n) :
  (((hdo X 1 n len).set k (.sl X (p + 1) 0 len 1 len)).set p (.sl X (k + 1) 0 len 1 len)).map (V.ren (swF X (k + 1) (p + 1))) = hdo X 1 n len := by
 refine List.ext_getElem? λj => ?_
 simp only [List.getElem?_map, List.getElem?_set, List.length_set, y8]
 have hj : ∀ j, j < n -> (hdo X 1 n len)[j]? = some (.sl X (j + 1) 0 len 1 len) := λj hj => by simp [hdo, hj]
 by_cases h1 : p = j
 ·subst h1
  rw [if_pos rfl, if_pos hp, hj p hp]
  simp [V.ren, swF]
 ·rw [if_neg h1]
  by_cases h2 : k = j
  ·subst h2
   rw [if_pos rfl, if_pos hk, hj k hk]
   have : ¬ p = k := h1
   simp [V.ren, swF, this]
  ·rw [if_neg h2]
   by_cases h3 : j < n
   ·rw [hj j h3]
    have a : ¬ j = k := λe => h2 e.symm
    have b : ¬ j = p := λe => h1 e.symm
    simp [V.ren, swF, a, b]
   ·have : (hdo X 1 n len)[j]? = none := by simp [hdo]; omega
    rw [this]; rfl
theorem c2G (N : Nat -> Prop) (hN : ∀ Y, ¬ N Y) (nt n k p : Nat) (B : List (List Nat)) (π : List Int) (sls : Sl) (hl : B.length = n) (hk : k < n) (hp : p < n) (has : renS (swF 2 (k + 1) (p + 1)) sls = sls) :
  Le N (T.s nt ⟨sls, [(7, [[.sl 2 0 0 n 1 n, .sl 5 0 0 n 1 n]]), (5, [k7 π]), (2, ((hdo 2 1 n n).set k (.sl 2 (p + 1) 0 n 1 n)).set p (.sl 2 (k + 1) 0 n 1 n) :: B.map rowV), (0, [[.nil, .nil]])]⟩)
   (T.s nt ⟨sls, a17 (a5y [] B k p) π n⟩) := by
 have : Le N (T.s nt ⟨sls, [(7, [[.sl 2 0 0 n 1 n, .sl 5 0 0 n 1 n]]), (5, [k7 π]), (2, ((hdo 2 1 n n).set k (.sl 2 (p + 1) 0 n 1 n)).set p (.sl 2 (k + 1) 0 n 1 n) :: B.map rowV), (0, [[.nil, .nil]])]⟩) _ :=
  LeT.swap (X := 2) (a := k + 1) (b := p + 1)
   (fam := ((hdo 2 1 n n).set k (.sl 2 (p + 1) 0 n 1 n)).set p (.sl 2 (k + 1) 0 n 1 n) :: B.map rowV) (ca := rowV (B.getD k [])) (cb := rowV (B.getD p []))
   (by simp [d6]) (by rw [List.getElem?_cons_succ]; exact getE B k (by omega)) (by rw [List.getElem?_cons_succ]; exact getE B p (by omega)) hN
 rw [has] at this
 refine (Eq.subst (motive := λH => Le N _ (T.s nt ⟨sls, H⟩)) ?_ this)
 have e := c6f 2 n n k p hk hp
 simp only [b2n, Heap.renH, List.map_cons, List.map_nil, List.set_cons_succ, setE, a17, a5y, a9F, a2n, Nat.reduceEqDiff, ↓reduceIte, e]
 simp [V.ren, swF]
theorem c79 (N : Nat -> Prop) (hN : ∀ Y, ¬ N Y) (n k i : Nat) (D : List (List Nat)) (σ : List Int) (hn : n < 2 ^ 40) (hD : Sq n D) (hk : k < i) (hi : i < n) (Q : Ex -> T -> Prop)
  (hQ : ∀ v w, Q (.exit 6) ⟨[(2, .ptr 0 0 0 2), (4, .ptr 7 0 0 2), (6, fI k), (9, fI i), (10, v), (31, fI n), (32, fI k), (130, w)], a17 (b1L D i k (n - 1 - k)) σ n⟩) :
  WA Tryz.prog N 168 (.loop a1N) Q ⟨[(2, .ptr 0 0 0 2), (4, .ptr 7 0 0 2), (6, fI k), (9, fI i), (10, fI (k + 1 : Nat)), (31, fI n), (32, fI k)], a17 D σ n⟩ := by
 refine r5 (n := n) (λc3 s => ∃ q, c3 + q = n /\ k + 1 + q <= n /\ s = ⟨[(2, .ptr 0 0 0 2), (4, .ptr 7 0 0 2), (6, fI k), (9, fI i), (10, fI (k + 1 + q : Nat)), (31, fI n), (32, fI k)],
  a17 (b1L D i k q) σ n⟩) ⟨0, rfl, by omega, rfl⟩ ?_
 rintro c3 s ⟨q, hc3, hq, rfl⟩
 obtain ⟨hEl, hEr⟩ := b4p _ n i k hD q
 generalize hE : b1L D i k q = E at hEl hEr
 refine evx (And.intro @a1N.eq_1 @a17.eq_1) ?_
 refine b9 (λh6 => ?_) (λh6 => ?_)
 ·replace h6 := d2b h6
  have hj : k + 1 + q < n := by omega
  have hkn : k < n := by omega
  have g1 := hEr i hi
  have g2 := hEr k hkn
  have e7 : k + 1 + q < (E.getD i []).length := by omega
  have e8 : k + 1 + q < (E.getD k []).length := by omega
  have e9 : k < (E.getD i []).length := by omega
  have hEk : k < E.length := by omega
  have hEi : i < E.length := by omega
  simp -implicitDefEqProofs only [evI, hv, effC, reduceCtorEq, ↓reduceIte, n1_, n2_, n3_, n4_, n5_, i1_, i2_, i3_, i4_, i5_, i6_, i7_, u6 _ _ _ _ _ hi, u6 _ _ _ _ _ hkn, getE E _ hEk, getE E _ hEi, j8 _ _ e7, j8 _ _ e8, j8 _ _ e9, setE]
  repeat with_reducible refine andO ?_
  rw [f0 (by omega) (by omega)]
  refine ⟨c3 - 1, by omega, q + 1, by omega, by omega, ?_⟩
  simp only [b1L, hE]
  rfl
 ·replace h6 := d2c h6
  refine ev ?_
  have : n - 1 - k = q := by omega
  subst this
  rw [hE] at hQ
  exact hQ _ _
theorem c8a (N : Nat -> Prop) (hN : ∀ Y, ¬ N Y) (n k : Nat) (C : List (List Nat)) (σ : List Int) (hn : n < 2 ^ 40) (hC : Sq n C) (hk : k < n) (Q : Ex -> T -> Prop)
  (hQ : ∀ v w, Q (.exit 4) ⟨[(2, .ptr 0 0 0 2), (4, .ptr 7 0 0 2), (6, fI k), (9, v), (31, fI n), (32, fI k), (97, w)], a17 (b6f C n k (n - 1 - k)) σ n⟩) :
  WA Tryz.prog N 168 (.loop a1P) Q ⟨[(2, .ptr 0 0 0 2), (4, .ptr 7 0 0 2), (6, fI k), (9, fI (k + 1 : Nat)), (31, fI n), (32, fI k)], a17 C σ n⟩ := by
 refine r5 (n := n) (λc2 s => ∃ m, c2 + m = n /\ k + 1 + m <= n /\ s = ⟨[(2, .ptr 0 0 0 2), (4, .ptr 7 0 0 2), (6, fI k), (9, fI (k + 1 + m : Nat)), (31, fI n), (32, fI k)], a17 (b6f C n k m) σ n⟩) ⟨0, rfl, by omega, rfl⟩ ?_
 rintro c2 s ⟨m, hc2, hm, rfl⟩
 have hDs := b9n C n k hC m
 have ⟨hDl, hDr⟩ := hDs
 generalize hD : b6f C n k m = D at hDs hDl hDr
 refine evx (And.intro @a1P.eq_1 @a17.eq_1) ?_
 refine b9 (λh5 => ?_) (λh5 => ?_)
 ·replace h5 := d2b h5
  have hi : k + 1 + m < n := by omega
  have f1 := hDr (k + 1 + m) hi
  have f2 := hDr k hk
  have e5 : k < (D.getD k []).length := by omega
  have e6 : k < (D.getD (k + 1 + m) []).length := by omega
  have hDk : k < D.length := by omega
  have hDi : k + 1 + m < D.length := by omega
  simp -implicitDefEqProofs only [evI, hv, effC, reduceCtorEq, ↓reduceIte, n1_, n2_, n3_, n4_, n5_, i1_, i2_, i3_, i4_, i5_, i6_, i7_, u6 _ _ _ _ _ hi, u6 _ _ _ _ _ hk, getE D _ hDk, getE D _ hDi, j8 _ _ e5, j8 _ _ e6, setE]
  repeat with_reducible refine andO ?_
  rw [f0 (by omega) (by omega)]
  refine c79 N hN n k (k + 1 + m) (up2 D (k + 1 + m) k (fop .div (at2 D (k + 1 + m) k) (at2 D k k))) σ hn (c65 D n _ k _ hDs) (by omega) hi _ λv w => ?_
  refine ev ?_
  rw [f0 (by omega) (by omega)]
  refine ⟨c2 - 1, by omega, m + 1, by omega, by omega, ?_⟩
  simp only [b6f, c34, hD]
  rfl
 ·replace h5 := d2c h5
  refine ev ?_
  have : n - 1 - k = m := by omega
  subst this
  rw [hD] at hQ
  exact hQ _ _
set_option maxHeartbeats 1000000 in
theorem c8b (N : Nat -> Prop) (hN : ∀ Y, ¬ N Y) (n : Nat) (A : List (List Nat)) (hA : Sq n A) (hn : n < 2 ^ 40) (Q : Ex -> T -> Prop)
  (h1 : ∀ B π v w, K4 A n n = some (B, π) -> Sq n B -> π.length = n -> Q (.exit 2) ⟨[(2, .ptr 0 0 0 2), (4, .ptr 7 0 0 2), (31, fI n), (32, v), (33, w)], a17 B π n⟩)
  (h2 : ∀ s : T, K4 A n n = none -> s.sl = [(2, .ptr 0 0 0 2), (3, fB false)] -> s.L.get 0 0 = some [.nil, .nil] -> Q .ret s) :
  WA Tryz.prog N 168 (.loop a1Q) Q ⟨[(2, .ptr 0 0 0 2), (4, .ptr 7 0 0 2), (31, fI n), (32, fI 0)], a17 A ((List.range n).map λ(j : Nat) => (j : Int)) n⟩ := by
 have hr := hA.2
 have hn' := hA.1
 refine j5 (n := n) (λc s => ∃ k B π, c + k = n /\ K4 A n k = some (B, π) /\ s = ⟨[(2, .ptr 0 0 0 2), (4, .ptr 7 0 0 2), (31, fI n), (32, fI k)], a17 B π n⟩) (s0 := ⟨_, _⟩) (.refl _) ⟨0, A, _, rfl, rfl, rfl⟩ ?_
 rintro c s ⟨k, B, π, hc, hp, rfl⟩
 obtain ⟨⟨hBl, hBr⟩, hπ⟩ := b8L A n ⟨hn', hr⟩ k (by omega) B π hp
 refine evx (And.intro @a1Q.eq_1 @a17.eq_1) ?_
 refine b9 (λh => ?_) (λh => ?_)
 ·replace h := d2b h
  refine ev ?_
  repeat with_reducible refine andO ?_
  have hpv := b8G B k (n - 1 - k)
  generalize hpp : pvP B k (n - 1 - k) = p at hpv
  have e1 := hBr p (by omega)
  refine b2Q (us := [.d (g6 B), fI k]) (b30 B n k ⟨hBl, hBr⟩ h (by omega)) rfl ?_ (.int _ _) ?_
  ·intro j hj
   rcases j with _ | _ | j
   ·exact b3w (X := 2) (o := 1) (by simp [d8]) (λr hr => ⟨by simp [d8, getE B r (by omega)], hBr r hr⟩) hBl rfl
   ·exact .d _
   ·simp at hj; omega
  rw [hpp]
  have hpn : p < n := by omega
  have e2 : k < (B.getD p []).length := by omega
  simp -implicitDefEqProofs only [evI, hv, effC, reduceCtorEq, ↓reduceIte, n1_, n2_, n3_, n4_, n5_, i1_, i2_, i3_, i4_, i5_, i6_, i7_, u6 _ _ _ _ _ hpn, getE B p (by omega), j8 _ _ e2]
  repeat with_reducible refine andO ?_
  have none_of : (fcmp .eq (at2 B p k) 0 = true \/ p9 (at2 B p k) = false) -> K4 A n n = none := by
   intro hd
   have e : K4 A n (k + 1) = none := by
    simp only [K4, hp, Option.bind_some, c1Z, hpp]
    rw [if_pos hd]
   have := c0m A n (k + 1) e (n - (k + 1))
   rwa [show k + 1 + (n - (k + 1)) = n from by omega] at this
  cases hz : fcmp .eq ((B.getD p []).getD k 0) 0
  case true =>
   refine ev ?_
   exact h2 _ (none_of (.inl hz)) rfl (by simp [d8])
  case false =>
   refine ev ?_
   first | refine a0 (q6 (at2 B p k)) rfl ?_ | refine d7 (q6 (at2 B p k)) rfl ?_ | refine d5 (q6 (at2 B p k)) rfl ?_
   refine ev ?_
   cases hf : p9 (at2 B p k)
   ·refine ev ?_
    exact h2 _ (none_of (.inr hf)) rfl (by simp [d8])
   ·have e3 : k < π.length := by omega
    have e4 : p < π.length := by omega
    simp -implicitDefEqProofs only [evI, hv, effC, reduceCtorEq, ↓reduceIte, n1_, n2_, n3_, n4_, n5_, i1_, i2_, i3_, i4_, i5_, i6_, i7_, u6 _ _ _ _ _ hpn, u6 _ _ _ _ _ h, a3L _ _ e3, a3L _ _ e4]
    repeat with_reducible refine andO ?_
    generalize hσ : a5y 0 π k p = σ
    have hσ' : (π.set k (π.getD p 0)).set p (π.getD k 0) = σ := hσ
    rw [hσ', f0 (by omega) (by omega)]
    have hσl : σ.length = n := by rw [<- hσ]; simp [a5y, hπ]
    have hCs := b8w B n k p ⟨hBl, hBr⟩ h hpn
    have hstep : K4 A n (k + 1) = some (b6f (a5y [] B k p) n k (n - 1 - k), σ) := by
     simp only [K4, hp, Option.bind_some, c1Z, hpp, hσ]
     rw [if_neg]
     rintro (e | e)
     ·exact absurd (hz.symm.trans e) (by simp)
     ·exact absurd (hf.symm.trans e) (by simp)
    refine c6M (c2G N hN 168 n k p B σ _ hBl h hpn (by simp [renS, V.ren, swF])) ?_
    generalize a5y [] B k p = C at hCs hstep
    refine c8a N hN n k C σ hn hCs h _ λv w => ?_
    refine ev ?_
    rw [f0 (by omega) (by omega)]
    exact ⟨c - 1, _, by omega, .refl _, k + 1, _, σ, by omega, hstep, rfl⟩
 ·replace h := d2c h
  obtain rfl : n = k := by omega
  refine ev ?_
  exact h1 B π _ _ hp ⟨hBl, hBr⟩ hπ
theorem a5U (A : List (List Nat)) (n : Nat) (hA : Sq n A) (hn : n < 2 ^ 40) (Q : Ex -> T -> Prop)
  (h1 : ∀ B π, K4 A n n = some (B, π) -> Sq n B -> π.length = n -> Q .ret ⟨[(2, .ptr 0 0 0 2), (3, fB true)], [(7, [[.sl 2 0 0 n 1 n, .sl 5 0 0 n 1 n]]), (5, [k7 π]), (2, hdo 2 1 n n :: B.map rowV), (0, [[.sl 2 0 0 n 1 n, .sl 5 0 0 n 1 n]])]⟩)
  (h2 : ∀ s : T, K4 A n n = none -> s.sl = [(2, .ptr 0 0 0 2), (3, fB false)] -> s.L.get 0 0 = some [.nil, .nil] -> Q .ret s) :
  xC Tryz.prog (λ_ => False) 168 a7z Q ⟨argSl 0 [.d (g6 A)], []⟩ := by
 obtain ⟨hl, hr⟩ := hA
 subst hl
 generalize hn' : A.length = n at *
 refine evx @a7z.eq_1 ?_
 refine b6s (b31 A n ⟨hn', hr⟩ hn) rfl rfl ?_
 rw [c3Z]
 simp -implicitDefEqProofs only [evI, hv, effC, reduceCtorEq, ↓reduceIte, n1_, n2_, n3_, n4_, n5_, i1_, i2_, i3_, i4_, i5_, i6_, i7_, V.ren, toF, hn']
 repeat with_reducible refine andO ?_
 refine j5 (n := n) (λc s => ∃ i, c + i = n /\ s = ⟨[(2, .ptr 0 0 0 2), (4, .ptr 7 0 0 2), (19, fI n), (20, fI i)], a17 A (b3N i n) n⟩) (s0 := ⟨_, _⟩) (.refl _) ⟨0, rfl, ?_⟩ ?_
 ·simp only [a17, c0k]; rfl
 ·rintro c s ⟨i, hc, rfl⟩
  refine evx (And.intro @a6G.eq_1 @a17.eq_1) ?_
  refine b9 (λh => ?_) (λh => ?_)
  ·replace h := d2b h
   refine ev ?_
   have hpl := c2E i n
   repeat with_reducible refine andO ?_
   rw [f0 (by omega) (by omega)]
   refine ⟨c - 1, _, by omega, .refl _, i + 1, by omega, ?_⟩
   rw [c2D i n h]; rfl
  ·replace h := d2c h
   obtain rfl : n = i := by omega
   refine ev ?_
   rw [c2F]
   refine c8b _ (λ_ h => h) n A ⟨hn', hr⟩ hn _ (λB π v w hp hB hπ => ?_) (λs hs e1 e2 => ?_)
   ·refine evx @a17.eq_1 ?_
    exact h1 B π hp hB hπ
   ·refine ev ?_
    exact h2 s hs e1 e2
abbrev luV (n : Nat) : V := .agg [.sl 2 0 0 n 1 n, .sl 5 0 0 n 1 n]
def luH (B : List (List Nat)) (π : List Int) (n : Nat) : Heap :=
 [(7, [[.sl 2 0 0 n 1 n, .sl 5 0 0 n 1 n]]), (5, [k7 π]), (2, hdo 2 1 n n :: B.map rowV), (0, [[.sl 2 0 0 n 1 n, .sl 5 0 0 n 1 n]])]
theorem b33 (A : List (List Nat)) (n : Nat) (hA : Sq n A) (hn : n < 2 ^ 40) (B : List (List Nat)) (π : List Int) (h : K4 A n n = some (B, π)) :
  AC Tryz.prog 181 [.d (g6 A)] [] (luH B π n) (.tup [luV n, fB true]) := by
 refine k9 a3f rfl f5 (λ_ => False) (by simp [g5]) (a5U A n hA hn _ (λB' π' h' hB hπ => ?_) (λs h' _ _ => ?_))
 ·obtain ⟨rfl, rfl⟩ : B = B' /\ π = π' := by rw [h] at h'; simpa using h'
  refine a3Q (λ_ h => h) ⟨luV n, fB true, K1 (by decide) rfl (cells := [.sl 2 0 0 n 1 n, .sl 5 0 0 n 1 n]) (by simp [d8]) rfl (by simp) (by simp [ldv]), f8 (t := 3) (by decide) rfl, rfl⟩ rfl ?_ (a60 λX q cells hX v hv => ?_)
  ·refine .tup rfl λj hj => ?_
   rcases j with _ | _ | j
   ·refine .agg rfl λj hj => ?_
    rcases j with _ | _ | j
    ·exact .sl (by simp [luH, d8]) rfl
    ·exact .sl (by simp [luH, d8]) rfl
    ·simp at hj; omega
   ·exact .d (.d _)
   ·simp at hj; omega
  ·have cell : ∀ v ∈ [V.sl 2 0 0 n 1 n, .sl 5 0 0 n 1 n], LeV (luH B π n) (luH B π n) (λX q => (X, q)) v v := by
    intro v hv
    rcases List.mem_cons.1 hv with rfl | hv
    ·exact .sl (by simp [luH, d8]) rfl
    ·rcases List.mem_cons.1 hv with rfl | hv
     ·exact .sl (by simp [luH, d8]) rfl
     ·cases hv
   unfold luH at hX
   simp only [d8, g5] at hX
   split at hX
   ·rcases q with _ | q <;> simp at hX; subst hX; exact cell v hv
   ·split at hX
    ·rcases q with _ | q <;> simp at hX; subst hX; exact b5T hv _ _ _
    ·split at hX
     ·rcases q with _ | q
      ·simp at hX; subst hX
       exact c8v hv λr hr => by have := hB.1; simp [luH, d8]; omega
      ·simp only [List.getElem?_cons_succ, List.getElem?_map] at hX
       obtain ⟨xs, _, rfl⟩ := Option.map_eq_some_iff.1 hX
       exact a5N hv _ _ _
     ·split at hX
      ·rcases q with _ | q <;> simp at hX; subst hX; exact cell v hv
      ·cases hX
 ·rw [h] at h'; cases h'
theorem b5W (A : List (List Nat)) (n : Nat) (hA : Sq n A) (hn : n < 2 ^ 40) (h : K4 A n n = none) :
  AC Tryz.prog 181 [.d (g6 A)] [] [] (.tup [.agg [.nil, .nil], fB false]) := by
 refine k9 a3f rfl f5 (λ_ => False) (by simp [g5]) (a5U A n hA hn _ (λB' π' h' hB hπ => ?_) (λs h' e1 e2 => ?_))
 ·rw [h] at h'; cases h'
 ·refine ⟨.tup [.agg [.nil, .nil], fB false], λX r => (X, r), ⟨.agg [.nil, .nil], fB false, K1 (by decide) (by rw [e1]; rfl) e2 rfl (by simp) (by simp [ldv]), f8 (t := 3) (by decide) (by rw [e1]; rfl), rfl⟩, .fin (.tup rfl λj hj => ?_)⟩
  rcases j with _ | _ | j
  ·refine .agg rfl λj hj => ?_
   rcases j with _ | _ | j
   ·exact .nil
   ·exact .nil
   ·simp at hj; omega
  ·exact .d (.d _)
  ·simp at hj; omega
def fJ (A : List (List Nat)) (i : Nat) (x : List Nat) : Nat -> List Nat
 | 0 => x
 | m + 1 => (fJ A i x m).set i (fop .sub ((fJ A i x m).getD i 0) (fop .mul (at2 A i m) ((fJ A i x m).getD m 0)))
def fwdI (A : List (List Nat)) (π : List Int) (b : List Nat) (n : Nat) : Nat -> List Nat
 | 0 => List.replicate n 0
 | m + 1 => fJ A m ((fwdI A π b n m).set m (b.getD (π.getD m 0).toNat 0)) m
def bJ (A : List (List Nat)) (i : Nat) (x : List Nat) : Nat -> List Nat
 | 0 => x
 | m + 1 => (bJ A i x m).set i (fop .sub ((bJ A i x m).getD i 0) (fop .mul (at2 A i (i + 1 + m)) ((bJ A i x m).getD (i + 1 + m) 0)))
def c86 (A : List (List Nat)) (n i : Nat) (x : List Nat) : List Nat :=
 (bJ A i x (n - 1 - i)).set i (fop .div ((bJ A i x (n - 1 - i)).getD i 0) (at2 A i i))
def bckI (A : List (List Nat)) (n : Nat) (x : List Nat) : Nat -> List Nat
 | 0 => x
 | m + 1 => c86 A n (n - 1 - m) (bckI A n x m)
def b2m (A : List (List Nat)) (π : List Int) (b : List Nat) (n : Nat) : List Nat := bckI A n (fwdI A π b n n) n
theorem c7s (A : List (List Nat)) (i : Nat) (x : List Nat) : ∀ m, (fJ A i x m).length = x.length := by
 intro m; induction m with
 | zero => rfl
 | succ m ih => simp [fJ, ih]
theorem b88 (A : List (List Nat)) (π : List Int) (b : List Nat) (n : Nat) : ∀ m, (fwdI A π b n m).length = n := by
 intro m; induction m with
 | zero => simp [fwdI]
 | succ m ih => simp [fwdI, c7s, ih]
theorem c4w (A : List (List Nat)) (i : Nat) (x : List Nat) : ∀ m, (bJ A i x m).length = x.length := by
 intro m; induction m with
 | zero => rfl
 | succ m ih => simp [bJ, ih]
theorem b9u (A : List (List Nat)) (n : Nat) (x : List Nat) : ∀ m, (bckI A n x m).length = x.length := by
 intro m; induction m with
 | zero => rfl
 | succ m ih => simp [bckI, c86, c4w, ih]
def Pm (n : Nat) (π : List Int) : Prop := π.length = n /\ ∀ i, i < n -> 0 <= π.getD i 0 /\ π.getD i 0 < n
def J7 (A : List (List Nat)) (π : List Int) (x : List Nat) : Heap := [(2, [rowV x]), (0, [[.d (g6 A), .d (rowI π)]])]
theorem c5d (N : Nat -> Prop) (A : List (List Nat)) (π : List Int) (vb : V) (n i : Nat) (x : List Nat) (hA : Sq n A) (hx : x.length = n) (hi : i < n) (hn : n < 2 ^ 40) (Q : Ex -> T -> Prop)
  (hQ : ∀ v w, Q (.exit 2) ⟨[(1, vb), (2, .ptr 0 0 0 2), (5, fI n), (6, .sl 2 0 0 n 1 n), (7, fI i), (17, fI n), (18, fI i), (32, fI i), (33, v), (34, w)], J7 A π (fJ A i x i)⟩) :
  WA Tryz.prog N 110 (.loop a0G) Q ⟨[(1, vb), (2, .ptr 0 0 0 2), (5, fI n), (6, .sl 2 0 0 n 1 n), (7, fI i), (17, fI n), (18, fI i), (32, fI i), (33, fI 0)], J7 A π x⟩ := by
 obtain ⟨hl, hr⟩ := hA
 refine r5 (n := i) (λc s => ∃ m, c + m = i /\ s = ⟨[(1, vb), (2, .ptr 0 0 0 2), (5, fI n), (6, .sl 2 0 0 n 1 n), (7, fI i), (17, fI n), (18, fI i), (32, fI i), (33, fI m)], J7 A π (fJ A i x m)⟩) ⟨0, rfl, rfl⟩ ?_
 rintro c s ⟨m, hc, rfl⟩
 have hy := c7s A i x m
 generalize hY : fJ A i x m = y at hy
 have g1 := hr i hi
 refine evx (And.intro @a0G.eq_1 @J7.eq_1) ?_
 refine b9 (λh => ?_) (λh => ?_)
 ·replace h := d2b h
  have e1 : i < y.length := by omega
  have e2 : m < y.length := by omega
  simp -implicitDefEqProofs only [evI, hv, effC, reduceCtorEq, ↓reduceIte, n1_, n2_, n3_, n4_, n5_, i1_, i2_, i3_, i4_, i5_, i6_, i7_, j8 _ _ e1, j8 _ _ e2]
  repeat with_reducible refine andO ?_
  rw [f0 (by omega) (by omega)]
  refine ⟨c - 1, by omega, m + 1, by omega, ?_⟩
  simp only [fJ, hY]; rfl
 ·replace h := d2c h
  refine ev ?_
  obtain rfl : i = m := by omega
  rw [hY] at hQ
  exact hQ _ _
theorem c5c (N : Nat -> Prop) (A : List (List Nat)) (π : List Int) (n i : Nat) (x : List Nat) (hA : Sq n A) (hx : x.length = n) (hi : i < n) (hn : n < 2 ^ 40) (Q : Ex -> T -> Prop)
  (hQ : ∀ v w, Q (.exit 6) ⟨[(2, .ptr 0 0 0 2), (5, fI n), (6, .sl 2 0 0 n 1 n), (9, fI i), (10, v), (69, w)], J7 A π (bJ A i x (n - 1 - i))⟩) :
  WA Tryz.prog N 110 (.loop a0F) Q ⟨[(2, .ptr 0 0 0 2), (5, fI n), (6, .sl 2 0 0 n 1 n), (9, fI i), (10, fI (i + 1 : Nat))], J7 A π x⟩ := by
 obtain ⟨hl, hr⟩ := hA
 refine r5 (n := n) (λc s => ∃ m, c + m = n /\ i + 1 + m <= n /\ s = ⟨[(2, .ptr 0 0 0 2), (5, fI n), (6, .sl 2 0 0 n 1 n), (9, fI i), (10, fI (i + 1 + m : Nat))], J7 A π (bJ A i x m)⟩) ⟨0, rfl, by omega, rfl⟩ ?_
 rintro c s ⟨m, hc, hm, rfl⟩
 have hy := c4w A i x m
 generalize hY : bJ A i x m = y at hy
 have g1 := hr i hi
 refine evx (And.intro @a0F.eq_1 @J7.eq_1) ?_
 refine b9 (λh => ?_) (λh => ?_)
 ·replace h := d2b h
  have e1 : i < y.length := by omega
  have e2 : i + 1 + m < y.length := by omega
  simp -implicitDefEqProofs only [evI, hv, effC, reduceCtorEq, ↓reduceIte, n1_, n2_, n3_, n4_, n5_, i1_, i2_, i3_, i4_, i5_, i6_, i7_, j8 _ _ e1, j8 _ _ e2]
  repeat with_reducible refine andO ?_
  rw [f0 (by omega) (by omega)]
  refine ⟨c - 1, by omega, m + 1, by omega, by omega, ?_⟩
  simp only [bJ, hY]; rfl
 ·replace h := d2c h
  refine ev ?_
  obtain rfl : n - 1 - i = m := by omega
  rw [hY] at hQ
  exact hQ _ _
theorem b5V (A : List (List Nat)) (π : List Int) (b : List Nat) (n : Nat) (hA : Sq n A) (hπ : Pm n π) (hb : b.length = n) (hn : n < 2 ^ 40) :
  AC Tryz.prog 235 [.agg [.d (g6 A), .d (rowI π)], .d (rowD b)] [] (J7 A π (b2m A π b n)) (.sl 2 0 0 n 1 n) := by
 obtain ⟨hl, hr⟩ := hA
 obtain ⟨hp1, hp2⟩ := hπ
 refine k9 a85 rfl f5 (λ_ => False) (by simp [g5]) ?_
 refine evx (And.intro @b02.eq_1 hl) ?_
 repeat with_reducible refine andO ?_
 refine r5 (n := n) (λc s => ∃ m, c + m = n /\ s = ⟨[(1, .d (rowD b)), (2, .ptr 0 0 0 2), (5, fI n), (6, .sl 2 0 0 n 1 n), (17, fI n), (18, fI m)], J7 A π (fwdI A π b n m)⟩) ⟨0, rfl, ?_⟩ ?_
 ·simp only [J7, fwdI, g6, hl]; rfl
 rintro c s ⟨m, hc, rfl⟩
 have hy := b88 A π b n m
 generalize hY : fwdI A π b n m = y at hy
 refine evx (And.intro @a4s.eq_1 @J7.eq_1) ?_
 refine b9 (λh => ?_) (λh => ?_)
 ·replace h := d2b h
  obtain ⟨q1, q2⟩ := hp2 m h
  refine ev ?_
  repeat with_reducible refine andO ?_
  refine c5d _ A π _ n m (y.set m (b.getD (π.getD m 0).toNat 0)) ⟨hl, hr⟩ (by simpa using hy) h hn _ λv w => ?_
  refine ev ?_
  rw [f0 (by omega) (by omega)]
  refine ⟨c - 1, by omega, m + 1, by omega, ?_⟩
  simp only [fwdI, hY]; rfl
 ·replace h := d2c h
  obtain rfl : n = m := by omega
  refine ev ?_
  rw [f0 (by omega) (by omega)]
  refine r5 (n := n) (λc s => ∃ m, ∃ z : Int, c + m = n /\ z = (n : Int) - 1 - m /\ s = ⟨[(2, .ptr 0 0 0 2), (5, fI n), (6, .sl 2 0 0 n 1 n), (9, fI z)], J7 A π (bckI A n y m)⟩) ⟨0, _, rfl, rfl, ?_⟩ ?_
  ·simp only [Int.natCast_zero, Int.sub_zero]; rfl
  rintro c s ⟨m, z, hc, hz, rfl⟩
  have hu := b9u A n y m
  generalize hU : bckI A n y m = u at hu
  refine evx (And.intro @a4r.eq_1 @J7.eq_1) ?_
  refine b9 (λh2 => ?_) (λh2 => ?_)
  ·replace h2 := d2b h2
   obtain ⟨i, rfl⟩ : ∃ i : Nat, z = i := ⟨n - 1 - m, by omega⟩
   have hi : i < n := by omega
   refine ev ?_
   rw [f0 (by omega) (by omega)]
   refine c5c _ A π n i u ⟨hl, hr⟩ (by omega) hi hn _ λv w => ?_
   have hbl := c4w A i u (n - 1 - i)
   have e1 : i < (bJ A i u (n - 1 - i)).length := by omega
   have g1 := hr i hi
   simp -implicitDefEqProofs only [evI, hv, effC, reduceCtorEq, ↓reduceIte, n1_, n2_, n3_, n4_, n5_, i1_, i2_, i3_, i4_, i5_, i6_, i7_, J7, j8 _ _ e1]
   repeat with_reducible refine andO ?_
   rw [f0 (by omega) (by omega)]
   refine ⟨c - 1, by omega, m + 1, (i : Int) - 1, by omega, by omega, ?_⟩
   have e : n - 1 - m = i := by omega
   simp only [bckI, hU, c86, e]; rfl
  ·replace h2 := d2c h2
   refine ev ?_
   obtain rfl : n = m := by omega
   refine a3Q (λ_ h => h) (f8 (t := 4) (by decide) rfl) (by simp only [J7, b2m, hY, hU]) (.sl (by simp [J7, d8]) rfl) (a60 λX q cells hX v hv' => ?_)
   simp only [J7, d8, g5] at hX
   split at hX
   ·rcases q with _ | q <;> simp at hX; subst hX; exact a5N hv' _ _ _
   ·split at hX
    ·rcases q with _ | q <;> simp at hX; subst hX
     rcases List.mem_cons.1 hv' with rfl | hv'
     ·exact .d (.d _)
     ·rcases List.mem_cons.1 hv' with rfl | hv'
      ·exact .d (.d _)
      ·cases hv'
    ·cases hX
theorem b32 (A : List (List Nat)) (π : List Int) (b : List Nat) (n : Nat) (hA : Sq n A) (hπ : Pm n π) (hb : b.length = n) (hn : n < 2 ^ 40) :
  AC Tryz.prog 235 [.agg [.d (g6 A), .d (rowI π)], .d (rowD b)] [] [(2, [rowV (b2m A π b n)])] (.sl 2 0 0 n 1 n) := by
 refine c61 (b5V A π b n hA hπ hb hn) (Le.of_wk (λX q => (X, q)) ⟨rfl, λi hi => ?_, λX q c hX => ?_, λX r Y q _ _ e => by simpa using e, λX r h => h.elim⟩)
 ·obtain rfl : i = 0 := by simpa using hi
  exact .sl (by simp [d8]) rfl
 ·rw [d8, g5] at hX
  split at hX
  ·rename_i e; subst e
   rcases q with _ | q <;> simp at hX; subst hX
   refine ⟨_, by simp [J7, d8], rfl, λj hj => ?_⟩
   rw [d2d, d2f hj]
   exact a5N (List.getElem_mem hj) _ _ _
  ·cases hX
def T6 : CA := (.seq (.reg [i_X 0 2 (.h (.mov (.k (.d (.flt 0))))), i_K 1 3 0] [0]) (.seq (.seq (.reg [i_M 0 4 0, i_X 1 5 (.callA (kF 162) [(.t 4)]), i_X 2 6 (.h (.fcmp .lt (.t 5) (.k (.d (.flt 4503599627370496)))))] [0, 6]) (.cond (.t 6) (.seq (.reg [i_M 0 7 0, i_X 1 8 (.h (.fbin .mul (.t 7) (.k (.d (.flt 4841369599423283200))))), i_M 2 2 8, i_X 3 3 (.h (.mov (.k (.d (.int .i64 (-52))))))] [2, 3]) .ret) .skip)) (.seq (.reg [i_M 0 9 0, i_M 1 2 9, i_K 2 3 0] [2, 3]) .ret)))
theorem Q7 : f7 Tryz.prog 253 = some ⟨10, [(2, none), (3, none)], T6.strip⟩ := by kernel_rfl
def a8n : CA := (.seq (.reg [i_X 0 4 (.h (.mov (.k (.d (.flt 0)))))] [0, 1]) (.seq (.block 0 (.seq (.reg [i_M 0 9 0, i_X 1 10 (.h (.fcmp .eq (.t 9) (.k (.d (.flt 0))))), i_M 2 8 10] [0, 1, 8]) (.cond (.t 8) (.seq (.reg [i_M 0 11 0, i_M 1 4 11] [4]) .ret) (.seq (.reg [i_M 0 13 0, i_X 1 14 (.callA (kF 131) [(.t 13), (kI 0)]), i_M 2 15 14, g_F 3 16 15 (.h (.mov (.t 0))), g_F 4 17 15 (.callA (kF 130) [(.t 16)]), i_X 5 18 (.h (.pick (.t 15) (.k (.d (.bool true))) (.t 17))), i_M 6 12 18] [0, 1, 12]) (.cond (.t 12) (.seq (.reg [i_M 0 19 0, i_M 1 4 19] [4]) .ret) .skip))))) (.seq (.reg [i_M 0 21 0, i_X 1 22 (.callA (kF 253) [(.t 21)]), i_M 2 20 22, i_X 3 23 (.h (.ext (.t 20) 0)), i_X 4 24 (.h (.ext (.t 20) 1)), i_M 5 0 23, i_M 6 5 24] [0, 1, 5]) (.seq (.reg [i_M 0 25 1, i_M 1 26 5, i_N 2 27 .add 25 26, i_M 3 1 27] [0, 1]) (.seq (.reg [i_M 0 28 0, i_X 1 29 (.h (.bits (.t 28))), i_M 2 6 29] [0, 1, 6]) (.seq (.reg [i_M 0 30 1, i_M 1 31 6, i_X 2 32 (.h (.ibin .shr (.t 31) (.k (.d (.int .u64 52))))), i_X 3 33 (.h (.icv .i64 (.t 32))), i_B 4 34 .and 33 2047, i_B 5 35 .sub 34 1023, i_N 6 36 .add 30 35, i_M 7 1 36] [0, 1, 6]) (.seq (.seq (.reg [i_M 0 37 1, i_X 1 38 (.h (.ibin .lss (.t 37) (.k (.d (.int .i64 (-1075))))))] [0, 1, 6, 38]) (.cond (.t 38) (.seq (.reg [i_M 0 39 0, i_X 1 40 (.callA (kF 170) [(.k (.d (.flt 0))), (.t 39)]), i_M 2 4 40] [4]) .ret) .skip)) (.seq (.seq (.reg [i_M 0 41 1, i_B 1 42 .gtr 41 1023] [0, 1, 6, 42]) (.cond (.t 42) (.seq (.seq (.reg [i_M 0 43 0, i_X 1 44 (.h (.fcmp .lt (.t 43) (.k (.d (.flt 0)))))] [44]) (.cond (.t 44) (.seq (.reg [i_X 0 45 (.callA (kF 87) [(.k (.d (.int .i64 (-1))))]), i_M 1 4 45] [4]) .ret) .skip)) (.seq (.reg [i_X 0 46 (.callA (kF 87) [(kI 1)]), i_M 1 4 46] [4]) .ret)) .skip)) (.seq (.reg [i_X 0 7 (.h (.mov (.k (.d (.flt 4607182418800017408)))))] [1, 6, 7]) (.seq (.seq (.reg [i_M 0 47 1, i_X 1 48 (.h (.ibin .lss (.t 47) (.k (.d (.int .i64 (-1022))))))] [1, 6, 7, 48]) (.cond (.t 48) (.seq (.reg [i_M 0 49 1, i_B 1 50 .add 49 53, i_M 2 1 50] [1, 6]) (.reg [i_X 0 7 (.h (.mov (.k (.d (.flt 4368491638549381120)))))] [1, 6, 7])) .skip)) (.seq (.reg [i_M 0 51 6, i_X 1 52 (.h (.ibin .andNot (.t 51) (.k (.d (.int .u64 9218868437227405312))))), i_M 2 6 52] [1, 6, 7]) (.seq (.reg [i_M 0 53 6, i_M 1 54 1, i_B 2 55 .add 54 1023, i_X 3 56 (.h (.icv .u64 (.t 55))), i_X 4 57 (.h (.ibin .shl (.t 56) (.k (.d (.int .u64 52))))), i_N 5 58 .or 53 57, i_M 6 6 58] [6, 7]) (.seq (.reg [i_M 0 59 7, i_M 1 60 6, i_X 2 61 (.h (.frombits (.t 60))), i_F 3 62 .mul 59 61, i_M 4 4 62] [4]) .ret)))))))))))))
theorem a7u : f7 Tryz.prog 210 = some ⟨63, [(4, none)], a8n.strip⟩ := by kernel_rfl
def a8p : CA := (.seq (.reg [i_X 0 4 (.h (.mov (.k (.d (.flt 0)))))] [0, 1]) (.seq (.cond (.k (.d (.bool false))) (.seq (.reg [i_M 0 5 0, i_M 1 6 1, i_X 2 7 (.callA (kF 209) [(.t 5), (.t 6)]), i_M 3 4 7] [4]) .ret) .skip) (.seq (.reg [i_M 0 8 0, i_M 1 9 1, i_X 2 10 (.callA (kF 210) [(.t 8), (.t 9)]), i_M 3 4 10] [4]) .ret)))
theorem a7v : f7 Tryz.prog 156 = some ⟨11, [(4, none)], a8p.strip⟩ := by kernel_rfl
def b3j : CA := (.seq (.reg [i_X 0 4 (.h (.mov (.k (.d (.flt 0)))))] [0, 1]) (.seq (.reg [i_M 0 5 0, i_M 1 6 1, i_X 2 7 (.callA (kF 156) [(.t 5), (.t 6)]), i_M 3 4 7] [4]) .ret))
theorem b1k : f7 Tryz.prog 96 = some ⟨8, [(4, none)], b3j.strip⟩ := by kernel_rfl
def a1j : CA := (.seq (.reg [i_N 0 16 .lss 15 14] [1, 2, 7, 13, 14, 15, 16]) (.seq (.cond (.t 16) .skip (.exit 0)) (.seq (.block 1 (.seq (.reg [i_M 0 17 15, i_I 1 18 13 15 1, i_L 2 19 18 1, i_M 3 8 17, i_M 4 9 19] [1, 2, 7, 8, 9, 13, 14, 15]) (.reg [i_M 0 20 7, i_M 1 21 8, i_M 2 22 1, i_M 3 23 2, i_M 4 24 9, i_X 5 25 (.callA (kF 162) [(.t 24)]), i_F 6 26 .mul 23 25, i_F 7 27 .add 22 26, i_I 8 28 20 21 1, i_S 9 28 27 1] [1, 2, 7, 13, 14, 15]))) (.reg [i_B 0 29 .add 15 1, i_M 1 15 29] [1, 2, 7, 13, 14, 15]))))
def a4A : CA := (.seq (.reg [i_X 0 6 (.h (.mov (.k .nil)))] [0, 1, 2]) (.seq (.reg [i_M 0 10 0, i_X 1 11 (.h (.len (.t 10))), i_X 2 12 (.mksl [fl 0] 1 8 (.t 11) (.t 11) 31), i_M 3 7 12] [0, 1, 2, 7]) (.seq (.seq (.reg [i_M 0 13 0, i_X 1 14 (.h (.len (.t 13))), i_K 2 15 0] [1, 2, 7, 13, 14, 15]) (.block 0 (.loop a1j))) (.seq (.reg [i_M 0 30 7, i_M 1 6 30] [6]) .ret))))
theorem a5q : f7 Tryz.prog 137 = some ⟨31, [(6, none)], a4A.strip⟩ := by kernel_rfl
def a4B : CA := (.seq (.reg [i_N 0 12 .lss 11 10] [1, 5, 9, 10, 11, 12]) (.seq (.cond (.t 12) .skip (.exit 0)) (.seq (.block 1 (.seq (.reg [i_M 0 13 11, i_I 1 14 9 11 1, i_L 2 15 14 1, i_M 3 6 13, i_M 4 7 15] [1, 5, 6, 7, 9, 10, 11]) (.seq (.reg [i_M 0 16 7, i_X 1 17 (.callS 0 (kF 162) [(.t 16)]), i_M 2 18 1, i_M 3 19 6, i_I 4 20 18 19 1, i_L 5 21 20 1, i_F 6 22 .div 17 21, i_M 7 8 22] [1, 5, 6, 8, 9, 10, 11]) (.seq (.seq (.reg [i_M 0 23 8, i_X 1 24 (.callA (kF 130) [(.t 23)])] [1, 5, 6, 8, 9, 10, 11, 24]) (.cond (.t 24) (.seq (.reg [i_X 0 25 (.callA (kF 87) [(kI 1)]), i_M 1 4 25] [4]) .ret) .skip)) (.seq (.reg [i_M 0 26 6, i_B 1 27 .eql 26 0, i_M 2 28 27, g_F 3 29 28 (.h (.mov (.t 8))), g_F 4 30 28 (.h (.mov (.t 5))), g_F 5 31 28 (.h (.fcmp .gt (.t 29) (.t 30))), i_X 6 32 (.h (.pick (.t 28) (.k (.d (.bool true))) (.t 31)))] [1, 5, 8, 9, 10, 11, 32]) (.cond (.t 32) (.reg [i_M 0 33 8, i_M 1 5 33] [1, 5, 9, 10, 11]) .skip)))))) (.reg [i_B 0 34 .add 11 1, i_M 1 11 34] [1, 5, 9, 10, 11]))))
def b1n : CA := (.seq (.reg [i_X 0 4 (.h (.mov (.k (.d (.flt 0)))))] [0, 1]) (.seq (.reg [i_X 0 5 (.h (.mov (.k (.d (.flt 0)))))] [0, 1, 5]) (.seq (.seq (.reg [i_M 0 9 0, i_X 1 10 (.h (.len (.t 9))), i_K 2 11 0] [1, 5, 9, 10, 11]) (.block 0 (.loop a4B))) (.seq (.reg [i_M 0 35 5, i_M 1 4 35] [4]) .ret))))
theorem a9g : f7 Tryz.prog 139 = some ⟨36, [(4, none)], b1n.strip⟩ := by kernel_rfl
theorem b8W (x : Nat) (h : fcmp .lt (fabs x) 4503599627370496 = false) : Con Tryz.prog 253 [fl x] (.tup [fl x, fI 0]) := by
 refine b7 Q7 rfl f5 ?_
 refine evx @T6.eq_1 ?_
 refine a0 (q5 x) rfl ?_
 refine evx h ?_
 refine a0W rfl ⟨fl x, fI 0, ?_, ?_, rfl⟩
 ·exact f8 (by decide) rfl
 ·exact f8 (by decide) rfl
def hW (step : Nat) : Nat := fop .div (FloatKind.nearest .f64 (step : Int)) (FloatKind.nearest .f64 1073741824)
def wtF (atol rtol x : Nat) : Nat := fop .add atol (fop .mul rtol (fabs x))
def wtP (y : List Nat) (atol rtol : Nat) : List Nat := tabR (λi => wtF atol rtol (y.getD i 0)) y.length
theorem c1y (y : List Nat) (atol rtol : Nat) : (wtP y atol rtol).length = y.length := k8 _ _
def szF (d w : List Nat) : Nat -> Option Nat
 | 0 => some 0
 | i + 1 => (szF d w i).bind λo =>
  if j7 (fop .div (fabs (d.getD i 0)) (w.getD i 0)) = true then none
  else some (if (i == 0 || fcmp .gt (fop .div (fabs (d.getD i 0)) (w.getD i 0)) o) = true then fop .div (fabs (d.getD i 0)) (w.getD i 0) else o)
def szP (d w : List Nat) : Nat := (szF d w d.length).getD finf
theorem c48 (d w : List Nat) (i : Nat) (h : szF d w i = none) : ∀ m, szF d w (i + m) = none := by
 intro m
 induction m with
 | zero => exact h
 | succ m ih => show (szF d w (i + m)).bind _ = none; rw [ih]; rfl
theorem a1E (d w : List Nat) (h : w.length = d.length) (hd : d.length < 2 ^ 62) : Con Tryz.prog 139 [.d (rowD d), .d (rowD w)] (fl (szP d w)) := by
 refine b7 a9g rfl f5 ?_
 refine evx @b1n.eq_1 ?_
 refine r5 (n := d.length) (λc s => ∃ i o, c + i = d.length /\ szF d w i = some o /\ s = ⟨[(1, .d (rowD w)), (5, fl o), (9, .d (rowD d)), (10, fI d.length), (11, fI i)], []⟩) ⟨0, 0, by omega, rfl, rfl⟩ ?_
 rintro c s ⟨i, o, hc, ho, rfl⟩
 refine evx @a4B.eq_1 ?_
 refine b9 (λh1 => ?_) (λh1 => ?_)
 ·replace h1 := d2b h1
  refine ev ?_
  repeat with_reducible refine andO ?_
  first | refine a0 (q5 (d.getD i 0)) rfl ?_ | refine d7 (q5 (d.getD i 0)) rfl ?_ | refine d5 (q5 (d.getD i 0)) rfl ?_
  refine ev ?_
  repeat with_reducible refine andO ?_
  generalize hq : fop .div (fabs (d.getD i 0)) (w.getD i 0) = q
  first | refine a0 (t9 q) rfl ?_ | refine d7 (t9 q) rfl ?_ | refine d5 (t9 q) rfl ?_
  refine ev ?_
  have hnext : szF d w (i + 1) = if j7 q = true then none else some (if (i == 0 || fcmp .gt q o) = true then q else o) := by
   simp only [szF, ho, Option.bind_some, hq]
  cases hn : j7 q
  ·rw [hn] at hnext
   simp only [Bool.false_eq_true, if_false] at hnext
   by_cases hi0 : i = 0
   ·subst hi0
    refine ev ?_
    rw [f0 (by omega) (by omega)]
    exact ⟨c - 1, by omega, 1, q, by omega, by simpa using hnext, rfl⟩
   ·have hib : ((i : Int) == 0) = false := by simp; omega
    have hin : (i == 0) = false := by simp; omega
    rw [hin, Bool.false_or] at hnext
    refine evx hib ?_
    cases hg : fcmp .gt q o
    ·rw [hg] at hnext
     refine ev ?_
     rw [f0 (by omega) (by omega)]
     exact ⟨c - 1, by omega, i + 1, o, by omega, by simpa using hnext, rfl⟩
    ·rw [hg] at hnext
     refine ev ?_
     rw [f0 (by omega) (by omega)]
     exact ⟨c - 1, by omega, i + 1, q, by omega, by simpa using hnext, rfl⟩
  ·rw [hn] at hnext
   have hz : szP d w = finf := by
    have := c48 d w (i + 1) (by simpa using hnext) (d.length - (i + 1))
    rw [show i + 1 + (d.length - (i + 1)) = d.length from by omega] at this
    unfold szP; rw [this]; rfl
   rw [hz]
   refine ev ?_
   first | refine a0 (y3) rfl ?_ | refine d7 (y3) rfl ?_ | refine d5 (y3) rfl ?_
   refine ev ?_
   exact g9
 ·replace h1 := d2c h1
  have e : i = d.length := by omega
  have hz : szP d w = o := by unfold szP; rw [<- e, ho]; rfl
  rw [hz]
  refine ev ?_
  exact g9
theorem b0s (y : List Nat) (atol rtol : Nat) (hy : y.length < 2 ^ 40) : AC Tryz.prog 137 [.d (rowD y), fl atol, fl rtol] [] [(2, [rowV (wtP y atol rtol)])] (.sl 2 0 0 y.length 1 y.length) := by
 refine k9 a5q rfl f5 (λ_ => False) (by simp [g5]) ?_
 refine evx @a4A.eq_1 ?_
 repeat with_reducible refine andO ?_
 rw [<- a3P (λi => wtF atol rtol (y.getD i 0))]
 refine r5 (n := y.length) (λc s => ∃ i, c + i = y.length /\ s = ⟨[(1, fl atol), (2, fl rtol), (7, .sl 2 0 0 y.length 1 y.length), (13, .d (rowD y)), (14, fI y.length), (15, fI i)], [(2, [rowV (a42 (λi => wtF atol rtol (y.getD i 0)) y.length i)])]⟩) ⟨0, by omega, rfl⟩ ?_
 rintro c s ⟨i, hc, rfl⟩
 have hl := a55 (λi => wtF atol rtol (y.getD i 0)) y.length i
 refine evx @a1j.eq_1 ?_
 refine b9 (λh => ?_) (λh => ?_)
 ·replace h := d2b h
  have hs := a54 (λi => wtF atol rtol (y.getD i 0)) y.length i h
  generalize a42 (λi => wtF atol rtol (y.getD i 0)) y.length i = x at hl hs
  refine ev ?_
  repeat with_reducible refine andO ?_
  first | refine a0 (q5 (y.getD i 0)) rfl ?_ | refine d7 (q5 (y.getD i 0)) rfl ?_ | refine d5 (q5 (y.getD i 0)) rfl ?_
  refine ev ?_
  repeat with_reducible refine andO ?_
  rw [f0 (by omega) (by omega)]
  refine ⟨c - 1, by omega, i + 1, by omega, ?_⟩
  rw [<- hs]; rfl
 ·replace h := d2c h
  have e : i = y.length := by omega
  subst e
  rw [a56]
  refine ev ?_
  exact b6d (λ_ h => h) (f8 (t := 6) (by decide) rfl) rfl
theorem a8Q (y : List Nat) (atol rtol : Nat) (hy : y.length < 2 ^ 40) : Con Tryz.prog 137 [.d (rowD y), fl atol, fl rtol] (.d (rowD (wtP y atol rtol))) :=
 b2V (b0s y atol rtol hy) (c1y _ _ _)
def a2R : CA := (.seq (.reg [i_X 0 2 (.h (.mov (.k (.d (.flt 0)))))] [0]) (.seq (.reg [i_M 0 3 0, i_M 1 2 3] [2]) .ret))
theorem a3Y : f7 Tryz.prog 211 = some ⟨4, [(2, none)], a2R.strip⟩ := by kernel_rfl
def a2Q : CA := (.seq (.reg [i_X 0 4 (.h (.mov (.k (.d (.flt 0)))))] [0, 1]) (.seq (.reg [i_M 0 5 0, i_M 1 6 1, i_F 2 7 .add 5 6, i_M 3 4 7] [4]) .ret))
theorem a3X : f7 Tryz.prog 212 = some ⟨8, [(4, none)], a2Q.strip⟩ := by kernel_rfl
def a2P : CA := (.seq (.reg [i_X 0 4 (.h (.mov (.k (.d (.flt 0)))))] [0, 1]) (.seq (.reg [i_M 0 5 0, i_M 1 6 1, i_F 2 7 .sub 5 6, i_M 3 4 7] [4]) .ret))
theorem a3W : f7 Tryz.prog 213 = some ⟨8, [(4, none)], a2P.strip⟩ := by kernel_rfl
def a2N : CA := (.seq (.reg [i_X 0 4 (.h (.mov (.k (.d (.flt 0)))))] [0, 1]) (.seq (.reg [i_M 0 5 0, i_M 1 6 1, i_F 2 7 .mul 5 6, i_M 3 4 7] [4]) .ret))
theorem a3V : f7 Tryz.prog 214 = some ⟨8, [(4, none)], a2N.strip⟩ := by kernel_rfl
def a2M : CA := (.seq (.reg [i_X 0 4 (.h (.mov (.k (.d (.flt 0)))))] [0, 1]) (.seq (.reg [i_M 0 5 0, i_M 1 6 1, i_F 2 7 .div 5 6, i_M 3 4 7] [4]) .ret))
theorem a3U : f7 Tryz.prog 215 = some ⟨8, [(4, none)], a2M.strip⟩ := by kernel_rfl
def a6v : CA := (.seq (.reg [i_X 0 0 (.alloc [(.d .nilf), (.d .nilf), (.d .nilf), (.d .nilf), (.d .nilf)] 200)] [0]) (.seq (.reg [i_X 0 1 (.h (.build [(.d .nilf), (.d .nilf), (.d .nilf), (.d .nilf), (.d .nilf)] [(0, (1, (kF 211))), (1, (1, (kF 212))), (2, (1, (kF 213))), (3, (1, (kF 214))), (4, (1, (kF 215)))])), i_S 1 0 1 5] [0]) .ret))
theorem a6u : f7 Tryz.prog 157 = some ⟨2, [(0, (some (5, true)))], a6v.strip⟩ := by kernel_rfl
def F2 : CA := (.seq (.reg [i_N 0 16 .lss 15 14] [2, 3, 4, 7, 13, 14, 15, 16]) (.seq (.cond (.t 16) .skip (.exit 0)) (.seq (.block 1 (.seq (.reg [i_I 0 17 13 15 4, i_A 1 18 17 4, i_X 2 9 (.alloc [fI 0, fI 0, fI 0, fl 0] 81), i_S 3 9 18 4] [2, 3, 4, 7, 9, 13, 14, 15]) (.seq (.reg [i_P 0 19 9 0, i_L 1 20 19 1] [2, 3, 4, 7, 9, 13, 14, 15, 20]) (.block 2 (.seq (.reg [i_B 0 22 .eql 20 0, i_M 1 21 22] [2, 3, 4, 7, 9, 13, 14, 15, 20, 21]) (.cond (.t 21) (.reg [i_M 0 23 7, i_P 1 24 3 0, i_L 2 25 24 1, i_P 3 26 9 3, i_L 4 27 26 1, i_X 5 28 (.callA (.t 25) [(.t 27)]), i_X 6 29 (.bslice [fl 0] 1 1 [(0, (1, (.t 28)))] 31), i_X 7 30 (.app (.t 23) (.t 29) 1 8), i_M 8 7 30] [2, 3, 4, 7, 13, 14, 15]) (.seq (.reg [i_B 0 32 .eql 20 1, i_M 1 31 32] [2, 3, 4, 7, 9, 13, 14, 15, 20, 31]) (.cond (.t 31) (.reg [i_M 0 33 7, i_M 1 34 2, i_P 2 35 9 1, i_L 3 36 35 1, i_I 4 37 34 36 1, i_L 5 38 37 1, i_X 6 39 (.bslice [fl 0] 1 1 [(0, (1, (.t 38)))] 31), i_X 7 40 (.app (.t 33) (.t 39) 1 8), i_M 8 7 40] [2, 3, 4, 7, 13, 14, 15]) (.seq (.reg [i_B 0 42 .eql 20 2, i_M 1 41 42] [2, 3, 4, 7, 9, 13, 14, 15, 20, 41]) (.cond (.t 41) (.reg [i_M 0 43 7, i_P 1 44 3 1, i_L 2 45 44 1, i_M 3 46 7, i_P 4 47 9 1, i_L 5 48 47 1, i_I 6 49 46 48 1, i_L 7 50 49 1, i_M 8 51 7, i_P 9 52 9 2, i_L 10 53 52 1, i_I 11 54 51 53 1, i_L 12 55 54 1, i_X 13 56 (.callA (.t 45) [(.t 50), (.t 55)]), i_X 14 57 (.bslice [fl 0] 1 1 [(0, (1, (.t 56)))] 31), i_X 15 58 (.app (.t 43) (.t 57) 1 8), i_M 16 7 58] [2, 3, 4, 7, 13, 14, 15]) (.seq (.reg [i_B 0 60 .eql 20 3, i_M 1 59 60] [2, 3, 4, 7, 9, 13, 14, 15, 20, 59]) (.cond (.t 59) (.reg [i_M 0 61 7, i_P 1 62 3 2, i_L 2 63 62 1, i_M 3 64 7, i_P 4 65 9 1, i_L 5 66 65 1, i_I 6 67 64 66 1, i_L 7 68 67 1, i_M 8 69 7, i_P 9 70 9 2, i_L 10 71 70 1, i_I 11 72 69 71 1, i_L 12 73 72 1, i_X 13 74 (.callA (.t 63) [(.t 68), (.t 73)]), i_X 14 75 (.bslice [fl 0] 1 1 [(0, (1, (.t 74)))] 31), i_X 15 76 (.app (.t 61) (.t 75) 1 8), i_M 16 7 76] [2, 3, 4, 7, 13, 14, 15]) (.seq (.reg [i_B 0 78 .eql 20 4, i_M 1 77 78] [2, 3, 4, 7, 9, 13, 14, 15, 20, 77]) (.cond (.t 77) (.reg [i_M 0 79 7, i_P 1 80 3 3, i_L 2 81 80 1, i_M 3 82 7, i_P 4 83 9 1, i_L 5 84 83 1, i_I 6 85 82 84 1, i_L 7 86 85 1, i_M 8 87 7, i_P 9 88 9 2, i_L 10 89 88 1, i_I 11 90 87 89 1, i_L 12 91 90 1, i_X 13 92 (.callA (.t 81) [(.t 86), (.t 91)]), i_X 14 93 (.bslice [fl 0] 1 1 [(0, (1, (.t 92)))] 31), i_X 15 94 (.app (.t 79) (.t 93) 1 8), i_M 16 7 94] [2, 3, 4, 7, 13, 14, 15]) (.seq (.reg [i_B 0 96 .eql 20 5, i_M 1 95 96] [2, 3, 4, 7, 9, 13, 14, 15, 95]) (.cond (.t 95) (.reg [i_M 0 97 7, i_P 1 98 3 4, i_L 2 99 98 1, i_M 3 100 7, i_P 4 101 9 1, i_L 5 102 101 1, i_I 6 103 100 102 1, i_L 7 104 103 1, i_M 8 105 7, i_P 9 106 9 2, i_L 10 107 106 1, i_I 11 108 105 107 1, i_L 12 109 108 1, i_X 13 110 (.callA (.t 99) [(.t 104), (.t 109)]), i_X 14 111 (.bslice [fl 0] 1 1 [(0, (1, (.t 110)))] 31), i_X 15 112 (.app (.t 97) (.t 111) 1 8), i_M 16 7 112] [2, 3, 4, 7, 13, 14, 15]) .skip)))))))))))))))) (.reg [i_B 0 113 .add 15 1, i_M 1 15 113] [2, 3, 4, 7, 13, 14, 15]))))
def F1 : CA := (.seq (.reg [i_N 0 120 .lss 119 118] [4, 7, 10, 118, 119, 120]) (.seq (.cond (.t 120) .skip (.exit 3)) (.seq (.block 4 (.seq (.reg [i_M 0 121 119, i_M 1 11 121] [4, 7, 10, 11, 118, 119]) (.reg [i_M 0 122 10, i_M 1 123 11, i_M 2 124 7, i_P 3 125 4 2, i_L 4 126 125 1, i_M 5 127 11, i_I 6 128 126 127 1, i_L 7 129 128 1, i_I 8 130 124 129 1, i_L 9 131 130 1, i_I 10 132 122 123 1, i_S 11 132 131 1] [4, 7, 10, 118, 119]))) (.reg [i_B 0 133 .add 119 1, i_M 1 119 133] [4, 7, 10, 118, 119]))))
def L8 : CA := (.seq (.reg [i_X 0 3 (.box (.t 0) 5 200), i_X 1 4 (.box (.t 1) 3 28), i_X 2 6 (.h (.mov (.k .nil)))] [2, 3, 4]) (.seq (.reg [i_X 0 7 (.h (.mov (.k .nil)))] [2, 3, 4, 7]) (.seq (.seq (.reg [i_P 0 12 4 1, i_L 1 13 12 1, i_X 2 14 (.h (.len (.t 13))), i_K 3 15 0] [2, 3, 4, 7, 13, 14, 15]) (.block 0 (.loop F2))) (.seq (.reg [i_P 0 114 4 0, i_L 1 115 114 1, i_X 2 116 (.mksl [fl 0] 1 8 (.t 115) (.t 115) 31), i_M 3 10 116] [4, 7, 10]) (.seq (.seq (.reg [i_P 0 117 4 0, i_L 1 118 117 1, i_K 2 119 0] [4, 7, 10, 118, 119]) (.block 3 (.loop F1))) (.seq (.reg [i_M 0 134 10, i_M 1 6 134] [6]) .ret))))))
theorem V1 : f7 Tryz.prog 158 = some ⟨135, [(6, none)], L8.strip⟩ := by kernel_rfl
def b0D : CA := (.seq (.reg [i_X 0 2 (.box (.t 0) 3 28), i_X 1 4 (.h (.mov (.k .nil)))] [1, 2]) (.seq (.reg [i_X 0 5 (.callS 0 (kF 157) []), i_A 1 6 2 3, i_M 2 7 1, i_X 3 8 (.callA (kF 158) [(.t 5), (.t 6), (.t 7)]), i_M 4 4 8] [4]) .ret))
theorem a8W : f7 Tryz.prog 97 = some ⟨9, [(4, none)], b0D.strip⟩ := by kernel_rfl
def b9H : CA := (.seq (.reg [i_X 0 6 (.h (.mov (.k (.d (.flt 0)))))] [0, 1, 2]) (.seq (.seq (.reg [i_M 0 7 0] [1, 2, 7]) (.block 0 (.seq (.reg [i_B 0 9 .eql 7 2, i_M 1 8 9] [1, 2, 7, 8]) (.cond (.t 8) (.seq (.reg [i_M 0 10 1, i_M 1 11 2, i_F 2 12 .add 10 11, i_M 3 6 12] [6]) .ret) (.seq (.reg [i_B 0 14 .eql 7 3, i_M 1 13 14] [1, 2, 7, 13]) (.cond (.t 13) (.seq (.reg [i_M 0 15 1, i_M 1 16 2, i_F 2 17 .sub 15 16, i_M 3 6 17] [6]) .ret) (.seq (.reg [i_B 0 19 .eql 7 4, i_M 1 18 19] [1, 2, 18]) (.cond (.t 18) (.seq (.reg [i_M 0 20 1, i_M 1 21 2, i_F 2 22 .mul 20 21, i_M 3 6 22] [6]) .ret) .skip)))))))) (.seq (.reg [i_M 0 23 1, i_M 1 24 2, i_F 2 25 .div 23 24, i_M 3 6 25] [6]) .ret)))
theorem b4R : f7 Tryz.prog 175 = some ⟨26, [(6, none)], b9H.strip⟩ := by kernel_rfl
def a79 : CA := (.seq (.seq (.reg [i_M 0 14 6, i_P 1 15 2 1, i_L 2 16 15 1, i_X 3 17 (.h (.len (.t 16))), i_N 4 18 .lss 14 17] [1, 2, 5, 6, 18]) (.cond (.t 18) .skip (.exit 0))) (.seq (.block 1 (.seq (.reg [i_P 0 21 2 1, i_L 1 22 21 1, i_M 2 23 6, i_I 3 24 22 23 4, i_A 4 25 24 4, i_X 5 7 (.alloc [fI 0, fI 0, fI 0, fl 0] 81), i_S 6 7 25 4] [1, 2, 5, 6, 7]) (.seq (.reg [i_P 0 26 7 0, i_L 1 27 26 1] [1, 2, 5, 6, 7, 27]) (.block 2 (.seq (.reg [i_B 0 45 .eql 27 0, i_M 1 44 45] [1, 2, 5, 6, 7, 27, 44]) (.cond (.t 44) (.reg [i_M 0 46 5, i_M 1 47 6, i_P 2 48 7 3, i_L 3 49 48 1, i_I 4 50 46 47 1, i_S 5 50 49 1] [1, 2, 5, 6]) (.seq (.reg [i_B 0 52 .eql 27 1, i_M 1 51 52] [1, 2, 5, 6, 7, 51]) (.cond (.t 51) (.reg [i_M 0 53 5, i_M 1 54 6, i_M 2 55 1, i_P 3 56 7 1, i_L 4 57 56 1, i_I 5 58 55 57 1, i_L 6 59 58 1, i_I 7 60 53 54 1, i_S 8 60 59 1] [1, 2, 5, 6]) (.reg [i_M 0 28 5, i_M 1 29 6, i_P 2 30 7 0, i_L 3 31 30 1, i_M 4 32 5, i_P 5 33 7 1, i_L 6 34 33 1, i_I 7 35 32 34 1, i_L 8 36 35 1, i_M 9 37 5, i_P 10 38 7 2, i_L 11 39 38 1, i_I 12 40 37 39 1, i_L 13 41 40 1, i_X 14 42 (.callA (kF 175) [(.t 31), (.t 36), (.t 41)]), i_I 15 43 28 29 1, i_S 16 43 42 1] [1, 2, 5, 6]))))))))) (.reg [i_M 0 19 6, i_B 1 20 .add 19 1, i_M 2 6 20] [1, 2, 5, 6])))
def a78 : CA := (.seq (.seq (.reg [i_M 0 61 9, i_P 1 62 2 0, i_L 2 63 62 1, i_N 3 64 .lss 61 63] [2, 5, 8, 9, 64]) (.cond (.t 64) .skip (.exit 3))) (.seq (.block 4 (.reg [i_M 0 67 8, i_M 1 68 5, i_P 2 69 2 2, i_L 3 70 69 1, i_M 4 71 9, i_I 5 72 70 71 1, i_L 6 73 72 1, i_I 7 74 68 73 1, i_L 8 75 74 1, i_X 9 76 (.bslice [fl 0] 1 1 [(0, (1, (.t 75)))] 31), i_X 10 77 (.app (.t 67) (.t 76) 1 8), i_M 11 8 77] [2, 5, 8, 9])) (.reg [i_M 0 65 9, i_B 1 66 .add 65 1, i_M 2 9 66] [2, 5, 8, 9])))
def b6E : CA := (.seq (.reg [i_X 0 2 (.box (.t 0) 3 28), i_X 1 4 (.h (.mov (.k .nil)))] [1, 2]) (.seq (.reg [i_P 0 10 2 1, i_L 1 11 10 1, i_X 2 12 (.h (.len (.t 11))), i_X 3 13 (.mksl [fl 0] 1 8 (.t 12) (.t 12) 31), i_M 4 5 13] [1, 2, 5]) (.seq (.seq (.reg [i_K 0 6 0] [1, 2, 5, 6]) (.block 0 (.loop a79))) (.seq (.reg [i_X 0 8 (.h (.mov (.k .nil)))] [2, 5, 8]) (.seq (.seq (.reg [i_K 0 9 0] [2, 5, 8, 9]) (.block 3 (.loop a78))) (.seq (.reg [i_M 0 78 8, i_M 1 4 78] [4]) .ret))))))
theorem b10 : f7 Tryz.prog 128 = some ⟨79, [(4, none)], b6E.strip⟩ := by kernel_rfl
structure OpN where
 k : Int
 a : Int
 b : Int
 c : Nat
def opG (ops : List OpN) (i : Nat) : List D := let o := ops.getD i ⟨0, 0, 0, 0⟩; [.int .i64 o.k, .int .i64 o.a, .int .i64 o.b, .flt o.c]
def opsD (ops : List OpN) : D := .bor ops.length (opG ops)
structure Tp where
 n : Nat
 ops : List OpN
 out : List Int
abbrev R7 (t : Tp) : V := .agg [fI t.n, .d (opsD t.ops), .d (rowI t.out)]
theorem a41 (x : Nat) : Con Tryz.prog 211 [fl x] (fl x) := by
 refine b7 a3Y rfl f5 ?_
 refine evx @a2R.eq_1 ?_
 exact g9
theorem a40 (x y : Nat) : Con Tryz.prog 212 [fl x, fl y] (fl (fop .add x y)) := by
 refine b7 a3X rfl f5 ?_
 refine evx @a2Q.eq_1 ?_
 exact g9
theorem a4Z (x y : Nat) : Con Tryz.prog 213 [fl x, fl y] (fl (fop .sub x y)) := by
 refine b7 a3W rfl f5 ?_
 refine evx @a2P.eq_1 ?_
 exact g9
theorem a4Y (x y : Nat) : Con Tryz.prog 214 [fl x, fl y] (fl (fop .mul x y)) := by
 refine b7 a3V rfl f5 ?_
 refine evx @a2N.eq_1 ?_
 exact g9
theorem a4X (x y : Nat) : Con Tryz.prog 215 [fl x, fl y] (fl (fop .div x y)) := by
 refine b7 a3U rfl f5 ?_
 refine evx @a2M.eq_1 ?_
 exact g9
abbrev flV : V := .agg [.d (.fn 211 [] []), .d (.fn 212 [] []), .d (.fn 213 [] []), .d (.fn 214 [] []), .d (.fn 215 [] [])]
theorem a65 : Con Tryz.prog 157 [] flV := by
 refine b7 a6u rfl f5 ?_
 refine evx @a6v.eq_1 ?_
 exact f9 rfl (by decide) rfl rfl rfl (by simp) (by simp [ldv])
def opV (o : OpN) (x r : List Nat) : Nat :=
 if o.k = 0 then o.c else if o.k = 1 then x.getD o.a.toNat 0 else
 if o.k = 2 then fop .add (r.getD o.a.toNat 0) (r.getD o.b.toNat 0) else if o.k = 3 then fop .sub (r.getD o.a.toNat 0) (r.getD o.b.toNat 0) else
 if o.k = 4 then fop .mul (r.getD o.a.toNat 0) (r.getD o.b.toNat 0) else fop .div (r.getD o.a.toNat 0) (r.getD o.b.toNat 0)
def regs (t : Tp) (x : List Nat) : Nat -> List Nat
 | 0 => []
 | i + 1 => regs t x i ++ [opV (t.ops.getD i ⟨0, 0, 0, 0⟩) x (regs t x i)]
theorem Z7 (t : Tp) (x : List Nat) (i : Nat) : (regs t x i).length = i := by
 induction i with
 | zero => rfl
 | succ i ih => simp [regs, ih]
def b4m (t : Tp) (x : List Nat) : List Nat := tabR (λi => (regs t x t.ops.length).getD (t.out.getD i 0).toNat 0) t.n
structure Tok (t : Tp) : Prop where
 n : t.n < 2 ^ 20
 len : t.ops.length < 2 ^ 40
 op : ∀ i, i < t.ops.length -> let o := t.ops.getD i ⟨0, 0, 0, 0⟩; o.k = 0 \/ (o.k = 1 /\ 0 <= o.a /\ o.a < t.n) \/ ((o.k = 2 \/ o.k = 3 \/ o.k = 4 \/ o.k = 5) /\ (0 <= o.a /\ o.a < i) /\ 0 <= o.b /\ o.b < i)
 outl : t.out.length = t.n
 out : ∀ i, i < t.n -> 0 <= t.out.getD i 0 /\ t.out.getD i 0 < t.ops.length
theorem c9T (t : Tp) (x : List Nat) (ht : Tok t) (hx : x.length = t.n) : AC Tryz.prog 158 [flV, R7 t, .d (rowD x)] [] [(103, [rowV (b4m t x)])] (.sl 103 0 0 t.n 1 t.n) := by
 refine k9 V1 rfl f5 (λ_ => False) (by simp [g5]) ?_
 refine evx (And.intro @L8.eq_1 @opsD.eq_1) ?_
 refine j5 (n := t.ops.length) (λc s => ∃ i, c + i = t.ops.length /\ s = ⟨[(2, .d (rowD x)), (3, .ptr 0 0 0 5), (4, .ptr 1 0 0 3), (7, .sl 100 0 0 i 1 i), (13, .d (opsD t.ops)), (14, fI t.ops.length), (15, fI i)],
   [(100, [rowV (regs t x i)]), (1, [[fI t.n, .d (opsD t.ops), .d (rowI t.out)]]), (0, [[.d (.fn 211 [] []), .d (.fn 212 [] []), .d (.fn 213 [] []), .d (.fn 214 [] []), .d (.fn 215 [] [])]])]⟩)
  (s0 := ⟨_, _⟩) (LeT.nilrow (X := 100) (esz := 1) (as' := [(2, .d (rowD x)), (3, .ptr 0 0 0 5), (4, .ptr 1 0 0 3), (7, .sl 100 0 0 0 1 0), (13, .d (opsD t.ops)), (14, fI t.ops.length), (15, fI 0)]) (by simp [d6, d9]) (λh => h) λi => ?_) ⟨0, by omega, rfl⟩ ?_
 ·simp only [look]
  repeat' split
  all_goals simp [rowD, opsD]
 rintro c s ⟨i, hc, rfl⟩
 have hl := Z7 t x i
 have hlen := ht.len
 refine evx (And.intro @F2.eq_1 @opsD.eq_1) ?_
 refine b9 (λh => ?_) (λh => ?_)
 ·replace h := d2b h
  have hop := ht.op i h
  generalize ho : t.ops.getD i ⟨0, 0, 0, 0⟩ = o at hop
  have hreg : regs t x (i + 1) = regs t x i ++ [opV o x (regs t x i)] := by simp only [regs, ho]
  refine evx (And.intro @opG.eq_1 ho) ?_
  rcases hop with hk | ⟨hk, ha⟩ | ⟨hk, ha, hb⟩
  ·refine evx hk ?_
   repeat with_reducible refine andO ?_
   first | refine a0 (a41 o.c) rfl ?_ | refine d7 (a41 o.c) rfl ?_ | refine d5 (a41 o.c) rfl ?_
   refine ev ?_
   repeat with_reducible refine andO ?_
   have e : rowV (regs t x i) ++ [fl o.c] = rowV (regs t x (i + 1)) := by rw [hreg]; simp [rowV, opV, hk]
   rw [f0 (by omega) (by omega), e]
   exact ⟨c - 1, _, by omega, LeT.only (λX => decide (X <= 100)) (λ_ h => h) rfl (by simp [kpS]) (by simp [kpS]), i + 1, by omega, rfl⟩
  ·refine evbx hk ?_
   repeat with_reducible refine andO ?_
   have e : rowV (regs t x i) ++ [fl (x.getD o.a.toNat 0)] = rowV (regs t x (i + 1)) := by rw [hreg]; simp [rowV, opV, hk]
   rw [f0 (by omega) (by omega), e]
   exact ⟨c - 1, _, by omega, LeT.only (λX => decide (X <= 100)) (λ_ h => h) rfl (by simp [kpS]) (by simp [kpS]), i + 1, by omega, rfl⟩
  ·have ga : (rowV (regs t x i)).getD o.a.toNat .any = fl ((regs t x i).getD o.a.toNat 0) := j8 _ _ (by omega)
   have gb : (rowV (regs t x i)).getD o.b.toNat .any = fl ((regs t x i).getD o.b.toNat 0) := j8 _ _ (by omega)
   rcases hk with hk | hk | hk | hk
   ·refine evbx hk ?_
    repeat with_reducible refine andO ?_
    rw [ga, gb]
    first | refine a0 (a40 ((regs t x i).getD o.a.toNat 0) ((regs t x i).getD o.b.toNat 0)) rfl ?_ | refine d7 (a40 ((regs t x i).getD o.a.toNat 0) ((regs t x i).getD o.b.toNat 0)) rfl ?_ | refine d5 (a40 ((regs t x i).getD o.a.toNat 0) ((regs t x i).getD o.b.toNat 0)) rfl ?_
    refine ev ?_
    repeat with_reducible refine andO ?_
    have e : rowV (regs t x i) ++ [fl (fop .add ((regs t x i).getD o.a.toNat 0) ((regs t x i).getD o.b.toNat 0))] = rowV (regs t x (i + 1)) := by rw [hreg]; simp [rowV, opV, hk]
    rw [f0 (by omega) (by omega), e]
    exact ⟨c - 1, _, by omega, LeT.only (λX => decide (X <= 100)) (λ_ h => h) rfl (by simp [kpS]) (by simp [kpS]), i + 1, by omega, rfl⟩
   ·refine evbx hk ?_
    repeat with_reducible refine andO ?_
    rw [ga, gb]
    first | refine a0 (a4Z ((regs t x i).getD o.a.toNat 0) ((regs t x i).getD o.b.toNat 0)) rfl ?_ | refine d7 (a4Z ((regs t x i).getD o.a.toNat 0) ((regs t x i).getD o.b.toNat 0)) rfl ?_ | refine d5 (a4Z ((regs t x i).getD o.a.toNat 0) ((regs t x i).getD o.b.toNat 0)) rfl ?_
    refine ev ?_
    repeat with_reducible refine andO ?_
    have e : rowV (regs t x i) ++ [fl (fop .sub ((regs t x i).getD o.a.toNat 0) ((regs t x i).getD o.b.toNat 0))] = rowV (regs t x (i + 1)) := by rw [hreg]; simp [rowV, opV, hk]
    rw [f0 (by omega) (by omega), e]
    exact ⟨c - 1, _, by omega, LeT.only (λX => decide (X <= 100)) (λ_ h => h) rfl (by simp [kpS]) (by simp [kpS]), i + 1, by omega, rfl⟩
   ·refine evbx hk ?_
    repeat with_reducible refine andO ?_
    rw [ga, gb]
    first | refine a0 (a4Y ((regs t x i).getD o.a.toNat 0) ((regs t x i).getD o.b.toNat 0)) rfl ?_ | refine d7 (a4Y ((regs t x i).getD o.a.toNat 0) ((regs t x i).getD o.b.toNat 0)) rfl ?_ | refine d5 (a4Y ((regs t x i).getD o.a.toNat 0) ((regs t x i).getD o.b.toNat 0)) rfl ?_
    refine ev ?_
    repeat with_reducible refine andO ?_
    have e : rowV (regs t x i) ++ [fl (fop .mul ((regs t x i).getD o.a.toNat 0) ((regs t x i).getD o.b.toNat 0))] = rowV (regs t x (i + 1)) := by rw [hreg]; simp [rowV, opV, hk]
    rw [f0 (by omega) (by omega), e]
    exact ⟨c - 1, _, by omega, LeT.only (λX => decide (X <= 100)) (λ_ h => h) rfl (by simp [kpS]) (by simp [kpS]), i + 1, by omega, rfl⟩
   ·refine evbx hk ?_
    repeat with_reducible refine andO ?_
    rw [ga, gb]
    first | refine a0 (a4X ((regs t x i).getD o.a.toNat 0) ((regs t x i).getD o.b.toNat 0)) rfl ?_ | refine d7 (a4X ((regs t x i).getD o.a.toNat 0) ((regs t x i).getD o.b.toNat 0)) rfl ?_ | refine d5 (a4X ((regs t x i).getD o.a.toNat 0) ((regs t x i).getD o.b.toNat 0)) rfl ?_
    refine ev ?_
    repeat with_reducible refine andO ?_
    have e : rowV (regs t x i) ++ [fl (fop .div ((regs t x i).getD o.a.toNat 0) ((regs t x i).getD o.b.toNat 0))] = rowV (regs t x (i + 1)) := by rw [hreg]; simp [rowV, opV, hk]
    rw [f0 (by omega) (by omega), e]
    exact ⟨c - 1, _, by omega, LeT.only (λX => decide (X <= 100)) (λ_ h => h) rfl (by simp [kpS]) (by simp [kpS]), i + 1, by omega, rfl⟩
 ·replace h := d2c h
  have e : i = t.ops.length := by omega
  subst e
  refine ev ?_
  have hn := ht.n
  repeat with_reducible refine andO ?_
  rw [<- a3P (λi => (regs t x t.ops.length).getD (t.out.getD i 0).toNat 0)]
  refine r5 (n := t.n) (λc s => ∃ i, c + i = t.n /\ s = ⟨[(4, .ptr 1 0 0 3), (7, .sl 100 0 0 t.ops.length 1 t.ops.length), (10, .sl 103 0 0 t.n 1 t.n), (118, fI t.n), (119, fI i)],
   [(103, [rowV (a42 (λi => (regs t x t.ops.length).getD (t.out.getD i 0).toNat 0) t.n i)]), (100, [rowV (regs t x t.ops.length)]), (1, [[fI t.n, .d (opsD t.ops), .d (rowI t.out)]]), (0, [[.d (.fn 211 [] []), .d (.fn 212 [] []), .d (.fn 213 [] []), .d (.fn 214 [] []), .d (.fn 215 [] [])]])]⟩) ⟨0, by omega, rfl⟩ ?_
  rintro c s ⟨i, hc, rfl⟩
  have hl2 := a55 (λi => (regs t x t.ops.length).getD (t.out.getD i 0).toNat 0) t.n i
  refine evx @F1.eq_1 ?_
  refine b9 (λh => ?_) (λh => ?_)
  ·replace h := d2b h
   have hi : i < t.n := by omega
   have hs := a54 (λi => (regs t x t.ops.length).getD (t.out.getD i 0).toNat 0) t.n i hi
   generalize a42 (λi => (regs t x t.ops.length).getD (t.out.getD i 0).toNat 0) t.n i = z at hl2 hs
   have ho := ht.out i hi
   have hol := ht.outl
   have ga : (rowV (regs t x t.ops.length)).getD (t.out.getD i 0).toNat .any = fl ((regs t x t.ops.length).getD (t.out.getD i 0).toNat 0) := j8 _ _ (by omega)
   refine evx ga ?_
   repeat with_reducible refine andO ?_
   rw [f0 (by omega) (by omega)]
   refine ⟨c - 1, by omega, i + 1, by omega, ?_⟩
   rw [<- hs]; rfl
  ·replace h := d2c h
   have e : i = t.n := by omega
   subst e
   rw [a56]
   refine ev ?_
   exact m5 (λX => X == 103) (λ_ h => h) (f8 (t := 6) (by decide) rfl) rfl (by simp [kpS]) (by simp [kpS])
theorem a57 (t : Tp) (x : List Nat) : (b4m t x).length = t.n := k8 _ _
theorem a7M (t : Tp) (x : List Nat) (ht : Tok t) (hx : x.length = t.n) : AC Tryz.prog 97 [R7 t, .d (rowD x)] [] [(0, [rowV (b4m t x)])] (.sl 0 0 0 t.n 1 t.n) := by
 refine a5v (X := 100) ?_
 refine k9 a8W rfl f5 (λ_ => False) (by simp [g5]) ?_
 refine evx @b0D.eq_1 ?_
 first | refine a0 (a65) rfl ?_ | refine d7 (a65) rfl ?_ | refine d5 (a65) rfl ?_
 refine ev ?_
 refine F7 100 [flV, R7 t, .d (rowD x)] (by simp [Heap.next]) (a5v (c9T t x ht hx)) ⟨.aggs ⟨.bare _, .bare _, .bare _, .bare _, .bare _, trivial⟩, .aggs ⟨.bare _, .bare _, .bare _, trivial⟩, .bare _, trivial⟩ ?_
 refine ev ?_
 exact m5 (λX => X == 100) (λ_ h => h) (f8 (t := 4) (by decide) rfl) rfl (by simp [kpS]) (by simp [kpS])
end Go.Ab
