/- Part 11: LF, LA, LB, LC, LD, CA, CB, CC, JA, BA, BB, SA, SB, BC, BD. -/
import Derived.Test.YtloimimehbehoaaGreatGJ
import Derived.Test.YtloimimehbehoaaGreatChecked
namespace Go.Ab
set_option linter.unusedSimpArgs false
set_option linter.unusedVariables false
open Go Go.Proofs
theorem mixed : Tryz.prog.follows .mixedOrders = true := by kernel_rfl
def A_math_IsNaN : CA := (.seq (.reg [i_X 0 2 (.h (.mov (.k (.d (.bool false)))))] [0]) (.seq (.reg [i_M 0 3 0, i_M 1 4 0, i_X 2 5 (.h (.fcmp .ne (.t 3) (.t 4))), i_M 3 2 5] [2]) .ret))
theorem A_math_IsNaN_comp : compF Tryz.prog 88 = some ⟨6, [(2, none)], A_math_IsNaN.strip⟩ := by kernel_rfl
def A_math_IsInf : CA := (.seq (.reg [i_X 0 4 (.h (.mov (.k (.d (.bool false)))))] [0, 1]) (.seq (.seq (.reg [i_M 0 5 1, i_B 1 6 .eql 5 0] [0, 1, 6]) (.cond (.t 6) (.reg [i_M 0 7 0, i_X 1 8 (.callA (kF 118) [(.t 7)]), i_M 2 0 8] [0]) (.seq (.reg [i_M 0 9 1, i_B 1 10 .lss 9 0] [0, 10]) (.cond (.t 10) (.reg [i_M 0 11 0, i_X 1 12 (.h (.un .neg (.t 11))), i_M 2 0 12] [0]) .skip)))) (.seq (.reg [i_M 0 13 0, i_X 1 14 (.h (.fcmp .gt (.t 13) (.k (.d (.flt 9218868437227405311))))), i_M 2 4 14] [4]) .ret)))
theorem A_math_IsInf_comp : compF Tryz.prog 89 = some ⟨15, [(4, none)], A_math_IsInf.strip⟩ := by kernel_rfl
def A_math_Inf : CA := (.seq (.reg [i_X 0 2 (.h (.mov (.k (.d (.flt 0)))))] [0]) (.seq (.reg [i_X 0 3 (.h (.mov (.k (.d (.int .u64 0)))))] [0]) (.seq (.seq (.reg [i_M 0 4 0, i_B 1 5 .geq 4 0] [5]) (.cond (.t 5) (.reg [i_X 0 3 (.h (.mov (.k (.d (.int .u64 9218868437227405312)))))] [3]) (.reg [i_X 0 3 (.h (.mov (.k (.d (.int .u64 18442240474082181120)))))] [3]))) (.seq (.reg [i_M 0 6 3, i_X 1 7 (.h (.frombits (.t 6))), i_M 2 2 7] [2]) .ret))))
theorem A_math_Inf_comp : compF Tryz.prog 91 = some ⟨8, [(2, none)], A_math_Inf.strip⟩ := by kernel_rfl
def A_math_NaN : CA := (.seq (.reg [i_X 0 0 (.h (.mov (.k (.d (.flt 0)))))] []) (.seq (.reg [i_X 0 1 (.h (.frombits (.k (.d (.int .u64 9221120237041090561))))), i_M 1 0 1] [0]) .ret))
theorem A_math_NaN_comp : compF Tryz.prog 142 = some ⟨2, [(0, none)], A_math_NaN.strip⟩ := by kernel_rfl
def A_math_Abs : CA := (.seq (.reg [i_X 0 2 (.h (.mov (.k (.d (.flt 0)))))] [0]) (.seq (.reg [i_M 0 3 0, i_X 1 4 (.h (.bits (.t 3))), i_X 2 5 (.h (.ibin .andNot (.t 4) (.k (.d (.int .u64 9223372036854775808))))), i_X 3 6 (.h (.frombits (.t 5))), i_M 4 2 6] [2]) .ret))
theorem A_math_Abs_comp : compF Tryz.prog 118 = some ⟨7, [(2, none)], A_math_Abs.strip⟩ := by kernel_rfl
def A_math_Copysign : CA := (.seq (.reg [i_X 0 4 (.h (.mov (.k (.d (.flt 0)))))] [0, 1]) (.seq (.reg [i_M 0 5 0, i_X 1 6 (.h (.bits (.t 5))), i_X 2 7 (.h (.ibin .andNot (.t 6) (.k (.d (.int .u64 9223372036854775808))))), i_M 3 8 1, i_X 4 9 (.h (.bits (.t 8))), i_X 5 10 (.h (.ibin .and (.t 9) (.k (.d (.int .u64 9223372036854775808))))), i_N 6 11 .or 7 10, i_X 7 12 (.h (.frombits (.t 11))), i_M 8 4 12] [4]) .ret))
theorem A_math_Copysign_comp : compF Tryz.prog 143 = some ⟨13, [(4, none)], A_math_Copysign.strip⟩ := by kernel_rfl
def A_math_Nextafter : CA := (.seq (.reg [i_X 0 4 (.h (.mov (.k (.d (.flt 0)))))] [0, 1]) (.seq (.block 0 (.seq (.reg [i_M 0 10 0, i_X 1 11 (.callA (kF 88) [(.t 10)]), i_M 2 12 11, ⟨3, (some 13), (some (12, false)), [], [], (.h (.mov (.t 1)))⟩, ⟨4, (some 14), (some (12, false)), [], [], (.callA (kF 88) [(.t 13)])⟩, i_X 5 15 (.h (.pick (.t 12) (.k (.d (.bool true))) (.t 14))), i_M 6 9 15] [0, 1, 9]) (.cond (.t 9) (.reg [i_X 0 16 (.callA (kF 142) []), i_M 1 4 16] [4]) (.seq (.reg [i_M 0 18 0, i_M 1 19 1, i_X 2 20 (.h (.fcmp .eq (.t 18) (.t 19))), i_M 3 17 20] [0, 1, 17]) (.cond (.t 17) (.reg [i_M 0 21 0, i_M 1 4 21] [4]) (.seq (.reg [i_M 0 23 0, i_X 1 24 (.h (.fcmp .eq (.t 23) (.k (.d (.flt 0))))), i_M 2 22 24] [0, 1, 22]) (.cond (.t 22) (.reg [i_X 0 25 (.h (.frombits (.k (.d (.int .u64 1))))), i_M 1 26 1, i_X 2 27 (.callA (kF 143) [(.t 25), (.t 26)]), i_M 3 4 27] [4]) (.seq (.reg [i_M 0 29 1, i_M 1 30 0, i_X 2 31 (.h (.fcmp .gt (.t 29) (.t 30))), i_M 3 32 0, i_X 4 33 (.h (.fcmp .gt (.t 32) (.k (.d (.flt 0))))), i_X 5 34 (.h (.bcmp false (.t 31) (.t 33))), i_M 6 28 34] [0, 28]) (.cond (.t 28) (.reg [i_M 0 35 0, i_X 1 36 (.h (.bits (.t 35))), i_X 2 37 (.h (.ibin .add (.t 36) (.k (.d (.int .u64 1))))), i_X 3 38 (.h (.frombits (.t 37))), i_M 4 4 38] [4]) (.reg [i_M 0 5 0, i_X 1 6 (.h (.bits (.t 5))), i_X 2 7 (.h (.ibin .sub (.t 6) (.k (.d (.int .u64 1))))), i_X 3 8 (.h (.frombits (.t 7))), i_M 4 4 8] [4])))))))))) .ret))
theorem A_math_Nextafter_comp : compF Tryz.prog 107 = some ⟨39, [(4, none)], A_math_Nextafter.strip⟩ := by kernel_rfl
def A_fp_next_float64 : CA := (.seq (.reg [i_X 0 4 (.h (.mov (.k (.d (.flt 0)))))] [0, 1]) (.seq (.reg [i_M 0 5 0, i_M 1 6 1, i_X 2 7 (.callA (kF 107) [(.t 5), (.t 6)]), i_M 3 4 7] [4]) .ret))
theorem A_fp_next_float64_comp : compF Tryz.prog 90 = some ⟨8, [(4, none)], A_fp_next_float64.strip⟩ := by kernel_rfl
def A_fp_Up : CA := (.seq (.reg [i_X 0 2 (.h (.mov (.k (.d (.flt 0)))))] [0]) (.seq (.reg [i_M 0 3 0, i_X 1 4 (.callA (kF 91) [(kI 1)]), i_X 2 5 (.callA (kF 90) [(.t 3), (.t 4)]), i_M 3 2 5] [2]) .ret))
theorem A_fp_Up_comp : compF Tryz.prog 40 = some ⟨6, [(2, none)], A_fp_Up.strip⟩ := by kernel_rfl
def A_fp_Down : CA := (.seq (.reg [i_X 0 2 (.h (.mov (.k (.d (.flt 0)))))] [0]) (.seq (.reg [i_M 0 3 0, i_X 1 4 (.callA (kF 91) [(.k (.d (.int .i64 (-1))))]), i_X 2 5 (.callA (kF 90) [(.t 3), (.t 4)]), i_M 3 2 5] [2]) .ret))
theorem A_fp_Down_comp : compF Tryz.prog 155 = some ⟨6, [(2, none)], A_fp_Down.strip⟩ := by kernel_rfl
def A_fp_Finite : CA := (.seq (.reg [i_X 0 2 (.h (.mov (.k (.d (.bool false)))))] [0]) (.seq (.reg [i_M 0 3 0, i_X 1 4 (.callA (kF 88) [(.t 3)]), i_X 2 5 (.h (.un .not (.t 4))), i_M 3 6 5, ⟨4, (some 7), (some (6, true)), [], [], (.h (.mov (.t 0)))⟩, ⟨5, (some 8), (some (6, true)), [], [], (.callA (kF 89) [(.t 7), (kI 0)])⟩, ⟨6, (some 9), (some (6, true)), [], [], (.h (.un .not (.t 8)))⟩, i_X 7 10 (.h (.pick (.t 6) (.t 9) (.k (.d (.bool false))))), i_M 8 2 10] [2]) .ret))
theorem A_fp_Finite_comp : compF Tryz.prog 39 = some ⟨11, [(2, none)], A_fp_Finite.strip⟩ := by kernel_rfl
def A_r1_Finite : CA := (.seq (.reg [i_X 0 2 (.h (.mov (.k (.d (.bool false)))))] [0]) (.seq (.reg [i_M 0 3 0, i_M 1 4 0, i_F 2 5 .sub 3 4, i_X 3 6 (.h (.fcmp .eq (.t 5) (.k (.d (.flt 0))))), i_M 4 2 6] [2]) .ret))
theorem A_r1_Finite_comp : compF Tryz.prog 20 = some ⟨7, [(2, none)], A_r1_Finite.strip⟩ := by kernel_rfl
def A_r1_Abs : CA := (.seq (.reg [i_X 0 2 (.h (.mov (.k (.d (.flt 0)))))] [0]) (.seq (.reg [i_M 0 3 0, i_X 1 4 (.callA (kF 118) [(.t 3)]), i_M 2 2 4] [2]) .ret))
theorem A_r1_Abs_comp : compF Tryz.prog 63 = some ⟨5, [(2, none)], A_r1_Abs.strip⟩ := by kernel_rfl
def A_r1_Inf : CA := (.seq (.reg [i_X 0 0 (.h (.mov (.k (.d (.flt 0)))))] []) (.seq (.reg [i_X 0 1 (.callA (kF 91) [(kI 1)]), i_M 1 0 1] [0]) .ret))
theorem A_r1_Inf_comp : compF Tryz.prog 71 = some ⟨2, [(0, none)], A_r1_Inf.strip⟩ := by kernel_rfl
def A_iv_whole : CA := (.seq (.reg [i_X 0 0 (.alloc [(.d (.flt 0)), (.d (.flt 0))] 58)] [0]) (.seq (.reg [i_X 0 1 (.callA (kF 91) [(.k (.d (.int .i64 (-1))))]), i_X 1 2 (.callA (kF 91) [(kI 1)]), i_X 2 3 (.h (.build [(.d (.flt 0)), (.d (.flt 0))] [(0, (1, (.t 1))), (1, (1, (.t 2)))])), i_S 3 0 3 2] [0]) .ret))
theorem A_iv_whole_comp : compF Tryz.prog 136 = some ⟨4, [(0, (some (2, true)))], A_iv_whole.strip⟩ := by kernel_rfl
def A_iv_Right : CA := (.seq (.reg [i_X 0 1 (.box (.t 0) 2 58), i_X 1 2 (.h (.mov (.k (.d (.bool false)))))] [1]) (.seq (.reg [i_P 0 3 1 0, i_L 1 4 3 1, i_P 2 5 1 1, i_L 3 6 5 1, i_X 4 7 (.h (.fcmp .le (.t 4) (.t 6))), i_M 5 2 7] [2]) .ret))
theorem A_iv_Right_comp : compF Tryz.prog 135 = some ⟨8, [(2, none)], A_iv_Right.strip⟩ := by kernel_rfl
def A_iv_Make : CA := (.seq (.reg [i_X 0 4 (.alloc [(.d (.flt 0)), (.d (.flt 0))] 58)] [0, 1, 4]) (.seq (.seq (.reg [i_M 0 6 0, i_M 1 7 1, i_X 2 8 (.h (.build [(.d (.flt 0)), (.d (.flt 0))] [(0, (1, (.t 6))), (1, (1, (.t 7)))])), i_X 3 5 (.alloc [(.d (.flt 0)), (.d (.flt 0))] 58), i_S 4 5 8 2] [4, 5]) (.seq (.reg [i_A 0 9 5 2, i_X 1 10 (.callA (kF 135) [(.t 9)])] [4, 5, 10]) (.cond (.t 10) (.seq (.reg [i_A 0 11 5 2, i_S 1 4 11 2] [4]) .ret) .skip))) (.seq (.reg [i_X 0 12 (.callA (kF 136) []), i_S 1 4 12 2] [4]) .ret)))
theorem A_iv_Make_comp : compF Tryz.prog 93 = some ⟨13, [(4, (some (2, true)))], A_iv_Make.strip⟩ := by kernel_rfl
def A_iv_ends_float64_out : CA := (.seq (.reg [i_X 0 2 (.box (.t 0) 2 155), i_X 1 4 (.alloc [(.d (.flt 0)), (.d (.flt 0))] 58)] [1, 2, 4]) (.seq (.reg [i_M 0 5 1, i_P 1 6 2 0, i_L 2 7 6 1, i_X 3 8 (.callS 0 (.t 5) [(.t 7)]), i_X 4 9 (.callS 0 (kF 155) [(.t 8)]), i_M 5 10 1, i_P 6 11 2 1, i_L 7 12 11 1, i_X 8 13 (.callA (.t 10) [(.t 12)]), i_X 9 14 (.callA (kF 40) [(.t 13)]), i_X 10 15 (.callA (kF 93) [(.t 9), (.t 14)]), i_S 11 4 15 2] [4]) .ret))
theorem A_iv_ends_float64_out_comp : compF Tryz.prog 126 = some ⟨16, [(4, (some (2, true)))], A_iv_ends_float64_out.strip⟩ := by kernel_rfl
def A_iv_same : CA := (.seq (.reg [i_X 0 2 (.h (.mov (.k (.d (.flt 0)))))] [0]) (.seq (.reg [i_M 0 3 0, i_M 1 2 3] [2]) .ret))
theorem A_iv_same_comp : compF Tryz.prog 127 = some ⟨4, [(2, none)], A_iv_same.strip⟩ := by kernel_rfl
def A_iv_Sub : CA := (.seq (.reg [i_X 0 2 (.box (.t 0) 2 58), i_X 1 3 (.box (.t 1) 2 58), i_X 2 4 (.alloc [(.d (.flt 0)), (.d (.flt 0))] 58)] [2, 3, 4]) (.seq (.reg [i_P 0 5 2 0, i_L 1 6 5 1, i_P 2 7 3 1, i_L 3 8 7 1, i_F 4 9 .sub 6 8, i_P 5 10 2 1, i_L 6 11 10 1, i_P 7 12 3 0, i_L 8 13 12 1, i_F 9 14 .sub 11 13, i_X 10 15 (.h (.build [(.d (.flt 0)), (.d (.flt 0))] [(0, (1, (.t 9))), (1, (1, (.t 14)))])), i_X 11 16 (.callA (kF 126) [(.t 15), (kF 127)]), i_S 12 4 16 2] [4]) .ret))
theorem A_iv_Sub_comp : compF Tryz.prog 79 = some ⟨17, [(4, (some (2, true)))], A_iv_Sub.strip⟩ := by kernel_rfl
def A_iv_span_L0 : CA := (.seq (.reg [i_B 0 13 .lss 12 4] [2, 3, 11, 12, 13]) (.seq (.cond (.t 13) .skip (.exit 0)) (.seq (.block 1 (.seq (.reg [i_X 0 14 (.h (.idxv (.t 11) (.t 12) 4 1 false)), i_M 1 5 14] [2, 3, 5, 11, 12]) (.seq (.seq (.reg [i_M 0 15 5, i_X 1 16 (.callA (kF 88) [(.t 15)])] [2, 3, 5, 11, 12, 16]) (.cond (.t 16) (.seq (.reg [i_X 0 17 (.callA (kF 136) []), i_S 1 2 17 2] [2]) .ret) .skip)) (.seq (.seq (.reg [i_M 0 18 5, i_P 1 19 3 0, i_L 2 20 19 1, i_X 3 21 (.h (.fcmp .lt (.t 18) (.t 20)))] [2, 3, 5, 11, 12, 21]) (.cond (.t 21) (.reg [i_M 0 22 5, i_P 1 23 3 0, i_S 2 23 22 1] [2, 3, 5, 11, 12]) .skip)) (.seq (.reg [i_M 0 24 5, i_P 1 25 3 1, i_L 2 26 25 1, i_X 3 27 (.h (.fcmp .gt (.t 24) (.t 26)))] [2, 3, 5, 11, 12, 27]) (.cond (.t 27) (.reg [i_M 0 28 5, i_P 1 29 3 1, i_S 2 29 28 1] [2, 3, 11, 12]) .skip)))))) (.reg [i_B 0 30 .add 12 1, i_M 1 12 30] [2, 3, 11, 12]))))
def A_iv_span : CA := (.seq (.reg [i_X 0 1 (.box (.t 0) 4 172), i_X 1 2 (.alloc [(.d (.flt 0)), (.d (.flt 0))] 58)] [1, 2]) (.seq (.reg [i_X 0 6 (.h (.idxa (.t 1) (kI 0) 4 1)), i_L 1 7 6 1, i_X 2 8 (.h (.idxa (.t 1) (kI 0) 4 1)), i_L 3 9 8 1, i_X 4 10 (.h (.build [(.d (.flt 0)), (.d (.flt 0))] [(0, (1, (.t 7))), (1, (1, (.t 9)))])), i_X 5 3 (.alloc [(.d (.flt 0)), (.d (.flt 0))] 155), i_S 6 3 10 2] [1, 2, 3]) (.seq (.seq (.reg [i_A 0 11 1 4, i_K 1 12 0] [2, 3, 11, 12]) (.block 0 (.loop A_iv_span_L0))) (.seq (.reg [i_A 0 31 3 2, i_X 1 32 (.callA (kF 126) [(.t 31), (kF 127)]), i_S 2 2 32 2] [2]) .ret))))
theorem A_iv_span_comp : compF Tryz.prog 154 = some ⟨33, [(2, (some (2, true)))], A_iv_span.strip⟩ := by kernel_rfl
def A_iv_Mul : CA := (.seq (.reg [i_X 0 2 (.box (.t 0) 2 58), i_X 1 3 (.box (.t 1) 2 58), i_X 2 4 (.alloc [(.d (.flt 0)), (.d (.flt 0))] 58)] [2, 3, 4]) (.seq (.reg [i_P 0 5 2 0, i_L 1 6 5 1, i_P 2 7 3 0, i_L 3 8 7 1, i_F 4 9 .mul 6 8, i_P 5 10 2 0, i_L 6 11 10 1, i_P 7 12 3 1, i_L 8 13 12 1, i_F 9 14 .mul 11 13, i_P 10 15 2 1, i_L 11 16 15 1, i_P 12 17 3 0, i_L 13 18 17 1, i_F 14 19 .mul 16 18, i_P 15 20 2 1, i_L 16 21 20 1, i_P 17 22 3 1, i_L 18 23 22 1, i_F 19 24 .mul 21 23, i_X 20 25 (.h (.build z_4 [(0, (1, (.t 9))), (1, (1, (.t 14))), (2, (1, (.t 19))), (3, (1, (.t 24)))])), i_X 21 26 (.callA (kF 154) [(.t 25)]), i_S 22 4 26 2] [4]) .ret))
theorem A_iv_Mul_comp : compF Tryz.prog 125 = some ⟨27, [(4, (some (2, true)))], A_iv_Mul.strip⟩ := by kernel_rfl
def A_r6_copied_L0 : CA := (.seq (.seq (.reg [i_M 0 5 4, i_M 1 6 0, i_X 2 7 (.h (.len (.t 6))), i_N 3 8 .lss 5 7] [0, 3, 4, 8]) (.cond (.t 8) .skip (.exit 0))) (.seq (.block 1 (.reg [i_M 0 11 3, i_X 1 12 (.bslice [] 0 1 [] 31), i_M 2 13 0, i_M 3 14 4, i_I 4 15 13 14 1, i_L 5 16 15 1, i_X 6 17 (.app (.t 12) (.t 16) 1 8), i_X 7 18 (.bslice [.nil] 1 1 [(0, (1, (.t 17)))] 30), i_X 8 19 (.app (.t 11) (.t 18) 1 24), i_M 9 3 19] [0, 3, 4])) (.reg [i_M 0 9 4, i_B 1 10 .add 9 1, i_M 2 4 10] [0, 3, 4])))
def A_r6_copied : CA := (.seq (.reg [i_X 0 2 (.h (.mov (.k .nil)))] [0]) (.seq (.reg [i_X 0 3 (.h (.mov (.k .nil)))] [0, 3]) (.seq (.seq (.reg [i_K 0 4 0] [0, 3, 4]) (.block 0 (.loop A_r6_copied_L0))) (.seq (.reg [i_M 0 20 3, i_M 1 2 20] [2]) .ret))))
theorem A_r6_copied_comp : compF Tryz.prog 152 = some ⟨21, [(2, none)], A_r6_copied.strip⟩ := by kernel_rfl
end Go.Ab
namespace Go.Ab
set_option linter.unusedSimpArgs false
set_option linter.unusedVariables false
open Nat renaming reduceEqDiff → n1_, reduceAdd → n2_, reduceMul → n3_, reduceLT → n4_, reduceLeDiff → n5_
open Int renaming reduceToNat → i1_, reduceAdd → i2_, reduceSub → i3_, reduceMul → i4_, reduceNeg → i5_, reduceLT → i6_, reduceLE → i7_
open Go Go.Proofs
theorem math_IsNaN_con (x : Nat) : Con Tryz.prog 88 [fl x] (fB (isNan x)) := by
  refine Con_introA A_math_IsNaN_comp rfl mixed ?_
  refine evx @A_math_IsNaN.eq_1 ?_
  rw [fcmp_ne_self]
  exact endsT_rett rfl (by decide) (by simp [look])
theorem math_NaN_con : Con Tryz.prog 142 [] (fl qnan) := by
  refine Con_introA A_math_NaN_comp rfl mixed ?_
  refine evx @A_math_NaN.eq_1 ?_
  have : cf 9221120237041090561 = qnan := by decide
  rw [this]
  exact endsT_rett rfl (by decide) (by simp [look])
theorem math_Inf_pos : Con Tryz.prog 91 [fI 1] (fl finf) := by
  refine Con_introA A_math_Inf_comp rfl mixed ?_
  refine evx @A_math_Inf.eq_1 ?_
  have : cf 9218868437227405312 = finf := by decide
  rw [this]
  exact endsT_rett rfl (by decide) (by simp [look])
theorem math_Inf_neg : Con Tryz.prog 91 [fI (-1)] (fl fninf) := by
  refine Con_introA A_math_Inf_comp rfl mixed ?_
  refine evx @A_math_Inf.eq_1 ?_
  have : cf 18442240474082181120 = fninf := by decide
  rw [this]
  exact endsT_rett rfl (by decide) (by simp [look])
theorem math_Abs_con (x : Nat) : Con Tryz.prog 118 [fl x] (fl (fabs x)) := by
  refine Con_of_raw (compF_go A_math_Abs_comp) fun b hb hx => ?_
  refine Con_introA A_math_Abs_comp rfl mixed ?_
  refine evx @A_math_Abs.eq_1 ?_
  rw [andNot_sign hb]
  have : bits0 b < 9223372036854775808 := by unfold bits0; omega
  refine ⟨⟨by omega, by omega⟩, ?_⟩
  simp only [Int.toNat_natCast, fabs_raw, hx]
  exact endsT_rett rfl (by decide) (by simp [look])
theorem math_IsInf_con (x : Nat) : Con Tryz.prog 89 [fl x, fI 0] (fB (isInf x)) := by
  refine Con_introA A_math_IsInf_comp rfl mixed ?_
  refine evx @A_math_IsInf.eq_1 ?_
  refine callG_con (math_Abs_con x) rfl ?_
  refine ev ?_
  exact endsT_rett rfl (by decide) (by simp [look, isInf])
theorem math_Copysign_con (x y : Nat) (hx : isNan x = false) (hy : isNan y = false) : Con Tryz.prog 143 [fl x, fl y] (fl (csign x y)) := by
  refine Con_introA A_math_Copysign_comp rfl mixed ?_
  refine evx @A_math_Copysign.eq_1 ?_
  refine ⟨hx, hy, bitsOp_u64 _ _ _, ?_⟩
  exact endsT_rett rfl (by decide) (by simp [look, csign])
theorem math_Nextafter_con (x y : Nat) : Con Tryz.prog 107 [fl x, fl y] (fl (nextF x y)) := by
  refine Con_introA A_math_Nextafter_comp rfl mixed ?_
  refine evx @A_math_Nextafter.eq_1 ?_
  refine callG_con (math_IsNaN_con x) rfl ?_
  refine ev ?_
  unfold nextF
  by_cases hx : isNan x = true
  · refine evx (And.intro hx true_or) ?_
    refine callG_con (math_NaN_con) rfl ?_
    refine ev ?_
    exact endsT_rett rfl (by decide) (by simp [look])
  have hx : isNan x = false := by simpa using hx
  refine evx hx ?_
  refine callG_con (math_IsNaN_con y) rfl ?_
  refine ev ?_
  by_cases hy : isNan y = true
  · refine evx (And.intro hy or_true) ?_
    refine callG_con (math_NaN_con) rfl ?_
    refine ev ?_
    exact endsT_rett rfl (by decide) (by simp [look])
  have hy : isNan y = false := by simpa using hy
  refine evx (And.intro hy or_self) ?_
  refine condC_intro (fun h1 => ?_) (fun h1 => ?_)
  · refine evx h1 ?_
    exact endsT_rett rfl (by decide) (by simp [look])
  refine evx h1 ?_
  refine condC_intro (fun h2 => ?_) (fun h2 => ?_)
  · refine evx h2 ?_
    have e : cf 1 = 1 := by decide
    rw [e]
    refine callG_con (math_Copysign_con 1 y rfl hy) rfl ?_
    refine ev ?_
    exact endsT_rett rfl (by decide) (by simp [look])
  refine evx h2 ?_
  refine condC_intro (fun h3 => ?_) (fun h3 => ?_)
  · refine evx h3 ?_
    refine ⟨hx, wrap_u64_range _, ?_⟩
    exact endsT_rett rfl (by decide) (by simp [look])
  · refine evx h3 ?_
    refine ⟨hx, wrap_u64_range _, ?_⟩
    exact endsT_rett rfl (by decide) (by simp [look])
theorem fp_next_con (x y : Nat) : Con Tryz.prog 90 [fl x, fl y] (fl (nextF x y)) := by
  refine Con_introA A_fp_next_float64_comp rfl mixed ?_
  refine evx @A_fp_next_float64.eq_1 ?_
  refine callG_con (math_Nextafter_con x y) rfl ?_
  refine ev ?_
  exact endsT_rett rfl (by decide) (by simp [look])
theorem fp_Up_con (x : Nat) : Con Tryz.prog 40 [fl x] (fl (up x)) := by
  refine Con_introA A_fp_Up_comp rfl mixed ?_
  refine evx @A_fp_Up.eq_1 ?_
  refine callG_con (math_Inf_pos) rfl ?_
  refine ev ?_
  refine callG_con (fp_next_con x finf) rfl ?_
  refine ev ?_
  exact endsT_rett rfl (by decide) (by simp [look])
theorem fp_Down_con (x : Nat) : Con Tryz.prog 155 [fl x] (fl (down x)) := by
  refine Con_introA A_fp_Down_comp rfl mixed ?_
  refine evx @A_fp_Down.eq_1 ?_
  refine callG_con (math_Inf_neg) rfl ?_
  refine ev ?_
  refine callG_con (fp_next_con x fninf) rfl ?_
  refine ev ?_
  exact endsT_rett rfl (by decide) (by simp [look])
theorem r1_Abs_con (x : Nat) : Con Tryz.prog 63 [fl x] (fl (fabs x)) := by
  refine Con_introA A_r1_Abs_comp rfl mixed ?_
  refine evx @A_r1_Abs.eq_1 ?_
  refine callG_con (math_Abs_con x) rfl ?_
  refine ev ?_
  exact endsT_rett rfl (by decide) (by simp [look])
theorem r1_Inf_con : Con Tryz.prog 71 [] (fl finf) := by
  refine Con_introA A_r1_Inf_comp rfl mixed ?_
  refine evx @A_r1_Inf.eq_1 ?_
  refine callG_con (math_Inf_pos) rfl ?_
  refine ev ?_
  exact endsT_rett rfl (by decide) (by simp [look])
theorem fp_Finite_con (x : Nat) : Con Tryz.prog 39 [fl x] (fB (finite x)) := by
  refine Con_introA A_fp_Finite_comp rfl mixed ?_
  refine evx @A_fp_Finite.eq_1 ?_
  refine callG_con (math_IsNaN_con x) rfl ?_
  refine ev ?_
  cases h1 : isNan x <;> simp only [finite, h1, Bool.true_or, Bool.false_or, Bool.not_true, Bool.not_false, Bool.true_and, Bool.false_and]
  · refine evx h1 ?_
    refine callG_con (math_IsInf_con x) rfl ?_
    refine ev ?_
    exact endsT_rett rfl (by decide) (by simp [look])
  · refine evx h1 ?_
    exact endsT_rett rfl (by decide) (by simp [look])
theorem r1_Finite_con (x : Nat) : Con Tryz.prog 20 [fl x] (fB (fcmp .eq (fop .sub x x) 0)) := by
  refine Con_introA A_r1_Finite_comp rfl mixed ?_
  refine evx @A_r1_Finite.eq_1 ?_
  exact endsT_rett rfl (by decide) (by simp [look])
theorem iv_Right_con (a : Nat × Nat) : Con Tryz.prog 135 [ivV a] (fB (fcmp .le a.1 a.2)) := by
  refine Con_introA A_iv_Right_comp rfl mixed ?_
  refine evx @A_iv_Right.eq_1 ?_
  exact endsT_rett rfl (by decide) (by simp [look])
theorem iv_whole_con : Con Tryz.prog 136 [] (ivV (fninf, finf)) := by
  refine Con_introA A_iv_whole_comp rfl mixed ?_
  refine evx @A_iv_whole.eq_1 ?_
  refine callG_con (math_Inf_neg) rfl ?_
  refine ev ?_
  refine callG_con (math_Inf_pos) rfl ?_
  refine ev ?_
  exact endsT_retm rfl (by decide) rfl rfl rfl (by simp) (by simp [ldv])
theorem iv_Make_con (lo hi : Nat) : Con Tryz.prog 93 [fl lo, fl hi] (ivV (ivMake lo hi)) := by
  refine Con_introA A_iv_Make_comp rfl mixed ?_
  refine evx @A_iv_Make.eq_1 ?_
  refine callG_con (iv_Right_con (lo, hi)) rfl ?_
  refine ev ?_
  unfold ivMake
  refine condC_intro (fun h => ?_) (fun h => ?_)
  · refine ev ?_
    rw [if_pos h]
    exact endsT_retm rfl (by decide) rfl rfl rfl (by simp) (by simp [ldv])
  · refine ev ?_
    refine callG_con (iv_whole_con) rfl ?_
    refine ev ?_
    rw [if_neg (by simp [h])]
    exact endsT_retm rfl (by decide) rfl rfl rfl (by simp) (by simp [ldv])
theorem iv_same_con (x : Nat) : Con Tryz.prog 127 [fl x] (fl x) := by
  refine Con_introA A_iv_same_comp rfl mixed ?_
  refine evx @A_iv_same.eq_1 ?_
  exact endsT_rett rfl (by decide) (by simp [look])
theorem iv_out_con (lo hi : Nat) : Con Tryz.prog 126 [ivV (lo, hi), .d (.fn 127 [] [])] (ivV (ivMake (down lo) (up hi))) := by
  refine Con_introA A_iv_ends_float64_out_comp rfl mixed ?_
  refine evx @A_iv_ends_float64_out.eq_1 ?_
  refine callSG_con (iv_same_con lo) rfl ?_
  refine ev ?_
  refine callSG_con (fp_Down_con lo) rfl ?_
  refine ev ?_
  refine callG_con (iv_same_con hi) rfl ?_
  refine ev ?_
  refine callG_con (fp_Up_con hi) rfl ?_
  refine ev ?_
  refine callG_con (iv_Make_con _ _) rfl ?_
  refine ev ?_
  exact endsT_retm rfl (by decide) rfl rfl rfl (by simp) (by simp [ldv])
theorem iv_Sub_con (a b : Nat × Nat) : Con Tryz.prog 79 [ivV a, ivV b] (ivV (ivSub a b)) := by
  refine Con_introA A_iv_Sub_comp rfl mixed ?_
  refine evx @A_iv_Sub.eq_1 ?_
  refine callG_con (iv_out_con (fop .sub a.1 b.2) (fop .sub a.2 b.1)) rfl ?_
  refine ev ?_
  exact endsT_retm rfl (by decide) rfl rfl rfl (by simp) (by simp [ldv, ivSub])
theorem four_get (a b c d i : Nat) (h : i < 4) : ∃ x, [fl a, fl b, fl c, fl d].getD i .any = fl x ∧ [a, b, c, d].drop i = x :: [a, b, c, d].drop (i + 1) := by
  rcases i with _ | _ | _ | _ | i
  · exact ⟨a, rfl, rfl⟩
  · exact ⟨b, rfl, rfl⟩
  · exact ⟨c, rfl, rfl⟩
  · exact ⟨d, rfl, rfl⟩
  · omega
theorem iv_span_con (a b c d : Nat) : Con Tryz.prog 154 [.agg [fl a, fl b, fl c, fl d]] (ivV (spanF [a, b, c, d] a a)) := by
  generalize hR : spanF [a, b, c, d] a a = R
  refine Con_introA A_iv_span_comp rfl mixed ?_
  refine evx @A_iv_span.eq_1 ?_
  refine WA_for (n := 4) (fun n s => ∃ i lo hi, n + i = 4 ∧ spanF ([a, b, c, d].drop i) lo hi = R ∧ s = ⟨[(2, .ptr 1 0 0 2), (3, .ptr 7 0 0 2), (11, .agg [fl a, fl b, fl c, fl d]), (12, fI i)], [(7, [[fl lo, fl hi]]), (1, [[fl 0, fl 0]]), (0, [[fl a, fl b, fl c, fl d]])]⟩) ⟨0, a, a, rfl, hR, rfl⟩ ?_
  rintro n s ⟨i, lo, hi, hn, hsp, rfl⟩
  refine evx @A_iv_span_L0.eq_1 ?_
  refine condC_intro (fun h => ?_) (fun h => ?_)
  · have h : i < 4 := by have := of_decide_eq_true h; omega
    obtain ⟨x, hx, hd⟩ := four_get a b c d i h
    refine evx hx ?_
    refine ⟨by omega, by omega, ?_⟩
    refine callG_con (math_IsNaN_con x) rfl ?_
    refine ev ?_
    rw [hd, spanF] at hsp
    refine condC_intro (fun h1 => ?_) (fun h1 => ?_)
    · refine ev ?_
      refine callG_con (iv_whole_con) rfl ?_
      refine ev ?_
      rw [if_pos h1] at hsp
      rw [← hsp]
      exact endsT_retm rfl (by decide) rfl rfl rfl (by simp) (by simp [ldv])
    · rw [if_neg (by simp [h1])] at hsp
      refine ev ?_
      refine condC_intro (fun h2 => ?_) (fun h2 => ?_) <;> simp -implicitDefEqProofs only [evI, hv, effC, reduceCtorEq, ↓reduceIte, n1_, n2_, n3_, n4_, n5_, i1_, i2_, i3_, i4_, i5_, i6_, i7_]<;> refine condC_intro (fun h3 => ?_) (fun h3 => ?_) <;> simp -implicitDefEqProofs only [evI, hv, effC, reduceCtorEq, ↓reduceIte, n1_, n2_, n3_, n4_, n5_, i1_, i2_, i3_, i4_, i5_, i6_, i7_]<;> rw [wrapI (by omega) (by omega)] <;> simp only [h2, h3, if_true, Bool.false_eq_true, if_false] at hsp <;>
        exact ⟨n - 1, by omega, i + 1, _, _, by omega, hsp, rfl⟩
  · refine ev ?_
    have : i = 4 := by have := of_decide_eq_false h; omega
    subst this
    refine callG_con (iv_out_con lo hi) rfl ?_
    refine ev ?_
    have hsp : ivMake (down lo) (up hi) = R := hsp
    rw [← hsp]
    exact endsT_retm rfl (by decide) rfl rfl rfl (by simp) (by simp [ldv])
theorem iv_Mul_con (a b : Nat × Nat) : Con Tryz.prog 125 [ivV a, ivV b] (ivV (ivMul a b)) := by
  refine Con_introA A_iv_Mul_comp rfl mixed ?_
  refine evx @A_iv_Mul.eq_1 ?_
  refine callG_con (iv_span_con (fop .mul a.1 b.1) (fop .mul a.1 b.2) (fop .mul a.2 b.1) (fop .mul a.2 b.2)) rfl ?_
  refine ev ?_
  exact endsT_retm rfl (by decide) rfl rfl rfl (by simp) (by simp [ldv, ivMul])
end Go.Ab
namespace Go.Ab
set_option linter.unusedSimpArgs false
set_option linter.unusedVariables false
open Go Go.Proofs
theorem tmod_fix (a n : Int) (hn : 0 < n) : (if a.tmod n < 0 then a.tmod n + n else a.tmod n) = a % n := by
  have h1 := Int.tmod_lt_of_pos a hn
  have h2 : a.tmod n = a - n * (a.tdiv n) := by have := Int.mul_tdiv_add_tmod a n; omega
  have h3 : a % n = a - n * (a / n) := by have := Int.mul_ediv_add_emod a n; omega
  have h4 := Int.emod_nonneg a (by omega : n ≠ 0)
  have h5 := Int.emod_lt_of_pos a hn
  have h6 : -n < a.tmod n := by
    have := Int.lt_tmod_of_pos a hn
    omega
  have e : a.tmod n % n = a % n := by
    rw [h2, Int.sub_mul_emod_self_left]
  split
  · have : (a.tmod n + n) % n = a.tmod n + n := Int.emod_eq_of_lt (by omega) (by omega)
    rw [← e, ← this, Int.add_emod_right]
  · have : a.tmod n % n = a.tmod n := Int.emod_eq_of_lt (by omega) (by omega)
    rw [← e, this]
def at2 (A : List (List Nat)) (i j : Nat) : Nat := (A.getD i []).getD j 0
def up2 (A : List (List Nat)) (i j v : Nat) : List (List Nat) := A.set i ((A.getD i []).set j v)
def Sq (n : Nat) (A : List (List Nat)) : Prop := A.length = n ∧ ∀ i, i < n → (A.getD i []).length = n
def pvP (A : List (List Nat)) (k : Nat) : Nat → Nat
  | 0 => k
  | m + 1 => if fcmp .gt (fabs (at2 A (k + 1 + m) k)) (fabs (at2 A (pvP A k m) k)) = true then k + 1 + m else pvP A k m
theorem pvP_lt (A : List (List Nat)) (k : Nat) : ∀ m, k ≤ pvP A k m ∧ pvP A k m ≤ k + m := by
  intro m
  induction m with
  | zero => simp [pvP]
  | succ m ih => simp only [pvP]; split <;> omega
def elimJ (A : List (List Nat)) (i k : Nat) : Nat → List (List Nat)
  | 0 => A
  | m + 1 => up2 (elimJ A i k m) i (k + 1 + m) (fop .sub (at2 (elimJ A i k m) i (k + 1 + m)) (fop .mul (at2 (elimJ A i k m) i k) (at2 (elimJ A i k m) k (k + 1 + m))))
def elimRow (A : List (List Nat)) (n i k : Nat) : List (List Nat) := elimJ (up2 A i k (fop .div (at2 A i k) (at2 A k k))) i k (n - 1 - k)
def elimI (A : List (List Nat)) (n k : Nat) : Nat → List (List Nat)
  | 0 => A
  | m + 1 => elimRow (elimI A n k m) n (k + 1 + m) k
def swapL {α : Type} (d : α) (l : List α) (i j : Nat) : List α := (l.set i (l.getD j d)).set j (l.getD i d)
def stepP (n k : Nat) (s : List (List Nat) × List Int) : Option (List (List Nat) × List Int) :=
  let p := pvP s.1 k (n - 1 - k)
  if fcmp .eq (at2 s.1 p k) 0 = true ∨ finite (at2 s.1 p k) = false then none
  else some (elimI (swapL [] s.1 k p) n k (n - 1 - k), swapL 0 s.2 k p)
def partP (A : List (List Nat)) (n : Nat) : Nat → Option (List (List Nat) × List Int)
  | 0 => some (A, (List.range n).map fun (i : Nat) => (i : Int))
  | m + 1 => (partP A n m).bind (stepP n m)
theorem elimJ_sq (A : List (List Nat)) (n i k : Nat) (hA : Sq n A) : ∀ m, Sq n (elimJ A i k m) := by
  have up : ∀ (B : List (List Nat)) (i j v : Nat), Sq n B → Sq n (up2 B i j v) := by
    intro B i j v hB
    refine ⟨by simp [up2, hB.1], fun r hr => ?_⟩
    have := hB.2 r hr
    simp only [up2, List.getD_eq_getElem?_getD, List.getElem?_set]
    by_cases e : i = r
    · subst e
      rw [if_pos rfl]
      split
      · simpa [List.getD_eq_getElem?_getD] using this
      · rename_i h; exact absurd (hB.1 ▸ hr) h
    · rw [if_neg e]; simpa [List.getD_eq_getElem?_getD] using this
  intro m
  induction m with
  | zero => exact hA
  | succ m ih => exact up _ _ _ _ ih
theorem up2_sq (B : List (List Nat)) (n i j v : Nat) (hB : Sq n B) : Sq n (up2 B i j v) := by
  have := elimJ_sq B n i j hB 0
  refine ⟨by simp [up2, hB.1], fun r hr => ?_⟩
  have := hB.2 r hr
  simp only [up2, List.getD_eq_getElem?_getD, List.getElem?_set]
  by_cases e : i = r
  · subst e
    rw [if_pos rfl]
    split
    · simpa [List.getD_eq_getElem?_getD] using this
    · rename_i h; exact absurd (hB.1 ▸ hr) h
  · rw [if_neg e]; simpa [List.getD_eq_getElem?_getD] using this
theorem elimI_sq (A : List (List Nat)) (n k : Nat) (hA : Sq n A) : ∀ m, Sq n (elimI A n k m) := by
  intro m
  induction m with
  | zero => exact hA
  | succ m ih => exact elimJ_sq _ _ _ _ (up2_sq _ _ _ _ _ ih) _
theorem swapL_sq (A : List (List Nat)) (n i j : Nat) (hA : Sq n A) (hi : i < n) (hj : j < n) : Sq n (swapL [] A i j) := by
  refine ⟨by simp [swapL, hA.1], fun r hr => ?_⟩
  have h1 := hA.2 i hi
  have h2 := hA.2 j hj
  have h3 := hA.2 r hr
  have hl := hA.1
  simp only [List.getD_eq_getElem?_getD] at h1 h2 h3
  simp only [swapL, List.getD_eq_getElem?_getD, List.getElem?_set, List.length_set]
  by_cases e : j = r
  · subst e; simp [hl, hj]; simpa using h1
  · rw [if_neg e]
    by_cases e2 : i = r
    · subst e2; simp [hl, hi]; simpa using h2
    · rw [if_neg e2]; exact h3
theorem partP_sq (A : List (List Nat)) (n : Nat) (hA : Sq n A) : ∀ m, m ≤ n → ∀ B π, partP A n m = some (B, π) → Sq n B ∧ π.length = n := by
  intro m
  induction m with
  | zero => intro _ B π h; simp only [partP, Option.some.injEq, Prod.mk.injEq] at h; obtain ⟨rfl, rfl⟩ := h; exact ⟨hA, by simp⟩
  | succ m ih =>
    intro hm B π h
    simp only [partP, Option.bind_eq_some_iff] at h
    obtain ⟨⟨C, σ⟩, h1, h2⟩ := h
    obtain ⟨h3, h4⟩ := ih (by omega) C σ h1
    simp only [stepP] at h2
    split at h2
    · cases h2
    · simp only [Option.some.injEq, Prod.mk.injEq] at h2
      obtain ⟨rfl, rfl⟩ := h2
      have := pvP_lt C m (n - 1 - m)
      exact ⟨elimI_sq _ _ _ (swapL_sq _ _ _ _ h3 (by omega) (by omega)) _, by simp [swapL, h4]⟩
theorem partP_none (A : List (List Nat)) (n m : Nat) (h : partP A n m = none) : ∀ d, partP A n (m + d) = none := by
  intro d
  induction d with
  | zero => exact h
  | succ d ih => show (partP A n (m + d)).bind _ = none; rw [ih]; rfl
theorem hdo_swap (X n len k p : Nat) (hk : k < n) (hp : p < n) :
    (((hdo X 1 n len).set k (.sl X (p + 1) 0 len 1 len)).set p (.sl X (k + 1) 0 len 1 len)).map (V.ren (swF X (k + 1) (p + 1))) = hdo X 1 n len := by
  refine List.ext_getElem? fun j => ?_
  simp only [List.getElem?_map, List.getElem?_set, List.length_set, hdo_length]
  have hj : ∀ j, j < n → (hdo X 1 n len)[j]? = some (.sl X (j + 1) 0 len 1 len) := fun j hj => by simp [hdo, hj]
  by_cases h1 : p = j
  · subst h1
    rw [if_pos rfl, if_pos hp, hj p hp]
    simp [V.ren, swF]
  · rw [if_neg h1]
    by_cases h2 : k = j
    · subst h2
      rw [if_pos rfl, if_pos hk, hj k hk]
      have : ¬ p = k := h1
      simp [V.ren, swF, this]
    · rw [if_neg h2]
      by_cases h3 : j < n
      · rw [hj j h3]
        have a : ¬ j = k := fun e => h2 e.symm
        have b : ¬ j = p := fun e => h1 e.symm
        simp [V.ren, swF, a, b]
      · have : (hdo X 1 n len)[j]? = none := by simp [hdo]; omega
        rw [this]; rfl
def fJ (A : List (List Nat)) (i : Nat) (x : List Nat) : Nat → List Nat
  | 0 => x
  | m + 1 => (fJ A i x m).set i (fop .sub ((fJ A i x m).getD i 0) (fop .mul (at2 A i m) ((fJ A i x m).getD m 0)))
def fwdI (A : List (List Nat)) (π : List Int) (b : List Nat) (n : Nat) : Nat → List Nat
  | 0 => List.replicate n 0
  | m + 1 => fJ A m ((fwdI A π b n m).set m (b.getD (π.getD m 0).toNat 0)) m
def bJ (A : List (List Nat)) (i : Nat) (x : List Nat) : Nat → List Nat
  | 0 => x
  | m + 1 => (bJ A i x m).set i (fop .sub ((bJ A i x m).getD i 0) (fop .mul (at2 A i (i + 1 + m)) ((bJ A i x m).getD (i + 1 + m) 0)))
def bStep (A : List (List Nat)) (n i : Nat) (x : List Nat) : List Nat :=
  (bJ A i x (n - 1 - i)).set i (fop .div ((bJ A i x (n - 1 - i)).getD i 0) (at2 A i i))
def bckI (A : List (List Nat)) (n : Nat) (x : List Nat) : Nat → List Nat
  | 0 => x
  | m + 1 => bStep A n (n - 1 - m) (bckI A n x m)
def solveP (A : List (List Nat)) (π : List Int) (b : List Nat) (n : Nat) : List Nat := bckI A n (fwdI A π b n n) n
theorem fJ_len (A : List (List Nat)) (i : Nat) (x : List Nat) : ∀ m, (fJ A i x m).length = x.length := by
  intro m; induction m with
  | zero => rfl
  | succ m ih => simp [fJ, ih]
theorem fwdI_len (A : List (List Nat)) (π : List Int) (b : List Nat) (n : Nat) : ∀ m, (fwdI A π b n m).length = n := by
  intro m; induction m with
  | zero => simp [fwdI]
  | succ m ih => simp [fwdI, fJ_len, ih]
theorem bJ_len (A : List (List Nat)) (i : Nat) (x : List Nat) : ∀ m, (bJ A i x m).length = x.length := by
  intro m; induction m with
  | zero => rfl
  | succ m ih => simp [bJ, ih]
theorem bckI_len (A : List (List Nat)) (n : Nat) (x : List Nat) : ∀ m, (bckI A n x m).length = x.length := by
  intro m; induction m with
  | zero => rfl
  | succ m ih => simp [bckI, bStep, bJ_len, ih]
def Pm (n : Nat) (π : List Int) : Prop := π.length = n ∧ ∀ i, i < n → 0 ≤ π.getD i 0 ∧ π.getD i 0 < n
def solveH (A : List (List Nat)) (π : List Int) (x : List Nat) : Heap := [(2, [rowV x]), (0, [[.d (rowsD A), .d (rowI π)]])]
def A_math_normalize : CA := (.seq (.reg [i_X 0 2 (.h (.mov (.k (.d (.flt 0))))), i_K 1 3 0] [0]) (.seq (.seq (.reg [i_M 0 4 0, i_X 1 5 (.callA (kF 118) [(.t 4)]), i_X 2 6 (.h (.fcmp .lt (.t 5) (.k (.d (.flt 4503599627370496)))))] [0, 6]) (.cond (.t 6) (.seq (.reg [i_M 0 7 0, i_X 1 8 (.h (.fbin .mul (.t 7) (.k (.d (.flt 4841369599423283200))))), i_M 2 2 8, i_X 3 3 (.h (.mov (.k (.d (.int .i64 (-52))))))] [2, 3]) .ret) .skip)) (.seq (.reg [i_M 0 9 0, i_M 1 2 9, i_K 2 3 0] [2, 3]) .ret)))
theorem A_math_normalize_comp : compF Tryz.prog 153 = some ⟨10, [(2, none), (3, none)], A_math_normalize.strip⟩ := by kernel_rfl
def A_math_ldexp : CA := (.seq (.reg [i_X 0 4 (.h (.mov (.k (.d (.flt 0)))))] [0, 1]) (.seq (.block 0 (.seq (.reg [i_M 0 9 0, i_X 1 10 (.h (.fcmp .eq (.t 9) (.k (.d (.flt 0))))), i_M 2 8 10] [0, 1, 8]) (.cond (.t 8) (.seq (.reg [i_M 0 11 0, i_M 1 4 11] [4]) .ret) (.seq (.reg [i_M 0 13 0, i_X 1 14 (.callA (kF 89) [(.t 13), (kI 0)]), i_M 2 15 14, ⟨3, (some 16), (some (15, false)), [], [], (.h (.mov (.t 0)))⟩, ⟨4, (some 17), (some (15, false)), [], [], (.callA (kF 88) [(.t 16)])⟩, i_X 5 18 (.h (.pick (.t 15) (.k (.d (.bool true))) (.t 17))), i_M 6 12 18] [0, 1, 12]) (.cond (.t 12) (.seq (.reg [i_M 0 19 0, i_M 1 4 19] [4]) .ret) .skip))))) (.seq (.reg [i_M 0 21 0, i_X 1 22 (.callA (kF 153) [(.t 21)]), i_M 2 20 22, i_X 3 23 (.h (.ext (.t 20) 0)), i_X 4 24 (.h (.ext (.t 20) 1)), i_M 5 0 23, i_M 6 5 24] [0, 1, 5]) (.seq (.reg [i_M 0 25 1, i_M 1 26 5, i_N 2 27 .add 25 26, i_M 3 1 27] [0, 1]) (.seq (.reg [i_M 0 28 0, i_X 1 29 (.h (.bits (.t 28))), i_M 2 6 29] [0, 1, 6]) (.seq (.reg [i_M 0 30 1, i_M 1 31 6, i_X 2 32 (.h (.ibin .shr (.t 31) (.k (.d (.int .u64 52))))), i_X 3 33 (.h (.icv .i64 (.t 32))), i_B 4 34 .and 33 2047, i_B 5 35 .sub 34 1023, i_N 6 36 .add 30 35, i_M 7 1 36] [0, 1, 6]) (.seq (.seq (.reg [i_M 0 37 1, i_X 1 38 (.h (.ibin .lss (.t 37) (.k (.d (.int .i64 (-1075))))))] [0, 1, 6, 38]) (.cond (.t 38) (.seq (.reg [i_M 0 39 0, i_X 1 40 (.callA (kF 143) [(.k (.d (.flt 0))), (.t 39)]), i_M 2 4 40] [4]) .ret) .skip)) (.seq (.seq (.reg [i_M 0 41 1, i_B 1 42 .gtr 41 1023] [0, 1, 6, 42]) (.cond (.t 42) (.seq (.seq (.reg [i_M 0 43 0, i_X 1 44 (.h (.fcmp .lt (.t 43) (.k (.d (.flt 0)))))] [44]) (.cond (.t 44) (.seq (.reg [i_X 0 45 (.callA (kF 91) [(.k (.d (.int .i64 (-1))))]), i_M 1 4 45] [4]) .ret) .skip)) (.seq (.reg [i_X 0 46 (.callA (kF 91) [(kI 1)]), i_M 1 4 46] [4]) .ret)) .skip)) (.seq (.reg [i_X 0 7 (.h (.mov (.k (.d (.flt 4607182418800017408)))))] [1, 6, 7]) (.seq (.seq (.reg [i_M 0 47 1, i_X 1 48 (.h (.ibin .lss (.t 47) (.k (.d (.int .i64 (-1022))))))] [1, 6, 7, 48]) (.cond (.t 48) (.seq (.reg [i_M 0 49 1, i_B 1 50 .add 49 53, i_M 2 1 50] [1, 6]) (.reg [i_X 0 7 (.h (.mov (.k (.d (.flt 4368491638549381120)))))] [1, 6, 7])) .skip)) (.seq (.reg [i_M 0 51 6, i_X 1 52 (.h (.ibin .andNot (.t 51) (.k (.d (.int .u64 9218868437227405312))))), i_M 2 6 52] [1, 6, 7]) (.seq (.reg [i_M 0 53 6, i_M 1 54 1, i_B 2 55 .add 54 1023, i_X 3 56 (.h (.icv .u64 (.t 55))), i_X 4 57 (.h (.ibin .shl (.t 56) (.k (.d (.int .u64 52))))), i_N 5 58 .or 53 57, i_M 6 6 58] [6, 7]) (.seq (.reg [i_M 0 59 7, i_M 1 60 6, i_X 2 61 (.h (.frombits (.t 60))), i_F 3 62 .mul 59 61, i_M 4 4 62] [4]) .ret)))))))))))))
theorem A_math_ldexp_comp : compF Tryz.prog 123 = some ⟨63, [(4, none)], A_math_ldexp.strip⟩ := by kernel_rfl
def A_math_Ldexp : CA := (.seq (.reg [i_X 0 4 (.h (.mov (.k (.d (.flt 0)))))] [0, 1]) (.seq (.cond (.k (.d (.bool false))) (.seq (.reg [i_M 0 5 0, i_M 1 6 1, i_X 2 7 (.callA (kF 122) [(.t 5), (.t 6)]), i_M 3 4 7] [4]) .ret) .skip) (.seq (.reg [i_M 0 8 0, i_M 1 9 1, i_X 2 10 (.callA (kF 123) [(.t 8), (.t 9)]), i_M 3 4 10] [4]) .ret)))
theorem A_math_Ldexp_comp : compF Tryz.prog 75 = some ⟨11, [(4, none)], A_math_Ldexp.strip⟩ := by kernel_rfl
def A_fp_Scale : CA := (.seq (.reg [i_X 0 4 (.h (.mov (.k (.d (.flt 0)))))] [0, 1]) (.seq (.reg [i_M 0 5 0, i_M 1 6 1, i_X 2 7 (.callA (kF 75) [(.t 5), (.t 6)]), i_M 3 4 7] [4]) .ret))
theorem A_fp_Scale_comp : compF Tryz.prog 34 = some ⟨8, [(4, none)], A_fp_Scale.strip⟩ := by kernel_rfl
def A_r9_Weights_L0 : CA := (.seq (.seq (.reg [i_M 0 10 8, i_M 1 11 0, i_X 2 12 (.h (.len (.t 11))), i_N 3 13 .lss 10 12] [0, 1, 2, 7, 8, 13]) (.cond (.t 13) .skip (.exit 0))) (.seq (.block 1 (.seq (.reg [i_M 0 16 2, i_M 1 17 0, i_M 2 18 8, i_I 3 19 17 18 1, i_L 4 20 19 1, i_X 5 21 (.callA (kF 63) [(.t 20)]), i_F 6 22 .mul 16 21, i_M 7 9 22] [0, 1, 2, 7, 8, 9]) (.reg [i_M 0 23 7, i_M 1 24 1, i_M 2 25 9, i_F 3 26 .add 24 25, i_X 4 27 (.bslice [(.d (.flt 0))] 1 1 [(0, (1, (.t 26)))] 31), i_X 5 28 (.app (.t 23) (.t 27) 1 8), i_M 6 7 28] [0, 1, 2, 7, 8]))) (.reg [i_M 0 14 8, i_B 1 15 .add 14 1, i_M 2 8 15] [0, 1, 2, 7, 8])))
def A_r9_Weights : CA := (.seq (.reg [i_X 0 6 (.h (.mov (.k .nil)))] [0, 1, 2]) (.seq (.reg [i_X 0 7 (.h (.mov (.k .nil)))] [0, 1, 2, 7]) (.seq (.seq (.reg [i_K 0 8 0] [0, 1, 2, 7, 8]) (.block 0 (.loop A_r9_Weights_L0))) (.seq (.reg [i_M 0 29 7, i_M 1 6 29] [6]) .ret))))
theorem A_r9_Weights_comp : compF Tryz.prog 29 = some ⟨30, [(6, none)], A_r9_Weights.strip⟩ := by kernel_rfl
def A_r9_Size_L0 : CA := (.seq (.seq (.reg [i_M 0 8 6, i_M 1 9 0, i_X 2 10 (.h (.len (.t 9))), i_N 3 11 .lss 8 10] [0, 1, 5, 6, 11]) (.cond (.t 11) .skip (.exit 0))) (.seq (.block 1 (.seq (.reg [i_M 0 14 0, i_M 1 15 6, i_I 2 16 14 15 1, i_L 3 17 16 1, i_X 4 18 (.callS 0 (kF 63) [(.t 17)]), i_M 5 19 1, i_M 6 20 6, i_I 7 21 19 20 1, i_L 8 22 21 1, i_F 9 23 .div 18 22, i_M 10 7 23] [0, 1, 5, 6, 7]) (.seq (.seq (.reg [i_M 0 24 7, i_M 1 25 7, i_X 2 26 (.h (.fcmp .ne (.t 24) (.t 25)))] [0, 1, 5, 6, 7, 26]) (.cond (.t 26) (.seq (.reg [i_X 0 27 (.callA (kF 71) []), i_M 1 4 27] [4]) .ret) .skip)) (.seq (.reg [i_M 0 28 6, i_B 1 29 .eql 28 0, i_M 2 30 29, ⟨3, (some 31), (some (30, false)), [], [], (.h (.mov (.t 7)))⟩, ⟨4, (some 32), (some (30, false)), [], [], (.h (.mov (.t 5)))⟩, ⟨5, (some 33), (some (30, false)), [], [], (.h (.fcmp .gt (.t 31) (.t 32)))⟩, i_X 6 34 (.h (.pick (.t 30) (.k (.d (.bool true))) (.t 33)))] [0, 1, 5, 6, 7, 34]) (.cond (.t 34) (.reg [i_M 0 35 7, i_M 1 5 35] [0, 1, 5, 6]) .skip))))) (.reg [i_M 0 12 6, i_B 1 13 .add 12 1, i_M 2 6 13] [0, 1, 5, 6])))
def A_r9_Size : CA := (.seq (.reg [i_X 0 4 (.h (.mov (.k (.d (.flt 0)))))] [0, 1]) (.seq (.reg [i_X 0 5 (.h (.mov (.k (.d (.flt 0)))))] [0, 1, 5]) (.seq (.seq (.reg [i_K 0 6 0] [0, 1, 5, 6]) (.block 0 (.loop A_r9_Size_L0))) (.seq (.reg [i_M 0 36 5, i_M 1 4 36] [4]) .ret))))
theorem A_r9_Size_comp : compF Tryz.prog 32 = some ⟨37, [(4, none)], A_r9_Size.strip⟩ := by kernel_rfl
theorem math_normalize_con (x : Nat) (h : fcmp .lt (fabs x) 4503599627370496 = false) : Con Tryz.prog 153 [fl x] (.tup [fl x, fI 0]) := by
  refine Con_introA A_math_normalize_comp rfl mixed ?_
  refine evx @A_math_normalize.eq_1 ?_
  refine callG_con (math_Abs_con x) rfl ?_
  refine evx h ?_
  refine endsT_ret rfl ⟨fl x, fI 0, ?_, ?_, rfl⟩
  · exact resV_tmpI (by decide) rfl
  · exact resV_tmpI (by decide) rfl
def hW (step : Nat) : Nat := fop .div (FloatKind.nearest .f64 (step : Int)) (FloatKind.nearest .f64 1073741824)
def wtF (atol rtol x : Nat) : Nat := fop .add atol (fop .mul rtol (fabs x))
def wtP (y : List Nat) (atol rtol : Nat) : List Nat := tabR (fun i => wtF atol rtol (y.getD i 0)) y.length
theorem wtP_len (y : List Nat) (atol rtol : Nat) : (wtP y atol rtol).length = y.length := tabR_len _ _
def szF (d w : List Nat) : Nat → Option Nat
  | 0 => some 0
  | i + 1 => (szF d w i).bind fun o =>
    if isNan (fop .div (fabs (d.getD i 0)) (w.getD i 0)) = true then none
    else some (if (i == 0 || fcmp .gt (fop .div (fabs (d.getD i 0)) (w.getD i 0)) o) = true then fop .div (fabs (d.getD i 0)) (w.getD i 0) else o)
def szP (d w : List Nat) : Nat := (szF d w d.length).getD finf
theorem szF_none (d w : List Nat) (i : Nat) (h : szF d w i = none) : ∀ m, szF d w (i + m) = none := by
  intro m
  induction m with
  | zero => exact h
  | succ m ih => show (szF d w (i + m)).bind _ = none; rw [ih]; rfl
set_option maxRecDepth 8000 in
theorem r9_Weights_ac (y : List Nat) (atol rtol : Nat) (hy : y.length < 2 ^ 40) : AC Tryz.prog 29 [.d (rowD y), fl atol, fl rtol] [] [(100, [rowV (wtP y atol rtol)])] (.sl 100 0 0 y.length 1 y.length) := by
  refine AC_introA A_r9_Weights_comp rfl mixed (fun _ => False) (by simp [get_nil]) ?_
  refine evx @A_r9_Weights.eq_1 ?_
  refine WA_forW (n := y.length) (fun c s => ∃ i, c + i = y.length ∧ s = ⟨[(0, .d (rowD y)), (1, fl atol), (2, fl rtol), (7, .sl 100 0 0 i 1 i), (8, fI i)], [(100, [rowV (tabR (fun i => wtF atol rtol (y.getD i 0)) i)])]⟩)
    (s0 := ⟨_, _⟩) (LeT.nilrow (X := 100) (esz := 1) (as' := [(0, .d (rowD y)), (1, fl atol), (2, fl rtol), (7, .sl 100 0 0 0 1 0), (8, fI 0)]) rfl (fun h => h) fun i => ?_) ⟨0, by omega, rfl⟩ ?_
  · simp only [look]
    repeat' split
    all_goals simp [rowD]
  rintro c s ⟨i, hc, rfl⟩
  have hl := tabR_len (fun i => wtF atol rtol (y.getD i 0)) i
  refine evx @A_r9_Weights_L0.eq_1 ?_
  refine condC_intro (fun h => ?_) (fun h => ?_)
  · replace h := of_decide_eq_true h
    refine ev ?_
    (repeat (with_reducible refine And.intro (by omega) ?_))
    refine callG_con (r1_Abs_con (y.getD i 0)) rfl ?_
    refine ev ?_
    (repeat (with_reducible refine And.intro (by omega) ?_))
    rw [wrapI (by omega) (by omega)]
    have e := tabR_succ (fun i => wtF atol rtol (y.getD i 0)) i
    have e2 : V.d (.flt (fop .add atol (fop .mul rtol (fabs (y.getD i 0))))) = fl (wtF atol rtol (y.getD i 0)) := rfl
    rw [e2, ← e]
    refine ⟨c - 1, _, by omega, LeT.dropRow (fun _ h => h) (by decide) (fun p hp => ?_), i + 1, by omega, rfl⟩
    simp only [List.mem_cons, List.not_mem_nil, or_false] at hp
    rcases hp with rfl | rfl | rfl | rfl | rfl
    all_goals first | exact .d (.d _) | exact .sl (by simp [get_cons]) rfl
  · replace h := of_decide_eq_false h
    have e : i = y.length := by omega
    subst e
    refine ev ?_
    exact endsT_row (fun _ h => h) (resV_tmpI (t := 6) (by decide) rfl) rfl
theorem r9_Weights_con (y : List Nat) (atol rtol : Nat) (hy : y.length < 2 ^ 40) : Con Tryz.prog 29 [.d (rowD y), fl atol, fl rtol] (.d (rowD (wtP y atol rtol))) :=
  Con_of_row (r9_Weights_ac y atol rtol hy) (wtP_len _ _ _)
set_option maxRecDepth 8000 in
theorem r9_Size_con (d w : List Nat) (h : w.length = d.length) (hd : d.length < 2 ^ 62) : Con Tryz.prog 32 [.d (rowD d), .d (rowD w)] (fl (szP d w)) := by
  refine Con_introA A_r9_Size_comp rfl mixed ?_
  refine evx @A_r9_Size.eq_1 ?_
  refine WA_for (n := d.length) (fun c s => ∃ i o, c + i = d.length ∧ szF d w i = some o ∧ s = ⟨[(0, .d (rowD d)), (1, .d (rowD w)), (5, fl o), (6, fI i)], []⟩) ⟨0, 0, by omega, rfl, rfl⟩ ?_
  rintro c s ⟨i, o, hc, ho, rfl⟩
  refine evx @A_r9_Size_L0.eq_1 ?_
  refine condC_intro (fun h1 => ?_) (fun h1 => ?_)
  · replace h1 := of_decide_eq_true h1
    refine ev ?_
    (repeat (with_reducible refine And.intro (by omega) ?_))
    refine callSG_con (r1_Abs_con (d.getD i 0)) rfl ?_
    refine ev ?_
    (repeat (with_reducible refine And.intro (by omega) ?_))
    generalize hq : fop .div (fabs (d.getD i 0)) (w.getD i 0) = q
    refine evx @fcmp_ne_self ?_
    have hnext : szF d w (i + 1) = if isNan q = true then none else some (if (i == 0 || fcmp .gt q o) = true then q else o) := by
      simp only [szF, ho, Option.bind_some, hq]
    cases hn : isNan q
    · rw [hn] at hnext
      simp only [Bool.false_eq_true, if_false] at hnext
      by_cases hi0 : i = 0
      · subst hi0
        refine ev ?_
        rw [wrapI (by omega) (by omega)]
        exact ⟨c - 1, by omega, 1, q, by omega, by simpa using hnext, rfl⟩
      · have hib : ((i : Int) == 0) = false := by simp; omega
        have hin : (i == 0) = false := by simp; omega
        rw [hin, Bool.false_or] at hnext
        refine evx hib ?_
        cases hg : fcmp .gt q o
        · rw [hg] at hnext
          refine ev ?_
          rw [wrapI (by omega) (by omega)]
          exact ⟨c - 1, by omega, i + 1, o, by omega, by simpa using hnext, rfl⟩
        · rw [hg] at hnext
          refine ev ?_
          rw [wrapI (by omega) (by omega)]
          exact ⟨c - 1, by omega, i + 1, q, by omega, by simpa using hnext, rfl⟩
    · rw [hn] at hnext
      have hz : szP d w = finf := by
        have := szF_none d w (i + 1) (by simpa using hnext) (d.length - (i + 1))
        rw [show i + 1 + (d.length - (i + 1)) = d.length from by omega] at this
        unfold szP; rw [this]; rfl
      rw [hz]
      refine ev ?_
      refine callG_con (r1_Inf_con) rfl ?_
      refine ev ?_
      exact endsT_rett rfl (by decide) (by simp [look])
  · replace h1 := of_decide_eq_false h1
    have e : i = d.length := by omega
    have hz : szP d w = o := by unfold szP; rw [← e, ho]; rfl
    rw [hz]
    refine ev ?_
    exact endsT_rett rfl (by decide) (by simp [look])
def A_r3_one : CA := (.seq (.reg [i_X 0 6 (.h (.mov (.k (.d (.flt 0)))))] [0, 1, 2]) (.seq (.seq (.reg [i_M 0 7 0] [1, 2, 7]) (.block 0 (.seq (.reg [i_B 0 9 .eql 7 2, i_M 1 8 9] [1, 2, 7, 8]) (.cond (.t 8) (.seq (.reg [i_M 0 10 1, i_M 1 11 2, i_F 2 12 .add 10 11, i_M 3 6 12] [6]) .ret) (.seq (.reg [i_B 0 14 .eql 7 3, i_M 1 13 14] [1, 2, 7, 13]) (.cond (.t 13) (.seq (.reg [i_M 0 15 1, i_M 1 16 2, i_F 2 17 .sub 15 16, i_M 3 6 17] [6]) .ret) (.seq (.reg [i_B 0 19 .eql 7 4, i_M 1 18 19] [1, 2, 18]) (.cond (.t 18) (.seq (.reg [i_M 0 20 1, i_M 1 21 2, i_F 2 22 .mul 20 21, i_M 3 6 22] [6]) .ret) .skip)))))))) (.seq (.reg [i_M 0 23 1, i_M 1 24 2, i_F 2 25 .div 23 24, i_M 3 6 25] [6]) .ret)))
theorem A_r3_one_comp : compF Tryz.prog 115 = some ⟨26, [(6, none)], A_r3_one.strip⟩ := by kernel_rfl
def A_r3_Eval_L0 : CA := (.seq (.seq (.reg [i_M 0 14 6, i_P 1 15 2 1, i_L 2 16 15 1, i_X 3 17 (.h (.len (.t 16))), i_N 4 18 .lss 14 17] [1, 2, 5, 6, 18]) (.cond (.t 18) .skip (.exit 0))) (.seq (.block 1 (.seq (.reg [i_P 0 21 2 1, i_L 1 22 21 1, i_M 2 23 6, i_I 3 24 22 23 4, i_A 4 25 24 4, i_X 5 7 (.alloc [(.d (.int .i64 0)), (.d (.int .i64 0)), (.d (.int .i64 0)), (.d (.flt 0))] 62), i_S 6 7 25 4] [1, 2, 5, 6, 7]) (.seq (.reg [i_P 0 26 7 0, i_L 1 27 26 1] [1, 2, 5, 6, 7, 27]) (.block 2 (.seq (.reg [i_B 0 45 .eql 27 0, i_M 1 44 45] [1, 2, 5, 6, 7, 27, 44]) (.cond (.t 44) (.reg [i_M 0 46 5, i_M 1 47 6, i_P 2 48 7 3, i_L 3 49 48 1, i_I 4 50 46 47 1, i_S 5 50 49 1] [1, 2, 5, 6]) (.seq (.reg [i_B 0 52 .eql 27 1, i_M 1 51 52] [1, 2, 5, 6, 7, 51]) (.cond (.t 51) (.reg [i_M 0 53 5, i_M 1 54 6, i_M 2 55 1, i_P 3 56 7 1, i_L 4 57 56 1, i_I 5 58 55 57 1, i_L 6 59 58 1, i_I 7 60 53 54 1, i_S 8 60 59 1] [1, 2, 5, 6]) (.reg [i_M 0 28 5, i_M 1 29 6, i_P 2 30 7 0, i_L 3 31 30 1, i_M 4 32 5, i_P 5 33 7 1, i_L 6 34 33 1, i_I 7 35 32 34 1, i_L 8 36 35 1, i_M 9 37 5, i_P 10 38 7 2, i_L 11 39 38 1, i_I 12 40 37 39 1, i_L 13 41 40 1, i_X 14 42 (.callA (kF 115) [(.t 31), (.t 36), (.t 41)]), i_I 15 43 28 29 1, i_S 16 43 42 1] [1, 2, 5, 6]))))))))) (.reg [i_M 0 19 6, i_B 1 20 .add 19 1, i_M 2 6 20] [1, 2, 5, 6])))
def A_r3_Eval_L1 : CA := (.seq (.seq (.reg [i_M 0 61 9, i_P 1 62 2 0, i_L 2 63 62 1, i_N 3 64 .lss 61 63] [2, 5, 8, 9, 64]) (.cond (.t 64) .skip (.exit 3))) (.seq (.block 4 (.reg [i_M 0 67 8, i_M 1 68 5, i_P 2 69 2 2, i_L 3 70 69 1, i_M 4 71 9, i_I 5 72 70 71 1, i_L 6 73 72 1, i_I 7 74 68 73 1, i_L 8 75 74 1, i_X 9 76 (.bslice [(.d (.flt 0))] 1 1 [(0, (1, (.t 75)))] 31), i_X 10 77 (.app (.t 67) (.t 76) 1 8), i_M 11 8 77] [2, 5, 8, 9])) (.reg [i_M 0 65 9, i_B 1 66 .add 65 1, i_M 2 9 66] [2, 5, 8, 9])))
def A_r3_Eval : CA := (.seq (.reg [i_X 0 2 (.box (.t 0) 3 28), i_X 1 4 (.h (.mov (.k .nil)))] [1, 2]) (.seq (.reg [i_P 0 10 2 1, i_L 1 11 10 1, i_X 2 12 (.h (.len (.t 11))), i_X 3 13 (.mksl [(.d (.flt 0))] 1 8 (.t 12) (.t 12) 31), i_M 4 5 13] [1, 2, 5]) (.seq (.seq (.reg [i_K 0 6 0] [1, 2, 5, 6]) (.block 0 (.loop A_r3_Eval_L0))) (.seq (.reg [i_X 0 8 (.h (.mov (.k .nil)))] [2, 5, 8]) (.seq (.seq (.reg [i_K 0 9 0] [2, 5, 8, 9]) (.block 3 (.loop A_r3_Eval_L1))) (.seq (.reg [i_M 0 78 8, i_M 1 4 78] [4]) .ret))))))
theorem A_r3_Eval_comp : compF Tryz.prog 60 = some ⟨79, [(4, none)], A_r3_Eval.strip⟩ := by kernel_rfl
structure OpN where
  k : Int
  a : Int
  b : Int
  c : Nat
def opG (ops : List OpN) (i : Nat) : List D := let o := ops.getD i ⟨0, 0, 0, 0⟩; [.int .i64 o.k, .int .i64 o.a, .int .i64 o.b, .flt o.c]
def opsD (ops : List OpN) : D := .bor ops.length (opG ops)
structure Tp where
  n : Nat
  ops : List OpN
  out : List Int
abbrev tapeV (t : Tp) : V := .agg [fI t.n, .d (opsD t.ops), .d (rowI t.out)]
def opV (o : OpN) (x r : List Nat) : Nat :=
  if o.k = 0 then o.c else if o.k = 1 then x.getD o.a.toNat 0 else
  if o.k = 2 then fop .add (r.getD o.a.toNat 0) (r.getD o.b.toNat 0) else if o.k = 3 then fop .sub (r.getD o.a.toNat 0) (r.getD o.b.toNat 0) else
  if o.k = 4 then fop .mul (r.getD o.a.toNat 0) (r.getD o.b.toNat 0) else fop .div (r.getD o.a.toNat 0) (r.getD o.b.toNat 0)
def regs (t : Tp) (x : List Nat) : Nat → List Nat
  | 0 => []
  | i + 1 => regs t x i ++ [opV (t.ops.getD i ⟨0, 0, 0, 0⟩) x (regs t x i)]
theorem regs_len (t : Tp) (x : List Nat) (i : Nat) : (regs t x i).length = i := by
  induction i with
  | zero => rfl
  | succ i ih => simp [regs, ih]
def evalT (t : Tp) (x : List Nat) : List Nat := tabR (fun i => (regs t x t.ops.length).getD (t.out.getD i 0).toNat 0) t.n
structure Tok (t : Tp) : Prop where
  n : t.n < 2 ^ 20
  len : t.ops.length < 2 ^ 40
  op : ∀ i, i < t.ops.length → let o := t.ops.getD i ⟨0, 0, 0, 0⟩; o.k = 0 ∨ (o.k = 1 ∧ 0 ≤ o.a ∧ o.a < t.n) ∨ ((o.k = 2 ∨ o.k = 3 ∨ o.k = 4 ∨ o.k = 5) ∧ (0 ≤ o.a ∧ o.a < i) ∧ 0 ≤ o.b ∧ o.b < i)
  outl : t.out.length = t.n
  out : ∀ i, i < t.n → 0 ≤ t.out.getD i 0 ∧ t.out.getD i 0 < t.ops.length
theorem evalT_len (t : Tp) (x : List Nat) : (evalT t x).length = t.n := tabR_len _ _
end Go.Ab
namespace Go.Ab
set_option linter.unusedSimpArgs false
set_option linter.unusedVariables false
open Go Go.Proofs
structure Sok (t : Tp) (z : List (List Nat)) (l w d : List Nat) : Prop where
  ht : Tok t
  hz : 2 ≤ z.length
  hzl : ∀ i, i < 2 → (z.getD i []).length = t.n
  hl : 1 ≤ l.length
  hw : w.length = t.n
  hd : d.length = t.n
def yS (z : List (List Nat)) (l d : List Nat) (n : Nat) : List Nat := tabR (fun i => fop .add ((z.getD 0 []).getD i 0) (fop .mul (l.getD 0 0) (d.getD i 0))) n
def gS (t : Tp) (z : List (List Nat)) (l : List Nat) (h : Nat) (d : List Nat) : List Nat := tabR (fun i => fop .sub (fop .mul h ((evalT t (yS z l d t.n)).getD i 0)) ((z.getD 1 []).getD i 0)) t.n
section
variable (t : Tp) (z : List (List Nat)) (l : List Nat) (h : Nat) (w d : List Nat) (p q : D) (ok : Sok t z l w d)
include ok
def goneA (t : Tp) (z : List (List Nat)) (l : List Nat) (h : Nat) (w d : List Nat) : Nat := szP (tabR (fun i => fop .sub ((gS t z l h d).getD i 0) (d.getD i 0)) t.n) w
omit ok in
def finAll (d : List Nat) : Bool := d.all finite
omit ok in
theorem fin_of {d : List Nat} (h : ∀ j, j < d.length → finite (d.getD j 0) = true) : finAll d = true := by
  simp only [finAll, List.all_eq_true]
  intro x hx
  obtain ⟨j, hj, rfl⟩ := List.mem_iff_getElem.1 hx
  have := h j hj
  rwa [List.getD_eq_getElem?_getD, List.getElem?_eq_getElem hj] at this
omit ok in
theorem fin_not {d : List Nat} (j : Nat) (hj : j < d.length) (h : finite (d.getD j 0) = false) : finAll d = false := by
  cases hf : finAll d
  · rfl
  · simp only [finAll, List.all_eq_true] at hf
    have := hf (d.getD j 0) (by rw [List.getD_eq_getElem?_getD, List.getElem?_eq_getElem hj]; exact List.getElem_mem hj)
    rw [h] at this; cases this
end
def seek (tr : List Nat → List Nat × Nat) : Nat → Nat → List Nat → List Nat × Nat × Int
  | 0, k, _ => ([], k, 6)
  | f + 1, k, d => if finAll (tr d).1 = false then ([], k, 2) else if fcmp .le (tr d).2 4562146422526312448 = true then ((tr d).1, k, 0) else if 4 ≤ k then ([], k, 6) else seek tr f (k + 1) (tr d).1
def tryA (t : Tp) (z : List (List Nat)) (l : List Nat) (h : Nat) (w d : List Nat) : List Nat × Nat := (gS t z l h d, goneA t z l h w d)
def solA (t : Tp) (z : List (List Nat)) (l : List Nat) (h : Nat) (w : List Nat) : List Nat × Nat × Int := seek (tryA t z l h w) 4 1 (List.replicate t.n 0)
abbrev sumV (r : List Nat × Nat × Int) : V := .agg [.d (rowD r.1), fI r.2.1, fI r.2.2]
theorem seekA_succ (t : Tp) (z : List (List Nat)) (l : List Nat) (h : Nat) (w : List Nat) (f k : Nat) (d : List Nat) : seek (tryA t z l h w) (f + 1) k d =
  if finAll (gS t z l h d) = false then ([], k, 2) else if fcmp .le (goneA t z l h w d) 4562146422526312448 = true then (gS t z l h d, k, 0) else if 4 ≤ k then ([], k, 6) else seek (tryA t z l h w) f (k + 1) (gS t z l h d) := rfl
theorem AC_sum0 {P : Program} {f : FuncId} {vs : List V} {X n : Nat} {xs : List Nat} {a b : Int} (h : AC P f vs [] [(X, [rowV xs])] (.agg [.sl X 0 0 n 1 n, fI a, fI b])) : AC P f vs [] [(0, [rowV xs])] (.agg [.sl 0 0 0 n 1 n, fI a, fI b]) := by
  have hle := Le.ren (N := fun _ => False) (L := [(X, [rowV xs])]) (L2 := [(0, [rowV xs])]) (sl := [.agg [.sl X 0 0 n 1 n, fI a, fI b]]) (fun _ r => (0, r)) (fun _ r => (X, r)) ?_ ?_ (fun _ _ h => h.elim)
  · exact AC_le h (by simpa [V.ren, V.renL] using hle)
  · intro Z r c h
    obtain ⟨rfl, rfl, rfl⟩ := one_row (L := []) h
    simp [get_cons, V.ren]
  · intro Z r c h
    obtain ⟨rfl, rfl, rfl⟩ := one_row (L := []) h
    simp [get_cons]
theorem seekA_len (t : Tp) (z : List (List Nat)) (l : List Nat) (h : Nat) (w : List Nat) (f : Nat) : ∀ (k : Nat) (d g : List Nat) (a : Nat), seek (tryA t z l h w) f k d = (g, a, 0) → g.length = t.n := by
  induction f with
  | zero => intro k d g a he; simp [seek] at he
  | succ f ih =>
    intro k d g a he
    rw [seekA_succ] at he
    split at he
    · simp at he
    · split at he
      · injection he with h1 h2
        rw [← h1]; exact tabR_len _ _
      · split at he
        · simp at he
        · exact ih _ _ _ _ he
end Go.Ab
namespace Go.Ab
set_option linter.unusedSimpArgs false
set_option linter.unusedVariables false
open Go Go.Proofs
def oneW : Nat := 4607182418800017408
def slo (o : OpN) (q : Nat) (r : List Nat) (dr : List (List Nat)) (k : Nat) : Nat :=
  if o.k = 1 ∧ o.a = k then oneW else if o.k = 0 ∨ o.k = 1 then 0 else
  if o.k = 2 then fop .add ((dr.getD o.a.toNat []).getD k 0) ((dr.getD o.b.toNat []).getD k 0) else if o.k = 3 then fop .sub ((dr.getD o.a.toNat []).getD k 0) ((dr.getD o.b.toNat []).getD k 0) else
  if o.k = 4 then fop .add (fop .mul ((dr.getD o.a.toNat []).getD k 0) (r.getD o.b.toNat 0)) (fop .mul (r.getD o.a.toNat 0) ((dr.getD o.b.toNat []).getD k 0)) else
  fop .div (fop .sub ((dr.getD o.a.toNat []).getD k 0) (fop .mul q ((dr.getD o.b.toNat []).getD k 0))) (r.getD o.b.toNat 0)
def drs (t : Tp) (x : List Nat) : Nat → List (List Nat)
  | 0 => []
  | i + 1 => drs t x i ++ [tabR (slo (t.ops.getD i ⟨0, 0, 0, 0⟩) (opV (t.ops.getD i ⟨0, 0, 0, 0⟩) x (regs t x i)) (regs t x i) (drs t x i)) t.n]
theorem drs_len (t : Tp) (x : List Nat) (i : Nat) : (drs t x i).length = i := by
  induction i with
  | zero => rfl
  | succ i ih => simp [drs, ih]
theorem drs_rows (t : Tp) (x : List Nat) (i : Nat) : ∀ j, j < i → ((drs t x i).getD j []).length = t.n := by
  induction i with
  | zero => intro j hj; omega
  | succ i ih =>
    intro j hj
    have hl := drs_len t x i
    unfold drs
    by_cases h : j < i
    · have := ih j h
      rw [List.getD_eq_getElem?_getD] at this ⊢
      rwa [List.getElem?_append_left (by omega)]
    · obtain rfl : j = i := by omega
      rw [List.getD_eq_getElem?_getD, List.getElem?_append_right (by omega), hl, Nat.sub_self]
      exact tabR_len _ _
def jacT (t : Tp) (x : List Nat) : List (List Nat) := (List.range t.n).map fun i => (drs t x t.ops.length).getD (t.out.getD i 0).toNat []
abbrev opA (o : OpN) : V := .agg [fI o.k, fI o.a, fI o.b, fl o.c]
def Oko (o : OpN) (i n : Nat) : Prop := o.k = 0 ∨ (o.k = 1 ∧ 0 ≤ o.a ∧ o.a < n) ∨ ((o.k = 2 ∨ o.k = 3 ∨ o.k = 4 ∨ o.k = 5) ∧ (0 ≤ o.a ∧ o.a < i) ∧ 0 ≤ o.b ∧ o.b < i)
section
variable (o : OpN) (x r : List Nat) (dr : List (List Nat)) (n : Nat) (ho : Oko o r.length n) (hx : x.length = n)
include ho hx
end
end Go.Ab
namespace Go.Ab
set_option linter.unusedSimpArgs false
set_option linter.unusedVariables false
open Go Go.Proofs
abbrev Iv := Nat × Nat
def negW : Nat := 13830554455654793216
def ivAdd (a b : Iv) : Iv := ivMake (down (fop .add a.1 b.1)) (up (fop .add a.2 b.2))
def in0 (a : Iv) : Bool := fcmp .le a.1 0 && fcmp .le 0 a.2
def ivDiv (a b : Iv) : Iv := if in0 b = true then (fninf, finf) else spanF [fop .div a.1 b.1, fop .div a.1 b.2, fop .div a.2 b.1, fop .div a.2 b.2] (fop .div a.1 b.1) (fop .div a.1 b.1)
def ivMag (a : Iv) : Nat := if fcmp .gt (fabs a.2) (fabs a.1) = true then fabs a.2 else fabs a.1
def pt (x : Nat) : Iv := (x, x)
abbrev Md := List Iv
def mG (m : Md) (i : Nat) : Iv := m.getD i (0, 0)
def pwI (k : Nat) : Iv := if k % 2 = 0 then (0, oneW) else (negW, 0)
def polyK (m : Md) : Nat → Iv
  | 0 => mG m 0
  | k + 1 => ivAdd (polyK m k) (ivMul (mG m (k + 1)) (pwI (k + 1)))
def polyM (m : Md) : Iv := polyK m 8
def rngM (m : Md) : Iv := ivAdd (polyM m) (mG m 9)
def zipM (f : Iv → Iv → Iv) (a b : Md) : Md := (List.range 10).map fun i => f (mG a i) (mG b i)
def mulK (a b : Md) (k : Nat) : Nat → Iv
  | 0 => ivMul (mG a 0) (mG b k)
  | i + 1 => ivAdd (mulK a b k i) (ivMul (mG a (i + 1)) (mG b (k - (i + 1))))
def mulJ (a b : Md) (i : Nat) (r : Iv) : Nat → Iv
  | 0 => r
  | j + 1 => if 8 < i + j then ivAdd (mulJ a b i r j) (ivMul (ivMul (mG a i) (mG b j)) (pwI (i + j))) else mulJ a b i r j
def mulI (a b : Md) : Nat → Iv
  | 0 => (0, 0)
  | i + 1 => mulJ a b i (mulI a b i) 9
def mulM (a b : Md) : Md := (List.range 9).map (fun k => mulK a b k k) ++ [ivAdd (ivAdd (mulI a b 9) (ivMul (mG a 9) (rngM b))) (ivMul (polyM a) (mG b 9))]
def divW (a b : Md) (q : Md) (k : Nat) : Nat → Iv
  | 0 => mG a k
  | i + 1 => ivSub (divW a b q k i) (ivMul (mG b (i + 1)) (mG q (k - (i + 1))))
def divQ (a b : Md) : Nat → Md
  | 0 => []
  | k + 1 => divQ a b k ++ [ivDiv (divW a b (divQ a b k) k k) (mG b 0)]
def noneM : Md := List.replicate 9 (0, 0) ++ [(fninf, finf)]
def divM (a b : Md) : Md := if (in0 (mG b 0) || in0 (rngM b)) = true then noneM else divQ a b 9 ++ [ivDiv (rngM (zipM ivSub a (mulM b (divQ a b 9 ++ [(0, 0)])))) (rngM b)]
def ofM (z : List Nat) : Md := (List.range 10).map fun i => if i < z.length ∧ i < 9 then pt (z.getD i 0) else (0, 0)
def opM (o : OpN) (x r : List Md) : Md :=
  if o.k = 0 then ofM [o.c] else if o.k = 1 then x.getD o.a.toNat [] else
  if o.k = 2 then zipM ivAdd (r.getD o.a.toNat []) (r.getD o.b.toNat []) else if o.k = 3 then zipM ivSub (r.getD o.a.toNat []) (r.getD o.b.toNat []) else
  if o.k = 4 then mulM (r.getD o.a.toNat []) (r.getD o.b.toNat []) else divM (r.getD o.a.toNat []) (r.getD o.b.toNat [])
def regM (t : Tp) (x : List Md) : Nat → List Md
  | 0 => []
  | i + 1 => regM t x i ++ [opM (t.ops.getD i ⟨0, 0, 0, 0⟩) x (regM t x i)]
def evalM (t : Tp) (x : List Md) : List Md := (List.range t.n).map fun i => (regM t x t.ops.length).getD (t.out.getD i 0).toNat []
def ivDs (ps : List Iv) : List D := ps.flatMap fun p => [.flt p.1, .flt p.2]
theorem ivC_data (ps : List Iv) : ivC ps = (ivDs ps).map .d := by
  induction ps with
  | nil => rfl
  | cons p ps ih =>
    show fl p.1 :: fl p.2 :: ivC ps = _
    rw [ih]; rfl
theorem ivDs_len (ps : List Iv) : (ivDs ps).length = ps.length * 2 := by
  have := congrArg List.length (ivC_data ps)
  rw [ivC_length, List.length_map] at this
  exact this.symm
abbrev mdV (m : Md) : V := .agg (ivC m)
def mdG (r : List Md) (i : Nat) : List D := ivDs (r.getD i [])
def mdD (r : List Md) : D := .bor r.length (mdG r)
theorem ofM_len (z : List Nat) : (ofM z).length = 10 := by simp [ofM]
theorem zipM_len (f : Iv → Iv → Iv) (a b : Md) : (zipM f a b).length = 10 := by simp [zipM]
theorem mulM_len (a b : Md) : (mulM a b).length = 10 := by simp [mulM]
theorem divQ_len (a b : Md) (k : Nat) : (divQ a b k).length = k := by
  induction k with
  | zero => rfl
  | succ k ih => simp [divQ, ih]
theorem divM_len (a b : Md) : (divM a b).length = 10 := by
  unfold divM; split
  · rfl
  · simp [divQ_len]
theorem regM_len (t : Tp) (x : List Md) (i : Nat) : (regM t x i).length = i := by
  induction i with
  | zero => rfl
  | succ i ih => simp [regM, ih]
theorem evalM_len (t : Tp) (x : List Md) : (evalM t x).length = t.n := by simp [evalM]
theorem opM_len (o : OpN) (x r : List Md) (hx : ∀ i, 0 ≤ o.a → o.a.toNat = i → o.k = 1 → (x.getD i []).length = 10) (h : o.k = 1 → 0 ≤ o.a) : (opM o x r).length = 10 := by
  unfold opM
  repeat' split
  · exact ofM_len _
  · rename_i h1; exact hx _ (h h1) rfl h1
  · exact zipM_len _ _ _
  · exact zipM_len _ _ _
  · exact mulM_len _ _
  · exact divM_len _ _
theorem regM_rows (t : Tp) (x : List Md) (ht : Tok t) (hx : ∀ i, i < t.n → (x.getD i []).length = 10) (i : Nat) (hi : i ≤ t.ops.length) : ∀ j, j < i → ((regM t x i).getD j []).length = 10 := by
  induction i with
  | zero => intro j hj; omega
  | succ i ih =>
    intro j hj
    have hl := regM_len t x i
    unfold regM
    by_cases h : j < i
    · have := ih (by omega) j h
      rw [List.getD_eq_getElem?_getD] at this ⊢
      rwa [List.getElem?_append_left (by omega)]
    · obtain rfl : j = i := by omega
      rw [List.getD_eq_getElem?_getD, List.getElem?_append_right (by omega), hl, Nat.sub_self]
      have := ht.op j (by omega)
      refine opM_len _ _ _ (fun a h0 h1 h2 => hx a ?_) (fun h2 => ?_)
      · rcases this with h | h | h
        · omega
        · omega
        · omega
      · omega
theorem evalM_rows (t : Tp) (x : List Md) (ht : Tok t) (hx : ∀ i, i < t.n → (x.getD i []).length = 10) (i : Nat) (hi : i < t.n) : ((evalM t x).getD i []).length = 10 := by
  unfold evalM
  rw [List.getD_eq_getElem?_getD, List.getElem?_map, List.getElem?_range hi]
  have := ht.out i hi
  exact regM_rows t x ht hx _ (Nat.le_refl _) _ (by omega)
theorem dcells_block {get : Nat → List D} {esz : Nat} (n : Nat) (h : ∀ i, i < n → (get i).length = esz) (i : Nat) (hi : i < n) : ((dcells n get).drop (i * esz)).take esz = (get i).map .d := by
  have hl := dcells_len n h
  have hm : (i + 1) * esz ≤ n * esz := Nat.mul_le_mul_right _ hi
  rw [Nat.succ_mul] at hm
  refine List.ext_getElem (by rw [List.length_take, List.length_drop, List.length_map, h i hi, hl]; omega) fun j h1 h2 => ?_
  rw [List.length_map, h i hi] at h2
  have := dcells_get n h i j hi h2
  rw [List.getD_eq_getElem?_getD, List.getElem?_eq_getElem (by omega)] at this
  rw [List.getElem_take, List.getElem_drop, List.getElem_map]
  have e : ((get i).getD j default) = (get i)[j]'(by rw [h i hi]; exact h2) := by simp [List.getD_eq_getElem?_getD, h i hi, h2]
  rw [← e]
  simpa using this
theorem md_block (r : List Md) (n : Nat) (h : ∀ i, i < n → (r.getD i []).length = 10) (i : Nat) (hi : i < n) : ((dcells n (mdG r)).drop (i * 20)).take 20 = ivC (r.getD i []) := by
  rw [dcells_block n (fun j hj => by show (ivDs _).length = 20; rw [ivDs_len, h j hj]) i hi, ivC_data]; rfl
theorem mG_set (m : Md) (i j : Nat) (p : Iv) (hi : i < m.length) : mG (m.set i p) j = if j = i then p else mG m j := by
  unfold mG
  rw [List.getD_eq_getElem?_getD, List.getElem?_set]
  by_cases e : i = j
  · subst e; simp [hi]
  · rw [if_neg e, if_neg (fun h => e h.symm), List.getD_eq_getElem?_getD]
theorem ivC_at (ps : List Iv) (i : Nat) (h : i < ps.length) : (ivC ps).getD (i * 2) .any = fl (mG ps i).1 ∧ (ivC ps).getD (i * 2 + 1) .any = fl (mG ps i).2 := by
  have e : ivG ps i = [.flt (mG ps i).1, .flt (mG ps i).2] := rfl
  have h0 := ivC_getD ps i 0 h (by decide)
  have h1 := ivC_getD ps i 1 h (by decide)
  rw [e] at h0 h1
  exact ⟨h0, h1⟩
theorem ivC_two (ps : List Iv) (i : Nat) (h : i < ps.length) : ((ivC ps).drop (i * 2)).take 2 = [fl (mG ps i).1, fl (mG ps i).2] := by
  obtain ⟨h0, h1⟩ := ivC_at ps i h
  have hl := ivC_length ps
  refine List.ext_getElem (by rw [List.length_take, List.length_drop, hl]; simp; omega) fun j h2 h3 => ?_
  have h3 : j < 2 := h3
  rw [List.getElem_take, List.getElem_drop]
  rw [List.getD_eq_getElem?_getD, List.getElem?_eq_getElem (by omega)] at h0 h1
  rcases j with _ | _ | j
  · simpa using h0
  · simpa using h1
  · omega
def opI (o : OpN) (x r : List Iv) : Iv :=
  if o.k = 0 then pt o.c else if o.k = 1 then mG x o.a.toNat else
  if o.k = 2 then ivAdd (mG r o.a.toNat) (mG r o.b.toNat) else if o.k = 3 then ivSub (mG r o.a.toNat) (mG r o.b.toNat) else
  if o.k = 4 then ivMul (mG r o.a.toNat) (mG r o.b.toNat) else ivDiv (mG r o.a.toNat) (mG r o.b.toNat)
def regI (t : Tp) (x : List Iv) : Nat → List Iv
  | 0 => []
  | i + 1 => regI t x i ++ [opI (t.ops.getD i ⟨0, 0, 0, 0⟩) x (regI t x i)]
abbrev dI (dr : List (List Iv)) (i : Int) (k : Nat) : Iv := mG (dr.getD i.toNat []) k
def sloI (o : OpN) (q : Iv) (r : List Iv) (dr : List (List Iv)) (k : Nat) : Iv :=
  if o.k = 1 ∧ o.a = k then pt oneW else if o.k = 0 ∨ o.k = 1 then (0, 0) else
  if o.k = 2 then ivAdd (dI dr o.a k) (dI dr o.b k) else if o.k = 3 then ivSub (dI dr o.a k) (dI dr o.b k) else
  if o.k = 4 then ivAdd (ivMul (dI dr o.a k) (mG r o.b.toNat)) (ivMul (mG r o.a.toNat) (dI dr o.b k)) else
  ivDiv (ivSub (dI dr o.a k) (ivMul q (dI dr o.b k))) (mG r o.b.toNat)
def tabI (f : Nat → Iv) (n : Nat) : List Iv := (List.range n).map f
def drI (t : Tp) (x : List Iv) : Nat → List (List Iv)
  | 0 => []
  | i + 1 => drI t x i ++ [tabI (sloI (t.ops.getD i ⟨0, 0, 0, 0⟩) (opI (t.ops.getD i ⟨0, 0, 0, 0⟩) x (regI t x i)) (regI t x i) (drI t x i)) t.n]
def jacI (t : Tp) (x : List Iv) : List (List Iv) := (List.range t.n).map fun i => (drI t x t.ops.length).getD (t.out.getD i 0).toNat []
def rowS (l : List Iv) (i : Nat) : Nat → Nat
  | 0 => (mG l i).2
  | k + 1 => if k = i then rowS l i k else up (fop .add (rowS l i k) (ivMag (mG l k)))
def normK (j : List (List Iv)) : Nat → Option Nat
  | 0 => some fninf
  | i + 1 => match normK j i with
    | none => none
    | some b => let s := rowS (j.getD i []) i j.length; if isNan s = true then none else some (if fcmp .gt s b = true then s else b)
def normI (j : List (List Iv)) : Nat := (normK j j.length).getD finf
def sqI (y : Iv) : Nat → Iv
  | 0 => y
  | k + 1 => ivMul (sqI y k) (sqI y k)
def ivExp (x : Nat) : Nat := if (isNan x || fcmp .ge x 4647714815446351872) = true then finf else
  (sqI (ivDiv (pt oneW) (ivSub (pt oneW) (ivDiv (pt x) (pt 4652218415073722368)))) 10).2
def colT (z : List (List Nat)) (i : Nat) : List Nat := z.map fun r => r.getD i 0
def valK (c : List Nat) (s : Nat) : Nat → Iv
  | 0 => pt (c.getD (c.length - 1) 0)
  | m + 1 => ivAdd (ivMul (valK c s m) (pt s)) (pt (c.getD (c.length - 2 - m) 0))
def valC (c : List Nat) (s : Nat) : Iv := valK c s (c.length - 1)
def sloM (c : List Nat) (h : Nat) : Md := (List.range 10).map fun k => if k + 1 < c.length ∧ k < 9 then ivDiv (ivMul (pt (FloatKind.nearest .f64 ((k : Int) + 1))) (pt (c.getD (k + 1) 0))) (pt h) else (0, 0)
def bestF (f : Nat → Nat) : Nat → Nat
  | 0 => f 0
  | i + 1 => if fcmp .gt (f (i + 1)) (bestF f i) = true then f (i + 1) else bestF f i
def jmpI (z : List (List Nat)) (y : List Nat) (i : Nat) : Nat := ivMag (ivSub (valC (colT z i) negW) (pt (y.getD i 0)))
def dftI (t : Tp) (z : List (List Nat)) (q : List Md) (h : Nat) (i : Nat) : Nat := ivMag (rngM (zipM ivSub ((evalM t q).getD i []) (sloM (colT z i) h)))
def colsM (z : List (List Nat)) (n : Nat) : List Md := (List.range n).map fun i => ofM (colT z i)
def tubI (q : List Md) (r : Nat) (i : Nat) : Iv := ivAdd (rngM (q.getD i [])) (fop .sub 0 r, r)
def withinI (a b : Iv) : Bool := fcmp .le b.1 a.1 && fcmp .le a.2 b.2
def insK (q : List Md) (box : List Iv) (r : Nat) (n : Nat) : Bool := (List.range n).all fun i => withinI (tubI q r i) (mG box i)
def growF (h m : Nat) : Nat := if fcmp .le m 0 = true then oneW else if fcmp .gt (ivExp (up (fop .mul h m))) oneW = true then ivExp (up (fop .mul h m)) else oneW
structure Bnd where
  jump : Nat
  defect : Nat
  norm : Nat
  growth : Nat
  bound : Nat
def bndK (t : Tp) (box : List Iv) (q : List Md) (h e j d : Nat) : Nat → Nat → Bnd × Int
  | 0, _ => (⟨0, 0, 0, 0, 0⟩, 7)
  | k + 1, r => if insK q box r t.n = false then (⟨0, 0, 0, 0, 0⟩, 3) else
    let m := normI (jacI t (tabI (tubI q r) t.n))
    let b := up (fop .mul (growF h m) e)
    if fcmp .lt b r = true then (⟨j, d, m, growF h m, b⟩, 0) else if finite b = false then (⟨0, 0, 0, 0, 0⟩, 7) else bndK t box q h e j d k (up (fop .mul 4616189618054758400 b))
def bndP (t : Tp) (box : List Iv) (z : List (List Nat)) (h : Nat) (y : List Nat) (before : Nat) : Bnd × Int :=
  let q := colsM z t.n
  let j := bestF (jmpI z y) (t.n - 1)
  let d := bestF (dftI t z q h) (t.n - 1)
  if (finite j && finite d) = false then (⟨0, 0, 0, 0, 0⟩, 7) else
  let e := up (fop .add (up (fop .add before j)) (up (fop .mul h d)))
  bndK t box q h e j d 3 (up (fop .mul 4616189618054758400 e))
theorem regI_len (t : Tp) (x : List Iv) (i : Nat) : (regI t x i).length = i := by
  induction i with
  | zero => rfl
  | succ i ih => simp [regI, ih]
theorem drI_len (t : Tp) (x : List Iv) (i : Nat) : (drI t x i).length = i := by
  induction i with
  | zero => rfl
  | succ i ih => simp [drI, ih]
theorem tabI_len (f : Nat → Iv) (n : Nat) : (tabI f n).length = n := by simp [tabI]
theorem tabI_succ (f : Nat → Iv) (n : Nat) : tabI f (n + 1) = tabI f n ++ [f n] := by simp [tabI, List.range_succ]
theorem drI_rows (t : Tp) (x : List Iv) (i : Nat) : ∀ j, j < i → ((drI t x i).getD j []).length = t.n := by
  induction i with
  | zero => intro j hj; omega
  | succ i ih =>
    intro j hj
    have hl := drI_len t x i
    unfold drI
    by_cases h : j < i
    · have := ih j h
      rw [List.getD_eq_getElem?_getD] at this ⊢
      rwa [List.getElem?_append_left (by omega)]
    · obtain rfl : j = i := by omega
      rw [List.getD_eq_getElem?_getD, List.getElem?_append_right (by omega), hl, Nat.sub_self]
      exact tabI_len _ _
theorem jacI_len (t : Tp) (x : List Iv) : (jacI t x).length = t.n := by simp [jacI]
theorem colT_len (z : List (List Nat)) (i : Nat) : (colT z i).length = z.length := by simp [colT]
theorem colsM_len (z : List (List Nat)) (n : Nat) : (colsM z n).length = n := by simp [colsM]
theorem mG_tabI (f : Nat → Iv) (n i : Nat) (h : i < n) : mG (tabI f n) i = f i := by
  simp [mG, tabI, List.getD_eq_getElem?_getD, h]
theorem colT_at (z : List (List Nat)) (i k : Nat) (h : k < z.length) : (colT z i).getD k 0 = (z.getD k []).getD i 0 := by
  simp [colT, List.getD_eq_getElem?_getD, h]
theorem and2047 (a : Int) : 0 ≤ bitsOp .and .i64 a 2047 ∧ bitsOp .and .i64 a 2047 ≤ 2047 := by
  unfold bitsOp
  simp only
  have h : (BitVec.ofInt IntKind.i64.bits a &&& BitVec.ofInt IntKind.i64.bits 2047).toNat ≤ 2047 := by
    rw [BitVec.toNat_and]
    exact Nat.le_trans Nat.and_le_right (by decide)
  rw [wrapI (by omega) (by omega)]
  omega
theorem sub_up {x : Nat} (hx : fin x) (h : fcmp .lt (fabs x) 4503599627370496 = true) : fin (fop .mul x 4841369599423283200) := by
  have r1 : Ieee.double.read 4503599627370496 = .number false 4503599627370496 (-1074) := by decide +kernel
  have r2 : Ieee.double.read 4841369599423283200 = .number false 4503599627370496 0 := by decide +kernel
  obtain ⟨f1, v1⟩ := val_fabs hx
  rw [fcmp_lt f1 ⟨_, _, _, r1⟩, val_eq r1, v1] at h
  refine (fop_mul hx ⟨_, _, _, r2⟩ ?_).fin
  rw [val_eq r2, rabs_mul]
  have h1 : (4503599627370496 : Rat) * pw (-1074) ≤ 1 := by decide +kernel
  have h2 : rabs (val x) ≤ 1 := by simp at h; grind
  have h3 : rabs ((if false = true then -((4503599627370496 : Nat) : Rat) else ((4503599627370496 : Nat) : Rat)) * pw 0) = 4503599627370496 := by
    rw [pw_zero]; decide +kernel
  rw [h3]
  have h4 : (4503599627370496 : Rat) ≤ big := by
    have a1 : (4503599627370496 : Rat) ≤ pw 60 := by decide +kernel
    have a2 : pw 60 ≤ big := pw_mono (by decide)
    grind
  grind
def nrmF (x : Nat) : Nat := if fcmp .lt (fabs x) 4503599627370496 = true then fop .mul x 4841369599423283200 else x
def nrmE (x : Nat) : Int := if fcmp .lt (fabs x) 4503599627370496 = true then -52 else 0
theorem math_normalize_all (x : Nat) : Con Tryz.prog 153 [fl x] (.tup [fl (nrmF x), fI (nrmE x)]) := by
  refine Con_introA A_math_normalize_comp rfl mixed ?_
  refine evx @A_math_normalize.eq_1 ?_
  refine callG_con (math_Abs_con x) rfl ?_
  refine ev ?_
  unfold nrmF nrmE
  refine condC_intro (fun h => ?_) (fun h => ?_)
  · rw [if_pos h, if_pos h]
    refine ev ?_
    refine endsT_ret rfl ⟨_, _, ?_, ?_, rfl⟩
    · exact resV_tmpI (by decide) rfl
    · exact resV_tmpI (by decide) rfl
  · rw [if_neg (by simp [h]), if_neg (by simp [h])]
    refine ev ?_
    refine endsT_ret rfl ⟨_, _, ?_, ?_, rfl⟩
    · exact resV_tmpI (by decide) rfl
    · exact resV_tmpI (by decide) rfl
def exF (f : Nat) : Int := bitsOp .and .i64 (IntKind.i64.wrap ((f : Int).fdiv (2 ^ 52))) 2047 - 1023
def layW (f : Nat) (e : Int) : Nat := cf (bitsOp .or .u64 (bitsOp .andNot .u64 f 9218868437227405312) (IntKind.u64.wrap (IntKind.u64.wrap (e + 1023) * 2 ^ 52))).toNat
def scl (x : Nat) (k : Int) : Nat :=
  if fcmp .eq x 0 = true then x else if finite x = false then x else
  let f := nrmF x
  let e := k + nrmE x + exF f
  if e < -1075 then csign 0 f else if 1023 < e then (if fcmp .lt f 0 = true then fninf else finf) else
  if e < -1022 then fop .mul 4368491638549381120 (layW f (e + 53)) else fop .mul 4607182418800017408 (layW f e)
theorem nrm_fin {x : Nat} (hx : fin x) : fin (nrmF x) := by
  unfold nrmF; split
  · rename_i h; exact sub_up hx h
  · exact hx
set_option maxRecDepth 8000 in
theorem math_ldexp_all (x : Nat) (k : Int) (hk : -1000000 < k ∧ k < 1000000) : Con Tryz.prog 123 [fl x, fI k] (fl (scl x k)) := by
  refine Con_introA A_math_ldexp_comp rfl mixed ?_
  refine evx @A_math_ldexp.eq_1 ?_
  unfold scl
  refine condC_intro (fun h1 => ?_) (fun h1 => ?_)
  · rw [if_pos h1]
    refine ev ?_
    exact endsT_rett rfl (by decide) (by simp [look])
  · rw [if_neg (by simp [h1])]
    refine ev ?_
    refine callG_con (math_IsInf_con x) rfl ?_
    refine ev ?_
    have hfi : finite x = (!isNan x && !isInf x) := rfl
    cases hi : isInf x with
    | true =>
      rw [if_pos (by rw [hfi, hi]; simp)]
      refine ev ?_
      exact endsT_rett rfl (by decide) (by simp [look])
    | false =>
      refine ev ?_
      refine callG_con (math_IsNaN_con x) rfl ?_
      refine ev ?_
      cases hn : isNan x with
      | true =>
        rw [if_pos (by rw [hfi, hn]; simp)]
        refine ev ?_
        exact endsT_rett rfl (by decide) (by simp [look])
      | false =>
        have hx : fin x := finite_fin (by rw [hfi, hi, hn]; rfl)
        rw [if_neg (by rw [hfi, hi, hn]; simp)]
        refine ev ?_
        refine callG_con (math_normalize_all x) rfl ?_
        refine ev ?_
        have hf := nrm_fin hx
        have hE : nrmE x = -52 ∨ nrmE x = 0 := by unfold nrmE; split <;> simp
        generalize nrmF x = f at hf
        generalize nrmE x = e0 at hE
        have hfn := fin_not_nan hf
        refine ⟨hfn, ?_⟩
        have h2 := and2047 (IntKind.i64.wrap ((f : Int).fdiv (2 ^ 52)))
        have w1 : IntKind.i64.wrap (k + e0) = k + e0 := wrapI (by omega) (by omega)
        simp only [show Int.toNat 52 = 52 from rfl, show min 52 IntKind.u64.bits = 52 from rfl, w1]
        have w2 : IntKind.i64.wrap (k + e0 + IntKind.i64.wrap (bitsOp .and .i64 (IntKind.i64.wrap ((f : Int).fdiv (2 ^ 52))) 2047 - 1023)) = k + e0 + exF f := by
          unfold exF
          rw [wrapI (a := bitsOp .and .i64 (IntKind.i64.wrap ((f : Int).fdiv (2 ^ 52))) 2047 - 1023) (by omega) (by omega)]
          exact wrapI (by omega) (by omega)
        rw [w2]
        have he : -1023 ≤ exF f ∧ exF f ≤ 1024 := by unfold exF; omega
        have hlay : ∀ e : Int, layW f e = cf (bitsOp .or .u64 (bitsOp .andNot .u64 f 9218868437227405312) (IntKind.u64.wrap (IntKind.u64.wrap (e + 1023) * 2 ^ 52))).toNat := fun _ => rfl
        generalize exF f = ex at he
        generalize hEE : k + e0 + ex = e
        refine condC_intro (fun h3 => ?_) (fun h3 => ?_)
        · replace h3 := of_decide_eq_true h3
          rw [if_pos h3]
          refine ev ?_
          refine callG_con (math_Copysign_con 0 f (by decide) hfn) rfl ?_
          refine ev ?_
          exact endsT_rett rfl (by decide) (by simp [look])
        · replace h3 := of_decide_eq_false h3
          rw [if_neg h3]
          refine ev ?_
          refine condC_intro (fun h4 => ?_) (fun h4 => ?_)
          · replace h4 := of_decide_eq_true h4
            rw [if_pos (by omega)]
            refine ev ?_
            refine condC_intro (fun h5 => ?_) (fun h5 => ?_)
            · rw [if_pos h5]
              refine ev ?_
              refine callG_con (math_Inf_neg) rfl ?_
              refine ev ?_
              exact endsT_rett rfl (by decide) (by simp [look])
            · rw [if_neg (by simp [h5])]
              refine ev ?_
              refine callG_con (math_Inf_pos) rfl ?_
              refine ev ?_
              exact endsT_rett rfl (by decide) (by simp [look])
          · replace h4 := of_decide_eq_false h4
            rw [if_neg (by omega)]
            refine ev ?_
            refine condC_intro (fun h5 => ?_) (fun h5 => ?_)
            · replace h5 := of_decide_eq_true h5
              rw [if_pos (by omega)]
              have w3 : IntKind.i64.wrap (e + 53) = e + 53 := wrapI (by omega) (by omega)
              have w4 : IntKind.i64.wrap (e + 53 + 1023) = e + 53 + 1023 := wrapI (by omega) (by omega)
              refine evx (And.intro w3 (And.intro w4 (show min (Int.toNat 52) IntKind.u64.bits = 52 from rfl))) ?_
              refine ⟨bitsOp_u64 _ _ _, endsT_rett rfl (by decide) ?_⟩
              rw [hlay]
              rfl
            · replace h5 := of_decide_eq_false h5
              rw [if_neg (by omega)]
              have w4 : IntKind.i64.wrap (e + 1023) = e + 1023 := wrapI (by omega) (by omega)
              refine evx (And.intro w4 (show min (Int.toNat 52) IntKind.u64.bits = 52 from rfl)) ?_
              refine ⟨bitsOp_u64 _ _ _, endsT_rett rfl (by decide) ?_⟩
              rw [hlay]
              rfl
theorem math_Ldexp_all (x : Nat) (k : Int) (hk : -1000000 < k ∧ k < 1000000) : Con Tryz.prog 75 [fl x, fI k] (fl (scl x k)) := by
  refine Con_introA A_math_Ldexp_comp rfl mixed ?_
  refine evx @A_math_Ldexp.eq_1 ?_
  refine callG_con (math_ldexp_all x k hk) rfl ?_
  refine ev ?_
  exact endsT_rett rfl (by decide) (by simp [look])
theorem fp_Scale_all (x : Nat) (k : Int) (hk : -1000000 < k ∧ k < 1000000) : Con Tryz.prog 34 [fl x, fI k] (fl (scl x k)) := by
  refine Con_introA A_fp_Scale_comp rfl mixed ?_
  refine evx @A_fp_Scale.eq_1 ?_
  refine callG_con (math_Ldexp_all x k hk) rfl ?_
  refine ev ?_
  exact endsT_rett rfl (by decide) (by simp [look])
theorem cut_exact (s : Bool) (k d : Nat) : Ieee.Toward.even.cut s (k * 2 ^ d) d = k := by
  obtain ⟨h1, h2⟩ := cut_spec s (k * 2 ^ d) d
  generalize Ieee.Toward.even.cut s (k * 2 ^ d) d = c at h1 h2
  have hp : 0 < 2 ^ d := Nat.pow_pos (by decide)
  generalize 2 ^ d = P at *
  have a1 : 2 * c ≤ 2 * k + 1 := Nat.le_of_mul_le_mul_right (by rw [Nat.add_mul]; simp only [Nat.mul_assoc, Nat.one_mul]; omega) hp
  have a2 : 2 * k ≤ 2 * c + 1 := Nat.le_of_mul_le_mul_right (by rw [Nat.add_mul]; simp only [Nat.mul_assoc, Nat.one_mul]; omega) hp
  omega
theorem nearest_mul (s : Bool) (k d L : Nat) (i last : Int) (hk : k ≠ 0) (hL : (k * 2 ^ d).log2 = L) (hl : max (i + L - 52) (-1074) = last) (hd : last - i = d) :
    Ieee.double.nearest s (k * 2 ^ d) i = Ieee.double.word s (min ((last + 1074).toNat * 4503599627370496 + k) 9218868437227405312) := by
  have q1 : Ieee.double.fractionBits = 52 := rfl
  have q2 : Ieee.double.leastPlace = -1074 := rfl
  have q3 : Ieee.double.binade = 4503599627370496 := rfl
  have q4 : Ieee.double.infRung = 9218868437227405312 := rfl
  have h0 : k * 2 ^ d ≠ 0 := Nat.mul_ne_zero hk (Nat.pos_iff_ne_zero.1 (Nat.pow_pos (by decide)))
  unfold Ieee.Format.nearest
  rw [if_neg h0, q1, q2, q3, q4, hL]
  simp only [show ((52 : Nat) : Int) = 52 from rfl, hl]
  have e1 : (i - last).toNat = 0 := by omega
  have e2 : (last - i).toNat = d := by omega
  rw [e1, e2, Nat.shiftLeft_zero, cut_exact]
  rw [show last - -1074 = last + 1074 by omega]
theorem log2_mul (k d t : Nat) (h1 : 2 ^ t ≤ k) (h2 : k < 2 ^ (t + 1)) : (k * 2 ^ d).log2 = t + d := by
  have hp : 0 < 2 ^ d := Nat.pow_pos (by decide)
  have hk : k ≠ 0 := by have : 0 < 2 ^ t := Nat.pow_pos (by decide); omega
  have h0 : k * 2 ^ d ≠ 0 := Nat.mul_ne_zero hk (by omega)
  rw [Nat.log2_eq_iff h0]
  constructor
  · rw [Nat.pow_add]; exact Nat.mul_le_mul_right _ h1
  · rw [show t + d + 1 = t + 1 + d by omega, Nat.pow_add]; exact Nat.mul_lt_mul_of_pos_right h2 hp
theorem mul_words (a : Nat) (d : Nat) (j : Int) (ha : Ieee.double.read a = .number false d j) (s : Bool) (m : Nat) (i : Int) (y : Nat) (hy : Ieee.double.read y = .number s m i) :
    fop .mul a y = cf (Ieee.double.nearest s (m * d) (j + i)) := by
  simp only [fop, Ieee.Format.mul, ha, hy, Ieee.Datum.product, Option.map_some, Option.getD_some, Bool.false_bne, Bool.xor_false, Bool.false_xor, Ieee.Format.write]
  rw [Nat.mul_comm d m]
theorem mul_words' (a : Nat) (d : Nat) (j : Int) (ha : Ieee.double.read a = .number false d j) (s : Bool) (m : Nat) (i : Int) (y : Nat) (hy : Ieee.double.read y = .number s m i) :
    fop .mul y a = cf (Ieee.double.nearest s (m * d) (i + j)) := by
  simp only [fop, Ieee.Format.mul, ha, hy, Ieee.Datum.product, Option.map_some, Option.getD_some, Bool.xor_false, Ieee.Format.write]
theorem word_eq (s : Bool) (r : Nat) : Ieee.double.word s r = 2 ^ 63 * s.toNat + r := by
  have h1 : Ieee.double.signWeight = 2 ^ 63 := rfl
  unfold Ieee.Format.word; rw [h1]; cases s <;> simp
theorem two_of {x : Nat} (h : x < 2 ^ 64) : (BitVec.ofInt 64 (x : Int)).toNat = x := by
  rw [BitVec.ofInt_natCast, BitVec.toNat_ofNat]; omega
theorem andNot_exp (s : Bool) (r : Nat) (h : r < 2 ^ 63) : bitsOp .andNot .u64 (Ieee.double.word s r : Nat) 9218868437227405312 = (2 ^ 63 * s.toNat + r % 2 ^ 52 : Nat) := by
  have hs : s.toNat ≤ 1 := by cases s <;> decide
  rw [word_eq]
  unfold bitsOp
  have e : (BitVec.ofInt IntKind.u64.bits ((2 ^ 63 * s.toNat + r : Nat) : Int) &&& ~~~ BitVec.ofInt IntKind.u64.bits 9218868437227405312).toNat = 2 ^ 63 * s.toNat + r % 2 ^ 52 := by
    show (BitVec.ofInt 64 ((2 ^ 63 * s.toNat + r : Nat) : Int) &&& ~~~ BitVec.ofInt 64 9218868437227405312).toNat = _
    have e1 : ~~~ BitVec.ofInt 64 9218868437227405312 = (9227875636482146303#64 : BitVec 64) := by decide
    rw [e1, BitVec.toNat_and, two_of (by omega)]
    show (2 ^ 63 * s.toNat + r) &&& (2 ^ 63 * 1 + (2 ^ 52 - 1)) = _
    refine Nat.eq_of_testBit_eq fun j => ?_
    have l1 : r % 2 ^ 52 < 2 ^ 63 := Nat.lt_of_le_of_lt (Nat.mod_le _ _) h
    rw [Nat.testBit_and, Nat.testBit_two_pow_mul_add _ h, Nat.testBit_two_pow_mul_add _ (by decide : 2 ^ 52 - 1 < 2 ^ 63), Nat.testBit_two_pow_mul_add _ l1]
    by_cases hj : j < 63
    · simp only [hj, if_true, Nat.testBit_two_pow_sub_one, Nat.testBit_mod_two_pow, Bool.and_comm]
    · simp only [hj, if_false]
      cases s
      · simp
      · simp
  simp only [e]
  exact wrapU (by omega) (by omega)
theorem lay_word (s : Bool) (r : Nat) (h : r < 2 ^ 63) (e : Int) (h1 : -1022 ≤ e) (h2 : e ≤ 1023) : layW (Ieee.double.word s r) e = Ieee.double.word s ((e + 1023).toNat * 2 ^ 52 + r % 2 ^ 52) := by
  obtain ⟨E, hE⟩ : ∃ E : Nat, e + 1023 = E := ⟨(e + 1023).toNat, by omega⟩
  have hE2 : 1 ≤ E ∧ E ≤ 2046 := by omega
  have hs : s.toNat ≤ 1 := by cases s <;> decide
  have hr : r % 2 ^ 52 < 2 ^ 52 := Nat.mod_lt _ (by decide)
  unfold layW
  rw [andNot_exp s r h, hE, wrapU (a := (E : Int)) (by omega) (by omega), wrapU (a := (E : Int) * 2 ^ 52) (by omega) (by omega)]
  have e1 : ((E : Int) * 2 ^ 52) = ((E * 2 ^ 52 : Nat) : Int) := by omega
  rw [e1]
  have e2 : bitsOp .or .u64 ((2 ^ 63 * s.toNat + r % 2 ^ 52 : Nat) : Int) ((E * 2 ^ 52 : Nat) : Int) = (2 ^ 63 * s.toNat + (E * 2 ^ 52 + r % 2 ^ 52) : Nat) := by
    unfold bitsOp
    have e : (BitVec.ofInt IntKind.u64.bits ((2 ^ 63 * s.toNat + r % 2 ^ 52 : Nat) : Int) ||| BitVec.ofInt IntKind.u64.bits ((E * 2 ^ 52 : Nat) : Int)).toNat = 2 ^ 63 * s.toNat + (E * 2 ^ 52 + r % 2 ^ 52) := by
      show (BitVec.ofInt 64 ((2 ^ 63 * s.toNat + r % 2 ^ 52 : Nat) : Int) ||| BitVec.ofInt 64 ((E * 2 ^ 52 : Nat) : Int)).toNat = _
      rw [BitVec.toNat_or, two_of (by omega), two_of (by omega)]
      rw [Nat.two_pow_add_eq_or_of_lt (show E * 2 ^ 52 + r % 2 ^ 52 < 2 ^ 63 by omega), Nat.two_pow_add_eq_or_of_lt (show r % 2 ^ 52 < 2 ^ 63 by omega), Nat.mul_comm E, Nat.two_pow_add_eq_or_of_lt hr, Nat.or_assoc, Nat.or_comm (r % 2 ^ 52)]
    simp only [e]
    exact wrapU (by omega) (by omega)
  rw [e2, Int.toNat_natCast, ← word_eq]
  have e3 : (e + 1023).toNat = E := by omega
  exact cf_not (isNan_word _ _ (by omega))
theorem exF_word (s : Bool) (r : Nat) (h : r < 2 ^ 63) : exF (Ieee.double.word s r) = ((r / 2 ^ 52 : Nat) : Int) - 1023 := by
  have hs : s.toNat ≤ 1 := by cases s <;> decide
  unfold exF
  have e1 : ((Ieee.double.word s r : Nat) : Int).fdiv (2 ^ 52) = ((2 ^ 11 * s.toNat + r / 2 ^ 52 : Nat) : Int) := by
    rw [word_eq, Int.fdiv_eq_ediv_of_nonneg _ (by decide)]
    omega
  rw [e1, wrapI (by omega) (by omega)]
  have e2 : bitsOp .and .i64 ((2 ^ 11 * s.toNat + r / 2 ^ 52 : Nat) : Int) 2047 = ((r / 2 ^ 52 : Nat) : Int) := by
    unfold bitsOp
    have e : (BitVec.ofInt IntKind.i64.bits ((2 ^ 11 * s.toNat + r / 2 ^ 52 : Nat) : Int) &&& BitVec.ofInt IntKind.i64.bits 2047).toNat = r / 2 ^ 52 := by
      show (BitVec.ofInt 64 ((2 ^ 11 * s.toNat + r / 2 ^ 52 : Nat) : Int) &&& BitVec.ofInt 64 ((2047 : Nat) : Int)).toNat = _
      rw [BitVec.toNat_and, two_of (by omega), two_of (by omega)]
      show _ &&& (2 ^ 11 - 1) = _
      rw [Nat.and_two_pow_sub_one_eq_mod]; omega
    simp only [e]
    exact wrapI (by omega) (by omega)
  rw [e2]
theorem fabs_word (s : Bool) (r : Nat) (h : r < 9218868437227405312) : fabs (Ieee.double.word s r) = Ieee.double.word false r := by
  have hs : s.toNat ≤ 1 := by cases s <;> decide
  unfold fabs bits0
  rw [word_eq, word_eq]
  have e : (2 ^ 63 * s.toNat + r) % 9223372036854775808 = 2 ^ 63 * false.toNat + r := by simp; omega
  rw [e, ← word_eq]
  exact cf_not (isNan_word _ _ h)
theorem small_word (s : Bool) (r : Nat) (h : r < 9218868437227405312) : fcmp .lt (fabs (Ieee.double.word s r)) 4503599627370496 = decide (r < 4503599627370496) := by
  rw [fabs_word s r h, Bool.eq_iff_iff, decide_eq_true_eq]
  have e : (4503599627370496 : Nat) = Ieee.double.word false 4503599627370496 := rfl
  rw [e, fcmp_lt (fin_word _ _ h) (fin_word _ _ (by decide)), val_word _ _ h, val_word _ _ (by decide)]
  simp only [Bool.false_eq_true, if_false]
  constructor
  · intro hl
    by_cases h1 : r < 4503599627370496
    · exact h1
    · have := rv_mono (show 4503599627370496 ≤ r by omega); grind
  · intro h1; exact rv_lt h1
theorem mul_one_word (s : Bool) (r : Nat) (h : r < 9218868437227405312) : fop .mul 4607182418800017408 (Ieee.double.word s r) = Ieee.double.word s r := by
  have ho : Ieee.double.read 4607182418800017408 = .number false 4503599627370496 (-52) := by decide +kernel
  have hw := read_word s r h
  have hc : cf (Ieee.double.word s r) = Ieee.double.word s r := cf_not (isNan_word _ _ h)
  by_cases h1 : r < 4503599627370496
  · rw [if_pos h1] at hw
    rw [mul_words _ _ _ ho _ _ _ _ hw]
    by_cases h0 : r = 0
    · subst h0
      have e : Ieee.double.nearest s (0 * 4503599627370496) (-52 + -1074) = Ieee.double.word s 0 := by simp [Ieee.Format.nearest]
      rw [e, hc]
    · have hr0 : r ≠ 0 := h0
      have hL : (r * 2 ^ 52).log2 = r.log2 + 52 := log2_mul r 52 r.log2 (Nat.log2_self_le h0) Nat.lt_log2_self
      have hl2 : r.log2 < 52 := (Nat.log2_lt h0).2 h1
      have := nearest_mul s r 52 _ (-52 + -1074) (-1074) hr0 hL (by omega) (by omega)
      rw [show r * 4503599627370496 = r * 2 ^ 52 from rfl, this]
      rw [show min ((-1074 + 1074 : Int).toNat * 4503599627370496 + r) 9218868437227405312 = r by simp; omega, hc]
  · rw [if_neg h1] at hw
    rw [mul_words _ _ _ ho _ _ _ _ hw]
    have hm1 : 2 ^ 52 ≤ 4503599627370496 + r % 4503599627370496 := by omega
    have hm2 : 4503599627370496 + r % 4503599627370496 < 2 ^ 53 := by omega
    have hL := log2_mul _ 52 52 hm1 hm2
    have := nearest_mul s (4503599627370496 + r % 4503599627370496) 52 _ (-52 + (-1074 + (r / 4503599627370496 - 1 : Nat))) (-1074 + (r / 4503599627370496 - 1 : Nat)) (by omega) hL (by omega) (by omega)
    rw [show (4503599627370496 + r % 4503599627370496) * 4503599627370496 = (4503599627370496 + r % 4503599627370496) * 2 ^ 52 from rfl, this]
    rw [show min ((-1074 + ((r / 4503599627370496 - 1 : Nat) : Int) + 1074).toNat * 4503599627370496 + (4503599627370496 + r % 4503599627370496)) 9218868437227405312 = r by omega, hc]
def cw (x : Nat) : Prop := x = qnan ∨ x = finf ∨ x = fninf ∨ ∃ s r, r < 9218868437227405312 ∧ x = Ieee.double.word s r
theorem sub_split (r : Nat) (h0 : r ≠ 0) (h1 : r < 4503599627370496) : ∃ t K : Nat, t ≤ 51 ∧ 2 ^ t ≤ r ∧ r < 2 ^ (t + 1) ∧ 4503599627370496 ≤ K ∧ K < 9007199254740992 ∧ r * 4503599627370496 = K * 2 ^ t ∧ K * 4503599627370496 = r * 2 ^ (104 - t) := by
  have t1 := Nat.log2_self_le h0
  have t2 : r < 2 ^ (r.log2 + 1) := Nat.lt_log2_self
  have t3 : r.log2 < 52 := (Nat.log2_lt (k := 52) h0).2 h1
  generalize r.log2 = t at t1 t2 t3
  have hsplit : (4503599627370496 : Nat) = 2 ^ (52 - t) * 2 ^ t := by
    rw [← Nat.pow_add, show 52 - t + t = 52 by omega]
  have hs2 : (9007199254740992 : Nat) = 2 ^ (t + 1) * 2 ^ (52 - t) := by
    rw [← Nat.pow_add, show t + 1 + (52 - t) = 53 by omega]
  refine ⟨t, r * 2 ^ (52 - t), by omega, t1, t2, ?_, ?_, ?_, ?_⟩
  · rw [hsplit, Nat.mul_comm]; exact Nat.mul_le_mul_right _ t1
  · rw [hs2]; exact Nat.mul_lt_mul_of_pos_right t2 (Nat.pow_pos (by decide))
  · rw [Nat.mul_assoc, ← hsplit]
  · rw [Nat.mul_assoc]
    congr 1
    rw [show (4503599627370496 : Nat) = 2 ^ 52 from rfl, ← Nat.pow_add, show 52 - t + 52 = 104 - t by omega]
theorem sub_up_word (s : Bool) (r t K : Nat) (h1 : r < 4503599627370496) (ht : t ≤ 51) (k1 : 4503599627370496 ≤ K) (k2 : K < 9007199254740992) (e1 : r * 4503599627370496 = K * 2 ^ t) :
    fop .mul (Ieee.double.word s r) 4841369599423283200 = Ieee.double.word s (t * 4503599627370496 + K) := by
  have hw := read_word s r (by omega)
  rw [if_pos h1] at hw
  have r2 : Ieee.double.read 4841369599423283200 = .number false 4503599627370496 0 := by decide +kernel
  rw [mul_words' _ _ _ r2 _ _ _ _ hw, e1]
  have hL : (K * 2 ^ t).log2 = 52 + t := log2_mul K t 52 k1 k2
  rw [nearest_mul s K t _ (-1074 + 0) (-1074 + t) (by omega) hL (by omega) (by omega)]
  have e2 : min ((-1074 + (t : Int) + 1074).toNat * 4503599627370496 + K) 9218868437227405312 = t * 4503599627370496 + K := by omega
  rw [e2]
  exact cf_not (isNan_word _ _ (by omega))
theorem sub_dn_word (s : Bool) (r t K : Nat) (h0 : r ≠ 0) (h1 : r < 4503599627370496) (ht : t ≤ 51) (t1 : 2 ^ t ≤ r) (t2 : r < 2 ^ (t + 1)) (k1 : 4503599627370496 ≤ K) (k2 : K < 9007199254740992) (e1 : K * 4503599627370496 = r * 2 ^ (104 - t)) :
    fop .mul 4368491638549381120 (Ieee.double.word s ((t + 1) * 4503599627370496 + K)) = Ieee.double.word s r := by
  have r3 : Ieee.double.read 4368491638549381120 = .number false 4503599627370496 (-105) := by decide +kernel
  have hw2 := read_word s ((t + 1) * 4503599627370496 + K) (by omega)
  rw [if_neg (by omega)] at hw2
  rw [mul_words _ _ _ r3 _ _ _ _ hw2]
  have e3 : 4503599627370496 + ((t + 1) * 4503599627370496 + K) % 4503599627370496 = K := by omega
  have e4 : ((t + 1) * 4503599627370496 + K) / 4503599627370496 = t + 2 := by omega
  rw [e3, e4, e1]
  have hL := log2_mul r (104 - t) t t1 t2
  rw [nearest_mul s r (104 - t) _ _ (-1074) h0 hL (by omega) (by omega)]
  have e5 : min ((-1074 + 1074 : Int).toNat * 4503599627370496 + r) 9218868437227405312 = r := by
    rw [show (-1074 + 1074 : Int) = 0 from rfl, Int.toNat_zero, Nat.zero_mul, Nat.zero_add]
    exact Nat.min_eq_left (by omega)
  rw [e5]
  exact cf_not (isNan_word _ _ (by omega))
theorem scl_zero_word (s : Bool) (r : Nat) (h : r < 9218868437227405312) : scl (Ieee.double.word s r) 0 = Ieee.double.word s r := by
  have hx := fin_word s r h
  unfold scl
  split
  · rfl
  rename_i hz
  rw [if_neg (by rw [fin_finite hx]; simp)]
  have hr0 : r ≠ 0 := by
    rintro rfl
    refine hz ((fcmp_eq hx fin_zero).2 ?_)
    rw [val_word _ _ h, val_zero, rv_zero]; cases s <;> decide
  have hsm := small_word s r h
  by_cases h1 : r < 4503599627370496
  · obtain ⟨t, K, ht, t1, t2, k1, k2, e1, e2⟩ := sub_split r hr0 h1
    have hN : nrmF (Ieee.double.word s r) = Ieee.double.word s (t * 4503599627370496 + K) := by
      unfold nrmF; rw [hsm, if_pos (by simpa using h1)]; exact sub_up_word s r t K h1 ht k1 k2 e1
    have hE : nrmE (Ieee.double.word s r) = -52 := by unfold nrmE; rw [hsm, if_pos (by simpa using h1)]
    have hl : (t * 4503599627370496 + K) / 2 ^ 52 = t + 1 := by omega
    have hm : (t * 4503599627370496 + K) % 2 ^ 52 = K - 4503599627370496 := by omega
    have hd := sub_dn_word s r t K hr0 h1 ht t1 t2 k1 k2 e2
    have hx2 := exF_word s (t * 4503599627370496 + K) (by omega)
    rw [hl] at hx2
    have hly := fun e a b => lay_word s (t * 4503599627370496 + K) (by omega) e a b
    rw [hm] at hly
    simp only [hN, hE, hx2]
    have c1 : ¬ (0 + -52 + (((t + 1 : Nat) : Int) - 1023) < -1075) := by omega
    have c2 : ¬ (1023 < 0 + -52 + (((t + 1 : Nat) : Int) - 1023)) := by omega
    have c3 : 0 + -52 + (((t + 1 : Nat) : Int) - 1023) < -1022 := by omega
    rw [if_neg c1, if_neg c2, if_pos c3, hly _ (by omega) (by omega)]
    have e3 : (0 + -52 + (((t + 1 : Nat) : Int) - 1023) + 53 + 1023 : Int).toNat = t + 2 := by omega
    have e2 : ∀ B, B ≤ K → (t + 2) * B + (K - B) = (t + 1) * B + K := fun B hB => by
      rw [Nat.add_mul, Nat.add_mul]; omega
    have e2 : (t + 2) * 2 ^ 52 + (K - 4503599627370496) = (t + 1) * 4503599627370496 + K := e2 4503599627370496 k1
    rw [e3, e2]
    exact hd
  · have hN : nrmF (Ieee.double.word s r) = Ieee.double.word s r := by unfold nrmF; rw [hsm, if_neg (by simpa using h1)]
    have hE : nrmE (Ieee.double.word s r) = 0 := by unfold nrmE; rw [hsm, if_neg (by simpa using h1)]
    simp only [hN, hE, exF_word s r (show r < 2 ^ 63 by omega)]
    have c1 : ¬ (0 + 0 + (((r / 2 ^ 52 : Nat) : Int) - 1023) < -1075) := by omega
    have c2 : ¬ (1023 < 0 + 0 + (((r / 2 ^ 52 : Nat) : Int) - 1023)) := by omega
    have c3 : ¬ (0 + 0 + (((r / 2 ^ 52 : Nat) : Int) - 1023) < -1022) := by omega
    rw [if_neg c1, if_neg c2, if_neg c3, lay_word s _ (by omega) _ (by omega) (by omega)]
    have e2 : (0 + 0 + (((r / 2 ^ 52 : Nat) : Int) - 1023) + 1023 : Int).toNat * 2 ^ 52 + r % 2 ^ 52 = r := by omega
    rw [e2]
    exact mul_one_word s r h
theorem scl_zero {x : Nat} (h : cw x) : scl x 0 = x := by
  rcases h with rfl | rfl | rfl | ⟨s, r, hr, rfl⟩
  · decide +kernel
  · decide +kernel
  · decide +kernel
  · exact scl_zero_word s r hr
def Pw (x : Nat) : Prop := x ≤ 9218868437227405312
theorem Pw_nan {x : Nat} (h : Pw x) : isNan x = false := by
  unfold Pw at h
  unfold isNan
  simp only [decide_eq_false_iff_not]
  omega
theorem word_false (r : Nat) : Ieee.double.word false r = r := by simp [Ieee.Format.word]
theorem Pw_fin {x : Nat} (h : x < 9218868437227405312) : fin x := by
  have := fin_word false x h
  rwa [word_false] at this
theorem Pw_val {x : Nat} (h : x < 9218868437227405312) : val x = rv x := by
  have := val_word false x h
  rwa [word_false] at this
theorem read_inf : Ieee.double.read 9218868437227405312 = .infinity false := by decide
theorem Pw_read {x : Nat} (h : Pw x) : (∃ m i, Ieee.double.read x = .number false m i) ∨ x = 9218868437227405312 := by
  by_cases e : x = 9218868437227405312
  · exact .inr e
  · left
    unfold Pw at h
    have := read_word false x (by omega)
    rw [word_false] at this
    rw [this]
    split <;> exact ⟨_, _, rfl⟩
theorem Pw_near (m : Nat) (i : Int) : Pw (cf (Ieee.double.nearest false m i)) := by
  have key : ∀ r, Pw r → Pw (cf r) := fun r h => by rw [cf_not (Pw_nan h)]; exact h
  unfold Ieee.Format.nearest
  split
  · rw [word_false]; exact key 0 (Nat.zero_le _)
  · have q4 : Ieee.double.infRung = 9218868437227405312 := rfl
    simp only [q4]
    rw [word_false]
    exact key _ (Nat.min_le_right _ _)
theorem Pw_inf : Pw (cf (Ieee.double.write (.infinity false))) := by
  have : cf (Ieee.double.write (.infinity false)) = 9218868437227405312 := by decide
  rw [this]; exact Nat.le_refl _
theorem Pw_some (d : Ieee.Datum) (h : Pw (cf (Ieee.double.write d))) : Pw ((((some d).map Ieee.double.write).map cf).getD qnan) := h
theorem Pw_num (m : Nat) (i : Int) : Pw (cf (Ieee.double.write (.number false m i))) := Pw_near m i
theorem sum_fin (m n : Nat) (i j : Int) : ∃ a b, Ieee.Datum.sum (.number false m i) (.number false n j) = some (.number false a b) := by
  have key : ∀ a b : Nat, (if ((a : Int) + b) = 0 then (false && false) else decide ((a : Int) + b < 0)) = false := fun a b => by
    split
    · rfl
    · simp; omega
  simp only [Ieee.Datum.sum, Ieee.signed, Bool.false_eq_true, if_false]
  rw [key]
  exact ⟨_, _, rfl⟩
theorem Pw_add {x y : Nat} (hx : Pw x) (hy : Pw y) : Pw (fop .add x y) := by
  unfold fop Ieee.Format.add
  simp only
  rcases Pw_read hx with ⟨m, i, h1⟩ | rfl <;> rcases Pw_read hy with ⟨n, j, h2⟩ | rfl
  · rw [h1, h2]
    obtain ⟨a, b, e⟩ := sum_fin m n i j
    rw [e]
    exact Pw_some _ (Pw_num _ _)
  · rw [h1, read_inf, show Ieee.Datum.sum (.number false m i) (.infinity false) = some (.infinity false) from rfl]; exact Pw_some _ Pw_inf
  · rw [h2, read_inf, show Ieee.Datum.sum (.infinity false) (.number false n j) = some (.infinity false) from rfl]; exact Pw_some _ Pw_inf
  · rw [read_inf, show Ieee.Datum.sum (.infinity false) (.infinity false) = some (.infinity false) from rfl]; exact Pw_some _ Pw_inf
theorem Pw_mul {x y : Nat} (hx : fin x) (h0 : Pw x) (hp : 0 < val x) (hy : Pw y) : Pw (fop .mul x y) := by
  unfold fop Ieee.Format.mul
  simp only
  obtain ⟨s, m0, i0, hd⟩ := hx
  rcases Pw_read h0 with ⟨m, i, h1⟩ | rfl
  · rcases Pw_read hy with ⟨n, j, h2⟩ | rfl
    · rw [h1, h2]
      rw [show Ieee.Datum.product (.number false m i) (.number false n j) = some (.number false (m * n) (i + j)) from rfl]
      exact Pw_some _ (Pw_num _ _)
    · rw [h1, read_inf]
      have hm : m ≠ 0 := by
        rintro rfl
        have := val_eq h1
        rw [this] at hp
        simp at hp
      have e : Ieee.Datum.product (.number false m i) (.infinity false) = some (.infinity false) := by simp only [Ieee.Datum.product, hm, if_false, Bool.xor_self]
      rw [e]
      exact Pw_some _ Pw_inf
  · rw [read_inf] at hd; cases hd
theorem up_inf : up 9218868437227405312 = 9218868437227405312 := by decide
theorem up_Pw {x : Nat} (h : x < 9218868437227405312) : up x = x + 1 := by
  have hf := Pw_fin h
  have hn := fin_not_nan hf
  have n1 : isNan finf = false := by decide
  have rd : Ieee.double.read finf = .infinity false := by decide
  have o1 : fcmp .eq x finf = false := by
    obtain ⟨s', m, i, hd⟩ := hf
    simp [fcmp, Ieee.Format.order, hd, rd, Ieee.Datum.order]
  have o2 : fcmp .gt finf x = true := by
    obtain ⟨s', m, i, hd⟩ := hf
    simp [fcmp, Ieee.Format.order, hd, rd, Ieee.Datum.order]
  unfold up nextF
  rw [hn, n1, o1, o2]
  simp only [Bool.false_eq_true, or_self, if_false]
  by_cases hr : x = 0
  · subst hr; decide
  · have hp : 0 < rv x := by have := rv_lt (show 0 < x by omega); rwa [rv_zero] at this
    have z : ¬ fcmp .eq x 0 = true := by
      rw [fcmp_eq hf fin_zero, Pw_val h, val_zero]; grind
    have g : fcmp .gt x 0 = true := by
      rw [fcmp_gt hf fin_zero, Pw_val h, val_zero]; exact hp
    rw [if_neg z, g]
    simp only [beq_self_eq_true, if_true]
    have w : (IntKind.wrap .u64 ((x : Int) + 1)).toNat = x + 1 := by rw [wrapU (by omega) (by omega)]; omega
    rw [w]
    exact cf_not (Pw_nan (by unfold Pw; omega))
theorem up_pos {x : Nat} (h : Pw x) : Pw (up x) ∧ 0 < up x := by
  by_cases e : x = 9218868437227405312
  · subst e; rw [up_inf]; exact ⟨Nat.le_refl _, by decide⟩
  · unfold Pw at h ⊢
    rw [up_Pw (by omega)]
    omega
theorem neg_Pw {r : Nat} (h : Pw r) (h0 : 0 < r) : fop .sub 0 r = 9223372036854775808 + r ∧ fcmp .le (9223372036854775808 + r) r = true := by
  by_cases e : r = 9218868437227405312
  · subst e; decide
  · unfold Pw at h
    have hr : r < 9218868437227405312 := by omega
    have h1 : Ieee.double.signWeight = 9223372036854775808 := rfl
    have e2 : 9223372036854775808 + r = Ieee.double.word true r := by simp [Ieee.Format.word, h1]
    have hp : 0 < rv r := by have := rv_lt h0; rwa [rv_zero] at this
    refine ⟨?_, ?_⟩
    · have hw := read_word false r hr
      rw [word_false] at hw
      have r0 : Ieee.double.read 0 = .number false 0 (-1074) := by decide
      have hc : cf (Ieee.double.word true r) = Ieee.double.word true r := cf_not (isNan_word _ _ hr)
      have key : ∀ (m d : Nat) (i : Int), m ≠ 0 → i = -1074 + d → Ieee.double.read r = .number false m i → fop .sub 0 r = cf (Ieee.double.nearest true (m * 2 ^ d) (-1074)) := fun m d i hm hi hd => by
        unfold fop Ieee.Format.sub
        rw [r0, hd]
        have e1 : min (-1074 : Int) i = -1074 := by omega
        have e3 : (i - -1074).toNat = d := by omega
        have hp : 0 < 2 ^ d := Nat.pow_pos (by decide)
        have hmp : 0 < m * 2 ^ d := Nat.mul_pos (by omega) hp
        simp only [Ieee.Datum.opposite, Ieee.Datum.sum, e1, e3, Option.map_some, Option.getD_some, Ieee.Format.write, Ieee.signed]
        generalize hx : m * 2 ^ d = x at hmp
        simp only [Bool.false_eq_true, if_false, Bool.not_false, if_true, Nat.zero_mul, Nat.zero_shiftLeft, Nat.shiftLeft_eq, hx]
        have q1 : ((0 : Nat) : Int) + -(x : Int) ≠ 0 := by omega
        have q2 : decide (((0 : Nat) : Int) + -(x : Int) < 0) = true := decide_eq_true (by omega)
        have q3 : (((0 : Nat) : Int) + -(x : Int)).natAbs = x := by omega
        first | rw [if_neg q1, q2, q3] | (simp [q1, q2, q3]; done)
      rw [e2]
      by_cases h3 : r < 4503599627370496
      · rw [if_pos h3] at hw
        rw [key r 0 _ (by omega) (by omega) hw]
        have hl2 : r.log2 < 52 := (Nat.log2_lt (by omega)).2 h3
        have := nearest_mul true r 0 _ (-1074) (-1074) (by omega) rfl (by rw [Nat.pow_zero, Nat.mul_one]; omega) (by omega)
        rw [this, show min ((-1074 + 1074 : Int).toNat * 4503599627370496 + r) 9218868437227405312 = r by simp; omega, hc]
      · rw [if_neg h3] at hw
        rw [key _ (r / 4503599627370496 - 1) _ (by omega) (by omega) hw]
        have hm1 : 2 ^ 52 ≤ 4503599627370496 + r % 4503599627370496 := by omega
        have hm2 : 4503599627370496 + r % 4503599627370496 < 2 ^ 53 := by omega
        have hL := log2_mul _ (r / 4503599627370496 - 1) 52 hm1 hm2
        have := nearest_mul true (4503599627370496 + r % 4503599627370496) (r / 4503599627370496 - 1) _ (-1074) (-1074 + (r / 4503599627370496 - 1 : Nat)) (by omega) hL (by omega) (by omega)
        rw [this, show min ((-1074 + ((r / 4503599627370496 - 1 : Nat) : Int) + 1074).toNat * 4503599627370496 + (4503599627370496 + r % 4503599627370496)) 9218868437227405312 = r by omega, hc]
    · rw [e2, fcmp_le (fin_word true r hr) (Pw_fin hr), val_word true r hr, Pw_val hr]
      simp only [if_true]
      grind
def A_iv_Add : CA := (.seq (.reg [i_X 0 2 (.box (.t 0) 2 58), i_X 1 3 (.box (.t 1) 2 58), i_X 2 4 (.alloc [(.d (.flt 0)), (.d (.flt 0))] 58)] [2, 3, 4]) (.seq (.reg [i_P 0 5 2 0, i_L 1 6 5 1, i_P 2 7 3 0, i_L 3 8 7 1, i_F 4 9 .add 6 8, i_P 5 10 2 1, i_L 6 11 10 1, i_P 7 12 3 1, i_L 8 13 12 1, i_F 9 14 .add 11 13, i_X 10 15 (.h (.build [(.d (.flt 0)), (.d (.flt 0))] [(0, (1, (.t 9))), (1, (1, (.t 14)))])), i_X 11 16 (.callA (kF 126) [(.t 15), (kF 127)]), i_S 12 4 16 2] [4]) .ret))
theorem A_iv_Add_comp : compF Tryz.prog 92 = some ⟨17, [(4, (some (2, true)))], A_iv_Add.strip⟩ := by kernel_rfl
def A_iv_Div : CA := (.seq (.reg [i_X 0 2 (.box (.t 0) 2 58), i_X 1 3 (.box (.t 1) 2 58), i_X 2 4 (.alloc [(.d (.flt 0)), (.d (.flt 0))] 58)] [2, 3, 4]) (.seq (.seq (.reg [i_A 0 5 3 2, i_X 1 6 (.callA (kF 157) [(.k (.d (.flt 0))), (.t 5)])] [2, 3, 4, 6]) (.cond (.t 6) (.seq (.reg [i_X 0 7 (.callA (kF 136) []), i_S 1 4 7 2] [4]) .ret) .skip)) (.seq (.reg [i_P 0 8 2 0, i_L 1 9 8 1, i_P 2 10 3 0, i_L 3 11 10 1, i_F 4 12 .div 9 11, i_P 5 13 2 0, i_L 6 14 13 1, i_P 7 15 3 1, i_L 8 16 15 1, i_F 9 17 .div 14 16, i_P 10 18 2 1, i_L 11 19 18 1, i_P 12 20 3 0, i_L 13 21 20 1, i_F 14 22 .div 19 21, i_P 15 23 2 1, i_L 16 24 23 1, i_P 17 25 3 1, i_L 18 26 25 1, i_F 19 27 .div 24 26, i_X 20 28 (.h (.build z_4 [(0, (1, (.t 12))), (1, (1, (.t 17))), (2, (1, (.t 22))), (3, (1, (.t 27)))])), i_X 21 29 (.callA (kF 154) [(.t 28)]), i_S 22 4 29 2] [4]) .ret)))
theorem A_iv_Div_comp : compF Tryz.prog 131 = some ⟨30, [(4, (some (2, true)))], A_iv_Div.strip⟩ := by kernel_rfl
def A_iv_In : CA := (.seq (.reg [i_X 0 3 (.box (.t 1) 2 58), i_X 1 4 (.h (.mov (.k (.d (.bool false)))))] [0, 3]) (.seq (.reg [i_P 0 5 3 0, i_L 1 6 5 1, i_M 2 7 0, i_X 3 8 (.h (.fcmp .le (.t 6) (.t 7))), i_M 4 9 8, ⟨5, (some 10), (some (9, true)), [], [], (.h (.mov (.t 0)))⟩, ⟨6, (some 11), (some (9, true)), [], [], (.h (.padd (.t 3) 1))⟩, ⟨7, (some 12), (some (9, true)), [], [], (.load (.t 11) 1 false)⟩, ⟨8, (some 13), (some (9, true)), [], [], (.h (.fcmp .le (.t 10) (.t 12)))⟩, i_X 9 14 (.h (.pick (.t 9) (.t 13) (.k (.d (.bool false))))), i_M 10 4 14] [4]) .ret))
theorem A_iv_In_comp : compF Tryz.prog 157 = some ⟨15, [(4, none)], A_iv_In.strip⟩ := by kernel_rfl
def A_iv_Mag : CA := (.seq (.reg [i_X 0 1 (.box (.t 0) 2 58), i_X 1 2 (.h (.mov (.k (.d (.flt 0)))))] [1]) (.seq (.reg [i_P 0 5 1 0, i_L 1 6 5 1, i_X 2 7 (.callS 0 (kF 118) [(.t 6)]), i_P 3 8 1 1, i_L 4 9 8 1, i_X 5 10 (.callA (kF 118) [(.t 9)]), i_M 6 3 7, i_M 7 4 10] [3, 4]) (.seq (.seq (.reg [i_M 0 11 4, i_M 1 12 3, i_X 2 13 (.h (.fcmp .gt (.t 11) (.t 12)))] [3, 4, 13]) (.cond (.t 13) (.seq (.reg [i_M 0 14 4, i_M 1 2 14] [2]) .ret) .skip)) (.seq (.reg [i_M 0 15 3, i_M 1 2 15] [2]) .ret))))
theorem A_iv_Mag_comp : compF Tryz.prog 81 = some ⟨16, [(2, none)], A_iv_Mag.strip⟩ := by kernel_rfl
def A_iv_Within : CA := (.seq (.reg [i_X 0 2 (.box (.t 0) 2 58), i_X 1 3 (.box (.t 1) 2 58), i_X 2 4 (.h (.mov (.k (.d (.bool false)))))] [2, 3]) (.seq (.reg [i_P 0 5 3 0, i_L 1 6 5 1, i_P 2 7 2 0, i_L 3 8 7 1, i_X 4 9 (.h (.fcmp .le (.t 6) (.t 8))), i_M 5 10 9, ⟨6, (some 11), (some (10, true)), [], [], (.h (.padd (.t 2) 1))⟩, ⟨7, (some 12), (some (10, true)), [], [], (.load (.t 11) 1 false)⟩, ⟨8, (some 13), (some (10, true)), [], [], (.h (.padd (.t 3) 1))⟩, ⟨9, (some 14), (some (10, true)), [], [], (.load (.t 13) 1 false)⟩, ⟨10, (some 15), (some (10, true)), [], [], (.h (.fcmp .le (.t 12) (.t 14)))⟩, i_X 11 16 (.h (.pick (.t 10) (.t 15) (.k (.d (.bool false))))), i_M 12 4 16] [4]) .ret))
theorem A_iv_Within_comp : compF Tryz.prog 94 = some ⟨17, [(4, none)], A_iv_Within.strip⟩ := by kernel_rfl
def A_iv_point : CA := (.seq (.reg [i_X 0 2 (.alloc [(.d (.flt 0)), (.d (.flt 0))] 58)] [0, 2]) (.seq (.reg [i_M 0 3 0, i_M 1 4 0, i_X 2 5 (.h (.build [(.d (.flt 0)), (.d (.flt 0))] [(0, (1, (.t 3))), (1, (1, (.t 4)))])), i_S 3 2 5 2] [2]) .ret))
theorem A_iv_point_comp : compF Tryz.prog 140 = some ⟨6, [(2, (some (2, true)))], A_iv_point.strip⟩ := by kernel_rfl
def A_iv_Exp_L0 : CA := (.seq (.reg [i_B 0 20 .lss 19 10] [3, 19, 20]) (.seq (.cond (.t 20) .skip (.exit 0)) (.seq (.block 1 (.reg [i_A 0 21 3 2, i_A 1 22 3 2, i_X 2 23 (.callA (kF 125) [(.t 21), (.t 22)]), i_S 3 3 23 2] [3, 19])) (.reg [i_B 0 24 .add 19 1, i_M 1 19 24] [3, 19]))))
def A_iv_Exp : CA := (.seq (.reg [i_X 0 2 (.h (.mov (.k (.d (.flt 0)))))] [0]) (.seq (.seq (.reg [i_M 0 4 0, i_X 1 5 (.callA (kF 88) [(.t 4)]), i_M 2 6 5, ⟨3, (some 7), (some (6, false)), [], [], (.h (.mov (.t 0)))⟩, ⟨4, (some 8), (some (6, false)), [], [], (.h (.fcmp .ge (.t 7) (.k (.d (.flt 4647714815446351872)))))⟩, i_X 5 9 (.h (.pick (.t 6) (.k (.d (.bool true))) (.t 8)))] [0, 9]) (.cond (.t 9) (.seq (.reg [i_X 0 10 (.callA (kF 91) [(kI 1)]), i_M 1 2 10] [2]) .ret) .skip)) (.seq (.reg [i_X 0 11 (.callA (kF 140) [(.k (.d (.flt 4607182418800017408)))]), i_X 1 12 (.callA (kF 140) [(.k (.d (.flt 4607182418800017408)))]), i_M 2 13 0, i_X 3 14 (.callA (kF 140) [(.t 13)]), i_X 4 15 (.callA (kF 140) [(.k (.d (.flt 4652218415073722368)))]), i_X 5 16 (.callA (kF 131) [(.t 14), (.t 15)]), i_X 6 17 (.callA (kF 79) [(.t 12), (.t 16)]), i_X 7 18 (.callA (kF 131) [(.t 11), (.t 17)]), i_X 8 3 (.alloc [(.d (.flt 0)), (.d (.flt 0))] 58), i_S 9 3 18 2] [3]) (.seq (.seq (.reg [i_K 0 19 0] [3, 19]) (.block 0 (.loop A_iv_Exp_L0))) (.seq (.reg [i_P 0 25 3 1, i_L 1 26 25 1, i_M 2 2 26] [2]) .ret)))))
theorem A_iv_Exp_comp : compF Tryz.prog 98 = some ⟨27, [(2, none)], A_iv_Exp.strip⟩ := by kernel_rfl
theorem iv_Add_con (a b : Iv) : Con Tryz.prog 92 [ivV a, ivV b] (ivV (ivAdd a b)) := by
  refine Con_introA A_iv_Add_comp rfl mixed ?_
  refine evx @A_iv_Add.eq_1 ?_
  refine callG_con (iv_out_con (fop .add a.1 b.1) (fop .add a.2 b.2)) rfl ?_
  refine ev ?_
  exact endsT_retm rfl (by decide) rfl rfl rfl (by simp) (by simp [ldv, ivAdd])
theorem iv_In_con (x : Nat) (a : Iv) : Con Tryz.prog 157 [fl x, ivV a] (fB (fcmp .le a.1 x && fcmp .le x a.2)) := by
  refine Con_introA A_iv_In_comp rfl mixed ?_
  refine evx @A_iv_In.eq_1 ?_
  cases h : fcmp .le a.1 x
  · refine ev ?_
    exact endsT_rett rfl (by decide) (by simp [look])
  · refine ev ?_
    exact endsT_rett rfl (by decide) (by simp [look])
theorem iv_Within_con (a b : Iv) : Con Tryz.prog 94 [ivV a, ivV b] (fB (withinI a b)) := by
  unfold withinI
  refine Con_introA A_iv_Within_comp rfl mixed ?_
  refine evx @A_iv_Within.eq_1 ?_
  cases h : fcmp .le b.1 a.1
  · refine ev ?_
    exact endsT_rett rfl (by decide) (by simp [look])
  · refine ev ?_
    exact endsT_rett rfl (by decide) (by simp [look])
theorem iv_Div_con (a b : Iv) : Con Tryz.prog 131 [ivV a, ivV b] (ivV (ivDiv a b)) := by
  refine Con_introA A_iv_Div_comp rfl mixed ?_
  refine evx @A_iv_Div.eq_1 ?_
  refine callG_con (iv_In_con 0 b) rfl ?_
  have e : (fcmp .le b.1 0 && fcmp .le 0 b.2) = in0 b := rfl
  rw [e]
  unfold ivDiv
  cases h : in0 b
  · refine ev ?_
    refine callG_con (iv_span_con (fop .div a.1 b.1) (fop .div a.1 b.2) (fop .div a.2 b.1) (fop .div a.2 b.2)) rfl ?_
    refine ev ?_
    exact endsT_retm rfl (by decide) rfl rfl rfl (by simp) (by simp [ldv])
  · refine ev ?_
    refine callG_con (iv_whole_con) rfl ?_
    refine ev ?_
    exact endsT_retm rfl (by decide) rfl rfl rfl (by simp) (by simp [ldv])
theorem iv_Mag_con (a : Iv) : Con Tryz.prog 81 [ivV a] (fl (ivMag a)) := by
  refine Con_introA A_iv_Mag_comp rfl mixed ?_
  refine evx @A_iv_Mag.eq_1 ?_
  refine callSG_con (math_Abs_con a.1) rfl ?_
  refine ev ?_
  refine callG_con (math_Abs_con a.2) rfl ?_
  refine ev ?_
  unfold ivMag
  refine condC_intro (fun h => ?_) (fun h => ?_)
  · refine ev ?_
    rw [if_pos h]
    exact endsT_rett rfl (by decide) (by simp [look])
  · refine ev ?_
    rw [if_neg (by simp [h])]
    exact endsT_rett rfl (by decide) (by simp [look])
theorem iv_point_con (x : Nat) : Con Tryz.prog 140 [fl x] (ivV (pt x)) := by
  refine Con_introA A_iv_point_comp rfl mixed ?_
  refine evx @A_iv_point.eq_1 ?_
  exact endsT_retm rfl (by decide) rfl rfl rfl (by simp) (by simp [ldv, pt])
end Go.Ab
