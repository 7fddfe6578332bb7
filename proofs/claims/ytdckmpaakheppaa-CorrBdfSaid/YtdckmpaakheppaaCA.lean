/- Chapter 9's functions: powers of two; weights; sizes. -/
import Derived.Test.YtdckmpaakheppaaLD
import Derived.Test.YtdckmpaakheppaaGD
namespace Go.Ab
set_option linter.unusedSimpArgs false
set_option linter.unusedVariables false
open Go Go.Proofs
def A_math_normalize : CA := (.seq (.reg [⟨0, (some 2), none, [], [], (.h (.mov (.k (.d (.flt 0)))))⟩, ⟨1, (some 3), none, [], [], (.h (.mov (.k (.d (.int .i64 0)))))⟩] [0]) (.seq (.seq (.reg [⟨0, (some 4), none, [], [], (.h (.mov (.t 0)))⟩, ⟨1, (some 5), none, [], [], (.callA (.k (.d (.fn 24 [] []))) [(.t 4)])⟩, ⟨2, (some 6), none, [], [], (.h (.fcmp .lt (.t 5) (.k (.d (.flt 4503599627370496)))))⟩] [0, 6]) (.cond (.t 6) (.seq (.reg [⟨0, (some 7), none, [], [], (.h (.mov (.t 0)))⟩, ⟨1, (some 8), none, [], [], (.h (.fbin .mul (.t 7) (.k (.d (.flt 4841369599423283200)))))⟩, ⟨2, (some 2), none, [], [], (.h (.mov (.t 8)))⟩, ⟨3, (some 3), none, [], [], (.h (.mov (.k (.d (.int .i64 (-52))))))⟩] [2, 3]) .ret) .skip)) (.seq (.reg [⟨0, (some 9), none, [], [], (.h (.mov (.t 0)))⟩, ⟨1, (some 2), none, [], [], (.h (.mov (.t 9)))⟩, ⟨2, (some 3), none, [], [], (.h (.mov (.k (.d (.int .i64 0)))))⟩] [2, 3]) .ret)))
theorem A_math_normalize_comp : compF Try.prog 87 = some ⟨10, [(2, none), (3, none)], A_math_normalize.strip⟩ := by kernel_rfl
def A_math_ldexp : CA := (.seq (.reg [⟨0, (some 4), none, [], [], (.h (.mov (.k (.d (.flt 0)))))⟩] [0, 1]) (.seq (.block 0 (.seq (.reg [⟨0, (some 9), none, [], [], (.h (.mov (.t 0)))⟩, ⟨1, (some 10), none, [], [], (.h (.fcmp .eq (.t 9) (.k (.d (.flt 0)))))⟩, ⟨2, (some 8), none, [], [], (.h (.mov (.t 10)))⟩] [0, 1, 8]) (.cond (.t 8) (.seq (.reg [⟨0, (some 11), none, [], [], (.h (.mov (.t 0)))⟩, ⟨1, (some 4), none, [], [], (.h (.mov (.t 11)))⟩] [4]) .ret) (.seq (.reg [⟨0, (some 13), none, [], [], (.h (.mov (.t 0)))⟩, ⟨1, (some 14), none, [], [], (.callA (.k (.d (.fn 81 [] []))) [(.t 13), (.k (.d (.int .i64 0)))])⟩, ⟨2, (some 15), none, [], [], (.h (.mov (.t 14)))⟩, ⟨3, (some 16), (some (15, false)), [], [], (.h (.mov (.t 0)))⟩, ⟨4, (some 17), (some (15, false)), [], [], (.callA (.k (.d (.fn 48 [] []))) [(.t 16)])⟩, ⟨5, (some 18), none, [], [], (.h (.pick (.t 15) (.k (.d (.bool true))) (.t 17)))⟩, ⟨6, (some 12), none, [], [], (.h (.mov (.t 18)))⟩] [0, 1, 12]) (.cond (.t 12) (.seq (.reg [⟨0, (some 19), none, [], [], (.h (.mov (.t 0)))⟩, ⟨1, (some 4), none, [], [], (.h (.mov (.t 19)))⟩] [4]) .ret) .skip))))) (.seq (.reg [⟨0, (some 21), none, [], [], (.h (.mov (.t 0)))⟩, ⟨1, (some 22), none, [], [], (.callA (.k (.d (.fn 87 [] []))) [(.t 21)])⟩, ⟨2, (some 20), none, [], [], (.h (.mov (.t 22)))⟩, ⟨3, (some 23), none, [], [], (.h (.ext (.t 20) 0))⟩, ⟨4, (some 24), none, [], [], (.h (.ext (.t 20) 1))⟩, ⟨5, (some 0), none, [], [], (.h (.mov (.t 23)))⟩, ⟨6, (some 5), none, [], [], (.h (.mov (.t 24)))⟩] [0, 1, 5]) (.seq (.reg [⟨0, (some 25), none, [], [], (.h (.mov (.t 1)))⟩, ⟨1, (some 26), none, [], [], (.h (.mov (.t 5)))⟩, ⟨2, (some 27), none, [], [], (.h (.ibin .add (.t 25) (.t 26)))⟩, ⟨3, (some 1), none, [], [], (.h (.mov (.t 27)))⟩] [0, 1]) (.seq (.reg [⟨0, (some 28), none, [], [], (.h (.mov (.t 0)))⟩, ⟨1, (some 29), none, [], [], (.h (.bits (.t 28)))⟩, ⟨2, (some 6), none, [], [], (.h (.mov (.t 29)))⟩] [0, 1, 6]) (.seq (.reg [⟨0, (some 30), none, [], [], (.h (.mov (.t 1)))⟩, ⟨1, (some 31), none, [], [], (.h (.mov (.t 6)))⟩, ⟨2, (some 32), none, [], [], (.h (.ibin .shr (.t 31) (.k (.d (.int .u64 52)))))⟩, ⟨3, (some 33), none, [], [], (.h (.icv .i64 (.t 32)))⟩, ⟨4, (some 34), none, [], [], (.h (.ibin .and (.t 33) (.k (.d (.int .i64 2047)))))⟩, ⟨5, (some 35), none, [], [], (.h (.ibin .sub (.t 34) (.k (.d (.int .i64 1023)))))⟩, ⟨6, (some 36), none, [], [], (.h (.ibin .add (.t 30) (.t 35)))⟩, ⟨7, (some 1), none, [], [], (.h (.mov (.t 36)))⟩] [0, 1, 6]) (.seq (.seq (.reg [⟨0, (some 37), none, [], [], (.h (.mov (.t 1)))⟩, ⟨1, (some 38), none, [], [], (.h (.ibin .lss (.t 37) (.k (.d (.int .i64 (-1075))))))⟩] [0, 1, 6, 38]) (.cond (.t 38) (.seq (.reg [⟨0, (some 39), none, [], [], (.h (.mov (.t 0)))⟩, ⟨1, (some 40), none, [], [], (.callA (.k (.d (.fn 88 [] []))) [(.k (.d (.flt 0))), (.t 39)])⟩, ⟨2, (some 4), none, [], [], (.h (.mov (.t 40)))⟩] [4]) .ret) .skip)) (.seq (.seq (.reg [⟨0, (some 41), none, [], [], (.h (.mov (.t 1)))⟩, ⟨1, (some 42), none, [], [], (.h (.ibin .gtr (.t 41) (.k (.d (.int .i64 1023)))))⟩] [0, 1, 6, 42]) (.cond (.t 42) (.seq (.seq (.reg [⟨0, (some 43), none, [], [], (.h (.mov (.t 0)))⟩, ⟨1, (some 44), none, [], [], (.h (.fcmp .lt (.t 43) (.k (.d (.flt 0)))))⟩] [44]) (.cond (.t 44) (.seq (.reg [⟨0, (some 45), none, [], [], (.callA (.k (.d (.fn 49 [] []))) [(.k (.d (.int .i64 (-1))))])⟩, ⟨1, (some 4), none, [], [], (.h (.mov (.t 45)))⟩] [4]) .ret) .skip)) (.seq (.reg [⟨0, (some 46), none, [], [], (.callA (.k (.d (.fn 49 [] []))) [(.k (.d (.int .i64 1)))])⟩, ⟨1, (some 4), none, [], [], (.h (.mov (.t 46)))⟩] [4]) .ret)) .skip)) (.seq (.reg [⟨0, (some 7), none, [], [], (.h (.mov (.k (.d (.flt 4607182418800017408)))))⟩] [1, 6, 7]) (.seq (.seq (.reg [⟨0, (some 47), none, [], [], (.h (.mov (.t 1)))⟩, ⟨1, (some 48), none, [], [], (.h (.ibin .lss (.t 47) (.k (.d (.int .i64 (-1022))))))⟩] [1, 6, 7, 48]) (.cond (.t 48) (.seq (.reg [⟨0, (some 49), none, [], [], (.h (.mov (.t 1)))⟩, ⟨1, (some 50), none, [], [], (.h (.ibin .add (.t 49) (.k (.d (.int .i64 53)))))⟩, ⟨2, (some 1), none, [], [], (.h (.mov (.t 50)))⟩] [1, 6]) (.reg [⟨0, (some 7), none, [], [], (.h (.mov (.k (.d (.flt 4368491638549381120)))))⟩] [1, 6, 7])) .skip)) (.seq (.reg [⟨0, (some 51), none, [], [], (.h (.mov (.t 6)))⟩, ⟨1, (some 52), none, [], [], (.h (.ibin .andNot (.t 51) (.k (.d (.int .u64 9218868437227405312)))))⟩, ⟨2, (some 6), none, [], [], (.h (.mov (.t 52)))⟩] [1, 6, 7]) (.seq (.reg [⟨0, (some 53), none, [], [], (.h (.mov (.t 6)))⟩, ⟨1, (some 54), none, [], [], (.h (.mov (.t 1)))⟩, ⟨2, (some 55), none, [], [], (.h (.ibin .add (.t 54) (.k (.d (.int .i64 1023)))))⟩, ⟨3, (some 56), none, [], [], (.h (.icv .u64 (.t 55)))⟩, ⟨4, (some 57), none, [], [], (.h (.ibin .shl (.t 56) (.k (.d (.int .u64 52)))))⟩, ⟨5, (some 58), none, [], [], (.h (.ibin .or (.t 53) (.t 57)))⟩, ⟨6, (some 6), none, [], [], (.h (.mov (.t 58)))⟩] [6, 7]) (.seq (.reg [⟨0, (some 59), none, [], [], (.h (.mov (.t 7)))⟩, ⟨1, (some 60), none, [], [], (.h (.mov (.t 6)))⟩, ⟨2, (some 61), none, [], [], (.h (.frombits (.t 60)))⟩, ⟨3, (some 62), none, [], [], (.h (.fbin .mul (.t 59) (.t 61)))⟩, ⟨4, (some 4), none, [], [], (.h (.mov (.t 62)))⟩] [4]) .ret)))))))))))))
theorem A_math_ldexp_comp : compF Try.prog 77 = some ⟨63, [(4, none)], A_math_ldexp.strip⟩ := by kernel_rfl
def A_math_Ldexp : CA := (.seq (.reg [⟨0, (some 4), none, [], [], (.h (.mov (.k (.d (.flt 0)))))⟩] [0, 1]) (.seq (.cond (.k (.d (.bool false))) (.seq (.reg [⟨0, (some 5), none, [], [], (.h (.mov (.t 0)))⟩, ⟨1, (some 6), none, [], [], (.h (.mov (.t 1)))⟩, ⟨2, (some 7), none, [], [], (.callA (.k (.d (.fn 76 [] []))) [(.t 5), (.t 6)])⟩, ⟨3, (some 4), none, [], [], (.h (.mov (.t 7)))⟩] [4]) .ret) .skip) (.seq (.reg [⟨0, (some 8), none, [], [], (.h (.mov (.t 0)))⟩, ⟨1, (some 9), none, [], [], (.h (.mov (.t 1)))⟩, ⟨2, (some 10), none, [], [], (.callA (.k (.d (.fn 77 [] []))) [(.t 8), (.t 9)])⟩, ⟨3, (some 4), none, [], [], (.h (.mov (.t 10)))⟩] [4]) .ret)))
theorem A_math_Ldexp_comp : compF Try.prog 58 = some ⟨11, [(4, none)], A_math_Ldexp.strip⟩ := by kernel_rfl
def A_fp_Scale : CA := (.seq (.reg [⟨0, (some 4), none, [], [], (.h (.mov (.k (.d (.flt 0)))))⟩] [0, 1]) (.seq (.reg [⟨0, (some 5), none, [], [], (.h (.mov (.t 0)))⟩, ⟨1, (some 6), none, [], [], (.h (.mov (.t 1)))⟩, ⟨2, (some 7), none, [], [], (.callA (.k (.d (.fn 58 [] []))) [(.t 5), (.t 6)])⟩, ⟨3, (some 4), none, [], [], (.h (.mov (.t 7)))⟩] [4]) .ret))
theorem A_fp_Scale_comp : compF Try.prog 36 = some ⟨8, [(4, none)], A_fp_Scale.strip⟩ := by kernel_rfl
def A_corr_Weights_L0 : CA := (.seq (.reg [⟨0, (some 16), none, [], [], (.h (.ibin .lss (.t 15) (.t 14)))⟩] [1, 2, 7, 13, 14, 15, 16]) (.seq (.cond (.t 16) .skip (.exit 0)) (.seq (.block 1 (.seq (.reg [⟨0, (some 17), none, [], [], (.h (.mov (.t 15)))⟩, ⟨1, (some 18), none, [], [], (.h (.idx (.t 13) (.t 15) 1))⟩, ⟨2, (some 19), none, [], [], (.load (.t 18) 1 false)⟩, ⟨3, (some 8), none, [], [], (.h (.mov (.t 17)))⟩, ⟨4, (some 9), none, [], [], (.h (.mov (.t 19)))⟩] [1, 2, 7, 8, 9, 13, 14, 15]) (.reg [⟨0, (some 20), none, [], [], (.h (.mov (.t 7)))⟩, ⟨1, (some 21), none, [], [], (.h (.mov (.t 8)))⟩, ⟨2, (some 22), none, [], [], (.h (.mov (.t 1)))⟩, ⟨3, (some 23), none, [], [], (.h (.mov (.t 2)))⟩, ⟨4, (some 24), none, [], [], (.h (.mov (.t 9)))⟩, ⟨5, (some 25), none, [], [], (.callA (.k (.d (.fn 24 [] []))) [(.t 24)])⟩, ⟨6, (some 26), none, [], [], (.h (.fbin .mul (.t 23) (.t 25)))⟩, ⟨7, (some 27), none, [], [], (.h (.fbin .add (.t 22) (.t 26)))⟩, ⟨8, (some 28), none, [], [], (.h (.idx (.t 20) (.t 21) 1))⟩, ⟨9, none, none, [], [], (.store (.t 28) (.t 27) 1)⟩] [1, 2, 7, 13, 14, 15]))) (.reg [⟨0, (some 29), none, [], [], (.h (.ibin .add (.t 15) (.k (.d (.int .i64 1)))))⟩, ⟨1, (some 15), none, [], [], (.h (.mov (.t 29)))⟩] [1, 2, 7, 13, 14, 15]))))
def A_corr_Weights : CA := (.seq (.reg [⟨0, (some 6), none, [], [], (.h (.mov (.k .nil)))⟩] [0, 1, 2]) (.seq (.reg [⟨0, (some 10), none, [], [], (.h (.mov (.t 0)))⟩, ⟨1, (some 11), none, [], [], (.h (.len (.t 10)))⟩, ⟨2, (some 12), none, [], [], (.mksl [(.d (.flt 0))] 1 8 (.t 11) (.t 11) 32)⟩, ⟨3, (some 7), none, [], [], (.h (.mov (.t 12)))⟩] [0, 1, 2, 7]) (.seq (.seq (.reg [⟨0, (some 13), none, [], [], (.h (.mov (.t 0)))⟩, ⟨1, (some 14), none, [], [], (.h (.len (.t 13)))⟩, ⟨2, (some 15), none, [], [], (.h (.mov (.k (.d (.int .i64 0)))))⟩] [1, 2, 7, 13, 14, 15]) (.block 0 (.loop A_corr_Weights_L0))) (.seq (.reg [⟨0, (some 30), none, [], [], (.h (.mov (.t 7)))⟩, ⟨1, (some 6), none, [], [], (.h (.mov (.t 30)))⟩] [6]) .ret))))
theorem A_corr_Weights_comp : compF Try.prog 31 = some ⟨31, [(6, none)], A_corr_Weights.strip⟩ := by kernel_rfl
def A_r9_Weights_L0 : CA := (.seq (.seq (.reg [⟨0, (some 10), none, [], [], (.h (.mov (.t 8)))⟩, ⟨1, (some 11), none, [], [], (.h (.mov (.t 0)))⟩, ⟨2, (some 12), none, [], [], (.h (.len (.t 11)))⟩, ⟨3, (some 13), none, [], [], (.h (.ibin .lss (.t 10) (.t 12)))⟩] [0, 1, 2, 7, 8, 13]) (.cond (.t 13) .skip (.exit 0))) (.seq (.block 1 (.seq (.reg [⟨0, (some 16), none, [], [], (.h (.mov (.t 2)))⟩, ⟨1, (some 17), none, [], [], (.h (.mov (.t 0)))⟩, ⟨2, (some 18), none, [], [], (.h (.mov (.t 8)))⟩, ⟨3, (some 19), none, [], [], (.h (.idx (.t 17) (.t 18) 1))⟩, ⟨4, (some 20), none, [], [], (.load (.t 19) 1 false)⟩, ⟨5, (some 21), none, [], [], (.callA (.k (.d (.fn 28 [] []))) [(.t 20)])⟩, ⟨6, (some 22), none, [], [], (.h (.fbin .mul (.t 16) (.t 21)))⟩, ⟨7, (some 9), none, [], [], (.h (.mov (.t 22)))⟩] [0, 1, 2, 7, 8, 9]) (.reg [⟨0, (some 23), none, [], [], (.h (.mov (.t 7)))⟩, ⟨1, (some 24), none, [], [], (.h (.mov (.t 1)))⟩, ⟨2, (some 25), none, [], [], (.h (.mov (.t 9)))⟩, ⟨3, (some 26), none, [], [], (.h (.fbin .add (.t 24) (.t 25)))⟩, ⟨4, (some 27), none, [], [], (.bslice [(.d (.flt 0))] 1 1 [(0, (1, (.t 26)))] 32)⟩, ⟨5, (some 28), none, [], [], (.app (.t 23) (.t 27) 1 8)⟩, ⟨6, (some 7), none, [], [], (.h (.mov (.t 28)))⟩] [0, 1, 2, 7, 8]))) (.reg [⟨0, (some 14), none, [], [], (.h (.mov (.t 8)))⟩, ⟨1, (some 15), none, [], [], (.h (.ibin .add (.t 14) (.k (.d (.int .i64 1)))))⟩, ⟨2, (some 8), none, [], [], (.h (.mov (.t 15)))⟩] [0, 1, 2, 7, 8])))
def A_r9_Weights : CA := (.seq (.reg [⟨0, (some 6), none, [], [], (.h (.mov (.k .nil)))⟩] [0, 1, 2]) (.seq (.reg [⟨0, (some 7), none, [], [], (.h (.mov (.k .nil)))⟩] [0, 1, 2, 7]) (.seq (.seq (.reg [⟨0, (some 8), none, [], [], (.h (.mov (.k (.d (.int .i64 0)))))⟩] [0, 1, 2, 7, 8]) (.block 0 (.loop A_r9_Weights_L0))) (.seq (.reg [⟨0, (some 29), none, [], [], (.h (.mov (.t 7)))⟩, ⟨1, (some 6), none, [], [], (.h (.mov (.t 29)))⟩] [6]) .ret))))
theorem A_r9_Weights_comp : compF Try.prog 19 = some ⟨30, [(6, none)], A_r9_Weights.strip⟩ := by kernel_rfl
def A_corr_Size_L0 : CA := (.seq (.reg [⟨0, (some 12), none, [], [], (.h (.ibin .lss (.t 11) (.t 10)))⟩] [1, 5, 9, 10, 11, 12]) (.seq (.cond (.t 12) .skip (.exit 0)) (.seq (.block 1 (.seq (.reg [⟨0, (some 13), none, [], [], (.h (.mov (.t 11)))⟩, ⟨1, (some 14), none, [], [], (.h (.idx (.t 9) (.t 11) 1))⟩, ⟨2, (some 15), none, [], [], (.load (.t 14) 1 false)⟩, ⟨3, (some 6), none, [], [], (.h (.mov (.t 13)))⟩, ⟨4, (some 7), none, [], [], (.h (.mov (.t 15)))⟩] [1, 5, 6, 7, 9, 10, 11]) (.seq (.reg [⟨0, (some 16), none, [], [], (.h (.mov (.t 7)))⟩, ⟨1, (some 17), none, [], [], (.callS 0 (.k (.d (.fn 24 [] []))) [(.t 16)])⟩, ⟨2, (some 18), none, [], [], (.h (.mov (.t 1)))⟩, ⟨3, (some 19), none, [], [], (.h (.mov (.t 6)))⟩, ⟨4, (some 20), none, [], [], (.h (.idx (.t 18) (.t 19) 1))⟩, ⟨5, (some 21), none, [], [], (.load (.t 20) 1 false)⟩, ⟨6, (some 22), none, [], [], (.h (.fbin .div (.t 17) (.t 21)))⟩, ⟨7, (some 8), none, [], [], (.h (.mov (.t 22)))⟩] [1, 5, 6, 8, 9, 10, 11]) (.seq (.seq (.reg [⟨0, (some 23), none, [], [], (.h (.mov (.t 8)))⟩, ⟨1, (some 24), none, [], [], (.callA (.k (.d (.fn 48 [] []))) [(.t 23)])⟩] [1, 5, 6, 8, 9, 10, 11, 24]) (.cond (.t 24) (.seq (.reg [⟨0, (some 25), none, [], [], (.callA (.k (.d (.fn 49 [] []))) [(.k (.d (.int .i64 1)))])⟩, ⟨1, (some 4), none, [], [], (.h (.mov (.t 25)))⟩] [4]) .ret) .skip)) (.seq (.reg [⟨0, (some 26), none, [], [], (.h (.mov (.t 6)))⟩, ⟨1, (some 27), none, [], [], (.h (.ibin .eql (.t 26) (.k (.d (.int .i64 0)))))⟩, ⟨2, (some 28), none, [], [], (.h (.mov (.t 27)))⟩, ⟨3, (some 29), (some (28, false)), [], [], (.h (.mov (.t 8)))⟩, ⟨4, (some 30), (some (28, false)), [], [], (.h (.mov (.t 5)))⟩, ⟨5, (some 31), (some (28, false)), [], [], (.h (.fcmp .gt (.t 29) (.t 30)))⟩, ⟨6, (some 32), none, [], [], (.h (.pick (.t 28) (.k (.d (.bool true))) (.t 31)))⟩] [1, 5, 8, 9, 10, 11, 32]) (.cond (.t 32) (.reg [⟨0, (some 33), none, [], [], (.h (.mov (.t 8)))⟩, ⟨1, (some 5), none, [], [], (.h (.mov (.t 33)))⟩] [1, 5, 9, 10, 11]) .skip)))))) (.reg [⟨0, (some 34), none, [], [], (.h (.ibin .add (.t 11) (.k (.d (.int .i64 1)))))⟩, ⟨1, (some 11), none, [], [], (.h (.mov (.t 34)))⟩] [1, 5, 9, 10, 11]))))
def A_corr_Size : CA := (.seq (.reg [⟨0, (some 4), none, [], [], (.h (.mov (.k (.d (.flt 0)))))⟩] [0, 1]) (.seq (.reg [⟨0, (some 5), none, [], [], (.h (.mov (.k (.d (.flt 0)))))⟩] [0, 1, 5]) (.seq (.seq (.reg [⟨0, (some 9), none, [], [], (.h (.mov (.t 0)))⟩, ⟨1, (some 10), none, [], [], (.h (.len (.t 9)))⟩, ⟨2, (some 11), none, [], [], (.h (.mov (.k (.d (.int .i64 0)))))⟩] [1, 5, 9, 10, 11]) (.block 0 (.loop A_corr_Size_L0))) (.seq (.reg [⟨0, (some 35), none, [], [], (.h (.mov (.t 5)))⟩, ⟨1, (some 4), none, [], [], (.h (.mov (.t 35)))⟩] [4]) .ret))))
theorem A_corr_Size_comp : compF Try.prog 23 = some ⟨36, [(4, none)], A_corr_Size.strip⟩ := by kernel_rfl
def A_r9_Size_L0 : CA := (.seq (.seq (.reg [⟨0, (some 8), none, [], [], (.h (.mov (.t 6)))⟩, ⟨1, (some 9), none, [], [], (.h (.mov (.t 0)))⟩, ⟨2, (some 10), none, [], [], (.h (.len (.t 9)))⟩, ⟨3, (some 11), none, [], [], (.h (.ibin .lss (.t 8) (.t 10)))⟩] [0, 1, 5, 6, 11]) (.cond (.t 11) .skip (.exit 0))) (.seq (.block 1 (.seq (.reg [⟨0, (some 14), none, [], [], (.h (.mov (.t 0)))⟩, ⟨1, (some 15), none, [], [], (.h (.mov (.t 6)))⟩, ⟨2, (some 16), none, [], [], (.h (.idx (.t 14) (.t 15) 1))⟩, ⟨3, (some 17), none, [], [], (.load (.t 16) 1 false)⟩, ⟨4, (some 18), none, [], [], (.callS 0 (.k (.d (.fn 28 [] []))) [(.t 17)])⟩, ⟨5, (some 19), none, [], [], (.h (.mov (.t 1)))⟩, ⟨6, (some 20), none, [], [], (.h (.mov (.t 6)))⟩, ⟨7, (some 21), none, [], [], (.h (.idx (.t 19) (.t 20) 1))⟩, ⟨8, (some 22), none, [], [], (.load (.t 21) 1 false)⟩, ⟨9, (some 23), none, [], [], (.h (.fbin .div (.t 18) (.t 22)))⟩, ⟨10, (some 7), none, [], [], (.h (.mov (.t 23)))⟩] [0, 1, 5, 6, 7]) (.seq (.seq (.reg [⟨0, (some 24), none, [], [], (.h (.mov (.t 7)))⟩, ⟨1, (some 25), none, [], [], (.h (.mov (.t 7)))⟩, ⟨2, (some 26), none, [], [], (.h (.fcmp .ne (.t 24) (.t 25)))⟩] [0, 1, 5, 6, 7, 26]) (.cond (.t 26) (.seq (.reg [⟨0, (some 27), none, [], [], (.callA (.k (.d (.fn 53 [] []))) [])⟩, ⟨1, (some 4), none, [], [], (.h (.mov (.t 27)))⟩] [4]) .ret) .skip)) (.seq (.reg [⟨0, (some 28), none, [], [], (.h (.mov (.t 6)))⟩, ⟨1, (some 29), none, [], [], (.h (.ibin .eql (.t 28) (.k (.d (.int .i64 0)))))⟩, ⟨2, (some 30), none, [], [], (.h (.mov (.t 29)))⟩, ⟨3, (some 31), (some (30, false)), [], [], (.h (.mov (.t 7)))⟩, ⟨4, (some 32), (some (30, false)), [], [], (.h (.mov (.t 5)))⟩, ⟨5, (some 33), (some (30, false)), [], [], (.h (.fcmp .gt (.t 31) (.t 32)))⟩, ⟨6, (some 34), none, [], [], (.h (.pick (.t 30) (.k (.d (.bool true))) (.t 33)))⟩] [0, 1, 5, 6, 7, 34]) (.cond (.t 34) (.reg [⟨0, (some 35), none, [], [], (.h (.mov (.t 7)))⟩, ⟨1, (some 5), none, [], [], (.h (.mov (.t 35)))⟩] [0, 1, 5, 6]) .skip))))) (.reg [⟨0, (some 12), none, [], [], (.h (.mov (.t 6)))⟩, ⟨1, (some 13), none, [], [], (.h (.ibin .add (.t 12) (.k (.d (.int .i64 1)))))⟩, ⟨2, (some 6), none, [], [], (.h (.mov (.t 13)))⟩] [0, 1, 5, 6])))
def A_r9_Size : CA := (.seq (.reg [⟨0, (some 4), none, [], [], (.h (.mov (.k (.d (.flt 0)))))⟩] [0, 1]) (.seq (.reg [⟨0, (some 5), none, [], [], (.h (.mov (.k (.d (.flt 0)))))⟩] [0, 1, 5]) (.seq (.seq (.reg [⟨0, (some 6), none, [], [], (.h (.mov (.k (.d (.int .i64 0)))))⟩] [0, 1, 5, 6]) (.block 0 (.loop A_r9_Size_L0))) (.seq (.reg [⟨0, (some 36), none, [], [], (.h (.mov (.t 5)))⟩, ⟨1, (some 4), none, [], [], (.h (.mov (.t 36)))⟩] [4]) .ret))))
theorem A_r9_Size_comp : compF Try.prog 30 = some ⟨37, [(4, none)], A_r9_Size.strip⟩ := by kernel_rfl
/-- A number's place, as its word has it; by k more. -/
def ldE (x : Nat) (k : Int) : Int := k + IntKind.i64.wrap (bitsOp .and .i64 (IntKind.i64.wrap ((x : Int).fdiv (2 ^ 52))) 2047 - 1023)
def ldW (x : Nat) (k : Int) : Int := bitsOp .or .u64 (bitsOp .andNot .u64 x 9218868437227405312) (IntKind.u64.wrap (IntKind.u64.wrap (ldE x k + 1023) * 2 ^ 52))
def ldN (x : Nat) (k : Int) : Nat := fop .mul 4607182418800017408 (cf (ldW x k).toNat)
def ldOk (x : Nat) (k : Int) : Bool := !fcmp .eq x 0 && !isInf x && !isNan x && !fcmp .lt (fabs x) 4503599627370496 && decide (-1000000 < k ∧ k < 1000000) && decide (bitsOp .and .i64 (IntKind.i64.wrap ((x : Int).fdiv (2 ^ 52))) 2047 < 100000) && decide (-100000 < bitsOp .and .i64 (IntKind.i64.wrap ((x : Int).fdiv (2 ^ 52))) 2047) && decide (-1022 ≤ ldE x k ∧ ldE x k ≤ 1023)
structure LdOk (x : Nat) (k : Int) : Prop where
  z : fcmp .eq x 0 = false
  i : isInf x = false
  n : isNan x = false
  s : fcmp .lt (fabs x) 4503599627370496 = false
  kk : -1000000 < k ∧ k < 1000000
  a : -100000 < bitsOp .and .i64 (IntKind.i64.wrap ((x : Int).fdiv (2 ^ 52))) 2047 ∧ bitsOp .and .i64 (IntKind.i64.wrap ((x : Int).fdiv (2 ^ 52))) 2047 < 100000
  e : -1022 ≤ ldE x k ∧ ldE x k ≤ 1023
theorem ldOk_spec {x : Nat} {k : Int} (h : ldOk x k = true) : LdOk x k := by
  simp only [ldOk, Bool.and_eq_true, Bool.not_eq_true', decide_eq_true_eq] at h
  obtain ⟨⟨⟨⟨⟨⟨⟨h1, h2⟩, h3⟩, h4⟩, h5⟩, h6⟩, h7⟩, h8⟩ := h
  exact ⟨h1, h2, h3, h4, h5, ⟨h7, h6⟩, h8⟩
theorem math_normalize_con (x : Nat) (h : fcmp .lt (fabs x) 4503599627370496 = false) : Con Try.prog 87 [fl x] (.tup [fl x, fI 0]) := by
  refine Con_introA A_math_normalize_comp rfl mixed ?_
  simp -implicitDefEqProofs only [xC_skip, evS, evT, evU, hv, effC, reduceCtorEq, ↓reduceIte, Nat.reduceEqDiff, Nat.reduceAdd, Nat.reduceMul, Int.reduceToNat, Int.reduceAdd, Int.reduceSub, Int.reduceMul, Int.reduceNeg, Int.reduceLT, Int.reduceLE, Nat.reduceLT, Nat.reduceLeDiff, A_math_normalize]
  first | refine callG_con (math_Abs_con x) rfl ?_ | refine callCG_con (math_Abs_con x) rfl ?_ | refine callSG_con (math_Abs_con x) rfl ?_
  simp -implicitDefEqProofs only [xC_skip, evS, evT, evU, hv, effC, reduceCtorEq, ↓reduceIte, Nat.reduceEqDiff, Nat.reduceAdd, Nat.reduceMul, Int.reduceToNat, Int.reduceAdd, Int.reduceSub, Int.reduceMul, Int.reduceNeg, Int.reduceLT, Int.reduceLE, Nat.reduceLT, Nat.reduceLeDiff, h]
  refine endsT_ret rfl ⟨fl x, fI 0, ?_, ?_, rfl⟩
  · exact resV_tmpI (by decide) rfl
  · exact resV_tmpI (by decide) rfl
theorem math_ldexp_con (x : Nat) (k : Int) (h : LdOk x k) : Con Try.prog 77 [fl x, fI k] (fl (ldN x k)) := by
  obtain ⟨h1, h2, h3, h4, h5, h6, h7⟩ := h
  refine Con_introA A_math_ldexp_comp rfl mixed ?_
  simp -implicitDefEqProofs only [xC_skip, evS, evT, evU, hv, effC, reduceCtorEq, ↓reduceIte, Nat.reduceEqDiff, Nat.reduceAdd, Nat.reduceMul, Int.reduceToNat, Int.reduceAdd, Int.reduceSub, Int.reduceMul, Int.reduceNeg, Int.reduceLT, Int.reduceLE, Nat.reduceLT, Nat.reduceLeDiff, A_math_ldexp]
  simp -implicitDefEqProofs only [xC_skip, evS, evT, evU, hv, effC, reduceCtorEq, ↓reduceIte, Nat.reduceEqDiff, Nat.reduceAdd, Nat.reduceMul, Int.reduceToNat, Int.reduceAdd, Int.reduceSub, Int.reduceMul, Int.reduceNeg, Int.reduceLT, Int.reduceLE, Nat.reduceLT, Nat.reduceLeDiff, h1]
  first | refine callG_con (math_IsInf_con x) rfl ?_ | refine callCG_con (math_IsInf_con x) rfl ?_ | refine callSG_con (math_IsInf_con x) rfl ?_
  rw [h2]
  simp -implicitDefEqProofs only [xC_skip, evS, evT, evU, hv, effC, reduceCtorEq, ↓reduceIte, Nat.reduceEqDiff, Nat.reduceAdd, Nat.reduceMul, Int.reduceToNat, Int.reduceAdd, Int.reduceSub, Int.reduceMul, Int.reduceNeg, Int.reduceLT, Int.reduceLE, Nat.reduceLT, Nat.reduceLeDiff]
  first | refine callG_con (math_IsNaN_con x) rfl ?_ | refine callCG_con (math_IsNaN_con x) rfl ?_ | refine callSG_con (math_IsNaN_con x) rfl ?_
  rw [h3]
  simp -implicitDefEqProofs only [xC_skip, evS, evT, evU, hv, effC, reduceCtorEq, ↓reduceIte, Nat.reduceEqDiff, Nat.reduceAdd, Nat.reduceMul, Int.reduceToNat, Int.reduceAdd, Int.reduceSub, Int.reduceMul, Int.reduceNeg, Int.reduceLT, Int.reduceLE, Nat.reduceLT, Nat.reduceLeDiff]
  first | refine callG_con (math_normalize_con x h4) rfl ?_ | refine callCG_con (math_normalize_con x h4) rfl ?_ | refine callSG_con (math_normalize_con x h4) rfl ?_
  simp -implicitDefEqProofs only [xC_skip, evS, evT, evU, hv, effC, reduceCtorEq, ↓reduceIte, Nat.reduceEqDiff, Nat.reduceAdd, Nat.reduceMul, Int.reduceToNat, Int.reduceAdd, Int.reduceSub, Int.reduceMul, Int.reduceNeg, Int.reduceLT, Int.reduceLE, Nat.reduceLT, Nat.reduceLeDiff]
  refine ⟨h3, ?_⟩
  have w1 : IntKind.i64.wrap (k + 0) = k := by rw [wrapI (by omega) (by omega)]; omega
  have w2 : IntKind.i64.wrap (k + IntKind.i64.wrap (bitsOp .and .i64 (IntKind.i64.wrap ((x : Int).fdiv (2 ^ 52))) 2047 - 1023)) = ldE x k := by
    unfold ldE
    rw [wrapI (a := bitsOp .and .i64 (IntKind.i64.wrap ((x : Int).fdiv (2 ^ 52))) 2047 - 1023) (by omega) (by omega)]
    exact wrapI (by omega) (by omega)
  have m52 : min (52 : Int).toNat IntKind.u64.bits = 52 := rfl
  simp only [show Int.toNat 52 = 52 from rfl, show min 52 IntKind.u64.bits = 52 from rfl, w1]
  rw [w2]
  generalize hE : ldE x k = e at *
  have d1 : decide (e < -1075) = false := by simp; omega
  have d2 : decide (1023 < e) = false := by simp; omega
  have d3 : decide (e < -1022) = false := by simp; omega
  have w4 : IntKind.i64.wrap (e + 1023) = e + 1023 := wrapI (by omega) (by omega)
  simp -implicitDefEqProofs only [xC_skip, evS, evT, evU, hv, effC, reduceCtorEq, ↓reduceIte, Nat.reduceEqDiff, Nat.reduceAdd, Nat.reduceMul, Int.reduceToNat, Int.reduceAdd, Int.reduceSub, Int.reduceMul, Int.reduceNeg, Int.reduceLT, Int.reduceLE, Nat.reduceLT, Nat.reduceLeDiff, d1, d2, d3, w4, show min (Int.toNat 52) IntKind.u64.bits = 52 from rfl]
  refine ⟨bitsOp_u64 _ _ _, endsT_rett rfl (by decide) ?_⟩
  unfold ldN ldW
  rw [hE]
  rfl
theorem math_Ldexp_con (x : Nat) (k : Int) (h : LdOk x k) : Con Try.prog 58 [fl x, fI k] (fl (ldN x k)) := by
  refine Con_introA A_math_Ldexp_comp rfl mixed ?_
  simp -implicitDefEqProofs only [xC_skip, evS, evT, evU, hv, effC, reduceCtorEq, ↓reduceIte, Nat.reduceEqDiff, Nat.reduceAdd, Nat.reduceMul, Int.reduceToNat, Int.reduceAdd, Int.reduceSub, Int.reduceMul, Int.reduceNeg, Int.reduceLT, Int.reduceLE, Nat.reduceLT, Nat.reduceLeDiff, A_math_Ldexp]
  first | refine callG_con (math_ldexp_con x k h) rfl ?_ | refine callCG_con (math_ldexp_con x k h) rfl ?_ | refine callSG_con (math_ldexp_con x k h) rfl ?_
  simp -implicitDefEqProofs only [xC_skip, evS, evT, evU, hv, effC, reduceCtorEq, ↓reduceIte, Nat.reduceEqDiff, Nat.reduceAdd, Nat.reduceMul, Int.reduceToNat, Int.reduceAdd, Int.reduceSub, Int.reduceMul, Int.reduceNeg, Int.reduceLT, Int.reduceLE, Nat.reduceLT, Nat.reduceLeDiff]
  exact endsT_rett rfl (by decide) (by simp [look])
theorem fp_Scale_con (x : Nat) (k : Int) (h : LdOk x k) : Con Try.prog 36 [fl x, fI k] (fl (ldN x k)) := by
  refine Con_introA A_fp_Scale_comp rfl mixed ?_
  simp -implicitDefEqProofs only [xC_skip, evS, evT, evU, hv, effC, reduceCtorEq, ↓reduceIte, Nat.reduceEqDiff, Nat.reduceAdd, Nat.reduceMul, Int.reduceToNat, Int.reduceAdd, Int.reduceSub, Int.reduceMul, Int.reduceNeg, Int.reduceLT, Int.reduceLE, Nat.reduceLT, Nat.reduceLeDiff, A_fp_Scale]
  first | refine callG_con (math_Ldexp_con x k h) rfl ?_ | refine callCG_con (math_Ldexp_con x k h) rfl ?_ | refine callSG_con (math_Ldexp_con x k h) rfl ?_
  simp -implicitDefEqProofs only [xC_skip, evS, evT, evU, hv, effC, reduceCtorEq, ↓reduceIte, Nat.reduceEqDiff, Nat.reduceAdd, Nat.reduceMul, Int.reduceToNat, Int.reduceAdd, Int.reduceSub, Int.reduceMul, Int.reduceNeg, Int.reduceLT, Int.reduceLE, Nat.reduceLT, Nat.reduceLeDiff]
  exact endsT_rett rfl (by decide) (by simp [look])
/-- A step's length. -/
def hW (step : Nat) : Nat := fop .div (FloatKind.nearest .f64 (step : Int)) (FloatKind.nearest .f64 1073741824)
theorem hW_chk : ((List.range 32).all fun j => ldOk (FloatKind.nearest .f64 ((2 ^ j : Nat) : Int)) (-30) && ldN (FloatKind.nearest .f64 ((2 ^ j : Nat) : Int)) (-30) == hW (2 ^ j)) = true := by kernel_rfl
theorem Scale_pow (j : Nat) (hj : j < 32) : Con Try.prog 36 [fl (FloatKind.nearest .f64 ((2 ^ j : Nat) : Int)), fI (-30)] (fl (hW (2 ^ j))) := by
  have h := List.all_eq_true.1 hW_chk j (by simpa using hj)
  simp only [Bool.and_eq_true, beq_iff_eq] at h
  rw [← h.2]
  exact fp_Scale_con _ _ (ldOk_spec h.1)
/-- How far off each number may be. -/
def wtF (atol rtol x : Nat) : Nat := fop .add atol (fop .mul rtol (fabs x))
def wtP (y : List Nat) (atol rtol : Nat) : List Nat := tabR (fun i => wtF atol rtol (y.getD i 0)) y.length
theorem wtP_len (y : List Nat) (atol rtol : Nat) : (wtP y atol rtol).length = y.length := tabR_len _ _
/-- How great numbers are, by weights. -/
def szF (d w : List Nat) : Nat → Option Nat
  | 0 => some 0
  | i + 1 => (szF d w i).bind fun o =>
    if isNan (fop .div (fabs (d.getD i 0)) (w.getD i 0)) = true then none
    else some (if (i == 0 || fcmp .gt (fop .div (fabs (d.getD i 0)) (w.getD i 0)) o) = true then fop .div (fabs (d.getD i 0)) (w.getD i 0) else o)
def szP (d w : List Nat) : Nat := (szF d w d.length).getD finf
theorem szF_none (d w : List Nat) (i : Nat) (h : szF d w i = none) : ∀ m, szF d w (i + m) = none := by
  intro m
  induction m with
  | zero => exact h
  | succ m ih => show (szF d w (i + m)).bind _ = none; rw [ih]; rfl
set_option maxRecDepth 8000 in
theorem corr_Size_con (d w : List Nat) (h : w.length = d.length) (hd : d.length < 2 ^ 62) : Con Try.prog 23 [.d (rowD d), .d (rowD w)] (fl (szP d w)) := by
  refine Con_introA A_corr_Size_comp rfl mixed ?_
  simp -implicitDefEqProofs only [xC_skip, evS, evT, evU, hv, effC, reduceCtorEq, ↓reduceIte, Nat.reduceEqDiff, Nat.reduceAdd, Nat.reduceMul, Int.reduceToNat, Int.reduceAdd, Int.reduceSub, Int.reduceMul, Int.reduceNeg, Int.reduceLT, Int.reduceLE, Nat.reduceLT, Nat.reduceLeDiff, A_corr_Size]
  refine WA_for (n := d.length) (fun c s => ∃ i o, c + i = d.length ∧ szF d w i = some o ∧ s = ⟨[(1, .d (rowD w)), (5, fl o), (9, .d (rowD d)), (10, fI d.length), (11, fI i)], []⟩) ⟨0, 0, by omega, rfl, rfl⟩ ?_
  rintro c s ⟨i, o, hc, ho, rfl⟩
  simp -implicitDefEqProofs only [xC_skip, evS, evT, evU, hv, effC, reduceCtorEq, ↓reduceIte, Nat.reduceEqDiff, Nat.reduceAdd, Nat.reduceMul, Int.reduceToNat, Int.reduceAdd, Int.reduceSub, Int.reduceMul, Int.reduceNeg, Int.reduceLT, Int.reduceLE, Nat.reduceLT, Nat.reduceLeDiff, A_corr_Size_L0]
  refine condC_intro (fun h1 => ?_) (fun h1 => ?_)
  · replace h1 := of_decide_eq_true h1
    simp -implicitDefEqProofs only [xC_skip, evS, evT, evU, hv, effC, reduceCtorEq, ↓reduceIte, Nat.reduceEqDiff, Nat.reduceAdd, Nat.reduceMul, Int.reduceToNat, Int.reduceAdd, Int.reduceSub, Int.reduceMul, Int.reduceNeg, Int.reduceLT, Int.reduceLE, Nat.reduceLT, Nat.reduceLeDiff]
    (repeat (with_reducible refine And.intro (by omega) ?_))
    first | refine callG_con (math_Abs_con (d.getD i 0)) rfl ?_ | refine callCG_con (math_Abs_con (d.getD i 0)) rfl ?_ | refine callSG_con (math_Abs_con (d.getD i 0)) rfl ?_
    simp -implicitDefEqProofs only [xC_skip, evS, evT, evU, hv, effC, reduceCtorEq, ↓reduceIte, Nat.reduceEqDiff, Nat.reduceAdd, Nat.reduceMul, Int.reduceToNat, Int.reduceAdd, Int.reduceSub, Int.reduceMul, Int.reduceNeg, Int.reduceLT, Int.reduceLE, Nat.reduceLT, Nat.reduceLeDiff]
    (repeat (with_reducible refine And.intro (by omega) ?_))
    generalize hq : fop .div (fabs (d.getD i 0)) (w.getD i 0) = q
    first | refine callG_con (math_IsNaN_con q) rfl ?_ | refine callCG_con (math_IsNaN_con q) rfl ?_ | refine callSG_con (math_IsNaN_con q) rfl ?_
    simp -implicitDefEqProofs only [xC_skip, evS, evT, evU, hv, effC, reduceCtorEq, ↓reduceIte, Nat.reduceEqDiff, Nat.reduceAdd, Nat.reduceMul, Int.reduceToNat, Int.reduceAdd, Int.reduceSub, Int.reduceMul, Int.reduceNeg, Int.reduceLT, Int.reduceLE, Nat.reduceLT, Nat.reduceLeDiff]
    have hnext : szF d w (i + 1) = if isNan q = true then none else some (if (i == 0 || fcmp .gt q o) = true then q else o) := by
      simp only [szF, ho, Option.bind_some, hq]
    cases hn : isNan q
    · rw [hn] at hnext
      simp only [Bool.false_eq_true, if_false] at hnext
      by_cases hi0 : i = 0
      · subst hi0
        simp -implicitDefEqProofs only [xC_skip, evS, evT, evU, hv, effC, reduceCtorEq, ↓reduceIte, Nat.reduceEqDiff, Nat.reduceAdd, Nat.reduceMul, Int.reduceToNat, Int.reduceAdd, Int.reduceSub, Int.reduceMul, Int.reduceNeg, Int.reduceLT, Int.reduceLE, Nat.reduceLT, Nat.reduceLeDiff]
        rw [wrapI (by omega) (by omega)]
        exact ⟨c - 1, by omega, 1, q, by omega, by simpa using hnext, rfl⟩
      · have hib : ((i : Int) == 0) = false := by simp; omega
        have hin : (i == 0) = false := by simp; omega
        rw [hin, Bool.false_or] at hnext
        simp -implicitDefEqProofs only [xC_skip, evS, evT, evU, hv, effC, reduceCtorEq, ↓reduceIte, Nat.reduceEqDiff, Nat.reduceAdd, Nat.reduceMul, Int.reduceToNat, Int.reduceAdd, Int.reduceSub, Int.reduceMul, Int.reduceNeg, Int.reduceLT, Int.reduceLE, Nat.reduceLT, Nat.reduceLeDiff, hib]
        cases hg : fcmp .gt q o
        · rw [hg] at hnext
          simp -implicitDefEqProofs only [xC_skip, evS, evT, evU, hv, effC, reduceCtorEq, ↓reduceIte, Nat.reduceEqDiff, Nat.reduceAdd, Nat.reduceMul, Int.reduceToNat, Int.reduceAdd, Int.reduceSub, Int.reduceMul, Int.reduceNeg, Int.reduceLT, Int.reduceLE, Nat.reduceLT, Nat.reduceLeDiff]
          rw [wrapI (by omega) (by omega)]
          exact ⟨c - 1, by omega, i + 1, o, by omega, by simpa using hnext, rfl⟩
        · rw [hg] at hnext
          simp -implicitDefEqProofs only [xC_skip, evS, evT, evU, hv, effC, reduceCtorEq, ↓reduceIte, Nat.reduceEqDiff, Nat.reduceAdd, Nat.reduceMul, Int.reduceToNat, Int.reduceAdd, Int.reduceSub, Int.reduceMul, Int.reduceNeg, Int.reduceLT, Int.reduceLE, Nat.reduceLT, Nat.reduceLeDiff]
          rw [wrapI (by omega) (by omega)]
          exact ⟨c - 1, by omega, i + 1, q, by omega, by simpa using hnext, rfl⟩
    · rw [hn] at hnext
      have hz : szP d w = finf := by
        have := szF_none d w (i + 1) (by simpa using hnext) (d.length - (i + 1))
        rw [show i + 1 + (d.length - (i + 1)) = d.length from by omega] at this
        unfold szP; rw [this]; rfl
      rw [hz]
      simp -implicitDefEqProofs only [xC_skip, evS, evT, evU, hv, effC, reduceCtorEq, ↓reduceIte, Nat.reduceEqDiff, Nat.reduceAdd, Nat.reduceMul, Int.reduceToNat, Int.reduceAdd, Int.reduceSub, Int.reduceMul, Int.reduceNeg, Int.reduceLT, Int.reduceLE, Nat.reduceLT, Nat.reduceLeDiff]
      first | refine callG_con (math_Inf_pos) rfl ?_ | refine callCG_con (math_Inf_pos) rfl ?_ | refine callSG_con (math_Inf_pos) rfl ?_
      simp -implicitDefEqProofs only [xC_skip, evS, evT, evU, hv, effC, reduceCtorEq, ↓reduceIte, Nat.reduceEqDiff, Nat.reduceAdd, Nat.reduceMul, Int.reduceToNat, Int.reduceAdd, Int.reduceSub, Int.reduceMul, Int.reduceNeg, Int.reduceLT, Int.reduceLE, Nat.reduceLT, Nat.reduceLeDiff]
      exact endsT_rett rfl (by decide) (by simp [look])
  · replace h1 := of_decide_eq_false h1
    have e : i = d.length := by omega
    have hz : szP d w = o := by unfold szP; rw [← e, ho]; rfl
    rw [hz]
    simp -implicitDefEqProofs only [xC_skip, evS, evT, evU, hv, effC, reduceCtorEq, ↓reduceIte, Nat.reduceEqDiff, Nat.reduceAdd, Nat.reduceMul, Int.reduceToNat, Int.reduceAdd, Int.reduceSub, Int.reduceMul, Int.reduceNeg, Int.reduceLT, Int.reduceLE, Nat.reduceLT, Nat.reduceLeDiff]
    exact endsT_rett rfl (by decide) (by simp [look])
set_option maxRecDepth 8000 in
theorem corr_Weights_ac (y : List Nat) (atol rtol : Nat) (hy : y.length < 2 ^ 40) : AC Try.prog 31 [.d (rowD y), fl atol, fl rtol] [] [(2, [rowV (wtP y atol rtol)])] (.sl 2 0 0 y.length 1 y.length) := by
  refine AC_introA A_corr_Weights_comp rfl mixed (fun _ => False) (by simp [get_nil]) ?_
  simp -implicitDefEqProofs only [xC_skip, evS, evT, evU, hv, effC, reduceCtorEq, ↓reduceIte, Nat.reduceEqDiff, Nat.reduceAdd, Nat.reduceMul, Int.reduceToNat, Int.reduceAdd, Int.reduceSub, Int.reduceMul, Int.reduceNeg, Int.reduceLT, Int.reduceLE, Nat.reduceLT, Nat.reduceLeDiff, A_corr_Weights]
  (repeat (with_reducible refine And.intro (by omega) ?_))
  rw [← fillR_zero (fun i => wtF atol rtol (y.getD i 0))]
  refine WA_for (n := y.length) (fun c s => ∃ i, c + i = y.length ∧ s = ⟨[(1, fl atol), (2, fl rtol), (7, .sl 2 0 0 y.length 1 y.length), (13, .d (rowD y)), (14, fI y.length), (15, fI i)], [(2, [rowV (fillR (fun i => wtF atol rtol (y.getD i 0)) y.length i)])]⟩) ⟨0, by omega, rfl⟩ ?_
  rintro c s ⟨i, hc, rfl⟩
  have hl := fillR_len (fun i => wtF atol rtol (y.getD i 0)) y.length i
  simp -implicitDefEqProofs only [xC_skip, evS, evT, evU, hv, effC, reduceCtorEq, ↓reduceIte, Nat.reduceEqDiff, Nat.reduceAdd, Nat.reduceMul, Int.reduceToNat, Int.reduceAdd, Int.reduceSub, Int.reduceMul, Int.reduceNeg, Int.reduceLT, Int.reduceLE, Nat.reduceLT, Nat.reduceLeDiff, A_corr_Weights_L0]
  refine condC_intro (fun h => ?_) (fun h => ?_)
  · replace h := of_decide_eq_true h
    have hs := fillR_set (fun i => wtF atol rtol (y.getD i 0)) y.length i h
    generalize fillR (fun i => wtF atol rtol (y.getD i 0)) y.length i = x at hl hs
    simp -implicitDefEqProofs only [xC_skip, evS, evT, evU, hv, effC, reduceCtorEq, ↓reduceIte, Nat.reduceEqDiff, Nat.reduceAdd, Nat.reduceMul, Int.reduceToNat, Int.reduceAdd, Int.reduceSub, Int.reduceMul, Int.reduceNeg, Int.reduceLT, Int.reduceLE, Nat.reduceLT, Nat.reduceLeDiff]
    (repeat (with_reducible refine And.intro (by omega) ?_))
    first | refine callG_con (math_Abs_con (y.getD i 0)) rfl ?_ | refine callCG_con (math_Abs_con (y.getD i 0)) rfl ?_ | refine callSG_con (math_Abs_con (y.getD i 0)) rfl ?_
    simp -implicitDefEqProofs only [xC_skip, evS, evT, evU, hv, effC, reduceCtorEq, ↓reduceIte, Nat.reduceEqDiff, Nat.reduceAdd, Nat.reduceMul, Int.reduceToNat, Int.reduceAdd, Int.reduceSub, Int.reduceMul, Int.reduceNeg, Int.reduceLT, Int.reduceLE, Nat.reduceLT, Nat.reduceLeDiff]
    (repeat (with_reducible refine And.intro (by omega) ?_))
    rw [wrapI (by omega) (by omega)]
    refine ⟨c - 1, by omega, i + 1, by omega, ?_⟩
    rw [← hs]; rfl
  · replace h := of_decide_eq_false h
    have e : i = y.length := by omega
    subst e
    rw [fillR_all]
    simp -implicitDefEqProofs only [xC_skip, evS, evT, evU, hv, effC, reduceCtorEq, ↓reduceIte, Nat.reduceEqDiff, Nat.reduceAdd, Nat.reduceMul, Int.reduceToNat, Int.reduceAdd, Int.reduceSub, Int.reduceMul, Int.reduceNeg, Int.reduceLT, Int.reduceLE, Nat.reduceLT, Nat.reduceLeDiff]
    exact endsT_row (fun _ h => h) (resV_tmpI (t := 6) (by decide) rfl) rfl
theorem corr_Weights_con (y : List Nat) (atol rtol : Nat) (hy : y.length < 2 ^ 40) : Con Try.prog 31 [.d (rowD y), fl atol, fl rtol] (.d (rowD (wtP y atol rtol))) :=
  Con_of_row (corr_Weights_ac y atol rtol hy) (wtP_len _ _ _)
set_option maxRecDepth 8000 in
theorem r9_Weights_ac (y : List Nat) (atol rtol : Nat) (hy : y.length < 2 ^ 40) : AC Try.prog 19 [.d (rowD y), fl atol, fl rtol] [] [(100, [rowV (wtP y atol rtol)])] (.sl 100 0 0 y.length 1 y.length) := by
  refine AC_introA A_r9_Weights_comp rfl mixed (fun _ => False) (by simp [get_nil]) ?_
  simp -implicitDefEqProofs only [xC_skip, evS, evT, evU, hv, effC, reduceCtorEq, ↓reduceIte, Nat.reduceEqDiff, Nat.reduceAdd, Nat.reduceMul, Int.reduceToNat, Int.reduceAdd, Int.reduceSub, Int.reduceMul, Int.reduceNeg, Int.reduceLT, Int.reduceLE, Nat.reduceLT, Nat.reduceLeDiff, A_r9_Weights]
  refine WA_forW (n := y.length) (fun c s => ∃ i, c + i = y.length ∧ s = ⟨[(0, .d (rowD y)), (1, fl atol), (2, fl rtol), (7, .sl 100 0 0 i 1 i), (8, fI i)], [(100, [rowV (tabR (fun i => wtF atol rtol (y.getD i 0)) i)])]⟩)
    (s0 := ⟨_, _⟩) (LeT.nilrow (X := 100) (esz := 1) (as' := [(0, .d (rowD y)), (1, fl atol), (2, fl rtol), (7, .sl 100 0 0 0 1 0), (8, fI 0)]) rfl (fun h => h) fun i => ?_) ⟨0, by omega, rfl⟩ ?_
  · simp only [look]
    repeat' split
    all_goals simp [rowD]
  rintro c s ⟨i, hc, rfl⟩
  have hl := tabR_len (fun i => wtF atol rtol (y.getD i 0)) i
  simp -implicitDefEqProofs only [xC_skip, evS, evT, evU, hv, effC, reduceCtorEq, ↓reduceIte, Nat.reduceEqDiff, Nat.reduceAdd, Nat.reduceMul, Int.reduceToNat, Int.reduceAdd, Int.reduceSub, Int.reduceMul, Int.reduceNeg, Int.reduceLT, Int.reduceLE, Nat.reduceLT, Nat.reduceLeDiff, A_r9_Weights_L0]
  refine condC_intro (fun h => ?_) (fun h => ?_)
  · replace h := of_decide_eq_true h
    simp -implicitDefEqProofs only [xC_skip, evS, evT, evU, hv, effC, reduceCtorEq, ↓reduceIte, Nat.reduceEqDiff, Nat.reduceAdd, Nat.reduceMul, Int.reduceToNat, Int.reduceAdd, Int.reduceSub, Int.reduceMul, Int.reduceNeg, Int.reduceLT, Int.reduceLE, Nat.reduceLT, Nat.reduceLeDiff]
    (repeat (with_reducible refine And.intro (by omega) ?_))
    first | refine callG_con (r1_Abs_con (y.getD i 0)) rfl ?_ | refine callCG_con (r1_Abs_con (y.getD i 0)) rfl ?_ | refine callSG_con (r1_Abs_con (y.getD i 0)) rfl ?_
    simp -implicitDefEqProofs only [xC_skip, evS, evT, evU, hv, effC, reduceCtorEq, ↓reduceIte, Nat.reduceEqDiff, Nat.reduceAdd, Nat.reduceMul, Int.reduceToNat, Int.reduceAdd, Int.reduceSub, Int.reduceMul, Int.reduceNeg, Int.reduceLT, Int.reduceLE, Nat.reduceLT, Nat.reduceLeDiff]
    (repeat (with_reducible refine And.intro (by omega) ?_))
    rw [wrapI (by omega) (by omega)]
    have e := tabR_succ (fun i => wtF atol rtol (y.getD i 0)) i
    have e2 : V.d (.flt (fop .add atol (fop .mul rtol (fabs (y.getD i 0))))) = fl (wtF atol rtol (y.getD i 0)) := rfl
    rw [e2, ← e]
    refine ⟨c - 1, _, by omega, LeT.dropRow (fun _ h => h) (by decide) (fun p hp => ?_), i + 1, by omega, rfl⟩
    simp only [List.mem_cons, List.not_mem_nil, or_false] at hp
    rcases hp with rfl | rfl | rfl | rfl | rfl
    all_goals first | exact .d (.d _) | exact .sl (by simp [get_cons]) rfl
  · replace h := of_decide_eq_false h
    have e : i = y.length := by omega
    subst e
    simp -implicitDefEqProofs only [xC_skip, evS, evT, evU, hv, effC, reduceCtorEq, ↓reduceIte, Nat.reduceEqDiff, Nat.reduceAdd, Nat.reduceMul, Int.reduceToNat, Int.reduceAdd, Int.reduceSub, Int.reduceMul, Int.reduceNeg, Int.reduceLT, Int.reduceLE, Nat.reduceLT, Nat.reduceLeDiff]
    exact endsT_row (fun _ h => h) (resV_tmpI (t := 6) (by decide) rfl) rfl
theorem r9_Weights_con (y : List Nat) (atol rtol : Nat) (hy : y.length < 2 ^ 40) : Con Try.prog 19 [.d (rowD y), fl atol, fl rtol] (.d (rowD (wtP y atol rtol))) :=
  Con_of_row (r9_Weights_ac y atol rtol hy) (wtP_len _ _ _)
set_option maxRecDepth 8000 in
theorem r9_Size_con (d w : List Nat) (h : w.length = d.length) (hd : d.length < 2 ^ 62) : Con Try.prog 30 [.d (rowD d), .d (rowD w)] (fl (szP d w)) := by
  refine Con_introA A_r9_Size_comp rfl mixed ?_
  simp -implicitDefEqProofs only [xC_skip, evS, evT, evU, hv, effC, reduceCtorEq, ↓reduceIte, Nat.reduceEqDiff, Nat.reduceAdd, Nat.reduceMul, Int.reduceToNat, Int.reduceAdd, Int.reduceSub, Int.reduceMul, Int.reduceNeg, Int.reduceLT, Int.reduceLE, Nat.reduceLT, Nat.reduceLeDiff, A_r9_Size]
  refine WA_for (n := d.length) (fun c s => ∃ i o, c + i = d.length ∧ szF d w i = some o ∧ s = ⟨[(0, .d (rowD d)), (1, .d (rowD w)), (5, fl o), (6, fI i)], []⟩) ⟨0, 0, by omega, rfl, rfl⟩ ?_
  rintro c s ⟨i, o, hc, ho, rfl⟩
  simp -implicitDefEqProofs only [xC_skip, evS, evT, evU, hv, effC, reduceCtorEq, ↓reduceIte, Nat.reduceEqDiff, Nat.reduceAdd, Nat.reduceMul, Int.reduceToNat, Int.reduceAdd, Int.reduceSub, Int.reduceMul, Int.reduceNeg, Int.reduceLT, Int.reduceLE, Nat.reduceLT, Nat.reduceLeDiff, A_r9_Size_L0]
  refine condC_intro (fun h1 => ?_) (fun h1 => ?_)
  · replace h1 := of_decide_eq_true h1
    simp -implicitDefEqProofs only [xC_skip, evS, evT, evU, hv, effC, reduceCtorEq, ↓reduceIte, Nat.reduceEqDiff, Nat.reduceAdd, Nat.reduceMul, Int.reduceToNat, Int.reduceAdd, Int.reduceSub, Int.reduceMul, Int.reduceNeg, Int.reduceLT, Int.reduceLE, Nat.reduceLT, Nat.reduceLeDiff]
    (repeat (with_reducible refine And.intro (by omega) ?_))
    first | refine callG_con (r1_Abs_con (d.getD i 0)) rfl ?_ | refine callCG_con (r1_Abs_con (d.getD i 0)) rfl ?_ | refine callSG_con (r1_Abs_con (d.getD i 0)) rfl ?_
    simp -implicitDefEqProofs only [xC_skip, evS, evT, evU, hv, effC, reduceCtorEq, ↓reduceIte, Nat.reduceEqDiff, Nat.reduceAdd, Nat.reduceMul, Int.reduceToNat, Int.reduceAdd, Int.reduceSub, Int.reduceMul, Int.reduceNeg, Int.reduceLT, Int.reduceLE, Nat.reduceLT, Nat.reduceLeDiff]
    (repeat (with_reducible refine And.intro (by omega) ?_))
    generalize hq : fop .div (fabs (d.getD i 0)) (w.getD i 0) = q
    simp -implicitDefEqProofs only [xC_skip, evS, evT, evU, hv, effC, reduceCtorEq, ↓reduceIte, Nat.reduceEqDiff, Nat.reduceAdd, Nat.reduceMul, Int.reduceToNat, Int.reduceAdd, Int.reduceSub, Int.reduceMul, Int.reduceNeg, Int.reduceLT, Int.reduceLE, Nat.reduceLT, Nat.reduceLeDiff, fcmp_ne_self]
    have hnext : szF d w (i + 1) = if isNan q = true then none else some (if (i == 0 || fcmp .gt q o) = true then q else o) := by
      simp only [szF, ho, Option.bind_some, hq]
    cases hn : isNan q
    · rw [hn] at hnext
      simp only [Bool.false_eq_true, if_false] at hnext
      by_cases hi0 : i = 0
      · subst hi0
        simp -implicitDefEqProofs only [xC_skip, evS, evT, evU, hv, effC, reduceCtorEq, ↓reduceIte, Nat.reduceEqDiff, Nat.reduceAdd, Nat.reduceMul, Int.reduceToNat, Int.reduceAdd, Int.reduceSub, Int.reduceMul, Int.reduceNeg, Int.reduceLT, Int.reduceLE, Nat.reduceLT, Nat.reduceLeDiff]
        rw [wrapI (by omega) (by omega)]
        exact ⟨c - 1, by omega, 1, q, by omega, by simpa using hnext, rfl⟩
      · have hib : ((i : Int) == 0) = false := by simp; omega
        have hin : (i == 0) = false := by simp; omega
        rw [hin, Bool.false_or] at hnext
        simp -implicitDefEqProofs only [xC_skip, evS, evT, evU, hv, effC, reduceCtorEq, ↓reduceIte, Nat.reduceEqDiff, Nat.reduceAdd, Nat.reduceMul, Int.reduceToNat, Int.reduceAdd, Int.reduceSub, Int.reduceMul, Int.reduceNeg, Int.reduceLT, Int.reduceLE, Nat.reduceLT, Nat.reduceLeDiff, hib]
        cases hg : fcmp .gt q o
        · rw [hg] at hnext
          simp -implicitDefEqProofs only [xC_skip, evS, evT, evU, hv, effC, reduceCtorEq, ↓reduceIte, Nat.reduceEqDiff, Nat.reduceAdd, Nat.reduceMul, Int.reduceToNat, Int.reduceAdd, Int.reduceSub, Int.reduceMul, Int.reduceNeg, Int.reduceLT, Int.reduceLE, Nat.reduceLT, Nat.reduceLeDiff]
          rw [wrapI (by omega) (by omega)]
          exact ⟨c - 1, by omega, i + 1, o, by omega, by simpa using hnext, rfl⟩
        · rw [hg] at hnext
          simp -implicitDefEqProofs only [xC_skip, evS, evT, evU, hv, effC, reduceCtorEq, ↓reduceIte, Nat.reduceEqDiff, Nat.reduceAdd, Nat.reduceMul, Int.reduceToNat, Int.reduceAdd, Int.reduceSub, Int.reduceMul, Int.reduceNeg, Int.reduceLT, Int.reduceLE, Nat.reduceLT, Nat.reduceLeDiff]
          rw [wrapI (by omega) (by omega)]
          exact ⟨c - 1, by omega, i + 1, q, by omega, by simpa using hnext, rfl⟩
    · rw [hn] at hnext
      have hz : szP d w = finf := by
        have := szF_none d w (i + 1) (by simpa using hnext) (d.length - (i + 1))
        rw [show i + 1 + (d.length - (i + 1)) = d.length from by omega] at this
        unfold szP; rw [this]; rfl
      rw [hz]
      simp -implicitDefEqProofs only [xC_skip, evS, evT, evU, hv, effC, reduceCtorEq, ↓reduceIte, Nat.reduceEqDiff, Nat.reduceAdd, Nat.reduceMul, Int.reduceToNat, Int.reduceAdd, Int.reduceSub, Int.reduceMul, Int.reduceNeg, Int.reduceLT, Int.reduceLE, Nat.reduceLT, Nat.reduceLeDiff]
      first | refine callG_con (r1_Inf_con) rfl ?_ | refine callCG_con (r1_Inf_con) rfl ?_ | refine callSG_con (r1_Inf_con) rfl ?_
      simp -implicitDefEqProofs only [xC_skip, evS, evT, evU, hv, effC, reduceCtorEq, ↓reduceIte, Nat.reduceEqDiff, Nat.reduceAdd, Nat.reduceMul, Int.reduceToNat, Int.reduceAdd, Int.reduceSub, Int.reduceMul, Int.reduceNeg, Int.reduceLT, Int.reduceLE, Nat.reduceLT, Nat.reduceLeDiff]
      exact endsT_rett rfl (by decide) (by simp [look])
  · replace h1 := of_decide_eq_false h1
    have e : i = d.length := by omega
    have hz : szP d w = o := by unfold szP; rw [← e, ho]; rfl
    rw [hz]
    simp -implicitDefEqProofs only [xC_skip, evS, evT, evU, hv, effC, reduceCtorEq, ↓reduceIte, Nat.reduceEqDiff, Nat.reduceAdd, Nat.reduceMul, Int.reduceToNat, Int.reduceAdd, Int.reduceSub, Int.reduceMul, Int.reduceNeg, Int.reduceLT, Int.reduceLE, Nat.reduceLT, Nat.reduceLeDiff]
    exact endsT_rett rfl (by decide) (by simp [look])
end Go.Ab
