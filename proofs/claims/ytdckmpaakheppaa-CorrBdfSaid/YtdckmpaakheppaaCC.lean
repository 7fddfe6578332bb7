/- Solving: Adams. -/
import Derived.Test.YtdckmpaakheppaaCB
namespace Go.Ab
set_option linter.unusedSimpArgs false
set_option linter.unusedVariables false
open Go Go.Proofs
def A_corr_solver_slopes_1 : CA := (.seq (.reg [⟨0, (some 3), none, [], [], (.h (.mov (.k (.d (.flt 0)))))⟩] [0, 1]) (.seq (.reg [⟨0, (some 4), none, [], [], (.load (.t 1) 1 false)⟩, ⟨1, (some 5), none, [], [], (.h (.nilck (.t 4)))⟩, ⟨2, (some 6), none, [], [], (.h (.padd (.t 5) 4))⟩, ⟨3, (some 7), none, [], [], (.load (.t 6) 1 false)⟩, ⟨4, (some 8), none, [], [], (.h (.idx (.t 7) (.k (.d (.int .i64 0))) 1))⟩, ⟨5, (some 9), none, [], [], (.load (.t 8) 1 false)⟩, ⟨6, (some 10), none, [], [], (.h (.mov (.t 0)))⟩, ⟨7, (some 11), none, [], [], (.h (.idx (.t 9) (.t 10) 1))⟩, ⟨8, (some 12), none, [], [], (.load (.t 11) 1 false)⟩, ⟨9, (some 13), none, [], [], (.load (.t 1) 1 false)⟩, ⟨10, (some 14), none, [], [], (.h (.nilck (.t 13)))⟩, ⟨11, (some 15), none, [], [], (.h (.padd (.t 14) 5))⟩, ⟨12, (some 16), none, [], [], (.load (.t 15) 1 false)⟩, ⟨13, (some 17), none, [], [], (.h (.idx (.t 16) (.k (.d (.int .i64 0))) 1))⟩, ⟨14, (some 18), none, [], [], (.load (.t 17) 1 false)⟩, ⟨15, (some 19), none, [], [], (.load (.t 1) 1 false)⟩, ⟨16, (some 20), none, [], [], (.h (.nilck (.t 19)))⟩, ⟨17, (some 21), none, [], [], (.h (.padd (.t 20) 8))⟩, ⟨18, (some 22), none, [], [], (.load (.t 21) 1 false)⟩, ⟨19, (some 23), none, [], [], (.h (.mov (.t 0)))⟩, ⟨20, (some 24), none, [], [], (.h (.idx (.t 22) (.t 23) 1))⟩, ⟨21, (some 25), none, [], [], (.load (.t 24) 1 false)⟩, ⟨22, (some 26), none, [], [], (.h (.fbin .mul (.t 18) (.t 25)))⟩, ⟨23, (some 27), none, [], [], (.h (.fbin .add (.t 12) (.t 26)))⟩, ⟨24, (some 3), none, [], [], (.h (.mov (.t 27)))⟩] [3]) .ret))
theorem A_corr_solver_slopes_1_comp : compF Try.prog 78 = some ⟨28, [(3, none)], A_corr_solver_slopes_1.strip⟩ := by kernel_rfl
def A_corr_solver_slopes_2 : CA := (.seq (.reg [⟨0, (some 4), none, [], [], (.h (.mov (.k (.d (.flt 0)))))⟩] [0, 1, 2]) (.seq (.reg [⟨0, (some 5), none, [], [], (.load (.t 1) 1 false)⟩, ⟨1, (some 6), none, [], [], (.h (.nilck (.t 5)))⟩, ⟨2, (some 7), none, [], [], (.h (.padd (.t 6) 6))⟩, ⟨3, (some 8), none, [], [], (.load (.t 7) 1 false)⟩, ⟨4, (some 9), none, [], [], (.load (.t 2) 1 false)⟩, ⟨5, (some 10), none, [], [], (.h (.mov (.t 0)))⟩, ⟨6, (some 11), none, [], [], (.h (.idx (.t 9) (.t 10) 1))⟩, ⟨7, (some 12), none, [], [], (.load (.t 11) 1 false)⟩, ⟨8, (some 13), none, [], [], (.h (.fbin .mul (.t 8) (.t 12)))⟩, ⟨9, (some 14), none, [], [], (.load (.t 1) 1 false)⟩, ⟨10, (some 15), none, [], [], (.h (.nilck (.t 14)))⟩, ⟨11, (some 16), none, [], [], (.h (.padd (.t 15) 4))⟩, ⟨12, (some 17), none, [], [], (.load (.t 16) 1 false)⟩, ⟨13, (some 18), none, [], [], (.h (.idx (.t 17) (.k (.d (.int .i64 1))) 1))⟩, ⟨14, (some 19), none, [], [], (.load (.t 18) 1 false)⟩, ⟨15, (some 20), none, [], [], (.h (.mov (.t 0)))⟩, ⟨16, (some 21), none, [], [], (.h (.idx (.t 19) (.t 20) 1))⟩, ⟨17, (some 22), none, [], [], (.load (.t 21) 1 false)⟩, ⟨18, (some 23), none, [], [], (.h (.fbin .sub (.t 13) (.t 22)))⟩, ⟨19, (some 4), none, [], [], (.h (.mov (.t 23)))⟩] [4]) .ret))
theorem A_corr_solver_slopes_2_comp : compF Try.prog 80 = some ⟨24, [(4, none)], A_corr_solver_slopes_2.strip⟩ := by kernel_rfl
def A_corr_solver_slopes : CA := (.seq (.reg [⟨0, (some 1), none, [], [], (.box (.t 0) 1 67)⟩, ⟨1, (some 2), none, [], [], (.h (.mov (.k .nil)))⟩] [1]) (.seq (.reg [⟨0, (some 5), none, [], [], (.load (.t 1) 1 false)⟩, ⟨1, (some 6), none, [], [], (.h (.nilck (.t 5)))⟩, ⟨2, (some 7), none, [], [], (.h (.padd (.t 6) 0))⟩, ⟨3, (some 8), none, [], [], (.load (.t 7) 1 true)⟩, ⟨4, (some 9), none, [], [], (.h (.mkfn 78 [] [(.t 1)]))⟩, ⟨5, (some 10), none, [], [], (.callA (.k (.d (.fn 60 [] []))) [(.t 8), (.t 9)])⟩, ⟨6, (some 3), none, [], [], (.h (.mov (.t 10)))⟩] [1, 3]) (.seq (.reg [⟨0, (some 11), none, [], [], (.load (.t 1) 1 false)⟩, ⟨1, (some 12), none, [], [], (.h (.nilck (.t 11)))⟩, ⟨2, (some 13), none, [], [], (.h (.padd (.t 12) 1))⟩, ⟨3, (some 14), none, [], [], (.load (.t 13) 3 true)⟩, ⟨4, (some 15), none, [], [], (.h (.mov (.t 3)))⟩, ⟨5, (some 16), none, [], [], (.callA (.k (.d (.fn 79 [] []))) [(.t 14), (.t 15)])⟩, ⟨6, (some 4), none, [], [], (.alloc [.nil] 31)⟩, ⟨7, none, none, [], [], (.store (.t 4) (.t 16) 1)⟩] [1, 4]) (.seq (.reg [⟨0, (some 17), none, [], [], (.load (.t 1) 1 false)⟩, ⟨1, (some 18), none, [], [], (.h (.nilck (.t 17)))⟩, ⟨2, (some 19), none, [], [], (.h (.padd (.t 18) 0))⟩, ⟨3, (some 20), none, [], [], (.load (.t 19) 1 true)⟩, ⟨4, (some 21), none, [], [], (.h (.mkfn 80 [] [(.t 1), (.t 4)]))⟩, ⟨5, (some 22), none, [], [], (.callA (.k (.d (.fn 60 [] []))) [(.t 20), (.t 21)])⟩, ⟨6, (some 2), none, [], [], (.h (.mov (.t 22)))⟩] [2]) .ret))))
theorem A_corr_solver_slopes_comp : compF Try.prog 59 = some ⟨23, [(2, none)], A_corr_solver_slopes.strip⟩ := by kernel_rfl
def A_corr_solver_adams_1 : CA := (.seq (.reg [⟨0, (some 4), none, [], [], (.h (.mov (.k (.d (.flt 0)))))⟩] [0, 1, 2]) (.seq (.reg [⟨0, (some 5), none, [], [], (.load (.t 1) 1 false)⟩, ⟨1, (some 6), none, [], [], (.h (.mov (.t 0)))⟩, ⟨2, (some 7), none, [], [], (.h (.idx (.t 5) (.t 6) 1))⟩, ⟨3, (some 8), none, [], [], (.load (.t 7) 1 false)⟩, ⟨4, (some 9), none, [], [], (.load (.t 2) 1 false)⟩, ⟨5, (some 10), none, [], [], (.h (.nilck (.t 9)))⟩, ⟨6, (some 11), none, [], [], (.h (.padd (.t 10) 8))⟩, ⟨7, (some 12), none, [], [], (.load (.t 11) 1 false)⟩, ⟨8, (some 13), none, [], [], (.h (.mov (.t 0)))⟩, ⟨9, (some 14), none, [], [], (.h (.idx (.t 12) (.t 13) 1))⟩, ⟨10, (some 15), none, [], [], (.load (.t 14) 1 false)⟩, ⟨11, (some 16), none, [], [], (.h (.fbin .sub (.t 8) (.t 15)))⟩, ⟨12, (some 4), none, [], [], (.h (.mov (.t 16)))⟩] [4]) .ret))
theorem A_corr_solver_adams_1_comp : compF Try.prog 61 = some ⟨17, [(4, none)], A_corr_solver_adams_1.strip⟩ := by kernel_rfl
def A_corr_solver_adams : CA := (.seq (.reg [⟨0, (some 1), none, [], [], (.box (.t 0) 1 67)⟩, ⟨1, (some 2), none, [], [], (.h (.mov (.k (.d (.flt 0)))))⟩] [1]) (.seq (.reg [⟨0, (some 5), none, [], [], (.load (.t 1) 1 false)⟩, ⟨1, (some 6), none, [], [], (.callA (.k (.d (.fn 59 [] []))) [(.t 5)])⟩, ⟨2, (some 3), none, [], [], (.alloc [.nil] 31)⟩, ⟨3, none, none, [], [], (.store (.t 3) (.t 6) 1)⟩] [1, 3]) (.seq (.reg [⟨0, (some 7), none, [], [], (.load (.t 1) 1 false)⟩, ⟨1, (some 8), none, [], [], (.h (.nilck (.t 7)))⟩, ⟨2, (some 9), none, [], [], (.h (.padd (.t 8) 0))⟩, ⟨3, (some 10), none, [], [], (.load (.t 9) 1 true)⟩, ⟨4, (some 11), none, [], [], (.h (.mkfn 61 [] [(.t 3), (.t 1)]))⟩, ⟨5, (some 12), none, [], [], (.callS 0 (.k (.d (.fn 60 [] []))) [(.t 10), (.t 11)])⟩, ⟨6, (some 13), none, [], [], (.load (.t 1) 1 false)⟩, ⟨7, (some 14), none, [], [], (.h (.nilck (.t 13)))⟩, ⟨8, (some 15), none, [], [], (.h (.padd (.t 14) 7))⟩, ⟨9, (some 16), none, [], [], (.load (.t 15) 1 false)⟩, ⟨10, (some 17), none, [], [], (.callA (.k (.d (.fn 23 [] []))) [(.t 12), (.t 16)])⟩, ⟨11, (some 4), none, [], [], (.h (.mov (.t 17)))⟩] [1, 3, 4]) (.seq (.reg [⟨0, (some 18), none, [], [], (.load (.t 1) 1 false)⟩, ⟨1, (some 19), none, [], [], (.load (.t 3) 1 false)⟩, ⟨2, (some 20), none, [], [], (.h (.nilck (.t 18)))⟩, ⟨3, (some 21), none, [], [], (.h (.padd (.t 20) 8))⟩, ⟨4, none, none, [], [], (.store (.t 21) (.t 19) 1)⟩] [4]) (.seq (.reg [⟨0, (some 22), none, [], [], (.h (.mov (.t 4)))⟩, ⟨1, (some 2), none, [], [], (.h (.mov (.t 22)))⟩] [2]) .ret)))))
theorem A_corr_solver_adams_comp : compF Try.prog 37 = some ⟨23, [(2, none)], A_corr_solver_adams.strip⟩ := by kernel_rfl
def A_corr_solver_finite_L0 : CA := (.seq (.reg [⟨0, (some 11), none, [], [], (.h (.ibin .lss (.t 10) (.t 9)))⟩] [8, 9, 10, 11]) (.seq (.cond (.t 11) .skip (.exit 0)) (.seq (.block 1 (.seq (.reg [⟨0, (some 12), none, [], [], (.h (.idx (.t 8) (.t 10) 1))⟩, ⟨1, (some 13), none, [], [], (.load (.t 12) 1 false)⟩, ⟨2, (some 4), none, [], [], (.h (.mov (.t 13)))⟩] [4, 8, 9, 10]) (.seq (.reg [⟨0, (some 14), none, [], [], (.h (.mov (.t 4)))⟩, ⟨1, (some 15), none, [], [], (.callA (.k (.d (.fn 64 [] []))) [(.t 14)])⟩, ⟨2, (some 16), none, [], [], (.h (.un .not (.t 15)))⟩] [8, 9, 10, 16]) (.cond (.t 16) (.seq (.reg [⟨0, (some 2), none, [], [], (.h (.mov (.k (.d (.bool false)))))⟩] [2]) .ret) .skip)))) (.reg [⟨0, (some 17), none, [], [], (.h (.ibin .add (.t 10) (.k (.d (.int .i64 1)))))⟩, ⟨1, (some 10), none, [], [], (.h (.mov (.t 17)))⟩] [8, 9, 10]))))
def A_corr_solver_finite : CA := (.seq (.reg [⟨0, (some 2), none, [], [], (.h (.mov (.k (.d (.bool false)))))⟩] [0]) (.seq (.seq (.reg [⟨0, (some 5), none, [], [], (.h (.mov (.t 0)))⟩, ⟨1, (some 6), none, [], [], (.h (.nilck (.t 5)))⟩, ⟨2, (some 7), none, [], [], (.h (.padd (.t 6) 8))⟩, ⟨3, (some 8), none, [], [], (.load (.t 7) 1 false)⟩, ⟨4, (some 9), none, [], [], (.h (.len (.t 8)))⟩, ⟨5, (some 10), none, [], [], (.h (.mov (.k (.d (.int .i64 0)))))⟩] [8, 9, 10]) (.block 0 (.loop A_corr_solver_finite_L0))) (.seq (.reg [⟨0, (some 2), none, [], [], (.h (.mov (.k (.d (.bool true)))))⟩] [2]) .ret)))
theorem A_corr_solver_finite_comp : compF Try.prog 41 = some ⟨18, [(2, none)], A_corr_solver_finite.strip⟩ := by kernel_rfl
def A_corr_Solve_L0 : CA := (.seq (.block 1 (.seq (.reg [⟨0, (some 53), none, [], [], (.h (.mov (.t 14)))⟩, ⟨1, (some 54), none, [], [], (.callA (.t 53) [])⟩, ⟨2, (some 17), none, [], [], (.h (.mov (.t 54)))⟩] [12, 13, 14, 16, 17]) (.block 2 (.seq (.reg [⟨0, (some 56), none, [], [], (.h (.mov (.t 13)))⟩, ⟨1, (some 57), none, [], [], (.callA (.k (.d (.fn 41 [] []))) [(.t 56)])⟩, ⟨2, (some 58), none, [], [], (.h (.un .not (.t 57)))⟩, ⟨3, (some 55), none, [], [], (.h (.mov (.t 58)))⟩] [12, 13, 14, 16, 17, 55]) (.cond (.t 55) (.seq (.reg [⟨0, (some 59), none, [], [], (.h (.mov (.t 16)))⟩, ⟨1, (some 60), none, [], [], (.h (.build [.nil, (.d (.int .i64 0)), (.d (.int .i64 0))] [(1, (1, (.t 59))), (2, (1, (.k (.d (.int .i64 2)))))]))⟩, ⟨2, none, none, [], [], (.store (.t 12) (.t 60) 3)⟩] [12]) .ret) (.seq (.reg [⟨0, (some 62), none, [], [], (.h (.mov (.t 17)))⟩, ⟨1, (some 63), none, [], [], (.h (.fcmp .le (.t 62) (.k (.d (.flt 4562146422526312448)))))⟩, ⟨2, (some 61), none, [], [], (.h (.mov (.t 63)))⟩] [12, 13, 14, 16, 61]) (.cond (.t 61) (.seq (.reg [⟨0, (some 64), none, [], [], (.h (.mov (.t 13)))⟩, ⟨1, (some 65), none, [], [], (.h (.nilck (.t 64)))⟩, ⟨2, (some 66), none, [], [], (.h (.padd (.t 65) 8))⟩, ⟨3, (some 67), none, [], [], (.load (.t 66) 1 false)⟩, ⟨4, (some 68), none, [], [], (.app (.k .nil) (.t 67) 1 8)⟩, ⟨5, (some 69), none, [], [], (.h (.mov (.t 16)))⟩, ⟨6, (some 70), none, [], [], (.h (.build [.nil, (.d (.int .i64 0)), (.d (.int .i64 0))] [(0, (1, (.t 68))), (1, (1, (.t 69))), (2, (1, (.k (.d (.int .i64 0)))))]))⟩, ⟨7, none, none, [], [], (.store (.t 12) (.t 70) 3)⟩] [12]) .ret) (.seq (.reg [⟨0, (some 72), none, [], [], (.h (.mov (.t 16)))⟩, ⟨1, (some 73), none, [], [], (.h (.ibin .geq (.t 72) (.k (.d (.int .i64 4)))))⟩, ⟨2, (some 71), none, [], [], (.h (.mov (.t 73)))⟩] [12, 13, 14, 16, 71]) (.cond (.t 71) (.seq (.reg [⟨0, (some 74), none, [], [], (.h (.mov (.t 16)))⟩, ⟨1, (some 75), none, [], [], (.h (.build [.nil, (.d (.int .i64 0)), (.d (.int .i64 0))] [(1, (1, (.t 74))), (2, (1, (.k (.d (.int .i64 6)))))]))⟩, ⟨2, none, none, [], [], (.store (.t 12) (.t 75) 3)⟩] [12]) .ret) .skip))))))))) (.reg [⟨0, (some 51), none, [], [], (.h (.mov (.t 16)))⟩, ⟨1, (some 52), none, [], [], (.h (.ibin .add (.t 51) (.k (.d (.int .i64 1)))))⟩, ⟨2, (some 16), none, [], [], (.h (.mov (.t 52)))⟩] [12, 13, 14, 16]))
def A_corr_Solve : CA := (.seq (.reg [⟨0, (some 6), none, [], [], (.box (.t 0) 3 26)⟩, ⟨1, (some 12), none, [], [], (.alloc [.nil, (.d (.int .i64 0)), (.d (.int .i64 0))] 39)⟩] [1, 2, 3, 4, 5, 6, 12]) (.seq (.reg [⟨0, (some 18), none, [], [], (.h (.padd (.t 6) 0))⟩, ⟨1, (some 19), none, [], [], (.load (.t 18) 1 false)⟩, ⟨2, (some 20), none, [], [], (.h (.build [(.d (.int .i64 0))] [(0, (1, (.t 19)))]))⟩, ⟨3, (some 21), none, [], [], (.load (.t 6) 3 true)⟩, ⟨4, (some 22), none, [], [], (.h (.mov (.t 1)))⟩, ⟨5, (some 23), none, [], [], (.h (.mov (.t 2)))⟩, ⟨6, (some 24), none, [], [], (.h (.mov (.t 3)))⟩, ⟨7, (some 25), none, [], [], (.h (.i2f (.t 24)))⟩, ⟨8, (some 26), none, [], [], (.callS 8 (.k (.d (.fn 36 [] []))) [(.t 25), (.k (.d (.int .i64 (-30))))])⟩, ⟨9, (some 27), none, [], [], (.h (.mov (.t 5)))⟩, ⟨10, (some 28), none, [], [], (.h (.padd (.t 6) 0))⟩, ⟨11, (some 29), none, [], [], (.load (.t 28) 1 false)⟩, ⟨12, (some 30), none, [], [], (.mksl [(.d (.flt 0))] 1 8 (.t 29) (.t 29) 32)⟩, ⟨13, (some 31), none, [], [], (.h (.build [(.d (.int .i64 0)), (.d (.int .i64 0)), .nil, .nil, .nil, .nil, (.d (.flt 0)), .nil, .nil, .nil, .nil] [(0, (1, (.t 20))), (1, (3, (.t 21))), (4, (1, (.t 22))), (5, (1, (.t 23))), (6, (1, (.t 26))), (7, (1, (.t 27))), (8, (1, (.t 30)))]))⟩, ⟨14, (some 32), none, [], [], (.box (.t 31) 11 74)⟩, ⟨15, (some 13), none, [], [], (.h (.mov (.t 32)))⟩] [4, 12, 13]) (.seq (.reg [⟨0, (some 33), none, [], [], (.h (.mov (.t 13)))⟩, ⟨1, (some 34), none, [], [], (.h (.mkfn 37 [(.t 33)] []))⟩, ⟨2, (some 14), none, [], [], (.h (.mov (.t 34)))⟩] [4, 12, 13, 14]) (.seq (.seq (.reg [⟨0, (some 35), none, [], [], (.h (.mov (.t 4)))⟩, ⟨1, (some 36), none, [], [], (.h (.ibin .eql (.t 35) (.k (.d (.int .i64 1)))))⟩] [12, 13, 14, 36]) (.cond (.t 36) (.seq (.reg [⟨0, (some 15), none, [], [], (.h (.mov (.k (.d (.bool false)))))⟩] [12, 13]) (.seq (.seq (.reg [⟨0, (some 38), none, [], [], (.h (.mov (.t 13)))⟩, ⟨1, (some 39), none, [], [], (.h (.mov (.t 13)))⟩, ⟨2, (some 40), none, [], [], (.callA (.k (.d (.fn 39 [] []))) [(.t 39)])⟩, ⟨3, (some 41), none, [], [], (.callA (.k (.d (.fn 38 [] []))) [(.t 40)])⟩, ⟨4, (some 37), none, [], [], (.h (.mov (.t 41)))⟩, ⟨5, (some 42), none, [], [], (.h (.ext (.t 37) 0))⟩, ⟨6, (some 43), none, [], [], (.h (.ext (.t 37) 1))⟩, ⟨7, (some 44), none, [], [], (.h (.nilck (.t 38)))⟩, ⟨8, (some 45), none, [], [], (.h (.padd (.t 44) 9))⟩, ⟨9, none, none, [], [], (.store (.t 45) (.t 42) 2)⟩, ⟨10, (some 15), none, [], [], (.h (.mov (.t 43)))⟩] [12, 13, 15]) (.seq (.reg [⟨0, (some 46), none, [], [], (.h (.mov (.t 15)))⟩, ⟨1, (some 47), none, [], [], (.h (.un .not (.t 46)))⟩] [12, 13, 47]) (.cond (.t 47) (.seq (.reg [⟨0, (some 48), none, [], [], (.h (.build [.nil, (.d (.int .i64 0)), (.d (.int .i64 0))] [(2, (1, (.k (.d (.int .i64 4)))))]))⟩, ⟨1, none, none, [], [], (.store (.t 12) (.t 48) 3)⟩] [12]) .ret) .skip))) (.reg [⟨0, (some 49), none, [], [], (.h (.mov (.t 13)))⟩, ⟨1, (some 50), none, [], [], (.h (.mkfn 40 [(.t 49)] []))⟩, ⟨2, (some 14), none, [], [], (.h (.mov (.t 50)))⟩] [12, 13, 14]))) .skip)) (.seq (.reg [⟨0, (some 16), none, [], [], (.h (.mov (.k (.d (.int .i64 1)))))⟩] [12, 13, 14, 16]) (.block 0 (.loop A_corr_Solve_L0)))))))
theorem A_corr_Solve_comp : compF Try.prog 20 = some ⟨76, [(12, (some (3, true)))], A_corr_Solve.strip⟩ := by kernel_rfl
def A_corr_maker_float64_each_L0 : CA := (.seq (.reg [⟨0, (some 13), none, [], [], (.h (.ibin .lss (.t 12) (.t 11)))⟩] [1, 5, 11, 12, 13]) (.seq (.cond (.t 13) .skip (.exit 0)) (.seq (.block 1 (.seq (.reg [⟨0, (some 14), none, [], [], (.h (.mov (.t 12)))⟩, ⟨1, (some 6), none, [], [], (.h (.mov (.t 14)))⟩] [1, 5, 6, 11, 12]) (.reg [⟨0, (some 15), none, [], [], (.h (.mov (.t 5)))⟩, ⟨1, (some 16), none, [], [], (.h (.mov (.t 6)))⟩, ⟨2, (some 17), none, [], [], (.h (.mov (.t 1)))⟩, ⟨3, (some 18), none, [], [], (.h (.mov (.t 6)))⟩, ⟨4, (some 19), none, [], [], (.callA (.t 17) [(.t 18)])⟩, ⟨5, (some 20), none, [], [], (.h (.idx (.t 15) (.t 16) 1))⟩, ⟨6, none, none, [], [], (.store (.t 20) (.t 19) 1)⟩] [1, 5, 11, 12]))) (.reg [⟨0, (some 21), none, [], [], (.h (.ibin .add (.t 12) (.k (.d (.int .i64 1)))))⟩, ⟨1, (some 12), none, [], [], (.h (.mov (.t 21)))⟩] [1, 5, 11, 12]))))
def A_corr_maker_float64_each : CA := (.seq (.reg [⟨0, (some 2), none, [], [], (.box (.t 0) 1 69)⟩, ⟨1, (some 4), none, [], [], (.h (.mov (.k .nil)))⟩] [1, 2]) (.seq (.reg [⟨0, (some 7), none, [], [], (.h (.padd (.t 2) 0))⟩, ⟨1, (some 8), none, [], [], (.load (.t 7) 1 false)⟩, ⟨2, (some 9), none, [], [], (.mksl [(.d (.flt 0))] 1 8 (.t 8) (.t 8) 32)⟩, ⟨3, (some 5), none, [], [], (.h (.mov (.t 9)))⟩] [1, 5]) (.seq (.seq (.reg [⟨0, (some 10), none, [], [], (.h (.mov (.t 5)))⟩, ⟨1, (some 11), none, [], [], (.h (.len (.t 10)))⟩, ⟨2, (some 12), none, [], [], (.h (.mov (.k (.d (.int .i64 0)))))⟩] [1, 5, 11, 12]) (.block 0 (.loop A_corr_maker_float64_each_L0))) (.seq (.reg [⟨0, (some 22), none, [], [], (.h (.mov (.t 5)))⟩, ⟨1, (some 4), none, [], [], (.h (.mov (.t 22)))⟩] [4]) .ret))))
theorem A_corr_maker_float64_each_comp : compF Try.prog 60 = some ⟨23, [(4, none)], A_corr_maker_float64_each.strip⟩ := by kernel_rfl
/-- Numbers made one by one, of what nobody writes. -/
theorem each_ac (f : FuncId) (cap : List D) (n : Nat) (g : Nat → Nat) (hn : n < 2 ^ 40) (hf : ∀ i : Nat, i < n → Con Try.prog f (fI i :: cap.map .d) (fl (g i))) :
    AC Try.prog 60 [.agg [fI n], .d (.fn f [] cap)] [] [(0, [rowV (tabR g n)])] (.sl 0 0 0 n 1 n) := by
  refine AC_row0 (X := 3) ?_
  refine AC_introA A_corr_maker_float64_each_comp rfl mixed (fun _ => False) (by simp [get_nil]) ?_
  simp -implicitDefEqProofs only [xC_skip, evS, evT, evU, hv, effC, reduceCtorEq, ↓reduceIte, Nat.reduceEqDiff, Nat.reduceAdd, Nat.reduceMul, Int.reduceToNat, Int.reduceAdd, Int.reduceSub, Int.reduceMul, Int.reduceNeg, Int.reduceLT, Int.reduceLE, Nat.reduceLT, Nat.reduceLeDiff, A_corr_maker_float64_each]
  (repeat (with_reducible refine And.intro (by omega) ?_))
  rw [← fillR_zero g]
  refine WA_for (n := n) (fun c s => ∃ i, c + i = n ∧ s = ⟨[(1, .d (.fn f [] cap)), (5, .sl 3 0 0 n 1 n), (11, fI n), (12, fI i)], [(3, [rowV (fillR g n i)]), (0, [[fI n]])]⟩) ⟨0, by omega, rfl⟩ ?_
  rintro c s ⟨i, hc, rfl⟩
  have hl := fillR_len g n i
  simp -implicitDefEqProofs only [xC_skip, evS, evT, evU, hv, effC, reduceCtorEq, ↓reduceIte, Nat.reduceEqDiff, Nat.reduceAdd, Nat.reduceMul, Int.reduceToNat, Int.reduceAdd, Int.reduceSub, Int.reduceMul, Int.reduceNeg, Int.reduceLT, Int.reduceLE, Nat.reduceLT, Nat.reduceLeDiff, A_corr_maker_float64_each_L0]
  refine condC_intro (fun h => ?_) (fun h => ?_)
  · replace h := of_decide_eq_true h
    have hs := fillR_set g n i (by omega)
    generalize fillR g n i = x at hl hs
    simp -implicitDefEqProofs only [xC_skip, evS, evT, evU, hv, effC, reduceCtorEq, ↓reduceIte, Nat.reduceEqDiff, Nat.reduceAdd, Nat.reduceMul, Int.reduceToNat, Int.reduceAdd, Int.reduceSub, Int.reduceMul, Int.reduceNeg, Int.reduceLT, Int.reduceLE, Nat.reduceLT, Nat.reduceLeDiff]
    (repeat (with_reducible refine And.intro (by omega) ?_))
    refine callG_con (hf i (by omega)) (by simp [V.bareB, List.all_map]) ?_
    simp -implicitDefEqProofs only [xC_skip, evS, evT, evU, hv, effC, reduceCtorEq, ↓reduceIte, Nat.reduceEqDiff, Nat.reduceAdd, Nat.reduceMul, Int.reduceToNat, Int.reduceAdd, Int.reduceSub, Int.reduceMul, Int.reduceNeg, Int.reduceLT, Int.reduceLE, Nat.reduceLT, Nat.reduceLeDiff]
    (repeat (with_reducible refine And.intro (by omega) ?_))
    rw [wrapI (by omega) (by omega)]
    refine ⟨c - 1, by omega, i + 1, by omega, ?_⟩
    rw [← hs]; rfl
  · replace h := of_decide_eq_false h
    have e : i = n := by omega
    subst e
    rw [fillR_all]
    simp -implicitDefEqProofs only [xC_skip, evS, evT, evU, hv, effC, reduceCtorEq, ↓reduceIte, Nat.reduceEqDiff, Nat.reduceAdd, Nat.reduceMul, Int.reduceToNat, Int.reduceAdd, Int.reduceSub, Int.reduceMul, Int.reduceNeg, Int.reduceLT, Int.reduceLE, Nat.reduceLT, Nat.reduceLeDiff]
    exact endsT_only (fun X => X == 3) (fun _ h => h) (resV_tmpI (t := 4) (by decide) rfl) rfl (by simp [KpS_cons, KpS_nil, KpH_cons, KpH_nil, KpF_cons, KpF_nil, KpF_rows, KpA_cons, KpA_nil, KpA_app, KpA_rowV, KpA_rowIV, KpA_dcells, KpA_outC, Kp_any, Kp_nilv, Kp_d, Kp_ptr, Kp_sl, Kp_agg, Kp_tup, Kp_fn, get_cons, get_nil]) (by simp [KpS_cons, KpS_nil, KpH_cons, KpH_nil, KpF_cons, KpF_nil, KpF_rows, KpA_cons, KpA_nil, KpA_app, KpA_rowV, KpA_rowIV, KpA_dcells, KpA_outC, Kp_any, Kp_nilv, Kp_d, Kp_ptr, Kp_sl, Kp_agg, Kp_tup, Kp_fn, get_cons, get_nil])
/-- A solver, as data. -/
def svC (t : Tp) (z : List (List Nat)) (l : List Nat) (h : Nat) (w d : List Nat) (p q : D) : List D := [.int .i64 t.n, .int .i64 t.n, opsD t.ops, rowI t.out, rowsD z, rowD l, .flt h, rowD w, rowD d, p, q]
structure Sok (t : Tp) (z : List (List Nat)) (l w d : List Nat) : Prop where
  ht : Tok t
  hz : 2 ≤ z.length
  hzl : ∀ i, i < 2 → (z.getD i []).length = t.n
  hl : 1 ≤ l.length
  hw : w.length = t.n
  hd : d.length = t.n
def yS (z : List (List Nat)) (l d : List Nat) (n : Nat) : List Nat := tabR (fun i => fop .add ((z.getD 0 []).getD i 0) (fop .mul (l.getD 0 0) (d.getD i 0))) n
def gS (t : Tp) (z : List (List Nat)) (l : List Nat) (h : Nat) (d : List Nat) : List Nat := tabR (fun i => fop .sub (fop .mul h ((evalT t (yS z l d t.n)).getD i 0)) ((z.getD 1 []).getD i 0)) t.n
section
variable (t : Tp) (z : List (List Nat)) (l : List Nat) (h : Nat) (w d : List Nat) (p q : D) (ok : Sok t z l w d)
include ok
theorem slopes1_con (i : Nat) (hi : i < t.n) : Con Try.prog 78 [fI i, .d (.bptr [.bptr (svC t z l h w d p q)])] (fl (fop .add ((z.getD 0 []).getD i 0) (fop .mul (l.getD 0 0) (d.getD i 0)))) := by
  obtain ⟨ht, hz, hzl, hl, hw, hd⟩ := ok
  have hz0 := hzl 0 (by omega)
  refine Con_introA A_corr_solver_slopes_1_comp rfl mixed ?_
  simp -implicitDefEqProofs only [xC_skip, evS, evT, evU, hv, effC, reduceCtorEq, ↓reduceIte, Nat.reduceEqDiff, Nat.reduceAdd, Nat.reduceMul, Int.reduceToNat, Int.reduceAdd, Int.reduceSub, Int.reduceMul, Int.reduceNeg, Int.reduceLT, Int.reduceLE, Nat.reduceLT, Nat.reduceLeDiff, A_corr_solver_slopes_1]
  simp -implicitDefEqProofs only [xC_skip, evS, evT, evU, hv, effC, reduceCtorEq, ↓reduceIte, Nat.reduceEqDiff, Nat.reduceAdd, Nat.reduceMul, Int.reduceToNat, Int.reduceAdd, Int.reduceSub, Int.reduceMul, Int.reduceNeg, Int.reduceLT, Int.reduceLE, Nat.reduceLT, Nat.reduceLeDiff, svC]
  (repeat (with_reducible refine And.intro (by omega) ?_))
  exact endsT_rett rfl (by decide) (by simp [look])
theorem slopes2_con (f : List Nat) (hf : f.length = t.n) (i : Nat) (hi : i < t.n) : Con Try.prog 80 [fI i, .d (.bptr [.bptr (svC t z l h w d p q)]), .d (.bptr [rowD f])] (fl (fop .sub (fop .mul h (f.getD i 0)) ((z.getD 1 []).getD i 0))) := by
  obtain ⟨ht, hz, hzl, hl, hw, hd⟩ := ok
  have hz0 := hzl 1 (by omega)
  refine Con_introA A_corr_solver_slopes_2_comp rfl mixed ?_
  simp -implicitDefEqProofs only [xC_skip, evS, evT, evU, hv, effC, reduceCtorEq, ↓reduceIte, Nat.reduceEqDiff, Nat.reduceAdd, Nat.reduceMul, Int.reduceToNat, Int.reduceAdd, Int.reduceSub, Int.reduceMul, Int.reduceNeg, Int.reduceLT, Int.reduceLE, Nat.reduceLT, Nat.reduceLeDiff, A_corr_solver_slopes_2]
  simp -implicitDefEqProofs only [xC_skip, evS, evT, evU, hv, effC, reduceCtorEq, ↓reduceIte, Nat.reduceEqDiff, Nat.reduceAdd, Nat.reduceMul, Int.reduceToNat, Int.reduceAdd, Int.reduceSub, Int.reduceMul, Int.reduceNeg, Int.reduceLT, Int.reduceLE, Nat.reduceLT, Nat.reduceLeDiff, svC]
  (repeat (with_reducible refine And.intro (by omega) ?_))
  exact endsT_rett rfl (by decide) (by simp [look])
theorem slopes_ac : AC Try.prog 59 [.d (.bptr (svC t z l h w d p q))] [] [(0, [rowV (gS t z l h d)])] (.sl 0 0 0 t.n 1 t.n) := by
  have ok' := ok
  obtain ⟨ht, hz, hzl, hl, hw, hd⟩ := ok'
  have hn := ht.n
  refine AC_row0 (X := 120) ?_
  refine AC_introA A_corr_solver_slopes_comp rfl mixed (fun _ => False) (by simp [get_nil]) ?_
  simp -implicitDefEqProofs only [xC_skip, evS, evT, evU, hv, effC, reduceCtorEq, ↓reduceIte, Nat.reduceEqDiff, Nat.reduceAdd, Nat.reduceMul, Int.reduceToNat, Int.reduceAdd, Int.reduceSub, Int.reduceMul, Int.reduceNeg, Int.reduceLT, Int.reduceLE, Nat.reduceLT, Nat.reduceLeDiff, A_corr_solver_slopes, svC, fnOf_ptr]
  have e1 := each_ac 78 [.bptr [.bptr (svC t z l h w d p q)]] t.n _ (by omega) (fun i hi => slopes1_con t z l h w d p q ok i hi)
  refine callG_row 100 _ (by simp [Heap.next]) e1 ⟨.aggs ⟨.bare _, trivial⟩, .fun1 (.box rfl (.bare _)), trivial⟩ ?_
  simp -implicitDefEqProofs only [xC_skip, evS, evT, evU, hv, effC, reduceCtorEq, ↓reduceIte, Nat.reduceEqDiff, Nat.reduceAdd, Nat.reduceMul, Int.reduceToNat, Int.reduceAdd, Int.reduceSub, Int.reduceMul, Int.reduceNeg, Int.reduceLT, Int.reduceLE, Nat.reduceLT, Nat.reduceLeDiff]
  have hy : (yS z l d t.n).length = t.n := tabR_len _ _
  refine callG_row 101 [tapeV t, .d (rowD (yS z l d t.n))] (by simp [Heap.next]) (tape_Eval_ac t _ ht hy) ⟨.aggs ⟨.bare _, .bare _, .bare _, trivial⟩, snp_row rfl hy rfl, trivial⟩ ?_
  simp -implicitDefEqProofs only [xC_skip, evS, evT, evU, hv, effC, reduceCtorEq, ↓reduceIte, Nat.reduceEqDiff, Nat.reduceAdd, Nat.reduceMul, Int.reduceToNat, Int.reduceAdd, Int.reduceSub, Int.reduceMul, Int.reduceNeg, Int.reduceLT, Int.reduceLE, Nat.reduceLT, Nat.reduceLeDiff, fnOf_ptr2]
  have e2 := each_ac 80 [.bptr [.bptr (svC t z l h w d p q)], .bptr [rowD (evalT t (yS z l d t.n))]] t.n _ (by omega) (fun i hi => slopes2_con t z l h w d p q ok _ (evalT_len _ _) i hi)
  refine callG_row 120 _ (by simp [Heap.next]) e2 ⟨.aggs ⟨.bare _, trivial⟩, .fun2 (.box rfl (.bare _)) (.box rfl (snp_row rfl (evalT_len _ _) rfl)), trivial⟩ ?_
  simp -implicitDefEqProofs only [xC_skip, evS, evT, evU, hv, effC, reduceCtorEq, ↓reduceIte, Nat.reduceEqDiff, Nat.reduceAdd, Nat.reduceMul, Int.reduceToNat, Int.reduceAdd, Int.reduceSub, Int.reduceMul, Int.reduceNeg, Int.reduceLT, Int.reduceLE, Nat.reduceLT, Nat.reduceLeDiff]
  exact endsT_only (fun X => X == 120) (fun _ h => h) (resV_tmpI (t := 2) (by decide) rfl) rfl (by simp [KpS_cons, KpS_nil, KpH_cons, KpH_nil, KpF_cons, KpF_nil, KpF_rows, KpA_cons, KpA_nil, KpA_app, KpA_rowV, KpA_rowIV, KpA_dcells, KpA_outC, Kp_any, Kp_nilv, Kp_d, Kp_ptr, Kp_sl, Kp_agg, Kp_tup, Kp_fn, get_cons, get_nil]) (by simp [KpS_cons, KpS_nil, KpH_cons, KpH_nil, KpF_cons, KpF_nil, KpF_rows, KpA_cons, KpA_nil, KpA_app, KpA_rowV, KpA_rowIV, KpA_dcells, KpA_outC, Kp_any, Kp_nilv, Kp_d, Kp_ptr, Kp_sl, Kp_agg, Kp_tup, Kp_fn, get_cons, get_nil])
/-- How far a try goes. -/
def goneA (t : Tp) (z : List (List Nat)) (l : List Nat) (h : Nat) (w d : List Nat) : Nat := szP (tabR (fun i => fop .sub ((gS t z l h d).getD i 0) (d.getD i 0)) t.n) w
theorem adams1_con (g : List Nat) (hg : g.length = t.n) (i : Nat) (hi : i < t.n) : Con Try.prog 61 [fI i, .d (.bptr [rowD g]), .d (.bptr [.bptr (svC t z l h w d p q)])] (fl (fop .sub (g.getD i 0) (d.getD i 0))) := by
  obtain ⟨ht, hz, hzl, hl, hw, hd⟩ := ok
  refine Con_introA A_corr_solver_adams_1_comp rfl mixed ?_
  simp -implicitDefEqProofs only [xC_skip, evS, evT, evU, hv, effC, reduceCtorEq, ↓reduceIte, Nat.reduceEqDiff, Nat.reduceAdd, Nat.reduceMul, Int.reduceToNat, Int.reduceAdd, Int.reduceSub, Int.reduceMul, Int.reduceNeg, Int.reduceLT, Int.reduceLE, Nat.reduceLT, Nat.reduceLeDiff, A_corr_solver_adams_1]
  simp -implicitDefEqProofs only [xC_skip, evS, evT, evU, hv, effC, reduceCtorEq, ↓reduceIte, Nat.reduceEqDiff, Nat.reduceAdd, Nat.reduceMul, Int.reduceToNat, Int.reduceAdd, Int.reduceSub, Int.reduceMul, Int.reduceNeg, Int.reduceLT, Int.reduceLE, Nat.reduceLT, Nat.reduceLeDiff, svC]
  (repeat (with_reducible refine And.intro (by omega) ?_))
  exact endsT_rett rfl (by decide) (by simp [look])
/-- A solver in memory. -/
abbrev svV (t : Tp) (z : List (List Nat)) (l : List Nat) (h : Nat) (w : List Nat) (X : Nat) (p q : V) : List V := [fI t.n, fI t.n, .d (opsD t.ops), .d (rowI t.out), .d (rowsD z), .d (rowD l), fl h, .d (rowD w), .sl X 0 0 t.n 1 t.n, p, q]
omit ok in
theorem snap_sv {L : Heap} {S X : Nat} {pv qv : V} (hS : L.get S 0 = some (svV t z l h w X pv qv)) (hX : L.get X 0 = some (rowV d)) (hd : d.length = t.n) (hp : Snap L pv (.d p)) (hq : Snap L qv (.d q)) : Snap L (.ptr S 0 0 11) (.d (.bptr (svC t z l h w d p q))) := by
  refine .ptr hS rfl (by simp [svC]) (by simp) fun j hj => ?_
  have hj : j < 11 := by simpa [svC] using hj
  rcases j with _ | _ | _ | _ | _ | _ | _ | _ | _ | _ | _ | j
  all_goals first | exact .d _ | exact hp | exact hq | exact snp_row hX hd rfl | omega
set_option maxRecDepth 8000 in
theorem adams_ac : AC Try.prog 37 [.ptr 16 0 0 11] [(16, [svV t z l h w 14 .nil .nil]), (14, [rowV d]), (1, [[.nil, fI 0, fI 0]]), (0, [[fI t.n, .d (opsD t.ops), .d (rowI t.out)]])]
    [(100, [rowV (gS t z l h d)]), (16, [svV t z l h w 100 .nil .nil]), (14, [rowV d]), (1, [[.nil, fI 0, fI 0]]), (0, [[fI t.n, .d (opsD t.ops), .d (rowI t.out)]])] (fl (goneA t z l h w d)) := by
  have ok' := ok
  obtain ⟨ht, hz, hzl, hl, hw, hd⟩ := ok'
  have hn := ht.n
  refine AC_introA A_corr_solver_adams_comp rfl mixed (fun X => X ≤ 16) ?_ ?_
  · intro X q
    simp only [get_cons, get_nil]
    repeat' split
    all_goals simp
    all_goals omega
  simp -implicitDefEqProofs only [xC_skip, evS, evT, evU, hv, effC, reduceCtorEq, ↓reduceIte, Nat.reduceEqDiff, Nat.reduceAdd, Nat.reduceMul, Int.reduceToNat, Int.reduceAdd, Int.reduceSub, Int.reduceMul, Int.reduceNeg, Int.reduceLT, Int.reduceLE, Nat.reduceLT, Nat.reduceLeDiff, A_corr_solver_adams]
  have hg : (gS t z l h d).length = t.n := tabR_len _ _
  refine callG_row 100 [.d (.bptr (svC t z l h w d .nils .nils))] (by simp [Heap.next]) (slopes_ac t z l h w d .nils .nils ok) ⟨snap_sv t z l h w d .nils .nils (X := 14) (pv := .nil) (qv := .nil) rfl rfl hd .nil .nil, trivial⟩ ?_
  simp -implicitDefEqProofs only [xC_skip, evS, evT, evU, hv, effC, reduceCtorEq, ↓reduceIte, Nat.reduceEqDiff, Nat.reduceAdd, Nat.reduceMul, Int.reduceToNat, Int.reduceAdd, Int.reduceSub, Int.reduceMul, Int.reduceNeg, Int.reduceLT, Int.reduceLE, Nat.reduceLT, Nat.reduceLeDiff, fnOf_ptr2]
  have e2 := each_ac 61 [.bptr [rowD (gS t z l h d)], .bptr [.bptr (svC t z l h w d .nils .nils)]] t.n _ (by omega) (fun i hi => adams1_con t z l h w d .nils .nils ok _ hg i hi)
  refine callS_row _ e2 ⟨.aggs ⟨.bare _, trivial⟩, .fun2 (.box rfl (snp_row rfl hg rfl)) (.box rfl (snap_sv t z l h w d .nils .nils (X := 14) (pv := .nil) (qv := .nil) rfl rfl hd .nil .nil)), trivial⟩ rfl ?_
  simp -implicitDefEqProofs only [xC_skip, evS, evT, evU, hv, effC, reduceCtorEq, ↓reduceIte, Nat.reduceEqDiff, Nat.reduceAdd, Nat.reduceMul, Int.reduceToNat, Int.reduceAdd, Int.reduceSub, Int.reduceMul, Int.reduceNeg, Int.reduceLT, Int.reduceLE, Nat.reduceLT, Nat.reduceLeDiff]
  refine callG_snaps [.d (rowD (tabR (fun i => fop .sub ((gS t z l h d).getD i 0) (d.getD i 0)) t.n)), .d (rowD w)] (corr_Size_con _ w (by rw [tabR_len]; exact hw) (by rw [tabR_len]; omega)) ⟨snp_row rfl (tabR_len _ _) rfl, .bare _, trivial⟩ (.flt _) ?_
  simp -implicitDefEqProofs only [xC_skip, evS, evT, evU, hv, effC, reduceCtorEq, ↓reduceIte, Nat.reduceEqDiff, Nat.reduceAdd, Nat.reduceMul, Int.reduceToNat, Int.reduceAdd, Int.reduceSub, Int.reduceMul, Int.reduceNeg, Int.reduceLT, Int.reduceLE, Nat.reduceLT, Nat.reduceLeDiff]
  refine endsT_onlyN (fun X => decide (X ≤ 16) || X == 100) (fun X h => by simp [h]) (resV_tmpI (t := 2) (by decide) rfl) rfl (by simp [KpS_cons, KpS_nil, KpH_cons, KpH_nil, KpF_cons, KpF_nil, KpF_rows, KpA_cons, KpA_nil, KpA_app, KpA_rowV, KpA_rowIV, KpA_dcells, KpA_outC, Kp_any, Kp_nilv, Kp_d, Kp_ptr, Kp_sl, Kp_agg, Kp_tup, Kp_fn, get_cons, get_nil]) (by simp [KpS_cons, KpS_nil, KpH_cons, KpH_nil, KpF_cons, KpF_nil, KpF_rows, KpA_cons, KpA_nil, KpA_app, KpA_rowV, KpA_rowIV, KpA_dcells, KpA_outC, Kp_any, Kp_nilv, Kp_d, Kp_ptr, Kp_sl, Kp_agg, Kp_tup, Kp_fn, get_cons, get_nil])
/-- Are all numbers? -/
def finAll (d : List Nat) : Bool := d.all finite
omit ok in
theorem fin_of {d : List Nat} (h : ∀ j, j < d.length → finite (d.getD j 0) = true) : finAll d = true := by
  simp only [finAll, List.all_eq_true]
  intro x hx
  obtain ⟨j, hj, rfl⟩ := List.mem_iff_getElem.1 hx
  have := h j hj
  rwa [List.getD_eq_getElem?_getD, List.getElem?_eq_getElem hj] at this
omit ok in
theorem fin_not {d : List Nat} (j : Nat) (hj : j < d.length) (h : finite (d.getD j 0) = false) : finAll d = false := by
  cases hf : finAll d
  · rfl
  · simp only [finAll, List.all_eq_true] at hf
    have := hf (d.getD j 0) (by rw [List.getD_eq_getElem?_getD, List.getElem?_eq_getElem hj]; exact List.getElem_mem hj)
    rw [h] at this; cases this
set_option maxRecDepth 8000 in
theorem finite_con : Con Try.prog 41 [.d (.bptr (svC t z l h w d p q))] (fB (finAll d)) := by
  obtain ⟨ht, hz, hzl, hl, hw, hd⟩ := ok
  have hn := ht.n
  refine Con_introA A_corr_solver_finite_comp rfl mixed ?_
  simp -implicitDefEqProofs only [xC_skip, evS, evT, evU, hv, effC, reduceCtorEq, ↓reduceIte, Nat.reduceEqDiff, Nat.reduceAdd, Nat.reduceMul, Int.reduceToNat, Int.reduceAdd, Int.reduceSub, Int.reduceMul, Int.reduceNeg, Int.reduceLT, Int.reduceLE, Nat.reduceLT, Nat.reduceLeDiff, A_corr_solver_finite]
  simp -implicitDefEqProofs only [xC_skip, evS, evT, evU, hv, effC, reduceCtorEq, ↓reduceIte, Nat.reduceEqDiff, Nat.reduceAdd, Nat.reduceMul, Int.reduceToNat, Int.reduceAdd, Int.reduceSub, Int.reduceMul, Int.reduceNeg, Int.reduceLT, Int.reduceLE, Nat.reduceLT, Nat.reduceLeDiff, svC]
  refine WA_for (n := d.length) (fun c s => ∃ i, c + i = d.length ∧ (∀ j, j < i → finite (d.getD j 0) = true) ∧ s = ⟨[(8, .d (rowD d)), (9, fI d.length), (10, fI i)], []⟩) ⟨0, by omega, fun j hj => by omega, rfl⟩ ?_
  rintro c s ⟨i, hc, hf, rfl⟩
  simp -implicitDefEqProofs only [xC_skip, evS, evT, evU, hv, effC, reduceCtorEq, ↓reduceIte, Nat.reduceEqDiff, Nat.reduceAdd, Nat.reduceMul, Int.reduceToNat, Int.reduceAdd, Int.reduceSub, Int.reduceMul, Int.reduceNeg, Int.reduceLT, Int.reduceLE, Nat.reduceLT, Nat.reduceLeDiff, A_corr_solver_finite_L0]
  refine condC_intro (fun h => ?_) (fun h => ?_)
  · replace h := of_decide_eq_true h
    simp -implicitDefEqProofs only [xC_skip, evS, evT, evU, hv, effC, reduceCtorEq, ↓reduceIte, Nat.reduceEqDiff, Nat.reduceAdd, Nat.reduceMul, Int.reduceToNat, Int.reduceAdd, Int.reduceSub, Int.reduceMul, Int.reduceNeg, Int.reduceLT, Int.reduceLE, Nat.reduceLT, Nat.reduceLeDiff]
    (repeat (with_reducible refine And.intro (by omega) ?_))
    first | refine callG_con (fp_Finite_con (d.getD i 0)) rfl ?_ | refine callCG_con (fp_Finite_con (d.getD i 0)) rfl ?_ | refine callSG_con (fp_Finite_con (d.getD i 0)) rfl ?_
    simp -implicitDefEqProofs only [xC_skip, evS, evT, evU, hv, effC, reduceCtorEq, ↓reduceIte, Nat.reduceEqDiff, Nat.reduceAdd, Nat.reduceMul, Int.reduceToNat, Int.reduceAdd, Int.reduceSub, Int.reduceMul, Int.reduceNeg, Int.reduceLT, Int.reduceLE, Nat.reduceLT, Nat.reduceLeDiff]
    cases hi : finite (d.getD i 0)
    · rw [fin_not i (by omega) hi]
      simp -implicitDefEqProofs only [xC_skip, evS, evT, evU, hv, effC, reduceCtorEq, ↓reduceIte, Nat.reduceEqDiff, Nat.reduceAdd, Nat.reduceMul, Int.reduceToNat, Int.reduceAdd, Int.reduceSub, Int.reduceMul, Int.reduceNeg, Int.reduceLT, Int.reduceLE, Nat.reduceLT, Nat.reduceLeDiff]
      exact endsT_rett rfl (by decide) (by simp [look])
    · simp -implicitDefEqProofs only [xC_skip, evS, evT, evU, hv, effC, reduceCtorEq, ↓reduceIte, Nat.reduceEqDiff, Nat.reduceAdd, Nat.reduceMul, Int.reduceToNat, Int.reduceAdd, Int.reduceSub, Int.reduceMul, Int.reduceNeg, Int.reduceLT, Int.reduceLE, Nat.reduceLT, Nat.reduceLeDiff]
      rw [wrapI (by omega) (by omega)]
      exact ⟨c - 1, by omega, i + 1, by omega, fun j hj => by rcases Nat.lt_succ_iff_lt_or_eq.1 hj with h1 | rfl; exact hf j h1; exact hi, rfl⟩
  · replace h := of_decide_eq_false h
    rw [fin_of fun j hj => hf j (by omega)]
    simp -implicitDefEqProofs only [xC_skip, evS, evT, evU, hv, effC, reduceCtorEq, ↓reduceIte, Nat.reduceEqDiff, Nat.reduceAdd, Nat.reduceMul, Int.reduceToNat, Int.reduceAdd, Int.reduceSub, Int.reduceMul, Int.reduceNeg, Int.reduceLT, Int.reduceLE, Nat.reduceLT, Nat.reduceLeDiff]
    exact endsT_rett rfl (by decide) (by simp [look])
end
/-- Tries, until they rest: what is added, how many, what is told. -/
def seek (tr : List Nat → List Nat × Nat) : Nat → Nat → List Nat → List Nat × Nat × Int
  | 0, k, _ => ([], k, 6)
  | f + 1, k, d => if finAll (tr d).1 = false then ([], k, 2) else if fcmp .le (tr d).2 4562146422526312448 = true then ((tr d).1, k, 0) else if 4 ≤ k then ([], k, 6) else seek tr f (k + 1) (tr d).1
def tryA (t : Tp) (z : List (List Nat)) (l : List Nat) (h : Nat) (w d : List Nat) : List Nat × Nat := (gS t z l h d, goneA t z l h w d)
def solA (t : Tp) (z : List (List Nat)) (l : List Nat) (h : Nat) (w : List Nat) : List Nat × Nat × Int := seek (tryA t z l h w) 4 1 (List.replicate t.n 0)
abbrev sumV (r : List Nat × Nat × Int) : V := .agg [.d (rowD r.1), fI r.2.1, fI r.2.2]
abbrev solT (t : Tp) (z : List (List Nat)) (l : List Nat) (h : Nat) (w d : List Nat) (k : Nat) : T := ⟨[(12, .ptr 1 0 0 3), (13, .ptr 16 0 0 11), (14, .fn 37 [.ptr 16 0 0 11] []), (16, fI k)],
  [(16, [svV t z l h w 14 .nil .nil]), (14, [rowV d]), (1, [[.nil, fI 0, fI 0]]), (0, [[fI t.n, .d (opsD t.ops), .d (rowI t.out)]])]⟩
theorem sol_next (t : Tp) (z : List (List Nat)) (l : List Nat) (h : Nat) (w d g : List Nat) (k : Nat) : Le (fun _ => False) (T.s 76 ⟨[(12, .ptr 1 0 0 3), (13, .ptr 16 0 0 11), (14, .fn 37 [.ptr 16 0 0 11] []), (16, fI k)],
    [(100, [rowV g]), (16, [svV t z l h w 100 .nil .nil]), (14, [rowV d]), (1, [[.nil, fI 0, fI 0]]), (0, [[fI t.n, .d (opsD t.ops), .d (rowI t.out)]])]⟩) (T.s 76 (solT t z l h w g k)) := by
  refine Le.trans (LeT.only (L' := [(100, [rowV g]), (16, [svV t z l h w 100 .nil .nil]), (1, [[.nil, fI 0, fI 0]]), (0, [[fI t.n, .d (opsD t.ops), .d (rowI t.out)]])]) (fun X => X != 14) (fun _ h => h) rfl (by simp [KpS_cons, KpS_nil, KpH_cons, KpH_nil, KpF_cons, KpF_nil, KpF_rows, KpA_cons, KpA_nil, KpA_app, KpA_rowV, KpA_rowIV, KpA_dcells, KpA_outC, Kp_any, Kp_nilv, Kp_d, Kp_ptr, Kp_sl, Kp_agg, Kp_tup, Kp_fn, get_cons, get_nil]) (by simp [KpS_cons, KpS_nil, KpH_cons, KpH_nil, KpF_cons, KpF_nil, KpF_rows, KpA_cons, KpA_nil, KpA_app, KpA_rowV, KpA_rowIV, KpA_dcells, KpA_outC, Kp_any, Kp_nilv, Kp_d, Kp_ptr, Kp_sl, Kp_agg, Kp_tup, Kp_fn, get_cons, get_nil])) ?_
  refine Le.trans (LeT.move 14 (by decide) (by simp [fam_cons, fam_nil]) (by simp [fam_cons, fam_nil]) (fun h => h)) ?_
  have e : renS (absF 100 14 0) [(12, .ptr 1 0 0 3), (13, .ptr 16 0 0 11), (14, .fn 37 [.ptr 16 0 0 11] []), (16, fI k)] = [(12, .ptr 1 0 0 3), (13, .ptr 16 0 0 11), (14, .fn 37 [.ptr 16 0 0 11] []), (16, fI k)] := by
    simp [renS, V.ren, V.renL, absF]
  have e2 : Heap.renH (absF 100 14 0) [(16, [svV t z l h w 100 .nil .nil]), (1, [[.nil, fI 0, fI 0]]), (0, [[fI t.n, .d (opsD t.ops), .d (rowI t.out)]])] = [(16, [svV t z l h w 14 .nil .nil]), (1, [[.nil, fI 0, fI 0]]), (0, [[fI t.n, .d (opsD t.ops), .d (rowI t.out)]])] := by
    simp [Heap.renH, V.ren, absF]
  rw [e, e2, ren_rowV]
  exact LeT.perm (fun _ h => h) (fun X => .inr (by simp only [fam_cons, fam_nil]; grind)) (by simp [KpS_cons, KpS_nil, KpH_cons, KpH_nil, KpF_cons, KpF_nil, KpF_rows, KpA_cons, KpA_nil, KpA_app, KpA_rowV, KpA_rowIV, KpA_dcells, KpA_outC, Kp_any, Kp_nilv, Kp_d, Kp_ptr, Kp_sl, Kp_agg, Kp_tup, Kp_fn, get_cons, get_nil]) (by simp [KpS_cons, KpS_nil, KpH_cons, KpH_nil, KpF_cons, KpF_nil, KpF_rows, KpA_cons, KpA_nil, KpA_app, KpA_rowV, KpA_rowIV, KpA_dcells, KpA_outC, Kp_any, Kp_nilv, Kp_d, Kp_ptr, Kp_sl, Kp_agg, Kp_tup, Kp_fn, get_cons, get_nil])
theorem seekA_succ (t : Tp) (z : List (List Nat)) (l : List Nat) (h : Nat) (w : List Nat) (f k : Nat) (d : List Nat) : seek (tryA t z l h w) (f + 1) k d =
  if finAll (gS t z l h d) = false then ([], k, 2) else if fcmp .le (goneA t z l h w d) 4562146422526312448 = true then (gS t z l h d, k, 0) else if 4 ≤ k then ([], k, 6) else seek (tryA t z l h w) f (k + 1) (gS t z l h d) := rfl
set_option maxRecDepth 8000 in
theorem sol_gen (L' : Heap) (r : V) (t : Tp) (z : List (List Nat)) (l : List Nat) (h : Nat) (w : List Nat)
    (h1 : ∀ k g, g.length = t.n → solA t z l h w = (g, k, 0) → r = .agg [.sl 105 0 0 t.n 1 t.n, fI k, fI 0] ∧ L' = [(105, [rowV g])])
    (h2 : ∀ k e, solA t z l h w = ([], k, e) → e ≠ 0 → r = .agg [.nil, fI k, fI e] ∧ L' = [])
    (step : Int) (m : Int) (hm : m ≠ 1) (ok : Sok t z l w (List.replicate t.n 0)) (hs : Con Try.prog 36 [fl (FloatKind.nearest .f64 step), fI (-30)] (fl h)) :
    AC Try.prog 20 [tapeV t, .d (rowsD z), .d (rowD l), fI step, fI m, .d (rowD w)] [] L' r := by
  obtain ⟨ht, hz, hzl, hl, hw, hd⟩ := ok
  have hn := ht.n
  have hm1 : (m == 1) = false := by simpa using hm
  refine AC_introA A_corr_Solve_comp rfl mixed (fun _ => False) (by simp [get_nil]) ?_
  simp -implicitDefEqProofs only [xC_skip, evS, evT, evU, hv, effC, reduceCtorEq, ↓reduceIte, Nat.reduceEqDiff, Nat.reduceAdd, Nat.reduceMul, Int.reduceToNat, Int.reduceAdd, Int.reduceSub, Int.reduceMul, Int.reduceNeg, Int.reduceLT, Int.reduceLE, Nat.reduceLT, Nat.reduceLeDiff, A_corr_Solve]
  first | refine callG_con (hs) rfl ?_ | refine callCG_con (hs) rfl ?_ | refine callSG_con (hs) rfl ?_
  simp -implicitDefEqProofs only [xC_skip, evS, evT, evU, hv, effC, reduceCtorEq, ↓reduceIte, Nat.reduceEqDiff, Nat.reduceAdd, Nat.reduceMul, Int.reduceToNat, Int.reduceAdd, Int.reduceSub, Int.reduceMul, Int.reduceNeg, Int.reduceLT, Int.reduceLE, Nat.reduceLT, Nat.reduceLeDiff, hm1, fnOf_first]
  (repeat (with_reducible refine And.intro (by omega) ?_))
  refine WA_forW (n := 4) (fun c s => ∃ k d, c + k = 5 ∧ (1 ≤ k ∧ k ≤ 4) ∧ d.length = t.n ∧ seek (tryA t z l h w) c k d = solA t z l h w ∧ s = solT t z l h w d k) (Le.refl _) ⟨1, _, by omega, by omega, hd, rfl, rfl⟩ ?_
  rintro c s ⟨k, d, hc, hk, hdl, he, rfl⟩
  have okd : Sok t z l w d := ⟨ht, hz, hzl, hl, hw, hdl⟩
  have hgl : (gS t z l h d).length = t.n := tabR_len _ _
  have okg : Sok t z l w (gS t z l h d) := ⟨ht, hz, hzl, hl, hw, hgl⟩
  obtain ⟨f, rfl⟩ : ∃ f, c = f + 1 := ⟨c - 1, by omega⟩
  simp -implicitDefEqProofs only [xC_skip, evS, evT, evU, hv, effC, reduceCtorEq, ↓reduceIte, Nat.reduceEqDiff, Nat.reduceAdd, Nat.reduceMul, Int.reduceToNat, Int.reduceAdd, Int.reduceSub, Int.reduceMul, Int.reduceNeg, Int.reduceLT, Int.reduceLE, Nat.reduceLT, Nat.reduceLeDiff, A_corr_Solve_L0]
  refine callG_ac (adams_ac t z l h w d okd) ?_
  simp -implicitDefEqProofs only [xC_skip, evS, evT, evU, hv, effC, reduceCtorEq, ↓reduceIte, Nat.reduceEqDiff, Nat.reduceAdd, Nat.reduceMul, Int.reduceToNat, Int.reduceAdd, Int.reduceSub, Int.reduceMul, Int.reduceNeg, Int.reduceLT, Int.reduceLE, Nat.reduceLT, Nat.reduceLeDiff]
  refine callG_snaps [.d (.bptr (svC t z l h w (gS t z l h d) .nils .nils))] (finite_con t z l h w _ .nils .nils okg) ⟨snap_sv t z l h w _ .nils .nils (X := 100) (pv := .nil) (qv := .nil) rfl rfl hgl .nil .nil, trivial⟩ (.bool _) ?_
  simp -implicitDefEqProofs only [xC_skip, evS, evT, evU, hv, effC, reduceCtorEq, ↓reduceIte, Nat.reduceEqDiff, Nat.reduceAdd, Nat.reduceMul, Int.reduceToNat, Int.reduceAdd, Int.reduceSub, Int.reduceMul, Int.reduceNeg, Int.reduceLT, Int.reduceLE, Nat.reduceLT, Nat.reduceLeDiff]
  rw [seekA_succ] at he
  cases hf : finAll (gS t z l h d)
  · rw [if_pos hf] at he
    simp -implicitDefEqProofs only [xC_skip, evS, evT, evU, hv, effC, reduceCtorEq, ↓reduceIte, Nat.reduceEqDiff, Nat.reduceAdd, Nat.reduceMul, Int.reduceToNat, Int.reduceAdd, Int.reduceSub, Int.reduceMul, Int.reduceNeg, Int.reduceLT, Int.reduceLE, Nat.reduceLT, Nat.reduceLeDiff, Bool.not_false]
    obtain ⟨rfl, rfl⟩ := h2 k 2 he.symm (by decide)
    exact endsT_only (fun _ => false) (fun _ h => h) (resV_cellI (by decide) rfl rfl rfl (by simp) rfl) rfl (by simp [KpS_cons, KpS_nil, KpH_cons, KpH_nil, KpF_cons, KpF_nil, KpF_rows, KpA_cons, KpA_nil, KpA_app, KpA_rowV, KpA_rowIV, KpA_dcells, KpA_outC, Kp_any, Kp_nilv, Kp_d, Kp_ptr, Kp_sl, Kp_agg, Kp_tup, Kp_fn, get_cons, get_nil]) (by simp [KpS_cons, KpS_nil, KpH_cons, KpH_nil, KpF_cons, KpF_nil, KpF_rows, KpA_cons, KpA_nil, KpA_app, KpA_rowV, KpA_rowIV, KpA_dcells, KpA_outC, Kp_any, Kp_nilv, Kp_d, Kp_ptr, Kp_sl, Kp_agg, Kp_tup, Kp_fn, get_cons, get_nil])
  · rw [if_neg (by rw [hf]; decide)] at he
    simp -implicitDefEqProofs only [xC_skip, evS, evT, evU, hv, effC, reduceCtorEq, ↓reduceIte, Nat.reduceEqDiff, Nat.reduceAdd, Nat.reduceMul, Int.reduceToNat, Int.reduceAdd, Int.reduceSub, Int.reduceMul, Int.reduceNeg, Int.reduceLT, Int.reduceLE, Nat.reduceLT, Nat.reduceLeDiff, Bool.not_true]
    cases hle : fcmp .le (goneA t z l h w d) 4562146422526312448
    · rw [if_neg (by rw [hle]; decide)] at he
      simp -implicitDefEqProofs only [xC_skip, evS, evT, evU, hv, effC, reduceCtorEq, ↓reduceIte, Nat.reduceEqDiff, Nat.reduceAdd, Nat.reduceMul, Int.reduceToNat, Int.reduceAdd, Int.reduceSub, Int.reduceMul, Int.reduceNeg, Int.reduceLT, Int.reduceLE, Nat.reduceLT, Nat.reduceLeDiff]
      by_cases h4 : 4 ≤ k
      · rw [if_pos h4] at he
        have h4' : decide ((4 : Int) ≤ (k : Int)) = true := by simp; omega
        simp -implicitDefEqProofs only [xC_skip, evS, evT, evU, hv, effC, reduceCtorEq, ↓reduceIte, Nat.reduceEqDiff, Nat.reduceAdd, Nat.reduceMul, Int.reduceToNat, Int.reduceAdd, Int.reduceSub, Int.reduceMul, Int.reduceNeg, Int.reduceLT, Int.reduceLE, Nat.reduceLT, Nat.reduceLeDiff, h4']
        obtain ⟨rfl, rfl⟩ := h2 k 6 he.symm (by decide)
        exact endsT_only (fun _ => false) (fun _ h => h) (resV_cellI (by decide) rfl rfl rfl (by simp) rfl) rfl (by simp [KpS_cons, KpS_nil, KpH_cons, KpH_nil, KpF_cons, KpF_nil, KpF_rows, KpA_cons, KpA_nil, KpA_app, KpA_rowV, KpA_rowIV, KpA_dcells, KpA_outC, Kp_any, Kp_nilv, Kp_d, Kp_ptr, Kp_sl, Kp_agg, Kp_tup, Kp_fn, get_cons, get_nil]) (by simp [KpS_cons, KpS_nil, KpH_cons, KpH_nil, KpF_cons, KpF_nil, KpF_rows, KpA_cons, KpA_nil, KpA_app, KpA_rowV, KpA_rowIV, KpA_dcells, KpA_outC, Kp_any, Kp_nilv, Kp_d, Kp_ptr, Kp_sl, Kp_agg, Kp_tup, Kp_fn, get_cons, get_nil])
      · rw [if_neg h4] at he
        have h4' : decide ((4 : Int) ≤ (k : Int)) = false := by simp; omega
        simp -implicitDefEqProofs only [xC_skip, evS, evT, evU, hv, effC, reduceCtorEq, ↓reduceIte, Nat.reduceEqDiff, Nat.reduceAdd, Nat.reduceMul, Int.reduceToNat, Int.reduceAdd, Int.reduceSub, Int.reduceMul, Int.reduceNeg, Int.reduceLT, Int.reduceLE, Nat.reduceLT, Nat.reduceLeDiff, h4']
        rw [wrapI (by omega) (by omega)]
        exact ⟨f, _, by omega, sol_next t z l h w d (gS t z l h d) (k + 1), k + 1, _, by omega, by omega, hgl, he, rfl⟩
    · rw [if_pos hle] at he
      simp -implicitDefEqProofs only [xC_skip, evS, evT, evU, hv, effC, reduceCtorEq, ↓reduceIte, Nat.reduceEqDiff, Nat.reduceAdd, Nat.reduceMul, Int.reduceToNat, Int.reduceAdd, Int.reduceSub, Int.reduceMul, Int.reduceNeg, Int.reduceLT, Int.reduceLE, Nat.reduceLT, Nat.reduceLeDiff]
      have htk : List.take t.n (rowV (gS t z l h d)) = rowV (gS t z l h d) := List.take_of_length_le (by simp [hgl])
      have hrl : (rowV (gS t z l h d)).length = t.n := by simp [hgl]
      rw [if_pos ⟨hgl, by omega⟩, htk]
      simp only []
      (repeat (with_reducible refine And.intro (by omega) ?_))
      obtain ⟨rfl, rfl⟩ := h1 k _ hgl he.symm
      refine ⟨⟨by omega, hrl, by simp [rowV, V.isCell]⟩, ?_⟩
      exact endsT_only (fun X => X == 105) (fun _ h => h) (resV_cellI (by decide) rfl rfl rfl (by simp) rfl) rfl (by simp [KpS_cons, KpS_nil, KpH_cons, KpH_nil, KpF_cons, KpF_nil, KpF_rows, KpA_cons, KpA_nil, KpA_app, KpA_rowV, KpA_rowIV, KpA_dcells, KpA_outC, Kp_any, Kp_nilv, Kp_d, Kp_ptr, Kp_sl, Kp_agg, Kp_tup, Kp_fn, get_cons, get_nil]) (by simp [KpS_cons, KpS_nil, KpH_cons, KpH_nil, KpF_cons, KpF_nil, KpF_rows, KpA_cons, KpA_nil, KpA_app, KpA_rowV, KpA_rowIV, KpA_dcells, KpA_outC, Kp_any, Kp_nilv, Kp_d, Kp_ptr, Kp_sl, Kp_agg, Kp_tup, Kp_fn, get_cons, get_nil])
/-- A sum whose row is its own: under the name 0. -/
theorem AC_sum0 {P : Program} {f : FuncId} {vs : List V} {X n : Nat} {xs : List Nat} {a b : Int} (h : AC P f vs [] [(X, [rowV xs])] (.agg [.sl X 0 0 n 1 n, fI a, fI b])) : AC P f vs [] [(0, [rowV xs])] (.agg [.sl 0 0 0 n 1 n, fI a, fI b]) := by
  have hle := Le.ren (N := fun _ => False) (L := [(X, [rowV xs])]) (L2 := [(0, [rowV xs])]) (sl := [.agg [.sl X 0 0 n 1 n, fI a, fI b]]) (fun _ r => (0, r)) (fun _ r => (X, r)) ?_ ?_ (fun _ _ h => h.elim)
  · exact AC_le h (by simpa [V.ren, V.renL] using hle)
  · intro Z r c h
    obtain ⟨rfl, rfl, rfl⟩ := one_row (L := []) h
    simp [get_cons, V.ren]
  · intro Z r c h
    obtain ⟨rfl, rfl, rfl⟩ := one_row (L := []) h
    simp [get_cons]
/-- A call that answers a sum of its own row; no row. -/
theorem callG_sum {P : Program} {g : FuncId} {vs : List V} {L : Heap} {K : V → Heap → Prop} {n : Nat} {a b : Int} {xs : List Nat} (k : Nat) (us : List V) (hk : L.next ≤ k) (h : AC P g us [] [(0, [rowV xs])] (.agg [.sl 0 0 0 n 1 n, fI a, fI b]))
    (hs : Snaps L vs us) (hK : K (.agg [.sl k 0 0 n 1 n, fI a, fI b]) ((k, [rowV xs]) :: L)) : callG P g vs L K := by
  refine callG_ac (AC_frameK k hk (us := us) h hs.at.1 (.inr ⟨hs.at.2, .agg fun j hj => ?_, fun X q cells hX j hj => ?_⟩)) ?_
  · rcases j with _ | _ | _ | j
    · exact .sl ..
    · exact .int ..
    · exact .int ..
    · simp at hj; omega
  · obtain ⟨_, _, rfl⟩ := one_row (L := []) hX
    rw [List.getD_eq_getElem?_getD, List.getElem?_map]
    cases xs[j]? with
    | none => exact .any
    | some x => exact .flt x
  · have e : Heap.up k [(0, [rowV xs])] = [(k, [rowV xs])] := by
      simp [Heap.up, rowV, V.ren]
    rw [e]
    simpa [V.ren, V.renL, upF] using hK
theorem callG_sumN {P : Program} {g : FuncId} {vs : List V} {L : Heap} {K : V → Heap → Prop} {a b : Int} (us : List V) (h : AC P g us [] [] (.agg [.nil, fI a, fI b]))
    (hs : Snaps L vs us) (hK : K (.agg [.nil, fI a, fI b]) L) : callG P g vs L K := by
  refine callG_ac (AC_frameK L.next (Nat.le_refl _) (us := us) h hs.at.1 (.inr ⟨hs.at.2, .agg fun j hj => ?_, fun X q cells hX j hj => by simp [get_nil] at hX⟩)) ?_
  · rcases j with _ | _ | _ | j
    · exact .nil
    · exact .int ..
    · exact .int ..
    · simp at hj; omega
  · simpa [V.ren, V.renL, Heap.up] using hK
theorem seekA_len (t : Tp) (z : List (List Nat)) (l : List Nat) (h : Nat) (w : List Nat) (f : Nat) : ∀ (k : Nat) (d g : List Nat) (a : Nat), seek (tryA t z l h w) f k d = (g, a, 0) → g.length = t.n := by
  induction f with
  | zero => intro k d g a he; simp [seek] at he
  | succ f ih =>
    intro k d g a he
    rw [seekA_succ] at he
    split at he
    · simp at he
    · split at he
      · injection he with h1 h2
        rw [← h1]; exact tabR_len _ _
      · split at he
        · simp at he
        · exact ih _ _ _ _ he
theorem corr_Solve_ok (t : Tp) (z : List (List Nat)) (l : List Nat) (h : Nat) (w : List Nat) (step : Int) (m : Int) (hm : m ≠ 1) (ok : Sok t z l w (List.replicate t.n 0)) (hs : Con Try.prog 36 [fl (FloatKind.nearest .f64 step), fI (-30)] (fl h))
    (g : List Nat) (k : Nat) (hg : solA t z l h w = (g, k, 0)) : AC Try.prog 20 [tapeV t, .d (rowsD z), .d (rowD l), fI step, fI m, .d (rowD w)] [] [(0, [rowV g])] (.agg [.sl 0 0 0 t.n 1 t.n, fI k, fI 0]) := by
  refine AC_sum0 (X := 105) (sol_gen _ _ t z l h w (fun k' g' _ he => ?_) (fun k' e he hne => ?_) step m hm ok hs)
  · rw [hg] at he
    simp only [Prod.mk.injEq] at he
    obtain ⟨rfl, rfl, _⟩ := he
    exact ⟨rfl, rfl⟩
  · rw [hg] at he
    simp only [Prod.mk.injEq] at he
    exact absurd he.2.2.symm hne
theorem corr_Solve_no (t : Tp) (z : List (List Nat)) (l : List Nat) (h : Nat) (w : List Nat) (step : Int) (m : Int) (hm : m ≠ 1) (ok : Sok t z l w (List.replicate t.n 0)) (hs : Con Try.prog 36 [fl (FloatKind.nearest .f64 step), fI (-30)] (fl h))
    (k : Nat) (e : Int) (hne : e ≠ 0) (hg : solA t z l h w = ([], k, e)) : AC Try.prog 20 [tapeV t, .d (rowsD z), .d (rowD l), fI step, fI m, .d (rowD w)] [] [] (.agg [.nil, fI k, fI e]) := by
  refine sol_gen _ _ t z l h w (fun k' g' _ he => ?_) (fun k' e' he hne' => ?_) step m hm ok hs
  · rw [hg] at he
    simp only [Prod.mk.injEq] at he
    exact absurd he.2.2 hne
  · rw [hg] at he
    simp only [Prod.mk.injEq] at he
    obtain ⟨_, rfl, rfl⟩ := he
    exact ⟨rfl, rfl⟩
end Go.Ab
