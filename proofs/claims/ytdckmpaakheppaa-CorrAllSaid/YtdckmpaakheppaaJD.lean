/- How a field changes, by the reference: named rows. -/
import Derived.Test.YtdckmpaakheppaaJB
namespace Go.Ab
set_option linter.unusedSimpArgs false
set_option linter.unusedVariables false
open Go Go.Proofs
def A_r4_change : CA := (.seq (.reg [⟨0, (some 12), none, [], [], (.h (.mov (.k (.d (.flt 0)))))⟩] [0, 1, 2, 3, 4, 5]) (.seq (.seq (.reg [⟨0, (some 17), none, [], [], (.h (.mov (.t 0)))⟩] [1, 2, 3, 4, 5, 17]) (.block 0 (.seq (.reg [⟨0, (some 19), none, [], [], (.h (.ibin .eql (.t 17) (.k (.d (.int .i64 2)))))⟩, ⟨1, (some 18), none, [], [], (.h (.mov (.t 19)))⟩] [1, 2, 3, 4, 5, 17, 18]) (.cond (.t 18) (.seq (.reg [⟨0, (some 20), none, [], [], (.h (.mov (.t 4)))⟩, ⟨1, (some 21), none, [], [], (.h (.mov (.t 5)))⟩, ⟨2, (some 22), none, [], [], (.h (.fbin .add (.t 20) (.t 21)))⟩, ⟨3, (some 12), none, [], [], (.h (.mov (.t 22)))⟩] [12]) .ret) (.seq (.reg [⟨0, (some 24), none, [], [], (.h (.ibin .eql (.t 17) (.k (.d (.int .i64 3)))))⟩, ⟨1, (some 23), none, [], [], (.h (.mov (.t 24)))⟩] [1, 2, 3, 4, 5, 17, 23]) (.cond (.t 23) (.seq (.reg [⟨0, (some 25), none, [], [], (.h (.mov (.t 4)))⟩, ⟨1, (some 26), none, [], [], (.h (.mov (.t 5)))⟩, ⟨2, (some 27), none, [], [], (.h (.fbin .sub (.t 25) (.t 26)))⟩, ⟨3, (some 12), none, [], [], (.h (.mov (.t 27)))⟩] [12]) .ret) (.seq (.reg [⟨0, (some 29), none, [], [], (.h (.ibin .eql (.t 17) (.k (.d (.int .i64 4)))))⟩, ⟨1, (some 28), none, [], [], (.h (.mov (.t 29)))⟩] [1, 2, 3, 4, 5, 28]) (.cond (.t 28) (.seq (.reg [⟨0, (some 30), none, [], [], (.h (.mov (.t 4)))⟩, ⟨1, (some 31), none, [], [], (.h (.mov (.t 2)))⟩, ⟨2, (some 32), none, [], [], (.h (.fbin .mul (.t 30) (.t 31)))⟩, ⟨3, (some 13), none, [], [], (.h (.mov (.t 32)))⟩] [1, 5, 13]) (.seq (.reg [⟨0, (some 33), none, [], [], (.h (.mov (.t 1)))⟩, ⟨1, (some 34), none, [], [], (.h (.mov (.t 5)))⟩, ⟨2, (some 35), none, [], [], (.h (.fbin .mul (.t 33) (.t 34)))⟩, ⟨3, (some 14), none, [], [], (.h (.mov (.t 35)))⟩] [13, 14]) (.seq (.reg [⟨0, (some 36), none, [], [], (.h (.mov (.t 13)))⟩, ⟨1, (some 37), none, [], [], (.h (.mov (.t 14)))⟩, ⟨2, (some 38), none, [], [], (.h (.fbin .add (.t 36) (.t 37)))⟩, ⟨3, (some 12), none, [], [], (.h (.mov (.t 38)))⟩] [12]) .ret))) .skip)))))))) (.seq (.reg [⟨0, (some 39), none, [], [], (.h (.mov (.t 3)))⟩, ⟨1, (some 40), none, [], [], (.h (.mov (.t 5)))⟩, ⟨2, (some 41), none, [], [], (.h (.fbin .mul (.t 39) (.t 40)))⟩, ⟨3, (some 15), none, [], [], (.h (.mov (.t 41)))⟩] [2, 4, 15]) (.seq (.reg [⟨0, (some 42), none, [], [], (.h (.mov (.t 4)))⟩, ⟨1, (some 43), none, [], [], (.h (.mov (.t 15)))⟩, ⟨2, (some 44), none, [], [], (.h (.fbin .sub (.t 42) (.t 43)))⟩, ⟨3, (some 16), none, [], [], (.h (.mov (.t 44)))⟩] [2, 16]) (.seq (.reg [⟨0, (some 45), none, [], [], (.h (.mov (.t 16)))⟩, ⟨1, (some 46), none, [], [], (.h (.mov (.t 2)))⟩, ⟨2, (some 47), none, [], [], (.h (.fbin .div (.t 45) (.t 46)))⟩, ⟨3, (some 12), none, [], [], (.h (.mov (.t 47)))⟩] [12]) .ret)))))
theorem A_r4_change_comp : compF Try.prog 84 = some ⟨48, [(12, none)], A_r4_change.strip⟩ := by kernel_rfl
def A_r4_Jac_L1 : CA := (.seq (.seq (.reg [⟨0, (some 126), none, [], [], (.h (.mov (.t 9)))⟩, ⟨1, (some 127), none, [], [], (.h (.padd (.t 2) 0))⟩, ⟨2, (some 128), none, [], [], (.load (.t 127) 1 false)⟩, ⟨3, (some 129), none, [], [], (.h (.ibin .lss (.t 126) (.t 128)))⟩] [1, 2, 5, 6, 7, 8, 9, 129]) (.cond (.t 129) .skip (.exit 3))) (.seq (.block 4 (.reg [⟨0, (some 132), none, [], [], (.h (.mov (.t 6)))⟩, ⟨1, (some 133), none, [], [], (.h (.mov (.t 7)))⟩, ⟨2, (some 134), none, [], [], (.h (.idx (.t 132) (.t 133) 1))⟩, ⟨3, (some 135), none, [], [], (.load (.t 134) 1 false)⟩, ⟨4, (some 136), none, [], [], (.h (.mov (.t 9)))⟩, ⟨5, (some 137), none, [], [], (.h (.padd (.t 8) 0))⟩, ⟨6, (some 138), none, [], [], (.load (.t 137) 1 false)⟩, ⟨7, (some 139), none, [], [], (.h (.mov (.t 5)))⟩, ⟨8, (some 140), none, [], [], (.h (.padd (.t 8) 1))⟩, ⟨9, (some 141), none, [], [], (.load (.t 140) 1 false)⟩, ⟨10, (some 142), none, [], [], (.h (.idx (.t 139) (.t 141) 1))⟩, ⟨11, (some 143), none, [], [], (.load (.t 142) 1 false)⟩, ⟨12, (some 144), none, [], [], (.h (.mov (.t 5)))⟩, ⟨13, (some 145), none, [], [], (.h (.padd (.t 8) 2))⟩, ⟨14, (some 146), none, [], [], (.load (.t 145) 1 false)⟩, ⟨15, (some 147), none, [], [], (.h (.idx (.t 144) (.t 146) 1))⟩, ⟨16, (some 148), none, [], [], (.load (.t 147) 1 false)⟩, ⟨17, (some 149), none, [], [], (.h (.mov (.t 5)))⟩, ⟨18, (some 150), none, [], [], (.h (.mov (.t 7)))⟩, ⟨19, (some 151), none, [], [], (.h (.idx (.t 149) (.t 150) 1))⟩, ⟨20, (some 152), none, [], [], (.load (.t 151) 1 false)⟩, ⟨21, (some 153), none, [], [], (.h (.mov (.t 6)))⟩, ⟨22, (some 154), none, [], [], (.h (.padd (.t 8) 1))⟩, ⟨23, (some 155), none, [], [], (.load (.t 154) 1 false)⟩, ⟨24, (some 156), none, [], [], (.h (.idx (.t 153) (.t 155) 1))⟩, ⟨25, (some 157), none, [], [], (.load (.t 156) 1 false)⟩, ⟨26, (some 158), none, [], [], (.h (.mov (.t 9)))⟩, ⟨27, (some 159), none, [], [], (.h (.idx (.t 157) (.t 158) 1))⟩, ⟨28, (some 160), none, [], [], (.load (.t 159) 1 false)⟩, ⟨29, (some 161), none, [], [], (.h (.mov (.t 6)))⟩, ⟨30, (some 162), none, [], [], (.h (.padd (.t 8) 2))⟩, ⟨31, (some 163), none, [], [], (.load (.t 162) 1 false)⟩, ⟨32, (some 164), none, [], [], (.h (.idx (.t 161) (.t 163) 1))⟩, ⟨33, (some 165), none, [], [], (.load (.t 164) 1 false)⟩, ⟨34, (some 166), none, [], [], (.h (.mov (.t 9)))⟩, ⟨35, (some 167), none, [], [], (.h (.idx (.t 165) (.t 166) 1))⟩, ⟨36, (some 168), none, [], [], (.load (.t 167) 1 false)⟩, ⟨37, (some 169), none, [], [], (.callS 37 (.k (.d (.fn 84 [] []))) [(.t 138), (.t 143), (.t 148), (.t 152), (.t 160), (.t 168)])⟩, ⟨38, (some 170), none, [], [], (.h (.idx (.t 135) (.t 136) 1))⟩, ⟨39, none, none, [], [], (.store (.t 170) (.t 169) 1)⟩] [1, 2, 5, 6, 7, 8, 9])) (.reg [⟨0, (some 130), none, [], [], (.h (.mov (.t 9)))⟩, ⟨1, (some 131), none, [], [], (.h (.ibin .add (.t 130) (.k (.d (.int .i64 1)))))⟩, ⟨2, (some 9), none, [], [], (.h (.mov (.t 131)))⟩] [1, 2, 5, 6, 7, 8, 9])))
def A_r4_Jac_L0 : CA := (.seq (.seq (.reg [⟨0, (some 20), none, [], [], (.h (.mov (.t 7)))⟩, ⟨1, (some 21), none, [], [], (.h (.padd (.t 2) 1))⟩, ⟨2, (some 22), none, [], [], (.load (.t 21) 1 false)⟩, ⟨3, (some 23), none, [], [], (.h (.len (.t 22)))⟩, ⟨4, (some 24), none, [], [], (.h (.ibin .lss (.t 20) (.t 23)))⟩] [1, 2, 5, 6, 7, 24]) (.cond (.t 24) .skip (.exit 0))) (.seq (.block 1 (.seq (.reg [⟨0, (some 27), none, [], [], (.h (.padd (.t 2) 1))⟩, ⟨1, (some 28), none, [], [], (.load (.t 27) 1 false)⟩, ⟨2, (some 29), none, [], [], (.h (.mov (.t 7)))⟩, ⟨3, (some 30), none, [], [], (.h (.idx (.t 28) (.t 29) 4))⟩, ⟨4, (some 31), none, [], [], (.load (.t 30) 4 true)⟩, ⟨5, (some 8), none, [], [], (.alloc [(.d (.int .i64 0)), (.d (.int .i64 0)), (.d (.int .i64 0)), (.d (.flt 0))] 53)⟩, ⟨6, none, none, [], [], (.store (.t 8) (.t 31) 4)⟩] [1, 2, 5, 6, 7, 8]) (.seq (.reg [⟨0, (some 32), none, [], [], (.h (.mov (.t 6)))⟩, ⟨1, (some 33), none, [], [], (.h (.mov (.t 7)))⟩, ⟨2, (some 34), none, [], [], (.h (.padd (.t 2) 0))⟩, ⟨3, (some 35), none, [], [], (.load (.t 34) 1 false)⟩, ⟨4, (some 36), none, [], [], (.mksl [(.d (.flt 0))] 1 8 (.t 35) (.t 35) 32)⟩, ⟨5, (some 37), none, [], [], (.h (.idx (.t 32) (.t 33) 1))⟩, ⟨6, none, none, [], [], (.store (.t 37) (.t 36) 1)⟩] [1, 2, 5, 6, 7, 8]) (.seq (.seq (.reg [⟨0, (some 38), none, [], [], (.h (.padd (.t 8) 0))⟩, ⟨1, (some 39), none, [], [], (.load (.t 38) 1 false)⟩] [1, 2, 5, 6, 7, 8, 39]) (.block 2 (.seq (.reg [⟨0, (some 55), none, [], [], (.h (.ibin .eql (.t 39) (.k (.d (.int .i64 0)))))⟩, ⟨1, (some 54), none, [], [], (.h (.mov (.t 55)))⟩] [1, 2, 5, 6, 7, 8, 39, 54]) (.cond (.t 54) (.seq (.reg [⟨0, (some 56), none, [], [], (.h (.mov (.t 5)))⟩, ⟨1, (some 57), none, [], [], (.h (.mov (.t 7)))⟩, ⟨2, (some 58), none, [], [], (.h (.padd (.t 8) 3))⟩, ⟨3, (some 59), none, [], [], (.load (.t 58) 1 false)⟩, ⟨4, (some 60), none, [], [], (.h (.idx (.t 56) (.t 57) 1))⟩, ⟨5, none, none, [], [], (.store (.t 60) (.t 59) 1)⟩] [1, 2, 5, 6, 7]) (.exit 1)) (.seq (.reg [⟨0, (some 62), none, [], [], (.h (.ibin .eql (.t 39) (.k (.d (.int .i64 1)))))⟩, ⟨1, (some 61), none, [], [], (.h (.mov (.t 62)))⟩] [1, 2, 5, 6, 7, 8, 39, 61]) (.cond (.t 61) (.seq (.reg [⟨0, (some 63), none, [], [], (.h (.mov (.t 5)))⟩, ⟨1, (some 64), none, [], [], (.h (.mov (.t 7)))⟩, ⟨2, (some 65), none, [], [], (.h (.mov (.t 6)))⟩, ⟨3, (some 66), none, [], [], (.h (.mov (.t 7)))⟩, ⟨4, (some 67), none, [], [], (.h (.idx (.t 65) (.t 66) 1))⟩, ⟨5, (some 68), none, [], [], (.load (.t 67) 1 false)⟩, ⟨6, (some 69), none, [], [], (.h (.padd (.t 8) 1))⟩, ⟨7, (some 70), none, [(.t 8)], [], (.load (.t 69) 1 false)⟩, ⟨8, (some 71), none, [], [], (.h (.mov (.t 1)))⟩, ⟨9, (some 72), none, [], [], (.h (.padd (.t 8) 1))⟩, ⟨10, (some 73), none, [], [], (.load (.t 72) 1 false)⟩, ⟨11, (some 74), none, [], [], (.h (.idx (.t 71) (.t 73) 1))⟩, ⟨12, (some 75), none, [], [], (.load (.t 74) 1 false)⟩, ⟨13, (some 76), none, [], [], (.h (.idx (.t 63) (.t 64) 1))⟩, ⟨14, none, none, [], [(.t 8)], (.store (.t 76) (.t 75) 1)⟩, ⟨15, (some 77), none, [], [], (.h (.idx (.t 68) (.t 70) 1))⟩, ⟨16, none, none, [], [], (.store (.t 77) (.k (.d (.flt 4607182418800017408))) 1)⟩] [1, 2, 5, 6, 7]) (.exit 1)) (.seq (.reg [⟨0, (some 79), none, [], [], (.h (.ibin .eql (.t 39) (.k (.d (.int .i64 2)))))⟩, ⟨1, (some 78), none, [], [], (.h (.mov (.t 79)))⟩] [1, 2, 5, 6, 7, 8, 39, 78]) (.cond (.t 78) (.reg [⟨0, (some 80), none, [], [], (.h (.mov (.t 5)))⟩, ⟨1, (some 81), none, [], [], (.h (.mov (.t 7)))⟩, ⟨2, (some 82), none, [], [], (.h (.mov (.t 5)))⟩, ⟨3, (some 83), none, [], [], (.h (.padd (.t 8) 1))⟩, ⟨4, (some 84), none, [], [], (.load (.t 83) 1 false)⟩, ⟨5, (some 85), none, [], [], (.h (.idx (.t 82) (.t 84) 1))⟩, ⟨6, (some 86), none, [], [], (.load (.t 85) 1 false)⟩, ⟨7, (some 87), none, [], [], (.h (.mov (.t 5)))⟩, ⟨8, (some 88), none, [], [], (.h (.padd (.t 8) 2))⟩, ⟨9, (some 89), none, [], [], (.load (.t 88) 1 false)⟩, ⟨10, (some 90), none, [], [], (.h (.idx (.t 87) (.t 89) 1))⟩, ⟨11, (some 91), none, [], [], (.load (.t 90) 1 false)⟩, ⟨12, (some 92), none, [], [], (.h (.fbin .add (.t 86) (.t 91)))⟩, ⟨13, (some 93), none, [], [], (.h (.idx (.t 80) (.t 81) 1))⟩, ⟨14, none, none, [], [], (.store (.t 93) (.t 92) 1)⟩] [1, 2, 5, 6, 7, 8]) (.seq (.reg [⟨0, (some 95), none, [], [], (.h (.ibin .eql (.t 39) (.k (.d (.int .i64 3)))))⟩, ⟨1, (some 94), none, [], [], (.h (.mov (.t 95)))⟩] [1, 2, 5, 6, 7, 8, 39, 94]) (.cond (.t 94) (.reg [⟨0, (some 96), none, [], [], (.h (.mov (.t 5)))⟩, ⟨1, (some 97), none, [], [], (.h (.mov (.t 7)))⟩, ⟨2, (some 98), none, [], [], (.h (.mov (.t 5)))⟩, ⟨3, (some 99), none, [], [], (.h (.padd (.t 8) 1))⟩, ⟨4, (some 100), none, [], [], (.load (.t 99) 1 false)⟩, ⟨5, (some 101), none, [], [], (.h (.idx (.t 98) (.t 100) 1))⟩, ⟨6, (some 102), none, [], [], (.load (.t 101) 1 false)⟩, ⟨7, (some 103), none, [], [], (.h (.mov (.t 5)))⟩, ⟨8, (some 104), none, [], [], (.h (.padd (.t 8) 2))⟩, ⟨9, (some 105), none, [], [], (.load (.t 104) 1 false)⟩, ⟨10, (some 106), none, [], [], (.h (.idx (.t 103) (.t 105) 1))⟩, ⟨11, (some 107), none, [], [], (.load (.t 106) 1 false)⟩, ⟨12, (some 108), none, [], [], (.h (.fbin .sub (.t 102) (.t 107)))⟩, ⟨13, (some 109), none, [], [], (.h (.idx (.t 96) (.t 97) 1))⟩, ⟨14, none, none, [], [], (.store (.t 109) (.t 108) 1)⟩] [1, 2, 5, 6, 7, 8]) (.seq (.reg [⟨0, (some 111), none, [], [], (.h (.ibin .eql (.t 39) (.k (.d (.int .i64 4)))))⟩, ⟨1, (some 110), none, [], [], (.h (.mov (.t 111)))⟩] [1, 2, 5, 6, 7, 8, 110]) (.cond (.t 110) (.reg [⟨0, (some 112), none, [], [], (.h (.mov (.t 5)))⟩, ⟨1, (some 113), none, [], [], (.h (.mov (.t 7)))⟩, ⟨2, (some 114), none, [], [], (.h (.mov (.t 5)))⟩, ⟨3, (some 115), none, [], [], (.h (.padd (.t 8) 1))⟩, ⟨4, (some 116), none, [], [], (.load (.t 115) 1 false)⟩, ⟨5, (some 117), none, [], [], (.h (.idx (.t 114) (.t 116) 1))⟩, ⟨6, (some 118), none, [], [], (.load (.t 117) 1 false)⟩, ⟨7, (some 119), none, [], [], (.h (.mov (.t 5)))⟩, ⟨8, (some 120), none, [], [], (.h (.padd (.t 8) 2))⟩, ⟨9, (some 121), none, [], [], (.load (.t 120) 1 false)⟩, ⟨10, (some 122), none, [], [], (.h (.idx (.t 119) (.t 121) 1))⟩, ⟨11, (some 123), none, [], [], (.load (.t 122) 1 false)⟩, ⟨12, (some 124), none, [], [], (.h (.fbin .mul (.t 118) (.t 123)))⟩, ⟨13, (some 125), none, [], [], (.h (.idx (.t 112) (.t 113) 1))⟩, ⟨14, none, none, [], [], (.store (.t 125) (.t 124) 1)⟩] [1, 2, 5, 6, 7, 8]) (.reg [⟨0, (some 40), none, [], [], (.h (.mov (.t 5)))⟩, ⟨1, (some 41), none, [], [], (.h (.mov (.t 7)))⟩, ⟨2, (some 42), none, [], [], (.h (.mov (.t 5)))⟩, ⟨3, (some 43), none, [], [], (.h (.padd (.t 8) 1))⟩, ⟨4, (some 44), none, [], [], (.load (.t 43) 1 false)⟩, ⟨5, (some 45), none, [], [], (.h (.idx (.t 42) (.t 44) 1))⟩, ⟨6, (some 46), none, [], [], (.load (.t 45) 1 false)⟩, ⟨7, (some 47), none, [], [], (.h (.mov (.t 5)))⟩, ⟨8, (some 48), none, [], [], (.h (.padd (.t 8) 2))⟩, ⟨9, (some 49), none, [], [], (.load (.t 48) 1 false)⟩, ⟨10, (some 50), none, [], [], (.h (.idx (.t 47) (.t 49) 1))⟩, ⟨11, (some 51), none, [], [], (.load (.t 50) 1 false)⟩, ⟨12, (some 52), none, [], [], (.h (.fbin .div (.t 46) (.t 51)))⟩, ⟨13, (some 53), none, [], [], (.h (.idx (.t 40) (.t 41) 1))⟩, ⟨14, none, none, [], [], (.store (.t 53) (.t 52) 1)⟩] [1, 2, 5, 6, 7, 8]))))))))))))) (.seq (.reg [⟨0, (some 9), none, [], [], (.h (.mov (.k (.d (.int .i64 0)))))⟩] [1, 2, 5, 6, 7, 8, 9]) (.block 3 (.loop A_r4_Jac_L1))))))) (.reg [⟨0, (some 25), none, [], [], (.h (.mov (.t 7)))⟩, ⟨1, (some 26), none, [], [], (.h (.ibin .add (.t 25) (.k (.d (.int .i64 1)))))⟩, ⟨2, (some 7), none, [], [], (.h (.mov (.t 26)))⟩] [1, 2, 5, 6, 7])))
def A_r4_Jac_L2 : CA := (.seq (.seq (.reg [⟨0, (some 171), none, [], [], (.h (.mov (.t 11)))⟩, ⟨1, (some 172), none, [], [], (.h (.padd (.t 2) 0))⟩, ⟨2, (some 173), none, [], [], (.load (.t 172) 1 false)⟩, ⟨3, (some 174), none, [], [], (.h (.ibin .lss (.t 171) (.t 173)))⟩] [2, 6, 10, 11, 174]) (.cond (.t 174) .skip (.exit 5))) (.seq (.block 6 (.reg [⟨0, (some 177), none, [], [], (.h (.mov (.t 10)))⟩, ⟨1, (some 178), none, [], [], (.bslice [] 0 1 [] 32)⟩, ⟨2, (some 179), none, [], [], (.h (.mov (.t 6)))⟩, ⟨3, (some 180), none, [], [], (.h (.padd (.t 2) 2))⟩, ⟨4, (some 181), none, [], [], (.load (.t 180) 1 false)⟩, ⟨5, (some 182), none, [], [], (.h (.mov (.t 11)))⟩, ⟨6, (some 183), none, [], [], (.h (.idx (.t 181) (.t 182) 1))⟩, ⟨7, (some 184), none, [], [], (.load (.t 183) 1 false)⟩, ⟨8, (some 185), none, [], [], (.h (.idx (.t 179) (.t 184) 1))⟩, ⟨9, (some 186), none, [], [], (.load (.t 185) 1 false)⟩, ⟨10, (some 187), none, [], [], (.app (.t 178) (.t 186) 1 8)⟩, ⟨11, (some 188), none, [], [], (.bslice [.nil] 1 1 [(0, (1, (.t 187)))] 31)⟩, ⟨12, (some 189), none, [], [], (.app (.t 177) (.t 188) 1 24)⟩, ⟨13, (some 10), none, [], [], (.h (.mov (.t 189)))⟩] [2, 6, 10, 11])) (.reg [⟨0, (some 175), none, [], [], (.h (.mov (.t 11)))⟩, ⟨1, (some 176), none, [], [], (.h (.ibin .add (.t 175) (.k (.d (.int .i64 1)))))⟩, ⟨2, (some 11), none, [], [], (.h (.mov (.t 176)))⟩] [2, 6, 10, 11])))
def A_r4_Jac : CA := (.seq (.reg [⟨0, (some 2), none, [], [], (.box (.t 0) 3 26)⟩, ⟨1, (some 4), none, [], [], (.h (.mov (.k .nil)))⟩] [1, 2]) (.seq (.reg [⟨0, (some 12), none, [], [], (.h (.padd (.t 2) 1))⟩, ⟨1, (some 13), none, [], [], (.load (.t 12) 1 false)⟩, ⟨2, (some 14), none, [], [], (.h (.len (.t 13)))⟩, ⟨3, (some 15), none, [], [], (.mksl [(.d (.flt 0))] 1 8 (.t 14) (.t 14) 32)⟩, ⟨4, (some 5), none, [], [], (.h (.mov (.t 15)))⟩] [1, 2, 5]) (.seq (.reg [⟨0, (some 16), none, [], [], (.h (.padd (.t 2) 1))⟩, ⟨1, (some 17), none, [], [], (.load (.t 16) 1 false)⟩, ⟨2, (some 18), none, [], [], (.h (.len (.t 17)))⟩, ⟨3, (some 19), none, [], [], (.mksl [.nil] 1 24 (.t 18) (.t 18) 31)⟩, ⟨4, (some 6), none, [], [], (.h (.mov (.t 19)))⟩] [1, 2, 5, 6]) (.seq (.seq (.reg [⟨0, (some 7), none, [], [], (.h (.mov (.k (.d (.int .i64 0)))))⟩] [1, 2, 5, 6, 7]) (.block 0 (.loop A_r4_Jac_L0))) (.seq (.reg [⟨0, (some 10), none, [], [], (.h (.mov (.k .nil)))⟩] [2, 6, 10]) (.seq (.seq (.reg [⟨0, (some 11), none, [], [], (.h (.mov (.k (.d (.int .i64 0)))))⟩] [2, 6, 10, 11]) (.block 5 (.loop A_r4_Jac_L2))) (.seq (.reg [⟨0, (some 190), none, [], [], (.h (.mov (.t 10)))⟩, ⟨1, (some 4), none, [], [], (.h (.mov (.t 190)))⟩] [4]) .ret)))))))
theorem A_r4_Jac_comp : compF Try.prog 72 = some ⟨191, [(4, none)], A_r4_Jac.strip⟩ := by kernel_rfl
theorem r4change_con (k : Int) (u v q da db : Nat) (hk : k = 2 ∨ k = 3 ∨ k = 4 ∨ k = 5) : Con Try.prog 84 [fI k, fl u, fl v, fl q, fl da, fl db] (fl (if k = 2 then fop .add da db else if k = 3 then fop .sub da db else if k = 4 then fop .add (fop .mul da v) (fop .mul u db) else fop .div (fop .sub da (fop .mul q db)) v)) := by
  refine Con_introA A_r4_change_comp rfl mixed ?_
  simp -implicitDefEqProofs only [xC_skip, evS, evT, evU, hv, effC, reduceCtorEq, ↓reduceIte, Nat.reduceEqDiff, Nat.reduceAdd, Nat.reduceMul, Int.reduceToNat, Int.reduceAdd, Int.reduceSub, Int.reduceMul, Int.reduceNeg, Int.reduceLT, Int.reduceLE, Nat.reduceLT, Nat.reduceLeDiff, A_r4_change]
  rcases hk with rfl | rfl | rfl | rfl
  · simp -implicitDefEqProofs only [xC_skip, evS, evT, evU, hv, effC, reduceCtorEq, ↓reduceIte, Nat.reduceEqDiff, Nat.reduceAdd, Nat.reduceMul, Int.reduceToNat, Int.reduceAdd, Int.reduceSub, Int.reduceMul, Int.reduceNeg, Int.reduceLT, Int.reduceLE, Nat.reduceLT, Nat.reduceLeDiff]
    exact endsT_rett rfl (by decide) (by simp [look])
  · simp -implicitDefEqProofs only [xC_skip, evS, evT, evU, hv, effC, reduceCtorEq, ↓reduceIte, Nat.reduceEqDiff, Nat.reduceAdd, Nat.reduceMul, Int.reduceToNat, Int.reduceAdd, Int.reduceSub, Int.reduceMul, Int.reduceNeg, Int.reduceLT, Int.reduceLE, Nat.reduceLT, Nat.reduceLeDiff, Int.reduceBEq]
    exact endsT_rett rfl (by decide) (by simp [look])
  · simp -implicitDefEqProofs only [xC_skip, evS, evT, evU, hv, effC, reduceCtorEq, ↓reduceIte, Nat.reduceEqDiff, Nat.reduceAdd, Nat.reduceMul, Int.reduceToNat, Int.reduceAdd, Int.reduceSub, Int.reduceMul, Int.reduceNeg, Int.reduceLT, Int.reduceLE, Nat.reduceLT, Nat.reduceLeDiff, Int.reduceBEq]
    exact endsT_rett rfl (by decide) (by simp [look])
  · simp -implicitDefEqProofs only [xC_skip, evS, evT, evU, hv, effC, reduceCtorEq, ↓reduceIte, Nat.reduceEqDiff, Nat.reduceAdd, Nat.reduceMul, Int.reduceToNat, Int.reduceAdd, Int.reduceSub, Int.reduceMul, Int.reduceNeg, Int.reduceLT, Int.reduceLE, Nat.reduceLT, Nat.reduceLeDiff, Int.reduceBEq]
    exact endsT_rett rfl (by decide) (by simp [look])
theorem regs_pre (t : Tp) (x : List Nat) (i m j : Nat) (h : i ≤ m) (hj : j < i) : (regs t x m).getD j 0 = (regs t x i).getD j 0 := by
  induction m with
  | zero => omega
  | succ m ih =>
    by_cases e : i = m + 1
    · subst e; rfl
    · have hl := regs_len t x m
      rw [regs, List.getD_eq_getElem?_getD, List.getElem?_append_left (by omega), ← List.getD_eq_getElem?_getD]
      exact ih (by omega)
theorem drs_pre (t : Tp) (x : List Nat) (i m j : Nat) (h : i ≤ m) (hj : j < i) : (drs t x m).getD j [] = (drs t x i).getD j [] := by
  induction m with
  | zero => omega
  | succ m ih =>
    by_cases e : i = m + 1
    · subst e; rfl
    · have hl := drs_len t x m
      rw [drs, List.getD_eq_getElem?_getD, List.getElem?_append_left (by omega), ← List.getD_eq_getElem?_getD]
      exact ih (by omega)
def rG (t : Tp) (x : List Nat) (i : Nat) : Nat := (regs t x t.ops.length).getD i 0
def dG (t : Tp) (x : List Nat) (i : Nat) : D := rowD ((drs t x t.ops.length).getD i [])
theorem outC_set_get (n : Nat) (g : Nat → D) (i j : Nat) (v : V) (hj : j < i) (hi : i < n) : ((outC n g i).set i v).getD j .any = .d (g j) := by
  rw [List.getD_eq_getElem?_getD, List.getElem?_set_ne (by omega), ← List.getD_eq_getElem?_getD, outC_get, if_pos (by omega), if_pos hj]
theorem outC_set_cells (n : Nat) (g : Nat → D) (i k : Nat) (v : V) (hv : v.isCell = true) : ((outC n g i).set k v).all V.isCell = true := by
  rw [List.all_eq_true]
  intro w hw
  rcases List.mem_or_eq_of_mem_set hw with h1 | rfl
  · exact List.all_eq_true.1 (outC_cells n g i) w h1
  · exact hv
abbrev rS0 (t : Tp) (x : List Nat) (i : Nat) : Sl := [(1, .d (rowD x)), (2, .ptr 0 0 0 3), (5, .sl 4 0 0 t.ops.length 1 t.ops.length), (6, .sl 8 0 0 t.ops.length 1 t.ops.length), (7, fI i)]
abbrev rT0 (t : Tp) (x : List Nat) (i : Nat) : T := ⟨rS0 t x i, [(8, [outC t.ops.length (dG t x) i]), (4, [rowV (fillR (rG t x) t.ops.length i)]), (0, [jtT t])]⟩
theorem outC_set_self (n : Nat) (g : Nat → D) (i : Nat) (v : V) (hi : i < n) : ((outC n g i).set i v).getD i .any = v := by
  rw [List.getD_eq_getElem?_getD, List.getElem?_set_self (by rw [outC_len]; exact hi)]; rfl
theorem r4_next (t : Tp) (x : List Nat) (i : Nat) (junk : List (List V)) (d : List Nat) (hD : (drs t x t.ops.length).getD i [] = d) (hl : d.length = t.n) :
    Le (fun _ => False) (T.s 191 ⟨rS0 t x (i + 1), [(19, [rowV d]), (14, junk), (8, [(outC t.ops.length (dG t x) i).set i (.sl 19 0 0 t.n 1 t.n)]), (4, [rowV (fillR (rG t x) t.ops.length (i + 1))]), (0, [jtT t])]⟩) (T.s 191 (rT0 t x (i + 1))) := by
  have hz : ∀ L L' : Heap, L.get 19 0 = some (rowV d) → L'.get 19 0 = none → Fz L L' (.sl 19 0 0 t.n 1 t.n) (.d (dG t x i)) := fun L L' a b => by
    unfold dG; rw [hD]; exact Fz_row a hl rfl b
  exact LeT.weak (fun _ h => h) (by simp (maxDischargeDepth := 6) [Fz_rowD, Fz_rowI, Fz_rowsD, FzS_cons, FzS_nil, FzH_cons, FzH_nil, FzF_cons, FzF_nil, FzF_rows, FzA_cons, FzA_nil, FzA_app, FzA_rowV, FzA_dcells, FzA_outC, FzA_data, Fz_d, Fz_nil, Fz_any, Fz_ptr, Fz_sl, Fz_agg, get_cons, get_nil, fam_cons, fam_nil]) (by simp (maxDischargeDepth := 6) [Fz_rowD, Fz_rowI, Fz_rowsD, FzS_cons, FzS_nil, FzH_cons, FzH_nil, FzF_cons, FzF_nil, FzF_rows, FzA_cons, FzA_nil, FzA_app, FzA_rowV, FzA_dcells, FzA_outC, FzA_data, Fz_d, Fz_nil, Fz_any, Fz_ptr, Fz_sl, Fz_agg, get_cons, get_nil, fam_cons, fam_nil, hz, FzA_outC_set])
theorem slo_var (o : OpN) (q : Nat) (r : List Nat) (dr : List (List Nat)) (n : Nat) (hk : o.k = 1) (ha : 0 ≤ o.a ∧ o.a < n) : tabR (slo o q r dr) n = (List.replicate n 0).set o.a.toNat oneW := by
  refine List.ext_getElem (by simp [tabR_len]) fun k h1 h2 => ?_
  rw [tabR_len] at h1
  simp only [tabR, List.getElem_map, List.getElem_range, List.getElem_set, List.getElem_replicate, slo]
  by_cases e : o.a = (k : Int)
  · rw [if_pos ⟨hk, e⟩, if_pos (by omega)]
  · rw [if_neg (fun h => e h.2), if_pos (.inr hk), if_neg (by omega)]
theorem slo_const (o : OpN) (q : Nat) (r : List Nat) (dr : List (List Nat)) (n : Nat) (hk : o.k = 0) : tabR (slo o q r dr) n = List.replicate n 0 := by
  refine List.ext_getElem (by simp [tabR_len]) fun k h1 h2 => ?_
  simp [tabR, slo, hk]
abbrev r4H (t : Tp) (x : List Nat) (i : Nat) (o : OpN) (d : List Nat) : Heap := [(19, [rowV d]), (14, [opC o]), (8, [(outC t.ops.length (dG t x) i).set i (.sl 19 0 0 t.n 1 t.n)]), (4, [rowV (fillR (rG t x) t.ops.length (i + 1))]), (0, [jtT t])]
abbrev r4S (t : Tp) (x : List Nat) (i k : Nat) : Sl := [(1, .d (rowD x)), (2, .ptr 0 0 0 3), (5, .sl 4 0 0 t.ops.length 1 t.ops.length), (6, .sl 8 0 0 t.ops.length 1 t.ops.length), (7, fI i), (8, .ptr 14 0 0 4), (9, fI k)]
set_option maxRecDepth 8000 in
theorem r4_L1 (t : Tp) (x : List Nat) (i : Nat) (o : OpN) (f : Nat → Nat) (hn : t.n < 2 ^ 20) (hlen : t.ops.length < 2 ^ 40) (h : i < t.ops.length) (hk : o.k = 2 ∨ o.k = 3 ∨ o.k = 4 ∨ o.k = 5) (ha : 0 ≤ o.a ∧ o.a < (i : Int)) (hb : 0 ≤ o.b ∧ o.b < (i : Int))
    (hf : f = slo o (rG t x i) (regs t x i) (drs t x i)) (Q : Ex → T → Prop) (hQ : Q (.exit 3) ⟨r4S t x i t.n ++ [(129, fB false)], r4H t x i o (tabR f t.n)⟩) :
    WA Try.prog (fun _ => False) 191 A_r4_Jac_L1.loop Q ⟨r4S t x i 0, r4H t x i o (List.replicate t.n 0)⟩ := by
  rw [← fillR_zero f]
  have rl := fillR_len (rG t x) t.ops.length (i + 1)
  have rget : ∀ j, j < i + 1 → (rowV (fillR (rG t x) t.ops.length (i + 1))).getD j .any = fl (rG t x j) := fun j hj => by
    rw [getD_map_fl _ _ (by omega)]
    simp [fillR, List.getD_eq_getElem?_getD, hj, show j < t.ops.length by omega]
  have r1 := rget o.a.toNat (by omega)
  have r2 := rget o.b.toNat (by omega)
  have r3 := rget i (by omega)
  have s1 := outC_set_get t.ops.length (dG t x) i o.a.toNat (.sl 19 0 0 t.n 1 t.n) (by omega) h
  have s2 := outC_set_get t.ops.length (dG t x) i o.b.toNat (.sl 19 0 0 t.n 1 t.n) (by omega) h
  have s3 := outC_set_self t.ops.length (dG t x) i (.sl 19 0 0 t.n 1 t.n) h
  have sl : ((outC t.ops.length (dG t x) i).set i (V.sl 19 0 0 t.n 1 t.n)).length = t.ops.length := by rw [List.length_set, outC_len]
  have d1 := drs_rows t x t.ops.length o.a.toNat (by omega)
  have d2 := drs_rows t x t.ops.length o.b.toNat (by omega)
  refine WA_for (n := t.n) (fun c s => ∃ k, c + k = t.n ∧ s = ⟨r4S t x i k, r4H t x i o (fillR f t.n k)⟩) ⟨0, by omega, rfl⟩ ?_
  rintro c s ⟨k, hc, rfl⟩
  have hkl := fillR_len f t.n k
  simp -implicitDefEqProofs only [xC_skip, evS, evT, evU, hv, effC, reduceCtorEq, ↓reduceIte, Nat.reduceEqDiff, Nat.reduceAdd, Nat.reduceMul, Int.reduceToNat, Int.reduceAdd, Int.reduceSub, Int.reduceMul, Int.reduceNeg, Int.reduceLT, Int.reduceLE, Nat.reduceLT, Nat.reduceLeDiff, A_r4_Jac_L1]
  refine condC_intro (fun hi => ?_) (fun hi => ?_)
  · replace hi := of_decide_eq_true hi
    have hfs := fillR_set f t.n k hi
    generalize fillR f t.n k = d at hkl hfs
    have hol := outC_len t.ops.length (dG t x) i
    simp -implicitDefEqProofs only [xC_skip, evS, evT, evU, hv, effC, reduceCtorEq, ↓reduceIte, Nat.reduceEqDiff, Nat.reduceAdd, Nat.reduceMul, Int.reduceToNat, Int.reduceAdd, Int.reduceSub, Int.reduceMul, Int.reduceNeg, Int.reduceLT, Int.reduceLE, Nat.reduceLT, Nat.reduceLeDiff, r1, r2, r3, s1, s2, s3, dG]
    repeat (with_reducible refine And.intro (by omega) ?_)
    first | refine callG_con (r4change_con o.k (rG t x o.a.toNat) (rG t x o.b.toNat) (rG t x i) (((drs t x t.ops.length).getD o.a.toNat []).getD k 0) (((drs t x t.ops.length).getD o.b.toNat []).getD k 0) hk) rfl ?_ | refine callCG_con (r4change_con o.k (rG t x o.a.toNat) (rG t x o.b.toNat) (rG t x i) (((drs t x t.ops.length).getD o.a.toNat []).getD k 0) (((drs t x t.ops.length).getD o.b.toNat []).getD k 0) hk) rfl ?_ | refine callSG_con (r4change_con o.k (rG t x o.a.toNat) (rG t x o.b.toNat) (rG t x i) (((drs t x t.ops.length).getD o.a.toNat []).getD k 0) (((drs t x t.ops.length).getD o.b.toNat []).getD k 0) hk) rfl ?_
    have ef : (if o.k = 2 then fop .add (((drs t x t.ops.length).getD o.a.toNat []).getD k 0) (((drs t x t.ops.length).getD o.b.toNat []).getD k 0) else if o.k = 3 then fop .sub (((drs t x t.ops.length).getD o.a.toNat []).getD k 0) (((drs t x t.ops.length).getD o.b.toNat []).getD k 0) else if o.k = 4 then fop .add (fop .mul (((drs t x t.ops.length).getD o.a.toNat []).getD k 0) (rG t x o.b.toNat)) (fop .mul (rG t x o.a.toNat) (((drs t x t.ops.length).getD o.b.toNat []).getD k 0)) else fop .div (fop .sub (((drs t x t.ops.length).getD o.a.toNat []).getD k 0) (fop .mul (rG t x i) (((drs t x t.ops.length).getD o.b.toNat []).getD k 0))) (rG t x o.b.toNat)) = f k := by
      rw [hf]
      unfold slo rG
      rw [drs_pre t x i t.ops.length o.a.toNat (by omega) (by omega), drs_pre t x i t.ops.length o.b.toNat (by omega) (by omega), regs_pre t x i t.ops.length o.a.toNat (by omega) (by omega), regs_pre t x i t.ops.length o.b.toNat (by omega) (by omega)]
      rcases hk with hk | hk | hk | hk <;> simp [hk]
    rw [ef]
    simp -implicitDefEqProofs only [xC_skip, evS, evT, evU, hv, effC, reduceCtorEq, ↓reduceIte, Nat.reduceEqDiff, Nat.reduceAdd, Nat.reduceMul, Int.reduceToNat, Int.reduceAdd, Int.reduceSub, Int.reduceMul, Int.reduceNeg, Int.reduceLT, Int.reduceLE, Nat.reduceLT, Nat.reduceLeDiff]
    (repeat (with_reducible refine And.intro (by omega) ?_))
    rw [wrapI (by omega) (by omega), hfs]
    exact ⟨c - 1, by omega, k + 1, by omega, rfl⟩
  · replace hi := of_decide_eq_false hi
    have e : k = t.n := by omega
    subst e
    rw [fillR_all]
    simp -implicitDefEqProofs only [xC_skip, evS, evT, evU, hv, effC, reduceCtorEq, ↓reduceIte, Nat.reduceEqDiff, Nat.reduceAdd, Nat.reduceMul, Int.reduceToNat, Int.reduceAdd, Int.reduceSub, Int.reduceMul, Int.reduceNeg, Int.reduceLT, Int.reduceLE, Nat.reduceLT, Nat.reduceLeDiff, Nat.lt_irrefl]
    exact hQ
set_option maxRecDepth 8000 in
theorem r4_Jac_ac (t : Tp) (x : List Nat) (ht : Tok t) (hx : x.length = t.n) : AC Try.prog 72 [tapeV t, .d (rowD x)] [] [(21, (jacT t x).map rowV), (20, [hdo 21 0 t.n t.n])] (.sl 20 0 0 t.n 1 t.n) := by
  have hn := ht.n
  have hlen := ht.len
  refine AC_introA A_r4_Jac_comp rfl mixed (fun _ => False) (by simp [get_nil]) ?_
  simp -implicitDefEqProofs only [xC_skip, evS, evT, evU, hv, effC, reduceCtorEq, ↓reduceIte, Nat.reduceEqDiff, Nat.reduceAdd, Nat.reduceMul, Int.reduceToNat, Int.reduceAdd, Int.reduceSub, Int.reduceMul, Int.reduceNeg, Int.reduceLT, Int.reduceLE, Nat.reduceLT, Nat.reduceLeDiff, A_r4_Jac, opsD]
  have hm0 : (t.ops.length : Int) * 8 ≤ 281474976710656 := by omega
  refine ⟨hm0, by omega, ?_⟩
  rw [outC_zero t.ops.length (dG t x), ← fillR_zero (rG t x)]
  refine WA_forW (n := t.ops.length) (fun c s => ∃ i, c + i = t.ops.length ∧ s = rT0 t x i) (Le.refl _) ⟨0, by omega, rfl⟩ ?_
  rintro c s ⟨i, hc, rfl⟩
  have hrl := fillR_len (rG t x) t.ops.length i
  have hol := outC_len t.ops.length (dG t x) i
  simp -implicitDefEqProofs only [xC_skip, evS, evT, evU, hv, effC, reduceCtorEq, ↓reduceIte, Nat.reduceEqDiff, Nat.reduceAdd, Nat.reduceMul, Int.reduceToNat, Int.reduceAdd, Int.reduceSub, Int.reduceMul, Int.reduceNeg, Int.reduceLT, Int.reduceLE, Nat.reduceLT, Nat.reduceLeDiff, A_r4_Jac_L0, opsD]
  refine condC_intro (fun h => ?_) (fun h => ?_)
  · replace h := of_decide_eq_true h
    have hop := ht.op i h
    have hra := regs_last t x i
    have hda := drs_last t x i
    rw [← regs_pre t x (i + 1) t.ops.length i (by omega) (by omega)] at hra
    rw [← drs_pre t x (i + 1) t.ops.length i (by omega) (by omega)] at hda
    generalize ho : t.ops.getD i ⟨0, 0, 0, 0⟩ = o at hop hra hda
    have hs := fillR_set (rG t x) t.ops.length i h
    have rget : ∀ j, j < i → (rowV (fillR (rG t x) t.ops.length i)).getD j .any = fl (rG t x j) := fun j hj => by
      rw [getD_map_fl _ _ (by omega)]
      simp [fillR, List.getD_eq_getElem?_getD, hj, show j < t.ops.length by omega]
    generalize fillR (rG t x) t.ops.length i = R at hrl hs rget
    simp -implicitDefEqProofs only [xC_skip, evS, evT, evU, hv, effC, reduceCtorEq, ↓reduceIte, Nat.reduceEqDiff, Nat.reduceAdd, Nat.reduceMul, Int.reduceToNat, Int.reduceAdd, Int.reduceSub, Int.reduceMul, Int.reduceNeg, Int.reduceLT, Int.reduceLE, Nat.reduceLT, Nat.reduceLeDiff, opG, ho, opsD]
    (repeat (with_reducible refine And.intro (by omega) ?_))
    (repeat (with_reducible refine And.intro (by omega) ?_))
    (repeat (with_reducible refine And.intro (by omega) ?_))
    rcases hop with hk | ⟨hk, ha⟩ | ⟨hk, ha, hb⟩
    · simp -implicitDefEqProofs only [xC_skip, evS, evT, evU, hv, effC, reduceCtorEq, ↓reduceIte, Nat.reduceEqDiff, Nat.reduceAdd, Nat.reduceMul, Int.reduceToNat, Int.reduceAdd, Int.reduceSub, Int.reduceMul, Int.reduceNeg, Int.reduceLT, Int.reduceLE, Nat.reduceLT, Nat.reduceLeDiff, hk]
      refine ⟨by omega, ⟨hrl, by omega⟩, ?_⟩
      have e : o.c = rG t x i := by rw [rG, hra]; simp [opV, hk]
      rw [wrapI (by omega) (by omega), e, hs]
      rw [slo_const _ _ _ _ _ hk] at hda
      exact ⟨c - 1, _, by omega, r4_next t x i _ _ hda (by simp), i + 1, by omega, rfl⟩
    · simp -implicitDefEqProofs only [xC_skip, evS, evT, evU, hv, effC, reduceCtorEq, ↓reduceIte, Nat.reduceEqDiff, Nat.reduceAdd, Nat.reduceMul, Int.reduceToNat, Int.reduceAdd, Int.reduceSub, Int.reduceMul, Int.reduceNeg, Int.reduceLT, Int.reduceLE, Nat.reduceLT, Nat.reduceLeDiff, hk, Int.reduceBEq, outC_set_self t.ops.length (dG t x) i (V.sl 19 0 0 t.n 1 t.n) h]
      repeat (with_reducible refine And.intro (by omega) ?_)
      have e : x.getD o.a.toNat 0 = rG t x i := by rw [rG, hra]; simp [opV, hk]
      rw [wrapI (by omega) (by omega), e, hs]
      rw [slo_var _ _ _ _ _ hk ha] at hda
      exact ⟨c - 1, _, by omega, r4_next t x i _ _ hda (by simp), i + 1, by omega, rfl⟩
    · have r1 := rget o.a.toNat (by omega)
      have r2 := rget o.b.toNat (by omega)
      have p1 := regs_pre t x i t.ops.length o.a.toNat (by omega) (by omega)
      have p2 := regs_pre t x i t.ops.length o.b.toNat (by omega) (by omega)
      have hvv : opV o x (regs t x i) = rG t x i := by rw [rG, hra]
      rw [hvv] at hda
      have hk4 := hk
      rcases hk with hk | hk | hk | hk
      · simp -implicitDefEqProofs only [xC_skip, evS, evT, evU, hv, effC, reduceCtorEq, ↓reduceIte, Nat.reduceEqDiff, Nat.reduceAdd, Nat.reduceMul, Int.reduceToNat, Int.reduceAdd, Int.reduceSub, Int.reduceMul, Int.reduceNeg, Int.reduceLT, Int.reduceLE, Nat.reduceLT, Nat.reduceLeDiff, hk, Int.reduceBEq, r1, r2]
        repeat (with_reducible refine And.intro (by omega) ?_)
        have e : fop .add (rG t x o.a.toNat) (rG t x o.b.toNat) = rG t x i := by
          rw [← hvv]; unfold rG; rw [p1, p2]; simp [opV, hk]
        rw [e, hs]
        rw [← hk]
        refine r4_L1 t x i o _ ht.n hlen h hk4 ha hb rfl _ ?_
        simp -implicitDefEqProofs only [xC_skip, evS, evT, evU, hv, effC, reduceCtorEq, ↓reduceIte, Nat.reduceEqDiff, Nat.reduceAdd, Nat.reduceMul, Int.reduceToNat, Int.reduceAdd, Int.reduceSub, Int.reduceMul, Int.reduceNeg, Int.reduceLT, Int.reduceLE, Nat.reduceLT, Nat.reduceLeDiff]
        rw [wrapI (by omega) (by omega)]
        exact ⟨c - 1, _, by omega, r4_next t x i _ _ hda (tabR_len _ _), i + 1, by omega, rfl⟩
      · simp -implicitDefEqProofs only [xC_skip, evS, evT, evU, hv, effC, reduceCtorEq, ↓reduceIte, Nat.reduceEqDiff, Nat.reduceAdd, Nat.reduceMul, Int.reduceToNat, Int.reduceAdd, Int.reduceSub, Int.reduceMul, Int.reduceNeg, Int.reduceLT, Int.reduceLE, Nat.reduceLT, Nat.reduceLeDiff, hk, Int.reduceBEq, r1, r2]
        repeat (with_reducible refine And.intro (by omega) ?_)
        have e : fop .sub (rG t x o.a.toNat) (rG t x o.b.toNat) = rG t x i := by
          rw [← hvv]; unfold rG; rw [p1, p2]; simp [opV, hk]
        rw [e, hs]
        rw [← hk]
        refine r4_L1 t x i o _ ht.n hlen h hk4 ha hb rfl _ ?_
        simp -implicitDefEqProofs only [xC_skip, evS, evT, evU, hv, effC, reduceCtorEq, ↓reduceIte, Nat.reduceEqDiff, Nat.reduceAdd, Nat.reduceMul, Int.reduceToNat, Int.reduceAdd, Int.reduceSub, Int.reduceMul, Int.reduceNeg, Int.reduceLT, Int.reduceLE, Nat.reduceLT, Nat.reduceLeDiff]
        rw [wrapI (by omega) (by omega)]
        exact ⟨c - 1, _, by omega, r4_next t x i _ _ hda (tabR_len _ _), i + 1, by omega, rfl⟩
      · simp -implicitDefEqProofs only [xC_skip, evS, evT, evU, hv, effC, reduceCtorEq, ↓reduceIte, Nat.reduceEqDiff, Nat.reduceAdd, Nat.reduceMul, Int.reduceToNat, Int.reduceAdd, Int.reduceSub, Int.reduceMul, Int.reduceNeg, Int.reduceLT, Int.reduceLE, Nat.reduceLT, Nat.reduceLeDiff, hk, Int.reduceBEq, r1, r2]
        repeat (with_reducible refine And.intro (by omega) ?_)
        have e : fop .mul (rG t x o.a.toNat) (rG t x o.b.toNat) = rG t x i := by
          rw [← hvv]; unfold rG; rw [p1, p2]; simp [opV, hk]
        rw [e, hs]
        rw [← hk]
        refine r4_L1 t x i o _ ht.n hlen h hk4 ha hb rfl _ ?_
        simp -implicitDefEqProofs only [xC_skip, evS, evT, evU, hv, effC, reduceCtorEq, ↓reduceIte, Nat.reduceEqDiff, Nat.reduceAdd, Nat.reduceMul, Int.reduceToNat, Int.reduceAdd, Int.reduceSub, Int.reduceMul, Int.reduceNeg, Int.reduceLT, Int.reduceLE, Nat.reduceLT, Nat.reduceLeDiff]
        rw [wrapI (by omega) (by omega)]
        exact ⟨c - 1, _, by omega, r4_next t x i _ _ hda (tabR_len _ _), i + 1, by omega, rfl⟩
      · simp -implicitDefEqProofs only [xC_skip, evS, evT, evU, hv, effC, reduceCtorEq, ↓reduceIte, Nat.reduceEqDiff, Nat.reduceAdd, Nat.reduceMul, Int.reduceToNat, Int.reduceAdd, Int.reduceSub, Int.reduceMul, Int.reduceNeg, Int.reduceLT, Int.reduceLE, Nat.reduceLT, Nat.reduceLeDiff, hk, Int.reduceBEq, r1, r2]
        repeat (with_reducible refine And.intro (by omega) ?_)
        have e : fop .div (rG t x o.a.toNat) (rG t x o.b.toNat) = rG t x i := by
          rw [← hvv]; unfold rG; rw [p1, p2]; simp [opV, hk]
        rw [e, hs]
        rw [← hk]
        refine r4_L1 t x i o _ ht.n hlen h hk4 ha hb rfl _ ?_
        simp -implicitDefEqProofs only [xC_skip, evS, evT, evU, hv, effC, reduceCtorEq, ↓reduceIte, Nat.reduceEqDiff, Nat.reduceAdd, Nat.reduceMul, Int.reduceToNat, Int.reduceAdd, Int.reduceSub, Int.reduceMul, Int.reduceNeg, Int.reduceLT, Int.reduceLE, Nat.reduceLT, Nat.reduceLeDiff]
        rw [wrapI (by omega) (by omega)]
        exact ⟨c - 1, _, by omega, r4_next t x i _ _ hda (tabR_len _ _), i + 1, by omega, rfl⟩
  · replace h := of_decide_eq_false h
    have e : i = t.ops.length := by omega
    subst e
    simp -implicitDefEqProofs only [xC_skip, evS, evT, evU, hv, effC, reduceCtorEq, ↓reduceIte, Nat.reduceEqDiff, Nat.reduceAdd, Nat.reduceMul, Int.reduceToNat, Int.reduceAdd, Int.reduceSub, Int.reduceMul, Int.reduceNeg, Int.reduceLT, Int.reduceLE, Nat.reduceLT, Nat.reduceLeDiff]
    have hjl := jacT_len t x
    have hgl := ht.outl
    refine WA_forW (n := t.n) (fun c s => ∃ i, c + i = t.n ∧ s = ⟨[(2, .ptr 0 0 0 3), (6, .sl 8 0 0 t.ops.length 1 t.ops.length), (10, .sl 20 0 0 i 1 i), (11, fI i)],
      [(21, ((jacT t x).take i).map rowV), (20, [hdo 21 0 i t.n]), (8, [outC t.ops.length (dG t x) t.ops.length]), (4, [rowV (fillR (rG t x) t.ops.length t.ops.length)]), (0, [jtT t])]⟩)
      (s0 := ⟨_, _⟩) (Le.trans (LeT.nilrow (X := 20) (esz := 1) (as' := [(2, .ptr 0 0 0 3), (6, .sl 8 0 0 t.ops.length 1 t.ops.length), (10, .sl 20 0 0 0 1 0), (11, fI 0)]) (by simp [fam_cons, fam_nil]) (fun h => h) fun i => ?_) (LeT.empty (X := 21) (L1 := []) (by simp [fam_cons, fam_nil]))) ⟨0, by omega, rfl⟩ ?_
    · simp only [look]
      repeat' split
      all_goals simp
    rintro c s ⟨i, hc, rfl⟩
    simp -implicitDefEqProofs only [xC_skip, evS, evT, evU, hv, effC, reduceCtorEq, ↓reduceIte, Nat.reduceEqDiff, Nat.reduceAdd, Nat.reduceMul, Int.reduceToNat, Int.reduceAdd, Int.reduceSub, Int.reduceMul, Int.reduceNeg, Int.reduceLT, Int.reduceLE, Nat.reduceLT, Nat.reduceLeDiff, A_r4_Jac_L2]
    refine condC_intro (fun hi => ?_) (fun hi => ?_)
    · replace hi := of_decide_eq_true hi
      have hgo := ht.out i hi
      have hcell : (outC t.ops.length (dG t x) t.ops.length).getD (t.out.getD i 0).toNat .any = .d (dG t x (t.out.getD i 0).toNat) := by
        rw [outC_get, if_pos (by omega), if_pos (by omega)]
      have hjr : (jacT t x).getD i [] = (drs t x t.ops.length).getD (t.out.getD i 0).toNat [] := by
        unfold jacT
        rw [List.getD_eq_getElem?_getD, List.getElem?_map, List.getElem?_range hi]; rfl
      have hrl : ((jacT t x).getD i []).length = t.n := by rw [hjr]; exact drs_rows t x _ _ (by omega)
      have hdg : dG t x (t.out.getD i 0).toNat = rowD ((jacT t x).getD i []) := by rw [hjr]; rfl
      rw [hdg] at hcell
      simp -implicitDefEqProofs only [xC_skip, evS, evT, evU, hv, effC, reduceCtorEq, ↓reduceIte, Nat.reduceEqDiff, Nat.reduceAdd, Nat.reduceMul, Int.reduceToNat, Int.reduceAdd, Int.reduceSub, Int.reduceMul, Int.reduceNeg, Int.reduceLT, Int.reduceLE, Nat.reduceLT, Nat.reduceLeDiff, hcell]
      (repeat (with_reducible refine And.intro (by omega) ?_))
      have hti : ((jacT t x).take i).length = i := by simp [hjl]; omega
      have hk1 : ∀ L : Heap, L.fam 21 = some (((jacT t x).take i).map rowV) → KpA L (hdo 21 0 i t.n) := fun L hL => KpA_hdoF hL (by omega)
      have htf := take_fam (jacT t x) i (by omega)
      rw [hrl, wrapI (by omega) (by omega)]
      refine ⟨c - 1, _, by omega, ?_, i + 1, by omega, rfl⟩
      rw [← htf]
      generalize (jacT t x).take i = B at hti hk1
      refine Le.trans (LeT.only (L' := [(23, [rowV ((jacT t x).getD i [])]), (21, B.map rowV), (20, [hdo 21 0 i t.n ++ [.sl 23 0 0 t.n 1 t.n]]), (8, [outC t.ops.length (dG t x) t.ops.length]), (4, [rowV (fillR (rG t x) t.ops.length t.ops.length)]), (0, [jtT t])])
        (fun X => X != 33) (fun _ h => h) rfl (by simp (maxDischargeDepth := 6) [KpS_cons, KpS_nil, KpH_cons, KpH_nil, KpF_cons, KpF_nil, KpF_rows, KpA_cons, KpA_nil, KpA_app, KpA_rowV, KpA_rowIV, KpA_dcells, KpA_outC, Kp_any, Kp_nilv, Kp_d, Kp_ptr, Kp_sl, Kp_agg, Kp_tup, Kp_fn, get_cons, get_nil, fam_cons, fam_nil]) (by simp (maxDischargeDepth := 6) [KpS_cons, KpS_nil, KpH_cons, KpH_nil, KpF_cons, KpF_nil, KpF_rows, KpA_cons, KpA_nil, KpA_app, KpA_rowV, KpA_rowIV, KpA_dcells, KpA_outC, Kp_any, Kp_nilv, Kp_d, Kp_ptr, Kp_sl, Kp_agg, Kp_tup, Kp_fn, get_cons, get_nil, fam_cons, fam_nil, hk1])) ?_
      have := LeT.absorb (N := fun _ => False) (nt := 191) (Y := 23) (X := 21) (cells := rowV ((jacT t x).getD i [])) (fam := B.map rowV) (L := [(20, [hdo 21 0 i t.n ++ [.sl 23 0 0 t.n 1 t.n]]), (8, [outC t.ops.length (dG t x) t.ops.length]), (4, [rowV (fillR (rG t x) t.ops.length t.ops.length)]), (0, [jtT t])])
        (sls := [(2, .ptr 0 0 0 3), (6, .sl 8 0 0 t.ops.length 1 t.ops.length), (10, .sl 20 0 0 (i + 1) 1 (i + 1)), (11, fI (i + 1 : Nat))]) (by decide) (by simp [fam_cons, fam_nil]) (by simp [fam_cons, fam_nil]) (fun h => h)
      have e2 : (B.map rowV).length = i := by rw [List.length_map]; exact hti
      have e3 : Heap.renH (absF 23 21 i) [(20, [hdo 21 0 i t.n ++ [.sl 23 0 0 t.n 1 t.n]]), (8, [outC t.ops.length (dG t x) t.ops.length]), (4, [rowV (fillR (rG t x) t.ops.length t.ops.length)]), (0, [jtT t])] =
          [(20, [hdo 21 0 (i + 1) t.n]), (8, [outC t.ops.length (dG t x) t.ops.length]), (4, [rowV (fillR (rG t x) t.ops.length t.ops.length)]), (0, [jtT t])] := by
        simp only [Heap.renH, List.map_cons, List.map_nil, hdo_absorbL 23 21 _ _ (by decide), ren_rowV, outC_all, ren_dcells]
        simp [V.ren]
      rw [e2, ren_fam, ren_rowV, e3] at this
      exact this
    · replace hi := of_decide_eq_false hi
      have e : i = t.n := by omega
      subst e
      simp -implicitDefEqProofs only [xC_skip, evS, evT, evU, hv, effC, reduceCtorEq, ↓reduceIte, Nat.reduceEqDiff, Nat.reduceAdd, Nat.reduceMul, Int.reduceToNat, Int.reduceAdd, Int.reduceSub, Int.reduceMul, Int.reduceNeg, Int.reduceLT, Int.reduceLE, Nat.reduceLT, Nat.reduceLeDiff]
      have e : (jacT t x).take t.n = jacT t x := List.take_of_length_le (by omega)
      have hk1 : ∀ L : Heap, L.fam 21 = some ((jacT t x).map rowV) → KpA L (hdo 21 0 t.n t.n) := fun L hL => KpA_hdoF hL (by omega)
      rw [e]
      exact endsT_only (fun X => X == 21 || X == 20) (fun _ h => h) (resV_tmpI (t := 4) (by decide) rfl) rfl (by simp (maxDischargeDepth := 6) [KpS_cons, KpS_nil, KpH_cons, KpH_nil, KpF_cons, KpF_nil, KpF_rows, KpA_cons, KpA_nil, KpA_app, KpA_rowV, KpA_rowIV, KpA_dcells, KpA_outC, Kp_any, Kp_nilv, Kp_d, Kp_ptr, Kp_sl, Kp_agg, Kp_tup, Kp_fn, get_cons, get_nil, fam_cons, fam_nil]) (by simp (maxDischargeDepth := 6) [KpS_cons, KpS_nil, KpH_cons, KpH_nil, KpF_cons, KpF_nil, KpF_rows, KpA_cons, KpA_nil, KpA_app, KpA_rowV, KpA_rowIV, KpA_dcells, KpA_outC, Kp_any, Kp_nilv, Kp_d, Kp_ptr, Kp_sl, Kp_agg, Kp_tup, Kp_fn, get_cons, get_nil, fam_cons, fam_nil, hk1])
end Go.Ab
