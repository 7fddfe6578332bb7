/- CorrLeaves. -/
import Derived.Test.YtdckmpaakheppaaJH
import Derived.Test.YtdckmpaakheppaaCD
import Derived.Test.YtdckmpaakheppaaOB
import Derived.Test.YtdckmpaakheppaaCU
import Derived.Test.YtdckmpaakheppaaMA
import Derived.Test.YtdckmpaakheppaaMB
namespace Go.Ab
set_option linter.unusedSimpArgs false
set_option linter.unusedVariables false
open Go Go.Proofs
def A_l9_CorrLeaves_L1 : CA := (.seq (.seq (.reg [⟨0, (some 50), none, [], [], (.h (.mov (.t 15)))⟩, ⟨1, (some 51), none, [], [], (.h (.mov (.t 13)))⟩, ⟨2, (some 52), none, [], [], (.h (.mov (.t 14)))⟩, ⟨3, (some 53), none, [], [], (.h (.idx (.t 51) (.t 52) 1))⟩, ⟨4, (some 54), none, [], [], (.load (.t 53) 1 false)⟩, ⟨5, (some 55), none, [], [], (.h (.len (.t 54)))⟩, ⟨6, (some 56), none, [], [], (.h (.ibin .lss (.t 50) (.t 55)))⟩] [4, 11, 12, 13, 14, 15, 56]) (.cond (.t 56) .skip (.exit 2))) (.seq (.block 3 (.reg [⟨0, (some 59), none, [], [], (.h (.mov (.t 13)))⟩, ⟨1, (some 60), none, [], [], (.h (.mov (.t 14)))⟩, ⟨2, (some 61), none, [], [], (.h (.idx (.t 59) (.t 60) 1))⟩, ⟨3, (some 62), none, [], [], (.load (.t 61) 1 false)⟩, ⟨4, (some 63), none, [], [], (.h (.mov (.t 15)))⟩, ⟨5, (some 64), none, [], [], (.h (.mov (.t 13)))⟩, ⟨6, (some 65), none, [], [], (.h (.mov (.t 14)))⟩, ⟨7, (some 66), none, [], [], (.h (.idx (.t 64) (.t 65) 1))⟩, ⟨8, (some 67), none, [], [], (.load (.t 66) 1 false)⟩, ⟨9, (some 68), none, [], [], (.h (.mov (.t 15)))⟩, ⟨10, (some 69), none, [], [], (.h (.idx (.t 67) (.t 68) 1))⟩, ⟨11, (some 70), none, [], [], (.load (.t 69) 1 false)⟩, ⟨12, (some 71), none, [], [], (.h (.mov (.t 14)))⟩, ⟨13, (some 72), none, [], [], (.h (.ibin .mul (.k (.d (.int .i64 2))) (.t 71)))⟩, ⟨14, (some 73), none, [], [], (.h (.icv .u64 (.t 72)))⟩, ⟨15, (some 74), none, [], [], (.h (.ibin .shl (.k (.d (.int .i64 64))) (.t 73)))⟩, ⟨16, (some 75), none, [], [], (.h (.i2f (.t 74)))⟩, ⟨17, (some 76), none, [], [], (.h (.fbin .div (.t 70) (.t 75)))⟩, ⟨18, (some 77), none, [], [], (.h (.idx (.t 62) (.t 63) 1))⟩, ⟨19, none, none, [], [], (.store (.t 77) (.t 76) 1)⟩] [4, 11, 12, 13, 14, 15])) (.reg [⟨0, (some 57), none, [], [], (.h (.mov (.t 15)))⟩, ⟨1, (some 58), none, [], [], (.h (.ibin .add (.t 57) (.k (.d (.int .i64 1)))))⟩, ⟨2, (some 15), none, [], [], (.h (.mov (.t 58)))⟩] [4, 11, 12, 13, 14, 15])))
def A_l9_CorrLeaves_L0 : CA := (.seq (.seq (.reg [⟨0, (some 44), none, [], [], (.h (.mov (.t 14)))⟩, ⟨1, (some 45), none, [], [], (.h (.mov (.t 13)))⟩, ⟨2, (some 46), none, [], [], (.h (.len (.t 45)))⟩, ⟨3, (some 47), none, [], [], (.h (.ibin .lss (.t 44) (.t 46)))⟩] [4, 11, 12, 13, 14, 47]) (.cond (.t 47) .skip (.exit 0))) (.seq (.block 1 (.seq (.reg [⟨0, (some 15), none, [], [], (.h (.mov (.k (.d (.int .i64 0)))))⟩] [4, 11, 12, 13, 14, 15]) (.block 2 (.loop A_l9_CorrLeaves_L1)))) (.reg [⟨0, (some 48), none, [], [], (.h (.mov (.t 14)))⟩, ⟨1, (some 49), none, [], [], (.h (.ibin .add (.t 48) (.k (.d (.int .i64 1)))))⟩, ⟨2, (some 14), none, [], [], (.h (.mov (.t 49)))⟩] [4, 11, 12, 13, 14])))
def A_l9_CorrLeaves_L3 : CA := (.seq (.seq (.reg [⟨0, (some 140), none, [], [], (.h (.mov (.t 24)))⟩, ⟨1, (some 141), none, [], [], (.h (.padd (.t 11) 0))⟩, ⟨2, (some 142), none, [], [], (.load (.t 141) 1 false)⟩, ⟨3, (some 143), none, [], [], (.h (.ibin .lss (.t 140) (.t 142)))⟩] [11, 13, 16, 18, 20, 21, 22, 23, 24, 143]) (.cond (.t 143) .skip (.exit 6))) (.seq (.block 7 (.seq (.reg [⟨0, (some 146), none, [], [], (.h (.mov (.t 16)))⟩, ⟨1, (some 147), none, [], [], (.h (.idx (.t 146) (.k (.d (.int .i64 0))) 1))⟩, ⟨2, (some 148), none, [], [], (.load (.t 147) 1 false)⟩, ⟨3, (some 149), none, [], [], (.h (.mov (.t 21)))⟩, ⟨4, (some 150), none, [], [], (.h (.mov (.t 24)))⟩, ⟨5, (some 151), none, [], [], (.h (.idx (.t 149) (.t 150) 1))⟩, ⟨6, (some 152), none, [], [], (.load (.t 151) 1 false)⟩, ⟨7, (some 153), none, [], [], (.h (.fbin .mul (.t 148) (.t 152)))⟩, ⟨8, (some 25), none, [], [], (.h (.mov (.t 153)))⟩] [11, 13, 16, 18, 20, 21, 22, 23, 24, 25]) (.reg [⟨0, (some 154), none, [], [], (.h (.mov (.t 23)))⟩, ⟨1, (some 155), none, [], [], (.h (.mov (.t 13)))⟩, ⟨2, (some 156), none, [], [], (.h (.idx (.t 155) (.k (.d (.int .i64 0))) 1))⟩, ⟨3, (some 157), none, [], [], (.load (.t 156) 1 false)⟩, ⟨4, (some 158), none, [], [], (.h (.mov (.t 24)))⟩, ⟨5, (some 159), none, [], [], (.h (.idx (.t 157) (.t 158) 1))⟩, ⟨6, (some 160), none, [], [], (.load (.t 159) 1 false)⟩, ⟨7, (some 161), none, [], [], (.h (.mov (.t 25)))⟩, ⟨8, (some 162), none, [], [], (.h (.fbin .add (.t 160) (.t 161)))⟩, ⟨9, (some 163), none, [], [], (.bslice [(.d (.flt 0))] 1 1 [(0, (1, (.t 162)))] 32)⟩, ⟨10, (some 164), none, [], [], (.app (.t 154) (.t 163) 1 8)⟩, ⟨11, (some 23), none, [], [], (.h (.mov (.t 164)))⟩] [11, 13, 16, 18, 20, 21, 22, 23, 24]))) (.reg [⟨0, (some 144), none, [], [], (.h (.mov (.t 24)))⟩, ⟨1, (some 145), none, [], [], (.h (.ibin .add (.t 144) (.k (.d (.int .i64 1)))))⟩, ⟨2, (some 24), none, [], [], (.h (.mov (.t 145)))⟩] [11, 13, 16, 18, 20, 21, 22, 23, 24])))
def A_l9_CorrLeaves_L4 : CA := (.seq (.seq (.reg [⟨0, (some 171), none, [], [], (.h (.mov (.t 28)))⟩, ⟨1, (some 172), none, [], [], (.h (.padd (.t 11) 0))⟩, ⟨2, (some 173), none, [], [], (.load (.t 172) 1 false)⟩, ⟨3, (some 174), none, [], [], (.h (.ibin .lss (.t 171) (.t 173)))⟩] [11, 13, 16, 18, 20, 22, 26, 27, 28, 174]) (.cond (.t 174) .skip (.exit 8))) (.seq (.block 9 (.seq (.reg [⟨0, (some 177), none, [], [], (.h (.mov (.t 18)))⟩, ⟨1, (some 178), none, [], [], (.callS 0 (.k (.d (.fn 26 [] []))) [(.t 177)])⟩, ⟨2, (some 179), none, [], [], (.h (.mov (.t 26)))⟩, ⟨3, (some 180), none, [], [], (.h (.mov (.t 28)))⟩, ⟨4, (some 181), none, [], [], (.h (.idx (.t 179) (.t 180) 1))⟩, ⟨5, (some 182), none, [], [], (.load (.t 181) 1 false)⟩, ⟨6, (some 183), none, [], [], (.h (.fbin .mul (.t 178) (.t 182)))⟩, ⟨7, (some 29), none, [], [], (.h (.mov (.t 183)))⟩] [11, 13, 16, 18, 20, 22, 26, 27, 28, 29]) (.reg [⟨0, (some 184), none, [], [], (.h (.mov (.t 27)))⟩, ⟨1, (some 185), none, [], [], (.h (.mov (.t 28)))⟩, ⟨2, (some 186), none, [], [], (.h (.mov (.t 29)))⟩, ⟨3, (some 187), none, [], [], (.h (.mov (.t 13)))⟩, ⟨4, (some 188), none, [], [], (.h (.idx (.t 187) (.k (.d (.int .i64 1))) 1))⟩, ⟨5, (some 189), none, [], [], (.load (.t 188) 1 false)⟩, ⟨6, (some 190), none, [], [], (.h (.mov (.t 28)))⟩, ⟨7, (some 191), none, [], [], (.h (.idx (.t 189) (.t 190) 1))⟩, ⟨8, (some 192), none, [], [], (.load (.t 191) 1 false)⟩, ⟨9, (some 193), none, [], [], (.h (.fbin .sub (.t 186) (.t 192)))⟩, ⟨10, (some 194), none, [], [], (.h (.idx (.t 184) (.t 185) 1))⟩, ⟨11, none, none, [], [], (.store (.t 194) (.t 193) 1)⟩] [11, 13, 16, 18, 20, 22, 26, 27, 28]))) (.reg [⟨0, (some 175), none, [], [], (.h (.mov (.t 28)))⟩, ⟨1, (some 176), none, [], [], (.h (.ibin .add (.t 175) (.k (.d (.int .i64 1)))))⟩, ⟨2, (some 28), none, [], [], (.h (.mov (.t 176)))⟩] [11, 13, 16, 18, 20, 22, 26, 27, 28])))
def A_l9_CorrLeaves_L2 : CA := (.seq (.seq (.reg [⟨0, (some 134), none, [], [], (.h (.mov (.t 22)))⟩, ⟨1, (some 135), none, [], [], (.h (.padd (.t 20) 1))⟩, ⟨2, (some 136), none, [], [], (.load (.t 135) 1 false)⟩, ⟨3, (some 137), none, [], [], (.h (.ibin .lss (.t 134) (.t 136)))⟩] [11, 13, 16, 18, 20, 21, 22, 137]) (.cond (.t 137) .skip (.exit 4))) (.seq (.block 5 (.seq (.reg [⟨0, (some 23), none, [], [], (.h (.mov (.k .nil)))⟩] [11, 13, 16, 18, 20, 21, 22, 23]) (.seq (.seq (.reg [⟨0, (some 24), none, [], [], (.h (.mov (.k (.d (.int .i64 0)))))⟩] [11, 13, 16, 18, 20, 21, 22, 23, 24]) (.block 6 (.loop A_l9_CorrLeaves_L3))) (.seq (.reg [⟨0, (some 165), none, [], [], (.load (.t 11) 3 true)⟩, ⟨1, (some 166), none, [], [], (.h (.mov (.t 23)))⟩, ⟨2, (some 167), none, [], [], (.callA (.k (.d (.fn 25 [] []))) [(.t 165), (.t 166)])⟩, ⟨3, (some 26), none, [], [], (.h (.mov (.t 167)))⟩] [11, 13, 16, 18, 20, 22, 26]) (.seq (.reg [⟨0, (some 168), none, [], [], (.h (.padd (.t 11) 0))⟩, ⟨1, (some 169), none, [], [], (.load (.t 168) 1 false)⟩, ⟨2, (some 170), none, [], [], (.mksl [(.d (.flt 0))] 1 8 (.t 169) (.t 169) 32)⟩, ⟨3, (some 27), none, [], [], (.h (.mov (.t 170)))⟩] [11, 13, 16, 18, 20, 22, 26, 27]) (.seq (.seq (.reg [⟨0, (some 28), none, [], [], (.h (.mov (.k (.d (.int .i64 0)))))⟩] [11, 13, 16, 18, 20, 22, 26, 27, 28]) (.block 8 (.loop A_l9_CorrLeaves_L4))) (.reg [⟨0, (some 195), none, [], [], (.h (.mov (.t 27)))⟩, ⟨1, (some 21), none, [], [], (.h (.mov (.t 195)))⟩] [11, 13, 16, 18, 20, 21, 22]))))))) (.reg [⟨0, (some 138), none, [], [], (.h (.mov (.t 22)))⟩, ⟨1, (some 139), none, [], [], (.h (.ibin .add (.t 138) (.k (.d (.int .i64 1)))))⟩, ⟨2, (some 22), none, [], [], (.h (.mov (.t 139)))⟩] [11, 13, 16, 18, 20, 21, 22])))
def A_l9_CorrLeaves : CA := (.seq (.reg [⟨0, (some 10), none, [], [], (.h (.mov (.k (.d (.bool false)))))⟩] [0, 1, 2, 3, 4]) (.seq (.seq (.reg [⟨0, (some 30), none, [], [], (.callA (.k (.d (.fn 14 [] []))) [])⟩, ⟨1, (some 31), none, [], [], (.h (.un .not (.t 30)))⟩] [0, 1, 2, 3, 4, 31]) (.cond (.t 31) (.seq (.reg [⟨0, (some 10), none, [], [], (.h (.mov (.k (.d (.bool false)))))⟩] [10]) .ret) .skip)) (.seq (.reg [⟨0, (some 32), none, [], [], (.h (.mov (.t 0)))⟩, ⟨1, (some 33), none, [], [], (.h (.mov (.t 1)))⟩, ⟨2, (some 34), none, [], [], (.callA (.k (.d (.fn 15 [] []))) [(.t 32), (.t 33), (.k (.d (.bool false)))])⟩, ⟨3, (some 11), none, [], [], (.alloc [(.d (.int .i64 0)), .nil, .nil] 26)⟩, ⟨4, none, none, [], [], (.store (.t 11) (.t 34) 3)⟩] [2, 3, 4, 11]) (.seq (.reg [⟨0, (some 35), none, [], [], (.h (.mov (.t 2)))⟩, ⟨1, (some 36), none, [], [], (.callA (.k (.d (.fn 16 [] []))) [(.t 35), (.k (.d (.int .i64 5)))])⟩, ⟨2, (some 37), none, [], [], (.h (.ibin .add (.k (.d (.int .i64 1))) (.t 36)))⟩, ⟨3, (some 12), none, [], [], (.h (.mov (.t 37)))⟩] [3, 4, 11, 12]) (.seq (.reg [⟨0, (some 38), none, [], [], (.h (.mov (.t 12)))⟩, ⟨1, (some 39), none, [], [], (.h (.padd (.t 11) 0))⟩, ⟨2, (some 40), none, [], [], (.load (.t 39) 1 false)⟩, ⟨3, (some 41), none, [], [], (.h (.ibin .sub (.t 40) (.k (.d (.int .i64 1)))))⟩, ⟨4, (some 42), none, [], [], (.h (.mov (.t 3)))⟩, ⟨5, (some 43), none, [], [], (.callA (.k (.d (.fn 17 [] []))) [(.t 38), (.t 41), (.t 42)])⟩, ⟨6, (some 13), none, [], [], (.h (.mov (.t 43)))⟩] [4, 11, 12, 13]) (.seq (.seq (.reg [⟨0, (some 14), none, [], [], (.h (.mov (.k (.d (.int .i64 0)))))⟩] [4, 11, 12, 13, 14]) (.block 0 (.loop A_l9_CorrLeaves_L0))) (.seq (.reg [⟨0, (some 79), none, [], [], (.h (.mov (.t 12)))⟩, ⟨1, (some 80), none, [], [], (.callA (.k (.d (.fn 18 [] []))) [(.k (.d (.int .i64 0))), (.t 79)])⟩, ⟨2, (some 78), none, [], [], (.h (.mov (.t 80)))⟩, ⟨3, (some 81), none, [], [], (.h (.ext (.t 78) 0))⟩, ⟨4, (some 82), none, [], [], (.h (.ext (.t 78) 1))⟩, ⟨5, (some 16), none, [], [], (.h (.mov (.t 81)))⟩, ⟨6, (some 17), none, [], [], (.h (.mov (.t 82)))⟩] [4, 11, 13, 16]) (.seq (.reg [⟨0, (some 83), none, [], [], (.h (.mov (.t 4)))⟩, ⟨1, (some 84), none, [], [], (.callA (.k (.d (.fn 16 [] []))) [(.t 83), (.k (.d (.int .i64 14)))])⟩, ⟨2, (some 85), none, [], [], (.h (.ibin .add (.k (.d (.int .i64 14))) (.t 84)))⟩, ⟨3, (some 86), none, [], [], (.h (.icv .u64 (.t 85)))⟩, ⟨4, (some 87), none, [], [], (.h (.ibin .shl (.k (.d (.int .i64 1))) (.t 86)))⟩, ⟨5, (some 18), none, [], [], (.h (.mov (.t 87)))⟩] [11, 13, 16, 18]) (.seq (.reg [⟨0, (some 88), none, [], [], (.h (.mov (.t 13)))⟩, ⟨1, (some 89), none, [], [], (.h (.idx (.t 88) (.k (.d (.int .i64 0))) 1))⟩, ⟨2, (some 90), none, [], [], (.load (.t 89) 1 false)⟩, ⟨3, (some 91), none, [], [], (.callA (.k (.d (.fn 19 [] []))) [(.t 90), (.k (.d (.flt 4562254508917369340))), (.k (.d (.flt 4562254508917369340)))])⟩, ⟨4, (some 19), none, [], [], (.h (.mov (.t 91)))⟩] [11, 13, 16, 18, 19]) (.seq (.reg [⟨0, (some 92), none, [], [], (.load (.t 11) 3 true)⟩, ⟨1, (some 93), none, [], [], (.h (.mov (.t 13)))⟩, ⟨2, (some 94), none, [], [], (.h (.mov (.t 16)))⟩, ⟨3, (some 95), none, [], [], (.h (.mov (.t 18)))⟩, ⟨4, (some 96), none, [], [], (.h (.mov (.t 19)))⟩, ⟨5, (some 97), none, [], [], (.callA (.k (.d (.fn 20 [] []))) [(.t 92), (.t 93), (.t 94), (.t 95), (.k (.d (.int .i64 0))), (.t 96)])⟩, ⟨6, (some 20), none, [], [], (.alloc [.nil, (.d (.int .i64 0)), (.d (.int .i64 0))] 39)⟩, ⟨7, none, none, [], [], (.store (.t 20) (.t 97) 3)⟩] [11, 13, 16, 18, 20]) (.seq (.seq (.reg [⟨0, (some 98), none, [], [], (.h (.padd (.t 20) 2))⟩, ⟨1, (some 99), none, [], [], (.load (.t 98) 1 false)⟩, ⟨2, (some 100), none, [], [], (.h (.ibin .neq (.t 99) (.k (.d (.int .i64 0)))))⟩] [11, 13, 16, 18, 20, 100]) (.cond (.t 100) (.seq (.reg [⟨0, (some 101), none, [], [], (.h (.padd (.t 20) 0))⟩, ⟨1, (some 102), none, [], [], (.load (.t 101) 1 false)⟩, ⟨2, (some 103), none, [], [], (.h (.len (.t 102)))⟩, ⟨3, (some 104), none, [], [], (.h (.ibin .eql (.t 103) (.k (.d (.int .i64 0)))))⟩, ⟨4, (some 105), none, [], [], (.h (.mov (.t 104)))⟩, ⟨5, (some 106), (some (105, true)), [], [], (.h (.padd (.t 20) 1))⟩, ⟨6, (some 107), (some (105, true)), [], [], (.load (.t 106) 1 false)⟩, ⟨7, (some 108), (some (105, true)), [], [], (.h (.ibin .geq (.t 107) (.k (.d (.int .i64 1)))))⟩, ⟨8, (some 109), none, [], [], (.h (.pick (.t 105) (.t 108) (.k (.d (.bool false)))))⟩, ⟨9, (some 110), none, [], [], (.h (.mov (.t 109)))⟩, ⟨10, (some 111), (some (110, true)), [], [], (.h (.padd (.t 20) 1))⟩, ⟨11, (some 112), (some (110, true)), [], [], (.load (.t 111) 1 false)⟩, ⟨12, (some 113), (some (110, true)), [], [], (.h (.ibin .leq (.t 112) (.k (.d (.int .i64 4)))))⟩, ⟨13, (some 114), none, [], [], (.h (.pick (.t 110) (.t 113) (.k (.d (.bool false)))))⟩, ⟨14, (some 10), none, [], [], (.h (.mov (.t 114)))⟩] [10]) .ret) .skip)) (.seq (.seq (.reg [⟨0, (some 115), none, [], [], (.h (.padd (.t 20) 0))⟩, ⟨1, (some 116), none, [], [], (.load (.t 115) 1 false)⟩, ⟨2, (some 117), none, [], [], (.h (.len (.t 116)))⟩, ⟨3, (some 118), none, [], [], (.h (.padd (.t 11) 0))⟩, ⟨4, (some 119), none, [], [], (.load (.t 118) 1 false)⟩, ⟨5, (some 120), none, [], [], (.h (.ibin .neq (.t 117) (.t 119)))⟩, ⟨6, (some 121), none, [], [], (.h (.mov (.t 120)))⟩, ⟨7, (some 122), (some (121, false)), [], [], (.h (.padd (.t 20) 1))⟩, ⟨8, (some 123), (some (121, false)), [], [], (.load (.t 122) 1 false)⟩, ⟨9, (some 124), (some (121, false)), [], [], (.h (.ibin .lss (.t 123) (.k (.d (.int .i64 1)))))⟩, ⟨10, (some 125), none, [], [], (.h (.pick (.t 121) (.k (.d (.bool true))) (.t 124)))⟩, ⟨11, (some 126), none, [], [], (.h (.mov (.t 125)))⟩, ⟨12, (some 127), (some (126, false)), [], [], (.h (.padd (.t 20) 1))⟩, ⟨13, (some 128), (some (126, false)), [], [], (.load (.t 127) 1 false)⟩, ⟨14, (some 129), (some (126, false)), [], [], (.h (.ibin .gtr (.t 128) (.k (.d (.int .i64 4)))))⟩, ⟨15, (some 130), none, [], [], (.h (.pick (.t 126) (.k (.d (.bool true))) (.t 129)))⟩] [11, 13, 16, 18, 20, 130]) (.cond (.t 130) (.seq (.reg [⟨0, (some 10), none, [], [], (.h (.mov (.k (.d (.bool false)))))⟩] [10]) .ret) .skip)) (.seq (.reg [⟨0, (some 131), none, [], [], (.h (.padd (.t 11) 0))⟩, ⟨1, (some 132), none, [], [], (.load (.t 131) 1 false)⟩, ⟨2, (some 133), none, [], [], (.mksl [(.d (.flt 0))] 1 8 (.t 132) (.t 132) 32)⟩, ⟨3, (some 21), none, [], [], (.h (.mov (.t 133)))⟩] [11, 13, 16, 18, 20, 21]) (.seq (.seq (.reg [⟨0, (some 22), none, [], [], (.h (.mov (.k (.d (.int .i64 0)))))⟩] [11, 13, 16, 18, 20, 21, 22]) (.block 4 (.loop A_l9_CorrLeaves_L2))) (.seq (.reg [⟨0, (some 196), none, [], [], (.h (.mov (.t 21)))⟩, ⟨1, (some 197), none, [], [], (.h (.padd (.t 20) 0))⟩, ⟨2, (some 198), none, [], [], (.load (.t 197) 1 false)⟩, ⟨3, (some 199), none, [], [], (.callA (.k (.d (.fn 22 [] []))) [(.t 196), (.t 198)])⟩, ⟨4, (some 10), none, [], [], (.h (.mov (.t 199)))⟩] [10]) .ret)))))))))))))))
theorem A_l9_CorrLeaves_comp : compF Try.prog 5 = some ⟨200, [(10, none)], A_l9_CorrLeaves.strip⟩ := by kernel_rfl
/-- So many rows of so many numbers. -/
def Rk (m k : Nat) (Z : List (List Nat)) : Prop := Z.length = m ∧ ∀ r, r < m → (Z.getD r []).length = k
theorem Rk_up2 {m k : Nat} {Z : List (List Nat)} (h : Rk m k Z) (i j v : Nat) : Rk m k (up2 Z i j v) := by
  refine ⟨by simp [up2, h.1], fun r hr => ?_⟩
  have := h.2 r hr
  simp only [up2, List.getD_eq_getElem?_getD, List.getElem?_set]
  by_cases e : i = r
  · subst e
    have hl : i < Z.length := by rw [h.1]; exact hr
    have hr2 := h.2 i hr
    rw [List.getD_eq_getElem?_getD] at hr2
    simp only [hl, List.getElem?_eq_getElem, Option.getD_some] at hr2
    simp [hl, hr2]
  · rw [if_neg e, ← List.getD_eq_getElem?_getD]; exact this
theorem zM_rk (ns : List Int) (k i : Nat) : Rk i k (zM ns k i) := ⟨zM_len _ _ _, fun r hr => by rw [zM_row _ _ _ _ hr]; exact tabR_len _ _⟩
theorem seek_tries (tr : List Nat → List Nat × Nat) (f : Nat) : ∀ k d g a e, f + k = 5 → 1 ≤ f → seek tr f k d = (g, a, e) → k ≤ a ∧ a ≤ 4 := by
  induction f with
  | zero => intro k d g a e _ h1; omega
  | succ f ih =>
    intro k d g a e hf _ h
    simp only [seek] at h
    split at h
    · simp only [Prod.mk.injEq] at h; omega
    · split at h
      · simp only [Prod.mk.injEq] at h; omega
      · split at h
        · simp only [Prod.mk.injEq] at h; omega
        · have := ih (k + 1) _ g a e (by omega) (by omega) h
          omega
/-- The field's places, one behind the other. -/
def itG (t : Tp) (z : List (List Nat)) (l : List Nat) (h : Nat) : Nat → List Nat → List Nat
  | 0, d => d
  | i + 1, d => gS t z l h (itG t z l h i d)
theorem itG_shift (t : Tp) (z : List (List Nat)) (l : List Nat) (h : Nat) (i : Nat) (d : List Nat) : itG t z l h i (gS t z l h d) = itG t z l h (i + 1) d := by
  induction i with
  | zero => rfl
  | succ i ih => simp only [itG] at *; rw [ih]
theorem seek_it (t : Tp) (z : List (List Nat)) (l : List Nat) (h : Nat) (w : List Nat) (f : Nat) : ∀ k d g a, f + k = 5 → 1 ≤ f → seek (tryA t z l h w) f k d = (g, a, 0) → g = itG t z l h (a - k + 1) d := by
  induction f with
  | zero => intro k d g a _ h1; omega
  | succ f ih =>
    intro k d g a hf _ he
    have hk := seek_tries _ _ _ _ _ _ _ hf (by omega) he
    rw [seekA_succ] at he
    split at he
    · simp at he
    · split at he
      · simp only [Prod.mk.injEq] at he
        obtain ⟨rfl, rfl, _⟩ := he
        rw [Nat.sub_self]; rfl
      · split at he
        · simp at he
        · have h2 := seek_tries _ _ _ _ _ _ _ (by omega) (by omega) he
          have h3 := ih (k + 1) _ g a (by omega) (by omega) he
          rw [h3, itG_shift]
          congr 1
          omega
theorem itG_len (t : Tp) (z : List (List Nat)) (l : List Nat) (h : Nat) (i : Nat) (d : List Nat) (hd : d.length = t.n) : (itG t z l h i d).length = t.n := by
  cases i with
  | zero => exact hd
  | succ i => exact tabR_len _ _
theorem hW_eq : FloatKind.nearest .f64 1073741824 = 4742290407621132288 := by kernel_rfl
abbrev lvS (Z : List (List Nat)) (l : List Nat) (j n X i : Nat) : Sl := [(11, .ptr 3 0 0 3), (13, .d (rowsD Z)), (16, .d (rowD l)), (18, fI (2 ^ j : Nat)), (20, .ptr 10 0 0 3), (21, .sl X 0 0 n 1 n), (22, fI i)]
abbrev lvH (t : Tp) (g : List Nat) (k : Nat) : Heap := [(100, [rowV g]), (10, [[.sl 100 0 0 t.n 1 t.n, fI k, fI 0]]), (3, [jtT t])]
theorem leaves_next (t : Tp) (Z : List (List Nat)) (l : List Nat) (j k i : Nat) (g f y d x : List Nat) : Le (fun _ => False) (T.s 200 ⟨lvS Z l j t.n 123 i, (123, [rowV x]) :: (120, [rowV f]) :: (110, [rowV y]) :: (103, [rowV d]) :: lvH t g k⟩) (T.s 200 ⟨lvS Z l j t.n 103 i, (103, [rowV x]) :: lvH t g k⟩) := by
  refine Le.trans (LeT.only (L' := (123, [rowV x]) :: lvH t g k) (fun X => X == 123 || X == 100 || X == 10 || X == 3) (fun _ h => h) rfl (by simp [KpS_cons, KpS_nil, KpH_cons, KpH_nil, KpF_cons, KpF_nil, KpF_rows, KpA_cons, KpA_nil, KpA_app, KpA_rowV, KpA_rowIV, KpA_dcells, KpA_outC, Kp_any, Kp_nilv, Kp_d, Kp_ptr, Kp_sl, Kp_agg, Kp_tup, Kp_fn, get_cons, get_nil]) (by simp [KpS_cons, KpS_nil, KpH_cons, KpH_nil, KpF_cons, KpF_nil, KpF_rows, KpA_cons, KpA_nil, KpA_app, KpA_rowV, KpA_rowIV, KpA_dcells, KpA_outC, Kp_any, Kp_nilv, Kp_d, Kp_ptr, Kp_sl, Kp_agg, Kp_tup, Kp_fn, get_cons, get_nil])) ?_
  refine Le.trans (LeT.move 103 (by decide) (by simp [fam_cons, fam_nil]) (by simp [fam_cons, fam_nil]) (fun h => h)) ?_
  have e1 : renS (absF 123 103 0) (lvS Z l j t.n 123 i) = lvS Z l j t.n 103 i := by
    simp [lvS, renS, V.ren, V.renL, absF]
  have e2 : Heap.renH (absF 123 103 0) (lvH t g k) = lvH t g k := by
    simp [lvH, Heap.renH, V.ren, V.renL, absF, ren_rowV]
  rw [e1, e2, ren_rowV]
  exact Le.refl _
abbrev lvS4 (Z : List (List Nat)) (l : List Nat) (j n i m : Nat) : Sl := [(11, .ptr 3 0 0 3), (13, .d (rowsD Z)), (16, .d (rowD l)), (18, fI (2 ^ j : Nat)), (20, .ptr 10 0 0 3), (22, fI i), (26, .sl 120 0 0 n 1 n), (27, .sl 123 0 0 n 1 n), (28, fI m)]
set_option maxRecDepth 8000 in
theorem leaves_L4 (t : Tp) (Z : List (List Nat)) (l : List Nat) (j k i : Nat) (g f y d : List Nat) (hj : j < 28) (hn : t.n < 2 ^ 20) (z1 : 2 ≤ Z.length) (hZ1 : (Z.getD 1 []).length = t.n) (hfl : f.length = t.n) (fg : Nat → Nat)
    (fg' : ∀ i, fg i = fop .sub (fop .mul (hW (2 ^ j)) (f.getD i 0)) ((Z.getD 1 []).getD i 0)) (Q : Ex → T → Prop)
    (hQ : ∀ v, Q (.exit 8) ⟨lvS4 Z l j t.n i t.n ++ [v], (123, [rowV (tabR fg t.n)]) :: (120, [rowV f]) :: (110, [rowV y]) :: (103, [rowV d]) :: lvH t g k⟩) :
    WA Try.prog (fun _ => False) 200 (.loop A_l9_CorrLeaves_L4) Q ⟨lvS4 Z l j t.n i 0, (123, [rowV (List.replicate t.n 0)]) :: (120, [rowV f]) :: (110, [rowV y]) :: (103, [rowV d]) :: lvH t g k⟩ := by
  rw [← fillR_zero fg]
  refine WA_for (n := t.n) (fun c s => ∃ m, c + m = t.n ∧ s = ⟨lvS4 Z l j t.n i m, (123, [rowV (fillR fg t.n m)]) :: (120, [rowV f]) :: (110, [rowV y]) :: (103, [rowV d]) :: lvH t g k⟩) ⟨0, by omega, rfl⟩ ?_
  rintro c' s ⟨m, hc', rfl⟩
  have hml := fillR_len fg t.n m
  simp -implicitDefEqProofs only [xC_skip, evS, evT, decide_true, decide_false, decide_eq_true_eq, sides, Inst.places, List.mem_cons, List.not_mem_nil, forall_eq_or_imp, forall_eq, false_implies, implies_true, Apart, xeff, xhv, hv, effC, xev, look, argSl, atL_do, drops_at, keep, inBlockT, pickX, callX, callCX, callSX, callee, reduceCtorEq, ↓reduceIte, Nat.reduceEqDiff, Nat.reduceAdd, Nat.reduceMul, eq_self, Int.reduceToNat, Int.reduceAdd, Int.reduceSub, Int.reduceMul, Int.reduceNeg, Int.reduceLT, Int.reduceLE, rowD, rowI, rowsD, ivD, rowG, rowIG, rowsG, ivG, bne_self_eq_false, beq_self_eq_true, Nat.reduceLT, Nat.reduceLeDiff, ne_eq, Option.some.injEq, fillV, partsV, V.okPart, gt_iff_lt, ge_iff_le, A_l9_CorrLeaves_L4]
  refine condC_intro (fun hm2 => ?_) (fun hm2 => ?_)
  · replace hm2 := of_decide_eq_true hm2
    have hs := fillR_set fg t.n m hm2
    have hm3 := getD_map_fl f m (by omega)
    generalize fillR fg t.n m = x at hml hs
    simp -implicitDefEqProofs only [xC_skip, evS, evT, decide_true, decide_false, decide_eq_true_eq, sides, Inst.places, List.mem_cons, List.not_mem_nil, forall_eq_or_imp, forall_eq, false_implies, implies_true, Apart, xeff, xhv, hv, effC, xev, look, argSl, atL_do, drops_at, keep, inBlockT, pickX, callX, callCX, callSX, callee, reduceCtorEq, ↓reduceIte, Nat.reduceEqDiff, Nat.reduceAdd, Nat.reduceMul, eq_self, Int.reduceToNat, Int.reduceAdd, Int.reduceSub, Int.reduceMul, Int.reduceNeg, Int.reduceLT, Int.reduceLE, rowD, rowI, rowsD, ivD, rowG, rowIG, rowsG, ivG, bne_self_eq_false, beq_self_eq_true, Nat.reduceLT, Nat.reduceLeDiff, ne_eq, Option.some.injEq, fillV, partsV, V.okPart, gt_iff_lt, ge_iff_le]
    first | refine callG_con (r8_H_con (2 ^ j : Nat)) rfl ?_ | refine callCG_con (r8_H_con (2 ^ j : Nat)) rfl ?_ | refine callSG_con (r8_H_con (2 ^ j : Nat)) rfl ?_
    simp -implicitDefEqProofs only [xC_skip, evS, evT, decide_true, decide_false, decide_eq_true_eq, sides, Inst.places, List.mem_cons, List.not_mem_nil, forall_eq_or_imp, forall_eq, false_implies, implies_true, Apart, xeff, xhv, hv, effC, xev, look, argSl, atL_do, drops_at, keep, inBlockT, pickX, callX, callCX, callSX, callee, reduceCtorEq, ↓reduceIte, Nat.reduceEqDiff, Nat.reduceAdd, Nat.reduceMul, eq_self, Int.reduceToNat, Int.reduceAdd, Int.reduceSub, Int.reduceMul, Int.reduceNeg, Int.reduceLT, Int.reduceLE, rowD, rowI, rowsD, ivD, rowG, rowIG, rowsG, ivG, bne_self_eq_false, beq_self_eq_true, Nat.reduceLT, Nat.reduceLeDiff, ne_eq, Option.some.injEq, fillV, partsV, V.okPart, gt_iff_lt, ge_iff_le, hm3]
    rw [← hW_eq, show fop .div (FloatKind.nearest .f64 ((2 ^ j : Nat) : Int)) (FloatKind.nearest .f64 1073741824) = hW (2 ^ j) from rfl, ← fg', hs]
    (repeat (with_reducible refine And.intro (by omega) ?_))
    rw [wrapI (by omega) (by omega)]
    exact ⟨c' - 1, by omega, m + 1, by omega, rfl⟩
  · replace hm2 := of_decide_eq_false hm2
    have e : m = t.n := by omega
    simp -implicitDefEqProofs only [xC_skip, evS, evT, decide_true, decide_false, decide_eq_true_eq, sides, Inst.places, List.mem_cons, List.not_mem_nil, forall_eq_or_imp, forall_eq, false_implies, implies_true, Apart, xeff, xhv, hv, effC, xev, look, argSl, atL_do, drops_at, keep, inBlockT, pickX, callX, callCX, callSX, callee, reduceCtorEq, ↓reduceIte, Nat.reduceEqDiff, Nat.reduceAdd, Nat.reduceMul, eq_self, Int.reduceToNat, Int.reduceAdd, Int.reduceSub, Int.reduceMul, Int.reduceNeg, Int.reduceLT, Int.reduceLE, rowD, rowI, rowsD, ivD, rowG, rowIG, rowsG, ivG, bne_self_eq_false, beq_self_eq_true, Nat.reduceLT, Nat.reduceLeDiff, ne_eq, Option.some.injEq, fillV, partsV, V.okPart, gt_iff_lt, ge_iff_le]
    rw [e, fillR_all]
    exact hQ _
set_option maxRecDepth 8000 in
theorem leaves_L2 (t : Tp) (Z : List (List Nat)) (l : List Nat) (j k : Nat) (g : List Nat) (hn : t.n < 2 ^ 20) (hj : j < 28) (ht : Tok t) (z1 : 2 ≤ Z.length) (hZ0 : (Z.getD 0 []).length = t.n) (hZ1 : (Z.getD 1 []).length = t.n) (hl : 1 ≤ l.length) (hk : k ≤ 4) (hgl : g.length = t.n) (Q : Ex → T → Prop)
    (hQ : ∀ v, Q (.exit 4) ⟨lvS Z l j t.n 103 k ++ [v], (103, [rowV (itG t Z l (hW (2 ^ j)) k (List.replicate t.n 0))]) :: lvH t g k⟩) :
    WA Try.prog (fun _ => False) 200 (.loop A_l9_CorrLeaves_L2) Q ⟨lvS Z l j t.n 103 0, (103, [rowV (List.replicate t.n 0)]) :: lvH t g k⟩ := by
  refine WA_forW (n := k) (fun c s => ∃ i, c + i = k ∧ s = ⟨lvS Z l j t.n 103 i, (103, [rowV (itG t Z l (hW (2 ^ j)) i (List.replicate t.n 0))]) :: lvH t g k⟩) (Le.refl _) ⟨0, by omega, rfl⟩ ?_
  rintro c s ⟨i, hc, rfl⟩
  have hdl := itG_len t Z l (hW (2 ^ j)) i (List.replicate t.n 0) (by simp)
  have hnx : itG t Z l (hW (2 ^ j)) (i + 1) (List.replicate t.n 0) = gS t Z l (hW (2 ^ j)) (itG t Z l (hW (2 ^ j)) i (List.replicate t.n 0)) := rfl
  generalize hd0 : itG t Z l (hW (2 ^ j)) i (List.replicate t.n 0) = d at hdl hnx
  simp -implicitDefEqProofs only [xC_skip, evS, evT, decide_true, decide_false, decide_eq_true_eq, sides, Inst.places, List.mem_cons, List.not_mem_nil, forall_eq_or_imp, forall_eq, false_implies, implies_true, Apart, xeff, xhv, hv, effC, xev, look, argSl, atL_do, drops_at, keep, inBlockT, pickX, callX, callCX, callSX, callee, reduceCtorEq, ↓reduceIte, Nat.reduceEqDiff, Nat.reduceAdd, Nat.reduceMul, eq_self, Int.reduceToNat, Int.reduceAdd, Int.reduceSub, Int.reduceMul, Int.reduceNeg, Int.reduceLT, Int.reduceLE, rowD, rowI, rowsD, ivD, rowG, rowIG, rowsG, ivG, bne_self_eq_false, beq_self_eq_true, Nat.reduceLT, Nat.reduceLeDiff, ne_eq, Option.some.injEq, fillV, partsV, V.okPart, gt_iff_lt, ge_iff_le, A_l9_CorrLeaves_L2]
  refine condC_intro (fun hi => ?_) (fun hi => ?_)
  · replace hi := of_decide_eq_true hi
    simp -implicitDefEqProofs only [xC_skip, evS, evT, decide_true, decide_false, decide_eq_true_eq, sides, Inst.places, List.mem_cons, List.not_mem_nil, forall_eq_or_imp, forall_eq, false_implies, implies_true, Apart, xeff, xhv, hv, effC, xev, look, argSl, atL_do, drops_at, keep, inBlockT, pickX, callX, callCX, callSX, callee, reduceCtorEq, ↓reduceIte, Nat.reduceEqDiff, Nat.reduceAdd, Nat.reduceMul, eq_self, Int.reduceToNat, Int.reduceAdd, Int.reduceSub, Int.reduceMul, Int.reduceNeg, Int.reduceLT, Int.reduceLE, rowD, rowI, rowsD, ivD, rowG, rowIG, rowsG, ivG, bne_self_eq_false, beq_self_eq_true, Nat.reduceLT, Nat.reduceLeDiff, ne_eq, Option.some.injEq, fillV, partsV, V.okPart, gt_iff_lt, ge_iff_le]
    generalize hfy : (fun i => fop .add ((Z.getD 0 []).getD i 0) (fop .mul (l.getD 0 0) (d.getD i 0))) = fy
    have fy' : ∀ i, fy i = fop .add ((Z.getD 0 []).getD i 0) (fop .mul (l.getD 0 0) (d.getD i 0)) := fun i => by rw [← hfy]
    have hy : yS Z l d t.n = tabR fy t.n := by unfold yS; rw [hfy]
    refine WA_forW (n := t.n) (fun c s => ∃ m, c + m = t.n ∧ s = ⟨lvS Z l j t.n 103 i ++ [(23, .sl 110 0 0 m 1 m), (24, fI m)], (110, [rowV (tabR fy m)]) :: (103, [rowV d]) :: lvH t g k⟩)
      (s0 := ⟨_, _⟩) (LeT.nilrow (X := 110) (esz := 1) (as' := lvS Z l j t.n 103 i ++ [(23, .sl 110 0 0 0 1 0), (24, fI 0)]) (by simp [fam_cons, fam_nil]) (fun h => h) fun i => ?_) ⟨0, by omega, rfl⟩ ?_
    · simp only [look, List.cons_append, List.nil_append]
      repeat' split
      all_goals simp [rowD, rowsD]
    rintro c' s ⟨m, hc', rfl⟩
    have hyl := tabR_len fy m
    simp -implicitDefEqProofs only [xC_skip, evS, evT, decide_true, decide_false, decide_eq_true_eq, sides, Inst.places, List.mem_cons, List.not_mem_nil, forall_eq_or_imp, forall_eq, false_implies, implies_true, Apart, xeff, xhv, hv, effC, xev, look, argSl, atL_do, drops_at, keep, inBlockT, pickX, callX, callCX, callSX, callee, reduceCtorEq, ↓reduceIte, Nat.reduceEqDiff, Nat.reduceAdd, Nat.reduceMul, eq_self, Int.reduceToNat, Int.reduceAdd, Int.reduceSub, Int.reduceMul, Int.reduceNeg, Int.reduceLT, Int.reduceLE, rowD, rowI, rowsD, ivD, rowG, rowIG, rowsG, ivG, bne_self_eq_false, beq_self_eq_true, Nat.reduceLT, Nat.reduceLeDiff, ne_eq, Option.some.injEq, fillV, partsV, V.okPart, gt_iff_lt, ge_iff_le, A_l9_CorrLeaves_L3]
    refine condC_intro (fun hm => ?_) (fun hm => ?_)
    · replace hm := of_decide_eq_true hm
      simp -implicitDefEqProofs only [xC_skip, evS, evT, decide_true, decide_false, decide_eq_true_eq, sides, Inst.places, List.mem_cons, List.not_mem_nil, forall_eq_or_imp, forall_eq, false_implies, implies_true, Apart, xeff, xhv, hv, effC, xev, look, argSl, atL_do, drops_at, keep, inBlockT, pickX, callX, callCX, callSX, callee, reduceCtorEq, ↓reduceIte, Nat.reduceEqDiff, Nat.reduceAdd, Nat.reduceMul, eq_self, Int.reduceToNat, Int.reduceAdd, Int.reduceSub, Int.reduceMul, Int.reduceNeg, Int.reduceLT, Int.reduceLE, rowD, rowI, rowsD, ivD, rowG, rowIG, rowsG, ivG, bne_self_eq_false, beq_self_eq_true, Nat.reduceLT, Nat.reduceLeDiff, ne_eq, Option.some.injEq, fillV, partsV, V.okPart, gt_iff_lt, ge_iff_le, getD_map_fl d m (by omega)]
      (repeat (with_reducible refine And.intro (by omega) ?_))
      have e2 : rowV (tabR fy m) ++ [fl (fop .add ((Z.getD 0 []).getD m 0) (fop .mul (l.getD 0 0) (d.getD m 0)))] = rowV (tabR fy (m + 1)) := by rw [← fy']; exact (tabR_succ _ _).symm
      rw [wrapI (by omega) (by omega), e2]
      exact ⟨c' - 1, _, by omega, LeT.only (fun X => decide (X ≤ 110)) (fun _ h => h) rfl (by simp [KpS_cons, KpS_nil, KpH_cons, KpH_nil, KpF_cons, KpF_nil, KpF_rows, KpA_cons, KpA_nil, KpA_app, KpA_rowV, KpA_rowIV, KpA_dcells, KpA_outC, Kp_any, Kp_nilv, Kp_d, Kp_ptr, Kp_sl, Kp_agg, Kp_tup, Kp_fn, get_cons, get_nil]) (by simp [KpS_cons, KpS_nil, KpH_cons, KpH_nil, KpF_cons, KpF_nil, KpF_rows, KpA_cons, KpA_nil, KpA_app, KpA_rowV, KpA_rowIV, KpA_dcells, KpA_outC, Kp_any, Kp_nilv, Kp_d, Kp_ptr, Kp_sl, Kp_agg, Kp_tup, Kp_fn, get_cons, get_nil]), m + 1, by omega, rfl⟩
    · replace hm := of_decide_eq_false hm
      have e : m = t.n := by omega
      subst e
      simp -implicitDefEqProofs only [xC_skip, evS, evT, decide_true, decide_false, decide_eq_true_eq, sides, Inst.places, List.mem_cons, List.not_mem_nil, forall_eq_or_imp, forall_eq, false_implies, implies_true, Apart, xeff, xhv, hv, effC, xev, look, argSl, atL_do, drops_at, keep, inBlockT, pickX, callX, callCX, callSX, callee, reduceCtorEq, ↓reduceIte, Nat.reduceEqDiff, Nat.reduceAdd, Nat.reduceMul, eq_self, Int.reduceToNat, Int.reduceAdd, Int.reduceSub, Int.reduceMul, Int.reduceNeg, Int.reduceLT, Int.reduceLE, rowD, rowI, rowsD, ivD, rowG, rowIG, rowsG, ivG, bne_self_eq_false, beq_self_eq_true, Nat.reduceLT, Nat.reduceLeDiff, ne_eq, Option.some.injEq, fillV, partsV, V.okPart, gt_iff_lt, ge_iff_le]
      refine callG_row 120 [tapeV t, .d (rowD (tabR fy t.n))] (by simp [Heap.next]) (r3_Eval_ac t (tabR fy t.n) ht hyl) ⟨.aggs ⟨.bare _, .bare _, .bare _, trivial⟩, snp_row rfl hyl rfl, trivial⟩ ?_
      have hfl := evalT_len t (tabR fy t.n)
      generalize hf : evalT t (tabR fy t.n) = f at hfl
      generalize hfg : (fun i => fop .sub (fop .mul (hW (2 ^ j)) (f.getD i 0)) ((Z.getD 1 []).getD i 0)) = fg
      have fg' : ∀ i, fg i = fop .sub (fop .mul (hW (2 ^ j)) (f.getD i 0)) ((Z.getD 1 []).getD i 0) := fun i => by rw [← hfg]
      have hg : gS t Z l (hW (2 ^ j)) d = tabR fg t.n := by unfold gS; rw [hy, hf, hfg]
      rw [hg] at hnx
      simp -implicitDefEqProofs only [xC_skip, evS, evT, decide_true, decide_false, decide_eq_true_eq, sides, Inst.places, List.mem_cons, List.not_mem_nil, forall_eq_or_imp, forall_eq, false_implies, implies_true, Apart, xeff, xhv, hv, effC, xev, look, argSl, atL_do, drops_at, keep, inBlockT, pickX, callX, callCX, callSX, callee, reduceCtorEq, ↓reduceIte, Nat.reduceEqDiff, Nat.reduceAdd, Nat.reduceMul, eq_self, Int.reduceToNat, Int.reduceAdd, Int.reduceSub, Int.reduceMul, Int.reduceNeg, Int.reduceLT, Int.reduceLE, rowD, rowI, rowsD, ivD, rowG, rowIG, rowsG, ivG, bne_self_eq_false, beq_self_eq_true, Nat.reduceLT, Nat.reduceLeDiff, ne_eq, Option.some.injEq, fillV, partsV, V.okPart, gt_iff_lt, ge_iff_le]
      (repeat (with_reducible refine And.intro (by omega) ?_))
      refine leaves_L4 t Z l j k i g f (tabR fy t.n) d hj hn z1 hZ1 hfl fg fg' _ fun v => ?_
      simp -implicitDefEqProofs only [xC_skip, evS, evT, decide_true, decide_false, decide_eq_true_eq, sides, Inst.places, List.mem_cons, List.not_mem_nil, forall_eq_or_imp, forall_eq, false_implies, implies_true, Apart, xeff, xhv, hv, effC, xev, look, argSl, atL_do, drops_at, keep, inBlockT, pickX, callX, callCX, callSX, callee, reduceCtorEq, ↓reduceIte, Nat.reduceEqDiff, Nat.reduceAdd, Nat.reduceMul, eq_self, Int.reduceToNat, Int.reduceAdd, Int.reduceSub, Int.reduceMul, Int.reduceNeg, Int.reduceLT, Int.reduceLE, rowD, rowI, rowsD, ivD, rowG, rowIG, rowsG, ivG, bne_self_eq_false, beq_self_eq_true, Nat.reduceLT, Nat.reduceLeDiff, ne_eq, Option.some.injEq, fillV, partsV, V.okPart, gt_iff_lt, ge_iff_le]
      rw [wrapI (by omega) (by omega)]
      refine ⟨c - 1, _, by omega, ?_, i + 1, by omega, rfl⟩
      rw [hnx]
      exact leaves_next t Z l j k (i + 1) g f _ d _
  · replace hi := of_decide_eq_false hi
    have e : i = k := by omega
    subst e
    simp -implicitDefEqProofs only [xC_skip, evS, evT, decide_true, decide_false, decide_eq_true_eq, sides, Inst.places, List.mem_cons, List.not_mem_nil, forall_eq_or_imp, forall_eq, false_implies, implies_true, Apart, xeff, xhv, hv, effC, xev, look, argSl, atL_do, drops_at, keep, inBlockT, pickX, callX, callCX, callSX, callee, reduceCtorEq, ↓reduceIte, Nat.reduceEqDiff, Nat.reduceAdd, Nat.reduceMul, eq_self, Int.reduceToNat, Int.reduceAdd, Int.reduceSub, Int.reduceMul, Int.reduceNeg, Int.reduceLT, Int.reduceLE, rowD, rowI, rowsD, ivD, rowG, rowIG, rowsG, ivG, bne_self_eq_false, beq_self_eq_true, Nat.reduceLT, Nat.reduceLeDiff, ne_eq, Option.some.injEq, fillV, partsV, V.okPart, gt_iff_lt, ge_iff_le, Nat.lt_irrefl]
    rw [hd0] at hQ
    exact hQ _
set_option maxRecDepth 8000 in
theorem l9_CorrLeaves_con (n : Int) (ns : List Int) (order : Int) (zs : List Int) (step : Int) (hns : ns.length < 2 ^ 62) (hzs : zs.length < 2 ^ 62) : Con Try.prog 5 [fI n, .d (rowI ns), fI order, .d (rowI zs), fI step] (fB true) := by
  refine Con_introA A_l9_CorrLeaves_comp rfl mixed ?_
  simp -implicitDefEqProofs only [xC_skip, evS, evT, decide_true, decide_false, decide_eq_true_eq, sides, Inst.places, List.mem_cons, List.not_mem_nil, forall_eq_or_imp, forall_eq, false_implies, implies_true, Apart, xeff, xhv, hv, effC, xev, look, argSl, atL_do, drops_at, keep, inBlockT, pickX, callX, callCX, callSX, callee, reduceCtorEq, ↓reduceIte, Nat.reduceEqDiff, Nat.reduceAdd, Nat.reduceMul, eq_self, Int.reduceToNat, Int.reduceAdd, Int.reduceSub, Int.reduceMul, Int.reduceNeg, Int.reduceLT, Int.reduceLE, rowD, rowI, rowsD, ivD, rowG, rowIG, rowsG, ivG, bne_self_eq_false, beq_self_eq_true, Nat.reduceLT, Nat.reduceLeDiff, ne_eq, Option.some.injEq, fillV, partsV, V.okPart, gt_iff_lt, ge_iff_le, A_l9_CorrLeaves]
  first | refine callG_con (l9_known_con) rfl ?_ | refine callCG_con (l9_known_con) rfl ?_ | refine callSG_con (l9_known_con) rfl ?_
  simp -implicitDefEqProofs only [xC_skip, evS, evT, decide_true, decide_false, decide_eq_true_eq, sides, Inst.places, List.mem_cons, List.not_mem_nil, forall_eq_or_imp, forall_eq, false_implies, implies_true, Apart, xeff, xhv, hv, effC, xev, look, argSl, atL_do, drops_at, keep, inBlockT, pickX, callX, callCX, callSX, callee, reduceCtorEq, ↓reduceIte, Nat.reduceEqDiff, Nat.reduceAdd, Nat.reduceMul, eq_self, Int.reduceToNat, Int.reduceAdd, Int.reduceSub, Int.reduceMul, Int.reduceNeg, Int.reduceLT, Int.reduceLE, rowD, rowI, rowsD, ivD, rowG, rowIG, rowsG, ivG, bne_self_eq_false, beq_self_eq_true, Nat.reduceLT, Nat.reduceLeDiff, ne_eq, Option.some.injEq, fillV, partsV, V.okPart, gt_iff_lt, ge_iff_le]
  first | refine callG_con (l3_Make_con n ns false hns) rfl ?_ | refine callCG_con (l3_Make_con n ns false hns) rfl ?_ | refine callSG_con (l3_Make_con n ns false hns) rfl ?_
  simp -implicitDefEqProofs only [xC_skip, evS, evT, decide_true, decide_false, decide_eq_true_eq, sides, Inst.places, List.mem_cons, List.not_mem_nil, forall_eq_or_imp, forall_eq, false_implies, implies_true, Apart, xeff, xhv, hv, effC, xev, look, argSl, atL_do, drops_at, keep, inBlockT, pickX, callX, callCX, callSX, callee, reduceCtorEq, ↓reduceIte, Nat.reduceEqDiff, Nat.reduceAdd, Nat.reduceMul, eq_self, Int.reduceToNat, Int.reduceAdd, Int.reduceSub, Int.reduceMul, Int.reduceNeg, Int.reduceLT, Int.reduceLE, rowD, rowI, rowsD, ivD, rowG, rowIG, rowsG, ivG, bne_self_eq_false, beq_self_eq_true, Nat.reduceLT, Nat.reduceLeDiff, ne_eq, Option.some.injEq, fillV, partsV, V.okPart, gt_iff_lt, ge_iff_le]
  have T1 := mkT_ok n ns false
  have T2 := mkT_n n ns false
  generalize mkT n ns false = t at T1 T2
  have n1 := Int.emod_nonneg n (by decide : (3 : Int) ≠ 0)
  have n2 := Int.emod_lt_of_pos n (by decide : (0 : Int) < 3)
  first | refine callG_con (l9_within_con order 5 (by decide) (by decide)) rfl ?_ | refine callCG_con (l9_within_con order 5 (by decide) (by decide)) rfl ?_ | refine callSG_con (l9_within_con order 5 (by decide) (by decide)) rfl ?_
  have o1 := Int.emod_nonneg order (by decide : (5 : Int) ≠ 0)
  have o2 := Int.emod_lt_of_pos order (by decide : (0 : Int) < 5)
  obtain ⟨q, hq⟩ : ∃ q : Nat, 1 + order % 5 = q := ⟨(1 + order % 5).toNat, by omega⟩
  have hq5 : 1 ≤ q ∧ q ≤ 5 := by omega
  have wq : IntKind.i64.wrap (1 + order % 5) = (q : Int) := by rw [hq]; exact wrapI (by omega) (by omega)
  have wn : IntKind.i64.wrap ((t.n : Int) - 1) = ((t.n - 1 : Nat) : Int) := by rw [wrapI (by omega) (by omega)]; omega
  have hk : t.n = (((t.n - 1 : Nat) : Int) % 3).toNat + 1 := by omega
  simp -implicitDefEqProofs only [xC_skip, evS, evT, decide_true, decide_false, decide_eq_true_eq, sides, Inst.places, List.mem_cons, List.not_mem_nil, forall_eq_or_imp, forall_eq, false_implies, implies_true, Apart, xeff, xhv, hv, effC, xev, look, argSl, atL_do, drops_at, keep, inBlockT, pickX, callX, callCX, callSX, callee, reduceCtorEq, ↓reduceIte, Nat.reduceEqDiff, Nat.reduceAdd, Nat.reduceMul, eq_self, Int.reduceToNat, Int.reduceAdd, Int.reduceSub, Int.reduceMul, Int.reduceNeg, Int.reduceLT, Int.reduceLE, rowD, rowI, rowsD, ivD, rowG, rowIG, rowsG, ivG, bne_self_eq_false, beq_self_eq_true, Nat.reduceLT, Nat.reduceLeDiff, ne_eq, Option.some.injEq, fillV, partsV, V.okPart, gt_iff_lt, ge_iff_le, wq, wn]
  refine callG_rows 20 [fI q, fI (t.n - 1 : Nat), .d (rowI zs)] (by simp [Heap.next]) (l8_Make_ac q ((t.n - 1 : Nat) : Int) zs q rfl (by omega) hzs t.n hk) ⟨.bare _, .bare _, .bare _, trivial⟩ ?_
  simp -implicitDefEqProofs only [xC_skip, evS, evT, decide_true, decide_false, decide_eq_true_eq, sides, Inst.places, List.mem_cons, List.not_mem_nil, forall_eq_or_imp, forall_eq, false_implies, implies_true, Apart, xeff, xhv, hv, effC, xev, look, argSl, atL_do, drops_at, keep, inBlockT, pickX, callX, callCX, callSX, callee, reduceCtorEq, ↓reduceIte, Nat.reduceEqDiff, Nat.reduceAdd, Nat.reduceMul, eq_self, Int.reduceToNat, Int.reduceAdd, Int.reduceSub, Int.reduceMul, Int.reduceNeg, Int.reduceLT, Int.reduceLE, rowD, rowI, rowsD, ivD, rowG, rowIG, rowsG, ivG, bne_self_eq_false, beq_self_eq_true, Nat.reduceLT, Nat.reduceLeDiff, ne_eq, Option.some.injEq, fillV, partsV, V.okPart, gt_iff_lt, ge_iff_le]
  have hz0 := zM_rk zs t.n (q + 1)
  generalize zM zs t.n (q + 1) = Z0 at hz0
  refine WA_forW (n := q + 1) (fun c s => ∃ j Z, c + j = q + 1 ∧ Rk (q + 1) t.n Z ∧ ((j ≤ q ∧ s = ⟨[(4, fI step), (11, .ptr 3 0 0 3), (12, fI q), (13, .sl 120 0 0 (q + 1) 1 (q + 1)), (14, fI j)], [(220, Z.map rowV), (120, [hdo 220 0 (q + 1) t.n]), (3, [jtT t])]⟩) ∨
    (j = q + 1 ∧ s = ⟨[(4, fI step), (11, .ptr 3 0 0 3), (12, fI q), (13, .d (rowsD Z)), (14, fI j)], [(3, [jtT t])]⟩))) (Le.refl _) ⟨0, Z0, by omega, hz0, .inl ⟨by omega, rfl⟩⟩ ?_
  rintro c s ⟨j, Z, hc, hZ, ⟨hj, rfl⟩ | ⟨rfl, rfl⟩⟩
  · have hzl := hZ.1
    have hjd : decide (j < q + 1) = true := by simp; omega
    simp -implicitDefEqProofs only [xC_skip, evS, evT, decide_true, decide_false, decide_eq_true_eq, sides, Inst.places, List.mem_cons, List.not_mem_nil, forall_eq_or_imp, forall_eq, false_implies, implies_true, Apart, xeff, xhv, hv, effC, xev, look, argSl, atL_do, drops_at, keep, inBlockT, pickX, callX, callCX, callSX, callee, reduceCtorEq, ↓reduceIte, Nat.reduceEqDiff, Nat.reduceAdd, Nat.reduceMul, eq_self, Int.reduceToNat, Int.reduceAdd, Int.reduceSub, Int.reduceMul, Int.reduceNeg, Int.reduceLT, Int.reduceLE, rowD, rowI, rowsD, ivD, rowG, rowIG, rowsG, ivG, bne_self_eq_false, beq_self_eq_true, Nat.reduceLT, Nat.reduceLeDiff, ne_eq, Option.some.injEq, fillV, partsV, V.okPart, gt_iff_lt, ge_iff_le, A_l9_CorrLeaves_L0, hjd]
    refine WA_for (n := t.n) (fun c s => ∃ i Z, c + i = t.n ∧ Rk (q + 1) t.n Z ∧ s = ⟨[(4, fI step), (11, .ptr 3 0 0 3), (12, fI q), (13, .sl 120 0 0 (q + 1) 1 (q + 1)), (14, fI j), (15, fI i)], [(220, Z.map rowV), (120, [hdo 220 0 (q + 1) t.n]), (3, [jtT t])]⟩) ⟨0, Z, by omega, hZ, rfl⟩ ?_
    rintro c' s ⟨i, Z', hc', hZ', rfl⟩
    have hzl' := hZ'.1
    have hzj := hZ'.2 j (by omega)
    simp -implicitDefEqProofs only [xC_skip, evS, evT, decide_true, decide_false, decide_eq_true_eq, sides, Inst.places, List.mem_cons, List.not_mem_nil, forall_eq_or_imp, forall_eq, false_implies, implies_true, Apart, xeff, xhv, hv, effC, xev, look, argSl, atL_do, drops_at, keep, inBlockT, pickX, callX, callCX, callSX, callee, reduceCtorEq, ↓reduceIte, Nat.reduceEqDiff, Nat.reduceAdd, Nat.reduceMul, eq_self, Int.reduceToNat, Int.reduceAdd, Int.reduceSub, Int.reduceMul, Int.reduceNeg, Int.reduceLT, Int.reduceLE, rowD, rowI, rowsD, ivD, rowG, rowIG, rowsG, ivG, bne_self_eq_false, beq_self_eq_true, Nat.reduceLT, Nat.reduceLeDiff, ne_eq, Option.some.injEq, fillV, partsV, V.okPart, gt_iff_lt, ge_iff_le, A_l9_CorrLeaves_L1, hdo_getD 220 0 (q + 1) t.n j (by omega)]
    refine ⟨by omega, by omega, ?_⟩
    refine condC_intro (fun hi => ?_) (fun hi => ?_)
    · replace hi := of_decide_eq_true hi
      have w2 : IntKind.i64.wrap (2 * (j : Int)) = ((2 * j : Nat) : Int) := by rw [wrapI (by omega) (by omega)]; omega
      simp -implicitDefEqProofs only [xC_skip, evS, evT, decide_true, decide_false, decide_eq_true_eq, sides, Inst.places, List.mem_cons, List.not_mem_nil, forall_eq_or_imp, forall_eq, false_implies, implies_true, Apart, xeff, xhv, hv, effC, xev, look, argSl, atL_do, drops_at, keep, inBlockT, pickX, callX, callCX, callSX, callee, reduceCtorEq, ↓reduceIte, Nat.reduceEqDiff, Nat.reduceAdd, Nat.reduceMul, eq_self, Int.reduceToNat, Int.reduceAdd, Int.reduceSub, Int.reduceMul, Int.reduceNeg, Int.reduceLT, Int.reduceLE, rowD, rowI, rowsD, ivD, rowG, rowIG, rowsG, ivG, bne_self_eq_false, beq_self_eq_true, Nat.reduceLT, Nat.reduceLeDiff, ne_eq, Option.some.injEq, fillV, partsV, V.okPart, gt_iff_lt, ge_iff_le, hdo_getD 220 0 (q + 1) t.n j (by omega), getE Z' j (by omega), getD_map_fl (Z'.getD j []) i (by omega), w2, setE]
      have wu : 0 ≤ IntKind.u64.wrap ((2 * j : Nat) : Int) := by rw [wrapU (by omega) (by omega)]; omega
      (repeat (with_reducible refine And.intro (by omega) ?_))
      rw [wrapI (by omega) (by omega)]
      exact ⟨c' - 1, by omega, i + 1, up2 Z' j i _, by omega, Rk_up2 hZ' _ _ _, rfl⟩
    · replace hi := of_decide_eq_false hi
      have e : i = t.n := by omega
      simp -implicitDefEqProofs only [xC_skip, evS, evT, decide_true, decide_false, decide_eq_true_eq, sides, Inst.places, List.mem_cons, List.not_mem_nil, forall_eq_or_imp, forall_eq, false_implies, implies_true, Apart, xeff, xhv, hv, effC, xev, look, argSl, atL_do, drops_at, keep, inBlockT, pickX, callX, callCX, callSX, callee, reduceCtorEq, ↓reduceIte, Nat.reduceEqDiff, Nat.reduceAdd, Nat.reduceMul, eq_self, Int.reduceToNat, Int.reduceAdd, Int.reduceSub, Int.reduceMul, Int.reduceNeg, Int.reduceLT, Int.reduceLE, rowD, rowI, rowsD, ivD, rowG, rowIG, rowsG, ivG, bne_self_eq_false, beq_self_eq_true, Nat.reduceLT, Nat.reduceLeDiff, ne_eq, Option.some.injEq, fillV, partsV, V.okPart, gt_iff_lt, ge_iff_le]
      rw [wrapI (by omega) (by omega)]
      by_cases hjq : j = q
      · subst hjq
        refine ⟨c - 1, _, by omega, ?_, j + 1, Z', by omega, hZ', .inr ⟨rfl, rfl⟩⟩
        have hz : ∀ L L' : Heap, L.get 120 0 = some (hdo 220 0 (j + 1) t.n) → L.fam 220 = some (Z'.map rowV) → L'.fam 120 = none → L'.fam 220 = none → Fz L L' (.sl 120 0 0 (j + 1) 1 (j + 1)) (.d (.bor Z'.length (rowsG Z'))) := fun L L' a b c d =>
          Fz_rows (X := 220) (o := 0) (len := t.n) a (fun r hr => ⟨by
            unfold Heap.get
            rw [b, Nat.add_zero]
            have : r < Z'.length := by omega
            simp [List.getD_eq_getElem?_getD, this], hZ'.2 r hr⟩) hzl' rfl c d
        exact LeT.weak (fun _ h => h) (by simp (maxDischargeDepth := 6) [Fz_rowD, Fz_rowI, Fz_rowsD, FzS_cons, FzS_nil, FzH_cons, FzH_nil, FzF_cons, FzF_nil, FzF_rows, FzA_cons, FzA_nil, FzA_app, FzA_rowV, FzA_dcells, FzA_outC, FzA_data, Fz_d, Fz_nil, Fz_any, Fz_ptr, Fz_sl, Fz_agg, get_cons, get_nil, fam_cons, fam_nil, hz]) (by simp (maxDischargeDepth := 6) [Fz_rowD, Fz_rowI, Fz_rowsD, FzS_cons, FzS_nil, FzH_cons, FzH_nil, FzF_cons, FzF_nil, FzF_rows, FzA_cons, FzA_nil, FzA_app, FzA_rowV, FzA_dcells, FzA_outC, FzA_data, Fz_d, Fz_nil, Fz_any, Fz_ptr, Fz_sl, Fz_agg, get_cons, get_nil, fam_cons, fam_nil])
      · exact ⟨c - 1, _, by omega, Le.refl _, j + 1, Z', by omega, hZ', .inl ⟨by omega, rfl⟩⟩
  · clear hz0
    have hjd : decide (q + 1 < Z.length) = false := by rw [hZ.1]; simp
    simp -implicitDefEqProofs only [xC_skip, evS, evT, decide_true, decide_false, decide_eq_true_eq, sides, Inst.places, List.mem_cons, List.not_mem_nil, forall_eq_or_imp, forall_eq, false_implies, implies_true, Apart, xeff, xhv, hv, effC, xev, look, argSl, atL_do, drops_at, keep, inBlockT, pickX, callX, callCX, callSX, callee, reduceCtorEq, ↓reduceIte, Nat.reduceEqDiff, Nat.reduceAdd, Nat.reduceMul, eq_self, Int.reduceToNat, Int.reduceAdd, Int.reduceSub, Int.reduceMul, Int.reduceNeg, Int.reduceLT, Int.reduceLE, rowD, rowI, rowsD, ivD, rowG, rowIG, rowsG, ivG, bne_self_eq_false, beq_self_eq_true, Nat.reduceLT, Nat.reduceLeDiff, ne_eq, Option.some.injEq, fillV, partsV, V.okPart, gt_iff_lt, ge_iff_le, A_l9_CorrLeaves_L0, hjd]
    obtain ⟨hof, hofl⟩ := r7_Of_ok 0 q (.inl ⟨rfl, hq5⟩)
    first | refine callG_con (hof) rfl ?_ | refine callCG_con (hof) rfl ?_ | refine callSG_con (hof) rfl ?_
    generalize ofL 0 q = l at hofl
    simp -implicitDefEqProofs only [xC_skip, evS, evT, decide_true, decide_false, decide_eq_true_eq, sides, Inst.places, List.mem_cons, List.not_mem_nil, forall_eq_or_imp, forall_eq, false_implies, implies_true, Apart, xeff, xhv, hv, effC, xev, look, argSl, atL_do, drops_at, keep, inBlockT, pickX, callX, callCX, callSX, callee, reduceCtorEq, ↓reduceIte, Nat.reduceEqDiff, Nat.reduceAdd, Nat.reduceMul, eq_self, Int.reduceToNat, Int.reduceAdd, Int.reduceSub, Int.reduceMul, Int.reduceNeg, Int.reduceLT, Int.reduceLE, rowD, rowI, rowsD, ivD, rowG, rowIG, rowsG, ivG, bne_self_eq_false, beq_self_eq_true, Nat.reduceLT, Nat.reduceLeDiff, ne_eq, Option.some.injEq, fillV, partsV, V.okPart, gt_iff_lt, ge_iff_le]
    first | refine callG_con (l9_within_con step 14 (by decide) (by decide)) rfl ?_ | refine callCG_con (l9_within_con step 14 (by decide) (by decide)) rfl ?_ | refine callSG_con (l9_within_con step 14 (by decide) (by decide)) rfl ?_
    have s1 := Int.emod_nonneg step (by decide : (14 : Int) ≠ 0)
    have s2 := Int.emod_lt_of_pos step (by decide : (0 : Int) < 14)
    obtain ⟨j, hj⟩ : ∃ j : Nat, 14 + step % 14 = j := ⟨(14 + step % 14).toNat, by omega⟩
    have hj2 : j < 28 := by omega
    have wj : IntKind.i64.wrap (14 + step % 14) = (j : Int) := by rw [hj]; exact wrapI (by omega) (by omega)
    have wu : 0 ≤ IntKind.u64.wrap (j : Int) := by rw [wrapU (by omega) (by omega)]; omega
    simp -implicitDefEqProofs only [xC_skip, evS, evT, decide_true, decide_false, decide_eq_true_eq, sides, Inst.places, List.mem_cons, List.not_mem_nil, forall_eq_or_imp, forall_eq, false_implies, implies_true, Apart, xeff, xhv, hv, effC, xev, look, argSl, atL_do, drops_at, keep, inBlockT, pickX, callX, callCX, callSX, callee, reduceCtorEq, ↓reduceIte, Nat.reduceEqDiff, Nat.reduceAdd, Nat.reduceMul, eq_self, Int.reduceToNat, Int.reduceAdd, Int.reduceSub, Int.reduceMul, Int.reduceNeg, Int.reduceLT, Int.reduceLE, rowD, rowI, rowsD, ivD, rowG, rowIG, rowsG, ivG, bne_self_eq_false, beq_self_eq_true, Nat.reduceLT, Nat.reduceLeDiff, ne_eq, Option.some.injEq, fillV, partsV, V.okPart, gt_iff_lt, ge_iff_le, wj, shl_pow j (by omega)]
    refine ⟨wu, ?_⟩
    have z1 := hZ.1
    have hZ0 := hZ.2 0 (by omega)
    have hZ1 := hZ.2 1 (by omega)
    (repeat (with_reducible refine And.intro (by omega) ?_))
    have hWt := r9_Weights_con (Z.getD 0 []) 4562254508917369340 4562254508917369340 (by omega)
    have hwl : (wtP (Z.getD 0 []) 4562254508917369340 4562254508917369340).length = t.n := (wtP_len _ _ _).trans hZ0
    generalize wtP (Z.getD 0 []) 4562254508917369340 4562254508917369340 = w at hWt hwl
    first | refine callG_con (hWt) rfl ?_ | refine callCG_con (hWt) rfl ?_ | refine callSG_con (hWt) rfl ?_
    simp -implicitDefEqProofs only [xC_skip, evS, evT, decide_true, decide_false, decide_eq_true_eq, sides, Inst.places, List.mem_cons, List.not_mem_nil, forall_eq_or_imp, forall_eq, false_implies, implies_true, Apart, xeff, xhv, hv, effC, xev, look, argSl, atL_do, drops_at, keep, inBlockT, pickX, callX, callCX, callSX, callee, reduceCtorEq, ↓reduceIte, Nat.reduceEqDiff, Nat.reduceAdd, Nat.reduceMul, eq_self, Int.reduceToNat, Int.reduceAdd, Int.reduceSub, Int.reduceMul, Int.reduceNeg, Int.reduceLT, Int.reduceLE, rowD, rowI, rowsD, ivD, rowG, rowIG, rowsG, ivG, bne_self_eq_false, beq_self_eq_true, Nat.reduceLT, Nat.reduceLeDiff, ne_eq, Option.some.injEq, fillV, partsV, V.okPart, gt_iff_lt, ge_iff_le]
    have ok : Sok t Z l w (List.replicate t.n 0) := ⟨T1, by omega, fun i hi => by
      rcases i with _ | _ | i
      · exact hZ0
      · exact hZ1
      · omega, by omega, hwl, by simp⟩
    have hn0 : 0 < t.n := by omega
    rcases solG_form t Z l (hW (2 ^ j)) w 0 with ⟨g, k, hgl, hg⟩ | ⟨k, e, hne, hg⟩
    · have hsol := corr_SolveG_ok t Z l (hW (2 ^ j)) w ((2 ^ j : Nat) : Int) 0 hn0 ok (Scale_pow j (by omega)) g k hg
      have hg' : seek (tryA t Z l (hW (2 ^ j)) w) 4 1 (List.replicate t.n 0) = (g, k, 0) := hg
      obtain ⟨k1, k2⟩ := seek_tries _ _ _ _ _ _ _ (by decide) (by decide) hg'
      have hit := seek_it _ _ _ _ _ _ _ _ _ _ (by decide) (by decide) hg'
      refine callG_sum 100 _ (by simp [Heap.next]) hsol ⟨.aggs ⟨.bare _, .bare _, .bare _, trivial⟩, .bare _, .bare _, .bare _, .bare _, .bare _, trivial⟩ ?_
      simp -implicitDefEqProofs only [xC_skip, evS, evT, decide_true, decide_false, decide_eq_true_eq, sides, Inst.places, List.mem_cons, List.not_mem_nil, forall_eq_or_imp, forall_eq, false_implies, implies_true, Apart, xeff, xhv, hv, effC, xev, look, argSl, atL_do, drops_at, keep, inBlockT, pickX, callX, callCX, callSX, callee, reduceCtorEq, ↓reduceIte, Nat.reduceEqDiff, Nat.reduceAdd, Nat.reduceMul, eq_self, Int.reduceToNat, Int.reduceAdd, Int.reduceSub, Int.reduceMul, Int.reduceNeg, Int.reduceLT, Int.reduceLE, rowD, rowI, rowsD, ivD, rowG, rowIG, rowsG, ivG, bne_self_eq_false, beq_self_eq_true, Nat.reduceLT, Nat.reduceLeDiff, ne_eq, Option.some.injEq, fillV, partsV, V.okPart, gt_iff_lt, ge_iff_le]
      have hk1 : decide ((k : Int) < 1) = false := by simp; omega
      have hk2 : decide ((4 : Int) < (k : Int)) = false := by simp; omega
      simp -implicitDefEqProofs only [xC_skip, evS, evT, decide_true, decide_false, decide_eq_true_eq, sides, Inst.places, List.mem_cons, List.not_mem_nil, forall_eq_or_imp, forall_eq, false_implies, implies_true, Apart, xeff, xhv, hv, effC, xev, look, argSl, atL_do, drops_at, keep, inBlockT, pickX, callX, callCX, callSX, callee, reduceCtorEq, ↓reduceIte, Nat.reduceEqDiff, Nat.reduceAdd, Nat.reduceMul, eq_self, Int.reduceToNat, Int.reduceAdd, Int.reduceSub, Int.reduceMul, Int.reduceNeg, Int.reduceLT, Int.reduceLE, rowD, rowI, rowsD, ivD, rowG, rowIG, rowsG, ivG, bne_self_eq_false, beq_self_eq_true, Nat.reduceLT, Nat.reduceLeDiff, ne_eq, Option.some.injEq, fillV, partsV, V.okPart, gt_iff_lt, ge_iff_le, hk1, hk2]
      (repeat (with_reducible refine And.intro (by omega) ?_))
      refine leaves_L2 t Z l j k g T1.n hj2 T1 (by omega) hZ0 hZ1 (by omega) k2 hgl _ fun v => ?_
      simp -implicitDefEqProofs only [xC_skip, evS, evT, decide_true, decide_false, decide_eq_true_eq, sides, Inst.places, List.mem_cons, List.not_mem_nil, forall_eq_or_imp, forall_eq, false_implies, implies_true, Apart, xeff, xhv, hv, effC, xev, look, argSl, atL_do, drops_at, keep, inBlockT, pickX, callX, callCX, callSX, callee, reduceCtorEq, ↓reduceIte, Nat.reduceEqDiff, Nat.reduceAdd, Nat.reduceMul, eq_self, Int.reduceToNat, Int.reduceAdd, Int.reduceSub, Int.reduceMul, Int.reduceNeg, Int.reduceLT, Int.reduceLE, rowD, rowI, rowsD, ivD, rowG, rowIG, rowsG, ivG, bne_self_eq_false, beq_self_eq_true, Nat.reduceLT, Nat.reduceLeDiff, ne_eq, Option.some.injEq, fillV, partsV, V.okPart, gt_iff_lt, ge_iff_le]
      rw [show k - 1 + 1 = k by omega] at hit
      rw [← hit]
      refine callG_snaps [.d (rowD g), .d (rowD g)] (r1_Rows_con g (by omega)) ⟨snp_row rfl hgl rfl, snp_row rfl hgl rfl, trivial⟩ (.bool _) ?_
      simp -implicitDefEqProofs only [xC_skip, evS, evT, decide_true, decide_false, decide_eq_true_eq, sides, Inst.places, List.mem_cons, List.not_mem_nil, forall_eq_or_imp, forall_eq, false_implies, implies_true, Apart, xeff, xhv, hv, effC, xev, look, argSl, atL_do, drops_at, keep, inBlockT, pickX, callX, callCX, callSX, callee, reduceCtorEq, ↓reduceIte, Nat.reduceEqDiff, Nat.reduceAdd, Nat.reduceMul, eq_self, Int.reduceToNat, Int.reduceAdd, Int.reduceSub, Int.reduceMul, Int.reduceNeg, Int.reduceLT, Int.reduceLE, rowD, rowI, rowsD, ivD, rowG, rowIG, rowsG, ivG, bne_self_eq_false, beq_self_eq_true, Nat.reduceLT, Nat.reduceLeDiff, ne_eq, Option.some.injEq, fillV, partsV, V.okPart, gt_iff_lt, ge_iff_le]
      exact endsT_rett rfl (by decide) (by simp [look])
    · have hsol := corr_SolveG_no t Z l (hW (2 ^ j)) w ((2 ^ j : Nat) : Int) 0 hn0 ok (Scale_pow j (by omega)) k e hne hg
      have hg' : seek (tryA t Z l (hW (2 ^ j)) w) 4 1 (List.replicate t.n 0) = ([], k, e) := hg
      obtain ⟨k1, k2⟩ := seek_tries _ _ _ _ _ _ _ (by decide) (by decide) hg'
      refine callG_sumN _ hsol ⟨.aggs ⟨.bare _, .bare _, .bare _, trivial⟩, .bare _, .bare _, .bare _, .bare _, .bare _, trivial⟩ ?_
      have he' : (e != 0) = true := by simpa using hne
      have hk1 : decide ((1 : Int) ≤ (k : Int)) = true := by simp; omega
      have hk2 : decide ((k : Int) ≤ 4) = true := by simp; omega
      simp -implicitDefEqProofs only [xC_skip, evS, evT, decide_true, decide_false, decide_eq_true_eq, sides, Inst.places, List.mem_cons, List.not_mem_nil, forall_eq_or_imp, forall_eq, false_implies, implies_true, Apart, xeff, xhv, hv, effC, xev, look, argSl, atL_do, drops_at, keep, inBlockT, pickX, callX, callCX, callSX, callee, reduceCtorEq, ↓reduceIte, Nat.reduceEqDiff, Nat.reduceAdd, Nat.reduceMul, eq_self, Int.reduceToNat, Int.reduceAdd, Int.reduceSub, Int.reduceMul, Int.reduceNeg, Int.reduceLT, Int.reduceLE, rowD, rowI, rowsD, ivD, rowG, rowIG, rowsG, ivG, bne_self_eq_false, beq_self_eq_true, Nat.reduceLT, Nat.reduceLeDiff, ne_eq, Option.some.injEq, fillV, partsV, V.okPart, gt_iff_lt, ge_iff_le, he', hk1, hk2]
      exact endsT_rett rfl (by decide) (by simp [look])
end Go.Ab
