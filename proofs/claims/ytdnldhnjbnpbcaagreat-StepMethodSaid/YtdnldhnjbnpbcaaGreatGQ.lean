/- Part 17: SK, SL, MA, SM. -/
import Derived.Test.YtdnldhnjbnpbcaaGreatGP
namespace Go.Ab
set_option linter.unusedSimpArgs false
set_option linter.unusedVariables false
open Nat renaming reduceEqDiff → n1_, reduceAdd → n2_, reduceMul → n3_, reduceLT → n4_, reduceLeDiff → n5_
open Int renaming reduceToNat → i1_, reduceAdd → i2_, reduceSub → i3_, reduceMul → i4_, reduceNeg → i5_, reduceLT → i6_, reduceLE → i7_
open Go Go.Proofs
def A_step_Try_R0 : CA := (.seq .skip (.seq (.reg [i_A 0 92 3 8, i_P 1 93 6 0, i_S 2 93 92 8] [2, 3, 4, 5, 6, 11]) (.seq (.reg [i_P 0 94 5 4, i_L 1 95 94 1, i_X 2 96 (.callA (.k (.d (.fn 40 [] []))) [(.t 95)]), i_P 3 97 6 0, i_P 4 98 97 0, i_P 5 99 98 4, i_S 6 99 96 1] [2, 3, 4, 5, 6, 11]) (.seq (.seq (.reg [i_P 0 100 5 1, i_L 1 101 100 1, i_P 2 102 2 7, i_L 3 103 102 1, i_X 4 104 (.h (.ibin .leq (.t 101) (.t 103)))] [2, 3, 4, 5, 6, 11, 104]) (.cond (.t 104) (.seq (.reg [i_P 0 105 6 15, ⟨1, none, none, [], [], (.store (.t 105) (.k (.d (.int .i64 5))) 1)⟩] [4, 6, 11]) (.seq (.seq (.reg [i_P 0 106 11 2, i_L 1 107 106 1, i_X 2 108 (.h (.ibin .eql (.t 107) (.k (.d (.int .i64 4))))), i_M 3 109 108, ⟨4, (some 110), (some (109, false)), [], [], (.h (.padd (.t 11) 2))⟩, ⟨5, (some 111), (some (109, false)), [], [], (.load (.t 110) 1 false)⟩, ⟨6, (some 112), (some (109, false)), [], [], (.h (.ibin .eql (.t 111) (.k (.d (.int .i64 2)))))⟩, i_X 7 113 (.h (.pick (.t 109) (.k (.d (.bool true))) (.t 112)))] [4, 6, 11, 113]) (.cond (.t 113) (.reg [i_P 0 114 11 2, i_L 1 115 114 1, i_P 2 116 6 15, i_S 3 116 115 1] [4, 6]) .skip)) (.seq (.reg [i_A 0 117 6 16, i_S 1 4 117 16] [4]) .ret))) .skip)) (.seq (.reg [i_P 0 118 3 6, i_L 1 119 118 1, i_X 2 120 (.h (.ibin .add (.t 119) (.k (.d (.int .i64 1))))), i_P 3 121 6 0, i_P 4 122 121 6, i_S 5 122 120 1, i_P 6 123 6 0, i_P 7 124 123 5, ⟨8, none, none, [], [], (.store (.t 124) (.k (.d (.int .i64 0))) 1)⟩] [2, 4, 5, 6, 11]) (.seq (.seq (.reg [i_P 0 125 11 2, i_L 1 126 125 1, i_X 2 127 (.h (.ibin .eql (.t 126) (.k (.d (.int .i64 6))))), i_M 3 128 127, ⟨4, (some 129), (some (128, true)), [], [], (.h (.padd (.t 5) 3))⟩, ⟨5, (some 130), (some (128, true)), [], [], (.load (.t 129) 1 false)⟩, ⟨6, (some 131), (some (128, true)), [], [], (.h (.ibin .eql (.t 130) (.k (.d (.int .i64 0)))))⟩, i_X 7 132 (.h (.pick (.t 128) (.t 131) (.k (.d (.bool false)))))] [2, 4, 5, 6, 132]) (.cond (.t 132) (.reg [i_P 0 133 6 0, i_P 1 134 133 7, i_L 2 135 134 1, i_X 3 136 (.h (.ibin .add (.t 135) (.k (.d (.int .i64 1))))), i_P 4 137 6 0, i_P 5 138 137 7, i_S 6 138 136 1] [2, 4, 5, 6]) .skip)) (.seq (.reg [i_P 0 139 5 1, i_L 1 140 139 1, i_X 2 141 (.h (.ibin .quo (.t 140) (.k (.d (.int .i64 2))))), i_P 3 142 5 4, i_L 4 143 142 1, i_X 5 144 (.callS 5 (.k (.d (.fn 41 [] []))) [(.t 143), (.k (.d (.int .i64 (-1))))]), i_P 6 145 6 0, i_P 7 146 145 0, i_P 8 147 146 1, i_S 9 147 141 1, i_P 10 148 6 0, i_P 11 149 148 0, i_P 12 150 149 4, i_S 13 150 144 1] [2, 4, 6]) (.seq (.block 0 (.seq (.reg [i_P 0 152 6 0, i_P 1 153 152 7, i_L 2 154 153 1, i_X 3 155 (.h (.ibin .geq (.t 154) (.k (.d (.int .i64 2))))), i_M 4 151 155] [2, 4, 6, 151]) (.cond (.t 151) (.reg [i_P 0 156 6 0, i_P 1 157 156 0, i_P 2 158 157 3, ⟨3, none, none, [], [], (.store (.t 158) (.k (.d (.int .i64 1))) 1)⟩, i_P 4 159 6 0, i_P 5 160 159 7, ⟨6, none, none, [], [], (.store (.t 160) (.k (.d (.int .i64 0))) 1)⟩] [2, 4, 6]) (.seq (.reg [i_P 0 162 6 0, i_P 1 163 162 6, i_L 2 164 163 1, i_X 3 165 (.h (.ibin .lss (.t 164) (.k (.d (.int .i64 3))))), i_M 4 161 165] [2, 4, 6, 161]) (.cond (.t 161) (.seq (.reg [i_A 0 166 6 16, i_S 1 4 166 16] [4]) .ret) .skip))))) (.seq (.reg [i_A 0 167 2 13, i_P 1 168 6 0, i_P 2 169 168 0, i_A 3 170 169 5, i_X 4 171 (.callA (.k (.d (.fn 42 [] []))) [(.t 167), (.t 170)]), i_P 5 172 6 0, i_P 6 173 172 0, i_S 7 173 171 5, i_P 8 174 6 0, i_P 9 175 174 6, ⟨10, none, none, [], [], (.store (.t 175) (.k (.d (.int .i64 0))) 1)⟩] [4, 6]) (.seq (.reg [i_A 0 176 6 16, i_S 1 4 176 16] [4]) .ret))))))))))
def A_step_Try : CA := (.seq (.reg [i_X 0 2 (.box (.t 0) 13 33), i_X 1 3 (.box (.t 1) 8 42), i_X 2 4 (.alloc [(.d (.int .i64 0)), (.d (.int .i64 0)), (.d (.int .i64 0)), (.d (.int .i64 0)), .nil, (.d (.int .i64 0)), (.d (.int .i64 0)), (.d (.int .i64 0)), (.d (.int .i64 0)), (.d (.int .i64 0)), (.d (.int .i64 0)), (.d (.int .i64 0)), .nil, (.d (.bool false)), (.d (.flt 0)), (.d (.int .i64 0))] 45)] [2, 3, 4]) (.scope 1000000 (.seq (.reg [i_P 0 12 3 0, i_A 1 13 12 5, i_X 2 5 (.alloc [(.d (.int .i64 0)), (.d (.int .i64 0)), (.d (.int .i64 0)), (.d (.int .i64 0)), .nil] 37), i_S 3 5 13 5] [2, 3, 4, 5]) (.seq (.reg [i_X 0 6 (.alloc [(.d (.int .i64 0)), (.d (.int .i64 0)), (.d (.int .i64 0)), (.d (.int .i64 0)), .nil, (.d (.int .i64 0)), (.d (.int .i64 0)), (.d (.int .i64 0)), (.d (.int .i64 0)), (.d (.int .i64 0)), (.d (.int .i64 0)), (.d (.int .i64 0)), .nil, (.d (.bool false)), (.d (.flt 0)), (.d (.int .i64 0))] 45)] [2, 3, 4, 5, 6]) (.seq (.reg [i_P 0 14 5 4, i_L 1 15 14 1, i_X 2 16 (.callA (.k (.d (.fn 33 [] []))) [(.t 15)]), i_M 3 7 16] [2, 3, 4, 5, 6, 7]) (.seq (.reg [i_P 0 18 5 3, i_L 1 19 18 1, i_P 2 20 5 2, i_L 3 21 20 1, i_X 4 22 (.callA (.k (.d (.fn 34 [] []))) [(.t 19), (.t 21)]), i_M 5 17 22, i_X 6 23 (.h (.ext (.t 17) 0)), i_X 7 24 (.h (.ext (.t 17) 1)), i_M 8 8 23, i_M 9 9 24] [2, 3, 4, 5, 6, 7, 8]) (.seq (.reg [i_P 0 25 5 4, i_L 1 26 25 1, i_X 2 27 (.h (.idx (.t 26) (.k (.d (.int .i64 0))) 1)), i_L 3 28 27 1, i_P 4 29 2 8, i_L 5 30 29 1, i_P 6 31 2 9, i_L 7 32 31 1, i_X 8 33 (.callA (.k (.d (.fn 35 [] []))) [(.t 28), (.t 30), (.t 32)]), i_M 9 10 33] [2, 3, 4, 5, 6, 7, 8, 10]) (.seq (.reg [i_P 0 34 2 0, i_A 1 35 34 3, i_M 2 36 7, i_M 3 37 8, i_P 4 38 5 1, i_L 5 39 38 1, i_P 6 40 5 3, i_L 7 41 40 1, i_M 8 42 10, i_X 9 43 (.callA (.k (.d (.fn 36 [] []))) [(.t 35), (.t 36), (.t 37), (.t 39), (.t 41), (.t 42)]), i_X 10 11 (.alloc [.nil, (.d (.int .i64 0)), (.d (.int .i64 0))] 75), i_S 11 11 43 3] [2, 3, 4, 5, 6, 7, 8, 10, 11]) (.seq (.seq (.reg [i_P 0 44 11 2, i_L 1 45 44 1, i_X 2 46 (.h (.ibin .neq (.t 45) (.k (.d (.int .i64 0)))))] [2, 3, 4, 5, 6, 7, 8, 10, 11, 46]) (.cond (.t 46) (.exit 1000000) .skip)) (.seq (.reg [i_P 0 47 11 0, i_L 1 48 47 1, i_M 2 49 10, i_X 3 50 (.callS 0 (.k (.d (.fn 37 [] []))) [(.t 48), (.t 49)]), i_P 4 51 5 2, i_L 5 52 51 1, i_X 6 53 (.h (.ibin .add (.t 52) (.k (.d (.int .i64 1))))), i_X 7 54 (.h (.i2f (.t 53))), i_X 8 55 (.h (.fbin .div (.t 50) (.t 54))), i_P 9 56 6 14, i_S 10 56 55 1] [2, 3, 4, 5, 6, 7, 8, 11]) (.seq (.seq (.reg [i_P 0 57 6 14, i_L 1 58 57 1, i_X 2 59 (.h (.fcmp .le (.t 58) (.k (.d (.flt 4607182418800017408))))), i_X 3 60 (.h (.un .not (.t 59)))] [2, 3, 4, 5, 6, 7, 8, 11, 60]) (.cond (.t 60) (.exit 1000000) .skip)) (.seq (.reg [i_P 0 61 6 13, ⟨1, none, none, [], [], (.store (.t 61) (.k (.d (.bool true))) 1)⟩] [2, 3, 4, 5, 6, 7, 8, 11]) (.seq (.reg [i_P 0 62 5 0, i_L 1 63 62 1, i_P 2 64 5 1, i_L 3 65 64 1, i_X 4 66 (.h (.ibin .add (.t 63) (.t 65))), i_P 5 67 5 1, i_L 6 68 67 1, i_P 7 69 5 2, i_L 8 70 69 1, i_P 9 71 5 3, i_L 10 72 71 1, i_M 11 73 7, i_M 12 74 8, i_P 13 75 11 0, i_L 14 76 75 1, i_X 15 77 (.callS 15 (.k (.d (.fn 38 [] []))) [(.t 73), (.t 74), (.t 76)]), i_X 16 78 (.h (.build [(.d (.int .i64 0)), (.d (.int .i64 0)), (.d (.int .i64 0)), (.d (.int .i64 0)), .nil] [(0, (1, (.t 66))), (1, (1, (.t 68))), (2, (1, (.t 70))), (3, (1, (.t 72))), (4, (1, (.t 77)))])), i_P 17 79 6 8, i_S 18 79 78 5] [2, 3, 4, 6, 8, 11]) (.seq (.reg [i_A 0 80 2 13, i_A 1 81 3 8, i_P 2 82 6 8, i_A 3 83 82 5, i_M 4 84 8, i_P 5 85 11 0, i_L 6 86 85 1, i_P 7 87 6 14, i_L 8 88 87 1, i_X 9 89 (.callA (.k (.d (.fn 39 [] []))) [(.t 80), (.t 81), (.t 83), (.t 84), (.t 86), (.t 88)]), i_P 10 90 6 0, i_S 11 90 89 8] [4, 6]) (.seq (.seq (.reg [i_A 0 91 6 16, i_S 1 4 91 16] [4]) .ret) (.seq (.lab 0) (.seq (.reg [i_A 0 92 3 8, i_P 1 93 6 0, i_S 2 93 92 8] [2, 3, 4, 5, 6, 11]) (.seq (.reg [i_P 0 94 5 4, i_L 1 95 94 1, i_X 2 96 (.callA (.k (.d (.fn 40 [] []))) [(.t 95)]), i_P 3 97 6 0, i_P 4 98 97 0, i_P 5 99 98 4, i_S 6 99 96 1] [2, 3, 4, 5, 6, 11]) (.seq (.seq (.reg [i_P 0 100 5 1, i_L 1 101 100 1, i_P 2 102 2 7, i_L 3 103 102 1, i_X 4 104 (.h (.ibin .leq (.t 101) (.t 103)))] [2, 3, 4, 5, 6, 11, 104]) (.cond (.t 104) (.seq (.reg [i_P 0 105 6 15, ⟨1, none, none, [], [], (.store (.t 105) (.k (.d (.int .i64 5))) 1)⟩] [4, 6, 11]) (.seq (.seq (.reg [i_P 0 106 11 2, i_L 1 107 106 1, i_X 2 108 (.h (.ibin .eql (.t 107) (.k (.d (.int .i64 4))))), i_M 3 109 108, ⟨4, (some 110), (some (109, false)), [], [], (.h (.padd (.t 11) 2))⟩, ⟨5, (some 111), (some (109, false)), [], [], (.load (.t 110) 1 false)⟩, ⟨6, (some 112), (some (109, false)), [], [], (.h (.ibin .eql (.t 111) (.k (.d (.int .i64 2)))))⟩, i_X 7 113 (.h (.pick (.t 109) (.k (.d (.bool true))) (.t 112)))] [4, 6, 11, 113]) (.cond (.t 113) (.reg [i_P 0 114 11 2, i_L 1 115 114 1, i_P 2 116 6 15, i_S 3 116 115 1] [4, 6]) .skip)) (.seq (.reg [i_A 0 117 6 16, i_S 1 4 117 16] [4]) .ret))) .skip)) (.seq (.reg [i_P 0 118 3 6, i_L 1 119 118 1, i_X 2 120 (.h (.ibin .add (.t 119) (.k (.d (.int .i64 1))))), i_P 3 121 6 0, i_P 4 122 121 6, i_S 5 122 120 1, i_P 6 123 6 0, i_P 7 124 123 5, ⟨8, none, none, [], [], (.store (.t 124) (.k (.d (.int .i64 0))) 1)⟩] [2, 4, 5, 6, 11]) (.seq (.seq (.reg [i_P 0 125 11 2, i_L 1 126 125 1, i_X 2 127 (.h (.ibin .eql (.t 126) (.k (.d (.int .i64 6))))), i_M 3 128 127, ⟨4, (some 129), (some (128, true)), [], [], (.h (.padd (.t 5) 3))⟩, ⟨5, (some 130), (some (128, true)), [], [], (.load (.t 129) 1 false)⟩, ⟨6, (some 131), (some (128, true)), [], [], (.h (.ibin .eql (.t 130) (.k (.d (.int .i64 0)))))⟩, i_X 7 132 (.h (.pick (.t 128) (.t 131) (.k (.d (.bool false)))))] [2, 4, 5, 6, 132]) (.cond (.t 132) (.reg [i_P 0 133 6 0, i_P 1 134 133 7, i_L 2 135 134 1, i_X 3 136 (.h (.ibin .add (.t 135) (.k (.d (.int .i64 1))))), i_P 4 137 6 0, i_P 5 138 137 7, i_S 6 138 136 1] [2, 4, 5, 6]) .skip)) (.seq (.reg [i_P 0 139 5 1, i_L 1 140 139 1, i_X 2 141 (.h (.ibin .quo (.t 140) (.k (.d (.int .i64 2))))), i_P 3 142 5 4, i_L 4 143 142 1, i_X 5 144 (.callS 5 (.k (.d (.fn 41 [] []))) [(.t 143), (.k (.d (.int .i64 (-1))))]), i_P 6 145 6 0, i_P 7 146 145 0, i_P 8 147 146 1, i_S 9 147 141 1, i_P 10 148 6 0, i_P 11 149 148 0, i_P 12 150 149 4, i_S 13 150 144 1] [2, 4, 6]) (.seq (.block 0 (.seq (.reg [i_P 0 152 6 0, i_P 1 153 152 7, i_L 2 154 153 1, i_X 3 155 (.h (.ibin .geq (.t 154) (.k (.d (.int .i64 2))))), i_M 4 151 155] [2, 4, 6, 151]) (.cond (.t 151) (.reg [i_P 0 156 6 0, i_P 1 157 156 0, i_P 2 158 157 3, ⟨3, none, none, [], [], (.store (.t 158) (.k (.d (.int .i64 1))) 1)⟩, i_P 4 159 6 0, i_P 5 160 159 7, ⟨6, none, none, [], [], (.store (.t 160) (.k (.d (.int .i64 0))) 1)⟩] [2, 4, 6]) (.seq (.reg [i_P 0 162 6 0, i_P 1 163 162 6, i_L 2 164 163 1, i_X 3 165 (.h (.ibin .lss (.t 164) (.k (.d (.int .i64 3))))), i_M 4 161 165] [2, 4, 6, 161]) (.cond (.t 161) (.seq (.reg [i_A 0 166 6 16, i_S 1 4 166 16] [4]) .ret) .skip))))) (.seq (.reg [i_A 0 167 2 13, i_P 1 168 6 0, i_P 2 169 168 0, i_A 3 170 169 5, i_X 4 171 (.callA (.k (.d (.fn 42 [] []))) [(.t 167), (.t 170)]), i_P 5 172 6 0, i_P 6 173 172 0, i_S 7 173 171 5, i_P 8 174 6 0, i_P 9 175 174 6, ⟨10, none, none, [], [], (.store (.t 175) (.k (.d (.int .i64 0))) 1)⟩] [4, 6]) (.seq (.reg [i_A 0 176 6 16, i_S 1 4 176 16] [4]) .ret))))))))))))))))))))))) A_step_Try_R0))
theorem A_step_Try_comp : compF Tryz.prog 17 = some ⟨177, [(4, (some (16, true)))], A_step_Try.strip⟩ := by kernel_rfl
def A_r10_Try : CA := (.seq (.reg [i_X 0 2 (.box (.t 0) 13 33), i_X 1 3 (.box (.t 1) 8 39), i_X 2 4 (.alloc [(.d (.int .i64 0)), (.d (.int .i64 0)), (.d (.int .i64 0)), (.d (.int .i64 0)), .nil, (.d (.int .i64 0)), (.d (.int .i64 0)), (.d (.int .i64 0)), (.d (.int .i64 0)), (.d (.int .i64 0)), (.d (.int .i64 0)), (.d (.int .i64 0)), .nil, (.d (.bool false)), (.d (.flt 0)), (.d (.int .i64 0))] 49)] [2, 3, 4]) (.seq (.reg [i_P 0 11 3 0, i_P 1 12 11 4, i_L 2 13 12 1, i_X 3 14 (.callA (.k (.d (.fn 24 [] []))) [(.t 13)]), i_M 4 5 14] [2, 3, 4, 5]) (.seq (.reg [i_P 0 16 3 0, i_P 1 17 16 3, i_L 2 18 17 1, i_P 3 19 3 0, i_P 4 20 19 2, i_L 5 21 20 1, i_X 6 22 (.callA (.k (.d (.fn 25 [] []))) [(.t 18), (.t 21)]), i_M 7 15 22, i_X 8 23 (.h (.ext (.t 15) 0)), i_X 9 24 (.h (.ext (.t 15) 1)), i_M 10 6 23, i_M 11 7 24] [2, 3, 4, 5, 6]) (.seq (.reg [i_P 0 25 3 0, i_P 1 26 25 4, i_L 2 27 26 1, i_X 3 28 (.h (.idx (.t 27) (.k (.d (.int .i64 0))) 1)), i_L 4 29 28 1, i_P 5 30 2 8, i_L 6 31 30 1, i_P 7 32 2 9, i_L 8 33 32 1, i_X 9 34 (.callA (.k (.d (.fn 27 [] []))) [(.t 29), (.t 31), (.t 33)]), i_M 10 8 34] [2, 3, 4, 5, 6, 8]) (.seq (.reg [i_P 0 35 2 0, i_A 1 36 35 3, i_M 2 37 5, i_M 3 38 6, i_P 4 39 3 0, i_P 5 40 39 1, i_L 6 41 40 1, i_P 7 42 3 0, i_P 8 43 42 3, i_L 9 44 43 1, i_M 10 45 8, i_X 11 46 (.callA (.k (.d (.fn 26 [] []))) [(.t 36), (.t 37), (.t 38), (.t 41), (.t 44), (.t 45)]), i_X 12 9 (.alloc [.nil, (.d (.int .i64 0)), (.d (.int .i64 0))] 60), i_S 13 9 46 3] [2, 3, 4, 5, 6, 8, 9]) (.seq (.seq (.reg [i_P 0 47 9 2, i_L 1 48 47 1, i_X 2 49 (.h (.ibin .neq (.t 48) (.k (.d (.int .i64 0)))))] [2, 3, 4, 5, 6, 8, 9, 49]) (.cond (.t 49) (.seq (.reg [i_A 0 50 2 13, i_A 1 51 3 8, i_P 2 52 9 2, i_L 3 53 52 1, i_X 4 54 (.callA (.k (.d (.fn 44 [] []))) [(.t 50), (.t 51), (.t 53), (.k (.d (.flt 0)))]), i_S 5 4 54 16] [4]) .ret) .skip)) (.seq (.reg [i_P 0 55 9 0, i_L 1 56 55 1, i_M 2 57 8, i_X 3 58 (.callS 0 (.k (.d (.fn 45 [] []))) [(.t 56), (.t 57)]), i_P 4 59 3 0, i_P 5 60 59 2, i_L 6 61 60 1, i_X 7 62 (.h (.ibin .add (.t 61) (.k (.d (.int .i64 1))))), i_X 8 63 (.h (.i2f (.t 62))), i_X 9 64 (.h (.fbin .div (.t 58) (.t 63))), i_M 10 10 64] [2, 3, 4, 5, 6, 9, 10]) (.seq (.seq (.reg [i_M 0 65 10, i_X 1 66 (.h (.fcmp .le (.t 65) (.k (.d (.flt 4607182418800017408)))))] [2, 3, 4, 5, 6, 9, 10, 66]) (.cond (.t 66) (.seq (.reg [i_A 0 67 2 13, i_A 1 68 3 8, i_M 2 69 5, i_M 3 70 6, i_P 4 71 9 0, i_L 5 72 71 1, i_M 6 73 10, i_X 7 74 (.callA (.k (.d (.fn 46 [] []))) [(.t 67), (.t 68), (.t 69), (.t 70), (.t 72), (.t 73)]), i_S 8 4 74 16] [4]) .ret) .skip)) (.seq (.reg [i_A 0 75 2 13, i_A 1 76 3 8, i_M 2 77 10, i_X 3 78 (.callA (.k (.d (.fn 44 [] []))) [(.t 75), (.t 76), (.k (.d (.int .i64 0))), (.t 77)]), i_S 4 4 78 16] [4]) .ret)))))))))
theorem A_r10_Try_comp : compF Tryz.prog 19 = some ⟨79, [(4, (some (16, true)))], A_r10_Try.strip⟩ := by kernel_rfl
theorem le_sum (Lr : Heap) (n k : Nat) (g : List Nat) (e : Int) (h : Lr.get 0 0 = some (rowV g)) (hg : g.length = n) : LeV Lr [] (fun X r => (X, r)) (.agg [.sl 0 0 0 n 1 n, fI k, fI e]) (sumV (g, k, e)) :=
  Fz_agg _ _ ⟨Fz_row h hg rfl (get_nil _ _), Fz_d _, Fz_d _, trivial⟩
theorem le_sumN (Lr : Heap) (k : Nat) (e : Int) : LeV Lr [] (fun X r => (X, r)) (.agg [.nil, fI k, fI e]) (sumV ([], k, e)) :=
  Fz_agg _ _ ⟨.d (.nil _), Fz_d _, Fz_d _, trivial⟩
theorem corr_Solve_con (t : Tp) (z : List (List Nat)) (l : List Nat) (h : Nat) (w : List Nat) (step : Int) (m : Int) (hn0 : 0 < t.n) (ok : Sok t z l w (List.replicate t.n 0)) (hs : Con Tryz.prog 64 [fl (FloatKind.nearest .f64 step), fI (-30)] (fl h)) :
    Con Tryz.prog 36 [tapeV t, .d (rowsD z), .d (rowD l), fI step, fI m, .d (rowD w)] (sumV (solG t z l h w m)) := by
  rcases solG_form t z l h w m with ⟨g, k, hg, he⟩ | ⟨k, e, hne, he⟩
  · rw [he]; exact Con_of_AC (corr_SolveG_ok t z l h w step m hn0 ok hs g k he) (le_sum _ _ _ _ _ rfl hg)
  · rw [he]; exact Con_of_AC (corr_SolveG_no t z l h w step m hn0 ok hs k e hne he) (le_sumN _ _ _)
theorem r9_Solve_con (t : Tp) (z : List (List Nat)) (l : List Nat) (h : Nat) (w : List Nat) (step : Int) (m : Int) (hn0 : 0 < t.n) (ok : Sok t z l w (List.replicate t.n 0)) (hh : fop .div (FloatKind.nearest .f64 step) 4742290407621132288 = h) :
    Con Tryz.prog 26 [tapeV t, .d (rowsD z), .d (rowD l), fI step, fI m, .d (rowD w)] (sumV (solG t z l h w m)) := by
  rcases solG_form t z l h w m with ⟨g, k, hg, he⟩ | ⟨k, e, hne, he⟩
  · rw [he]; exact Con_of_AC (r9_SolveG_ok t z l h w step m hn0 ok hh g k he) (le_sum _ _ _ _ _ rfl hg)
  · rw [he]; exact Con_of_AC (r9_SolveG_no t z l h w step m hn0 ok hh k e hne he) (le_sumN _ _ _)
theorem hW_div (j : Nat) : fop .div (FloatKind.nearest .f64 ((2 ^ j : Nat) : Int)) 4742290407621132288 = hW (2 ^ j) := by
  unfold hW; rw [show FloatKind.nearest .f64 1073741824 = 4742290407621132288 by kernel_rfl]
set_option maxRecDepth 16000 in
theorem r10_Try_con (p : Pb) (s : Sta) (hp : Pok p) (hs : s.ok p.t) : Con Tryz.prog 19 [pbV p, staV s] (trdV (tryP p s)) := by
  have hs' := hs
  obtain ⟨hn, hg, hf, hsl⟩ := hs
  obtain ⟨hm, ⟨j, hj, hst⟩, hk, hc, hpos⟩ := hn
  obtain ⟨⟨pos, st, o, m, z⟩, g, f, sl⟩ := s
  simp only at hm hst hk hc hpos hg hf hsl
  have hsr := pow_range j hj
  obtain ⟨q, rfl⟩ : ∃ q : Nat, o = q := ⟨o.toNat, by omega⟩
  rw [Int.toNat_natCast] at hk
  have hm' : (m = 0 ∧ 1 ≤ q ∧ q ≤ 5) ∨ (m = 1 ∧ 1 ≤ q ∧ q ≤ 4) := by omega
  have hpn := hp.t.n
  have hq9 : q < 1000 := by omega
  have hn40 : p.t.n < 2 ^ 40 := by omega
  have hZ := predP_rk hk q
  have hpred := r8_Predict_con z q p.t.n hk hq9 hn40
  obtain ⟨hof, hofl⟩ := r7_Of_ok m q hm'
  have hz0 := hk.2 0 (by omega)
  have hzl := hk.1
  have hwt := r9_Weights_con (z.getD 0 []) p.atol p.rtol (by omega)
  have hwl : (wtP (z.getD 0 []) p.atol p.rtol).length = p.t.n := by rw [wtP_len]; exact hz0
  have ok : Sok p.t (predP z p.t.n q) (ofL m q) (wtP (z.getD 0 []) p.atol p.rtol) (List.replicate p.t.n 0) := ⟨hp.t, by have := hZ.1; omega, fun i hi => hZ.2 i (by omega), by omega, hwl, by simp⟩
  have hsol := r9_Solve_con p.t (predP z p.t.n q) (ofL m q) (hW (2 ^ j)) (wtP (z.getD 0 []) p.atol p.rtol) ((2 ^ j : Nat) : Int) m hp.n ok (hW_div j)
  rw [← hst] at hsol
  have htry : tryP p ⟨⟨pos, st, q, m, z⟩, g, f, sl⟩ = (let c := solG p.t (predP z p.t.n q) (ofL m q) (hW (2 ^ j)) (wtP (z.getD 0 []) p.atol p.rtol) m
    if c.2.2 ≠ 0 then failP p ⟨⟨pos, st, q, m, z⟩, g, f, sl⟩ c.2.2 0 else
      let err := fop .div (szP c.1 (wtP (z.getD 0 []) p.atol p.rtol)) (FloatKind.nearest .f64 ((q : Int) + 1))
      if fcmp .le err 4607182418800017408 = true then takeP p ⟨⟨pos, st, q, m, z⟩, g, f, sl⟩ (predP z p.t.n q) (ofL m q) c.1 err else failP p ⟨⟨pos, st, q, m, z⟩, g, f, sl⟩ 0 err) := by
    unfold tryP
    simp only [Int.toNat_natCast, hst]
  rw [htry]
  have htake := fun d err hd => r10_taken_con p ⟨⟨pos, st, q, m, z⟩, g, f, sl⟩ (predP z p.t.n q) (ofL m q) d err hp hs' (by rw [Int.toNat_natCast]; exact hZ) (predP_cw hc _ _) (by rw [Int.toNat_natCast]; exact hofl) hd
  have hfail := fun e err => r10_failed_con p ⟨⟨pos, st, q, m, z⟩, g, f, sl⟩ e err hp hs'
  have hform := solG_form p.t (predP z p.t.n q) (ofL m q) (hW (2 ^ j)) (wtP (z.getD 0 []) p.atol p.rtol) m
  generalize solG p.t (predP z p.t.n q) (ofL m q) (hW (2 ^ j)) (wtP (z.getD 0 []) p.atol p.rtol) m = c at hsol hform
  generalize predP z p.t.n q = Z at hpred htake hZ hsol
  generalize ofL m q = l at hof hofl htake hsol
  generalize wtP (z.getD 0 []) p.atol p.rtol = w at hwt hwl hsol
  clear htry ok
  refine Con_introA A_r10_Try_comp rfl mixed ?_
  simp -implicitDefEqProofs only [evI, hv, effC, reduceCtorEq, ↓reduceIte, n1_, n2_, n3_, n4_, n5_, i1_, i2_, i3_, i4_, i5_, i6_, i7_, A_r10_Try]
  first | refine callG_con (hpred) rfl ?_ | refine callCG_con (hpred) rfl ?_ | refine callSG_con (hpred) rfl ?_
  simp -implicitDefEqProofs only [evI, hv, effC, reduceCtorEq, ↓reduceIte, n1_, n2_, n3_, n4_, n5_, i1_, i2_, i3_, i4_, i5_, i6_, i7_]
  first | refine callG_con (hof) rfl ?_ | refine callCG_con (hof) rfl ?_ | refine callSG_con (hof) rfl ?_
  simp -implicitDefEqProofs only [evI, hv, effC, reduceCtorEq, ↓reduceIte, n1_, n2_, n3_, n4_, n5_, i1_, i2_, i3_, i4_, i5_, i6_, i7_]
  (repeat (with_reducible refine And.intro (by omega) ?_))
  first | refine callG_con (hwt) rfl ?_ | refine callCG_con (hwt) rfl ?_ | refine callSG_con (hwt) rfl ?_
  simp -implicitDefEqProofs only [evI, hv, effC, reduceCtorEq, ↓reduceIte, n1_, n2_, n3_, n4_, n5_, i1_, i2_, i3_, i4_, i5_, i6_, i7_]
  first | refine callG_con (hsol) rfl ?_ | refine callCG_con (hsol) rfl ?_ | refine callSG_con (hsol) rfl ?_
  simp -implicitDefEqProofs only [evI, hv, effC, reduceCtorEq, ↓reduceIte, n1_, n2_, n3_, n4_, n5_, i1_, i2_, i3_, i4_, i5_, i6_, i7_]
  rcases hform with ⟨g', k', hgl, rfl⟩ | ⟨k', e', hne, rfl⟩
  · simp only [ne_eq, not_true_eq_false, if_false, ↓reduceIte]
    have hsz := r9_Size_con g' w (by omega) (by omega)
    have w3 : IntKind.i64.wrap ((q : Int) + 1) = (q : Int) + 1 := wrapI (by omega) (by omega)
    simp -implicitDefEqProofs only [evI, hv, effC, reduceCtorEq, ↓reduceIte, n1_, n2_, n3_, n4_, n5_, i1_, i2_, i3_, i4_, i5_, i6_, i7_]
    first | refine callG_con (hsz) rfl ?_ | refine callCG_con (hsz) rfl ?_ | refine callSG_con (hsz) rfl ?_
    simp -implicitDefEqProofs only [evI, hv, effC, reduceCtorEq, ↓reduceIte, n1_, n2_, n3_, n4_, n5_, i1_, i2_, i3_, i4_, i5_, i6_, i7_, w3]
    generalize fop .div (szP g' w) (FloatKind.nearest .f64 ((q : Int) + 1)) = err
    refine condC_intro (fun he => ?_) (fun he => ?_)
    · rw [if_pos he]
      simp -implicitDefEqProofs only [evI, hv, effC, reduceCtorEq, ↓reduceIte, n1_, n2_, n3_, n4_, n5_, i1_, i2_, i3_, i4_, i5_, i6_, i7_]
      first | refine callG_con (htake g' err hgl) rfl ?_ | refine callCG_con (htake g' err hgl) rfl ?_ | refine callSG_con (htake g' err hgl) rfl ?_
      simp -implicitDefEqProofs only [evI, hv, effC, reduceCtorEq, ↓reduceIte, n1_, n2_, n3_, n4_, n5_, i1_, i2_, i3_, i4_, i5_, i6_, i7_]
      exact endsT_retm rfl (by decide) rfl rfl rfl (by simp) rfl
    · rw [if_neg (by rw [he]; decide)]
      simp -implicitDefEqProofs only [evI, hv, effC, reduceCtorEq, ↓reduceIte, n1_, n2_, n3_, n4_, n5_, i1_, i2_, i3_, i4_, i5_, i6_, i7_]
      first | refine callG_con (hfail 0 err) rfl ?_ | refine callCG_con (hfail 0 err) rfl ?_ | refine callSG_con (hfail 0 err) rfl ?_
      simp -implicitDefEqProofs only [evI, hv, effC, reduceCtorEq, ↓reduceIte, n1_, n2_, n3_, n4_, n5_, i1_, i2_, i3_, i4_, i5_, i6_, i7_]
      exact endsT_retm rfl (by decide) rfl rfl rfl (by simp) rfl
  · have hne' : ¬ (e' = 0) := hne
    simp only [ne_eq, hne', not_false_eq_true, if_true]
    have hd : (e' != 0) = true := by simp [hne']
    simp -implicitDefEqProofs only [evI, hv, effC, reduceCtorEq, ↓reduceIte, n1_, n2_, n3_, n4_, n5_, i1_, i2_, i3_, i4_, i5_, i6_, i7_, hd]
    first | refine callG_con (hfail e' 0) rfl ?_ | refine callCG_con (hfail e' 0) rfl ?_ | refine callSG_con (hfail e' 0) rfl ?_
    simp -implicitDefEqProofs only [evI, hv, effC, reduceCtorEq, ↓reduceIte, n1_, n2_, n3_, n4_, n5_, i1_, i2_, i3_, i4_, i5_, i6_, i7_]
    exact endsT_retm rfl (by decide) rfl rfl rfl (by simp) rfl
end Go.Ab

namespace Go.Ab
set_option linter.unusedSimpArgs false
set_option linter.unusedVariables false
open Nat renaming reduceEqDiff → n1_, reduceAdd → n2_, reduceMul → n3_, reduceLT → n4_, reduceLeDiff → n5_
open Int renaming reduceToNat → i1_, reduceAdd → i2_, reduceSub → i3_, reduceMul → i4_, reduceNeg → i5_, reduceLT → i6_, reduceLE → i7_
open Go Go.Proofs
set_option maxRecDepth 16000 in
theorem step_Try_con (p : Pb) (s : Sta) (hp : Pok p) (hs : s.ok p.t) : Con Tryz.prog 17 [pbV p, staV s] (trdV (tryP p s)) := by
  have hs' := hs
  obtain ⟨hn, hg, hf, hsl⟩ := hs
  obtain ⟨hm, ⟨j, hj, hst⟩, hk, hc, hpos⟩ := hn
  obtain ⟨⟨pos, st, o, m, z⟩, g, f, sl⟩ := s
  simp only at hm hst hk hc hpos hg hf hsl
  have hsr := pow_range j hj
  obtain ⟨q, rfl⟩ : ∃ q : Nat, o = q := ⟨o.toNat, by omega⟩
  rw [Int.toNat_natCast] at hk
  have hm' : (m = 0 ∧ 1 ≤ q ∧ q ≤ 5) ∨ (m = 1 ∧ 1 ≤ q ∧ q ≤ 4) := by omega
  have hpn := hp.t.n
  have hq9 : q < 1000 := by omega
  have hq10 : q + 1 < 1000 := by omega
  have hn40 : p.t.n < 2 ^ 40 := by omega
  have hZ := predP_rk hk q
  have hpred := nord_Predict_con z q p.t.n hk hq9 hn40
  have hof := coef_Of_ok m q hm'
  have hofl : (ofL m q).length = q + 1 := (r7_Of_ok m q hm').2
  have hz0 := hk.2 0 (by omega)
  have hzl := hk.1
  have hwt := corr_Weights_con (z.getD 0 []) p.atol p.rtol (by omega)
  have hwl : (wtP (z.getD 0 []) p.atol p.rtol).length = p.t.n := by rw [wtP_len]; exact hz0
  have ok : Sok p.t (predP z p.t.n q) (ofL m q) (wtP (z.getD 0 []) p.atol p.rtol) (List.replicate p.t.n 0) := ⟨hp.t, by have := hZ.1; omega, fun i hi => hZ.2 i (by omega), by omega, hwl, by simp⟩
  have hsol := corr_Solve_con p.t (predP z p.t.n q) (ofL m q) (hW (2 ^ j)) (wtP (z.getD 0 []) p.atol p.rtol) ((2 ^ j : Nat) : Int) m hp.n ok (Scale_step j hj)
  rw [← hst] at hsol
  have htry : tryP p ⟨⟨pos, st, q, m, z⟩, g, f, sl⟩ = (let c := solG p.t (predP z p.t.n q) (ofL m q) (hW (2 ^ j)) (wtP (z.getD 0 []) p.atol p.rtol) m
    if c.2.2 ≠ 0 then failP p ⟨⟨pos, st, q, m, z⟩, g, f, sl⟩ c.2.2 0 else
      let err := fop .div (szP c.1 (wtP (z.getD 0 []) p.atol p.rtol)) (FloatKind.nearest .f64 ((q : Int) + 1))
      if fcmp .le err 4607182418800017408 = true then takeP p ⟨⟨pos, st, q, m, z⟩, g, f, sl⟩ (predP z p.t.n q) (ofL m q) c.1 err else failP p ⟨⟨pos, st, q, m, z⟩, g, f, sl⟩ 0 err) := by
    unfold tryP
    simp only [Int.toNat_natCast, hst]
  rw [htry]
  have htake := fun d err hd => r10_taken_con p ⟨⟨pos, st, q, m, z⟩, g, f, sl⟩ (predP z p.t.n q) (ofL m q) d err hp hs' (by rw [Int.toNat_natCast]; exact hZ) (predP_cw hc _ _) (by rw [Int.toNat_natCast]; exact hofl) hd
  have hfail := fun e err => r10_failed_con p ⟨⟨pos, st, q, m, z⟩, g, f, sl⟩ e err hp hs'
  have hform := solG_form p.t (predP z p.t.n q) (ofL m q) (hW (2 ^ j)) (wtP (z.getD 0 []) p.atol p.rtol) m
  generalize solG p.t (predP z p.t.n q) (ofL m q) (hW (2 ^ j)) (wtP (z.getD 0 []) p.atol p.rtol) m = c at hsol hform
  have hZc := predP_cw hc p.t.n q
  generalize predP z p.t.n q = Z at hpred htake hZ hsol hZc
  generalize ofL m q = l at hof hofl htake hsol
  generalize wtP (z.getD 0 []) p.atol p.rtol = w at hwt hwl hsol
  clear htry ok
  have w3 : IntKind.i64.wrap ((q : Int) + 1) = (q : Int) + 1 := wrapI (by omega) (by omega)
  have hsz' : ∀ g' : List Nat, g'.length = p.t.n → Con Tryz.prog 37 [.d (rowD g'), .d (rowD w)] (fl (szP g' w)) := fun g' h => corr_Size_con g' w (by omega) (by omega)
  have hhalf : ∃ j' : Nat, j' < 60 ∧ st / 2 = (2 ^ j' : Nat) ∨ st ≤ p.least := by
    by_cases c1 : st ≤ p.least
    · exact ⟨0, .inr c1⟩
    · have hl := hp.least
      obtain ⟨i, rfl⟩ : ∃ i, j = i + 1 := ⟨j - 1, by
        rcases j with _ | j
        · simp at hst; omega
        · omega⟩
      refine ⟨i, .inl ⟨by omega, ?_⟩⟩
      rw [hst, Nat.pow_succ]; omega
  refine Con_introA A_step_Try_comp rfl mixed ?_
  simp -implicitDefEqProofs only [evI, hv, effC, reduceCtorEq, ↓reduceIte, n1_, n2_, n3_, n4_, n5_, i1_, i2_, i3_, i4_, i5_, i6_, i7_, A_step_Try]
  first | refine callG_con (hpred) rfl ?_ | refine callCG_con (hpred) rfl ?_ | refine callSG_con (hpred) rfl ?_
  simp -implicitDefEqProofs only [evI, hv, effC, reduceCtorEq, ↓reduceIte, n1_, n2_, n3_, n4_, n5_, i1_, i2_, i3_, i4_, i5_, i6_, i7_]
  first | refine callG_con (hof) rfl ?_ | refine callCG_con (hof) rfl ?_ | refine callSG_con (hof) rfl ?_
  simp -implicitDefEqProofs only [evI, hv, effC, reduceCtorEq, ↓reduceIte, n1_, n2_, n3_, n4_, n5_, i1_, i2_, i3_, i4_, i5_, i6_, i7_]
  (repeat (with_reducible refine And.intro (by omega) ?_))
  first | refine callG_con (hwt) rfl ?_ | refine callCG_con (hwt) rfl ?_ | refine callSG_con (hwt) rfl ?_
  simp -implicitDefEqProofs only [evI, hv, effC, reduceCtorEq, ↓reduceIte, n1_, n2_, n3_, n4_, n5_, i1_, i2_, i3_, i4_, i5_, i6_, i7_]
  have w1 : IntKind.i64.wrap (f + 1) = f + 1 := wrapI (by omega) (by omega)
  have w2 : IntKind.i64.wrap (sl + 1) = sl + 1 := wrapI (by omega) (by omega)
  have w4 : IntKind.i64.wrap (pos + st) = pos + st := wrapI (by omega) (by omega)
  have w5 : IntKind.i64.wrap (st.tdiv 2) = st / 2 := by rw [Int.tdiv_eq_ediv_of_nonneg (by omega)]; exact wrapI (by omega) (by omega)
  have hown := step_own_con z (q + 1) p.t.n hk hc hq10 hn40
  have hre := nord_Rescale_con z (q + 1) p.t.n hk hq10 hn40 (-1) (by decide)
  have d2 : ¬ (2 : Int) = 0 := by decide
  rcases hform with ⟨g', k', hgl, rfl⟩ | ⟨k', e, hne, rfl⟩
  case' inl =>
    simp only [ne_eq, not_true_eq_false, if_false, ↓reduceIte]
    have hsz := hsz' g' hgl
    obtain ⟨e, he0⟩ : ∃ e : Int, e = 0 := ⟨_, rfl⟩
    have hd : (e != 0) = false := by simp [he0]
    rw [← he0] at hsol
    first | refine callG_con (hsol) rfl ?_ | refine callCG_con (hsol) rfl ?_ | refine callSG_con (hsol) rfl ?_
    simp -implicitDefEqProofs only [evI, hv, effC, reduceCtorEq, ↓reduceIte, n1_, n2_, n3_, n4_, n5_, i1_, i2_, i3_, i4_, i5_, i6_, i7_, hd]
    first | refine callG_con (hsz) rfl ?_ | refine callCG_con (hsz) rfl ?_ | refine callSG_con (hsz) rfl ?_
    simp -implicitDefEqProofs only [evI, hv, effC, reduceCtorEq, ↓reduceIte, n1_, n2_, n3_, n4_, n5_, i1_, i2_, i3_, i4_, i5_, i6_, i7_, w3]
    generalize fop .div (szP g' w) (FloatKind.nearest .f64 ((q : Int) + 1)) = err
    cases he : fcmp .le err 4607182418800017408 with
    | true =>
      simp only [if_true]
      have hcor := nord_Correct_con Z (q + 1) p.t.n hZ hq10 hn40 l g' hofl hgl
      have htk := step_taken_con p ⟨⟨pos, st, q, m, z⟩, g, f, sl⟩ Z l g' err hp hs' (by rw [Int.toNat_natCast]; exact hZ) hZc (by rw [Int.toNat_natCast]; exact hofl) hgl
      have hnn : (takeP p ⟨⟨pos, st, q, m, z⟩, g, f, sl⟩ Z l g' err) = ⟨(takeP p ⟨⟨pos, st, q, m, z⟩, g, f, sl⟩ Z l g' err).s, ⟨pos + st, st, q, m, corrP Z l g' (q + 1) p.t.n⟩, true, err, 0⟩ := rfl
      rw [hnn]
      rw [show (takeP p ⟨⟨pos, st, q, m, z⟩, g, f, sl⟩ Z l g' err).n = ⟨pos + st, st, q, m, corrP Z l g' (q + 1) p.t.n⟩ from rfl] at htk
      clear hnn
      generalize (takeP p ⟨⟨pos, st, q, m, z⟩, g, f, sl⟩ Z l g' err).s = S1 at htk
      generalize corrP Z l g' (q + 1) p.t.n = C at htk hcor
      simp -implicitDefEqProofs only [evI, hv, effC, reduceCtorEq, ↓reduceIte, n1_, n2_, n3_, n4_, n5_, i1_, i2_, i3_, i4_, i5_, i6_, i7_, w4]
      first | refine callG_con (hcor) rfl ?_ | refine callCG_con (hcor) rfl ?_ | refine callSG_con (hcor) rfl ?_
      simp -implicitDefEqProofs only [evI, hv, effC, reduceCtorEq, ↓reduceIte, n1_, n2_, n3_, n4_, n5_, i1_, i2_, i3_, i4_, i5_, i6_, i7_]
      first | refine callG_con (htk) rfl ?_ | refine callCG_con (htk) rfl ?_ | refine callSG_con (htk) rfl ?_
      simp -implicitDefEqProofs only [evI, hv, effC, reduceCtorEq, ↓reduceIte, n1_, n2_, n3_, n4_, n5_, i1_, i2_, i3_, i4_, i5_, i6_, i7_]
      exact endsT_retm rfl (by decide) rfl rfl rfl (by simp) rfl
    | false => ?_
    simp only [Bool.false_eq_true, if_false]
    rw [show failP p ⟨⟨pos, st, q, m, z⟩, g, f, sl⟩ 0 err = failP p ⟨⟨pos, st, q, m, z⟩, g, f, sl⟩ e err by rw [he0]]
    simp -implicitDefEqProofs only [evI, hv, effC, reduceCtorEq, ↓reduceIte, n1_, n2_, n3_, n4_, n5_, i1_, i2_, i3_, i4_, i5_, i6_, i7_]
    simp -implicitDefEqProofs only [evI, hv, effC, reduceCtorEq, ↓reduceIte, n1_, n2_, n3_, n4_, n5_, i1_, i2_, i3_, i4_, i5_, i6_, i7_, A_step_Try_R0]
  case' inr =>
    have hne' : ¬ (e = 0) := hne
    simp only [ne_eq, hne', not_false_eq_true, if_true]
    have hd : (e != 0) = true := by simp [hne']
    first | refine callG_con (hsol) rfl ?_ | refine callCG_con (hsol) rfl ?_ | refine callSG_con (hsol) rfl ?_
    simp -implicitDefEqProofs only [evI, hv, effC, reduceCtorEq, ↓reduceIte, n1_, n2_, n3_, n4_, n5_, i1_, i2_, i3_, i4_, i5_, i6_, i7_, hd]
    simp -implicitDefEqProofs only [evI, hv, effC, reduceCtorEq, ↓reduceIte, n1_, n2_, n3_, n4_, n5_, i1_, i2_, i3_, i4_, i5_, i6_, i7_, A_step_Try_R0]
  all_goals
    first | refine callG_con (hown) rfl ?_ | refine callCG_con (hown) rfl ?_ | refine callSG_con (hown) rfl ?_
    unfold failP
    simp only [Int.toNat_natCast]
    by_cases c1 : st ≤ p.least
    · rw [if_pos c1]
      have c1' : decide (st ≤ p.least) = true := decide_eq_true c1
      simp -implicitDefEqProofs only [evI, hv, effC, reduceCtorEq, ↓reduceIte, n1_, n2_, n3_, n4_, n5_, i1_, i2_, i3_, i4_, i5_, i6_, i7_, c1']
      by_cases e4 : e = 4
      · have e4' : (e == 4) = true := by simpa using e4
        rw [if_pos (.inl e4)]
        simp -implicitDefEqProofs only [evI, hv, effC, reduceCtorEq, ↓reduceIte, n1_, n2_, n3_, n4_, n5_, i1_, i2_, i3_, i4_, i5_, i6_, i7_, e4']
        exact endsT_le _ (fun _ h => h) (resV_cellI (by decide) rfl rfl rfl (by simp) rfl) (le_failed _ ⟨⟨pos, st, q, m, z⟩, g, f, sl⟩ _ e)
      · have e4' : (e == 4) = false := by simpa using e4
        by_cases e2 : e = 2
        · have e2' : (e == 2) = true := by simpa using e2
          rw [if_pos (.inr e2)]
          simp -implicitDefEqProofs only [evI, hv, effC, reduceCtorEq, ↓reduceIte, n1_, n2_, n3_, n4_, n5_, i1_, i2_, i3_, i4_, i5_, i6_, i7_, e4', e2']
          exact endsT_le _ (fun _ h => h) (resV_cellI (by decide) rfl rfl rfl (by simp) rfl) (le_failed _ ⟨⟨pos, st, q, m, z⟩, g, f, sl⟩ _ e)
        · have e2' : (e == 2) = false := by simpa using e2
          rw [if_neg (by simp [e4, e2])]
          simp -implicitDefEqProofs only [evI, hv, effC, reduceCtorEq, ↓reduceIte, n1_, n2_, n3_, n4_, n5_, i1_, i2_, i3_, i4_, i5_, i6_, i7_, e4', e2']
          exact endsT_le _ (fun _ h => h) (resV_cellI (by decide) rfl rfl rfl (by simp) rfl) (le_failed _ ⟨⟨pos, st, q, m, z⟩, g, f, sl⟩ _ 5)
    · rw [if_neg c1]
      have c1' : decide (st ≤ p.least) = false := decide_eq_false c1
      obtain ⟨S, hS⟩ : ∃ S, S = scaleP z (-1) (q + 1) p.t.n := ⟨_, rfl⟩
      replace hhalf : ∃ j' : Nat, j' < 60 ∧ st / 2 = (2 ^ j' : Nat) := by
        obtain ⟨j', h | h⟩ := hhalf
        · exact ⟨j', h⟩
        · exact absurd h c1
      have hrkS := scaleP_rk hk (-1) (q + 1) p.t.n
      rw [← hS] at hre hrkS ⊢
      simp -implicitDefEqProofs only [evI, hv, effC, reduceCtorEq, ↓reduceIte, n1_, n2_, n3_, n4_, n5_, i1_, i2_, i3_, i4_, i5_, i6_, i7_, c1', w1, w2]
      have c2 : (e = 6 ∧ m = 0) ∨ e ≠ 6 ∨ (e = 6 ∧ m ≠ 0) := by omega
      obtain ⟨sl', hsl'⟩ : ∃ sl', sl' = if e = 6 ∧ m = 0 then sl + 1 else sl := ⟨_, rfl⟩
      have hslr : 0 ≤ sl' ∧ sl' < 2000000000 := by rw [hsl']; split <;> omega
      rw [← hsl']
      rcases c2 with c2 | c2 | c2
      case' inl =>
        rw [if_pos c2] at hsl'
        have m0 : (m == 0) = true := by rw [c2.2]; rfl
        have e6 : (e == 6) = true := by rw [c2.1]; rfl
        simp -implicitDefEqProofs only [evI, hv, effC, reduceCtorEq, ↓reduceIte, n1_, n2_, n3_, n4_, n5_, i1_, i2_, i3_, i4_, i5_, i6_, i7_, e6, m0, w2, w5]
        refine ⟨d2, ?_⟩
        first | refine callG_con (hre) rfl ?_ | refine callCG_con (hre) rfl ?_ | refine callSG_con (hre) rfl ?_
        rw [← hsl']
        simp -implicitDefEqProofs only [evI, hv, effC, reduceCtorEq, ↓reduceIte, n1_, n2_, n3_, n4_, n5_, i1_, i2_, i3_, i4_, i5_, i6_, i7_]
      case' inr.inl =>
        rw [if_neg (fun h => c2 h.1)] at hsl'
        have e6 : (e == 6) = false := by simpa using c2
        simp -implicitDefEqProofs only [evI, hv, effC, reduceCtorEq, ↓reduceIte, n1_, n2_, n3_, n4_, n5_, i1_, i2_, i3_, i4_, i5_, i6_, i7_, e6, w2, w5]
        refine ⟨d2, ?_⟩
        first | refine callG_con (hre) rfl ?_ | refine callCG_con (hre) rfl ?_ | refine callSG_con (hre) rfl ?_
        rw [← hsl']
        simp -implicitDefEqProofs only [evI, hv, effC, reduceCtorEq, ↓reduceIte, n1_, n2_, n3_, n4_, n5_, i1_, i2_, i3_, i4_, i5_, i6_, i7_]
      case' inr.inr =>
        rw [if_neg (fun h => c2.2 h.2)] at hsl'
        have m0 : (m == 0) = false := by simpa using c2.2
        have e6 : (e == 6) = true := by rw [c2.1]; rfl
        simp -implicitDefEqProofs only [evI, hv, effC, reduceCtorEq, ↓reduceIte, n1_, n2_, n3_, n4_, n5_, i1_, i2_, i3_, i4_, i5_, i6_, i7_, e6, m0, w2, w5]
        refine ⟨d2, ?_⟩
        first | refine callG_con (hre) rfl ?_ | refine callCG_con (hre) rfl ?_ | refine callSG_con (hre) rfl ?_
        rw [← hsl']
        simp -implicitDefEqProofs only [evI, hv, effC, reduceCtorEq, ↓reduceIte, n1_, n2_, n3_, n4_, n5_, i1_, i2_, i3_, i4_, i5_, i6_, i7_]
      all_goals
        by_cases c3 : 2 ≤ sl'
        · have c3' : decide (2 ≤ sl') = true := decide_eq_true c3
          rw [if_pos c3]
          simp -implicitDefEqProofs only [evI, hv, effC, reduceCtorEq, ↓reduceIte, n1_, n2_, n3_, n4_, n5_, i1_, i2_, i3_, i4_, i5_, i6_, i7_, c3']
          first | refine callG_con (step_fresh_con p ⟨pos, st / 2, q, 1, S⟩ hp hhalf hrkS) rfl ?_ | refine callCG_con (step_fresh_con p ⟨pos, st / 2, q, 1, S⟩ hp hhalf hrkS) rfl ?_ | refine callSG_con (step_fresh_con p ⟨pos, st / 2, q, 1, S⟩ hp hhalf hrkS) rfl ?_
          simp -implicitDefEqProofs only [evI, hv, effC, reduceCtorEq, ↓reduceIte, n1_, n2_, n3_, n4_, n5_, i1_, i2_, i3_, i4_, i5_, i6_, i7_]
          exact endsT_le _ (fun _ h => h) (resV_cellI (by decide) rfl rfl rfl (by simp) rfl) (le_failed _ ⟨freshP p ⟨pos, st / 2, q, 1, S⟩, 0, 0, 0⟩ _ 0)
        · have c3' : decide (2 ≤ sl') = false := decide_eq_false c3
          rw [if_neg c3]
          simp -implicitDefEqProofs only [evI, hv, effC, reduceCtorEq, ↓reduceIte, n1_, n2_, n3_, n4_, n5_, i1_, i2_, i3_, i4_, i5_, i6_, i7_, c3']
          by_cases c4 : f + 1 < 3
          · have c4' : decide (f + 1 < 3) = true := decide_eq_true (by omega)
            rw [if_pos c4]
            simp -implicitDefEqProofs only [evI, hv, effC, reduceCtorEq, ↓reduceIte, n1_, n2_, n3_, n4_, n5_, i1_, i2_, i3_, i4_, i5_, i6_, i7_, c4']
            exact endsT_le _ (fun _ h => h) (resV_cellI (by decide) rfl rfl rfl (by simp) rfl) (le_failed _ ⟨⟨pos, st / 2, q, m, S⟩, 0, f + 1, sl'⟩ _ 0)
          · have c4' : decide (f + 1 < 3) = false := decide_eq_false (by omega)
            rw [if_neg c4]
            simp -implicitDefEqProofs only [evI, hv, effC, reduceCtorEq, ↓reduceIte, n1_, n2_, n3_, n4_, n5_, i1_, i2_, i3_, i4_, i5_, i6_, i7_, c4']
            first | refine callG_con (step_fresh_con p ⟨pos, st / 2, q, m, S⟩ hp hhalf hrkS) rfl ?_ | refine callCG_con (step_fresh_con p ⟨pos, st / 2, q, m, S⟩ hp hhalf hrkS) rfl ?_ | refine callSG_con (step_fresh_con p ⟨pos, st / 2, q, m, S⟩ hp hhalf hrkS) rfl ?_
            simp -implicitDefEqProofs only [evI, hv, effC, reduceCtorEq, ↓reduceIte, n1_, n2_, n3_, n4_, n5_, i1_, i2_, i3_, i4_, i5_, i6_, i7_]
            exact endsT_le _ (fun _ h => h) (resV_cellI (by decide) rfl rfl rfl (by simp) rfl) (le_failed _ ⟨freshP p ⟨pos, st / 2, q, m, S⟩, 0, 0, sl'⟩ _ 0)
end Go.Ab

namespace Go.Ab
set_option linter.unusedSimpArgs false
set_option linter.unusedVariables false
open Nat renaming reduceEqDiff → n1_, reduceAdd → n2_, reduceMul → n3_, reduceLT → n4_, reduceLeDiff → n5_
open Int renaming reduceToNat → i1_, reduceAdd → i2_, reduceSub → i3_, reduceMul → i4_, reduceNeg → i5_, reduceLT → i6_, reduceLE → i7_
open Go Go.Proofs
def A_l3_within : CA := (.seq (.reg [i_X 0 4 (.h (.mov (.k (.d (.int .i64 0)))))] [0, 1]) (.seq (.reg [i_M 0 6 0, i_M 1 7 1, i_X 2 8 (.h (.ibin .rem (.t 6) (.t 7))), i_M 3 5 8] [1, 5]) (.seq (.seq (.reg [i_M 0 9 5, i_X 1 10 (.h (.ibin .lss (.t 9) (.k (.d (.int .i64 0)))))] [1, 5, 10]) (.cond (.t 10) (.reg [i_M 0 11 5, i_M 1 12 1, i_X 2 13 (.h (.ibin .add (.t 11) (.t 12))), i_M 3 5 13] [5]) .skip)) (.seq (.reg [i_M 0 14 5, i_M 1 4 14] [4]) .ret))))
theorem A_l3_within_comp : compF Tryz.prog 59 = some ⟨15, [(4, none)], A_l3_within.strip⟩ := by kernel_rfl
def A_l3_Make_L0 : CA := (.seq (.seq (.reg [i_M 0 18 8, i_P 1 19 7 0, i_L 2 20 19 1, i_X 3 21 (.h (.ibin .lss (.t 18) (.t 20)))] [0, 1, 2, 6, 7, 8, 21]) (.cond (.t 21) .skip (.exit 0))) (.seq (.block 1 (.reg [i_P 0 24 7 1, i_L 1 25 24 1, i_M 2 26 8, i_X 3 27 (.h (.build [(.d (.int .i64 0)), (.d (.int .i64 0)), (.d (.int .i64 0)), (.d (.flt 0))] [(0, (1, (.k (.d (.int .i64 1))))), (1, (1, (.t 26)))])), i_X 4 28 (.bslice [(.d (.int .i64 0)), (.d (.int .i64 0)), (.d (.int .i64 0)), (.d (.flt 0))] 1 4 [(0, (4, (.t 27)))] 67), i_X 5 29 (.app (.t 25) (.t 28) 4 32), i_P 6 30 7 1, i_S 7 30 29 1] [0, 1, 2, 6, 7, 8])) (.reg [i_M 0 22 8, i_X 1 23 (.h (.ibin .add (.t 22) (.k (.d (.int .i64 1))))), i_M 2 8 23] [0, 1, 2, 6, 7, 8])))
def A_l3_Make_L1 : CA := (.seq (.seq (.reg [i_M 0 42 9, i_M 1 43 1, i_X 2 44 (.h (.len (.t 43))), i_X 3 45 (.h (.ibin .lss (.t 42) (.t 44))), i_M 4 46 45, ⟨5, (some 47), (some (46, true)), [], [], (.h (.mov (.t 9)))⟩, ⟨6, (some 48), (some (46, true)), [], [], (.h (.ibin .lss (.t 47) (.k (.d (.int .i64 8)))))⟩, i_X 7 49 (.h (.pick (.t 46) (.t 48) (.k (.d (.bool false)))))] [0, 1, 2, 6, 7, 9, 49]) (.cond (.t 49) .skip (.exit 2))) (.seq (.block 3 (.seq (.reg [i_M 0 52 1, i_M 1 53 9, i_X 2 54 (.h (.idx (.t 52) (.t 53) 1)), i_L 3 55 54 1, i_M 4 10 55] [0, 1, 2, 6, 7, 9, 10]) (.seq (.reg [i_P 0 56 7 1, i_L 1 57 56 1, i_X 2 58 (.h (.len (.t 57))), i_M 3 11 58] [0, 1, 2, 6, 7, 9, 10, 11]) (.seq (.reg [i_M 0 59 10, i_X 1 60 (.callA (.k (.d (.fn 59 [] []))) [(.t 59), (.k (.d (.int .i64 3)))]), i_X 2 61 (.h (.ibin .add (.k (.d (.int .i64 2))) (.t 60))), i_M 3 62 10, i_X 4 63 (.h (.ibin .quo (.t 62) (.k (.d (.int .i64 4))))), i_M 5 64 11, i_X 6 65 (.callA (.k (.d (.fn 59 [] []))) [(.t 63), (.t 64)]), i_M 7 66 10, i_X 8 67 (.h (.ibin .quo (.t 66) (.k (.d (.int .i64 40))))), i_M 9 68 11, i_X 10 69 (.callA (.k (.d (.fn 59 [] []))) [(.t 67), (.t 68)]), i_X 11 70 (.h (.build [(.d (.int .i64 0)), (.d (.int .i64 0)), (.d (.int .i64 0)), (.d (.flt 0))] [(0, (1, (.t 61))), (1, (1, (.t 65))), (2, (1, (.t 69)))])), i_X 12 12 (.alloc [(.d (.int .i64 0)), (.d (.int .i64 0)), (.d (.int .i64 0)), (.d (.flt 0))] 67), i_S 13 12 70 4] [0, 1, 2, 6, 7, 9, 10, 12]) (.seq (.seq (.reg [i_M 0 71 2, i_M 1 72 71, ⟨2, (some 73), (some (72, true)), [], [], (.h (.mov (.t 10)))⟩, ⟨3, (some 74), (some (72, true)), [], [], (.callA (.k (.d (.fn 59 [] []))) [(.t 73), (.k (.d (.int .i64 7)))])⟩, ⟨4, (some 75), (some (72, true)), [], [], (.h (.ibin .eql (.t 74) (.k (.d (.int .i64 0)))))⟩, i_X 5 76 (.h (.pick (.t 72) (.t 75) (.k (.d (.bool false)))))] [0, 1, 2, 6, 7, 9, 10, 12, 76]) (.cond (.t 76) (.reg [i_P 0 77 12 0, ⟨1, none, none, [], [], (.store (.t 77) (.k (.d (.int .i64 5))) 1)⟩] [0, 1, 2, 6, 7, 9, 10, 12]) .skip)) (.seq (.seq (.reg [i_M 0 78 10, i_X 1 79 (.callA (.k (.d (.fn 59 [] []))) [(.t 78), (.k (.d (.int .i64 11)))]), i_X 2 80 (.h (.ibin .eql (.t 79) (.k (.d (.int .i64 0)))))] [0, 1, 2, 6, 7, 9, 10, 12, 80]) (.cond (.t 80) (.reg [i_M 0 81 10, i_X 1 82 (.h (.ibin .quo (.t 81) (.k (.d (.int .i64 11))))), i_X 2 83 (.callA (.k (.d (.fn 59 [] []))) [(.t 82), (.k (.d (.int .i64 33)))]), i_X 3 84 (.h (.ibin .sub (.t 83) (.k (.d (.int .i64 16))))), i_X 4 85 (.h (.i2f (.t 84))), i_X 5 86 (.h (.fbin .div (.t 85) (.k (.d (.flt 4620693217682128896))))), i_X 6 87 (.h (.build [(.d (.int .i64 0)), (.d (.int .i64 0)), (.d (.int .i64 0)), (.d (.flt 0))] [(0, (1, (.k (.d (.int .i64 0))))), (3, (1, (.t 86)))])), i_S 7 12 87 4] [0, 1, 2, 6, 7, 9, 12]) .skip)) (.reg [i_P 0 88 7 1, i_L 1 89 88 1, i_A 2 90 12 4, i_X 3 91 (.bslice [(.d (.int .i64 0)), (.d (.int .i64 0)), (.d (.int .i64 0)), (.d (.flt 0))] 1 4 [(0, (4, (.t 90)))] 67), i_X 4 92 (.app (.t 89) (.t 91) 4 32), i_P 5 93 7 1, i_S 6 93 92 1] [0, 1, 2, 6, 7, 9]))))))) (.reg [i_M 0 50 9, i_X 1 51 (.h (.ibin .add (.t 50) (.k (.d (.int .i64 1))))), i_M 2 9 51] [0, 1, 2, 6, 7, 9])))
def A_l3_Make_L2 : CA := (.seq (.seq (.reg [i_M 0 94 13, i_P 1 95 7 0, i_L 2 96 95 1, i_X 3 97 (.h (.ibin .lss (.t 94) (.t 96)))] [0, 6, 7, 13, 97]) (.cond (.t 97) .skip (.exit 4))) (.seq (.block 5 (.reg [i_P 0 100 7 2, i_L 1 101 100 1, i_P 2 102 7 1, i_L 3 103 102 1, i_X 4 104 (.h (.len (.t 103))), i_X 5 105 (.h (.ibin .sub (.t 104) (.k (.d (.int .i64 1))))), i_M 6 106 0, i_X 7 107 (.h (.ibin .quo (.t 106) (.k (.d (.int .i64 3))))), i_M 8 108 13, i_X 9 109 (.h (.ibin .add (.t 107) (.t 108))), i_P 10 110 7 1, i_L 11 111 110 1, i_X 12 112 (.h (.len (.t 111))), i_X 13 113 (.h (.mm false (.k (.d (.int .i64 3))) (.t 112))), i_X 14 114 (.callS 14 (.k (.d (.fn 59 [] []))) [(.t 109), (.t 113)]), i_X 15 115 (.h (.ibin .sub (.t 105) (.t 114))), i_X 16 116 (.bslice [(.d (.int .i64 0))] 1 1 [(0, (1, (.t 115)))] 3), i_X 17 117 (.app (.t 101) (.t 116) 1 8), i_P 18 118 7 2, i_S 19 118 117 1] [0, 6, 7, 13])) (.reg [i_M 0 98 13, i_X 1 99 (.h (.ibin .add (.t 98) (.k (.d (.int .i64 1))))), i_M 2 13 99] [0, 6, 7, 13])))
def A_l3_Make : CA := (.seq (.reg [i_X 0 6 (.alloc [(.d (.int .i64 0)), .nil, .nil] 28)] [0, 1, 2, 6]) (.seq (.reg [i_M 0 14 0, i_X 1 15 (.callA (.k (.d (.fn 59 [] []))) [(.t 14), (.k (.d (.int .i64 3)))]), i_X 2 16 (.h (.ibin .add (.k (.d (.int .i64 1))) (.t 15))), i_X 3 17 (.h (.build [(.d (.int .i64 0)), .nil, .nil] [(0, (1, (.t 16)))])), i_X 4 7 (.alloc [(.d (.int .i64 0)), .nil, .nil] 28), i_S 5 7 17 3] [0, 1, 2, 6, 7]) (.seq (.seq (.reg [i_X 0 8 (.h (.mov (.k (.d (.int .i64 0)))))] [0, 1, 2, 6, 7, 8]) (.block 0 (.loop A_l3_Make_L0))) (.seq (.reg [i_P 0 31 7 1, i_L 1 32 31 1, i_M 2 33 0, i_X 3 34 (.callS 3 (.k (.d (.fn 59 [] []))) [(.t 33), (.k (.d (.int .i64 17)))]), i_X 4 35 (.h (.ibin .sub (.t 34) (.k (.d (.int .i64 8))))), i_X 5 36 (.h (.i2f (.t 35))), i_X 6 37 (.h (.fbin .div (.t 36) (.k (.d (.flt 4616189618054758400))))), i_X 7 38 (.h (.build [(.d (.int .i64 0)), (.d (.int .i64 0)), (.d (.int .i64 0)), (.d (.flt 0))] [(0, (1, (.k (.d (.int .i64 0))))), (3, (1, (.t 37)))])), i_X 8 39 (.bslice [(.d (.int .i64 0)), (.d (.int .i64 0)), (.d (.int .i64 0)), (.d (.flt 0))] 1 4 [(0, (4, (.t 38)))] 67), i_X 9 40 (.app (.t 32) (.t 39) 4 32), i_P 10 41 7 1, i_S 11 41 40 1] [0, 1, 2, 6, 7]) (.seq (.seq (.reg [i_X 0 9 (.h (.mov (.k (.d (.int .i64 0)))))] [0, 1, 2, 6, 7, 9]) (.block 2 (.loop A_l3_Make_L1))) (.seq (.seq (.reg [i_X 0 13 (.h (.mov (.k (.d (.int .i64 0)))))] [0, 6, 7, 13]) (.block 4 (.loop A_l3_Make_L2))) (.seq (.reg [i_A 0 119 7 3, i_S 1 6 119 3] [6]) .ret)))))))
theorem A_l3_Make_comp : compF Tryz.prog 30 = some ⟨120, [(6, (some (3, true)))], A_l3_Make.strip⟩ := by kernel_rfl
theorem l3_within_con (a n : Int) (hn : 0 < n) (hn2 : n < 2 ^ 62) : Con Tryz.prog 59 [fI a, fI n] (fI (a % n)) := by
  rw [← tmod_fix a n hn]
  refine Con_introA A_l3_within_comp rfl mixed ?_
  simp -implicitDefEqProofs only [evI, hv, effC, reduceCtorEq, ↓reduceIte, n1_, n2_, n3_, n4_, n5_, i1_, i2_, i3_, i4_, i5_, i6_, i7_, A_l3_within]
  refine ⟨by omega, ?_⟩
  have h1 := Int.tmod_lt_of_pos a hn
  have h6 := Int.lt_tmod_of_pos a hn
  refine condC_intro (fun h => ?_) (fun h => ?_)
  · simp -implicitDefEqProofs only [evI, hv, effC, reduceCtorEq, ↓reduceIte, n1_, n2_, n3_, n4_, n5_, i1_, i2_, i3_, i4_, i5_, i6_, i7_]
    replace h := of_decide_eq_true h
    rw [wrapI (by omega) (by omega), if_pos h]
    exact endsT_rett rfl (by decide) (by simp [look])
  · replace h := of_decide_eq_false h
    simp -implicitDefEqProofs only [evI, hv, effC, reduceCtorEq, ↓reduceIte, n1_, n2_, n3_, n4_, n5_, i1_, i2_, i3_, i4_, i5_, i6_, i7_]
    rw [if_neg h]
    exact endsT_rett rfl (by decide) (by simp [look])
/-- The i-th operation behind the variables. -/
def mkOp (ns : List Int) (div : Bool) (at' : Nat) (i : Nat) : OpN :=
  let k := ns.getD i 0
  if k % 11 = 0 then ⟨0, 0, 0, fop .div (FloatKind.nearest .f64 (IntKind.i64.wrap (k.tdiv 11) % 33 - 16)) 4620693217682128896⟩
  else ⟨if div = true ∧ k % 7 = 0 then 5 else 2 + k % 3, IntKind.i64.wrap (k.tdiv 4) % at', IntKind.i64.wrap (k.tdiv 40) % at', 0⟩
def varOps (N : Nat) : List OpN := (List.range N).map fun (i : Nat) => ⟨1, i, 0, 0⟩
def baseOps (n : Int) (N : Nat) : List OpN := varOps N ++ [⟨0, 0, 0, fop .div (FloatKind.nearest .f64 (n % 17 - 8)) 4616189618054758400⟩]
def mkOps (n : Int) (ns : List Int) (div : Bool) (N : Nat) : Nat → List OpN
  | 0 => baseOps n N
  | i + 1 => mkOps n ns div N i ++ [mkOp ns div (N + 1 + i) i]
def mkOut (n : Int) (L : Nat) (i : Nat) : Int := (L : Int) - 1 - (IntKind.i64.wrap (IntKind.i64.wrap (n.tdiv 3) + i)) % (min 3 L : Nat)
def mkT (n : Int) (ns : List Int) (div : Bool) : Tp :=
  let N := (n % 3).toNat + 1
  let m := min ns.length 8
  ⟨N, mkOps n ns div N m, (List.range N).map fun i => mkOut n (N + 1 + m) i⟩
theorem mkOps_len (n : Int) (ns : List Int) (div : Bool) (N i : Nat) : (mkOps n ns div N i).length = N + 1 + i := by
  induction i with
  | zero => simp [mkOps, baseOps, varOps]
  | succ i ih => simp [mkOps, ih]; omega
def Oko' (o : OpN) (i n : Nat) : Prop := o.k = 0 ∨ (o.k = 1 ∧ 0 ≤ o.a ∧ o.a < n) ∨ ((o.k = 2 ∨ o.k = 3 ∨ o.k = 4 ∨ o.k = 5) ∧ (0 ≤ o.a ∧ o.a < i) ∧ 0 ≤ o.b ∧ o.b < i)
theorem opc_succ (xs : List OpN) (o : OpN) (i : Nat) (h : xs.length = i) : dcells i (opG xs) ++ [fI o.k, fI o.a, fI o.b, fl o.c] = dcells (i + 1) (opG (xs ++ [o])) := by
  rw [dcells_succ]
  have e : dcells i (opG (xs ++ [o])) = dcells i (opG xs) := by
    unfold dcells
    rw [dcB_congr fun j hj => ?_]
    have : (xs ++ [o]).getD j ⟨0, 0, 0, 0⟩ = xs.getD j ⟨0, 0, 0, 0⟩ := by rw [List.getD_eq_getElem?_getD, List.getElem?_append_left (by omega), ← List.getD_eq_getElem?_getD]
    simp only [opG, this]
  have e2 : (xs ++ [o]).getD i ⟨0, 0, 0, 0⟩ = o := by rw [List.getD_eq_getElem?_getD, List.getElem?_append_right (by omega), h, Nat.sub_self]; rfl
  rw [e]
  congr 1
  simp only [opG, e2, List.map_cons, List.map_nil]
theorem opc_len (xs : List OpN) (i : Nat) : (dcells i (opG xs)).length = i * 4 := dcells_len i fun _ _ => rfl
theorem varOps_succ (i : Nat) : varOps (i + 1) = varOps i ++ [⟨1, i, 0, 0⟩] := by simp [varOps, List.range_succ]
theorem varOps_len (i : Nat) : (varOps i).length = i := by simp [varOps]
abbrev m0S (n : Int) (ns : List Int) (div : Bool) (i : Nat) : Sl := [(0, fI n), (1, .d (rowI ns)), (2, fB div), (6, .ptr 0 0 0 3), (7, .ptr 5 0 0 3), (8, fI i)]
abbrev m1S (n : Int) (ns : List Int) (div : Bool) (i : Nat) : Sl := [(0, fI n), (1, .d (rowI ns)), (2, fB div), (6, .ptr 0 0 0 3), (7, .ptr 5 0 0 3), (9, fI i)]
abbrev mTop : List V := [fI 0, .nil, .nil]
set_option maxRecDepth 8000 in
theorem make3_L0 (n : Int) (ns : List Int) (div : Bool) (N : Nat) (hN : 0 < N ∧ N ≤ 3) (Q : Ex → T → Prop)
    (hQ : ∀ w, Q (.exit 0) ⟨m0S n ns div N ++ [w], [(11, [dcells N (opG (varOps N))]), (5, [[fI N, .sl 11 0 0 N 4 (N * 4), .nil]]), (0, [mTop])]⟩) :
    WA Tryz.prog (fun _ => False) 120 (.loop A_l3_Make_L0) Q ⟨m0S n ns div 0, [(5, [[fI N, .nil, .nil]]), (0, [mTop])]⟩ := by
  refine WA_forW (n := N) (fun c s => ∃ i, c + i = N ∧ ((i = 0 ∧ s = ⟨m0S n ns div 0, [(5, [[fI N, .nil, .nil]]), (0, [mTop])]⟩) ∨ (0 < i ∧ s = ⟨m0S n ns div i, [(11, [dcells i (opG (varOps i))]), (5, [[fI N, .sl 11 0 0 i 4 (i * 4), .nil]]), (0, [mTop])]⟩))) (Le.refl _) ⟨0, rfl, .inl ⟨rfl, rfl⟩⟩ ?_
  rintro c s ⟨i, hc, ⟨rfl, rfl⟩ | ⟨hi, rfl⟩⟩
  · simp -implicitDefEqProofs only [evI, hv, effC, reduceCtorEq, ↓reduceIte, n1_, n2_, n3_, n4_, n5_, i1_, i2_, i3_, i4_, i5_, i6_, i7_, A_l3_Make_L0]
    have h0 : decide ((0 : Int) < (N : Int)) = true := by simp; omega
    simp -implicitDefEqProofs only [evI, hv, effC, reduceCtorEq, ↓reduceIte, n1_, n2_, n3_, n4_, n5_, i1_, i2_, i3_, i4_, i5_, i6_, i7_, h0]
    rw [show IntKind.i64.wrap 1 = ((0 + 1 : Nat) : Int) from by decide]
    exact ⟨c - 1, _, by omega, LeT.only (L' := [(11, [dcells (0 + 1) (opG (varOps (0 + 1)))]), (5, [[fI N, .sl 11 0 0 (0 + 1) 4 ((0 + 1) * 4), .nil]]), (0, [mTop])]) (fun X => X != 10) (fun _ h => h) rfl (by simp [KpS_cons, KpS_nil, KpH_cons, KpH_nil, KpF_cons, KpF_nil, KpF_rows, KpA_cons, KpA_nil, KpA_app, KpA_rowV, KpA_rowIV, KpA_dcells, KpA_outC, Kp_any, Kp_nilv, Kp_d, Kp_ptr, Kp_sl, Kp_agg, Kp_tup, Kp_fn, get_cons, get_nil]) (by simp [KpS_cons, KpS_nil, KpH_cons, KpH_nil, KpF_cons, KpF_nil, KpF_rows, KpA_cons, KpA_nil, KpA_app, KpA_rowV, KpA_rowIV, KpA_dcells, KpA_outC, Kp_any, Kp_nilv, Kp_d, Kp_ptr, Kp_sl, Kp_agg, Kp_tup, Kp_fn, get_cons, get_nil]), 0 + 1, by omega, .inr ⟨by omega, rfl⟩⟩
  · have hl := opc_len (varOps i) i
    simp -implicitDefEqProofs only [evI, hv, effC, reduceCtorEq, ↓reduceIte, n1_, n2_, n3_, n4_, n5_, i1_, i2_, i3_, i4_, i5_, i6_, i7_, A_l3_Make_L0]
    refine condC_intro (fun h => ?_) (fun h => ?_)
    · replace h := of_decide_eq_true h
      simp -implicitDefEqProofs only [evI, hv, effC, reduceCtorEq, ↓reduceIte, n1_, n2_, n3_, n4_, n5_, i1_, i2_, i3_, i4_, i5_, i6_, i7_]
      (repeat (with_reducible refine And.intro (by omega) ?_))
      have e := opc_succ (varOps i) ⟨1, i, 0, 0⟩ i (varOps_len i)
      rw [← varOps_succ] at e
      have e4 : i * 4 + 4 = (i + 1) * 4 := by omega
      rw [wrapI (by omega) (by omega), e4]
      simp only [] at e
      rw [e]
      exact ⟨c - 1, _, by omega, LeT.only (fun X => decide (X ≤ 11)) (fun _ h => h) rfl (by simp [KpS_cons, KpS_nil, KpH_cons, KpH_nil, KpF_cons, KpF_nil, KpF_rows, KpA_cons, KpA_nil, KpA_app, KpA_rowV, KpA_rowIV, KpA_dcells, KpA_outC, Kp_any, Kp_nilv, Kp_d, Kp_ptr, Kp_sl, Kp_agg, Kp_tup, Kp_fn, get_cons, get_nil]) (by simp [KpS_cons, KpS_nil, KpH_cons, KpH_nil, KpF_cons, KpF_nil, KpF_rows, KpA_cons, KpA_nil, KpA_app, KpA_rowV, KpA_rowIV, KpA_dcells, KpA_outC, Kp_any, Kp_nilv, Kp_d, Kp_ptr, Kp_sl, Kp_agg, Kp_tup, Kp_fn, get_cons, get_nil]), i + 1, by omega, .inr ⟨by omega, rfl⟩⟩
    · replace h := of_decide_eq_false h
      have e : i = N := by omega
      subst e
      simp -implicitDefEqProofs only [evI, hv, effC, reduceCtorEq, ↓reduceIte, n1_, n2_, n3_, n4_, n5_, i1_, i2_, i3_, i4_, i5_, i6_, i7_]
      exact hQ _
abbrev m1T (n : Int) (ns : List Int) (div : Bool) (N i : Nat) : T := ⟨m1S n ns div i, [(11, [dcells (N + 1 + i) (opG (mkOps n ns div N i))]), (5, [[fI N, .sl 11 0 0 (N + 1 + i) 4 ((N + 1 + i) * 4), .nil]]), (0, [mTop])]⟩
set_option maxRecDepth 8000 in
theorem make3_L1 (n : Int) (ns : List Int) (div : Bool) (N : Nat) (hN : 0 < N ∧ N ≤ 3) (hns : ns.length < 2 ^ 62) (Q : Ex → T → Prop)
    (hQ : ∀ w, Q (.exit 2) ⟨m1S n ns div (min ns.length 8) ++ [w], (m1T n ns div N (min ns.length 8)).L⟩) :
    WA Tryz.prog (fun _ => False) 120 (.loop A_l3_Make_L1) Q (m1T n ns div N 0) := by
  refine WA_forW (n := min ns.length 8) (fun c s => ∃ i, c + i = min ns.length 8 ∧ s = m1T n ns div N i) (Le.refl _) ⟨0, by omega, rfl⟩ ?_
  rintro c s ⟨i, hc, rfl⟩
  have hl := mkOps_len n ns div N i
  have hcl := opc_len (mkOps n ns div N i) (N + 1 + i)
  have hnx : mkOps n ns div N (i + 1) = mkOps n ns div N i ++ [mkOp ns div (N + 1 + i) i] := rfl
  simp -implicitDefEqProofs only [evI, hv, effC, reduceCtorEq, ↓reduceIte, n1_, n2_, n3_, n4_, n5_, i1_, i2_, i3_, i4_, i5_, i6_, i7_, A_l3_Make_L1]
  by_cases h1 : i < ns.length
  · have h1' : decide (i < ns.length) = true := decide_eq_true h1
    by_cases h2 : i < 8
    · have h2' : decide ((i : Int) < 8) = true := by simp; omega
      simp -implicitDefEqProofs only [evI, hv, effC, reduceCtorEq, ↓reduceIte, n1_, n2_, n3_, n4_, n5_, i1_, i2_, i3_, i4_, i5_, i6_, i7_, h1', h2']
      (repeat (with_reducible refine And.intro (by omega) ?_))
      generalize hk : ns.getD i 0 = k
      have ho : mkOp ns div (N + 1 + i) i = if k % 11 = 0 then ⟨0, 0, 0, fop .div (FloatKind.nearest .f64 (IntKind.i64.wrap (k.tdiv 11) % 33 - 16)) 4620693217682128896⟩ else ⟨if div = true ∧ k % 7 = 0 then 5 else 2 + k % 3, IntKind.i64.wrap (k.tdiv 4) % (N + 1 + i : Nat), IntKind.i64.wrap (k.tdiv 40) % (N + 1 + i : Nat), 0⟩ := by unfold mkOp; rw [hk]
      generalize mkOp ns div (N + 1 + i) i = o at ho hnx
      first | refine callG_con (l3_within_con k 3 (by decide) (by decide)) rfl ?_ | refine callCG_con (l3_within_con k 3 (by decide) (by decide)) rfl ?_ | refine callSG_con (l3_within_con k 3 (by decide) (by decide)) rfl ?_
      have q1 := Int.emod_nonneg k (by decide : (3 : Int) ≠ 0)
      have q2 := Int.emod_lt_of_pos k (by decide : (0 : Int) < 3)
      have w2 : IntKind.i64.wrap (2 + k % 3) = 2 + k % 3 := wrapI (by omega) (by omega)
      simp -implicitDefEqProofs only [evI, hv, effC, reduceCtorEq, ↓reduceIte, n1_, n2_, n3_, n4_, n5_, i1_, i2_, i3_, i4_, i5_, i6_, i7_, w2]
      refine ⟨by decide, ?_⟩
      first | refine callG_con (l3_within_con (IntKind.i64.wrap (k.tdiv 4)) (N + 1 + i : Nat) (by omega) (by omega)) rfl ?_ | refine callCG_con (l3_within_con (IntKind.i64.wrap (k.tdiv 4)) (N + 1 + i : Nat) (by omega) (by omega)) rfl ?_ | refine callSG_con (l3_within_con (IntKind.i64.wrap (k.tdiv 4)) (N + 1 + i : Nat) (by omega) (by omega)) rfl ?_
      simp -implicitDefEqProofs only [evI, hv, effC, reduceCtorEq, ↓reduceIte, n1_, n2_, n3_, n4_, n5_, i1_, i2_, i3_, i4_, i5_, i6_, i7_]
      refine ⟨by decide, ?_⟩
      first | refine callG_con (l3_within_con (IntKind.i64.wrap (k.tdiv 40)) (N + 1 + i : Nat) (by omega) (by omega)) rfl ?_ | refine callCG_con (l3_within_con (IntKind.i64.wrap (k.tdiv 40)) (N + 1 + i : Nat) (by omega) (by omega)) rfl ?_ | refine callSG_con (l3_within_con (IntKind.i64.wrap (k.tdiv 40)) (N + 1 + i : Nat) (by omega) (by omega)) rfl ?_
      simp -implicitDefEqProofs only [evI, hv, effC, reduceCtorEq, ↓reduceIte, n1_, n2_, n3_, n4_, n5_, i1_, i2_, i3_, i4_, i5_, i6_, i7_]
      cases div
      · rw [if_neg (by simp : ¬ (false = true ∧ k % 7 = 0))] at ho
        simp -implicitDefEqProofs only [evI, hv, effC, reduceCtorEq, ↓reduceIte, n1_, n2_, n3_, n4_, n5_, i1_, i2_, i3_, i4_, i5_, i6_, i7_, hcl]
        first | refine callG_con (l3_within_con k 11 (by decide) (by decide)) rfl ?_ | refine callCG_con (l3_within_con k 11 (by decide) (by decide)) rfl ?_ | refine callSG_con (l3_within_con k 11 (by decide) (by decide)) rfl ?_
        by_cases h11 : k % 11 = 0
        · rw [if_pos h11] at ho
          have h11' : (k % 11 == 0) = true := by simpa using h11
          simp -implicitDefEqProofs only [evI, hv, effC, reduceCtorEq, ↓reduceIte, n1_, n2_, n3_, n4_, n5_, i1_, i2_, i3_, i4_, i5_, i6_, i7_, h11']
          refine ⟨by decide, ?_⟩
          first | refine callG_con (l3_within_con (IntKind.i64.wrap (k.tdiv 11)) 33 (by decide) (by decide)) rfl ?_ | refine callCG_con (l3_within_con (IntKind.i64.wrap (k.tdiv 11)) 33 (by decide) (by decide)) rfl ?_ | refine callSG_con (l3_within_con (IntKind.i64.wrap (k.tdiv 11)) 33 (by decide) (by decide)) rfl ?_
          have v1 := Int.emod_nonneg (IntKind.i64.wrap (k.tdiv 11)) (by decide : (33 : Int) ≠ 0)
          have v2 := Int.emod_lt_of_pos (IntKind.i64.wrap (k.tdiv 11)) (by decide : (0 : Int) < 33)
          have v3 : IntKind.i64.wrap (IntKind.i64.wrap (k.tdiv 11) % 33 - 16) = IntKind.i64.wrap (k.tdiv 11) % 33 - 16 := wrapI (by omega) (by omega)
          simp -implicitDefEqProofs only [evI, hv, effC, reduceCtorEq, ↓reduceIte, n1_, n2_, n3_, n4_, n5_, i1_, i2_, i3_, i4_, i5_, i6_, i7_, v3]
          have e := opc_succ (mkOps n ns _ N i) o (N + 1 + i) hl
          rw [← hnx, ho] at e
          simp only [] at e
          have e4 : (N + 1 + i) * 4 + 4 = (N + 1 + (i + 1)) * 4 := by omega
          have e5 : N + 1 + i + 1 = N + 1 + (i + 1) := by omega
          (repeat (with_reducible refine And.intro (by omega) ?_))
          rw [wrapI (by omega) (by omega), e4, e, e5]
          exact ⟨c - 1, _, by omega, LeT.only (fun X => X == 11 || X == 5 || X == 0) (fun _ h => h) rfl (by simp [KpS_cons, KpS_nil, KpH_cons, KpH_nil, KpF_cons, KpF_nil, KpF_rows, KpA_cons, KpA_nil, KpA_app, KpA_rowV, KpA_rowIV, KpA_dcells, KpA_outC, Kp_any, Kp_nilv, Kp_d, Kp_ptr, Kp_sl, Kp_agg, Kp_tup, Kp_fn, get_cons, get_nil]) (by simp [KpS_cons, KpS_nil, KpH_cons, KpH_nil, KpF_cons, KpF_nil, KpF_rows, KpA_cons, KpA_nil, KpA_app, KpA_rowV, KpA_rowIV, KpA_dcells, KpA_outC, Kp_any, Kp_nilv, Kp_d, Kp_ptr, Kp_sl, Kp_agg, Kp_tup, Kp_fn, get_cons, get_nil]), i + 1, by omega, rfl⟩
        · rw [if_neg h11] at ho
          have h11' : (k % 11 == 0) = false := by simpa using h11
          simp -implicitDefEqProofs only [evI, hv, effC, reduceCtorEq, ↓reduceIte, n1_, n2_, n3_, n4_, n5_, i1_, i2_, i3_, i4_, i5_, i6_, i7_, h11']
          have e := opc_succ (mkOps n ns _ N i) o (N + 1 + i) hl
          rw [← hnx, ho] at e
          simp only [] at e
          have e4 : (N + 1 + i) * 4 + 4 = (N + 1 + (i + 1)) * 4 := by omega
          have e5 : N + 1 + i + 1 = N + 1 + (i + 1) := by omega
          (repeat (with_reducible refine And.intro (by omega) ?_))
          rw [wrapI (by omega) (by omega), e4, e, e5]
          exact ⟨c - 1, _, by omega, LeT.only (fun X => X == 11 || X == 5 || X == 0) (fun _ h => h) rfl (by simp [KpS_cons, KpS_nil, KpH_cons, KpH_nil, KpF_cons, KpF_nil, KpF_rows, KpA_cons, KpA_nil, KpA_app, KpA_rowV, KpA_rowIV, KpA_dcells, KpA_outC, Kp_any, Kp_nilv, Kp_d, Kp_ptr, Kp_sl, Kp_agg, Kp_tup, Kp_fn, get_cons, get_nil]) (by simp [KpS_cons, KpS_nil, KpH_cons, KpH_nil, KpF_cons, KpF_nil, KpF_rows, KpA_cons, KpA_nil, KpA_app, KpA_rowV, KpA_rowIV, KpA_dcells, KpA_outC, Kp_any, Kp_nilv, Kp_d, Kp_ptr, Kp_sl, Kp_agg, Kp_tup, Kp_fn, get_cons, get_nil]), i + 1, by omega, rfl⟩
      · by_cases h7 : k % 7 = 0
        · have hd : (true = true ∧ k % 7 = 0) := ⟨rfl, h7⟩
          rw [if_pos hd] at ho
          have h7' : (k % 7 == 0) = true := by simpa using h7
          simp -implicitDefEqProofs only [evI, hv, effC, reduceCtorEq, ↓reduceIte, n1_, n2_, n3_, n4_, n5_, i1_, i2_, i3_, i4_, i5_, i6_, i7_]
          first | refine callG_con (l3_within_con k 7 (by decide) (by decide)) rfl ?_ | refine callCG_con (l3_within_con k 7 (by decide) (by decide)) rfl ?_ | refine callSG_con (l3_within_con k 7 (by decide) (by decide)) rfl ?_
          simp -implicitDefEqProofs only [evI, hv, effC, reduceCtorEq, ↓reduceIte, n1_, n2_, n3_, n4_, n5_, i1_, i2_, i3_, i4_, i5_, i6_, i7_, h7']
          first | refine callG_con (l3_within_con k 11 (by decide) (by decide)) rfl ?_ | refine callCG_con (l3_within_con k 11 (by decide) (by decide)) rfl ?_ | refine callSG_con (l3_within_con k 11 (by decide) (by decide)) rfl ?_
          by_cases h11 : k % 11 = 0
          · rw [if_pos h11] at ho
            have h11' : (k % 11 == 0) = true := by simpa using h11
            simp -implicitDefEqProofs only [evI, hv, effC, reduceCtorEq, ↓reduceIte, n1_, n2_, n3_, n4_, n5_, i1_, i2_, i3_, i4_, i5_, i6_, i7_, h11']
            refine ⟨by decide, ?_⟩
            first | refine callG_con (l3_within_con (IntKind.i64.wrap (k.tdiv 11)) 33 (by decide) (by decide)) rfl ?_ | refine callCG_con (l3_within_con (IntKind.i64.wrap (k.tdiv 11)) 33 (by decide) (by decide)) rfl ?_ | refine callSG_con (l3_within_con (IntKind.i64.wrap (k.tdiv 11)) 33 (by decide) (by decide)) rfl ?_
            have v1 := Int.emod_nonneg (IntKind.i64.wrap (k.tdiv 11)) (by decide : (33 : Int) ≠ 0)
            have v2 := Int.emod_lt_of_pos (IntKind.i64.wrap (k.tdiv 11)) (by decide : (0 : Int) < 33)
            have v3 : IntKind.i64.wrap (IntKind.i64.wrap (k.tdiv 11) % 33 - 16) = IntKind.i64.wrap (k.tdiv 11) % 33 - 16 := wrapI (by omega) (by omega)
            simp -implicitDefEqProofs only [evI, hv, effC, reduceCtorEq, ↓reduceIte, n1_, n2_, n3_, n4_, n5_, i1_, i2_, i3_, i4_, i5_, i6_, i7_, v3]
            have e := opc_succ (mkOps n ns _ N i) o (N + 1 + i) hl
            rw [← hnx, ho] at e
            simp only [] at e
            have e4 : (N + 1 + i) * 4 + 4 = (N + 1 + (i + 1)) * 4 := by omega
            have e5 : N + 1 + i + 1 = N + 1 + (i + 1) := by omega
            (repeat (with_reducible refine And.intro (by omega) ?_))
            rw [wrapI (by omega) (by omega), e4, e, e5]
            exact ⟨c - 1, _, by omega, LeT.only (fun X => X == 11 || X == 5 || X == 0) (fun _ h => h) rfl (by simp [KpS_cons, KpS_nil, KpH_cons, KpH_nil, KpF_cons, KpF_nil, KpF_rows, KpA_cons, KpA_nil, KpA_app, KpA_rowV, KpA_rowIV, KpA_dcells, KpA_outC, Kp_any, Kp_nilv, Kp_d, Kp_ptr, Kp_sl, Kp_agg, Kp_tup, Kp_fn, get_cons, get_nil]) (by simp [KpS_cons, KpS_nil, KpH_cons, KpH_nil, KpF_cons, KpF_nil, KpF_rows, KpA_cons, KpA_nil, KpA_app, KpA_rowV, KpA_rowIV, KpA_dcells, KpA_outC, Kp_any, Kp_nilv, Kp_d, Kp_ptr, Kp_sl, Kp_agg, Kp_tup, Kp_fn, get_cons, get_nil]), i + 1, by omega, rfl⟩
          · rw [if_neg h11] at ho
            have h11' : (k % 11 == 0) = false := by simpa using h11
            simp -implicitDefEqProofs only [evI, hv, effC, reduceCtorEq, ↓reduceIte, n1_, n2_, n3_, n4_, n5_, i1_, i2_, i3_, i4_, i5_, i6_, i7_, h11']
            have e := opc_succ (mkOps n ns _ N i) o (N + 1 + i) hl
            rw [← hnx, ho] at e
            simp only [] at e
            have e4 : (N + 1 + i) * 4 + 4 = (N + 1 + (i + 1)) * 4 := by omega
            have e5 : N + 1 + i + 1 = N + 1 + (i + 1) := by omega
            (repeat (with_reducible refine And.intro (by omega) ?_))
            rw [wrapI (by omega) (by omega), e4, e, e5]
            exact ⟨c - 1, _, by omega, LeT.only (fun X => X == 11 || X == 5 || X == 0) (fun _ h => h) rfl (by simp [KpS_cons, KpS_nil, KpH_cons, KpH_nil, KpF_cons, KpF_nil, KpF_rows, KpA_cons, KpA_nil, KpA_app, KpA_rowV, KpA_rowIV, KpA_dcells, KpA_outC, Kp_any, Kp_nilv, Kp_d, Kp_ptr, Kp_sl, Kp_agg, Kp_tup, Kp_fn, get_cons, get_nil]) (by simp [KpS_cons, KpS_nil, KpH_cons, KpH_nil, KpF_cons, KpF_nil, KpF_rows, KpA_cons, KpA_nil, KpA_app, KpA_rowV, KpA_rowIV, KpA_dcells, KpA_outC, Kp_any, Kp_nilv, Kp_d, Kp_ptr, Kp_sl, Kp_agg, Kp_tup, Kp_fn, get_cons, get_nil]), i + 1, by omega, rfl⟩
        · have hd : ¬ (true = true ∧ k % 7 = 0) := fun h => h7 h.2
          rw [if_neg hd] at ho
          have h7' : (k % 7 == 0) = false := by simpa using h7
          simp -implicitDefEqProofs only [evI, hv, effC, reduceCtorEq, ↓reduceIte, n1_, n2_, n3_, n4_, n5_, i1_, i2_, i3_, i4_, i5_, i6_, i7_]
          first | refine callG_con (l3_within_con k 7 (by decide) (by decide)) rfl ?_ | refine callCG_con (l3_within_con k 7 (by decide) (by decide)) rfl ?_ | refine callSG_con (l3_within_con k 7 (by decide) (by decide)) rfl ?_
          simp -implicitDefEqProofs only [evI, hv, effC, reduceCtorEq, ↓reduceIte, n1_, n2_, n3_, n4_, n5_, i1_, i2_, i3_, i4_, i5_, i6_, i7_, h7']
          first | refine callG_con (l3_within_con k 11 (by decide) (by decide)) rfl ?_ | refine callCG_con (l3_within_con k 11 (by decide) (by decide)) rfl ?_ | refine callSG_con (l3_within_con k 11 (by decide) (by decide)) rfl ?_
          by_cases h11 : k % 11 = 0
          · rw [if_pos h11] at ho
            have h11' : (k % 11 == 0) = true := by simpa using h11
            simp -implicitDefEqProofs only [evI, hv, effC, reduceCtorEq, ↓reduceIte, n1_, n2_, n3_, n4_, n5_, i1_, i2_, i3_, i4_, i5_, i6_, i7_, h11']
            refine ⟨by decide, ?_⟩
            first | refine callG_con (l3_within_con (IntKind.i64.wrap (k.tdiv 11)) 33 (by decide) (by decide)) rfl ?_ | refine callCG_con (l3_within_con (IntKind.i64.wrap (k.tdiv 11)) 33 (by decide) (by decide)) rfl ?_ | refine callSG_con (l3_within_con (IntKind.i64.wrap (k.tdiv 11)) 33 (by decide) (by decide)) rfl ?_
            have v1 := Int.emod_nonneg (IntKind.i64.wrap (k.tdiv 11)) (by decide : (33 : Int) ≠ 0)
            have v2 := Int.emod_lt_of_pos (IntKind.i64.wrap (k.tdiv 11)) (by decide : (0 : Int) < 33)
            have v3 : IntKind.i64.wrap (IntKind.i64.wrap (k.tdiv 11) % 33 - 16) = IntKind.i64.wrap (k.tdiv 11) % 33 - 16 := wrapI (by omega) (by omega)
            simp -implicitDefEqProofs only [evI, hv, effC, reduceCtorEq, ↓reduceIte, n1_, n2_, n3_, n4_, n5_, i1_, i2_, i3_, i4_, i5_, i6_, i7_, v3]
            have e := opc_succ (mkOps n ns _ N i) o (N + 1 + i) hl
            rw [← hnx, ho] at e
            simp only [] at e
            have e4 : (N + 1 + i) * 4 + 4 = (N + 1 + (i + 1)) * 4 := by omega
            have e5 : N + 1 + i + 1 = N + 1 + (i + 1) := by omega
            (repeat (with_reducible refine And.intro (by omega) ?_))
            rw [wrapI (by omega) (by omega), e4, e, e5]
            exact ⟨c - 1, _, by omega, LeT.only (fun X => X == 11 || X == 5 || X == 0) (fun _ h => h) rfl (by simp [KpS_cons, KpS_nil, KpH_cons, KpH_nil, KpF_cons, KpF_nil, KpF_rows, KpA_cons, KpA_nil, KpA_app, KpA_rowV, KpA_rowIV, KpA_dcells, KpA_outC, Kp_any, Kp_nilv, Kp_d, Kp_ptr, Kp_sl, Kp_agg, Kp_tup, Kp_fn, get_cons, get_nil]) (by simp [KpS_cons, KpS_nil, KpH_cons, KpH_nil, KpF_cons, KpF_nil, KpF_rows, KpA_cons, KpA_nil, KpA_app, KpA_rowV, KpA_rowIV, KpA_dcells, KpA_outC, Kp_any, Kp_nilv, Kp_d, Kp_ptr, Kp_sl, Kp_agg, Kp_tup, Kp_fn, get_cons, get_nil]), i + 1, by omega, rfl⟩
          · rw [if_neg h11] at ho
            have h11' : (k % 11 == 0) = false := by simpa using h11
            simp -implicitDefEqProofs only [evI, hv, effC, reduceCtorEq, ↓reduceIte, n1_, n2_, n3_, n4_, n5_, i1_, i2_, i3_, i4_, i5_, i6_, i7_, h11']
            have e := opc_succ (mkOps n ns _ N i) o (N + 1 + i) hl
            rw [← hnx, ho] at e
            simp only [] at e
            have e4 : (N + 1 + i) * 4 + 4 = (N + 1 + (i + 1)) * 4 := by omega
            have e5 : N + 1 + i + 1 = N + 1 + (i + 1) := by omega
            (repeat (with_reducible refine And.intro (by omega) ?_))
            rw [wrapI (by omega) (by omega), e4, e, e5]
            exact ⟨c - 1, _, by omega, LeT.only (fun X => X == 11 || X == 5 || X == 0) (fun _ h => h) rfl (by simp [KpS_cons, KpS_nil, KpH_cons, KpH_nil, KpF_cons, KpF_nil, KpF_rows, KpA_cons, KpA_nil, KpA_app, KpA_rowV, KpA_rowIV, KpA_dcells, KpA_outC, Kp_any, Kp_nilv, Kp_d, Kp_ptr, Kp_sl, Kp_agg, Kp_tup, Kp_fn, get_cons, get_nil]) (by simp [KpS_cons, KpS_nil, KpH_cons, KpH_nil, KpF_cons, KpF_nil, KpF_rows, KpA_cons, KpA_nil, KpA_app, KpA_rowV, KpA_rowIV, KpA_dcells, KpA_outC, Kp_any, Kp_nilv, Kp_d, Kp_ptr, Kp_sl, Kp_agg, Kp_tup, Kp_fn, get_cons, get_nil]), i + 1, by omega, rfl⟩
    · have h2' : decide ((i : Int) < 8) = false := by simp; omega
      have e : i = min ns.length 8 := by omega
      simp -implicitDefEqProofs only [evI, hv, effC, reduceCtorEq, ↓reduceIte, n1_, n2_, n3_, n4_, n5_, i1_, i2_, i3_, i4_, i5_, i6_, i7_, h1', h2']
      rw [e]
      exact hQ _
  · have h1' : decide (i < ns.length) = false := decide_eq_false h1
    have e : i = min ns.length 8 := by omega
    simp -implicitDefEqProofs only [evI, hv, effC, reduceCtorEq, ↓reduceIte, n1_, n2_, n3_, n4_, n5_, i1_, i2_, i3_, i4_, i5_, i6_, i7_, h1']
    rw [e]
    exact hQ _
def mkOutL (n : Int) (L i : Nat) : List Int := (List.range i).map fun j => mkOut n L j
theorem mkOutL_succ (n : Int) (L i : Nat) : rowIV (mkOutL n L i) ++ [fI (mkOut n L i)] = rowIV (mkOutL n L (i + 1)) := by simp [mkOutL, rowIV, List.range_succ]
theorem mkOutL_len (n : Int) (L i : Nat) : (mkOutL n L i).length = i := by simp [mkOutL]
abbrev m2S (n : Int) (i : Nat) : Sl := [(0, fI n), (6, .ptr 0 0 0 3), (7, .ptr 5 0 0 3), (13, fI i)]
set_option maxRecDepth 8000 in
theorem make3_L2 (n : Int) (N M : Nat) (ops : List OpN) (hM : ops.length = M) (hN : 0 < N ∧ N ≤ 3) (hM2 : 2 ≤ M ∧ M ≤ 100) (Q : Ex → T → Prop)
    (hQ : ∀ w, Q (.exit 4) ⟨m2S n N ++ [w], [(29, [rowIV (mkOutL n M N)]), (11, [dcells M (opG ops)]), (5, [[fI N, .sl 11 0 0 M 4 (M * 4), .sl 29 0 0 N 1 N]]), (0, [mTop])]⟩) :
    WA Tryz.prog (fun _ => False) 120 (.loop A_l3_Make_L2) Q ⟨m2S n 0, [(11, [dcells M (opG ops)]), (5, [[fI N, .sl 11 0 0 M 4 (M * 4), .nil]]), (0, [mTop])]⟩ := by
  have hcl := opc_len ops M
  refine WA_forW (n := N) (fun c s => ∃ i, c + i = N ∧ ((i = 0 ∧ s = ⟨m2S n 0, [(11, [dcells M (opG ops)]), (5, [[fI N, .sl 11 0 0 M 4 (M * 4), .nil]]), (0, [mTop])]⟩) ∨ (0 < i ∧ s = ⟨m2S n i, [(29, [rowIV (mkOutL n M i)]), (11, [dcells M (opG ops)]), (5, [[fI N, .sl 11 0 0 M 4 (M * 4), .sl 29 0 0 i 1 i]]), (0, [mTop])]⟩))) (Le.refl _) ⟨0, rfl, .inl ⟨rfl, rfl⟩⟩ ?_
  have hmm : (if (M : Int) < 3 then (M : Int) else 3) = ((min 3 M : Nat) : Int) := by split <;> omega
  have wM : IntKind.i64.wrap ((M : Int) - 1) = (M : Int) - 1 := wrapI (by omega) (by omega)
  rintro c s ⟨i, hc, ⟨rfl, rfl⟩ | ⟨hi, rfl⟩⟩
  · simp -implicitDefEqProofs only [evI, hv, effC, reduceCtorEq, ↓reduceIte, n1_, n2_, n3_, n4_, n5_, i1_, i2_, i3_, i4_, i5_, i6_, i7_, A_l3_Make_L2]
    have h0 : decide ((0 : Int) < (N : Int)) = true := by simp; omega
    simp -implicitDefEqProofs only [evI, hv, effC, reduceCtorEq, ↓reduceIte, n1_, n2_, n3_, n4_, n5_, i1_, i2_, i3_, i4_, i5_, i6_, i7_, h0, wM, hmm]
    refine ⟨by decide, ?_⟩
    first | refine callG_con (l3_within_con (IntKind.i64.wrap (IntKind.i64.wrap (n.tdiv 3) + 0)) (min 3 M : Nat) (by omega) (by omega)) rfl ?_ | refine callCG_con (l3_within_con (IntKind.i64.wrap (IntKind.i64.wrap (n.tdiv 3) + 0)) (min 3 M : Nat) (by omega) (by omega)) rfl ?_ | refine callSG_con (l3_within_con (IntKind.i64.wrap (IntKind.i64.wrap (n.tdiv 3) + 0)) (min 3 M : Nat) (by omega) (by omega)) rfl ?_
    have u1 := Int.emod_nonneg (IntKind.i64.wrap (IntKind.i64.wrap (n.tdiv 3) + 0)) (by omega : ((min 3 M : Nat) : Int) ≠ 0)
    have u2 := Int.emod_lt_of_pos (IntKind.i64.wrap (IntKind.i64.wrap (n.tdiv 3) + 0)) (by omega : (0 : Int) < ((min 3 M : Nat) : Int))
    have hmo : mkOut n M 0 = (M : Int) - 1 - IntKind.i64.wrap (IntKind.i64.wrap (n.tdiv 3) + 0) % ((min 3 M : Nat) : Int) := rfl
    have wu : IntKind.i64.wrap ((M : Int) - 1 - IntKind.i64.wrap (IntKind.i64.wrap (n.tdiv 3) + 0) % ((min 3 M : Nat) : Int)) = mkOut n M 0 := by rw [hmo]; exact wrapI (by omega) (by omega)
    simp -implicitDefEqProofs only [evI, hv, effC, reduceCtorEq, ↓reduceIte, n1_, n2_, n3_, n4_, n5_, i1_, i2_, i3_, i4_, i5_, i6_, i7_, wu]
    rw [show IntKind.i64.wrap 1 = ((0 + 1 : Nat) : Int) from by decide]
    exact ⟨c - 1, _, by omega, LeT.only (L' := [(29, [rowIV (mkOutL n M (0 + 1))]), (11, [dcells M (opG ops)]), (5, [[fI N, .sl 11 0 0 M 4 (M * 4), .sl 29 0 0 (0 + 1) 1 (0 + 1)]]), (0, [mTop])]) (fun X => X != 28) (fun _ h => h) rfl (by simp [KpS_cons, KpS_nil, KpH_cons, KpH_nil, KpF_cons, KpF_nil, KpF_rows, KpA_cons, KpA_nil, KpA_app, KpA_rowV, KpA_rowIV, KpA_dcells, KpA_outC, Kp_any, Kp_nilv, Kp_d, Kp_ptr, Kp_sl, Kp_agg, Kp_tup, Kp_fn, get_cons, get_nil]) (by simp [KpS_cons, KpS_nil, KpH_cons, KpH_nil, KpF_cons, KpF_nil, KpF_rows, KpA_cons, KpA_nil, KpA_app, KpA_rowV, KpA_rowIV, KpA_dcells, KpA_outC, Kp_any, Kp_nilv, Kp_d, Kp_ptr, Kp_sl, Kp_agg, Kp_tup, Kp_fn, get_cons, get_nil]), 0 + 1, by omega, .inr ⟨by omega, rfl⟩⟩
  · have hol := mkOutL_len n M i
    simp -implicitDefEqProofs only [evI, hv, effC, reduceCtorEq, ↓reduceIte, n1_, n2_, n3_, n4_, n5_, i1_, i2_, i3_, i4_, i5_, i6_, i7_, A_l3_Make_L2]
    refine condC_intro (fun h => ?_) (fun h => ?_)
    · replace h := of_decide_eq_true h
      simp -implicitDefEqProofs only [evI, hv, effC, reduceCtorEq, ↓reduceIte, n1_, n2_, n3_, n4_, n5_, i1_, i2_, i3_, i4_, i5_, i6_, i7_, wM, hmm]
      refine ⟨by decide, ?_⟩
      first | refine callG_con (l3_within_con (IntKind.i64.wrap (IntKind.i64.wrap (n.tdiv 3) + (i : Int))) (min 3 M : Nat) (by omega) (by omega)) rfl ?_ | refine callCG_con (l3_within_con (IntKind.i64.wrap (IntKind.i64.wrap (n.tdiv 3) + (i : Int))) (min 3 M : Nat) (by omega) (by omega)) rfl ?_ | refine callSG_con (l3_within_con (IntKind.i64.wrap (IntKind.i64.wrap (n.tdiv 3) + (i : Int))) (min 3 M : Nat) (by omega) (by omega)) rfl ?_
      have u1 := Int.emod_nonneg (IntKind.i64.wrap (IntKind.i64.wrap (n.tdiv 3) + (i : Int))) (by omega : ((min 3 M : Nat) : Int) ≠ 0)
      have u2 := Int.emod_lt_of_pos (IntKind.i64.wrap (IntKind.i64.wrap (n.tdiv 3) + (i : Int))) (by omega : (0 : Int) < ((min 3 M : Nat) : Int))
      have hmo : mkOut n M i = (M : Int) - 1 - IntKind.i64.wrap (IntKind.i64.wrap (n.tdiv 3) + (i : Int)) % ((min 3 M : Nat) : Int) := rfl
      have wu : IntKind.i64.wrap ((M : Int) - 1 - IntKind.i64.wrap (IntKind.i64.wrap (n.tdiv 3) + (i : Int)) % ((min 3 M : Nat) : Int)) = mkOut n M i := by rw [hmo]; exact wrapI (by omega) (by omega)
      simp -implicitDefEqProofs only [evI, hv, effC, reduceCtorEq, ↓reduceIte, n1_, n2_, n3_, n4_, n5_, i1_, i2_, i3_, i4_, i5_, i6_, i7_, wu]
      (repeat (with_reducible refine And.intro (by omega) ?_))
      have e1 := mkOutL_succ n M i
      rw [wrapI (by omega) (by omega), e1]
      exact ⟨c - 1, _, by omega, LeT.only (fun X => decide (X ≤ 29)) (fun _ h => h) rfl (by simp [KpS_cons, KpS_nil, KpH_cons, KpH_nil, KpF_cons, KpF_nil, KpF_rows, KpA_cons, KpA_nil, KpA_app, KpA_rowV, KpA_rowIV, KpA_dcells, KpA_outC, Kp_any, Kp_nilv, Kp_d, Kp_ptr, Kp_sl, Kp_agg, Kp_tup, Kp_fn, get_cons, get_nil]) (by simp [KpS_cons, KpS_nil, KpH_cons, KpH_nil, KpF_cons, KpF_nil, KpF_rows, KpA_cons, KpA_nil, KpA_app, KpA_rowV, KpA_rowIV, KpA_dcells, KpA_outC, Kp_any, Kp_nilv, Kp_d, Kp_ptr, Kp_sl, Kp_agg, Kp_tup, Kp_fn, get_cons, get_nil]), i + 1, by omega, .inr ⟨by omega, rfl⟩⟩
    · replace h := of_decide_eq_false h
      have e : i = N := by omega
      subst e
      simp -implicitDefEqProofs only [evI, hv, effC, reduceCtorEq, ↓reduceIte, n1_, n2_, n3_, n4_, n5_, i1_, i2_, i3_, i4_, i5_, i6_, i7_]
      exact hQ _
set_option maxRecDepth 8000 in
theorem l3_Make_con (n : Int) (ns : List Int) (div : Bool) (hns : ns.length < 2 ^ 62) : Con Tryz.prog 30 [fI n, .d (rowI ns), fB div] (tapeV (mkT n ns div)) := by
  have m1 := Int.emod_nonneg n (by decide : (3 : Int) ≠ 0)
  have m2 := Int.emod_lt_of_pos n (by decide : (0 : Int) < 3)
  refine Con_introA A_l3_Make_comp rfl mixed ?_
  simp -implicitDefEqProofs only [evI, hv, effC, reduceCtorEq, ↓reduceIte, n1_, n2_, n3_, n4_, n5_, i1_, i2_, i3_, i4_, i5_, i6_, i7_, A_l3_Make]
  first | refine callG_con (l3_within_con n 3 (by decide) (by decide)) rfl ?_ | refine callCG_con (l3_within_con n 3 (by decide) (by decide)) rfl ?_ | refine callSG_con (l3_within_con n 3 (by decide) (by decide)) rfl ?_
  obtain ⟨N, hN⟩ : ∃ N : Nat, N = (n % 3).toNat + 1 := ⟨_, rfl⟩
  have w1 : IntKind.i64.wrap (1 + n % 3) = (N : Int) := by rw [wrapI (by omega) (by omega)]; omega
  simp -implicitDefEqProofs only [evI, hv, effC, reduceCtorEq, ↓reduceIte, n1_, n2_, n3_, n4_, n5_, i1_, i2_, i3_, i4_, i5_, i6_, i7_, w1]
  refine make3_L0 n ns div N (by omega) _ fun w => ?_
  have hl := opc_len (varOps N) N
  simp -implicitDefEqProofs only [evI, hv, effC, reduceCtorEq, ↓reduceIte, n1_, n2_, n3_, n4_, n5_, i1_, i2_, i3_, i4_, i5_, i6_, i7_]
  first | refine callG_con (l3_within_con n 17 (by decide) (by decide)) rfl ?_ | refine callCG_con (l3_within_con n 17 (by decide) (by decide)) rfl ?_ | refine callSG_con (l3_within_con n 17 (by decide) (by decide)) rfl ?_
  have r1 := Int.emod_nonneg n (by decide : (17 : Int) ≠ 0)
  have r2 := Int.emod_lt_of_pos n (by decide : (0 : Int) < 17)
  have w2 : IntKind.i64.wrap (n % 17 - 8) = n % 17 - 8 := wrapI (by omega) (by omega)
  simp -implicitDefEqProofs only [evI, hv, effC, reduceCtorEq, ↓reduceIte, n1_, n2_, n3_, n4_, n5_, i1_, i2_, i3_, i4_, i5_, i6_, i7_, w2]
  (repeat (with_reducible refine And.intro (by omega) ?_))
  have e := opc_succ (varOps N) ⟨0, 0, 0, fop .div (FloatKind.nearest .f64 (n % 17 - 8)) 4616189618054758400⟩ N (varOps_len N)
  simp only [] at e
  rw [e]
  have e4 : N * 4 + 4 = (N + 1 + 0) * 4 := by omega
  rw [e4]
  refine WA_le (s' := m1T n ns div N 0) (LeT.only (fun X => X == 11 || X == 5 || X == 0) (fun _ h => h) rfl (by simp [KpS_cons, KpS_nil, KpH_cons, KpH_nil, KpF_cons, KpF_nil, KpF_rows, KpA_cons, KpA_nil, KpA_app, KpA_rowV, KpA_rowIV, KpA_dcells, KpA_outC, Kp_any, Kp_nilv, Kp_d, Kp_ptr, Kp_sl, Kp_agg, Kp_tup, Kp_fn, get_cons, get_nil]) (by simp [KpS_cons, KpS_nil, KpH_cons, KpH_nil, KpF_cons, KpF_nil, KpF_rows, KpA_cons, KpA_nil, KpA_app, KpA_rowV, KpA_rowIV, KpA_dcells, KpA_outC, Kp_any, Kp_nilv, Kp_d, Kp_ptr, Kp_sl, Kp_agg, Kp_tup, Kp_fn, get_cons, get_nil])) ?_
  refine make3_L1 n ns div N (by omega) hns _ fun w => ?_
  obtain ⟨M, hM⟩ : ∃ M, M = N + 1 + min ns.length 8 := ⟨_, rfl⟩
  have hol := mkOps_len n ns div N (min ns.length 8)
  rw [← hM] at hol
  simp only [← hM]
  have hT : mkT n ns div = ⟨N, mkOps n ns div N (min ns.length 8), mkOutL n M N⟩ := by unfold mkT mkOutL; rw [← hN, hM]
  rw [hT]
  generalize mkOps n ns div N (min ns.length 8) = ops at hol
  simp -implicitDefEqProofs only [evI, hv, effC, reduceCtorEq, ↓reduceIte, n1_, n2_, n3_, n4_, n5_, i1_, i2_, i3_, i4_, i5_, i6_, i7_]
  refine make3_L2 n N M ops hol (by omega) (by omega) _ fun w => ?_
  have hul := mkOutL_len n M N
  simp -implicitDefEqProofs only [evI, hv, effC, reduceCtorEq, ↓reduceIte, n1_, n2_, n3_, n4_, n5_, i1_, i2_, i3_, i4_, i5_, i6_, i7_]
  refine endsT_le (.agg [fI N, .sl 11 0 0 M 4 (M * 4), .sl 29 0 0 N 1 N]) (fun _ h => h) (resV_cellI (by decide) rfl rfl rfl (by simp) rfl) (LeV.agg3 (.d (.d _)) (.d ?_) (.d ?_))
  · unfold opsD
    rw [hol]
    exact snapF_data (esz := 4) (fun Y q h => by simp [get_nil] at h) (by simp [get_cons]) (fun _ _ => rfl) rfl
  · exact snap_rowI (fun Y q h => by simp [get_nil] at h) (by simp [get_cons]) hul rfl
theorem mkT_n (n : Int) (ns : List Int) (div : Bool) : (mkT n ns div).n = (n % 3).toNat + 1 := rfl
theorem mkOps_ok (n : Int) (ns : List Int) (div : Bool) (N i : Nat) : ∀ j, j < N + 1 + i → Oko' ((mkOps n ns div N i).getD j ⟨0, 0, 0, 0⟩) j N := by
  induction i with
  | zero =>
    intro j hj
    have hl := varOps_len N
    unfold mkOps baseOps
    by_cases h : j < N
    · rw [List.getD_eq_getElem?_getD, List.getElem?_append_left (by omega)]
      have : (varOps N)[j]? = some ⟨1, j, 0, 0⟩ := by simp [varOps, h]
      rw [this]
      exact .inr (.inl ⟨rfl, by simp, by simpa using h⟩)
    · obtain rfl : j = N := by omega
      rw [List.getD_eq_getElem?_getD, List.getElem?_append_right (by omega), hl, Nat.sub_self]
      exact .inl rfl
  | succ i ih =>
    intro j hj
    have hl := mkOps_len n ns div N i
    unfold mkOps
    by_cases h : j < N + 1 + i
    · have := ih j h
      rw [List.getD_eq_getElem?_getD] at this ⊢
      rwa [List.getElem?_append_left (by omega)]
    · obtain rfl : j = N + 1 + i := by omega
      rw [List.getD_eq_getElem?_getD, List.getElem?_append_right (by omega), hl, Nat.sub_self]
      show Oko' (mkOp ns div (N + 1 + i) i) (N + 1 + i) N
      unfold mkOp
      simp only
      split
      · exact .inl rfl
      · have a1 := Int.emod_nonneg (IntKind.i64.wrap ((ns.getD i 0).tdiv 4)) (by omega : ((N + 1 + i : Nat) : Int) ≠ 0)
        have a2 := Int.emod_lt_of_pos (IntKind.i64.wrap ((ns.getD i 0).tdiv 4)) (by omega : (0 : Int) < ((N + 1 + i : Nat) : Int))
        have b1 := Int.emod_nonneg (IntKind.i64.wrap ((ns.getD i 0).tdiv 40)) (by omega : ((N + 1 + i : Nat) : Int) ≠ 0)
        have b2 := Int.emod_lt_of_pos (IntKind.i64.wrap ((ns.getD i 0).tdiv 40)) (by omega : (0 : Int) < ((N + 1 + i : Nat) : Int))
        have c1 := Int.emod_nonneg (ns.getD i 0) (by decide : (3 : Int) ≠ 0)
        have c2 := Int.emod_lt_of_pos (ns.getD i 0) (by decide : (0 : Int) < 3)
        refine .inr (.inr ⟨?_, ⟨a1, a2⟩, b1, b2⟩)
        simp only
        split <;> omega
theorem mkT_ok (n : Int) (ns : List Int) (div : Bool) : Tok (mkT n ns div) := by
  have m1 := Int.emod_nonneg n (by decide : (3 : Int) ≠ 0)
  have m2 := Int.emod_lt_of_pos n (by decide : (0 : Int) < 3)
  have hl := mkOps_len n ns div ((n % 3).toNat + 1) (min ns.length 8)
  refine ⟨?_, ?_, ?_, ?_, ?_⟩
  · rw [mkT_n]; omega
  · show (mkOps n ns div ((n % 3).toNat + 1) (min ns.length 8)).length < 2 ^ 40
    omega
  · intro i hi
    have hi' : i < (mkOps n ns div ((n % 3).toNat + 1) (min ns.length 8)).length := hi
    exact mkOps_ok n ns div ((n % 3).toNat + 1) (min ns.length 8) i (by omega)
  · simp [mkT]
  · intro i hi
    rw [mkT_n] at hi
    have hx : (mkT n ns div).out.getD i 0 = mkOut n ((n % 3).toNat + 1 + 1 + min ns.length 8) i := by
      unfold mkT
      simp only
      rw [List.getD_eq_getElem?_getD, List.getElem?_map, List.getElem?_range hi]; rfl
    rw [hx]
    show _ ∧ _ < ((mkOps n ns div ((n % 3).toNat + 1) (min ns.length 8)).length : Int)
    rw [hl]
    have hM : 2 ≤ (n % 3).toNat + 1 + 1 + min ns.length 8 := by omega
    generalize (n % 3).toNat + 1 + 1 + min ns.length 8 = M at hM
    have u1 := Int.emod_nonneg (IntKind.i64.wrap (IntKind.i64.wrap (n.tdiv 3) + (i : Int))) (by omega : ((min 3 M : Nat) : Int) ≠ 0)
    have u2 := Int.emod_lt_of_pos (IntKind.i64.wrap (IntKind.i64.wrap (n.tdiv 3) + (i : Int))) (by omega : (0 : Int) < ((min 3 M : Nat) : Int))
    unfold mkOut
    omega
end Go.Ab

namespace Go.Ab
set_option linter.unusedSimpArgs false
set_option linter.unusedVariables false
open Nat renaming reduceEqDiff → n1_, reduceAdd → n2_, reduceMul → n3_, reduceLT → n4_, reduceLeDiff → n5_
open Int renaming reduceToNat → i1_, reduceAdd → i2_, reduceSub → i3_, reduceMul → i4_, reduceNeg → i5_, reduceLT → i6_, reduceLE → i7_
open Go Go.Proofs
def A_l10_within : CA := (.seq (.reg [i_X 0 4 (.h (.mov (.k (.d (.int .i64 0)))))] [0, 1]) (.seq (.reg [i_M 0 6 0, i_M 1 7 1, i_X 2 8 (.h (.ibin .rem (.t 6) (.t 7))), i_M 3 5 8] [1, 5]) (.seq (.seq (.reg [i_M 0 9 5, i_X 1 10 (.h (.ibin .lss (.t 9) (.k (.d (.int .i64 0)))))] [1, 5, 10]) (.cond (.t 10) (.reg [i_M 0 11 5, i_M 1 12 1, i_X 2 13 (.h (.ibin .add (.t 11) (.t 12))), i_M 3 5 13] [5]) .skip)) (.seq (.reg [i_M 0 14 5, i_M 1 4 14] [4]) .ret))))
theorem A_l10_within_comp : compF Tryz.prog 16 = some ⟨15, [(4, none)], A_l10_within.strip⟩ := by kernel_rfl
def A_l10_as : CA := (.seq (.reg [i_X 0 1 (.box (.t 0) 8 39), i_X 1 2 (.alloc [(.d (.int .i64 0)), (.d (.int .i64 0)), (.d (.int .i64 0)), (.d (.int .i64 0)), .nil, (.d (.int .i64 0)), (.d (.int .i64 0)), (.d (.int .i64 0))] 42)] [1, 2]) (.seq (.reg [i_P 0 4 1 0, i_A 1 5 4 5, i_X 2 3 (.alloc [(.d (.int .i64 0)), (.d (.int .i64 0)), (.d (.int .i64 0)), (.d (.int .i64 0)), .nil] 37), i_S 3 3 5 5] [1, 2, 3]) (.seq (.reg [i_P 0 6 1 0, i_P 1 7 6 4, i_L 2 8 7 1, i_X 3 9 (.callA (.k (.d (.fn 43 [] []))) [(.t 8), (.k (.d (.int .i64 0)))]), i_P 4 10 3 4, i_S 5 10 9 1] [1, 2, 3]) (.seq (.reg [i_A 0 11 3 5, i_P 1 12 1 5, i_L 2 13 12 1, i_P 3 14 1 6, i_L 4 15 14 1, i_P 5 16 1 7, i_L 6 17 16 1, i_X 7 18 (.h (.build [(.d (.int .i64 0)), (.d (.int .i64 0)), (.d (.int .i64 0)), (.d (.int .i64 0)), .nil, (.d (.int .i64 0)), (.d (.int .i64 0)), (.d (.int .i64 0))] [(0, (5, (.t 11))), (5, (1, (.t 13))), (6, (1, (.t 15))), (7, (1, (.t 17)))])), i_S 8 2 18 8] [2]) .ret))))
theorem A_l10_as_comp : compF Tryz.prog 18 = some ⟨19, [(2, (some (8, true)))], A_l10_as.strip⟩ := by kernel_rfl
def A_l10_Begin : CA := (.seq (.reg [i_X 0 1 (.box (.t 0) 13 33), i_X 1 2 (.alloc [(.d (.int .i64 0)), (.d (.int .i64 0)), (.d (.int .i64 0)), (.d (.int .i64 0)), .nil, (.d (.int .i64 0)), (.d (.int .i64 0)), (.d (.int .i64 0))] 39)] [1, 2]) (.seq (.reg [i_P 0 3 1 0, i_A 1 4 3 3, i_P 2 5 1 4, i_L 3 6 5 1, i_P 4 7 1 6, i_L 5 8 7 1, i_X 6 9 (.callA (.k (.d (.fn 32 [] []))) [(.t 4), (.t 6), (.t 8)]), i_X 7 10 (.h (.build [(.d (.int .i64 0)), (.d (.int .i64 0)), (.d (.int .i64 0)), (.d (.int .i64 0)), .nil, (.d (.int .i64 0)), (.d (.int .i64 0)), (.d (.int .i64 0))] [(0, (5, (.t 9)))])), i_S 8 2 10 8] [2]) .ret))
theorem A_l10_Begin_comp : compF Tryz.prog 15 = some ⟨11, [(2, (some (8, true)))], A_l10_Begin.strip⟩ := by kernel_rfl
def A_l10_Shape_Few : CA := (.seq (.reg [i_X 0 1 (.box (.t 0) 9 24), i_X 1 2 (.h (.mov (.k (.d (.bool false)))))] [1]) (.seq (.reg [i_P 0 3 1 5, i_L 1 4 3 1, i_X 2 5 (.h (.len (.t 4))), i_X 3 6 (.h (.ibin .leq (.t 5) (.k (.d (.int .i64 60))))), i_M 4 7 6, ⟨5, (some 8), (some (7, true)), [], [], (.h (.padd (.t 1) 6))⟩, ⟨6, (some 9), (some (7, true)), [], [], (.load (.t 8) 1 false)⟩, ⟨7, (some 10), (some (7, true)), [], [], (.h (.len (.t 9)))⟩, ⟨8, (some 11), (some (7, true)), [], [], (.h (.ibin .leq (.t 10) (.k (.d (.int .i64 60)))))⟩, i_X 9 12 (.h (.pick (.t 7) (.t 11) (.k (.d (.bool false))))), i_M 10 13 12, ⟨11, (some 14), (some (13, true)), [], [], (.h (.padd (.t 1) 7))⟩, ⟨12, (some 15), (some (13, true)), [], [], (.load (.t 14) 1 false)⟩, ⟨13, (some 16), (some (13, true)), [], [], (.h (.len (.t 15)))⟩, ⟨14, (some 17), (some (13, true)), [], [], (.h (.ibin .leq (.t 16) (.k (.d (.int .i64 60)))))⟩, i_X 15 18 (.h (.pick (.t 13) (.t 17) (.k (.d (.bool false))))), i_M 16 2 18] [2]) .ret))
theorem A_l10_Shape_Few_comp : compF Tryz.prog 13 = some ⟨19, [(2, none)], A_l10_Shape_Few.strip⟩ := by kernel_rfl
def A_l3_Values_L0 : CA := (.seq (.seq (.reg [i_M 0 8 6, i_M 1 9 0, i_X 2 10 (.h (.ibin .lss (.t 8) (.t 9)))] [0, 1, 5, 6, 10]) (.cond (.t 10) .skip (.exit 0))) (.seq (.block 1 (.seq (.reg [i_M 0 13 6, i_M 1 7 13] [0, 1, 5, 6, 7]) (.seq (.seq (.reg [i_M 0 14 6, i_M 1 15 1, i_X 2 16 (.h (.len (.t 15))), i_X 3 17 (.h (.ibin .lss (.t 14) (.t 16)))] [0, 1, 5, 6, 7, 17]) (.cond (.t 17) (.reg [i_M 0 18 1, i_M 1 19 6, i_X 2 20 (.h (.idx (.t 18) (.t 19) 1)), i_L 3 21 20 1, i_M 4 7 21] [0, 1, 5, 6, 7]) .skip)) (.reg [i_M 0 22 5, i_M 1 23 7, i_X 2 24 (.callA (.k (.d (.fn 59 [] []))) [(.t 23), (.k (.d (.int .i64 65)))]), i_X 3 25 (.h (.ibin .sub (.t 24) (.k (.d (.int .i64 32))))), i_X 4 26 (.h (.i2f (.t 25))), i_X 5 27 (.h (.fbin .div (.t 26) (.k (.d (.flt 4620693217682128896))))), i_X 6 28 (.bslice [(.d (.flt 0))] 1 1 [(0, (1, (.t 27)))] 31), i_X 7 29 (.app (.t 22) (.t 28) 1 8), i_M 8 5 29] [0, 1, 5, 6])))) (.reg [i_M 0 11 6, i_X 1 12 (.h (.ibin .add (.t 11) (.k (.d (.int .i64 1))))), i_M 2 6 12] [0, 1, 5, 6])))
def A_l3_Values : CA := (.seq (.reg [i_X 0 4 (.h (.mov (.k .nil)))] [0, 1]) (.seq (.reg [i_X 0 5 (.h (.mov (.k .nil)))] [0, 1, 5]) (.seq (.seq (.reg [i_X 0 6 (.h (.mov (.k (.d (.int .i64 0)))))] [0, 1, 5, 6]) (.block 0 (.loop A_l3_Values_L0))) (.seq (.reg [i_M 0 30 5, i_M 1 4 30] [4]) .ret))))
theorem A_l3_Values_comp : compF Tryz.prog 31 = some ⟨31, [(4, none)], A_l3_Values.strip⟩ := by kernel_rfl
theorem l10_within_con (a n : Int) (hn : 0 < n) (hn2 : n < 2 ^ 62) : Con Tryz.prog 16 [fI a, fI n] (fI (a % n)) := by
  rw [← tmod_fix a n hn]
  refine Con_introA A_l10_within_comp rfl mixed ?_
  simp -implicitDefEqProofs only [evI, hv, effC, reduceCtorEq, ↓reduceIte, n1_, n2_, n3_, n4_, n5_, i1_, i2_, i3_, i4_, i5_, i6_, i7_, A_l10_within]
  refine ⟨by omega, ?_⟩
  have h1 := Int.tmod_lt_of_pos a hn
  have h6 := Int.lt_tmod_of_pos a hn
  refine condC_intro (fun h => ?_) (fun h => ?_)
  · simp -implicitDefEqProofs only [evI, hv, effC, reduceCtorEq, ↓reduceIte, n1_, n2_, n3_, n4_, n5_, i1_, i2_, i3_, i4_, i5_, i6_, i7_]
    replace h := of_decide_eq_true h
    rw [wrapI (by omega) (by omega), if_pos h]
    exact endsT_rett rfl (by decide) (by simp [look])
  · replace h := of_decide_eq_false h
    simp -implicitDefEqProofs only [evI, hv, effC, reduceCtorEq, ↓reduceIte, n1_, n2_, n3_, n4_, n5_, i1_, i2_, i3_, i4_, i5_, i6_, i7_]
    rw [if_neg h]
    exact endsT_rett rfl (by decide) (by simp [look])
/-- Rows that are not too long. -/
def Zl (z : List (List Nat)) : Prop := z.length < 2 ^ 62 ∧ ∀ i, i < z.length → (z.getD i []).length < 2 ^ 62
theorem Zl_nil : Zl [] := ⟨by decide, fun i h => absurd h (by simp)⟩
theorem Zl_rk {m n : Nat} {z : List (List Nat)} (h : Rk m n z) (hm : m < 1000) (hn : n < 2 ^ 40) : Zl z :=
  ⟨by have := h.1; omega, fun i hi => by have := h.2 i (by have := h.1; omega); omega⟩
set_option maxRecDepth 8000 in
theorem l10_as_con (t : Tp) (s : Sta) (hn : t.n < 2 ^ 40) (hs : s.ok t) : Con Tryz.prog 18 [staV s] (staV s) := by
  obtain ⟨hm, hst, hk, hc, hpos⟩ := hs.n
  obtain ⟨n, g, f, sl⟩ := s
  have hq : n.order.toNat + 1 < 1000 := by simp only at *; omega
  have hre := r8_Rescale_con n.z (n.order.toNat + 1) t.n hk hq hn 0 (by decide)
  rw [scale_zero hk hc] at hre
  refine Con_introA A_l10_as_comp rfl mixed ?_
  simp -implicitDefEqProofs only [evI, hv, effC, reduceCtorEq, ↓reduceIte, n1_, n2_, n3_, n4_, n5_, i1_, i2_, i3_, i4_, i5_, i6_, i7_, A_l10_as]
  first | refine callG_con (hre) rfl ?_ | refine callCG_con (hre) rfl ?_ | refine callSG_con (hre) rfl ?_
  simp -implicitDefEqProofs only [evI, hv, effC, reduceCtorEq, ↓reduceIte, n1_, n2_, n3_, n4_, n5_, i1_, i2_, i3_, i4_, i5_, i6_, i7_]
  exact endsT_retm rfl (by decide) rfl rfl rfl (by simp) rfl
set_option maxRecDepth 8000 in
theorem l10_Begin_con (p : Pb) (hp : Pok p) (j : Nat) (hj : j < 60) (hf : p.first = (2 ^ j : Nat)) (hy : p.y.length = p.t.n) : Con Tryz.prog 15 [pbV p] (staV ⟨⟨0, p.first, 1, 0, startZ p.t p.y (hW (2 ^ j))⟩, 0, 0, 0⟩) := by
  refine Con_introA A_l10_Begin_comp rfl mixed ?_
  simp -implicitDefEqProofs only [evI, hv, effC, reduceCtorEq, ↓reduceIte, n1_, n2_, n3_, n4_, n5_, i1_, i2_, i3_, i4_, i5_, i6_, i7_, A_l10_Begin]
  rw [hf]
  first | refine callG_con (r8_Start_con p.t p.y j hp.t hy hj) rfl ?_ | refine callCG_con (r8_Start_con p.t p.y j hp.t hy hj) rfl ?_ | refine callSG_con (r8_Start_con p.t p.y j hp.t hy hj) rfl ?_
  simp -implicitDefEqProofs only [evI, hv, effC, reduceCtorEq, ↓reduceIte, n1_, n2_, n3_, n4_, n5_, i1_, i2_, i3_, i4_, i5_, i6_, i7_]
  exact endsT_retm rfl (by decide) rfl rfl rfl (by simp) rfl
abbrev shC (n first least tol fin : Int) (ns ms outs : List Int) (dv : Bool) : List V := [fI n, fI first, fI least, fI tol, fI fin, .d (rowI ns), .d (rowI ms), .d (rowI outs), fB dv]
set_option maxRecDepth 8000 in
theorem l10_Few_con (n first least tol fin : Int) (ns ms outs : List Int) (dv : Bool) : Con Tryz.prog 13 [.agg (shC n first least tol fin ns ms outs dv)] (fB (decide (ns.length ≤ 60 ∧ ms.length ≤ 60 ∧ outs.length ≤ 60))) := by
  refine Con_introA A_l10_Shape_Few_comp rfl mixed ?_
  simp -implicitDefEqProofs only [evI, hv, effC, reduceCtorEq, ↓reduceIte, n1_, n2_, n3_, n4_, n5_, i1_, i2_, i3_, i4_, i5_, i6_, i7_, A_l10_Shape_Few]
  by_cases h1 : ns.length ≤ 60
  · by_cases h2 : ms.length ≤ 60
    · by_cases h3 : outs.length ≤ 60
      · have k1 : decide ((ns.length : Int) ≤ 60) = true := decide_eq_true (by omega)
        have k2 : decide ((ms.length : Int) ≤ 60) = true := decide_eq_true (by omega)
        have k3 : decide ((outs.length : Int) ≤ 60) = true := decide_eq_true (by omega)
        simp -implicitDefEqProofs only [evI, hv, effC, reduceCtorEq, ↓reduceIte, n1_, n2_, n3_, n4_, n5_, i1_, i2_, i3_, i4_, i5_, i6_, i7_, k1, k2, k3]
        rw [decide_eq_true ⟨h1, h2, h3⟩]
        exact endsT_rett rfl (by decide) (by simp [look])
      · have k1 : decide ((ns.length : Int) ≤ 60) = true := decide_eq_true (by omega)
        have k2 : decide ((ms.length : Int) ≤ 60) = true := decide_eq_true (by omega)
        have k3 : decide ((outs.length : Int) ≤ 60) = false := decide_eq_false (by omega)
        simp -implicitDefEqProofs only [evI, hv, effC, reduceCtorEq, ↓reduceIte, n1_, n2_, n3_, n4_, n5_, i1_, i2_, i3_, i4_, i5_, i6_, i7_, k1, k2, k3]
        rw [decide_eq_false (fun h => h3 h.2.2)]
        exact endsT_rett rfl (by decide) (by simp [look])
    · have k1 : decide ((ns.length : Int) ≤ 60) = true := decide_eq_true (by omega)
      have k2 : decide ((ms.length : Int) ≤ 60) = false := decide_eq_false (by omega)
      simp -implicitDefEqProofs only [evI, hv, effC, reduceCtorEq, ↓reduceIte, n1_, n2_, n3_, n4_, n5_, i1_, i2_, i3_, i4_, i5_, i6_, i7_, k1, k2]
      rw [decide_eq_false (fun h => h2 h.2.1)]
      exact endsT_rett rfl (by decide) (by simp [look])
  · have k1 : decide ((ns.length : Int) ≤ 60) = false := decide_eq_false (by omega)
    simp -implicitDefEqProofs only [evI, hv, effC, reduceCtorEq, ↓reduceIte, n1_, n2_, n3_, n4_, n5_, i1_, i2_, i3_, i4_, i5_, i6_, i7_, k1]
    rw [decide_eq_false (fun h => h1 h.1)]
    exact endsT_rett rfl (by decide) (by simp [look])
def valN (k : Int) : Nat := fop .div (FloatKind.nearest .f64 (k % 65 - 32)) 4620693217682128896
def valsL (n : Nat) (ms : List Int) : List Nat := tabR (fun i => valN (if i < ms.length then ms.getD i 0 else i)) n
set_option maxRecDepth 8000 in
theorem l3_Values_con (n : Nat) (ms : List Int) (hn : n < 1000) (hms : ms.length < 2 ^ 62) : Con Tryz.prog 31 [fI n, .d (rowI ms)] (.d (rowD (valsL n ms))) := by
  have numw : ∀ k : Int, IntKind.i64.wrap (k % 65 - 32) = k % 65 - 32 := by
    intro k
    have h1 := Int.emod_nonneg k (by decide : (65 : Int) ≠ 0)
    have h2 := Int.emod_lt_of_pos k (by decide : (0 : Int) < 65)
    exact wrapI (by omega) (by omega)
  refine Con_of_row (X := 100) (n := n) ?_ (tabR_len _ _)
  refine AC_introA A_l3_Values_comp rfl mixed (fun _ => False) (by simp [get_nil]) ?_
  simp -implicitDefEqProofs only [evI, hv, effC, reduceCtorEq, ↓reduceIte, n1_, n2_, n3_, n4_, n5_, i1_, i2_, i3_, i4_, i5_, i6_, i7_, A_l3_Values]
  unfold valsL
  refine WA_forW (n := n) (fun c s => ∃ i, c + i = n ∧ s = ⟨[(0, fI n), (1, .d (rowI ms)), (5, .sl 100 0 0 i 1 i), (6, fI i)], [(100, [rowV (tabR (fun i => valN (if i < ms.length then ms.getD i 0 else i)) i)])]⟩)
    (s0 := ⟨_, _⟩) (LeT.nilrow (X := 100) (esz := 1) (as' := [(0, fI n), (1, .d (rowI ms)), (5, .sl 100 0 0 0 1 0), (6, fI 0)]) rfl (fun h => h) fun i => ?_) ⟨0, by omega, rfl⟩ ?_
  · simp only [look]
    repeat' split
    all_goals simp [rowI]
  rintro c s ⟨i, hc, rfl⟩
  have hl := tabR_len (fun i => valN (if i < ms.length then ms.getD i 0 else i)) i
  simp -implicitDefEqProofs only [evI, hv, effC, reduceCtorEq, ↓reduceIte, n1_, n2_, n3_, n4_, n5_, i1_, i2_, i3_, i4_, i5_, i6_, i7_, A_l3_Values_L0]
  refine condC_intro (fun h => ?_) (fun h => ?_)
  · replace h := of_decide_eq_true h
    simp -implicitDefEqProofs only [evI, hv, effC, reduceCtorEq, ↓reduceIte, n1_, n2_, n3_, n4_, n5_, i1_, i2_, i3_, i4_, i5_, i6_, i7_]
    have e := tabR_succ (fun i => valN (if i < ms.length then ms.getD i 0 else i)) i
    refine condC_intro (fun h3 => ?_) (fun h3 => ?_)
    · replace h3 := of_decide_eq_true h3
      simp -implicitDefEqProofs only [evI, hv, effC, reduceCtorEq, ↓reduceIte, n1_, n2_, n3_, n4_, n5_, i1_, i2_, i3_, i4_, i5_, i6_, i7_]
      (repeat (with_reducible refine And.intro (by omega) ?_))
      first | refine callG_con (l3_within_con (ms.getD i 0) 65 (by decide) (by decide)) rfl ?_ | refine callCG_con (l3_within_con (ms.getD i 0) 65 (by decide) (by decide)) rfl ?_ | refine callSG_con (l3_within_con (ms.getD i 0) 65 (by decide) (by decide)) rfl ?_
      simp -implicitDefEqProofs only [evI, hv, effC, reduceCtorEq, ↓reduceIte, n1_, n2_, n3_, n4_, n5_, i1_, i2_, i3_, i4_, i5_, i6_, i7_, numw]
      (repeat (with_reducible refine And.intro (by omega) ?_))
      have e2 : V.d (.flt (fop .div (FloatKind.nearest .f64 (ms.getD i 0 % 65 - 32)) 4620693217682128896)) = fl (valN (if i < ms.length then ms.getD i 0 else i)) := by rw [if_pos h3]; rfl
      rw [wrapI (by omega) (by omega), e2, ← e]
      exact ⟨c - 1, _, by omega, LeT.only (fun X => decide (X ≤ 100)) (fun _ h => h) rfl (by simp [KpS_cons, KpS_nil, KpH_cons, KpH_nil, KpF_cons, KpF_nil, KpF_rows, KpA_cons, KpA_nil, KpA_app, KpA_rowV, KpA_rowIV, KpA_dcells, KpA_outC, Kp_any, Kp_nilv, Kp_d, Kp_ptr, Kp_sl, Kp_agg, Kp_tup, Kp_fn, get_cons, get_nil]) (by simp [KpS_cons, KpS_nil, KpH_cons, KpH_nil, KpF_cons, KpF_nil, KpF_rows, KpA_cons, KpA_nil, KpA_app, KpA_rowV, KpA_rowIV, KpA_dcells, KpA_outC, Kp_any, Kp_nilv, Kp_d, Kp_ptr, Kp_sl, Kp_agg, Kp_tup, Kp_fn, get_cons, get_nil]), i + 1, by omega, rfl⟩
    · replace h3 := of_decide_eq_false h3
      simp -implicitDefEqProofs only [evI, hv, effC, reduceCtorEq, ↓reduceIte, n1_, n2_, n3_, n4_, n5_, i1_, i2_, i3_, i4_, i5_, i6_, i7_]
      first | refine callG_con (l3_within_con i 65 (by decide) (by decide)) rfl ?_ | refine callCG_con (l3_within_con i 65 (by decide) (by decide)) rfl ?_ | refine callSG_con (l3_within_con i 65 (by decide) (by decide)) rfl ?_
      simp -implicitDefEqProofs only [evI, hv, effC, reduceCtorEq, ↓reduceIte, n1_, n2_, n3_, n4_, n5_, i1_, i2_, i3_, i4_, i5_, i6_, i7_, numw]
      (repeat (with_reducible refine And.intro (by omega) ?_))
      have e2 : V.d (.flt (fop .div (FloatKind.nearest .f64 ((i : Int) % 65 - 32)) 4620693217682128896)) = fl (valN (if i < ms.length then ms.getD i 0 else i)) := by rw [if_neg (by omega)]; rfl
      rw [wrapI (by omega) (by omega), e2, ← e]
      exact ⟨c - 1, _, by omega, LeT.only (fun X => decide (X ≤ 100)) (fun _ h => h) rfl (by simp [KpS_cons, KpS_nil, KpH_cons, KpH_nil, KpF_cons, KpF_nil, KpF_rows, KpA_cons, KpA_nil, KpA_app, KpA_rowV, KpA_rowIV, KpA_dcells, KpA_outC, Kp_any, Kp_nilv, Kp_d, Kp_ptr, Kp_sl, Kp_agg, Kp_tup, Kp_fn, get_cons, get_nil]) (by simp [KpS_cons, KpS_nil, KpH_cons, KpH_nil, KpF_cons, KpF_nil, KpF_rows, KpA_cons, KpA_nil, KpA_app, KpA_rowV, KpA_rowIV, KpA_dcells, KpA_outC, Kp_any, Kp_nilv, Kp_d, Kp_ptr, Kp_sl, Kp_agg, Kp_tup, Kp_fn, get_cons, get_nil]), i + 1, by omega, rfl⟩
  · replace h := of_decide_eq_false h
    have e : i = n := by omega
    subst e
    simp -implicitDefEqProofs only [evI, hv, effC, reduceCtorEq, ↓reduceIte, n1_, n2_, n3_, n4_, n5_, i1_, i2_, i3_, i4_, i5_, i6_, i7_]
    exact endsT_row (fun _ h => h) (resV_tmpI (t := 4) (by decide) rfl) rfl
end Go.Ab
