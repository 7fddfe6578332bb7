/- The document's parting and solving. -/
import Derived.Test.YtdckmpaakheppaaLE
namespace Go.Ab
set_option linter.unusedSimpArgs false
set_option linter.unusedVariables false
open Go Go.Proofs
def A_r6_Part_L0 : CA := (.seq (.seq (.reg [⟨0, (some 18), none, [], [], (.h (.mov (.t 6)))⟩, ⟨1, (some 19), none, [], [], (.h (.mov (.t 5)))⟩, ⟨2, (some 20), none, [], [], (.h (.ibin .lss (.t 18) (.t 19)))⟩] [2, 4, 5, 6, 20]) (.cond (.t 20) .skip (.exit 0))) (.seq (.block 1 (.reg [⟨0, (some 23), none, [], [], (.h (.padd (.t 4) 1))⟩, ⟨1, (some 24), none, [], [], (.load (.t 23) 1 false)⟩, ⟨2, (some 25), none, [], [], (.h (.mov (.t 6)))⟩, ⟨3, (some 26), none, [], [], (.bslice [(.d (.int .i64 0))] 1 1 [(0, (1, (.t 25)))] 3)⟩, ⟨4, (some 27), none, [], [], (.app (.t 24) (.t 26) 1 8)⟩, ⟨5, (some 28), none, [], [], (.h (.padd (.t 4) 1))⟩, ⟨6, none, none, [], [], (.store (.t 28) (.t 27) 1)⟩] [2, 4, 5, 6])) (.reg [⟨0, (some 21), none, [], [], (.h (.mov (.t 6)))⟩, ⟨1, (some 22), none, [], [], (.h (.ibin .add (.t 21) (.k (.d (.int .i64 1)))))⟩, ⟨2, (some 6), none, [], [], (.h (.mov (.t 22)))⟩] [2, 4, 5, 6])))
def A_r6_Part_L2 : CA := (.seq (.seq (.reg [⟨0, (some 37), none, [], [], (.h (.mov (.t 9)))⟩, ⟨1, (some 38), none, [], [], (.h (.mov (.t 5)))⟩, ⟨2, (some 39), none, [], [], (.h (.ibin .lss (.t 37) (.t 38)))⟩] [2, 4, 5, 7, 8, 9, 39]) (.cond (.t 39) .skip (.exit 4))) (.seq (.block 5 (.seq (.reg [⟨0, (some 42), none, [], [], (.h (.padd (.t 4) 0))⟩, ⟨1, (some 43), none, [], [], (.load (.t 42) 1 false)⟩, ⟨2, (some 44), none, [], [], (.h (.mov (.t 9)))⟩, ⟨3, (some 45), none, [], [], (.h (.idx (.t 43) (.t 44) 1))⟩, ⟨4, (some 46), none, [], [], (.load (.t 45) 1 false)⟩, ⟨5, (some 47), none, [], [], (.h (.mov (.t 7)))⟩, ⟨6, (some 48), none, [], [], (.h (.idx (.t 46) (.t 47) 1))⟩, ⟨7, (some 49), none, [], [], (.load (.t 48) 1 false)⟩, ⟨8, (some 50), none, [], [], (.callS 0 (.k (.d (.fn 28 [] []))) [(.t 49)])⟩, ⟨9, (some 51), none, [], [], (.h (.padd (.t 4) 0))⟩, ⟨10, (some 52), none, [], [], (.load (.t 51) 1 false)⟩, ⟨11, (some 53), none, [], [], (.h (.mov (.t 8)))⟩, ⟨12, (some 54), none, [], [], (.h (.idx (.t 52) (.t 53) 1))⟩, ⟨13, (some 55), none, [], [], (.load (.t 54) 1 false)⟩, ⟨14, (some 56), none, [], [], (.h (.mov (.t 7)))⟩, ⟨15, (some 57), none, [], [], (.h (.idx (.t 55) (.t 56) 1))⟩, ⟨16, (some 58), none, [], [], (.load (.t 57) 1 false)⟩, ⟨17, (some 59), none, [], [], (.callA (.k (.d (.fn 28 [] []))) [(.t 58)])⟩, ⟨18, (some 60), none, [], [], (.h (.fcmp .gt (.t 50) (.t 59)))⟩] [2, 4, 5, 7, 8, 9, 60]) (.cond (.t 60) (.reg [⟨0, (some 61), none, [], [], (.h (.mov (.t 9)))⟩, ⟨1, (some 8), none, [], [], (.h (.mov (.t 61)))⟩] [2, 4, 5, 7, 8, 9]) .skip))) (.reg [⟨0, (some 40), none, [], [], (.h (.mov (.t 9)))⟩, ⟨1, (some 41), none, [], [], (.h (.ibin .add (.t 40) (.k (.d (.int .i64 1)))))⟩, ⟨2, (some 9), none, [], [], (.h (.mov (.t 41)))⟩] [2, 4, 5, 7, 8, 9])))
def A_r6_Part_L4 : CA := (.seq (.seq (.reg [⟨0, (some 153), none, [], [], (.h (.mov (.t 11)))⟩, ⟨1, (some 154), none, [], [], (.h (.mov (.t 5)))⟩, ⟨2, (some 155), none, [], [], (.h (.ibin .lss (.t 153) (.t 154)))⟩] [2, 4, 5, 7, 10, 11, 155]) (.cond (.t 155) .skip (.exit 8))) (.seq (.block 9 (.seq (.reg [⟨0, (some 158), none, [], [], (.h (.padd (.t 4) 0))⟩, ⟨1, (some 159), none, [], [], (.load (.t 158) 1 false)⟩, ⟨2, (some 160), none, [], [], (.h (.mov (.t 10)))⟩, ⟨3, (some 161), none, [], [], (.h (.idx (.t 159) (.t 160) 1))⟩, ⟨4, (some 162), none, [], [], (.load (.t 161) 1 false)⟩, ⟨5, (some 163), none, [], [], (.h (.mov (.t 7)))⟩, ⟨6, (some 164), none, [], [], (.h (.idx (.t 162) (.t 163) 1))⟩, ⟨7, (some 165), none, [], [], (.load (.t 164) 1 false)⟩, ⟨8, (some 166), none, [], [], (.h (.padd (.t 4) 0))⟩, ⟨9, (some 167), none, [], [], (.load (.t 166) 1 false)⟩, ⟨10, (some 168), none, [], [], (.h (.mov (.t 7)))⟩, ⟨11, (some 169), none, [], [], (.h (.idx (.t 167) (.t 168) 1))⟩, ⟨12, (some 170), none, [], [], (.load (.t 169) 1 false)⟩, ⟨13, (some 171), none, [], [], (.h (.mov (.t 11)))⟩, ⟨14, (some 172), none, [], [], (.h (.idx (.t 170) (.t 171) 1))⟩, ⟨15, (some 173), none, [], [], (.load (.t 172) 1 false)⟩, ⟨16, (some 174), none, [], [], (.h (.fbin .mul (.t 165) (.t 173)))⟩, ⟨17, (some 12), none, [], [], (.h (.mov (.t 174)))⟩] [2, 4, 5, 7, 10, 11, 12]) (.reg [⟨0, (some 175), none, [], [], (.h (.padd (.t 4) 0))⟩, ⟨1, (some 176), none, [], [], (.load (.t 175) 1 false)⟩, ⟨2, (some 177), none, [], [], (.h (.mov (.t 10)))⟩, ⟨3, (some 178), none, [], [], (.h (.idx (.t 176) (.t 177) 1))⟩, ⟨4, (some 179), none, [], [], (.load (.t 178) 1 false)⟩, ⟨5, (some 180), none, [], [], (.h (.mov (.t 11)))⟩, ⟨6, (some 181), none, [], [], (.h (.padd (.t 4) 0))⟩, ⟨7, (some 182), none, [], [], (.load (.t 181) 1 false)⟩, ⟨8, (some 183), none, [], [], (.h (.mov (.t 10)))⟩, ⟨9, (some 184), none, [], [], (.h (.idx (.t 182) (.t 183) 1))⟩, ⟨10, (some 185), none, [], [], (.load (.t 184) 1 false)⟩, ⟨11, (some 186), none, [], [], (.h (.mov (.t 11)))⟩, ⟨12, (some 187), none, [], [], (.h (.idx (.t 185) (.t 186) 1))⟩, ⟨13, (some 188), none, [], [], (.load (.t 187) 1 false)⟩, ⟨14, (some 189), none, [], [], (.h (.mov (.t 12)))⟩, ⟨15, (some 190), none, [], [], (.h (.fbin .sub (.t 188) (.t 189)))⟩, ⟨16, (some 191), none, [], [], (.h (.idx (.t 179) (.t 180) 1))⟩, ⟨17, none, none, [], [], (.store (.t 191) (.t 190) 1)⟩] [2, 4, 5, 7, 10, 11]))) (.reg [⟨0, (some 156), none, [], [], (.h (.mov (.t 11)))⟩, ⟨1, (some 157), none, [], [], (.h (.ibin .add (.t 156) (.k (.d (.int .i64 1)))))⟩, ⟨2, (some 11), none, [], [], (.h (.mov (.t 157)))⟩] [2, 4, 5, 7, 10, 11])))
def A_r6_Part_L3 : CA := (.seq (.seq (.reg [⟨0, (some 122), none, [], [], (.h (.mov (.t 10)))⟩, ⟨1, (some 123), none, [], [], (.h (.mov (.t 5)))⟩, ⟨2, (some 124), none, [], [], (.h (.ibin .lss (.t 122) (.t 123)))⟩] [2, 4, 5, 7, 10, 124]) (.cond (.t 124) .skip (.exit 6))) (.seq (.block 7 (.seq (.reg [⟨0, (some 127), none, [], [], (.h (.padd (.t 4) 0))⟩, ⟨1, (some 128), none, [], [], (.load (.t 127) 1 false)⟩, ⟨2, (some 129), none, [], [], (.h (.mov (.t 10)))⟩, ⟨3, (some 130), none, [], [], (.h (.idx (.t 128) (.t 129) 1))⟩, ⟨4, (some 131), none, [], [], (.load (.t 130) 1 false)⟩, ⟨5, (some 132), none, [], [], (.h (.mov (.t 7)))⟩, ⟨6, (some 133), none, [], [], (.h (.padd (.t 4) 0))⟩, ⟨7, (some 134), none, [], [], (.load (.t 133) 1 false)⟩, ⟨8, (some 135), none, [], [], (.h (.mov (.t 10)))⟩, ⟨9, (some 136), none, [], [], (.h (.idx (.t 134) (.t 135) 1))⟩, ⟨10, (some 137), none, [], [], (.load (.t 136) 1 false)⟩, ⟨11, (some 138), none, [], [], (.h (.mov (.t 7)))⟩, ⟨12, (some 139), none, [], [], (.h (.idx (.t 137) (.t 138) 1))⟩, ⟨13, (some 140), none, [], [], (.load (.t 139) 1 false)⟩, ⟨14, (some 141), none, [], [], (.h (.padd (.t 4) 0))⟩, ⟨15, (some 142), none, [], [], (.load (.t 141) 1 false)⟩, ⟨16, (some 143), none, [], [], (.h (.mov (.t 7)))⟩, ⟨17, (some 144), none, [], [], (.h (.idx (.t 142) (.t 143) 1))⟩, ⟨18, (some 145), none, [], [], (.load (.t 144) 1 false)⟩, ⟨19, (some 146), none, [], [], (.h (.mov (.t 7)))⟩, ⟨20, (some 147), none, [], [], (.h (.idx (.t 145) (.t 146) 1))⟩, ⟨21, (some 148), none, [], [], (.load (.t 147) 1 false)⟩, ⟨22, (some 149), none, [], [], (.h (.fbin .div (.t 140) (.t 148)))⟩, ⟨23, (some 150), none, [], [], (.h (.idx (.t 131) (.t 132) 1))⟩, ⟨24, none, none, [], [], (.store (.t 150) (.t 149) 1)⟩] [2, 4, 5, 7, 10]) (.seq (.reg [⟨0, (some 151), none, [], [], (.h (.mov (.t 7)))⟩, ⟨1, (some 152), none, [], [], (.h (.ibin .add (.t 151) (.k (.d (.int .i64 1)))))⟩, ⟨2, (some 11), none, [], [], (.h (.mov (.t 152)))⟩] [2, 4, 5, 7, 10, 11]) (.block 8 (.loop A_r6_Part_L4))))) (.reg [⟨0, (some 125), none, [], [], (.h (.mov (.t 10)))⟩, ⟨1, (some 126), none, [], [], (.h (.ibin .add (.t 125) (.k (.d (.int .i64 1)))))⟩, ⟨2, (some 10), none, [], [], (.h (.mov (.t 126)))⟩] [2, 4, 5, 7, 10])))
def A_r6_Part_L1 : CA := (.seq (.seq (.reg [⟨0, (some 29), none, [], [], (.h (.mov (.t 7)))⟩, ⟨1, (some 30), none, [], [], (.h (.mov (.t 5)))⟩, ⟨2, (some 31), none, [], [], (.h (.ibin .lss (.t 29) (.t 30)))⟩] [2, 4, 5, 7, 31]) (.cond (.t 31) .skip (.exit 2))) (.seq (.block 3 (.seq (.reg [⟨0, (some 34), none, [], [], (.h (.mov (.t 7)))⟩, ⟨1, (some 8), none, [], [], (.h (.mov (.t 34)))⟩] [2, 4, 5, 7, 8]) (.seq (.seq (.reg [⟨0, (some 35), none, [], [], (.h (.mov (.t 7)))⟩, ⟨1, (some 36), none, [], [], (.h (.ibin .add (.t 35) (.k (.d (.int .i64 1)))))⟩, ⟨2, (some 9), none, [], [], (.h (.mov (.t 36)))⟩] [2, 4, 5, 7, 8, 9]) (.block 4 (.loop A_r6_Part_L2))) (.seq (.seq (.reg [⟨0, (some 62), none, [], [], (.h (.padd (.t 4) 0))⟩, ⟨1, (some 63), none, [], [], (.load (.t 62) 1 false)⟩, ⟨2, (some 64), none, [], [], (.h (.mov (.t 8)))⟩, ⟨3, (some 65), none, [], [], (.h (.idx (.t 63) (.t 64) 1))⟩, ⟨4, (some 66), none, [], [], (.load (.t 65) 1 false)⟩, ⟨5, (some 67), none, [], [], (.h (.mov (.t 7)))⟩, ⟨6, (some 68), none, [], [], (.h (.idx (.t 66) (.t 67) 1))⟩, ⟨7, (some 69), none, [], [], (.load (.t 68) 1 false)⟩, ⟨8, (some 70), none, [], [], (.h (.fcmp .eq (.t 69) (.k (.d (.flt 0)))))⟩, ⟨9, (some 71), none, [], [], (.h (.mov (.t 70)))⟩, ⟨10, (some 72), (some (71, false)), [], [], (.h (.padd (.t 4) 0))⟩, ⟨11, (some 73), (some (71, false)), [], [], (.load (.t 72) 1 false)⟩, ⟨12, (some 74), (some (71, false)), [], [], (.h (.mov (.t 8)))⟩, ⟨13, (some 75), (some (71, false)), [], [], (.h (.idx (.t 73) (.t 74) 1))⟩, ⟨14, (some 76), (some (71, false)), [], [], (.load (.t 75) 1 false)⟩, ⟨15, (some 77), (some (71, false)), [], [], (.h (.mov (.t 7)))⟩, ⟨16, (some 78), (some (71, false)), [], [], (.h (.idx (.t 76) (.t 77) 1))⟩, ⟨17, (some 79), (some (71, false)), [], [], (.load (.t 78) 1 false)⟩, ⟨18, (some 80), (some (71, false)), [], [], (.callA (.k (.d (.fn 47 [] []))) [(.t 79)])⟩, ⟨19, (some 81), (some (71, false)), [], [], (.h (.un .not (.t 80)))⟩, ⟨20, (some 82), none, [], [], (.h (.pick (.t 71) (.k (.d (.bool true))) (.t 81)))⟩] [2, 4, 5, 7, 8, 82]) (.cond (.t 82) (.seq (.reg [⟨0, (some 83), none, [], [], (.h (.build [.nil, .nil] []))⟩, ⟨1, none, none, [], [], (.store (.t 2) (.t 83) 2)⟩, ⟨2, (some 3), none, [], [], (.h (.mov (.k (.d (.bool false)))))⟩] [2, 3]) .ret) .skip)) (.seq (.reg [⟨0, (some 84), none, [], [], (.h (.padd (.t 4) 0))⟩, ⟨1, (some 85), none, [], [], (.load (.t 84) 1 false)⟩, ⟨2, (some 86), none, [], [], (.h (.mov (.t 7)))⟩, ⟨3, (some 87), none, [], [], (.h (.padd (.t 4) 0))⟩, ⟨4, (some 88), none, [(.t 4)], [], (.load (.t 87) 1 false)⟩, ⟨5, (some 89), none, [], [], (.h (.mov (.t 8)))⟩, ⟨6, (some 90), none, [], [], (.h (.padd (.t 4) 0))⟩, ⟨7, (some 91), none, [], [], (.load (.t 90) 1 false)⟩, ⟨8, (some 92), none, [], [], (.h (.mov (.t 8)))⟩, ⟨9, (some 93), none, [], [], (.h (.idx (.t 91) (.t 92) 1))⟩, ⟨10, (some 94), none, [], [], (.load (.t 93) 1 false)⟩, ⟨11, (some 95), none, [], [], (.h (.padd (.t 4) 0))⟩, ⟨12, (some 96), none, [], [], (.load (.t 95) 1 false)⟩, ⟨13, (some 97), none, [], [], (.h (.mov (.t 7)))⟩, ⟨14, (some 98), none, [], [], (.h (.idx (.t 96) (.t 97) 1))⟩, ⟨15, (some 99), none, [], [], (.load (.t 98) 1 false)⟩, ⟨16, (some 100), none, [], [], (.h (.idx (.t 85) (.t 86) 1))⟩, ⟨17, none, none, [], [(.t 4)], (.store (.t 100) (.t 94) 1)⟩, ⟨18, (some 101), none, [], [], (.h (.idx (.t 88) (.t 89) 1))⟩, ⟨19, none, none, [], [], (.store (.t 101) (.t 99) 1)⟩] [2, 4, 5, 7, 8]) (.seq (.reg [⟨0, (some 102), none, [], [], (.h (.padd (.t 4) 1))⟩, ⟨1, (some 103), none, [], [], (.load (.t 102) 1 false)⟩, ⟨2, (some 104), none, [], [], (.h (.mov (.t 7)))⟩, ⟨3, (some 105), none, [], [], (.h (.padd (.t 4) 1))⟩, ⟨4, (some 106), none, [(.t 4)], [], (.load (.t 105) 1 false)⟩, ⟨5, (some 107), none, [], [], (.h (.mov (.t 8)))⟩, ⟨6, (some 108), none, [], [], (.h (.padd (.t 4) 1))⟩, ⟨7, (some 109), none, [], [], (.load (.t 108) 1 false)⟩, ⟨8, (some 110), none, [], [], (.h (.mov (.t 8)))⟩, ⟨9, (some 111), none, [], [], (.h (.idx (.t 109) (.t 110) 1))⟩, ⟨10, (some 112), none, [], [], (.load (.t 111) 1 false)⟩, ⟨11, (some 113), none, [], [], (.h (.padd (.t 4) 1))⟩, ⟨12, (some 114), none, [], [], (.load (.t 113) 1 false)⟩, ⟨13, (some 115), none, [], [], (.h (.mov (.t 7)))⟩, ⟨14, (some 116), none, [], [], (.h (.idx (.t 114) (.t 115) 1))⟩, ⟨15, (some 117), none, [], [], (.load (.t 116) 1 false)⟩, ⟨16, (some 118), none, [], [], (.h (.idx (.t 103) (.t 104) 1))⟩, ⟨17, none, none, [], [(.t 4)], (.store (.t 118) (.t 112) 1)⟩, ⟨18, (some 119), none, [], [], (.h (.idx (.t 106) (.t 107) 1))⟩, ⟨19, none, none, [], [], (.store (.t 119) (.t 117) 1)⟩] [2, 4, 5, 7]) (.seq (.reg [⟨0, (some 120), none, [], [], (.h (.mov (.t 7)))⟩, ⟨1, (some 121), none, [], [], (.h (.ibin .add (.t 120) (.k (.d (.int .i64 1)))))⟩, ⟨2, (some 10), none, [], [], (.h (.mov (.t 121)))⟩] [2, 4, 5, 7, 10]) (.block 6 (.loop A_r6_Part_L3))))))))) (.reg [⟨0, (some 32), none, [], [], (.h (.mov (.t 7)))⟩, ⟨1, (some 33), none, [], [], (.h (.ibin .add (.t 32) (.k (.d (.int .i64 1)))))⟩, ⟨2, (some 7), none, [], [], (.h (.mov (.t 33)))⟩] [2, 4, 5, 7])))
def A_r6_Part : CA := (.seq (.reg [⟨0, (some 2), none, [], [], (.alloc [.nil, .nil] 79)⟩, ⟨1, (some 3), none, [], [], (.h (.mov (.k (.d (.bool false)))))⟩] [0, 2]) (.seq (.reg [⟨0, (some 13), none, [], [], (.h (.mov (.t 0)))⟩, ⟨1, (some 14), none, [], [], (.callA (.k (.d (.fn 85 [] []))) [(.t 13)])⟩, ⟨2, (some 15), none, [], [], (.h (.build [.nil, .nil] [(0, (1, (.t 14)))]))⟩, ⟨3, (some 4), none, [], [], (.alloc [.nil, .nil] 79)⟩, ⟨4, none, none, [], [], (.store (.t 4) (.t 15) 2)⟩] [0, 2, 4]) (.seq (.reg [⟨0, (some 16), none, [], [], (.h (.mov (.t 0)))⟩, ⟨1, (some 17), none, [], [], (.h (.len (.t 16)))⟩, ⟨2, (some 5), none, [], [], (.h (.mov (.t 17)))⟩] [2, 4, 5]) (.seq (.seq (.reg [⟨0, (some 6), none, [], [], (.h (.mov (.k (.d (.int .i64 0)))))⟩] [2, 4, 5, 6]) (.block 0 (.loop A_r6_Part_L0))) (.seq (.seq (.reg [⟨0, (some 7), none, [], [], (.h (.mov (.k (.d (.int .i64 0)))))⟩] [2, 4, 5, 7]) (.block 2 (.loop A_r6_Part_L1))) (.seq (.reg [⟨0, (some 192), none, [], [], (.load (.t 4) 2 true)⟩, ⟨1, none, none, [], [], (.store (.t 2) (.t 192) 2)⟩, ⟨2, (some 3), none, [], [], (.h (.mov (.k (.d (.bool true)))))⟩] [2, 3]) .ret))))))
theorem A_r6_Part_comp : compF Try.prog 73 = some ⟨193, [(2, (some (2, true))), (3, none)], A_r6_Part.strip⟩ := by kernel_rfl
theorem r6_copied_fresh (A : List (List Nat)) (n : Nat) (hA : Sq n A) (hn : n < 2 ^ 40) :
    AC Try.prog 85 [.d (rowsD A)] [] [(0, hdo 0 1 n n :: A.map rowV)] (.sl 0 0 0 n 1 n) := by
  have hl := hA.1
  refine AC_le (r6_copied_ac A n hA hn) (Le.ren (sl := [.sl 100 0 0 n 1 n]) (fun X r => if X = 200 then (0, r + 1) else (0, 0)) (fun _ r => if r = 0 then (100, 0) else (200, r - 1)) ?_ ?_ (fun _ _ h => h.elim))
  · intro X r c h
    rw [get_cons, get_cons, get_nil] at h
    split at h
    · rename_i e; subst e
      rw [List.getElem?_map] at h
      obtain ⟨xs, h1, rfl⟩ := Option.map_eq_some_iff.1 h
      simp [get_cons, h1, ren_rowV, V.ren]
    · split at h
      · rename_i e e2
        rcases r with _ | r
        · simp at h; subst h
          simp only [e, if_false, get_cons, if_true, List.getElem?_cons_zero]
          refine ⟨?_, by simp [e2]⟩
          rw [hdo_ren _ 200 0 n n 0 1 (fun j hj => by simp)]
        · simp at h
      · cases h
  · intro X r c h
    rw [get_cons, get_nil] at h
    split at h
    · rename_i e; subst e
      rcases r with _ | r
      · simp [get_cons]
      · simp only [List.getElem?_cons_succ, List.getElem?_map] at h
        obtain ⟨xs, h1, rfl⟩ := Option.map_eq_some_iff.1 h
        simp [get_cons, h1]
    · cases h
theorem up_own (k n len : Nat) (A : List (List Nat)) : Heap.up k [(0, hdo 0 1 n len :: A.map rowV)] = [(k, hdo k 1 n len :: A.map rowV)] := by
  have := ren_fam (upF k) A
  simp only [Heap.up, List.map_cons, Nat.zero_add]
  rw [hdo_ren _ 0 1 n len k 1 (fun j hj => by simp [upF]), this]
/-- The rows that the document's Part works at. -/
def r6H (B : List (List Nat)) (π : List Int) (n : Nat) : Heap :=
  [(9, [rowIV π]), (4, [[.sl 1 0 0 n 1 n, .sl 9 0 0 n 1 n]]), (1, hdo 1 1 n n :: B.map rowV), (0, [[.nil, .nil]])]
set_option maxRecDepth 8000 in
theorem r6part_L4 (N : Nat → Prop) (n k i : Nat) (D : List (List Nat)) (σ : List Int) (hn : n < 2 ^ 40) (hD : Sq n D) (hk : k < i) (hi : i < n) (Q : Ex → T → Prop)
    (hQ : ∀ v w, Q (.exit 8) ⟨[(2, .ptr 0 0 0 2), (4, .ptr 4 0 0 2), (5, fI n), (7, fI k), (10, fI i), (11, v), (155, w)], r6H (elimJ D i k (n - 1 - k)) σ n⟩) :
    WA Try.prog N 193 (.loop A_r6_Part_L4) Q ⟨[(2, .ptr 0 0 0 2), (4, .ptr 4 0 0 2), (5, fI n), (7, fI k), (10, fI i), (11, fI (k + 1 : Nat))], r6H D σ n⟩ := by
  refine WA_for (n := n) (fun c3 s => ∃ q, c3 + q = n ∧ k + 1 + q ≤ n ∧ s = ⟨[(2, .ptr 0 0 0 2), (4, .ptr 4 0 0 2), (5, fI n), (7, fI k), (10, fI i), (11, fI (k + 1 + q : Nat))],
    r6H (elimJ D i k q) σ n⟩) ⟨0, rfl, by omega, rfl⟩ ?_
  rintro c3 s ⟨q, hc3, hq, rfl⟩
  obtain ⟨hEl, hEr⟩ := elimJ_sq _ n i k hD q
  generalize hE : elimJ D i k q = E at hEl hEr
  simp -implicitDefEqProofs only [xC_skip, evS, evT, evU, hv, effC, reduceCtorEq, ↓reduceIte, Nat.reduceEqDiff, Nat.reduceAdd, Nat.reduceMul, Int.reduceToNat, Int.reduceAdd, Int.reduceSub, Int.reduceMul, Int.reduceNeg, Int.reduceLT, Int.reduceLE, Nat.reduceLT, Nat.reduceLeDiff, A_r6_Part_L4, r6H]
  refine condC_intro (fun h6 => ?_) (fun h6 => ?_)
  · replace h6 := of_decide_eq_true h6
    have hj : k + 1 + q < n := by omega
    have hkn : k < n := by omega
    have g1 := hEr i hi
    have g2 := hEr k hkn
    have e7 : k + 1 + q < (E.getD i []).length := by omega
    have e8 : k + 1 + q < (E.getD k []).length := by omega
    have e9 : k < (E.getD i []).length := by omega
    have hEk : k < E.length := by omega
    have hEi : i < E.length := by omega
    simp -implicitDefEqProofs only [xC_skip, evS, evT, evU, hv, effC, reduceCtorEq, ↓reduceIte, Nat.reduceEqDiff, Nat.reduceAdd, Nat.reduceMul, Int.reduceToNat, Int.reduceAdd, Int.reduceSub, Int.reduceMul, Int.reduceNeg, Int.reduceLT, Int.reduceLE, Nat.reduceLT, Nat.reduceLeDiff, hdo_getD _ _ _ _ _ hi, hdo_getD _ _ _ _ _ hkn, getE E _ hEk, getE E _ hEi, getD_map_fl _ _ e7, getD_map_fl _ _ e8, getD_map_fl _ _ e9, setE]
    (repeat (with_reducible refine And.intro (by omega) ?_))
    rw [wrapI (by omega) (by omega)]
    refine ⟨c3 - 1, by omega, q + 1, by omega, by omega, ?_⟩
    simp only [elimJ, hE]
    rfl
  · replace h6 := of_decide_eq_false h6
    simp -implicitDefEqProofs only [xC_skip, evS, evT, evU, hv, effC, reduceCtorEq, ↓reduceIte, Nat.reduceEqDiff, Nat.reduceAdd, Nat.reduceMul, Int.reduceToNat, Int.reduceAdd, Int.reduceSub, Int.reduceMul, Int.reduceNeg, Int.reduceLT, Int.reduceLE, Nat.reduceLT, Nat.reduceLeDiff]
    have : n - 1 - k = q := by omega
    subst this
    rw [hE] at hQ
    exact hQ _ _
set_option maxRecDepth 8000 in
theorem r6part_L3 (N : Nat → Prop) (n k : Nat) (C : List (List Nat)) (σ : List Int) (hn : n < 2 ^ 40) (hC : Sq n C) (hk : k < n) (Q : Ex → T → Prop)
    (hQ : ∀ v w, Q (.exit 6) ⟨[(2, .ptr 0 0 0 2), (4, .ptr 4 0 0 2), (5, fI n), (7, fI k), (10, v), (124, w)], r6H (elimI C n k (n - 1 - k)) σ n⟩) :
    WA Try.prog N 193 (.loop A_r6_Part_L3) Q ⟨[(2, .ptr 0 0 0 2), (4, .ptr 4 0 0 2), (5, fI n), (7, fI k), (10, fI (k + 1 : Nat))], r6H C σ n⟩ := by
  refine WA_for (n := n) (fun c2 s => ∃ m, c2 + m = n ∧ k + 1 + m ≤ n ∧ s = ⟨[(2, .ptr 0 0 0 2), (4, .ptr 4 0 0 2), (5, fI n), (7, fI k), (10, fI (k + 1 + m : Nat))], r6H (elimI C n k m) σ n⟩) ⟨0, rfl, by omega, rfl⟩ ?_
  rintro c2 s ⟨m, hc2, hm, rfl⟩
  have hDs := elimI_sq C n k hC m
  have ⟨hDl, hDr⟩ := hDs
  generalize hD : elimI C n k m = D at hDs hDl hDr
  simp -implicitDefEqProofs only [xC_skip, evS, evT, evU, hv, effC, reduceCtorEq, ↓reduceIte, Nat.reduceEqDiff, Nat.reduceAdd, Nat.reduceMul, Int.reduceToNat, Int.reduceAdd, Int.reduceSub, Int.reduceMul, Int.reduceNeg, Int.reduceLT, Int.reduceLE, Nat.reduceLT, Nat.reduceLeDiff, A_r6_Part_L3, r6H]
  refine condC_intro (fun h5 => ?_) (fun h5 => ?_)
  · replace h5 := of_decide_eq_true h5
    have hi : k + 1 + m < n := by omega
    have f1 := hDr (k + 1 + m) hi
    have f2 := hDr k hk
    have e5 : k < (D.getD k []).length := by omega
    have e6 : k < (D.getD (k + 1 + m) []).length := by omega
    have hDk : k < D.length := by omega
    have hDi : k + 1 + m < D.length := by omega
    simp -implicitDefEqProofs only [xC_skip, evS, evT, evU, hv, effC, reduceCtorEq, ↓reduceIte, Nat.reduceEqDiff, Nat.reduceAdd, Nat.reduceMul, Int.reduceToNat, Int.reduceAdd, Int.reduceSub, Int.reduceMul, Int.reduceNeg, Int.reduceLT, Int.reduceLE, Nat.reduceLT, Nat.reduceLeDiff, hdo_getD _ _ _ _ _ hi, hdo_getD _ _ _ _ _ hk, getE D _ hDk, getE D _ hDi, getD_map_fl _ _ e5, getD_map_fl _ _ e6, setE]
    (repeat (with_reducible refine And.intro (by omega) ?_))
    rw [wrapI (by omega) (by omega)]
    refine r6part_L4 N n k (k + 1 + m) (up2 D (k + 1 + m) k (fop .div (at2 D (k + 1 + m) k) (at2 D k k))) σ hn (up2_sq D n _ k _ hDs) (by omega) hi _ fun v w => ?_
    simp -implicitDefEqProofs only [xC_skip, evS, evT, evU, hv, effC, reduceCtorEq, ↓reduceIte, Nat.reduceEqDiff, Nat.reduceAdd, Nat.reduceMul, Int.reduceToNat, Int.reduceAdd, Int.reduceSub, Int.reduceMul, Int.reduceNeg, Int.reduceLT, Int.reduceLE, Nat.reduceLT, Nat.reduceLeDiff]
    rw [wrapI (by omega) (by omega)]
    refine ⟨c2 - 1, by omega, m + 1, by omega, by omega, ?_⟩
    simp only [elimI, elimRow, hD]
    rfl
  · replace h5 := of_decide_eq_false h5
    simp -implicitDefEqProofs only [xC_skip, evS, evT, evU, hv, effC, reduceCtorEq, ↓reduceIte, Nat.reduceEqDiff, Nat.reduceAdd, Nat.reduceMul, Int.reduceToNat, Int.reduceAdd, Int.reduceSub, Int.reduceMul, Int.reduceNeg, Int.reduceLT, Int.reduceLE, Nat.reduceLT, Nat.reduceLeDiff]
    have : n - 1 - k = m := by omega
    subst this
    rw [hD] at hQ
    exact hQ _ _
set_option maxRecDepth 8000 in
theorem r6part_L2 (N : Nat → Prop) (n k : Nat) (B : List (List Nat)) (σ : List Int) (hn : n < 2 ^ 40) (hB : Sq n B) (hk : k < n) (Q : Ex → T → Prop)
    (hQ : ∀ v w, Q (.exit 4) ⟨[(2, .ptr 0 0 0 2), (4, .ptr 4 0 0 2), (5, fI n), (7, fI k), (8, fI (pvP B k (n - 1 - k))), (9, v), (39, w)], r6H B σ n⟩) :
    WA Try.prog N 193 (.loop A_r6_Part_L2) Q ⟨[(2, .ptr 0 0 0 2), (4, .ptr 4 0 0 2), (5, fI n), (7, fI k), (8, fI k), (9, fI (k + 1 : Nat))], r6H B σ n⟩ := by
  obtain ⟨hl, hr⟩ := hB
  refine WA_for (n := n) (fun c s => ∃ m, c + m = n ∧ k + 1 + m ≤ n ∧ s = ⟨[(2, .ptr 0 0 0 2), (4, .ptr 4 0 0 2), (5, fI n), (7, fI k), (8, fI (pvP B k m)), (9, fI (k + 1 + m : Nat))], r6H B σ n⟩) ⟨0, rfl, by omega, rfl⟩ ?_
  rintro c s ⟨m, hc, hm, rfl⟩
  have hp := pvP_lt B k m
  simp -implicitDefEqProofs only [xC_skip, evS, evT, evU, hv, effC, reduceCtorEq, ↓reduceIte, Nat.reduceEqDiff, Nat.reduceAdd, Nat.reduceMul, Int.reduceToNat, Int.reduceAdd, Int.reduceSub, Int.reduceMul, Int.reduceNeg, Int.reduceLT, Int.reduceLE, Nat.reduceLT, Nat.reduceLeDiff, A_r6_Part_L2, r6H]
  refine condC_intro (fun h => ?_) (fun h => ?_)
  · replace h := of_decide_eq_true h
    have hi : k + 1 + m < n := by omega
    have hpn : pvP B k m < n := by omega
    have e1 := hr (k + 1 + m) hi
    have e2 := hr (pvP B k m) hpn
    have e5 : k < (B.getD (pvP B k m) []).length := by omega
    have e6 : k < (B.getD (k + 1 + m) []).length := by omega
    have hBp : pvP B k m < B.length := by omega
    have hBi : k + 1 + m < B.length := by omega
    simp -implicitDefEqProofs only [xC_skip, evS, evT, evU, hv, effC, reduceCtorEq, ↓reduceIte, Nat.reduceEqDiff, Nat.reduceAdd, Nat.reduceMul, Int.reduceToNat, Int.reduceAdd, Int.reduceSub, Int.reduceMul, Int.reduceNeg, Int.reduceLT, Int.reduceLE, Nat.reduceLT, Nat.reduceLeDiff, hdo_getD _ _ _ _ _ hi, hdo_getD _ _ _ _ _ hpn, getE B _ hBp, getE B _ hBi, getD_map_fl _ _ e5, getD_map_fl _ _ e6]
    (repeat (with_reducible refine And.intro (by omega) ?_))
    first | refine callG_con (r1_Abs_con (at2 B (k + 1 + m) k)) rfl ?_ | refine callCG_con (r1_Abs_con (at2 B (k + 1 + m) k)) rfl ?_ | refine callSG_con (r1_Abs_con (at2 B (k + 1 + m) k)) rfl ?_
    simp -implicitDefEqProofs only [xC_skip, evS, evT, evU, hv, effC, reduceCtorEq, ↓reduceIte, Nat.reduceEqDiff, Nat.reduceAdd, Nat.reduceMul, Int.reduceToNat, Int.reduceAdd, Int.reduceSub, Int.reduceMul, Int.reduceNeg, Int.reduceLT, Int.reduceLE, Nat.reduceLT, Nat.reduceLeDiff, hdo_getD _ _ _ _ _ hi, hdo_getD _ _ _ _ _ hpn, getE B _ hBp, getE B _ hBi, getD_map_fl _ _ e5, getD_map_fl _ _ e6]
    (repeat (with_reducible refine And.intro (by omega) ?_))
    first | refine callG_con (r1_Abs_con (at2 B (pvP B k m) k)) rfl ?_ | refine callCG_con (r1_Abs_con (at2 B (pvP B k m) k)) rfl ?_ | refine callSG_con (r1_Abs_con (at2 B (pvP B k m) k)) rfl ?_
    simp -implicitDefEqProofs only [xC_skip, evS, evT, evU, hv, effC, reduceCtorEq, ↓reduceIte, Nat.reduceEqDiff, Nat.reduceAdd, Nat.reduceMul, Int.reduceToNat, Int.reduceAdd, Int.reduceSub, Int.reduceMul, Int.reduceNeg, Int.reduceLT, Int.reduceLE, Nat.reduceLT, Nat.reduceLeDiff]
    refine condC_intro (fun h2 => ?_) (fun h2 => ?_)
    · simp -implicitDefEqProofs only [xC_skip, evS, evT, evU, hv, effC, reduceCtorEq, ↓reduceIte, Nat.reduceEqDiff, Nat.reduceAdd, Nat.reduceMul, Int.reduceToNat, Int.reduceAdd, Int.reduceSub, Int.reduceMul, Int.reduceNeg, Int.reduceLT, Int.reduceLE, Nat.reduceLT, Nat.reduceLeDiff]
      rw [wrapI (by omega) (by omega)]
      refine ⟨c - 1, by omega, m + 1, by omega, by omega, ?_⟩
      simp only [pvP, h2, if_true]; rfl
    · simp -implicitDefEqProofs only [xC_skip, evS, evT, evU, hv, effC, reduceCtorEq, ↓reduceIte, Nat.reduceEqDiff, Nat.reduceAdd, Nat.reduceMul, Int.reduceToNat, Int.reduceAdd, Int.reduceSub, Int.reduceMul, Int.reduceNeg, Int.reduceLT, Int.reduceLE, Nat.reduceLT, Nat.reduceLeDiff]
      rw [wrapI (by omega) (by omega)]
      refine ⟨c - 1, by omega, m + 1, by omega, by omega, ?_⟩
      simp only [pvP, h2, if_false, Bool.false_eq_true]; rfl
  · replace h := of_decide_eq_false h
    simp -implicitDefEqProofs only [xC_skip, evS, evT, evU, hv, effC, reduceCtorEq, ↓reduceIte, Nat.reduceEqDiff, Nat.reduceAdd, Nat.reduceMul, Int.reduceToNat, Int.reduceAdd, Int.reduceSub, Int.reduceMul, Int.reduceNeg, Int.reduceLT, Int.reduceLE, Nat.reduceLT, Nat.reduceLeDiff]
    have : n - 1 - k = m := by omega
    subst this
    exact hQ _ _
theorem r6_swap (N : Nat → Prop) (hN : ∀ Y, ¬ N Y) (nt n k p : Nat) (B : List (List Nat)) (π : List Int) (sls : Sl) (hl : B.length = n) (hk : k < n) (hp : p < n) (has : renS (swF 1 (k + 1) (p + 1)) sls = sls) :
    Le N (T.s nt ⟨sls, [(9, [rowIV π]), (4, [[.sl 1 0 0 n 1 n, .sl 9 0 0 n 1 n]]), (1, ((hdo 1 1 n n).set k (.sl 1 (p + 1) 0 n 1 n)).set p (.sl 1 (k + 1) 0 n 1 n) :: B.map rowV), (0, [[.nil, .nil]])]⟩)
      (T.s nt ⟨sls, r6H (swapL [] B k p) π n⟩) := by
  have : Le N (T.s nt ⟨sls, [(9, [rowIV π]), (4, [[.sl 1 0 0 n 1 n, .sl 9 0 0 n 1 n]]), (1, ((hdo 1 1 n n).set k (.sl 1 (p + 1) 0 n 1 n)).set p (.sl 1 (k + 1) 0 n 1 n) :: B.map rowV), (0, [[.nil, .nil]])]⟩) _ :=
    LeT.swap (X := 1) (a := k + 1) (b := p + 1)
      (fam := ((hdo 1 1 n n).set k (.sl 1 (p + 1) 0 n 1 n)).set p (.sl 1 (k + 1) 0 n 1 n) :: B.map rowV) (ca := rowV (B.getD k [])) (cb := rowV (B.getD p []))
      (by simp [fam_cons]) (by rw [List.getElem?_cons_succ]; exact getE B k (by omega)) (by rw [List.getElem?_cons_succ]; exact getE B p (by omega)) hN
  rw [has] at this
  refine (Eq.subst (motive := fun H => Le N _ (T.s nt ⟨sls, H⟩)) ?_ this)
  have e := hdo_swap 1 n n k p hk hp
  simp only [setFam, Heap.renH, List.map_cons, List.map_nil, List.set_cons_succ, setE, r6H, swapL, ren_rowIV, ren_fam, Nat.reduceEqDiff, ↓reduceIte, e]
  simp [V.ren, swF]
set_option maxRecDepth 8000 in
set_option maxHeartbeats 1000000 in
theorem r6part_L1 (N : Nat → Prop) (hN : ∀ Y, ¬ N Y) (n : Nat) (A : List (List Nat)) (hA : Sq n A) (hn : n < 2 ^ 40) (Q : Ex → T → Prop)
    (h1 : ∀ B π v w, partP A n n = some (B, π) → Sq n B → π.length = n → Q (.exit 2) ⟨[(2, .ptr 0 0 0 2), (4, .ptr 4 0 0 2), (5, fI n), (7, v), (31, w)], r6H B π n⟩)
    (h2 : ∀ s : T, partP A n n = none → s.sl = [(2, .ptr 0 0 0 2), (3, fB false)] → s.L.get 0 0 = some [.nil, .nil] → Q .ret s) :
    WA Try.prog N 193 (.loop A_r6_Part_L1) Q ⟨[(2, .ptr 0 0 0 2), (4, .ptr 4 0 0 2), (5, fI n), (7, fI 0)], r6H A ((List.range n).map fun (j : Nat) => (j : Int)) n⟩ := by
  have hr := hA.2
  have hn' := hA.1
  refine WA_for (n := n) (fun c s => ∃ k B π, c + k = n ∧ partP A n k = some (B, π) ∧ s = ⟨[(2, .ptr 0 0 0 2), (4, .ptr 4 0 0 2), (5, fI n), (7, fI k)], r6H B π n⟩) ⟨0, A, _, rfl, rfl, rfl⟩ ?_
  rintro c s ⟨k, B, π, hc, hp, rfl⟩
  obtain ⟨⟨hBl, hBr⟩, hπ⟩ := partP_sq A n ⟨hn', hr⟩ k (by omega) B π hp
  simp -implicitDefEqProofs only [xC_skip, evS, evT, evU, hv, effC, reduceCtorEq, ↓reduceIte, Nat.reduceEqDiff, Nat.reduceAdd, Nat.reduceMul, Int.reduceToNat, Int.reduceAdd, Int.reduceSub, Int.reduceMul, Int.reduceNeg, Int.reduceLT, Int.reduceLE, Nat.reduceLT, Nat.reduceLeDiff, A_r6_Part_L1, r6H]
  refine condC_intro (fun h => ?_) (fun h => ?_)
  · replace h := of_decide_eq_true h
    simp -implicitDefEqProofs only [xC_skip, evS, evT, evU, hv, effC, reduceCtorEq, ↓reduceIte, Nat.reduceEqDiff, Nat.reduceAdd, Nat.reduceMul, Int.reduceToNat, Int.reduceAdd, Int.reduceSub, Int.reduceMul, Int.reduceNeg, Int.reduceLT, Int.reduceLE, Nat.reduceLT, Nat.reduceLeDiff]
    (repeat (with_reducible refine And.intro (by omega) ?_))
    have h : k < n := by omega
    rw [wrapI (by omega) (by omega)]
    refine r6part_L2 N n k B π hn ⟨hBl, hBr⟩ h _ fun v w => ?_
    have hpv := pvP_lt B k (n - 1 - k)
    generalize hpp : pvP B k (n - 1 - k) = p at hpv
    have e1 := hBr p (by omega)
    have hpn : p < n := by omega
    have e2 : k < (B.getD p []).length := by omega
    have hBp : p < B.length := by omega
    simp -implicitDefEqProofs only [xC_skip, evS, evT, evU, hv, effC, reduceCtorEq, ↓reduceIte, Nat.reduceEqDiff, Nat.reduceAdd, Nat.reduceMul, Int.reduceToNat, Int.reduceAdd, Int.reduceSub, Int.reduceMul, Int.reduceNeg, Int.reduceLT, Int.reduceLE, Nat.reduceLT, Nat.reduceLeDiff, r6H, hdo_getD _ _ _ _ _ hpn, getE B _ hBp, getD_map_fl _ _ e2]
    (repeat (with_reducible refine And.intro (by omega) ?_))
    have none_of : (fcmp .eq (at2 B p k) 0 = true ∨ finite (at2 B p k) = false) → partP A n n = none := by
      intro hd
      have e : partP A n (k + 1) = none := by
        simp only [partP, hp, Option.bind_some, stepP, hpp]
        rw [if_pos hd]
      have := partP_none A n (k + 1) e (n - (k + 1))
      rwa [show k + 1 + (n - (k + 1)) = n from by omega] at this
    cases hz : fcmp .eq ((B.getD p []).getD k 0) 0
    case true =>
      simp -implicitDefEqProofs only [xC_skip, evS, evT, evU, hv, effC, reduceCtorEq, ↓reduceIte, Nat.reduceEqDiff, Nat.reduceAdd, Nat.reduceMul, Int.reduceToNat, Int.reduceAdd, Int.reduceSub, Int.reduceMul, Int.reduceNeg, Int.reduceLT, Int.reduceLE, Nat.reduceLT, Nat.reduceLeDiff]
      exact h2 _ (none_of (.inl hz)) rfl (by simp [get_cons])
    case false =>
      simp -implicitDefEqProofs only [xC_skip, evS, evT, evU, hv, effC, reduceCtorEq, ↓reduceIte, Nat.reduceEqDiff, Nat.reduceAdd, Nat.reduceMul, Int.reduceToNat, Int.reduceAdd, Int.reduceSub, Int.reduceMul, Int.reduceNeg, Int.reduceLT, Int.reduceLE, Nat.reduceLT, Nat.reduceLeDiff, hdo_getD _ _ _ _ _ hpn, getE B _ hBp, getD_map_fl _ _ e2]
      (repeat (with_reducible refine And.intro (by omega) ?_))
      first | refine callG_con (r1_Finite_con (at2 B p k)) rfl ?_ | refine callCG_con (r1_Finite_con (at2 B p k)) rfl ?_ | refine callSG_con (r1_Finite_con (at2 B p k)) rfl ?_
      rw [finite_sub]
      simp -implicitDefEqProofs only [xC_skip, evS, evT, evU, hv, effC, reduceCtorEq, ↓reduceIte, Nat.reduceEqDiff, Nat.reduceAdd, Nat.reduceMul, Int.reduceToNat, Int.reduceAdd, Int.reduceSub, Int.reduceMul, Int.reduceNeg, Int.reduceLT, Int.reduceLE, Nat.reduceLT, Nat.reduceLeDiff]
      cases hf : finite (at2 B p k)
      · simp -implicitDefEqProofs only [xC_skip, evS, evT, evU, hv, effC, reduceCtorEq, ↓reduceIte, Nat.reduceEqDiff, Nat.reduceAdd, Nat.reduceMul, Int.reduceToNat, Int.reduceAdd, Int.reduceSub, Int.reduceMul, Int.reduceNeg, Int.reduceLT, Int.reduceLE, Nat.reduceLT, Nat.reduceLeDiff]
        exact h2 _ (none_of (.inr hf)) rfl (by simp [get_cons])
      · have e3 : k < π.length := by omega
        have e4 : p < π.length := by omega
        have hBk : k < B.length := by omega
        simp -implicitDefEqProofs only [xC_skip, evS, evT, evU, hv, effC, reduceCtorEq, ↓reduceIte, Nat.reduceEqDiff, Nat.reduceAdd, Nat.reduceMul, Int.reduceToNat, Int.reduceAdd, Int.reduceSub, Int.reduceMul, Int.reduceNeg, Int.reduceLT, Int.reduceLE, Nat.reduceLT, Nat.reduceLeDiff, hdo_getD _ _ _ _ _ hpn, hdo_getD _ _ _ _ _ h, getD_rowIV _ _ e3, getD_rowIV _ _ e4]
        (repeat (with_reducible refine And.intro (by omega) ?_))
        generalize hσ : swapL 0 π k p = σ
        have hσ' : (π.set k (π.getD p 0)).set p (π.getD k 0) = σ := hσ
        rw [hσ', wrapI (by omega) (by omega)]
        have hσl : σ.length = n := by rw [← hσ]; simp [swapL, hπ]
        have hCs := swapL_sq B n k p ⟨hBl, hBr⟩ h hpn
        have hstep : partP A n (k + 1) = some (elimI (swapL [] B k p) n k (n - 1 - k), σ) := by
          simp only [partP, hp, Option.bind_some, stepP, hpp, hσ]
          rw [if_neg]
          rintro (e | e)
          · exact absurd (hz.symm.trans e) (by simp)
          · exact absurd (hf.symm.trans e) (by simp)
        refine WA_le (r6_swap N hN 193 n k p B σ _ hBl h hpn (by simp [renS, V.ren, swF])) ?_
        generalize swapL [] B k p = C at hCs hstep
        refine r6part_L3 N n k C σ hn hCs h _ fun v w => ?_
        simp -implicitDefEqProofs only [xC_skip, evS, evT, evU, hv, effC, reduceCtorEq, ↓reduceIte, Nat.reduceEqDiff, Nat.reduceAdd, Nat.reduceMul, Int.reduceToNat, Int.reduceAdd, Int.reduceSub, Int.reduceMul, Int.reduceNeg, Int.reduceLT, Int.reduceLE, Nat.reduceLT, Nat.reduceLeDiff]
        rw [wrapI (by omega) (by omega)]
        exact ⟨c - 1, by omega, k + 1, _, σ, by omega, hstep, rfl⟩
  · replace h := of_decide_eq_false h
    obtain rfl : n = k := by omega
    simp -implicitDefEqProofs only [xC_skip, evS, evT, evU, hv, effC, reduceCtorEq, ↓reduceIte, Nat.reduceEqDiff, Nat.reduceAdd, Nat.reduceMul, Int.reduceToNat, Int.reduceAdd, Int.reduceSub, Int.reduceMul, Int.reduceNeg, Int.reduceLT, Int.reduceLE, Nat.reduceLT, Nat.reduceLeDiff]
    exact h1 B π _ _ hp ⟨hBl, hBr⟩ hπ
theorem le_cell2 {L L' : Heap} {a b : V} (ha : LeV L L' (fun X q => (X, q)) a a) (hb : LeV L L' (fun X q => (X, q)) b b) : ∀ v ∈ [a, b], LeV L L' (fun X q => (X, q)) v v := by
  intro v hv
  rcases List.mem_cons.1 hv with rfl | hv
  · exact ha
  · rcases List.mem_cons.1 hv with rfl | hv
    · exact hb
    · cases hv
theorem r6_cells (L : Heap) (ρs : List Int) (n i : Nat) (A : List (List Nat)) (c0 c4 : List V) (hA : A.length = n) (L' : Heap) (hL' : L' = [(9, [rowIV ρs]), (4, [c4]), (1, hdo 1 1 n n :: A.map rowV), (0, [c0])])
    (h4 : ∀ v ∈ c4, LeV L L' (fun X q => (X, q)) v v) (h0 : ∀ v ∈ c0, LeV L L' (fun X q => (X, q)) v v) :
    ∀ X q c, Heap.get L' X q = some c → ∀ v ∈ c, LeV L L' (fun X q => (X, q)) v v := by
  subst hL'
  intro X q c hX v hv'
  simp only [get_cons, get_nil] at hX
  split at hX
  · rcases q with _ | q <;> simp at hX; subst hX; exact mem_rowIV hv' _ _ _
  · split at hX
    · rcases q with _ | q <;> simp at hX; subst hX; exact h4 v hv'
    · split at hX
      · rcases q with _ | q
        · simp at hX; subst hX
          obtain ⟨j, hj, rfl⟩ := List.mem_map.1 hv'
          refine .sl ?_ rfl
          have : j < n := by simpa using hj
          simp [get_cons]; omega
        · simp only [List.getElem?_cons_succ, List.getElem?_map] at hX
          obtain ⟨xs, _, rfl⟩ := Option.map_eq_some_iff.1 hX
          exact mem_rowV hv' _ _ _
      · split at hX
        · rcases q with _ | q <;> simp at hX; subst hX; exact h0 v hv'
        · cases hX
def r6P (A : List (List Nat)) (n i : Nat) : Heap :=
  if i = 0 then [(4, [[.sl 1 0 0 n 1 n, .nil]]), (1, hdo 1 1 n n :: A.map rowV), (0, [[.nil, .nil]])]
  else [(9, [rowIV ((List.range i).map fun (j : Nat) => (j : Int))]), (4, [[.sl 1 0 0 n 1 n, .sl 9 0 0 i 1 i]]), (1, hdo 1 1 n n :: A.map rowV), (0, [[.nil, .nil]])]
set_option maxRecDepth 8000 in
theorem r6_Part_walk (A : List (List Nat)) (n : Nat) (hA : Sq n A) (h0 : 0 < n) (hn : n < 2 ^ 40) (Q : Ex → T → Prop)
    (h1 : ∀ B π, partP A n n = some (B, π) → Sq n B → π.length = n → Q .ret ⟨[(2, .ptr 0 0 0 2), (3, fB true)], [(9, [rowIV π]), (4, [[.sl 1 0 0 n 1 n, .sl 9 0 0 n 1 n]]), (1, hdo 1 1 n n :: B.map rowV), (0, [[.sl 1 0 0 n 1 n, .sl 9 0 0 n 1 n]])]⟩)
    (h2 : ∀ s : T, partP A n n = none → s.sl = [(2, .ptr 0 0 0 2), (3, fB false)] → s.L.get 0 0 = some [.nil, .nil] → Q .ret s) :
    xC Try.prog (fun _ => False) 193 A_r6_Part Q ⟨argSl 0 [.d (rowsD A)], []⟩ := by
  obtain ⟨hl, hr⟩ := hA
  simp -implicitDefEqProofs only [xC_skip, evS, evT, evU, hv, effC, reduceCtorEq, ↓reduceIte, Nat.reduceEqDiff, Nat.reduceAdd, Nat.reduceMul, Int.reduceToNat, Int.reduceAdd, Int.reduceSub, Int.reduceMul, Int.reduceNeg, Int.reduceLT, Int.reduceLE, Nat.reduceLT, Nat.reduceLeDiff, A_r6_Part]
  refine callG_ac (AC_frame (r6_copied_fresh A n ⟨hl, hr⟩ hn) rfl (.inl ⟨rfl, fun j hj => ?_⟩)) ?_
  · obtain rfl : j = 0 := by simpa using hj
    exact .d _
  rw [up_own]
  simp -implicitDefEqProofs only [xC_skip, evS, evT, evU, hv, effC, reduceCtorEq, ↓reduceIte, Nat.reduceEqDiff, Nat.reduceAdd, Nat.reduceMul, Int.reduceToNat, Int.reduceAdd, Int.reduceSub, Int.reduceMul, Int.reduceNeg, Int.reduceLT, Int.reduceLE, Nat.reduceLT, Nat.reduceLeDiff, V.ren, hl]
  refine WA_forW (n := n) (fun c s => ∃ i, c + i = n ∧ s = ⟨[(2, .ptr 0 0 0 2), (4, .ptr 4 0 0 2), (5, fI n), (6, fI i)], r6P A n i⟩) (s0 := ⟨_, _⟩) (.refl _) ⟨0, rfl, rfl⟩ ?_
  rintro c s ⟨i, hc, rfl⟩
  by_cases hi0 : i = 0
  · subst hi0
    simp only [r6P, if_true]
    simp -implicitDefEqProofs only [xC_skip, evS, evT, evU, hv, effC, reduceCtorEq, ↓reduceIte, Nat.reduceEqDiff, Nat.reduceAdd, Nat.reduceMul, Int.reduceToNat, Int.reduceAdd, Int.reduceSub, Int.reduceMul, Int.reduceNeg, Int.reduceLT, Int.reduceLE, Nat.reduceLT, Nat.reduceLeDiff, A_r6_Part_L0]
    refine condC_intro (fun h => ?_) (fun h => ?_)
    · simp -implicitDefEqProofs only [xC_skip, evS, evT, evU, hv, effC, reduceCtorEq, ↓reduceIte, Nat.reduceEqDiff, Nat.reduceAdd, Nat.reduceMul, Int.reduceToNat, Int.reduceAdd, Int.reduceSub, Int.reduceMul, Int.reduceNeg, Int.reduceLT, Int.reduceLE, Nat.reduceLT, Nat.reduceLeDiff]
      rw [wrapI (by omega) (by omega)]
      refine ⟨c - 1, ⟨[(2, .ptr 0 0 0 2), (4, .ptr 4 0 0 2), (5, fI n), (6, fI (0 + 1 : Nat))], [(9, [rowIV [0]]), (4, [[.sl 1 0 0 n 1 n, .sl 9 0 0 1 1 1]]), (1, hdo 1 1 n n :: A.map rowV), (0, [[.nil, .nil]])]⟩, by omega, ?_, 1, by omega, rfl⟩
      refine LeT.drop (fun _ h => h) (fun p hp => ?_) (fun X r c hX => ⟨?_, r6_cells _ [0] n 1 A [.nil, .nil] [.sl 1 0 0 n 1 n, .sl 9 0 0 1 1 1] hl _ rfl (le_cell2 (.sl (by simp [get_cons]) rfl) (.sl (by simp [get_cons]) rfl)) (le_cell2 .nil .nil) X r c hX⟩)
      · simp only [List.mem_cons, List.not_mem_nil, or_false] at hp
        rcases hp with rfl | rfl | rfl | rfl
        all_goals first | exact .d (.d _) | exact .ptr (by simp [get_cons]) rfl
      · rw [get_cons] at hX
        rw [get_cons, get_cons]
        split at hX
        · rename_i e; subst e; exact hX
        · rename_i e1
          rw [if_neg e1, if_neg (fun e => by subst e; simp [get_cons, get_nil] at hX)]; exact hX
    · replace h := of_decide_eq_false h
      omega
  · simp only [r6P, if_neg hi0]
    simp -implicitDefEqProofs only [xC_skip, evS, evT, evU, hv, effC, reduceCtorEq, ↓reduceIte, Nat.reduceEqDiff, Nat.reduceAdd, Nat.reduceMul, Int.reduceToNat, Int.reduceAdd, Int.reduceSub, Int.reduceMul, Int.reduceNeg, Int.reduceLT, Int.reduceLE, Nat.reduceLT, Nat.reduceLeDiff, A_r6_Part_L0]
    refine condC_intro (fun h => ?_) (fun h => ?_)
    · replace h := of_decide_eq_true h
      simp -implicitDefEqProofs only [xC_skip, evS, evT, evU, hv, effC, reduceCtorEq, ↓reduceIte, Nat.reduceEqDiff, Nat.reduceAdd, Nat.reduceMul, Int.reduceToNat, Int.reduceAdd, Int.reduceSub, Int.reduceMul, Int.reduceNeg, Int.reduceLT, Int.reduceLE, Nat.reduceLT, Nat.reduceLeDiff]
      have hlr : (List.range i).length = i := by simp
      (repeat (with_reducible refine And.intro (by omega) ?_))
      rw [wrapI (by omega) (by omega)]
      refine ⟨c - 1, ⟨[(2, .ptr 0 0 0 2), (4, .ptr 4 0 0 2), (5, fI n), (6, fI (i + 1 : Nat))], [(9, [rowIV ((List.range (i + 1)).map fun (j : Nat) => (j : Int))]), (4, [[.sl 1 0 0 n 1 n, .sl 9 0 0 (i + 1) 1 (i + 1)]]), (1, hdo 1 1 n n :: A.map rowV), (0, [[.nil, .nil]])]⟩, by omega, ?_, i + 1, by omega, by rw [if_neg (by omega)]⟩
      have er : rowIV ((List.range (i + 1)).map fun (j : Nat) => (j : Int)) = rowIV ((List.range i).map fun (j : Nat) => (j : Int)) ++ [fI i] := by
        simp [List.range_succ]
      rw [er]
      refine LeT.drop (fun _ h => h) (fun p hp => ?_) (fun X r c hX => ⟨?_, ?_⟩)
      · simp only [List.mem_cons, List.not_mem_nil, or_false] at hp
        rcases hp with rfl | rfl | rfl | rfl
        all_goals first | exact .d (.d _) | exact .ptr (by simp [get_cons]) rfl
      · rw [get_cons]
        rw [if_neg (fun e => by subst e; simp [get_cons, get_nil] at hX)]; exact hX
      · rw [← er] at hX ⊢
        exact r6_cells _ _ n (i + 1) A [.nil, .nil] [.sl 1 0 0 n 1 n, .sl 9 0 0 (i + 1) 1 (i + 1)] hl _ rfl (le_cell2 (.sl (by simp [get_cons]) rfl) (.sl (by simp [get_cons]) rfl)) (le_cell2 .nil .nil) X r c hX
    · replace h := of_decide_eq_false h
      obtain rfl : n = i := by omega
      simp -implicitDefEqProofs only [xC_skip, evS, evT, evU, hv, effC, reduceCtorEq, ↓reduceIte, Nat.reduceEqDiff, Nat.reduceAdd, Nat.reduceMul, Int.reduceToNat, Int.reduceAdd, Int.reduceSub, Int.reduceMul, Int.reduceNeg, Int.reduceLT, Int.reduceLE, Nat.reduceLT, Nat.reduceLeDiff]
      refine r6part_L1 _ (fun _ h => h) n A ⟨hl, hr⟩ hn _ (fun B π v w hp hB hπ => ?_) (fun s hs e1 e2 => ?_)
      · simp -implicitDefEqProofs only [xC_skip, evS, evT, evU, hv, effC, reduceCtorEq, ↓reduceIte, Nat.reduceEqDiff, Nat.reduceAdd, Nat.reduceMul, Int.reduceToNat, Int.reduceAdd, Int.reduceSub, Int.reduceMul, Int.reduceNeg, Int.reduceLT, Int.reduceLE, Nat.reduceLT, Nat.reduceLeDiff, r6H]
        exact h1 B π hp hB hπ
      · simp -implicitDefEqProofs only [xC_skip, evS, evT, evU, hv, effC, reduceCtorEq, ↓reduceIte, Nat.reduceEqDiff, Nat.reduceAdd, Nat.reduceMul, Int.reduceToNat, Int.reduceAdd, Int.reduceSub, Int.reduceMul, Int.reduceNeg, Int.reduceLT, Int.reduceLE, Nat.reduceLT, Nat.reduceLeDiff]
        exact h2 s hs e1 e2
abbrev r6V (n : Nat) : V := .agg [.sl 1 0 0 n 1 n, .sl 9 0 0 n 1 n]
theorem r6_Part_none (A : List (List Nat)) (n : Nat) (hA : Sq n A) (h0 : 0 < n) (hn : n < 2 ^ 40) (h : partP A n n = none) :
    Con Try.prog 73 [.d (rowsD A)] (.tup [.agg [.d (rowsD []), .d (rowI [])], fB false]) := by
  refine AC_introA A_r6_Part_comp rfl mixed (fun _ => False) (by simp [get_nil]) (r6_Part_walk A n hA h0 hn _ (fun B' π' h' hB hπ => ?_) (fun s h' e1 e2 => ?_))
  · rw [h] at h'; cases h'
  · refine ⟨.tup [.agg [.nil, .nil], fB false], fun X r => (X, r), ⟨.agg [.nil, .nil], fB false, resV_cell (by decide) (by rw [e1]; rfl) e2 rfl (by simp) (by simp [ldv]), resV_tmpI (t := 3) (by decide) (by rw [e1]; rfl), rfl⟩, .fin (.tup rfl fun j hj => ?_)⟩
    rcases j with _ | _ | j
    · refine .agg rfl fun j hj => ?_
      rcases j with _ | _ | j
      · exact .d (.nil _)
      · exact .d (.nil _)
      · simp at hj; omega
    · exact .d (.d _)
    · simp at hj; omega
theorem r6_Part_data (A : List (List Nat)) (n : Nat) (hA : Sq n A) (h0 : 0 < n) (hn : n < 2 ^ 40) (B : List (List Nat)) (π : List Int) (h : partP A n n = some (B, π)) :
    Con Try.prog 73 [.d (rowsD A)] (.tup [.agg [.d (rowsD B), .d (rowI π)], fB true]) := by
  refine AC_introA A_r6_Part_comp rfl mixed (fun _ => False) (by simp [get_nil]) (r6_Part_walk A n hA h0 hn _ (fun B' π' h' hB hπ => ?_) (fun s h' e1 e2 => ?_))
  · obtain ⟨rfl, rfl⟩ : B = B' ∧ π = π' := by rw [h] at h'; simpa using h'
    refine ⟨.tup [r6V n, fB true], fun X r => (X, r), ⟨r6V n, fB true, resV_cell (by decide) rfl (cells := [.sl 1 0 0 n 1 n, .sl 9 0 0 n 1 n]) (by simp [get_cons]) rfl (by simp) (by simp [ldv]), resV_tmpI (t := 3) (by decide) rfl, rfl⟩, .fin (.tup rfl fun j hj => ?_)⟩
    rcases j with _ | _ | j
    · refine .agg rfl fun j hj => ?_
      rcases j with _ | _ | j
      · refine .d (snapF_rows (X := 1) (o := 1) (fun Y q h => by simp [get_nil] at h) (fun r hr Y q h => by simp [get_nil] at h) (by simp [get_cons]) (fun r hr' => ⟨?_, hB.2 r hr'⟩) hB.1 rfl)
        have := hB.1
        simp [get_cons, getE B r (by omega)]
      · exact .d (snap_rowI (fun Y q h => by simp [get_nil] at h) (by simp [get_cons]) hπ rfl)
      · simp at hj; omega
    · exact .d (.d _)
    · simp at hj; omega
  · rw [h] at h'; cases h'
end Go.Ab
