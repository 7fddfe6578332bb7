/- LinLeft: what is left over, of whole numbers. -/
import Derived.Test.YtnoeajoeeldimaaLO
import Derived.Test.YtnoeajoeeldimaaZS
namespace Go.Ab
set_option linter.unusedSimpArgs false
set_option linter.unusedVariables false
open Go Go.Proofs
def A_l6_LinLeft_L1 : CA := (.seq (.seq (.reg [⟨0, (some 35), none, [], [], (.h (.mov (.t 12)))⟩, ⟨1, (some 36), none, [], [], (.h (.mov (.t 7)))⟩, ⟨2, (some 37), none, [], [], (.h (.ibin .lss (.t 35) (.t 36)))⟩] [0, 1, 7, 8, 9, 10, 11, 12, 37]) (.cond (.t 37) .skip (.exit 2))) (.seq (.block 3 (.seq (.reg [⟨0, (some 40), none, [], [], (.h (.mov (.t 11)))⟩, ⟨1, (some 41), none, [], [], (.h (.mov (.t 12)))⟩, ⟨2, (some 42), none, [], [], (.h (.ibin .add (.t 40) (.t 41)))⟩, ⟨3, (some 13), none, [], [], (.h (.mov (.t 42)))⟩] [0, 1, 7, 8, 9, 10, 11, 12, 13]) (.seq (.seq (.reg [⟨0, (some 43), none, [], [], (.h (.mov (.t 11)))⟩, ⟨1, (some 44), none, [], [], (.h (.mov (.t 7)))⟩, ⟨2, (some 45), none, [], [], (.h (.ibin .mul (.t 43) (.t 44)))⟩, ⟨3, (some 46), none, [], [], (.h (.mov (.t 12)))⟩, ⟨4, (some 47), none, [], [], (.h (.ibin .add (.t 45) (.t 46)))⟩, ⟨5, (some 48), none, [], [], (.h (.mov (.t 0)))⟩, ⟨6, (some 49), none, [], [], (.h (.len (.t 48)))⟩, ⟨7, (some 50), none, [], [], (.h (.ibin .lss (.t 47) (.t 49)))⟩] [0, 1, 7, 8, 9, 10, 11, 12, 13, 50]) (.cond (.t 50) (.reg [⟨0, (some 51), none, [], [], (.h (.mov (.t 0)))⟩, ⟨1, (some 52), none, [], [], (.h (.mov (.t 11)))⟩, ⟨2, (some 53), none, [], [], (.h (.mov (.t 7)))⟩, ⟨3, (some 54), none, [], [], (.h (.ibin .mul (.t 52) (.t 53)))⟩, ⟨4, (some 55), none, [], [], (.h (.mov (.t 12)))⟩, ⟨5, (some 56), none, [], [], (.h (.ibin .add (.t 54) (.t 55)))⟩, ⟨6, (some 57), none, [], [], (.h (.idx (.t 51) (.t 56) 1))⟩, ⟨7, (some 58), none, [], [], (.load (.t 57) 1 false)⟩, ⟨8, (some 13), none, [], [], (.h (.mov (.t 58)))⟩] [0, 1, 7, 8, 9, 10, 11, 12, 13]) .skip)) (.reg [⟨0, (some 59), none, [], [], (.h (.mov (.t 8)))⟩, ⟨1, (some 60), none, [], [], (.h (.mov (.t 11)))⟩, ⟨2, (some 61), none, [], [], (.h (.mov (.t 8)))⟩, ⟨3, (some 62), none, [], [], (.h (.mov (.t 11)))⟩, ⟨4, (some 63), none, [], [], (.h (.idx (.t 61) (.t 62) 1))⟩, ⟨5, (some 64), none, [], [], (.load (.t 63) 1 false)⟩, ⟨6, (some 65), none, [], [], (.h (.mov (.t 13)))⟩, ⟨7, (some 66), none, [], [], (.callC (.k (.d (.fn 27 [] []))) [(.t 65), (.k (.d (.int .i64 41)))])⟩, ⟨8, (some 67), none, [], [], (.h (.ibin .sub (.t 66) (.k (.d (.int .i64 20)))))⟩, ⟨9, (some 68), none, [], [], (.h (.i2f (.t 67)))⟩, ⟨10, (some 69), none, [], [], (.bslice [(.d (.flt 0))] 1 1 [(0, (1, (.t 68)))] 45)⟩, ⟨11, (some 70), none, [], [], (.app (.t 64) (.t 69) 1 8)⟩, ⟨12, (some 71), none, [], [], (.h (.idx (.t 59) (.t 60) 1))⟩, ⟨13, none, none, [], [], (.store (.t 71) (.t 70) 1)⟩] [0, 1, 7, 8, 9, 10, 11, 12])))) (.reg [⟨0, (some 38), none, [], [], (.h (.mov (.t 12)))⟩, ⟨1, (some 39), none, [], [], (.h (.ibin .add (.t 38) (.k (.d (.int .i64 1)))))⟩, ⟨2, (some 12), none, [], [], (.h (.mov (.t 39)))⟩] [0, 1, 7, 8, 9, 10, 11, 12])))
def A_l6_LinLeft_L0 : CA := (.seq (.seq (.reg [⟨0, (some 30), none, [], [], (.h (.mov (.t 11)))⟩, ⟨1, (some 31), none, [], [], (.h (.mov (.t 7)))⟩, ⟨2, (some 32), none, [], [], (.h (.ibin .lss (.t 30) (.t 31)))⟩] [0, 1, 7, 8, 9, 10, 11, 32]) (.cond (.t 32) .skip (.exit 0))) (.seq (.block 1 (.seq (.seq (.reg [⟨0, (some 12), none, [], [], (.h (.mov (.k (.d (.int .i64 0)))))⟩] [0, 1, 7, 8, 9, 10, 11, 12]) (.block 2 (.loop A_l6_LinLeft_L1))) (.seq (.reg [⟨0, (some 72), none, [], [], (.h (.mov (.t 11)))⟩, ⟨1, (some 73), none, [], [], (.h (.mov (.t 1)))⟩, ⟨2, (some 74), none, [], [], (.h (.len (.t 73)))⟩, ⟨3, (some 75), none, [], [], (.h (.ibin .lss (.t 72) (.t 74)))⟩] [0, 1, 7, 8, 9, 10, 11, 75]) (.cond (.t 75) (.reg [⟨0, (some 76), none, [], [], (.h (.mov (.t 9)))⟩, ⟨1, (some 77), none, [], [], (.h (.mov (.t 11)))⟩, ⟨2, (some 78), none, [], [], (.h (.mov (.t 1)))⟩, ⟨3, (some 79), none, [], [], (.h (.mov (.t 11)))⟩, ⟨4, (some 80), none, [], [], (.h (.idx (.t 78) (.t 79) 1))⟩, ⟨5, (some 81), none, [], [], (.load (.t 80) 1 false)⟩, ⟨6, (some 82), none, [], [], (.callA (.k (.d (.fn 27 [] []))) [(.t 81), (.k (.d (.int .i64 21)))])⟩, ⟨7, (some 83), none, [], [], (.h (.ibin .sub (.t 82) (.k (.d (.int .i64 10)))))⟩, ⟨8, (some 84), none, [], [], (.h (.i2f (.t 83)))⟩, ⟨9, (some 85), none, [], [], (.h (.idx (.t 76) (.t 77) 1))⟩, ⟨10, none, none, [], [], (.store (.t 85) (.t 84) 1)⟩] [0, 1, 7, 8, 9, 10, 11]) .skip)))) (.reg [⟨0, (some 33), none, [], [], (.h (.mov (.t 11)))⟩, ⟨1, (some 34), none, [], [], (.h (.ibin .add (.t 33) (.k (.d (.int .i64 1)))))⟩, ⟨2, (some 11), none, [], [], (.h (.mov (.t 34)))⟩] [0, 1, 7, 8, 9, 10, 11])))
def A_l6_LinLeft_L3 : CA := (.seq (.seq (.reg [⟨0, (some 91), none, [], [], (.h (.mov (.t 15)))⟩, ⟨1, (some 92), none, [], [], (.h (.mov (.t 7)))⟩, ⟨2, (some 93), none, [], [], (.h (.ibin .lss (.t 91) (.t 92)))⟩] [7, 8, 9, 10, 14, 15, 93]) (.cond (.t 93) .skip (.exit 6))) (.seq (.block 7 (.reg [⟨0, (some 96), none, [], [], (.h (.mov (.t 10)))⟩, ⟨1, (some 97), none, [], [], (.h (.mov (.t 14)))⟩, ⟨2, (some 98), none, [], [], (.h (.mov (.t 10)))⟩, ⟨3, (some 99), none, [], [], (.h (.mov (.t 14)))⟩, ⟨4, (some 100), none, [], [], (.h (.idx (.t 98) (.t 99) 1))⟩, ⟨5, (some 101), none, [], [], (.load (.t 100) 1 false)⟩, ⟨6, (some 102), none, [], [], (.h (.mov (.t 8)))⟩, ⟨7, (some 103), none, [], [], (.h (.mov (.t 14)))⟩, ⟨8, (some 104), none, [], [], (.h (.idx (.t 102) (.t 103) 1))⟩, ⟨9, (some 105), none, [], [], (.load (.t 104) 1 false)⟩, ⟨10, (some 106), none, [], [], (.h (.mov (.t 15)))⟩, ⟨11, (some 107), none, [], [], (.h (.idx (.t 105) (.t 106) 1))⟩, ⟨12, (some 108), none, [], [], (.load (.t 107) 1 false)⟩, ⟨13, (some 109), none, [], [], (.h (.mov (.t 9)))⟩, ⟨14, (some 110), none, [], [], (.h (.mov (.t 15)))⟩, ⟨15, (some 111), none, [], [], (.h (.idx (.t 109) (.t 110) 1))⟩, ⟨16, (some 112), none, [], [], (.load (.t 111) 1 false)⟩, ⟨17, (some 113), none, [], [], (.h (.fbin .mul (.t 108) (.t 112)))⟩, ⟨18, (some 114), none, [], [], (.h (.fbin .add (.t 101) (.t 113)))⟩, ⟨19, (some 115), none, [], [], (.h (.idx (.t 96) (.t 97) 1))⟩, ⟨20, none, none, [], [], (.store (.t 115) (.t 114) 1)⟩] [7, 8, 9, 10, 14, 15])) (.reg [⟨0, (some 94), none, [], [], (.h (.mov (.t 15)))⟩, ⟨1, (some 95), none, [], [], (.h (.ibin .add (.t 94) (.k (.d (.int .i64 1)))))⟩, ⟨2, (some 15), none, [], [], (.h (.mov (.t 95)))⟩] [7, 8, 9, 10, 14, 15])))
def A_l6_LinLeft_L2 : CA := (.seq (.seq (.reg [⟨0, (some 86), none, [], [], (.h (.mov (.t 14)))⟩, ⟨1, (some 87), none, [], [], (.h (.mov (.t 7)))⟩, ⟨2, (some 88), none, [], [], (.h (.ibin .lss (.t 86) (.t 87)))⟩] [7, 8, 9, 10, 14, 88]) (.cond (.t 88) .skip (.exit 4))) (.seq (.block 5 (.seq (.reg [⟨0, (some 15), none, [], [], (.h (.mov (.k (.d (.int .i64 0)))))⟩] [7, 8, 9, 10, 14, 15]) (.block 6 (.loop A_l6_LinLeft_L3)))) (.reg [⟨0, (some 89), none, [], [], (.h (.mov (.t 14)))⟩, ⟨1, (some 90), none, [], [], (.h (.ibin .add (.t 89) (.k (.d (.int .i64 1)))))⟩, ⟨2, (some 14), none, [], [], (.h (.mov (.t 90)))⟩] [7, 8, 9, 10, 14])))
def A_l6_LinLeft_L4 : CA := (.seq (.seq (.reg [⟨0, (some 140), none, [], [], (.h (.mov (.t 18)))⟩, ⟨1, (some 141), none, [], [], (.h (.mov (.t 7)))⟩, ⟨2, (some 142), none, [], [], (.h (.ibin .lss (.t 140) (.t 141)))⟩] [7, 16, 17, 18, 142]) (.cond (.t 142) .skip (.exit 8))) (.seq (.block 9 (.seq (.reg [⟨0, (some 145), none, [], [], (.h (.mov (.t 16)))⟩, ⟨1, (some 146), none, [], [], (.h (.mov (.t 18)))⟩, ⟨2, (some 147), none, [], [], (.h (.idx (.t 145) (.t 146) 2))⟩, ⟨3, (some 148), none, [], [], (.load (.t 147) 2 true)⟩, ⟨4, (some 149), none, [], [], (.callA (.k (.d (.fn 28 [] []))) [(.k (.d (.flt 0))), (.t 148)])⟩, ⟨5, (some 150), none, [], [], (.h (.un .not (.t 149)))⟩, ⟨6, (some 151), none, [], [], (.h (.mov (.t 150)))⟩, ⟨7, (some 152), (some (151, false)), [], [], (.h (.mov (.t 18)))⟩, ⟨8, (some 153), (some (151, false)), [], [], (.h (.ibin .gtr (.t 152) (.k (.d (.int .i64 0)))))⟩, ⟨9, (some 154), (some (151, false)), [], [], (.h (.mov (.t 153)))⟩, ⟨10, (some 155), (some (154, true)), [], [], (.h (.mov (.t 17)))⟩, ⟨11, (some 156), (some (154, true)), [], [], (.h (.mov (.t 18)))⟩, ⟨12, (some 157), (some (154, true)), [], [], (.h (.idx (.t 155) (.t 156) 2))⟩, ⟨13, (some 158), (some (154, true)), [], [], (.load (.t 157) 2 true)⟩, ⟨14, (some 159), (some (154, true)), [], [], (.callA (.k (.d (.fn 28 [] []))) [(.k (.d (.flt 0))), (.t 158)])⟩, ⟨15, (some 160), (some (154, true)), [], [], (.h (.un .not (.t 159)))⟩, ⟨16, (some 161), (some (151, false)), [], [], (.h (.pick (.t 154) (.t 160) (.k (.d (.bool false)))))⟩, ⟨17, (some 162), none, [], [], (.h (.pick (.t 151) (.k (.d (.bool true))) (.t 161)))⟩] [7, 16, 17, 18, 162]) (.cond (.t 162) (.seq (.reg [⟨0, (some 6), none, [], [], (.h (.mov (.k (.d (.bool false)))))⟩] [6]) .ret) .skip))) (.reg [⟨0, (some 143), none, [], [], (.h (.mov (.t 18)))⟩, ⟨1, (some 144), none, [], [], (.h (.ibin .add (.t 143) (.k (.d (.int .i64 1)))))⟩, ⟨2, (some 18), none, [], [], (.h (.mov (.t 144)))⟩] [7, 16, 17, 18])))
def A_l6_LinLeft : CA := (.seq (.reg [⟨0, (some 6), none, [], [], (.h (.mov (.k (.d (.bool false)))))⟩] [0, 1, 2]) (.seq (.seq (.reg [⟨0, (some 19), none, [], [], (.callA (.k (.d (.fn 13 [] []))) [])⟩, ⟨1, (some 20), none, [], [], (.h (.un .not (.t 19)))⟩] [0, 1, 2, 20]) (.cond (.t 20) (.seq (.reg [⟨0, (some 6), none, [], [], (.h (.mov (.k (.d (.bool false)))))⟩] [6]) .ret) .skip)) (.seq (.reg [⟨0, (some 21), none, [], [], (.h (.mov (.t 2)))⟩, ⟨1, (some 22), none, [], [], (.callA (.k (.d (.fn 27 [] []))) [(.t 21), (.k (.d (.int .i64 4)))])⟩, ⟨2, (some 23), none, [], [], (.h (.ibin .add (.k (.d (.int .i64 1))) (.t 22)))⟩, ⟨3, (some 7), none, [], [], (.h (.mov (.t 23)))⟩] [0, 1, 7]) (.seq (.reg [⟨0, (some 24), none, [], [], (.h (.mov (.t 7)))⟩, ⟨1, (some 25), none, [], [], (.mksl [.nil] 1 24 (.t 24) (.t 24) 26)⟩, ⟨2, (some 26), none, [], [], (.h (.mov (.t 7)))⟩, ⟨3, (some 27), none, [], [], (.mksl [(.d (.flt 0))] 1 8 (.t 26) (.t 26) 45)⟩, ⟨4, (some 28), none, [], [], (.h (.mov (.t 7)))⟩, ⟨5, (some 29), none, [], [], (.mksl [(.d (.flt 0))] 1 8 (.t 28) (.t 28) 45)⟩, ⟨6, (some 8), none, [], [], (.h (.mov (.t 25)))⟩, ⟨7, (some 9), none, [], [], (.h (.mov (.t 27)))⟩, ⟨8, (some 10), none, [], [], (.h (.mov (.t 29)))⟩] [0, 1, 7, 8, 9, 10]) (.seq (.seq (.reg [⟨0, (some 11), none, [], [], (.h (.mov (.k (.d (.int .i64 0)))))⟩] [0, 1, 7, 8, 9, 10, 11]) (.block 0 (.loop A_l6_LinLeft_L0))) (.seq (.seq (.reg [⟨0, (some 14), none, [], [], (.h (.mov (.k (.d (.int .i64 0)))))⟩] [7, 8, 9, 10, 14]) (.block 4 (.loop A_l6_LinLeft_L2))) (.seq (.reg [⟨0, (some 116), none, [], [], (.h (.mov (.t 8)))⟩, ⟨1, (some 117), none, [], [], (.h (.mov (.t 9)))⟩, ⟨2, (some 118), none, [], [], (.h (.mov (.t 10)))⟩, ⟨3, (some 119), none, [], [], (.callA (.k (.d (.fn 21 [] []))) [(.t 116), (.t 117), (.t 118)])⟩, ⟨4, (some 16), none, [], [], (.h (.mov (.t 119)))⟩] [7, 8, 9, 10, 16]) (.seq (.reg [⟨0, (some 120), none, [], [], (.h (.mov (.t 10)))⟩, ⟨1, (some 121), none, [], [], (.h (.mov (.t 10)))⟩, ⟨2, (some 122), none, [], [], (.h (.idx (.t 121) (.k (.d (.int .i64 0))) 1))⟩, ⟨3, (some 123), none, [], [], (.load (.t 122) 1 false)⟩, ⟨4, (some 124), none, [], [], (.h (.fbin .add (.t 123) (.k (.d (.flt 4613937818241073152)))))⟩, ⟨5, (some 125), none, [], [], (.h (.idx (.t 120) (.k (.d (.int .i64 0))) 1))⟩, ⟨6, none, none, [], [], (.store (.t 125) (.t 124) 1)⟩] [7, 8, 9, 10, 16]) (.seq (.reg [⟨0, (some 126), none, [], [], (.h (.mov (.t 8)))⟩, ⟨1, (some 127), none, [], [], (.h (.mov (.t 9)))⟩, ⟨2, (some 128), none, [], [], (.h (.mov (.t 10)))⟩, ⟨3, (some 129), none, [], [], (.callA (.k (.d (.fn 21 [] []))) [(.t 126), (.t 127), (.t 128)])⟩, ⟨4, (some 17), none, [], [], (.h (.mov (.t 129)))⟩] [7, 16, 17]) (.seq (.seq (.reg [⟨0, (some 130), none, [], [], (.h (.mov (.t 16)))⟩, ⟨1, (some 131), none, [], [], (.h (.len (.t 130)))⟩, ⟨2, (some 132), none, [], [], (.h (.mov (.t 7)))⟩, ⟨3, (some 133), none, [], [], (.h (.ibin .neq (.t 131) (.t 132)))⟩, ⟨4, (some 134), none, [], [], (.h (.mov (.t 133)))⟩, ⟨5, (some 135), (some (134, false)), [], [], (.h (.mov (.t 17)))⟩, ⟨6, (some 136), (some (134, false)), [], [], (.h (.len (.t 135)))⟩, ⟨7, (some 137), (some (134, false)), [], [], (.h (.mov (.t 7)))⟩, ⟨8, (some 138), (some (134, false)), [], [], (.h (.ibin .neq (.t 136) (.t 137)))⟩, ⟨9, (some 139), none, [], [], (.h (.pick (.t 134) (.k (.d (.bool true))) (.t 138)))⟩] [7, 16, 17, 139]) (.cond (.t 139) (.seq (.reg [⟨0, (some 6), none, [], [], (.h (.mov (.k (.d (.bool false)))))⟩] [6]) .ret) .skip)) (.seq (.seq (.reg [⟨0, (some 18), none, [], [], (.h (.mov (.k (.d (.int .i64 0)))))⟩] [7, 16, 17, 18]) (.block 8 (.loop A_l6_LinLeft_L4))) (.seq (.reg [⟨0, (some 163), none, [], [], (.h (.mov (.t 17)))⟩, ⟨1, (some 164), none, [], [], (.h (.idx (.t 163) (.k (.d (.int .i64 0))) 2))⟩, ⟨2, (some 165), none, [], [], (.load (.t 164) 2 true)⟩, ⟨3, (some 166), none, [], [], (.callA (.k (.d (.fn 28 [] []))) [(.k (.d (.flt 4613937818241073152))), (.t 165)])⟩, ⟨4, (some 167), none, [], [], (.h (.mov (.t 166)))⟩, ⟨5, (some 168), (some (167, true)), [], [], (.h (.mov (.t 17)))⟩, ⟨6, (some 169), (some (167, true)), [], [], (.h (.idx (.t 168) (.k (.d (.int .i64 0))) 2))⟩, ⟨7, (some 170), (some (167, true)), [], [], (.load (.t 169) 2 true)⟩, ⟨8, (some 171), (some (167, true)), [], [], (.callA (.k (.d (.fn 28 [] []))) [(.k (.d (.flt 0))), (.t 170)])⟩, ⟨9, (some 172), (some (167, true)), [], [], (.h (.un .not (.t 171)))⟩, ⟨10, (some 173), none, [], [], (.h (.pick (.t 167) (.t 172) (.k (.d (.bool false)))))⟩, ⟨11, (some 6), none, [], [], (.h (.mov (.t 173)))⟩] [6]) .ret))))))))))))
theorem A_l6_LinLeft_comp : compF Try.prog 7 = some ⟨174, [(6, none)], A_l6_LinLeft.strip⟩ := by kernel_rfl
def numA (w : Int) : Nat := FloatKind.nearest .f64 (w % 41 - 20)
def aE (ns : List Int) (k i j : Nat) : Nat := numA (if i * k + j < ns.length then ns.getD (i * k + j) 0 else ((i + j : Nat) : Int))
def aRow (ns : List Int) (k i m : Nat) : List Nat := (List.range m).map (aE ns k i)
def aM (ns : List Int) (k i : Nat) : List (List Nat) := (List.range i).map fun r => aRow ns k r k
theorem aRow_len (ns : List Int) (k i m : Nat) : (aRow ns k i m).length = m := by simp [aRow]
theorem aRow_succ (ns : List Int) (k i m : Nat) : rowV (aRow ns k i (m + 1)) = rowV (aRow ns k i m) ++ [fl (aE ns k i m)] := by simp [aRow, List.range_succ]
theorem aM_len (ns : List Int) (k i : Nat) : (aM ns k i).length = i := by simp [aM]
theorem aM_sq (ns : List Int) (k : Nat) : Sq k (aM ns k k) := ⟨aM_len _ _ _, fun i hi => by simp [aM, List.getD_eq_getElem?_getD, hi, aRow]⟩
/-- Row i is being made. -/
def lfH (ns : List Int) (k i j : Nat) (L : Heap) : Heap :=
  if j = 0 then (100, (aM ns k i).map rowV) :: (L ++ [(1, [hd 100 k i k])])
  else (200, [rowV (aRow ns k i j)]) :: (100, (aM ns k i).map rowV) :: (L ++ [(1, [(hd 100 k i k).set i (.sl 200 0 0 j 1 j)])])
set_option maxRecDepth 8000 in
theorem left_in (N : Nat → Prop) (hN : ∀ Y, ¬ N Y) (ns xs : List Int) (k i : Nat) (b x : List Nat) (hi : i < k) (hk : k < 2 ^ 20) (hns : ns.length < 2 ^ 62) (Q : Ex → T → Prop)
    (hQ : ∀ v w, Q (.exit 2) ⟨[(0, .d (rowI ns)), (1, .d (rowI xs)), (7, fI k), (8, .sl 1 0 0 k 1 k), (9, .sl 3 0 0 k 1 k), (10, .sl 5 0 0 k 1 k), (11, fI i), (12, v), (37, w)], lfH ns k i k [(5, [rowV b]), (3, [rowV x])]⟩) :
    WA Try.prog N 174 (.loop A_l6_LinLeft_L1) Q ⟨[(0, .d (rowI ns)), (1, .d (rowI xs)), (7, fI k), (8, .sl 1 0 0 k 1 k), (9, .sl 3 0 0 k 1 k), (10, .sl 5 0 0 k 1 k), (11, fI i), (12, fI 0)], lfH ns k i 0 [(5, [rowV b]), (3, [rowV x])]⟩ := by
  refine WA_forW (n := k) (fun c s => ∃ j, c + j = k ∧ s = ⟨[(0, .d (rowI ns)), (1, .d (rowI xs)), (7, fI k), (8, .sl 1 0 0 k 1 k), (9, .sl 3 0 0 k 1 k), (10, .sl 5 0 0 k 1 k), (11, fI i), (12, fI j)], lfH ns k i j [(5, [rowV b]), (3, [rowV x])]⟩)
    (s0 := ⟨_, _⟩) (.refl _) ⟨0, by omega, rfl⟩ ?_
  rintro c s ⟨j, hc, rfl⟩
  have hik : i * k + j < 2 ^ 41 := by
    have : i * k ≤ 2 ^ 20 * 2 ^ 20 := Nat.mul_le_mul (by omega) (by omega)
    omega
  have numw : ∀ k : Int, IntKind.i64.wrap (k % 41 - 20) = k % 41 - 20 := by
    intro k
    have h1 := Int.emod_nonneg k (by decide : (41 : Int) ≠ 0)
    have h2 := Int.emod_lt_of_pos k (by decide : (0 : Int) < 41)
    exact wrapI (by omega) (by omega)
  have w1 : IntKind.i64.wrap ((i : Int) * k) = ((i * k : Nat) : Int) := by
    have e : (i : Int) * k = ((i * k : Nat) : Int) := by simp
    rw [e]; exact wrapI (by omega) (by omega)
  have w2 : IntKind.i64.wrap (((i * k : Nat) : Int) + j) = ((i * k + j : Nat) : Int) := by rw [wrapI (by omega) (by omega)]; omega
  have w3 : IntKind.i64.wrap ((i : Int) + j) = ((i + j : Nat) : Int) := by rw [wrapI (by omega) (by omega)]; omega
  simp -implicitDefEqProofs only [xC_skip, evS, decide_true, decide_false, decide_eq_true_eq, sides, Inst.places, List.zip_cons_cons, List.zip_nil_right, List.zip_nil_left, List.mem_cons, List.not_mem_nil, forall_eq_or_imp, forall_eq, false_implies, implies_true, Apart, xeff, xhv, hv, effC, xev, look, argSl, atL, drops, keep, inBlockT, pickX, callX, callCX, callee, List.map_cons, List.map_nil, List.append_nil, List.nil_append, List.cons_append, reduceCtorEq, ↓reduceIte, Nat.reduceEqDiff, Nat.reduceAdd, Nat.reduceMul, eq_self, List.length_replicate, Int.reduceToNat, Int.reduceAdd, Int.reduceSub, Int.reduceMul, Int.reduceNeg, Int.reduceLT, Int.reduceLE, rowD, rowI, rowsD, ivD, rowG, rowIG, rowsG, ivG, bne_self_eq_false, beq_self_eq_true, List.length_map, List.getD_cons_zero, List.getD_cons_succ, List.drop_succ_cons, List.drop_zero, List.take_succ_cons, List.take_zero, List.take_nil, List.getElem?_cons_zero, List.getElem?_cons_succ, List.length_cons, List.length_nil, List.length_set, List.set_cons_zero, List.set_cons_succ, List.all_cons, List.all_nil, Nat.reduceLT, Nat.reduceLeDiff, ne_eq, Option.some.injEq, fillV, partsV, V.okPart, gt_iff_lt, ge_iff_le, A_l6_LinLeft_L1]
  refine condC_intro (fun h => ?_) (fun h => ?_)
  · replace h := of_decide_eq_true h
    have hA : ∀ w, w = (if i * k + j < ns.length then ns.getD (i * k + j) 0 else ((i + j : Nat) : Int)) → numA w = aE ns k i j := fun w hw => by rw [hw]; rfl
    have hal := aRow_len ns k i j
    by_cases hj : j = 0
    · subst hj
      have e0 : lfH ns k i 0 [(5, [rowV b]), (3, [rowV x])] = [(100, (aM ns k i).map rowV), (5, [rowV b]), (3, [rowV x]), (1, [hd 100 k i k])] := rfl
      rw [e0]
      have v2 : IntKind.i64.wrap (((i * k : Nat) : Int) + 0) = ((i * k : Nat) : Int) := by rw [wrapI (by omega) (by omega)]; omega
      have v3 : IntKind.i64.wrap ((i : Int) + 0) = (i : Int) := by rw [wrapI (by omega) (by omega)]; omega
      simp -implicitDefEqProofs only [xC_skip, evS, decide_true, decide_false, decide_eq_true_eq, sides, Inst.places, List.zip_cons_cons, List.zip_nil_right, List.zip_nil_left, List.mem_cons, List.not_mem_nil, forall_eq_or_imp, forall_eq, false_implies, implies_true, Apart, xeff, xhv, hv, effC, xev, look, argSl, atL, drops, keep, inBlockT, pickX, callX, callCX, callee, List.map_cons, List.map_nil, List.append_nil, List.nil_append, List.cons_append, reduceCtorEq, ↓reduceIte, Nat.reduceEqDiff, Nat.reduceAdd, Nat.reduceMul, eq_self, List.length_replicate, Int.reduceToNat, Int.reduceAdd, Int.reduceSub, Int.reduceMul, Int.reduceNeg, Int.reduceLT, Int.reduceLE, rowD, rowI, rowsD, ivD, rowG, rowIG, rowsG, ivG, bne_self_eq_false, beq_self_eq_true, List.length_map, List.getD_cons_zero, List.getD_cons_succ, List.drop_succ_cons, List.drop_zero, List.take_succ_cons, List.take_zero, List.take_nil, List.getElem?_cons_zero, List.getElem?_cons_succ, List.length_cons, List.length_nil, List.length_set, List.set_cons_zero, List.set_cons_succ, List.all_cons, List.all_nil, Nat.reduceLT, Nat.reduceLeDiff, ne_eq, Option.some.injEq, fillV, partsV, V.okPart, gt_iff_lt, ge_iff_le, v3, w1, v2]
      have e1 : (hd 100 k i k).getD i .any = .nil := by simp [hd, List.getD_eq_getElem?_getD, hi]
      have fin : ∀ w, numA w = aE ns k i 0 →
          nextW N 174 (fun c s => ∃ j, c + j = k ∧ s = ⟨[(0, .d (rowI ns)), (1, .d (rowI xs)), (7, fI k), (8, .sl 1 0 0 k 1 k), (9, .sl 3 0 0 k 1 k), (10, .sl 5 0 0 k 1 k), (11, fI i), (12, fI j)], lfH ns k i j [(5, [rowV b]), (3, [rowV x])]⟩) c
            ⟨[(0, .d (rowI ns)), (1, .d (rowI xs)), (7, fI k), (8, .sl 1 0 0 k 1 k), (9, .sl 3 0 0 k 1 k), (10, .sl 5 0 0 k 1 k), (11, fI i), (12, fI 1)], [(112, [[fl (numA w)]]), (111, [[fl (numA w)]]), (100, (aM ns k i).map rowV), (5, [rowV b]), (3, [rowV x]), (1, [(hd 100 k i k).set i (.sl 112 0 0 1 1 1)])]⟩ := by
        intro w hw
        rw [hw]
        refine ⟨c - 1, _, by omega, (LeT.dropAt (L1 := [(112, [[fl (aE ns k i 0)]])]) (Y := 111) hN (by simp [fam_cons, fam_nil]) (fun p hp => ?_) (fun X q c hX v hv => ?_)).trans (LeT.move (L := [(100, (aM ns k i).map rowV), (5, [rowV b]), (3, [rowV x]), (1, [(hd 100 k i k).set i (.sl 112 0 0 1 1 1)])]) 200 (by decide) (by simp [fam_cons, fam_nil]) (by simp [fam_cons, fam_nil]) (hN _)), 1, by omega, ?_⟩
        · simp only [List.mem_cons, List.not_mem_nil, or_false] at hp
          rcases hp with rfl | rfl | rfl | rfl | rfl | rfl | rfl | rfl
          all_goals first | exact .d (.d _) | exact .sl (by simp [get_cons]) rfl
        · simp only [List.cons_append, List.nil_append, get_cons, get_nil] at hX
          split at hX
          · rcases q with _ | q <;> simp at hX; subst hX
            simp only [List.mem_singleton] at hv; subst hv; exact .d (.d _)
          · split at hX
            · rw [List.getElem?_map] at hX
              obtain ⟨xs, _, rfl⟩ := Option.map_eq_some_iff.1 hX
              exact mem_rowV hv _ _ _
            · split at hX
              · rcases q with _ | q <;> simp at hX; subst hX; exact mem_rowV hv _ _ _
              · split at hX
                · rcases q with _ | q <;> simp at hX; subst hX; exact mem_rowV hv _ _ _
                · split at hX
                  · rcases q with _ | q <;> simp at hX; subst hX
                    rcases List.mem_or_eq_of_mem_set hv with hv | rfl
                    · obtain ⟨j, hj, rfl⟩ := List.mem_map.1 hv
                      split
                      · rename_i hji
                        refine .sl ?_ rfl
                        simp only [List.cons_append, List.nil_append, get_cons, Nat.reduceEqDiff, if_false, if_true]
                        rw [getE _ j (by rw [aM_len]; exact hji)]; simp
                      · exact .nil
                    · refine .sl ?_ rfl
                      simp [get_cons]
                  · cases hX
        · have e2 : (hd 100 k i k).map (V.ren (absF 112 200 0)) = hd 100 k i k := by
            refine List.ext_getElem? fun j => ?_
            simp only [hd, List.getElem?_map]
            cases (List.range k)[j]? with
            | none => rfl
            | some j => simp only [Option.map_some]; split <;> simp [V.ren, absF]
          simp only [List.nil_append, List.cons_append, renS, Heap.renH, ren_absF_sl _ _ _ _ _ _ _ _ _ (by decide : (1 : Nat) ≠ 112), ren_absF_sl _ _ _ _ _ _ _ _ _ (by decide : (3 : Nat) ≠ 112), ren_absF_sl _ _ _ _ _ _ _ _ _ (by decide : (5 : Nat) ≠ 112), ren_d, List.map_cons, List.map_nil, List.map_set, ren_rowV, ren_fam, e2]
          simp [lfH, aRow, V.ren, absF]
      by_cases h3 : i * k + 0 < ns.length
      · have h3' : i * k < ns.length := h3
        simp -implicitDefEqProofs only [xC_skip, evS, decide_true, decide_false, decide_eq_true_eq, sides, Inst.places, List.zip_cons_cons, List.zip_nil_right, List.zip_nil_left, List.mem_cons, List.not_mem_nil, forall_eq_or_imp, forall_eq, false_implies, implies_true, Apart, xeff, xhv, hv, effC, xev, look, argSl, atL, drops, keep, inBlockT, pickX, callX, callCX, callee, List.map_cons, List.map_nil, List.append_nil, List.nil_append, List.cons_append, reduceCtorEq, ↓reduceIte, Nat.reduceEqDiff, Nat.reduceAdd, Nat.reduceMul, eq_self, List.length_replicate, Int.reduceToNat, Int.reduceAdd, Int.reduceSub, Int.reduceMul, Int.reduceNeg, Int.reduceLT, Int.reduceLE, rowD, rowI, rowsD, ivD, rowG, rowIG, rowsG, ivG, bne_self_eq_false, beq_self_eq_true, List.length_map, List.getD_cons_zero, List.getD_cons_succ, List.drop_succ_cons, List.drop_zero, List.take_succ_cons, List.take_zero, List.take_nil, List.getElem?_cons_zero, List.getElem?_cons_succ, List.length_cons, List.length_nil, List.length_set, List.set_cons_zero, List.set_cons_succ, List.all_cons, List.all_nil, Nat.reduceLT, Nat.reduceLeDiff, ne_eq, Option.some.injEq, fillV, partsV, V.okPart, gt_iff_lt, ge_iff_le, h3', w1, v2]
        (repeat (with_reducible refine And.intro (by omega) ?_))
        first | refine callG_con (l6_within_con (ns.getD (i * k) 0) 41 (by decide) (by decide)) rfl ?_ | refine callCG_con (l6_within_con (ns.getD (i * k) 0) 41 (by decide) (by decide)) rfl ?_
        simp -implicitDefEqProofs only [xC_skip, evS, decide_true, decide_false, decide_eq_true_eq, sides, Inst.places, List.zip_cons_cons, List.zip_nil_right, List.zip_nil_left, List.mem_cons, List.not_mem_nil, forall_eq_or_imp, forall_eq, false_implies, implies_true, Apart, xeff, xhv, hv, effC, xev, look, argSl, atL, drops, keep, inBlockT, pickX, callX, callCX, callee, List.map_cons, List.map_nil, List.append_nil, List.nil_append, List.cons_append, reduceCtorEq, ↓reduceIte, Nat.reduceEqDiff, Nat.reduceAdd, Nat.reduceMul, eq_self, List.length_replicate, Int.reduceToNat, Int.reduceAdd, Int.reduceSub, Int.reduceMul, Int.reduceNeg, Int.reduceLT, Int.reduceLE, rowD, rowI, rowsD, ivD, rowG, rowIG, rowsG, ivG, bne_self_eq_false, beq_self_eq_true, List.length_map, List.getD_cons_zero, List.getD_cons_succ, List.drop_succ_cons, List.drop_zero, List.take_succ_cons, List.take_zero, List.take_nil, List.getElem?_cons_zero, List.getElem?_cons_succ, List.length_cons, List.length_nil, List.length_set, List.set_cons_zero, List.set_cons_succ, List.all_cons, List.all_nil, Nat.reduceLT, Nat.reduceLeDiff, ne_eq, Option.some.injEq, fillV, partsV, V.okPart, gt_iff_lt, ge_iff_le, numw, e1]
        (repeat (with_reducible refine And.intro (by omega) ?_))
        rw [wrapI (by omega) (by omega)]
        exact fin _ (hA _ (by rw [if_pos h3]; rfl))
      · have h3' : ¬ i * k < ns.length := h3
        simp -implicitDefEqProofs only [xC_skip, evS, decide_true, decide_false, decide_eq_true_eq, sides, Inst.places, List.zip_cons_cons, List.zip_nil_right, List.zip_nil_left, List.mem_cons, List.not_mem_nil, forall_eq_or_imp, forall_eq, false_implies, implies_true, Apart, xeff, xhv, hv, effC, xev, look, argSl, atL, drops, keep, inBlockT, pickX, callX, callCX, callee, List.map_cons, List.map_nil, List.append_nil, List.nil_append, List.cons_append, reduceCtorEq, ↓reduceIte, Nat.reduceEqDiff, Nat.reduceAdd, Nat.reduceMul, eq_self, List.length_replicate, Int.reduceToNat, Int.reduceAdd, Int.reduceSub, Int.reduceMul, Int.reduceNeg, Int.reduceLT, Int.reduceLE, rowD, rowI, rowsD, ivD, rowG, rowIG, rowsG, ivG, bne_self_eq_false, beq_self_eq_true, List.length_map, List.getD_cons_zero, List.getD_cons_succ, List.drop_succ_cons, List.drop_zero, List.take_succ_cons, List.take_zero, List.take_nil, List.getElem?_cons_zero, List.getElem?_cons_succ, List.length_cons, List.length_nil, List.length_set, List.set_cons_zero, List.set_cons_succ, List.all_cons, List.all_nil, Nat.reduceLT, Nat.reduceLeDiff, ne_eq, Option.some.injEq, fillV, partsV, V.okPart, gt_iff_lt, ge_iff_le, h3', w1, v2]
        (repeat (with_reducible refine And.intro (by omega) ?_))
        first | refine callG_con (l6_within_con i 41 (by decide) (by decide)) rfl ?_ | refine callCG_con (l6_within_con i 41 (by decide) (by decide)) rfl ?_
        simp -implicitDefEqProofs only [xC_skip, evS, decide_true, decide_false, decide_eq_true_eq, sides, Inst.places, List.zip_cons_cons, List.zip_nil_right, List.zip_nil_left, List.mem_cons, List.not_mem_nil, forall_eq_or_imp, forall_eq, false_implies, implies_true, Apart, xeff, xhv, hv, effC, xev, look, argSl, atL, drops, keep, inBlockT, pickX, callX, callCX, callee, List.map_cons, List.map_nil, List.append_nil, List.nil_append, List.cons_append, reduceCtorEq, ↓reduceIte, Nat.reduceEqDiff, Nat.reduceAdd, Nat.reduceMul, eq_self, List.length_replicate, Int.reduceToNat, Int.reduceAdd, Int.reduceSub, Int.reduceMul, Int.reduceNeg, Int.reduceLT, Int.reduceLE, rowD, rowI, rowsD, ivD, rowG, rowIG, rowsG, ivG, bne_self_eq_false, beq_self_eq_true, List.length_map, List.getD_cons_zero, List.getD_cons_succ, List.drop_succ_cons, List.drop_zero, List.take_succ_cons, List.take_zero, List.take_nil, List.getElem?_cons_zero, List.getElem?_cons_succ, List.length_cons, List.length_nil, List.length_set, List.set_cons_zero, List.set_cons_succ, List.all_cons, List.all_nil, Nat.reduceLT, Nat.reduceLeDiff, ne_eq, Option.some.injEq, fillV, partsV, V.okPart, gt_iff_lt, ge_iff_le, numw, e1]
        (repeat (with_reducible refine And.intro (by omega) ?_))
        rw [wrapI (by omega) (by omega)]
        exact fin _ (hA _ (by rw [if_neg h3]; rfl))
    · have e0 : lfH ns k i j [(5, [rowV b]), (3, [rowV x])] = [(200, [rowV (aRow ns k i j)]), (100, (aM ns k i).map rowV), (5, [rowV b]), (3, [rowV x]), (1, [(hd 100 k i k).set i (.sl 200 0 0 j 1 j)])] := by unfold lfH; rw [if_neg hj]; rfl
      rw [e0]
      simp -implicitDefEqProofs only [xC_skip, evS, decide_true, decide_false, decide_eq_true_eq, sides, Inst.places, List.zip_cons_cons, List.zip_nil_right, List.zip_nil_left, List.mem_cons, List.not_mem_nil, forall_eq_or_imp, forall_eq, false_implies, implies_true, Apart, xeff, xhv, hv, effC, xev, look, argSl, atL, drops, keep, inBlockT, pickX, callX, callCX, callee, List.map_cons, List.map_nil, List.append_nil, List.nil_append, List.cons_append, reduceCtorEq, ↓reduceIte, Nat.reduceEqDiff, Nat.reduceAdd, Nat.reduceMul, eq_self, List.length_replicate, Int.reduceToNat, Int.reduceAdd, Int.reduceSub, Int.reduceMul, Int.reduceNeg, Int.reduceLT, Int.reduceLE, rowD, rowI, rowsD, ivD, rowG, rowIG, rowsG, ivG, bne_self_eq_false, beq_self_eq_true, List.length_map, List.getD_cons_zero, List.getD_cons_succ, List.drop_succ_cons, List.drop_zero, List.take_succ_cons, List.take_zero, List.take_nil, List.getElem?_cons_zero, List.getElem?_cons_succ, List.length_cons, List.length_nil, List.length_set, List.set_cons_zero, List.set_cons_succ, List.all_cons, List.all_nil, Nat.reduceLT, Nat.reduceLeDiff, ne_eq, Option.some.injEq, fillV, partsV, V.okPart, gt_iff_lt, ge_iff_le, w3, w1, w2]
      have fin : ∀ w, numA w = aE ns k i j →
          nextW N 174 (fun c s => ∃ j, c + j = k ∧ s = ⟨[(0, .d (rowI ns)), (1, .d (rowI xs)), (7, fI k), (8, .sl 1 0 0 k 1 k), (9, .sl 3 0 0 k 1 k), (10, .sl 5 0 0 k 1 k), (11, fI i), (12, fI j)], lfH ns k i j [(5, [rowV b]), (3, [rowV x])]⟩) c
            ⟨[(0, .d (rowI ns)), (1, .d (rowI xs)), (7, fI k), (8, .sl 1 0 0 k 1 k), (9, .sl 3 0 0 k 1 k), (10, .sl 5 0 0 k 1 k), (11, fI i), (12, fI ((j : Int) + 1))], [(211, [[fl (numA w)]]), (200, [rowV (aRow ns k i j) ++ [fl (numA w)]]), (100, (aM ns k i).map rowV), (5, [rowV b]), (3, [rowV x]), (1, [((hd 100 k i k).set i (.sl 200 0 0 j 1 j)).set i (.sl 200 0 0 (j + 1) 1 (j + 1))])]⟩ := by
        intro w hw
        rw [hw, ← aRow_succ, List.set_set]
        refine ⟨c - 1, _, by omega, LeT.dropHd hN (by simp [fam_cons, fam_nil]) (fun p hp => ?_) (fun X q c hX v hv => ?_), j + 1, by omega, ?_⟩
        · simp only [List.mem_cons, List.not_mem_nil, or_false] at hp
          rcases hp with rfl | rfl | rfl | rfl | rfl | rfl | rfl | rfl
          all_goals first | exact .d (.d _) | exact .sl (by simp [get_cons]) rfl
        · simp only [get_cons, get_nil] at hX
          split at hX
          · rcases q with _ | q <;> simp only [List.getElem?_cons_zero, List.getElem?_cons_succ, List.getElem?_nil, Option.some.injEq, reduceCtorEq] at hX
            subst hX; exact mem_rowV hv _ _ _
          · split at hX
            · rw [List.getElem?_map] at hX
              obtain ⟨xs, _, rfl⟩ := Option.map_eq_some_iff.1 hX
              exact mem_rowV hv _ _ _
            · split at hX
              · rcases q with _ | q <;> simp at hX; subst hX; exact mem_rowV hv _ _ _
              · split at hX
                · rcases q with _ | q <;> simp at hX; subst hX; exact mem_rowV hv _ _ _
                · split at hX
                  · rcases q with _ | q <;> simp at hX; subst hX
                    rcases List.mem_or_eq_of_mem_set hv with hv | rfl
                    · obtain ⟨j, hj, rfl⟩ := List.mem_map.1 hv
                      split
                      · rename_i hji
                        refine .sl ?_ rfl
                        simp only [get_cons, Nat.reduceEqDiff, if_false, if_true]
                        rw [getE _ j (by rw [aM_len]; exact hji)]; simp
                      · exact .nil
                    · refine .sl ?_ rfl
                      simp [get_cons]
                  · cases hX
        · unfold lfH; rw [if_neg (by omega)]; rfl
      by_cases h3 : i * k + j < ns.length
      · simp -implicitDefEqProofs only [xC_skip, evS, decide_true, decide_false, decide_eq_true_eq, sides, Inst.places, List.zip_cons_cons, List.zip_nil_right, List.zip_nil_left, List.mem_cons, List.not_mem_nil, forall_eq_or_imp, forall_eq, false_implies, implies_true, Apart, xeff, xhv, hv, effC, xev, look, argSl, atL, drops, keep, inBlockT, pickX, callX, callCX, callee, List.map_cons, List.map_nil, List.append_nil, List.nil_append, List.cons_append, reduceCtorEq, ↓reduceIte, Nat.reduceEqDiff, Nat.reduceAdd, Nat.reduceMul, eq_self, List.length_replicate, Int.reduceToNat, Int.reduceAdd, Int.reduceSub, Int.reduceMul, Int.reduceNeg, Int.reduceLT, Int.reduceLE, rowD, rowI, rowsD, ivD, rowG, rowIG, rowsG, ivG, bne_self_eq_false, beq_self_eq_true, List.length_map, List.getD_cons_zero, List.getD_cons_succ, List.drop_succ_cons, List.drop_zero, List.take_succ_cons, List.take_zero, List.take_nil, List.getElem?_cons_zero, List.getElem?_cons_succ, List.length_cons, List.length_nil, List.length_set, List.set_cons_zero, List.set_cons_succ, List.all_cons, List.all_nil, Nat.reduceLT, Nat.reduceLeDiff, ne_eq, Option.some.injEq, fillV, partsV, V.okPart, gt_iff_lt, ge_iff_le, h3, w1, w2]
        (repeat (with_reducible refine And.intro (by omega) ?_))
        first | refine callG_con (l6_within_con (ns.getD (i * k + j) 0) 41 (by decide) (by decide)) rfl ?_ | refine callCG_con (l6_within_con (ns.getD (i * k + j) 0) 41 (by decide) (by decide)) rfl ?_
        simp -implicitDefEqProofs only [xC_skip, evS, decide_true, decide_false, decide_eq_true_eq, sides, Inst.places, List.zip_cons_cons, List.zip_nil_right, List.zip_nil_left, List.mem_cons, List.not_mem_nil, forall_eq_or_imp, forall_eq, false_implies, implies_true, Apart, xeff, xhv, hv, effC, xev, look, argSl, atL, drops, keep, inBlockT, pickX, callX, callCX, callee, List.map_cons, List.map_nil, List.append_nil, List.nil_append, List.cons_append, reduceCtorEq, ↓reduceIte, Nat.reduceEqDiff, Nat.reduceAdd, Nat.reduceMul, eq_self, List.length_replicate, Int.reduceToNat, Int.reduceAdd, Int.reduceSub, Int.reduceMul, Int.reduceNeg, Int.reduceLT, Int.reduceLE, rowD, rowI, rowsD, ivD, rowG, rowIG, rowsG, ivG, bne_self_eq_false, beq_self_eq_true, List.length_map, List.getD_cons_zero, List.getD_cons_succ, List.drop_succ_cons, List.drop_zero, List.take_succ_cons, List.take_zero, List.take_nil, List.getElem?_cons_zero, List.getElem?_cons_succ, List.length_cons, List.length_nil, List.length_set, List.set_cons_zero, List.set_cons_succ, List.all_cons, List.all_nil, Nat.reduceLT, Nat.reduceLeDiff, ne_eq, Option.some.injEq, fillV, partsV, V.okPart, gt_iff_lt, ge_iff_le, numw, hd_set_get _ _ _ _ _ hi]
        (repeat (with_reducible refine And.intro (by omega) ?_))
        rw [wrapI (by omega) (by omega)]
        exact fin _ (hA _ (by rw [if_pos h3]))
      · simp -implicitDefEqProofs only [xC_skip, evS, decide_true, decide_false, decide_eq_true_eq, sides, Inst.places, List.zip_cons_cons, List.zip_nil_right, List.zip_nil_left, List.mem_cons, List.not_mem_nil, forall_eq_or_imp, forall_eq, false_implies, implies_true, Apart, xeff, xhv, hv, effC, xev, look, argSl, atL, drops, keep, inBlockT, pickX, callX, callCX, callee, List.map_cons, List.map_nil, List.append_nil, List.nil_append, List.cons_append, reduceCtorEq, ↓reduceIte, Nat.reduceEqDiff, Nat.reduceAdd, Nat.reduceMul, eq_self, List.length_replicate, Int.reduceToNat, Int.reduceAdd, Int.reduceSub, Int.reduceMul, Int.reduceNeg, Int.reduceLT, Int.reduceLE, rowD, rowI, rowsD, ivD, rowG, rowIG, rowsG, ivG, bne_self_eq_false, beq_self_eq_true, List.length_map, List.getD_cons_zero, List.getD_cons_succ, List.drop_succ_cons, List.drop_zero, List.take_succ_cons, List.take_zero, List.take_nil, List.getElem?_cons_zero, List.getElem?_cons_succ, List.length_cons, List.length_nil, List.length_set, List.set_cons_zero, List.set_cons_succ, List.all_cons, List.all_nil, Nat.reduceLT, Nat.reduceLeDiff, ne_eq, Option.some.injEq, fillV, partsV, V.okPart, gt_iff_lt, ge_iff_le, h3, w1, w2]
        (repeat (with_reducible refine And.intro (by omega) ?_))
        first | refine callG_con (l6_within_con (i + j : Nat) 41 (by decide) (by decide)) rfl ?_ | refine callCG_con (l6_within_con (i + j : Nat) 41 (by decide) (by decide)) rfl ?_
        simp -implicitDefEqProofs only [xC_skip, evS, decide_true, decide_false, decide_eq_true_eq, sides, Inst.places, List.zip_cons_cons, List.zip_nil_right, List.zip_nil_left, List.mem_cons, List.not_mem_nil, forall_eq_or_imp, forall_eq, false_implies, implies_true, Apart, xeff, xhv, hv, effC, xev, look, argSl, atL, drops, keep, inBlockT, pickX, callX, callCX, callee, List.map_cons, List.map_nil, List.append_nil, List.nil_append, List.cons_append, reduceCtorEq, ↓reduceIte, Nat.reduceEqDiff, Nat.reduceAdd, Nat.reduceMul, eq_self, List.length_replicate, Int.reduceToNat, Int.reduceAdd, Int.reduceSub, Int.reduceMul, Int.reduceNeg, Int.reduceLT, Int.reduceLE, rowD, rowI, rowsD, ivD, rowG, rowIG, rowsG, ivG, bne_self_eq_false, beq_self_eq_true, List.length_map, List.getD_cons_zero, List.getD_cons_succ, List.drop_succ_cons, List.drop_zero, List.take_succ_cons, List.take_zero, List.take_nil, List.getElem?_cons_zero, List.getElem?_cons_succ, List.length_cons, List.length_nil, List.length_set, List.set_cons_zero, List.set_cons_succ, List.all_cons, List.all_nil, Nat.reduceLT, Nat.reduceLeDiff, ne_eq, Option.some.injEq, fillV, partsV, V.okPart, gt_iff_lt, ge_iff_le, numw, hd_set_get _ _ _ _ _ hi]
        (repeat (with_reducible refine And.intro (by omega) ?_))
        rw [wrapI (by omega) (by omega)]
        exact fin _ (hA _ (by rw [if_neg h3]))
  · replace h := of_decide_eq_false h
    simp -implicitDefEqProofs only [xC_skip, evS, decide_true, decide_false, decide_eq_true_eq, sides, Inst.places, List.zip_cons_cons, List.zip_nil_right, List.zip_nil_left, List.mem_cons, List.not_mem_nil, forall_eq_or_imp, forall_eq, false_implies, implies_true, Apart, xeff, xhv, hv, effC, xev, look, argSl, atL, drops, keep, inBlockT, pickX, callX, callCX, callee, List.map_cons, List.map_nil, List.append_nil, List.nil_append, List.cons_append, reduceCtorEq, ↓reduceIte, Nat.reduceEqDiff, Nat.reduceAdd, Nat.reduceMul, eq_self, List.length_replicate, Int.reduceToNat, Int.reduceAdd, Int.reduceSub, Int.reduceMul, Int.reduceNeg, Int.reduceLT, Int.reduceLE, rowD, rowI, rowsD, ivD, rowG, rowIG, rowsG, ivG, bne_self_eq_false, beq_self_eq_true, List.length_map, List.getD_cons_zero, List.getD_cons_succ, List.drop_succ_cons, List.drop_zero, List.take_succ_cons, List.take_zero, List.take_nil, List.getElem?_cons_zero, List.getElem?_cons_succ, List.length_cons, List.length_nil, List.length_set, List.set_cons_zero, List.set_cons_succ, List.all_cons, List.all_nil, Nat.reduceLT, Nat.reduceLeDiff, ne_eq, Option.some.injEq, fillV, partsV, V.okPart, gt_iff_lt, ge_iff_le]
    obtain rfl : k = j := by omega
    exact hQ _ _
def numY (w : Int) : Nat := FloatKind.nearest .f64 (w % 21 - 10)
def xM (xs : List Int) (k i : Nat) : List Nat := (List.range k).map fun r => if r < i ∧ r < xs.length then numY (xs.getD r 0) else 0
theorem xM_len (xs : List Int) (k i : Nat) : (xM xs k i).length = k := by simp [xM]
theorem xM_zero (xs : List Int) (k : Nat) : xM xs k 0 = List.replicate k 0 := by
  refine List.ext_getElem? fun j => ?_
  by_cases h : j < k <;> simp [xM, h]
theorem xM_set (xs : List Int) (k i : Nat) (h : i < xs.length) (hi : i < k) : (xM xs k i).set i (numY (xs.getD i 0)) = xM xs k (i + 1) := by
  refine List.ext_getElem? fun j => ?_
  simp only [xM, List.getElem?_set, List.length_map, List.length_range, List.getElem?_map]
  by_cases h1 : i = j
  · subst h1; simp [hi, h]
  · by_cases h2 : j < k
    · have h3 : (List.range k)[j]? = some j := by simp [h2]
      rw [h3, if_neg h1]
      simp only [Option.map_some]
      by_cases h4 : j < i
      · by_cases h5 : j < xs.length
        · rw [if_pos ⟨h4, h5⟩, if_pos ⟨by omega, h5⟩]
        · rw [if_neg (by omega), if_neg (by omega)]
      · rw [if_neg (by omega), if_neg (by omega)]
    · have h3 : (List.range k)[j]? = none := by simp; omega
      rw [h3, if_neg h1]; rfl
theorem xM_skip (xs : List Int) (k i : Nat) (h : ¬ i < xs.length) : xM xs k i = xM xs k (i + 1) := by
  refine List.map_congr_left fun j hj => ?_
  by_cases h4 : j < i ∧ j < xs.length
  · rw [if_pos h4, if_pos (by omega)]
  · rw [if_neg h4, if_neg (by omega)]
set_option maxRecDepth 8000 in
theorem left_out (N : Nat → Prop) (hN : ∀ Y, ¬ N Y) (ns xs : List Int) (k : Nat) (b : List Nat) (hk : k < 2 ^ 20) (hns : ns.length < 2 ^ 62) (hxs : xs.length < 2 ^ 62) (Q : Ex → T → Prop)
    (hQ : ∀ v w, Q (.exit 0) ⟨[(0, .d (rowI ns)), (1, .d (rowI xs)), (7, fI k), (8, .sl 1 0 0 k 1 k), (9, .sl 3 0 0 k 1 k), (10, .sl 5 0 0 k 1 k), (11, v), (32, w)], [(100, (aM ns k k).map rowV), (5, [rowV b]), (3, [rowV (xM xs k k)]), (1, [hd 100 k k k])]⟩) :
    WA Try.prog N 174 (.loop A_l6_LinLeft_L0) Q ⟨[(0, .d (rowI ns)), (1, .d (rowI xs)), (7, fI k), (8, .sl 1 0 0 k 1 k), (9, .sl 3 0 0 k 1 k), (10, .sl 5 0 0 k 1 k), (11, fI 0)], [(5, [rowV b]), (3, [rowV (List.replicate k 0)]), (1, [repl k [V.nil]])]⟩ := by
  refine WA_forW (n := k) (fun c s => ∃ i, c + i = k ∧ s = ⟨[(0, .d (rowI ns)), (1, .d (rowI xs)), (7, fI k), (8, .sl 1 0 0 k 1 k), (9, .sl 3 0 0 k 1 k), (10, .sl 5 0 0 k 1 k), (11, fI i)], [(100, (aM ns k i).map rowV), (5, [rowV b]), (3, [rowV (xM xs k i)]), (1, [hd 100 k i k])]⟩)
    (s0 := ⟨_, _⟩) ?_ ⟨0, by omega, rfl⟩ ?_
  · rw [xM_zero, hd_zero]
    exact LeT.empty (L1 := []) (by simp [fam_cons, fam_nil])
  rintro c s ⟨i, hc, rfl⟩
  have numw : ∀ k : Int, IntKind.i64.wrap (k % 21 - 10) = k % 21 - 10 := by
    intro k
    have h1 := Int.emod_nonneg k (by decide : (21 : Int) ≠ 0)
    have h2 := Int.emod_lt_of_pos k (by decide : (0 : Int) < 21)
    exact wrapI (by omega) (by omega)
  simp -implicitDefEqProofs only [xC_skip, evS, decide_true, decide_false, decide_eq_true_eq, sides, Inst.places, List.zip_cons_cons, List.zip_nil_right, List.zip_nil_left, List.mem_cons, List.not_mem_nil, forall_eq_or_imp, forall_eq, false_implies, implies_true, Apart, xeff, xhv, hv, effC, xev, look, argSl, atL, drops, keep, inBlockT, pickX, callX, callCX, callee, List.map_cons, List.map_nil, List.append_nil, List.nil_append, List.cons_append, reduceCtorEq, ↓reduceIte, Nat.reduceEqDiff, Nat.reduceAdd, Nat.reduceMul, eq_self, List.length_replicate, Int.reduceToNat, Int.reduceAdd, Int.reduceSub, Int.reduceMul, Int.reduceNeg, Int.reduceLT, Int.reduceLE, rowD, rowI, rowsD, ivD, rowG, rowIG, rowsG, ivG, bne_self_eq_false, beq_self_eq_true, List.length_map, List.getD_cons_zero, List.getD_cons_succ, List.drop_succ_cons, List.drop_zero, List.take_succ_cons, List.take_zero, List.take_nil, List.getElem?_cons_zero, List.getElem?_cons_succ, List.length_cons, List.length_nil, List.length_set, List.set_cons_zero, List.set_cons_succ, List.all_cons, List.all_nil, Nat.reduceLT, Nat.reduceLeDiff, ne_eq, Option.some.injEq, fillV, partsV, V.okPart, gt_iff_lt, ge_iff_le, A_l6_LinLeft_L0]
  refine condC_intro (fun h => ?_) (fun h => ?_)
  · replace h := of_decide_eq_true h
    simp -implicitDefEqProofs only [xC_skip, evS, decide_true, decide_false, decide_eq_true_eq, sides, Inst.places, List.zip_cons_cons, List.zip_nil_right, List.zip_nil_left, List.mem_cons, List.not_mem_nil, forall_eq_or_imp, forall_eq, false_implies, implies_true, Apart, xeff, xhv, hv, effC, xev, look, argSl, atL, drops, keep, inBlockT, pickX, callX, callCX, callee, List.map_cons, List.map_nil, List.append_nil, List.nil_append, List.cons_append, reduceCtorEq, ↓reduceIte, Nat.reduceEqDiff, Nat.reduceAdd, Nat.reduceMul, eq_self, List.length_replicate, Int.reduceToNat, Int.reduceAdd, Int.reduceSub, Int.reduceMul, Int.reduceNeg, Int.reduceLT, Int.reduceLE, rowD, rowI, rowsD, ivD, rowG, rowIG, rowsG, ivG, bne_self_eq_false, beq_self_eq_true, List.length_map, List.getD_cons_zero, List.getD_cons_succ, List.drop_succ_cons, List.drop_zero, List.take_succ_cons, List.take_zero, List.take_nil, List.getElem?_cons_zero, List.getElem?_cons_succ, List.length_cons, List.length_nil, List.length_set, List.set_cons_zero, List.set_cons_succ, List.all_cons, List.all_nil, Nat.reduceLT, Nat.reduceLeDiff, ne_eq, Option.some.injEq, fillV, partsV, V.okPart, gt_iff_lt, ge_iff_le]
    refine left_in N hN ns xs k i b (xM xs k i) h hk hns _ fun v w => ?_
    have e0 : lfH ns k i k [(5, [rowV b]), (3, [rowV (xM xs k i)])] = [(200, [rowV (aRow ns k i k)]), (100, (aM ns k i).map rowV), (5, [rowV b]), (3, [rowV (xM xs k i)]), (1, [(hd 100 k i k).set i (.sl 200 0 0 k 1 k)])] := by unfold lfH; rw [if_neg (by omega)]; rfl
    rw [e0]
    have hxl := xM_len xs k i
    have fin : ∀ X, X = xM xs k (i + 1) →
        nextW N 174 (fun c s => ∃ i, c + i = k ∧ s = ⟨[(0, .d (rowI ns)), (1, .d (rowI xs)), (7, fI k), (8, .sl 1 0 0 k 1 k), (9, .sl 3 0 0 k 1 k), (10, .sl 5 0 0 k 1 k), (11, fI i)], [(100, (aM ns k i).map rowV), (5, [rowV b]), (3, [rowV (xM xs k i)]), (1, [hd 100 k i k])]⟩) c
          ⟨[(0, .d (rowI ns)), (1, .d (rowI xs)), (7, fI k), (8, .sl 1 0 0 k 1 k), (9, .sl 3 0 0 k 1 k), (10, .sl 5 0 0 k 1 k), (11, fI ((i : Int) + 1))], [(200, [rowV (aRow ns k i k)]), (100, (aM ns k i).map rowV), (5, [rowV b]), (3, [rowV X]), (1, [(hd 100 k i k).set i (.sl 200 0 0 k 1 k)])]⟩ := by
      rintro X rfl
      refine ⟨c - 1, _, by omega, LeT.absorb (by decide) (by simp [fam_cons, fam_nil]) (by simp [fam_cons, fam_nil]) (hN _), i + 1, by omega, ?_⟩
      have e2 : ((aM ns k i).map rowV).length = i := by simp [aM]
      have e3 : (aM ns k i).map rowV ++ [rowV (aRow ns k i k)] = (aM ns k (i + 1)).map rowV := by simp [aM, List.range_succ]
      rw [e2, ren_fam, ren_rowV, e3]
      simp only [renS, Heap.renH, ren_absF_sl _ _ _ _ _ _ _ _ _ (by decide : (1 : Nat) ≠ 200), ren_absF_sl _ _ _ _ _ _ _ _ _ (by decide : (3 : Nat) ≠ 200), ren_absF_sl _ _ _ _ _ _ _ _ _ (by decide : (5 : Nat) ≠ 200), ren_d, List.map_cons, List.map_nil, hd_absorb 200 100 _ _ _ (by decide) h, ren_rowV]
      rfl
    simp -implicitDefEqProofs only [xC_skip, evS, decide_true, decide_false, decide_eq_true_eq, sides, Inst.places, List.zip_cons_cons, List.zip_nil_right, List.zip_nil_left, List.mem_cons, List.not_mem_nil, forall_eq_or_imp, forall_eq, false_implies, implies_true, Apart, xeff, xhv, hv, effC, xev, look, argSl, atL, drops, keep, inBlockT, pickX, callX, callCX, callee, List.map_cons, List.map_nil, List.append_nil, List.nil_append, List.cons_append, reduceCtorEq, ↓reduceIte, Nat.reduceEqDiff, Nat.reduceAdd, Nat.reduceMul, eq_self, List.length_replicate, Int.reduceToNat, Int.reduceAdd, Int.reduceSub, Int.reduceMul, Int.reduceNeg, Int.reduceLT, Int.reduceLE, rowD, rowI, rowsD, ivD, rowG, rowIG, rowsG, ivG, bne_self_eq_false, beq_self_eq_true, List.length_map, List.getD_cons_zero, List.getD_cons_succ, List.drop_succ_cons, List.drop_zero, List.take_succ_cons, List.take_zero, List.take_nil, List.getElem?_cons_zero, List.getElem?_cons_succ, List.length_cons, List.length_nil, List.length_set, List.set_cons_zero, List.set_cons_succ, List.all_cons, List.all_nil, Nat.reduceLT, Nat.reduceLeDiff, ne_eq, Option.some.injEq, fillV, partsV, V.okPart, gt_iff_lt, ge_iff_le]
    by_cases h3 : i < xs.length
    · simp -implicitDefEqProofs only [xC_skip, evS, decide_true, decide_false, decide_eq_true_eq, sides, Inst.places, List.zip_cons_cons, List.zip_nil_right, List.zip_nil_left, List.mem_cons, List.not_mem_nil, forall_eq_or_imp, forall_eq, false_implies, implies_true, Apart, xeff, xhv, hv, effC, xev, look, argSl, atL, drops, keep, inBlockT, pickX, callX, callCX, callee, List.map_cons, List.map_nil, List.append_nil, List.nil_append, List.cons_append, reduceCtorEq, ↓reduceIte, Nat.reduceEqDiff, Nat.reduceAdd, Nat.reduceMul, eq_self, List.length_replicate, Int.reduceToNat, Int.reduceAdd, Int.reduceSub, Int.reduceMul, Int.reduceNeg, Int.reduceLT, Int.reduceLE, rowD, rowI, rowsD, ivD, rowG, rowIG, rowsG, ivG, bne_self_eq_false, beq_self_eq_true, List.length_map, List.getD_cons_zero, List.getD_cons_succ, List.drop_succ_cons, List.drop_zero, List.take_succ_cons, List.take_zero, List.take_nil, List.getElem?_cons_zero, List.getElem?_cons_succ, List.length_cons, List.length_nil, List.length_set, List.set_cons_zero, List.set_cons_succ, List.all_cons, List.all_nil, Nat.reduceLT, Nat.reduceLeDiff, ne_eq, Option.some.injEq, fillV, partsV, V.okPart, gt_iff_lt, ge_iff_le, h3]
      (repeat (with_reducible refine And.intro (by omega) ?_))
      first | refine callG_con (l6_within_con (xs.getD i 0) 21 (by decide) (by decide)) rfl ?_ | refine callCG_con (l6_within_con (xs.getD i 0) 21 (by decide) (by decide)) rfl ?_
      simp -implicitDefEqProofs only [xC_skip, evS, decide_true, decide_false, decide_eq_true_eq, sides, Inst.places, List.zip_cons_cons, List.zip_nil_right, List.zip_nil_left, List.mem_cons, List.not_mem_nil, forall_eq_or_imp, forall_eq, false_implies, implies_true, Apart, xeff, xhv, hv, effC, xev, look, argSl, atL, drops, keep, inBlockT, pickX, callX, callCX, callee, List.map_cons, List.map_nil, List.append_nil, List.nil_append, List.cons_append, reduceCtorEq, ↓reduceIte, Nat.reduceEqDiff, Nat.reduceAdd, Nat.reduceMul, eq_self, List.length_replicate, Int.reduceToNat, Int.reduceAdd, Int.reduceSub, Int.reduceMul, Int.reduceNeg, Int.reduceLT, Int.reduceLE, rowD, rowI, rowsD, ivD, rowG, rowIG, rowsG, ivG, bne_self_eq_false, beq_self_eq_true, List.length_map, List.getD_cons_zero, List.getD_cons_succ, List.drop_succ_cons, List.drop_zero, List.take_succ_cons, List.take_zero, List.take_nil, List.getElem?_cons_zero, List.getElem?_cons_succ, List.length_cons, List.length_nil, List.length_set, List.set_cons_zero, List.set_cons_succ, List.all_cons, List.all_nil, Nat.reduceLT, Nat.reduceLeDiff, ne_eq, Option.some.injEq, fillV, partsV, V.okPart, gt_iff_lt, ge_iff_le, numw]
      (repeat (with_reducible refine And.intro (by omega) ?_))
      rw [wrapI (by omega) (by omega)]
      exact fin _ (xM_set xs k i h3 h)
    · simp -implicitDefEqProofs only [xC_skip, evS, decide_true, decide_false, decide_eq_true_eq, sides, Inst.places, List.zip_cons_cons, List.zip_nil_right, List.zip_nil_left, List.mem_cons, List.not_mem_nil, forall_eq_or_imp, forall_eq, false_implies, implies_true, Apart, xeff, xhv, hv, effC, xev, look, argSl, atL, drops, keep, inBlockT, pickX, callX, callCX, callee, List.map_cons, List.map_nil, List.append_nil, List.nil_append, List.cons_append, reduceCtorEq, ↓reduceIte, Nat.reduceEqDiff, Nat.reduceAdd, Nat.reduceMul, eq_self, List.length_replicate, Int.reduceToNat, Int.reduceAdd, Int.reduceSub, Int.reduceMul, Int.reduceNeg, Int.reduceLT, Int.reduceLE, rowD, rowI, rowsD, ivD, rowG, rowIG, rowsG, ivG, bne_self_eq_false, beq_self_eq_true, List.length_map, List.getD_cons_zero, List.getD_cons_succ, List.drop_succ_cons, List.drop_zero, List.take_succ_cons, List.take_zero, List.take_nil, List.getElem?_cons_zero, List.getElem?_cons_succ, List.length_cons, List.length_nil, List.length_set, List.set_cons_zero, List.set_cons_succ, List.all_cons, List.all_nil, Nat.reduceLT, Nat.reduceLeDiff, ne_eq, Option.some.injEq, fillV, partsV, V.okPart, gt_iff_lt, ge_iff_le, h3]
      rw [wrapI (by omega) (by omega)]
      exact fin _ (xM_skip xs k i h3)
  · replace h := of_decide_eq_false h
    simp -implicitDefEqProofs only [xC_skip, evS, decide_true, decide_false, decide_eq_true_eq, sides, Inst.places, List.zip_cons_cons, List.zip_nil_right, List.zip_nil_left, List.mem_cons, List.not_mem_nil, forall_eq_or_imp, forall_eq, false_implies, implies_true, Apart, xeff, xhv, hv, effC, xev, look, argSl, atL, drops, keep, inBlockT, pickX, callX, callCX, callee, List.map_cons, List.map_nil, List.append_nil, List.nil_append, List.cons_append, reduceCtorEq, ↓reduceIte, Nat.reduceEqDiff, Nat.reduceAdd, Nat.reduceMul, eq_self, List.length_replicate, Int.reduceToNat, Int.reduceAdd, Int.reduceSub, Int.reduceMul, Int.reduceNeg, Int.reduceLT, Int.reduceLE, rowD, rowI, rowsD, ivD, rowG, rowIG, rowsG, ivG, bne_self_eq_false, beq_self_eq_true, List.length_map, List.getD_cons_zero, List.getD_cons_succ, List.drop_succ_cons, List.drop_zero, List.take_succ_cons, List.take_zero, List.take_nil, List.getElem?_cons_zero, List.getElem?_cons_succ, List.length_cons, List.length_nil, List.length_set, List.set_cons_zero, List.set_cons_succ, List.all_cons, List.all_nil, Nat.reduceLT, Nat.reduceLeDiff, ne_eq, Option.some.injEq, fillV, partsV, V.okPart, gt_iff_lt, ge_iff_le]
    obtain rfl : k = i := by omega
    exact hQ _ _
def accL (A : List (List Nat)) (x : List Nat) (i : Nat) : Nat → Nat
  | 0 => 0
  | m + 1 => fop .add (accL A x i m) (fop .mul (at2 A i m) (x.getD m 0))
def bM (A : List (List Nat)) (x : List Nat) (k i : Nat) : List Nat := (List.range k).map fun r => if r < i then accL A x r k else 0
theorem bM_len (A : List (List Nat)) (x : List Nat) (k i : Nat) : (bM A x k i).length = k := by simp [bM]
theorem bM_zero (A : List (List Nat)) (x : List Nat) (k : Nat) : bM A x k 0 = List.replicate k 0 := by
  refine List.ext_getElem? fun j => ?_
  by_cases h : j < k <;> simp [bM, h]
theorem bM_set (A : List (List Nat)) (x : List Nat) (k i : Nat) (hi : i < k) : (bM A x k i).set i (accL A x i k) = bM A x k (i + 1) := by
  refine List.ext_getElem? fun j => ?_
  simp only [bM, List.getElem?_set, List.length_map, List.length_range, List.getElem?_map]
  by_cases h1 : i = j
  · subst h1; simp [hi]
  · by_cases h2 : j < k
    · have h3 : (List.range k)[j]? = some j := by simp [h2]
      rw [h3, if_neg h1]
      simp only [Option.map_some]
      by_cases h4 : j < i
      · rw [if_pos h4, if_pos (by omega)]
      · rw [if_neg h4, if_neg (by omega)]
    · have h3 : (List.range k)[j]? = none := by simp; omega
      rw [h3, if_neg h1]; rfl
theorem bM_self (A : List (List Nat)) (x : List Nat) (k i : Nat) (hi : i < k) : (bM A x k i).set i (accL A x i 0) = bM A x k i := by
  have e : (bM A x k i).getD i 0 = 0 := by simp [bM, List.getD_eq_getElem?_getD, hi]
  have := set_same (bM A x k i) i
  rw [e] at this; exact this
def lbH (A : List (List Nat)) (b x : List Nat) (k : Nat) : Heap := [(100, A.map rowV), (5, [rowV b]), (3, [rowV x]), (1, [hd 100 k k k])]
set_option maxRecDepth 8000 in
theorem left_L3 (N : Nat → Prop) (A : List (List Nat)) (b x : List Nat) (k i : Nat) (hA : Sq k A) (hx : x.length = k) (hb : b.length = k) (hi : i < k) (hk : k < 2 ^ 20) (Q : Ex → T → Prop)
    (hQ : ∀ v w, Q (.exit 6) ⟨[(7, fI k), (8, .sl 1 0 0 k 1 k), (9, .sl 3 0 0 k 1 k), (10, .sl 5 0 0 k 1 k), (14, fI i), (15, v), (93, w)], lbH A (b.set i (accL A x i k)) x k⟩) :
    WA Try.prog N 174 (.loop A_l6_LinLeft_L3) Q ⟨[(7, fI k), (8, .sl 1 0 0 k 1 k), (9, .sl 3 0 0 k 1 k), (10, .sl 5 0 0 k 1 k), (14, fI i), (15, fI 0)], lbH A (b.set i (accL A x i 0)) x k⟩ := by
  refine WA_for (n := k) (fun c s => ∃ j, c + j = k ∧ s = ⟨[(7, fI k), (8, .sl 1 0 0 k 1 k), (9, .sl 3 0 0 k 1 k), (10, .sl 5 0 0 k 1 k), (14, fI i), (15, fI j)], lbH A (b.set i (accL A x i j)) x k⟩) ⟨0, by omega, rfl⟩ ?_
  rintro c s ⟨j, hc, rfl⟩
  have g1 := hA.2 i hi
  have hl := hA.1
  simp -implicitDefEqProofs only [xC_skip, evS, decide_true, decide_false, decide_eq_true_eq, sides, Inst.places, List.zip_cons_cons, List.zip_nil_right, List.zip_nil_left, List.mem_cons, List.not_mem_nil, forall_eq_or_imp, forall_eq, false_implies, implies_true, Apart, xeff, xhv, hv, effC, xev, look, argSl, atL, drops, keep, inBlockT, pickX, callX, callCX, callee, List.map_cons, List.map_nil, List.append_nil, List.nil_append, List.cons_append, reduceCtorEq, ↓reduceIte, Nat.reduceEqDiff, Nat.reduceAdd, Nat.reduceMul, eq_self, List.length_replicate, Int.reduceToNat, Int.reduceAdd, Int.reduceSub, Int.reduceMul, Int.reduceNeg, Int.reduceLT, Int.reduceLE, rowD, rowI, rowsD, ivD, rowG, rowIG, rowsG, ivG, bne_self_eq_false, beq_self_eq_true, List.length_map, List.getD_cons_zero, List.getD_cons_succ, List.drop_succ_cons, List.drop_zero, List.take_succ_cons, List.take_zero, List.take_nil, List.getElem?_cons_zero, List.getElem?_cons_succ, List.length_cons, List.length_nil, List.length_set, List.set_cons_zero, List.set_cons_succ, List.all_cons, List.all_nil, Nat.reduceLT, Nat.reduceLeDiff, ne_eq, Option.some.injEq, fillV, partsV, V.okPart, gt_iff_lt, ge_iff_le, A_l6_LinLeft_L3, lbH]
  refine condC_intro (fun h => ?_) (fun h => ?_)
  · replace h := of_decide_eq_true h
    have hiA : i < A.length := by omega
    have e1 : j < (A.getD i []).length := by omega
    have e2 : j < x.length := by omega
    have e3 : i < (b.set i (accL A x i j)).length := by simp; omega
    have e4 : (b.set i (accL A x i j)).getD i 0 = accL A x i j := by rw [getD_set _ _ _ _ (by omega), if_pos rfl]
    have e5 : (b.set i (accL A x i j)).length = k := by simp [hb]
    have e6 : ∀ v, (b.set i (accL A x i j)).set i v = b.set i v := fun v => by rw [List.set_set]
    generalize b.set i (accL A x i j) = b' at e3 e4 e5 e6
    simp -implicitDefEqProofs only [xC_skip, evS, decide_true, decide_false, decide_eq_true_eq, sides, Inst.places, List.zip_cons_cons, List.zip_nil_right, List.zip_nil_left, List.mem_cons, List.not_mem_nil, forall_eq_or_imp, forall_eq, false_implies, implies_true, Apart, xeff, xhv, hv, effC, xev, look, argSl, atL, drops, keep, inBlockT, pickX, callX, callCX, callee, List.map_cons, List.map_nil, List.append_nil, List.nil_append, List.cons_append, reduceCtorEq, ↓reduceIte, Nat.reduceEqDiff, Nat.reduceAdd, Nat.reduceMul, eq_self, List.length_replicate, Int.reduceToNat, Int.reduceAdd, Int.reduceSub, Int.reduceMul, Int.reduceNeg, Int.reduceLT, Int.reduceLE, rowD, rowI, rowsD, ivD, rowG, rowIG, rowsG, ivG, bne_self_eq_false, beq_self_eq_true, List.length_map, List.getD_cons_zero, List.getD_cons_succ, List.drop_succ_cons, List.drop_zero, List.take_succ_cons, List.take_zero, List.take_nil, List.getElem?_cons_zero, List.getElem?_cons_succ, List.length_cons, List.length_nil, List.length_set, List.set_cons_zero, List.set_cons_succ, List.all_cons, List.all_nil, Nat.reduceLT, Nat.reduceLeDiff, ne_eq, Option.some.injEq, fillV, partsV, V.okPart, gt_iff_lt, ge_iff_le, hd_getD _ _ _ _ _ hi (Nat.le_refl _), getE A i hiA, getD_map_fl _ _ e1, getD_map_fl _ _ e2, getD_map_fl _ _ e3, e4]
    (repeat (with_reducible refine And.intro (by omega) ?_))
    rw [wrapI (by omega) (by omega), e6]
    exact ⟨c - 1, by omega, j + 1, by omega, rfl⟩
  · replace h := of_decide_eq_false h
    simp -implicitDefEqProofs only [xC_skip, evS, decide_true, decide_false, decide_eq_true_eq, sides, Inst.places, List.zip_cons_cons, List.zip_nil_right, List.zip_nil_left, List.mem_cons, List.not_mem_nil, forall_eq_or_imp, forall_eq, false_implies, implies_true, Apart, xeff, xhv, hv, effC, xev, look, argSl, atL, drops, keep, inBlockT, pickX, callX, callCX, callee, List.map_cons, List.map_nil, List.append_nil, List.nil_append, List.cons_append, reduceCtorEq, ↓reduceIte, Nat.reduceEqDiff, Nat.reduceAdd, Nat.reduceMul, eq_self, List.length_replicate, Int.reduceToNat, Int.reduceAdd, Int.reduceSub, Int.reduceMul, Int.reduceNeg, Int.reduceLT, Int.reduceLE, rowD, rowI, rowsD, ivD, rowG, rowIG, rowsG, ivG, bne_self_eq_false, beq_self_eq_true, List.length_map, List.getD_cons_zero, List.getD_cons_succ, List.drop_succ_cons, List.drop_zero, List.take_succ_cons, List.take_zero, List.take_nil, List.getElem?_cons_zero, List.getElem?_cons_succ, List.length_cons, List.length_nil, List.length_set, List.set_cons_zero, List.set_cons_succ, List.all_cons, List.all_nil, Nat.reduceLT, Nat.reduceLeDiff, ne_eq, Option.some.injEq, fillV, partsV, V.okPart, gt_iff_lt, ge_iff_le]
    obtain rfl : k = j := by omega
    exact hQ _ _
set_option maxRecDepth 8000 in
theorem left_L2 (N : Nat → Prop) (A : List (List Nat)) (x : List Nat) (k : Nat) (hA : Sq k A) (hx : x.length = k) (hk : k < 2 ^ 20) (Q : Ex → T → Prop)
    (hQ : ∀ v w, Q (.exit 4) ⟨[(7, fI k), (8, .sl 1 0 0 k 1 k), (9, .sl 3 0 0 k 1 k), (10, .sl 5 0 0 k 1 k), (14, v), (88, w)], lbH A (bM A x k k) x k⟩) :
    WA Try.prog N 174 (.loop A_l6_LinLeft_L2) Q ⟨[(7, fI k), (8, .sl 1 0 0 k 1 k), (9, .sl 3 0 0 k 1 k), (10, .sl 5 0 0 k 1 k), (14, fI 0)], lbH A (List.replicate k 0) x k⟩ := by
  rw [← bM_zero A x k]
  refine WA_for (n := k) (fun c s => ∃ i, c + i = k ∧ s = ⟨[(7, fI k), (8, .sl 1 0 0 k 1 k), (9, .sl 3 0 0 k 1 k), (10, .sl 5 0 0 k 1 k), (14, fI i)], lbH A (bM A x k i) x k⟩) ⟨0, by omega, rfl⟩ ?_
  rintro c s ⟨i, hc, rfl⟩
  simp -implicitDefEqProofs only [xC_skip, evS, decide_true, decide_false, decide_eq_true_eq, sides, Inst.places, List.zip_cons_cons, List.zip_nil_right, List.zip_nil_left, List.mem_cons, List.not_mem_nil, forall_eq_or_imp, forall_eq, false_implies, implies_true, Apart, xeff, xhv, hv, effC, xev, look, argSl, atL, drops, keep, inBlockT, pickX, callX, callCX, callee, List.map_cons, List.map_nil, List.append_nil, List.nil_append, List.cons_append, reduceCtorEq, ↓reduceIte, Nat.reduceEqDiff, Nat.reduceAdd, Nat.reduceMul, eq_self, List.length_replicate, Int.reduceToNat, Int.reduceAdd, Int.reduceSub, Int.reduceMul, Int.reduceNeg, Int.reduceLT, Int.reduceLE, rowD, rowI, rowsD, ivD, rowG, rowIG, rowsG, ivG, bne_self_eq_false, beq_self_eq_true, List.length_map, List.getD_cons_zero, List.getD_cons_succ, List.drop_succ_cons, List.drop_zero, List.take_succ_cons, List.take_zero, List.take_nil, List.getElem?_cons_zero, List.getElem?_cons_succ, List.length_cons, List.length_nil, List.length_set, List.set_cons_zero, List.set_cons_succ, List.all_cons, List.all_nil, Nat.reduceLT, Nat.reduceLeDiff, ne_eq, Option.some.injEq, fillV, partsV, V.okPart, gt_iff_lt, ge_iff_le, A_l6_LinLeft_L2, lbH]
  refine condC_intro (fun h => ?_) (fun h => ?_)
  · replace h := of_decide_eq_true h
    simp -implicitDefEqProofs only [xC_skip, evS, decide_true, decide_false, decide_eq_true_eq, sides, Inst.places, List.zip_cons_cons, List.zip_nil_right, List.zip_nil_left, List.mem_cons, List.not_mem_nil, forall_eq_or_imp, forall_eq, false_implies, implies_true, Apart, xeff, xhv, hv, effC, xev, look, argSl, atL, drops, keep, inBlockT, pickX, callX, callCX, callee, List.map_cons, List.map_nil, List.append_nil, List.nil_append, List.cons_append, reduceCtorEq, ↓reduceIte, Nat.reduceEqDiff, Nat.reduceAdd, Nat.reduceMul, eq_self, List.length_replicate, Int.reduceToNat, Int.reduceAdd, Int.reduceSub, Int.reduceMul, Int.reduceNeg, Int.reduceLT, Int.reduceLE, rowD, rowI, rowsD, ivD, rowG, rowIG, rowsG, ivG, bne_self_eq_false, beq_self_eq_true, List.length_map, List.getD_cons_zero, List.getD_cons_succ, List.drop_succ_cons, List.drop_zero, List.take_succ_cons, List.take_zero, List.take_nil, List.getElem?_cons_zero, List.getElem?_cons_succ, List.length_cons, List.length_nil, List.length_set, List.set_cons_zero, List.set_cons_succ, List.all_cons, List.all_nil, Nat.reduceLT, Nat.reduceLeDiff, ne_eq, Option.some.injEq, fillV, partsV, V.okPart, gt_iff_lt, ge_iff_le]
    have := left_L3 N A (bM A x k i) x k i hA hx (bM_len _ _ _ _) h hk
    rw [bM_self _ _ _ _ h, bM_set _ _ _ _ h] at this
    refine this _ fun v w => ?_
    simp -implicitDefEqProofs only [xC_skip, evS, decide_true, decide_false, decide_eq_true_eq, sides, Inst.places, List.zip_cons_cons, List.zip_nil_right, List.zip_nil_left, List.mem_cons, List.not_mem_nil, forall_eq_or_imp, forall_eq, false_implies, implies_true, Apart, xeff, xhv, hv, effC, xev, look, argSl, atL, drops, keep, inBlockT, pickX, callX, callCX, callee, List.map_cons, List.map_nil, List.append_nil, List.nil_append, List.cons_append, reduceCtorEq, ↓reduceIte, Nat.reduceEqDiff, Nat.reduceAdd, Nat.reduceMul, eq_self, List.length_replicate, Int.reduceToNat, Int.reduceAdd, Int.reduceSub, Int.reduceMul, Int.reduceNeg, Int.reduceLT, Int.reduceLE, rowD, rowI, rowsD, ivD, rowG, rowIG, rowsG, ivG, bne_self_eq_false, beq_self_eq_true, List.length_map, List.getD_cons_zero, List.getD_cons_succ, List.drop_succ_cons, List.drop_zero, List.take_succ_cons, List.take_zero, List.take_nil, List.getElem?_cons_zero, List.getElem?_cons_succ, List.length_cons, List.length_nil, List.length_set, List.set_cons_zero, List.set_cons_succ, List.all_cons, List.all_nil, Nat.reduceLT, Nat.reduceLeDiff, ne_eq, Option.some.injEq, fillV, partsV, V.okPart, gt_iff_lt, ge_iff_le, lbH]
    rw [wrapI (by omega) (by omega)]
    exact ⟨c - 1, by omega, i + 1, by omega, rfl⟩
  · replace h := of_decide_eq_false h
    simp -implicitDefEqProofs only [xC_skip, evS, decide_true, decide_false, decide_eq_true_eq, sides, Inst.places, List.zip_cons_cons, List.zip_nil_right, List.zip_nil_left, List.mem_cons, List.not_mem_nil, forall_eq_or_imp, forall_eq, false_implies, implies_true, Apart, xeff, xhv, hv, effC, xev, look, argSl, atL, drops, keep, inBlockT, pickX, callX, callCX, callee, List.map_cons, List.map_nil, List.append_nil, List.nil_append, List.cons_append, reduceCtorEq, ↓reduceIte, Nat.reduceEqDiff, Nat.reduceAdd, Nat.reduceMul, eq_self, List.length_replicate, Int.reduceToNat, Int.reduceAdd, Int.reduceSub, Int.reduceMul, Int.reduceNeg, Int.reduceLT, Int.reduceLE, rowD, rowI, rowsD, ivD, rowG, rowIG, rowsG, ivG, bne_self_eq_false, beq_self_eq_true, List.length_map, List.getD_cons_zero, List.getD_cons_succ, List.drop_succ_cons, List.drop_zero, List.take_succ_cons, List.take_zero, List.take_nil, List.getElem?_cons_zero, List.getElem?_cons_succ, List.length_cons, List.length_nil, List.length_set, List.set_cons_zero, List.set_cons_succ, List.all_cons, List.all_nil, Nat.reduceLT, Nat.reduceLeDiff, ne_eq, Option.some.injEq, fillV, partsV, V.okPart, gt_iff_lt, ge_iff_le]
    obtain rfl : k = i := by omega
    exact hQ _ _
theorem ivC_at (ps : List (Nat × Nat)) (i : Nat) (h : i < ps.length) : ((ivC ps).drop (i * 2)).take 2 = [fl (ps.getD i (0, 0)).1, fl (ps.getD i (0, 0)).2] := by
  induction ps generalizing i with
  | nil => simp at h
  | cons p ps ih =>
    cases i with
    | zero => simp [ivC]
    | succ i =>
      have := ih i (by simpa using h)
      have e : (i + 1) * 2 = i * 2 + 1 + 1 := by omega
      simp only [ivC, List.flatMap_cons, e, List.cons_append, List.nil_append, List.drop_succ_cons, List.getD_cons_succ] at *
      exact this
set_option maxRecDepth 8000 in
theorem left_L4 (N : Nat → Prop) (z y : List (Nat × Nat)) (k Z Y : Nat) (L : Heap) (hk : k < 2 ^ 20) (hZ : L.get Z 0 = some (ivC z)) (hY : L.get Y 0 = some (ivC y)) (hz : z.length = k) (hy : y.length = k)
    (h0 : ∀ i, i < k → fcmp .le (z.getD i (0, 0)).1 0 = true ∧ fcmp .le 0 (z.getD i (0, 0)).2 = true) (h1 : ∀ i, 0 < i → i < k → fcmp .le (y.getD i (0, 0)).1 0 = true ∧ fcmp .le 0 (y.getD i (0, 0)).2 = true) (Q : Ex → T → Prop)
    (hQ : ∀ v w, Q (.exit 8) ⟨[(7, fI k), (16, .sl Z 0 0 k 2 (k * 2)), (17, .sl Y 0 0 k 2 (k * 2)), (18, v), (142, w)], L⟩) :
    WA Try.prog N 174 (.loop A_l6_LinLeft_L4) Q ⟨[(7, fI k), (16, .sl Z 0 0 k 2 (k * 2)), (17, .sl Y 0 0 k 2 (k * 2)), (18, fI 0)], L⟩ := by
  refine WA_for (n := k) (fun c s => ∃ i, c + i = k ∧ s = ⟨[(7, fI k), (16, .sl Z 0 0 k 2 (k * 2)), (17, .sl Y 0 0 k 2 (k * 2)), (18, fI i)], L⟩) ⟨0, by omega, rfl⟩ ?_
  rintro c s ⟨i, hc, rfl⟩
  simp -implicitDefEqProofs only [xC_skip, evS, decide_true, decide_false, decide_eq_true_eq, sides, Inst.places, List.zip_cons_cons, List.zip_nil_right, List.zip_nil_left, List.mem_cons, List.not_mem_nil, forall_eq_or_imp, forall_eq, false_implies, implies_true, Apart, xeff, xhv, hv, effC, xev, look, argSl, atL, drops, keep, inBlockT, pickX, callX, callCX, callee, List.map_cons, List.map_nil, List.append_nil, List.nil_append, List.cons_append, reduceCtorEq, ↓reduceIte, Nat.reduceEqDiff, Nat.reduceAdd, Nat.reduceMul, eq_self, List.length_replicate, Int.reduceToNat, Int.reduceAdd, Int.reduceSub, Int.reduceMul, Int.reduceNeg, Int.reduceLT, Int.reduceLE, rowD, rowI, rowsD, ivD, rowG, rowIG, rowsG, ivG, bne_self_eq_false, beq_self_eq_true, List.length_map, List.getD_cons_zero, List.getD_cons_succ, List.drop_succ_cons, List.drop_zero, List.take_succ_cons, List.take_zero, List.take_nil, List.getElem?_cons_zero, List.getElem?_cons_succ, List.length_cons, List.length_nil, List.length_set, List.set_cons_zero, List.set_cons_succ, List.all_cons, List.all_nil, Nat.reduceLT, Nat.reduceLeDiff, ne_eq, Option.some.injEq, fillV, partsV, V.okPart, gt_iff_lt, ge_iff_le, A_l6_LinLeft_L4]
  refine condC_intro (fun h => ?_) (fun h => ?_)
  · replace h := of_decide_eq_true h
    simp -implicitDefEqProofs only [xC_skip, evS, decide_true, decide_false, decide_eq_true_eq, sides, Inst.places, List.zip_cons_cons, List.zip_nil_right, List.zip_nil_left, List.mem_cons, List.not_mem_nil, forall_eq_or_imp, forall_eq, false_implies, implies_true, Apart, xeff, xhv, hv, effC, xev, look, argSl, atL, drops, keep, inBlockT, pickX, callX, callCX, callee, List.map_cons, List.map_nil, List.append_nil, List.nil_append, List.cons_append, reduceCtorEq, ↓reduceIte, Nat.reduceEqDiff, Nat.reduceAdd, Nat.reduceMul, eq_self, List.length_replicate, Int.reduceToNat, Int.reduceAdd, Int.reduceSub, Int.reduceMul, Int.reduceNeg, Int.reduceLT, Int.reduceLE, rowD, rowI, rowsD, ivD, rowG, rowIG, rowsG, ivG, bne_self_eq_false, beq_self_eq_true, List.length_map, List.getD_cons_zero, List.getD_cons_succ, List.drop_succ_cons, List.drop_zero, List.take_succ_cons, List.take_zero, List.take_nil, List.getElem?_cons_zero, List.getElem?_cons_succ, List.length_cons, List.length_nil, List.length_set, List.set_cons_zero, List.set_cons_succ, List.all_cons, List.all_nil, Nat.reduceLT, Nat.reduceLeDiff, ne_eq, Option.some.injEq, fillV, partsV, V.okPart, gt_iff_lt, ge_iff_le, hZ]
    (repeat (with_reducible refine And.intro (by omega) ?_))
    rw [ivC_at z i (by omega)]
    first | refine callG_con (r2_In_con 0 (z.getD i (0, 0))) rfl ?_ | refine callCG_con (r2_In_con 0 (z.getD i (0, 0))) rfl ?_
    rw [(h0 i h).1, (h0 i h).2]
    simp -implicitDefEqProofs only [xC_skip, evS, decide_true, decide_false, decide_eq_true_eq, sides, Inst.places, List.zip_cons_cons, List.zip_nil_right, List.zip_nil_left, List.mem_cons, List.not_mem_nil, forall_eq_or_imp, forall_eq, false_implies, implies_true, Apart, xeff, xhv, hv, effC, xev, look, argSl, atL, drops, keep, inBlockT, pickX, callX, callCX, callee, List.map_cons, List.map_nil, List.append_nil, List.nil_append, List.cons_append, reduceCtorEq, ↓reduceIte, Nat.reduceEqDiff, Nat.reduceAdd, Nat.reduceMul, eq_self, List.length_replicate, Int.reduceToNat, Int.reduceAdd, Int.reduceSub, Int.reduceMul, Int.reduceNeg, Int.reduceLT, Int.reduceLE, rowD, rowI, rowsD, ivD, rowG, rowIG, rowsG, ivG, bne_self_eq_false, beq_self_eq_true, List.length_map, List.getD_cons_zero, List.getD_cons_succ, List.drop_succ_cons, List.drop_zero, List.take_succ_cons, List.take_zero, List.take_nil, List.getElem?_cons_zero, List.getElem?_cons_succ, List.length_cons, List.length_nil, List.length_set, List.set_cons_zero, List.set_cons_succ, List.all_cons, List.all_nil, Nat.reduceLT, Nat.reduceLeDiff, ne_eq, Option.some.injEq, fillV, partsV, V.okPart, gt_iff_lt, ge_iff_le]
    by_cases hi0 : i = 0
    · subst hi0
      simp -implicitDefEqProofs only [xC_skip, evS, decide_true, decide_false, decide_eq_true_eq, sides, Inst.places, List.zip_cons_cons, List.zip_nil_right, List.zip_nil_left, List.mem_cons, List.not_mem_nil, forall_eq_or_imp, forall_eq, false_implies, implies_true, Apart, xeff, xhv, hv, effC, xev, look, argSl, atL, drops, keep, inBlockT, pickX, callX, callCX, callee, List.map_cons, List.map_nil, List.append_nil, List.nil_append, List.cons_append, reduceCtorEq, ↓reduceIte, Nat.reduceEqDiff, Nat.reduceAdd, Nat.reduceMul, eq_self, List.length_replicate, Int.reduceToNat, Int.reduceAdd, Int.reduceSub, Int.reduceMul, Int.reduceNeg, Int.reduceLT, Int.reduceLE, rowD, rowI, rowsD, ivD, rowG, rowIG, rowsG, ivG, bne_self_eq_false, beq_self_eq_true, List.length_map, List.getD_cons_zero, List.getD_cons_succ, List.drop_succ_cons, List.drop_zero, List.take_succ_cons, List.take_zero, List.take_nil, List.getElem?_cons_zero, List.getElem?_cons_succ, List.length_cons, List.length_nil, List.length_set, List.set_cons_zero, List.set_cons_succ, List.all_cons, List.all_nil, Nat.reduceLT, Nat.reduceLeDiff, ne_eq, Option.some.injEq, fillV, partsV, V.okPart, gt_iff_lt, ge_iff_le]
      rw [wrapI (by omega) (by omega)]
      exact ⟨c - 1, by omega, 1, by omega, rfl⟩
    · have hip : decide ((0 : Int) < (i : Int)) = true := by simp; omega
      simp -implicitDefEqProofs only [xC_skip, evS, decide_true, decide_false, decide_eq_true_eq, sides, Inst.places, List.zip_cons_cons, List.zip_nil_right, List.zip_nil_left, List.mem_cons, List.not_mem_nil, forall_eq_or_imp, forall_eq, false_implies, implies_true, Apart, xeff, xhv, hv, effC, xev, look, argSl, atL, drops, keep, inBlockT, pickX, callX, callCX, callee, List.map_cons, List.map_nil, List.append_nil, List.nil_append, List.cons_append, reduceCtorEq, ↓reduceIte, Nat.reduceEqDiff, Nat.reduceAdd, Nat.reduceMul, eq_self, List.length_replicate, Int.reduceToNat, Int.reduceAdd, Int.reduceSub, Int.reduceMul, Int.reduceNeg, Int.reduceLT, Int.reduceLE, rowD, rowI, rowsD, ivD, rowG, rowIG, rowsG, ivG, bne_self_eq_false, beq_self_eq_true, List.length_map, List.getD_cons_zero, List.getD_cons_succ, List.drop_succ_cons, List.drop_zero, List.take_succ_cons, List.take_zero, List.take_nil, List.getElem?_cons_zero, List.getElem?_cons_succ, List.length_cons, List.length_nil, List.length_set, List.set_cons_zero, List.set_cons_succ, List.all_cons, List.all_nil, Nat.reduceLT, Nat.reduceLeDiff, ne_eq, Option.some.injEq, fillV, partsV, V.okPart, gt_iff_lt, ge_iff_le, hip, hY]
      (repeat (with_reducible refine And.intro (by omega) ?_))
      rw [ivC_at y i (by omega)]
      first | refine callG_con (r2_In_con 0 (y.getD i (0, 0))) rfl ?_ | refine callCG_con (r2_In_con 0 (y.getD i (0, 0))) rfl ?_
      rw [(h1 i (by omega) h).1, (h1 i (by omega) h).2]
      simp -implicitDefEqProofs only [xC_skip, evS, decide_true, decide_false, decide_eq_true_eq, sides, Inst.places, List.zip_cons_cons, List.zip_nil_right, List.zip_nil_left, List.mem_cons, List.not_mem_nil, forall_eq_or_imp, forall_eq, false_implies, implies_true, Apart, xeff, xhv, hv, effC, xev, look, argSl, atL, drops, keep, inBlockT, pickX, callX, callCX, callee, List.map_cons, List.map_nil, List.append_nil, List.nil_append, List.cons_append, reduceCtorEq, ↓reduceIte, Nat.reduceEqDiff, Nat.reduceAdd, Nat.reduceMul, eq_self, List.length_replicate, Int.reduceToNat, Int.reduceAdd, Int.reduceSub, Int.reduceMul, Int.reduceNeg, Int.reduceLT, Int.reduceLE, rowD, rowI, rowsD, ivD, rowG, rowIG, rowsG, ivG, bne_self_eq_false, beq_self_eq_true, List.length_map, List.getD_cons_zero, List.getD_cons_succ, List.drop_succ_cons, List.drop_zero, List.take_succ_cons, List.take_zero, List.take_nil, List.getElem?_cons_zero, List.getElem?_cons_succ, List.length_cons, List.length_nil, List.length_set, List.set_cons_zero, List.set_cons_succ, List.all_cons, List.all_nil, Nat.reduceLT, Nat.reduceLeDiff, ne_eq, Option.some.injEq, fillV, partsV, V.okPart, gt_iff_lt, ge_iff_le]
      rw [wrapI (by omega) (by omega)]
      exact ⟨c - 1, by omega, i + 1, by omega, rfl⟩
  · replace h := of_decide_eq_false h
    simp -implicitDefEqProofs only [xC_skip, evS, decide_true, decide_false, decide_eq_true_eq, sides, Inst.places, List.zip_cons_cons, List.zip_nil_right, List.zip_nil_left, List.mem_cons, List.not_mem_nil, forall_eq_or_imp, forall_eq, false_implies, implies_true, Apart, xeff, xhv, hv, effC, xev, look, argSl, atL, drops, keep, inBlockT, pickX, callX, callCX, callee, List.map_cons, List.map_nil, List.append_nil, List.nil_append, List.cons_append, reduceCtorEq, ↓reduceIte, Nat.reduceEqDiff, Nat.reduceAdd, Nat.reduceMul, eq_self, List.length_replicate, Int.reduceToNat, Int.reduceAdd, Int.reduceSub, Int.reduceMul, Int.reduceNeg, Int.reduceLT, Int.reduceLE, rowD, rowI, rowsD, ivD, rowG, rowIG, rowsG, ivG, bne_self_eq_false, beq_self_eq_true, List.length_map, List.getD_cons_zero, List.getD_cons_succ, List.drop_succ_cons, List.drop_zero, List.take_succ_cons, List.take_zero, List.take_nil, List.getElem?_cons_zero, List.getElem?_cons_succ, List.length_cons, List.length_nil, List.length_set, List.set_cons_zero, List.set_cons_succ, List.all_cons, List.all_nil, Nat.reduceLT, Nat.reduceLeDiff, ne_eq, Option.some.injEq, fillV, partsV, V.okPart, gt_iff_lt, ge_iff_le]
    exact hQ _ _
/-- Whole numbers, added one by one. -/
def isum (g : Nat → Int) : Nat → Int
  | 0 => 0
  | m + 1 => isum g m + g m
theorem isum_le (g : Nat → Int) (b : Nat) : ∀ m, (∀ j, j < m → (g j).natAbs ≤ b) → (isum g m).natAbs ≤ m * b := by
  intro m
  induction m with
  | zero => intro _; simp [isum]
  | succ m ih =>
    intro h
    have h1 := ih fun j hj => h j (by omega)
    have h2 := h m (by omega)
    simp only [isum]
    rw [Nat.add_mul, Nat.one_mul]; omega
theorem isum_congr {g f : Nat → Int} : ∀ m, (∀ j, j < m → g j = f j) → isum g m = isum f m := by
  intro m
  induction m with
  | zero => intro _; rfl
  | succ m ih => intro h; simp only [isum]; rw [ih (fun j hj => h j (by omega)), h m (by omega)]
theorem isum_first (g : Nat → Int) : ∀ m, isum g (m + 1) = g 0 + isum (fun j => g (j + 1)) m := by
  intro m
  induction m with
  | zero => simp [isum]
  | succ m ih => simp only [isum] at ih ⊢; omega
theorem ix_val0 {x : Nat} {k : Int} (h : Ix 0 x k) : val x = (k : Rat) := by rw [h.val, pw_zero]; grind
theorem rabs_le_int {k : Int} {b : Nat} (h : k.natAbs ≤ b) : rabs (k : Rat) ≤ (b : Rat) := by
  rw [rabs_int]; exact_mod_cast Rat.natCast_le_natCast.2 h
theorem left_abt (A : List (List Nat)) (x b : List Nat) (i k : Nat) (α ξ : Nat → Int) (β : Int) (hk : k ≤ 4) (ha : ∀ j, j < k → Ix 0 (at2 A i j) (α j) ∧ (α j).natAbs ≤ 20) (hx : ∀ j, j < k → Ix 0 (x.getD j 0) (ξ j) ∧ (ξ j).natAbs ≤ 10)
    (hb : Ix 0 (b.getD i 0) β) (hb2 : β.natAbs ≤ 803) : ∀ m, m ≤ k → Abt (leftJ A x b i m) ((β - isum (fun j => α j * ξ j) m : Int) : Rat) ((m : Rat) * (eps + eps)) := by
  have hprod : ∀ j, j < k → (α j * ξ j).natAbs ≤ 200 := by
    intro j hj
    rw [Int.natAbs_mul]
    exact Nat.mul_le_mul (ha j hj).2 (hx j hj).2
  have he := eps_eq
  have he0 := eps_pos
  have hsm : eps ≤ 1 / 16 := by
    have h1 := pw_mono (show (-36 : Int) ≤ -4 by decide)
    have h2 := pw_up (-4) 4
    rw [show (-4 : Int) + ((4 : Nat) : Int) = 0 from rfl, pw_zero] at h2
    have h3 : ((2 ^ 4 : Nat) : Rat) = 16 := rfl
    rw [h3] at h2
    unfold eps; grind
  intro m
  induction m with
  | zero =>
    intro _
    have := abt_point hb.fin
    rw [ix_val0 hb] at this
    have e : ((0 : Nat) : Rat) * (eps + eps) = 0 := by
      have : ((0 : Nat) : Rat) = 0 := rfl
      rw [this]; grind
    have e2 : ((β - isum (fun j => α j * ξ j) 0 : Int) : Rat) = (β : Rat) := by simp [isum]
    rw [e, e2]; exact this
  | succ m ih =>
    intro hm
    have ih := ih (by omega)
    obtain ⟨a1, a2⟩ := ha m (by omega)
    obtain ⟨x1, x2⟩ := hx m (by omega)
    have hp := hprod m (by omega)
    have hmul := a1.mul x1 (by omega) (by decide) (by decide)
    have hv : val (at2 A i m) * val (x.getD m 0) = ((α m * ξ m : Int) : Rat) := by rw [ix_val0 a1, ix_val0 x1, Rat.intCast_mul]
    have hb1 : rabs ((α m * ξ m : Int) : Rat) ≤ 200 := rabs_le_int hp
    have hq := abt_mul a1.fin x1.fin (by rw [hv]; grind) (by rw [hv]; exact ix_val0 hmul)
    rw [hv] at hq
    have hs := isum_le (fun j => α j * ξ j) 200 m (fun j hj => hprod j (by omega))
    have hu : rabs ((β - isum (fun j => α j * ξ j) m : Int) : Rat) ≤ (1603 : Nat) := rabs_le_int (by omega)
    have h4 : (m : Rat) ≤ (4 : Nat) := by exact_mod_cast Rat.natCast_le_natCast.2 (show m ≤ 4 by omega)
    have h5 : ((4 : Nat) : Rat) = 4 := rfl
    have h6 : ((1603 : Nat) : Rat) = 1603 := rfl
    rw [h5] at h4
    rw [h6] at hu
    have h7 := Rat.mul_le_mul_of_nonneg_right h4 (show (0 : Rat) ≤ eps + eps by grind)
    have := abt_sub ih hq (by grind) (by grind) (by grind) (by grind)
    have e1 : ((β - isum (fun j => α j * ξ j) m : Int) : Rat) - ((α m * ξ m : Int) : Rat) = ((β - isum (fun j => α j * ξ j) (m + 1) : Int) : Rat) := by
      rw [← Rat.intCast_sub]
      exact congrArg (fun z : Int => (z : Rat)) (by simp only [isum]; omega)
    have e2 : (m : Rat) * (eps + eps) + eps + eps = ((m + 1 : Nat) : Rat) * (eps + eps) := by
      rw [Rat.natCast_add]
      have : ((1 : Nat) : Rat) = 1 := rfl
      rw [this]; grind
    rw [e1, e2] at this
    exact this
theorem accL_ix (A : List (List Nat)) (x : List Nat) (i k : Nat) (α ξ : Nat → Int) (hk : k ≤ 4) (ha : ∀ j, j < k → Ix 0 (at2 A i j) (α j) ∧ (α j).natAbs ≤ 20) (hx : ∀ j, j < k → Ix 0 (x.getD j 0) (ξ j) ∧ (ξ j).natAbs ≤ 10) :
    ∀ m, m ≤ k → Ix 0 (accL A x i m) (isum (fun j => α j * ξ j) m) := by
  have hprod : ∀ j, j < k → (α j * ξ j).natAbs ≤ 200 := by
    intro j hj
    rw [Int.natAbs_mul]
    exact Nat.mul_le_mul (ha j hj).2 (hx j hj).2
  intro m
  induction m with
  | zero => intro _; exact .zero _
  | succ m ih =>
    intro hm
    have hp := hprod m (by omega)
    have hle := isum_le (fun j => α j * ξ j) 200 (m + 1) (fun j hj => hprod j (by omega))
    simp only [isum] at hle
    have := (ih (by omega)).add ((ha m (by omega)).1.mul (hx m (by omega)).1 (by omega) (by decide) (by decide)) (by omega) (by decide) (by decide)
    exact this
def three : Nat := 4613937818241073152
theorem ix_three : Ix 0 three 3 := by
  have r : Ieee.double.read three = .number false 6755399441055744 (-51) := by decide
  refine ⟨⟨_, _, _, r⟩, ?_⟩
  rw [val_eq r]
  have h7 : (0 : Int) = -51 + (51 : Nat) := by decide
  have := (congrArg pw h7).trans (pw_up _ _)
  rw [this]; simp; grind
theorem aM_at (ns : List Int) (k r c : Nat) (hr : r < k) (hc : c < k) : ∃ z : Int, Ix 0 (at2 (aM ns k k) r c) z ∧ z.natAbs ≤ 20 := by
  have e : at2 (aM ns k k) r c = aE ns k r c := by simp [at2, aM, aRow, List.getD_eq_getElem?_getD, hr, hc]
  rw [e]
  unfold aE numA
  exact ⟨_, Ix.ofInt _ (by omega), by omega⟩
theorem xM_at (xs : List Int) (k r : Nat) (hr : r < k) : ∃ z : Int, Ix 0 ((xM xs k k).getD r 0) z ∧ z.natAbs ≤ 10 := by
  have e : (xM xs k k).getD r 0 = if r < k ∧ r < xs.length then numY (xs.getD r 0) else 0 := by simp [xM, List.getD_eq_getElem?_getD, hr]
  rw [e]
  split
  · unfold numY; exact ⟨_, Ix.ofInt _ (by omega), by omega⟩
  · exact ⟨0, .zero _, by decide⟩
theorem left_law (ns xs : List Int) (k : Nat) (hk : k ≤ 4) (h0 : 0 < k) (A : List (List Nat)) (hA : A = aM ns k k) (x : List Nat) (hx : x = xM xs k k) (b : List Nat) (hb : b = bM A x k k) (b2 : List Nat) (hb2 : b2 = b.set 0 (fop .add (b.getD 0 0) three)) :
    (∀ i, i < k → fcmp .le ((leftP A x b k).getD i (0, 0)).1 0 = true ∧ fcmp .le 0 ((leftP A x b k).getD i (0, 0)).2 = true) ∧
    (∀ i, 0 < i → i < k → fcmp .le ((leftP A x b2 k).getD i (0, 0)).1 0 = true ∧ fcmp .le 0 ((leftP A x b2 k).getD i (0, 0)).2 = true) ∧
    fcmp .le ((leftP A x b2 k).getD 0 (0, 0)).1 three = true ∧ fcmp .le three ((leftP A x b2 k).getD 0 (0, 0)).2 = true ∧ fcmp .le ((leftP A x b2 k).getD 0 (0, 0)).1 0 = false := by
  have keyA : ∀ r c, ∃ z : Int, r < k → c < k → Ix 0 (at2 A r c) z ∧ z.natAbs ≤ 20 := fun r c => by
    by_cases hr : r < k
    · by_cases hc : c < k
      · obtain ⟨z, hz⟩ := aM_at ns k r c hr hc; rw [← hA] at hz; exact ⟨z, fun _ _ => hz⟩
      · exact ⟨0, fun _ h => absurd h hc⟩
    · exact ⟨0, fun h => absurd h hr⟩
  have keyX : ∀ r, ∃ z : Int, r < k → Ix 0 (x.getD r 0) z ∧ z.natAbs ≤ 10 := fun r => by
    by_cases hr : r < k
    · obtain ⟨z, hz⟩ := xM_at xs k r hr; rw [← hx] at hz; exact ⟨z, fun _ => hz⟩
    · exact ⟨0, fun h => absurd h hr⟩
  obtain ⟨α, hα⟩ : ∃ α : Nat → Nat → Int, ∀ r c, r < k → c < k → Ix 0 (at2 A r c) (α r c) ∧ (α r c).natAbs ≤ 20 := ⟨fun r c => Classical.choose (keyA r c), fun r c => Classical.choose_spec (keyA r c)⟩
  obtain ⟨ξ, hξ⟩ : ∃ ξ : Nat → Int, ∀ r, r < k → Ix 0 (x.getD r 0) (ξ r) ∧ (ξ r).natAbs ≤ 10 := ⟨fun r => Classical.choose (keyX r), fun r => Classical.choose_spec (keyX r)⟩
  have hbl : b.length = k := by rw [hb, bM_len]
  have hbi : ∀ i, i < k → Ix 0 (b.getD i 0) (isum (fun j => α i j * ξ j) k) ∧ (isum (fun j => α i j * ξ j) k).natAbs ≤ 800 := by
    intro i hi
    have e : b.getD i 0 = accL A x i k := by rw [hb]; simp [bM, List.getD_eq_getElem?_getD, hi]
    rw [e]
    refine ⟨accL_ix A x i k (α i) ξ hk (fun j hj => hα i j hi hj) hξ k (Nat.le_refl k), ?_⟩
    have := isum_le (fun j => α i j * ξ j) 200 k (fun j hj => by rw [Int.natAbs_mul]; exact Nat.mul_le_mul (hα i j hi hj).2 (hξ j hj).2)
    omega
  have hz : ∀ (b' : List Nat) i, i < k → (leftP A x b' k).getD i (0, 0) = leftJ A x b' i k := fun b' i hi => by simp [leftP, List.getD_eq_getElem?_getD, hi]
  have hab : ∀ (b' : List Nat) i (β : Int), i < k → Ix 0 (b'.getD i 0) β → β.natAbs ≤ 803 → Abt ((leftP A x b' k).getD i (0, 0)) ((β - isum (fun j => α i j * ξ j) k : Int) : Rat) ((k : Rat) * (eps + eps)) := by
    intro b' i β hi h1 h2
    rw [hz b' i hi]
    exact left_abt A x b' i k (α i) ξ β hk (fun j hj => hα i j hi hj) hξ h1 h2 k (Nat.le_refl k)
  have hi2 : ∀ i, 0 < i → b2.getD i 0 = b.getD i 0 := fun i hi => by rw [hb2, getD_set _ _ _ _ (by omega), if_neg (by omega)]
  refine ⟨fun i hi => ?_, fun i h1 hi => ?_, ?_⟩
  · have := hab b i _ hi (hbi i hi).1 (by have := (hbi i hi).2; omega)
    exact abt_in this fin_zero (by rw [val_zero, Int.sub_self]; rfl)
  · have := hab b2 i _ hi (by rw [hi2 i h1]; exact (hbi i hi).1) (by have := (hbi i hi).2; omega)
    exact abt_in this fin_zero (by rw [val_zero, Int.sub_self]; rfl)
  · have h1 := (hbi 0 h0).2
    have e : b2.getD 0 0 = fop .add (b.getD 0 0) three := by rw [hb2, getD_set _ _ _ _ (by omega), if_pos rfl]
    have h2 := (hbi 0 h0).1.add ix_three (by omega) (by decide) (by decide)
    have := hab b2 0 _ h0 (by rw [e]; exact h2) (by omega)
    rw [show isum (fun j => α 0 j * ξ j) k + 3 - isum (fun j => α 0 j * ξ j) k = 3 from by omega] at this
    have h3 := abt_in this ix_three.fin (by rw [ix_val0 ix_three])
    refine ⟨h3.1, h3.2, abt_out this fin_zero ?_⟩
    rw [val_zero]
    have h4 : (k : Rat) ≤ (4 : Nat) := by exact_mod_cast Rat.natCast_le_natCast.2 hk
    have h5 : ((4 : Nat) : Rat) = 4 := rfl
    rw [h5] at h4
    have he0 := eps_pos
    have h7 := Rat.mul_le_mul_of_nonneg_right h4 (show (0 : Rat) ≤ eps + eps by grind)
    have hsm : eps ≤ 1 := by
      have h1 := pw_mono (show (-36 : Int) ≤ 0 by decide)
      rw [pw_zero] at h1; exact h1
    have h8 : ((3 : Int) : Rat) = 3 := rfl
    have hs2 : eps ≤ 1 / 16 := by
      have h1 := pw_mono (show (-36 : Int) ≤ -4 by decide)
      have h2 := pw_up (-4) 4
      rw [show (-4 : Int) + ((4 : Nat) : Int) = 0 from rfl, pw_zero] at h2
      have h3 : ((2 ^ 4 : Nat) : Rat) = 16 := rfl
      rw [h3] at h2
      unfold eps; grind
    rw [h8]; grind
set_option maxRecDepth 8000 in
theorem l6_LinLeft_con (ns xs : List Int) (n : Int) (hns : ns.length < 2 ^ 62) (hxs : xs.length < 2 ^ 62) : Con Try.prog 7 [.d (rowI ns), .d (rowI xs), fI n] (fB true) := by
  refine Con_introA A_l6_LinLeft_comp rfl mixed ?_
  simp -implicitDefEqProofs only [xC_skip, evS, decide_true, decide_false, decide_eq_true_eq, sides, Inst.places, List.zip_cons_cons, List.zip_nil_right, List.zip_nil_left, List.mem_cons, List.not_mem_nil, forall_eq_or_imp, forall_eq, false_implies, implies_true, Apart, xeff, xhv, hv, effC, xev, look, argSl, atL, drops, keep, inBlockT, pickX, callX, callCX, callee, List.map_cons, List.map_nil, List.append_nil, List.nil_append, List.cons_append, reduceCtorEq, ↓reduceIte, Nat.reduceEqDiff, Nat.reduceAdd, Nat.reduceMul, eq_self, List.length_replicate, Int.reduceToNat, Int.reduceAdd, Int.reduceSub, Int.reduceMul, Int.reduceNeg, Int.reduceLT, Int.reduceLE, rowD, rowI, rowsD, ivD, rowG, rowIG, rowsG, ivG, bne_self_eq_false, beq_self_eq_true, List.length_map, List.getD_cons_zero, List.getD_cons_succ, List.drop_succ_cons, List.drop_zero, List.take_succ_cons, List.take_zero, List.take_nil, List.getElem?_cons_zero, List.getElem?_cons_succ, List.length_cons, List.length_nil, List.length_set, List.set_cons_zero, List.set_cons_succ, List.all_cons, List.all_nil, Nat.reduceLT, Nat.reduceLeDiff, ne_eq, Option.some.injEq, fillV, partsV, V.okPart, gt_iff_lt, ge_iff_le, A_l6_LinLeft]
  first | refine callG_con (l6_known_con) rfl ?_ | refine callCG_con (l6_known_con) rfl ?_
  simp -implicitDefEqProofs only [xC_skip, evS, decide_true, decide_false, decide_eq_true_eq, sides, Inst.places, List.zip_cons_cons, List.zip_nil_right, List.zip_nil_left, List.mem_cons, List.not_mem_nil, forall_eq_or_imp, forall_eq, false_implies, implies_true, Apart, xeff, xhv, hv, effC, xev, look, argSl, atL, drops, keep, inBlockT, pickX, callX, callCX, callee, List.map_cons, List.map_nil, List.append_nil, List.nil_append, List.cons_append, reduceCtorEq, ↓reduceIte, Nat.reduceEqDiff, Nat.reduceAdd, Nat.reduceMul, eq_self, List.length_replicate, Int.reduceToNat, Int.reduceAdd, Int.reduceSub, Int.reduceMul, Int.reduceNeg, Int.reduceLT, Int.reduceLE, rowD, rowI, rowsD, ivD, rowG, rowIG, rowsG, ivG, bne_self_eq_false, beq_self_eq_true, List.length_map, List.getD_cons_zero, List.getD_cons_succ, List.drop_succ_cons, List.drop_zero, List.take_succ_cons, List.take_zero, List.take_nil, List.getElem?_cons_zero, List.getElem?_cons_succ, List.length_cons, List.length_nil, List.length_set, List.set_cons_zero, List.set_cons_succ, List.all_cons, List.all_nil, Nat.reduceLT, Nat.reduceLeDiff, ne_eq, Option.some.injEq, fillV, partsV, V.okPart, gt_iff_lt, ge_iff_le]
  first | refine callG_con (l6_within_con n 4 (by decide) (by decide)) rfl ?_ | refine callCG_con (l6_within_con n 4 (by decide) (by decide)) rfl ?_
  have m1 := Int.emod_nonneg n (by decide : (4 : Int) ≠ 0)
  have m2 := Int.emod_lt_of_pos n (by decide : (0 : Int) < 4)
  generalize n % 4 = z at m1 m2
  obtain ⟨z, rfl⟩ : ∃ z' : Nat, z = z' := ⟨z.toNat, by omega⟩
  have w1 : IntKind.i64.wrap (1 + (z : Int)) = ((z + 1 : Nat) : Int) := by rw [wrapI (by omega) (by omega)]; omega
  simp -implicitDefEqProofs only [xC_skip, evS, decide_true, decide_false, decide_eq_true_eq, sides, Inst.places, List.zip_cons_cons, List.zip_nil_right, List.zip_nil_left, List.mem_cons, List.not_mem_nil, forall_eq_or_imp, forall_eq, false_implies, implies_true, Apart, xeff, xhv, hv, effC, xev, look, argSl, atL, drops, keep, inBlockT, pickX, callX, callCX, callee, List.map_cons, List.map_nil, List.append_nil, List.nil_append, List.cons_append, reduceCtorEq, ↓reduceIte, Nat.reduceEqDiff, Nat.reduceAdd, Nat.reduceMul, eq_self, List.length_replicate, Int.reduceToNat, Int.reduceAdd, Int.reduceSub, Int.reduceMul, Int.reduceNeg, Int.reduceLT, Int.reduceLE, rowD, rowI, rowsD, ivD, rowG, rowIG, rowsG, ivG, bne_self_eq_false, beq_self_eq_true, List.length_map, List.getD_cons_zero, List.getD_cons_succ, List.drop_succ_cons, List.drop_zero, List.take_succ_cons, List.take_zero, List.take_nil, List.getElem?_cons_zero, List.getElem?_cons_succ, List.length_cons, List.length_nil, List.length_set, List.set_cons_zero, List.set_cons_succ, List.all_cons, List.all_nil, Nat.reduceLT, Nat.reduceLeDiff, ne_eq, Option.some.injEq, fillV, partsV, V.okPart, gt_iff_lt, ge_iff_le, w1]
  have hk4 : z + 1 ≤ 4 := by omega
  have hk1 : 0 < z + 1 := by omega
  generalize z + 1 = k at *
  (repeat (with_reducible refine And.intro (by omega) ?_))
  refine left_out _ (fun _ h => h) ns xs k _ (by omega) hns hxs _ fun v w => ?_
  simp -implicitDefEqProofs only [xC_skip, evS, decide_true, decide_false, decide_eq_true_eq, sides, Inst.places, List.zip_cons_cons, List.zip_nil_right, List.zip_nil_left, List.mem_cons, List.not_mem_nil, forall_eq_or_imp, forall_eq, false_implies, implies_true, Apart, xeff, xhv, hv, effC, xev, look, argSl, atL, drops, keep, inBlockT, pickX, callX, callCX, callee, List.map_cons, List.map_nil, List.append_nil, List.nil_append, List.cons_append, reduceCtorEq, ↓reduceIte, Nat.reduceEqDiff, Nat.reduceAdd, Nat.reduceMul, eq_self, List.length_replicate, Int.reduceToNat, Int.reduceAdd, Int.reduceSub, Int.reduceMul, Int.reduceNeg, Int.reduceLT, Int.reduceLE, rowD, rowI, rowsD, ivD, rowG, rowIG, rowsG, ivG, bne_self_eq_false, beq_self_eq_true, List.length_map, List.getD_cons_zero, List.getD_cons_succ, List.drop_succ_cons, List.drop_zero, List.take_succ_cons, List.take_zero, List.take_nil, List.getElem?_cons_zero, List.getElem?_cons_succ, List.length_cons, List.length_nil, List.length_set, List.set_cons_zero, List.set_cons_succ, List.all_cons, List.all_nil, Nat.reduceLT, Nat.reduceLeDiff, ne_eq, Option.some.injEq, fillV, partsV, V.okPart, gt_iff_lt, ge_iff_le]
  refine left_L2 _ (aM ns k k) (xM xs k k) k (aM_sq ns k) (xM_len _ _ _) (by omega) _ fun v w => ?_
  simp -implicitDefEqProofs only [xC_skip, evS, decide_true, decide_false, decide_eq_true_eq, sides, Inst.places, List.zip_cons_cons, List.zip_nil_right, List.zip_nil_left, List.mem_cons, List.not_mem_nil, forall_eq_or_imp, forall_eq, false_implies, implies_true, Apart, xeff, xhv, hv, effC, xev, look, argSl, atL, drops, keep, inBlockT, pickX, callX, callCX, callee, List.map_cons, List.map_nil, List.append_nil, List.nil_append, List.cons_append, reduceCtorEq, ↓reduceIte, Nat.reduceEqDiff, Nat.reduceAdd, Nat.reduceMul, eq_self, List.length_replicate, Int.reduceToNat, Int.reduceAdd, Int.reduceSub, Int.reduceMul, Int.reduceNeg, Int.reduceLT, Int.reduceLE, rowD, rowI, rowsD, ivD, rowG, rowIG, rowsG, ivG, bne_self_eq_false, beq_self_eq_true, List.length_map, List.getD_cons_zero, List.getD_cons_succ, List.drop_succ_cons, List.drop_zero, List.take_succ_cons, List.take_zero, List.take_nil, List.getElem?_cons_zero, List.getElem?_cons_succ, List.length_cons, List.length_nil, List.length_set, List.set_cons_zero, List.set_cons_succ, List.all_cons, List.all_nil, Nat.reduceLT, Nat.reduceLeDiff, ne_eq, Option.some.injEq, fillV, partsV, V.okPart, gt_iff_lt, ge_iff_le, lbH]
  have hsq := aM_sq ns k
  have hxl := xM_len xs k k
  have hbl := bM_len (aM ns k k) (xM xs k k) k k
  have law := left_law ns xs k hk4 hk1 _ rfl _ rfl _ rfl _ rfl
  generalize bM (aM ns k k) (xM xs k k) k k = b at *
  generalize aM ns k k = A at *
  generalize xM xs k k = x at *
  have hAl := hsq.1
  have hAr : ∀ r, r < k → (A.map rowV)[r]? = some (rowV (A.getD r [])) := fun r hr => getE A r (by omega)
  have hd0 := hd_all 100 k k
  refine left_named 1000 (by simp [Heap.next]) hsq (by omega) (X := 100) (o := 0) (by simp [get_cons, hd0]) (fun r hr => ?_) hxl (snp_row (by simp [get_cons]) hxl rfl) hbl (snp_row (by simp [get_cons]) hbl rfl) _ ?_
  · simp only [get_cons, Nat.reduceEqDiff, if_false, if_true, Nat.add_zero]
    exact hAr r hr
  have e0 : 0 < b.length := by omega
  simp -implicitDefEqProofs only [xC_skip, evS, decide_true, decide_false, decide_eq_true_eq, sides, Inst.places, List.zip_cons_cons, List.zip_nil_right, List.zip_nil_left, List.mem_cons, List.not_mem_nil, forall_eq_or_imp, forall_eq, false_implies, implies_true, Apart, xeff, xhv, hv, effC, xev, look, argSl, atL, drops, keep, inBlockT, pickX, callX, callCX, callee, List.map_cons, List.map_nil, List.append_nil, List.nil_append, List.cons_append, reduceCtorEq, ↓reduceIte, Nat.reduceEqDiff, Nat.reduceAdd, Nat.reduceMul, eq_self, List.length_replicate, Int.reduceToNat, Int.reduceAdd, Int.reduceSub, Int.reduceMul, Int.reduceNeg, Int.reduceLT, Int.reduceLE, rowD, rowI, rowsD, ivD, rowG, rowIG, rowsG, ivG, bne_self_eq_false, beq_self_eq_true, List.length_map, List.getD_cons_zero, List.getD_cons_succ, List.drop_succ_cons, List.drop_zero, List.take_succ_cons, List.take_zero, List.take_nil, List.getElem?_cons_zero, List.getElem?_cons_succ, List.length_cons, List.length_nil, List.length_set, List.set_cons_zero, List.set_cons_succ, List.all_cons, List.all_nil, Nat.reduceLT, Nat.reduceLeDiff, ne_eq, Option.some.injEq, fillV, partsV, V.okPart, gt_iff_lt, ge_iff_le, getD_map_fl _ _ e0]
  (repeat (with_reducible refine And.intro (by omega) ?_))
  have hb2l : (b.set 0 (fop .add (b.getD 0 0) 4613937818241073152)).length = k := by simp [hbl]
  have law2 : b.set 0 (fop .add (b.getD 0 0) three) = b.set 0 (fop .add (b.getD 0 0) 4613937818241073152) := rfl
  rw [law2] at law
  generalize b.set 0 (fop .add (b.getD 0 0) 4613937818241073152) = b2 at *
  refine left_named 2000 (by simp [Heap.next]) hsq (by omega) (X := 100) (o := 0) (by simp [get_cons, hd0]) (fun r hr => ?_) hxl (snp_row (by simp [get_cons]) hxl rfl) hb2l (snp_row (by simp [get_cons]) hb2l rfl) _ ?_
  · simp only [get_cons, Nat.reduceEqDiff, if_false, if_true, Nat.add_zero]
    exact hAr r hr
  have hzl := leftP_len A x b k
  have hyl := leftP_len A x b2 k
  generalize leftP A x b k = z at law hzl
  generalize leftP A x b2 k = y at law hyl
  obtain ⟨l1, l2, l3, l4, l5⟩ := law
  simp -implicitDefEqProofs only [xC_skip, evS, decide_true, decide_false, decide_eq_true_eq, sides, Inst.places, List.zip_cons_cons, List.zip_nil_right, List.zip_nil_left, List.mem_cons, List.not_mem_nil, forall_eq_or_imp, forall_eq, false_implies, implies_true, Apart, xeff, xhv, hv, effC, xev, look, argSl, atL, drops, keep, inBlockT, pickX, callX, callCX, callee, List.map_cons, List.map_nil, List.append_nil, List.nil_append, List.cons_append, reduceCtorEq, ↓reduceIte, Nat.reduceEqDiff, Nat.reduceAdd, Nat.reduceMul, eq_self, List.length_replicate, Int.reduceToNat, Int.reduceAdd, Int.reduceSub, Int.reduceMul, Int.reduceNeg, Int.reduceLT, Int.reduceLE, rowD, rowI, rowsD, ivD, rowG, rowIG, rowsG, ivG, bne_self_eq_false, beq_self_eq_true, List.length_map, List.getD_cons_zero, List.getD_cons_succ, List.drop_succ_cons, List.drop_zero, List.take_succ_cons, List.take_zero, List.take_nil, List.getElem?_cons_zero, List.getElem?_cons_succ, List.length_cons, List.length_nil, List.length_set, List.set_cons_zero, List.set_cons_succ, List.all_cons, List.all_nil, Nat.reduceLT, Nat.reduceLeDiff, ne_eq, Option.some.injEq, fillV, partsV, V.okPart, gt_iff_lt, ge_iff_le, bne_self_eq_false]
  refine left_L4 _ z y k 1002 2002 _ (by omega) (by simp [get_cons]) (by simp [get_cons]) hzl hyl l1 l2 _ fun v w => ?_
  simp -implicitDefEqProofs only [xC_skip, evS, decide_true, decide_false, decide_eq_true_eq, sides, Inst.places, List.zip_cons_cons, List.zip_nil_right, List.zip_nil_left, List.mem_cons, List.not_mem_nil, forall_eq_or_imp, forall_eq, false_implies, implies_true, Apart, xeff, xhv, hv, effC, xev, look, argSl, atL, drops, keep, inBlockT, pickX, callX, callCX, callee, List.map_cons, List.map_nil, List.append_nil, List.nil_append, List.cons_append, reduceCtorEq, ↓reduceIte, Nat.reduceEqDiff, Nat.reduceAdd, Nat.reduceMul, eq_self, List.length_replicate, Int.reduceToNat, Int.reduceAdd, Int.reduceSub, Int.reduceMul, Int.reduceNeg, Int.reduceLT, Int.reduceLE, rowD, rowI, rowsD, ivD, rowG, rowIG, rowsG, ivG, bne_self_eq_false, beq_self_eq_true, List.length_map, List.getD_cons_zero, List.getD_cons_succ, List.drop_succ_cons, List.drop_zero, List.take_succ_cons, List.take_zero, List.take_nil, List.getElem?_cons_zero, List.getElem?_cons_succ, List.length_cons, List.length_nil, List.length_set, List.set_cons_zero, List.set_cons_succ, List.all_cons, List.all_nil, Nat.reduceLT, Nat.reduceLeDiff, ne_eq, Option.some.injEq, fillV, partsV, V.okPart, gt_iff_lt, ge_iff_le]
  (repeat (with_reducible refine And.intro (by omega) ?_))
  have hy0 : List.take 2 (ivC y) = [fl (y.getD 0 (0, 0)).1, fl (y.getD 0 (0, 0)).2] := by
    have := ivC_at y 0 (by omega)
    simpa using this
  rw [hy0]
  first | refine callG_con (r2_In_con 4613937818241073152 (y.getD 0 (0, 0))) rfl ?_ | refine callCG_con (r2_In_con 4613937818241073152 (y.getD 0 (0, 0))) rfl ?_
  rw [show (4613937818241073152 : Nat) = three from rfl, l3, l4]
  simp -implicitDefEqProofs only [xC_skip, evS, decide_true, decide_false, decide_eq_true_eq, sides, Inst.places, List.zip_cons_cons, List.zip_nil_right, List.zip_nil_left, List.mem_cons, List.not_mem_nil, forall_eq_or_imp, forall_eq, false_implies, implies_true, Apart, xeff, xhv, hv, effC, xev, look, argSl, atL, drops, keep, inBlockT, pickX, callX, callCX, callee, List.map_cons, List.map_nil, List.append_nil, List.nil_append, List.cons_append, reduceCtorEq, ↓reduceIte, Nat.reduceEqDiff, Nat.reduceAdd, Nat.reduceMul, eq_self, List.length_replicate, Int.reduceToNat, Int.reduceAdd, Int.reduceSub, Int.reduceMul, Int.reduceNeg, Int.reduceLT, Int.reduceLE, rowD, rowI, rowsD, ivD, rowG, rowIG, rowsG, ivG, bne_self_eq_false, beq_self_eq_true, List.length_map, List.getD_cons_zero, List.getD_cons_succ, List.drop_succ_cons, List.drop_zero, List.take_succ_cons, List.take_zero, List.take_nil, List.getElem?_cons_zero, List.getElem?_cons_succ, List.length_cons, List.length_nil, List.length_set, List.set_cons_zero, List.set_cons_succ, List.all_cons, List.all_nil, Nat.reduceLT, Nat.reduceLeDiff, ne_eq, Option.some.injEq, fillV, partsV, V.okPart, gt_iff_lt, ge_iff_le]
  (repeat (with_reducible refine And.intro (by omega) ?_))
  rw [hy0]
  first | refine callG_con (r2_In_con 0 (y.getD 0 (0, 0))) rfl ?_ | refine callCG_con (r2_In_con 0 (y.getD 0 (0, 0))) rfl ?_
  rw [l5]
  simp -implicitDefEqProofs only [xC_skip, evS, decide_true, decide_false, decide_eq_true_eq, sides, Inst.places, List.zip_cons_cons, List.zip_nil_right, List.zip_nil_left, List.mem_cons, List.not_mem_nil, forall_eq_or_imp, forall_eq, false_implies, implies_true, Apart, xeff, xhv, hv, effC, xev, look, argSl, atL, drops, keep, inBlockT, pickX, callX, callCX, callee, List.map_cons, List.map_nil, List.append_nil, List.nil_append, List.cons_append, reduceCtorEq, ↓reduceIte, Nat.reduceEqDiff, Nat.reduceAdd, Nat.reduceMul, eq_self, List.length_replicate, Int.reduceToNat, Int.reduceAdd, Int.reduceSub, Int.reduceMul, Int.reduceNeg, Int.reduceLT, Int.reduceLE, rowD, rowI, rowsD, ivD, rowG, rowIG, rowsG, ivG, bne_self_eq_false, beq_self_eq_true, List.length_map, List.getD_cons_zero, List.getD_cons_succ, List.drop_succ_cons, List.drop_zero, List.take_succ_cons, List.take_zero, List.take_nil, List.getElem?_cons_zero, List.getElem?_cons_succ, List.length_cons, List.length_nil, List.length_set, List.set_cons_zero, List.set_cons_succ, List.all_cons, List.all_nil, Nat.reduceLT, Nat.reduceLeDiff, ne_eq, Option.some.injEq, fillV, partsV, V.okPart, gt_iff_lt, ge_iff_le, Bool.false_and]
  exact endsT_rett rfl (by decide) (by simp [look])
end Go.Ab
