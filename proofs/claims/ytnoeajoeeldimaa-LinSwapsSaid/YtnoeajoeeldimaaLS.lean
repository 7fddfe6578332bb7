/- LinParts: the parts multiplied are the rows, but for what rounding does. -/
import Derived.Test.YtnoeajoeeldimaaLO
import Derived.Test.YtnoeajoeeldimaaZS
namespace Go.Ab
set_option linter.unusedSimpArgs false
set_option linter.unusedVariables false
open Go Go.Proofs
def A_l6_LinParts_L2 : CA := (.seq (.seq (.reg [⟨0, (some 95), none, [], [], (.h (.mov (.t 14)))⟩, ⟨1, (some 96), none, [], [], (.h (.mov (.t 10)))⟩, ⟨2, (some 97), none, [], [], (.h (.mov (.t 12)))⟩, ⟨3, (some 98), none, [], [], (.h (.mm false (.t 96) (.t 97)))⟩, ⟨4, (some 99), none, [], [], (.h (.ibin .leq (.t 95) (.t 98)))⟩] [5, 6, 7, 9, 10, 11, 12, 13, 14, 99]) (.cond (.t 99) .skip (.exit 4))) (.seq (.block 5 (.seq (.reg [⟨0, (some 15), none, [], [], (.h (.mov (.k (.d (.flt 4607182418800017408)))))⟩] [5, 6, 7, 9, 10, 11, 12, 13, 14, 15]) (.seq (.seq (.reg [⟨0, (some 102), none, [], [], (.h (.mov (.t 14)))⟩, ⟨1, (some 103), none, [], [], (.h (.mov (.t 10)))⟩, ⟨2, (some 104), none, [], [], (.h (.ibin .lss (.t 102) (.t 103)))⟩] [5, 6, 7, 9, 10, 11, 12, 13, 14, 15, 104]) (.cond (.t 104) (.reg [⟨0, (some 105), none, [], [], (.h (.padd (.t 7) 0))⟩, ⟨1, (some 106), none, [], [], (.load (.t 105) 1 false)⟩, ⟨2, (some 107), none, [], [], (.h (.mov (.t 10)))⟩, ⟨3, (some 108), none, [], [], (.h (.idx (.t 106) (.t 107) 1))⟩, ⟨4, (some 109), none, [], [], (.load (.t 108) 1 false)⟩, ⟨5, (some 110), none, [], [], (.h (.mov (.t 14)))⟩, ⟨6, (some 111), none, [], [], (.h (.idx (.t 109) (.t 110) 1))⟩, ⟨7, (some 112), none, [], [], (.load (.t 111) 1 false)⟩, ⟨8, (some 15), none, [], [], (.h (.mov (.t 112)))⟩] [5, 6, 7, 9, 10, 11, 12, 13, 14, 15]) .skip)) (.reg [⟨0, (some 113), none, [], [], (.h (.mov (.t 13)))⟩, ⟨1, (some 114), none, [], [], (.h (.mov (.t 15)))⟩, ⟨2, (some 115), none, [], [], (.h (.padd (.t 7) 0))⟩, ⟨3, (some 116), none, [], [], (.load (.t 115) 1 false)⟩, ⟨4, (some 117), none, [], [], (.h (.mov (.t 14)))⟩, ⟨5, (some 118), none, [], [], (.h (.idx (.t 116) (.t 117) 1))⟩, ⟨6, (some 119), none, [], [], (.load (.t 118) 1 false)⟩, ⟨7, (some 120), none, [], [], (.h (.mov (.t 12)))⟩, ⟨8, (some 121), none, [], [], (.h (.idx (.t 119) (.t 120) 1))⟩, ⟨9, (some 122), none, [], [], (.load (.t 121) 1 false)⟩, ⟨10, (some 123), none, [], [], (.h (.fbin .mul (.t 114) (.t 122)))⟩, ⟨11, (some 124), none, [], [], (.h (.fbin .add (.t 113) (.t 123)))⟩, ⟨12, (some 13), none, [], [], (.h (.mov (.t 124)))⟩] [5, 6, 7, 9, 10, 11, 12, 13, 14])))) (.reg [⟨0, (some 100), none, [], [], (.h (.mov (.t 14)))⟩, ⟨1, (some 101), none, [], [], (.h (.ibin .add (.t 100) (.k (.d (.int .i64 1)))))⟩, ⟨2, (some 14), none, [], [], (.h (.mov (.t 101)))⟩] [5, 6, 7, 9, 10, 11, 12, 13, 14])))
def A_l6_LinParts_L1 : CA := (.seq (.seq (.reg [⟨0, (some 90), none, [], [], (.h (.mov (.t 12)))⟩, ⟨1, (some 91), none, [], [], (.h (.mov (.t 6)))⟩, ⟨2, (some 92), none, [], [], (.h (.ibin .lss (.t 90) (.t 91)))⟩] [5, 6, 7, 9, 10, 11, 12, 92]) (.cond (.t 92) .skip (.exit 2))) (.seq (.block 3 (.seq (.reg [⟨0, (some 13), none, [], [], (.h (.mov (.k (.d (.flt 0)))))⟩] [5, 6, 7, 9, 10, 11, 12, 13]) (.seq (.seq (.reg [⟨0, (some 14), none, [], [], (.h (.mov (.k (.d (.int .i64 0)))))⟩] [5, 6, 7, 9, 10, 11, 12, 13, 14]) (.block 4 (.loop A_l6_LinParts_L2))) (.seq (.reg [⟨0, (some 125), none, [], [], (.h (.mov (.t 13)))⟩, ⟨1, (some 126), none, [], [], (.h (.mov (.t 5)))⟩, ⟨2, (some 127), none, [], [], (.h (.mov (.t 11)))⟩, ⟨3, (some 128), none, [], [], (.h (.idx (.t 126) (.t 127) 1))⟩, ⟨4, (some 129), none, [], [], (.load (.t 128) 1 false)⟩, ⟨5, (some 130), none, [], [], (.h (.mov (.t 12)))⟩, ⟨6, (some 131), none, [], [], (.h (.idx (.t 129) (.t 130) 1))⟩, ⟨7, (some 132), none, [], [], (.load (.t 131) 1 false)⟩, ⟨8, (some 133), none, [], [], (.h (.fbin .sub (.t 125) (.t 132)))⟩, ⟨9, (some 134), none, [], [], (.callA (.k (.d (.fn 26 [] []))) [(.t 133)])⟩, ⟨10, (some 135), none, [], [], (.h (.fcmp .gt (.t 134) (.k (.d (.flt 4457293557087583675)))))⟩, ⟨11, (some 136), none, [], [], (.h (.mov (.t 135)))⟩, ⟨12, (some 137), (some (136, false)), [], [], (.h (.mov (.t 12)))⟩, ⟨13, (some 138), (some (136, false)), [], [], (.h (.mov (.t 10)))⟩, ⟨14, (some 139), (some (136, false)), [], [], (.h (.ibin .lss (.t 137) (.t 138)))⟩, ⟨15, (some 140), (some (136, false)), [], [], (.h (.mov (.t 139)))⟩, ⟨16, (some 141), (some (140, true)), [], [], (.h (.padd (.t 7) 0))⟩, ⟨17, (some 142), (some (140, true)), [], [], (.load (.t 141) 1 false)⟩, ⟨18, (some 143), (some (140, true)), [], [], (.h (.mov (.t 10)))⟩, ⟨19, (some 144), (some (140, true)), [], [], (.h (.idx (.t 142) (.t 143) 1))⟩, ⟨20, (some 145), (some (140, true)), [], [], (.load (.t 144) 1 false)⟩, ⟨21, (some 146), (some (140, true)), [], [], (.h (.mov (.t 12)))⟩, ⟨22, (some 147), (some (140, true)), [], [], (.h (.idx (.t 145) (.t 146) 1))⟩, ⟨23, (some 148), (some (140, true)), [], [], (.load (.t 147) 1 false)⟩, ⟨24, (some 149), (some (140, true)), [], [], (.callA (.k (.d (.fn 26 [] []))) [(.t 148)])⟩, ⟨25, (some 150), (some (140, true)), [], [], (.h (.fcmp .gt (.t 149) (.k (.d (.flt 4607182418800017408)))))⟩, ⟨26, (some 151), (some (136, false)), [], [], (.h (.pick (.t 140) (.t 150) (.k (.d (.bool false)))))⟩, ⟨27, (some 152), none, [], [], (.h (.pick (.t 136) (.k (.d (.bool true))) (.t 151)))⟩] [5, 6, 7, 9, 10, 11, 12, 152]) (.cond (.t 152) (.seq (.reg [⟨0, (some 4), none, [], [], (.h (.mov (.k (.d (.bool false)))))⟩] [4]) .ret) .skip))))) (.reg [⟨0, (some 93), none, [], [], (.h (.mov (.t 12)))⟩, ⟨1, (some 94), none, [], [], (.h (.ibin .add (.t 93) (.k (.d (.int .i64 1)))))⟩, ⟨2, (some 12), none, [], [], (.h (.mov (.t 94)))⟩] [5, 6, 7, 9, 10, 11, 12])))
def A_l6_LinParts_L0 : CA := (.seq (.seq (.reg [⟨0, (some 54), none, [], [], (.h (.mov (.t 10)))⟩, ⟨1, (some 55), none, [], [], (.h (.mov (.t 6)))⟩, ⟨2, (some 56), none, [], [], (.h (.ibin .lss (.t 54) (.t 55)))⟩] [5, 6, 7, 9, 10, 56]) (.cond (.t 56) .skip (.exit 0))) (.seq (.block 1 (.seq (.reg [⟨0, (some 59), none, [], [], (.h (.padd (.t 7) 1))⟩, ⟨1, (some 60), none, [], [], (.load (.t 59) 1 false)⟩, ⟨2, (some 61), none, [], [], (.h (.mov (.t 10)))⟩, ⟨3, (some 62), none, [], [], (.h (.idx (.t 60) (.t 61) 1))⟩, ⟨4, (some 63), none, [], [], (.load (.t 62) 1 false)⟩, ⟨5, (some 11), none, [], [], (.h (.mov (.t 63)))⟩] [5, 6, 7, 9, 10, 11]) (.seq (.seq (.reg [⟨0, (some 64), none, [], [], (.h (.mov (.t 11)))⟩, ⟨1, (some 65), none, [], [], (.h (.ibin .lss (.t 64) (.k (.d (.int .i64 0)))))⟩, ⟨2, (some 66), none, [], [], (.h (.mov (.t 65)))⟩, ⟨3, (some 67), (some (66, false)), [], [], (.h (.mov (.t 11)))⟩, ⟨4, (some 68), (some (66, false)), [], [], (.h (.mov (.t 6)))⟩, ⟨5, (some 69), (some (66, false)), [], [], (.h (.ibin .geq (.t 67) (.t 68)))⟩, ⟨6, (some 70), none, [], [], (.h (.pick (.t 66) (.k (.d (.bool true))) (.t 69)))⟩, ⟨7, (some 71), none, [], [], (.h (.mov (.t 70)))⟩, ⟨8, (some 72), (some (71, false)), [], [], (.h (.mov (.t 9)))⟩, ⟨9, (some 73), (some (71, false)), [], [], (.h (.mov (.t 11)))⟩, ⟨10, (some 74), (some (71, false)), [], [], (.h (.idx (.t 72) (.t 73) 1))⟩, ⟨11, (some 75), (some (71, false)), [], [], (.load (.t 74) 1 false)⟩, ⟨12, (some 76), none, [], [], (.h (.pick (.t 71) (.k (.d (.bool true))) (.t 75)))⟩, ⟨13, (some 77), none, [], [], (.h (.mov (.t 76)))⟩, ⟨14, (some 78), (some (77, false)), [], [], (.h (.padd (.t 7) 0))⟩, ⟨15, (some 79), (some (77, false)), [], [], (.load (.t 78) 1 false)⟩, ⟨16, (some 80), (some (77, false)), [], [], (.h (.mov (.t 10)))⟩, ⟨17, (some 81), (some (77, false)), [], [], (.h (.idx (.t 79) (.t 80) 1))⟩, ⟨18, (some 82), (some (77, false)), [], [], (.load (.t 81) 1 false)⟩, ⟨19, (some 83), (some (77, false)), [], [], (.h (.len (.t 82)))⟩, ⟨20, (some 84), (some (77, false)), [], [], (.h (.mov (.t 6)))⟩, ⟨21, (some 85), (some (77, false)), [], [], (.h (.ibin .neq (.t 83) (.t 84)))⟩, ⟨22, (some 86), none, [], [], (.h (.pick (.t 77) (.k (.d (.bool true))) (.t 85)))⟩] [5, 6, 7, 9, 10, 11, 86]) (.cond (.t 86) (.seq (.reg [⟨0, (some 4), none, [], [], (.h (.mov (.k (.d (.bool false)))))⟩] [4]) .ret) .skip)) (.seq (.reg [⟨0, (some 87), none, [], [], (.h (.mov (.t 9)))⟩, ⟨1, (some 88), none, [], [], (.h (.mov (.t 11)))⟩, ⟨2, (some 89), none, [], [], (.h (.idx (.t 87) (.t 88) 1))⟩, ⟨3, none, none, [], [], (.store (.t 89) (.k (.d (.bool true))) 1)⟩] [5, 6, 7, 9, 10, 11]) (.seq (.reg [⟨0, (some 12), none, [], [], (.h (.mov (.k (.d (.int .i64 0)))))⟩] [5, 6, 7, 9, 10, 11, 12]) (.block 2 (.loop A_l6_LinParts_L1))))))) (.reg [⟨0, (some 57), none, [], [], (.h (.mov (.t 10)))⟩, ⟨1, (some 58), none, [], [], (.h (.ibin .add (.t 57) (.k (.d (.int .i64 1)))))⟩, ⟨2, (some 10), none, [], [], (.h (.mov (.t 58)))⟩] [5, 6, 7, 9, 10])))
def A_l6_LinParts : CA := (.seq (.reg [⟨0, (some 4), none, [], [], (.h (.mov (.k (.d (.bool false)))))⟩] [0, 1]) (.seq (.seq (.reg [⟨0, (some 16), none, [], [], (.callA (.k (.d (.fn 13 [] []))) [])⟩, ⟨1, (some 17), none, [], [], (.h (.un .not (.t 16)))⟩] [0, 1, 17]) (.cond (.t 17) (.seq (.reg [⟨0, (some 4), none, [], [], (.h (.mov (.k (.d (.bool false)))))⟩] [4]) .ret) .skip)) (.seq (.reg [⟨0, (some 18), none, [], [], (.h (.mov (.t 0)))⟩, ⟨1, (some 19), none, [], [], (.h (.mov (.t 1)))⟩, ⟨2, (some 20), none, [], [], (.callA (.k (.d (.fn 14 [] []))) [(.t 18), (.t 19), (.k (.d (.int .i64 1)))])⟩, ⟨3, (some 5), none, [], [], (.h (.mov (.t 20)))⟩] [5]) (.seq (.reg [⟨0, (some 21), none, [], [], (.h (.mov (.t 5)))⟩, ⟨1, (some 22), none, [], [], (.h (.len (.t 21)))⟩, ⟨2, (some 6), none, [], [], (.h (.mov (.t 22)))⟩] [5, 6]) (.seq (.reg [⟨0, (some 24), none, [], [], (.h (.mov (.t 5)))⟩, ⟨1, (some 25), none, [], [], (.callA (.k (.d (.fn 16 [] []))) [(.t 24)])⟩, ⟨2, (some 23), none, [], [], (.h (.mov (.t 25)))⟩, ⟨3, (some 26), none, [], [], (.h (.ext (.t 23) 0))⟩, ⟨4, (some 27), none, [], [], (.h (.ext (.t 23) 1))⟩, ⟨5, (some 7), none, [], [], (.alloc [.nil, .nil] 29)⟩, ⟨6, none, none, [], [], (.store (.t 7) (.t 26) 2)⟩, ⟨7, (some 8), none, [], [], (.h (.mov (.t 27)))⟩] [5, 6, 7, 8]) (.seq (.seq (.reg [⟨0, (some 28), none, [], [], (.h (.mov (.t 8)))⟩, ⟨1, (some 29), none, [], [], (.h (.un .not (.t 28)))⟩] [5, 6, 7, 29]) (.cond (.t 29) (.seq (.reg [⟨0, (some 30), none, [], [], (.h (.padd (.t 7) 0))⟩, ⟨1, (some 31), none, [], [], (.load (.t 30) 1 false)⟩, ⟨2, (some 32), none, [], [], (.h (.len (.t 31)))⟩, ⟨3, (some 33), none, [], [], (.h (.ibin .eql (.t 32) (.k (.d (.int .i64 0)))))⟩, ⟨4, (some 34), none, [], [], (.h (.mov (.t 33)))⟩, ⟨5, (some 35), (some (34, true)), [], [], (.h (.padd (.t 7) 1))⟩, ⟨6, (some 36), (some (34, true)), [], [], (.load (.t 35) 1 false)⟩, ⟨7, (some 37), (some (34, true)), [], [], (.h (.len (.t 36)))⟩, ⟨8, (some 38), (some (34, true)), [], [], (.h (.ibin .eql (.t 37) (.k (.d (.int .i64 0)))))⟩, ⟨9, (some 39), none, [], [], (.h (.pick (.t 34) (.t 38) (.k (.d (.bool false)))))⟩, ⟨10, (some 4), none, [], [], (.h (.mov (.t 39)))⟩] [4]) .ret) .skip)) (.seq (.seq (.reg [⟨0, (some 40), none, [], [], (.h (.padd (.t 7) 0))⟩, ⟨1, (some 41), none, [], [], (.load (.t 40) 1 false)⟩, ⟨2, (some 42), none, [], [], (.h (.len (.t 41)))⟩, ⟨3, (some 43), none, [], [], (.h (.mov (.t 6)))⟩, ⟨4, (some 44), none, [], [], (.h (.ibin .neq (.t 42) (.t 43)))⟩, ⟨5, (some 45), none, [], [], (.h (.mov (.t 44)))⟩, ⟨6, (some 46), (some (45, false)), [], [], (.h (.padd (.t 7) 1))⟩, ⟨7, (some 47), (some (45, false)), [], [], (.load (.t 46) 1 false)⟩, ⟨8, (some 48), (some (45, false)), [], [], (.h (.len (.t 47)))⟩, ⟨9, (some 49), (some (45, false)), [], [], (.h (.mov (.t 6)))⟩, ⟨10, (some 50), (some (45, false)), [], [], (.h (.ibin .neq (.t 48) (.t 49)))⟩, ⟨11, (some 51), none, [], [], (.h (.pick (.t 45) (.k (.d (.bool true))) (.t 50)))⟩] [5, 6, 7, 51]) (.cond (.t 51) (.seq (.reg [⟨0, (some 4), none, [], [], (.h (.mov (.k (.d (.bool false)))))⟩] [4]) .ret) .skip)) (.seq (.reg [⟨0, (some 52), none, [], [], (.h (.mov (.t 6)))⟩, ⟨1, (some 53), none, [], [], (.mksl [(.d (.bool false))] 1 1 (.t 52) (.t 52) 4)⟩, ⟨2, (some 9), none, [], [], (.h (.mov (.t 53)))⟩] [5, 6, 7, 9]) (.seq (.seq (.reg [⟨0, (some 10), none, [], [], (.h (.mov (.k (.d (.int .i64 0)))))⟩] [5, 6, 7, 9, 10]) (.block 0 (.loop A_l6_LinParts_L0))) (.seq (.reg [⟨0, (some 4), none, [], [], (.h (.mov (.k (.d (.bool true)))))⟩] [4]) .ret))))))))))
theorem A_l6_LinParts_comp : compF Try.prog 4 = some ⟨153, [(4, none)], A_l6_LinParts.strip⟩ := by kernel_rfl
/-- Numbers added one by one. -/
def rsum (f : Nat → Rat) : Nat → Rat
  | 0 => 0
  | m + 1 => rsum f m + f m
theorem rsum_congr {f g : Nat → Rat} : ∀ {m : Nat}, (∀ j, j < m → f j = g j) → rsum f m = rsum g m := by
  intro m
  induction m with
  | zero => intro _; rfl
  | succ m ih => intro h; simp only [rsum]; rw [ih (fun j hj => h j (by omega)), h m (by omega)]
/-- A place's number in the rows. -/
def va (A : List (List Nat)) (r c : Nat) : Rat := val (at2 A r c)
/-- The parts multiplied, K columns parted. -/
def prodK (A : List (List Nat)) (K r c : Nat) : Rat :=
  rsum (fun m => va A r m * va A m c) (min K (min r c)) + (if c < min K r then va A r c * va A c c else va A r c)
/-- Numbers, none greater than M. -/
def Bd (n : Nat) (A : List (List Nat)) (M : Rat) : Prop := ∀ r c, r < n → c < n → fin (at2 A r c) ∧ rabs (va A r c) ≤ M
theorem pv_max (A : List (List Nat)) (n k : Nat) (M : Rat) (hB : Bd n A M) (hk : k < n) : ∀ d, k + d < n → ∀ r, k ≤ r → r ≤ k + d → rabs (va A r k) ≤ rabs (va A (pvP A k d) k) := by
  intro d
  induction d with
  | zero =>
    intro _ r h1 h2
    have e : r = k := by omega
    rw [e]; exact Rat.le_refl
  | succ d ih =>
    intro hd r h1 h2
    have ih := ih (by omega)
    have hp := pvP_lt A k d
    have f1 := val_fabs (hB (k + 1 + d) k (by omega) hk).1
    have f2 := val_fabs (hB (pvP A k d) k (by omega) hk).1
    simp only [pvP]
    by_cases h : fcmp .gt (fabs (at2 A (k + 1 + d) k)) (fabs (at2 A (pvP A k d) k)) = true
    · rw [if_pos h]
      have h := (fcmp_gt f1.1 f2.1).1 h
      rw [f1.2, f2.2] at h
      by_cases e : r = k + 1 + d
      · subst e; exact Rat.le_refl
      · have := ih r h1 (by omega)
        unfold va at this ⊢
        grind
    · rw [if_neg h]
      have h : ¬ _ := fun h' => h ((fcmp_gt f1.1 f2.1).2 h')
      rw [f1.2, f2.2] at h
      by_cases e : r = k + 1 + d
      · subst e; unfold va; grind
      · exact ih r h1 (by omega)
theorem prodK_zero (A : List (List Nat)) (r c : Nat) : prodK A 0 r c = va A r c := by
  unfold prodK
  rw [Nat.zero_min, Nat.zero_min, if_neg (by omega)]
  simp only [rsum]; grind
/-- Rows change places: so do the products. -/
theorem prodK_swap (A : List (List Nat)) (n K p r c : Nat) (hA : Sq n A) (hK : K < n) (hKp : K ≤ p) (hp : p < n) : prodK (swapL [] A K p) K r c = prodK A K (sw K p r) c := by
  have e : ∀ r c, va (swapL [] A K p) r c = va A (sw K p r) c := fun r c => by unfold va; rw [at2_swapL A n K p r c hA hK hp]
  have low : ∀ m, m < K → sw K p m = m := fun m hm => sw_below hKp hm
  unfold prodK
  by_cases h : r < K
  · rw [low r h]
    refine congr (congrArg _ (rsum_congr fun m hm => ?_)) ?_
    · rw [e, e, low r h, low m (by omega)]
    · split
      · rw [e, e, low r h, low c (by omega)]
      · rw [e, low r h]
  · have h2 := sw_from hKp (show K ≤ r by omega)
    have e1 : min K (min (sw K p r) c) = min K (min r c) := by omega
    have e2 : min K (sw K p r) = min K r := by omega
    rw [e1, e2]
    refine congr (congrArg _ (rsum_congr fun m hm => ?_)) ?_
    · rw [e, e, low m (by omega)]
    · split
      · rw [e, e, low c (by omega)]
      · rw [e]
/-- What a step adds to what is off. -/
def stepE : Rat := pw (-39)
theorem three_abs (x y z N d : Rat) (h1 : rabs x ≤ N) (h2 : rabs y ≤ N) (h3 : rabs (z - y) ≤ d) : rabs (x - z) ≤ N + N + d := by
  have := le_rabs x; have := le_rabs y; have := le_rabs (z - y)
  exact rabs_le (by grind) (by grind)
theorem two_abs (x y d : Rat) (h3 : rabs (x - y) ≤ d) : rabs x ≤ rabs y + d := by
  have := le_rabs y; have := le_rabs (x - y)
  exact rabs_le (by grind) (by grind)
theorem res_abs (p z w x d : Rat) (h1 : rabs (z - p) ≤ d) (h2 : rabs (w - (x - z)) ≤ d) : rabs (p + w - x) ≤ d + d := by
  have := le_rabs (z - p); have := le_rabs (w - (x - z))
  exact rabs_le (by grind) (by grind)
theorem stepE_eq : stepE = pw (-40) + pw (-40) := by
  have := pw_succ (-40)
  rw [show (-40 : Int) + 1 = -39 from rfl] at this
  unfold stepE; grind
theorem sub_mul_err (l a x : Nat) (M : Rat) (fl' : fin l) (fa : fin a) (fx : fin x) (b1 : rabs (val l) ≤ 1) (b2 : rabs (val a) ≤ M) (b3 : rabs (val x) ≤ M) (hM : M ≤ 1000) (hM1 : 1 ≤ M) :
    fin (fop .sub x (fop .mul l a)) ∧ rabs (val (fop .sub x (fop .mul l a))) ≤ M + M + 1 ∧ rabs (val l * val a + val (fop .sub x (fop .mul l a)) - val x) ≤ stepE := by
  have p0 : rabs (val l * val a) ≤ M := by
    rw [rabs_mul]
    have h1 := Rat.mul_le_mul_of_nonneg_right b1 (rabs_nonneg (val a))
    grind
  have hp := fop_mul fl' fa (small_big (by grind))
  have sp := (hp.small (by grind)).1
  have h40 := pw_pos (-40)
  have h41 : pw (-40) + pw (-40) ≤ 1 := by
    rw [← stepE_eq]; exact eps_eq.2.2
  have hs1 := three_abs _ _ _ M (pw (-40)) b3 p0 sp
  have hs := fop_sub fx hp.fin (small_big (by grind))
  have ss := (hs.small (by grind)).1
  have h5 := two_abs _ _ _ ss
  refine ⟨hs.fin, by grind, ?_⟩
  rw [stepE_eq]
  exact res_abs _ _ _ _ _ sp ss
theorem step_bd (A : List (List Nat)) (n K : Nat) (M : Rat) (hA : Sq n A) (hK : K < n) (hB : Bd n A M) (hM : M ≤ 1000) (hM1 : 1 ≤ M) (hz : va A K K ≠ 0) (hpv : ∀ r, K < r → r < n → rabs (va A r K) ≤ rabs (va A K K)) :
    Bd n (elimI A n K (n - 1 - K)) (M + M + 1) ∧
    (∀ r, K < r → r < n → rabs (va (elimI A n K (n - 1 - K)) r K) ≤ 1) ∧
    (∀ r c, r < n → c < n → r ≤ K ∨ c < K → at2 (elimI A n K (n - 1 - K)) r c = at2 A r c) ∧
    ∀ r c, r < n → c < n → rabs (prodK (elimI A n K (n - 1 - K)) (K + 1) r c - prodK A K r c) ≤ stepE := by
  have hat := fun r c hr hc => elim_at A n K hA hK r c hr hc
  generalize elimI A n K (n - 1 - K) = E at hat
  have hse : 0 < stepE := pw_pos _
  have hpw : stepE = 2 * pw (-40) := by
    have := pw_succ (-40)
    rw [show (-40 : Int) + 1 = -39 from rfl] at this
    exact this
  have h40 := pw_pos (-40)
  have hsmall : pw (-39) ≤ 1 := eps_eq.2.2
  -- the multipliers
  have hmul : ∀ r, K < r → r < n → fin (multP A K r) ∧ rabs (val (multP A K r)) ≤ 1 ∧ rabs (val (multP A K r) * va A K K - va A r K) ≤ pw (-40) := by
    intro r hr hrn
    have hq0 := hpv r hr hrn
    obtain ⟨f1, b1⟩ := hB r K hrn hK
    obtain ⟨f2, b2⟩ := hB K K hK hK
    have hq : va A r K / va A K K * va A K K = va A r K := Rat.div_mul_cancel hz
    generalize hqe : va A r K / va A K K = q at hq
    have hq1 : rabs q ≤ 1 := by
      have h1 : rabs q * rabs (va A K K) ≤ 1 * rabs (va A K K) := by rw [← rabs_mul, hq]; grind
      refine Rat.le_of_mul_le_mul_right h1 ?_
      have := rabs_nonneg (va A K K)
      have h0 : rabs (va A K K) ≠ 0 := by
        intro h0
        apply hz
        have := le_rabs (va A K K)
        grind
      exact Rat.lt_of_le_of_ne this (Ne.symm h0)
    have hd := fop_div f1 f2 hz hq (by
      have := small_big (x := q + q) (rabs_le (by have := le_rabs q; grind) (by have := le_rabs q; grind))
      have h2 := small_big (x := (2 : Rat)) (by unfold rabs; grind)
      have h3 : rabs (2 : Rat) = 2 := rabs_of_nonneg (by decide)
      grind)
    have hl1 := hd.one hq1
    refine ⟨hd.fin, hl1, ?_⟩
    have he := hd.err
    have e1 : val (multP A K r) * va A K K - va A r K = (val (multP A K r) - q) * va A K K := by
      rw [← hq]; grind
    rw [e1, rabs_mul]
    -- 2 ^ -52 + 2 ^ -1075, times 1000
    have h1 : rabs q * pw (-52) + pw (-1075) ≤ pw (-51) := by
      have h2 := Rat.mul_le_mul_of_nonneg_right hq1 (Rat.le_of_lt (pw_pos (-52)))
      have h3 := pw_mono (show (-1075 : Int) ≤ -52 by decide)
      have h4 := pw_succ (-52)
      rw [show (-52 : Int) + 1 = -51 from rfl] at h4
      grind
    have h2 : rabs (val (multP A K r) - q) ≤ pw (-51) := Rat.le_trans he h1
    have h3 : rabs (va A K K) ≤ 1000 := Rat.le_trans b2 hM
    have h4 := Rat.mul_le_mul_of_nonneg_right h2 (rabs_nonneg (va A K K))
    have h5 := Rat.mul_le_mul_of_nonneg_left h3 (Rat.le_of_lt (pw_pos (-51)))
    have h6 : pw (-51) * 1000 ≤ pw (-41) := by
      have h7 := pw_up (-51) 10
      rw [show (-51 : Int) + ((10 : Nat) : Int) = -41 from rfl] at h7
      have h8 : ((2 ^ 10 : Nat) : Rat) = 1024 := rfl
      rw [h8] at h7
      have := pw_pos (-51)
      grind
    have h9 := pw_mono (show (-41 : Int) ≤ -40 by decide)
    exact Rat.le_trans h4 (Rat.le_trans h5 (Rat.le_trans h6 h9))
  -- a place right of the column
  have hsub : ∀ r c, K < r → r < n → K < c → c < n → fin (fop .sub (at2 A r c) (fop .mul (multP A K r) (at2 A K c))) ∧
      rabs (val (fop .sub (at2 A r c) (fop .mul (multP A K r) (at2 A K c)))) ≤ M + M + 1 ∧
      rabs (val (multP A K r) * va A K c + val (fop .sub (at2 A r c) (fop .mul (multP A K r) (at2 A K c))) - va A r c) ≤ stepE := by
    intro r c hr hrn hc hcn
    obtain ⟨f1, b1, _⟩ := hmul r hr hrn
    obtain ⟨f2, b2⟩ := hB K c hK hcn
    obtain ⟨f3, b3⟩ := hB r c hrn hcn
    exact sub_mul_err _ _ _ M f1 f2 f3 b1 b2 b3 hM hM1
  have keep : ∀ r c, r < n → c < n → r ≤ K ∨ c < K → at2 E r c = at2 A r c := by
    intro r c hr hc h
    rw [hat r c hr hc]; unfold stepAt; rw [if_pos h]
  have colK : ∀ r, K < r → r < n → at2 E r K = multP A K r := by
    intro r hr hrn
    rw [hat r K hrn hK]; unfold stepAt; rw [if_neg (by omega), if_pos rfl]
  have right : ∀ r c, K < r → r < n → K < c → c < n → at2 E r c = fop .sub (at2 A r c) (fop .mul (multP A K r) (at2 A K c)) := by
    intro r c hr hrn hc hcn
    rw [hat r c hrn hcn]; unfold stepAt; rw [if_neg (by omega), if_neg (by omega)]
  refine ⟨fun r c hr hc => ?_, fun r hr hrn => ?_, keep, fun r c hr hc => ?_⟩
  · by_cases h1 : r ≤ K ∨ c < K
    · unfold va
      rw [keep r c hr hc h1]
      obtain ⟨f, b⟩ := hB r c hr hc
      exact ⟨f, by unfold va at b; grind⟩
    · by_cases h2 : c = K
      · subst h2
        unfold va
        rw [colK r (by omega) hr]
        obtain ⟨f, b, _⟩ := hmul r (by omega) hr
        exact ⟨f, by grind⟩
      · unfold va
        rw [right r c (by omega) hr (by omega) hc]
        obtain ⟨f, b, _⟩ := hsub r c (by omega) hr (by omega) hc
        exact ⟨f, b⟩
  · unfold va
    rw [colK r hr hrn]
    exact (hmul r hr hrn).2.1
  · have ve : ∀ r c, r < n → c < n → r ≤ K ∨ c < K → va E r c = va A r c := fun r c hr hc h => by unfold va; rw [keep r c hr hc h]
    unfold prodK
    by_cases h1 : r ≤ K ∨ c < K
    · -- nothing new
      have hmin : min (K + 1) (min r c) = min K (min r c) := by omega
      have e1 : rsum (fun m => va E r m * va E m c) (min (K + 1) (min r c)) = rsum (fun m => va A r m * va A m c) (min K (min r c)) := by
        rw [hmin]
        refine rsum_congr fun m hm => ?_
        rw [ve r m hr (by omega) (by omega), ve m c (by omega) hc (by omega)]
      have e2 : (if c < min (K + 1) r then va E r c * va E c c else va E r c) = if c < min K r then va A r c * va A c c else va A r c := by
        by_cases h2 : c < min K r
        · rw [if_pos h2, if_pos (by omega), ve r c hr hc (by omega), ve c c hc hc (by omega)]
        · rw [if_neg h2, if_neg (by omega), ve r c hr hc h1]
      rw [e1, e2]
      have : rsum (fun m => va A r m * va A m c) (min K (min r c)) + (if c < min K r then va A r c * va A c c else va A r c) - (rsum (fun m => va A r m * va A m c) (min K (min r c)) + if c < min K r then va A r c * va A c c else va A r c) = 0 := by grind
      rw [this]; unfold rabs; grind
    · by_cases h2 : c = K
      · subst h2
        have hmin : min (c + 1) (min r c) = min c (min r c) := by omega
        have e1 : rsum (fun m => va E r m * va E m c) (min (c + 1) (min r c)) = rsum (fun m => va A r m * va A m c) (min c (min r c)) := by
          rw [hmin]
          refine rsum_congr fun m hm => ?_
          rw [ve r m hr (by omega) (by omega), ve m c (by omega) hc (by omega)]
        rw [e1, if_pos (by omega), if_neg (by omega)]
        have e3 : va E r c = val (multP A c r) := by unfold va; rw [colK r (by omega) hr]
        rw [e3, ve c c hc hc (by omega)]
        have := (hmul r (by omega) hr).2.2
        have e4 : rsum (fun m => va A r m * va A m c) (min c (min r c)) + val (multP A c r) * va A c c - (rsum (fun m => va A r m * va A m c) (min c (min r c)) + va A r c) = val (multP A c r) * va A c c - va A r c := by grind
        rw [e4]; grind
      · have hmin : min (K + 1) (min r c) = K + 1 := by omega
        have hmin2 : min K (min r c) = K := by omega
        have e1 : rsum (fun m => va E r m * va E m c) (K + 1) = rsum (fun m => va A r m * va A m c) K + val (multP A K r) * va A K c := by
          simp only [rsum]
          have e3 : va E r K = val (multP A K r) := by unfold va; rw [colK r (by omega) hr]
          rw [e3, ve K c hK hc (by omega)]
          have e4 : rsum (fun m => va E r m * va E m c) K = rsum (fun m => va A r m * va A m c) K := by
            refine rsum_congr fun m hm => ?_
            rw [ve r m hr (by omega) (by omega), ve m c (by omega) hc (by omega)]
          rw [e4]
        rw [hmin, hmin2, e1, if_neg (by omega), if_neg (by omega)]
        have e5 : va E r c = val (fop .sub (at2 A r c) (fop .mul (multP A K r) (at2 A K c))) := by unfold va; rw [right r c (by omega) hr (by omega) hc]
        have := (hsub r c (by omega) hr (by omega) hc).2.2
        rw [e5]
        have e6 : ∀ S a b d : Rat, S + a + b - (S + d) = a + b - d := fun S a b d => by grind
        rw [e6]; exact this
/-- Magnitudes behind m steps. -/
def grow (M : Rat) : Nat → Rat
  | 0 => M
  | m + 1 => grow M m + grow M m + 1
theorem grow_le : ∀ m, m ≤ 5 → 1 ≤ grow 4 m ∧ grow 4 m ≤ 160 := by
  intro m hm
  rcases m with _ | _ | _ | _ | _ | _ | m
  all_goals first | (simp only [grow]; constructor <;> decide +kernel) | omega
/-- What is known of the rows behind K steps. -/
theorem part_err (A : List (List Nat)) (n : Nat) (M : Rat) (hA : Sq n A) (hM : ∀ m, m < n → 1 ≤ grow M m ∧ grow M m ≤ 1000) (hB : Bd n A M) : ∀ K, K ≤ n → ∀ B π, partP A n K = some (B, π) →
    Sq n B ∧ Pr n π ∧ Bd n B (grow M K) ∧ (∀ r c, c < K → c < r → r < n → rabs (va B r c) ≤ 1) ∧ ∀ r c, r < n → c < n → rabs (prodK B K r c - va A (plN π r) c) ≤ (K : Rat) * stepE := by
  intro K
  induction K with
  | zero =>
    intro _ B π h
    simp only [partP, Option.some.injEq, Prod.mk.injEq] at h
    obtain ⟨rfl, rfl⟩ := h
    refine ⟨hA, .range n, hB, fun r c hc => by omega, fun r c hr hc => ?_⟩
    have e : plN ((List.range n).map fun (i : Nat) => (i : Int)) r = r := by
      have := rangeI_getD n r hr
      unfold plN; unfold rangeI at this; rw [this]; rfl
    rw [e, prodK_zero]
    have h0 : va A r c - va A r c = 0 := by grind
    have h1 : ((0 : Nat) : Rat) = 0 := rfl
    rw [h0, h1]; unfold rabs; grind
  | succ K ih =>
    intro hK B2 π2 h
    simp only [partP, Option.bind_eq_some_iff] at h
    obtain ⟨⟨B, π⟩, h1, h2⟩ := h
    obtain ⟨hBs, hπ, hBb, hBl, hBe⟩ := ih (by omega) B π h1
    have hpv1 := pvP_from B K (n - 1 - K)
    have hpv2 := pvP_lt B K (n - 1 - K)
    have hmax := pv_max B n K (grow M K) hBb (by omega) (n - 1 - K) (by omega)
    simp only [stepP] at h2
    generalize pvP B K (n - 1 - K) = p at h2 hpv1 hpv2 hmax
    split at h2
    · cases h2
    rename_i hz
    simp only [Option.some.injEq, Prod.mk.injEq] at h2
    obtain ⟨rfl, rfl⟩ := h2
    have hp : p < n := by omega
    have hCs := swapL_sq B n K p hBs (by omega) hp
    have hCat : ∀ r c, at2 (swapL [] B K p) r c = at2 B (sw K p r) c := fun r c => at2_swapL B n K p r c hBs (by omega) hp
    have hCv : ∀ r c, va (swapL [] B K p) r c = va B (sw K p r) c := fun r c => by unfold va; rw [hCat]
    have hCb : Bd n (swapL [] B K p) (grow M K) := fun r c hr hc => by rw [hCv, hCat]; exact hBb _ _ (sw_lt (by omega) hp hr) hc
    have hswK : sw K p K = p := by unfold sw; rw [if_pos rfl]
    have hz0 : va (swapL [] B K p) K K ≠ 0 := by
      rw [hCv, hswK]
      intro e
      apply hz
      left
      rw [fcmp_eq (hBb p K hp (by omega)).1 fin_zero, val_zero]; exact e
    have hpiv : ∀ r, K < r → r < n → rabs (va (swapL [] B K p) r K) ≤ rabs (va (swapL [] B K p) K K) := by
      intro r hr hrn
      rw [hCv, hCv, hswK]
      have h3 := sw_from hpv1 (show K ≤ r by omega)
      have h4 := sw_lt (show K < n by omega) hp hrn
      exact hmax _ h3 (by omega)
    have hg := hM K (by omega)
    obtain ⟨s1, s2, s3, s4⟩ := step_bd (swapL [] B K p) n K (grow M K) hCs (by omega) hCb (by grind) hg.1 hz0 hpiv
    have hPr := hπ.swap (a := K) (b := p) (by omega) hp
    refine ⟨elimI_sq _ _ _ hCs _, hPr, s1, fun r c hc hcr hrn => ?_, fun r c hr hc => ?_⟩
    · by_cases e : c = K
      · subst e; exact s2 r hcr hrn
      · have : va (elimI (swapL [] B K p) n K (n - 1 - K)) r c = va B (sw K p r) c := by
          unfold va; rw [s3 r c hrn (by omega) (by omega), hCat]
        rw [this]
        have h5 : c < sw K p r := by
          by_cases h6 : r < K
          · rw [sw_below hpv1 h6]; exact hcr
          · have := sw_from hpv1 (show K ≤ r by omega); omega
        exact hBl _ c (by omega) h5 (sw_lt (by omega) hp hrn)
    · have h3 := s4 r c hr hc
      have h4 := hBe (sw K p r) c (sw_lt (by omega) hp hr) hc
      rw [prodK_swap B n K p r c hBs (by omega) hpv1 hp] at h3
      rw [plN_swap hπ (by omega) hp]
      have h5 := rabs_add (prodK (elimI (swapL [] B K p) n K (n - 1 - K)) (K + 1) r c - prodK B K (sw K p r) c) (prodK B K (sw K p r) c - va A (plN π (sw K p r)) c)
      have e1 : ∀ a b d : Rat, a - b + (b - d) = a - d := fun a b d => by grind
      rw [e1] at h5
      have e2 : ((K + 1 : Nat) : Rat) * stepE = (K : Rat) * stepE + stepE := by
        rw [Rat.natCast_add]
        have : ((1 : Nat) : Rat) = 1 := rfl
        rw [this]; grind
      rw [e2]; grind
def one : Nat := 4607182418800017408
theorem ix_one : fin one ∧ val one = 1 := by
  have r : Ieee.double.read one = .number false 4503599627370496 (-52) := by decide
  refine ⟨⟨_, _, _, r⟩, ?_⟩
  rw [val_eq r]
  have h7 : (0 : Int) = -52 + (52 : Nat) := by decide
  have := (congrArg pw h7).trans (pw_up _ _)
  rw [pw_zero] at this
  simp only [Bool.false_eq_true, if_false]
  exact this.symm
def tiny : Nat := 4457293557087583675
theorem tiny_val : fin tiny ∧ pw (-34) ≤ val tiny := by
  have r : Ieee.double.read tiny = .number false 7737125245533627 (-86) := by decide
  refine ⟨⟨_, _, _, r⟩, ?_⟩
  rw [val_eq r]
  have h := pw52 (-86)
  rw [show (-86 : Int) + 52 = -34 from rfl] at h
  have hp := pw_pos (-86)
  have h2 : ((7737125245533627 : Nat) : Rat) = 7737125245533627 := rfl
  simp only [Bool.false_eq_true, if_false]
  rw [h, h2]
  grind
/-- A sum of products, as it is worked out. -/
def sF (B : List (List Nat)) (i j : Nat) : Nat → Nat
  | 0 => 0
  | m + 1 => fop .add (sF B i j m) (fop .mul (if m < i then at2 B i m else one) (at2 B m j))
def uV (B : List (List Nat)) (i m : Nat) : Rat := if m < i then va B i m else 1
theorem add_mul_err (l a x : Nat) (v e M : Rat) (fl' : fin l) (fa : fin a) (fx : fin x) (b1 : rabs (val l) ≤ 1) (b2 : rabs (val a) ≤ 160) (b3 : rabs v ≤ M) (he : rabs (val x - v) ≤ e) (hM : M ≤ 1000) (he1 : e ≤ 1) :
    fin (fop .add x (fop .mul l a)) ∧ rabs (v + val l * val a) ≤ M + 160 ∧ rabs (val (fop .add x (fop .mul l a)) - (v + val l * val a)) ≤ e + stepE := by
  have p0 : rabs (val l * val a) ≤ 160 := by
    rw [rabs_mul]
    have h1 := Rat.mul_le_mul_of_nonneg_right b1 (rabs_nonneg (val a))
    grind
  have hp := fop_mul fl' fa (small_big (by grind))
  have sp := (hp.small (by grind)).1
  have h40 := pw_pos (-40)
  have h41 : pw (-40) + pw (-40) ≤ 1 := by
    rw [← stepE_eq]; exact eps_eq.2.2
  have h1 := two_abs _ _ _ he
  have h2 := two_abs _ _ _ sp
  have h3 := rabs_add (val x) (val (fop .mul l a))
  have hs := fop_add fx hp.fin (small_big (by grind))
  have ss := (hs.small (by grind)).1
  refine ⟨hs.fin, ?_, ?_⟩
  · have := rabs_add v (val l * val a); grind
  · rw [stepE_eq]
    have key : ∀ x v z p w d e : Rat, rabs (x - v) ≤ e → rabs (z - p) ≤ d → rabs (w - (x + z)) ≤ d → rabs (w - (v + p)) ≤ e + (d + d) := by
      intro x v z p w d e h1 h2 h3
      have := le_rabs (x - v); have := le_rabs (z - p); have := le_rabs (w - (x + z))
      exact rabs_le (by grind) (by grind)
    exact key _ _ _ _ _ _ _ he sp ss
theorem sF_err (B : List (List Nat)) (n i j : Nat) (hB : Bd n B 160) (hl : ∀ r c, c < n → c < r → r < n → rabs (va B r c) ≤ 1) (hi : i < n) (hj : j < n) (hn : n ≤ 5) : ∀ m, m ≤ min i j + 1 →
    fin (sF B i j m) ∧ rabs (rsum (fun m => uV B i m * va B m j) m) ≤ (m : Rat) * 160 ∧ rabs (val (sF B i j m) - rsum (fun m => uV B i m * va B m j) m) ≤ (m : Rat) * stepE := by
  have hse : 0 < stepE := pw_pos _
  have hs1 : stepE ≤ 1 / 16 := by
    have h1 := pw_mono (show (-39 : Int) ≤ -4 by decide)
    have h2 := pw_up (-4) 4
    rw [show (-4 : Int) + ((4 : Nat) : Int) = 0 from rfl, pw_zero] at h2
    have h3 : ((2 ^ 4 : Nat) : Rat) = 16 := rfl
    rw [h3] at h2
    unfold stepE; grind
  have z0 : ((0 : Nat) : Rat) = 0 := rfl
  intro m
  induction m with
  | zero =>
    intro _
    refine ⟨fin_zero, ?_, ?_⟩
    · simp only [rsum]; rw [z0]; unfold rabs; grind
    · simp only [rsum, sF]; rw [z0, val_zero]; unfold rabs; grind
  | succ m ih =>
    intro hm
    obtain ⟨i1, i2, i3⟩ := ih (by omega)
    have hu : fin (if m < i then at2 B i m else one) ∧ val (if m < i then at2 B i m else one) = uV B i m ∧ rabs (uV B i m) ≤ 1 := by
      unfold uV
      by_cases h : m < i
      · rw [if_pos h, if_pos h]
        exact ⟨(hB i m hi (by omega)).1, rfl, hl i m (by omega) h hi⟩
      · rw [if_neg h, if_neg h]
        exact ⟨ix_one.1, ix_one.2, by unfold rabs; grind⟩
    obtain ⟨u1, u2, u3⟩ := hu
    obtain ⟨a1, a2⟩ := hB m j (by omega) hj
    have hm5 : (m : Rat) ≤ 5 := by exact_mod_cast Rat.natCast_le_natCast.2 (show m ≤ 5 by omega)
    have hm0 : (0 : Rat) ≤ (m : Rat) := Rat.natCast_nonneg
    have h7 := Rat.mul_le_mul_of_nonneg_right hm5 (Rat.le_of_lt hse)
    have e1 : ((m + 1 : Nat) : Rat) = (m : Rat) + 1 := by rw [Rat.natCast_add]; rfl
    have := add_mul_err (if m < i then at2 B i m else one) (at2 B m j) (sF B i j m) (rsum (fun m => uV B i m * va B m j) m) ((m : Rat) * stepE) ((m : Rat) * 160) u1 a1 i1 (by rw [u2]; exact u3) a2 i2 i3 (by grind) (by grind)
    rw [u2] at this
    obtain ⟨t1, t2, t3⟩ := this
    simp only [rsum, sF]
    rw [e1]
    refine ⟨t1, ?_, ?_⟩
    · have : ((m : Rat) + 1) * 160 = (m : Rat) * 160 + 160 := by grind
      rw [this]; exact t2
    · have : ((m : Rat) + 1) * stepE = (m : Rat) * stepE + stepE := by grind
      rw [this]; exact t3
theorem prod_sum (B : List (List Nat)) (n i j : Nat) (hi : i < n) (hj : j < n) : rsum (fun m => uV B i m * va B m j) (min i j + 1) = prodK B n i j := by
  unfold prodK
  have e1 : min n (min i j) = min i j := by omega
  have e2 : min n i = i := by omega
  rw [e1, e2]
  simp only [rsum]
  have e3 : rsum (fun m => uV B i m * va B m j) (min i j) = rsum (fun m => va B i m * va B m j) (min i j) := by
    refine rsum_congr fun m hm => ?_
    unfold uV
    rw [if_pos (by omega)]
  rw [e3]
  by_cases h : j < i
  · have e4 : min i j = j := by omega
    rw [if_pos h, e4]
    unfold uV; rw [if_pos h]
  · have e4 : min i j = i := by omega
    rw [if_neg h, e4]
    unfold uV; rw [if_neg (by omega)]
    grind
theorem grow_mono : ∀ m, m ≤ 5 → grow 4 m ≤ 160 := fun m hm => (grow_le m hm).2
theorem ix_four : Ix 2 4616189618054758400 1 := by
  have r : Ieee.double.read 4616189618054758400 = .number false 4503599627370496 (-50) := by decide
  refine ⟨⟨_, _, _, r⟩, ?_⟩
  rw [val_eq r]
  have h7 : (2 : Int) = -50 + (52 : Nat) := by decide
  have := (congrArg pw h7).trans (pw_up _ _)
  rw [this]; simp
theorem ix_numK (t : Nat) (ht : t < 33) : Ix (-2) (numK t) ((t : Int) - 16) := by
  unfold numK
  exact (Ix.ofInt ((t : Int) - 16) (by omega)).div ix_four (by decide) (by decide) (by omega) (by omega) (by decide) (by decide)
/-- Rows of numbers of Make. -/
theorem mkM_bd (ns : List Int) (k : Nat) : Bd k (mkM ns k k) 4 := by
  intro r c hr hc
  obtain ⟨w, hw⟩ := mkM_at ns k r c hr hc
  obtain ⟨t, ht, h2⟩ := numM_K w
  have hx := ix_numK t ht
  unfold va
  rw [hw, h2]
  refine ⟨hx.fin, ?_⟩
  rw [hx.val, rabs_mul, rabs_of_nonneg (Rat.le_of_lt (pw_pos _)), rabs_int]
  have h3 : (((t : Int) - 16).natAbs : Rat) ≤ (16 : Nat) := by exact_mod_cast Rat.natCast_le_natCast.2 (show ((t : Int) - 16).natAbs ≤ 16 by omega)
  have h4 := Rat.mul_le_mul_of_nonneg_right h3 (Rat.le_of_lt (pw_pos (-2)))
  have h5 := pw_up (-2) 4
  rw [show (-2 : Int) + ((4 : Nat) : Int) = 2 from rfl] at h5
  have h6 : pw 2 = ((2 ^ 2 : Nat) : Rat) := pw_nat 2
  have h7 : ((2 ^ 2 : Nat) : Rat) = 4 := rfl
  have h8 : ((2 ^ 4 : Nat) : Rat) = ((16 : Nat) : Rat) := rfl
  rw [h6, h7, h8] at h5
  grind
theorem parts_law (A : List (List Nat)) (n : Nat) (hA : Sq n A) (hn : n ≤ 5) (hB : Bd n A 4) (B : List (List Nat)) (π : List Int) (h : partP A n n = some (B, π)) :
    Pr n π ∧ ∀ i j, i < n → j < n → fcmp .gt (fabs (fop .sub (sF B i j (min i j + 1)) (at2 A (plN π i) j))) tiny = false ∧ (j < i → fcmp .gt (fabs (at2 B i j)) one = false) := by
  obtain ⟨hBs, hπ, hBb, hBl, hBe⟩ := part_err A n 4 hA (fun m hm => ⟨(grow_le m (by omega)).1, by have := (grow_le m (by omega)).2; grind⟩) hB n (Nat.le_refl n) B π h
  refine ⟨hπ, fun i j hi hj => ?_⟩
  have hB160 : Bd n B 160 := fun r c hr hc => ⟨(hBb r c hr hc).1, Rat.le_trans (hBb r c hr hc).2 (grow_mono n hn)⟩
  constructor
  · obtain ⟨s1, s2, s3⟩ := sF_err B n i j hB160 (fun r c h1 h2 h3 => hBl r c h1 h2 h3) hi hj hn (min i j + 1) (Nat.le_refl _)
    rw [prod_sum B n i j hi hj] at s2 s3
    have he := hBe i j hi hj
    obtain ⟨a1, a2⟩ := hB (plN π i) j (hπ.lt hi) hj
    have hse : 0 < stepE := pw_pos _
    have hc1 : ((min i j + 1 : Nat) : Rat) ≤ 5 := by exact_mod_cast Rat.natCast_le_natCast.2 (show min i j + 1 ≤ 5 by omega)
    have hc2 : ((n : Nat) : Rat) ≤ 5 := by exact_mod_cast Rat.natCast_le_natCast.2 hn
    have h1 := Rat.mul_le_mul_of_nonneg_right hc1 (Rat.le_of_lt hse)
    have h2 := Rat.mul_le_mul_of_nonneg_right hc2 (Rat.le_of_lt hse)
    have h40 := pw_pos (-40)
    have hst : pw (-34) = 32 * stepE := by
      have h7 := pw_up (-39) 5
      rw [show (-39 : Int) + ((5 : Nat) : Int) = -34 from rfl] at h7
      exact h7
    have hse1 := stepE_eq
    have d1 : rabs (val (sF B i j (min i j + 1)) - val (at2 A (plN π i) j)) ≤ 10 * stepE := by
      have key : ∀ a b c d e : Rat, rabs (a - b) ≤ d → rabs (b - c) ≤ e → rabs (a - c) ≤ d + e := by
        intro a b c d e h1 h2
        have := le_rabs (a - b); have := le_rabs (b - c)
        exact rabs_le (by grind) (by grind)
      have := key _ _ _ _ _ s3 he
      unfold va at this
      grind
    have hs10 : 10 * stepE ≤ 1 := by
      have h1 := pw_mono (show (-39 : Int) ≤ -4 by decide)
      have h2 := pw_up (-4) 4
      rw [show (-4 : Int) + ((4 : Nat) : Int) = 0 from rfl, pw_zero] at h2
      have h3 : ((2 ^ 4 : Nat) : Rat) = 16 := rfl
      rw [h3] at h2
      unfold stepE; grind
    have hs := fop_sub s1 a1 (small_big (by grind))
    have ss := (hs.small (by grind)).1
    have h5 := two_abs _ _ _ ss
    have hf := val_fabs hs.fin
    have : ¬ fcmp .gt (fabs (fop .sub (sF B i j (min i j + 1)) (at2 A (plN π i) j))) tiny = true := by
      rw [fcmp_gt hf.1 tiny_val.1, hf.2]
      have := tiny_val.2
      grind
    simpa using this
  · intro hji
    have hf := val_fabs (hBb i j hi hj).1
    have : ¬ fcmp .gt (fabs (at2 B i j)) one = true := by
      rw [fcmp_gt hf.1 ix_one.1, hf.2, ix_one.2]
      have := hBl i j (by omega) hji hi
      unfold va at this
      grind
    simpa using this
/-- What Part handed back lies there. -/
structure LuAt (L : Heap) (B : List (List Nat)) (π : List Int) (k p : Nat) : Prop where
  lu : L.get p 0 = some [.sl 1002 0 0 k 1 k, .sl 1005 0 0 k 1 k]
  rows : L.get 1002 0 = some (hdo 1002 1 k k)
  row : ∀ r, r < k → L.get 1002 (r + 1) = some (rowV (B.getD r []))
  perm : L.get 1005 0 = some (rowIV π)
  sq : Sq k B
set_option maxRecDepth 8000 in
theorem parts_L2 (N : Nat → Prop) (B : List (List Nat)) (π : List Int) (k i j : Nat) (v5 v9 v11 : V) (L : Heap) (hL : LuAt L B π k 206) (hi : i < k) (hj : j < k) (hk : k < 2 ^ 20) (Q : Ex → T → Prop)
    (hQ : ∀ v w, Q (.exit 4) ⟨[(5, v5), (6, fI k), (7, .ptr 206 0 0 2), (9, v9), (10, fI i), (11, v11), (12, fI j), (13, fl (sF B i j (min i j + 1))), (14, v), (99, w)], L⟩) :
    WA Try.prog N 153 (.loop A_l6_LinParts_L2) Q ⟨[(5, v5), (6, fI k), (7, .ptr 206 0 0 2), (9, v9), (10, fI i), (11, v11), (12, fI j), (13, fl 0), (14, fI 0)], L⟩ := by
  obtain ⟨h1, h2, h3, _, hBl, hBr⟩ := hL
  refine WA_for (n := min i j + 1) (fun c s => ∃ m, c + m = min i j + 1 ∧ s = ⟨[(5, v5), (6, fI k), (7, .ptr 206 0 0 2), (9, v9), (10, fI i), (11, v11), (12, fI j), (13, fl (sF B i j m)), (14, fI m)], L⟩) ⟨0, by omega, rfl⟩ ?_
  rintro c s ⟨m, hc, rfl⟩
  simp -implicitDefEqProofs only [xC_skip, evS, decide_true, decide_false, decide_eq_true_eq, sides, Inst.places, List.zip_cons_cons, List.zip_nil_right, List.zip_nil_left, List.mem_cons, List.not_mem_nil, forall_eq_or_imp, forall_eq, false_implies, implies_true, Apart, xeff, xhv, hv, effC, xev, look, argSl, atL, drops, keep, inBlockT, pickX, callX, callCX, callSX, callee, List.map_cons, List.map_nil, List.append_nil, List.nil_append, List.cons_append, reduceCtorEq, ↓reduceIte, Nat.reduceEqDiff, Nat.reduceAdd, Nat.reduceMul, eq_self, List.length_replicate, Int.reduceToNat, Int.reduceAdd, Int.reduceSub, Int.reduceMul, Int.reduceNeg, Int.reduceLT, Int.reduceLE, rowD, rowI, rowsD, ivD, rowG, rowIG, rowsG, ivG, bne_self_eq_false, beq_self_eq_true, List.length_map, List.getD_cons_zero, List.getD_cons_succ, List.drop_succ_cons, List.drop_zero, List.take_succ_cons, List.take_zero, List.take_nil, List.getElem?_cons_zero, List.getElem?_cons_succ, List.length_cons, List.length_nil, List.length_set, List.set_cons_zero, List.set_cons_succ, List.all_cons, List.all_nil, Nat.reduceLT, Nat.reduceLeDiff, ne_eq, Option.some.injEq, fillV, partsV, V.okPart, gt_iff_lt, ge_iff_le, A_l6_LinParts_L2]
  have e0 : (((m : Nat) : Int) ≤ if j < i then (j : Int) else (i : Int)) ↔ m < min i j + 1 := by split <;> omega
  rw [decide_eq_decide.2 e0]
  refine condC_intro (fun h => ?_) (fun h => ?_)
  · replace h := of_decide_eq_true h
    have hm : m < k := by omega
    have g1 := hBr i hi
    have g2 := hBr m hm
    have e1 : m < (B.getD i []).length := by omega
    have e2 : j < (B.getD m []).length := by omega
    by_cases h4 : m < i
    · simp -implicitDefEqProofs only [xC_skip, evS, decide_true, decide_false, decide_eq_true_eq, sides, Inst.places, List.zip_cons_cons, List.zip_nil_right, List.zip_nil_left, List.mem_cons, List.not_mem_nil, forall_eq_or_imp, forall_eq, false_implies, implies_true, Apart, xeff, xhv, hv, effC, xev, look, argSl, atL, drops, keep, inBlockT, pickX, callX, callCX, callSX, callee, List.map_cons, List.map_nil, List.append_nil, List.nil_append, List.cons_append, reduceCtorEq, ↓reduceIte, Nat.reduceEqDiff, Nat.reduceAdd, Nat.reduceMul, eq_self, List.length_replicate, Int.reduceToNat, Int.reduceAdd, Int.reduceSub, Int.reduceMul, Int.reduceNeg, Int.reduceLT, Int.reduceLE, rowD, rowI, rowsD, ivD, rowG, rowIG, rowsG, ivG, bne_self_eq_false, beq_self_eq_true, List.length_map, List.getD_cons_zero, List.getD_cons_succ, List.drop_succ_cons, List.drop_zero, List.take_succ_cons, List.take_zero, List.take_nil, List.getElem?_cons_zero, List.getElem?_cons_succ, List.length_cons, List.length_nil, List.length_set, List.set_cons_zero, List.set_cons_succ, List.all_cons, List.all_nil, Nat.reduceLT, Nat.reduceLeDiff, ne_eq, Option.some.injEq, fillV, partsV, V.okPart, gt_iff_lt, ge_iff_le, h4, h1, h2, h3 i hi, h3 m hm, hdo_getD _ _ _ _ _ hi, hdo_getD _ _ _ _ _ hm, getD_map_fl _ _ e1, getD_map_fl _ _ e2]
      (repeat (with_reducible refine And.intro (by omega) ?_))
      rw [wrapI (by omega) (by omega)]
      refine ⟨c - 1, by omega, m + 1, by omega, ?_⟩
      simp only [sF, if_pos h4]; rfl
    · simp -implicitDefEqProofs only [xC_skip, evS, decide_true, decide_false, decide_eq_true_eq, sides, Inst.places, List.zip_cons_cons, List.zip_nil_right, List.zip_nil_left, List.mem_cons, List.not_mem_nil, forall_eq_or_imp, forall_eq, false_implies, implies_true, Apart, xeff, xhv, hv, effC, xev, look, argSl, atL, drops, keep, inBlockT, pickX, callX, callCX, callSX, callee, List.map_cons, List.map_nil, List.append_nil, List.nil_append, List.cons_append, reduceCtorEq, ↓reduceIte, Nat.reduceEqDiff, Nat.reduceAdd, Nat.reduceMul, eq_self, List.length_replicate, Int.reduceToNat, Int.reduceAdd, Int.reduceSub, Int.reduceMul, Int.reduceNeg, Int.reduceLT, Int.reduceLE, rowD, rowI, rowsD, ivD, rowG, rowIG, rowsG, ivG, bne_self_eq_false, beq_self_eq_true, List.length_map, List.getD_cons_zero, List.getD_cons_succ, List.drop_succ_cons, List.drop_zero, List.take_succ_cons, List.take_zero, List.take_nil, List.getElem?_cons_zero, List.getElem?_cons_succ, List.length_cons, List.length_nil, List.length_set, List.set_cons_zero, List.set_cons_succ, List.all_cons, List.all_nil, Nat.reduceLT, Nat.reduceLeDiff, ne_eq, Option.some.injEq, fillV, partsV, V.okPart, gt_iff_lt, ge_iff_le, h4, h1, h2, h3 m hm, hdo_getD _ _ _ _ _ hm, getD_map_fl _ _ e2]
      (repeat (with_reducible refine And.intro (by omega) ?_))
      rw [wrapI (by omega) (by omega)]
      refine ⟨c - 1, by omega, m + 1, by omega, ?_⟩
      simp only [sF, if_neg h4]; rfl
  · replace h := of_decide_eq_false h
    simp -implicitDefEqProofs only [xC_skip, evS, decide_true, decide_false, decide_eq_true_eq, sides, Inst.places, List.zip_cons_cons, List.zip_nil_right, List.zip_nil_left, List.mem_cons, List.not_mem_nil, forall_eq_or_imp, forall_eq, false_implies, implies_true, Apart, xeff, xhv, hv, effC, xev, look, argSl, atL, drops, keep, inBlockT, pickX, callX, callCX, callSX, callee, List.map_cons, List.map_nil, List.append_nil, List.nil_append, List.cons_append, reduceCtorEq, ↓reduceIte, Nat.reduceEqDiff, Nat.reduceAdd, Nat.reduceMul, eq_self, List.length_replicate, Int.reduceToNat, Int.reduceAdd, Int.reduceSub, Int.reduceMul, Int.reduceNeg, Int.reduceLT, Int.reduceLE, rowD, rowI, rowsD, ivD, rowG, rowIG, rowsG, ivG, bne_self_eq_false, beq_self_eq_true, List.length_map, List.getD_cons_zero, List.getD_cons_succ, List.drop_succ_cons, List.drop_zero, List.take_succ_cons, List.take_zero, List.take_nil, List.getElem?_cons_zero, List.getElem?_cons_succ, List.length_cons, List.length_nil, List.length_set, List.set_cons_zero, List.set_cons_succ, List.all_cons, List.all_nil, Nat.reduceLT, Nat.reduceLeDiff, ne_eq, Option.some.injEq, fillV, partsV, V.okPart, gt_iff_lt, ge_iff_le]
    obtain rfl : m = min i j + 1 := by omega
    exact hQ _ _
set_option maxRecDepth 8000 in
theorem parts_L1 (N : Nat → Prop) (M B : List (List Nat)) (π : List Int) (k i : Nat) (v9 : V) (L : Heap) (hL : LuAt L B π k 206) (hM : Sq k M) (hLM : L.get 100 0 = some (hdo 200 0 k k)) (hLr : ∀ r, r < k → L.get 200 r = some (rowV (M.getD r [])))
    (hi : i < k) (hk : k < 2 ^ 20) (hp : plN π i < k)
    (law : ∀ j, j < k → fcmp .gt (fabs (fop .sub (sF B i j (min i j + 1)) (at2 M (plN π i) j))) tiny = false ∧ (j < i → fcmp .gt (fabs (at2 B i j)) one = false)) (Q : Ex → T → Prop)
    (hQ : ∀ v w, Q (.exit 2) ⟨[(5, .sl 100 0 0 k 1 k), (6, fI k), (7, .ptr 206 0 0 2), (9, v9), (10, fI i), (11, fI (plN π i)), (12, v), (92, w)], L⟩) :
    WA Try.prog N 153 (.loop A_l6_LinParts_L1) Q ⟨[(5, .sl 100 0 0 k 1 k), (6, fI k), (7, .ptr 206 0 0 2), (9, v9), (10, fI i), (11, fI (plN π i)), (12, fI 0)], L⟩ := by
  refine WA_for (n := k) (fun c s => ∃ j, c + j = k ∧ s = ⟨[(5, .sl 100 0 0 k 1 k), (6, fI k), (7, .ptr 206 0 0 2), (9, v9), (10, fI i), (11, fI (plN π i)), (12, fI j)], L⟩) ⟨0, by omega, rfl⟩ ?_
  rintro c s ⟨j, hc, rfl⟩
  simp -implicitDefEqProofs only [xC_skip, evS, decide_true, decide_false, decide_eq_true_eq, sides, Inst.places, List.zip_cons_cons, List.zip_nil_right, List.zip_nil_left, List.mem_cons, List.not_mem_nil, forall_eq_or_imp, forall_eq, false_implies, implies_true, Apart, xeff, xhv, hv, effC, xev, look, argSl, atL, drops, keep, inBlockT, pickX, callX, callCX, callSX, callee, List.map_cons, List.map_nil, List.append_nil, List.nil_append, List.cons_append, reduceCtorEq, ↓reduceIte, Nat.reduceEqDiff, Nat.reduceAdd, Nat.reduceMul, eq_self, List.length_replicate, Int.reduceToNat, Int.reduceAdd, Int.reduceSub, Int.reduceMul, Int.reduceNeg, Int.reduceLT, Int.reduceLE, rowD, rowI, rowsD, ivD, rowG, rowIG, rowsG, ivG, bne_self_eq_false, beq_self_eq_true, List.length_map, List.getD_cons_zero, List.getD_cons_succ, List.drop_succ_cons, List.drop_zero, List.take_succ_cons, List.take_zero, List.take_nil, List.getElem?_cons_zero, List.getElem?_cons_succ, List.length_cons, List.length_nil, List.length_set, List.set_cons_zero, List.set_cons_succ, List.all_cons, List.all_nil, Nat.reduceLT, Nat.reduceLeDiff, ne_eq, Option.some.injEq, fillV, partsV, V.okPart, gt_iff_lt, ge_iff_le, A_l6_LinParts_L1]
  refine condC_intro (fun h => ?_) (fun h => ?_)
  · replace h := of_decide_eq_true h
    simp -implicitDefEqProofs only [xC_skip, evS, decide_true, decide_false, decide_eq_true_eq, sides, Inst.places, List.zip_cons_cons, List.zip_nil_right, List.zip_nil_left, List.mem_cons, List.not_mem_nil, forall_eq_or_imp, forall_eq, false_implies, implies_true, Apart, xeff, xhv, hv, effC, xev, look, argSl, atL, drops, keep, inBlockT, pickX, callX, callCX, callSX, callee, List.map_cons, List.map_nil, List.append_nil, List.nil_append, List.cons_append, reduceCtorEq, ↓reduceIte, Nat.reduceEqDiff, Nat.reduceAdd, Nat.reduceMul, eq_self, List.length_replicate, Int.reduceToNat, Int.reduceAdd, Int.reduceSub, Int.reduceMul, Int.reduceNeg, Int.reduceLT, Int.reduceLE, rowD, rowI, rowsD, ivD, rowG, rowIG, rowsG, ivG, bne_self_eq_false, beq_self_eq_true, List.length_map, List.getD_cons_zero, List.getD_cons_succ, List.drop_succ_cons, List.drop_zero, List.take_succ_cons, List.take_zero, List.take_nil, List.getElem?_cons_zero, List.getElem?_cons_succ, List.length_cons, List.length_nil, List.length_set, List.set_cons_zero, List.set_cons_succ, List.all_cons, List.all_nil, Nat.reduceLT, Nat.reduceLeDiff, ne_eq, Option.some.injEq, fillV, partsV, V.okPart, gt_iff_lt, ge_iff_le]
    refine parts_L2 N B π k i j (.sl 100 0 0 k 1 k) v9 (fI (plN π i)) L hL hi h hk _ fun v w => ?_
    obtain ⟨l1, l2⟩ := law j h
    generalize sF B i j (min i j + 1) = s at l1
    generalize hq : plN π i = q at *
    obtain ⟨h1, h2, h3, _, hBl, hBr⟩ := hL
    have g1 := hM.2 q hp
    have g2 := hBr i hi
    have e1 : j < (M.getD q []).length := by omega
    have e2 : j < (B.getD i []).length := by omega
    simp -implicitDefEqProofs only [xC_skip, evS, decide_true, decide_false, decide_eq_true_eq, sides, Inst.places, List.zip_cons_cons, List.zip_nil_right, List.zip_nil_left, List.mem_cons, List.not_mem_nil, forall_eq_or_imp, forall_eq, false_implies, implies_true, Apart, xeff, xhv, hv, effC, xev, look, argSl, atL, drops, keep, inBlockT, pickX, callX, callCX, callSX, callee, List.map_cons, List.map_nil, List.append_nil, List.nil_append, List.cons_append, reduceCtorEq, ↓reduceIte, Nat.reduceEqDiff, Nat.reduceAdd, Nat.reduceMul, eq_self, List.length_replicate, Int.reduceToNat, Int.reduceAdd, Int.reduceSub, Int.reduceMul, Int.reduceNeg, Int.reduceLT, Int.reduceLE, rowD, rowI, rowsD, ivD, rowG, rowIG, rowsG, ivG, bne_self_eq_false, beq_self_eq_true, List.length_map, List.getD_cons_zero, List.getD_cons_succ, List.drop_succ_cons, List.drop_zero, List.take_succ_cons, List.take_zero, List.take_nil, List.getElem?_cons_zero, List.getElem?_cons_succ, List.length_cons, List.length_nil, List.length_set, List.set_cons_zero, List.set_cons_succ, List.all_cons, List.all_nil, Nat.reduceLT, Nat.reduceLeDiff, ne_eq, Option.some.injEq, fillV, partsV, V.okPart, gt_iff_lt, ge_iff_le, hLM, hLr q hp, hdo_getD _ _ _ _ _ hp, getD_map_fl _ _ e1]
    (repeat (with_reducible refine And.intro (by omega) ?_))
    first | refine callG_con (math_Abs_con (fop .sub s (at2 M q j))) rfl ?_ | refine callCG_con (math_Abs_con (fop .sub s (at2 M q j))) rfl ?_ | refine callSG_con (math_Abs_con (fop .sub s (at2 M q j))) rfl ?_
    have l1' : fcmp .gt (fabs (fop .sub s (at2 M q j))) 4457293557087583675 = false := l1
    simp -implicitDefEqProofs only [xC_skip, evS, decide_true, decide_false, decide_eq_true_eq, sides, Inst.places, List.zip_cons_cons, List.zip_nil_right, List.zip_nil_left, List.mem_cons, List.not_mem_nil, forall_eq_or_imp, forall_eq, false_implies, implies_true, Apart, xeff, xhv, hv, effC, xev, look, argSl, atL, drops, keep, inBlockT, pickX, callX, callCX, callSX, callee, List.map_cons, List.map_nil, List.append_nil, List.nil_append, List.cons_append, reduceCtorEq, ↓reduceIte, Nat.reduceEqDiff, Nat.reduceAdd, Nat.reduceMul, eq_self, List.length_replicate, Int.reduceToNat, Int.reduceAdd, Int.reduceSub, Int.reduceMul, Int.reduceNeg, Int.reduceLT, Int.reduceLE, rowD, rowI, rowsD, ivD, rowG, rowIG, rowsG, ivG, bne_self_eq_false, beq_self_eq_true, List.length_map, List.getD_cons_zero, List.getD_cons_succ, List.drop_succ_cons, List.drop_zero, List.take_succ_cons, List.take_zero, List.take_nil, List.getElem?_cons_zero, List.getElem?_cons_succ, List.length_cons, List.length_nil, List.length_set, List.set_cons_zero, List.set_cons_succ, List.all_cons, List.all_nil, Nat.reduceLT, Nat.reduceLeDiff, ne_eq, Option.some.injEq, fillV, partsV, V.okPart, gt_iff_lt, ge_iff_le, l1']
    by_cases h5 : j < i
    · simp -implicitDefEqProofs only [xC_skip, evS, decide_true, decide_false, decide_eq_true_eq, sides, Inst.places, List.zip_cons_cons, List.zip_nil_right, List.zip_nil_left, List.mem_cons, List.not_mem_nil, forall_eq_or_imp, forall_eq, false_implies, implies_true, Apart, xeff, xhv, hv, effC, xev, look, argSl, atL, drops, keep, inBlockT, pickX, callX, callCX, callSX, callee, List.map_cons, List.map_nil, List.append_nil, List.nil_append, List.cons_append, reduceCtorEq, ↓reduceIte, Nat.reduceEqDiff, Nat.reduceAdd, Nat.reduceMul, eq_self, List.length_replicate, Int.reduceToNat, Int.reduceAdd, Int.reduceSub, Int.reduceMul, Int.reduceNeg, Int.reduceLT, Int.reduceLE, rowD, rowI, rowsD, ivD, rowG, rowIG, rowsG, ivG, bne_self_eq_false, beq_self_eq_true, List.length_map, List.getD_cons_zero, List.getD_cons_succ, List.drop_succ_cons, List.drop_zero, List.take_succ_cons, List.take_zero, List.take_nil, List.getElem?_cons_zero, List.getElem?_cons_succ, List.length_cons, List.length_nil, List.length_set, List.set_cons_zero, List.set_cons_succ, List.all_cons, List.all_nil, Nat.reduceLT, Nat.reduceLeDiff, ne_eq, Option.some.injEq, fillV, partsV, V.okPart, gt_iff_lt, ge_iff_le, h5, h1, h2, h3 i hi, hdo_getD _ _ _ _ _ hi, getD_map_fl _ _ e2]
      (repeat (with_reducible refine And.intro (by omega) ?_))
      first | refine callG_con (math_Abs_con (at2 B i j)) rfl ?_ | refine callCG_con (math_Abs_con (at2 B i j)) rfl ?_ | refine callSG_con (math_Abs_con (at2 B i j)) rfl ?_
      have l2' : fcmp .gt (fabs (at2 B i j)) 4607182418800017408 = false := l2 h5
      simp -implicitDefEqProofs only [xC_skip, evS, decide_true, decide_false, decide_eq_true_eq, sides, Inst.places, List.zip_cons_cons, List.zip_nil_right, List.zip_nil_left, List.mem_cons, List.not_mem_nil, forall_eq_or_imp, forall_eq, false_implies, implies_true, Apart, xeff, xhv, hv, effC, xev, look, argSl, atL, drops, keep, inBlockT, pickX, callX, callCX, callSX, callee, List.map_cons, List.map_nil, List.append_nil, List.nil_append, List.cons_append, reduceCtorEq, ↓reduceIte, Nat.reduceEqDiff, Nat.reduceAdd, Nat.reduceMul, eq_self, List.length_replicate, Int.reduceToNat, Int.reduceAdd, Int.reduceSub, Int.reduceMul, Int.reduceNeg, Int.reduceLT, Int.reduceLE, rowD, rowI, rowsD, ivD, rowG, rowIG, rowsG, ivG, bne_self_eq_false, beq_self_eq_true, List.length_map, List.getD_cons_zero, List.getD_cons_succ, List.drop_succ_cons, List.drop_zero, List.take_succ_cons, List.take_zero, List.take_nil, List.getElem?_cons_zero, List.getElem?_cons_succ, List.length_cons, List.length_nil, List.length_set, List.set_cons_zero, List.set_cons_succ, List.all_cons, List.all_nil, Nat.reduceLT, Nat.reduceLeDiff, ne_eq, Option.some.injEq, fillV, partsV, V.okPart, gt_iff_lt, ge_iff_le, l2']
      rw [wrapI (by omega) (by omega)]
      exact ⟨c - 1, by omega, j + 1, by omega, rfl⟩
    · simp -implicitDefEqProofs only [xC_skip, evS, decide_true, decide_false, decide_eq_true_eq, sides, Inst.places, List.zip_cons_cons, List.zip_nil_right, List.zip_nil_left, List.mem_cons, List.not_mem_nil, forall_eq_or_imp, forall_eq, false_implies, implies_true, Apart, xeff, xhv, hv, effC, xev, look, argSl, atL, drops, keep, inBlockT, pickX, callX, callCX, callSX, callee, List.map_cons, List.map_nil, List.append_nil, List.nil_append, List.cons_append, reduceCtorEq, ↓reduceIte, Nat.reduceEqDiff, Nat.reduceAdd, Nat.reduceMul, eq_self, List.length_replicate, Int.reduceToNat, Int.reduceAdd, Int.reduceSub, Int.reduceMul, Int.reduceNeg, Int.reduceLT, Int.reduceLE, rowD, rowI, rowsD, ivD, rowG, rowIG, rowsG, ivG, bne_self_eq_false, beq_self_eq_true, List.length_map, List.getD_cons_zero, List.getD_cons_succ, List.drop_succ_cons, List.drop_zero, List.take_succ_cons, List.take_zero, List.take_nil, List.getElem?_cons_zero, List.getElem?_cons_succ, List.length_cons, List.length_nil, List.length_set, List.set_cons_zero, List.set_cons_succ, List.all_cons, List.all_nil, Nat.reduceLT, Nat.reduceLeDiff, ne_eq, Option.some.injEq, fillV, partsV, V.okPart, gt_iff_lt, ge_iff_le, h5]
      rw [wrapI (by omega) (by omega)]
      exact ⟨c - 1, by omega, j + 1, by omega, rfl⟩
  · replace h := of_decide_eq_false h
    simp -implicitDefEqProofs only [xC_skip, evS, decide_true, decide_false, decide_eq_true_eq, sides, Inst.places, List.zip_cons_cons, List.zip_nil_right, List.zip_nil_left, List.mem_cons, List.not_mem_nil, forall_eq_or_imp, forall_eq, false_implies, implies_true, Apart, xeff, xhv, hv, effC, xev, look, argSl, atL, drops, keep, inBlockT, pickX, callX, callCX, callSX, callee, List.map_cons, List.map_nil, List.append_nil, List.nil_append, List.cons_append, reduceCtorEq, ↓reduceIte, Nat.reduceEqDiff, Nat.reduceAdd, Nat.reduceMul, eq_self, List.length_replicate, Int.reduceToNat, Int.reduceAdd, Int.reduceSub, Int.reduceMul, Int.reduceNeg, Int.reduceLT, Int.reduceLE, rowD, rowI, rowsD, ivD, rowG, rowIG, rowsG, ivG, bne_self_eq_false, beq_self_eq_true, List.length_map, List.getD_cons_zero, List.getD_cons_succ, List.drop_succ_cons, List.drop_zero, List.take_succ_cons, List.take_zero, List.take_nil, List.getElem?_cons_zero, List.getElem?_cons_succ, List.length_cons, List.length_nil, List.length_set, List.set_cons_zero, List.set_cons_succ, List.all_cons, List.all_nil, Nat.reduceLT, Nat.reduceLeDiff, ne_eq, Option.some.injEq, fillV, partsV, V.okPart, gt_iff_lt, ge_iff_le]
    exact hQ _ _
def seenV (π : List Int) (k i : Nat) : List V := (List.range k).map fun q => fB ((List.range i).any fun r => plN π r == q)
theorem seenV_len (π : List Int) (k i : Nat) : (seenV π k i).length = k := by simp [seenV]
theorem seenV_cells (π : List Int) (k i : Nat) : (seenV π k i).all V.isCell = true := by
  simp [seenV, V.isCell]
theorem seenV_zero (π : List Int) (k : Nat) : repl k [fB false] = seenV π k 0 := by
  have e : ∀ k, repl k [fB false] = List.replicate k (fB false) := by
    intro k
    unfold repl
    induction k with
    | zero => rfl
    | succ k ih => simp [List.replicate_succ, ih]
  rw [e]
  refine List.ext_getElem? fun j => ?_
  by_cases h : j < k <;> simp [seenV, h]
theorem seenV_getD {π : List Int} {k : Nat} (hπ : Pr k π) {i : Nat} (hi : i < k) : (seenV π k i).getD (plN π i) .any = fB false := by
  have hl := hπ.lt hi
  have e : ((List.range i).any fun r => plN π r == plN π i) = false := by
    rw [List.any_eq_false]
    intro r hr
    have hr : r < i := by simpa using hr
    simp only [beq_iff_eq]
    intro e
    have := hπ.injN (by omega : r < k) hi e
    omega
  simp only [seenV, List.getD_eq_getElem?_getD, List.getElem?_map]
  have h3 : (List.range k)[plN π i]? = some (plN π i) := by simp [hl]
  rw [h3]
  simp only [Option.map_some, Option.getD_some, e]
theorem seenV_set {π : List Int} {k : Nat} (hπ : Pr k π) {i : Nat} (hi : i < k) : (seenV π k i).set (plN π i) (fB true) = seenV π k (i + 1) := by
  have hl := hπ.lt hi
  refine List.ext_getElem? fun j => ?_
  simp only [seenV, List.getElem?_set, List.length_map, List.length_range, List.getElem?_map]
  by_cases h1 : plN π i = j
  · subst h1
    have h3 : (List.range k)[plN π i]? = some (plN π i) := by simp [hl]
    rw [if_pos rfl, if_pos hl, h3]
    simp [List.range_succ]
  · rw [if_neg h1]
    by_cases h2 : j < k
    · have h3 : (List.range k)[j]? = some j := by simp [h2]
      rw [h3]
      have : (plN π i == j) = false := by simpa using h1
      simp [List.range_succ, this]
    · have h3 : (List.range k)[j]? = none := by simp; omega
      rw [h3]; rfl
/-- All that lies there. -/
def pH (M B : List (List Nat)) (π : List Int) (k i : Nat) : Heap :=
  [(1009, [seenV π k i]), (1007, [[.sl 1002 0 0 k 1 k, .sl 1005 0 0 k 1 k]]), (1005, [rowIV π]), (1002, hdo 1002 1 k k :: B.map rowV), (1000, [[.sl 1002 0 0 k 1 k, .sl 1005 0 0 k 1 k]]), (206, [[.sl 1002 0 0 k 1 k, .sl 1005 0 0 k 1 k]]), (200, M.map rowV), (100, [hdo 200 0 k k])]
set_option maxRecDepth 8000 in
theorem parts_L0 (N : Nat → Prop) (M B : List (List Nat)) (π : List Int) (k : Nat) (hM : Sq k M) (hB : Sq k B) (hπ : Pr k π) (hk : k < 2 ^ 20)
    (law : ∀ i j, i < k → j < k → fcmp .gt (fabs (fop .sub (sF B i j (min i j + 1)) (at2 M (plN π i) j))) tiny = false ∧ (j < i → fcmp .gt (fabs (at2 B i j)) one = false)) (Q : Ex → T → Prop)
    (hQ : ∀ v w L, Q (.exit 0) ⟨[(5, .sl 100 0 0 k 1 k), (6, fI k), (7, .ptr 206 0 0 2), (9, .sl 1009 0 0 k 1 k), (10, v), (56, w)], L⟩) :
    WA Try.prog N 153 (.loop A_l6_LinParts_L0) Q ⟨[(5, .sl 100 0 0 k 1 k), (6, fI k), (7, .ptr 206 0 0 2), (9, .sl 1009 0 0 k 1 k), (10, fI 0)], pH M B π k 0⟩ := by
  refine WA_for (n := k) (fun c s => ∃ i, c + i = k ∧ s = ⟨[(5, .sl 100 0 0 k 1 k), (6, fI k), (7, .ptr 206 0 0 2), (9, .sl 1009 0 0 k 1 k), (10, fI i)], pH M B π k i⟩) ⟨0, by omega, rfl⟩ ?_
  rintro c s ⟨i, hc, rfl⟩
  have hsl := seenV_len π k i
  have hπl := hπ.pl.1
  simp -implicitDefEqProofs only [xC_skip, evS, decide_true, decide_false, decide_eq_true_eq, sides, Inst.places, List.zip_cons_cons, List.zip_nil_right, List.zip_nil_left, List.mem_cons, List.not_mem_nil, forall_eq_or_imp, forall_eq, false_implies, implies_true, Apart, xeff, xhv, hv, effC, xev, look, argSl, atL, drops, keep, inBlockT, pickX, callX, callCX, callSX, callee, List.map_cons, List.map_nil, List.append_nil, List.nil_append, List.cons_append, reduceCtorEq, ↓reduceIte, Nat.reduceEqDiff, Nat.reduceAdd, Nat.reduceMul, eq_self, List.length_replicate, Int.reduceToNat, Int.reduceAdd, Int.reduceSub, Int.reduceMul, Int.reduceNeg, Int.reduceLT, Int.reduceLE, rowD, rowI, rowsD, ivD, rowG, rowIG, rowsG, ivG, bne_self_eq_false, beq_self_eq_true, List.length_map, List.getD_cons_zero, List.getD_cons_succ, List.drop_succ_cons, List.drop_zero, List.take_succ_cons, List.take_zero, List.take_nil, List.getElem?_cons_zero, List.getElem?_cons_succ, List.length_cons, List.length_nil, List.length_set, List.set_cons_zero, List.set_cons_succ, List.all_cons, List.all_nil, Nat.reduceLT, Nat.reduceLeDiff, ne_eq, Option.some.injEq, fillV, partsV, V.okPart, gt_iff_lt, ge_iff_le, A_l6_LinParts_L0, pH]
  refine condC_intro (fun h => ?_) (fun h => ?_)
  · replace h := of_decide_eq_true h
    have e1 : i < π.length := by omega
    have hp := hπ.lt h
    have he := hπ.eq h
    have hsg := seenV_getD hπ h
    have hss := seenV_set hπ h
    have g1 := hB.2 i h
    have hBl := hB.1
    have hMl := hM.1
    have lw := fun j hj => law i j h hj
    have p0 : ((plN π i : Nat) : Int) < 0 ↔ False := ⟨fun h => by omega, fun h => h.elim⟩
    have p1 : ((k : Nat) : Int) ≤ ((plN π i : Nat) : Int) ↔ False := ⟨fun h => by omega, fun h => h.elim⟩
    have hst : ∀ L, L = pH M B π k (i + 1) → LuAt L B π k 206 ∧ L.get 100 0 = some (hdo 200 0 k k) ∧ ∀ r, r < k → L.get 200 r = some (rowV (M.getD r [])) := by
      rintro L rfl
      refine ⟨⟨by simp [pH, get_cons], by simp [pH, get_cons], fun r hr => ?_, by simp [pH, get_cons], hB⟩, by simp [pH, get_cons], fun r hr => ?_⟩
      · simp only [pH, get_cons, Nat.reduceEqDiff, if_false, if_true, List.getElem?_cons_succ]
        exact getE B r (by omega)
      · simp only [pH, get_cons, Nat.reduceEqDiff, if_false, if_true]
        exact getE M r (by omega)
    generalize hq : plN π i = q at *
    simp -implicitDefEqProofs only [xC_skip, evS, decide_true, decide_false, decide_eq_true_eq, sides, Inst.places, List.zip_cons_cons, List.zip_nil_right, List.zip_nil_left, List.mem_cons, List.not_mem_nil, forall_eq_or_imp, forall_eq, false_implies, implies_true, Apart, xeff, xhv, hv, effC, xev, look, argSl, atL, drops, keep, inBlockT, pickX, callX, callCX, callSX, callee, List.map_cons, List.map_nil, List.append_nil, List.nil_append, List.cons_append, reduceCtorEq, ↓reduceIte, Nat.reduceEqDiff, Nat.reduceAdd, Nat.reduceMul, eq_self, List.length_replicate, Int.reduceToNat, Int.reduceAdd, Int.reduceSub, Int.reduceMul, Int.reduceNeg, Int.reduceLT, Int.reduceLE, rowD, rowI, rowsD, ivD, rowG, rowIG, rowsG, ivG, bne_self_eq_false, beq_self_eq_true, List.length_map, List.getD_cons_zero, List.getD_cons_succ, List.drop_succ_cons, List.drop_zero, List.take_succ_cons, List.take_zero, List.take_nil, List.getElem?_cons_zero, List.getElem?_cons_succ, List.length_cons, List.length_nil, List.length_set, List.set_cons_zero, List.set_cons_succ, List.all_cons, List.all_nil, Nat.reduceLT, Nat.reduceLeDiff, ne_eq, Option.some.injEq, fillV, partsV, V.okPart, gt_iff_lt, ge_iff_le, getD_rowIV _ _ e1, he, p0, p1, hsg, hdo_getD _ _ _ _ _ h, getE B i (Nat.lt_of_lt_of_eq h hBl.symm), g1, seenV_cells]
    (repeat (with_reducible refine And.intro (by omega) ?_))
    rw [hss]
    subst hq
    obtain ⟨s1, s2, s3⟩ := hst _ rfl
    refine parts_L1 N M B π k i _ _ s1 hM s2 s3 h hk hp lw _ fun v w => ?_
    simp -implicitDefEqProofs only [xC_skip, evS, decide_true, decide_false, decide_eq_true_eq, sides, Inst.places, List.zip_cons_cons, List.zip_nil_right, List.zip_nil_left, List.mem_cons, List.not_mem_nil, forall_eq_or_imp, forall_eq, false_implies, implies_true, Apart, xeff, xhv, hv, effC, xev, look, argSl, atL, drops, keep, inBlockT, pickX, callX, callCX, callSX, callee, List.map_cons, List.map_nil, List.append_nil, List.nil_append, List.cons_append, reduceCtorEq, ↓reduceIte, Nat.reduceEqDiff, Nat.reduceAdd, Nat.reduceMul, eq_self, List.length_replicate, Int.reduceToNat, Int.reduceAdd, Int.reduceSub, Int.reduceMul, Int.reduceNeg, Int.reduceLT, Int.reduceLE, rowD, rowI, rowsD, ivD, rowG, rowIG, rowsG, ivG, bne_self_eq_false, beq_self_eq_true, List.length_map, List.getD_cons_zero, List.getD_cons_succ, List.drop_succ_cons, List.drop_zero, List.take_succ_cons, List.take_zero, List.take_nil, List.getElem?_cons_zero, List.getElem?_cons_succ, List.length_cons, List.length_nil, List.length_set, List.set_cons_zero, List.set_cons_succ, List.all_cons, List.all_nil, Nat.reduceLT, Nat.reduceLeDiff, ne_eq, Option.some.injEq, fillV, partsV, V.okPart, gt_iff_lt, ge_iff_le]
    rw [wrapI (by omega) (by omega)]
    exact ⟨c - 1, by omega, i + 1, by omega, rfl⟩
  · replace h := of_decide_eq_false h
    simp -implicitDefEqProofs only [xC_skip, evS, decide_true, decide_false, decide_eq_true_eq, sides, Inst.places, List.zip_cons_cons, List.zip_nil_right, List.zip_nil_left, List.mem_cons, List.not_mem_nil, forall_eq_or_imp, forall_eq, false_implies, implies_true, Apart, xeff, xhv, hv, effC, xev, look, argSl, atL, drops, keep, inBlockT, pickX, callX, callCX, callSX, callee, List.map_cons, List.map_nil, List.append_nil, List.nil_append, List.cons_append, reduceCtorEq, ↓reduceIte, Nat.reduceEqDiff, Nat.reduceAdd, Nat.reduceMul, eq_self, List.length_replicate, Int.reduceToNat, Int.reduceAdd, Int.reduceSub, Int.reduceMul, Int.reduceNeg, Int.reduceLT, Int.reduceLE, rowD, rowI, rowsD, ivD, rowG, rowIG, rowsG, ivG, bne_self_eq_false, beq_self_eq_true, List.length_map, List.getD_cons_zero, List.getD_cons_succ, List.drop_succ_cons, List.drop_zero, List.take_succ_cons, List.take_zero, List.take_nil, List.getElem?_cons_zero, List.getElem?_cons_succ, List.length_cons, List.length_nil, List.length_set, List.set_cons_zero, List.set_cons_succ, List.all_cons, List.all_nil, Nat.reduceLT, Nat.reduceLeDiff, ne_eq, Option.some.injEq, fillV, partsV, V.okPart, gt_iff_lt, ge_iff_le]
    exact hQ _ _ _
set_option maxRecDepth 8000 in
theorem l6_LinParts_con (n : Int) (ns : List Int) (hns : ns.length < 2 ^ 62) : Con Try.prog 4 [fI n, .d (rowI ns)] (fB true) := by
  refine Con_introA A_l6_LinParts_comp rfl mixed ?_
  simp -implicitDefEqProofs only [xC_skip, evS, decide_true, decide_false, decide_eq_true_eq, sides, Inst.places, List.zip_cons_cons, List.zip_nil_right, List.zip_nil_left, List.mem_cons, List.not_mem_nil, forall_eq_or_imp, forall_eq, false_implies, implies_true, Apart, xeff, xhv, hv, effC, xev, look, argSl, atL, drops, keep, inBlockT, pickX, callX, callCX, callSX, callee, List.map_cons, List.map_nil, List.append_nil, List.nil_append, List.cons_append, reduceCtorEq, ↓reduceIte, Nat.reduceEqDiff, Nat.reduceAdd, Nat.reduceMul, eq_self, List.length_replicate, Int.reduceToNat, Int.reduceAdd, Int.reduceSub, Int.reduceMul, Int.reduceNeg, Int.reduceLT, Int.reduceLE, rowD, rowI, rowsD, ivD, rowG, rowIG, rowsG, ivG, bne_self_eq_false, beq_self_eq_true, List.length_map, List.getD_cons_zero, List.getD_cons_succ, List.drop_succ_cons, List.drop_zero, List.take_succ_cons, List.take_zero, List.take_nil, List.getElem?_cons_zero, List.getElem?_cons_succ, List.length_cons, List.length_nil, List.length_set, List.set_cons_zero, List.set_cons_succ, List.all_cons, List.all_nil, Nat.reduceLT, Nat.reduceLeDiff, ne_eq, Option.some.injEq, fillV, partsV, V.okPart, gt_iff_lt, ge_iff_le, A_l6_LinParts]
  first | refine callG_con (l6_known_con) rfl ?_ | refine callCG_con (l6_known_con) rfl ?_ | refine callSG_con (l6_known_con) rfl ?_
  simp -implicitDefEqProofs only [xC_skip, evS, decide_true, decide_false, decide_eq_true_eq, sides, Inst.places, List.zip_cons_cons, List.zip_nil_right, List.zip_nil_left, List.mem_cons, List.not_mem_nil, forall_eq_or_imp, forall_eq, false_implies, implies_true, Apart, xeff, xhv, hv, effC, xev, look, argSl, atL, drops, keep, inBlockT, pickX, callX, callCX, callSX, callee, List.map_cons, List.map_nil, List.append_nil, List.nil_append, List.cons_append, reduceCtorEq, ↓reduceIte, Nat.reduceEqDiff, Nat.reduceAdd, Nat.reduceMul, eq_self, List.length_replicate, Int.reduceToNat, Int.reduceAdd, Int.reduceSub, Int.reduceMul, Int.reduceNeg, Int.reduceLT, Int.reduceLE, rowD, rowI, rowsD, ivD, rowG, rowIG, rowsG, ivG, bne_self_eq_false, beq_self_eq_true, List.length_map, List.getD_cons_zero, List.getD_cons_succ, List.drop_succ_cons, List.drop_zero, List.take_succ_cons, List.take_zero, List.take_nil, List.getElem?_cons_zero, List.getElem?_cons_succ, List.length_cons, List.length_nil, List.length_set, List.set_cons_zero, List.set_cons_succ, List.all_cons, List.all_nil, Nat.reduceLT, Nat.reduceLeDiff, ne_eq, Option.some.injEq, fillV, partsV, V.okPart, gt_iff_lt, ge_iff_le]
  have hm := l6_Make_ac n 1 ns hns
  have m1 := Int.emod_nonneg n (by decide : (5 : Int) ≠ 0)
  have m2 := Int.emod_lt_of_pos n (by decide : (0 : Int) < 5)
  have em : makeM n ns 1 = mkM ns ((n % 5).toNat + 1) ((n % 5).toNat + 1) := by
    unfold makeM
    rw [if_neg (by decide)]
  rw [em] at hm
  have hk1 : 0 < (n % 5).toNat + 1 := by omega
  have hk5 : (n % 5).toNat + 1 ≤ 5 := by omega
  generalize (n % 5).toNat + 1 = k at *
  refine callG_ac hm ?_
  have hsq := mkM_sq ns k
  have hbd := mkM_bd ns k
  have law := fun B π => parts_law (mkM ns k k) k hsq hk5 hbd B π
  generalize hM : mkM ns k k = M at *
  simp -implicitDefEqProofs only [xC_skip, evS, decide_true, decide_false, decide_eq_true_eq, sides, Inst.places, List.zip_cons_cons, List.zip_nil_right, List.zip_nil_left, List.mem_cons, List.not_mem_nil, forall_eq_or_imp, forall_eq, false_implies, implies_true, Apart, xeff, xhv, hv, effC, xev, look, argSl, atL, drops, keep, inBlockT, pickX, callX, callCX, callSX, callee, List.map_cons, List.map_nil, List.append_nil, List.nil_append, List.cons_append, reduceCtorEq, ↓reduceIte, Nat.reduceEqDiff, Nat.reduceAdd, Nat.reduceMul, eq_self, List.length_replicate, Int.reduceToNat, Int.reduceAdd, Int.reduceSub, Int.reduceMul, Int.reduceNeg, Int.reduceLT, Int.reduceLE, rowD, rowI, rowsD, ivD, rowG, rowIG, rowsG, ivG, bne_self_eq_false, beq_self_eq_true, List.length_map, List.getD_cons_zero, List.getD_cons_succ, List.drop_succ_cons, List.drop_zero, List.take_succ_cons, List.take_zero, List.take_nil, List.getElem?_cons_zero, List.getElem?_cons_succ, List.length_cons, List.length_nil, List.length_set, List.set_cons_zero, List.set_cons_succ, List.all_cons, List.all_nil, Nat.reduceLT, Nat.reduceLeDiff, ne_eq, Option.some.injEq, fillV, partsV, V.okPart, gt_iff_lt, ge_iff_le, mkH0]
  cases hp : partP M k k with
  | none =>
    refine part_nil_named M k hsq (by omega) hp _ ?_
    simp -implicitDefEqProofs only [xC_skip, evS, decide_true, decide_false, decide_eq_true_eq, sides, Inst.places, List.zip_cons_cons, List.zip_nil_right, List.zip_nil_left, List.mem_cons, List.not_mem_nil, forall_eq_or_imp, forall_eq, false_implies, implies_true, Apart, xeff, xhv, hv, effC, xev, look, argSl, atL, drops, keep, inBlockT, pickX, callX, callCX, callSX, callee, List.map_cons, List.map_nil, List.append_nil, List.nil_append, List.cons_append, reduceCtorEq, ↓reduceIte, Nat.reduceEqDiff, Nat.reduceAdd, Nat.reduceMul, eq_self, List.length_replicate, Int.reduceToNat, Int.reduceAdd, Int.reduceSub, Int.reduceMul, Int.reduceNeg, Int.reduceLT, Int.reduceLE, rowD, rowI, rowsD, ivD, rowG, rowIG, rowsG, ivG, bne_self_eq_false, beq_self_eq_true, List.length_map, List.getD_cons_zero, List.getD_cons_succ, List.drop_succ_cons, List.drop_zero, List.take_succ_cons, List.take_zero, List.take_nil, List.getElem?_cons_zero, List.getElem?_cons_succ, List.length_cons, List.length_nil, List.length_set, List.set_cons_zero, List.set_cons_succ, List.all_cons, List.all_nil, Nat.reduceLT, Nat.reduceLeDiff, ne_eq, Option.some.injEq, fillV, partsV, V.okPart, gt_iff_lt, ge_iff_le, mkH0]
    exact endsT_rett rfl (by decide) (by simp [look])
  | some Bπ =>
    obtain ⟨B, π⟩ := Bπ
    refine part_named 1000 (by simp [Heap.next]) hsq (by omega) (X := 200) (o := 0) (by simp [get_cons]) (fun r hr => ?_) hp _ ?_
    · have := hsq.1
      simp only [get_cons, Nat.reduceEqDiff, if_false, if_true, Nat.add_zero]
      exact getE M r (by omega)
    simp -implicitDefEqProofs only [xC_skip, evS, decide_true, decide_false, decide_eq_true_eq, sides, Inst.places, List.zip_cons_cons, List.zip_nil_right, List.zip_nil_left, List.mem_cons, List.not_mem_nil, forall_eq_or_imp, forall_eq, false_implies, implies_true, Apart, xeff, xhv, hv, effC, xev, look, argSl, atL, drops, keep, inBlockT, pickX, callX, callCX, callSX, callee, List.map_cons, List.map_nil, List.append_nil, List.nil_append, List.cons_append, reduceCtorEq, ↓reduceIte, Nat.reduceEqDiff, Nat.reduceAdd, Nat.reduceMul, eq_self, List.length_replicate, Int.reduceToNat, Int.reduceAdd, Int.reduceSub, Int.reduceMul, Int.reduceNeg, Int.reduceLT, Int.reduceLE, rowD, rowI, rowsD, ivD, rowG, rowIG, rowsG, ivG, bne_self_eq_false, beq_self_eq_true, List.length_map, List.getD_cons_zero, List.getD_cons_succ, List.drop_succ_cons, List.drop_zero, List.take_succ_cons, List.take_zero, List.take_nil, List.getElem?_cons_zero, List.getElem?_cons_succ, List.length_cons, List.length_nil, List.length_set, List.set_cons_zero, List.set_cons_succ, List.all_cons, List.all_nil, Nat.reduceLT, Nat.reduceLeDiff, ne_eq, Option.some.injEq, fillV, partsV, V.okPart, gt_iff_lt, ge_iff_le]
    (repeat (with_reducible refine And.intro (by omega) ?_))
    obtain ⟨hB, hπl⟩ := partP_sq _ _ hsq _ (Nat.le_refl _) B π hp
    obtain ⟨hπ, hlaw⟩ := law B π hp
    rw [seenV_zero π k]
    refine parts_L0 _ M B π k hsq hB hπ (by omega) hlaw _ fun v w L => ?_
    simp -implicitDefEqProofs only [xC_skip, evS, decide_true, decide_false, decide_eq_true_eq, sides, Inst.places, List.zip_cons_cons, List.zip_nil_right, List.zip_nil_left, List.mem_cons, List.not_mem_nil, forall_eq_or_imp, forall_eq, false_implies, implies_true, Apart, xeff, xhv, hv, effC, xev, look, argSl, atL, drops, keep, inBlockT, pickX, callX, callCX, callSX, callee, List.map_cons, List.map_nil, List.append_nil, List.nil_append, List.cons_append, reduceCtorEq, ↓reduceIte, Nat.reduceEqDiff, Nat.reduceAdd, Nat.reduceMul, eq_self, List.length_replicate, Int.reduceToNat, Int.reduceAdd, Int.reduceSub, Int.reduceMul, Int.reduceNeg, Int.reduceLT, Int.reduceLE, rowD, rowI, rowsD, ivD, rowG, rowIG, rowsG, ivG, bne_self_eq_false, beq_self_eq_true, List.length_map, List.getD_cons_zero, List.getD_cons_succ, List.drop_succ_cons, List.drop_zero, List.take_succ_cons, List.take_zero, List.take_nil, List.getElem?_cons_zero, List.getElem?_cons_succ, List.length_cons, List.length_nil, List.length_set, List.set_cons_zero, List.set_cons_succ, List.all_cons, List.all_nil, Nat.reduceLT, Nat.reduceLeDiff, ne_eq, Option.some.injEq, fillV, partsV, V.okPart, gt_iff_lt, ge_iff_le]
    exact endsT_rett rfl (by decide) (by simp [look])
end Go.Ab
