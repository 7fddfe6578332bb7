/- LinSolves: what solves rows, put in, is what was asked for, but for rounding. -/
import Derived.Test.YtnoeajoeeldimaaLT
namespace Go.Ab
set_option linter.unusedSimpArgs false
set_option linter.unusedVariables false
open Go Go.Proofs
def A_l6_LinSolves_L0 : CA := (.seq (.seq (.reg [⟨0, (some 24), none, [], [], (.h (.mov (.t 9)))⟩, ⟨1, (some 25), none, [], [], (.h (.mov (.t 8)))⟩, ⟨2, (some 26), none, [], [], (.h (.ibin .lss (.t 24) (.t 25)))⟩] [2, 7, 8, 9, 26]) (.cond (.t 26) .skip (.exit 0))) (.seq (.block 1 (.reg [⟨0, (some 29), none, [], [], (.h (.mov (.t 7)))⟩, ⟨1, (some 30), none, [], [], (.h (.mov (.t 9)))⟩, ⟨2, (some 31), none, [], [], (.h (.idx (.t 29) (.t 30) 1))⟩, ⟨3, (some 32), none, [], [], (.load (.t 31) 1 false)⟩, ⟨4, (some 33), none, [], [], (.h (.mov (.t 9)))⟩, ⟨5, (some 34), none, [], [], (.h (.mov (.t 7)))⟩, ⟨6, (some 35), none, [], [], (.h (.mov (.t 9)))⟩, ⟨7, (some 36), none, [], [], (.h (.idx (.t 34) (.t 35) 1))⟩, ⟨8, (some 37), none, [], [], (.load (.t 36) 1 false)⟩, ⟨9, (some 38), none, [], [], (.h (.mov (.t 9)))⟩, ⟨10, (some 39), none, [], [], (.h (.idx (.t 37) (.t 38) 1))⟩, ⟨11, (some 40), none, [], [], (.load (.t 39) 1 false)⟩, ⟨12, (some 41), none, [], [], (.h (.fbin .add (.t 40) (.k (.d (.flt 4630826316843712512)))))⟩, ⟨13, (some 42), none, [], [], (.h (.idx (.t 32) (.t 33) 1))⟩, ⟨14, none, none, [], [], (.store (.t 42) (.t 41) 1)⟩] [2, 7, 8, 9])) (.reg [⟨0, (some 27), none, [], [], (.h (.mov (.t 9)))⟩, ⟨1, (some 28), none, [], [], (.h (.ibin .add (.t 27) (.k (.d (.int .i64 1)))))⟩, ⟨2, (some 9), none, [], [], (.h (.mov (.t 28)))⟩] [2, 7, 8, 9])))
def A_l6_LinSolves_L2 : CA := (.seq (.seq (.reg [⟨0, (some 65), none, [], [], (.h (.mov (.t 16)))⟩, ⟨1, (some 66), none, [], [], (.h (.mov (.t 8)))⟩, ⟨2, (some 67), none, [], [], (.h (.ibin .lss (.t 65) (.t 66)))⟩] [7, 8, 10, 13, 14, 15, 16, 67]) (.cond (.t 67) .skip (.exit 4))) (.seq (.block 5 (.reg [⟨0, (some 70), none, [], [], (.h (.mov (.t 15)))⟩, ⟨1, (some 71), none, [], [], (.h (.mov (.t 7)))⟩, ⟨2, (some 72), none, [], [], (.h (.mov (.t 14)))⟩, ⟨3, (some 73), none, [], [], (.h (.idx (.t 71) (.t 72) 1))⟩, ⟨4, (some 74), none, [], [], (.load (.t 73) 1 false)⟩, ⟨5, (some 75), none, [], [], (.h (.mov (.t 16)))⟩, ⟨6, (some 76), none, [], [], (.h (.idx (.t 74) (.t 75) 1))⟩, ⟨7, (some 77), none, [], [], (.load (.t 76) 1 false)⟩, ⟨8, (some 78), none, [], [], (.h (.mov (.t 13)))⟩, ⟨9, (some 79), none, [], [], (.h (.mov (.t 16)))⟩, ⟨10, (some 80), none, [], [], (.h (.idx (.t 78) (.t 79) 1))⟩, ⟨11, (some 81), none, [], [], (.load (.t 80) 1 false)⟩, ⟨12, (some 82), none, [], [], (.h (.fbin .mul (.t 77) (.t 81)))⟩, ⟨13, (some 83), none, [], [], (.h (.fbin .add (.t 70) (.t 82)))⟩, ⟨14, (some 15), none, [], [], (.h (.mov (.t 83)))⟩] [7, 8, 10, 13, 14, 15, 16])) (.reg [⟨0, (some 68), none, [], [], (.h (.mov (.t 16)))⟩, ⟨1, (some 69), none, [], [], (.h (.ibin .add (.t 68) (.k (.d (.int .i64 1)))))⟩, ⟨2, (some 16), none, [], [], (.h (.mov (.t 69)))⟩] [7, 8, 10, 13, 14, 15, 16])))
def A_l6_LinSolves_L1 : CA := (.seq (.seq (.reg [⟨0, (some 60), none, [], [], (.h (.mov (.t 14)))⟩, ⟨1, (some 61), none, [], [], (.h (.mov (.t 8)))⟩, ⟨2, (some 62), none, [], [], (.h (.ibin .lss (.t 60) (.t 61)))⟩] [7, 8, 10, 13, 14, 62]) (.cond (.t 62) .skip (.exit 2))) (.seq (.block 3 (.seq (.reg [⟨0, (some 15), none, [], [], (.h (.mov (.k (.d (.flt 0)))))⟩] [7, 8, 10, 13, 14, 15]) (.seq (.seq (.reg [⟨0, (some 16), none, [], [], (.h (.mov (.k (.d (.int .i64 0)))))⟩] [7, 8, 10, 13, 14, 15, 16]) (.block 4 (.loop A_l6_LinSolves_L2))) (.seq (.reg [⟨0, (some 84), none, [], [], (.h (.mov (.t 15)))⟩, ⟨1, (some 85), none, [], [], (.h (.mov (.t 10)))⟩, ⟨2, (some 86), none, [], [], (.h (.mov (.t 14)))⟩, ⟨3, (some 87), none, [], [], (.h (.idx (.t 85) (.t 86) 1))⟩, ⟨4, (some 88), none, [], [], (.load (.t 87) 1 false)⟩, ⟨5, (some 89), none, [], [], (.h (.fbin .sub (.t 84) (.t 88)))⟩, ⟨6, (some 90), none, [], [], (.callA (.k (.d (.fn 29 [] []))) [(.t 89)])⟩, ⟨7, (some 91), none, [], [], (.h (.fcmp .gt (.t 90) (.k (.d (.flt 4472406533629990549)))))⟩] [7, 8, 10, 13, 14, 91]) (.cond (.t 91) (.seq (.reg [⟨0, (some 6), none, [], [], (.h (.mov (.k (.d (.bool false)))))⟩] [6]) .ret) .skip))))) (.reg [⟨0, (some 63), none, [], [], (.h (.mov (.t 14)))⟩, ⟨1, (some 64), none, [], [], (.h (.ibin .add (.t 63) (.k (.d (.int .i64 1)))))⟩, ⟨2, (some 14), none, [], [], (.h (.mov (.t 64)))⟩] [7, 8, 10, 13, 14])))
def A_l6_LinSolves : CA := (.seq (.reg [⟨0, (some 6), none, [], [], (.h (.mov (.k (.d (.bool false)))))⟩] [0, 1, 2]) (.seq (.seq (.reg [⟨0, (some 17), none, [], [], (.callA (.k (.d (.fn 13 [] []))) [])⟩, ⟨1, (some 18), none, [], [], (.h (.un .not (.t 17)))⟩] [0, 1, 2, 18]) (.cond (.t 18) (.seq (.reg [⟨0, (some 6), none, [], [], (.h (.mov (.k (.d (.bool false)))))⟩] [6]) .ret) .skip)) (.seq (.reg [⟨0, (some 19), none, [], [], (.h (.mov (.t 0)))⟩, ⟨1, (some 20), none, [], [], (.h (.mov (.t 1)))⟩, ⟨2, (some 21), none, [], [], (.callA (.k (.d (.fn 14 [] []))) [(.t 19), (.t 20), (.k (.d (.int .i64 1)))])⟩, ⟨3, (some 7), none, [], [], (.h (.mov (.t 21)))⟩] [2, 7]) (.seq (.reg [⟨0, (some 22), none, [], [], (.h (.mov (.t 7)))⟩, ⟨1, (some 23), none, [], [], (.h (.len (.t 22)))⟩, ⟨2, (some 8), none, [], [], (.h (.mov (.t 23)))⟩] [2, 7, 8]) (.seq (.seq (.reg [⟨0, (some 9), none, [], [], (.h (.mov (.k (.d (.int .i64 0)))))⟩] [2, 7, 8, 9]) (.block 0 (.loop A_l6_LinSolves_L0))) (.seq (.reg [⟨0, (some 43), none, [], [], (.h (.mov (.t 8)))⟩, ⟨1, (some 44), none, [], [], (.h (.mov (.t 2)))⟩, ⟨2, (some 45), none, [], [], (.callA (.k (.d (.fn 15 [] []))) [(.t 43), (.t 44)])⟩, ⟨3, (some 10), none, [], [], (.h (.mov (.t 45)))⟩] [7, 8, 10]) (.seq (.reg [⟨0, (some 47), none, [], [], (.h (.mov (.t 7)))⟩, ⟨1, (some 48), none, [], [], (.callA (.k (.d (.fn 16 [] []))) [(.t 47)])⟩, ⟨2, (some 46), none, [], [], (.h (.mov (.t 48)))⟩, ⟨3, (some 49), none, [], [], (.h (.ext (.t 46) 0))⟩, ⟨4, (some 50), none, [], [], (.h (.ext (.t 46) 1))⟩, ⟨5, (some 11), none, [], [], (.alloc [.nil, .nil] 29)⟩, ⟨6, none, none, [], [], (.store (.t 11) (.t 49) 2)⟩, ⟨7, (some 12), none, [], [], (.h (.mov (.t 50)))⟩] [7, 8, 10, 11, 12]) (.seq (.seq (.reg [⟨0, (some 51), none, [], [], (.h (.mov (.t 12)))⟩, ⟨1, (some 52), none, [], [], (.h (.un .not (.t 51)))⟩] [7, 8, 10, 11, 52]) (.cond (.t 52) (.seq (.reg [⟨0, (some 6), none, [], [], (.h (.mov (.k (.d (.bool false)))))⟩] [6]) .ret) .skip)) (.seq (.reg [⟨0, (some 53), none, [], [], (.load (.t 11) 2 true)⟩, ⟨1, (some 54), none, [], [], (.h (.mov (.t 10)))⟩, ⟨2, (some 55), none, [], [], (.callA (.k (.d (.fn 24 [] []))) [(.t 53), (.t 54)])⟩, ⟨3, (some 13), none, [], [], (.h (.mov (.t 55)))⟩] [7, 8, 10, 13]) (.seq (.seq (.reg [⟨0, (some 56), none, [], [], (.h (.mov (.t 13)))⟩, ⟨1, (some 57), none, [], [], (.h (.len (.t 56)))⟩, ⟨2, (some 58), none, [], [], (.h (.mov (.t 8)))⟩, ⟨3, (some 59), none, [], [], (.h (.ibin .neq (.t 57) (.t 58)))⟩] [7, 8, 10, 13, 59]) (.cond (.t 59) (.seq (.reg [⟨0, (some 6), none, [], [], (.h (.mov (.k (.d (.bool false)))))⟩] [6]) .ret) .skip)) (.seq (.seq (.reg [⟨0, (some 14), none, [], [], (.h (.mov (.k (.d (.int .i64 0)))))⟩] [7, 8, 10, 13, 14]) (.block 2 (.loop A_l6_LinSolves_L1))) (.seq (.reg [⟨0, (some 6), none, [], [], (.h (.mov (.k (.d (.bool true)))))⟩] [6]) .ret))))))))))))
theorem A_l6_LinSolves_comp : compF Try.prog 8 = some ⟨92, [(6, none)], A_l6_LinSolves.strip⟩ := by kernel_rfl
def forty : Nat := 4630826316843712512
def nano : Nat := 4472406533629990549
theorem ix_forty : Ix (-2) forty 160 := by
  have r : Ieee.double.read forty = .number false 5629499534213120 (-47) := by decide
  refine ⟨⟨_, _, _, r⟩, ?_⟩
  rw [val_eq r]
  have h7 : (-2 : Int) = -47 + (45 : Nat) := by decide
  have := (congrArg pw h7).trans (pw_up _ _)
  rw [this]; simp; grind
theorem nano_val : fin nano ∧ 512 * stepE ≤ val nano := by
  have r : Ieee.double.read nano = .number false 4835703278458517 (-82) := by decide
  refine ⟨⟨_, _, _, r⟩, ?_⟩
  rw [val_eq r]
  have h := pw52 (-82)
  rw [show (-82 : Int) + 52 = -30 from rfl] at h
  have hp := pw_pos (-82)
  have h2 : ((4835703278458517 : Nat) : Rat) = 4835703278458517 := rfl
  have h7 := pw_up (-39) 9
  rw [show (-39 : Int) + ((9 : Nat) : Int) = -30 from rfl] at h7
  have h8 : ((2 ^ 9 : Nat) : Rat) = 512 := rfl
  rw [h8] at h7
  simp only [Bool.false_eq_true, if_false]
  have e : 512 * stepE = pw (-30) := by rw [h7]; rfl
  rw [e, h, h2]
  grind
/-- Each row's own place, 40 more. -/
def addD (A : List (List Nat)) : Nat → List (List Nat)
  | 0 => A
  | i + 1 => up2 (addD A i) i i (fop .add (at2 (addD A i) i i) forty)
theorem addD_sq (A : List (List Nat)) (n : Nat) (hA : Sq n A) : ∀ i, Sq n (addD A i) := by
  intro i
  induction i with
  | zero => exact hA
  | succ i ih => exact up2_sq _ _ _ _ _ ih
theorem addD_at (A : List (List Nat)) (n : Nat) (hA : Sq n A) : ∀ i, i ≤ n → ∀ r c, at2 (addD A i) r c = if r < i ∧ c = r then fop .add (at2 A r r) forty else at2 A r c := by
  intro i
  induction i with
  | zero => intro _ r c; rw [if_neg (by omega)]; rfl
  | succ i ih =>
    intro hi r c
    simp only [addD]
    have e1 := ih (by omega) i i
    rw [if_neg (by omega)] at e1
    rw [at2_up2 _ n i i _ r c (addD_sq A n hA i) (by omega) (by omega), e1, ih (by omega) r c]
    by_cases e : r = i ∧ c = i
    · rw [if_pos e, if_pos (by omega)]; rw [e.1]
    · rw [if_neg e]
      by_cases e2 : r < i ∧ c = r
      · rw [if_pos e2, if_pos (by omega)]
      · rw [if_neg e2, if_neg (by omega)]
theorem far_M (ns : List Int) (k : Nat) : Bd k (addD (mkM ns k k) k) 44 ∧ Far k 0 (addD (mkM ns k k) k) := by
  have hs := mkM_sq ns k
  have e := addD_at (mkM ns k k) k hs k (Nat.le_refl k)
  have quarter : pw (-2) = 1 / 4 := by
    have h2 := pw_up (-2) 2
    rw [show (-2 : Int) + ((2 : Nat) : Int) = 0 from rfl, pw_zero] at h2
    have h3 : ((2 ^ 2 : Nat) : Rat) = 4 := rfl
    rw [h3] at h2
    grind
  have hoff : ∀ r c, r < k → c < k → r ≠ c → fin (at2 (addD (mkM ns k k) k) r c) ∧ rabs (va (addD (mkM ns k k) k) r c) ≤ 4 := by
    intro r c hr hc hrc
    unfold va
    rw [e, if_neg (by omega)]
    exact mkM_bd ns k r c hr hc
  have hdia : ∀ r, r < k → fin (at2 (addD (mkM ns k k) k) r r) ∧ 36 ≤ va (addD (mkM ns k k) k) r r ∧ va (addD (mkM ns k k) k) r r ≤ 44 := by
    intro r hr
    unfold va
    rw [e, if_pos ⟨hr, rfl⟩]
    obtain ⟨w, hw⟩ := mkM_at ns k r r hr hr
    obtain ⟨t, ht, h2⟩ := numM_K w
    rw [hw, h2]
    have hx := (ix_numK t ht).add ix_forty (by omega) (by decide) (by decide)
    refine ⟨hx.fin, ?_⟩
    rw [hx.val, quarter]
    have h1 : ((144 : Int) : Rat) ≤ (((t : Int) - 16 + 160 : Int) : Rat) := Rat.intCast_le_intCast.2 (by omega)
    have h3 : (((t : Int) - 16 + 160 : Int) : Rat) ≤ ((176 : Int) : Rat) := Rat.intCast_le_intCast.2 (by omega)
    have h4 : ((144 : Int) : Rat) = 144 := rfl
    have h5 : ((176 : Int) : Rat) = 176 := rfl
    rw [h4] at h1
    rw [h5] at h3
    constructor <;> grind
  refine ⟨fun r c hr hc => ?_, ⟨fun r c _ _ hr hc hrc => ?_, fun r _ hr => ?_, fun r c hr => by omega, fun r c hc => by omega, fun r hr => by omega⟩⟩
  · by_cases h : r = c
    · subst h
      obtain ⟨f, h1, h2⟩ := hdia r hr
      exact ⟨f, by rw [rabs_of_nonneg (by grind)]; exact h2⟩
    · obtain ⟨f, h1⟩ := hoff r c hr hc h
      exact ⟨f, by grind⟩
  · exact (hoff r c hr hc hrc).2
  · exact (hdia r hr).2.1
theorem numB_val (t : Nat) (ht : t < 201) : fin (numB t) ∧ rabs (val (numB t)) ≤ 25 / 2 := by
  have ix8 : Ix 3 4620693217682128896 1 := by
    have r : Ieee.double.read 4620693217682128896 = .number false 4503599627370496 (-49) := by decide
    refine ⟨⟨_, _, _, r⟩, ?_⟩
    rw [val_eq r]
    have h7 : (3 : Int) = -49 + (52 : Nat) := by decide
    have := (congrArg pw h7).trans (pw_up _ _)
    rw [this]; simp
  have hx : Ix (-3) (numB t) ((t : Int) - 100) := by
    unfold numB
    exact (Ix.ofInt ((t : Int) - 100) (by omega)).div ix8 (by decide) (by decide) (by omega) (by omega) (by decide) (by decide)
  refine ⟨hx.fin, ?_⟩
  rw [hx.val, rabs_mul, rabs_of_nonneg (Rat.le_of_lt (pw_pos _)), rabs_int]
  have h3 : (((t : Int) - 100).natAbs : Rat) ≤ (100 : Nat) := by exact_mod_cast Rat.natCast_le_natCast.2 (show ((t : Int) - 100).natAbs ≤ 100 by omega)
  have h4 := Rat.mul_le_mul_of_nonneg_right h3 (Rat.le_of_lt (pw_pos (-3)))
  have h2 := pw_up (-3) 3
  rw [show (-3 : Int) + ((3 : Nat) : Int) = 0 from rfl, pw_zero] at h2
  have h6 : ((2 ^ 3 : Nat) : Rat) = 8 := rfl
  have h7 : ((100 : Nat) : Rat) = 100 := rfl
  rw [h6] at h2
  rw [h7] at h4
  grind
theorem rowM_val (k : Nat) (bs : List Int) (i : Nat) (hi : i < k) : fin ((rowM k bs).getD i 0) ∧ rabs (val ((rowM k bs).getD i 0)) ≤ 25 / 2 := by
  obtain ⟨t, ht, e⟩ := numR_B (if i < bs.length then bs.getD i 0 else i)
  have e2 : (rowM k bs).getD i 0 = numB t := by
    rw [← e]; simp [rowM, List.getD_eq_getElem?_getD, hi]
  rw [e2]; exact numB_val t ht
/-- A row by what solves the rows. -/
def sG (A : List (List Nat)) (x : List Nat) (i : Nat) : Nat → Nat
  | 0 => 0
  | m + 1 => fop .add (sG A x i m) (fop .mul (at2 A i m) (x.getD m 0))
theorem sG_err (A : List (List Nat)) (x : List Nat) (n i : Nat) (hn : n ≤ 5) (hA : Bd n A 44) (hi : i < n) (hx : ∀ j, j < n → fin (x.getD j 0) ∧ rabs (val (x.getD j 0)) ≤ 14) : ∀ m, m ≤ n →
    fin (sG A x i m) ∧ rabs (val (sG A x i m) - rsum (fun j => va A i j * val (x.getD j 0)) m) ≤ (m : Rat) * stepE := by
  have hse : 0 < stepE := pw_pos _
  have hss := stepE_small
  have hse1 := stepE_eq
  have h40 := pw_pos (-40)
  have hP : ∀ j, j < n → rabs (va A i j * val (x.getD j 0)) ≤ 616 := by
    intro j hj
    rw [rabs_mul]
    have h1 := (hA i j hi hj).2
    have h2 := (hx j hj).2
    have h3 := Rat.mul_le_mul_of_nonneg_right h1 (rabs_nonneg (val (x.getD j 0)))
    grind
  intro m
  induction m with
  | zero =>
    intro _
    refine ⟨fin_zero, ?_⟩
    have z0 : ((0 : Nat) : Rat) = 0 := rfl
    simp only [rsum, sG]; rw [z0, val_zero]; unfold rabs; grind
  | succ m ih =>
    intro hm
    obtain ⟨i1, i2⟩ := ih (by omega)
    have hp := fop_mul (hA i m hi (by omega)).1 (hx m (by omega)).1 (small_big (by have := hP m (by omega); unfold va at this; grind))
    have hpm := hP m (by omega)
    unfold va at hpm
    have sp := (hp.small (by grind)).1
    have hr := rsum_le (fun j => va A i j * val (x.getD j 0)) 616 m (fun j hj => hP j (by omega))
    have hm4 : (m : Rat) ≤ 4 := by exact_mod_cast Rat.natCast_le_natCast.2 (show m ≤ 4 by omega)
    have h1 := Rat.mul_le_mul_of_nonneg_right hm4 (Rat.le_of_lt hse)
    have h2 := Rat.mul_le_mul_of_nonneg_right hm4 (show (0 : Rat) ≤ 616 by grind)
    simp only [sG, rsum]
    generalize rsum (fun j => va A i j * val (x.getD j 0)) m = R at i2 hr ⊢
    have h3 := two_abs _ _ _ i2
    have h5 := two_abs _ _ _ sp
    have h6 := rabs_add (val (sG A x i m)) (val (fop .mul (at2 A i m) (x.getD m 0)))
    have hs := fop_add i1 hp.fin (small_big (by grind))
    have ss := (hs.small (by grind)).1
    refine ⟨hs.fin, ?_⟩
    have key : ∀ s u z p w d e : Rat, rabs (s - u) ≤ e → rabs (z - p) ≤ d → rabs (w - (s + z)) ≤ d → rabs (w - (u + p)) ≤ e + (d + d) := by
      intro s u z p w d e h1 h2 h3
      have := le_rabs (s - u); have := le_rabs (z - p); have := le_rabs (w - (s + z))
      exact rabs_le (by grind) (by grind)
    have := key _ _ _ _ _ _ _ i2 sp ss
    rw [← stepE_eq] at this
    have e1 : ((m + 1 : Nat) : Rat) = (m : Rat) + 1 := by rw [Rat.natCast_add]; rfl
    have e2 : ((m : Rat) + 1) * stepE = (m : Rat) * stepE + stepE := by grind
    rw [e1, e2]
    exact this
theorem rangeI_toNat (n i : Nat) (hi : i < n) : ((rangeI n).getD i 0).toNat = i := by rw [rangeI_getD n i hi]; rfl
theorem solves_law (ns bs : List Int) (k : Nat) (hk : k ≤ 5) : ∃ B, partP (addD (mkM ns k k) k) k k = some (B, rangeI k) ∧
    (∀ i, i < k → fin ((solveP B (rangeI k) (rowM k bs) k).getD i 0)) ∧
    ∀ i, i < k → fcmp .gt (fabs (fop .sub (sG (addD (mkM ns k k) k) (solveP B (rangeI k) (rowM k bs) k) i k) ((rowM k bs).getD i 0))) nano = false := by
  obtain ⟨hB, hF⟩ := far_M ns k
  have hsq := addD_sq _ k (mkM_sq ns k) k
  generalize addD (mkM ns k k) k = A at *
  obtain ⟨B, h1, h2, h3, h4⟩ := far_part A k hsq hk hB hF k (Nat.le_refl k)
  obtain ⟨_, _, _, _, hE⟩ := part_err A k 44 hsq (fun m hm => grow44 m (by omega)) hB k (Nat.le_refl k) B _ h1
  have hse : 0 < stepE := pw_pos _
  have hss := stepE_small
  have hk5 : (k : Rat) ≤ 5 := by exact_mod_cast Rat.natCast_le_natCast.2 hk
  have hks := Rat.mul_le_mul_of_nonneg_right hk5 (Rat.le_of_lt hse)
  have hE' : ∀ r c, r < k → c < k → rabs (prodK B k r c - va A r c) ≤ 5 * stepE := by
    intro r c hr hc
    have := hE r c hr hc
    have e : plN (rangeI k) r = r := by unfold plN; exact rangeI_toNat k r hr
    rw [e] at this
    exact Rat.le_trans this hks
  have hg : grow 44 k ≤ 2000 := by
    rcases k with _ | _ | _ | _ | _ | _ | k
    all_goals first | (simp only [grow]; decide +kernel) | omega
  have hS := far_solve A B (rangeI k) (rowM k bs) k (grow 44 k) hk h3 hg h4 hE' (fun i hi => by rw [rangeI_toNat k i hi]; exact rowM_val k bs i hi)
  refine ⟨B, h1, fun i hi => (hS i hi).1, fun i hi => ?_⟩
  generalize solveP B (rangeI k) (rowM k bs) k = x at hS
  obtain ⟨s1, s2⟩ := sG_err A x k i hk hB hi (fun j hj => ⟨(hS j hj).1, (hS j hj).2.1⟩) k (Nat.le_refl k)
  have h5 := (hS i hi).2.2
  rw [rangeI_toNat k i hi] at h5
  obtain ⟨b1, b2⟩ := rowM_val k bs i hi
  have key : ∀ s R b d e : Rat, rabs (s - R) ≤ d → rabs (R - b) ≤ e → rabs (s - b) ≤ d + e := by
    intro s R b d e h1 h2
    have := le_rabs (s - R); have := le_rabs (R - b)
    exact rabs_le (by grind) (by grind)
  have h6 := key _ _ _ _ _ s2 h5
  have hse1 := stepE_eq
  have h40 := pw_pos (-40)
  have hs := fop_sub s1 b1 (small_big (by grind))
  have ss := (hs.small (by grind)).1
  have h7 := two_abs _ _ _ ss
  have hf := val_fabs hs.fin
  have : ¬ fcmp .gt (fabs (fop .sub (sG A x i k) ((rowM k bs).getD i 0))) nano = true := by
    rw [fcmp_gt hf.1 nano_val.1, hf.2]
    have := nano_val.2
    grind
  simpa using this
set_option maxRecDepth 8000 in
theorem solves_L0 (N : Nat → Prop) (A : List (List Nat)) (bs : List Int) (k : Nat) (hA : Sq k A) (hk : k < 2 ^ 20) (Q : Ex → T → Prop)
    (hQ : ∀ v w, Q (.exit 0) ⟨[(2, .d (rowI bs)), (7, .sl 100 0 0 k 1 k), (8, fI k), (9, v), (26, w)], mkH0 (addD A k) k k⟩) :
    WA Try.prog N 92 (.loop A_l6_LinSolves_L0) Q ⟨[(2, .d (rowI bs)), (7, .sl 100 0 0 k 1 k), (8, fI k), (9, fI 0)], mkH0 A k k⟩ := by
  refine WA_for (n := k) (fun c s => ∃ i, c + i = k ∧ s = ⟨[(2, .d (rowI bs)), (7, .sl 100 0 0 k 1 k), (8, fI k), (9, fI i)], mkH0 (addD A i) k k⟩) ⟨0, by omega, rfl⟩ ?_
  rintro c s ⟨i, hc, rfl⟩
  have hB := addD_sq A k hA i
  generalize hBe : addD A i = B at hB
  have hl := hB.1
  simp -implicitDefEqProofs only [xC_skip, evS, decide_true, decide_false, decide_eq_true_eq, sides, Inst.places, List.zip_cons_cons, List.zip_nil_right, List.zip_nil_left, List.mem_cons, List.not_mem_nil, forall_eq_or_imp, forall_eq, false_implies, implies_true, Apart, xeff, xhv, hv, effC, xev, look, argSl, atL, drops, keep, inBlockT, pickX, callX, callCX, callSX, callee, List.map_cons, List.map_nil, List.append_nil, List.nil_append, List.cons_append, reduceCtorEq, ↓reduceIte, Nat.reduceEqDiff, Nat.reduceAdd, Nat.reduceMul, eq_self, List.length_replicate, Int.reduceToNat, Int.reduceAdd, Int.reduceSub, Int.reduceMul, Int.reduceNeg, Int.reduceLT, Int.reduceLE, rowD, rowI, rowsD, ivD, rowG, rowIG, rowsG, ivG, bne_self_eq_false, beq_self_eq_true, List.length_map, List.getD_cons_zero, List.getD_cons_succ, List.drop_succ_cons, List.drop_zero, List.take_succ_cons, List.take_zero, List.take_nil, List.getElem?_cons_zero, List.getElem?_cons_succ, List.length_cons, List.length_nil, List.length_set, List.set_cons_zero, List.set_cons_succ, List.all_cons, List.all_nil, Nat.reduceLT, Nat.reduceLeDiff, ne_eq, Option.some.injEq, fillV, partsV, V.okPart, gt_iff_lt, ge_iff_le, A_l6_LinSolves_L0, mkH0]
  refine condC_intro (fun h => ?_) (fun h => ?_)
  · replace h := of_decide_eq_true h
    have g1 := hB.2 i h
    have hiB : i < B.length := by omega
    have e1 : i < (B.getD i []).length := by omega
    simp -implicitDefEqProofs only [xC_skip, evS, decide_true, decide_false, decide_eq_true_eq, sides, Inst.places, List.zip_cons_cons, List.zip_nil_right, List.zip_nil_left, List.mem_cons, List.not_mem_nil, forall_eq_or_imp, forall_eq, false_implies, implies_true, Apart, xeff, xhv, hv, effC, xev, look, argSl, atL, drops, keep, inBlockT, pickX, callX, callCX, callSX, callee, List.map_cons, List.map_nil, List.append_nil, List.nil_append, List.cons_append, reduceCtorEq, ↓reduceIte, Nat.reduceEqDiff, Nat.reduceAdd, Nat.reduceMul, eq_self, List.length_replicate, Int.reduceToNat, Int.reduceAdd, Int.reduceSub, Int.reduceMul, Int.reduceNeg, Int.reduceLT, Int.reduceLE, rowD, rowI, rowsD, ivD, rowG, rowIG, rowsG, ivG, bne_self_eq_false, beq_self_eq_true, List.length_map, List.getD_cons_zero, List.getD_cons_succ, List.drop_succ_cons, List.drop_zero, List.take_succ_cons, List.take_zero, List.take_nil, List.getElem?_cons_zero, List.getElem?_cons_succ, List.length_cons, List.length_nil, List.length_set, List.set_cons_zero, List.set_cons_succ, List.all_cons, List.all_nil, Nat.reduceLT, Nat.reduceLeDiff, ne_eq, Option.some.injEq, fillV, partsV, V.okPart, gt_iff_lt, ge_iff_le, hdo_getD _ _ _ _ _ h, getE B i hiB, getD_map_fl _ _ e1, setE]
    (repeat (with_reducible refine And.intro (by omega) ?_))
    rw [wrapI (by omega) (by omega)]
    refine ⟨c - 1, by omega, i + 1, by omega, ?_⟩
    simp only [addD, hBe]; rfl
  · replace h := of_decide_eq_false h
    simp -implicitDefEqProofs only [xC_skip, evS, decide_true, decide_false, decide_eq_true_eq, sides, Inst.places, List.zip_cons_cons, List.zip_nil_right, List.zip_nil_left, List.mem_cons, List.not_mem_nil, forall_eq_or_imp, forall_eq, false_implies, implies_true, Apart, xeff, xhv, hv, effC, xev, look, argSl, atL, drops, keep, inBlockT, pickX, callX, callCX, callSX, callee, List.map_cons, List.map_nil, List.append_nil, List.nil_append, List.cons_append, reduceCtorEq, ↓reduceIte, Nat.reduceEqDiff, Nat.reduceAdd, Nat.reduceMul, eq_self, List.length_replicate, Int.reduceToNat, Int.reduceAdd, Int.reduceSub, Int.reduceMul, Int.reduceNeg, Int.reduceLT, Int.reduceLE, rowD, rowI, rowsD, ivD, rowG, rowIG, rowsG, ivG, bne_self_eq_false, beq_self_eq_true, List.length_map, List.getD_cons_zero, List.getD_cons_succ, List.drop_succ_cons, List.drop_zero, List.take_succ_cons, List.take_zero, List.take_nil, List.getElem?_cons_zero, List.getElem?_cons_succ, List.length_cons, List.length_nil, List.length_set, List.set_cons_zero, List.set_cons_succ, List.all_cons, List.all_nil, Nat.reduceLT, Nat.reduceLeDiff, ne_eq, Option.some.injEq, fillV, partsV, V.okPart, gt_iff_lt, ge_iff_le]
    obtain rfl : k = i := by omega
    rw [hBe] at hQ
    exact hQ _ _
set_option maxRecDepth 8000 in
theorem solves_L2 (N : Nat → Prop) (A : List (List Nat)) (x : List Nat) (v10 : V) (k i Y : Nat) (L : Heap) (hA : Sq k A) (hx : x.length = k) (hi : i < k) (hk : k < 2 ^ 20) (h1 : L.get 100 0 = some (hdo 200 0 k k)) (h2 : ∀ r, r < k → L.get 200 r = some (rowV (A.getD r []))) (h3 : L.get Y 0 = some (rowV x)) (Q : Ex → T → Prop)
    (hQ : ∀ v w, Q (.exit 4) ⟨[(7, .sl 100 0 0 k 1 k), (8, fI k), (10, v10), (13, .sl Y 0 0 k 1 k), (14, fI i), (15, fl (sG A x i k)), (16, v), (67, w)], L⟩) :
    WA Try.prog N 92 (.loop A_l6_LinSolves_L2) Q ⟨[(7, .sl 100 0 0 k 1 k), (8, fI k), (10, v10), (13, .sl Y 0 0 k 1 k), (14, fI i), (15, fl 0), (16, fI 0)], L⟩ := by
  refine WA_for (n := k) (fun c s => ∃ j, c + j = k ∧ s = ⟨[(7, .sl 100 0 0 k 1 k), (8, fI k), (10, v10), (13, .sl Y 0 0 k 1 k), (14, fI i), (15, fl (sG A x i j)), (16, fI j)], L⟩) ⟨0, by omega, rfl⟩ ?_
  rintro c s ⟨j, hc, rfl⟩
  have g1 := hA.2 i hi
  simp -implicitDefEqProofs only [xC_skip, evS, decide_true, decide_false, decide_eq_true_eq, sides, Inst.places, List.zip_cons_cons, List.zip_nil_right, List.zip_nil_left, List.mem_cons, List.not_mem_nil, forall_eq_or_imp, forall_eq, false_implies, implies_true, Apart, xeff, xhv, hv, effC, xev, look, argSl, atL, drops, keep, inBlockT, pickX, callX, callCX, callSX, callee, List.map_cons, List.map_nil, List.append_nil, List.nil_append, List.cons_append, reduceCtorEq, ↓reduceIte, Nat.reduceEqDiff, Nat.reduceAdd, Nat.reduceMul, eq_self, List.length_replicate, Int.reduceToNat, Int.reduceAdd, Int.reduceSub, Int.reduceMul, Int.reduceNeg, Int.reduceLT, Int.reduceLE, rowD, rowI, rowsD, ivD, rowG, rowIG, rowsG, ivG, bne_self_eq_false, beq_self_eq_true, List.length_map, List.getD_cons_zero, List.getD_cons_succ, List.drop_succ_cons, List.drop_zero, List.take_succ_cons, List.take_zero, List.take_nil, List.getElem?_cons_zero, List.getElem?_cons_succ, List.length_cons, List.length_nil, List.length_set, List.set_cons_zero, List.set_cons_succ, List.all_cons, List.all_nil, Nat.reduceLT, Nat.reduceLeDiff, ne_eq, Option.some.injEq, fillV, partsV, V.okPart, gt_iff_lt, ge_iff_le, A_l6_LinSolves_L2]
  refine condC_intro (fun h => ?_) (fun h => ?_)
  · replace h := of_decide_eq_true h
    have e1 : j < (A.getD i []).length := by omega
    have e2 : j < x.length := by omega
    simp -implicitDefEqProofs only [xC_skip, evS, decide_true, decide_false, decide_eq_true_eq, sides, Inst.places, List.zip_cons_cons, List.zip_nil_right, List.zip_nil_left, List.mem_cons, List.not_mem_nil, forall_eq_or_imp, forall_eq, false_implies, implies_true, Apart, xeff, xhv, hv, effC, xev, look, argSl, atL, drops, keep, inBlockT, pickX, callX, callCX, callSX, callee, List.map_cons, List.map_nil, List.append_nil, List.nil_append, List.cons_append, reduceCtorEq, ↓reduceIte, Nat.reduceEqDiff, Nat.reduceAdd, Nat.reduceMul, eq_self, List.length_replicate, Int.reduceToNat, Int.reduceAdd, Int.reduceSub, Int.reduceMul, Int.reduceNeg, Int.reduceLT, Int.reduceLE, rowD, rowI, rowsD, ivD, rowG, rowIG, rowsG, ivG, bne_self_eq_false, beq_self_eq_true, List.length_map, List.getD_cons_zero, List.getD_cons_succ, List.drop_succ_cons, List.drop_zero, List.take_succ_cons, List.take_zero, List.take_nil, List.getElem?_cons_zero, List.getElem?_cons_succ, List.length_cons, List.length_nil, List.length_set, List.set_cons_zero, List.set_cons_succ, List.all_cons, List.all_nil, Nat.reduceLT, Nat.reduceLeDiff, ne_eq, Option.some.injEq, fillV, partsV, V.okPart, gt_iff_lt, ge_iff_le, h1, h2 i hi, h3, hdo_getD _ _ _ _ _ hi, getD_map_fl _ _ e1, getD_map_fl _ _ e2]
    (repeat (with_reducible refine And.intro (by omega) ?_))
    rw [wrapI (by omega) (by omega)]
    exact ⟨c - 1, by omega, j + 1, by omega, rfl⟩
  · replace h := of_decide_eq_false h
    simp -implicitDefEqProofs only [xC_skip, evS, decide_true, decide_false, decide_eq_true_eq, sides, Inst.places, List.zip_cons_cons, List.zip_nil_right, List.zip_nil_left, List.mem_cons, List.not_mem_nil, forall_eq_or_imp, forall_eq, false_implies, implies_true, Apart, xeff, xhv, hv, effC, xev, look, argSl, atL, drops, keep, inBlockT, pickX, callX, callCX, callSX, callee, List.map_cons, List.map_nil, List.append_nil, List.nil_append, List.cons_append, reduceCtorEq, ↓reduceIte, Nat.reduceEqDiff, Nat.reduceAdd, Nat.reduceMul, eq_self, List.length_replicate, Int.reduceToNat, Int.reduceAdd, Int.reduceSub, Int.reduceMul, Int.reduceNeg, Int.reduceLT, Int.reduceLE, rowD, rowI, rowsD, ivD, rowG, rowIG, rowsG, ivG, bne_self_eq_false, beq_self_eq_true, List.length_map, List.getD_cons_zero, List.getD_cons_succ, List.drop_succ_cons, List.drop_zero, List.take_succ_cons, List.take_zero, List.take_nil, List.getElem?_cons_zero, List.getElem?_cons_succ, List.length_cons, List.length_nil, List.length_set, List.set_cons_zero, List.set_cons_succ, List.all_cons, List.all_nil, Nat.reduceLT, Nat.reduceLeDiff, ne_eq, Option.some.injEq, fillV, partsV, V.okPart, gt_iff_lt, ge_iff_le]
    obtain rfl : k = j := by omega
    exact hQ _ _
set_option maxRecDepth 8000 in
theorem solves_L1 (N : Nat → Prop) (A : List (List Nat)) (b x : List Nat) (k Y : Nat) (L : Heap) (hA : Sq k A) (hx : x.length = k) (hb : b.length = k) (hk : k < 2 ^ 20) (h1 : L.get 100 0 = some (hdo 200 0 k k)) (h2 : ∀ r, r < k → L.get 200 r = some (rowV (A.getD r []))) (h3 : L.get Y 0 = some (rowV x))
    (law : ∀ i, i < k → fcmp .gt (fabs (fop .sub (sG A x i k) (b.getD i 0))) nano = false) (Q : Ex → T → Prop)
    (hQ : ∀ v w, Q (.exit 2) ⟨[(7, .sl 100 0 0 k 1 k), (8, fI k), (10, .d (rowD b)), (13, .sl Y 0 0 k 1 k), (14, v), (62, w)], L⟩) :
    WA Try.prog N 92 (.loop A_l6_LinSolves_L1) Q ⟨[(7, .sl 100 0 0 k 1 k), (8, fI k), (10, .d (rowD b)), (13, .sl Y 0 0 k 1 k), (14, fI 0)], L⟩ := by
  refine WA_for (n := k) (fun c s => ∃ i, c + i = k ∧ s = ⟨[(7, .sl 100 0 0 k 1 k), (8, fI k), (10, .d (rowD b)), (13, .sl Y 0 0 k 1 k), (14, fI i)], L⟩) ⟨0, by omega, rfl⟩ ?_
  rintro c s ⟨i, hc, rfl⟩
  simp -implicitDefEqProofs only [xC_skip, evS, decide_true, decide_false, decide_eq_true_eq, sides, Inst.places, List.zip_cons_cons, List.zip_nil_right, List.zip_nil_left, List.mem_cons, List.not_mem_nil, forall_eq_or_imp, forall_eq, false_implies, implies_true, Apart, xeff, xhv, hv, effC, xev, look, argSl, atL, drops, keep, inBlockT, pickX, callX, callCX, callSX, callee, List.map_cons, List.map_nil, List.append_nil, List.nil_append, List.cons_append, reduceCtorEq, ↓reduceIte, Nat.reduceEqDiff, Nat.reduceAdd, Nat.reduceMul, eq_self, List.length_replicate, Int.reduceToNat, Int.reduceAdd, Int.reduceSub, Int.reduceMul, Int.reduceNeg, Int.reduceLT, Int.reduceLE, rowD, rowI, rowsD, ivD, rowG, rowIG, rowsG, ivG, bne_self_eq_false, beq_self_eq_true, List.length_map, List.getD_cons_zero, List.getD_cons_succ, List.drop_succ_cons, List.drop_zero, List.take_succ_cons, List.take_zero, List.take_nil, List.getElem?_cons_zero, List.getElem?_cons_succ, List.length_cons, List.length_nil, List.length_set, List.set_cons_zero, List.set_cons_succ, List.all_cons, List.all_nil, Nat.reduceLT, Nat.reduceLeDiff, ne_eq, Option.some.injEq, fillV, partsV, V.okPart, gt_iff_lt, ge_iff_le, A_l6_LinSolves_L1]
  refine condC_intro (fun h => ?_) (fun h => ?_)
  · replace h := of_decide_eq_true h
    simp -implicitDefEqProofs only [xC_skip, evS, decide_true, decide_false, decide_eq_true_eq, sides, Inst.places, List.zip_cons_cons, List.zip_nil_right, List.zip_nil_left, List.mem_cons, List.not_mem_nil, forall_eq_or_imp, forall_eq, false_implies, implies_true, Apart, xeff, xhv, hv, effC, xev, look, argSl, atL, drops, keep, inBlockT, pickX, callX, callCX, callSX, callee, List.map_cons, List.map_nil, List.append_nil, List.nil_append, List.cons_append, reduceCtorEq, ↓reduceIte, Nat.reduceEqDiff, Nat.reduceAdd, Nat.reduceMul, eq_self, List.length_replicate, Int.reduceToNat, Int.reduceAdd, Int.reduceSub, Int.reduceMul, Int.reduceNeg, Int.reduceLT, Int.reduceLE, rowD, rowI, rowsD, ivD, rowG, rowIG, rowsG, ivG, bne_self_eq_false, beq_self_eq_true, List.length_map, List.getD_cons_zero, List.getD_cons_succ, List.drop_succ_cons, List.drop_zero, List.take_succ_cons, List.take_zero, List.take_nil, List.getElem?_cons_zero, List.getElem?_cons_succ, List.length_cons, List.length_nil, List.length_set, List.set_cons_zero, List.set_cons_succ, List.all_cons, List.all_nil, Nat.reduceLT, Nat.reduceLeDiff, ne_eq, Option.some.injEq, fillV, partsV, V.okPart, gt_iff_lt, ge_iff_le]
    refine solves_L2 N A x _ k i Y L hA hx h hk h1 h2 h3 _ fun v w => ?_
    have hl := law i h
    generalize sG A x i k = s at hl
    simp -implicitDefEqProofs only [xC_skip, evS, decide_true, decide_false, decide_eq_true_eq, sides, Inst.places, List.zip_cons_cons, List.zip_nil_right, List.zip_nil_left, List.mem_cons, List.not_mem_nil, forall_eq_or_imp, forall_eq, false_implies, implies_true, Apart, xeff, xhv, hv, effC, xev, look, argSl, atL, drops, keep, inBlockT, pickX, callX, callCX, callSX, callee, List.map_cons, List.map_nil, List.append_nil, List.nil_append, List.cons_append, reduceCtorEq, ↓reduceIte, Nat.reduceEqDiff, Nat.reduceAdd, Nat.reduceMul, eq_self, List.length_replicate, Int.reduceToNat, Int.reduceAdd, Int.reduceSub, Int.reduceMul, Int.reduceNeg, Int.reduceLT, Int.reduceLE, rowD, rowI, rowsD, ivD, rowG, rowIG, rowsG, ivG, bne_self_eq_false, beq_self_eq_true, List.length_map, List.getD_cons_zero, List.getD_cons_succ, List.drop_succ_cons, List.drop_zero, List.take_succ_cons, List.take_zero, List.take_nil, List.getElem?_cons_zero, List.getElem?_cons_succ, List.length_cons, List.length_nil, List.length_set, List.set_cons_zero, List.set_cons_succ, List.all_cons, List.all_nil, Nat.reduceLT, Nat.reduceLeDiff, ne_eq, Option.some.injEq, fillV, partsV, V.okPart, gt_iff_lt, ge_iff_le]
    (repeat (with_reducible refine And.intro (by omega) ?_))
    first | refine callG_con (r1_Abs_con (fop .sub s (b.getD i 0))) rfl ?_ | refine callCG_con (r1_Abs_con (fop .sub s (b.getD i 0))) rfl ?_ | refine callSG_con (r1_Abs_con (fop .sub s (b.getD i 0))) rfl ?_
    have hl' : fcmp .gt (fabs (fop .sub s (b.getD i 0))) 4472406533629990549 = false := hl
    simp -implicitDefEqProofs only [xC_skip, evS, decide_true, decide_false, decide_eq_true_eq, sides, Inst.places, List.zip_cons_cons, List.zip_nil_right, List.zip_nil_left, List.mem_cons, List.not_mem_nil, forall_eq_or_imp, forall_eq, false_implies, implies_true, Apart, xeff, xhv, hv, effC, xev, look, argSl, atL, drops, keep, inBlockT, pickX, callX, callCX, callSX, callee, List.map_cons, List.map_nil, List.append_nil, List.nil_append, List.cons_append, reduceCtorEq, ↓reduceIte, Nat.reduceEqDiff, Nat.reduceAdd, Nat.reduceMul, eq_self, List.length_replicate, Int.reduceToNat, Int.reduceAdd, Int.reduceSub, Int.reduceMul, Int.reduceNeg, Int.reduceLT, Int.reduceLE, rowD, rowI, rowsD, ivD, rowG, rowIG, rowsG, ivG, bne_self_eq_false, beq_self_eq_true, List.length_map, List.getD_cons_zero, List.getD_cons_succ, List.drop_succ_cons, List.drop_zero, List.take_succ_cons, List.take_zero, List.take_nil, List.getElem?_cons_zero, List.getElem?_cons_succ, List.length_cons, List.length_nil, List.length_set, List.set_cons_zero, List.set_cons_succ, List.all_cons, List.all_nil, Nat.reduceLT, Nat.reduceLeDiff, ne_eq, Option.some.injEq, fillV, partsV, V.okPart, gt_iff_lt, ge_iff_le, hl']
    rw [wrapI (by omega) (by omega)]
    exact ⟨c - 1, by omega, i + 1, by omega, rfl⟩
  · replace h := of_decide_eq_false h
    simp -implicitDefEqProofs only [xC_skip, evS, decide_true, decide_false, decide_eq_true_eq, sides, Inst.places, List.zip_cons_cons, List.zip_nil_right, List.zip_nil_left, List.mem_cons, List.not_mem_nil, forall_eq_or_imp, forall_eq, false_implies, implies_true, Apart, xeff, xhv, hv, effC, xev, look, argSl, atL, drops, keep, inBlockT, pickX, callX, callCX, callSX, callee, List.map_cons, List.map_nil, List.append_nil, List.nil_append, List.cons_append, reduceCtorEq, ↓reduceIte, Nat.reduceEqDiff, Nat.reduceAdd, Nat.reduceMul, eq_self, List.length_replicate, Int.reduceToNat, Int.reduceAdd, Int.reduceSub, Int.reduceMul, Int.reduceNeg, Int.reduceLT, Int.reduceLE, rowD, rowI, rowsD, ivD, rowG, rowIG, rowsG, ivG, bne_self_eq_false, beq_self_eq_true, List.length_map, List.getD_cons_zero, List.getD_cons_succ, List.drop_succ_cons, List.drop_zero, List.take_succ_cons, List.take_zero, List.take_nil, List.getElem?_cons_zero, List.getElem?_cons_succ, List.length_cons, List.length_nil, List.length_set, List.set_cons_zero, List.set_cons_succ, List.all_cons, List.all_nil, Nat.reduceLT, Nat.reduceLeDiff, ne_eq, Option.some.injEq, fillV, partsV, V.okPart, gt_iff_lt, ge_iff_le]
    exact hQ _ _
set_option maxRecDepth 8000 in
theorem l6_LinSolves_con (n : Int) (ns bs : List Int) (hns : ns.length < 2 ^ 62) (hbs : bs.length < 2 ^ 62) : Con Try.prog 8 [fI n, .d (rowI ns), .d (rowI bs)] (fB true) := by
  refine Con_introA A_l6_LinSolves_comp rfl mixed ?_
  simp -implicitDefEqProofs only [xC_skip, evS, decide_true, decide_false, decide_eq_true_eq, sides, Inst.places, List.zip_cons_cons, List.zip_nil_right, List.zip_nil_left, List.mem_cons, List.not_mem_nil, forall_eq_or_imp, forall_eq, false_implies, implies_true, Apart, xeff, xhv, hv, effC, xev, look, argSl, atL, drops, keep, inBlockT, pickX, callX, callCX, callSX, callee, List.map_cons, List.map_nil, List.append_nil, List.nil_append, List.cons_append, reduceCtorEq, ↓reduceIte, Nat.reduceEqDiff, Nat.reduceAdd, Nat.reduceMul, eq_self, List.length_replicate, Int.reduceToNat, Int.reduceAdd, Int.reduceSub, Int.reduceMul, Int.reduceNeg, Int.reduceLT, Int.reduceLE, rowD, rowI, rowsD, ivD, rowG, rowIG, rowsG, ivG, bne_self_eq_false, beq_self_eq_true, List.length_map, List.getD_cons_zero, List.getD_cons_succ, List.drop_succ_cons, List.drop_zero, List.take_succ_cons, List.take_zero, List.take_nil, List.getElem?_cons_zero, List.getElem?_cons_succ, List.length_cons, List.length_nil, List.length_set, List.set_cons_zero, List.set_cons_succ, List.all_cons, List.all_nil, Nat.reduceLT, Nat.reduceLeDiff, ne_eq, Option.some.injEq, fillV, partsV, V.okPart, gt_iff_lt, ge_iff_le, A_l6_LinSolves]
  first | refine callG_con (l6_known_con) rfl ?_ | refine callCG_con (l6_known_con) rfl ?_ | refine callSG_con (l6_known_con) rfl ?_
  simp -implicitDefEqProofs only [xC_skip, evS, decide_true, decide_false, decide_eq_true_eq, sides, Inst.places, List.zip_cons_cons, List.zip_nil_right, List.zip_nil_left, List.mem_cons, List.not_mem_nil, forall_eq_or_imp, forall_eq, false_implies, implies_true, Apart, xeff, xhv, hv, effC, xev, look, argSl, atL, drops, keep, inBlockT, pickX, callX, callCX, callSX, callee, List.map_cons, List.map_nil, List.append_nil, List.nil_append, List.cons_append, reduceCtorEq, ↓reduceIte, Nat.reduceEqDiff, Nat.reduceAdd, Nat.reduceMul, eq_self, List.length_replicate, Int.reduceToNat, Int.reduceAdd, Int.reduceSub, Int.reduceMul, Int.reduceNeg, Int.reduceLT, Int.reduceLE, rowD, rowI, rowsD, ivD, rowG, rowIG, rowsG, ivG, bne_self_eq_false, beq_self_eq_true, List.length_map, List.getD_cons_zero, List.getD_cons_succ, List.drop_succ_cons, List.drop_zero, List.take_succ_cons, List.take_zero, List.take_nil, List.getElem?_cons_zero, List.getElem?_cons_succ, List.length_cons, List.length_nil, List.length_set, List.set_cons_zero, List.set_cons_succ, List.all_cons, List.all_nil, Nat.reduceLT, Nat.reduceLeDiff, ne_eq, Option.some.injEq, fillV, partsV, V.okPart, gt_iff_lt, ge_iff_le]
  have hm := l6_Make_ac n 1 ns hns
  have m1 := Int.emod_nonneg n (by decide : (5 : Int) ≠ 0)
  have m2 := Int.emod_lt_of_pos n (by decide : (0 : Int) < 5)
  have em : makeM n ns 1 = mkM ns ((n % 5).toNat + 1) ((n % 5).toNat + 1) := by
    unfold makeM
    rw [if_neg (by decide)]
  rw [em] at hm
  have hk1 : 0 < (n % 5).toNat + 1 := by omega
  have hk5 : (n % 5).toNat + 1 ≤ 5 := by omega
  generalize (n % 5).toNat + 1 = k at *
  refine callG_ac hm ?_
  have hsq := mkM_sq ns k
  obtain ⟨B, hp, _, law⟩ := solves_law ns bs k hk5
  generalize hM : mkM ns k k = M at *
  simp -implicitDefEqProofs only [xC_skip, evS, decide_true, decide_false, decide_eq_true_eq, sides, Inst.places, List.zip_cons_cons, List.zip_nil_right, List.zip_nil_left, List.mem_cons, List.not_mem_nil, forall_eq_or_imp, forall_eq, false_implies, implies_true, Apart, xeff, xhv, hv, effC, xev, look, argSl, atL, drops, keep, inBlockT, pickX, callX, callCX, callSX, callee, List.map_cons, List.map_nil, List.append_nil, List.nil_append, List.cons_append, reduceCtorEq, ↓reduceIte, Nat.reduceEqDiff, Nat.reduceAdd, Nat.reduceMul, eq_self, List.length_replicate, Int.reduceToNat, Int.reduceAdd, Int.reduceSub, Int.reduceMul, Int.reduceNeg, Int.reduceLT, Int.reduceLE, rowD, rowI, rowsD, ivD, rowG, rowIG, rowsG, ivG, bne_self_eq_false, beq_self_eq_true, List.length_map, List.getD_cons_zero, List.getD_cons_succ, List.drop_succ_cons, List.drop_zero, List.take_succ_cons, List.take_zero, List.take_nil, List.getElem?_cons_zero, List.getElem?_cons_succ, List.length_cons, List.length_nil, List.length_set, List.set_cons_zero, List.set_cons_succ, List.all_cons, List.all_nil, Nat.reduceLT, Nat.reduceLeDiff, ne_eq, Option.some.injEq, fillV, partsV, V.okPart, gt_iff_lt, ge_iff_le, mkH0]
  refine solves_L0 _ M bs k hsq (by omega) _ fun v w => ?_
  have hA := addD_sq M k hsq k
  generalize addD M k = A at *
  simp -implicitDefEqProofs only [xC_skip, evS, decide_true, decide_false, decide_eq_true_eq, sides, Inst.places, List.zip_cons_cons, List.zip_nil_right, List.zip_nil_left, List.mem_cons, List.not_mem_nil, forall_eq_or_imp, forall_eq, false_implies, implies_true, Apart, xeff, xhv, hv, effC, xev, look, argSl, atL, drops, keep, inBlockT, pickX, callX, callCX, callSX, callee, List.map_cons, List.map_nil, List.append_nil, List.nil_append, List.cons_append, reduceCtorEq, ↓reduceIte, Nat.reduceEqDiff, Nat.reduceAdd, Nat.reduceMul, eq_self, List.length_replicate, Int.reduceToNat, Int.reduceAdd, Int.reduceSub, Int.reduceMul, Int.reduceNeg, Int.reduceLT, Int.reduceLE, rowD, rowI, rowsD, ivD, rowG, rowIG, rowsG, ivG, bne_self_eq_false, beq_self_eq_true, List.length_map, List.getD_cons_zero, List.getD_cons_succ, List.drop_succ_cons, List.drop_zero, List.take_succ_cons, List.take_zero, List.take_nil, List.getElem?_cons_zero, List.getElem?_cons_succ, List.length_cons, List.length_nil, List.length_set, List.set_cons_zero, List.set_cons_succ, List.all_cons, List.all_nil, Nat.reduceLT, Nat.reduceLeDiff, ne_eq, Option.some.injEq, fillV, partsV, V.okPart, gt_iff_lt, ge_iff_le, mkH0]
  first | refine callG_con (l6_row_con k bs (by omega) hbs) rfl ?_ | refine callCG_con (l6_row_con k bs (by omega) hbs) rfl ?_ | refine callSG_con (l6_row_con k bs (by omega) hbs) rfl ?_
  simp -implicitDefEqProofs only [xC_skip, evS, decide_true, decide_false, decide_eq_true_eq, sides, Inst.places, List.zip_cons_cons, List.zip_nil_right, List.zip_nil_left, List.mem_cons, List.not_mem_nil, forall_eq_or_imp, forall_eq, false_implies, implies_true, Apart, xeff, xhv, hv, effC, xev, look, argSl, atL, drops, keep, inBlockT, pickX, callX, callCX, callSX, callee, List.map_cons, List.map_nil, List.append_nil, List.nil_append, List.cons_append, reduceCtorEq, ↓reduceIte, Nat.reduceEqDiff, Nat.reduceAdd, Nat.reduceMul, eq_self, List.length_replicate, Int.reduceToNat, Int.reduceAdd, Int.reduceSub, Int.reduceMul, Int.reduceNeg, Int.reduceLT, Int.reduceLE, rowD, rowI, rowsD, ivD, rowG, rowIG, rowsG, ivG, bne_self_eq_false, beq_self_eq_true, List.length_map, List.getD_cons_zero, List.getD_cons_succ, List.drop_succ_cons, List.drop_zero, List.take_succ_cons, List.take_zero, List.take_nil, List.getElem?_cons_zero, List.getElem?_cons_succ, List.length_cons, List.length_nil, List.length_set, List.set_cons_zero, List.set_cons_succ, List.all_cons, List.all_nil, Nat.reduceLT, Nat.reduceLeDiff, ne_eq, Option.some.injEq, fillV, partsV, V.okPart, gt_iff_lt, ge_iff_le]
  have hbl := rowM_len k bs
  generalize rowM k bs = b at *
  have hAr : ∀ r, r < k → (A.map rowV)[r]? = some (rowV (A.getD r [])) := fun r hr => getE A r (by have := hA.1; omega)
  refine part_named 1000 (by simp [Heap.next]) hA (by omega) (X := 200) (o := 0) (by simp [get_cons]) (fun r hr => ?_) hp _ ?_
  · simp only [get_cons, Nat.reduceEqDiff, if_false, if_true, Nat.add_zero]
    exact hAr r hr
  simp -implicitDefEqProofs only [xC_skip, evS, decide_true, decide_false, decide_eq_true_eq, sides, Inst.places, List.zip_cons_cons, List.zip_nil_right, List.zip_nil_left, List.mem_cons, List.not_mem_nil, forall_eq_or_imp, forall_eq, false_implies, implies_true, Apart, xeff, xhv, hv, effC, xev, look, argSl, atL, drops, keep, inBlockT, pickX, callX, callCX, callSX, callee, List.map_cons, List.map_nil, List.append_nil, List.nil_append, List.cons_append, reduceCtorEq, ↓reduceIte, Nat.reduceEqDiff, Nat.reduceAdd, Nat.reduceMul, eq_self, List.length_replicate, Int.reduceToNat, Int.reduceAdd, Int.reduceSub, Int.reduceMul, Int.reduceNeg, Int.reduceLT, Int.reduceLE, rowD, rowI, rowsD, ivD, rowG, rowIG, rowsG, ivG, bne_self_eq_false, beq_self_eq_true, List.length_map, List.getD_cons_zero, List.getD_cons_succ, List.drop_succ_cons, List.drop_zero, List.take_succ_cons, List.take_zero, List.take_nil, List.getElem?_cons_zero, List.getElem?_cons_succ, List.length_cons, List.length_nil, List.length_set, List.set_cons_zero, List.set_cons_succ, List.all_cons, List.all_nil, Nat.reduceLT, Nat.reduceLeDiff, ne_eq, Option.some.injEq, fillV, partsV, V.okPart, gt_iff_lt, ge_iff_le]
  obtain ⟨hB, hπl⟩ := partP_sq _ _ hA _ (Nat.le_refl _) B _ hp
  have hpm := partP_pm _ _ _ (Nat.le_refl _) B _ hp
  refine solve_named 2000 (by simp [Heap.next]) hB (by omega) (X := 1002) (o := 1) (by simp [get_cons]) (fun r hr => ?_) (by simp [get_cons]) hpm hbl (.d _) _ ?_
  · have := hB.1
    simp only [get_cons, Nat.reduceEqDiff, if_false, if_true, List.getElem?_cons_succ]
    exact getE B r (by omega)
  have hsl : (solveP B (rangeI k) b k).length = k := by simp [solveP, bckI_len, fwdI_len]
  generalize solveP B (rangeI k) b k = x at *
  simp -implicitDefEqProofs only [xC_skip, evS, decide_true, decide_false, decide_eq_true_eq, sides, Inst.places, List.zip_cons_cons, List.zip_nil_right, List.zip_nil_left, List.mem_cons, List.not_mem_nil, forall_eq_or_imp, forall_eq, false_implies, implies_true, Apart, xeff, xhv, hv, effC, xev, look, argSl, atL, drops, keep, inBlockT, pickX, callX, callCX, callSX, callee, List.map_cons, List.map_nil, List.append_nil, List.nil_append, List.cons_append, reduceCtorEq, ↓reduceIte, Nat.reduceEqDiff, Nat.reduceAdd, Nat.reduceMul, eq_self, List.length_replicate, Int.reduceToNat, Int.reduceAdd, Int.reduceSub, Int.reduceMul, Int.reduceNeg, Int.reduceLT, Int.reduceLE, rowD, rowI, rowsD, ivD, rowG, rowIG, rowsG, ivG, bne_self_eq_false, beq_self_eq_true, List.length_map, List.getD_cons_zero, List.getD_cons_succ, List.drop_succ_cons, List.drop_zero, List.take_succ_cons, List.take_zero, List.take_nil, List.getElem?_cons_zero, List.getElem?_cons_succ, List.length_cons, List.length_nil, List.length_set, List.set_cons_zero, List.set_cons_succ, List.all_cons, List.all_nil, Nat.reduceLT, Nat.reduceLeDiff, ne_eq, Option.some.injEq, fillV, partsV, V.okPart, gt_iff_lt, ge_iff_le, bne_self_eq_false]
  refine solves_L1 _ A b x k 2002 _ hA hsl hbl (by omega) (by simp [get_cons]) (fun r hr => ?_) (by simp [get_cons]) law _ fun v w => ?_
  · simp only [get_cons, Nat.reduceEqDiff, if_false, if_true]
    exact hAr r hr
  simp -implicitDefEqProofs only [xC_skip, evS, decide_true, decide_false, decide_eq_true_eq, sides, Inst.places, List.zip_cons_cons, List.zip_nil_right, List.zip_nil_left, List.mem_cons, List.not_mem_nil, forall_eq_or_imp, forall_eq, false_implies, implies_true, Apart, xeff, xhv, hv, effC, xev, look, argSl, atL, drops, keep, inBlockT, pickX, callX, callCX, callSX, callee, List.map_cons, List.map_nil, List.append_nil, List.nil_append, List.cons_append, reduceCtorEq, ↓reduceIte, Nat.reduceEqDiff, Nat.reduceAdd, Nat.reduceMul, eq_self, List.length_replicate, Int.reduceToNat, Int.reduceAdd, Int.reduceSub, Int.reduceMul, Int.reduceNeg, Int.reduceLT, Int.reduceLE, rowD, rowI, rowsD, ivD, rowG, rowIG, rowsG, ivG, bne_self_eq_false, beq_self_eq_true, List.length_map, List.getD_cons_zero, List.getD_cons_succ, List.drop_succ_cons, List.drop_zero, List.take_succ_cons, List.take_zero, List.take_nil, List.getElem?_cons_zero, List.getElem?_cons_succ, List.length_cons, List.length_nil, List.length_set, List.set_cons_zero, List.set_cons_succ, List.all_cons, List.all_nil, Nat.reduceLT, Nat.reduceLeDiff, ne_eq, Option.some.injEq, fillV, partsV, V.okPart, gt_iff_lt, ge_iff_le]
  exact endsT_rett rfl (by decide) (by simp [look])
end Go.Ab
