/- Floats as numbers: what a word stands for; what rounding does. -/
import Derived.Test.YtdckmpaakheppaaZM
namespace Go.Ab
set_option linter.unusedSimpArgs false
set_option linter.unusedVariables false
open Go

/-- A power of two. -/
def pw (e : Int) : Rat := (2 : Rat) ^ e
theorem pw_pos (e : Int) : 0 < pw e := Rat.zpow_pos (by decide)
theorem pw_add (a b : Int) : pw (a + b) = pw a * pw b := Rat.zpow_add (by decide) a b
theorem pw_nat (n : Nat) : pw n = ((2 ^ n : Nat) : Rat) := by
  unfold pw; rw [Rat.zpow_natCast, Rat.natCast_pow]; rfl
theorem pw_zero : pw 0 = 1 := by unfold pw; exact Rat.zpow_zero 2
theorem pw_succ (a : Int) : pw (a + 1) = 2 * pw a := by
  rw [pw_add]; have : pw 1 = 2 := by unfold pw; exact Rat.zpow_one 2
  rw [this]; grind
theorem pw_pred (a : Int) : 2 * pw (a - 1) = pw a := by
  have := pw_succ (a - 1)
  rw [Int.sub_add_cancel] at this; exact this.symm
theorem pw_up (a : Int) (n : Nat) : pw (a + n) = ((2 ^ n : Nat) : Rat) * pw a := by
  rw [pw_add, pw_nat, Rat.mul_comm]
theorem pw52 (a : Int) : pw (a + 52) = 4503599627370496 * pw a := by
  have := pw_up a 52
  simpa using this
theorem pw53 (a : Int) : pw (a + 53) = 9007199254740992 * pw a := by
  have := pw_up a 53
  simpa using this
theorem pw_mono {a b : Int} (h : a ≤ b) : pw a ≤ pw b := by
  obtain ⟨n, rfl⟩ : ∃ n : Nat, b = a + n := ⟨(b - a).toNat, by omega⟩
  rw [pw_up]
  have h1 : (1 : Rat) ≤ ((2 ^ n : Nat) : Rat) := by
    have : 1 ≤ 2 ^ n := Nat.one_le_two_pow
    exact_mod_cast Rat.natCast_le_natCast.2 this
  have := Rat.mul_le_mul_of_nonneg_right h1 (Rat.le_of_lt (pw_pos a))
  grind
theorem pw_lt {a b : Int} (h : a < b) : pw a < pw b := by
  have h1 := pw_mono (show a + 1 ≤ b by omega)
  have := pw_succ a
  have := pw_pos a
  grind
theorem pw_le_iff {a b : Int} (h : pw a ≤ pw b) : a ≤ b := by
  by_cases e : a ≤ b
  · exact e
  · have := pw_lt (show b < a by omega); grind
theorem pw_lt_iff {a b : Int} (h : pw a < pw b) : a < b := by
  by_cases e : a < b
  · exact e
  · have := pw_mono (show b ≤ a by omega); grind

def dval : Ieee.Datum → Rat
  | .number s m i => (if s then -(m : Rat) else m) * pw i
  | _ => 0
/-- What a word stands for. -/
def val (x : Nat) : Rat := dval (Ieee.double.read x)
/-- A word that stands for a number. -/
def fin (x : Nat) : Prop := ∃ s m i, Ieee.double.read x = .number s m i

/-- What a rung stands for. -/
def rv (r : Nat) : Rat := if r < 4503599627370496 then (r : Rat) * pw (-1074) else ((4503599627370496 + r % 4503599627370496 : Nat) : Rat) * pw (-1074 + (r / 4503599627370496 - 1 : Nat))
theorem rv_norm (E kept : Nat) (h : kept ≤ 9007199254740992) (h2 : E = 0 ∨ 4503599627370496 ≤ kept) : rv (E * 4503599627370496 + kept) = (kept : Rat) * pw (-1074 + E) := by
  unfold rv
  by_cases h3 : E * 4503599627370496 + kept < 4503599627370496
  · obtain rfl : E = 0 := by omega
    rw [if_pos h3]; simp
  · rw [if_neg h3]
    by_cases h4 : kept = 9007199254740992
    · subst h4
      have e1 : (E * 4503599627370496 + 9007199254740992) % 4503599627370496 = 0 := by omega
      have e2 : (E * 4503599627370496 + 9007199254740992) / 4503599627370496 - 1 = E + 1 := by omega
      rw [e1, e2]
      have := pw_succ (-1074 + E)
      rw [show (-1074 : Int) + ((E + 1 : Nat) : Int) = -1074 + E + 1 from by omega, this]
      grind
    · by_cases h5 : kept < 4503599627370496
      · omega
      · have e1 : (E * 4503599627370496 + kept) % 4503599627370496 = kept - 4503599627370496 := by omega
        have e2 : (E * 4503599627370496 + kept) / 4503599627370496 - 1 = E := by omega
        rw [e1, e2, show 4503599627370496 + (kept - 4503599627370496) = kept from by omega]
theorem rv_zero : rv 0 = 0 := by unfold rv; simp
theorem rv_nonneg (r : Nat) : 0 ≤ rv r := by
  unfold rv
  split
  · exact Rat.mul_nonneg Rat.natCast_nonneg (Rat.le_of_lt (pw_pos _))
  · exact Rat.mul_nonneg Rat.natCast_nonneg (Rat.le_of_lt (pw_pos _))
/-- A rung as a kept number, at a place. -/
theorem rung_form (r : Nat) : ∃ E kept : Nat, r = E * 4503599627370496 + kept ∧ kept < 9007199254740992 ∧ (E = 0 ∨ 4503599627370496 ≤ kept) := by
  by_cases h : r < 9007199254740992
  · exact ⟨0, r, by omega, h, .inl rfl⟩
  · exact ⟨r / 4503599627370496 - 1, r % 4503599627370496 + 4503599627370496, by omega, by omega, .inr (by omega)⟩
theorem rv_succ (E kept : Nat) (h : kept < 9007199254740992) (h2 : E = 0 ∨ 4503599627370496 ≤ kept) : rv (E * 4503599627370496 + kept + 1) = rv (E * 4503599627370496 + kept) + pw (-1074 + E) := by
  rw [rv_norm E kept (by omega) h2, Nat.add_assoc, rv_norm E (kept + 1) (by omega) (by omega), Rat.natCast_add]
  grind
theorem rv_lt_succ (r : Nat) : rv r < rv (r + 1) := by
  obtain ⟨E, kept, rfl, h, h2⟩ := rung_form r
  rw [rv_succ E kept h h2]
  have := pw_pos (-1074 + E)
  grind
theorem rv_mono {a b : Nat} (h : a ≤ b) : rv a ≤ rv b := by
  obtain ⟨d, rfl⟩ : ∃ d, b = a + d := ⟨b - a, by omega⟩
  clear h
  induction d with
  | zero => exact Rat.le_refl
  | succ d ih => have := rv_lt_succ (a + d); rw [← Nat.add_assoc]; grind
theorem rv_lt {a b : Nat} (h : a < b) : rv a < rv b := by
  have := rv_lt_succ a
  have := rv_mono (show a + 1 ≤ b by omega)
  grind
/-- The gap above a rung. -/
theorem rv_gap (r : Nat) : rv (r + 1) ≤ rv r + rv r * pw (-52) + pw (-1074) := by
  obtain ⟨E, kept, rfl, h, h2⟩ := rung_form r
  rw [rv_succ E kept h h2]
  have hp := pw_pos (-1074)
  have h52 := pw_pos (-52)
  have hn := Rat.mul_nonneg (rv_nonneg (E * 4503599627370496 + kept)) (Rat.le_of_lt h52)
  rcases h2 with rfl | h2
  · simp only [Int.natCast_zero, Int.add_zero]; grind
  · rw [rv_norm E kept (by omega) (.inr h2)] at hn ⊢
    have e := pw52 (-1074 + E - 52)
    rw [Int.sub_add_cancel] at e
    have e2 : pw (-1074 + E) * pw (-52) = pw (-1074 + E - 52) := by rw [← pw_add]; rfl
    have hk : (4503599627370496 : Rat) ≤ (kept : Rat) := by exact_mod_cast Rat.natCast_le_natCast.2 h2
    have h3 := Rat.mul_le_mul_of_nonneg_right hk (Rat.le_of_lt (pw_pos (-1074 + E - 52)))
    have e3 : (kept : Rat) * pw (-1074 + E) * pw (-52) = kept * pw (-1074 + E - 52) := by rw [Rat.mul_assoc, e2]
    grind
theorem read_word (s : Bool) (r : Nat) (h : r < 9218868437227405312) : Ieee.double.read (Ieee.double.word s r) = if r < 4503599627370496 then .number s r (-1074) else .number s (4503599627370496 + r % 4503599627370496) (-1074 + (r / 4503599627370496 - 1 : Nat)) := by
  have h1 : Ieee.double.signWeight = 9223372036854775808 := rfl
  have h2 : Ieee.double.binade = 4503599627370496 := rfl
  have h3 : Ieee.double.infRung = 9218868437227405312 := rfl
  have h4 : Ieee.double.leastPlace = -1074 := rfl
  unfold Ieee.Format.read Ieee.Format.word
  simp only [h1, h2, h3, h4]
  have e1 : (if s = true then 9223372036854775808 + r else r) % 9223372036854775808 = r := by split <;> omega
  have e2 : ((if s = true then 9223372036854775808 + r else r) / 9223372036854775808 % 2 == 1) = s := by
    cases s
    · simp; omega
    · simp; omega
  rw [e1, e2, if_pos h]
theorem fin_word (s : Bool) (r : Nat) (h : r < 9218868437227405312) : fin (Ieee.double.word s r) := by
  unfold fin
  rw [read_word s r h]
  split <;> exact ⟨_, _, _, rfl⟩
theorem val_word (s : Bool) (r : Nat) (h : r < 9218868437227405312) : val (Ieee.double.word s r) = if s then -rv r else rv r := by
  unfold val
  rw [read_word s r h]
  unfold rv
  by_cases h1 : r < 4503599627370496
  · rw [if_pos h1, if_pos h1]
    simp only [dval]; split <;> grind
  · rw [if_neg h1, if_neg h1]
    simp only [dval]; split <;> grind
theorem fin_form {x : Nat} (h : fin x) (hx : x < 2 ^ 64) : ∃ s r, r < 9218868437227405312 ∧ x = Ieee.double.word s r := by
  have h1 : Ieee.double.signWeight = 9223372036854775808 := rfl
  have h2 : Ieee.double.binade = 4503599627370496 := rfl
  have h3 : Ieee.double.infRung = 9218868437227405312 := rfl
  obtain ⟨s, m, i, h⟩ := h
  unfold Ieee.Format.read at h
  simp only [h1, h2, h3] at h
  have hr : x % 9223372036854775808 < 9218868437227405312 := by
    split at h
    · omega
    · split at h
      · assumption
      · split at h <;> cases h
  refine ⟨decide (9223372036854775808 ≤ x), x % 9223372036854775808, hr, ?_⟩
  unfold Ieee.Format.word
  rw [h1]
  by_cases e : 9223372036854775808 ≤ x
  · rw [if_pos (by simpa using e)]; omega
  · rw [if_neg (by simpa using e)]; omega
theorem isNan_word (s : Bool) (r : Nat) (h : r < 9218868437227405312) : isNan (Ieee.double.word s r) = false := by
  have h1 : Ieee.double.signWeight = 9223372036854775808 := rfl
  unfold isNan Ieee.Format.word
  rw [h1]
  have e1 : (if s = true then 9223372036854775808 + r else r) % 9223372036854775808 = r := by split <;> omega
  rw [e1]; simp; omega

/-- The whole number nearest to n / 2 ^ drop. -/
theorem cut_spec (neg : Bool) (n drop : Nat) : 2 * (Ieee.Toward.even.cut neg n drop * 2 ^ drop) ≤ 2 * n + 2 ^ drop ∧ 2 * n ≤ 2 * (Ieee.Toward.even.cut neg n drop * 2 ^ drop) + 2 ^ drop := by
  unfold Ieee.Toward.cut
  simp only
  have hlog : n < 2 ^ (n.log2 + 1) := Nat.lt_log2_self
  by_cases h : drop ≤ n.log2 + 2
  · rw [Nat.min_eq_left h, Nat.one_shiftLeft]
    have hg : 0 < 2 ^ drop := Nat.two_pow_pos _
    generalize 2 ^ drop = g at hg
    have h1 := Nat.div_add_mod n g
    have h2 := Nat.mod_lt n hg
    generalize n / g = q at h1
    generalize n % g = t at h1 h2
    have h3 : (q + 1) * g = g * q + g := by rw [Nat.add_mul, Nat.mul_comm]; omega
    have h4 : q * g = g * q := Nat.mul_comm _ _
    by_cases e : (decide (g < 2 * t) || (g == 2 * t && q % 2 == 1)) = true
    · rw [e]
      simp only [Bool.toNat_true]
      simp only [Bool.or_eq_true, decide_eq_true_eq, Bool.and_eq_true, beq_iff_eq] at e
      omega
    · have e' : (decide (g < 2 * t) || (g == 2 * t && q % 2 == 1)) = false := by simpa using e
      rw [e']
      simp only [Bool.toNat_false, Nat.add_zero]
      have : ¬ g < 2 * t := fun h => e (by simp [h])
      omega
  · rw [Nat.min_eq_right (by omega), Nat.one_shiftLeft]
    have h5 : 2 ^ (n.log2 + 2) = 2 * 2 ^ (n.log2 + 1) := by rw [Nat.pow_succ]; omega
    have h6 : 2 ^ (n.log2 + 2) ≤ 2 ^ drop := Nat.pow_le_pow_right (by decide) (by omega)
    have h7 : n < 2 ^ (n.log2 + 2) := by omega
    rw [Nat.div_eq_of_lt h7, Nat.mod_eq_of_lt h7]
    have e : (decide (2 ^ (n.log2 + 2) < 2 * n) || (2 ^ (n.log2 + 2) == 2 * n && 0 % 2 == 1)) = false := by simp; omega
    rw [e]
    simp only [Bool.toNat_false, Nat.add_zero, Nat.zero_mul, Nat.mul_zero]
    omega
theorem cut_zero (neg : Bool) (n : Nat) : Ieee.Toward.even.cut neg n 0 = n := by
  unfold Ieee.Toward.cut
  simp [Nat.mod_one]
end Go.Ab
