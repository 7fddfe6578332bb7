/- Rounding: the nearest word. -/
import Derived.Test.YtdckmpaakheppaaZN
namespace Go.Ab
set_option linter.unusedSimpArgs false
set_option linter.unusedVariables false
open Go

def rabs (x : Rat) : Rat := if x < 0 then -x else x
theorem rabs_nonneg (x : Rat) : 0 ≤ rabs x := by unfold rabs; split <;> grind
theorem rabs_neg (x : Rat) : rabs (-x) = rabs x := by unfold rabs; split <;> split <;> grind
theorem rabs_of_nonneg {x : Rat} (h : 0 ≤ x) : rabs x = x := by unfold rabs; split <;> grind
theorem le_rabs (x : Rat) : x ≤ rabs x ∧ -x ≤ rabs x := by unfold rabs; split <;> grind
theorem rabs_le {x b : Rat} (h1 : x ≤ b) (h2 : -x ≤ b) : rabs x ≤ b := by unfold rabs; split <;> grind
theorem rabs_mul (x y : Rat) : rabs (x * y) = rabs x * rabs y := by
  have key : ∀ a b : Rat, 0 ≤ a → 0 ≤ b → 0 ≤ a * b := fun a b => Rat.mul_nonneg
  unfold rabs
  by_cases h1 : x < 0 <;> by_cases h2 : y < 0
  · have := key (-x) (-y) (by grind) (by grind)
    rw [if_pos h1, if_pos h2, if_neg (by grind)]; grind
  · have := key (-x) y (by grind) (by grind)
    rw [if_pos h1, if_neg h2]; split <;> grind
  · have := key x (-y) (by grind) (by grind)
    rw [if_neg h1, if_pos h2]; split <;> grind
  · have := key x y (by grind) (by grind)
    rw [if_neg h1, if_neg h2, if_neg (by grind)]
theorem rabs_add (x y : Rat) : rabs (x + y) ≤ rabs x + rabs y := by
  have := le_rabs x; have := le_rabs y
  exact rabs_le (by grind) (by grind)
theorem rabs_sub (x y : Rat) : rabs (x - y) ≤ rabs x + rabs y := by
  have := le_rabs x; have := le_rabs y
  exact rabs_le (by grind) (by grind)

def bigE : Int := 1000
/-- Numbers that do not run out. -/
def big : Rat := pw bigE
theorem bigE_eq : bigE = 1000 := rfl
/-- A rung that is nearest to a number that is not below 0. -/
structure Near (r : Nat) (v : Rat) : Prop where
  lt : r < 9214364837600034816
  err : rabs (rv r - v) ≤ v * pw (-53) + pw (-1075)
  lo : r = 0 ∨ rv (r - 1) ≤ v
  hi : v ≤ rv (r + 1)
  exact : ∀ (k : Nat) (e : Int), k < 9007199254740992 → -1074 ≤ e → v = (k : Rat) * pw e → rv r = v
theorem near_zero : Near 0 0 := by
  have := pw_pos (-1075)
  refine ⟨by decide, ?_, .inl rfl, ?_, fun k e _ _ h => rv_zero⟩
  · rw [rv_zero]; refine rabs_le ?_ ?_ <;> grind
  · exact rv_nonneg _
theorem near_spec (s : Bool) (m : Nat) (i : Int) (hv : (m : Rat) * pw i ≤ big) : ∃ r, Ieee.double.nearest s m i = Ieee.double.word s r ∧ Near r ((m : Rat) * pw i) := by
  by_cases h0 : m = 0
  · subst h0
    refine ⟨0, by simp [Ieee.Format.nearest], ?_⟩
    have : ((0 : Nat) : Rat) * pw i = 0 := by simp
    rw [this]; exact near_zero
  have q1 : Ieee.double.fractionBits = 52 := rfl
  have q2 : Ieee.double.leastPlace = -1074 := rfl
  have q3 : Ieee.double.binade = 4503599627370496 := rfl
  have q4 : Ieee.double.infRung = 9218868437227405312 := rfl
  have e0 : Ieee.double.nearest s m i = Ieee.double.word s (min (((max (i + (m.log2 : Int) - (52 : Nat)) (-1074)) - (-1074)).toNat * 4503599627370496 +
      Ieee.Toward.even.cut s (m <<< (i - max (i + (m.log2 : Int) - (52 : Nat)) (-1074)).toNat) (max (i + (m.log2 : Int) - (52 : Nat)) (-1074) - i).toNat) 9218868437227405312) := by
    unfold Ieee.Format.nearest
    rw [if_neg h0, q1, q2, q3, q4]
  have hl1 : 2 ^ m.log2 ≤ m := Nat.log2_self_le h0
  have hl2 : m < 2 ^ (m.log2 + 1) := Nat.lt_log2_self
  generalize m.log2 = L at e0 hl1 hl2
  generalize hlast : max (i + (L : Int) - (52 : Nat)) (-1074) = last at e0
  generalize hkept : Ieee.Toward.even.cut s (m <<< (i - last).toNat) (last - i).toNat = kept at e0
  have hP := pw_pos last
  -- v between powers
  have b1 : pw (i + L) ≤ (m : Rat) * pw i := by
    rw [pw_up]
    exact Rat.mul_le_mul_of_nonneg_right (by exact_mod_cast Rat.natCast_le_natCast.2 hl1) (Rat.le_of_lt (pw_pos i))
  have b2 : (m : Rat) * pw i < pw (i + L + 1) := by
    rw [Int.add_assoc, show (L : Int) + 1 = ((L + 1 : Nat) : Int) from by omega, pw_up]
    exact Rat.mul_lt_mul_of_pos_right (by exact_mod_cast Rat.natCast_lt_natCast.2 hl2) (pw_pos i)
  -- kept
  have hk : 2 * ((kept : Rat) * pw last) ≤ 2 * ((m : Rat) * pw i) + pw last ∧ 2 * ((m : Rat) * pw i) ≤ 2 * ((kept : Rat) * pw last) + pw last := by
    by_cases h : last ≤ i
    · have e1 : (last - i).toNat = 0 := by omega
      rw [e1, cut_zero] at hkept
      have e2 : pw i = ((2 ^ (i - last).toNat : Nat) : Rat) * pw last := by
        have h7 : i = last + ((i - last).toNat : Nat) := by omega
        exact (congrArg pw h7).trans (pw_up _ _)
      have e3 : (kept : Rat) * pw last = (m : Rat) * pw i := by
        rw [← hkept, Nat.shiftLeft_eq, Rat.natCast_mul, e2]; grind
      grind
    · have e1 : (i - last).toNat = 0 := by omega
      rw [e1, Nat.shiftLeft_zero] at hkept
      have hc := cut_spec s m (last - i).toNat
      rw [hkept] at hc
      have e2 : pw last = ((2 ^ (last - i).toNat : Nat) : Rat) * pw i := by
        have h7 : last = i + ((last - i).toNat : Nat) := by omega
        exact (congrArg pw h7).trans (pw_up _ _)
      rw [e2]
      generalize 2 ^ (last - i).toNat = g at hc
      have h1 : (2 : Rat) * ((kept : Rat) * g) ≤ 2 * m + g := by exact_mod_cast Rat.natCast_le_natCast.2 hc.1
      have h2 : (2 : Rat) * m ≤ 2 * ((kept : Rat) * g) + g := by exact_mod_cast Rat.natCast_le_natCast.2 hc.2
      have hi := Rat.le_of_lt (pw_pos i)
      have h3 := Rat.mul_le_mul_of_nonneg_right h1 hi
      have h4 := Rat.mul_le_mul_of_nonneg_right h2 hi
      grind
  have hlow : -1074 ≤ last := by omega
  have hll : i + L ≤ last + 52 := by omega
  have cast_le : ∀ a b : Nat, (a : Rat) ≤ (b : Rat) → a ≤ b := fun a b h => Rat.natCast_le_natCast.1 h
  have cast_lt : ∀ a b : Nat, (a : Rat) < (b : Rat) → a < b := fun a b h => Rat.natCast_lt_natCast.1 h
  have k1 : kept ≤ 9007199254740992 := by
    have h1 := pw_mono (show i + L + 1 ≤ last + 53 by omega)
    rw [pw53] at h1
    have h2 : (kept : Rat) * pw last < 9007199254740993 * pw last := by grind
    have h3 := Rat.lt_of_mul_lt_mul_right h2 (Rat.le_of_lt hP)
    have := cast_lt kept 9007199254740993 (by exact_mod_cast h3)
    omega
  have k2 : last = -1074 ∨ (i + L = last + 52 ∧ 4503599627370496 ≤ kept) := by
    by_cases e : last = -1074
    · exact .inl e
    · refine .inr ⟨by omega, ?_⟩
      have h1 : i + L = last + 52 := by omega
      rw [h1, pw52] at b1
      have h2 : (4503599627370495 : Rat) * pw last < kept * pw last := by grind
      have h3 := Rat.lt_of_mul_lt_mul_right h2 (Rat.le_of_lt hP)
      have := cast_lt 4503599627370495 kept (by exact_mod_cast h3)
      omega
  have hbig : last ≤ 948 := by
    have := pw_le_iff (Rat.le_trans b1 hv)
    rw [bigE_eq] at this
    omega
  obtain ⟨E, hE⟩ : ∃ E : Nat, last = -1074 + E := ⟨(last + 1074).toNat, by omega⟩
  have hEk : E = 0 ∨ 4503599627370496 ≤ kept := by omega
  have e1 : (last - -1074).toNat = E := by omega
  have hr : E * 4503599627370496 + kept < 9214364837600034816 := by omega
  have hrv := rv_norm E kept k1 hEk
  rw [← hE] at hrv
  rw [e1, Nat.min_eq_left (by omega)] at e0
  refine ⟨_, e0, hr, ?_, ?_, ?_, ?_⟩
  · rw [hrv]
    have hpv : pw last ≤ 2 * ((m : Rat) * pw i * pw (-53)) + 2 * pw (-1075) := by
      have hv0 : 0 ≤ (m : Rat) * pw i * pw (-53) := Rat.mul_nonneg (Rat.mul_nonneg Rat.natCast_nonneg (Rat.le_of_lt (pw_pos i))) (Rat.le_of_lt (pw_pos _))
      rcases k2 with e | ⟨e, _⟩
      · have := pw_pred (-1074)
        rw [show (-1074 : Int) - 1 = -1075 from rfl] at this
        rw [e, ← this]; grind
      · have h1 := Rat.mul_le_mul_of_nonneg_right b1 (Rat.le_of_lt (pw_pos (-53)))
        rw [e, ← pw_add] at h1
        have h2 : last + 52 + -53 = last - 1 := by omega
        have h3 := pw_pred last
        rw [h2] at h1
        have := pw_pos (-1075)
        grind
    refine rabs_le ?_ ?_ <;> grind
  · by_cases h : E * 4503599627370496 + kept = 0
    · exact .inl h
    · right
      by_cases h5 : E = 0 ∨ 4503599627370497 ≤ kept
      · obtain ⟨q, rfl⟩ : ∃ q, kept = q + 1 := ⟨kept - 1, by omega⟩
        have e3 := rv_norm E q (by omega) (by omega)
        rw [show E * 4503599627370496 + (q + 1) - 1 = E * 4503599627370496 + q from by omega, e3, ← hE]
        rw [Rat.natCast_add] at hk
        grind
      · have hk5 : kept = 4503599627370496 := by omega
        subst hk5
        obtain ⟨F, rfl⟩ : ∃ F, E = F + 1 := ⟨E - 1, by omega⟩
        have e3 := rv_norm F 9007199254740991 (by omega) (by omega)
        rw [show (F + 1) * 4503599627370496 + 4503599627370496 - 1 = F * 4503599627370496 + 9007199254740991 from by omega, e3]
        have e4 : (-1074 : Int) + F = last - 1 := by omega
        have e5 := pw_pred last
        rw [e4]
        have h6 : ((9007199254740991 : Nat) : Rat) = 9007199254740991 := rfl
        have h7 : ((4503599627370496 : Nat) : Rat) = 4503599627370496 := rfl
        rw [h7] at hk
        rw [h6]
        have := pw_pos (last - 1)
        grind
  · by_cases h5 : kept < 9007199254740992
    · have e3 := rv_succ E kept h5 hEk
      rw [e3, hrv, ← hE]; grind
    · have hk5 : kept = 9007199254740992 := by omega
      subst hk5
      have e3 := rv_norm (E + 1) 4503599627370497 (by omega) (by omega)
      rw [show E * 4503599627370496 + 9007199254740992 + 1 = (E + 1) * 4503599627370496 + 4503599627370497 from by omega, e3]
      have e4 : (-1074 : Int) + ((E + 1 : Nat) : Int) = last + 1 := by omega
      have e5 := pw_succ last
      rw [e4, e5]
      have h6 : ((9007199254740992 : Nat) : Rat) = 9007199254740992 := rfl
      have h7 : ((4503599627370497 : Nat) : Rat) = 4503599627370497 := rfl
      rw [h6] at hk
      rw [h7]
      grind
  · intro k e hk3 he hve
    -- the number is a whole number of units of the last place
    have hle : last ≤ e := by
      have h1 : (k : Rat) * pw e < pw (e + 53) := by
        rw [pw53]
        have h2 : (k : Rat) < 9007199254740992 := by exact_mod_cast Rat.natCast_lt_natCast.2 hk3
        exact Rat.mul_lt_mul_of_pos_right h2 (pw_pos e)
      have h2 : pw (i + L) < pw (e + 53) := by grind
      have h3 := pw_lt_iff h2
      omega
    obtain ⟨d, rfl⟩ : ∃ d : Nat, e = last + d := ⟨(e - last).toNat, by omega⟩
    have e4 : (m : Rat) * pw i = ((k * 2 ^ d : Nat) : Rat) * pw last := by
      rw [hve, pw_up, Rat.natCast_mul]; grind
    rw [e4] at hk
    rw [hrv, e4]
    generalize k * 2 ^ d = q at hk
    have h1 : (kept : Rat) * pw last < ((q + 1 : Nat) : Rat) * pw last := by rw [Rat.natCast_add]; grind
    have h2 : (q : Rat) * pw last < ((kept + 1 : Nat) : Rat) * pw last := by rw [Rat.natCast_add]; grind
    have h3 := cast_lt _ _ (Rat.lt_of_mul_lt_mul_right h1 (Rat.le_of_lt hP))
    have h4 := cast_lt _ _ (Rat.lt_of_mul_lt_mul_right h2 (Rat.le_of_lt hP))
    have : kept = q := by omega
    rw [this]
/-- What is no more than a rung's number is rounded to no more. -/
theorem Near.le {r r1 : Nat} {v : Rat} (h : Near r v) (h1 : v ≤ rv r1) : rv r ≤ rv r1 := by
  by_cases hr : r ≤ r1
  · exact rv_mono hr
  · exfalso
    have h2 := rv_lt (show r1 < r by omega)
    have h3 := rv_mono (show r1 ≤ r - 1 by omega)
    have h4 : v = rv r1 := by
      rcases h.lo with e | e
      · omega
      · grind
    obtain ⟨E, kept, rfl, hk, hE⟩ := rung_form r1
    have h5 := rv_norm E kept (by omega) hE
    have := h.exact kept (-1074 + E) hk (by omega) (by rw [h4, h5])
    grind
end Go.Ab
