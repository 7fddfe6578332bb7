/- Numbers twice as great. -/
import Derived.Test.YtdckmpaakheppaaZS
namespace Go.Ab
set_option linter.unusedSimpArgs false
set_option linter.unusedVariables false
open Go
theorem rv_dbl (r : Nat) (h : 4503599627370496 ≤ r) : rv (r + 4503599627370496) = 2 * rv r := by
  have e1 : (r + 4503599627370496) % 4503599627370496 = r % 4503599627370496 := by omega
  have e2 : (r + 4503599627370496) / 4503599627370496 - 1 = (r / 4503599627370496 - 1) + 1 := by omega
  unfold rv
  rw [if_neg (by omega), if_neg (by omega), e1, e2]
  have h1 := pw_succ (-1074 + ((r / 4503599627370496 - 1 : Nat) : Int))
  have h2 : (-1074 : Int) + ((r / 4503599627370496 - 1 + 1 : Nat) : Int) = -1074 + ((r / 4503599627370496 - 1 : Nat) : Int) + 1 := by omega
  rw [h2, h1]
  grind
/-- A number that is not small is laid down as its double is. -/
theorem write_dbl (s : Bool) (m : Nat) (i : Int) (h1 : pw (-1000) ≤ (m : Rat) * pw i) (h2 : 2 * ((m : Rat) * pw i) ≤ big) :
    val (cf (Ieee.double.write (.number s m (i + 1)))) = 2 * val (cf (Ieee.double.write (.number s m i))) := by
  have h0 : m ≠ 0 := by
    rintro rfl
    have := pw_pos (-1000)
    have e : ((0 : Nat) : Rat) * pw i = 0 := by simp
    rw [e] at h1; grind
  have q1 : Ieee.double.fractionBits = 52 := rfl
  have q2 : Ieee.double.leastPlace = -1074 := rfl
  have q3 : Ieee.double.binade = 4503599627370496 := rfl
  have q4 : Ieee.double.infRung = 9218868437227405312 := rfl
  have e0 : ∀ i : Int, Ieee.double.nearest s m i = Ieee.double.word s (min (((max (i + (m.log2 : Int) - (52 : Nat)) (-1074)) - (-1074)).toNat * 4503599627370496 +
      Ieee.Toward.even.cut s (m <<< (i - max (i + (m.log2 : Int) - (52 : Nat)) (-1074)).toNat) (max (i + (m.log2 : Int) - (52 : Nat)) (-1074) - i).toNat) 9218868437227405312) := by
    intro i
    unfold Ieee.Format.nearest
    rw [if_neg h0, q1, q2, q3, q4]
  have hl1 : 2 ^ m.log2 ≤ m := Nat.log2_self_le h0
  have hl2 : m < 2 ^ (m.log2 + 1) := Nat.lt_log2_self
  have b1 : pw (i + m.log2) ≤ (m : Rat) * pw i := by
    rw [pw_up]
    exact Rat.mul_le_mul_of_nonneg_right (by exact_mod_cast Rat.natCast_le_natCast.2 hl1) (Rat.le_of_lt (pw_pos i))
  have b2 : (m : Rat) * pw i < pw (i + m.log2 + 1) := by
    rw [Int.add_assoc, show (m.log2 : Int) + 1 = ((m.log2 + 1 : Nat) : Int) from by omega, pw_up]
    exact Rat.mul_lt_mul_of_pos_right (by exact_mod_cast Rat.natCast_lt_natCast.2 hl2) (pw_pos i)
  have c1 : -1000 < i + m.log2 + 1 := pw_lt_iff (by grind)
  have c2 : i + m.log2 + 1 ≤ 1000 := by
    have h3 := pw_succ (i + m.log2)
    have h4 : pw (i + m.log2 + 1) ≤ big := by grind
    have := pw_le_iff (show pw (i + m.log2 + 1) ≤ pw bigE from h4)
    rw [bigE_eq] at this
    exact this
  clear h1 h2 b1 b2
  generalize hL : m.log2 = L at e0 hl1 hl2 c1 c2
  have f1 : max (i + (L : Int) - (52 : Nat)) (-1074) = i + L - 52 := by omega
  have f2 : max (i + 1 + (L : Int) - (52 : Nat)) (-1074) = i + L - 51 := by omega
  obtain ⟨E, hE⟩ : ∃ E : Nat, i + L - 52 = -1074 + E := ⟨(i + L - 52 + 1074).toNat, by omega⟩
  have g1 := e0 i
  have g2 := e0 (i + 1)
  rw [f1] at g1
  rw [f2, show i + 1 - (i + L - 51) = i - (i + L - 52) from by omega, show i + L - 51 - (i + 1) = i + L - 52 - i from by omega, show (i + L - 51 - -1074).toNat = E + 1 from by omega] at g2
  rw [show (i + L - 52 - -1074).toNat = E from by omega] at g1
  have hk : 4503599627370496 ≤ Ieee.Toward.even.cut s (m <<< (i - (i + L - 52)).toNat) (i + L - 52 - i).toNat ∧ Ieee.Toward.even.cut s (m <<< (i - (i + L - 52)).toNat) (i + L - 52 - i).toNat ≤ 9007199254740992 := by
    by_cases hc : L ≤ 52
    · rw [show (i + L - 52 - i).toNat = 0 from by omega, cut_zero, Nat.shiftLeft_eq, show (i - (i + L - 52)).toNat = 52 - L from by omega]
      have p1 : 2 ^ L * 2 ^ (52 - L) = 2 ^ 52 := by rw [← Nat.pow_add]; congr 1; omega
      have p2 : 2 ^ (L + 1) * 2 ^ (52 - L) = 2 ^ 53 := by rw [← Nat.pow_add]; congr 1; omega
      have p3 := Nat.mul_le_mul_right (2 ^ (52 - L)) hl1
      have p4 := Nat.mul_le_mul_right (2 ^ (52 - L)) (Nat.le_of_lt hl2)
      omega
    · rw [show (i - (i + L - 52)).toNat = 0 from by omega, Nat.shiftLeft_zero, show (i + L - 52 - i).toNat = L - 52 from by omega]
      have hcs := cut_spec s m (L - 52)
      generalize Ieee.Toward.even.cut s m (L - 52) = kept at hcs
      have p1 : 2 ^ L = 4503599627370496 * 2 ^ (L - 52) := by
        rw [show (4503599627370496 : Nat) = 2 ^ 52 from rfl, ← Nat.pow_add]; congr 1; omega
      have p2 : 2 ^ (L + 1) = 9007199254740992 * 2 ^ (L - 52) := by
        rw [show (9007199254740992 : Nat) = 2 ^ 53 from rfl, ← Nat.pow_add]; congr 1; omega
      have p3 : 0 < 2 ^ (L - 52) := Nat.pos_of_ne_zero (by simp)
      generalize 2 ^ (L - 52) = g at *
      constructor
      · by_cases h : 4503599627370496 ≤ kept
        · exact h
        · have : kept * g ≤ 4503599627370495 * g := Nat.mul_le_mul_right g (by omega)
          omega
      · by_cases h : kept ≤ 9007199254740992
        · exact h
        · have : 9007199254740993 * g ≤ kept * g := Nat.mul_le_mul_right g (by omega)
          omega
  generalize Ieee.Toward.even.cut s (m <<< (i - (i + L - 52)).toNat) (i + L - 52 - i).toNat = kept at hk g1 g2
  have r1 : E * 4503599627370496 + kept < 9218868437227405312 := by omega
  have r3 : E ≤ 2021 := by
    clear g1 g2 e0 hl1 hl2 r1
    omega
  have r2 : (E + 1) * 4503599627370496 + kept < 9218868437227405312 := by
    have := hk.2
    clear g1 g2 e0 hl1 hl2 r1 hE c1 c2 f1 f2 hk q1 q2 q3 q4 h0 hL
    omega
  rw [Nat.min_eq_left (by omega)] at g1 g2
  have w1 : cf (Ieee.double.write (.number s m i)) = Ieee.double.word s (E * 4503599627370496 + kept) := by
    show cf (Ieee.double.nearest s m i) = _
    rw [g1, cf_not (isNan_word s _ r1)]
  have w2 : cf (Ieee.double.write (.number s m (i + 1))) = Ieee.double.word s ((E + 1) * 4503599627370496 + kept) := by
    show cf (Ieee.double.nearest s m (i + 1)) = _
    rw [g2, cf_not (isNan_word s _ r2)]
  rw [w1, w2, val_word _ _ r1, val_word _ _ r2, rv_norm E kept hk.2 (.inr hk.1), rv_norm (E + 1) kept hk.2 (.inr hk.1)]
  have h3 := pw_succ (-1074 + (E : Int))
  have h4 : (-1074 : Int) + ((E + 1 : Nat) : Int) = -1074 + (E : Int) + 1 := by
    clear w1 w2 g1 g2 e0 hl1 hl2
    omega
  rw [h4, h3]
  split <;> grind
theorem rv_inj {a b : Nat} (h : rv a = rv b) : a = b := by
  rcases Nat.lt_trichotomy a b with h1 | h1 | h1
  · have := rv_lt h1; grind
  · exact h1
  · have := rv_lt h1; grind
theorem rv_small {r : Nat} (h : pw (-1000) ≤ rv r) : 4503599627370496 ≤ r := by
  by_cases h1 : 4503599627370496 ≤ r
  · exact h1
  · have h2 := rv_mono (show r ≤ 4503599627370496 from by omega)
    have h3 := rv_norm 0 4503599627370496 (by decide) (.inl rfl)
    rw [show 0 * 4503599627370496 + 4503599627370496 = 4503599627370496 from rfl] at h3
    have h4 := pw52 (-1074)
    have h5 : pw (-1022) < pw (-1000) := pw_lt (by decide)
    have h6 : (-1074 : Int) + ((0 : Nat) : Int) = -1074 := by decide
    have h7 : (-1074 : Int) + 52 = -1022 := by decide
    rw [h6] at h3
    rw [h7] at h4
    have h8 : ((4503599627370496 : Nat) : Rat) = 4503599627370496 := rfl
    rw [h8] at h3
    grind
/-- A word that is twice another. -/
theorem word_dbl {s t : Bool} {r q : Nat} (hr : r < 9214364837600034816) (hq : q < 9214364837600034816) (h : pw (-1000) ≤ rabs (val (Ieee.double.word s r))) (hv : val (Ieee.double.word t q) = 2 * val (Ieee.double.word s r)) :
    t = s ∧ q = r + 4503599627370496 ∧ 4503599627370496 ≤ r := by
  rw [val_word _ _ (by omega)] at h
  rw [val_word _ _ (by omega), val_word _ _ (by omega)] at hv
  have hn := rv_nonneg r
  have hm := rv_nonneg q
  have hp := pw_pos (-1000)
  have hr0 : pw (-1000) ≤ rv r := by
    cases s
    · simp only [Bool.false_eq_true, if_false] at h
      rwa [rabs_of_nonneg hn] at h
    · simp only [if_true] at h
      rwa [rabs_neg, rabs_of_nonneg hn] at h
  have hrn := rv_small hr0
  have hd := rv_dbl r hrn
  cases s <;> cases t <;> simp only [Bool.false_eq_true, if_false, if_true] at hv
  · exact ⟨rfl, rv_inj (by grind), hrn⟩
  · exfalso; grind
  · exfalso; grind
  · exact ⟨rfl, rv_inj (by grind), hrn⟩
theorem fop_div_dbl {x x' y : Nat} (hx : ∃ s r, r < 9214364837600034816 ∧ x = Ieee.double.word s r) (hx' : ∃ s r, r < 9214364837600034816 ∧ x' = Ieee.double.word s r) (hy : fin y) (hv : val x' = 2 * val x)
    (hx0 : pw (-1000) ≤ rabs (val x)) (h0 : val y ≠ 0) {q : Rat} (hq : q * val y = val x) (hq1 : 2 * pw (-1000) ≤ rabs q) (hq2 : rabs q + rabs q + (rabs q + rabs q) ≤ big) : val (fop .div x' y) = 2 * val (fop .div x y) := by
  obtain ⟨s, r, hr, rfl⟩ := hx
  obtain ⟨s', r', hr', rfl⟩ := hx'
  obtain ⟨e0, rfl, hrn⟩ := word_dbl hr hr' hx0 hv
  subst s'
  obtain ⟨t, n, j, hy⟩ := hy
  have a1 := read_word s r (by omega)
  have a2 := read_word s (r + 4503599627370496) (by omega)
  rw [if_neg (by omega)] at a1 a2
  have e1 : (r + 4503599627370496) % 4503599627370496 = r % 4503599627370496 := by omega
  have e2 : (-1074 : Int) + (((r + 4503599627370496) / 4503599627370496 - 1 : Nat) : Int) = (-1074 + ((r / 4503599627370496 - 1 : Nat) : Int)) + 1 := by omega
  rw [e1, e2] at a2
  have vx := val_eq a1
  generalize 4503599627370496 + r % 4503599627370496 = m at a1 a2 vx
  generalize (-1074 : Int) + ((r / 4503599627370496 - 1 : Nat) : Int) = i at a1 a2 vx
  have vy := val_eq hy
  have ax : rabs (val (Ieee.double.word s r)) = (m : Rat) * pw i := by rw [vx]; exact rabs_dval s m i
  have ay : rabs (val y) = (n : Rat) * pw j := by rw [vy]; exact rabs_dval t n j
  have hn : n ≠ 0 := by
    rintro rfl
    have : ((0 : Nat) : Rat) = 0 := rfl
    rw [this] at vy
    apply h0; rw [vy]; split <;> grind
  have haq : rabs q * ((n : Rat) * pw j) = (m : Rat) * pw i := by rw [← ay, ← ax, ← rabs_mul, hq]
  obtain ⟨p1, p2, p3, p4⟩ := quot_spec m n i j hn (rabs q) haq (54 + n.log2 - m.log2) rfl
  have q1 : Ieee.double.fractionBits = 52 := rfl
  have f1 : fop .div (Ieee.double.word s r) y = cf (Ieee.double.write (.number (s ^^ t) (2 * ((m <<< (54 + n.log2 - m.log2)) / n) + ((m <<< (54 + n.log2 - m.log2)) % n != 0).toNat) (i - j - (54 + n.log2 - m.log2 : Nat) - 1))) := by
    simp [fop, Ieee.Format.div, a1, hy, Ieee.Datum.quotient, hn, q1]
  have f2 : fop .div (Ieee.double.word s (r + 4503599627370496)) y = cf (Ieee.double.write (.number (s ^^ t) (2 * ((m <<< (54 + n.log2 - m.log2)) / n) + ((m <<< (54 + n.log2 - m.log2)) % n != 0).toNat) (i - j - (54 + n.log2 - m.log2 : Nat) - 1 + 1))) := by
    have : i + 1 - j - (54 + n.log2 - m.log2 : Nat) - 1 = i - j - (54 + n.log2 - m.log2 : Nat) - 1 + 1 := by omega
    rw [← this]
    simp [fop, Ieee.Format.div, a2, hy, Ieee.Datum.quotient, hn, q1]
  generalize 54 + n.log2 - m.log2 = more at p2 f1 f2
  generalize 2 * ((m <<< more) / n) + ((m <<< more) % n != 0).toNat = d at p2 f1 f2
  generalize i - j - (more : Int) - 1 = c at p2 f1 f2
  rw [f1, f2]
  have hh := half_big (q := q) (by have := rabs_nonneg q; grind)
  have h54 : rabs q * pw (-54) + rabs q * pw (-54) ≤ rabs q := by
    have h1 : pw (-53) ≤ 1 := by rw [← pw_zero]; exact pw_mono (by decide)
    have h2 := pw_pred (-53)
    have h3 : (-53 : Int) - 1 = -54 := by decide
    rw [h3] at h2
    have h4 := Rat.mul_le_mul_of_nonneg_left h1 (rabs_nonneg q)
    have h5 : rabs q * pw (-53) = rabs q * pw (-54) + rabs q * pw (-54) := by rw [← h2]; grind
    grind
  have k1 := le_rabs ((d : Rat) * pw c - rabs q)
  have k2 := le_rabs (-((d : Rat) * pw c - rabs q))
  rw [rabs_neg] at k2
  refine write_dbl _ _ _ ?_ ?_
  · grind
  · grind
/-- By twice as much: half. -/
theorem fop_div_half {x y y' : Nat} (hx : fin x) (hy : ∃ s r, r < 9214364837600034816 ∧ y = Ieee.double.word s r) (hy' : ∃ s r, r < 9214364837600034816 ∧ y' = Ieee.double.word s r) (hv : val y' = 2 * val y)
    (hy0 : pw (-1000) ≤ rabs (val y)) {q : Rat} (hq : q * val y' = val x) (hq1 : 2 * pw (-1000) ≤ rabs q) (hq2 : rabs q + rabs q + (rabs q + rabs q) ≤ big) : val (fop .div x y) = 2 * val (fop .div x y') := by
  obtain ⟨s, r, hr, rfl⟩ := hy
  obtain ⟨s', r', hr', rfl⟩ := hy'
  obtain ⟨e0, rfl, hrn⟩ := word_dbl hr hr' hy0 hv
  subst s'
  obtain ⟨t, m, i, hx⟩ := hx
  have a1 := read_word s r (by omega)
  have a2 := read_word s (r + 4503599627370496) (by omega)
  rw [if_neg (by omega)] at a1 a2
  have e1 : (r + 4503599627370496) % 4503599627370496 = r % 4503599627370496 := by omega
  have e2 : (-1074 : Int) + (((r + 4503599627370496) / 4503599627370496 - 1 : Nat) : Int) = (-1074 + ((r / 4503599627370496 - 1 : Nat) : Int)) + 1 := by omega
  rw [e1, e2] at a2
  have vy := val_eq a2
  have hn : 4503599627370496 + r % 4503599627370496 ≠ 0 := by omega
  generalize 4503599627370496 + r % 4503599627370496 = n at a1 a2 vy hn
  generalize (-1074 : Int) + ((r / 4503599627370496 - 1 : Nat) : Int) = j at a1 a2 vy
  have vx := val_eq hx
  have ax : rabs (val x) = (m : Rat) * pw i := by rw [vx]; exact rabs_dval t m i
  have ay : rabs (val (Ieee.double.word s (r + 4503599627370496))) = (n : Rat) * pw (j + 1) := by rw [vy]; exact rabs_dval s n (j + 1)
  have haq : rabs q * ((n : Rat) * pw (j + 1)) = (m : Rat) * pw i := by rw [← ay, ← ax, ← rabs_mul, hq]
  obtain ⟨p1, p2, p3, p4⟩ := quot_spec m n i (j + 1) hn (rabs q) haq (54 + n.log2 - m.log2) rfl
  have q1 : Ieee.double.fractionBits = 52 := rfl
  have f1 : fop .div x (Ieee.double.word s (r + 4503599627370496)) = cf (Ieee.double.write (.number (t ^^ s) (2 * ((m <<< (54 + n.log2 - m.log2)) / n) + ((m <<< (54 + n.log2 - m.log2)) % n != 0).toNat) (i - (j + 1) - (54 + n.log2 - m.log2 : Nat) - 1))) := by
    simp [fop, Ieee.Format.div, a2, hx, Ieee.Datum.quotient, hn, q1]
  have f2 : fop .div x (Ieee.double.word s r) = cf (Ieee.double.write (.number (t ^^ s) (2 * ((m <<< (54 + n.log2 - m.log2)) / n) + ((m <<< (54 + n.log2 - m.log2)) % n != 0).toNat) (i - (j + 1) - (54 + n.log2 - m.log2 : Nat) - 1 + 1))) := by
    have : i - j - (54 + n.log2 - m.log2 : Nat) - 1 = i - (j + 1) - (54 + n.log2 - m.log2 : Nat) - 1 + 1 := by omega
    rw [← this]
    simp [fop, Ieee.Format.div, a1, hx, Ieee.Datum.quotient, hn, q1]
  generalize 54 + n.log2 - m.log2 = more at p2 f1 f2
  generalize 2 * ((m <<< more) / n) + ((m <<< more) % n != 0).toNat = d at p2 f1 f2
  generalize i - (j + 1) - (more : Int) - 1 = c at p2 f1 f2
  rw [f1, f2]
  have hh := half_big (q := q) (by have := rabs_nonneg q; grind)
  have h54 : rabs q * pw (-54) + rabs q * pw (-54) ≤ rabs q := by
    have h1 : pw (-53) ≤ 1 := by rw [← pw_zero]; exact pw_mono (by decide)
    have h2 := pw_pred (-53)
    have h3 : (-53 : Int) - 1 = -54 := by decide
    rw [h3] at h2
    have h4 := Rat.mul_le_mul_of_nonneg_left h1 (rabs_nonneg q)
    have h5 : rabs q * pw (-53) = rabs q * pw (-54) + rabs q * pw (-54) := by rw [← h2]; grind
    grind
  have k1 := le_rabs ((d : Rat) * pw c - rabs q)
  have k2 := le_rabs (-((d : Rat) * pw c - rabs q))
  rw [rabs_neg] at k2
  refine write_dbl _ _ _ ?_ ?_
  · grind
  · grind
theorem fabs_form {x : Nat} (h : fin x) (hb : rabs (val x) ≤ big) : ∃ s r, r < 9214364837600034816 ∧ fabs x = Ieee.double.word s r := by
  obtain ⟨hr, s, hv⟩ := fin_bits h
  have e : bits0 x = Ieee.double.word false (bits0 x) := by simp [Ieee.Format.word]
  refine ⟨false, bits0 x, ?_, ?_⟩
  · by_cases h1 : bits0 x < 9214364837600034816
    · exact h1
    · exfalso
      have h2 := rv_mono (show 9214364837600034816 ≤ bits0 x from by omega)
      have h3 := rv_norm 2045 4503599627370496 (by decide) (.inr (by decide))
      rw [show 2045 * 4503599627370496 + 4503599627370496 = 9214364837600034816 from rfl] at h3
      have h4 := pw52 971
      have h5 : (-1074 : Int) + ((2045 : Nat) : Int) = 971 := by decide
      have h6 : (971 : Int) + 52 = 1023 := by decide
      have h7 : pw 1000 < pw 1023 := pw_lt (by decide)
      have h8 : ((4503599627370496 : Nat) : Rat) = 4503599627370496 := rfl
      have h9 : big = pw 1000 := rfl
      rw [h5, h8] at h3
      rw [h6] at h4
      have hn := rv_nonneg (bits0 x)
      have ha : rabs (val x) = rv (bits0 x) := by
        rw [hv]; cases s
        · simp only [Bool.false_eq_true, if_false]; exact rabs_of_nonneg hn
        · simp only [if_true]; rw [rabs_neg]; exact rabs_of_nonneg hn
      rw [ha] at hb
      grind
  · unfold fabs
    rw [cf_not (by rw [e]; exact isNan_word false _ hr)]
    exact e
theorem fin_ix {x : Nat} (h : fin x) : ∃ (k e : Int), k.natAbs < 9007199254740992 ∧ -1074 ≤ e ∧ val x = (k : Rat) * pw e := by
  obtain ⟨hr, s, hv⟩ := fin_bits h
  obtain ⟨E, kept, e1, hk, h2⟩ := rung_form (bits0 x)
  have h3 := rv_norm E kept (by omega) h2
  rw [← e1] at h3
  refine ⟨if s then -(kept : Int) else kept, -1074 + E, by split <;> omega, by omega, ?_⟩
  rw [hv, h3]
  cases s
  · simp only [Bool.false_eq_true, if_false, Rat.intCast_natCast]
  · simp only [if_true, Rat.intCast_neg, Rat.intCast_natCast]; grind
theorem val_two : fin 4611686018427387904 ∧ val 4611686018427387904 = 2 := by
  have h := Ix.ofInt 2 (by decide)
  have e : FloatKind.nearest .f64 2 = 4611686018427387904 := by decide +kernel
  rw [e] at h
  refine ⟨h.fin, ?_⟩
  rw [h.val, pw_zero, Rat.mul_one]; rfl
/-- Twice a number, exactly. -/
theorem mul_two {x : Nat} (h : fin x) (hb : rabs (2 * val x) ≤ big) : Rnd (fop .mul 4611686018427387904 x) (2 * val x) ∧ val (fop .mul 4611686018427387904 x) = 2 * val x := by
  obtain ⟨h2, v2⟩ := val_two
  have r := fop_mul h2 h (by rw [v2]; exact hb)
  rw [v2] at r
  refine ⟨r, ?_⟩
  obtain ⟨k, e, hk, he, hv⟩ := fin_ix h
  refine r.exact k (e + 1) hk (by omega) ?_
  rw [hv, pw_succ]; grind
end Go.Ab
