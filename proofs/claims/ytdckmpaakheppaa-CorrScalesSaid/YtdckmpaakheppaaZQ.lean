/- Quotients; words of whole numbers; words without sign; exact work. -/
import Derived.Test.YtdckmpaakheppaaZP
namespace Go.Ab
set_option linter.unusedSimpArgs false
set_option linter.unusedVariables false
open Go

/-- A quotient, cut: what comes of m * 2 ^ i by n * 2 ^ j. -/
theorem quot_spec (m n : Nat) (i j : Int) (hn : n ≠ 0) (q : Rat) (hq : q * ((n : Rat) * pw j) = (m : Rat) * pw i) (more : Nat) (hmore : more = 54 + n.log2 - m.log2) :
    0 ≤ q ∧ rabs (((2 * ((m <<< more) / n) + ((m <<< more) % n != 0).toNat : Nat) : Rat) * pw (i - j - more - 1) - q) ≤ q * pw (-54) ∧
    (∀ (k : Nat) (e : Int), k < 9007199254740992 → q = (k : Rat) * pw e → ((2 * ((m <<< more) / n) + ((m <<< more) % n != 0).toNat : Nat) : Rat) * pw (i - j - more - 1) = q) ∧
    (q ≤ 1 → ((2 * ((m <<< more) / n) + ((m <<< more) % n != 0).toNat : Nat) : Rat) * pw (i - j - more - 1) ≤ 1) := by
  have hn0 : (0 : Rat) < (n : Rat) := by exact_mod_cast Rat.natCast_pos.2 (by omega)
  have hpj := pw_pos j
  have hnj : 0 < (n : Rat) * pw j := Rat.mul_pos hn0 hpj
  by_cases h0 : m = 0
  · subst h0
    have hq0 : q = 0 := by
      have : q * ((n : Rat) * pw j) = 0 := by rw [hq]; simp
      rcases Rat.mul_eq_zero.1 this with h | h
      · exact h
      · grind
    subst hq0
    refine ⟨Rat.le_refl, ?_, fun _ _ _ _ => by simp, fun _ => by simp; decide⟩
    simp
    unfold rabs
    grind
  have hD : m <<< more = m * 2 ^ more := Nat.shiftLeft_eq _ _
  have hU : pw i = ((2 ^ more : Nat) : Rat) * pw (i - more) := by
    have h7 : i = (i - more) + (more : Nat) := by omega
    exact (congrArg pw h7).trans (pw_up _ _)
  have hUj : pw (i - more) = pw (i - j - more) * pw j := by rw [← pw_add]; exact congrArg pw (by omega)
  have hUp := pw_pos (i - j - more)
  have hhalf := pw_pred (i - j - more)
  -- q by units
  have hqD : q * n = ((m <<< more : Nat) : Rat) * pw (i - j - more) := by
    have h1 : q * n * pw j = ((m <<< more : Nat) : Rat) * pw (i - j - more) * pw j := by
      rw [hD, Rat.natCast_mul]
      have : q * n * pw j = q * (n * pw j) := by grind
      rw [this, hq, hU, hUj]; grind
    have h2 := Rat.mul_eq_zero.1 (show (q * n - ((m <<< more : Nat) : Rat) * pw (i - j - more)) * pw j = 0 by grind)
    rcases h2 with h | h
    · grind
    · grind
  have hbig : 9007199254740992 * n < m <<< more := by
    rw [hD]
    have hl1 : 2 ^ m.log2 ≤ m := Nat.log2_self_le h0
    have hl2 : n < 2 ^ (n.log2 + 1) := Nat.lt_log2_self
    have h1 : 2 ^ (m.log2 + more) ≤ m * 2 ^ more := by rw [Nat.pow_add]; exact Nat.mul_le_mul_right _ hl1
    have h2 : 2 ^ (53 + (n.log2 + 1)) ≤ 2 ^ (m.log2 + more) := Nat.pow_le_pow_right (by decide) (by omega)
    have h3 : 2 ^ (53 + (n.log2 + 1)) = 9007199254740992 * 2 ^ (n.log2 + 1) := by rw [Nat.pow_add]
    omega
  generalize hDD : m <<< more = D at hqD hbig ⊢
  have hdm := Nat.div_add_mod D n
  have hml := Nat.mod_lt D (show 0 < n by omega)
  generalize hQ : D / n = Q at hdm ⊢
  generalize hR : D % n = R at hdm hml ⊢
  generalize hUe : pw (i - j - more) = U at hqD hUp hhalf
  have hQb : 9007199254740992 ≤ Q := by
    rw [← hQ, Nat.le_div_iff_mul_le (by omega)]; omega
  have hDr : (D : Rat) = (n : Rat) * Q + R := by rw [← hdm, Rat.natCast_add, Rat.natCast_mul]
  have hQr : (9007199254740992 : Rat) ≤ (Q : Rat) := by exact_mod_cast Rat.natCast_le_natCast.2 hQb
  have hR0 : (0 : Rat) ≤ (R : Rat) := Rat.natCast_nonneg
  have hRn : (R : Rat) < (n : Rat) := by exact_mod_cast Rat.natCast_lt_natCast.2 hml
  -- Q units are no more than q, Q + 1 units more
  have hlo : (Q : Rat) * U ≤ q := by
    refine Rat.le_of_mul_le_mul_right ?_ hn0
    rw [hqD, hDr]
    have := Rat.mul_nonneg hR0 (Rat.le_of_lt hUp)
    grind
  have hhi : q < ((Q : Rat) + 1) * U := by
    refine Rat.lt_of_mul_lt_mul_right ?_ (Rat.le_of_lt hn0)
    rw [hqD, hDr]
    have := Rat.mul_lt_mul_of_pos_right hRn hUp
    grind
  have hq0 : 0 ≤ q := by
    have := Rat.mul_nonneg (show 0 ≤ (Q : Rat) from Rat.natCast_nonneg) (Rat.le_of_lt hUp)
    grind
  have hUq : U ≤ 2 * (q * pw (-54)) := by
    have h1 := Rat.mul_le_mul_of_nonneg_right hQr (Rat.le_of_lt hUp)
    have h2 : (9007199254740992 : Rat) * U ≤ q := by grind
    have h3 := Rat.mul_le_mul_of_nonneg_right h2 (Rat.le_of_lt (pw_pos (-54)))
    have h4 := pw53 (-54)
    rw [show (-54 : Int) + 53 = -1 from rfl] at h4
    have h5 := pw_pred 0
    rw [pw_zero, show (0 : Int) - 1 = -1 from rfl] at h5
    have h6 : (9007199254740992 : Rat) * pw (-54) * U = 1 / 2 * U := by rw [← h4]; grind
    grind
  by_cases hr : R = 0
  · subst hr
    have e : ((0 : Nat) != 0).toNat = 0 := rfl
    rw [e, Nat.add_zero]
    have hqe : q = (Q : Rat) * U := by
      have h1 : (q - Q * U) * n = 0 := by
        have : q * n = ((n : Rat) * Q + (0 : Nat)) * U := by rw [hqD, hDr]
        have z : ((0 : Nat) : Rat) = 0 := rfl
        rw [z] at this
        grind
      rcases Rat.mul_eq_zero.1 h1 with h | h <;> grind
    have he : ((2 * Q : Nat) : Rat) * pw (i - j - more - 1) = q := by
      rw [Rat.natCast_mul, hqe]
      have : ((2 : Nat) : Rat) = 2 := rfl
      rw [this]; grind
    rw [he]
    refine ⟨hq0, ?_, fun _ _ _ _ => rfl, fun h => h⟩
    have h0 : q - q = 0 := by grind
    rw [h0]
    have := Rat.mul_nonneg hq0 (Rat.le_of_lt (pw_pos (-54)))
    unfold rabs; simpa using this
  · have e : (R != 0).toNat = 1 := by simp [hr]
    rw [e]
    have he : ((2 * Q + 1 : Nat) : Rat) * pw (i - j - more - 1) = ((Q : Rat) + 1 / 2) * U := by
      rw [Rat.natCast_add, Rat.natCast_mul]
      have h2 : ((2 : Nat) : Rat) = 2 := rfl
      have h1 : ((1 : Nat) : Rat) = 1 := rfl
      rw [h1, h2]; grind
    rw [he]
    have hRpos : (0 : Rat) < (R : Rat) := by exact_mod_cast Rat.natCast_pos.2 (by omega)
    have hlo2 : (Q : Rat) * U < q := by
      refine Rat.lt_of_mul_lt_mul_right ?_ (Rat.le_of_lt hn0)
      rw [hqD, hDr]
      have := Rat.mul_pos hRpos hUp
      grind
    refine ⟨hq0, rabs_le (by grind) (by grind), fun k e' hk hke => ?_, fun h1 => ?_⟩
    rotate_left
    · have hle : i - j - more ≤ 0 := by
        refine pw_le_iff ?_
        rw [hUe, pw_zero]
        have h2 := Rat.mul_le_mul_of_nonneg_right hQr (Rat.le_of_lt hUp)
        grind
      have h7 : (0 : Int) = (i - j - more) + ((-(i - j - more)).toNat : Nat) := by omega
      have h8 := (congrArg pw h7).trans (pw_up _ _)
      rw [pw_zero, hUe] at h8
      generalize 2 ^ (-(i - j - (more : Int))).toNat = g at h8
      have h9 : (Q : Rat) * U < (g : Rat) * U := by grind
      have h10 := Rat.natCast_lt_natCast.1 (Rat.lt_of_mul_lt_mul_right h9 (Rat.le_of_lt hUp))
      have h11 : ((Q + 1 : Nat) : Rat) ≤ (g : Rat) := Rat.natCast_le_natCast.2 h10
      rw [Rat.natCast_add] at h11
      have h12 : ((1 : Nat) : Rat) = 1 := rfl
      have h13 := Rat.mul_le_mul_of_nonneg_right h11 (Rat.le_of_lt hUp)
      grind
    -- q cannot be so short a number
    exfalso
    have hkr : (k : Rat) < 9007199254740992 := by exact_mod_cast Rat.natCast_lt_natCast.2 hk
    have hlt : i - j - more < e' := by
      refine pw_lt_iff ?_
      rw [hUe]
      have h1 : (9007199254740992 : Rat) * U < 9007199254740992 * pw e' := by
        have h2 := Rat.mul_le_mul_of_nonneg_right hQr (Rat.le_of_lt hUp)
        have h3 := Rat.mul_lt_mul_of_pos_right hkr (pw_pos e')
        grind
      grind
    obtain ⟨d, rfl⟩ : ∃ d : Nat, e' = (i - j - more) + d := ⟨(e' - (i - j - more)).toNat, by omega⟩
    rw [pw_up, hUe] at hke
    have hke2 : q = ((k * 2 ^ d : Nat) : Rat) * U := by rw [Rat.natCast_mul, hke]; grind
    rw [hke2] at hlo2 hhi
    have h3 := Rat.lt_of_mul_lt_mul_right hlo2 (Rat.le_of_lt hUp)
    have h4 := Rat.lt_of_mul_lt_mul_right hhi (Rat.le_of_lt hUp)
    have h5 := Rat.natCast_lt_natCast.1 h3
    have h6 : ((k * 2 ^ d : Nat) : Rat) < ((Q + 1 : Nat) : Rat) := by rw [Rat.natCast_add]; exact h4
    have h7 := Rat.natCast_lt_natCast.1 h6
    omega

/-- A quotient of words. -/
structure Quo (w : Nat) (q : Rat) : Prop where
  fin : Go.Ab.fin w
  err : rabs (val w - q) ≤ rabs q * pw (-52) + pw (-1075)
  exact : ∀ (k : Int) (e : Int), k.natAbs < 9007199254740992 → -1074 ≤ e → q = (k : Rat) * pw e → val w = q
  one : rabs q ≤ 1 → rabs (val w) ≤ 1
theorem half_big {q : Rat} (h : rabs q ≤ big) : rabs q * pw (-54) ≤ rabs q := by
  have h1 := pw_mono (show (-54 : Int) ≤ 0 by decide)
  rw [pw_zero] at h1
  have := Rat.mul_le_mul_of_nonneg_left h1 (rabs_nonneg q)
  grind
theorem fop_div {x y : Nat} (hx : fin x) (hy : fin y) (h0 : val y ≠ 0) {q : Rat} (hq : q * val y = val x) (h : rabs q + rabs q ≤ big) : Quo (fop .div x y) q := by
  obtain ⟨s, m, i, hx⟩ := hx
  obtain ⟨t, n, j, hy⟩ := hy
  have vx := val_eq hx
  have vy := val_eq hy
  have ax : rabs (val x) = (m : Rat) * pw i := by rw [vx]; exact rabs_dval s m i
  have ay : rabs (val y) = (n : Rat) * pw j := by rw [vy]; exact rabs_dval t n j
  have hn : n ≠ 0 := by
    rintro rfl
    have : ((0 : Nat) : Rat) = 0 := rfl
    rw [this] at vy
    apply h0; rw [vy]; split <;> grind
  have haq : rabs q * ((n : Rat) * pw j) = (m : Rat) * pw i := by rw [← ay, ← ax, ← rabs_mul, hq]
  obtain ⟨p1, p2, p3, p4⟩ := quot_spec m n i j hn (rabs q) haq (54 + n.log2 - m.log2) rfl
  have e : fop .div x y = cf (Ieee.double.write (.number (s ^^ t) (2 * ((m <<< (54 + n.log2 - m.log2)) / n) + ((m <<< (54 + n.log2 - m.log2)) % n != 0).toNat) (i - j - (54 + n.log2 - m.log2 : Nat) - 1))) := by
    have q1 : Ieee.double.fractionBits = 52 := rfl
    simp [fop, Ieee.Format.div, hx, hy, Ieee.Datum.quotient, hn, q1]
  generalize 54 + n.log2 - m.log2 = more at p2 p3 p4 e
  generalize 2 * ((m <<< more) / n) + ((m <<< more) % n != 0).toNat = d at p2 p3 p4 e
  generalize i - j - (more : Int) - 1 = c at p2 p3 p4 e
  -- the sign
  have hsg : q = if (s ^^ t) = true then -rabs q else rabs q := by
    have hm0 : 0 ≤ (m : Rat) * pw i := by rw [← ax]; exact rabs_nonneg _
    have hn0 : 0 < (n : Rat) * pw j := Rat.mul_pos (by exact_mod_cast Rat.natCast_pos.2 (by omega)) (pw_pos j)
    have vx' : val x = if s then -((m : Rat) * pw i) else (m : Rat) * pw i := by rw [vx]; split <;> grind
    have vy' : val y = if t then -((n : Rat) * pw j) else (n : Rat) * pw j := by rw [vy]; split <;> grind
    rw [vx', vy'] at hq
    generalize (m : Rat) * pw i = M at hq hm0
    generalize (n : Rat) * pw j = Nn at hq hn0
    have pos : ∀ z : Rat, 0 ≤ z * Nn → 0 ≤ z := fun z hz => by
      by_cases h : 0 ≤ z
      · exact h
      · have := Rat.mul_pos (show 0 < -z by grind) hn0; grind
    cases s <;> cases t <;> simp at hq ⊢
    · exact (rabs_of_nonneg (pos q (by rw [hq]; exact hm0))).symm
    · have := rabs_of_nonneg (pos (-q) (by grind)); rw [rabs_neg] at this; grind
    · have := rabs_of_nonneg (pos (-q) (by grind)); rw [rabs_neg] at this; grind
    · exact (rabs_of_nonneg (pos q (by grind))).symm
  have hdb : (d : Rat) * pw c ≤ 2 * rabs q := by
    have := le_rabs ((d : Rat) * pw c - rabs q)
    have := half_big (q := q) (by have := rabs_nonneg q; grind)
    grind
  have hw := write_rnd (s ^^ t) d c (by grind)
  rw [← e] at hw
  have hd0 : 0 ≤ (d : Rat) * pw c := Rat.mul_nonneg Rat.natCast_nonneg (Rat.le_of_lt (pw_pos c))
  have hvd : (if (s ^^ t) = true then -(d : Rat) else d) * pw c = if (s ^^ t) = true then -((d : Rat) * pw c) else (d : Rat) * pw c := by split <;> grind
  rw [hvd] at hw
  have har : rabs (if (s ^^ t) = true then -((d : Rat) * pw c) else (d : Rat) * pw c) = (d : Rat) * pw c := by
    split
    · rw [rabs_neg]; exact rabs_of_nonneg hd0
    · exact rabs_of_nonneg hd0
  generalize (d : Rat) * pw c = z at hw hd0 har p2 p3 p4 hdb
  refine ⟨hw.fin, ?_, fun k e' hk he hke => ?_, fun h1 => ?_⟩
  rotate_left 2
  · have e1 : rv 4607182418800017408 = 1 := by
      have := rv_norm 1022 4503599627370496 (by decide) (by decide)
      rw [show 1022 * 4503599627370496 + 4503599627370496 = 4607182418800017408 from rfl] at this
      rw [this]
      have h3 := pw_up (-1074 + (1022 : Nat)) 52
      have h4 : (-1074 : Int) + ((1022 : Nat) : Int) + ((52 : Nat) : Int) = 0 := by decide
      rw [h4, pw_zero] at h3
      exact h3.symm
    have := hw.le 4607182418800017408 (by rw [har, e1]; exact p4 h1)
    rwa [e1] at this
  · have herr := hw.err
    rw [har] at herr
    have h1 : rabs ((if (s ^^ t) = true then -z else z) - q) ≤ rabs q * pw (-54) := by
      cases hst : (s ^^ t)
      · rw [hst] at hsg; simp at hsg ⊢; rw [hsg, rabs_of_nonneg (rabs_nonneg q)]; exact p2
      · rw [hst] at hsg; simp at hsg ⊢
        have e1 : -z - q = -(z - rabs q) := by grind
        rw [e1, rabs_neg]; exact p2
    have h2 := rabs_add (val (fop .div x y) - (if (s ^^ t) = true then -z else z)) ((if (s ^^ t) = true then -z else z) - q)
    have e2 : val (fop .div x y) - (if (s ^^ t) = true then -z else z) + ((if (s ^^ t) = true then -z else z) - q) = val (fop .div x y) - q := by grind
    rw [e2] at h2
    have h3 : z * pw (-53) ≤ rabs q * pw (-53) + rabs q * pw (-54) := by
      have h4 : z ≤ rabs q + rabs q * pw (-54) := by have := le_rabs (z - rabs q); grind
      have h5 := Rat.mul_le_mul_of_nonneg_right h4 (Rat.le_of_lt (pw_pos (-53)))
      have h6 := half_big (q := q) (by have := rabs_nonneg q; grind)
      have h7 : pw (-53) ≤ 1 := by rw [← pw_zero]; exact pw_mono (by decide)
      have h8 : 0 ≤ rabs q * pw (-54) := Rat.mul_nonneg (rabs_nonneg q) (Rat.le_of_lt (pw_pos _))
      have h9 := Rat.mul_le_mul_of_nonneg_left h7 h8
      grind
    have h10 := pw_pred (-52)
    have h11 := pw_pred (-53)
    rw [show (-52 : Int) - 1 = -53 from rfl] at h10
    rw [show (-53 : Int) - 1 = -54 from rfl] at h11
    have h12 : rabs q * pw (-52) = 2 * (rabs q * pw (-53)) := by rw [← h10]; grind
    have h13 : rabs q * pw (-53) = 2 * (rabs q * pw (-54)) := by rw [← h11]; grind
    grind
  · have hk2 : rabs q = ((k.natAbs : Nat) : Rat) * pw e' := by
      rw [hke, rabs_mul, rabs_of_nonneg (Rat.le_of_lt (pw_pos e'))]
      refine congrArg (fun z : Rat => z * pw e') ?_
      by_cases hk0 : k < 0
      · have h1 : (k : Rat) < 0 := by exact_mod_cast Rat.intCast_lt_intCast.2 hk0
        unfold rabs
        rw [if_pos h1, ← Rat.intCast_natCast, ← Rat.intCast_neg]; exact congrArg (fun z : Int => (z : Rat)) (by omega)
      · have h1 : ¬ (k : Rat) < 0 := by
          have : 0 ≤ (k : Rat) := by exact_mod_cast Rat.intCast_le_intCast.2 (show 0 ≤ k by omega)
          grind
        unfold rabs
        rw [if_neg h1, ← Rat.intCast_natCast]; exact congrArg (fun z : Int => (z : Rat)) (by omega)
    have hz := p3 k.natAbs e' hk hk2
    rw [hz, ← hsg] at hw
    exact hw.exact k e' hk he hke

/-- A word that is k times 2 ^ e. -/
structure Ix (e : Int) (x : Nat) (k : Int) : Prop where
  fin : Go.Ab.fin x
  val : Go.Ab.val x = (k : Rat) * pw e
theorem rabs_int (k : Int) : rabs (k : Rat) = ((k.natAbs : Nat) : Rat) := by
  by_cases hk0 : k < 0
  · have h1 : (k : Rat) < 0 := by exact_mod_cast Rat.intCast_lt_intCast.2 hk0
    unfold rabs
    rw [if_pos h1, ← Rat.intCast_natCast, ← Rat.intCast_neg]; exact congrArg (fun z : Int => (z : Rat)) (by omega)
  · have h1 : ¬ (k : Rat) < 0 := by
      have : 0 ≤ (k : Rat) := by exact_mod_cast Rat.intCast_le_intCast.2 (show 0 ≤ k by omega)
      grind
    unfold rabs
    rw [if_neg h1, ← Rat.intCast_natCast]; exact congrArg (fun z : Int => (z : Rat)) (by omega)
theorem ix_big {k e : Int} (hk : k.natAbs < 9007199254740992) (he : e ≤ 900) : rabs ((k : Rat) * pw e) + rabs ((k : Rat) * pw e) ≤ big := by
  rw [rabs_mul, rabs_of_nonneg (Rat.le_of_lt (pw_pos e)), rabs_int]
  have h1 : ((k.natAbs : Nat) : Rat) ≤ 9007199254740992 := by exact_mod_cast Rat.natCast_le_natCast.2 (Nat.le_of_lt hk)
  have h2 := Rat.mul_le_mul_of_nonneg_right h1 (Rat.le_of_lt (pw_pos e))
  rw [← pw53] at h2
  have h3 := pw_mono (show e + 53 + 1 ≤ bigE by rw [bigE_eq]; omega)
  rw [pw_succ] at h3
  unfold big
  grind
theorem Ix.add {e : Int} {x y : Nat} {a b : Int} (hx : Ix e x a) (hy : Ix e y b) (h : (a + b).natAbs < 9007199254740992) (h1 : -1074 ≤ e) (h2 : e ≤ 900) : Ix e (fop .add x y) (a + b) := by
  have ev : Go.Ab.val x + Go.Ab.val y = ((a + b : Int) : Rat) * pw e := by rw [hx.val, hy.val, Rat.intCast_add]; grind
  have hb := ix_big (e := e) h h2
  have := rabs_nonneg (((a + b : Int) : Rat) * pw e)
  have r := fop_add hx.fin hy.fin (by rw [ev]; grind)
  exact ⟨r.fin, (r.exact _ e h h1 ev).trans ev⟩
theorem Ix.sub {e : Int} {x y : Nat} {a b : Int} (hx : Ix e x a) (hy : Ix e y b) (h : (a - b).natAbs < 9007199254740992) (h1 : -1074 ≤ e) (h2 : e ≤ 900) : Ix e (fop .sub x y) (a - b) := by
  have ev : Go.Ab.val x - Go.Ab.val y = ((a - b : Int) : Rat) * pw e := by rw [hx.val, hy.val, Rat.intCast_sub]; grind
  have hb := ix_big (e := e) h h2
  have := rabs_nonneg (((a - b : Int) : Rat) * pw e)
  have r := fop_sub hx.fin hy.fin (by rw [ev]; grind)
  exact ⟨r.fin, (r.exact _ e h h1 ev).trans ev⟩
theorem Ix.mul {e f : Int} {x y : Nat} {a b : Int} (hx : Ix e x a) (hy : Ix f y b) (h : (a * b).natAbs < 9007199254740992) (h1 : -1074 ≤ e + f) (h2 : e + f ≤ 900) : Ix (e + f) (fop .mul x y) (a * b) := by
  have ev : Go.Ab.val x * Go.Ab.val y = ((a * b : Int) : Rat) * pw (e + f) := by rw [hx.val, hy.val, Rat.intCast_mul, pw_add]; grind
  have hb := ix_big (e := e + f) h h2
  have := rabs_nonneg (((a * b : Int) : Rat) * pw (e + f))
  have r := fop_mul hx.fin hy.fin (by rw [ev]; grind)
  exact ⟨r.fin, (r.exact _ _ h h1 ev).trans ev⟩
theorem Ix.div {e f g : Int} {x y : Nat} {a b c : Int} (hx : Ix e x a) (hy : Ix f y b) (hb0 : b ≠ 0) (he : e = g + f) (hc : a = c * b) (h : c.natAbs < 9007199254740992) (h1 : -1074 ≤ g) (h2 : g ≤ 900) : Ix g (fop .div x y) c := by
  have hp := pw_pos f
  have hy0 : Go.Ab.val y ≠ 0 := by
    rw [hy.val]
    intro h0
    rcases Rat.mul_eq_zero.1 h0 with h0 | h0
    · exact hb0 (Rat.intCast_eq_zero_iff.1 h0)
    · grind
  have ev : ((c : Rat) * pw g) * Go.Ab.val y = Go.Ab.val x := by rw [hx.val, hy.val, hc, he, pw_add, Rat.intCast_mul]; grind
  have r := fop_div hx.fin hy.fin hy0 ev (ix_big h h2)
  exact ⟨r.fin, r.exact _ g h h1 rfl⟩
theorem Ix.cast {e : Int} {x : Nat} {a b : Int} (h : Ix e x a) (hab : a = b) : Ix e x b := hab ▸ h
/-- At a finer place. -/
theorem Ix.fine {e : Int} {x : Nat} {a : Int} (h : Ix e x a) (d : Nat) : Ix (e - d) x (a * 2 ^ d) := by
  refine ⟨h.fin, ?_⟩
  have h7 : e = (e - d) + d := by omega
  have := (congrArg pw h7).trans (pw_up _ _)
  rw [h.val, this, Rat.intCast_mul, Rat.intCast_pow]
  rw [Rat.natCast_pow]
  have : ((2 : Int) : Rat) = ((2 : Nat) : Rat) := rfl
  rw [this]; grind
theorem Ix.ofInt (n : Int) (h : n.natAbs < 9007199254740992) : Ix 0 (FloatKind.nearest .f64 n) n := by
  have e : (if decide (n < 0) = true then -((n.natAbs : Nat) : Rat) else ((n.natAbs : Nat) : Rat)) = (n : Rat) := by
    by_cases h0 : n < 0
    · rw [if_pos (by simpa using h0), ← Rat.intCast_natCast, ← Rat.intCast_neg]; exact congrArg (fun z : Int => (z : Rat)) (by omega)
    · rw [if_neg (by simpa using h0), ← Rat.intCast_natCast]; exact congrArg (fun z : Int => (z : Rat)) (by omega)
  have r := write_rnd' (s := decide (n < 0)) (m := n.natAbs) (i := 0) (v := (n : Rat) * pw 0) (by rw [e]) (by
    have := ix_big (e := 0) h (by decide)
    have := rabs_nonneg ((n : Rat) * pw 0)
    grind)
  have hnn : isNan (FloatKind.nearest .f64 n) = false := by
    obtain ⟨r, e, hn⟩ := near_spec (decide (n < 0)) n.natAbs 0 (by
      have h1 := ix_big (e := 0) h (by decide)
      have h2 := rabs_nonneg ((n : Rat) * pw 0)
      rw [rabs_mul, rabs_of_nonneg (Rat.le_of_lt (pw_pos 0)), rabs_int] at h1 h2
      grind)
    show isNan (Ieee.double.nearest (decide (n < 0)) n.natAbs 0) = false
    rw [e]; exact isNan_word _ _ (by have := hn.lt; omega)
  have e2 : cf (Ieee.double.write (.number (decide (n < 0)) n.natAbs 0)) = FloatKind.nearest .f64 n := cf_not hnn
  rw [e2] at r
  exact ⟨r.fin, r.exact n 0 h (by decide) rfl⟩
theorem Ix.eq {e : Int} {x y : Nat} {a : Int} (hx : Ix e x a) (hy : Ix e y a) : fcmp .eq x y = true := by
  rw [fcmp_eq hx.fin hy.fin, hx.val, hy.val]
theorem Ix.zero (e : Int) : Ix e 0 0 := ⟨fin_zero, by rw [val_zero]; simp⟩
/-- Without its sign. -/
theorem fin_bits {x : Nat} (h : fin x) : bits0 x < 9218868437227405312 ∧ ∃ s : Bool, val x = if s then -rv (bits0 x) else rv (bits0 x) := by
  have h1 : Ieee.double.signWeight = 9223372036854775808 := rfl
  have h2 : Ieee.double.binade = 4503599627370496 := rfl
  have h3 : Ieee.double.infRung = 9218868437227405312 := rfl
  have h4 : Ieee.double.leastPlace = -1074 := rfl
  obtain ⟨s, m, i, h⟩ := h
  have hv := val_eq h
  unfold bits0
  unfold Ieee.Format.read at h
  simp only [h1, h2, h3, h4] at h
  have hr : x % 9223372036854775808 < 9218868437227405312 := by
    split at h
    · omega
    · split at h
      · assumption
      · split at h <;> cases h
  refine ⟨hr, s, ?_⟩
  rw [hv]
  unfold rv
  split at h
  · rename_i e
    rw [if_pos e]
    cases h
    split <;> grind
  · rename_i e
    rw [if_neg e]
    cases h
    split <;> grind
theorem val_fabs {x : Nat} (h : fin x) : fin (fabs x) ∧ val (fabs x) = rabs (val x) := by
  obtain ⟨hr, s, hv⟩ := fin_bits h
  have e : bits0 x = Ieee.double.word false (bits0 x) := by simp [Ieee.Format.word]
  unfold fabs
  rw [e, cf_not (isNan_word false _ hr)]
  refine ⟨fin_word false _ hr, ?_⟩
  rw [val_word false _ hr, hv]
  have := rv_nonneg (bits0 x)
  cases s
  · simp; exact (rabs_of_nonneg this).symm
  · simp; rw [rabs_neg]; exact (rabs_of_nonneg this).symm
end Go.Ab
