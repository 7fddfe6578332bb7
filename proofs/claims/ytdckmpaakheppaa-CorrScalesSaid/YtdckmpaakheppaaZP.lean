/- Comparisons, sums, differences, products of words that stand for numbers. -/
import Derived.Test.YtdckmpaakheppaaZO
namespace Go.Ab
set_option linter.unusedSimpArgs false
set_option linter.unusedVariables false
open Go

theorem signed_val (s : Bool) (m : Nat) (i base : Int) (h : base ≤ i) : ((Ieee.signed s m (i - base).toNat : Int) : Rat) * pw base = (if s then -(m : Rat) else m) * pw i := by
  have e : pw i = ((2 ^ (i - base).toNat : Nat) : Rat) * pw base := by
    have h7 : i = base + ((i - base).toNat : Nat) := by omega
    exact (congrArg pw h7).trans (pw_up _ _)
  rw [e]
  unfold Ieee.signed
  rw [Nat.shiftLeft_eq]
  generalize 2 ^ (i - base).toNat = g
  have e2 : (((m * g : Nat) : Int) : Rat) = (m : Rat) * g := by rw [Rat.intCast_natCast, Rat.natCast_mul]
  cases s
  · simp only [Bool.false_eq_true, if_false, e2]; grind
  · simp only [if_true, Rat.intCast_neg, e2]; grind
theorem val_eq {x : Nat} {s : Bool} {m : Nat} {i : Int} (h : Ieee.double.read x = .number s m i) : val x = (if s then -(m : Rat) else m) * pw i := by unfold val; rw [h]; rfl

/-- How two words stand to each other. -/
theorem order_fin {x y : Nat} (hx : fin x) (hy : fin y) : (val x < val y ∧ Ieee.double.order x y = some .lt) ∨ (val x = val y ∧ Ieee.double.order x y = some .eq) ∨ (val y < val x ∧ Ieee.double.order x y = some .gt) := by
  obtain ⟨s, m, i, hx⟩ := hx
  obtain ⟨t, n, j, hy⟩ := hy
  have hb := pw_pos (min i j)
  rw [val_eq hx, val_eq hy, ← signed_val s m i (min i j) (by omega), ← signed_val t n j (min i j) (by omega)]
  unfold Ieee.Format.order
  rw [hx, hy]
  simp only [Ieee.Datum.order]
  generalize Ieee.signed s m (i - min i j).toNat = a
  generalize Ieee.signed t n (j - min i j).toNat = b
  generalize pw (min i j) = p at hb
  rcases Int.lt_trichotomy a b with h | h | h
  · exact .inl ⟨Rat.mul_lt_mul_of_pos_right (Rat.intCast_lt_intCast.2 h) hb, by rw [Int.compare_eq_lt.2 h]⟩
  · subst h; exact .inr (.inl ⟨rfl, by rw [Int.compare_eq_eq.2 rfl]⟩)
  · exact .inr (.inr ⟨Rat.mul_lt_mul_of_pos_right (Rat.intCast_lt_intCast.2 h) hb, by rw [Int.compare_eq_gt.2 h]⟩)
theorem fcmp_lt {x y : Nat} (hx : fin x) (hy : fin y) : fcmp .lt x y = true ↔ val x < val y := by
  rcases order_fin hx hy with ⟨h, e⟩ | ⟨h, e⟩ | ⟨h, e⟩ <;> simp only [fcmp, e] <;> simp <;> grind
theorem fcmp_gt {x y : Nat} (hx : fin x) (hy : fin y) : fcmp .gt x y = true ↔ val y < val x := by
  rcases order_fin hx hy with ⟨h, e⟩ | ⟨h, e⟩ | ⟨h, e⟩ <;> simp only [fcmp, e] <;> simp <;> grind
theorem fcmp_le {x y : Nat} (hx : fin x) (hy : fin y) : fcmp .le x y = true ↔ val x ≤ val y := by
  rcases order_fin hx hy with ⟨h, e⟩ | ⟨h, e⟩ | ⟨h, e⟩ <;> simp only [fcmp, e] <;> simp <;> grind
theorem fcmp_ge {x y : Nat} (hx : fin x) (hy : fin y) : fcmp .ge x y = true ↔ val y ≤ val x := by
  rcases order_fin hx hy with ⟨h, e⟩ | ⟨h, e⟩ | ⟨h, e⟩ <;> simp only [fcmp, e] <;> simp <;> grind
theorem fcmp_eq {x y : Nat} (hx : fin x) (hy : fin y) : fcmp .eq x y = true ↔ val x = val y := by
  rcases order_fin hx hy with ⟨h, e⟩ | ⟨h, e⟩ | ⟨h, e⟩ <;> simp only [fcmp, e] <;> simp <;> grind
theorem fcmp_ne {x y : Nat} (hx : fin x) (hy : fin y) : fcmp .ne x y = true ↔ val x ≠ val y := by
  rcases order_fin hx hy with ⟨h, e⟩ | ⟨h, e⟩ | ⟨h, e⟩ <;> simp only [fcmp, e] <;> simp <;> grind
theorem fin_zero : fin 0 := ⟨false, 0, -1074, by decide⟩
theorem val_zero : val 0 = 0 := by
  have h : Ieee.double.read 0 = .number false 0 (-1074) := by decide
  rw [val_eq h]; simp
theorem fin_not_nan {x : Nat} (h : fin x) : isNan x = false := by
  obtain ⟨s, m, i, h⟩ := h
  rw [← read_nan, h]; rfl
theorem fin_finite {x : Nat} (h : fin x) : finite x = true := by
  obtain ⟨s, m, i, hd⟩ := h
  rw [← finite_sub]
  have e : fop .sub x x = 0 := by
    have ht : Ieee.signed s m 0 + Ieee.signed (!s) m 0 = 0 := by
      cases s <;> simp [Ieee.signed] <;> omega
    have hs : (s && !s) = false := by cases s <;> rfl
    have hw : Ieee.double.write (.number false 0 i) = 0 := by simp [Ieee.Format.write, Ieee.Format.nearest, Ieee.Format.word]
    simp [fop, Ieee.Format.sub, hd, Ieee.Datum.sum, Ieee.Datum.opposite, ht, hs, hw, cf, isNan]
  rw [e]; decide
theorem finite_fin {x : Nat} (h : finite x = true) : fin x := by
  cases hd : Ieee.double.read x with
  | nan s t => have : isNan x = true := by rw [← read_nan, hd]; rfl
               simp [finite, this] at h
  | infinity s =>
    rw [← finite_sub] at h
    have e : fop .sub x x = qnan := by
      have : ¬ s = !s := by cases s <;> simp
      simp [fop, Ieee.Format.sub, hd, Ieee.Datum.sum, Ieee.Datum.opposite, this]
    rw [e] at h; exact absurd h (by decide)
  | number s m i => exact ⟨s, m, i, hd⟩

/-- The next words. -/
theorem down_word (s : Bool) (r : Nat) (h : r < 9214364837600034816) : fin (down (Ieee.double.word s r)) ∧ val (down (Ieee.double.word s r)) = if s then -rv (r + 1) else if r = 0 then -rv 1 else rv (r - 1) := by
  have h1 : Ieee.double.signWeight = 9223372036854775808 := rfl
  have hf := fin_word s r (by omega)
  have hn := fin_not_nan hf
  have hv := val_word s r (by omega)
  have n1 : isNan fninf = false := by decide
  have rd : Ieee.double.read fninf = .infinity true := by decide
  have o1 : fcmp .eq (Ieee.double.word s r) fninf = false := by
    obtain ⟨s', m, i, hd⟩ := hf
    simp [fcmp, Ieee.Format.order, hd, rd, Ieee.Datum.order]
  have o2 : fcmp .gt fninf (Ieee.double.word s r) = false := by
    obtain ⟨s', m, i, hd⟩ := hf
    simp [fcmp, Ieee.Format.order, hd, rd, Ieee.Datum.order]
  unfold down nextF
  rw [hn, n1, o1, o2]
  simp only [Bool.false_eq_true, or_self, if_false]
  by_cases hr : r = 0
  · subst hr
    have z : fcmp .eq (Ieee.double.word s 0) 0 = true := by
      rw [fcmp_eq hf fin_zero, hv, val_zero, rv_zero]; split <;> rfl
    have e : csign 1 fninf = Ieee.double.word true 1 := by decide
    rw [if_pos z, e]
    refine ⟨fin_word true 1 (by decide), ?_⟩
    rw [val_word true 1 (by decide)]
    simp
  · have hp : 0 < rv r := by have := rv_lt (show 0 < r by omega); rwa [rv_zero] at this
    have z : ¬ fcmp .eq (Ieee.double.word s r) 0 = true := by
      rw [fcmp_eq hf fin_zero, hv, val_zero]; split <;> grind
    rw [if_neg z]
    cases s
    · have g : fcmp .gt (Ieee.double.word false r) 0 = true := by
        rw [fcmp_gt hf fin_zero, hv, val_zero]; simpa using hp
      have e : Ieee.double.word false r = r := by simp [Ieee.Format.word]
      rw [g]
      have b1 : (false == true) = false := rfl
      rw [b1, e]
      simp only [Bool.false_eq_true, if_false]
      have w : (IntKind.wrap .u64 ((r : Int) - 1)).toNat = r - 1 := by rw [wrapU (by omega) (by omega)]; omega
      rw [w, if_neg hr]
      have e2 : r - 1 = Ieee.double.word false (r - 1) := by simp [Ieee.Format.word]
      rw [e2, cf_not (isNan_word false _ (by omega))]
      refine ⟨fin_word _ _ (by omega), ?_⟩
      rw [val_word _ _ (by omega)]
      simp [Ieee.Format.word]
    · have g : fcmp .gt (Ieee.double.word true r) 0 = false := by
        have : ¬ fcmp .gt (Ieee.double.word true r) 0 = true := by
          rw [fcmp_gt hf fin_zero, hv, val_zero]; simp only [if_true]; grind
        simpa using this
      have e : Ieee.double.word true r = 9223372036854775808 + r := by simp [Ieee.Format.word, h1]
      rw [g]
      have b1 : (false == false) = true := rfl
      rw [b1, e]
      simp only [if_true]
      have w : (IntKind.wrap .u64 (((9223372036854775808 + r : Nat) : Int) + 1)).toNat = 9223372036854775808 + (r + 1) := by rw [wrapU (by omega) (by omega)]; omega
      rw [w]
      have e2 : 9223372036854775808 + (r + 1) = Ieee.double.word true (r + 1) := by simp [Ieee.Format.word, h1]
      rw [e2, cf_not (isNan_word true _ (by omega))]
      refine ⟨fin_word _ _ (by omega), ?_⟩
      rw [val_word _ _ (by omega)]
      simp
theorem up_word (s : Bool) (r : Nat) (h : r < 9214364837600034816) : fin (up (Ieee.double.word s r)) ∧ val (up (Ieee.double.word s r)) = if s then (if r = 0 then rv 1 else -rv (r - 1)) else rv (r + 1) := by
  have h1 : Ieee.double.signWeight = 9223372036854775808 := rfl
  have hf := fin_word s r (by omega)
  have hn := fin_not_nan hf
  have hv := val_word s r (by omega)
  have n1 : isNan finf = false := by decide
  have rd : Ieee.double.read finf = .infinity false := by decide
  have o1 : fcmp .eq (Ieee.double.word s r) finf = false := by
    obtain ⟨s', m, i, hd⟩ := hf
    simp [fcmp, Ieee.Format.order, hd, rd, Ieee.Datum.order]
  have o2 : fcmp .gt finf (Ieee.double.word s r) = true := by
    obtain ⟨s', m, i, hd⟩ := hf
    simp [fcmp, Ieee.Format.order, hd, rd, Ieee.Datum.order]
  unfold up nextF
  rw [hn, n1, o1, o2]
  simp only [Bool.false_eq_true, or_self, if_false]
  by_cases hr : r = 0
  · subst hr
    have z : fcmp .eq (Ieee.double.word s 0) 0 = true := by
      rw [fcmp_eq hf fin_zero, hv, val_zero, rv_zero]; split <;> rfl
    have e : csign 1 finf = Ieee.double.word false 1 := by decide
    rw [if_pos z, e]
    refine ⟨fin_word false 1 (by decide), ?_⟩
    rw [val_word false 1 (by decide)]
    simp
  · have hp : 0 < rv r := by have := rv_lt (show 0 < r by omega); rwa [rv_zero] at this
    have z : ¬ fcmp .eq (Ieee.double.word s r) 0 = true := by
      rw [fcmp_eq hf fin_zero, hv, val_zero]; split <;> grind
    rw [if_neg z]
    cases s
    · have g : fcmp .gt (Ieee.double.word false r) 0 = true := by
        rw [fcmp_gt hf fin_zero, hv, val_zero]; simpa using hp
      have e : Ieee.double.word false r = r := by simp [Ieee.Format.word]
      rw [g]
      have b1 : (true == true) = true := rfl
      rw [b1, e]
      simp only [if_true]
      have w : (IntKind.wrap .u64 ((r : Int) + 1)).toNat = r + 1 := by rw [wrapU (by omega) (by omega)]; omega
      rw [w]
      have e2 : r + 1 = Ieee.double.word false (r + 1) := by simp [Ieee.Format.word]
      rw [e2, cf_not (isNan_word false _ (by omega))]
      refine ⟨fin_word _ _ (by omega), ?_⟩
      rw [val_word _ _ (by omega)]
      simp [Ieee.Format.word]
    · have g : fcmp .gt (Ieee.double.word true r) 0 = false := by
        have : ¬ fcmp .gt (Ieee.double.word true r) 0 = true := by
          rw [fcmp_gt hf fin_zero, hv, val_zero]; simp only [if_true]; grind
        simpa using this
      have e : Ieee.double.word true r = 9223372036854775808 + r := by simp [Ieee.Format.word, h1]
      rw [g]
      have b1 : (true == false) = false := rfl
      rw [b1, e]
      simp only [Bool.false_eq_true, if_false, if_true]
      have w : (IntKind.wrap .u64 (((9223372036854775808 + r : Nat) : Int) - 1)).toNat = 9223372036854775808 + (r - 1) := by rw [wrapU (by omega) (by omega)]; omega
      rw [w, if_neg hr]
      have e2 : 9223372036854775808 + (r - 1) = Ieee.double.word true (r - 1) := by simp [Ieee.Format.word, h1]
      rw [e2, cf_not (isNan_word true _ (by omega))]
      refine ⟨fin_word _ _ (by omega), ?_⟩
      rw [val_word _ _ (by omega)]
      simp

/-- A word is a number, rounded. -/
structure Rnd (w : Nat) (v : Rat) : Prop where
  fin : fin w
  err : rabs (val w - v) ≤ rabs v * pw (-53) + pw (-1075)
  dn : Go.Ab.fin (down w) ∧ val (down w) ≤ v
  up : Go.Ab.fin (up w) ∧ v ≤ val (up w)
  exact : ∀ (k : Int) (e : Int), k.natAbs < 9007199254740992 → -1074 ≤ e → v = (k : Rat) * pw e → val w = v
  le : ∀ r1, rabs v ≤ rv r1 → rabs (val w) ≤ rv r1
  wd : ∃ s r, r < 9214364837600034816 ∧ w = Ieee.double.word s r

theorem write_rnd (s : Bool) (m : Nat) (i : Int) (h : (m : Rat) * pw i ≤ big) : Rnd (cf (Ieee.double.write (.number s m i))) ((if s then -(m : Rat) else m) * pw i) := by
  obtain ⟨r, e, hn⟩ := near_spec s m i h
  have hl := hn.lt
  have hl2 : r < 9218868437227405312 := by omega
  have e1 : cf (Ieee.double.write (.number s m i)) = Ieee.double.word s r := by
    show cf (Ieee.double.nearest s m i) = _
    rw [e, cf_not (isNan_word s r hl2)]
  rw [e1]
  have hd := down_word s r hl
  have hu := up_word s r hl
  have hv := val_word s r hl2
  have herr := hn.err
  have hlo := hn.lo
  have hhi := hn.hi
  have hex := hn.exact
  have hv0 : 0 ≤ (m : Rat) * pw i := Rat.mul_nonneg Rat.natCast_nonneg (Rat.le_of_lt (pw_pos i))
  generalize hx : (m : Rat) * pw i = x at herr hlo hhi hex hv0
  have hsv : (if s then -(m : Rat) else m) * pw i = if s then -x else x := by
    rw [← hx]; split <;> grind
  rw [hsv]
  have r1 : 0 < rv 1 := by have := rv_lt (show 0 < 1 by omega); rwa [rv_zero] at this
  refine ⟨fin_word s r hl2, ?_, ⟨hd.1, ?_⟩, ⟨hu.1, ?_⟩, ?_, ?_, ⟨s, r, hl, rfl⟩⟩
  · rw [hv]
    have e3 : rabs (if s then -x else x) = x := by split; (rw [rabs_neg]; exact rabs_of_nonneg hv0); exact rabs_of_nonneg hv0
    rw [e3]
    cases s
    · exact herr
    · have : (if true = true then -rv r else rv r) - (if true = true then -x else x) = -(rv r - x) := by simp only [if_true]; grind
      rw [this, rabs_neg]; exact herr
  · rw [hd.2]
    cases s
    · simp only [Bool.false_eq_true, if_false]
      split
      · grind
      · rcases hlo with h | h
        · exact absurd h ‹_›
        · exact h
    · simp only [if_true]; grind
  · rw [hu.2]
    cases s
    · simp only [Bool.false_eq_true, if_false]; exact hhi
    · simp only [if_true]
      split
      · grind
      · rcases hlo with h | h
        · exact absurd h ‹_›
        · grind
  · intro k e hk he hkv
    rw [hv]
    have hkn : ((k.natAbs : Nat) : Rat) * pw e = x := by
      have hp := pw_pos e
      have : ((k.natAbs : Nat) : Rat) = if k < 0 then -(k : Rat) else k := by
        rw [← Rat.intCast_natCast]
        split
        · rw [← Rat.intCast_neg]; exact congrArg (fun z : Int => (z : Rat)) (by omega)
        · exact congrArg (fun z : Int => (z : Rat)) (by omega)
      rw [this]
      by_cases hk0 : k < 0
      · have h1 : (k : Rat) < 0 := by exact_mod_cast Rat.intCast_lt_intCast.2 hk0
        have h2 := Rat.mul_pos (show 0 < -(k : Rat) by grind) hp
        rw [if_pos hk0]; split at hkv <;> grind
      · have h1 : 0 ≤ (k : Rat) := by exact_mod_cast Rat.intCast_le_intCast.2 (show 0 ≤ k by omega)
        have h2 := Rat.mul_nonneg h1 (Rat.le_of_lt hp)
        rw [if_neg hk0]; split at hkv <;> grind
    rw [hex k.natAbs e hk he hkn.symm]
  · intro r1 h1
    have e3 : rabs (if s then -x else x) = x := by split; (rw [rabs_neg]; exact rabs_of_nonneg hv0); exact rabs_of_nonneg hv0
    have e4 : rabs (if s then -rv r else rv r) = rv r := by split; (rw [rabs_neg]; exact rabs_of_nonneg (rv_nonneg r)); exact rabs_of_nonneg (rv_nonneg r)
    rw [e3] at h1
    rw [hv, e4]
    exact hn.le (by rw [hx]; exact h1)
theorem Rnd.cast {w : Nat} {u v : Rat} (h : Rnd w u) (e : u = v) : Rnd w v := e ▸ h
theorem rabs_dval (s : Bool) (m : Nat) (i : Int) : rabs ((if s then -(m : Rat) else m) * pw i) = (m : Rat) * pw i := by
  have h : 0 ≤ (m : Rat) * pw i := Rat.mul_nonneg Rat.natCast_nonneg (Rat.le_of_lt (pw_pos i))
  cases s
  · exact rabs_of_nonneg h
  · have : (if true = true then -(m : Rat) else m) * pw i = -((m : Rat) * pw i) := by simp only [if_true]; grind
    rw [this, rabs_neg]; exact rabs_of_nonneg h
theorem write_rnd' {s : Bool} {m : Nat} {i : Int} {v : Rat} (e : (if s then -(m : Rat) else m) * pw i = v) (h : rabs v ≤ big) : Rnd (cf (Ieee.double.write (.number s m i))) v := by
  have := rabs_dval s m i
  rw [e] at this
  exact (write_rnd s m i (by rw [← this]; exact h)).cast e

theorem sum_rnd (s t : Bool) (m n : Nat) (i j : Int) {u v : Rat} (hu : u = (if s then -(m : Rat) else m) * pw i) (hv : v = (if t then -(n : Rat) else n) * pw j) (h : rabs (u + v) ≤ big) :
    ∃ d, Ieee.Datum.sum (.number s m i) (.number t n j) = some d ∧ Rnd (cf (Ieee.double.write d)) (u + v) := by
  simp only [Ieee.Datum.sum]
  refine ⟨_, rfl, write_rnd' ?_ h⟩
  rw [hu, hv, ← signed_val s m i (min i j) (by omega), ← signed_val t n j (min i j) (by omega)]
  generalize Ieee.signed s m (i - min i j).toNat = a
  generalize Ieee.signed t n (j - min i j).toNat = b
  have e : (a : Rat) * pw (min i j) + (b : Rat) * pw (min i j) = ((a + b : Int) : Rat) * pw (min i j) := by rw [Rat.intCast_add]; grind
  rw [e]
  refine congrArg (fun z : Rat => z * pw (min i j)) ?_
  by_cases h0 : a + b = 0
  · rw [h0]; simp
  · rw [if_neg h0]
    by_cases h1 : a + b < 0
    · rw [if_pos (by simpa using h1), ← Rat.intCast_natCast, ← Rat.intCast_neg]; exact congrArg (fun z : Int => (z : Rat)) (by omega)
    · rw [if_neg (by simpa using h1), ← Rat.intCast_natCast]; exact congrArg (fun z : Int => (z : Rat)) (by omega)
theorem fop_add {x y : Nat} (hx : fin x) (hy : fin y) (h : rabs (val x + val y) ≤ big) : Rnd (fop .add x y) (val x + val y) := by
  obtain ⟨s, m, i, hx⟩ := hx
  obtain ⟨t, n, j, hy⟩ := hy
  obtain ⟨d, h1, h2⟩ := sum_rnd s t m n i j (val_eq hx) (val_eq hy) h
  have : fop .add x y = cf (Ieee.double.write d) := by simp [fop, Ieee.Format.add, hx, hy, h1]
  rw [this]; exact h2
theorem fop_sub {x y : Nat} (hx : fin x) (hy : fin y) (h : rabs (val x - val y) ≤ big) : Rnd (fop .sub x y) (val x - val y) := by
  obtain ⟨s, m, i, hx⟩ := hx
  obtain ⟨t, n, j, hy⟩ := hy
  have e : -val y = (if (!t) = true then -(n : Rat) else n) * pw j := by
    rw [val_eq hy]; cases t <;> simp <;> grind
  have e2 : val x - val y = val x + -val y := by grind
  rw [e2] at h ⊢
  obtain ⟨d, h1, h2⟩ := sum_rnd s (!t) m n i j (val_eq hx) e h
  have : fop .sub x y = cf (Ieee.double.write d) := by simp [fop, Ieee.Format.sub, hx, hy, Ieee.Datum.opposite, h1]
  rw [this]; exact h2
theorem fop_mul {x y : Nat} (hx : fin x) (hy : fin y) (h : rabs (val x * val y) ≤ big) : Rnd (fop .mul x y) (val x * val y) := by
  obtain ⟨s, m, i, hx⟩ := hx
  obtain ⟨t, n, j, hy⟩ := hy
  have : fop .mul x y = cf (Ieee.double.write (.number (s ^^ t) (m * n) (i + j))) := by simp [fop, Ieee.Format.mul, hx, hy, Ieee.Datum.product]
  rw [this]
  refine write_rnd' ?_ h
  rw [val_eq hx, val_eq hy, pw_add, Rat.natCast_mul]
  cases s <;> cases t <;> simp <;> grind
end Go.Ab
