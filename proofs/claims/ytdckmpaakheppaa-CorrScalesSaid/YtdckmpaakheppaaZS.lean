/- Intervals: what they hold, how wide they are. -/
import Derived.Test.YtdckmpaakheppaaZQ
namespace Go.Ab
set_option linter.unusedSimpArgs false
set_option linter.unusedVariables false
open Go

theorem rv_one : rv 1 = pw (-1074) := by
  unfold rv
  rw [if_pos (by decide)]
  have : ((1 : Nat) : Rat) = 1 := rfl
  rw [this]; grind
theorem Rnd.gap {w : Nat} {v : Rat} (h : Rnd w v) : val w - val (down w) ≤ rabs (val w) * pw (-52) + pw (-1074) ∧ val (down w) ≤ val w ∧ val (Ab.up w) - val w ≤ rabs (val w) * pw (-52) + pw (-1074) ∧ val w ≤ val (Ab.up w) := by
  obtain ⟨s, r, hr, rfl⟩ := h.wd
  have hd := (down_word s r hr).2
  have hu := (up_word s r hr).2
  have hv := val_word s r (by omega)
  have hn := rv_nonneg r
  have g := rv_gap r
  have l := rv_lt_succ r
  have hp := pw_pos (-1074)
  have hp2 := pw_pos (-52)
  have ha : rabs (val (Ieee.double.word s r)) = rv r := by
    rw [hv]; cases s
    · exact rabs_of_nonneg hn
    · simp only [if_true]; rw [rabs_neg]; exact rabs_of_nonneg hn
  have hz := Rat.mul_nonneg hn (Rat.le_of_lt hp2)
  have low : r ≠ 0 → rv r - rv (r - 1) ≤ rv r * pw (-52) + pw (-1074) ∧ rv (r - 1) ≤ rv r := by
    intro h0
    have g1 := rv_gap (r - 1)
    have l1 := rv_lt_succ (r - 1)
    rw [show r - 1 + 1 = r from by omega] at g1 l1
    have := Rat.mul_le_mul_of_nonneg_right (Rat.le_of_lt l1) (Rat.le_of_lt hp2)
    constructor <;> grind
  have h0 : r = 0 → rv r = 0 ∧ rv 1 = pw (-1074) := fun e => by rw [e]; exact ⟨rv_zero, rv_one⟩
  rw [hd, hu, ha, hv]
  cases s
  · simp only [Bool.false_eq_true, if_false]
    by_cases e : r = 0
    · rw [if_pos e]
      have := h0 e
      refine ⟨?_, ?_, ?_, ?_⟩ <;> grind
    · rw [if_neg e]
      have := low e
      refine ⟨?_, ?_, ?_, ?_⟩ <;> grind
  · simp only [if_true]
    by_cases e : r = 0
    · rw [if_pos e]
      have := h0 e
      refine ⟨?_, ?_, ?_, ?_⟩ <;> grind
    · rw [if_neg e]
      have := low e
      refine ⟨?_, ?_, ?_, ?_⟩ <;> grind

/-- An interval about a number, no further out than d. -/
structure Abt (p : Nat × Nat) (v d : Rat) : Prop where
  f1 : fin p.1
  f2 : fin p.2
  lo : val p.1 ≤ v
  hi : v ≤ val p.2
  w1 : v - val p.1 ≤ d
  w2 : val p.2 - v ≤ d
/-- What an operation on numbers below 2 ^ 12 may be off, and the next word further. -/
def eps : Rat := pw (-36)
theorem eps_pos : 0 < eps := pw_pos _
theorem small_err {x : Rat} (h : rabs x ≤ 4096) : rabs x * pw (-53) + pw (-1075) ≤ pw (-40) ∧ rabs x * pw (-52) + pw (-1074) ≤ pw (-39) := by
  have hx := rabs_nonneg x
  have h12 : pw 12 = 4096 := by have := pw_nat 12; simpa using this
  rw [← h12] at h
  have h1 := Rat.mul_le_mul_of_nonneg_right h (Rat.le_of_lt (pw_pos (-53)))
  have h2 := Rat.mul_le_mul_of_nonneg_right h (Rat.le_of_lt (pw_pos (-52)))
  rw [← pw_add, show (12 : Int) + -53 = -41 from rfl] at h1
  rw [← pw_add, show (12 : Int) + -52 = -40 from rfl] at h2
  have h3 := pw_mono (show (-1075 : Int) ≤ -41 by decide)
  have h4 := pw_mono (show (-1074 : Int) ≤ -40 by decide)
  have h5 := pw_succ (-41)
  have h6 := pw_succ (-40)
  rw [show (-41 : Int) + 1 = -40 from rfl] at h5
  rw [show (-40 : Int) + 1 = -39 from rfl] at h6
  constructor <;> grind
theorem eps_eq : eps = 8 * pw (-39) ∧ eps = 16 * pw (-40) ∧ pw (-39) ≤ 1 := by
  have h5 := pw_succ (-37)
  have h6 := pw_succ (-38)
  have h7 := pw_succ (-39)
  have h8 := pw_succ (-40)
  rw [show (-37 : Int) + 1 = -36 from rfl] at h5
  rw [show (-38 : Int) + 1 = -37 from rfl] at h6
  rw [show (-39 : Int) + 1 = -38 from rfl] at h7
  rw [show (-40 : Int) + 1 = -39 from rfl] at h8
  have h1 := pw_mono (show (-39 : Int) ≤ 0 by decide)
  rw [pw_zero] at h1
  unfold eps
  refine ⟨?_, ?_, h1⟩ <;> grind
theorem small_big {x : Rat} (h : rabs x ≤ 4096) : rabs x ≤ big := by
  have h12 : pw 12 = 4096 := by have := pw_nat 12; simpa using this
  have := pw_mono (show (12 : Int) ≤ bigE by rw [bigE_eq]; decide)
  unfold big; grind
theorem Rnd.small {w : Nat} {v : Rat} (h : Rnd w v) (hv : rabs v ≤ 4000) : rabs (val w - v) ≤ pw (-40) ∧ v - val (down w) ≤ eps ∧ val (down w) ≤ v ∧ val (Ab.up w) - v ≤ eps ∧ v ≤ val (Ab.up w) ∧ val (down w) ≤ val w ∧ val w ≤ val (Ab.up w) := by
  have h1 := small_err (x := v) (by grind)
  have h2 : rabs (val w - v) ≤ pw (-40) := Rat.le_trans h.err h1.1
  have h3 := le_rabs (val w - v)
  have h4 := eps_eq
  have h5 := pw_pos (-40)
  have h6 : rabs (val w) ≤ 4096 := by
    have h7 := rabs_add v (val w - v)
    rw [show v + (val w - v) = val w from by grind] at h7
    have h8 := pw_succ (-40)
    rw [show (-40 : Int) + 1 = -39 from rfl] at h8
    grind
  have h7 := small_err h6
  have h8 := h.gap
  have h9 := h.dn.2
  have h10 := h.up.2
  refine ⟨h2, ?_, h9, ?_, h10, h8.2.1, h8.2.2.2⟩ <;> grind
theorem ivMake_le {lo hi : Nat} (h1 : fin lo) (h2 : fin hi) (h : val lo ≤ val hi) : ivMake lo hi = (lo, hi) := by
  unfold ivMake
  rw [if_pos ((fcmp_le h1 h2).2 h)]
theorem abt_point {x : Nat} (h : fin x) : Abt (x, x) (val x) 0 := by
  refine ⟨h, h, Rat.le_refl, Rat.le_refl, ?_, ?_⟩ <;> grind
theorem abt_sub {p q : Nat × Nat} {u v d e : Rat} (hp : Abt p u d) (hq : Abt q v e) (hu : rabs u ≤ 1900) (hv : rabs v ≤ 1900) (hd : d ≤ 1) (he : e ≤ 1) : Abt (ivSub p q) (u - v) (d + e + eps) := by
  obtain ⟨a1, a2, a3, a4, a5, a6⟩ := hp
  obtain ⟨b1, b2, b3, b4, b5, b6⟩ := hq
  have c1 := le_rabs u
  have c2 := le_rabs v
  have k1 : rabs (val p.1 - val q.2) ≤ 4000 := rabs_le (by grind) (by grind)
  have k2 : rabs (val p.2 - val q.1) ≤ 4000 := rabs_le (by grind) (by grind)
  have r1 := fop_sub a1 b2 (small_big (by grind))
  have r2 := fop_sub a2 b1 (small_big (by grind))
  have s1 := r1.small k1
  have s2 := r2.small k2
  unfold ivSub
  rw [ivMake_le r1.dn.1 r2.up.1 (by grind)]
  refine ⟨r1.dn.1, r2.up.1, ?_, ?_, ?_, ?_⟩ <;> grind
theorem abt_mul {a x : Nat} (ha : fin a) (hx : fin x) (h : rabs (val a * val x) ≤ 1000) (hex : val (fop .mul a x) = val a * val x) : Abt (ivMul (a, a) (x, x)) (val a * val x) eps := by
  have r := fop_mul ha hx (small_big (by grind))
  have s := r.small (by grind)
  have n := fin_not_nan r.fin
  have l : fcmp .lt (fop .mul a x) (fop .mul a x) = false := by
    have : ¬ fcmp .lt (fop .mul a x) (fop .mul a x) = true := by rw [fcmp_lt r.fin r.fin]; grind
    simpa using this
  have g : fcmp .gt (fop .mul a x) (fop .mul a x) = false := by
    have : ¬ fcmp .gt (fop .mul a x) (fop .mul a x) = true := by rw [fcmp_gt r.fin r.fin]; grind
    simpa using this
  unfold ivMul
  simp only [spanF, n, l, g, Bool.false_eq_true, if_false]
  rw [ivMake_le r.dn.1 r.up.1 (by grind)]
  refine ⟨r.dn.1, r.up.1, ?_, ?_, ?_, ?_⟩ <;> grind
theorem abt_in {p : Nat × Nat} {v d : Rat} (h : Abt p v d) {x : Nat} (hx : fin x) (e : val x = v) : fcmp .le p.1 x = true ∧ fcmp .le x p.2 = true := by
  refine ⟨(fcmp_le h.f1 hx).2 (by rw [e]; exact h.lo), (fcmp_le hx h.f2).2 (by rw [e]; exact h.hi)⟩
theorem abt_out {p : Nat × Nat} {v d : Rat} (h : Abt p v d) {x : Nat} (hx : fin x) (e : val x < v - d) : fcmp .le p.1 x = false := by
  have : ¬ fcmp .le p.1 x = true := by rw [fcmp_le h.f1 hx]; have := h.w1; grind
  simpa using this
end Go.Ab
