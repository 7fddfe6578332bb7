/- Sizes by greater weights are no greater. -/
import Derived.Test.YtdckmpaakheppaaCA
namespace Go.Ab
set_option linter.unusedSimpArgs false
set_option linter.unusedVariables false
open Go Go.Proofs
abbrev restW : Nat := 4562146422526312448
theorem rest_val : fin restW ∧ val restW = pw (-10) := by
  have h : Ieee.double.read restW = .number false 4503599627370496 (-62) := by decide +kernel
  refine ⟨⟨_, _, _, h⟩, ?_⟩
  rw [val_eq h]
  decide +kernel
/-- What is huge is rounded to what is huge. -/
theorem near_huge (m : Nat) (i : Int) (hv : pw 990 ≤ (m : Rat) * pw i) : ∃ r, Ieee.double.nearest false m i = Ieee.double.word false r ∧ 9061242450269437952 ≤ r ∧ r ≤ 9218868437227405312 := by
  by_cases h0 : m = 0
  · subst h0
    have : ((0 : Nat) : Rat) * pw i = 0 := by simp
    rw [this] at hv
    have := pw_pos 990
    grind
  have q1 : Ieee.double.fractionBits = 52 := rfl
  have q2 : Ieee.double.leastPlace = -1074 := rfl
  have q3 : Ieee.double.binade = 4503599627370496 := rfl
  have q4 : Ieee.double.infRung = 9218868437227405312 := rfl
  have e0 : Ieee.double.nearest false m i = Ieee.double.word false (min (((max (i + (m.log2 : Int) - (52 : Nat)) (-1074)) - (-1074)).toNat * 4503599627370496 +
      Ieee.Toward.even.cut false (m <<< (i - max (i + (m.log2 : Int) - (52 : Nat)) (-1074)).toNat) (max (i + (m.log2 : Int) - (52 : Nat)) (-1074) - i).toNat) 9218868437227405312) := by
    unfold Ieee.Format.nearest
    rw [if_neg h0, q1, q2, q3, q4]
  have hl2 : m < 2 ^ (m.log2 + 1) := Nat.lt_log2_self
  generalize m.log2 = L at e0 hl2
  generalize hlast : max (i + (L : Int) - (52 : Nat)) (-1074) = last at e0
  generalize Ieee.Toward.even.cut false (m <<< (i - last).toNat) (last - i).toNat = kept at e0
  have b2 : (m : Rat) * pw i < pw (i + L + 1) := by
    rw [Int.add_assoc, show (L : Int) + 1 = ((L + 1 : Nat) : Int) from by omega, pw_up]
    exact Rat.mul_lt_mul_of_pos_right (by exact_mod_cast Rat.natCast_lt_natCast.2 hl2) (pw_pos i)
  have h3 := pw_lt_iff (show pw 990 < pw (i + L + 1) by grind)
  clear b2 hv
  refine ⟨_, e0, ?_, Nat.min_le_right _ _⟩
  have h4 : last = i + (L : Int) - 52 := by omega
  clear hlast e0
  have h5 : 2012 ≤ (last - -1074).toNat := by omega
  have h6 := Nat.mul_le_mul_right 4503599627370496 h5
  refine Nat.le_min.2 ⟨?_, by decide⟩
  exact Nat.le_trans (show 9061242450269437952 ≤ 2012 * 4503599627370496 by decide) (Nat.le_trans h6 (Nat.le_add_right _ _))
theorem huge_le {r : Nat} (h1 : 9061242450269437952 ≤ r) (h2 : r ≤ 9218868437227405312) : fcmp .le (Ieee.double.word false r) restW = false := by
  have hr := rest_val
  by_cases e : r = 9218868437227405312
  · subst e; decide +kernel
  · have hf := fin_word false r (by omega)
    have hv := val_word false r (by omega)
    cases h : fcmp .le (Ieee.double.word false r) restW
    · rfl
    · have h4 := (fcmp_le hf hr.1).1 h
      rw [hv, hr.2] at h4
      simp at h4
      have h5 := rv_mono h1
      have h6 : rv 9061242450269437952 = pw 989 := by
        have := rv_norm 2011 4503599627370496 (by decide) (by decide)
        rw [show 2011 * 4503599627370496 + 4503599627370496 = 9061242450269437952 from rfl] at this
        rw [this]
        have h3 := pw_up (-1074 + (2011 : Nat)) 52
        exact h3.symm.trans (congrArg pw (by decide))
      have h7 : pw (-10) < pw 989 := pw_lt (by decide)
      grind
theorem fabs_read (x : Nat) (h : isNan (fabs x) = false) : fin (fabs x) ∨ Ieee.double.read (fabs x) = .infinity false := by
  by_cases hf : finite (fabs x) = true
  · exact .inl (finite_fin hf)
  · right
    have hb : bits0 x < 9223372036854775808 := Nat.mod_lt _ (by decide)
    have e : fabs x = bits0 x := by
      unfold fabs at h ⊢
      rw [isNan_cf] at h
      exact cf_not h
    cases hd : Ieee.double.read (fabs x) with
    | nan s t => have : isNan (fabs x) = true := by rw [← read_nan, hd]; rfl
                 rw [this] at h; cases h
    | number s m i => exact absurd (fin_finite ⟨s, m, i, hd⟩) hf
    | infinity s =>
      cases s
      · rfl
      · rw [e] at hd
        have h1 : Ieee.double.signWeight = 9223372036854775808 := rfl
        unfold Ieee.Format.read at hd
        simp only [h1] at hd
        have hs : (bits0 x / 9223372036854775808 % 2 == 1) = false := by rw [Nat.div_eq_of_lt hb]; rfl
        rw [hs] at hd
        split at hd
        · cases hd
        · split at hd
          · cases hd
          · split at hd <;> cases hd
theorem pos_read {x : Nat} (h : fin x) (h0 : 0 < val x) : ∃ m i, Ieee.double.read x = .number false m i ∧ val x = (m : Rat) * pw i := by
  obtain ⟨s, m, i, hx⟩ := h
  have hv := val_eq hx
  cases s
  · exact ⟨m, i, hx, by rw [hv]; simp⟩
  · rw [hv] at h0
    have : 0 ≤ (m : Rat) * pw i := Rat.mul_nonneg Rat.natCast_nonneg (Rat.le_of_lt (pw_pos i))
    simp at h0
    grind
theorem div_huge {x y : Nat} (hx : fin x) (hy : fin y) (hx0 : 0 < val x) (hy0 : 0 < val y) {q : Rat} (hq : q * val y = val x) (h : pw 991 ≤ q) : fcmp .le (fop .div x y) restW = false := by
  obtain ⟨m, i, rx, vx⟩ := pos_read hx hx0
  obtain ⟨n, j, ry, vy⟩ := pos_read hy hy0
  have hn : n ≠ 0 := by
    rintro rfl
    have : ((0 : Nat) : Rat) * pw j = 0 := by simp
    rw [vy, this] at hy0
    grind
  rw [vx, vy] at hq
  obtain ⟨p1, p2, _, _⟩ := quot_spec m n i j hn q hq (54 + n.log2 - m.log2) rfl
  have e : fop .div x y = cf (Ieee.double.write (.number false (2 * ((m <<< (54 + n.log2 - m.log2)) / n) + ((m <<< (54 + n.log2 - m.log2)) % n != 0).toNat) (i - j - (54 + n.log2 - m.log2 : Nat) - 1))) := by
    have q1 : Ieee.double.fractionBits = 52 := rfl
    simp [fop, Ieee.Format.div, rx, ry, Ieee.Datum.quotient, hn, q1]
  generalize 54 + n.log2 - m.log2 = more at p2 e
  generalize 2 * ((m <<< more) / n) + ((m <<< more) % n != 0).toNat = d at p2 e
  generalize i - j - (more : Int) - 1 = c at p2 e
  have hb : pw 990 ≤ (d : Rat) * pw c := by
    have h1 := le_rabs ((d : Rat) * pw c - q)
    have h2 : q * pw (-54) ≤ q * pw (-1) := Rat.mul_le_mul_of_nonneg_left (pw_mono (by decide)) p1
    have h3 : pw (-1) = 1 / 2 := by decide +kernel
    have h4 : 2 * pw 990 = pw 991 := (pw_succ 990).symm
    rw [h3] at h2
    grind
  obtain ⟨r, hr, r1, r2⟩ := near_huge d c hb
  rw [e, show Ieee.double.write (.number false d c) = Ieee.double.nearest false d c from rfl, hr]
  rw [cf_not ?_]
  · exact huge_le r1 r2
  · by_cases e2 : r = 9218868437227405312
    · subst e2; decide +kernel
    · exact isNan_word false r (by omega)
/-- Weights of which one is half as great again, or more. -/
structure Wgt (w v : Nat) : Prop where
  fw : fin w
  fv : fin v
  w0 : pw (-12) ≤ val w
  wv : 3 * val w ≤ 2 * val v
theorem q_mono {x w v : Nat} (h : Wgt w v) (hq : fcmp .le (fop .div (fabs x) w) restW = true) : isNan (fop .div (fabs x) v) = false ∧ fcmp .le (fop .div (fabs x) v) restW = true := by
  obtain ⟨fw, fv, w0, wv⟩ := h
  have pp := pw_pos (-12)
  obtain ⟨n, j, rw', vw⟩ := pos_read fw (by grind)
  have hr := rest_val
  have hnn : isNan (fabs x) = false := by
    cases hn : isNan (fabs x)
    · rfl
    · exfalso
      have h2 : Ieee.double.read (fabs x) = Ieee.double.read qnan := by
        unfold fabs at hn ⊢
        rw [isNan_cf] at hn
        rw [cf_nan hn]
      have h3 : fop .div (fabs x) w = qnan := by
        cases hd : Ieee.double.read (fabs x) with
        | nan s t => simp [fop, Ieee.Format.div, hd, rw', Ieee.Datum.quotient]
        | number s m i => rw [hd, show Ieee.double.read qnan = .nan false 2251799813685249 by decide +kernel] at h2; cases h2
        | infinity s => rw [hd, show Ieee.double.read qnan = .nan false 2251799813685249 by decide +kernel] at h2; cases h2
      rw [h3] at hq
      exact absurd hq (by decide +kernel)
  rcases fabs_read x hnn with fx | ix
  · have hx0 : 0 ≤ val (fabs x) := by
      have h5 : fabs (fabs x) = fabs x := by
        have h : fabs (fabs x) = cf (bits0 (bits0 x)) := by rw [show fabs x = cf (bits0 x) from rfl, ← fabs_raw]
        rw [h]
        unfold fabs bits0
        rw [Nat.mod_mod]
      have := (val_fabs fx).2
      rw [h5] at this
      rw [this]; exact rabs_nonneg _
    have hw0 : val w ≠ 0 := by grind
    have hv0 : val v ≠ 0 := by grind
    obtain ⟨q, eq⟩ : ∃ q : Rat, q * val w = val (fabs x) := ⟨val (fabs x) / val w, Rat.div_mul_cancel hw0⟩
    obtain ⟨p, ep⟩ : ∃ p : Rat, p * val v = val (fabs x) := ⟨val (fabs x) / val v, Rat.div_mul_cancel hv0⟩
    have nn : ∀ z y : Rat, 0 < y → 0 ≤ z * y → 0 ≤ z := fun z y hy hz => by
      by_cases h : 0 ≤ z
      · exact h
      · have := Rat.mul_pos (show 0 < -z by grind) hy; grind
    have q0 := nn q (val w) (by grind) (by rw [eq]; exact hx0)
    have p0 := nn p (val v) (by grind) (by rw [ep]; exact hx0)
    have p1 : 3 * p ≤ 2 * q := by
      have h1 := Rat.mul_le_mul_of_nonneg_left wv p0
      have h2 : 0 ≤ (2 * q - 3 * p) * val w := by grind
      have := nn (2 * q - 3 * p) (val w) (by grind) h2
      grind
    have h1000 : pw 999 + pw 999 = big := by
      have := pw_succ 999
      have h2 : big = pw (999 + 1) := rfl
      rw [h2, this]; grind
    by_cases hbig : pw 991 ≤ q
    · have hxp : 0 < val (fabs x) := by
        have h1 := pw_pos 991
        have h2 := Rat.mul_pos (show 0 < q by grind) (show 0 < val w by grind)
        rw [eq] at h2; exact h2
      have := div_huge fx fw hxp (by grind) eq hbig
      rw [this] at hq; cases hq
    · have hq9 : pw 991 ≤ pw 999 := pw_mono (by decide)
      have F1 := fop_div fx fw hw0 eq (by rw [rabs_of_nonneg q0]; grind)
      have F2 := fop_div fx fv hv0 ep (by rw [rabs_of_nonneg p0]; grind)
      have h1 := (fcmp_le F1.fin hr.1).1 hq
      refine ⟨fin_not_nan F2.fin, (fcmp_le F2.fin hr.1).2 ?_⟩
      rw [hr.2] at h1 ⊢
      have E1 := F1.err
      have E2 := F2.err
      rw [rabs_of_nonneg q0] at E1
      rw [rabs_of_nonneg p0] at E2
      have a1 := le_rabs (val (fop .div (fabs x) w) - q)
      have a2 := le_rabs (val (fop .div (fabs x) v) - p)
      have g1 := Rat.mul_le_mul_of_nonneg_left (pw_mono (show (-52 : Int) ≤ -5 by decide)) q0
      have g2 := Rat.mul_le_mul_of_nonneg_left (pw_mono (show (-52 : Int) ≤ -5 by decide)) p0
      have g3 : pw (-5) = 1 / 32 := by decide +kernel
      have g4 : pw (-1075) ≤ pw (-15) := pw_mono (by decide)
      have g5 : pw (-15) * 32 = pw (-10) := by decide +kernel
      rw [g3] at g1 g2
      grind
  · exfalso
    have h3 : fop .div (fabs x) w = finf := by
      have : Ieee.double.write (.infinity false) = finf := by decide +kernel
      simp only [fop, Ieee.Format.div, ix, rw', Ieee.Datum.quotient]
      first | exact (by decide +kernel) | (rw [show (false ^^ false) = false from rfl]; decide +kernel)
    rw [h3] at hq
    exact absurd hq (by decide +kernel)
theorem le_down {Q o : Nat} (h1 : fcmp .gt Q o = true) (h2 : fcmp .le Q restW = true) : fcmp .le o restW = true := by
  have hr := rest_val
  obtain ⟨s, m, i, er⟩ := hr.1
  cases ho : Ieee.double.read o with
  | nan a b => simp [fcmp, Ieee.Format.order, ho, Ieee.Datum.order] at h1
               cases hq : Ieee.double.read Q <;> simp [hq, Ieee.Datum.order] at h1
  | infinity a =>
    cases a
    · cases hq : Ieee.double.read Q with
      | nan c d => simp [fcmp, Ieee.Format.order, ho, hq, Ieee.Datum.order] at h1
      | infinity c => cases c <;> exact absurd h1 (by simp [fcmp, Ieee.Format.order, ho, hq, Ieee.Datum.order]; try decide)
      | number c d e => simp [fcmp, Ieee.Format.order, ho, hq, Ieee.Datum.order] at h1
    · simp [fcmp, Ieee.Format.order, ho, er, Ieee.Datum.order]
  | number a b c =>
    have fo : fin o := ⟨a, b, c, ho⟩
    cases hq : Ieee.double.read Q with
    | nan c d => simp [fcmp, Ieee.Format.order, ho, hq, Ieee.Datum.order] at h1
    | infinity c => cases c <;> first | (simp [fcmp, Ieee.Format.order, er, hq, Ieee.Datum.order] at h2; done) | exact absurd h1 (by simp [fcmp, Ieee.Format.order, ho, hq, Ieee.Datum.order]; try decide)
    | number c d e =>
      have fQ : fin Q := ⟨c, d, e, hq⟩
      have a1 := (fcmp_gt fQ fo).1 h1
      have a2 := (fcmp_le fQ hr.1).1 h2
      exact (fcmp_le fo hr.1).2 (by grind)
theorem le_up {Q o : Nat} (hn : isNan Q = false) (h1 : fcmp .gt Q o = false) (h2 : fcmp .le o restW = true) : fcmp .le Q restW = true := by
  have hr := rest_val
  obtain ⟨s, m, i, er⟩ := hr.1
  cases hq : Ieee.double.read Q with
  | nan a b => have : isNan Q = true := by rw [← read_nan, hq]; rfl
               rw [this] at hn; cases hn
  | infinity a =>
    cases a
    · cases ho : Ieee.double.read o with
      | nan c d => simp [fcmp, Ieee.Format.order, ho, er, Ieee.Datum.order] at h2
      | infinity c => cases c <;> first | (simp [fcmp, Ieee.Format.order, er, ho, Ieee.Datum.order] at h2; done) | exact absurd h1 (by simp [fcmp, Ieee.Format.order, ho, hq, Ieee.Datum.order]; try decide)
      | number c d e => simp [fcmp, Ieee.Format.order, ho, hq, Ieee.Datum.order] at h1
    · simp [fcmp, Ieee.Format.order, hq, er, Ieee.Datum.order]
  | number a b c =>
    have fQ : fin Q := ⟨a, b, c, hq⟩
    cases ho : Ieee.double.read o with
    | nan c d => simp [fcmp, Ieee.Format.order, ho, er, Ieee.Datum.order] at h2
    | infinity c => cases c <;> first | (simp [fcmp, Ieee.Format.order, er, ho, Ieee.Datum.order] at h2; done) | exact absurd h1 (by simp [fcmp, Ieee.Format.order, ho, hq, Ieee.Datum.order]; try decide)
    | number c d e =>
      have fo : fin o := ⟨c, d, e, ho⟩
      have a1 : ¬ val o < val Q := fun h => by rw [(fcmp_gt fQ fo).2 h] at h1; cases h1
      have a2 := (fcmp_le fo hr.1).1 h2
      exact (fcmp_le fQ hr.1).2 (by grind)
theorem szF_mono (d w v : List Nat) (n : Nat) (h : ∀ i, i < n → Wgt (w.getD i 0) (v.getD i 0)) : ∀ i, i ≤ n → ∀ o, szF d w i = some o → fcmp .le o restW = true → ∃ o', szF d v i = some o' ∧ fcmp .le o' restW = true := by
  intro i
  induction i with
  | zero => intro _ o e _; exact ⟨0, rfl, by decide +kernel⟩
  | succ i ih =>
    intro hi o e hle
    simp only [szF] at e
    obtain ⟨o1, e1, e2⟩ := Option.bind_eq_some_iff.1 e
    by_cases hn : isNan (fop .div (fabs (d.getD i 0)) (w.getD i 0)) = true
    · rw [if_pos hn] at e2; cases e2
    · rw [if_neg hn] at e2
      have hn : isNan (fop .div (fabs (d.getD i 0)) (w.getD i 0)) = false := by simpa using hn
      injection e2 with e2
      have key : fcmp .le (fop .div (fabs (d.getD i 0)) (w.getD i 0)) restW = true ∧ fcmp .le o1 restW = true := by
        by_cases hc : (i == 0 || fcmp .gt (fop .div (fabs (d.getD i 0)) (w.getD i 0)) o1) = true
        · rw [if_pos hc] at e2
          subst e2
          refine ⟨hle, ?_⟩
          rcases Bool.or_eq_true _ _ ▸ hc with h0 | h0
          · have : i = 0 := by simpa using h0
            subst this
            injection e1 with e1
            subst e1
            decide +kernel
          · exact le_down h0 hle
        · rw [if_neg hc] at e2
          subst e2
          have hc2 : fcmp .gt (fop .div (fabs (d.getD i 0)) (w.getD i 0)) o1 = false := by
            cases hg : fcmp .gt (fop .div (fabs (d.getD i 0)) (w.getD i 0)) o1
            · rfl
            · rw [hg] at hc; simp at hc
          exact ⟨le_up hn hc2 hle, hle⟩
      obtain ⟨o', h1, h2⟩ := ih (by omega) o1 e1 key.2
      obtain ⟨h3, h4⟩ := q_mono (h i (by omega)) key.1
      refine ⟨if (i == 0 || fcmp .gt (fop .div (fabs (d.getD i 0)) (v.getD i 0)) o') = true then fop .div (fabs (d.getD i 0)) (v.getD i 0) else o', ?_, ?_⟩
      · simp only [szF]
        rw [h1, Option.bind_some, if_neg (by rw [h3]; decide)]
      · split <;> assumption
theorem szP_mono (d w v : List Nat) (h : ∀ i, i < d.length → Wgt (w.getD i 0) (v.getD i 0)) (hle : fcmp .le (szP d w) restW = true) : fcmp .le (szP d v) restW = true := by
  unfold szP at hle ⊢
  cases e : szF d w d.length with
  | none => rw [e] at hle; exact absurd hle (by decide +kernel)
  | some o =>
    rw [e] at hle
    obtain ⟨o', h1, h2⟩ := szF_mono d w v d.length h _ (Nat.le_refl _) o e hle
    rw [h1]; exact h2
end Go.Ab
