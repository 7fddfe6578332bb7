/- Part 17: KA, KB, KC, KE, KF, BY. -/
import Derived.Test.YtloimimehbehoaaGreatGP
namespace Go.Ab
set_option linter.unusedSimpArgs false
set_option linter.unusedVariables false
open Go
theorem down_gen (s : Bool) (r : Nat) (h : r + 1 < 9218868437227405312) : fin (down (Ieee.double.word s r)) ∧ val (down (Ieee.double.word s r)) = if s then -rv (r + 1) else if r = 0 then -rv 1 else rv (r - 1) := by
  have h1 : Ieee.double.signWeight = 9223372036854775808 := rfl
  have hf := fin_word s r (by omega)
  have hn := fin_not_nan hf
  have hv := val_word s r (by omega)
  have n1 : isNan fninf = false := by decide
  have rd : Ieee.double.read fninf = .infinity true := by decide
  have o1 : fcmp .eq (Ieee.double.word s r) fninf = false := by
    obtain ⟨s', m, i, hd⟩ := hf
    simp [fcmp, Ieee.Format.order, hd, rd, Ieee.Datum.order]
  have o2 : fcmp .gt fninf (Ieee.double.word s r) = false := by
    obtain ⟨s', m, i, hd⟩ := hf
    simp [fcmp, Ieee.Format.order, hd, rd, Ieee.Datum.order]
  unfold down nextF
  rw [hn, n1, o1, o2]
  simp only [Bool.false_eq_true, or_self, if_false]
  by_cases hr : r = 0
  · subst hr
    have z : fcmp .eq (Ieee.double.word s 0) 0 = true := by
      rw [fcmp_eq hf fin_zero, hv, val_zero, rv_zero]; split <;> rfl
    have e : csign 1 fninf = Ieee.double.word true 1 := by decide
    rw [if_pos z, e]
    refine ⟨fin_word true 1 (by decide), ?_⟩
    rw [val_word true 1 (by decide)]
    simp
  · have hp : 0 < rv r := by have := rv_lt (show 0 < r by omega); rwa [rv_zero] at this
    have z : ¬ fcmp .eq (Ieee.double.word s r) 0 = true := by
      rw [fcmp_eq hf fin_zero, hv, val_zero]; split <;> grind
    rw [if_neg z]
    cases s
    · have g : fcmp .gt (Ieee.double.word false r) 0 = true := by
        rw [fcmp_gt hf fin_zero, hv, val_zero]; simpa using hp
      have e : Ieee.double.word false r = r := by simp [Ieee.Format.word]
      rw [g]
      have b1 : (false == true) = false := rfl
      rw [b1, e]
      simp only [Bool.false_eq_true, if_false]
      have w : (IntKind.wrap .u64 ((r : Int) - 1)).toNat = r - 1 := by rw [wrapU (by omega) (by omega)]; omega
      rw [w, if_neg hr]
      have e2 : r - 1 = Ieee.double.word false (r - 1) := by simp [Ieee.Format.word]
      rw [e2, cf_not (isNan_word false _ (by omega))]
      refine ⟨fin_word _ _ (by omega), ?_⟩
      rw [val_word _ _ (by omega)]
      simp [Ieee.Format.word]
    · have g : fcmp .gt (Ieee.double.word true r) 0 = false := by
        have : ¬ fcmp .gt (Ieee.double.word true r) 0 = true := by
          rw [fcmp_gt hf fin_zero, hv, val_zero]; simp only [if_true]; grind
        simpa using this
      have e : Ieee.double.word true r = 9223372036854775808 + r := by simp [Ieee.Format.word, h1]
      rw [g]
      have b1 : (false == false) = true := rfl
      rw [b1, e]
      simp only [if_true]
      have w : (IntKind.wrap .u64 (((9223372036854775808 + r : Nat) : Int) + 1)).toNat = 9223372036854775808 + (r + 1) := by rw [wrapU (by omega) (by omega)]; omega
      rw [w]
      have e2 : 9223372036854775808 + (r + 1) = Ieee.double.word true (r + 1) := by simp [Ieee.Format.word, h1]
      rw [e2, cf_not (isNan_word true _ (by omega))]
      refine ⟨fin_word _ _ (by omega), ?_⟩
      rw [val_word _ _ (by omega)]
      simp
theorem up_gen (s : Bool) (r : Nat) (h : r + 1 < 9218868437227405312) : fin (up (Ieee.double.word s r)) ∧ val (up (Ieee.double.word s r)) = if s then (if r = 0 then rv 1 else -rv (r - 1)) else rv (r + 1) := by
  have h1 : Ieee.double.signWeight = 9223372036854775808 := rfl
  have hf := fin_word s r (by omega)
  have hn := fin_not_nan hf
  have hv := val_word s r (by omega)
  have n1 : isNan finf = false := by decide
  have rd : Ieee.double.read finf = .infinity false := by decide
  have o1 : fcmp .eq (Ieee.double.word s r) finf = false := by
    obtain ⟨s', m, i, hd⟩ := hf
    simp [fcmp, Ieee.Format.order, hd, rd, Ieee.Datum.order]
  have o2 : fcmp .gt finf (Ieee.double.word s r) = true := by
    obtain ⟨s', m, i, hd⟩ := hf
    simp [fcmp, Ieee.Format.order, hd, rd, Ieee.Datum.order]
  unfold up nextF
  rw [hn, n1, o1, o2]
  simp only [Bool.false_eq_true, or_self, if_false]
  by_cases hr : r = 0
  · subst hr
    have z : fcmp .eq (Ieee.double.word s 0) 0 = true := by
      rw [fcmp_eq hf fin_zero, hv, val_zero, rv_zero]; split <;> rfl
    have e : csign 1 finf = Ieee.double.word false 1 := by decide
    rw [if_pos z, e]
    refine ⟨fin_word false 1 (by decide), ?_⟩
    rw [val_word false 1 (by decide)]
    simp
  · have hp : 0 < rv r := by have := rv_lt (show 0 < r by omega); rwa [rv_zero] at this
    have z : ¬ fcmp .eq (Ieee.double.word s r) 0 = true := by
      rw [fcmp_eq hf fin_zero, hv, val_zero]; split <;> grind
    rw [if_neg z]
    cases s
    · have g : fcmp .gt (Ieee.double.word false r) 0 = true := by
        rw [fcmp_gt hf fin_zero, hv, val_zero]; simpa using hp
      have e : Ieee.double.word false r = r := by simp [Ieee.Format.word]
      rw [g]
      have b1 : (true == true) = true := rfl
      rw [b1, e]
      simp only [if_true]
      have w : (IntKind.wrap .u64 ((r : Int) + 1)).toNat = r + 1 := by rw [wrapU (by omega) (by omega)]; omega
      rw [w]
      have e2 : r + 1 = Ieee.double.word false (r + 1) := by simp [Ieee.Format.word]
      rw [e2, cf_not (isNan_word false _ (by omega))]
      refine ⟨fin_word _ _ (by omega), ?_⟩
      rw [val_word _ _ (by omega)]
      simp [Ieee.Format.word]
    · have g : fcmp .gt (Ieee.double.word true r) 0 = false := by
        have : ¬ fcmp .gt (Ieee.double.word true r) 0 = true := by
          rw [fcmp_gt hf fin_zero, hv, val_zero]; simp only [if_true]; grind
        simpa using this
      have e : Ieee.double.word true r = 9223372036854775808 + r := by simp [Ieee.Format.word, h1]
      rw [g]
      have b1 : (true == false) = false := rfl
      rw [b1, e]
      simp only [Bool.false_eq_true, if_false, if_true]
      have w : (IntKind.wrap .u64 (((9223372036854775808 + r : Nat) : Int) - 1)).toNat = 9223372036854775808 + (r - 1) := by rw [wrapU (by omega) (by omega)]; omega
      rw [w, if_neg hr]
      have e2 : 9223372036854775808 + (r - 1) = Ieee.double.word true (r - 1) := by simp [Ieee.Format.word, h1]
      rw [e2, cf_not (isNan_word true _ (by omega))]
      refine ⟨fin_word _ _ (by omega), ?_⟩
      rw [val_word _ _ (by omega)]
      simp
theorem cf_wordA {s : Bool} {r : Nat} (h : r ≤ 9218868437227405312) : cf (Ieee.double.word s r) = Ieee.double.word s r := by
  by_cases e : r = 9218868437227405312
  · subst e; cases s <;> decide
  · exact cf_not (isNan_word s r (by omega))
theorem write_gen (s : Bool) (m : Nat) (i : Int) : ∃ r, r ≤ 9218868437227405312 ∧ cf (Ieee.double.write (.number s m i)) = Ieee.double.word s r ∧ (∀ x, rv x ≤ (m : Rat) * pw i → x ≤ r ∨ r = 9218868437227405312) ∧ (∀ x, (m : Rat) * pw i ≤ rv x → r ≤ x) := by
  obtain ⟨A, e, h1, h2⟩ := near_gen s m i
  have : Ieee.double.write (.number s m i) = Ieee.double.nearest s m i := rfl
  rw [this, e]
  refine ⟨_, Nat.min_le_right _ _, cf_wordA (Nat.min_le_right _ _), fun x hx => ?_, fun x hx => ?_⟩
  · have := h1 x hx; omega
  · have := h2 x hx; omega
structure Wide (w : Nat) (v : Rat) : Prop where
  lo : fin (down w) → val (down w) ≤ v
  hi : fin (up w) → v ≤ val (up w)
  is : fin (down w) → fin (up w) → fin w
theorem wide_mk {w a b : Nat} {v : Rat} (e1 : down w = a) (e2 : up w = b) (h1 : fin a → val a ≤ v) (h2 : fin b → v ≤ val b) (h3 : fin a → fin b → fin w) : Wide w v := by
  subst e1 e2; exact ⟨h1, h2, h3⟩
theorem nfin_inf : ¬ fin finf := by
  rintro ⟨s, m, i, h⟩
  rw [show Ieee.double.read finf = .infinity false by decide] at h
  cases h
theorem nfin_ninf : ¬ fin fninf := by
  rintro ⟨s, m, i, h⟩
  rw [show Ieee.double.read fninf = .infinity true by decide] at h
  cases h
theorem wide_write (s : Bool) (m : Nat) (i : Int) {v : Rat} (hv : v = (if s then -(m : Rat) else m) * pw i) : Wide (cf (Ieee.double.write (.number s m i))) v := by
  obtain ⟨r, hr, e, h1, h2⟩ := write_gen s m i
  have hv0 : 0 ≤ (m : Rat) * pw i := Rat.mul_nonneg Rat.natCast_nonneg (Rat.le_of_lt (pw_pos i))
  generalize hu : (m : Rat) * pw i = u at h1 h2 hv0
  have hv' : v = if s then -u else u := by rw [hv, ← hu]; cases s <;> simp; grind
  rw [e]
  have lo : r ≠ 0 → rv (r - 1) ≤ u := fun h0 => by
    have := h2 (r - 1)
    have h3 : ¬ u ≤ rv (r - 1) := fun h => by have := this h; omega
    grind
  have hi : r ≠ 9218868437227405312 → u ≤ rv (r + 1) := fun h0 => by
    have := h1 (r + 1)
    have h3 : ¬ rv (r + 1) ≤ u := fun h => by have := this h; omega
    grind
  have r1 := rv_nonneg 1
  by_cases c1 : r + 1 < 9218868437227405312
  · have f := fin_word s r (by omega)
    obtain ⟨_, d1⟩ := down_gen s r c1
    obtain ⟨_, u1⟩ := up_gen s r c1
    have hi := hi (by omega)
    refine ⟨fun _ => ?_, fun _ => ?_, fun _ _ => f⟩
    · rw [d1, hv']
      cases s
      · simp only [Bool.false_eq_true, if_false]
        split
        · grind
        · rename_i h; exact lo h
      · simp only [if_true]; grind
    · rw [u1, hv']
      cases s
      · simp only [Bool.false_eq_true, if_false]; exact hi
      · simp only [if_true]
        split
        · grind
        · rename_i h; have := lo h; grind
  · by_cases c2 : r = 9218868437227405312
    · have lo := lo (by omega)
      subst c2
      cases s
      · have e1 : down (Ieee.double.word false 9218868437227405312) = Ieee.double.word false 9218868437227405311 := by decide
        have e2 : up (Ieee.double.word false 9218868437227405312) = finf := by decide
        refine wide_mk e1 e2 (fun _ => ?_) (fun h => absurd h nfin_inf) (fun _ h => absurd h nfin_inf)
        rw [val_word _ _ (by decide), hv']; exact lo
      · have e1 : down (Ieee.double.word true 9218868437227405312) = fninf := by decide
        have e2 : up (Ieee.double.word true 9218868437227405312) = Ieee.double.word true 9218868437227405311 := by decide
        refine wide_mk e1 e2 (fun h => absurd h nfin_ninf) (fun _ => ?_) (fun h => absurd h nfin_ninf)
        rw [val_word _ _ (by decide), hv']
        simp only [if_true]
        have : rv 9218868437227405311 ≤ u := lo
        grind
    · have c3 : r = 9218868437227405311 := by omega
      have lo := lo (by omega)
      subst c3
      have f := fin_word s 9218868437227405311 (by decide)
      cases s
      · have e1 : down (Ieee.double.word false 9218868437227405311) = Ieee.double.word false 9218868437227405310 := by decide
        have e2 : up (Ieee.double.word false 9218868437227405311) = finf := by decide
        refine wide_mk e1 e2 (fun _ => ?_) (fun h => absurd h nfin_inf) (fun _ _ => f)
        rw [val_word _ _ (by decide), hv']; exact lo
      · have e1 : down (Ieee.double.word true 9218868437227405311) = fninf := by decide
        have e2 : up (Ieee.double.word true 9218868437227405311) = Ieee.double.word true 9218868437227405310 := by decide
        refine wide_mk e1 e2 (fun h => absurd h nfin_ninf) (fun _ => ?_) (fun _ _ => f)
        rw [val_word _ _ (by decide), hv']
        simp only [if_true]
        have : rv 9218868437227405310 ≤ u := lo
        grind
theorem add_wide {x y : Nat} (hx : fin x) (hy : fin y) : Wide (fop .add x y) (val x + val y) := by
  obtain ⟨s, m, i, hx⟩ := hx
  obtain ⟨t, n, j, hy⟩ := hy
  have hu := val_eq hx
  have hv := val_eq hy
  have : fop .add x y = cf (Ieee.double.write ((Ieee.Datum.sum (.number s m i) (.number t n j)).getD (.number false 0 0))) := by
    simp [fop, Ieee.Format.add, hx, hy, Ieee.Datum.sum]
  rw [this]
  simp only [Ieee.Datum.sum, Option.getD_some]
  refine wide_write _ _ _ ?_
  rw [hu, hv, ← signed_val s m i (min i j) (by omega), ← signed_val t n j (min i j) (by omega)]
  generalize Ieee.signed s m (i - min i j).toNat = a
  generalize Ieee.signed t n (j - min i j).toNat = b
  have e : (a : Rat) * pw (min i j) + (b : Rat) * pw (min i j) = ((a + b : Int) : Rat) * pw (min i j) := by rw [Rat.intCast_add]; grind
  rw [e]
  refine congrArg (fun z : Rat => z * pw (min i j)) ?_
  by_cases h0 : a + b = 0
  · rw [h0]; simp
  · rw [if_neg h0]
    by_cases h1 : a + b < 0
    · rw [if_pos (by simpa using h1), ← Rat.intCast_natCast, ← Rat.intCast_neg]; exact congrArg (fun z : Int => (z : Rat)) (by omega)
    · rw [if_neg (by simpa using h1), ← Rat.intCast_natCast]; exact congrArg (fun z : Int => (z : Rat)) (by omega)
theorem mul_wide {x y : Nat} (hx : fin x) (hy : fin y) : Wide (fop .mul x y) (val x * val y) := by
  obtain ⟨s, m, i, hx⟩ := hx
  obtain ⟨t, n, j, hy⟩ := hy
  have : fop .mul x y = cf (Ieee.double.write (.number (s ^^ t) (m * n) (i + j))) := by simp [fop, Ieee.Format.mul, hx, hy, Ieee.Datum.product]
  rw [this]
  refine wide_write _ _ _ ?_
  rw [val_eq hx, val_eq hy, pw_add, Rat.natCast_mul]
  cases s <;> cases t <;> simp <;> grind
end Go.Ab
namespace Go.Ab
set_option linter.unusedSimpArgs false
set_option linter.unusedVariables false
open Go Go.Proofs
def Fi (p : Iv) : Prop := fin p.1 ∧ fin p.2
structure Enc (p : Iv) (v : Rat) : Prop where
  f1 : fin p.1
  f2 : fin p.2
  lo : val p.1 ≤ v
  hi : v ≤ val p.2
theorem nfin_nan : ¬ fin qnan := fun h => by
  have := fin_not_nan h
  have e : isNan qnan = true := by decide
  rw [e] at this; cases this
theorem down_ninf : down fninf = fninf := by decide
theorem up_pinf : up finf = finf := by decide
theorem down_nan : down qnan = qnan := by decide
theorem up_nan : up qnan = qnan := by decide
theorem cw_fin {x : Nat} (h : cw x) (h1 : isNan x = false) (h2 : x ≠ finf) (h3 : x ≠ fninf) : fin x := by
  rcases h with rfl | rfl | rfl | ⟨s, r, hr, rfl⟩
  · exact absurd h1 (by decide)
  · exact absurd rfl h2
  · exact absurd rfl h3
  · exact fin_word s r hr
theorem read_pinf : Ieee.double.read finf = .infinity false := by decide
theorem read_ninf : Ieee.double.read fninf = .infinity true := by decide
theorem read_qnan : ∃ a b, Ieee.double.read qnan = .nan a b := ⟨_, _, rfl⟩
theorem cw_read {x : Nat} (h : cw x) : x = qnan ∨ x = finf ∨ x = fninf ∨ ∃ s m i, Ieee.double.read x = .number s m i := by
  rcases h with rfl | rfl | rfl | ⟨s, r, hr, rfl⟩
  · exact .inl rfl
  · exact .inr (.inl rfl)
  · exact .inr (.inr (.inl rfl))
  · exact .inr (.inr (.inr (fin_word s r hr)))
abbrev R3 (d : Option Ieee.Datum) : Nat := ((d.map Ieee.double.write).map cf).getD qnan
theorem R3_pinf : R3 (some (.infinity false)) = finf := by decide
theorem R3_ninf : R3 (some (.infinity true)) = fninf := by decide
theorem fop_add_R (x y : Nat) : fop .add x y = R3 (Ieee.Datum.sum (Ieee.double.read x) (Ieee.double.read y)) := rfl
def Nf (x : Nat) : Prop := x = qnan ∨ x = finf ∨ x = fninf
theorem cw_nf {x : Nat} (h : cw x) (hn : ¬ Nf x) : fin x := cw_fin h (by
    cases e : isNan x with
    | false => rfl
    | true =>
      exfalso
      rcases h with rfl | rfl | rfl | ⟨s, r, hr, rfl⟩
      · exact hn (.inl rfl)
      · exact hn (.inr (.inl rfl))
      · exact hn (.inr (.inr rfl))
      · rw [isNan_word s r hr] at e; cases e) (fun e => hn (.inr (.inl e))) (fun e => hn (.inr (.inr e)))
theorem add_l {x y : Nat} (hx : Nf x) (hy : cw y) : fop .add x y = x ∨ fop .add x y = qnan := by
  rw [fop_add_R]
  rcases hx with rfl | rfl | rfl <;> rcases cw_read hy with rfl | rfl | rfl | ⟨s, m, i, hd⟩
  all_goals first | (left; decide) | (right; decide) | skip
  · rw [hd]; obtain ⟨a, b, e⟩ := read_qnan; rw [e]; exact .inl rfl
  · rw [hd, read_pinf]; exact .inl R3_pinf
  · rw [hd, read_ninf]; exact .inl R3_ninf
theorem add_r {x y : Nat} (hx : Nf x) (hy : cw y) : fop .add y x = x ∨ fop .add y x = qnan := by
  rw [fop_add_R]
  rcases hx with rfl | rfl | rfl <;> rcases cw_read hy with rfl | rfl | rfl | ⟨s, m, i, hd⟩
  all_goals first | (left; decide) | (right; decide) | skip
  · rw [hd]; obtain ⟨a, b, e⟩ := read_qnan; rw [e]; exact .inl rfl
  · rw [hd, read_pinf]; exact .inl R3_pinf
  · rw [hd, read_ninf]; exact .inl R3_ninf
structure Wf (p : Iv) : Prop where
  c1 : cw p.1
  c2 : cw p.2
  i1 : p.1 = finf → p.2 = finf
  i2 : p.2 = fninf → p.1 = fninf
theorem make_fi {lo hi : Nat} (h : Fi (ivMake lo hi)) : fin lo ∧ fin hi ∧ ivMake lo hi = (lo, hi) ∧ val lo ≤ val hi := by
  unfold ivMake at h ⊢
  split at h
  · rename_i e
    rw [if_pos e]
    exact ⟨h.1, h.2, rfl, (fcmp_le h.1 h.2).1 e⟩
  · exact absurd h.1 nfin_ninf
theorem ninf_le {x : Nat} (hx : cw x) (h : fcmp .le x fninf = true) : x = fninf := by
  rcases hx with rfl | rfl | rfl | ⟨s, r, hr, rfl⟩
  · exact absurd h (by decide)
  · exact absurd h (by decide)
  · rfl
  · obtain ⟨s', m, i, hd⟩ := fin_word s r hr
    simp [fcmp, Ieee.Format.order, hd, read_ninf, Ieee.Datum.order] at h
theorem le_pinf {x : Nat} (hx : cw x) (h : fcmp .le finf x = true) : x = finf := by
  rcases hx with rfl | rfl | rfl | ⟨s, r, hr, rfl⟩
  · exact absurd h (by decide)
  · rfl
  · exact absurd h (by decide)
  · obtain ⟨s', m, i, hd⟩ := fin_word s r hr
    simp [fcmp, Ieee.Format.order, hd, read_pinf, Ieee.Datum.order] at h
theorem make_wf {lo hi : Nat} (h1 : cw lo) (h2 : cw hi) : Wf (ivMake lo hi) := by
  unfold ivMake
  split
  · rename_i e
    exact ⟨h1, h2, fun e1 => by simp only at e1 ⊢; rw [e1] at e; exact le_pinf h2 e, fun e1 => by simp only at e1 ⊢; rw [e1] at e; exact ninf_le h1 e⟩
  · exact ⟨.inr (.inr (.inl rfl)), .inr (.inl rfl), fun e => absurd e (by decide), fun e => absurd e (by decide)⟩
theorem down_cw {x : Nat} (h : cw x) : cw (down x) := by
  have key : ∀ b : Int, cw (cf (IntKind.wrap .u64 b).toNat) := fun b => cw_lt (by have := wrap_u64_range b; omega)
  unfold down nextF
  repeat' split
  · exact .inl rfl
  · exact h
  · exact cw_lt (by decide)
  · exact key _
  · exact key _
theorem add_wf (p q : Iv) : Wf (ivAdd p q) := make_wf (down_cw (fop_cw _ _ _)) (up_cw (fop_cw _ _ _))
theorem fi_add {p q : Iv} (hp : Wf p) (hq : Wf q) (h : Fi (ivAdd p q)) : Fi p ∧ Fi q := by
  obtain ⟨f1, f2, _, _⟩ := make_fi h
  have d0 : ∀ x, Nf x → fin (down x) → x = finf := fun x hx hf => by
    rcases hx with rfl | rfl | rfl
    · rw [down_nan] at hf; exact absurd hf nfin_nan
    · rfl
    · rw [down_ninf] at hf; exact absurd hf nfin_ninf
  have u0 : ∀ x, Nf x → fin (up x) → x = fninf := fun x hx hf => by
    rcases hx with rfl | rfl | rfl
    · rw [up_nan] at hf; exact absurd hf nfin_nan
    · rw [up_pinf] at hf; exact absurd hf nfin_inf
    · rfl
  have dn : ¬ fin (down qnan) := by rw [down_nan]; exact nfin_nan
  have un : ¬ fin (up qnan) := by rw [up_nan]; exact nfin_nan
  have uf : ¬ fin (up finf) := by rw [up_pinf]; exact nfin_inf
  have df : ¬ fin (down fninf) := by rw [down_ninf]; exact nfin_ninf
  have p1 : ¬ Nf p.1 := fun hn => by
    rcases add_l hn hq.c1 with e | e
    · rw [e] at f1
      have e2 := d0 _ hn f1
      have e3 := hp.i1 e2
      rcases add_l (x := p.2) (.inr (.inl e3)) hq.c2 with e4 | e4
      · rw [e4, e3] at f2; exact uf f2
      · rw [e4] at f2; exact un f2
    · rw [e] at f1; exact dn f1
  have p2 : ¬ Nf p.2 := fun hn => by
    rcases add_l hn hq.c2 with e | e
    · rw [e] at f2
      have e2 := u0 _ hn f2
      exact p1 (.inr (.inr (hp.i2 e2)))
    · rw [e] at f2; exact un f2
  have q1 : ¬ Nf q.1 := fun hn => by
    rcases add_r hn hp.c1 with e | e
    · rw [e] at f1
      have e2 := d0 _ hn f1
      have e3 := hq.i1 e2
      rcases add_r (x := q.2) (.inr (.inl e3)) hp.c2 with e4 | e4
      · rw [e4, e3] at f2; exact uf f2
      · rw [e4] at f2; exact un f2
    · rw [e] at f1; exact dn f1
  have q2 : ¬ Nf q.2 := fun hn => by
    rcases add_r hn hp.c2 with e | e
    · rw [e] at f2
      have e2 := u0 _ hn f2
      exact q1 (.inr (.inr (hq.i2 e2)))
    · rw [e] at f2; exact un f2
  exact ⟨⟨cw_nf hp.c1 p1, cw_nf hp.c2 p2⟩, cw_nf hq.c1 q1, cw_nf hq.c2 q2⟩
theorem enc_add {p q : Iv} {u v : Rat} (hp : Enc p u) (hq : Enc q v) (h : Fi (ivAdd p q)) : Enc (ivAdd p q) (u + v) := by
  obtain ⟨f1, f2, e, _⟩ := make_fi h
  have w1 := (add_wide hp.f1 hq.f1).lo f1
  have w2 := (add_wide hp.f2 hq.f2).hi f2
  have a1 := hp.lo
  have a2 := hp.hi
  have b1 := hq.lo
  have b2 := hq.hi
  unfold ivAdd
  rw [e]
  exact ⟨f1, f2, by simp only; grind, by simp only; grind⟩
structure BSpec (t : Tp) (box : List Iv) (q : List Md) (h e j d : Nat) (R : Bnd × Int) (r : Nat) : Prop where
  hr : Pw r
  er : e ≤ r
  ins : insK q box r t.n = true
  lt : R.1.bound < r
  jump : R.1.jump = j
  defect : R.1.defect = d
  norm : R.1.norm = normI (jacI t (tabI (tubI q r) t.n))
  growth : R.1.growth = growF h R.1.norm
  bound : R.1.bound = up (fop .mul R.1.growth e)
theorem bndK_spec (t : Tp) (box : List Iv) (q : List Md) (h e j d : Nat) (he : Pw e) (he0 : 0 < e) : ∀ k r, Pw r → e ≤ r → (bndK t box q h e j d k r).2 = 0 → ∃ r', BSpec t box q h e j d (bndK t box q h e j d k r) r' := by
  intro k
  induction k with
  | zero => intro r _ _ h0; simp [bndK] at h0
  | succ k ih =>
    intro r hr hle h0
    rw [bndK] at h0 ⊢
    split at h0
    · simp at h0
    · rename_i hin
      rw [if_neg hin]
      have hin : insK q box r t.n = true := by simpa using hin
      simp only at h0 ⊢
      have hg := growF_Pw h (normI (jacI t (tabI (tubI q r) t.n)))
      have hg1 := growF_one h (normI (jacI t (tabI (tubI q r) t.n)))
      have hb := Pw_mul2 hg.1 hg.2 he he0
      have hbe := Pw_mul_ge hg.1 hg1 he he0
      have hub := up_pos hb
      have hue := up_ge hb
      split at h0
      · rename_i hlt
        rw [if_pos hlt]
        exact ⟨r, hr, hle, hin, (Pw_lt hub.1 hr).1 hlt, rfl, rfl, rfl, rfl, rfl⟩
      · rename_i hlt
        rw [if_neg hlt]
        split at h0
        · simp at h0
        · rename_i hf
          rw [if_neg hf]
          refine ih _ (four_Pw hub.1).1 ?_ h0
          obtain ⟨f, v⟩ := Pw_pos (x := 4616189618054758400) (by decide) (by decide)
          have a1 := Pw_mul_ge (g := 4616189618054758400) (by unfold Pw; decide) (by decide) hub.1 hub.2
          have a2 := up_ge (Pw_mul f (by unfold Pw; decide) v hub.1)
          omega
structure PSpec (t : Tp) (box : List Iv) (z : List (List Nat)) (h : Nat) (y : List Nat) (w e r : Nat) (R : Bnd × Int) : Prop where
  b : BSpec t box (colsM z t.n) h e (bestF (jmpI z y) (t.n - 1)) (bestF (dftI t z (colsM z t.n) h) (t.n - 1)) R r
  j : Pw R.1.jump
  jf : finite R.1.jump = true
  d : Pw R.1.defect
  he : e = up (fop .add (up (fop .add w R.1.jump)) (up (fop .mul h R.1.defect)))
  ep : Pw e
  e0 : 0 < e
theorem bndP_spec (t : Tp) (box : List Iv) (z : List (List Nat)) (h : Nat) (y : List Nat) (w : Nat) (hw : Pw w) (h0 : 0 < h ∧ h < 9218868437227405312) (hR : (bndP t box z h y w).2 = 0) : ∃ e r, PSpec t box z h y w e r (bndP t box z h y w) := by
  unfold bndP at hR ⊢
  simp only at hR ⊢
  split at hR
  · simp at hR
  · rename_i hf
    rw [if_neg hf]
    have hf2 : finite (bestF (jmpI z y) (t.n - 1)) = true ∧ finite (bestF (dftI t z (colsM z t.n) h) (t.n - 1)) = true := by
      simpa using hf
    have hj : Pw (bestF (jmpI z y) (t.n - 1)) := by
      obtain ⟨i, _, e⟩ := bestF_is (jmpI z y) (t.n - 1)
      rw [e] at hf2 ⊢; exact mag_Pw hf2.1
    have hd : Pw (bestF (dftI t z (colsM z t.n) h) (t.n - 1)) := by
      obtain ⟨i, _, e⟩ := bestF_is (dftI t z (colsM z t.n) h) (t.n - 1)
      rw [e] at hf2 ⊢; exact mag_Pw hf2.2
    have he := bnd_begin hw hj hd h0
    have a1 := Pw_mul_ge (g := 4616189618054758400) (by unfold Pw; decide) (by decide) he.1 he.2
    obtain ⟨f, v⟩ := Pw_pos (x := 4616189618054758400) (by decide) (by decide)
    have a2 := up_ge (Pw_mul f (by unfold Pw; decide) v he.1)
    obtain ⟨r, hs⟩ := bndK_spec t box (colsM z t.n) h _ (bestF (jmpI z y) (t.n - 1)) (bestF (dftI t z (colsM z t.n) h) (t.n - 1)) he.1 he.2 3 _ (four_Pw he.1).1 (by omega) hR
    exact ⟨_, r, hs, by rw [hs.jump]; exact hj, by rw [hs.jump]; exact hf2.1, by rw [hs.defect]; exact hd, by rw [hs.jump, hs.defect], he.1, he.2⟩
theorem within_fi {p b : Iv} (hp : Wf p) (hb : Fi b) (h : withinI p b = true) : Fi p ∧ val b.1 ≤ val p.1 ∧ val p.2 ≤ val b.2 := by
  unfold withinI at h
  simp only [Bool.and_eq_true] at h
  obtain ⟨h1, h2⟩ := h
  have n1 : p.1 ≠ qnan := fun e => by rw [e] at h1; unfold fcmp at h1; rw [order_none_r (by decide)] at h1; simp at h1
  have n2 : p.2 ≠ qnan := fun e => by rw [e] at h2; unfold fcmp at h2; rw [order_none_l (by decide)] at h2; simp at h2
  have b2cw : ∀ x, fin x → fcmp .le finf x = false := fun x ⟨s, m, i, hd⟩ => by simp [fcmp, Ieee.Format.order, hd, read_pinf, Ieee.Datum.order]
  have b1cw : ∀ x, fin x → fcmp .le x fninf = false := fun x ⟨s, m, i, hd⟩ => by simp [fcmp, Ieee.Format.order, hd, read_ninf, Ieee.Datum.order]
  have m2 : p.2 ≠ finf := fun e => by rw [e, b2cw _ hb.2] at h2; cases h2
  have m1 : p.1 ≠ fninf := fun e => by rw [e, b1cw _ hb.1] at h1; cases h1
  have m3 : p.1 ≠ finf := fun e => m2 (hp.i1 e)
  have m4 : p.2 ≠ fninf := fun e => m1 (hp.i2 e)
  have f1 : fin p.1 := cw_nf hp.c1 (by rintro (e | e | e) <;> contradiction)
  have f2 : fin p.2 := cw_nf hp.c2 (by rintro (e | e | e) <;> contradiction)
  exact ⟨⟨f1, f2⟩, (fcmp_le hb.1 f1).1 h1, (fcmp_le f2 hb.2).1 h2⟩
theorem add_le {p q : Iv} (h : Fi (ivAdd p q)) : val (ivAdd p q).1 ≤ val (ivAdd p q).2 := by
  obtain ⟨_, _, e, h4⟩ := make_fi h
  unfold ivAdd
  rw [e]; exact h4
theorem rng_le {m : Md} (h : Fi (rngM m)) : val (rngM m).1 ≤ val (rngM m).2 := by
  unfold rngM at h ⊢; exact add_le h
theorem neg_word {r : Nat} (h : Pw r) (h0 : 0 < r) : fop .sub 0 r = Ieee.double.word true r := by
  have h1 : Ieee.double.signWeight = 9223372036854775808 := rfl
  rw [(neg_Pw h h0).1]; simp [Ieee.Format.word, h1]
theorem pm_wf {r : Nat} (h : Pw r) (h0 : 0 < r) : Wf (fop .sub 0 r, r) := by
  have hc : cw r := by
    by_cases e : r = 9218868437227405312
    · subst e; exact .inr (.inl rfl)
    · unfold Pw at h; exact .inr (.inr (.inr ⟨false, r, by omega, (word_false r).symm⟩))
  refine ⟨(show cw (fop .sub 0 r) from fop_cw _ _ _), hc, fun e => ?_, fun e => ?_⟩
  · simp only at e
    rw [(neg_Pw h h0).1] at e
    have e2 : finf = 9218868437227405312 := rfl
    rw [e2] at e; omega
  · simp only at e
    have e2 : fninf = 18442240474082181120 := rfl
    unfold Pw at h
    omega
theorem tube_in {q : List Md} {r i n : Nat} {box : List Iv} (hr : Pw r) (h0 : 0 < r) (hins : insK q box r n = true) (hi : i < n) (hb : Fi (mG box i)) : fin r ∧ 0 < val r ∧ Fi (rngM (q.getD i [])) ∧ val (rngM (q.getD i [])).1 ≤ val (rngM (q.getD i [])).2 ∧ ∀ u, Enc (rngM (q.getD i [])) u → val (mG box i).1 ≤ u - val r ∧ u + val r ≤ val (mG box i).2 := by
  unfold insK at hins
  rw [List.all_eq_true] at hins
  have hw := hins i (by simpa using hi)
  obtain ⟨hF, w1, w2⟩ := within_fi (add_wf _ _) hb hw
  obtain ⟨g1, g2⟩ := fi_add (add_wf _ _) (pm_wf hr h0) hF
  have hr1 : fin r := g2.2
  have hlt : r < 9218868437227405312 := by
    by_cases e : r = 9218868437227405312
    · subst e; exact absurd hr1 nfin_inf
    · unfold Pw at hr; omega
  have hv := (Pw_pos hlt h0).2
  have hneg : val (fop .sub 0 r) = -val r := by
    rw [neg_word hr h0, val_word true r hlt, Pw_val hlt]; rfl
  refine ⟨hr1, hv, g1, rng_le g1, fun u hu => ?_⟩
  have e1 : Enc (fop .sub 0 r, r) (val r) := ⟨g2.1, g2.2, by show val (fop .sub 0 r) ≤ _; rw [hneg]; grind, by show val r ≤ val r; exact Rat.le_refl⟩
  have e2 : Enc (fop .sub 0 r, r) (-val r) := ⟨g2.1, g2.2, by show val (fop .sub 0 r) ≤ -val r; rw [hneg]; exact Rat.le_refl, by show -val r ≤ val r; grind⟩
  have a1 := (enc_add (p := rngM (q.getD i [])) (q := (fop .sub 0 r, r)) hu e1 hF).hi
  have a2 := (enc_add (p := rngM (q.getD i [])) (q := (fop .sub 0 r, r)) hu e2 hF).lo
  exact ⟨by grind, by grind⟩
theorem tube_r {q : List Md} {r i n : Nat} {box : List Iv} (hr : Pw r) (h0 : 0 < r) (hins : insK q box r n = true) (hi : i < n) (hb : Fi (mG box i)) : fin r ∧ 0 < val r ∧ val r + val r ≤ val (mG box i).2 - val (mG box i).1 := by
  obtain ⟨h1, h2, h3, h4, h5⟩ := tube_in hr h0 hins hi hb
  have := h5 _ ⟨h3.1, h3.2, Rat.le_refl, h4⟩
  exact ⟨h1, h2, by grind⟩
structure Pbx (p : Pb) : Prop where
  y : ∀ i, i < p.t.n → ∃ k : Int, Ix (-3) (p.y.getD i 0) k ∧ k.natAbs ≤ 400
  box : ∀ i, i < p.t.n → Fi (mG p.box i) ∧ val (mG p.box i).1 = val (p.y.getD i 0) - 16 ∧ val (mG p.box i).2 = val (p.y.getD i 0) + 16
theorem ix_16 : Ix (-3) 4625196817309499392 128 := by
  have r : Ieee.double.read 4625196817309499392 = .number false 4503599627370496 (-48) := by decide
  refine ⟨⟨_, _, _, r⟩, ?_⟩
  rw [val_eq r]
  have h7 : (-3 : Int) = -48 + (45 : Nat) := by decide
  have := (congrArg pw h7).trans (pw_up _ _)
  rw [this]; simp; grind
theorem ix_8 : Ix 3 4620693217682128896 1 := by
  have r : Ieee.double.read 4620693217682128896 = .number false 4503599627370496 (-49) := by decide
  refine ⟨⟨_, _, _, r⟩, ?_⟩
  rw [val_eq r]
  have h7 : (3 : Int) = -49 + (52 : Nat) := by decide
  have := (congrArg pw h7).trans (pw_up _ _)
  rw [this]; simp
theorem valN_ix (k : Int) : Ix (-3) (valN k) (k % 65 - 32) := by
  have h1 := Int.emod_nonneg k (by decide : (65 : Int) ≠ 0)
  have h2 := Int.emod_lt_of_pos k (by decide : (0 : Int) < 65)
  exact Ix.div (Ix.ofInt _ (by omega)) ix_8 (by decide) (by decide) (by omega) (by omega) (by decide) (by decide)
theorem mkPb_box (n first least tol fin : Int) (ns ms outs : List Int) (dv : Bool) : Pbx (mkPb n first least tol fin ns ms outs dv) := by
  have hy : ∀ i, i < (mkT n ns dv).n → ∃ k : Int, Ix (-3) ((valsL (mkT n ns dv).n ms).getD i 0) k ∧ k.natAbs ≤ 32 := fun i hi => by
    unfold valsL
    rw [tabR_getD _ _ _ hi]
    generalize (if i < ms.length then ms.getD i 0 else (i : Int)) = w
    have h1 := Int.emod_nonneg w (by decide : (65 : Int) ≠ 0)
    have h2 := Int.emod_lt_of_pos w (by decide : (0 : Int) < 65)
    exact ⟨_, valN_ix w, by omega⟩
  refine ⟨fun i hi => ?_, fun i hi => ?_⟩
  · obtain ⟨k, h1, h2⟩ := hy i hi
    exact ⟨k, h1, by omega⟩
  · obtain ⟨k, h1, h2⟩ := hy i hi
    have e : mG (mkPb n first least tol fin ns ms outs dv).box i = boxE (valsL (mkT n ns dv).n ms) i := by
      show (boxL _ _).getD i _ = _
      unfold boxL
      rw [List.getD_eq_getElem?_getD, List.getElem?_map, List.getElem?_range (show i < (mkT n ns dv).n from hi)]; rfl
    rw [e]
    have a := h1.sub ix_16 (by omega) (by decide) (by decide)
    have b := h1.add ix_16 (by omega) (by decide) (by decide)
    have p16 : (128 : Rat) * pw (-3) = 16 := by
      have := pw_up (-3) 3
      rw [show (-3 : Int) + (3 : Nat) = 0 from rfl, pw_zero] at this
      have e : ((2 ^ 3 : Nat) : Rat) = 8 := rfl
      grind
    refine ⟨⟨a.fin, b.fin⟩, ?_, ?_⟩
    · show val (fop .sub _ _) = val ((valsL (mkT n ns dv).n ms).getD i 0) - 16
      rw [a.val, h1.val, Rat.intCast_sub]
      have : ((128 : Int) : Rat) = 128 := rfl
      grind
    · show val (fop .add _ _) = val ((valsL (mkT n ns dv).n ms).getD i 0) + 16
      rw [b.val, h1.val, Rat.intCast_add]
      have : ((128 : Int) : Rat) = 128 := rfl
      grind
def c9 : Nat := 4472406533629990549
theorem below_val {a b : Nat} (fb : fin b) (hb : Pw b) (hab : a ≤ b) : a < 9218868437227405312 ∧ b < 9218868437227405312 ∧ val a ≤ val b ∧ 0 ≤ val a := by
  have h : b < 9218868437227405312 := by
    by_cases e : b = 9218868437227405312
    · subst e; exact absurd fb nfin_inf
    · unfold Pw at hb; omega
  exact ⟨by omega, h, by rw [Pw_val (by omega), Pw_val h]; exact rv_mono hab, by rw [Pw_val (by omega)]; exact rv_nonneg _⟩
theorem mul_inf_l {e : Nat} (he : Pw e) (h0 : 0 < e) : fop .mul 9218868437227405312 e = 9218868437227405312 := by
  have h9 : cf (Ieee.double.write (.infinity false)) = 9218868437227405312 := by decide
  unfold fop Ieee.Format.mul
  simp only
  rcases Pw_read he with ⟨n, j, r2⟩ | rfl
  · rw [r2, read_inf]
    obtain ⟨l2, v2⟩ := num_lt he r2
    have hm : n ≠ 0 := by
      rintro rfl
      have := rv_lt h0
      rw [rv_zero, v2] at this
      simp at this
    have e : Ieee.Datum.product (.infinity false) (.number false n j) = some (.infinity false) := by simp only [Ieee.Datum.product, hm, if_false, Bool.xor_self]
    rw [e]
    simp only [Option.map_some, Option.getD_some, h9]
  · rw [read_inf]
    have e : Ieee.Datum.product (.infinity false) (.infinity false) = some (.infinity false) := by simp only [Ieee.Datum.product, Bool.xor_self]
    rw [e]
    simp only [Option.map_some, Option.getD_some, h9]
structure BVal (B : Bnd) (w X e : Nat) : Prop where
  ef : fin e
  e16 : val e ≤ 16
  wl : w < 9218868437227405312
  jl : B.jump < 9218868437227405312
  xl : X < 9218868437227405312
  w0 : 0 ≤ val w
  j0 : 0 ≤ val B.jump
  x0 : 0 ≤ val X
  lo : val w + val B.jump + val X ≤ val e
  hi : val e ≤ val w + val B.jump + val X + (eps + eps)
  bf : fin B.bound
  bl : B.bound < 9218868437227405312
  b16 : val B.bound ≤ 16
  gf : fin B.growth
  g1 : 1 ≤ val B.growth
  be : val e ≤ val B.bound
  bg : val B.bound ≤ val B.growth * val e + eps
theorem p_vals {t : Tp} {box : List Iv} {z : List (List Nat)} {h w e r i : Nat} {y : List Nat} {R : Bnd × Int} (hb16 : Fi (mG box i) ∧ val (mG box i).2 - val (mG box i).1 ≤ 32) (hn : i < t.n) (hw : Pw w) (hs : PSpec t box z h y w e r R) (h0 : 0 < h ∧ h < 9218868437227405312) :
    BVal R.1 w (up (fop .mul h R.1.defect)) e := by
  obtain ⟨b1, b2⟩ := hb16
  have hr0 : 0 < r := by have := hs.b.er; have := hs.e0; omega
  obtain ⟨f, v0, v1⟩ := tube_r hs.b.hr hr0 hs.b.ins hn b1
  obtain ⟨e1, e2, e3, e4⟩ := below_val f hs.b.hr hs.b.er
  obtain ⟨c1, c2, c3, c4⟩ := below_val f hs.b.hr (Nat.le_of_lt hs.b.lt)
  have ef := Pw_fin e1
  obtain ⟨f2, v⟩ := Pw_pos h0.2 h0.1
  have a1 := Pw_add hw hs.j
  have a2 := Pw_mul f2 (by unfold Pw; omega) v hs.d
  have a3 := (up_pos a1).1
  have a4 := (up_pos a2).1
  have w1 := Pw_add_ge hw hs.j
  have w2 := up_ge a1
  have w3 := Pw_add_ge a3 a4
  have w4 := up_ge (Pw_add a3 a4)
  have he := hs.he
  have le1 : w ≤ e := by omega
  have le2 : R.1.jump ≤ e := by omega
  have le3 : up (fop .mul h R.1.defect) ≤ e := by omega
  have le4 : up (fop .add w R.1.jump) ≤ e := by omega
  obtain ⟨l1, _, l3, l4⟩ := below_val ef hs.ep le1
  obtain ⟨m1, _, m3, m4⟩ := below_val ef hs.ep le2
  obtain ⟨n1, _, n3, n4⟩ := below_val ef hs.ep le3
  obtain ⟨o1, _, o3, o4⟩ := below_val ef hs.ep le4
  have ep := eps_pos
  have s1 := (fop_add (Pw_fin l1) (Pw_fin m1) (small_big (rabs_le (by grind) (by grind)))).small (show rabs (val w + val R.1.jump) ≤ 4000 from rabs_le (by grind) (by grind))
  have s2 := (fop_add (Pw_fin o1) (Pw_fin n1) (small_big (rabs_le (by grind) (by grind)))).small (show rabs (val (up (fop .add w R.1.jump)) + val (up (fop .mul h R.1.defect))) ≤ 4000 from rabs_le (by grind) (by grind))
  have ev : val e = val (up (fop .add (up (fop .add w R.1.jump)) (up (fop .mul h R.1.defect)))) := by rw [← he]
  -- the bound
  have hg := growF_Pw h R.1.norm
  have hg1 := growF_one h R.1.norm
  rw [← hs.b.growth] at hg hg1
  have hm := Pw_mul2 hg.1 hg.2 hs.ep hs.e0
  have hbd := hs.b.bound
  have ml : fop .mul R.1.growth e < 9218868437227405312 := by
    by_cases e : fop .mul R.1.growth e = 9218868437227405312
    · rw [e, up_inf] at hbd; omega
    · unfold Pw at hm; omega
  have gl : R.1.growth < 9218868437227405312 := by
    by_cases e : R.1.growth = 9218868437227405312
    · rw [e, mul_inf_l hs.ep hs.e0] at ml; omega
    · have := hg.1; unfold Pw at this; omega
  have gf := Pw_fin gl
  have g1 : 1 ≤ val R.1.growth := by
    have := rv_mono hg1
    rw [← Pw_val (by decide : oneW < _), ← Pw_val gl] at this
    rwa [v1W] at this
  have hwd := (mul_wide gf ef).hi (by rw [← hbd]; exact Pw_fin c1)
  rw [← hbd] at hwd
  have hp0 : 0 ≤ val R.1.growth * val e := Rat.mul_nonneg (by grind) e4
  have s3 := (fop_mul gf ef (small_big (rabs_le (by grind) (by grind)))).small (show rabs (val R.1.growth * val e) ≤ 4000 from rabs_le (by grind) (by grind))
  rw [← hbd] at s3
  have hge := Rat.mul_le_mul_of_nonneg_right g1 e4
  exact ⟨ef, by grind, l1, m1, n1, l4, m4, n4, by grind, by grind, Pw_fin c1, c1, by grind, gf, g1, by grind, by grind⟩
theorem div_small {x g : Nat} (hx : fin x) (hg : fin g) (h1 : 1 ≤ val g) (h0 : 0 ≤ val x) (h16 : val x ≤ 16) : fin (fop .div x g) ∧ ∃ q, q * val g = val x ∧ 0 ≤ q ∧ q ≤ 16 ∧ val (fop .div x g) ≤ q + eps := by
  have hg0 : val g ≠ 0 := by grind
  have hq : val x / val g * val g = val x := Rat.div_mul_cancel hg0
  generalize val x / val g = q at hq
  have q0 : 0 ≤ q := by
    by_cases h : 0 ≤ q
    · exact h
    · have := Rat.mul_pos (show 0 < -q by grind) (show 0 < val g by grind); grind
  have q16 : q ≤ 16 := by
    have := Rat.mul_le_mul_of_nonneg_left h1 q0
    grind
  have aq := rabs_of_nonneg q0
  have Q := fop_div hx hg hg0 hq (small_big (x := 2 * q) (by rw [rabs_of_nonneg (by grind)]; grind) |> fun h => by rw [aq]; rw [rabs_of_nonneg (by grind)] at h; grind)
  refine ⟨Q.fin, q, hq, q0, q16, ?_⟩
  have er := Q.err
  have se := small_err (x := q) (by rw [aq]; grind)
  have l := le_rabs (val (fop .div x g) - q)
  have p1 := pw_mono (show (-1075 : Int) ≤ -1074 by decide)
  have ee := eps_eq
  have p3 := pw_pos (-39)
  grind
theorem div_le {x g r : Nat} (hx : fin x) (hg : fin g) (hr : val x = rv r) (h1 : 1 ≤ val g) (h16 : val x ≤ 16) (hg2 : val g = 1 ∨ 1 + pw (-52) ≤ val g) : fin (fop .div x g) ∧ val (fop .div x g) ≤ val x := by
  have h0 : 0 ≤ val x := by rw [hr]; exact rv_nonneg _
  have hg0 : val g ≠ 0 := by grind
  have hq : val x / val g * val g = val x := Rat.div_mul_cancel hg0
  generalize val x / val g = q at hq
  have q0 : 0 ≤ q := by
    by_cases h : 0 ≤ q
    · exact h
    · have := Rat.mul_pos (show 0 < -q by grind) (show 0 < val g by grind); grind
  have q16 : q ≤ 16 := by
    have := Rat.mul_le_mul_of_nonneg_left h1 q0
    grind
  have aq := rabs_of_nonneg q0
  have b16 : (16 : Rat) + 16 ≤ big := by
    have := small_big (x := 32) (by rw [rabs_of_nonneg (by decide)]; decide)
    rw [rabs_of_nonneg (by decide)] at this
    grind
  have Q := fop_div hx hg hg0 hq (by rw [aq]; grind)
  refine ⟨Q.fin, ?_⟩
  obtain ⟨s, m, i, dx⟩ := hx
  obtain ⟨t, n, j, dg⟩ := hg
  have vx := val_eq dx
  have vy := val_eq dg
  have ax : rabs (val x) = (m : Rat) * pw i := by rw [vx]; exact rabs_dval s m i
  have ay : rabs (val g) = (n : Rat) * pw j := by rw [vy]; exact rabs_dval t n j
  have hn : n ≠ 0 := by
    rintro rfl
    have : ((0 : Nat) : Rat) = 0 := rfl
    rw [this] at vy
    apply hg0; rw [vy]; split <;> grind
  have haq : rabs q * ((n : Rat) * pw j) = (m : Rat) * pw i := by rw [← ay, ← ax, ← rabs_mul, hq]
  obtain ⟨p1, p2, p3, p4⟩ := quot_spec m n i j hn (rabs q) haq (54 + n.log2 - m.log2) rfl
  have e : fop .div x g = cf (Ieee.double.write (.number (s ^^ t) (2 * ((m <<< (54 + n.log2 - m.log2)) / n) + ((m <<< (54 + n.log2 - m.log2)) % n != 0).toNat) (i - j - (54 + n.log2 - m.log2 : Nat) - 1))) := by
    have q1 : Ieee.double.fractionBits = 52 := rfl
    simp [fop, Ieee.Format.div, dx, dg, Ieee.Datum.quotient, hn, q1]
  generalize 54 + n.log2 - m.log2 = more at p2 p3 p4 e
  generalize 2 * ((m <<< more) / n) + ((m <<< more) % n != 0).toNat = d at p2 p3 p4 e
  generalize i - j - (more : Int) - 1 = c at p2 p3 p4 e
  rw [aq] at p2
  have p5 := le_rabs ((d : Rat) * pw c - q)
  have p54 := half_big (q := q) (by rw [aq]; grind)
  rw [aq] at p54
  have hw := write_rnd (s ^^ t) d c (by grind)
  rw [← e] at hw
  have hd0 : 0 ≤ (d : Rat) * pw c := Rat.mul_nonneg Rat.natCast_nonneg (Rat.le_of_lt (pw_pos c))
  have har := rabs_dval (s ^^ t) d c
  have l1 := le_rabs (val (fop .div x g))
  have dz : (d : Rat) * pw c ≤ val x := by
    rcases hg2 with h2 | h2
    · rw [h2] at hq
      have hq2 : q = val x := by grind
      by_cases hz : val x = 0
      · rw [hq2, hz] at p5; grind
      · have k53 : ∃ k : Nat, ∃ e : Int, k < 9007199254740992 ∧ rv r = (k : Rat) * pw e := by
          obtain ⟨E, kept, h3, h4, h5⟩ := rung_form r
          exact ⟨kept, _, h4, by rw [h3]; exact rv_norm E kept (by omega) h5⟩
        obtain ⟨k, ee, hk, hke⟩ := k53
        have := p3 k ee hk (by rw [aq, hq2, hr, hke])
        rw [this, aq, hq2]; exact Rat.le_refl
    · have h3 := Rat.mul_le_mul_of_nonneg_left h2 q0
      have h4 := pw_mono (show (-54 : Int) ≤ -52 by decide)
      have h5 := Rat.mul_le_mul_of_nonneg_left h4 q0
      grind
  have := hw.le r (by rw [har, ← hr]; exact dz)
  rw [← hr] at this
  grind
theorem one_gap {g : Nat} (hg : g < 9218868437227405312) (h1 : oneW ≤ g) : val g = 1 ∨ 1 + pw (-52) ≤ val g := by
  by_cases e : g = oneW
  · subst e; exact .inl v1W
  · right
    have h2 : oneW + 1 ≤ g := by omega
    have h3 := rv_mono h2
    rw [← Pw_val hg] at h3
    have h4 := rv_norm 1022 4503599627370497 (by decide) (by decide)
    have h5 : 1022 * 4503599627370496 + 4503599627370497 = oneW + 1 := by decide
    rw [h5] at h4
    have h6 := pw52 (-52)
    rw [show (-52 : Int) + 52 = 0 from rfl, pw_zero] at h6
    rw [h4, show (-1074 : Int) + ((1022 : Nat) : Int) = -52 from rfl] at h3
    have e7 : ((4503599627370497 : Nat) : Rat) = 4503599627370497 := rfl
    rw [e7] at h3
    grind
theorem more_law {t : Tp} {box : List Iv} {z : List (List Nat)} {h u v e r e' r' i : Nat} {y : List Nat} {R R' : Bnd × Int} (hb16 : Fi (mG box i) ∧ val (mG box i).2 - val (mG box i).1 ≤ 32) (hn : i < t.n) (hu : Pw u) (hv : Pw v)
    (hs : PSpec t box z h y u e r R) (hs' : PSpec t box z h y v e' r' R') (h0 : 0 < h ∧ h < 9218868437227405312) (huv : val u + pw (-12) ≤ val v) :
    fcmp .ge R'.1.bound (fop .div R.1.bound R.1.growth) = true ∧ fcmp .ge R'.1.bound v = true := by
  have a := p_vals hb16 hn hu hs h0
  have b := p_vals hb16 hn hv hs' h0
  obtain ⟨df, q, q1, q2, q3, q4⟩ := div_small a.bf a.gf a.g1 (by have := a.be; have := a.lo; have := a.w0; have := a.j0; have := a.x0; grind) a.b16
  have jj : R'.1.jump = R.1.jump := by rw [hs.b.jump, hs'.b.jump]
  have dd : R'.1.defect = R.1.defect := by rw [hs.b.defect, hs'.b.defect]
  have bl := b.lo
  rw [jj, dd] at bl
  have ah := a.hi
  have be := b.be
  have bg := a.bg
  have g1 := a.g1
  have ep := eps_pos
  have qe : q ≤ val e + eps := by
    by_cases hc : q ≤ val e + eps
    · exact hc
    · have h1 : 0 ≤ q - val e - eps := by grind
      have h2 := Rat.mul_le_mul_of_nonneg_left g1 h1
      have h3 := Rat.mul_le_mul_of_nonneg_right g1 (Rat.le_of_lt ep)
      grind
  have e4 : eps + eps + (eps + eps) ≤ pw (-12) := by
    have h1 := pw_mono (show (-34 : Int) ≤ -12 by decide)
    have h2 := pw_succ (-36)
    have h3 := pw_succ (-35)
    rw [show (-36 : Int) + 1 = -35 from rfl] at h2
    rw [show (-35 : Int) + 1 = -34 from rfl] at h3
    have : eps = pw (-36) := rfl
    grind
  refine ⟨(fcmp_ge b.bf df).2 (by grind), (fcmp_ge b.bf (Pw_fin b.wl)).2 ?_⟩
  have := b.j0
  have := b.x0
  have := b.lo
  grind
theorem same_law {t : Tp} {box : List Iv} {z : List (List Nat)} {h u e r i : Nat} {y : List Nat} {R : Bnd × Int} (hb16 : Fi (mG box i) ∧ val (mG box i).2 - val (mG box i).1 ≤ 32) (hn : i < t.n) (hu : Pw u)
    (hs : PSpec t box z h y u e r R) (h0 : 0 < h ∧ h < 9218868437227405312) :
    fcmp .ge R.1.bound (fop .div R.1.bound R.1.growth) = true ∧ fcmp .ge R.1.bound u = true := by
  have a := p_vals hb16 hn hu hs h0
  have hg := growF_Pw h R.1.norm
  have hg1 := growF_one h R.1.norm
  rw [← hs.b.growth] at hg hg1
  obtain ⟨gl, _⟩ := below_val a.gf hg.1 (Nat.le_refl _)
  obtain ⟨f, v⟩ := div_le a.bf a.gf (Pw_val a.bl) a.g1 a.b16 (one_gap gl hg1)
  refine ⟨(fcmp_ge a.bf f).2 v, (fcmp_ge a.bf (Pw_fin a.wl)).2 ?_⟩
  have := a.j0
  have := a.x0
  have := a.lo
  have := a.be
  grind
theorem ix_4096 : Ix 12 4661225614328463360 1 := by
  have r : Ieee.double.read 4661225614328463360 = .number false 4503599627370496 (-40) := by decide
  refine ⟨⟨_, _, _, r⟩, ?_⟩
  rw [val_eq r]
  have h7 : (12 : Int) = -40 + (52 : Nat) := by decide
  have := (congrArg pw h7).trans (pw_up _ _)
  rw [this]; simp
theorem wB_ix (b : Int) : Ix (-12) (wB b) (b % 50) := by
  have h1 := Int.emod_nonneg b (by decide : (50 : Int) ≠ 0)
  have h2 := Int.emod_lt_of_pos b (by decide : (0 : Int) < 50)
  exact Ix.div (Ix.ofInt _ (by omega)) ix_4096 (by decide) (by decide) (by omega) (by omega) (by decide) (by decide)
theorem wB_chk0 : ((List.range 50).all fun i => decide (fop .add (fop .div (FloatKind.nearest .f64 (i : Int)) 4661225614328463360) (fop .div (FloatKind.nearest .f64 0) 4661225614328463360) = fop .div (FloatKind.nearest .f64 (i : Int)) 4661225614328463360)) = true := by kernel_rfl
theorem wB_zero (a b : Int) (h : b % 50 = 0) : fop .add (wB a) (wB b) = wB a := by
  have h1 := Int.emod_nonneg a (by decide : (50 : Int) ≠ 0)
  have h2 := Int.emod_lt_of_pos a (by decide : (0 : Int) < 50)
  obtain ⟨i, hi⟩ : ∃ i : Nat, a % 50 = i := ⟨(a % 50).toNat, by omega⟩
  have := List.all_eq_true.1 wB_chk0 i (by simp; omega)
  unfold wB
  rw [hi, h]
  exact of_decide_eq_true this
theorem wB_more (a b : Int) (h : b % 50 ≠ 0) : val (wB a) + pw (-12) ≤ val (fop .add (wB a) (wB b)) := by
  have h1 := Int.emod_nonneg a (by decide : (50 : Int) ≠ 0)
  have h2 := Int.emod_lt_of_pos a (by decide : (0 : Int) < 50)
  have h3 := Int.emod_nonneg b (by decide : (50 : Int) ≠ 0)
  have h4 := Int.emod_lt_of_pos b (by decide : (0 : Int) < 50)
  have x := (wB_ix a).add (wB_ix b) (by omega) (by decide) (by decide)
  rw [x.val, (wB_ix a).val, Rat.intCast_add]
  have q1 : (1 : Rat) ≤ ((b % 50 : Int) : Rat) := by exact_mod_cast Rat.intCast_le_intCast.2 (show (1 : Int) ≤ b % 50 by omega)
  have q2 := Rat.mul_le_mul_of_nonneg_right q1 (Rat.le_of_lt (pw_pos (-12)))
  grind
theorem more_law2 {p : Pb} {z : List (List Nat)} {h : Nat} {y : List Nat} (a b : Int) (hx : Pbx p) (hn : 0 < p.t.n) (h0 : 0 < h ∧ h < 9218868437227405312) :
    (bndP p.t p.box z h y (wB a)).2 ≠ 0 ∨ (bndP p.t p.box z h y (fop .add (wB a) (wB b))).2 ≠ 0 ∨ ((bndP p.t p.box z h y (wB a)).2 = 0 ∧ (bndP p.t p.box z h y (fop .add (wB a) (wB b))).2 = 0 ∧
      fcmp .ne (bndP p.t p.box z h y (wB a)).1.jump (bndP p.t p.box z h y (fop .add (wB a) (wB b))).1.jump = false ∧ fcmp .ne (bndP p.t p.box z h y (wB a)).1.defect (bndP p.t p.box z h y (fop .add (wB a) (wB b))).1.defect = false ∧
      fcmp .ge (bndP p.t p.box z h y (fop .add (wB a) (wB b))).1.bound (fop .div (bndP p.t p.box z h y (wB a)).1.bound (bndP p.t p.box z h y (wB a)).1.growth) = true ∧ fcmp .ge (bndP p.t p.box z h y (fop .add (wB a) (wB b))).1.bound (fop .add (wB a) (wB b)) = true) := by
  have hu := wB_Pw a
  have hv := Pw_add hu (wB_Pw b)
  obtain ⟨b1, b2, b3⟩ := hx.box 0 hn
  have hb16 : Fi (mG p.box 0) ∧ val (mG p.box 0).2 - val (mG p.box 0).1 ≤ 32 := ⟨b1, by grind⟩
  by_cases e1 : (bndP p.t p.box z h y (wB a)).2 = 0
  · by_cases e2 : (bndP p.t p.box z h y (fop .add (wB a) (wB b))).2 = 0
    · refine .inr (.inr ⟨e1, e2, ?_⟩)
      obtain ⟨e, r, s⟩ := bndP_spec p.t p.box z h y (wB a) hu h0 e1
      obtain ⟨e', r', s'⟩ := bndP_spec p.t p.box z h y (fop .add (wB a) (wB b)) hv h0 e2
      have jj : (bndP p.t p.box z h y (fop .add (wB a) (wB b))).1.jump = (bndP p.t p.box z h y (wB a)).1.jump := by rw [s.b.jump, s'.b.jump]
      have dd : (bndP p.t p.box z h y (fop .add (wB a) (wB b))).1.defect = (bndP p.t p.box z h y (wB a)).1.defect := by rw [s.b.defect, s'.b.defect]
      have ne : ∀ x, Pw x → fcmp .ne x x = false := fun x hx => by
        have := fcmp_eq_self x
        rw [Pw_nan hx] at this
        unfold fcmp at this ⊢
        revert this
        cases Ieee.double.order x x with
        | none => simp
        | some o => cases o <;> simp
      rw [jj, dd]
      refine ⟨ne _ s.j, ne _ s.d, ?_⟩
      by_cases hb : b % 50 = 0
      · have := same_law hb16 hn hu s h0
        rw [wB_zero a b hb]; exact this
      · exact more_law hb16 hn hu hv s s' h0 (wB_more a b hb)
    · exact .inr (.inl e2)
  · exact .inl e1
def A_l11_BoundMore_L0 : CA := (.seq (.seq (.reg [i_M 0 38 13, i_M 1 39 1, i_X 2 40 (.callA (kF 15) [(.t 39), (kI 8)]), i_X 3 41 (.h (.ibin .add (kI 3) (.t 40))), i_N 4 42 .lss 38 41] [1, 9, 10, 11, 12, 13, 42]) (.cond (.t 42) .skip (.exit 0))) (.seq (.block 1 (.seq (.reg [i_A 0 45 9 13, i_A 1 46 10 8, i_X 2 47 (.callA (kF 16) [(.t 45), (.t 46)]), i_X 3 14 (.alloc [(.d (.int .i64 0)), (.d (.int .i64 0)), (.d (.int .i64 0)), (.d (.int .i64 0)), .nil, (.d (.int .i64 0)), (.d (.int .i64 0)), (.d (.int .i64 0)), (.d (.int .i64 0)), (.d (.int .i64 0)), (.d (.int .i64 0)), (.d (.int .i64 0)), .nil, (.d (.bool false)), (.d (.flt 0)), (.d (.int .i64 0))] 43), i_S 4 14 47 16] [1, 9, 10, 11, 12, 13, 14]) (.seq (.seq (.reg [i_P 0 48 14 13, i_L 1 49 48 1] [1, 9, 10, 11, 12, 13, 14, 49]) (.cond (.t 49) (.seq (.reg [i_A 0 51 9 13, i_P 1 52 14 8, i_A 2 53 52 5, i_P 3 54 10 0, i_P 4 55 54 4, i_L 5 56 55 1, i_X 6 57 (.h (.idx (.t 56) (kI 0) 1)), i_L 7 58 57 1, i_M 8 59 11, i_X 9 60 (.callS 0 (kF 17) [(.t 51), (.t 53), (.t 58), (.t 59)]), i_M 10 50 60, i_X 11 61 (.h (.ext (.t 50) 0)), i_X 12 62 (.h (.ext (.t 50) 1)), i_X 13 15 (.alloc z_5 46), i_S 14 15 61 5, i_M 15 16 62] [1, 9, 10, 11, 12, 13, 14, 15, 16]) (.seq (.reg [i_A 0 64 9 13, i_P 1 65 14 8, i_A 2 66 65 5, i_P 3 67 10 0, i_P 4 68 67 4, i_L 5 69 68 1, i_X 6 70 (.h (.idx (.t 69) (kI 0) 1)), i_L 7 71 70 1, i_M 8 72 12, i_X 9 73 (.callS 0 (kF 17) [(.t 64), (.t 66), (.t 71), (.t 72)]), i_M 10 63 73, i_X 11 74 (.h (.ext (.t 63) 0)), i_X 12 75 (.h (.ext (.t 63) 1)), i_X 13 17 (.alloc z_5 46), i_S 14 17 74 5, i_M 15 18 75] [1, 9, 10, 11, 12, 13, 14, 15, 16, 17, 18]) (.seq (.reg [i_M 0 76 18, i_B 1 77 .eql 76 0, i_M 2 78 77, ⟨3, (some 79), (some (78, true)), [], [], (.h (.mov (.t 16)))⟩, ⟨4, (some 80), (some (78, true)), [], [], (.h (.ibin .eql (.t 79) (kI 0)))⟩, i_X 5 81 (.h (.pick (.t 78) (.t 80) (.k (.d (.bool false))))), i_M 6 82 81, ⟨7, (some 83), (some (82, true)), [], [], (.h (.padd (.t 15) 0))⟩, ⟨8, (some 84), (some (82, true)), [], [], (.load (.t 83) 1 false)⟩, ⟨9, (some 85), (some (82, true)), [], [], (.h (.padd (.t 17) 0))⟩, ⟨10, (some 86), (some (82, true)), [], [], (.load (.t 85) 1 false)⟩, ⟨11, (some 87), (some (82, true)), [], [], (.h (.fcmp .ne (.t 84) (.t 86)))⟩, ⟨12, (some 88), (some (82, true)), [], [], (.h (.mov (.t 87)))⟩, ⟨13, (some 89), (some (88, false)), [], [], (.h (.padd (.t 15) 1))⟩, ⟨14, (some 90), (some (88, false)), [], [], (.load (.t 89) 1 false)⟩, ⟨15, (some 91), (some (88, false)), [], [], (.h (.padd (.t 17) 1))⟩, ⟨16, (some 92), (some (88, false)), [], [], (.load (.t 91) 1 false)⟩, ⟨17, (some 93), (some (88, false)), [], [], (.h (.fcmp .ne (.t 90) (.t 92)))⟩, ⟨18, (some 94), (some (82, true)), [], [], (.h (.pick (.t 88) (.k (.d (.bool true))) (.t 93)))⟩, ⟨19, (some 95), (some (82, true)), [], [], (.h (.mov (.t 94)))⟩, ⟨20, (some 96), (some (95, false)), [], [], (.h (.padd (.t 17) 4))⟩, ⟨21, (some 97), (some (95, false)), [], [], (.load (.t 96) 1 false)⟩, ⟨22, (some 98), (some (95, false)), [], [], (.h (.padd (.t 15) 4))⟩, ⟨23, (some 99), (some (95, false)), [], [], (.load (.t 98) 1 false)⟩, ⟨24, (some 100), (some (95, false)), [], [], (.h (.padd (.t 15) 3))⟩, ⟨25, (some 101), (some (95, false)), [], [], (.load (.t 100) 1 false)⟩, ⟨26, (some 102), (some (95, false)), [], [], (.h (.fbin .div (.t 99) (.t 101)))⟩, ⟨27, (some 103), (some (95, false)), [], [], (.h (.fcmp .ge (.t 97) (.t 102)))⟩, ⟨28, (some 104), (some (95, false)), [], [], (.h (.un .not (.t 103)))⟩, ⟨29, (some 105), (some (82, true)), [], [], (.h (.pick (.t 95) (.k (.d (.bool true))) (.t 104)))⟩, ⟨30, (some 106), (some (82, true)), [], [], (.h (.mov (.t 105)))⟩, ⟨31, (some 107), (some (106, false)), [], [], (.h (.padd (.t 17) 4))⟩, ⟨32, (some 108), (some (106, false)), [], [], (.load (.t 107) 1 false)⟩, ⟨33, (some 109), (some (106, false)), [], [], (.h (.mov (.t 12)))⟩, ⟨34, (some 110), (some (106, false)), [], [], (.h (.fcmp .ge (.t 108) (.t 109)))⟩, ⟨35, (some 111), (some (106, false)), [], [], (.h (.un .not (.t 110)))⟩, ⟨36, (some 112), (some (82, true)), [], [], (.h (.pick (.t 106) (.k (.d (.bool true))) (.t 111)))⟩, i_X 37 113 (.h (.pick (.t 82) (.t 112) (.k (.d (.bool false)))))] [1, 9, 10, 11, 12, 13, 14, 113]) (.cond (.t 113) (.seq (.reg [i_X 0 8 (.h (.mov (.k (.d (.bool false)))))] [8]) .ret) .skip)))) .skip)) (.seq (.seq (.reg [i_P 0 114 14 15, i_L 1 115 114 1, i_B 2 116 .neq 115 0] [1, 9, 10, 11, 12, 13, 14, 116]) (.cond (.t 116) (.seq (.reg [i_X 0 8 (.h (.mov (.k (.d (.bool true)))))] [8]) .ret) .skip)) (.reg [i_P 0 117 14 0, i_A 1 118 117 8, i_S 2 10 118 8] [1, 9, 10, 11, 12, 13]))))) (.reg [i_M 0 43 13, i_B 1 44 .add 43 1, i_M 2 13 44] [1, 9, 10, 11, 12, 13])))
def A_l11_BoundMore : CA := (.seq (.reg [i_X 0 4 (.box (.t 0) 9 24), i_X 1 8 (.h (.mov (.k (.d (.bool false)))))] [1, 2, 3, 4]) (.seq (.seq (.reg [i_X 0 19 (.callA (kF 11) []), i_X 1 20 (.h (.un .not (.t 19)))] [1, 2, 3, 4, 20]) (.cond (.t 20) (.seq (.reg [i_X 0 8 (.h (.mov (.k (.d (.bool false)))))] [8]) .ret) .skip)) (.seq (.seq (.reg [i_A 0 21 4 9, i_X 1 22 (.callA (kF 12) [(.t 21)]), i_X 2 23 (.h (.un .not (.t 22)))] [1, 2, 3, 4, 23]) (.cond (.t 23) (.seq (.reg [i_X 0 8 (.h (.mov (.k (.d (.bool true)))))] [8]) .ret) .skip)) (.seq (.reg [i_A 0 24 4 9, i_X 1 25 (.callA (kF 13) [(.t 24)]), i_X 2 9 (.alloc [(.d (.int .i64 0)), .nil, .nil, .nil, .nil, (.d (.int .i64 0)), (.d (.int .i64 0)), (.d (.int .i64 0)), (.d (.flt 0)), (.d (.flt 0)), (.d (.flt 0)), (.d (.int .i64 0)), .nil] 33), i_S 3 9 25 13] [1, 2, 3, 9]) (.seq (.reg [i_A 0 26 9 13, i_X 1 27 (.callA (kF 14) [(.t 26)]), i_X 2 10 (.alloc [(.d (.int .i64 0)), (.d (.int .i64 0)), (.d (.int .i64 0)), (.d (.int .i64 0)), .nil, (.d (.int .i64 0)), (.d (.int .i64 0)), (.d (.int .i64 0))] 39), i_S 3 10 27 8] [1, 2, 3, 9, 10]) (.seq (.reg [i_M 0 28 2, i_X 1 29 (.callA (kF 15) [(.t 28), (kI 50)]), i_X 2 30 (.h (.i2f (.t 29))), i_X 3 31 (.h (.fbin .div (.t 30) (.k (.d (.flt 4661225614328463360))))), i_M 4 11 31] [1, 3, 9, 10, 11]) (.seq (.reg [i_M 0 32 11, i_M 1 33 3, i_X 2 34 (.callA (kF 15) [(.t 33), (kI 50)]), i_X 3 35 (.h (.i2f (.t 34))), i_X 4 36 (.h (.fbin .div (.t 35) (.k (.d (.flt 4661225614328463360))))), i_F 5 37 .add 32 36, i_M 6 12 37] [1, 9, 10, 11, 12]) (.seq (.seq (.reg [i_K 0 13 0] [1, 9, 10, 11, 12, 13]) (.block 0 (.loop A_l11_BoundMore_L0))) (.seq (.reg [i_X 0 8 (.h (.mov (.k (.d (.bool true)))))] [8]) .ret)))))))))
theorem A_l11_BoundMore_comp : compF Tryz.prog 5 = some ⟨119, [(8, none)], A_l11_BoundMore.strip⟩ := by kernel_rfl
set_option maxRecDepth 8000 in
theorem l11_BoundMore_con (n first least tol fin : Int) (ns ms outs : List Int) (dv : Bool) (steps a b : Int) : Con Tryz.prog 5 [.agg (shC n first least tol fin ns ms outs dv), fI steps, fI a, fI b] (fB true) := by
  refine Con_introA A_l11_BoundMore_comp rfl mixed ?_
  refine evx @A_l11_BoundMore.eq_1 ?_
  refine callG_con (l11_known_con) rfl ?_
  refine ev ?_
  refine callG_con (l10_Few_con n first least tol fin ns ms outs dv) rfl ?_
  by_cases hfew : ns.length ≤ 60 ∧ ms.length ≤ 60 ∧ outs.length ≤ 60
  · rw [decide_eq_true hfew]
    refine ev ?_
    refine callG_con (l10_Make_con n first least tol fin ns ms outs dv hfew.1 hfew.2.1 hfew.2.2) rfl ?_
    have hp2 := mkPb_ok2 n first least tol fin ns ms outs dv
    have hpb := mkPb_box n first least tol fin ns ms outs dv
    generalize mkPb n first least tol fin ns ms outs dv = p at hp2 hpb
    have hp := hp2.pk
    refine ev ?_
    have hn40 : p.t.n < 2 ^ 40 := Nat.lt_trans hp.ok.t.n (by decide)
    refine callG_con (begin_con p hp) rfl ?_
    refine ev ?_
    refine callG_con (l11_within_con a 50 (by decide) (by decide)) rfl ?_
    refine ev ?_
    refine callG_con (l11_within_con b 50 (by decide) (by decide)) rfl ?_
    refine ev ?_
    have hwA := wB_Pw a
    have hwV := Pw_add hwA (wB_Pw b)
    have ewA : fop .div (FloatKind.nearest .f64 (a % 50)) 4661225614328463360 = wB a := rfl
    have ewB : fop .div (FloatKind.nearest .f64 (b % 50)) 4661225614328463360 = wB b := rfl
    rw [ewA, ewB]
    have hlaw := fun z h y h0 => more_law2 (z := z) (h := h) (y := y) a b hpb hp.ok.n h0
    generalize fop .add (wB a) (wB b) = v at hwV hlaw ⊢
    generalize wB a = u at hwA hlaw ⊢
    have q1 := Int.emod_nonneg steps (by decide : (8 : Int) ≠ 0)
    have q2 := Int.emod_lt_of_pos steps (by decide : (0 : Int) < 8)
    obtain ⟨N, hN⟩ : ∃ N : Nat, 3 + steps % 8 = N := ⟨(3 + steps % 8).toNat, by omega⟩
    have wN : IntKind.i64.wrap (3 + steps % 8) = (N : Int) := by rw [hN]; exact wrapI (by omega) (by omega)
    refine WA_forW (n := N) (fun c s => ∃ (i : Nat) (x : Sta), c + i = N ∧ Inv p i x ∧ s = ⟨[(1, fI steps), (9, .ptr 3 0 0 13), (10, .ptr 6 0 0 8), (11, fl u), (12, fl v), (13, fI i)], [(6, [staC x]), (3, [pbC p]), (0, [shC n first least tol fin ns ms outs dv])]⟩) (Le.refl _) ⟨0, beginS p, by omega, begin_inv hp, rfl⟩ ?_
    rintro c s ⟨i, x, hc, hi, rfl⟩
    refine evx @A_l11_BoundMore_L0.eq_1 ?_
    refine callG_con (l11_within_con steps 8 (by decide) (by decide)) rfl ?_
    refine evx wN ?_
    refine condC_intro (fun h => ?_) (fun h => ?_)
    · replace h := of_decide_eq_true h
      have hin := tryP_inv hp hi (by omega)
      have hzx := hi.ok.n.rk
      have hx0 := hzx.2 0 (by omega)
      have hxl := hzx.1
      have hwi : IntKind.i64.wrap ((i : Int) + 1) = ((i + 1 : Nat) : Int) := by rw [wrapI (by omega) (by omega)]; omega
      refine ev ?_
      refine callG_con (r10_Try_con p x hp.ok hi.ok) rfl ?_
      have hb := fun y w hy hw ht => taken_bok hp2 hi ht y w hy hw
      generalize tryP p x = r at hin hb
      obtain ⟨sst, nd, tk, er, e⟩ := r
      simp only at hb hin
      refine ev ?_
      cases tk
      · refine ev ?_
        refine condC_intro (fun h2 => ?_) (fun h2 => ?_)
        · refine ev ?_
          exact endsT_rett rfl (by decide) (by simp [look])
        · refine ev ?_
          rw [hwi]
          exact ⟨c - 1, _, by omega, LeT.only (fun X => decide (X ≤ 6)) (fun _ h => h) rfl (by simp [kpS]) (by simp [kpS]), i + 1, sst, by omega, hin, rfl⟩
      · refine ev ?_
        have hbk := hb (x.n.z.getD 0 []) u hx0 hwA rfl
        have hbk2 := hb (x.n.z.getD 0 []) v hx0 hwV rfl
        obtain ⟨j, hj, hst⟩ := hbk.step
        have hs1 := bound_Step_con p nd (x.n.z.getD 0 []) u hbk
        have hs2 := bound_Step_con p nd (x.n.z.getD 0 []) v hbk2
        have hl := hlaw nd.z (hW nd.step.toNat) (x.n.z.getD 0 []) (by rw [hst, Int.toNat_natCast]; exact hW_Pw j hj)
        generalize bndP p.t p.box nd.z (hW nd.step.toNat) (x.n.z.getD 0 []) u = R at hs1 hl
        generalize bndP p.t p.box nd.z (hW nd.step.toNat) (x.n.z.getD 0 []) v = R' at hs2 hl
        refine ⟨by omega, ?_⟩
        refine callSG_con (hs1) rfl ?_
        refine ev ?_
        refine ⟨by omega, ?_⟩
        refine callSG_con (hs2) rfl ?_
        refine ev ?_
        rcases hl with r1 | r2 | ⟨r1, r2, l1, l2, l3, l4⟩
        · have r1' : (R.2 == 0) = false := by simpa using r1
          cases hq : (R'.2 == 0)
          · refine ev ?_
            refine condC_intro (fun h2 => ?_) (fun h2 => ?_)
            · refine ev ?_
              exact endsT_rett rfl (by decide) (by simp [look])
            · refine ev ?_
              rw [hwi]
              exact ⟨c - 1, _, by omega, LeT.only (fun X => decide (X ≤ 6)) (fun _ h => h) rfl (by simp [kpS]) (by simp [kpS]), i + 1, sst, by omega, hin, rfl⟩
          · refine evx r1' ?_
            refine condC_intro (fun h2 => ?_) (fun h2 => ?_)
            · refine ev ?_
              exact endsT_rett rfl (by decide) (by simp [look])
            · refine ev ?_
              rw [hwi]
              exact ⟨c - 1, _, by omega, LeT.only (fun X => decide (X ≤ 6)) (fun _ h => h) rfl (by simp [kpS]) (by simp [kpS]), i + 1, sst, by omega, hin, rfl⟩
        · have r2' : (R'.2 == 0) = false := by simpa using r2
          refine evx r2' ?_
          refine condC_intro (fun h2 => ?_) (fun h2 => ?_)
          · refine ev ?_
            exact endsT_rett rfl (by decide) (by simp [look])
          · refine ev ?_
            rw [hwi]
            exact ⟨c - 1, _, by omega, LeT.only (fun X => decide (X ≤ 6)) (fun _ h => h) rfl (by simp [kpS]) (by simp [kpS]), i + 1, sst, by omega, hin, rfl⟩
        · rw [r1, r2]
          refine evx (And.intro l1 (And.intro l2 (And.intro l3 l4))) ?_
          refine condC_intro (fun h2 => ?_) (fun h2 => ?_)
          · refine ev ?_
            exact endsT_rett rfl (by decide) (by simp [look])
          · refine ev ?_
            rw [hwi]
            exact ⟨c - 1, _, by omega, LeT.only (fun X => decide (X ≤ 6)) (fun _ h => h) rfl (by simp [kpS]) (by simp [kpS]), i + 1, sst, by omega, hin, rfl⟩
    · replace h := of_decide_eq_false h
      refine ev ?_
      exact endsT_rett rfl (by decide) (by simp [look])
  · rw [decide_eq_false hfew]
    refine ev ?_
    exact endsT_rett rfl (by decide) (by simp [look])
end Go.Ab
