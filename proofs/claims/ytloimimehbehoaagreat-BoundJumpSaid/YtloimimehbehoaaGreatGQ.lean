/- Part 17: KA, KB, KC, KD, KE, BZ. -/
import Derived.Test.YtloimimehbehoaaGreatGP
namespace Go.Ab
set_option linter.unusedSimpArgs false
set_option linter.unusedVariables false
open Go
theorem down_gen (s : Bool) (r : Nat) (h : r + 1 < 9218868437227405312) : fin (down (Ieee.double.word s r)) ∧ val (down (Ieee.double.word s r)) = if s then -rv (r + 1) else if r = 0 then -rv 1 else rv (r - 1) := by
  have h1 : Ieee.double.signWeight = 9223372036854775808 := rfl
  have hf := fin_word s r (by omega)
  have hn := fin_not_nan hf
  have hv := val_word s r (by omega)
  have n1 : isNan fninf = false := by decide
  have rd : Ieee.double.read fninf = .infinity true := by decide
  have o1 : fcmp .eq (Ieee.double.word s r) fninf = false := by
    obtain ⟨s', m, i, hd⟩ := hf
    simp [fcmp, Ieee.Format.order, hd, rd, Ieee.Datum.order]
  have o2 : fcmp .gt fninf (Ieee.double.word s r) = false := by
    obtain ⟨s', m, i, hd⟩ := hf
    simp [fcmp, Ieee.Format.order, hd, rd, Ieee.Datum.order]
  unfold down nextF
  rw [hn, n1, o1, o2]
  simp only [Bool.false_eq_true, or_self, if_false]
  by_cases hr : r = 0
  · subst hr
    have z : fcmp .eq (Ieee.double.word s 0) 0 = true := by
      rw [fcmp_eq hf fin_zero, hv, val_zero, rv_zero]; split <;> rfl
    have e : csign 1 fninf = Ieee.double.word true 1 := by decide
    rw [if_pos z, e]
    refine ⟨fin_word true 1 (by decide), ?_⟩
    rw [val_word true 1 (by decide)]
    simp
  · have hp : 0 < rv r := by have := rv_lt (show 0 < r by omega); rwa [rv_zero] at this
    have z : ¬ fcmp .eq (Ieee.double.word s r) 0 = true := by
      rw [fcmp_eq hf fin_zero, hv, val_zero]; split <;> grind
    rw [if_neg z]
    cases s
    · have g : fcmp .gt (Ieee.double.word false r) 0 = true := by
        rw [fcmp_gt hf fin_zero, hv, val_zero]; simpa using hp
      have e : Ieee.double.word false r = r := by simp [Ieee.Format.word]
      rw [g]
      have b1 : (false == true) = false := rfl
      rw [b1, e]
      simp only [Bool.false_eq_true, if_false]
      have w : (IntKind.wrap .u64 ((r : Int) - 1)).toNat = r - 1 := by rw [wrapU (by omega) (by omega)]; omega
      rw [w, if_neg hr]
      have e2 : r - 1 = Ieee.double.word false (r - 1) := by simp [Ieee.Format.word]
      rw [e2, cf_not (isNan_word false _ (by omega))]
      refine ⟨fin_word _ _ (by omega), ?_⟩
      rw [val_word _ _ (by omega)]
      simp [Ieee.Format.word]
    · have g : fcmp .gt (Ieee.double.word true r) 0 = false := by
        have : ¬ fcmp .gt (Ieee.double.word true r) 0 = true := by
          rw [fcmp_gt hf fin_zero, hv, val_zero]; simp only [if_true]; grind
        simpa using this
      have e : Ieee.double.word true r = 9223372036854775808 + r := by simp [Ieee.Format.word, h1]
      rw [g]
      have b1 : (false == false) = true := rfl
      rw [b1, e]
      simp only [if_true]
      have w : (IntKind.wrap .u64 (((9223372036854775808 + r : Nat) : Int) + 1)).toNat = 9223372036854775808 + (r + 1) := by rw [wrapU (by omega) (by omega)]; omega
      rw [w]
      have e2 : 9223372036854775808 + (r + 1) = Ieee.double.word true (r + 1) := by simp [Ieee.Format.word, h1]
      rw [e2, cf_not (isNan_word true _ (by omega))]
      refine ⟨fin_word _ _ (by omega), ?_⟩
      rw [val_word _ _ (by omega)]
      simp
theorem up_gen (s : Bool) (r : Nat) (h : r + 1 < 9218868437227405312) : fin (up (Ieee.double.word s r)) ∧ val (up (Ieee.double.word s r)) = if s then (if r = 0 then rv 1 else -rv (r - 1)) else rv (r + 1) := by
  have h1 : Ieee.double.signWeight = 9223372036854775808 := rfl
  have hf := fin_word s r (by omega)
  have hn := fin_not_nan hf
  have hv := val_word s r (by omega)
  have n1 : isNan finf = false := by decide
  have rd : Ieee.double.read finf = .infinity false := by decide
  have o1 : fcmp .eq (Ieee.double.word s r) finf = false := by
    obtain ⟨s', m, i, hd⟩ := hf
    simp [fcmp, Ieee.Format.order, hd, rd, Ieee.Datum.order]
  have o2 : fcmp .gt finf (Ieee.double.word s r) = true := by
    obtain ⟨s', m, i, hd⟩ := hf
    simp [fcmp, Ieee.Format.order, hd, rd, Ieee.Datum.order]
  unfold up nextF
  rw [hn, n1, o1, o2]
  simp only [Bool.false_eq_true, or_self, if_false]
  by_cases hr : r = 0
  · subst hr
    have z : fcmp .eq (Ieee.double.word s 0) 0 = true := by
      rw [fcmp_eq hf fin_zero, hv, val_zero, rv_zero]; split <;> rfl
    have e : csign 1 finf = Ieee.double.word false 1 := by decide
    rw [if_pos z, e]
    refine ⟨fin_word false 1 (by decide), ?_⟩
    rw [val_word false 1 (by decide)]
    simp
  · have hp : 0 < rv r := by have := rv_lt (show 0 < r by omega); rwa [rv_zero] at this
    have z : ¬ fcmp .eq (Ieee.double.word s r) 0 = true := by
      rw [fcmp_eq hf fin_zero, hv, val_zero]; split <;> grind
    rw [if_neg z]
    cases s
    · have g : fcmp .gt (Ieee.double.word false r) 0 = true := by
        rw [fcmp_gt hf fin_zero, hv, val_zero]; simpa using hp
      have e : Ieee.double.word false r = r := by simp [Ieee.Format.word]
      rw [g]
      have b1 : (true == true) = true := rfl
      rw [b1, e]
      simp only [if_true]
      have w : (IntKind.wrap .u64 ((r : Int) + 1)).toNat = r + 1 := by rw [wrapU (by omega) (by omega)]; omega
      rw [w]
      have e2 : r + 1 = Ieee.double.word false (r + 1) := by simp [Ieee.Format.word]
      rw [e2, cf_not (isNan_word false _ (by omega))]
      refine ⟨fin_word _ _ (by omega), ?_⟩
      rw [val_word _ _ (by omega)]
      simp [Ieee.Format.word]
    · have g : fcmp .gt (Ieee.double.word true r) 0 = false := by
        have : ¬ fcmp .gt (Ieee.double.word true r) 0 = true := by
          rw [fcmp_gt hf fin_zero, hv, val_zero]; simp only [if_true]; grind
        simpa using this
      have e : Ieee.double.word true r = 9223372036854775808 + r := by simp [Ieee.Format.word, h1]
      rw [g]
      have b1 : (true == false) = false := rfl
      rw [b1, e]
      simp only [Bool.false_eq_true, if_false, if_true]
      have w : (IntKind.wrap .u64 (((9223372036854775808 + r : Nat) : Int) - 1)).toNat = 9223372036854775808 + (r - 1) := by rw [wrapU (by omega) (by omega)]; omega
      rw [w, if_neg hr]
      have e2 : 9223372036854775808 + (r - 1) = Ieee.double.word true (r - 1) := by simp [Ieee.Format.word, h1]
      rw [e2, cf_not (isNan_word true _ (by omega))]
      refine ⟨fin_word _ _ (by omega), ?_⟩
      rw [val_word _ _ (by omega)]
      simp
theorem cf_wordA {s : Bool} {r : Nat} (h : r ≤ 9218868437227405312) : cf (Ieee.double.word s r) = Ieee.double.word s r := by
  by_cases e : r = 9218868437227405312
  · subst e; cases s <;> decide
  · exact cf_not (isNan_word s r (by omega))
theorem write_gen (s : Bool) (m : Nat) (i : Int) : ∃ r, r ≤ 9218868437227405312 ∧ cf (Ieee.double.write (.number s m i)) = Ieee.double.word s r ∧ (∀ x, rv x ≤ (m : Rat) * pw i → x ≤ r ∨ r = 9218868437227405312) ∧ (∀ x, (m : Rat) * pw i ≤ rv x → r ≤ x) := by
  obtain ⟨A, e, h1, h2⟩ := near_gen s m i
  have : Ieee.double.write (.number s m i) = Ieee.double.nearest s m i := rfl
  rw [this, e]
  refine ⟨_, Nat.min_le_right _ _, cf_wordA (Nat.min_le_right _ _), fun x hx => ?_, fun x hx => ?_⟩
  · have := h1 x hx; omega
  · have := h2 x hx; omega
structure Wide (w : Nat) (v : Rat) : Prop where
  lo : fin (down w) → val (down w) ≤ v
  hi : fin (up w) → v ≤ val (up w)
  is : fin (down w) → fin (up w) → fin w
theorem wide_mk {w a b : Nat} {v : Rat} (e1 : down w = a) (e2 : up w = b) (h1 : fin a → val a ≤ v) (h2 : fin b → v ≤ val b) (h3 : fin a → fin b → fin w) : Wide w v := by
  subst e1 e2; exact ⟨h1, h2, h3⟩
theorem nfin_inf : ¬ fin finf := by
  rintro ⟨s, m, i, h⟩
  rw [show Ieee.double.read finf = .infinity false by decide] at h
  cases h
theorem nfin_ninf : ¬ fin fninf := by
  rintro ⟨s, m, i, h⟩
  rw [show Ieee.double.read fninf = .infinity true by decide] at h
  cases h
theorem wide_write (s : Bool) (m : Nat) (i : Int) {v : Rat} (hv : v = (if s then -(m : Rat) else m) * pw i) : Wide (cf (Ieee.double.write (.number s m i))) v := by
  obtain ⟨r, hr, e, h1, h2⟩ := write_gen s m i
  have hv0 : 0 ≤ (m : Rat) * pw i := Rat.mul_nonneg Rat.natCast_nonneg (Rat.le_of_lt (pw_pos i))
  generalize hu : (m : Rat) * pw i = u at h1 h2 hv0
  have hv' : v = if s then -u else u := by rw [hv, ← hu]; cases s <;> simp; grind
  rw [e]
  have lo : r ≠ 0 → rv (r - 1) ≤ u := fun h0 => by
    have := h2 (r - 1)
    have h3 : ¬ u ≤ rv (r - 1) := fun h => by have := this h; omega
    grind
  have hi : r ≠ 9218868437227405312 → u ≤ rv (r + 1) := fun h0 => by
    have := h1 (r + 1)
    have h3 : ¬ rv (r + 1) ≤ u := fun h => by have := this h; omega
    grind
  have r1 := rv_nonneg 1
  by_cases c1 : r + 1 < 9218868437227405312
  · have f := fin_word s r (by omega)
    obtain ⟨_, d1⟩ := down_gen s r c1
    obtain ⟨_, u1⟩ := up_gen s r c1
    have hi := hi (by omega)
    refine ⟨fun _ => ?_, fun _ => ?_, fun _ _ => f⟩
    · rw [d1, hv']
      cases s
      · simp only [Bool.false_eq_true, if_false]
        split
        · grind
        · rename_i h; exact lo h
      · simp only [if_true]; grind
    · rw [u1, hv']
      cases s
      · simp only [Bool.false_eq_true, if_false]; exact hi
      · simp only [if_true]
        split
        · grind
        · rename_i h; have := lo h; grind
  · by_cases c2 : r = 9218868437227405312
    · have lo := lo (by omega)
      subst c2
      cases s
      · have e1 : down (Ieee.double.word false 9218868437227405312) = Ieee.double.word false 9218868437227405311 := by decide
        have e2 : up (Ieee.double.word false 9218868437227405312) = finf := by decide
        refine wide_mk e1 e2 (fun _ => ?_) (fun h => absurd h nfin_inf) (fun _ h => absurd h nfin_inf)
        rw [val_word _ _ (by decide), hv']; exact lo
      · have e1 : down (Ieee.double.word true 9218868437227405312) = fninf := by decide
        have e2 : up (Ieee.double.word true 9218868437227405312) = Ieee.double.word true 9218868437227405311 := by decide
        refine wide_mk e1 e2 (fun h => absurd h nfin_ninf) (fun _ => ?_) (fun h => absurd h nfin_ninf)
        rw [val_word _ _ (by decide), hv']
        simp only [if_true]
        have : rv 9218868437227405311 ≤ u := lo
        grind
    · have c3 : r = 9218868437227405311 := by omega
      have lo := lo (by omega)
      subst c3
      have f := fin_word s 9218868437227405311 (by decide)
      cases s
      · have e1 : down (Ieee.double.word false 9218868437227405311) = Ieee.double.word false 9218868437227405310 := by decide
        have e2 : up (Ieee.double.word false 9218868437227405311) = finf := by decide
        refine wide_mk e1 e2 (fun _ => ?_) (fun h => absurd h nfin_inf) (fun _ _ => f)
        rw [val_word _ _ (by decide), hv']; exact lo
      · have e1 : down (Ieee.double.word true 9218868437227405311) = fninf := by decide
        have e2 : up (Ieee.double.word true 9218868437227405311) = Ieee.double.word true 9218868437227405310 := by decide
        refine wide_mk e1 e2 (fun h => absurd h nfin_ninf) (fun _ => ?_) (fun _ _ => f)
        rw [val_word _ _ (by decide), hv']
        simp only [if_true]
        have : rv 9218868437227405310 ≤ u := lo
        grind
theorem add_wide {x y : Nat} (hx : fin x) (hy : fin y) : Wide (fop .add x y) (val x + val y) := by
  obtain ⟨s, m, i, hx⟩ := hx
  obtain ⟨t, n, j, hy⟩ := hy
  have hu := val_eq hx
  have hv := val_eq hy
  have : fop .add x y = cf (Ieee.double.write ((Ieee.Datum.sum (.number s m i) (.number t n j)).getD (.number false 0 0))) := by
    simp [fop, Ieee.Format.add, hx, hy, Ieee.Datum.sum]
  rw [this]
  simp only [Ieee.Datum.sum, Option.getD_some]
  refine wide_write _ _ _ ?_
  rw [hu, hv, ← signed_val s m i (min i j) (by omega), ← signed_val t n j (min i j) (by omega)]
  generalize Ieee.signed s m (i - min i j).toNat = a
  generalize Ieee.signed t n (j - min i j).toNat = b
  have e : (a : Rat) * pw (min i j) + (b : Rat) * pw (min i j) = ((a + b : Int) : Rat) * pw (min i j) := by rw [Rat.intCast_add]; grind
  rw [e]
  refine congrArg (fun z : Rat => z * pw (min i j)) ?_
  by_cases h0 : a + b = 0
  · rw [h0]; simp
  · rw [if_neg h0]
    by_cases h1 : a + b < 0
    · rw [if_pos (by simpa using h1), ← Rat.intCast_natCast, ← Rat.intCast_neg]; exact congrArg (fun z : Int => (z : Rat)) (by omega)
    · rw [if_neg (by simpa using h1), ← Rat.intCast_natCast]; exact congrArg (fun z : Int => (z : Rat)) (by omega)
theorem sub_wide {x y : Nat} (hx : fin x) (hy : fin y) : Wide (fop .sub x y) (val x - val y) := by
  obtain ⟨s, m, i, hx⟩ := hx
  obtain ⟨t, n, j, hy⟩ := hy
  have hu := val_eq hx
  have hv : -val y = (if (!t) = true then -(n : Rat) else n) * pw j := by
    rw [val_eq hy]; cases t <;> simp <;> grind
  have e2 : val x - val y = val x + -val y := by grind
  have : fop .sub x y = cf (Ieee.double.write ((Ieee.Datum.sum (.number s m i) (.number (!t) n j)).getD (.number false 0 0))) := by
    simp [fop, Ieee.Format.sub, hx, hy, Ieee.Datum.opposite, Ieee.Datum.sum]
  rw [this, e2]
  simp only [Ieee.Datum.sum, Option.getD_some]
  refine wide_write _ _ _ ?_
  rw [hu, hv, ← signed_val s m i (min i j) (by omega), ← signed_val (!t) n j (min i j) (by omega)]
  generalize Ieee.signed s m (i - min i j).toNat = a
  generalize Ieee.signed (!t) n (j - min i j).toNat = b
  have e : (a : Rat) * pw (min i j) + (b : Rat) * pw (min i j) = ((a + b : Int) : Rat) * pw (min i j) := by rw [Rat.intCast_add]; grind
  rw [e]
  refine congrArg (fun z : Rat => z * pw (min i j)) ?_
  by_cases h0 : a + b = 0
  · rw [h0]; simp
  · rw [if_neg h0]
    by_cases h1 : a + b < 0
    · rw [if_pos (by simpa using h1), ← Rat.intCast_natCast, ← Rat.intCast_neg]; exact congrArg (fun z : Int => (z : Rat)) (by omega)
    · rw [if_neg (by simpa using h1), ← Rat.intCast_natCast]; exact congrArg (fun z : Int => (z : Rat)) (by omega)
end Go.Ab
namespace Go.Ab
set_option linter.unusedSimpArgs false
set_option linter.unusedVariables false
open Go Go.Proofs
def Fi (p : Iv) : Prop := fin p.1 ∧ fin p.2
structure Enc (p : Iv) (v : Rat) : Prop where
  f1 : fin p.1
  f2 : fin p.2
  lo : val p.1 ≤ v
  hi : v ≤ val p.2
theorem nfin_nan : ¬ fin qnan := fun h => by
  have := fin_not_nan h
  have e : isNan qnan = true := by decide
  rw [e] at this; cases this
theorem down_ninf : down fninf = fninf := by decide
theorem up_pinf : up finf = finf := by decide
theorem down_nan : down qnan = qnan := by decide
theorem up_nan : up qnan = qnan := by decide
theorem cw_fin {x : Nat} (h : cw x) (h1 : isNan x = false) (h2 : x ≠ finf) (h3 : x ≠ fninf) : fin x := by
  rcases h with rfl | rfl | rfl | ⟨s, r, hr, rfl⟩
  · exact absurd h1 (by decide)
  · exact absurd rfl h2
  · exact absurd rfl h3
  · exact fin_word s r hr
theorem read_pinf : Ieee.double.read finf = .infinity false := by decide
theorem read_ninf : Ieee.double.read fninf = .infinity true := by decide
theorem read_qnan : ∃ a b, Ieee.double.read qnan = .nan a b := ⟨_, _, rfl⟩
theorem cw_read {x : Nat} (h : cw x) : x = qnan ∨ x = finf ∨ x = fninf ∨ ∃ s m i, Ieee.double.read x = .number s m i := by
  rcases h with rfl | rfl | rfl | ⟨s, r, hr, rfl⟩
  · exact .inl rfl
  · exact .inr (.inl rfl)
  · exact .inr (.inr (.inl rfl))
  · exact .inr (.inr (.inr (fin_word s r hr)))
abbrev R3 (d : Option Ieee.Datum) : Nat := ((d.map Ieee.double.write).map cf).getD qnan
theorem R3_pinf : R3 (some (.infinity false)) = finf := by decide
theorem R3_ninf : R3 (some (.infinity true)) = fninf := by decide
theorem fop_add_R (x y : Nat) : fop .add x y = R3 (Ieee.Datum.sum (Ieee.double.read x) (Ieee.double.read y)) := rfl
theorem fop_sub_R (x y : Nat) : fop .sub x y = R3 (Ieee.Datum.sum (Ieee.double.read x) (Ieee.double.read y).opposite) := rfl
def Nf (x : Nat) : Prop := x = qnan ∨ x = finf ∨ x = fninf
theorem cw_nf {x : Nat} (h : cw x) (hn : ¬ Nf x) : fin x := cw_fin h (by
    cases e : isNan x with
    | false => rfl
    | true =>
      exfalso
      rcases h with rfl | rfl | rfl | ⟨s, r, hr, rfl⟩
      · exact hn (.inl rfl)
      · exact hn (.inr (.inl rfl))
      · exact hn (.inr (.inr rfl))
      · rw [isNan_word s r hr] at e; cases e) (fun e => hn (.inr (.inl e))) (fun e => hn (.inr (.inr e)))
theorem add_l {x y : Nat} (hx : Nf x) (hy : cw y) : fop .add x y = x ∨ fop .add x y = qnan := by
  rw [fop_add_R]
  rcases hx with rfl | rfl | rfl <;> rcases cw_read hy with rfl | rfl | rfl | ⟨s, m, i, hd⟩
  all_goals first | (left; decide) | (right; decide) | skip
  · rw [hd]; obtain ⟨a, b, e⟩ := read_qnan; rw [e]; exact .inl rfl
  · rw [hd, read_pinf]; exact .inl R3_pinf
  · rw [hd, read_ninf]; exact .inl R3_ninf
theorem add_r {x y : Nat} (hx : Nf x) (hy : cw y) : fop .add y x = x ∨ fop .add y x = qnan := by
  rw [fop_add_R]
  rcases hx with rfl | rfl | rfl <;> rcases cw_read hy with rfl | rfl | rfl | ⟨s, m, i, hd⟩
  all_goals first | (left; decide) | (right; decide) | skip
  · rw [hd]; obtain ⟨a, b, e⟩ := read_qnan; rw [e]; exact .inl rfl
  · rw [hd, read_pinf]; exact .inl R3_pinf
  · rw [hd, read_ninf]; exact .inl R3_ninf
theorem sub_l {x y : Nat} (hx : Nf x) (hy : cw y) : fop .sub x y = x ∨ fop .sub x y = qnan := by
  rw [fop_sub_R]
  rcases hx with rfl | rfl | rfl <;> rcases cw_read hy with rfl | rfl | rfl | ⟨s, m, i, hd⟩
  all_goals first | (left; decide) | (right; decide) | skip
  · rw [hd]; obtain ⟨a, b, e⟩ := read_qnan; rw [e]; exact .inl rfl
  · rw [hd, read_pinf]; exact .inl R3_pinf
  · rw [hd, read_ninf]; exact .inl R3_ninf
def ngw (x : Nat) : Nat := if x = finf then fninf else if x = fninf then finf else qnan
theorem sub_r {x y : Nat} (hx : Nf x) (hy : cw y) : fop .sub y x = ngw x ∨ fop .sub y x = qnan := by
  rw [fop_sub_R]
  rcases hx with rfl | rfl | rfl <;> rcases cw_read hy with rfl | rfl | rfl | ⟨s, m, i, hd⟩
  all_goals first | (left; decide) | (right; decide) | skip
  · rw [hd]; obtain ⟨a, b, e⟩ := read_qnan; rw [e]; exact .inr rfl
  · rw [hd, read_pinf]; exact .inl R3_ninf
  · rw [hd, read_ninf]; exact .inl R3_pinf
structure Wf (p : Iv) : Prop where
  c1 : cw p.1
  c2 : cw p.2
  i1 : p.1 = finf → p.2 = finf
  i2 : p.2 = fninf → p.1 = fninf
theorem pt_wf {x : Nat} (h : cw x) : Wf (pt x) := ⟨h, h, fun e => e, fun e => e⟩
theorem make_fi {lo hi : Nat} (h : Fi (ivMake lo hi)) : fin lo ∧ fin hi ∧ ivMake lo hi = (lo, hi) ∧ val lo ≤ val hi := by
  unfold ivMake at h ⊢
  split at h
  · rename_i e
    rw [if_pos e]
    exact ⟨h.1, h.2, rfl, (fcmp_le h.1 h.2).1 e⟩
  · exact absurd h.1 nfin_ninf
theorem ninf_le {x : Nat} (hx : cw x) (h : fcmp .le x fninf = true) : x = fninf := by
  rcases hx with rfl | rfl | rfl | ⟨s, r, hr, rfl⟩
  · exact absurd h (by decide)
  · exact absurd h (by decide)
  · rfl
  · obtain ⟨s', m, i, hd⟩ := fin_word s r hr
    simp [fcmp, Ieee.Format.order, hd, read_ninf, Ieee.Datum.order] at h
theorem le_pinf {x : Nat} (hx : cw x) (h : fcmp .le finf x = true) : x = finf := by
  rcases hx with rfl | rfl | rfl | ⟨s, r, hr, rfl⟩
  · exact absurd h (by decide)
  · rfl
  · exact absurd h (by decide)
  · obtain ⟨s', m, i, hd⟩ := fin_word s r hr
    simp [fcmp, Ieee.Format.order, hd, read_pinf, Ieee.Datum.order] at h
theorem make_wf {lo hi : Nat} (h1 : cw lo) (h2 : cw hi) : Wf (ivMake lo hi) := by
  unfold ivMake
  split
  · rename_i e
    exact ⟨h1, h2, fun e1 => by simp only at e1 ⊢; rw [e1] at e; exact le_pinf h2 e, fun e1 => by simp only at e1 ⊢; rw [e1] at e; exact ninf_le h1 e⟩
  · exact ⟨.inr (.inr (.inl rfl)), .inr (.inl rfl), fun e => absurd e (by decide), fun e => absurd e (by decide)⟩
theorem down_cw {x : Nat} (h : cw x) : cw (down x) := by
  have key : ∀ b : Int, cw (cf (IntKind.wrap .u64 b).toNat) := fun b => cw_lt (by have := wrap_u64_range b; omega)
  unfold down nextF
  repeat' split
  · exact .inl rfl
  · exact h
  · exact cw_lt (by decide)
  · exact key _
  · exact key _
theorem add_wf (p q : Iv) : Wf (ivAdd p q) := make_wf (down_cw (fop_cw _ _ _)) (up_cw (fop_cw _ _ _))
theorem sub_wf (p q : Iv) : Wf (ivSub p q) := make_wf (down_cw (fop_cw _ _ _)) (up_cw (fop_cw _ _ _))
theorem fi_add {p q : Iv} (hp : Wf p) (hq : Wf q) (h : Fi (ivAdd p q)) : Fi p ∧ Fi q := by
  obtain ⟨f1, f2, _, _⟩ := make_fi h
  have d0 : ∀ x, Nf x → fin (down x) → x = finf := fun x hx hf => by
    rcases hx with rfl | rfl | rfl
    · rw [down_nan] at hf; exact absurd hf nfin_nan
    · rfl
    · rw [down_ninf] at hf; exact absurd hf nfin_ninf
  have u0 : ∀ x, Nf x → fin (up x) → x = fninf := fun x hx hf => by
    rcases hx with rfl | rfl | rfl
    · rw [up_nan] at hf; exact absurd hf nfin_nan
    · rw [up_pinf] at hf; exact absurd hf nfin_inf
    · rfl
  have dn : ¬ fin (down qnan) := by rw [down_nan]; exact nfin_nan
  have un : ¬ fin (up qnan) := by rw [up_nan]; exact nfin_nan
  have uf : ¬ fin (up finf) := by rw [up_pinf]; exact nfin_inf
  have df : ¬ fin (down fninf) := by rw [down_ninf]; exact nfin_ninf
  have p1 : ¬ Nf p.1 := fun hn => by
    rcases add_l hn hq.c1 with e | e
    · rw [e] at f1
      have e2 := d0 _ hn f1
      have e3 := hp.i1 e2
      rcases add_l (x := p.2) (.inr (.inl e3)) hq.c2 with e4 | e4
      · rw [e4, e3] at f2; exact uf f2
      · rw [e4] at f2; exact un f2
    · rw [e] at f1; exact dn f1
  have p2 : ¬ Nf p.2 := fun hn => by
    rcases add_l hn hq.c2 with e | e
    · rw [e] at f2
      have e2 := u0 _ hn f2
      exact p1 (.inr (.inr (hp.i2 e2)))
    · rw [e] at f2; exact un f2
  have q1 : ¬ Nf q.1 := fun hn => by
    rcases add_r hn hp.c1 with e | e
    · rw [e] at f1
      have e2 := d0 _ hn f1
      have e3 := hq.i1 e2
      rcases add_r (x := q.2) (.inr (.inl e3)) hp.c2 with e4 | e4
      · rw [e4, e3] at f2; exact uf f2
      · rw [e4] at f2; exact un f2
    · rw [e] at f1; exact dn f1
  have q2 : ¬ Nf q.2 := fun hn => by
    rcases add_r hn hp.c2 with e | e
    · rw [e] at f2
      have e2 := u0 _ hn f2
      exact q1 (.inr (.inr (hq.i2 e2)))
    · rw [e] at f2; exact un f2
  exact ⟨⟨cw_nf hp.c1 p1, cw_nf hp.c2 p2⟩, cw_nf hq.c1 q1, cw_nf hq.c2 q2⟩
theorem enc_add {p q : Iv} {u v : Rat} (hp : Enc p u) (hq : Enc q v) (h : Fi (ivAdd p q)) : Enc (ivAdd p q) (u + v) := by
  obtain ⟨f1, f2, e, _⟩ := make_fi h
  have w1 := (add_wide hp.f1 hq.f1).lo f1
  have w2 := (add_wide hp.f2 hq.f2).hi f2
  have a1 := hp.lo
  have a2 := hp.hi
  have b1 := hq.lo
  have b2 := hq.hi
  unfold ivAdd
  rw [e]
  exact ⟨f1, f2, by simp only; grind, by simp only; grind⟩
theorem fi_sub {p q : Iv} (hp : Wf p) (hq : Wf q) (h : Fi (ivSub p q)) : Fi p ∧ Fi q := by
  obtain ⟨f1, f2, _, _⟩ := make_fi h
  have d0 : ∀ x, Nf x → fin (down x) → x = finf := fun x hx hf => by
    rcases hx with rfl | rfl | rfl
    · rw [down_nan] at hf; exact absurd hf nfin_nan
    · rfl
    · rw [down_ninf] at hf; exact absurd hf nfin_ninf
  have u0 : ∀ x, Nf x → fin (up x) → x = fninf := fun x hx hf => by
    rcases hx with rfl | rfl | rfl
    · rw [up_nan] at hf; exact absurd hf nfin_nan
    · rw [up_pinf] at hf; exact absurd hf nfin_inf
    · rfl
  have dn : ¬ fin (down qnan) := by rw [down_nan]; exact nfin_nan
  have un : ¬ fin (up qnan) := by rw [up_nan]; exact nfin_nan
  have uf : ¬ fin (up finf) := by rw [up_pinf]; exact nfin_inf
  have df : ¬ fin (down fninf) := by rw [down_ninf]; exact nfin_ninf
  have g1 : ngw finf = fninf := by decide
  have g2 : ngw fninf = finf := by decide
  have g3 : ngw qnan = qnan := by decide
  have p1 : ¬ Nf p.1 := fun hn => by
    rcases sub_l hn hq.c2 with e | e
    · rw [e] at f1
      have e2 := d0 _ hn f1
      have e3 := hp.i1 e2
      rcases sub_l (x := p.2) (.inr (.inl e3)) hq.c1 with e4 | e4
      · rw [e4, e3] at f2; exact uf f2
      · rw [e4] at f2; exact un f2
    · rw [e] at f1; exact dn f1
  have p2 : ¬ Nf p.2 := fun hn => by
    rcases sub_l hn hq.c1 with e | e
    · rw [e] at f2
      have e2 := u0 _ hn f2
      exact p1 (.inr (.inr (hp.i2 e2)))
    · rw [e] at f2; exact un f2
  -- p.1 - q.2, p.2 - q.1
  have q1 : ¬ Nf q.1 := fun hn => by
    rcases sub_r hn hp.c2 with e | e
    · rw [e] at f2
      rcases hn with e2 | e2 | e2
      · rw [e2, g3] at f2; exact un f2
      · have e3 := hq.i1 e2
        rcases sub_r (x := q.2) (.inr (.inl e3)) hp.c1 with e4 | e4
        · rw [e4, e3, g1] at f1; exact df f1
        · rw [e4] at f1; exact dn f1
      · rw [e2, g2] at f2; exact uf f2
    · rw [e] at f2; exact un f2
  have q2 : ¬ Nf q.2 := fun hn => by
    rcases sub_r hn hp.c1 with e | e
    · rw [e] at f1
      rcases hn with e2 | e2 | e2
      · rw [e2, g3] at f1; exact dn f1
      · rw [e2, g1] at f1; exact df f1
      · exact q1 (.inr (.inr (hq.i2 e2)))
    · rw [e] at f1; exact dn f1
  exact ⟨⟨cw_nf hp.c1 p1, cw_nf hp.c2 p2⟩, cw_nf hq.c1 q1, cw_nf hq.c2 q2⟩
theorem gt_pinf {x : Nat} (hx : cw x) : fcmp .gt x finf = false := by
  rcases hx with rfl | rfl | rfl | ⟨s, r, hr, rfl⟩
  · decide
  · decide
  · decide
  · obtain ⟨s', m, i, hd⟩ := fin_word s r hr
    simp [fcmp, Ieee.Format.order, hd, read_pinf, Ieee.Datum.order]
theorem pinf_gt {x : Nat} (hx : cw x) (hn : isNan x = false) (h : x ≠ finf) : fcmp .gt finf x = true := by
  rcases hx with rfl | rfl | rfl | ⟨s, r, hr, rfl⟩
  · exact absurd hn (by decide)
  · exact absurd rfl h
  · decide
  · obtain ⟨s', m, i, hd⟩ := fin_word s r hr
    simp [fcmp, Ieee.Format.order, hd, read_pinf, Ieee.Datum.order]
structure BSpec (t : Tp) (box : List Iv) (q : List Md) (h e j d : Nat) (R : Bnd × Int) (r : Nat) : Prop where
  hr : Pw r
  er : e ≤ r
  ins : insK q box r t.n = true
  lt : R.1.bound < r
  jump : R.1.jump = j
  defect : R.1.defect = d
  norm : R.1.norm = normI (jacI t (tabI (tubI q r) t.n))
  growth : R.1.growth = growF h R.1.norm
  bound : R.1.bound = up (fop .mul R.1.growth e)
theorem bndK_spec (t : Tp) (box : List Iv) (q : List Md) (h e j d : Nat) (he : Pw e) (he0 : 0 < e) : ∀ k r, Pw r → e ≤ r → (bndK t box q h e j d k r).2 = 0 → ∃ r', BSpec t box q h e j d (bndK t box q h e j d k r) r' := by
  intro k
  induction k with
  | zero => intro r _ _ h0; simp [bndK] at h0
  | succ k ih =>
    intro r hr hle h0
    rw [bndK] at h0 ⊢
    split at h0
    · simp at h0
    · rename_i hin
      rw [if_neg hin]
      have hin : insK q box r t.n = true := by simpa using hin
      simp only at h0 ⊢
      have hg := growF_Pw h (normI (jacI t (tabI (tubI q r) t.n)))
      have hg1 := growF_one h (normI (jacI t (tabI (tubI q r) t.n)))
      have hb := Pw_mul2 hg.1 hg.2 he he0
      have hbe := Pw_mul_ge hg.1 hg1 he he0
      have hub := up_pos hb
      have hue := up_ge hb
      split at h0
      · rename_i hlt
        rw [if_pos hlt]
        exact ⟨r, hr, hle, hin, (Pw_lt hub.1 hr).1 hlt, rfl, rfl, rfl, rfl, rfl⟩
      · rename_i hlt
        rw [if_neg hlt]
        split at h0
        · simp at h0
        · rename_i hf
          rw [if_neg hf]
          refine ih _ (four_Pw hub.1).1 ?_ h0
          obtain ⟨f, v⟩ := Pw_pos (x := 4616189618054758400) (by decide) (by decide)
          have a1 := Pw_mul_ge (g := 4616189618054758400) (by unfold Pw; decide) (by decide) hub.1 hub.2
          have a2 := up_ge (Pw_mul f (by unfold Pw; decide) v hub.1)
          omega
structure PSpec (t : Tp) (box : List Iv) (z : List (List Nat)) (h : Nat) (y : List Nat) (w e r : Nat) (R : Bnd × Int) : Prop where
  b : BSpec t box (colsM z t.n) h e (bestF (jmpI z y) (t.n - 1)) (bestF (dftI t z (colsM z t.n) h) (t.n - 1)) R r
  j : Pw R.1.jump
  jf : finite R.1.jump = true
  d : Pw R.1.defect
  he : e = up (fop .add (up (fop .add w R.1.jump)) (up (fop .mul h R.1.defect)))
  ep : Pw e
  e0 : 0 < e
theorem bndP_spec (t : Tp) (box : List Iv) (z : List (List Nat)) (h : Nat) (y : List Nat) (w : Nat) (hw : Pw w) (h0 : 0 < h ∧ h < 9218868437227405312) (hR : (bndP t box z h y w).2 = 0) : ∃ e r, PSpec t box z h y w e r (bndP t box z h y w) := by
  unfold bndP at hR ⊢
  simp only at hR ⊢
  split at hR
  · simp at hR
  · rename_i hf
    rw [if_neg hf]
    have hf2 : finite (bestF (jmpI z y) (t.n - 1)) = true ∧ finite (bestF (dftI t z (colsM z t.n) h) (t.n - 1)) = true := by
      simpa using hf
    have hj : Pw (bestF (jmpI z y) (t.n - 1)) := by
      obtain ⟨i, _, e⟩ := bestF_is (jmpI z y) (t.n - 1)
      rw [e] at hf2 ⊢; exact mag_Pw hf2.1
    have hd : Pw (bestF (dftI t z (colsM z t.n) h) (t.n - 1)) := by
      obtain ⟨i, _, e⟩ := bestF_is (dftI t z (colsM z t.n) h) (t.n - 1)
      rw [e] at hf2 ⊢; exact mag_Pw hf2.2
    have he := bnd_begin hw hj hd h0
    have a1 := Pw_mul_ge (g := 4616189618054758400) (by unfold Pw; decide) (by decide) he.1 he.2
    obtain ⟨f, v⟩ := Pw_pos (x := 4616189618054758400) (by decide) (by decide)
    have a2 := up_ge (Pw_mul f (by unfold Pw; decide) v he.1)
    obtain ⟨r, hs⟩ := bndK_spec t box (colsM z t.n) h _ (bestF (jmpI z y) (t.n - 1)) (bestF (dftI t z (colsM z t.n) h) (t.n - 1)) he.1 he.2 3 _ (four_Pw he.1).1 (by omega) hR
    exact ⟨_, r, hs, by rw [hs.jump]; exact hj, by rw [hs.jump]; exact hf2.1, by rw [hs.defect]; exact hd, by rw [hs.jump, hs.defect], he.1, he.2⟩
theorem mag_or (p : Iv) : Pw (ivMag p) ∨ isNan (ivMag p) = true := by
  have key : ∀ x, Pw (fabs x) ∨ isNan (fabs x) = true := fun x => by
    cases hn : isNan (fabs x) with
    | true => exact .inr rfl
    | false =>
      left
      unfold fabs at hn ⊢
      rw [isNan_cf] at hn
      rw [cf_not hn]
      have hb : bits0 x < 9223372036854775808 := Nat.mod_lt _ (by decide)
      unfold isNan at hn
      simp only [decide_eq_false_iff_not] at hn
      unfold Pw
      omega
  unfold ivMag
  split
  · exact key _
  · exact key _
theorem bestF_ge (f : Nat → Nat) (hf : ∀ i, Pw (f i) ∨ isNan (f i) = true) : ∀ k, Pw (bestF f k) → Pw (f 0) ∧ ∀ i, i ≤ k → Pw (f i) → f i ≤ bestF f k := by
  intro k
  induction k with
  | zero =>
    intro h
    exact ⟨h, fun i hi _ => by obtain rfl : i = 0 := (by omega); exact Nat.le_refl _⟩
  | succ k ih =>
    intro h
    have hB : Pw (bestF f k) ∨ isNan (bestF f k) = true := by
      obtain ⟨i, _, e⟩ := bestF_is f k
      rw [e]; exact hf i
    rw [bestF] at h ⊢
    split at h
    · rename_i hg
      have hBp : Pw (bestF f k) := by
        rcases hB with hB | hB
        · exact hB
        · exfalso
          unfold fcmp at hg
          rw [order_none_r hB] at hg
          simp at hg
      rw [if_pos hg]
      obtain ⟨h1, h2⟩ := ih hBp
      have := (Pw_gt h hBp).1 hg
      refine ⟨h1, fun i hi hp => ?_⟩
      by_cases e : i = k + 1
      · subst e; exact Nat.le_refl _
      · have := h2 i (by omega) hp; omega
    · rename_i hg
      rw [if_neg hg]
      obtain ⟨h1, h2⟩ := ih h
      refine ⟨h1, fun i hi hp => ?_⟩
      by_cases e : i = k + 1
      · subst e
        have : ¬ bestF f k < f (k + 1) := fun h3 => hg ((Pw_gt hp h).2 h3)
        omega
      · exact h2 i (by omega) hp
theorem mag_val {p : Iv} (h : Fi p) : fin (ivMag p) ∧ rabs (val p.1) ≤ val (ivMag p) ∧ rabs (val p.2) ≤ val (ivMag p) ∧ (val (ivMag p) = rabs (val p.1) ∨ val (ivMag p) = rabs (val p.2)) := by
  obtain ⟨f1, v1⟩ := val_fabs h.1
  obtain ⟨f2, v2⟩ := val_fabs h.2
  have hg := fcmp_gt f2 f1
  unfold ivMag
  by_cases c : fcmp .gt (fabs p.2) (fabs p.1) = true
  · rw [if_pos c]
    have := hg.1 c
    rw [v1, v2] at this
    exact ⟨f2, by rw [v2]; grind, by rw [v2]; exact Rat.le_refl, .inr v2⟩
  · rw [if_neg c]
    have : ¬ val (fabs p.1) < val (fabs p.2) := fun h => c (hg.2 h)
    rw [v1, v2] at this
    exact ⟨f1, by rw [v1]; exact Rat.le_refl, by rw [v1]; grind, .inl v1⟩
theorem fabs_inf {x : Nat} (h : x = finf ∨ x = fninf) : fabs x = finf := by rcases h with rfl | rfl <;> decide
theorem fabs_cw {x : Nat} (h : cw x) : cw (fabs x) := by
  rcases h with rfl | rfl | rfl | ⟨s, r, hr, rfl⟩
  · exact .inl (by decide)
  · exact .inr (.inl (by decide))
  · exact .inr (.inl (by decide))
  · rw [fabs_word s r hr]; exact .inr (.inr (.inr ⟨false, r, hr, rfl⟩))
theorem mag_fi {p : Iv} (c1 : cw p.1) (c2 : cw p.2) (n1 : isNan p.1 = false) (n2 : isNan p.2 = false) (h : finite (ivMag p) = true) : Fi p := by
  have fi : finite finf = false := by decide
  have two : ∀ x, isNan x = false → Nf x → x = finf ∨ x = fninf := fun x hn hx => by
    rcases hx with rfl | h | h
    · exact absurd hn (by decide)
    · exact .inl h
    · exact .inr h
  have p1 : ¬ Nf p.1 := fun hn => by
    have e := fabs_inf (two _ n1 hn)
    unfold ivMag at h
    rw [e, gt_pinf (fabs_cw c2)] at h
    simp only [Bool.false_eq_true, if_false] at h
    rw [fi] at h; cases h
  have g1 := cw_nf c1 p1
  have p2 : ¬ Nf p.2 := fun hn => by
    have e := fabs_inf (two _ n2 hn)
    have f1 := (val_fabs g1).1
    unfold ivMag at h
    rw [e, pinf_gt (fabs_cw c1) (fin_not_nan f1) (fun e => nfin_inf (e ▸ f1))] at h
    simp only [if_true] at h
    rw [fi] at h; cases h
  exact ⟨g1, cw_nf c2 p2⟩
theorem make_nn (lo hi : Nat) : isNan (ivMake lo hi).1 = false ∧ isNan (ivMake lo hi).2 = false := by
  unfold ivMake
  split
  · rename_i e
    constructor
    · cases hn : isNan lo with
      | false => rfl
      | true => unfold fcmp at e; rw [order_none_l hn] at e; simp at e
    · cases hn : isNan hi with
      | false => rfl
      | true => unfold fcmp at e; rw [order_none_r hn] at e; simp at e
  · exact ⟨by decide, by decide⟩
theorem off_val {V : Iv} {y : Nat} (hV : Wf V) (hy : cw y) (h : finite (ivMag (ivSub V (pt y))) = true) : Fi V ∧ fin y ∧ fin (ivMag (ivSub V (pt y))) ∧ (val V.1 ≤ val V.2 → rabs (val V.1 - val y) ≤ val (ivMag (ivSub V (pt y))) ∧ rabs (val V.2 - val y) ≤ val (ivMag (ivSub V (pt y)))) ∧
    (∀ B, B ≤ 4000 → rabs (val V.1 - val y) ≤ B → rabs (val V.2 - val y) ≤ B → val (ivMag (ivSub V (pt y))) ≤ B + eps) := by
  have hw := sub_wf V (pt y)
  have hn := make_nn (down (fop .sub V.1 (pt y).2)) (up (fop .sub V.2 (pt y).1))
  have hF := mag_fi hw.c1 hw.c2 hn.1 hn.2 h
  obtain ⟨hV1, hy1⟩ := fi_sub hV (pt_wf hy) hF
  obtain ⟨m0, m1, m2, m3⟩ := mag_val hF
  obtain ⟨f1, f2, e, _⟩ := make_fi hF
  have l1 := (sub_wide hV1.1 hy1.2).lo f1
  have l2 := (sub_wide hV1.2 hy1.1).hi f2
  have ee : ivSub V (pt y) = (down (fop .sub V.1 (pt y).2), up (fop .sub V.2 (pt y).1)) := e
  have y1 : (pt y).1 = y := rfl
  have y2 : (pt y).2 = y := rfl
  rw [ee] at m1 m2 m3 m0 ⊢
  simp only [y1, y2] at m0 m1 m2 m3 l1 l2 f1 f2 ⊢
  have a1 := le_rabs (val (down (fop .sub V.1 y)))
  have a2 := le_rabs (val (up (fop .sub V.2 y)))
  refine ⟨hV1, hy1.1, m0, fun hle => ⟨rabs_le (by grind) (by grind), rabs_le (by grind) (by grind)⟩, fun B hB b1 b2 => ?_⟩
  have big1 := fun (x : Rat) (hx : rabs x ≤ B) => small_big (x := x) (by grind)
  have s1 := (fop_sub hV1.1 hy1.2 (big1 _ b1)).small (by grind)
  have s2 := (fop_sub hV1.2 hy1.1 (big1 _ b2)).small (by grind)
  have c1 := le_rabs (val V.1 - val y)
  have c2 := le_rabs (val V.2 - val y)
  have ep := eps_pos
  rcases m3 with m3 | m3
  · rw [m3]
    simp only [y2] at s1
    exact rabs_le (by grind) (by grind)
  · rw [m3]
    simp only [y1] at s2
    exact rabs_le (by grind) (by grind)
theorem within_fi {p b : Iv} (hp : Wf p) (hb : Fi b) (h : withinI p b = true) : Fi p ∧ val b.1 ≤ val p.1 ∧ val p.2 ≤ val b.2 := by
  unfold withinI at h
  simp only [Bool.and_eq_true] at h
  obtain ⟨h1, h2⟩ := h
  have n1 : p.1 ≠ qnan := fun e => by rw [e] at h1; unfold fcmp at h1; rw [order_none_r (by decide)] at h1; simp at h1
  have n2 : p.2 ≠ qnan := fun e => by rw [e] at h2; unfold fcmp at h2; rw [order_none_l (by decide)] at h2; simp at h2
  have b2cw : ∀ x, fin x → fcmp .le finf x = false := fun x ⟨s, m, i, hd⟩ => by simp [fcmp, Ieee.Format.order, hd, read_pinf, Ieee.Datum.order]
  have b1cw : ∀ x, fin x → fcmp .le x fninf = false := fun x ⟨s, m, i, hd⟩ => by simp [fcmp, Ieee.Format.order, hd, read_ninf, Ieee.Datum.order]
  have m2 : p.2 ≠ finf := fun e => by rw [e, b2cw _ hb.2] at h2; cases h2
  have m1 : p.1 ≠ fninf := fun e => by rw [e, b1cw _ hb.1] at h1; cases h1
  have m3 : p.1 ≠ finf := fun e => m2 (hp.i1 e)
  have m4 : p.2 ≠ fninf := fun e => m1 (hp.i2 e)
  have f1 : fin p.1 := cw_nf hp.c1 (by rintro (e | e | e) <;> contradiction)
  have f2 : fin p.2 := cw_nf hp.c2 (by rintro (e | e | e) <;> contradiction)
  exact ⟨⟨f1, f2⟩, (fcmp_le hb.1 f1).1 h1, (fcmp_le f2 hb.2).1 h2⟩
theorem add_le {p q : Iv} (h : Fi (ivAdd p q)) : val (ivAdd p q).1 ≤ val (ivAdd p q).2 := by
  obtain ⟨_, _, e, h4⟩ := make_fi h
  unfold ivAdd
  rw [e]; exact h4
theorem rng_le {m : Md} (h : Fi (rngM m)) : val (rngM m).1 ≤ val (rngM m).2 := by
  unfold rngM at h ⊢; exact add_le h
theorem neg_word {r : Nat} (h : Pw r) (h0 : 0 < r) : fop .sub 0 r = Ieee.double.word true r := by
  have h1 : Ieee.double.signWeight = 9223372036854775808 := rfl
  rw [(neg_Pw h h0).1]; simp [Ieee.Format.word, h1]
theorem pm_wf {r : Nat} (h : Pw r) (h0 : 0 < r) : Wf (fop .sub 0 r, r) := by
  have hc : cw r := by
    by_cases e : r = 9218868437227405312
    · subst e; exact .inr (.inl rfl)
    · unfold Pw at h; exact .inr (.inr (.inr ⟨false, r, by omega, (word_false r).symm⟩))
  refine ⟨(show cw (fop .sub 0 r) from fop_cw _ _ _), hc, fun e => ?_, fun e => ?_⟩
  · simp only at e
    rw [(neg_Pw h h0).1] at e
    have e2 : finf = 9218868437227405312 := rfl
    rw [e2] at e; omega
  · simp only at e
    have e2 : fninf = 18442240474082181120 := rfl
    unfold Pw at h
    omega
theorem tube_in {q : List Md} {r i n : Nat} {box : List Iv} (hr : Pw r) (h0 : 0 < r) (hins : insK q box r n = true) (hi : i < n) (hb : Fi (mG box i)) : fin r ∧ 0 < val r ∧ Fi (rngM (q.getD i [])) ∧ val (rngM (q.getD i [])).1 ≤ val (rngM (q.getD i [])).2 ∧ ∀ u, Enc (rngM (q.getD i [])) u → val (mG box i).1 ≤ u - val r ∧ u + val r ≤ val (mG box i).2 := by
  unfold insK at hins
  rw [List.all_eq_true] at hins
  have hw := hins i (by simpa using hi)
  obtain ⟨hF, w1, w2⟩ := within_fi (add_wf _ _) hb hw
  obtain ⟨g1, g2⟩ := fi_add (add_wf _ _) (pm_wf hr h0) hF
  have hr1 : fin r := g2.2
  have hlt : r < 9218868437227405312 := by
    by_cases e : r = 9218868437227405312
    · subst e; exact absurd hr1 nfin_inf
    · unfold Pw at hr; omega
  have hv := (Pw_pos hlt h0).2
  have hneg : val (fop .sub 0 r) = -val r := by
    rw [neg_word hr h0, val_word true r hlt, Pw_val hlt]; rfl
  refine ⟨hr1, hv, g1, rng_le g1, fun u hu => ?_⟩
  have e1 : Enc (fop .sub 0 r, r) (val r) := ⟨g2.1, g2.2, by show val (fop .sub 0 r) ≤ _; rw [hneg]; grind, by show val r ≤ val r; exact Rat.le_refl⟩
  have e2 : Enc (fop .sub 0 r, r) (-val r) := ⟨g2.1, g2.2, by show val (fop .sub 0 r) ≤ -val r; rw [hneg]; exact Rat.le_refl, by show -val r ≤ val r; grind⟩
  have a1 := (enc_add (p := rngM (q.getD i [])) (q := (fop .sub 0 r, r)) hu e1 hF).hi
  have a2 := (enc_add (p := rngM (q.getD i [])) (q := (fop .sub 0 r, r)) hu e2 hF).lo
  exact ⟨by grind, by grind⟩
theorem tube_r {q : List Md} {r i n : Nat} {box : List Iv} (hr : Pw r) (h0 : 0 < r) (hins : insK q box r n = true) (hi : i < n) (hb : Fi (mG box i)) : fin r ∧ 0 < val r ∧ val r + val r ≤ val (mG box i).2 - val (mG box i).1 := by
  obtain ⟨h1, h2, h3, h4, h5⟩ := tube_in hr h0 hins hi hb
  have := h5 _ ⟨h3.1, h3.2, Rat.le_refl, h4⟩
  exact ⟨h1, h2, by grind⟩
structure Pbx (p : Pb) : Prop where
  y : ∀ i, i < p.t.n → ∃ k : Int, Ix (-3) (p.y.getD i 0) k ∧ k.natAbs ≤ 400
  box : ∀ i, i < p.t.n → Fi (mG p.box i) ∧ val (mG p.box i).1 = val (p.y.getD i 0) - 16 ∧ val (mG p.box i).2 = val (p.y.getD i 0) + 16
theorem ix_16 : Ix (-3) 4625196817309499392 128 := by
  have r : Ieee.double.read 4625196817309499392 = .number false 4503599627370496 (-48) := by decide
  refine ⟨⟨_, _, _, r⟩, ?_⟩
  rw [val_eq r]
  have h7 : (-3 : Int) = -48 + (45 : Nat) := by decide
  have := (congrArg pw h7).trans (pw_up _ _)
  rw [this]; simp; grind
theorem ix_8 : Ix 3 4620693217682128896 1 := by
  have r : Ieee.double.read 4620693217682128896 = .number false 4503599627370496 (-49) := by decide
  refine ⟨⟨_, _, _, r⟩, ?_⟩
  rw [val_eq r]
  have h7 : (3 : Int) = -49 + (52 : Nat) := by decide
  have := (congrArg pw h7).trans (pw_up _ _)
  rw [this]; simp
theorem valN_ix (k : Int) : Ix (-3) (valN k) (k % 65 - 32) := by
  have h1 := Int.emod_nonneg k (by decide : (65 : Int) ≠ 0)
  have h2 := Int.emod_lt_of_pos k (by decide : (0 : Int) < 65)
  exact Ix.div (Ix.ofInt _ (by omega)) ix_8 (by decide) (by decide) (by omega) (by omega) (by decide) (by decide)
theorem mkPb_box (n first least tol fin : Int) (ns ms outs : List Int) (dv : Bool) : Pbx (mkPb n first least tol fin ns ms outs dv) := by
  have hy : ∀ i, i < (mkT n ns dv).n → ∃ k : Int, Ix (-3) ((valsL (mkT n ns dv).n ms).getD i 0) k ∧ k.natAbs ≤ 32 := fun i hi => by
    unfold valsL
    rw [tabR_getD _ _ _ hi]
    generalize (if i < ms.length then ms.getD i 0 else (i : Int)) = w
    have h1 := Int.emod_nonneg w (by decide : (65 : Int) ≠ 0)
    have h2 := Int.emod_lt_of_pos w (by decide : (0 : Int) < 65)
    exact ⟨_, valN_ix w, by omega⟩
  refine ⟨fun i hi => ?_, fun i hi => ?_⟩
  · obtain ⟨k, h1, h2⟩ := hy i hi
    exact ⟨k, h1, by omega⟩
  · obtain ⟨k, h1, h2⟩ := hy i hi
    have e : mG (mkPb n first least tol fin ns ms outs dv).box i = boxE (valsL (mkT n ns dv).n ms) i := by
      show (boxL _ _).getD i _ = _
      unfold boxL
      rw [List.getD_eq_getElem?_getD, List.getElem?_map, List.getElem?_range (show i < (mkT n ns dv).n from hi)]; rfl
    rw [e]
    have a := h1.sub ix_16 (by omega) (by decide) (by decide)
    have b := h1.add ix_16 (by omega) (by decide) (by decide)
    have p16 : (128 : Rat) * pw (-3) = 16 := by
      have := pw_up (-3) 3
      rw [show (-3 : Int) + (3 : Nat) = 0 from rfl, pw_zero] at this
      have e : ((2 ^ 3 : Nat) : Rat) = 8 := rfl
      grind
    refine ⟨⟨a.fin, b.fin⟩, ?_, ?_⟩
    · show val (fop .sub _ _) = val ((valsL (mkT n ns dv).n ms).getD i 0) - 16
      rw [a.val, h1.val, Rat.intCast_sub]
      have : ((128 : Int) : Rat) = 128 := rfl
      grind
    · show val (fop .add _ _) = val ((valsL (mkT n ns dv).n ms).getD i 0) + 16
      rw [b.val, h1.val, Rat.intCast_add]
      have : ((128 : Int) : Rat) = 128 := rfl
      grind
theorem pw_sub (k : Nat) (e : Int) (h : -1022 ≤ e) (h2 : e ≤ 1000) (hk : k = (e + 1023).toNat * 4503599627370496) : fin k ∧ val k = pw e := by
  have hk2 : k < 9218868437227405312 := by omega
  refine ⟨Pw_fin hk2, ?_⟩
  rw [Pw_val hk2]
  obtain ⟨n, hn⟩ : ∃ n : Nat, e + 1023 = n := ⟨(e + 1023).toNat, by omega⟩
  have hn1 : 1 ≤ n := by omega
  rw [hn, Int.toNat_natCast] at hk
  have := rv_norm (n - 1) 4503599627370496 (by decide) (by omega)
  rw [show (n - 1) * 4503599627370496 + 4503599627370496 = k by omega] at this
  rw [this]
  have h5 := pw52 (-1074 + ((n - 1 : Nat) : Int))
  rw [show -1074 + ((n - 1 : Nat) : Int) + 52 = e by omega] at h5
  rw [h5]; rfl
def c9 : Nat := 4472406533629990549
theorem c9_val : fin c9 ∧ Pw c9 ∧ pw (-30) ≤ val c9 ∧ val c9 ≤ pw (-29) := by
  have h1 : c9 < 9218868437227405312 := by decide
  refine ⟨Pw_fin h1, by unfold Pw; decide, ?_, ?_⟩
  · obtain ⟨f, v⟩ := pw_sub 4472074429978902528 (-30) (by decide) (by decide) (by decide)
    rw [← v, Pw_val h1, Pw_val (by decide)]
    exact rv_mono (by decide)
  · obtain ⟨f, v⟩ := pw_sub 4476578029606273024 (-29) (by decide) (by decide) (by decide)
    rw [← v, Pw_val h1, Pw_val (by decide)]
    exact rv_mono (by decide)
theorem tiny : 64 * pw (-40) + eps ≤ pw (-30) ∧ pw (-29) ≤ 1 ∧ 0 < pw (-40) ∧ pw (-40) ≤ 1 := by
  have a := pw_up (-40) 10
  have b := pw_up (-40) 4
  have c := pw_pos (-40)
  have d := pw_mono (show (-29 : Int) ≤ 0 by decide)
  have e := pw_mono (show (-40 : Int) ≤ 0 by decide)
  rw [pw_zero] at d e
  rw [show (-40 : Int) + (10 : Nat) = -30 from rfl] at a
  rw [show (-40 : Int) + (4 : Nat) = -36 from rfl] at b
  have e1 : ((2 ^ 10 : Nat) : Rat) = 1024 := rfl
  have e2 : ((2 ^ 4 : Nat) : Rat) = 16 := rfl
  unfold eps
  refine ⟨by grind, d, c, e⟩
theorem valK_wf {c : List Nat} (hc : ∀ i, cw (c.getD i 0)) (s : Nat) : ∀ m, Wf (valK c s m) ∧ (Fi (valK c s m) → val (valK c s m).1 ≤ val (valK c s m).2) := by
  intro m
  cases m with
  | zero => exact ⟨pt_wf (hc _), fun _ => Rat.le_refl⟩
  | succ m => exact ⟨add_wf _ _, fun h => by
      obtain ⟨_, _, e, h4⟩ := make_fi h
      have ee : valK c s (m + 1) = (_, _) := e
      rw [ee]; exact h4⟩
theorem col_cw {z : List (List Nat)} (h : Cw z) (i k : Nat) : cw ((colT z i).getD k 0) := by
  by_cases hk : k < z.length
  · rw [colT_at _ _ _ hk]; exact h k i
  · rw [List.getD_eq_getElem?_getD, List.getElem?_eq_none (by rw [colT_len]; omega)]
    exact cw_zero
theorem jmpI_or (z : List (List Nat)) (y : List Nat) (i : Nat) : Pw (jmpI z y i) ∨ isNan (jmpI z y i) = true := mag_or _
theorem jump_small {p : Pb} {z : List (List Nat)} {h w e r : Nat} {y : List Nat} {R : Bnd × Int} (hx : Pbx p) (hn : 0 < p.t.n) (hw : Pw w) (hs : PSpec p.t p.box z h y w e r R) (h0 : 0 < h ∧ h < 9218868437227405312) : fin R.1.jump ∧ val R.1.jump ≤ 16 ∧ 0 ≤ val R.1.jump := by
  obtain ⟨b1, b2, b3⟩ := hx.box 0 hn
  have hr0 : 0 < r := by have := hs.b.er; have := hs.e0; omega
  obtain ⟨f, v0, v1⟩ := tube_r hs.b.hr hr0 hs.b.ins hn b1
  rw [b2, b3] at v1
  have hlt : r < 9218868437227405312 := by
    by_cases e : r = 9218868437227405312
    · subst e; exact absurd f nfin_inf
    · have := hs.b.hr; unfold Pw at this; omega
  obtain ⟨f2, v⟩ := Pw_pos h0.2 h0.1
  have a1 := Pw_add hw hs.j
  have a2 := Pw_mul f2 (by unfold Pw; omega) v hs.d
  have c1 := Pw_add_ge hw hs.j
  have c2 := up_ge a1
  have c3 := Pw_add_ge (up_pos a1).1 (up_pos a2).1
  have c4 := up_ge (Pw_add (up_pos a1).1 (up_pos a2).1)
  have c5 := hs.he
  have c6 := hs.b.er
  have hJ : R.1.jump ≤ r := by omega
  have hJl : R.1.jump < 9218868437227405312 := by omega
  refine ⟨Pw_fin hJl, ?_, ?_⟩
  · rw [Pw_val hJl]
    rw [Pw_val hlt] at v1
    have := rv_mono hJ
    grind
  · rw [Pw_val hJl]; exact rv_nonneg _
theorem jump_law {p : Pb} {z : List (List Nat)} {h e r e' r' d : Nat} {D : Int} {R R' : Bnd × Int} (hx : Pbx p) (hn : 0 < p.t.n) (hyl : p.y.length = p.t.n) (hyc : cw (p.y.getD 0 0)) (hz : Cw z)
    (hs : PSpec p.t p.box z h p.y 0 e r R) (hs' : PSpec p.t p.box z h (p.y.set 0 (fop .add (p.y.getD 0 0) d)) 0 e' r' R') (h0 : 0 < h ∧ h < 9218868437227405312) (hd : Ix (-16) d D) (hD : 0 ≤ D ∧ D ≤ 8) :
    fcmp .ge R'.1.jump (fop .sub (fop .sub d R.1.jump) c9) = true ∧ fcmp .le R'.1.jump (fop .add (fop .add d R.1.jump) c9) = true ∧ fcmp .eq R.1.defect R'.1.defect = true := by
  have w0 : Pw 0 := Nat.zero_le _
  obtain ⟨J1, J2, J3⟩ := jump_small hx hn w0 hs h0
  obtain ⟨K1, K2, K3⟩ := jump_small hx hn w0 hs' h0
  obtain ⟨ky, hky, hkb⟩ := hx.y 0 hn
  obtain ⟨t1, t2, t3, t4⟩ := tiny
  obtain ⟨c1, c2, c3, c4⟩ := c9_val
  have ep := eps_pos
  -- the number that is added
  have hD1 : 0 ≤ val d ∧ val d ≤ 1 := by
    rw [hd.val]
    have p16 := pw_up (-16) 16
    rw [show (-16 : Int) + (16 : Nat) = 0 from rfl, pw_zero] at p16
    have e1 : ((2 ^ 16 : Nat) : Rat) = 65536 := rfl
    have p0 := pw_pos (-16)
    have q1 : (0 : Rat) ≤ (D : Rat) := by exact_mod_cast Rat.intCast_le_intCast.2 hD.1
    have q2 : (D : Rat) ≤ 8 := by exact_mod_cast Rat.intCast_le_intCast.2 hD.2
    have m1 := Rat.mul_le_mul_of_nonneg_right q1 (Rat.le_of_lt p0)
    have m2 := Rat.mul_le_mul_of_nonneg_right q2 (Rat.le_of_lt p0)
    exact ⟨by grind, by grind⟩
  have hy8 : rabs (val (p.y.getD 0 0)) ≤ 400 := by
    rw [hky.val]
    have p16 := pw_up (-3) 3
    rw [show (-3 : Int) + (3 : Nat) = 0 from rfl, pw_zero] at p16
    have e1 : ((2 ^ 3 : Nat) : Rat) = 8 := rfl
    have p0 := pw_pos (-3)
    have hri := rabs_int ky
    have : rabs (ky : Rat) ≤ ((400 : Nat) : Rat) := by rw [hri]; exact Rat.natCast_le_natCast.2 hkb
    have q := le_rabs (ky : Rat)
    have e4 : ((400 : Nat) : Rat) = 400 := rfl
    have m1 := Rat.mul_le_mul_of_nonneg_right (show (ky : Rat) ≤ 400 by grind) (Rat.le_of_lt p0)
    have m2 := Rat.mul_le_mul_of_nonneg_right (show -(ky : Rat) ≤ 400 by grind) (Rat.le_of_lt p0)
    exact rabs_le (by grind) (by grind)
  have hyr := le_rabs (val (p.y.getD 0 0))
  have hy1 := (fop_add hky.fin hd.fin (small_big (rabs_le (by grind) (by grind)))).small (show rabs (val (p.y.getD 0 0) + val d) ≤ 4000 from rabs_le (by grind) (by grind))
  have hy2 := le_rabs (val (fop .add (p.y.getD 0 0) d) - (val (p.y.getD 0 0) + val d))
  -- the first variable's
  have hset : ∀ i, (p.y.set 0 (fop .add (p.y.getD 0 0) d)).getD i 0 = if i = 0 then fop .add (p.y.getD 0 0) d else p.y.getD i 0 := fun i => by
    rcases hc : p.y with _ | ⟨a, l⟩
    · rw [hc] at hyl; simp at hyl; omega
    · rcases i with _ | i <;> simp
  have jj := hs.b.jump
  have jj' := hs'.b.jump
  obtain ⟨P0, G0⟩ := bestF_ge _ (jmpI_or z p.y) _ (jj ▸ hs.j)
  obtain ⟨P1, G1⟩ := bestF_ge _ (jmpI_or z (p.y.set 0 (fop .add (p.y.getD 0 0) d))) _ (jj' ▸ hs'.j)
  have l0 := G0 0 (Nat.zero_le _) P0
  have l1 := G1 0 (Nat.zero_le _) P1
  rw [← jj] at l0 G0
  rw [← jj'] at l1 G1
  have below : ∀ a b, fin b → Pw b → a ≤ b → a < 9218868437227405312 ∧ b < 9218868437227405312 ∧ val a ≤ val b := fun a b fb hb hab => by
    have : b < 9218868437227405312 := by
      by_cases e : b = 9218868437227405312
      · subst e; exact absurd fb nfin_inf
      · unfold Pw at hb; omega
    exact ⟨by omega, this, by rw [Pw_val (by omega), Pw_val this]; exact rv_mono hab⟩
  obtain ⟨s1, _, s3⟩ := below _ _ J1 hs.j l0
  obtain ⟨s1', _, s3'⟩ := below _ _ K1 hs'.j l1
  obtain ⟨wf, wl⟩ := valK_wf (col_cw hz 0) negW ((colT z 0).length - 1)
  obtain ⟨o1, o2, o3, o4, _⟩ := off_val (V := valC (colT z 0) negW) (y := p.y.getD 0 0) wf hyc (Pw_finite s1)
  have oo := o4 (wl o1)
  have e1' : jmpI z (p.y.set 0 (fop .add (p.y.getD 0 0) d)) 0 = ivMag (ivSub (valC (colT z 0) negW) (pt (fop .add (p.y.getD 0 0) d))) := by
    unfold jmpI; rw [hset 0, if_pos rfl]
  have e1 : jmpI z p.y 0 = ivMag (ivSub (valC (colT z 0) negW) (pt (p.y.getD 0 0))) := rfl
  obtain ⟨_, u2, u3, u4, u5⟩ := off_val (V := valC (colT z 0) negW) (y := fop .add (p.y.getD 0 0) d) wf (fop_cw _ _ _) (by rw [← e1']; exact Pw_finite s1')
  have uu := u4 (wl o1)
  rw [← e1] at oo o3
  rw [← e1'] at uu u5 u3
  have A0 : val (jmpI z p.y 0) ≤ val R.1.jump := s3
  have A1 : val (jmpI z (p.y.set 0 (fop .add (p.y.getD 0 0) d)) 0) ≤ val R'.1.jump := s3'
  have r1 := le_rabs (val (valC (colT z 0) negW).1 - val (p.y.getD 0 0))
  have r2 := le_rabs (val (valC (colT z 0) negW).2 - val (p.y.getD 0 0))
  have r3 := le_rabs (val (valC (colT z 0) negW).1 - val (fop .add (p.y.getD 0 0) d))
  have up1 := u5 (val (jmpI z p.y 0) + val d + pw (-40)) (by grind) (rabs_le (by grind) (by grind)) (rabs_le (by grind) (by grind))
  have lo1 : val d - pw (-40) - val R.1.jump ≤ val R'.1.jump := by grind
  have hi1 : val R'.1.jump ≤ val R.1.jump + val d + pw (-40) + eps := by
    obtain ⟨i, hi, e⟩ := bestF_is (jmpI z (p.y.set 0 (fop .add (p.y.getD 0 0) d))) (p.t.n - 1)
    rw [← jj'] at e
    by_cases h00 : i = 0
    · rw [h00] at e; rw [e]; grind
    · have e2 : jmpI z (p.y.set 0 (fop .add (p.y.getD 0 0) d)) i = jmpI z p.y i := by unfold jmpI; rw [hset i, if_neg h00]
      rw [e2] at e
      have := G0 i hi (e ▸ hs'.j)
      rw [← e] at this
      have := (below _ _ J1 hs.j this).2.2
      grind
  have x1 := (fop_sub hd.fin J1 (small_big (rabs_le (by grind) (by grind)))).small (show rabs (val d - val R.1.jump) ≤ 4000 from rabs_le (by grind) (by grind))
  have x2 := le_rabs (val (fop .sub d R.1.jump) - (val d - val R.1.jump))
  have x0 := (fop_sub hd.fin J1 (small_big (rabs_le (by grind) (by grind)))).fin
  have z1 := (fop_sub x0 c1 (small_big (rabs_le (by grind) (by grind)))).small (show rabs (val (fop .sub d R.1.jump) - val c9) ≤ 4000 from rabs_le (by grind) (by grind))
  have z2 := le_rabs (val (fop .sub (fop .sub d R.1.jump) c9) - (val (fop .sub d R.1.jump) - val c9))
  have z0 := (fop_sub x0 c1 (small_big (rabs_le (by grind) (by grind)))).fin
  have p1 := (fop_add hd.fin J1 (small_big (rabs_le (by grind) (by grind)))).small (show rabs (val d + val R.1.jump) ≤ 4000 from rabs_le (by grind) (by grind))
  have p2 := le_rabs (val (fop .add d R.1.jump) - (val d + val R.1.jump))
  have p0 := (fop_add hd.fin J1 (small_big (rabs_le (by grind) (by grind)))).fin
  have v1 := (fop_add p0 c1 (small_big (rabs_le (by grind) (by grind)))).small (show rabs (val (fop .add d R.1.jump) + val c9) ≤ 4000 from rabs_le (by grind) (by grind))
  have v2 := le_rabs (val (fop .add (fop .add d R.1.jump) c9) - (val (fop .add d R.1.jump) + val c9))
  have v0 := (fop_add p0 c1 (small_big (rabs_le (by grind) (by grind)))).fin
  refine ⟨(fcmp_ge K1 z0).2 (by grind), (fcmp_le K1 v0).2 (by grind), ?_⟩
  rw [hs.b.defect, hs'.b.defect, fcmp_eq_self]
  have := Pw_nan hs.d
  rw [hs.b.defect] at this
  rw [this]; rfl
end Go.Ab
namespace Go.Ab
set_option linter.unusedSimpArgs false
set_option linter.unusedVariables false
open Nat renaming reduceEqDiff → n1_, reduceAdd → n2_, reduceMul → n3_, reduceLT → n4_, reduceLeDiff → n5_
open Int renaming reduceToNat → i1_, reduceAdd → i2_, reduceSub → i3_, reduceMul → i4_, reduceNeg → i5_, reduceLT → i6_, reduceLE → i7_
open Go Go.Proofs
theorem ix_65536 : Ix 16 4679240012837945344 1 := by
  have r : Ieee.double.read 4679240012837945344 = .number false 4503599627370496 (-36) := by decide
  refine ⟨⟨_, _, _, r⟩, ?_⟩
  rw [val_eq r]
  have h7 : (16 : Int) = -36 + (52 : Nat) := by decide
  have := (congrArg pw h7).trans (pw_up _ _)
  rw [this]; simp
theorem taken_cw {p : Pb} {k : Nat} {x : Sta} (hp : Pk2 p) (hi : Inv p k x) (ht : (tryP p x).taken = true) : Cw (tryP p x).n.z := by
  rcases try_spec hp.pk hi with ⟨_, sp⟩ | ⟨h, _⟩
  · obtain ⟨d, kk, hd, hs, hz⟩ := sp.sol
    rw [hz]; exact corrP_cw (predP_cw hi.ok.n.cw _ _) _ _ _ _
  · rw [h] at ht; cases ht
theorem jump_law2 {p : Pb} {z : List (List Nat)} {h d : Nat} {D : Int} (hx : Pbx p) (hn : 0 < p.t.n) (hyl : p.y.length = p.t.n) (hyc : cw (p.y.getD 0 0)) (hz : Cw z)
    (h0 : 0 < h ∧ h < 9218868437227405312) (hd : Ix (-16) d D) (hD : 0 ≤ D ∧ D ≤ 8) (h1 : (bndP p.t p.box z h p.y 0).2 = 0) (h2 : (bndP p.t p.box z h (p.y.set 0 (fop .add (p.y.getD 0 0) d)) 0).2 = 0) :
    fcmp .ge (bndP p.t p.box z h (p.y.set 0 (fop .add (p.y.getD 0 0) d)) 0).1.jump (fop .sub (fop .sub d (bndP p.t p.box z h p.y 0).1.jump) c9) = true ∧ fcmp .le (bndP p.t p.box z h (p.y.set 0 (fop .add (p.y.getD 0 0) d)) 0).1.jump (fop .add (fop .add d (bndP p.t p.box z h p.y 0).1.jump) c9) = true ∧ fcmp .eq (bndP p.t p.box z h p.y 0).1.defect (bndP p.t p.box z h (p.y.set 0 (fop .add (p.y.getD 0 0) d)) 0).1.defect = true := by
  have w0 : Pw 0 := Nat.zero_le _
  obtain ⟨e1, r1, s1⟩ := bndP_spec p.t p.box z h p.y 0 w0 h0 h1
  obtain ⟨e2, r2, s2⟩ := bndP_spec p.t p.box z h (p.y.set 0 (fop .add (p.y.getD 0 0) d)) 0 w0 h0 h2
  exact jump_law hx hn hyl hyc hz s1 s2 h0 hd hD
def A_l11_BoundJump : CA := (.seq (.reg [i_X 0 2 (.box (.t 0) 9 24), i_X 1 4 (.h (.mov (.k (.d (.bool false)))))] [1, 2]) (.seq (.seq (.reg [i_X 0 14 (.callA (kF 11) []), i_X 1 15 (.h (.un .not (.t 14)))] [1, 2, 15]) (.cond (.t 15) (.seq (.reg [i_X 0 4 (.h (.mov (.k (.d (.bool false)))))] [4]) .ret) .skip)) (.seq (.seq (.reg [i_A 0 16 2 9, i_X 1 17 (.callA (kF 12) [(.t 16)]), i_X 2 18 (.h (.un .not (.t 17)))] [1, 2, 18]) (.cond (.t 18) (.seq (.reg [i_X 0 4 (.h (.mov (.k (.d (.bool true)))))] [4]) .ret) .skip)) (.seq (.reg [i_A 0 19 2 9, i_X 1 20 (.callA (kF 13) [(.t 19)]), i_X 2 5 (.alloc [(.d (.int .i64 0)), .nil, .nil, .nil, .nil, (.d (.int .i64 0)), (.d (.int .i64 0)), (.d (.int .i64 0)), (.d (.flt 0)), (.d (.flt 0)), (.d (.flt 0)), (.d (.int .i64 0)), .nil] 33), i_S 3 5 20 13] [1, 5]) (.seq (.reg [i_A 0 21 5 13, i_X 1 22 (.callA (kF 14) [(.t 21)]), i_X 2 6 (.alloc [(.d (.int .i64 0)), (.d (.int .i64 0)), (.d (.int .i64 0)), (.d (.int .i64 0)), .nil, (.d (.int .i64 0)), (.d (.int .i64 0)), (.d (.int .i64 0))] 39), i_S 3 6 22 8] [1, 5, 6]) (.seq (.reg [i_A 0 23 5 13, i_A 1 24 6 8, i_X 2 25 (.callA (kF 16) [(.t 23), (.t 24)]), i_X 3 7 (.alloc [(.d (.int .i64 0)), (.d (.int .i64 0)), (.d (.int .i64 0)), (.d (.int .i64 0)), .nil, (.d (.int .i64 0)), (.d (.int .i64 0)), (.d (.int .i64 0)), (.d (.int .i64 0)), (.d (.int .i64 0)), (.d (.int .i64 0)), (.d (.int .i64 0)), .nil, (.d (.bool false)), (.d (.flt 0)), (.d (.int .i64 0))] 43), i_S 4 7 25 16] [1, 5, 7]) (.seq (.seq (.reg [i_P 0 26 7 13, i_L 1 27 26 1, i_X 2 28 (.h (.un .not (.t 27)))] [1, 5, 7, 28]) (.cond (.t 28) (.seq (.reg [i_X 0 4 (.h (.mov (.k (.d (.bool true)))))] [4]) .ret) .skip)) (.seq (.reg [i_X 0 29 (.bslice [] 0 1 [] 31), i_P 1 30 5 4, i_L 2 31 30 1, i_X 3 32 (.app (.t 29) (.t 31) 1 8), i_M 4 8 32] [1, 5, 7, 8]) (.seq (.reg [i_M 0 33 1, i_X 1 34 (.callA (kF 15) [(.t 33), (kI 9)]), i_X 2 35 (.h (.i2f (.t 34))), i_X 3 36 (.h (.fbin .div (.t 35) (.k (.d (.flt 4679240012837945344))))), i_M 4 9 36] [5, 7, 8, 9]) (.seq (.reg [i_M 0 37 8, i_M 1 38 8, i_X 2 39 (.h (.idx (.t 38) (kI 0) 1)), i_L 3 40 39 1, i_M 4 41 9, i_F 5 42 .add 40 41, i_X 6 43 (.h (.idx (.t 37) (kI 0) 1)), i_S 7 43 42 1] [5, 7, 8, 9]) (.seq (.reg [i_A 0 45 5 13, i_P 1 46 7 8, i_A 2 47 46 5, i_P 3 48 5 4, i_L 4 49 48 1, i_X 5 50 (.callA (kF 17) [(.t 45), (.t 47), (.t 49), (.k (.d (.flt 0)))]), i_M 6 44 50, i_X 7 51 (.h (.ext (.t 44) 0)), i_X 8 52 (.h (.ext (.t 44) 1)), i_X 9 10 (.alloc z_5 46), i_S 10 10 51 5, i_M 11 11 52] [5, 7, 8, 9, 10, 11]) (.seq (.reg [i_A 0 54 5 13, i_P 1 55 7 8, i_A 2 56 55 5, i_M 3 57 8, i_X 4 58 (.callA (kF 17) [(.t 54), (.t 56), (.t 57), (.k (.d (.flt 0)))]), i_M 5 53 58, i_X 6 59 (.h (.ext (.t 53) 0)), i_X 7 60 (.h (.ext (.t 53) 1)), i_X 8 12 (.alloc z_5 46), i_S 9 12 59 5, i_M 10 13 60] [9, 10, 11, 12, 13]) (.seq (.seq (.reg [i_M 0 61 11, i_B 1 62 .neq 61 0, i_M 2 63 62, ⟨3, (some 64), (some (63, false)), [], [], (.h (.mov (.t 13)))⟩, ⟨4, (some 65), (some (63, false)), [], [], (.h (.ibin .neq (.t 64) (kI 0)))⟩, i_X 5 66 (.h (.pick (.t 63) (.k (.d (.bool true))) (.t 65)))] [9, 10, 12, 66]) (.cond (.t 66) (.seq (.reg [i_X 0 4 (.h (.mov (.k (.d (.bool true)))))] [4]) .ret) .skip)) (.seq (.reg [i_P 0 67 12 0, i_L 1 68 67 1, i_M 2 69 9, i_P 3 70 10 0, i_L 4 71 70 1, i_F 5 72 .sub 69 71, i_X 6 73 (.h (.fbin .sub (.t 72) (.k (.d (.flt 4472406533629990549))))), i_X 7 74 (.h (.fcmp .ge (.t 68) (.t 73))), i_M 8 75 74, ⟨9, (some 76), (some (75, true)), [], [], (.h (.padd (.t 12) 0))⟩, ⟨10, (some 77), (some (75, true)), [], [], (.load (.t 76) 1 false)⟩, ⟨11, (some 78), (some (75, true)), [], [], (.h (.mov (.t 9)))⟩, ⟨12, (some 79), (some (75, true)), [], [], (.h (.padd (.t 10) 0))⟩, ⟨13, (some 80), (some (75, true)), [], [], (.load (.t 79) 1 false)⟩, ⟨14, (some 81), (some (75, true)), [], [], (.h (.fbin .add (.t 78) (.t 80)))⟩, ⟨15, (some 82), (some (75, true)), [], [], (.h (.fbin .add (.t 81) (.k (.d (.flt 4472406533629990549)))))⟩, ⟨16, (some 83), (some (75, true)), [], [], (.h (.fcmp .le (.t 77) (.t 82)))⟩, i_X 17 84 (.h (.pick (.t 75) (.t 83) (.k (.d (.bool false))))), i_M 18 85 84, ⟨19, (some 86), (some (85, true)), [], [], (.h (.padd (.t 10) 1))⟩, ⟨20, (some 87), (some (85, true)), [], [], (.load (.t 86) 1 false)⟩, ⟨21, (some 88), (some (85, true)), [], [], (.h (.padd (.t 12) 1))⟩, ⟨22, (some 89), (some (85, true)), [], [], (.load (.t 88) 1 false)⟩, ⟨23, (some 90), (some (85, true)), [], [], (.h (.fcmp .eq (.t 87) (.t 89)))⟩, i_X 24 91 (.h (.pick (.t 85) (.t 90) (.k (.d (.bool false))))), i_M 25 4 91] [4]) .ret))))))))))))))
theorem A_l11_BoundJump_comp : compF Tryz.prog 8 = some ⟨92, [(4, none)], A_l11_BoundJump.strip⟩ := by kernel_rfl
set_option maxRecDepth 8000 in
theorem l11_BoundJump_con (n first least tol fin : Int) (ns ms outs : List Int) (dv : Bool) (off : Int) : Con Tryz.prog 8 [.agg (shC n first least tol fin ns ms outs dv), fI off] (fB true) := by
  refine Con_introA A_l11_BoundJump_comp rfl mixed ?_
  refine evx @A_l11_BoundJump.eq_1 ?_
  refine callG_con (l11_known_con) rfl ?_
  refine ev ?_
  refine callG_con (l10_Few_con n first least tol fin ns ms outs dv) rfl ?_
  by_cases hfew : ns.length ≤ 60 ∧ ms.length ≤ 60 ∧ outs.length ≤ 60
  · rw [decide_eq_true hfew]
    refine ev ?_
    refine callG_con (l10_Make_con n first least tol fin ns ms outs dv hfew.1 hfew.2.1 hfew.2.2) rfl ?_
    have hp2 := mkPb_ok2 n first least tol fin ns ms outs dv
    have hpb := mkPb_box n first least tol fin ns ms outs dv
    generalize hpp : mkPb n first least tol fin ns ms outs dv = p at hp2 hpb
    have hp := hp2.pk
    refine ev ?_
    have hn40 : p.t.n < 2 ^ 40 := Nat.lt_trans hp.ok.t.n (by decide)
    refine callG_con (begin_con p hp) rfl ?_
    refine ev ?_
    have hi := begin_inv hp
    have hb := fun y hy ht w hw => taken_bok hp2 hi ht y w hy hw
    have hcw := fun ht => taken_cw hp2 hi ht
    have hzx := hi.ok.n.rk
    have hx0 := hzx.2 0 (by omega)
    have hxl := hzx.1
    refine callG_con (r10_Try_con p (beginS p) hp.ok hi.ok) rfl ?_
    generalize tryP p (beginS p) = r at hb hcw
    generalize beginS p = x at hzx hx0 hxl ⊢
    obtain ⟨sst, nd, tk, er, e⟩ := r
    simp only at hb hcw
    refine ev ?_
    cases tk
    · refine ev ?_
      exact endsT_rett rfl (by decide) (by simp [look])
    · refine evx (And.intro @srcCells_row @srcLen_bor) ?_
      have hn20 := hp.ok.t.n
      have hyl := hp.yl
      refine ⟨by omega, ?_⟩
      refine callG_con (l11_within_con off 9 (by decide) (by decide)) rfl ?_
      have hoff1 := Int.emod_nonneg off (by decide : (9 : Int) ≠ 0)
      have hoff2 := Int.emod_lt_of_pos off (by decide : (0 : Int) < 9)
      have hD : Ix (-16) (fop .div (FloatKind.nearest .f64 (off % 9)) 4679240012837945344) (off % 9) := Ix.div (Ix.ofInt _ (by omega)) ix_65536 (by decide) (by omega) (by omega) (by omega) (by decide) (by decide)
      refine ev ?_
      generalize fop .div (FloatKind.nearest .f64 (off % 9)) 4679240012837945344 = d at hD ⊢
      have g0 : (rowV p.y).getD 0 .any = fl (p.y.getD 0 0) := getD_map_fl _ _ (by rw [hyl]; exact hp.ok.n)
      have hn0 := hp.ok.n
      refine evx g0 ?_
      have w0 : Pw 0 := Nat.zero_le _
      have hyl2 : (p.y.set 0 (fop .add (p.y.getD 0 0) d)).length = p.t.n := by rw [List.length_set]; exact hyl
      have hbk := hb p.y hyl rfl 0 w0
      have hbk2 := hb (p.y.set 0 (fop .add (p.y.getD 0 0) d)) hyl2 rfl 0 w0
      have hs1 := bound_Step_con p nd p.y 0 hbk
      have hs2 := bound_Step_con p nd _ 0 hbk2
      have hh : 0 < hW nd.step.toNat ∧ hW nd.step.toNat < 9218868437227405312 := by obtain ⟨j, hj, hst⟩ := hbk.step; rw [hst, Int.toNat_natCast]; exact hW_Pw j hj
      have ho1 := bndP_ok p.t p.box nd.z (hW nd.step.toNat) p.y 0
      have ho2 := bndP_ok p.t p.box nd.z (hW nd.step.toNat) (p.y.set 0 (fop .add (p.y.getD 0 0) d)) 0
      have hlaw := jump_law2 hpb hn0 hyl (hp.yc 0) (hcw rfl) hh hD (by omega)
      generalize bndP p.t p.box nd.z (hW nd.step.toNat) p.y 0 = R at hs1 ho1 hlaw
      generalize bndP p.t p.box nd.z (hW nd.step.toNat) (p.y.set 0 (fop .add (p.y.getD 0 0) d)) 0 = R' at hs2 ho2 hlaw
      generalize p.y.set 0 (fop .add (p.y.getD 0 0) d) = y' at hyl2 hs2 ⊢
      refine ⟨by omega, by omega, by omega, by omega, ?_⟩
      refine callG_con (hs1) rfl ?_
      refine ev ?_
      refine callG_snaps [pbV p, ndV nd, .d (rowD y'), fl 0] hs2 ⟨.aggs ⟨.bare _, .bare _, .bare _, .bare _, .bare _, .bare _, .bare _, .bare _, .bare _, .bare _, .bare _, .bare _, .bare _, trivial⟩, .aggs ⟨.bare _, .bare _, .bare _, .bare _, .bare _, trivial⟩, snp_row rfl (hyl2.trans hyl.symm) rfl, .bare _, trivial⟩ (scalar_bd R') ?_
      rcases ho1 with ⟨r1, _⟩ | ⟨r0, r1⟩
      · rcases ho2 with ⟨r2, _⟩ | ⟨r0, r2⟩
        · obtain ⟨l1, l2, l3⟩ := hlaw r1 r2
          have c9e : c9 = 4472406533629990549 := rfl
          rw [c9e] at l1 l2
          rw [r1, r2]
          refine evx (And.intro l1 (And.intro l2 l3)) ?_
          exact endsT_rett rfl (by decide) (by simp [look])
        · rw [r1]
          rcases r2 with r2 | r2
          · rw [r2]
            simp -implicitDefEqProofs only [evI, hv, effC, reduceCtorEq, ↓reduceIte, n1_, n2_, n3_, n4_, n5_, i1_, i2_, i3_, i4_, i5_, i6_, i7_, Int.reduceBEq, Int.reduceBNe]
            exact endsT_rett rfl (by decide) (by simp [look])
          · rw [r2]
            simp -implicitDefEqProofs only [evI, hv, effC, reduceCtorEq, ↓reduceIte, n1_, n2_, n3_, n4_, n5_, i1_, i2_, i3_, i4_, i5_, i6_, i7_, Int.reduceBEq, Int.reduceBNe]
            exact endsT_rett rfl (by decide) (by simp [look])
      · rcases r1 with r1 | r1
        · rw [r1]
          simp -implicitDefEqProofs only [evI, hv, effC, reduceCtorEq, ↓reduceIte, n1_, n2_, n3_, n4_, n5_, i1_, i2_, i3_, i4_, i5_, i6_, i7_, Int.reduceBEq, Int.reduceBNe]
          exact endsT_rett rfl (by decide) (by simp [look])
        · rw [r1]
          simp -implicitDefEqProofs only [evI, hv, effC, reduceCtorEq, ↓reduceIte, n1_, n2_, n3_, n4_, n5_, i1_, i2_, i3_, i4_, i5_, i6_, i7_, Int.reduceBEq, Int.reduceBNe]
          exact endsT_rett rfl (by decide) (by simp [look])
  · rw [decide_eq_false hfew]
    refine ev ?_
    exact endsT_rett rfl (by decide) (by simp [look])
end Go.Ab
