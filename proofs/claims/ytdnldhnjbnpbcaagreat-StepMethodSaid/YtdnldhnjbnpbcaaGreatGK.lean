/- Part 11: SB, MC, CB, SC, CC. -/
import Derived.Test.YtdnldhnjbnpbcaaGreatGJ
namespace Go.Ab
set_option linter.unusedSimpArgs false
set_option linter.unusedVariables false
open Nat renaming reduceEqDiff → n1_, reduceAdd → n2_, reduceMul → n3_, reduceLT → n4_, reduceLeDiff → n5_
open Int renaming reduceToNat → i1_, reduceAdd → i2_, reduceSub → i3_, reduceMul → i4_, reduceNeg → i5_, reduceLT → i6_, reduceLE → i7_
open Go Go.Proofs
theorem cut_exact (s : Bool) (k d : Nat) : Ieee.Toward.even.cut s (k * 2 ^ d) d = k := by
  obtain ⟨h1, h2⟩ := cut_spec s (k * 2 ^ d) d
  generalize Ieee.Toward.even.cut s (k * 2 ^ d) d = c at h1 h2
  have hp : 0 < 2 ^ d := Nat.pow_pos (by decide)
  generalize 2 ^ d = P at *
  have a1 : 2 * c ≤ 2 * k + 1 := Nat.le_of_mul_le_mul_right (by rw [Nat.add_mul]; simp only [Nat.mul_assoc, Nat.one_mul]; omega) hp
  have a2 : 2 * k ≤ 2 * c + 1 := Nat.le_of_mul_le_mul_right (by rw [Nat.add_mul]; simp only [Nat.mul_assoc, Nat.one_mul]; omega) hp
  omega
theorem nearest_mul (s : Bool) (k d L : Nat) (i last : Int) (hk : k ≠ 0) (hL : (k * 2 ^ d).log2 = L) (hl : max (i + L - 52) (-1074) = last) (hd : last - i = d) :
    Ieee.double.nearest s (k * 2 ^ d) i = Ieee.double.word s (min ((last + 1074).toNat * 4503599627370496 + k) 9218868437227405312) := by
  have q1 : Ieee.double.fractionBits = 52 := rfl
  have q2 : Ieee.double.leastPlace = -1074 := rfl
  have q3 : Ieee.double.binade = 4503599627370496 := rfl
  have q4 : Ieee.double.infRung = 9218868437227405312 := rfl
  have h0 : k * 2 ^ d ≠ 0 := Nat.mul_ne_zero hk (Nat.pos_iff_ne_zero.1 (Nat.pow_pos (by decide)))
  unfold Ieee.Format.nearest
  rw [if_neg h0, q1, q2, q3, q4, hL]
  simp only [show ((52 : Nat) : Int) = 52 from rfl, hl]
  have e1 : (i - last).toNat = 0 := by omega
  have e2 : (last - i).toNat = d := by omega
  rw [e1, e2, Nat.shiftLeft_zero, cut_exact]
  rw [show last - -1074 = last + 1074 by omega]
theorem log2_mul (k d t : Nat) (h1 : 2 ^ t ≤ k) (h2 : k < 2 ^ (t + 1)) : (k * 2 ^ d).log2 = t + d := by
  have hp : 0 < 2 ^ d := Nat.pow_pos (by decide)
  have hk : k ≠ 0 := by have : 0 < 2 ^ t := Nat.pow_pos (by decide); omega
  have h0 : k * 2 ^ d ≠ 0 := Nat.mul_ne_zero hk (by omega)
  rw [Nat.log2_eq_iff h0]
  constructor
  · rw [Nat.pow_add]; exact Nat.mul_le_mul_right _ h1
  · rw [show t + d + 1 = t + 1 + d by omega, Nat.pow_add]; exact Nat.mul_lt_mul_of_pos_right h2 hp
theorem mul_words (a : Nat) (d : Nat) (j : Int) (ha : Ieee.double.read a = .number false d j) (s : Bool) (m : Nat) (i : Int) (y : Nat) (hy : Ieee.double.read y = .number s m i) :
    fop .mul a y = cf (Ieee.double.nearest s (m * d) (j + i)) := by
  simp only [fop, Ieee.Format.mul, ha, hy, Ieee.Datum.product, Option.map_some, Option.getD_some, Bool.false_bne, Bool.xor_false, Bool.false_xor, Ieee.Format.write]
  rw [Nat.mul_comm d m]
theorem mul_words' (a : Nat) (d : Nat) (j : Int) (ha : Ieee.double.read a = .number false d j) (s : Bool) (m : Nat) (i : Int) (y : Nat) (hy : Ieee.double.read y = .number s m i) :
    fop .mul y a = cf (Ieee.double.nearest s (m * d) (i + j)) := by
  simp only [fop, Ieee.Format.mul, ha, hy, Ieee.Datum.product, Option.map_some, Option.getD_some, Bool.xor_false, Ieee.Format.write]
theorem word_eq (s : Bool) (r : Nat) : Ieee.double.word s r = 2 ^ 63 * s.toNat + r := by
  have h1 : Ieee.double.signWeight = 2 ^ 63 := rfl
  unfold Ieee.Format.word; rw [h1]; cases s <;> simp
theorem two_of {x : Nat} (h : x < 2 ^ 64) : (BitVec.ofInt 64 (x : Int)).toNat = x := by
  rw [BitVec.ofInt_natCast, BitVec.toNat_ofNat]; omega
/-- Without its place. -/
theorem andNot_exp (s : Bool) (r : Nat) (h : r < 2 ^ 63) : bitsOp .andNot .u64 (Ieee.double.word s r : Nat) 9218868437227405312 = (2 ^ 63 * s.toNat + r % 2 ^ 52 : Nat) := by
  have hs : s.toNat ≤ 1 := by cases s <;> decide
  rw [word_eq]
  unfold bitsOp
  have e : (BitVec.ofInt IntKind.u64.bits ((2 ^ 63 * s.toNat + r : Nat) : Int) &&& ~~~ BitVec.ofInt IntKind.u64.bits 9218868437227405312).toNat = 2 ^ 63 * s.toNat + r % 2 ^ 52 := by
    show (BitVec.ofInt 64 ((2 ^ 63 * s.toNat + r : Nat) : Int) &&& ~~~ BitVec.ofInt 64 9218868437227405312).toNat = _
    have e1 : ~~~ BitVec.ofInt 64 9218868437227405312 = (9227875636482146303#64 : BitVec 64) := by decide
    rw [e1, BitVec.toNat_and, two_of (by omega)]
    show (2 ^ 63 * s.toNat + r) &&& (2 ^ 63 * 1 + (2 ^ 52 - 1)) = _
    refine Nat.eq_of_testBit_eq fun j => ?_
    have l1 : r % 2 ^ 52 < 2 ^ 63 := Nat.lt_of_le_of_lt (Nat.mod_le _ _) h
    rw [Nat.testBit_and, Nat.testBit_two_pow_mul_add _ h, Nat.testBit_two_pow_mul_add _ (by decide : 2 ^ 52 - 1 < 2 ^ 63), Nat.testBit_two_pow_mul_add _ l1]
    by_cases hj : j < 63
    · simp only [hj, if_true, Nat.testBit_two_pow_sub_one, Nat.testBit_mod_two_pow, Bool.and_comm]
    · simp only [hj, if_false]
      cases s
      · simp
      · simp
  simp only [e]
  exact wrapU (by omega) (by omega)
theorem lay_word (s : Bool) (r : Nat) (h : r < 2 ^ 63) (e : Int) (h1 : -1022 ≤ e) (h2 : e ≤ 1023) : layW (Ieee.double.word s r) e = Ieee.double.word s ((e + 1023).toNat * 2 ^ 52 + r % 2 ^ 52) := by
  obtain ⟨E, hE⟩ : ∃ E : Nat, e + 1023 = E := ⟨(e + 1023).toNat, by omega⟩
  have hE2 : 1 ≤ E ∧ E ≤ 2046 := by omega
  have hs : s.toNat ≤ 1 := by cases s <;> decide
  have hr : r % 2 ^ 52 < 2 ^ 52 := Nat.mod_lt _ (by decide)
  unfold layW
  rw [andNot_exp s r h, hE, wrapU (a := (E : Int)) (by omega) (by omega), wrapU (a := (E : Int) * 2 ^ 52) (by omega) (by omega)]
  have e1 : ((E : Int) * 2 ^ 52) = ((E * 2 ^ 52 : Nat) : Int) := by omega
  rw [e1]
  have e2 : bitsOp .or .u64 ((2 ^ 63 * s.toNat + r % 2 ^ 52 : Nat) : Int) ((E * 2 ^ 52 : Nat) : Int) = (2 ^ 63 * s.toNat + (E * 2 ^ 52 + r % 2 ^ 52) : Nat) := by
    unfold bitsOp
    have e : (BitVec.ofInt IntKind.u64.bits ((2 ^ 63 * s.toNat + r % 2 ^ 52 : Nat) : Int) ||| BitVec.ofInt IntKind.u64.bits ((E * 2 ^ 52 : Nat) : Int)).toNat = 2 ^ 63 * s.toNat + (E * 2 ^ 52 + r % 2 ^ 52) := by
      show (BitVec.ofInt 64 ((2 ^ 63 * s.toNat + r % 2 ^ 52 : Nat) : Int) ||| BitVec.ofInt 64 ((E * 2 ^ 52 : Nat) : Int)).toNat = _
      rw [BitVec.toNat_or, two_of (by omega), two_of (by omega)]
      rw [Nat.two_pow_add_eq_or_of_lt (show E * 2 ^ 52 + r % 2 ^ 52 < 2 ^ 63 by omega), Nat.two_pow_add_eq_or_of_lt (show r % 2 ^ 52 < 2 ^ 63 by omega), Nat.mul_comm E, Nat.two_pow_add_eq_or_of_lt hr, Nat.or_assoc, Nat.or_comm (r % 2 ^ 52)]
    simp only [e]
    exact wrapU (by omega) (by omega)
  rw [e2, Int.toNat_natCast, ← word_eq]
  have e3 : (e + 1023).toNat = E := by omega
  exact cf_not (isNan_word _ _ (by omega))
theorem exF_word (s : Bool) (r : Nat) (h : r < 2 ^ 63) : exF (Ieee.double.word s r) = ((r / 2 ^ 52 : Nat) : Int) - 1023 := by
  have hs : s.toNat ≤ 1 := by cases s <;> decide
  unfold exF
  have e1 : ((Ieee.double.word s r : Nat) : Int).fdiv (2 ^ 52) = ((2 ^ 11 * s.toNat + r / 2 ^ 52 : Nat) : Int) := by
    rw [word_eq, Int.fdiv_eq_ediv_of_nonneg _ (by decide)]
    omega
  rw [e1, wrapI (by omega) (by omega)]
  have e2 : bitsOp .and .i64 ((2 ^ 11 * s.toNat + r / 2 ^ 52 : Nat) : Int) 2047 = ((r / 2 ^ 52 : Nat) : Int) := by
    unfold bitsOp
    have e : (BitVec.ofInt IntKind.i64.bits ((2 ^ 11 * s.toNat + r / 2 ^ 52 : Nat) : Int) &&& BitVec.ofInt IntKind.i64.bits 2047).toNat = r / 2 ^ 52 := by
      show (BitVec.ofInt 64 ((2 ^ 11 * s.toNat + r / 2 ^ 52 : Nat) : Int) &&& BitVec.ofInt 64 ((2047 : Nat) : Int)).toNat = _
      rw [BitVec.toNat_and, two_of (by omega), two_of (by omega)]
      show _ &&& (2 ^ 11 - 1) = _
      rw [Nat.and_two_pow_sub_one_eq_mod]; omega
    simp only [e]
    exact wrapI (by omega) (by omega)
  rw [e2]
theorem fabs_word (s : Bool) (r : Nat) (h : r < 9218868437227405312) : fabs (Ieee.double.word s r) = Ieee.double.word false r := by
  have hs : s.toNat ≤ 1 := by cases s <;> decide
  unfold fabs bits0
  rw [word_eq, word_eq]
  have e : (2 ^ 63 * s.toNat + r) % 9223372036854775808 = 2 ^ 63 * false.toNat + r := by simp; omega
  rw [e, ← word_eq]
  exact cf_not (isNan_word _ _ h)
theorem small_word (s : Bool) (r : Nat) (h : r < 9218868437227405312) : fcmp .lt (fabs (Ieee.double.word s r)) 4503599627370496 = decide (r < 4503599627370496) := by
  rw [fabs_word s r h, Bool.eq_iff_iff, decide_eq_true_eq]
  have e : (4503599627370496 : Nat) = Ieee.double.word false 4503599627370496 := rfl
  rw [e, fcmp_lt (fin_word _ _ h) (fin_word _ _ (by decide)), val_word _ _ h, val_word _ _ (by decide)]
  simp only [Bool.false_eq_true, if_false]
  constructor
  · intro hl
    by_cases h1 : r < 4503599627370496
    · exact h1
    · have := rv_mono (show 4503599627370496 ≤ r by omega); grind
  · intro h1; exact rv_lt h1
theorem mul_one_word (s : Bool) (r : Nat) (h : r < 9218868437227405312) : fop .mul 4607182418800017408 (Ieee.double.word s r) = Ieee.double.word s r := by
  have ho : Ieee.double.read 4607182418800017408 = .number false 4503599627370496 (-52) := by decide +kernel
  have hw := read_word s r h
  have hc : cf (Ieee.double.word s r) = Ieee.double.word s r := cf_not (isNan_word _ _ h)
  by_cases h1 : r < 4503599627370496
  · rw [if_pos h1] at hw
    rw [mul_words _ _ _ ho _ _ _ _ hw]
    by_cases h0 : r = 0
    · subst h0
      have e : Ieee.double.nearest s (0 * 4503599627370496) (-52 + -1074) = Ieee.double.word s 0 := by simp [Ieee.Format.nearest]
      rw [e, hc]
    · have hr0 : r ≠ 0 := h0
      have hL : (r * 2 ^ 52).log2 = r.log2 + 52 := log2_mul r 52 r.log2 (Nat.log2_self_le h0) Nat.lt_log2_self
      have hl2 : r.log2 < 52 := (Nat.log2_lt h0).2 h1
      have := nearest_mul s r 52 _ (-52 + -1074) (-1074) hr0 hL (by omega) (by omega)
      rw [show r * 4503599627370496 = r * 2 ^ 52 from rfl, this]
      rw [show min ((-1074 + 1074 : Int).toNat * 4503599627370496 + r) 9218868437227405312 = r by simp; omega, hc]
  · rw [if_neg h1] at hw
    rw [mul_words _ _ _ ho _ _ _ _ hw]
    have hm1 : 2 ^ 52 ≤ 4503599627370496 + r % 4503599627370496 := by omega
    have hm2 : 4503599627370496 + r % 4503599627370496 < 2 ^ 53 := by omega
    have hL := log2_mul _ 52 52 hm1 hm2
    have := nearest_mul s (4503599627370496 + r % 4503599627370496) 52 _ (-52 + (-1074 + (r / 4503599627370496 - 1 : Nat))) (-1074 + (r / 4503599627370496 - 1 : Nat)) (by omega) hL (by omega) (by omega)
    rw [show (4503599627370496 + r % 4503599627370496) * 4503599627370496 = (4503599627370496 + r % 4503599627370496) * 2 ^ 52 from rfl, this]
    rw [show min ((-1074 + ((r / 4503599627370496 - 1 : Nat) : Int) + 1074).toNat * 4503599627370496 + (4503599627370496 + r % 4503599627370496)) 9218868437227405312 = r by omega, hc]
/-- A word of a number, as a run makes it. -/
def cw (x : Nat) : Prop := x = qnan ∨ x = finf ∨ x = fninf ∨ ∃ s r, r < 9218868437227405312 ∧ x = Ieee.double.word s r
theorem sub_split (r : Nat) (h0 : r ≠ 0) (h1 : r < 4503599627370496) : ∃ t K : Nat, t ≤ 51 ∧ 2 ^ t ≤ r ∧ r < 2 ^ (t + 1) ∧ 4503599627370496 ≤ K ∧ K < 9007199254740992 ∧ r * 4503599627370496 = K * 2 ^ t ∧ K * 4503599627370496 = r * 2 ^ (104 - t) := by
  have t1 := Nat.log2_self_le h0
  have t2 : r < 2 ^ (r.log2 + 1) := Nat.lt_log2_self
  have t3 : r.log2 < 52 := (Nat.log2_lt (k := 52) h0).2 h1
  generalize r.log2 = t at t1 t2 t3
  have hsplit : (4503599627370496 : Nat) = 2 ^ (52 - t) * 2 ^ t := by
    rw [← Nat.pow_add, show 52 - t + t = 52 by omega]
  have hs2 : (9007199254740992 : Nat) = 2 ^ (t + 1) * 2 ^ (52 - t) := by
    rw [← Nat.pow_add, show t + 1 + (52 - t) = 53 by omega]
  refine ⟨t, r * 2 ^ (52 - t), by omega, t1, t2, ?_, ?_, ?_, ?_⟩
  · rw [hsplit, Nat.mul_comm]; exact Nat.mul_le_mul_right _ t1
  · rw [hs2]; exact Nat.mul_lt_mul_of_pos_right t2 (Nat.pow_pos (by decide))
  · rw [Nat.mul_assoc, ← hsplit]
  · rw [Nat.mul_assoc]
    congr 1
    rw [show (4503599627370496 : Nat) = 2 ^ 52 from rfl, ← Nat.pow_add, show 52 - t + 52 = 104 - t by omega]
theorem sub_up_word (s : Bool) (r t K : Nat) (h1 : r < 4503599627370496) (ht : t ≤ 51) (k1 : 4503599627370496 ≤ K) (k2 : K < 9007199254740992) (e1 : r * 4503599627370496 = K * 2 ^ t) :
    fop .mul (Ieee.double.word s r) 4841369599423283200 = Ieee.double.word s (t * 4503599627370496 + K) := by
  have hw := read_word s r (by omega)
  rw [if_pos h1] at hw
  have r2 : Ieee.double.read 4841369599423283200 = .number false 4503599627370496 0 := by decide +kernel
  rw [mul_words' _ _ _ r2 _ _ _ _ hw, e1]
  have hL : (K * 2 ^ t).log2 = 52 + t := log2_mul K t 52 k1 k2
  rw [nearest_mul s K t _ (-1074 + 0) (-1074 + t) (by omega) hL (by omega) (by omega)]
  have e2 : min ((-1074 + (t : Int) + 1074).toNat * 4503599627370496 + K) 9218868437227405312 = t * 4503599627370496 + K := by omega
  rw [e2]
  exact cf_not (isNan_word _ _ (by omega))
theorem sub_dn_word (s : Bool) (r t K : Nat) (h0 : r ≠ 0) (h1 : r < 4503599627370496) (ht : t ≤ 51) (t1 : 2 ^ t ≤ r) (t2 : r < 2 ^ (t + 1)) (k1 : 4503599627370496 ≤ K) (k2 : K < 9007199254740992) (e1 : K * 4503599627370496 = r * 2 ^ (104 - t)) :
    fop .mul 4368491638549381120 (Ieee.double.word s ((t + 1) * 4503599627370496 + K)) = Ieee.double.word s r := by
  have r3 : Ieee.double.read 4368491638549381120 = .number false 4503599627370496 (-105) := by decide +kernel
  have hw2 := read_word s ((t + 1) * 4503599627370496 + K) (by omega)
  rw [if_neg (by omega)] at hw2
  rw [mul_words _ _ _ r3 _ _ _ _ hw2]
  have e3 : 4503599627370496 + ((t + 1) * 4503599627370496 + K) % 4503599627370496 = K := by omega
  have e4 : ((t + 1) * 4503599627370496 + K) / 4503599627370496 = t + 2 := by omega
  rw [e3, e4, e1]
  have hL := log2_mul r (104 - t) t t1 t2
  rw [nearest_mul s r (104 - t) _ _ (-1074) h0 hL (by omega) (by omega)]
  have e5 : min ((-1074 + 1074 : Int).toNat * 4503599627370496 + r) 9218868437227405312 = r := by
    rw [show (-1074 + 1074 : Int) = 0 from rfl, Int.toNat_zero, Nat.zero_mul, Nat.zero_add]
    exact Nat.min_eq_left (by omega)
  rw [e5]
  exact cf_not (isNan_word _ _ (by omega))
theorem scl_zero_word (s : Bool) (r : Nat) (h : r < 9218868437227405312) : scl (Ieee.double.word s r) 0 = Ieee.double.word s r := by
  have hx := fin_word s r h
  unfold scl
  split
  · rfl
  rename_i hz
  rw [if_neg (by rw [fin_finite hx]; simp)]
  have hr0 : r ≠ 0 := by
    rintro rfl
    refine hz ((fcmp_eq hx fin_zero).2 ?_)
    rw [val_word _ _ h, val_zero, rv_zero]; cases s <;> decide
  have hsm := small_word s r h
  by_cases h1 : r < 4503599627370496
  · obtain ⟨t, K, ht, t1, t2, k1, k2, e1, e2⟩ := sub_split r hr0 h1
    have hN : nrmF (Ieee.double.word s r) = Ieee.double.word s (t * 4503599627370496 + K) := by
      unfold nrmF; rw [hsm, if_pos (by simpa using h1)]; exact sub_up_word s r t K h1 ht k1 k2 e1
    have hE : nrmE (Ieee.double.word s r) = -52 := by unfold nrmE; rw [hsm, if_pos (by simpa using h1)]
    have hl : (t * 4503599627370496 + K) / 2 ^ 52 = t + 1 := by omega
    have hm : (t * 4503599627370496 + K) % 2 ^ 52 = K - 4503599627370496 := by omega
    have hd := sub_dn_word s r t K hr0 h1 ht t1 t2 k1 k2 e2
    have hx2 := exF_word s (t * 4503599627370496 + K) (by omega)
    rw [hl] at hx2
    have hly := fun e a b => lay_word s (t * 4503599627370496 + K) (by omega) e a b
    rw [hm] at hly
    simp only [hN, hE, hx2]
    have c1 : ¬ (0 + -52 + (((t + 1 : Nat) : Int) - 1023) < -1075) := by omega
    have c2 : ¬ (1023 < 0 + -52 + (((t + 1 : Nat) : Int) - 1023)) := by omega
    have c3 : 0 + -52 + (((t + 1 : Nat) : Int) - 1023) < -1022 := by omega
    rw [if_neg c1, if_neg c2, if_pos c3, hly _ (by omega) (by omega)]
    have e3 : (0 + -52 + (((t + 1 : Nat) : Int) - 1023) + 53 + 1023 : Int).toNat = t + 2 := by omega
    have e2 : ∀ B, B ≤ K → (t + 2) * B + (K - B) = (t + 1) * B + K := fun B hB => by
      rw [Nat.add_mul, Nat.add_mul]; omega
    have e2 : (t + 2) * 2 ^ 52 + (K - 4503599627370496) = (t + 1) * 4503599627370496 + K := e2 4503599627370496 k1
    rw [e3, e2]
    exact hd
  · have hN : nrmF (Ieee.double.word s r) = Ieee.double.word s r := by unfold nrmF; rw [hsm, if_neg (by simpa using h1)]
    have hE : nrmE (Ieee.double.word s r) = 0 := by unfold nrmE; rw [hsm, if_neg (by simpa using h1)]
    simp only [hN, hE, exF_word s r (show r < 2 ^ 63 by omega)]
    have c1 : ¬ (0 + 0 + (((r / 2 ^ 52 : Nat) : Int) - 1023) < -1075) := by omega
    have c2 : ¬ (1023 < 0 + 0 + (((r / 2 ^ 52 : Nat) : Int) - 1023)) := by omega
    have c3 : ¬ (0 + 0 + (((r / 2 ^ 52 : Nat) : Int) - 1023) < -1022) := by omega
    rw [if_neg c1, if_neg c2, if_neg c3, lay_word s _ (by omega) _ (by omega) (by omega)]
    have e2 : (0 + 0 + (((r / 2 ^ 52 : Nat) : Int) - 1023) + 1023 : Int).toNat * 2 ^ 52 + r % 2 ^ 52 = r := by omega
    rw [e2]
    exact mul_one_word s r h
theorem scl_zero {x : Nat} (h : cw x) : scl x 0 = x := by
  rcases h with rfl | rfl | rfl | ⟨s, r, hr, rfl⟩
  · decide +kernel
  · decide +kernel
  · decide +kernel
  · exact scl_zero_word s r hr
end Go.Ab

namespace Go.Ab
set_option linter.unusedSimpArgs false
set_option linter.unusedVariables false
open Nat renaming reduceEqDiff → n1_, reduceAdd → n2_, reduceMul → n3_, reduceLT → n4_, reduceLeDiff → n5_
open Int renaming reduceToNat → i1_, reduceAdd → i2_, reduceSub → i3_, reduceMul → i4_, reduceNeg → i5_, reduceLT → i6_, reduceLE → i7_
open Go Go.Proofs
/-- So many rows of so many numbers. -/
def Rk (m k : Nat) (Z : List (List Nat)) : Prop := Z.length = m ∧ ∀ r, r < m → (Z.getD r []).length = k
theorem Rk_up2 {m k : Nat} {Z : List (List Nat)} (h : Rk m k Z) (i j v : Nat) : Rk m k (up2 Z i j v) := by
  refine ⟨by simp [up2, h.1], fun r hr => ?_⟩
  have := h.2 r hr
  simp only [up2, List.getD_eq_getElem?_getD, List.getElem?_set]
  by_cases e : i = r
  · subst e
    have hl : i < Z.length := by rw [h.1]; exact hr
    have hr2 := h.2 i hr
    rw [List.getD_eq_getElem?_getD] at hr2
    simp only [hl, List.getElem?_eq_getElem, Option.getD_some] at hr2
    simp [hl, hr2]
  · rw [if_neg e, ← List.getD_eq_getElem?_getD]; exact this
end Go.Ab

namespace Go.Ab
set_option linter.unusedSimpArgs false
set_option linter.unusedVariables false
open Nat renaming reduceEqDiff → n1_, reduceAdd → n2_, reduceMul → n3_, reduceLT → n4_, reduceLeDiff → n5_
open Int renaming reduceToNat → i1_, reduceAdd → i2_, reduceSub → i3_, reduceMul → i4_, reduceNeg → i5_, reduceLT → i6_, reduceLE → i7_
open Go Go.Proofs
def A_tape_floats_1 : CA := (.seq (.reg [i_X 0 2 (.h (.mov (.k (.d (.flt 0)))))] [0]) (.seq (.reg [i_M 0 3 0, i_M 1 2 3] [2]) .ret))
theorem A_tape_floats_1_comp : compF Tryz.prog 133 = some ⟨4, [(2, none)], A_tape_floats_1.strip⟩ := by kernel_rfl
def A_tape_floats_2 : CA := (.seq (.reg [i_X 0 4 (.h (.mov (.k (.d (.flt 0)))))] [0, 1]) (.seq (.reg [i_M 0 5 0, i_M 1 6 1, i_X 2 7 (.h (.fbin .add (.t 5) (.t 6))), i_M 3 4 7] [4]) .ret))
theorem A_tape_floats_2_comp : compF Tryz.prog 134 = some ⟨8, [(4, none)], A_tape_floats_2.strip⟩ := by kernel_rfl
def A_tape_floats_3 : CA := (.seq (.reg [i_X 0 4 (.h (.mov (.k (.d (.flt 0)))))] [0, 1]) (.seq (.reg [i_M 0 5 0, i_M 1 6 1, i_X 2 7 (.h (.fbin .sub (.t 5) (.t 6))), i_M 3 4 7] [4]) .ret))
theorem A_tape_floats_3_comp : compF Tryz.prog 135 = some ⟨8, [(4, none)], A_tape_floats_3.strip⟩ := by kernel_rfl
def A_tape_floats_4 : CA := (.seq (.reg [i_X 0 4 (.h (.mov (.k (.d (.flt 0)))))] [0, 1]) (.seq (.reg [i_M 0 5 0, i_M 1 6 1, i_X 2 7 (.h (.fbin .mul (.t 5) (.t 6))), i_M 3 4 7] [4]) .ret))
theorem A_tape_floats_4_comp : compF Tryz.prog 136 = some ⟨8, [(4, none)], A_tape_floats_4.strip⟩ := by kernel_rfl
def A_tape_floats_5 : CA := (.seq (.reg [i_X 0 4 (.h (.mov (.k (.d (.flt 0)))))] [0, 1]) (.seq (.reg [i_M 0 5 0, i_M 1 6 1, i_X 2 7 (.h (.fbin .div (.t 5) (.t 6))), i_M 3 4 7] [4]) .ret))
theorem A_tape_floats_5_comp : compF Tryz.prog 137 = some ⟨8, [(4, none)], A_tape_floats_5.strip⟩ := by kernel_rfl
def A_tape_floats : CA := (.seq (.reg [i_X 0 0 (.alloc [(.d .nilf), (.d .nilf), (.d .nilf), (.d .nilf), (.d .nilf)] 149)] [0]) (.seq (.reg [i_X 0 1 (.h (.build [(.d .nilf), (.d .nilf), (.d .nilf), (.d .nilf), (.d .nilf)] [(0, (1, (.k (.d (.fn 133 [] []))))), (1, (1, (.k (.d (.fn 134 [] []))))), (2, (1, (.k (.d (.fn 135 [] []))))), (3, (1, (.k (.d (.fn 136 [] []))))), (4, (1, (.k (.d (.fn 137 [] [])))))])), i_S 1 0 1 5] [0]) .ret))
theorem A_tape_floats_comp : compF Tryz.prog 119 = some ⟨2, [(0, (some (5, true)))], A_tape_floats.strip⟩ := by kernel_rfl
def A_tape_kind_float64_run_L0 : CA := (.seq (.reg [i_X 0 16 (.h (.ibin .lss (.t 15) (.t 14)))] [2, 3, 4, 7, 13, 14, 15, 16]) (.seq (.cond (.t 16) .skip (.exit 0)) (.seq (.block 1 (.seq (.reg [i_X 0 17 (.h (.idx (.t 13) (.t 15) 4)), i_A 1 18 17 4, i_X 2 9 (.alloc [(.d (.int .i64 0)), (.d (.int .i64 0)), (.d (.int .i64 0)), (.d (.flt 0))] 67), i_S 3 9 18 4] [2, 3, 4, 7, 9, 13, 14, 15]) (.seq (.reg [i_P 0 19 9 0, i_L 1 20 19 1] [2, 3, 4, 7, 9, 13, 14, 15, 20]) (.block 2 (.seq (.reg [i_X 0 22 (.h (.ibin .eql (.t 20) (.k (.d (.int .i64 0))))), i_M 1 21 22] [2, 3, 4, 7, 9, 13, 14, 15, 20, 21]) (.cond (.t 21) (.reg [i_M 0 23 7, i_P 1 24 3 0, i_L 2 25 24 1, i_P 3 26 9 3, i_L 4 27 26 1, i_X 5 28 (.callA (.t 25) [(.t 27)]), i_X 6 29 (.bslice [(.d (.flt 0))] 1 1 [(0, (1, (.t 28)))] 31), i_X 7 30 (.app (.t 23) (.t 29) 1 8), i_M 8 7 30] [2, 3, 4, 7, 13, 14, 15]) (.seq (.reg [i_X 0 32 (.h (.ibin .eql (.t 20) (.k (.d (.int .i64 1))))), i_M 1 31 32] [2, 3, 4, 7, 9, 13, 14, 15, 20, 31]) (.cond (.t 31) (.reg [i_M 0 33 7, i_M 1 34 2, i_P 2 35 9 1, i_L 3 36 35 1, i_X 4 37 (.h (.idx (.t 34) (.t 36) 1)), i_L 5 38 37 1, i_X 6 39 (.bslice [(.d (.flt 0))] 1 1 [(0, (1, (.t 38)))] 31), i_X 7 40 (.app (.t 33) (.t 39) 1 8), i_M 8 7 40] [2, 3, 4, 7, 13, 14, 15]) (.seq (.reg [i_X 0 42 (.h (.ibin .eql (.t 20) (.k (.d (.int .i64 2))))), i_M 1 41 42] [2, 3, 4, 7, 9, 13, 14, 15, 20, 41]) (.cond (.t 41) (.reg [i_M 0 43 7, i_P 1 44 3 1, i_L 2 45 44 1, i_M 3 46 7, i_P 4 47 9 1, i_L 5 48 47 1, i_X 6 49 (.h (.idx (.t 46) (.t 48) 1)), i_L 7 50 49 1, i_M 8 51 7, i_P 9 52 9 2, i_L 10 53 52 1, i_X 11 54 (.h (.idx (.t 51) (.t 53) 1)), i_L 12 55 54 1, i_X 13 56 (.callA (.t 45) [(.t 50), (.t 55)]), i_X 14 57 (.bslice [(.d (.flt 0))] 1 1 [(0, (1, (.t 56)))] 31), i_X 15 58 (.app (.t 43) (.t 57) 1 8), i_M 16 7 58] [2, 3, 4, 7, 13, 14, 15]) (.seq (.reg [i_X 0 60 (.h (.ibin .eql (.t 20) (.k (.d (.int .i64 3))))), i_M 1 59 60] [2, 3, 4, 7, 9, 13, 14, 15, 20, 59]) (.cond (.t 59) (.reg [i_M 0 61 7, i_P 1 62 3 2, i_L 2 63 62 1, i_M 3 64 7, i_P 4 65 9 1, i_L 5 66 65 1, i_X 6 67 (.h (.idx (.t 64) (.t 66) 1)), i_L 7 68 67 1, i_M 8 69 7, i_P 9 70 9 2, i_L 10 71 70 1, i_X 11 72 (.h (.idx (.t 69) (.t 71) 1)), i_L 12 73 72 1, i_X 13 74 (.callA (.t 63) [(.t 68), (.t 73)]), i_X 14 75 (.bslice [(.d (.flt 0))] 1 1 [(0, (1, (.t 74)))] 31), i_X 15 76 (.app (.t 61) (.t 75) 1 8), i_M 16 7 76] [2, 3, 4, 7, 13, 14, 15]) (.seq (.reg [i_X 0 78 (.h (.ibin .eql (.t 20) (.k (.d (.int .i64 4))))), i_M 1 77 78] [2, 3, 4, 7, 9, 13, 14, 15, 20, 77]) (.cond (.t 77) (.reg [i_M 0 79 7, i_P 1 80 3 3, i_L 2 81 80 1, i_M 3 82 7, i_P 4 83 9 1, i_L 5 84 83 1, i_X 6 85 (.h (.idx (.t 82) (.t 84) 1)), i_L 7 86 85 1, i_M 8 87 7, i_P 9 88 9 2, i_L 10 89 88 1, i_X 11 90 (.h (.idx (.t 87) (.t 89) 1)), i_L 12 91 90 1, i_X 13 92 (.callA (.t 81) [(.t 86), (.t 91)]), i_X 14 93 (.bslice [(.d (.flt 0))] 1 1 [(0, (1, (.t 92)))] 31), i_X 15 94 (.app (.t 79) (.t 93) 1 8), i_M 16 7 94] [2, 3, 4, 7, 13, 14, 15]) (.seq (.reg [i_X 0 96 (.h (.ibin .eql (.t 20) (.k (.d (.int .i64 5))))), i_M 1 95 96] [2, 3, 4, 7, 9, 13, 14, 15, 95]) (.cond (.t 95) (.reg [i_M 0 97 7, i_P 1 98 3 4, i_L 2 99 98 1, i_M 3 100 7, i_P 4 101 9 1, i_L 5 102 101 1, i_X 6 103 (.h (.idx (.t 100) (.t 102) 1)), i_L 7 104 103 1, i_M 8 105 7, i_P 9 106 9 2, i_L 10 107 106 1, i_X 11 108 (.h (.idx (.t 105) (.t 107) 1)), i_L 12 109 108 1, i_X 13 110 (.callA (.t 99) [(.t 104), (.t 109)]), i_X 14 111 (.bslice [(.d (.flt 0))] 1 1 [(0, (1, (.t 110)))] 31), i_X 15 112 (.app (.t 97) (.t 111) 1 8), i_M 16 7 112] [2, 3, 4, 7, 13, 14, 15]) .skip)))))))))))))))) (.reg [i_X 0 113 (.h (.ibin .add (.t 15) (.k (.d (.int .i64 1))))), i_M 1 15 113] [2, 3, 4, 7, 13, 14, 15]))))
def A_tape_kind_float64_run_L1 : CA := (.seq (.reg [i_X 0 120 (.h (.ibin .lss (.t 119) (.t 118)))] [4, 7, 10, 118, 119, 120]) (.seq (.cond (.t 120) .skip (.exit 3)) (.seq (.block 4 (.seq (.reg [i_M 0 121 119, i_M 1 11 121] [4, 7, 10, 11, 118, 119]) (.reg [i_M 0 122 10, i_M 1 123 11, i_M 2 124 7, i_P 3 125 4 2, i_L 4 126 125 1, i_M 5 127 11, i_X 6 128 (.h (.idx (.t 126) (.t 127) 1)), i_L 7 129 128 1, i_X 8 130 (.h (.idx (.t 124) (.t 129) 1)), i_L 9 131 130 1, i_X 10 132 (.h (.idx (.t 122) (.t 123) 1)), i_S 11 132 131 1] [4, 7, 10, 118, 119]))) (.reg [i_X 0 133 (.h (.ibin .add (.t 119) (.k (.d (.int .i64 1))))), i_M 1 119 133] [4, 7, 10, 118, 119]))))
def A_tape_kind_float64_run : CA := (.seq (.reg [i_X 0 3 (.box (.t 0) 5 149), i_X 1 4 (.box (.t 1) 3 28), i_X 2 6 (.h (.mov (.k .nil)))] [2, 3, 4]) (.seq (.reg [i_X 0 7 (.h (.mov (.k .nil)))] [2, 3, 4, 7]) (.seq (.seq (.reg [i_P 0 12 4 1, i_L 1 13 12 1, i_X 2 14 (.h (.len (.t 13))), i_X 3 15 (.h (.mov (.k (.d (.int .i64 0)))))] [2, 3, 4, 7, 13, 14, 15]) (.block 0 (.loop A_tape_kind_float64_run_L0))) (.seq (.reg [i_P 0 114 4 0, i_L 1 115 114 1, i_X 2 116 (.mksl [(.d (.flt 0))] 1 8 (.t 115) (.t 115) 31), i_M 3 10 116] [4, 7, 10]) (.seq (.seq (.reg [i_P 0 117 4 0, i_L 1 118 117 1, i_X 2 119 (.h (.mov (.k (.d (.int .i64 0)))))] [4, 7, 10, 118, 119]) (.block 3 (.loop A_tape_kind_float64_run_L1))) (.seq (.reg [i_M 0 134 10, i_M 1 6 134] [6]) .ret))))))
theorem A_tape_kind_float64_run_comp : compF Tryz.prog 120 = some ⟨135, [(6, none)], A_tape_kind_float64_run.strip⟩ := by kernel_rfl
def A_tape_Eval : CA := (.seq (.reg [i_X 0 2 (.box (.t 0) 3 28), i_X 1 4 (.h (.mov (.k .nil)))] [1, 2]) (.seq (.reg [i_X 0 5 (.callS 0 (.k (.d (.fn 119 [] []))) []), i_A 1 6 2 3, i_M 2 7 1, i_X 3 8 (.callA (.k (.d (.fn 120 [] []))) [(.t 5), (.t 6), (.t 7)]), i_M 4 4 8] [4]) .ret))
theorem A_tape_Eval_comp : compF Tryz.prog 105 = some ⟨9, [(4, none)], A_tape_Eval.strip⟩ := by kernel_rfl
def A_r3_one : CA := (.seq (.reg [i_X 0 6 (.h (.mov (.k (.d (.flt 0)))))] [0, 1, 2]) (.seq (.seq (.reg [i_M 0 7 0] [1, 2, 7]) (.block 0 (.seq (.reg [i_X 0 9 (.h (.ibin .eql (.t 7) (.k (.d (.int .i64 2))))), i_M 1 8 9] [1, 2, 7, 8]) (.cond (.t 8) (.seq (.reg [i_M 0 10 1, i_M 1 11 2, i_X 2 12 (.h (.fbin .add (.t 10) (.t 11))), i_M 3 6 12] [6]) .ret) (.seq (.reg [i_X 0 14 (.h (.ibin .eql (.t 7) (.k (.d (.int .i64 3))))), i_M 1 13 14] [1, 2, 7, 13]) (.cond (.t 13) (.seq (.reg [i_M 0 15 1, i_M 1 16 2, i_X 2 17 (.h (.fbin .sub (.t 15) (.t 16))), i_M 3 6 17] [6]) .ret) (.seq (.reg [i_X 0 19 (.h (.ibin .eql (.t 7) (.k (.d (.int .i64 4))))), i_M 1 18 19] [1, 2, 18]) (.cond (.t 18) (.seq (.reg [i_M 0 20 1, i_M 1 21 2, i_X 2 22 (.h (.fbin .mul (.t 20) (.t 21))), i_M 3 6 22] [6]) .ret) .skip)))))))) (.seq (.reg [i_M 0 23 1, i_M 1 24 2, i_X 2 25 (.h (.fbin .div (.t 23) (.t 24))), i_M 3 6 25] [6]) .ret)))
theorem A_r3_one_comp : compF Tryz.prog 86 = some ⟨26, [(6, none)], A_r3_one.strip⟩ := by kernel_rfl
def A_r3_Eval_L0 : CA := (.seq (.seq (.reg [i_M 0 14 6, i_P 1 15 2 1, i_L 2 16 15 1, i_X 3 17 (.h (.len (.t 16))), i_X 4 18 (.h (.ibin .lss (.t 14) (.t 17)))] [1, 2, 5, 6, 18]) (.cond (.t 18) .skip (.exit 0))) (.seq (.block 1 (.seq (.reg [i_P 0 21 2 1, i_L 1 22 21 1, i_M 2 23 6, i_X 3 24 (.h (.idx (.t 22) (.t 23) 4)), i_A 4 25 24 4, i_X 5 7 (.alloc [(.d (.int .i64 0)), (.d (.int .i64 0)), (.d (.int .i64 0)), (.d (.flt 0))] 67), i_S 6 7 25 4] [1, 2, 5, 6, 7]) (.seq (.reg [i_P 0 26 7 0, i_L 1 27 26 1] [1, 2, 5, 6, 7, 27]) (.block 2 (.seq (.reg [i_X 0 45 (.h (.ibin .eql (.t 27) (.k (.d (.int .i64 0))))), i_M 1 44 45] [1, 2, 5, 6, 7, 27, 44]) (.cond (.t 44) (.reg [i_M 0 46 5, i_M 1 47 6, i_P 2 48 7 3, i_L 3 49 48 1, i_X 4 50 (.h (.idx (.t 46) (.t 47) 1)), i_S 5 50 49 1] [1, 2, 5, 6]) (.seq (.reg [i_X 0 52 (.h (.ibin .eql (.t 27) (.k (.d (.int .i64 1))))), i_M 1 51 52] [1, 2, 5, 6, 7, 51]) (.cond (.t 51) (.reg [i_M 0 53 5, i_M 1 54 6, i_M 2 55 1, i_P 3 56 7 1, i_L 4 57 56 1, i_X 5 58 (.h (.idx (.t 55) (.t 57) 1)), i_L 6 59 58 1, i_X 7 60 (.h (.idx (.t 53) (.t 54) 1)), i_S 8 60 59 1] [1, 2, 5, 6]) (.reg [i_M 0 28 5, i_M 1 29 6, i_P 2 30 7 0, i_L 3 31 30 1, i_M 4 32 5, i_P 5 33 7 1, i_L 6 34 33 1, i_X 7 35 (.h (.idx (.t 32) (.t 34) 1)), i_L 8 36 35 1, i_M 9 37 5, i_P 10 38 7 2, i_L 11 39 38 1, i_X 12 40 (.h (.idx (.t 37) (.t 39) 1)), i_L 13 41 40 1, i_X 14 42 (.callA (.k (.d (.fn 86 [] []))) [(.t 31), (.t 36), (.t 41)]), i_X 15 43 (.h (.idx (.t 28) (.t 29) 1)), i_S 16 43 42 1] [1, 2, 5, 6]))))))))) (.reg [i_M 0 19 6, i_X 1 20 (.h (.ibin .add (.t 19) (.k (.d (.int .i64 1))))), i_M 2 6 20] [1, 2, 5, 6])))
def A_r3_Eval_L1 : CA := (.seq (.seq (.reg [i_M 0 61 9, i_P 1 62 2 0, i_L 2 63 62 1, i_X 3 64 (.h (.ibin .lss (.t 61) (.t 63)))] [2, 5, 8, 9, 64]) (.cond (.t 64) .skip (.exit 3))) (.seq (.block 4 (.reg [i_M 0 67 8, i_M 1 68 5, i_P 2 69 2 2, i_L 3 70 69 1, i_M 4 71 9, i_X 5 72 (.h (.idx (.t 70) (.t 71) 1)), i_L 6 73 72 1, i_X 7 74 (.h (.idx (.t 68) (.t 73) 1)), i_L 8 75 74 1, i_X 9 76 (.bslice [(.d (.flt 0))] 1 1 [(0, (1, (.t 75)))] 31), i_X 10 77 (.app (.t 67) (.t 76) 1 8), i_M 11 8 77] [2, 5, 8, 9])) (.reg [i_M 0 65 9, i_X 1 66 (.h (.ibin .add (.t 65) (.k (.d (.int .i64 1))))), i_M 2 9 66] [2, 5, 8, 9])))
def A_r3_Eval : CA := (.seq (.reg [i_X 0 2 (.box (.t 0) 3 28), i_X 1 4 (.h (.mov (.k .nil)))] [1, 2]) (.seq (.reg [i_P 0 10 2 1, i_L 1 11 10 1, i_X 2 12 (.h (.len (.t 11))), i_X 3 13 (.mksl [(.d (.flt 0))] 1 8 (.t 12) (.t 12) 31), i_M 4 5 13] [1, 2, 5]) (.seq (.seq (.reg [i_X 0 6 (.h (.mov (.k (.d (.int .i64 0)))))] [1, 2, 5, 6]) (.block 0 (.loop A_r3_Eval_L0))) (.seq (.reg [i_X 0 8 (.h (.mov (.k .nil)))] [2, 5, 8]) (.seq (.seq (.reg [i_X 0 9 (.h (.mov (.k (.d (.int .i64 0)))))] [2, 5, 8, 9]) (.block 3 (.loop A_r3_Eval_L1))) (.seq (.reg [i_M 0 78 8, i_M 1 4 78] [4]) .ret))))))
theorem A_r3_Eval_comp : compF Tryz.prog 60 = some ⟨79, [(4, none)], A_r3_Eval.strip⟩ := by kernel_rfl
/-- An operation: kind, places, number. -/
structure OpN where
  k : Int
  a : Int
  b : Int
  c : Nat
def opG (ops : List OpN) (i : Nat) : List D := let o := ops.getD i ⟨0, 0, 0, 0⟩; [.int .i64 o.k, .int .i64 o.a, .int .i64 o.b, .flt o.c]
def opsD (ops : List OpN) : D := .bor ops.length (opG ops)
structure Tp where
  n : Nat
  ops : List OpN
  out : List Int
abbrev tapeV (t : Tp) : V := .agg [fI t.n, .d (opsD t.ops), .d (rowI t.out)]
theorem floats1_con (x : Nat) : Con Tryz.prog 133 [fl x] (fl x) := by
  refine Con_introA A_tape_floats_1_comp rfl mixed ?_
  simp -implicitDefEqProofs only [evI, hv, effC, reduceCtorEq, ↓reduceIte, n1_, n2_, n3_, n4_, n5_, i1_, i2_, i3_, i4_, i5_, i6_, i7_, A_tape_floats_1]
  exact endsT_rett rfl (by decide) (by simp [look])
theorem floats2_con (x y : Nat) : Con Tryz.prog 134 [fl x, fl y] (fl (fop .add x y)) := by
  refine Con_introA A_tape_floats_2_comp rfl mixed ?_
  simp -implicitDefEqProofs only [evI, hv, effC, reduceCtorEq, ↓reduceIte, n1_, n2_, n3_, n4_, n5_, i1_, i2_, i3_, i4_, i5_, i6_, i7_, A_tape_floats_2]
  exact endsT_rett rfl (by decide) (by simp [look])
theorem floats3_con (x y : Nat) : Con Tryz.prog 135 [fl x, fl y] (fl (fop .sub x y)) := by
  refine Con_introA A_tape_floats_3_comp rfl mixed ?_
  simp -implicitDefEqProofs only [evI, hv, effC, reduceCtorEq, ↓reduceIte, n1_, n2_, n3_, n4_, n5_, i1_, i2_, i3_, i4_, i5_, i6_, i7_, A_tape_floats_3]
  exact endsT_rett rfl (by decide) (by simp [look])
theorem floats4_con (x y : Nat) : Con Tryz.prog 136 [fl x, fl y] (fl (fop .mul x y)) := by
  refine Con_introA A_tape_floats_4_comp rfl mixed ?_
  simp -implicitDefEqProofs only [evI, hv, effC, reduceCtorEq, ↓reduceIte, n1_, n2_, n3_, n4_, n5_, i1_, i2_, i3_, i4_, i5_, i6_, i7_, A_tape_floats_4]
  exact endsT_rett rfl (by decide) (by simp [look])
theorem floats5_con (x y : Nat) : Con Tryz.prog 137 [fl x, fl y] (fl (fop .div x y)) := by
  refine Con_introA A_tape_floats_5_comp rfl mixed ?_
  simp -implicitDefEqProofs only [evI, hv, effC, reduceCtorEq, ↓reduceIte, n1_, n2_, n3_, n4_, n5_, i1_, i2_, i3_, i4_, i5_, i6_, i7_, A_tape_floats_5]
  exact endsT_rett rfl (by decide) (by simp [look])
abbrev flV : V := .agg [.d (.fn 133 [] []), .d (.fn 134 [] []), .d (.fn 135 [] []), .d (.fn 136 [] []), .d (.fn 137 [] [])]
theorem floats_con : Con Tryz.prog 119 [] flV := by
  refine Con_introA A_tape_floats_comp rfl mixed ?_
  simp -implicitDefEqProofs only [evI, hv, effC, reduceCtorEq, ↓reduceIte, n1_, n2_, n3_, n4_, n5_, i1_, i2_, i3_, i4_, i5_, i6_, i7_, A_tape_floats]
  exact endsT_retm rfl (by decide) rfl rfl rfl (by simp) (by simp [ldv])
/-- An operation's number, of those ahead of it. -/
def opV (o : OpN) (x r : List Nat) : Nat :=
  if o.k = 0 then o.c else if o.k = 1 then x.getD o.a.toNat 0 else
  if o.k = 2 then fop .add (r.getD o.a.toNat 0) (r.getD o.b.toNat 0) else if o.k = 3 then fop .sub (r.getD o.a.toNat 0) (r.getD o.b.toNat 0) else
  if o.k = 4 then fop .mul (r.getD o.a.toNat 0) (r.getD o.b.toNat 0) else fop .div (r.getD o.a.toNat 0) (r.getD o.b.toNat 0)
def regs (t : Tp) (x : List Nat) : Nat → List Nat
  | 0 => []
  | i + 1 => regs t x i ++ [opV (t.ops.getD i ⟨0, 0, 0, 0⟩) x (regs t x i)]
theorem regs_len (t : Tp) (x : List Nat) (i : Nat) : (regs t x i).length = i := by
  induction i with
  | zero => rfl
  | succ i ih => simp [regs, ih]
def evalT (t : Tp) (x : List Nat) : List Nat := tabR (fun i => (regs t x t.ops.length).getD (t.out.getD i 0).toNat 0) t.n
/-- A field that may be. -/
structure Tok (t : Tp) : Prop where
  n : t.n < 2 ^ 20
  len : t.ops.length < 2 ^ 40
  op : ∀ i, i < t.ops.length → let o := t.ops.getD i ⟨0, 0, 0, 0⟩; o.k = 0 ∨ (o.k = 1 ∧ 0 ≤ o.a ∧ o.a < t.n) ∨ ((o.k = 2 ∨ o.k = 3 ∨ o.k = 4 ∨ o.k = 5) ∧ (0 ≤ o.a ∧ o.a < i) ∧ 0 ≤ o.b ∧ o.b < i)
  outl : t.out.length = t.n
  out : ∀ i, i < t.n → 0 ≤ t.out.getD i 0 ∧ t.out.getD i 0 < t.ops.length
set_option maxRecDepth 8000 in
theorem run_ac (t : Tp) (x : List Nat) (ht : Tok t) (hx : x.length = t.n) : AC Tryz.prog 120 [flV, tapeV t, .d (rowD x)] [] [(103, [rowV (evalT t x)])] (.sl 103 0 0 t.n 1 t.n) := by
  refine AC_introA A_tape_kind_float64_run_comp rfl mixed (fun _ => False) (by simp [get_nil]) ?_
  simp -implicitDefEqProofs only [evI, hv, effC, reduceCtorEq, ↓reduceIte, n1_, n2_, n3_, n4_, n5_, i1_, i2_, i3_, i4_, i5_, i6_, i7_, A_tape_kind_float64_run, opsD]
  refine WA_forW (n := t.ops.length) (fun c s => ∃ i, c + i = t.ops.length ∧ s = ⟨[(2, .d (rowD x)), (3, .ptr 0 0 0 5), (4, .ptr 1 0 0 3), (7, .sl 100 0 0 i 1 i), (13, .d (opsD t.ops)), (14, fI t.ops.length), (15, fI i)],
      [(100, [rowV (regs t x i)]), (1, [[fI t.n, .d (opsD t.ops), .d (rowI t.out)]]), (0, [[.d (.fn 133 [] []), .d (.fn 134 [] []), .d (.fn 135 [] []), .d (.fn 136 [] []), .d (.fn 137 [] [])]])]⟩)
    (s0 := ⟨_, _⟩) (LeT.nilrow (X := 100) (esz := 1) (as' := [(2, .d (rowD x)), (3, .ptr 0 0 0 5), (4, .ptr 1 0 0 3), (7, .sl 100 0 0 0 1 0), (13, .d (opsD t.ops)), (14, fI t.ops.length), (15, fI 0)]) (by simp [fam_cons, fam_nil]) (fun h => h) fun i => ?_) ⟨0, by omega, rfl⟩ ?_
  · simp only [look]
    repeat' split
    all_goals simp [rowD, opsD]
  rintro c s ⟨i, hc, rfl⟩
  have hl := regs_len t x i
  have hlen := ht.len
  simp -implicitDefEqProofs only [evI, hv, effC, reduceCtorEq, ↓reduceIte, n1_, n2_, n3_, n4_, n5_, i1_, i2_, i3_, i4_, i5_, i6_, i7_, A_tape_kind_float64_run_L0, opsD]
  refine condC_intro (fun h => ?_) (fun h => ?_)
  · replace h := of_decide_eq_true h
    have hop := ht.op i h
    generalize ho : t.ops.getD i ⟨0, 0, 0, 0⟩ = o at hop
    have hreg : regs t x (i + 1) = regs t x i ++ [opV o x (regs t x i)] := by simp only [regs, ho]
    simp -implicitDefEqProofs only [evI, hv, effC, reduceCtorEq, ↓reduceIte, n1_, n2_, n3_, n4_, n5_, i1_, i2_, i3_, i4_, i5_, i6_, i7_, opG, ho]
    rcases hop with hk | ⟨hk, ha⟩ | ⟨hk, ha, hb⟩
    · simp -implicitDefEqProofs only [evI, hv, effC, reduceCtorEq, ↓reduceIte, n1_, n2_, n3_, n4_, n5_, i1_, i2_, i3_, i4_, i5_, i6_, i7_, hk]
      (repeat (with_reducible refine And.intro (by omega) ?_))
      first | refine callG_con (floats1_con o.c) rfl ?_ | refine callCG_con (floats1_con o.c) rfl ?_ | refine callSG_con (floats1_con o.c) rfl ?_
      simp -implicitDefEqProofs only [evI, hv, effC, reduceCtorEq, ↓reduceIte, n1_, n2_, n3_, n4_, n5_, i1_, i2_, i3_, i4_, i5_, i6_, i7_]
      (repeat (with_reducible refine And.intro (by omega) ?_))
      have e : rowV (regs t x i) ++ [fl o.c] = rowV (regs t x (i + 1)) := by rw [hreg]; simp [rowV, opV, hk]
      rw [wrapI (by omega) (by omega), e]
      exact ⟨c - 1, _, by omega, LeT.only (fun X => decide (X ≤ 100)) (fun _ h => h) rfl (by simp [KpS_cons, KpS_nil, KpH_cons, KpH_nil, KpF_cons, KpF_nil, KpF_rows, KpA_cons, KpA_nil, KpA_app, KpA_rowV, KpA_rowIV, KpA_dcells, KpA_outC, Kp_any, Kp_nilv, Kp_d, Kp_ptr, Kp_sl, Kp_agg, Kp_tup, Kp_fn, get_cons, get_nil]) (by simp [KpS_cons, KpS_nil, KpH_cons, KpH_nil, KpF_cons, KpF_nil, KpF_rows, KpA_cons, KpA_nil, KpA_app, KpA_rowV, KpA_rowIV, KpA_dcells, KpA_outC, Kp_any, Kp_nilv, Kp_d, Kp_ptr, Kp_sl, Kp_agg, Kp_tup, Kp_fn, get_cons, get_nil]), i + 1, by omega, rfl⟩
    · simp -implicitDefEqProofs only [evI, hv, effC, reduceCtorEq, ↓reduceIte, n1_, n2_, n3_, n4_, n5_, i1_, i2_, i3_, i4_, i5_, i6_, i7_, hk, Int.reduceBEq]
      (repeat (with_reducible refine And.intro (by omega) ?_))
      have e : rowV (regs t x i) ++ [fl (x.getD o.a.toNat 0)] = rowV (regs t x (i + 1)) := by rw [hreg]; simp [rowV, opV, hk]
      rw [wrapI (by omega) (by omega), e]
      exact ⟨c - 1, _, by omega, LeT.only (fun X => decide (X ≤ 100)) (fun _ h => h) rfl (by simp [KpS_cons, KpS_nil, KpH_cons, KpH_nil, KpF_cons, KpF_nil, KpF_rows, KpA_cons, KpA_nil, KpA_app, KpA_rowV, KpA_rowIV, KpA_dcells, KpA_outC, Kp_any, Kp_nilv, Kp_d, Kp_ptr, Kp_sl, Kp_agg, Kp_tup, Kp_fn, get_cons, get_nil]) (by simp [KpS_cons, KpS_nil, KpH_cons, KpH_nil, KpF_cons, KpF_nil, KpF_rows, KpA_cons, KpA_nil, KpA_app, KpA_rowV, KpA_rowIV, KpA_dcells, KpA_outC, Kp_any, Kp_nilv, Kp_d, Kp_ptr, Kp_sl, Kp_agg, Kp_tup, Kp_fn, get_cons, get_nil]), i + 1, by omega, rfl⟩
    · have ga : (rowV (regs t x i)).getD o.a.toNat .any = fl ((regs t x i).getD o.a.toNat 0) := getD_map_fl _ _ (by omega)
      have gb : (rowV (regs t x i)).getD o.b.toNat .any = fl ((regs t x i).getD o.b.toNat 0) := getD_map_fl _ _ (by omega)
      rcases hk with hk | hk | hk | hk
      · simp -implicitDefEqProofs only [evI, hv, effC, reduceCtorEq, ↓reduceIte, n1_, n2_, n3_, n4_, n5_, i1_, i2_, i3_, i4_, i5_, i6_, i7_, hk, Int.reduceBEq]
        (repeat (with_reducible refine And.intro (by omega) ?_))
        rw [ga, gb]
        first | refine callG_con (floats2_con ((regs t x i).getD o.a.toNat 0) ((regs t x i).getD o.b.toNat 0)) rfl ?_ | refine callCG_con (floats2_con ((regs t x i).getD o.a.toNat 0) ((regs t x i).getD o.b.toNat 0)) rfl ?_ | refine callSG_con (floats2_con ((regs t x i).getD o.a.toNat 0) ((regs t x i).getD o.b.toNat 0)) rfl ?_
        simp -implicitDefEqProofs only [evI, hv, effC, reduceCtorEq, ↓reduceIte, n1_, n2_, n3_, n4_, n5_, i1_, i2_, i3_, i4_, i5_, i6_, i7_]
        (repeat (with_reducible refine And.intro (by omega) ?_))
        have e : rowV (regs t x i) ++ [fl (fop .add ((regs t x i).getD o.a.toNat 0) ((regs t x i).getD o.b.toNat 0))] = rowV (regs t x (i + 1)) := by rw [hreg]; simp [rowV, opV, hk]
        rw [wrapI (by omega) (by omega), e]
        exact ⟨c - 1, _, by omega, LeT.only (fun X => decide (X ≤ 100)) (fun _ h => h) rfl (by simp [KpS_cons, KpS_nil, KpH_cons, KpH_nil, KpF_cons, KpF_nil, KpF_rows, KpA_cons, KpA_nil, KpA_app, KpA_rowV, KpA_rowIV, KpA_dcells, KpA_outC, Kp_any, Kp_nilv, Kp_d, Kp_ptr, Kp_sl, Kp_agg, Kp_tup, Kp_fn, get_cons, get_nil]) (by simp [KpS_cons, KpS_nil, KpH_cons, KpH_nil, KpF_cons, KpF_nil, KpF_rows, KpA_cons, KpA_nil, KpA_app, KpA_rowV, KpA_rowIV, KpA_dcells, KpA_outC, Kp_any, Kp_nilv, Kp_d, Kp_ptr, Kp_sl, Kp_agg, Kp_tup, Kp_fn, get_cons, get_nil]), i + 1, by omega, rfl⟩
      · simp -implicitDefEqProofs only [evI, hv, effC, reduceCtorEq, ↓reduceIte, n1_, n2_, n3_, n4_, n5_, i1_, i2_, i3_, i4_, i5_, i6_, i7_, hk, Int.reduceBEq]
        (repeat (with_reducible refine And.intro (by omega) ?_))
        rw [ga, gb]
        first | refine callG_con (floats3_con ((regs t x i).getD o.a.toNat 0) ((regs t x i).getD o.b.toNat 0)) rfl ?_ | refine callCG_con (floats3_con ((regs t x i).getD o.a.toNat 0) ((regs t x i).getD o.b.toNat 0)) rfl ?_ | refine callSG_con (floats3_con ((regs t x i).getD o.a.toNat 0) ((regs t x i).getD o.b.toNat 0)) rfl ?_
        simp -implicitDefEqProofs only [evI, hv, effC, reduceCtorEq, ↓reduceIte, n1_, n2_, n3_, n4_, n5_, i1_, i2_, i3_, i4_, i5_, i6_, i7_]
        (repeat (with_reducible refine And.intro (by omega) ?_))
        have e : rowV (regs t x i) ++ [fl (fop .sub ((regs t x i).getD o.a.toNat 0) ((regs t x i).getD o.b.toNat 0))] = rowV (regs t x (i + 1)) := by rw [hreg]; simp [rowV, opV, hk]
        rw [wrapI (by omega) (by omega), e]
        exact ⟨c - 1, _, by omega, LeT.only (fun X => decide (X ≤ 100)) (fun _ h => h) rfl (by simp [KpS_cons, KpS_nil, KpH_cons, KpH_nil, KpF_cons, KpF_nil, KpF_rows, KpA_cons, KpA_nil, KpA_app, KpA_rowV, KpA_rowIV, KpA_dcells, KpA_outC, Kp_any, Kp_nilv, Kp_d, Kp_ptr, Kp_sl, Kp_agg, Kp_tup, Kp_fn, get_cons, get_nil]) (by simp [KpS_cons, KpS_nil, KpH_cons, KpH_nil, KpF_cons, KpF_nil, KpF_rows, KpA_cons, KpA_nil, KpA_app, KpA_rowV, KpA_rowIV, KpA_dcells, KpA_outC, Kp_any, Kp_nilv, Kp_d, Kp_ptr, Kp_sl, Kp_agg, Kp_tup, Kp_fn, get_cons, get_nil]), i + 1, by omega, rfl⟩
      · simp -implicitDefEqProofs only [evI, hv, effC, reduceCtorEq, ↓reduceIte, n1_, n2_, n3_, n4_, n5_, i1_, i2_, i3_, i4_, i5_, i6_, i7_, hk, Int.reduceBEq]
        (repeat (with_reducible refine And.intro (by omega) ?_))
        rw [ga, gb]
        first | refine callG_con (floats4_con ((regs t x i).getD o.a.toNat 0) ((regs t x i).getD o.b.toNat 0)) rfl ?_ | refine callCG_con (floats4_con ((regs t x i).getD o.a.toNat 0) ((regs t x i).getD o.b.toNat 0)) rfl ?_ | refine callSG_con (floats4_con ((regs t x i).getD o.a.toNat 0) ((regs t x i).getD o.b.toNat 0)) rfl ?_
        simp -implicitDefEqProofs only [evI, hv, effC, reduceCtorEq, ↓reduceIte, n1_, n2_, n3_, n4_, n5_, i1_, i2_, i3_, i4_, i5_, i6_, i7_]
        (repeat (with_reducible refine And.intro (by omega) ?_))
        have e : rowV (regs t x i) ++ [fl (fop .mul ((regs t x i).getD o.a.toNat 0) ((regs t x i).getD o.b.toNat 0))] = rowV (regs t x (i + 1)) := by rw [hreg]; simp [rowV, opV, hk]
        rw [wrapI (by omega) (by omega), e]
        exact ⟨c - 1, _, by omega, LeT.only (fun X => decide (X ≤ 100)) (fun _ h => h) rfl (by simp [KpS_cons, KpS_nil, KpH_cons, KpH_nil, KpF_cons, KpF_nil, KpF_rows, KpA_cons, KpA_nil, KpA_app, KpA_rowV, KpA_rowIV, KpA_dcells, KpA_outC, Kp_any, Kp_nilv, Kp_d, Kp_ptr, Kp_sl, Kp_agg, Kp_tup, Kp_fn, get_cons, get_nil]) (by simp [KpS_cons, KpS_nil, KpH_cons, KpH_nil, KpF_cons, KpF_nil, KpF_rows, KpA_cons, KpA_nil, KpA_app, KpA_rowV, KpA_rowIV, KpA_dcells, KpA_outC, Kp_any, Kp_nilv, Kp_d, Kp_ptr, Kp_sl, Kp_agg, Kp_tup, Kp_fn, get_cons, get_nil]), i + 1, by omega, rfl⟩
      · simp -implicitDefEqProofs only [evI, hv, effC, reduceCtorEq, ↓reduceIte, n1_, n2_, n3_, n4_, n5_, i1_, i2_, i3_, i4_, i5_, i6_, i7_, hk, Int.reduceBEq]
        (repeat (with_reducible refine And.intro (by omega) ?_))
        rw [ga, gb]
        first | refine callG_con (floats5_con ((regs t x i).getD o.a.toNat 0) ((regs t x i).getD o.b.toNat 0)) rfl ?_ | refine callCG_con (floats5_con ((regs t x i).getD o.a.toNat 0) ((regs t x i).getD o.b.toNat 0)) rfl ?_ | refine callSG_con (floats5_con ((regs t x i).getD o.a.toNat 0) ((regs t x i).getD o.b.toNat 0)) rfl ?_
        simp -implicitDefEqProofs only [evI, hv, effC, reduceCtorEq, ↓reduceIte, n1_, n2_, n3_, n4_, n5_, i1_, i2_, i3_, i4_, i5_, i6_, i7_]
        (repeat (with_reducible refine And.intro (by omega) ?_))
        have e : rowV (regs t x i) ++ [fl (fop .div ((regs t x i).getD o.a.toNat 0) ((regs t x i).getD o.b.toNat 0))] = rowV (regs t x (i + 1)) := by rw [hreg]; simp [rowV, opV, hk]
        rw [wrapI (by omega) (by omega), e]
        exact ⟨c - 1, _, by omega, LeT.only (fun X => decide (X ≤ 100)) (fun _ h => h) rfl (by simp [KpS_cons, KpS_nil, KpH_cons, KpH_nil, KpF_cons, KpF_nil, KpF_rows, KpA_cons, KpA_nil, KpA_app, KpA_rowV, KpA_rowIV, KpA_dcells, KpA_outC, Kp_any, Kp_nilv, Kp_d, Kp_ptr, Kp_sl, Kp_agg, Kp_tup, Kp_fn, get_cons, get_nil]) (by simp [KpS_cons, KpS_nil, KpH_cons, KpH_nil, KpF_cons, KpF_nil, KpF_rows, KpA_cons, KpA_nil, KpA_app, KpA_rowV, KpA_rowIV, KpA_dcells, KpA_outC, Kp_any, Kp_nilv, Kp_d, Kp_ptr, Kp_sl, Kp_agg, Kp_tup, Kp_fn, get_cons, get_nil]), i + 1, by omega, rfl⟩
  · replace h := of_decide_eq_false h
    have e : i = t.ops.length := by omega
    subst e
    simp -implicitDefEqProofs only [evI, hv, effC, reduceCtorEq, ↓reduceIte, n1_, n2_, n3_, n4_, n5_, i1_, i2_, i3_, i4_, i5_, i6_, i7_]
    have hn := ht.n
    (repeat (with_reducible refine And.intro (by omega) ?_))
    rw [← fillR_zero (fun i => (regs t x t.ops.length).getD (t.out.getD i 0).toNat 0)]
    refine WA_for (n := t.n) (fun c s => ∃ i, c + i = t.n ∧ s = ⟨[(4, .ptr 1 0 0 3), (7, .sl 100 0 0 t.ops.length 1 t.ops.length), (10, .sl 103 0 0 t.n 1 t.n), (118, fI t.n), (119, fI i)],
      [(103, [rowV (fillR (fun i => (regs t x t.ops.length).getD (t.out.getD i 0).toNat 0) t.n i)]), (100, [rowV (regs t x t.ops.length)]), (1, [[fI t.n, .d (opsD t.ops), .d (rowI t.out)]]), (0, [[.d (.fn 133 [] []), .d (.fn 134 [] []), .d (.fn 135 [] []), .d (.fn 136 [] []), .d (.fn 137 [] [])]])]⟩) ⟨0, by omega, rfl⟩ ?_
    rintro c s ⟨i, hc, rfl⟩
    have hl2 := fillR_len (fun i => (regs t x t.ops.length).getD (t.out.getD i 0).toNat 0) t.n i
    simp -implicitDefEqProofs only [evI, hv, effC, reduceCtorEq, ↓reduceIte, n1_, n2_, n3_, n4_, n5_, i1_, i2_, i3_, i4_, i5_, i6_, i7_, A_tape_kind_float64_run_L1]
    refine condC_intro (fun h => ?_) (fun h => ?_)
    · replace h := of_decide_eq_true h
      have hi : i < t.n := by omega
      have hs := fillR_set (fun i => (regs t x t.ops.length).getD (t.out.getD i 0).toNat 0) t.n i hi
      generalize fillR (fun i => (regs t x t.ops.length).getD (t.out.getD i 0).toNat 0) t.n i = z at hl2 hs
      have ho := ht.out i hi
      have hol := ht.outl
      have ga : (rowV (regs t x t.ops.length)).getD (t.out.getD i 0).toNat .any = fl ((regs t x t.ops.length).getD (t.out.getD i 0).toNat 0) := getD_map_fl _ _ (by omega)
      simp -implicitDefEqProofs only [evI, hv, effC, reduceCtorEq, ↓reduceIte, n1_, n2_, n3_, n4_, n5_, i1_, i2_, i3_, i4_, i5_, i6_, i7_, ga]
      (repeat (with_reducible refine And.intro (by omega) ?_))
      rw [wrapI (by omega) (by omega)]
      refine ⟨c - 1, by omega, i + 1, by omega, ?_⟩
      rw [← hs]; rfl
    · replace h := of_decide_eq_false h
      have e : i = t.n := by omega
      subst e
      rw [fillR_all]
      simp -implicitDefEqProofs only [evI, hv, effC, reduceCtorEq, ↓reduceIte, n1_, n2_, n3_, n4_, n5_, i1_, i2_, i3_, i4_, i5_, i6_, i7_]
      exact endsT_only (fun X => X == 103) (fun _ h => h) (resV_tmpI (t := 6) (by decide) rfl) rfl (by simp [KpS_cons, KpS_nil, KpH_cons, KpH_nil, KpF_cons, KpF_nil, KpF_rows, KpA_cons, KpA_nil, KpA_app, KpA_rowV, KpA_rowIV, KpA_dcells, KpA_outC, Kp_any, Kp_nilv, Kp_d, Kp_ptr, Kp_sl, Kp_agg, Kp_tup, Kp_fn, get_cons, get_nil]) (by simp [KpS_cons, KpS_nil, KpH_cons, KpH_nil, KpF_cons, KpF_nil, KpF_rows, KpA_cons, KpA_nil, KpA_app, KpA_rowV, KpA_rowIV, KpA_dcells, KpA_outC, Kp_any, Kp_nilv, Kp_d, Kp_ptr, Kp_sl, Kp_agg, Kp_tup, Kp_fn, get_cons, get_nil])
theorem evalT_len (t : Tp) (x : List Nat) : (evalT t x).length = t.n := tabR_len _ _
theorem tape_Eval_ac (t : Tp) (x : List Nat) (ht : Tok t) (hx : x.length = t.n) : AC Tryz.prog 105 [tapeV t, .d (rowD x)] [] [(0, [rowV (evalT t x)])] (.sl 0 0 0 t.n 1 t.n) := by
  refine AC_row0 (X := 100) ?_
  refine AC_introA A_tape_Eval_comp rfl mixed (fun _ => False) (by simp [get_nil]) ?_
  simp -implicitDefEqProofs only [evI, hv, effC, reduceCtorEq, ↓reduceIte, n1_, n2_, n3_, n4_, n5_, i1_, i2_, i3_, i4_, i5_, i6_, i7_, A_tape_Eval]
  first | refine callG_con (floats_con) rfl ?_ | refine callCG_con (floats_con) rfl ?_ | refine callSG_con (floats_con) rfl ?_
  simp -implicitDefEqProofs only [evI, hv, effC, reduceCtorEq, ↓reduceIte, n1_, n2_, n3_, n4_, n5_, i1_, i2_, i3_, i4_, i5_, i6_, i7_]
  refine callG_row 100 [flV, tapeV t, .d (rowD x)] (by simp [Heap.next]) (AC_row0 (run_ac t x ht hx)) ⟨.aggs ⟨.bare _, .bare _, .bare _, .bare _, .bare _, trivial⟩, .aggs ⟨.bare _, .bare _, .bare _, trivial⟩, .bare _, trivial⟩ ?_
  simp -implicitDefEqProofs only [evI, hv, effC, reduceCtorEq, ↓reduceIte, n1_, n2_, n3_, n4_, n5_, i1_, i2_, i3_, i4_, i5_, i6_, i7_]
  exact endsT_only (fun X => X == 100) (fun _ h => h) (resV_tmpI (t := 4) (by decide) rfl) rfl (by simp [KpS_cons, KpS_nil, KpH_cons, KpH_nil, KpF_cons, KpF_nil, KpF_rows, KpA_cons, KpA_nil, KpA_app, KpA_rowV, KpA_rowIV, KpA_dcells, KpA_outC, Kp_any, Kp_nilv, Kp_d, Kp_ptr, Kp_sl, Kp_agg, Kp_tup, Kp_fn, get_cons, get_nil]) (by simp [KpS_cons, KpS_nil, KpH_cons, KpH_nil, KpF_cons, KpF_nil, KpF_rows, KpA_cons, KpA_nil, KpA_app, KpA_rowV, KpA_rowIV, KpA_dcells, KpA_outC, Kp_any, Kp_nilv, Kp_d, Kp_ptr, Kp_sl, Kp_agg, Kp_tup, Kp_fn, get_cons, get_nil])
end Go.Ab

namespace Go.Ab
set_option linter.unusedSimpArgs false
set_option linter.unusedVariables false
open Nat renaming reduceEqDiff → n1_, reduceAdd → n2_, reduceMul → n3_, reduceLT → n4_, reduceLeDiff → n5_
open Int renaming reduceToNat → i1_, reduceAdd → i2_, reduceSub → i3_, reduceMul → i4_, reduceNeg → i5_, reduceLT → i6_, reduceLE → i7_
open Go Go.Proofs
theorem cf_word (s : Bool) (r : Nat) (h : r < 9218868437227405312) : cf (Ieee.double.word s r) = Ieee.double.word s r := cf_not (isNan_word s r h)
theorem cw_word (s : Bool) (r : Nat) (h : r ≤ 9218868437227405312) : cw (cf (Ieee.double.word s r)) := by
  by_cases e : r = 9218868437227405312
  · subst e
    cases s
    · exact .inr (.inl (by decide +kernel))
    · exact .inr (.inr (.inl (by decide +kernel)))
  · exact .inr (.inr (.inr ⟨s, r, by omega, cf_word s r (by omega)⟩))
theorem cw_write (d : Ieee.Datum) : cw (cf (Ieee.double.write d)) := by
  cases d with
  | number s m i =>
    show cw (cf (Ieee.double.nearest s m i))
    unfold Ieee.Format.nearest
    have q4 : Ieee.double.infRung = 9218868437227405312 := rfl
    split
    · exact cw_word s 0 (by decide)
    · simp only [q4]; exact cw_word s _ (Nat.min_le_right _ _)
  | infinity s => exact cw_word s _ (Nat.le_refl _)
  | nan s t =>
    have q3 : Ieee.double.binade = 4503599627370496 := rfl
    have q4 : Ieee.double.infRung = 9218868437227405312 := rfl
    show cw (cf (Ieee.double.word s (Ieee.double.infRung + t % Ieee.double.binade)))
    rw [q3, q4]
    by_cases h : t % 4503599627370496 = 0
    · rw [h]; exact cw_word s _ (by decide)
    · refine .inl (cf_nan ?_)
      have hs : s.toNat ≤ 1 := by cases s <;> decide
      unfold isNan
      rw [word_eq]
      simp only [decide_eq_true_eq]
      omega
theorem fop_cw (o : FOp) (x y : Nat) : cw (fop o x y) := by
  have key : ∀ r : Option Ieee.Datum, cw (((r.map Ieee.double.write).map cf).getD qnan) := fun r => by
    cases r with
    | none => exact .inl rfl
    | some d => exact cw_write d
  unfold fop
  cases o <;> exact key _
theorem cw_zero : cw 0 := .inr (.inr (.inr ⟨false, 0, by decide, rfl⟩))
def Cw (Z : List (List Nat)) : Prop := ∀ r i, cw (at2 Z r i)
theorem at2_up2 (A : List (List Nat)) (i j v r c : Nat) : at2 (up2 A i j v) r c = if r = i ∧ c = j ∧ i < A.length ∧ j < (A.getD i []).length then v else at2 A r c := by
  unfold at2 up2
  simp only [List.getD_eq_getElem?_getD, List.getElem?_set]
  by_cases e : i = r
  · subst e
    by_cases h1 : i < A.length
    · simp only [h1, if_true, Option.getD_some, true_and, List.getElem?_set]
      by_cases e2 : j = c
      · subst e2
        by_cases h2 : j < (A[i]?.getD []).length
        · simp [h2]
        · simp only [h2, if_false, and_false, if_true]
          simp [show A[i].length ≤ j by simp [h1] at h2; omega, h1]
      · simp only [e2, if_false, h1, List.getElem?_eq_getElem, Option.getD_some]
        rw [if_neg (fun h => e2 h.1.symm)]
    · simp only [h1, if_true, if_false, false_and, and_false]
      simp [show A.length ≤ i by omega]
  · rw [if_neg e, if_neg (fun h => e h.1.symm)]
theorem Cw_up2 {Z : List (List Nat)} (h : Cw Z) (i j v : Nat) (hv : cw v) : Cw (up2 Z i j v) := fun r c => by
  rw [at2_up2]; split
  · exact hv
  · exact h r c
/-- Row k is made longer by the one behind it, i numbers of it. -/
def addI (Z : List (List Nat)) (k : Nat) : Nat → List (List Nat)
  | 0 => Z
  | i + 1 => up2 (addI Z k i) k i (fop .add (at2 (addI Z k i) k i) (at2 (addI Z k i) (k + 1) i))
/-- Rows hi, hi - 1, ..: so many. -/
def predK (Z : List (List Nat)) (n hi : Nat) : Nat → List (List Nat)
  | 0 => Z
  | c + 1 => addI (predK Z n hi c) (hi - c) n
def predJ (Z : List (List Nat)) (n q : Nat) : Nat → List (List Nat)
  | 0 => Z
  | j + 1 => predK (predJ Z n q j) n (q - 1) (q - j)
/-- One step on: of q + 1 rows of n numbers. -/
def predP (Z : List (List Nat)) (n q : Nat) : List (List Nat) := predJ Z n q q
/-- Number by number. -/
def mapI (g : Nat → Nat → Nat → Nat) (Z : List (List Nat)) (j : Nat) : Nat → List (List Nat)
  | 0 => Z
  | i + 1 => up2 (mapI g Z j i) j i (g j i (at2 (mapI g Z j i) j i))
def mapJ (g : Nat → Nat → Nat → Nat) (Z : List (List Nat)) (n : Nat) : Nat → List (List Nat)
  | 0 => Z
  | j + 1 => mapI g (mapJ g Z n j) j n
theorem addI_rk {m n : Nat} {Z : List (List Nat)} (h : Rk m n Z) (k i : Nat) : Rk m n (addI Z k i) := by
  induction i with
  | zero => exact h
  | succ i ih => exact Rk_up2 ih _ _ _
theorem predK_rk {m n : Nat} {Z : List (List Nat)} (h : Rk m n Z) (hi c : Nat) : Rk m n (predK Z n hi c) := by
  induction c with
  | zero => exact h
  | succ c ih => exact addI_rk ih _ _
theorem predJ_rk {m n : Nat} {Z : List (List Nat)} (h : Rk m n Z) (q j : Nat) : Rk m n (predJ Z n q j) := by
  induction j with
  | zero => exact h
  | succ j ih => exact predK_rk ih _ _
theorem mapI_rk {m n : Nat} (g : Nat → Nat → Nat → Nat) {Z : List (List Nat)} (h : Rk m n Z) (j i : Nat) : Rk m n (mapI g Z j i) := by
  induction i with
  | zero => exact h
  | succ i ih => exact Rk_up2 ih _ _ _
theorem mapJ_rk {m n : Nat} (g : Nat → Nat → Nat → Nat) {Z : List (List Nat)} (h : Rk m n Z) (k j : Nat) : Rk m n (mapJ g Z k j) := by
  induction j with
  | zero => exact h
  | succ j ih => exact mapI_rk g ih _ _
theorem addI_cw {Z : List (List Nat)} (h : Cw Z) (k i : Nat) : Cw (addI Z k i) := by
  induction i with
  | zero => exact h
  | succ i ih => exact Cw_up2 ih _ _ _ (fop_cw _ _ _)
theorem predK_cw {Z : List (List Nat)} (h : Cw Z) (n hi c : Nat) : Cw (predK Z n hi c) := by
  induction c with
  | zero => exact h
  | succ c ih => exact addI_cw ih _ _
theorem predJ_cw {Z : List (List Nat)} (h : Cw Z) (n q j : Nat) : Cw (predJ Z n q j) := by
  induction j with
  | zero => exact h
  | succ j ih => exact predK_cw ih _ _ _
theorem mapI_cw {g : Nat → Nat → Nat → Nat} (hg : ∀ j i x, cw x → cw (g j i x)) {Z : List (List Nat)} (h : Cw Z) (j i : Nat) : Cw (mapI g Z j i) := by
  induction i with
  | zero => exact h
  | succ i ih => exact Cw_up2 ih _ _ _ (hg _ _ _ (ih _ _))
theorem mapJ_cw {g : Nat → Nat → Nat → Nat} (hg : ∀ j i x, cw x → cw (g j i x)) {Z : List (List Nat)} (h : Cw Z) (n j : Nat) : Cw (mapJ g Z n j) := by
  induction j with
  | zero => exact h
  | succ j ih => exact mapI_cw hg ih _ _
/-- What each number becomes. -/
theorem mapI_at {m n : Nat} (g : Nat → Nat → Nat → Nat) {Z : List (List Nat)} (h : Rk m n Z) (j i : Nat) (hj : j < m) (hi : i ≤ n) : ∀ r c, at2 (mapI g Z j i) r c = if r = j ∧ c < i then g j c (at2 Z j c) else at2 Z r c := by
  induction i with
  | zero => intro r c; simp [mapI]
  | succ i ih =>
    intro r c
    have hk := mapI_rk g h j i
    have ih := ih (by omega)
    show at2 (up2 (mapI g Z j i) j i (g j i (at2 (mapI g Z j i) j i))) r c = _
    have e0 : at2 (mapI g Z j i) j i = at2 Z j i := by rw [ih j i, if_neg (by omega)]
    rw [at2_up2, e0, ih r c, hk.1, hk.2 j hj]
    by_cases e : r = j
    · subst e
      by_cases e2 : c = i
      · subst e2
        rw [if_pos ⟨rfl, rfl, hj, by omega⟩, if_pos ⟨rfl, by omega⟩]
      · rw [if_neg (by omega)]
        by_cases e3 : c < i
        · rw [if_pos ⟨rfl, e3⟩, if_pos ⟨rfl, by omega⟩]
        · rw [if_neg (by omega), if_neg (by omega)]
    · rw [if_neg (by omega), if_neg (by omega), if_neg (by omega)]
theorem mapJ_at {m n : Nat} (g : Nat → Nat → Nat → Nat) {Z : List (List Nat)} (h : Rk m n Z) (k : Nat) (hk : k ≤ m) : ∀ r c, at2 (mapJ g Z n k) r c = if r < k ∧ c < n then g r c (at2 Z r c) else at2 Z r c := by
  induction k with
  | zero => intro r c; simp [mapJ]
  | succ k ih =>
    intro r c
    have ih := ih (by omega)
    show at2 (mapI g (mapJ g Z n k) k n) r c = _
    have e0 : at2 (mapJ g Z n k) k c = at2 Z k c := by rw [ih k c, if_neg (by omega)]
    rw [mapI_at g (mapJ_rk g h n k) k n (by omega) (Nat.le_refl _), e0, ih r c]
    by_cases e : r = k
    · subst e
      by_cases e2 : c < n
      · rw [if_pos ⟨rfl, e2⟩, if_pos ⟨by omega, e2⟩]
      · rw [if_neg (by omega), if_neg (by omega), if_neg (by omega)]
    · rw [if_neg (by omega)]
      by_cases e2 : r < k ∧ c < n
      · rw [if_pos e2, if_pos ⟨by omega, e2.2⟩]
      · rw [if_neg e2, if_neg (by omega)]
/-- Rows that are the same number by number. -/
theorem Rk_ext {m n : Nat} {A B : List (List Nat)} (hA : Rk m n A) (hB : Rk m n B) (h : ∀ r c, r < m → c < n → at2 A r c = at2 B r c) : A = B := by
  refine List.ext_getElem (hA.1.trans hB.1.symm) fun r h1 h2 => ?_
  have hr : r < m := by have := hA.1; omega
  have e1 := hA.2 r hr
  have e2 := hB.2 r hr
  have g1 : A.getD r [] = A[r] := by simp [List.getD_eq_getElem?_getD, h1]
  have g2 : B.getD r [] = B[r] := by simp [List.getD_eq_getElem?_getD, h2]
  rw [g1] at e1
  rw [g2] at e2
  refine List.ext_getElem (e1.trans e2.symm) fun c h3 h4 => ?_
  have k1 := h r c hr (by omega)
  unfold at2 at k1
  rw [g1, g2] at k1
  simpa [List.getD_eq_getElem?_getD, h3, h4] using k1
/-- Corrected; of another step. -/
def corrP (Z : List (List Nat)) (l d : List Nat) (m n : Nat) : List (List Nat) := mapJ (fun k i x => fop .add x (fop .mul (l.getD k 0) (d.getD i 0))) Z n m
def scaleP (Z : List (List Nat)) (k : Int) (m n : Nat) : List (List Nat) := mapJ (fun j _ x => scl x (j * k)) Z n m
theorem scale_zero {Z : List (List Nat)} {m n : Nat} (h : Rk m n Z) (hc : Cw Z) : scaleP Z 0 m n = Z := by
  refine Rk_ext (mapJ_rk _ h _ _) h fun r c hr hc' => ?_
  unfold scaleP
  rw [mapJ_at _ h m (Nat.le_refl _), if_pos ⟨hr, hc'⟩, Int.mul_zero]
  exact scl_zero (hc r c)
theorem corrP_rk {m n : Nat} {Z : List (List Nat)} (h : Rk m n Z) (l d : List Nat) (a b : Nat) : Rk m n (corrP Z l d a b) := mapJ_rk _ h _ _
theorem scaleP_rk {m n : Nat} {Z : List (List Nat)} (h : Rk m n Z) (k : Int) (a b : Nat) : Rk m n (scaleP Z k a b) := mapJ_rk _ h _ _
theorem predP_rk {m n : Nat} {Z : List (List Nat)} (h : Rk m n Z) (q : Nat) : Rk m n (predP Z n q) := predJ_rk h _ _
theorem corrP_cw {Z : List (List Nat)} (h : Cw Z) (l d : List Nat) (m n : Nat) : Cw (corrP Z l d m n) := mapJ_cw (fun _ _ _ _ => fop_cw _ _ _) h _ _
theorem cw_lt {b : Nat} (h : b < 2 ^ 64) : cw (cf b) := by
  by_cases hn : isNan b = true
  · exact .inl (cf_nan hn)
  · have hr : b % 9223372036854775808 ≤ 9218868437227405312 := by
      unfold isNan at hn; simp at hn; exact hn
    have e : b = Ieee.double.word (decide (9223372036854775808 ≤ b)) (b % 9223372036854775808) := by
      rw [word_eq]
      by_cases h1 : 9223372036854775808 ≤ b
      · simp [h1]; omega
      · simp [h1]; omega
    rw [e]
    exact cw_word _ _ hr
theorem cw_csign (f : Nat) : cw (csign 0 f) := by
  unfold csign
  have := bitsOp_u64 .or (bitsOp .andNot .u64 ((0 : Nat) : Int) 9223372036854775808) (bitsOp .and .u64 (f : Int) 9223372036854775808)
  exact cw_lt (by omega)
theorem scl_cw (x : Nat) (k : Int) (h : cw x) : cw (scl x k) := by
  unfold scl
  split
  · exact h
  split
  · exact h
  simp only
  split
  · exact cw_csign _
  split
  · split
    · exact .inr (.inr (.inl rfl))
    · exact .inr (.inl rfl)
  split
  · exact fop_cw _ _ _
  · exact fop_cw _ _ _
theorem scaleP_cw {Z : List (List Nat)} (h : Cw Z) (k : Int) (m n : Nat) : Cw (scaleP Z k m n) := mapJ_cw (fun _ _ x hx => scl_cw x _ hx) h _ _
theorem predP_cw {Z : List (List Nat)} (h : Cw Z) (n q : Nat) : Cw (predP Z n q) := predJ_cw h _ _ _
/-- A beginning's rows. -/
def startZ (t : Tp) (y : List Nat) (h : Nat) : List (List Nat) := [y, tabR (fun i => fop .mul h ((evalT t y).getD i 0)) t.n]
end Go.Ab

namespace Go.Ab
set_option linter.unusedSimpArgs false
set_option linter.unusedVariables false
open Nat renaming reduceEqDiff → n1_, reduceAdd → n2_, reduceMul → n3_, reduceLT → n4_, reduceLeDiff → n5_
open Int renaming reduceToNat → i1_, reduceAdd → i2_, reduceSub → i3_, reduceMul → i4_, reduceNeg → i5_, reduceLT → i6_, reduceLE → i7_
open Go Go.Proofs
def A_corr_solver_slopes_1 : CA := (.seq (.reg [i_X 0 3 (.h (.mov (.k (.d (.flt 0)))))] [0, 1]) (.seq (.reg [i_L 0 4 1 1, i_X 1 5 (.h (.nilck (.t 4))), i_P 2 6 5 4, i_L 3 7 6 1, i_X 4 8 (.h (.idx (.t 7) (.k (.d (.int .i64 0))) 1)), i_L 5 9 8 1, i_M 6 10 0, i_X 7 11 (.h (.idx (.t 9) (.t 10) 1)), i_L 8 12 11 1, i_L 9 13 1 1, i_X 10 14 (.h (.nilck (.t 13))), i_P 11 15 14 5, i_L 12 16 15 1, i_X 13 17 (.h (.idx (.t 16) (.k (.d (.int .i64 0))) 1)), i_L 14 18 17 1, i_L 15 19 1 1, i_X 16 20 (.h (.nilck (.t 19))), i_P 17 21 20 8, i_L 18 22 21 1, i_M 19 23 0, i_X 20 24 (.h (.idx (.t 22) (.t 23) 1)), i_L 21 25 24 1, i_X 22 26 (.h (.fbin .mul (.t 18) (.t 25))), i_X 23 27 (.h (.fbin .add (.t 12) (.t 26))), i_M 24 3 27] [3]) .ret))
theorem A_corr_solver_slopes_1_comp : compF Tryz.prog 114 = some ⟨28, [(3, none)], A_corr_solver_slopes_1.strip⟩ := by kernel_rfl
def A_corr_solver_slopes_2 : CA := (.seq (.reg [i_X 0 4 (.h (.mov (.k (.d (.flt 0)))))] [0, 1, 2]) (.seq (.reg [i_L 0 5 1 1, i_X 1 6 (.h (.nilck (.t 5))), i_P 2 7 6 6, i_L 3 8 7 1, i_L 4 9 2 1, i_M 5 10 0, i_X 6 11 (.h (.idx (.t 9) (.t 10) 1)), i_L 7 12 11 1, i_X 8 13 (.h (.fbin .mul (.t 8) (.t 12))), i_L 9 14 1 1, i_X 10 15 (.h (.nilck (.t 14))), i_P 11 16 15 4, i_L 12 17 16 1, i_X 13 18 (.h (.idx (.t 17) (.k (.d (.int .i64 1))) 1)), i_L 14 19 18 1, i_M 15 20 0, i_X 16 21 (.h (.idx (.t 19) (.t 20) 1)), i_L 17 22 21 1, i_X 18 23 (.h (.fbin .sub (.t 13) (.t 22))), i_M 19 4 23] [4]) .ret))
theorem A_corr_solver_slopes_2_comp : compF Tryz.prog 115 = some ⟨24, [(4, none)], A_corr_solver_slopes_2.strip⟩ := by kernel_rfl
def A_corr_solver_slopes : CA := (.seq (.reg [i_X 0 1 (.box (.t 0) 1 105), i_X 1 2 (.h (.mov (.k .nil)))] [1]) (.seq (.reg [i_L 0 5 1 1, i_X 1 6 (.h (.nilck (.t 5))), i_P 2 7 6 0, i_A 3 8 7 1, i_X 4 9 (.h (.mkfn 114 [] [(.t 1)])), i_X 5 10 (.callA (.k (.d (.fn 93 [] []))) [(.t 8), (.t 9)]), i_M 6 3 10] [1, 3]) (.seq (.reg [i_L 0 11 1 1, i_X 1 12 (.h (.nilck (.t 11))), i_P 2 13 12 1, i_A 3 14 13 3, i_M 4 15 3, i_X 5 16 (.callA (.k (.d (.fn 105 [] []))) [(.t 14), (.t 15)]), i_X 6 4 (.alloc [.nil] 30), i_S 7 4 16 1] [1, 4]) (.seq (.reg [i_L 0 17 1 1, i_X 1 18 (.h (.nilck (.t 17))), i_P 2 19 18 0, i_A 3 20 19 1, i_X 4 21 (.h (.mkfn 115 [] [(.t 1), (.t 4)])), i_X 5 22 (.callA (.k (.d (.fn 93 [] []))) [(.t 20), (.t 21)]), i_M 6 2 22] [2]) .ret))))
theorem A_corr_solver_slopes_comp : compF Tryz.prog 92 = some ⟨23, [(2, none)], A_corr_solver_slopes.strip⟩ := by kernel_rfl
def A_corr_solver_adams_1 : CA := (.seq (.reg [i_X 0 4 (.h (.mov (.k (.d (.flt 0)))))] [0, 1, 2]) (.seq (.reg [i_L 0 5 1 1, i_M 1 6 0, i_X 2 7 (.h (.idx (.t 5) (.t 6) 1)), i_L 3 8 7 1, i_L 4 9 2 1, i_X 5 10 (.h (.nilck (.t 9))), i_P 6 11 10 8, i_L 7 12 11 1, i_M 8 13 0, i_X 9 14 (.h (.idx (.t 12) (.t 13) 1)), i_L 10 15 14 1, i_X 11 16 (.h (.fbin .sub (.t 8) (.t 15))), i_M 12 4 16] [4]) .ret))
theorem A_corr_solver_adams_1_comp : compF Tryz.prog 94 = some ⟨17, [(4, none)], A_corr_solver_adams_1.strip⟩ := by kernel_rfl
def A_corr_solver_adams : CA := (.seq (.reg [i_X 0 1 (.box (.t 0) 1 105), i_X 1 2 (.h (.mov (.k (.d (.flt 0)))))] [1]) (.seq (.reg [i_L 0 5 1 1, i_X 1 6 (.callA (.k (.d (.fn 92 [] []))) [(.t 5)]), i_X 2 3 (.alloc [.nil] 30), i_S 3 3 6 1] [1, 3]) (.seq (.reg [i_L 0 7 1 1, i_X 1 8 (.h (.nilck (.t 7))), i_P 2 9 8 0, i_A 3 10 9 1, i_X 4 11 (.h (.mkfn 94 [] [(.t 3), (.t 1)])), i_X 5 12 (.callS 0 (.k (.d (.fn 93 [] []))) [(.t 10), (.t 11)]), i_L 6 13 1 1, i_X 7 14 (.h (.nilck (.t 13))), i_P 8 15 14 7, i_L 9 16 15 1, i_X 10 17 (.callA (.k (.d (.fn 37 [] []))) [(.t 12), (.t 16)]), i_M 11 4 17] [1, 3, 4]) (.seq (.reg [i_L 0 18 1 1, i_L 1 19 3 1, i_X 2 20 (.h (.nilck (.t 18))), i_P 3 21 20 8, i_S 4 21 19 1] [4]) (.seq (.reg [i_M 0 22 4, i_M 1 2 22] [2]) .ret)))))
theorem A_corr_solver_adams_comp : compF Tryz.prog 65 = some ⟨23, [(2, none)], A_corr_solver_adams.strip⟩ := by kernel_rfl
def A_corr_solver_finite_L0 : CA := (.seq (.reg [i_X 0 11 (.h (.ibin .lss (.t 10) (.t 9)))] [8, 9, 10, 11]) (.seq (.cond (.t 11) .skip (.exit 0)) (.seq (.block 1 (.seq (.reg [i_X 0 12 (.h (.idx (.t 8) (.t 10) 1)), i_L 1 13 12 1, i_M 2 4 13] [4, 8, 9, 10]) (.seq (.reg [i_M 0 14 4, i_X 1 15 (.callA (.k (.d (.fn 97 [] []))) [(.t 14)]), i_X 2 16 (.h (.un .not (.t 15)))] [8, 9, 10, 16]) (.cond (.t 16) (.seq (.reg [i_X 0 2 (.h (.mov (.k (.d (.bool false)))))] [2]) .ret) .skip)))) (.reg [i_X 0 17 (.h (.ibin .add (.t 10) (.k (.d (.int .i64 1))))), i_M 1 10 17] [8, 9, 10]))))
def A_corr_solver_finite : CA := (.seq (.reg [i_X 0 2 (.h (.mov (.k (.d (.bool false)))))] [0]) (.seq (.seq (.reg [i_M 0 5 0, i_X 1 6 (.h (.nilck (.t 5))), i_P 2 7 6 8, i_L 3 8 7 1, i_X 4 9 (.h (.len (.t 8))), i_X 5 10 (.h (.mov (.k (.d (.int .i64 0)))))] [8, 9, 10]) (.block 0 (.loop A_corr_solver_finite_L0))) (.seq (.reg [i_X 0 2 (.h (.mov (.k (.d (.bool true)))))] [2]) .ret)))
theorem A_corr_solver_finite_comp : compF Tryz.prog 69 = some ⟨18, [(2, none)], A_corr_solver_finite.strip⟩ := by kernel_rfl
def A_corr_Solve_L0 : CA := (.seq (.block 1 (.seq (.reg [i_M 0 53 14, i_X 1 54 (.callA (.t 53) []), i_M 2 17 54] [12, 13, 14, 16, 17]) (.block 2 (.seq (.reg [i_M 0 56 13, i_X 1 57 (.callA (.k (.d (.fn 69 [] []))) [(.t 56)]), i_X 2 58 (.h (.un .not (.t 57))), i_M 3 55 58] [12, 13, 14, 16, 17, 55]) (.cond (.t 55) (.seq (.reg [i_M 0 59 16, i_X 1 60 (.h (.build [.nil, (.d (.int .i64 0)), (.d (.int .i64 0))] [(1, (1, (.t 59))), (2, (1, (.k (.d (.int .i64 2)))))])), i_S 2 12 60 3] [12]) .ret) (.seq (.reg [i_M 0 62 17, i_X 1 63 (.h (.fcmp .le (.t 62) (.k (.d (.flt 4562146422526312448))))), i_M 2 61 63] [12, 13, 14, 16, 61]) (.cond (.t 61) (.seq (.reg [i_M 0 64 13, i_X 1 65 (.h (.nilck (.t 64))), i_P 2 66 65 8, i_L 3 67 66 1, i_X 4 68 (.app (.k .nil) (.t 67) 1 8), i_M 5 69 16, i_X 6 70 (.h (.build [.nil, (.d (.int .i64 0)), (.d (.int .i64 0))] [(0, (1, (.t 68))), (1, (1, (.t 69))), (2, (1, (.k (.d (.int .i64 0)))))])), i_S 7 12 70 3] [12]) .ret) (.seq (.reg [i_M 0 72 16, i_X 1 73 (.h (.ibin .geq (.t 72) (.k (.d (.int .i64 4))))), i_M 2 71 73] [12, 13, 14, 16, 71]) (.cond (.t 71) (.seq (.reg [i_M 0 74 16, i_X 1 75 (.h (.build [.nil, (.d (.int .i64 0)), (.d (.int .i64 0))] [(1, (1, (.t 74))), (2, (1, (.k (.d (.int .i64 6)))))])), i_S 2 12 75 3] [12]) .ret) .skip))))))))) (.reg [i_M 0 51 16, i_X 1 52 (.h (.ibin .add (.t 51) (.k (.d (.int .i64 1))))), i_M 2 16 52] [12, 13, 14, 16]))
def A_corr_Solve : CA := (.seq (.reg [i_X 0 6 (.box (.t 0) 3 28), i_X 1 12 (.alloc [.nil, (.d (.int .i64 0)), (.d (.int .i64 0))] 75)] [1, 2, 3, 4, 5, 6, 12]) (.seq (.reg [i_P 0 18 6 0, i_L 1 19 18 1, i_X 2 20 (.h (.build [(.d (.int .i64 0))] [(0, (1, (.t 19)))])), i_A 3 21 6 3, i_M 4 22 1, i_M 5 23 2, i_M 6 24 3, i_X 7 25 (.h (.i2f (.t 24))), i_X 8 26 (.callS 8 (.k (.d (.fn 64 [] []))) [(.t 25), (.k (.d (.int .i64 (-30))))]), i_M 9 27 5, i_P 10 28 6 0, i_L 11 29 28 1, i_X 12 30 (.mksl [(.d (.flt 0))] 1 8 (.t 29) (.t 29) 31), i_X 13 31 (.h (.build [(.d (.int .i64 0)), (.d (.int .i64 0)), .nil, .nil, .nil, .nil, (.d (.flt 0)), .nil, .nil, .nil, .nil] [(0, (1, (.t 20))), (1, (3, (.t 21))), (4, (1, (.t 22))), (5, (1, (.t 23))), (6, (1, (.t 26))), (7, (1, (.t 27))), (8, (1, (.t 30)))])), i_X 14 32 (.box (.t 31) 11 111), i_M 15 13 32] [4, 12, 13]) (.seq (.reg [i_M 0 33 13, i_X 1 34 (.h (.mkfn 65 [(.t 33)] [])), i_M 2 14 34] [4, 12, 13, 14]) (.seq (.seq (.reg [i_M 0 35 4, i_X 1 36 (.h (.ibin .eql (.t 35) (.k (.d (.int .i64 1)))))] [12, 13, 14, 36]) (.cond (.t 36) (.seq (.reg [i_X 0 15 (.h (.mov (.k (.d (.bool false)))))] [12, 13]) (.seq (.seq (.reg [i_M 0 38 13, i_M 1 39 13, i_X 2 40 (.callA (.k (.d (.fn 67 [] []))) [(.t 39)]), i_X 3 41 (.callA (.k (.d (.fn 66 [] []))) [(.t 40)]), i_M 4 37 41, i_X 5 42 (.h (.ext (.t 37) 0)), i_X 6 43 (.h (.ext (.t 37) 1)), i_X 7 44 (.h (.nilck (.t 38))), i_P 8 45 44 9, i_S 9 45 42 2, i_M 10 15 43] [12, 13, 15]) (.seq (.reg [i_M 0 46 15, i_X 1 47 (.h (.un .not (.t 46)))] [12, 13, 47]) (.cond (.t 47) (.seq (.reg [i_X 0 48 (.h (.build [.nil, (.d (.int .i64 0)), (.d (.int .i64 0))] [(2, (1, (.k (.d (.int .i64 4)))))])), i_S 1 12 48 3] [12]) .ret) .skip))) (.reg [i_M 0 49 13, i_X 1 50 (.h (.mkfn 68 [(.t 49)] [])), i_M 2 14 50] [12, 13, 14]))) .skip)) (.seq (.reg [i_X 0 16 (.h (.mov (.k (.d (.int .i64 1)))))] [12, 13, 14, 16]) (.block 0 (.loop A_corr_Solve_L0)))))))
theorem A_corr_Solve_comp : compF Tryz.prog 36 = some ⟨76, [(12, (some (3, true)))], A_corr_Solve.strip⟩ := by kernel_rfl
def A_corr_maker_float64_each_L0 : CA := (.seq (.reg [i_X 0 13 (.h (.ibin .lss (.t 12) (.t 11)))] [1, 5, 11, 12, 13]) (.seq (.cond (.t 13) .skip (.exit 0)) (.seq (.block 1 (.seq (.reg [i_M 0 14 12, i_M 1 6 14] [1, 5, 6, 11, 12]) (.reg [i_M 0 15 5, i_M 1 16 6, i_M 2 17 1, i_M 3 18 6, i_X 4 19 (.callA (.t 17) [(.t 18)]), i_X 5 20 (.h (.idx (.t 15) (.t 16) 1)), i_S 6 20 19 1] [1, 5, 11, 12]))) (.reg [i_X 0 21 (.h (.ibin .add (.t 12) (.k (.d (.int .i64 1))))), i_M 1 12 21] [1, 5, 11, 12]))))
def A_corr_maker_float64_each : CA := (.seq (.reg [i_X 0 2 (.box (.t 0) 1 107), i_X 1 4 (.h (.mov (.k .nil)))] [1, 2]) (.seq (.reg [i_P 0 7 2 0, i_L 1 8 7 1, i_X 2 9 (.mksl [(.d (.flt 0))] 1 8 (.t 8) (.t 8) 31), i_M 3 5 9] [1, 5]) (.seq (.seq (.reg [i_M 0 10 5, i_X 1 11 (.h (.len (.t 10))), i_X 2 12 (.h (.mov (.k (.d (.int .i64 0)))))] [1, 5, 11, 12]) (.block 0 (.loop A_corr_maker_float64_each_L0))) (.seq (.reg [i_M 0 22 5, i_M 1 4 22] [4]) .ret))))
theorem A_corr_maker_float64_each_comp : compF Tryz.prog 93 = some ⟨23, [(4, none)], A_corr_maker_float64_each.strip⟩ := by kernel_rfl
/-- Numbers made one by one, of what nobody writes. -/
theorem each_ac (f : FuncId) (cap : List D) (n : Nat) (g : Nat → Nat) (hn : n < 2 ^ 40) (hf : ∀ i : Nat, i < n → Con Tryz.prog f (fI i :: cap.map .d) (fl (g i))) :
    AC Tryz.prog 93 [.agg [fI n], .d (.fn f [] cap)] [] [(0, [rowV (tabR g n)])] (.sl 0 0 0 n 1 n) := by
  refine AC_row0 (X := 3) ?_
  refine AC_introA A_corr_maker_float64_each_comp rfl mixed (fun _ => False) (by simp [get_nil]) ?_
  simp -implicitDefEqProofs only [evI, hv, effC, reduceCtorEq, ↓reduceIte, n1_, n2_, n3_, n4_, n5_, i1_, i2_, i3_, i4_, i5_, i6_, i7_, A_corr_maker_float64_each]
  (repeat (with_reducible refine And.intro (by omega) ?_))
  rw [← fillR_zero g]
  refine WA_for (n := n) (fun c s => ∃ i, c + i = n ∧ s = ⟨[(1, .d (.fn f [] cap)), (5, .sl 3 0 0 n 1 n), (11, fI n), (12, fI i)], [(3, [rowV (fillR g n i)]), (0, [[fI n]])]⟩) ⟨0, by omega, rfl⟩ ?_
  rintro c s ⟨i, hc, rfl⟩
  have hl := fillR_len g n i
  simp -implicitDefEqProofs only [evI, hv, effC, reduceCtorEq, ↓reduceIte, n1_, n2_, n3_, n4_, n5_, i1_, i2_, i3_, i4_, i5_, i6_, i7_, A_corr_maker_float64_each_L0]
  refine condC_intro (fun h => ?_) (fun h => ?_)
  · replace h := of_decide_eq_true h
    have hs := fillR_set g n i (by omega)
    generalize fillR g n i = x at hl hs
    simp -implicitDefEqProofs only [evI, hv, effC, reduceCtorEq, ↓reduceIte, n1_, n2_, n3_, n4_, n5_, i1_, i2_, i3_, i4_, i5_, i6_, i7_]
    (repeat (with_reducible refine And.intro (by omega) ?_))
    refine callG_con (hf i (by omega)) (by simp [V.bareB, List.all_map]) ?_
    simp -implicitDefEqProofs only [evI, hv, effC, reduceCtorEq, ↓reduceIte, n1_, n2_, n3_, n4_, n5_, i1_, i2_, i3_, i4_, i5_, i6_, i7_]
    (repeat (with_reducible refine And.intro (by omega) ?_))
    rw [wrapI (by omega) (by omega)]
    refine ⟨c - 1, by omega, i + 1, by omega, ?_⟩
    rw [← hs]; rfl
  · replace h := of_decide_eq_false h
    have e : i = n := by omega
    subst e
    rw [fillR_all]
    simp -implicitDefEqProofs only [evI, hv, effC, reduceCtorEq, ↓reduceIte, n1_, n2_, n3_, n4_, n5_, i1_, i2_, i3_, i4_, i5_, i6_, i7_]
    exact endsT_only (fun X => X == 3) (fun _ h => h) (resV_tmpI (t := 4) (by decide) rfl) rfl (by simp [KpS_cons, KpS_nil, KpH_cons, KpH_nil, KpF_cons, KpF_nil, KpF_rows, KpA_cons, KpA_nil, KpA_app, KpA_rowV, KpA_rowIV, KpA_dcells, KpA_outC, Kp_any, Kp_nilv, Kp_d, Kp_ptr, Kp_sl, Kp_agg, Kp_tup, Kp_fn, get_cons, get_nil]) (by simp [KpS_cons, KpS_nil, KpH_cons, KpH_nil, KpF_cons, KpF_nil, KpF_rows, KpA_cons, KpA_nil, KpA_app, KpA_rowV, KpA_rowIV, KpA_dcells, KpA_outC, Kp_any, Kp_nilv, Kp_d, Kp_ptr, Kp_sl, Kp_agg, Kp_tup, Kp_fn, get_cons, get_nil])
/-- A solver, as data. -/
def svC (t : Tp) (z : List (List Nat)) (l : List Nat) (h : Nat) (w d : List Nat) (p q : D) : List D := [.int .i64 t.n, .int .i64 t.n, opsD t.ops, rowI t.out, rowsD z, rowD l, .flt h, rowD w, rowD d, p, q]
structure Sok (t : Tp) (z : List (List Nat)) (l w d : List Nat) : Prop where
  ht : Tok t
  hz : 2 ≤ z.length
  hzl : ∀ i, i < 2 → (z.getD i []).length = t.n
  hl : 1 ≤ l.length
  hw : w.length = t.n
  hd : d.length = t.n
def yS (z : List (List Nat)) (l d : List Nat) (n : Nat) : List Nat := tabR (fun i => fop .add ((z.getD 0 []).getD i 0) (fop .mul (l.getD 0 0) (d.getD i 0))) n
def gS (t : Tp) (z : List (List Nat)) (l : List Nat) (h : Nat) (d : List Nat) : List Nat := tabR (fun i => fop .sub (fop .mul h ((evalT t (yS z l d t.n)).getD i 0)) ((z.getD 1 []).getD i 0)) t.n
section
variable (t : Tp) (z : List (List Nat)) (l : List Nat) (h : Nat) (w d : List Nat) (p q : D) (ok : Sok t z l w d)
include ok
theorem slopes1_con (i : Nat) (hi : i < t.n) : Con Tryz.prog 114 [fI i, .d (.bptr [.bptr (svC t z l h w d p q)])] (fl (fop .add ((z.getD 0 []).getD i 0) (fop .mul (l.getD 0 0) (d.getD i 0)))) := by
  obtain ⟨ht, hz, hzl, hl, hw, hd⟩ := ok
  have hz0 := hzl 0 (by omega)
  refine Con_introA A_corr_solver_slopes_1_comp rfl mixed ?_
  simp -implicitDefEqProofs only [evI, hv, effC, reduceCtorEq, ↓reduceIte, n1_, n2_, n3_, n4_, n5_, i1_, i2_, i3_, i4_, i5_, i6_, i7_, A_corr_solver_slopes_1]
  simp -implicitDefEqProofs only [evI, hv, effC, reduceCtorEq, ↓reduceIte, n1_, n2_, n3_, n4_, n5_, i1_, i2_, i3_, i4_, i5_, i6_, i7_, svC]
  (repeat (with_reducible refine And.intro (by omega) ?_))
  exact endsT_rett rfl (by decide) (by simp [look])
theorem slopes2_con (f : List Nat) (hf : f.length = t.n) (i : Nat) (hi : i < t.n) : Con Tryz.prog 115 [fI i, .d (.bptr [.bptr (svC t z l h w d p q)]), .d (.bptr [rowD f])] (fl (fop .sub (fop .mul h (f.getD i 0)) ((z.getD 1 []).getD i 0))) := by
  obtain ⟨ht, hz, hzl, hl, hw, hd⟩ := ok
  have hz0 := hzl 1 (by omega)
  refine Con_introA A_corr_solver_slopes_2_comp rfl mixed ?_
  simp -implicitDefEqProofs only [evI, hv, effC, reduceCtorEq, ↓reduceIte, n1_, n2_, n3_, n4_, n5_, i1_, i2_, i3_, i4_, i5_, i6_, i7_, A_corr_solver_slopes_2]
  simp -implicitDefEqProofs only [evI, hv, effC, reduceCtorEq, ↓reduceIte, n1_, n2_, n3_, n4_, n5_, i1_, i2_, i3_, i4_, i5_, i6_, i7_, svC]
  (repeat (with_reducible refine And.intro (by omega) ?_))
  exact endsT_rett rfl (by decide) (by simp [look])
theorem slopes_ac : AC Tryz.prog 92 [.d (.bptr (svC t z l h w d p q))] [] [(0, [rowV (gS t z l h d)])] (.sl 0 0 0 t.n 1 t.n) := by
  have ok' := ok
  obtain ⟨ht, hz, hzl, hl, hw, hd⟩ := ok'
  have hn := ht.n
  refine AC_row0 (X := 120) ?_
  refine AC_introA A_corr_solver_slopes_comp rfl mixed (fun _ => False) (by simp [get_nil]) ?_
  simp -implicitDefEqProofs only [evI, hv, effC, reduceCtorEq, ↓reduceIte, n1_, n2_, n3_, n4_, n5_, i1_, i2_, i3_, i4_, i5_, i6_, i7_, A_corr_solver_slopes, svC, fnOf_ptr]
  have e1 := each_ac 114 [.bptr [.bptr (svC t z l h w d p q)]] t.n _ (by omega) (fun i hi => slopes1_con t z l h w d p q ok i hi)
  refine callG_row 100 _ (by simp [Heap.next]) e1 ⟨.aggs ⟨.bare _, trivial⟩, .fun1 (.box rfl (.bare _)), trivial⟩ ?_
  simp -implicitDefEqProofs only [evI, hv, effC, reduceCtorEq, ↓reduceIte, n1_, n2_, n3_, n4_, n5_, i1_, i2_, i3_, i4_, i5_, i6_, i7_]
  have hy : (yS z l d t.n).length = t.n := tabR_len _ _
  refine callG_row 101 [tapeV t, .d (rowD (yS z l d t.n))] (by simp [Heap.next]) (tape_Eval_ac t _ ht hy) ⟨.aggs ⟨.bare _, .bare _, .bare _, trivial⟩, snp_row rfl hy rfl, trivial⟩ ?_
  simp -implicitDefEqProofs only [evI, hv, effC, reduceCtorEq, ↓reduceIte, n1_, n2_, n3_, n4_, n5_, i1_, i2_, i3_, i4_, i5_, i6_, i7_, fnOf_ptr2]
  have e2 := each_ac 115 [.bptr [.bptr (svC t z l h w d p q)], .bptr [rowD (evalT t (yS z l d t.n))]] t.n _ (by omega) (fun i hi => slopes2_con t z l h w d p q ok _ (evalT_len _ _) i hi)
  refine callG_row 120 _ (by simp [Heap.next]) e2 ⟨.aggs ⟨.bare _, trivial⟩, .fun2 (.box rfl (.bare _)) (.box rfl (snp_row rfl (evalT_len _ _) rfl)), trivial⟩ ?_
  simp -implicitDefEqProofs only [evI, hv, effC, reduceCtorEq, ↓reduceIte, n1_, n2_, n3_, n4_, n5_, i1_, i2_, i3_, i4_, i5_, i6_, i7_]
  exact endsT_only (fun X => X == 120) (fun _ h => h) (resV_tmpI (t := 2) (by decide) rfl) rfl (by simp [KpS_cons, KpS_nil, KpH_cons, KpH_nil, KpF_cons, KpF_nil, KpF_rows, KpA_cons, KpA_nil, KpA_app, KpA_rowV, KpA_rowIV, KpA_dcells, KpA_outC, Kp_any, Kp_nilv, Kp_d, Kp_ptr, Kp_sl, Kp_agg, Kp_tup, Kp_fn, get_cons, get_nil]) (by simp [KpS_cons, KpS_nil, KpH_cons, KpH_nil, KpF_cons, KpF_nil, KpF_rows, KpA_cons, KpA_nil, KpA_app, KpA_rowV, KpA_rowIV, KpA_dcells, KpA_outC, Kp_any, Kp_nilv, Kp_d, Kp_ptr, Kp_sl, Kp_agg, Kp_tup, Kp_fn, get_cons, get_nil])
/-- How far a try goes. -/
def goneA (t : Tp) (z : List (List Nat)) (l : List Nat) (h : Nat) (w d : List Nat) : Nat := szP (tabR (fun i => fop .sub ((gS t z l h d).getD i 0) (d.getD i 0)) t.n) w
theorem adams1_con (g : List Nat) (hg : g.length = t.n) (i : Nat) (hi : i < t.n) : Con Tryz.prog 94 [fI i, .d (.bptr [rowD g]), .d (.bptr [.bptr (svC t z l h w d p q)])] (fl (fop .sub (g.getD i 0) (d.getD i 0))) := by
  obtain ⟨ht, hz, hzl, hl, hw, hd⟩ := ok
  refine Con_introA A_corr_solver_adams_1_comp rfl mixed ?_
  simp -implicitDefEqProofs only [evI, hv, effC, reduceCtorEq, ↓reduceIte, n1_, n2_, n3_, n4_, n5_, i1_, i2_, i3_, i4_, i5_, i6_, i7_, A_corr_solver_adams_1]
  simp -implicitDefEqProofs only [evI, hv, effC, reduceCtorEq, ↓reduceIte, n1_, n2_, n3_, n4_, n5_, i1_, i2_, i3_, i4_, i5_, i6_, i7_, svC]
  (repeat (with_reducible refine And.intro (by omega) ?_))
  exact endsT_rett rfl (by decide) (by simp [look])
/-- A solver in memory. -/
abbrev svV (t : Tp) (z : List (List Nat)) (l : List Nat) (h : Nat) (w : List Nat) (X : Nat) (p q : V) : List V := [fI t.n, fI t.n, .d (opsD t.ops), .d (rowI t.out), .d (rowsD z), .d (rowD l), fl h, .d (rowD w), .sl X 0 0 t.n 1 t.n, p, q]
omit ok in
theorem snap_sv {L : Heap} {S X : Nat} {pv qv : V} (hS : L.get S 0 = some (svV t z l h w X pv qv)) (hX : L.get X 0 = some (rowV d)) (hd : d.length = t.n) (hp : Snap L pv (.d p)) (hq : Snap L qv (.d q)) : Snap L (.ptr S 0 0 11) (.d (.bptr (svC t z l h w d p q))) := by
  refine .ptr hS rfl (by simp [svC]) (by simp) fun j hj => ?_
  have hj : j < 11 := by simpa [svC] using hj
  rcases j with _ | _ | _ | _ | _ | _ | _ | _ | _ | _ | _ | j
  all_goals first | exact .d _ | exact hp | exact hq | exact snp_row hX hd rfl | omega
set_option maxRecDepth 8000 in
theorem adams_ac : AC Tryz.prog 65 [.ptr 16 0 0 11] [(16, [svV t z l h w 14 .nil .nil]), (14, [rowV d]), (1, [[.nil, fI 0, fI 0]]), (0, [[fI t.n, .d (opsD t.ops), .d (rowI t.out)]])]
    [(100, [rowV (gS t z l h d)]), (16, [svV t z l h w 100 .nil .nil]), (14, [rowV d]), (1, [[.nil, fI 0, fI 0]]), (0, [[fI t.n, .d (opsD t.ops), .d (rowI t.out)]])] (fl (goneA t z l h w d)) := by
  have ok' := ok
  obtain ⟨ht, hz, hzl, hl, hw, hd⟩ := ok'
  have hn := ht.n
  refine AC_introA A_corr_solver_adams_comp rfl mixed (fun X => X ≤ 16) ?_ ?_
  · intro X q
    simp only [get_cons, get_nil]
    repeat' split
    all_goals simp
    all_goals omega
  simp -implicitDefEqProofs only [evI, hv, effC, reduceCtorEq, ↓reduceIte, n1_, n2_, n3_, n4_, n5_, i1_, i2_, i3_, i4_, i5_, i6_, i7_, A_corr_solver_adams]
  have hg : (gS t z l h d).length = t.n := tabR_len _ _
  refine callG_row 100 [.d (.bptr (svC t z l h w d .nils .nils))] (by simp [Heap.next]) (slopes_ac t z l h w d .nils .nils ok) ⟨snap_sv t z l h w d .nils .nils (X := 14) (pv := .nil) (qv := .nil) rfl rfl hd .nil .nil, trivial⟩ ?_
  simp -implicitDefEqProofs only [evI, hv, effC, reduceCtorEq, ↓reduceIte, n1_, n2_, n3_, n4_, n5_, i1_, i2_, i3_, i4_, i5_, i6_, i7_, fnOf_ptr2]
  have e2 := each_ac 94 [.bptr [rowD (gS t z l h d)], .bptr [.bptr (svC t z l h w d .nils .nils)]] t.n _ (by omega) (fun i hi => adams1_con t z l h w d .nils .nils ok _ hg i hi)
  refine callS_row _ e2 ⟨.aggs ⟨.bare _, trivial⟩, .fun2 (.box rfl (snp_row rfl hg rfl)) (.box rfl (snap_sv t z l h w d .nils .nils (X := 14) (pv := .nil) (qv := .nil) rfl rfl hd .nil .nil)), trivial⟩ rfl ?_
  simp -implicitDefEqProofs only [evI, hv, effC, reduceCtorEq, ↓reduceIte, n1_, n2_, n3_, n4_, n5_, i1_, i2_, i3_, i4_, i5_, i6_, i7_]
  refine callG_snaps [.d (rowD (tabR (fun i => fop .sub ((gS t z l h d).getD i 0) (d.getD i 0)) t.n)), .d (rowD w)] (corr_Size_con _ w (by rw [tabR_len]; exact hw) (by rw [tabR_len]; omega)) ⟨snp_row rfl (tabR_len _ _) rfl, .bare _, trivial⟩ (.flt _) ?_
  simp -implicitDefEqProofs only [evI, hv, effC, reduceCtorEq, ↓reduceIte, n1_, n2_, n3_, n4_, n5_, i1_, i2_, i3_, i4_, i5_, i6_, i7_]
  refine endsT_onlyN (fun X => decide (X ≤ 16) || X == 100) (fun X h => by simp [h]) (resV_tmpI (t := 2) (by decide) rfl) rfl (by simp [KpS_cons, KpS_nil, KpH_cons, KpH_nil, KpF_cons, KpF_nil, KpF_rows, KpA_cons, KpA_nil, KpA_app, KpA_rowV, KpA_rowIV, KpA_dcells, KpA_outC, Kp_any, Kp_nilv, Kp_d, Kp_ptr, Kp_sl, Kp_agg, Kp_tup, Kp_fn, get_cons, get_nil]) (by simp [KpS_cons, KpS_nil, KpH_cons, KpH_nil, KpF_cons, KpF_nil, KpF_rows, KpA_cons, KpA_nil, KpA_app, KpA_rowV, KpA_rowIV, KpA_dcells, KpA_outC, Kp_any, Kp_nilv, Kp_d, Kp_ptr, Kp_sl, Kp_agg, Kp_tup, Kp_fn, get_cons, get_nil])
/-- Are all numbers? -/
def finAll (d : List Nat) : Bool := d.all finite
omit ok in
theorem fin_of {d : List Nat} (h : ∀ j, j < d.length → finite (d.getD j 0) = true) : finAll d = true := by
  simp only [finAll, List.all_eq_true]
  intro x hx
  obtain ⟨j, hj, rfl⟩ := List.mem_iff_getElem.1 hx
  have := h j hj
  rwa [List.getD_eq_getElem?_getD, List.getElem?_eq_getElem hj] at this
omit ok in
theorem fin_not {d : List Nat} (j : Nat) (hj : j < d.length) (h : finite (d.getD j 0) = false) : finAll d = false := by
  cases hf : finAll d
  · rfl
  · simp only [finAll, List.all_eq_true] at hf
    have := hf (d.getD j 0) (by rw [List.getD_eq_getElem?_getD, List.getElem?_eq_getElem hj]; exact List.getElem_mem hj)
    rw [h] at this; cases this
set_option maxRecDepth 8000 in
theorem finite_con : Con Tryz.prog 69 [.d (.bptr (svC t z l h w d p q))] (fB (finAll d)) := by
  obtain ⟨ht, hz, hzl, hl, hw, hd⟩ := ok
  have hn := ht.n
  refine Con_introA A_corr_solver_finite_comp rfl mixed ?_
  simp -implicitDefEqProofs only [evI, hv, effC, reduceCtorEq, ↓reduceIte, n1_, n2_, n3_, n4_, n5_, i1_, i2_, i3_, i4_, i5_, i6_, i7_, A_corr_solver_finite]
  simp -implicitDefEqProofs only [evI, hv, effC, reduceCtorEq, ↓reduceIte, n1_, n2_, n3_, n4_, n5_, i1_, i2_, i3_, i4_, i5_, i6_, i7_, svC]
  refine WA_for (n := d.length) (fun c s => ∃ i, c + i = d.length ∧ (∀ j, j < i → finite (d.getD j 0) = true) ∧ s = ⟨[(8, .d (rowD d)), (9, fI d.length), (10, fI i)], []⟩) ⟨0, by omega, fun j hj => by omega, rfl⟩ ?_
  rintro c s ⟨i, hc, hf, rfl⟩
  simp -implicitDefEqProofs only [evI, hv, effC, reduceCtorEq, ↓reduceIte, n1_, n2_, n3_, n4_, n5_, i1_, i2_, i3_, i4_, i5_, i6_, i7_, A_corr_solver_finite_L0]
  refine condC_intro (fun h => ?_) (fun h => ?_)
  · replace h := of_decide_eq_true h
    simp -implicitDefEqProofs only [evI, hv, effC, reduceCtorEq, ↓reduceIte, n1_, n2_, n3_, n4_, n5_, i1_, i2_, i3_, i4_, i5_, i6_, i7_]
    (repeat (with_reducible refine And.intro (by omega) ?_))
    first | refine callG_con (fp_Finite_con (d.getD i 0)) rfl ?_ | refine callCG_con (fp_Finite_con (d.getD i 0)) rfl ?_ | refine callSG_con (fp_Finite_con (d.getD i 0)) rfl ?_
    simp -implicitDefEqProofs only [evI, hv, effC, reduceCtorEq, ↓reduceIte, n1_, n2_, n3_, n4_, n5_, i1_, i2_, i3_, i4_, i5_, i6_, i7_]
    cases hi : finite (d.getD i 0)
    · rw [fin_not i (by omega) hi]
      simp -implicitDefEqProofs only [evI, hv, effC, reduceCtorEq, ↓reduceIte, n1_, n2_, n3_, n4_, n5_, i1_, i2_, i3_, i4_, i5_, i6_, i7_]
      exact endsT_rett rfl (by decide) (by simp [look])
    · simp -implicitDefEqProofs only [evI, hv, effC, reduceCtorEq, ↓reduceIte, n1_, n2_, n3_, n4_, n5_, i1_, i2_, i3_, i4_, i5_, i6_, i7_]
      rw [wrapI (by omega) (by omega)]
      exact ⟨c - 1, by omega, i + 1, by omega, fun j hj => by rcases Nat.lt_succ_iff_lt_or_eq.1 hj with h1 | rfl; exact hf j h1; exact hi, rfl⟩
  · replace h := of_decide_eq_false h
    rw [fin_of fun j hj => hf j (by omega)]
    simp -implicitDefEqProofs only [evI, hv, effC, reduceCtorEq, ↓reduceIte, n1_, n2_, n3_, n4_, n5_, i1_, i2_, i3_, i4_, i5_, i6_, i7_]
    exact endsT_rett rfl (by decide) (by simp [look])
end
/-- Tries, until they rest: what is added, how many, what is told. -/
def seek (tr : List Nat → List Nat × Nat) : Nat → Nat → List Nat → List Nat × Nat × Int
  | 0, k, _ => ([], k, 6)
  | f + 1, k, d => if finAll (tr d).1 = false then ([], k, 2) else if fcmp .le (tr d).2 4562146422526312448 = true then ((tr d).1, k, 0) else if 4 ≤ k then ([], k, 6) else seek tr f (k + 1) (tr d).1
def tryA (t : Tp) (z : List (List Nat)) (l : List Nat) (h : Nat) (w d : List Nat) : List Nat × Nat := (gS t z l h d, goneA t z l h w d)
def solA (t : Tp) (z : List (List Nat)) (l : List Nat) (h : Nat) (w : List Nat) : List Nat × Nat × Int := seek (tryA t z l h w) 4 1 (List.replicate t.n 0)
abbrev sumV (r : List Nat × Nat × Int) : V := .agg [.d (rowD r.1), fI r.2.1, fI r.2.2]
abbrev solT (t : Tp) (z : List (List Nat)) (l : List Nat) (h : Nat) (w d : List Nat) (k : Nat) : T := ⟨[(12, .ptr 1 0 0 3), (13, .ptr 16 0 0 11), (14, .fn 65 [.ptr 16 0 0 11] []), (16, fI k)],
  [(16, [svV t z l h w 14 .nil .nil]), (14, [rowV d]), (1, [[.nil, fI 0, fI 0]]), (0, [[fI t.n, .d (opsD t.ops), .d (rowI t.out)]])]⟩
theorem sol_next (t : Tp) (z : List (List Nat)) (l : List Nat) (h : Nat) (w d g : List Nat) (k : Nat) : Le (fun _ => False) (T.s 76 ⟨[(12, .ptr 1 0 0 3), (13, .ptr 16 0 0 11), (14, .fn 65 [.ptr 16 0 0 11] []), (16, fI k)],
    [(100, [rowV g]), (16, [svV t z l h w 100 .nil .nil]), (14, [rowV d]), (1, [[.nil, fI 0, fI 0]]), (0, [[fI t.n, .d (opsD t.ops), .d (rowI t.out)]])]⟩) (T.s 76 (solT t z l h w g k)) := by
  refine Le.trans (LeT.only (L' := [(100, [rowV g]), (16, [svV t z l h w 100 .nil .nil]), (1, [[.nil, fI 0, fI 0]]), (0, [[fI t.n, .d (opsD t.ops), .d (rowI t.out)]])]) (fun X => X != 14) (fun _ h => h) rfl (by simp [KpS_cons, KpS_nil, KpH_cons, KpH_nil, KpF_cons, KpF_nil, KpF_rows, KpA_cons, KpA_nil, KpA_app, KpA_rowV, KpA_rowIV, KpA_dcells, KpA_outC, Kp_any, Kp_nilv, Kp_d, Kp_ptr, Kp_sl, Kp_agg, Kp_tup, Kp_fn, get_cons, get_nil]) (by simp [KpS_cons, KpS_nil, KpH_cons, KpH_nil, KpF_cons, KpF_nil, KpF_rows, KpA_cons, KpA_nil, KpA_app, KpA_rowV, KpA_rowIV, KpA_dcells, KpA_outC, Kp_any, Kp_nilv, Kp_d, Kp_ptr, Kp_sl, Kp_agg, Kp_tup, Kp_fn, get_cons, get_nil])) ?_
  refine Le.trans (LeT.move 14 (by decide) (by simp [fam_cons, fam_nil]) (by simp [fam_cons, fam_nil]) (fun h => h)) ?_
  have e : renS (absF 100 14 0) [(12, .ptr 1 0 0 3), (13, .ptr 16 0 0 11), (14, .fn 65 [.ptr 16 0 0 11] []), (16, fI k)] = [(12, .ptr 1 0 0 3), (13, .ptr 16 0 0 11), (14, .fn 65 [.ptr 16 0 0 11] []), (16, fI k)] := by
    simp [renS, V.ren, V.renL, absF]
  have e2 : Heap.renH (absF 100 14 0) [(16, [svV t z l h w 100 .nil .nil]), (1, [[.nil, fI 0, fI 0]]), (0, [[fI t.n, .d (opsD t.ops), .d (rowI t.out)]])] = [(16, [svV t z l h w 14 .nil .nil]), (1, [[.nil, fI 0, fI 0]]), (0, [[fI t.n, .d (opsD t.ops), .d (rowI t.out)]])] := by
    simp [Heap.renH, V.ren, absF]
  rw [e, e2, ren_rowV]
  exact LeT.perm (fun _ h => h) (fun X => .inr (by simp only [fam_cons, fam_nil]; grind)) (by simp [KpS_cons, KpS_nil, KpH_cons, KpH_nil, KpF_cons, KpF_nil, KpF_rows, KpA_cons, KpA_nil, KpA_app, KpA_rowV, KpA_rowIV, KpA_dcells, KpA_outC, Kp_any, Kp_nilv, Kp_d, Kp_ptr, Kp_sl, Kp_agg, Kp_tup, Kp_fn, get_cons, get_nil]) (by simp [KpS_cons, KpS_nil, KpH_cons, KpH_nil, KpF_cons, KpF_nil, KpF_rows, KpA_cons, KpA_nil, KpA_app, KpA_rowV, KpA_rowIV, KpA_dcells, KpA_outC, Kp_any, Kp_nilv, Kp_d, Kp_ptr, Kp_sl, Kp_agg, Kp_tup, Kp_fn, get_cons, get_nil])
theorem seekA_succ (t : Tp) (z : List (List Nat)) (l : List Nat) (h : Nat) (w : List Nat) (f k : Nat) (d : List Nat) : seek (tryA t z l h w) (f + 1) k d =
  if finAll (gS t z l h d) = false then ([], k, 2) else if fcmp .le (goneA t z l h w d) 4562146422526312448 = true then (gS t z l h d, k, 0) else if 4 ≤ k then ([], k, 6) else seek (tryA t z l h w) f (k + 1) (gS t z l h d) := rfl
set_option maxRecDepth 8000 in
theorem sol_gen (L' : Heap) (r : V) (t : Tp) (z : List (List Nat)) (l : List Nat) (h : Nat) (w : List Nat)
    (h1 : ∀ k g, g.length = t.n → solA t z l h w = (g, k, 0) → r = .agg [.sl 105 0 0 t.n 1 t.n, fI k, fI 0] ∧ L' = [(105, [rowV g])])
    (h2 : ∀ k e, solA t z l h w = ([], k, e) → e ≠ 0 → r = .agg [.nil, fI k, fI e] ∧ L' = [])
    (step : Int) (m : Int) (hm : m ≠ 1) (ok : Sok t z l w (List.replicate t.n 0)) (hs : Con Tryz.prog 64 [fl (FloatKind.nearest .f64 step), fI (-30)] (fl h)) :
    AC Tryz.prog 36 [tapeV t, .d (rowsD z), .d (rowD l), fI step, fI m, .d (rowD w)] [] L' r := by
  obtain ⟨ht, hz, hzl, hl, hw, hd⟩ := ok
  have hn := ht.n
  have hm1 : (m == 1) = false := by simpa using hm
  refine AC_introA A_corr_Solve_comp rfl mixed (fun _ => False) (by simp [get_nil]) ?_
  simp -implicitDefEqProofs only [evI, hv, effC, reduceCtorEq, ↓reduceIte, n1_, n2_, n3_, n4_, n5_, i1_, i2_, i3_, i4_, i5_, i6_, i7_, A_corr_Solve]
  first | refine callG_con (hs) rfl ?_ | refine callCG_con (hs) rfl ?_ | refine callSG_con (hs) rfl ?_
  simp -implicitDefEqProofs only [evI, hv, effC, reduceCtorEq, ↓reduceIte, n1_, n2_, n3_, n4_, n5_, i1_, i2_, i3_, i4_, i5_, i6_, i7_, hm1, fnOf_first]
  (repeat (with_reducible refine And.intro (by omega) ?_))
  refine WA_forW (n := 4) (fun c s => ∃ k d, c + k = 5 ∧ (1 ≤ k ∧ k ≤ 4) ∧ d.length = t.n ∧ seek (tryA t z l h w) c k d = solA t z l h w ∧ s = solT t z l h w d k) (Le.refl _) ⟨1, _, by omega, by omega, hd, rfl, rfl⟩ ?_
  rintro c s ⟨k, d, hc, hk, hdl, he, rfl⟩
  have okd : Sok t z l w d := ⟨ht, hz, hzl, hl, hw, hdl⟩
  have hgl : (gS t z l h d).length = t.n := tabR_len _ _
  have okg : Sok t z l w (gS t z l h d) := ⟨ht, hz, hzl, hl, hw, hgl⟩
  obtain ⟨f, rfl⟩ : ∃ f, c = f + 1 := ⟨c - 1, by omega⟩
  simp -implicitDefEqProofs only [evI, hv, effC, reduceCtorEq, ↓reduceIte, n1_, n2_, n3_, n4_, n5_, i1_, i2_, i3_, i4_, i5_, i6_, i7_, A_corr_Solve_L0]
  refine callG_ac (adams_ac t z l h w d okd) ?_
  simp -implicitDefEqProofs only [evI, hv, effC, reduceCtorEq, ↓reduceIte, n1_, n2_, n3_, n4_, n5_, i1_, i2_, i3_, i4_, i5_, i6_, i7_]
  refine callG_snaps [.d (.bptr (svC t z l h w (gS t z l h d) .nils .nils))] (finite_con t z l h w _ .nils .nils okg) ⟨snap_sv t z l h w _ .nils .nils (X := 100) (pv := .nil) (qv := .nil) rfl rfl hgl .nil .nil, trivial⟩ (.bool _) ?_
  simp -implicitDefEqProofs only [evI, hv, effC, reduceCtorEq, ↓reduceIte, n1_, n2_, n3_, n4_, n5_, i1_, i2_, i3_, i4_, i5_, i6_, i7_]
  rw [seekA_succ] at he
  cases hf : finAll (gS t z l h d)
  · rw [if_pos hf] at he
    simp -implicitDefEqProofs only [evI, hv, effC, reduceCtorEq, ↓reduceIte, n1_, n2_, n3_, n4_, n5_, i1_, i2_, i3_, i4_, i5_, i6_, i7_, Bool.not_false]
    obtain ⟨rfl, rfl⟩ := h2 k 2 he.symm (by decide)
    exact endsT_only (fun _ => false) (fun _ h => h) (resV_cellI (by decide) rfl rfl rfl (by simp) rfl) rfl (by simp [KpS_cons, KpS_nil, KpH_cons, KpH_nil, KpF_cons, KpF_nil, KpF_rows, KpA_cons, KpA_nil, KpA_app, KpA_rowV, KpA_rowIV, KpA_dcells, KpA_outC, Kp_any, Kp_nilv, Kp_d, Kp_ptr, Kp_sl, Kp_agg, Kp_tup, Kp_fn, get_cons, get_nil]) (by simp [KpS_cons, KpS_nil, KpH_cons, KpH_nil, KpF_cons, KpF_nil, KpF_rows, KpA_cons, KpA_nil, KpA_app, KpA_rowV, KpA_rowIV, KpA_dcells, KpA_outC, Kp_any, Kp_nilv, Kp_d, Kp_ptr, Kp_sl, Kp_agg, Kp_tup, Kp_fn, get_cons, get_nil])
  · rw [if_neg (by rw [hf]; decide)] at he
    simp -implicitDefEqProofs only [evI, hv, effC, reduceCtorEq, ↓reduceIte, n1_, n2_, n3_, n4_, n5_, i1_, i2_, i3_, i4_, i5_, i6_, i7_, Bool.not_true]
    cases hle : fcmp .le (goneA t z l h w d) 4562146422526312448
    · rw [if_neg (by rw [hle]; decide)] at he
      simp -implicitDefEqProofs only [evI, hv, effC, reduceCtorEq, ↓reduceIte, n1_, n2_, n3_, n4_, n5_, i1_, i2_, i3_, i4_, i5_, i6_, i7_]
      by_cases h4 : 4 ≤ k
      · rw [if_pos h4] at he
        have h4' : decide ((4 : Int) ≤ (k : Int)) = true := by simp; omega
        simp -implicitDefEqProofs only [evI, hv, effC, reduceCtorEq, ↓reduceIte, n1_, n2_, n3_, n4_, n5_, i1_, i2_, i3_, i4_, i5_, i6_, i7_, h4']
        obtain ⟨rfl, rfl⟩ := h2 k 6 he.symm (by decide)
        exact endsT_only (fun _ => false) (fun _ h => h) (resV_cellI (by decide) rfl rfl rfl (by simp) rfl) rfl (by simp [KpS_cons, KpS_nil, KpH_cons, KpH_nil, KpF_cons, KpF_nil, KpF_rows, KpA_cons, KpA_nil, KpA_app, KpA_rowV, KpA_rowIV, KpA_dcells, KpA_outC, Kp_any, Kp_nilv, Kp_d, Kp_ptr, Kp_sl, Kp_agg, Kp_tup, Kp_fn, get_cons, get_nil]) (by simp [KpS_cons, KpS_nil, KpH_cons, KpH_nil, KpF_cons, KpF_nil, KpF_rows, KpA_cons, KpA_nil, KpA_app, KpA_rowV, KpA_rowIV, KpA_dcells, KpA_outC, Kp_any, Kp_nilv, Kp_d, Kp_ptr, Kp_sl, Kp_agg, Kp_tup, Kp_fn, get_cons, get_nil])
      · rw [if_neg h4] at he
        have h4' : decide ((4 : Int) ≤ (k : Int)) = false := by simp; omega
        simp -implicitDefEqProofs only [evI, hv, effC, reduceCtorEq, ↓reduceIte, n1_, n2_, n3_, n4_, n5_, i1_, i2_, i3_, i4_, i5_, i6_, i7_, h4']
        rw [wrapI (by omega) (by omega)]
        exact ⟨f, _, by omega, sol_next t z l h w d (gS t z l h d) (k + 1), k + 1, _, by omega, by omega, hgl, he, rfl⟩
    · rw [if_pos hle] at he
      simp -implicitDefEqProofs only [evI, hv, effC, reduceCtorEq, ↓reduceIte, n1_, n2_, n3_, n4_, n5_, i1_, i2_, i3_, i4_, i5_, i6_, i7_]
      have htk : List.take t.n (rowV (gS t z l h d)) = rowV (gS t z l h d) := List.take_of_length_le (by simp [hgl])
      have hrl : (rowV (gS t z l h d)).length = t.n := by simp [hgl]
      rw [if_pos ⟨hgl, by omega⟩, htk]
      simp only []
      (repeat (with_reducible refine And.intro (by omega) ?_))
      obtain ⟨rfl, rfl⟩ := h1 k _ hgl he.symm
      refine ⟨⟨by omega, hrl, by simp [rowV, V.isCell]⟩, ?_⟩
      exact endsT_only (fun X => X == 105) (fun _ h => h) (resV_cellI (by decide) rfl rfl rfl (by simp) rfl) rfl (by simp [KpS_cons, KpS_nil, KpH_cons, KpH_nil, KpF_cons, KpF_nil, KpF_rows, KpA_cons, KpA_nil, KpA_app, KpA_rowV, KpA_rowIV, KpA_dcells, KpA_outC, Kp_any, Kp_nilv, Kp_d, Kp_ptr, Kp_sl, Kp_agg, Kp_tup, Kp_fn, get_cons, get_nil]) (by simp [KpS_cons, KpS_nil, KpH_cons, KpH_nil, KpF_cons, KpF_nil, KpF_rows, KpA_cons, KpA_nil, KpA_app, KpA_rowV, KpA_rowIV, KpA_dcells, KpA_outC, Kp_any, Kp_nilv, Kp_d, Kp_ptr, Kp_sl, Kp_agg, Kp_tup, Kp_fn, get_cons, get_nil])
/-- A sum whose row is its own: under the name 0. -/
theorem AC_sum0 {P : Program} {f : FuncId} {vs : List V} {X n : Nat} {xs : List Nat} {a b : Int} (h : AC P f vs [] [(X, [rowV xs])] (.agg [.sl X 0 0 n 1 n, fI a, fI b])) : AC P f vs [] [(0, [rowV xs])] (.agg [.sl 0 0 0 n 1 n, fI a, fI b]) := by
  have hle := Le.ren (N := fun _ => False) (L := [(X, [rowV xs])]) (L2 := [(0, [rowV xs])]) (sl := [.agg [.sl X 0 0 n 1 n, fI a, fI b]]) (fun _ r => (0, r)) (fun _ r => (X, r)) ?_ ?_ (fun _ _ h => h.elim)
  · exact AC_le h (by simpa [V.ren, V.renL] using hle)
  · intro Z r c h
    obtain ⟨rfl, rfl, rfl⟩ := one_row (L := []) h
    simp [get_cons, V.ren]
  · intro Z r c h
    obtain ⟨rfl, rfl, rfl⟩ := one_row (L := []) h
    simp [get_cons]
theorem seekA_len (t : Tp) (z : List (List Nat)) (l : List Nat) (h : Nat) (w : List Nat) (f : Nat) : ∀ (k : Nat) (d g : List Nat) (a : Nat), seek (tryA t z l h w) f k d = (g, a, 0) → g.length = t.n := by
  induction f with
  | zero => intro k d g a he; simp [seek] at he
  | succ f ih =>
    intro k d g a he
    rw [seekA_succ] at he
    split at he
    · simp at he
    · split at he
      · injection he with h1 h2
        rw [← h1]; exact tabR_len _ _
      · split at he
        · simp at he
        · exact ih _ _ _ _ he
theorem corr_Solve_ok (t : Tp) (z : List (List Nat)) (l : List Nat) (h : Nat) (w : List Nat) (step : Int) (m : Int) (hm : m ≠ 1) (ok : Sok t z l w (List.replicate t.n 0)) (hs : Con Tryz.prog 64 [fl (FloatKind.nearest .f64 step), fI (-30)] (fl h))
    (g : List Nat) (k : Nat) (hg : solA t z l h w = (g, k, 0)) : AC Tryz.prog 36 [tapeV t, .d (rowsD z), .d (rowD l), fI step, fI m, .d (rowD w)] [] [(0, [rowV g])] (.agg [.sl 0 0 0 t.n 1 t.n, fI k, fI 0]) := by
  refine AC_sum0 (X := 105) (sol_gen _ _ t z l h w (fun k' g' _ he => ?_) (fun k' e he hne => ?_) step m hm ok hs)
  · rw [hg] at he
    simp only [Prod.mk.injEq] at he
    obtain ⟨rfl, rfl, _⟩ := he
    exact ⟨rfl, rfl⟩
  · rw [hg] at he
    simp only [Prod.mk.injEq] at he
    exact absurd he.2.2.symm hne
theorem corr_Solve_no (t : Tp) (z : List (List Nat)) (l : List Nat) (h : Nat) (w : List Nat) (step : Int) (m : Int) (hm : m ≠ 1) (ok : Sok t z l w (List.replicate t.n 0)) (hs : Con Tryz.prog 64 [fl (FloatKind.nearest .f64 step), fI (-30)] (fl h))
    (k : Nat) (e : Int) (hne : e ≠ 0) (hg : solA t z l h w = ([], k, e)) : AC Tryz.prog 36 [tapeV t, .d (rowsD z), .d (rowD l), fI step, fI m, .d (rowD w)] [] [] (.agg [.nil, fI k, fI e]) := by
  refine sol_gen _ _ t z l h w (fun k' g' _ he => ?_) (fun k' e' he hne' => ?_) step m hm ok hs
  · rw [hg] at he
    simp only [Prod.mk.injEq] at he
    exact absurd he.2.2 hne
  · rw [hg] at he
    simp only [Prod.mk.injEq] at he
    obtain ⟨_, rfl, rfl⟩ := he
    exact ⟨rfl, rfl⟩
end Go.Ab
