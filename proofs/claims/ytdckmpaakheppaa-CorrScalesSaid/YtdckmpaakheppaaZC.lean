/- Floats as words: laws of comparisons and of the functions on bits. -/
import Derived.Test.YtdckmpaakheppaaZB
namespace Go.Ab
set_option linter.unusedSimpArgs false
set_option linter.unusedVariables false
open Go

theorem order_self (x : Nat) : Ieee.double.order x x = if isNan x then none else some .eq := by
  rw [← read_nan]
  unfold Ieee.Format.order
  cases Ieee.double.read x with
  | nan s t => simp [Ieee.Datum.order, Ieee.Datum.isNaN]
  | infinity s => simp [Ieee.Datum.order, Ieee.Datum.isNaN, Nat.compare_eq_eq]
  | number s m i => simp [Ieee.Datum.order, Ieee.Datum.isNaN]
theorem fcmp_ne_self (x : Nat) : fcmp .ne x x = isNan x := by
  simp only [fcmp, order_self]; cases isNan x <;> rfl
theorem fcmp_eq_self (x : Nat) : fcmp .eq x x = !isNan x := by
  simp only [fcmp, order_self]; cases isNan x <;> rfl

theorem bitsOp_u64 (op : BinOp) (a b : Int) : 0 ≤ bitsOp op .u64 a b ∧ bitsOp op .u64 a b < 18446744073709551616 := by
  unfold bitsOp
  simp only
  rw [IntKind.wrap_u64]
  omega
theorem wrap_u64_range (a : Int) : 0 ≤ IntKind.wrap .u64 a ∧ IntKind.wrap .u64 a < 18446744073709551616 := by
  rw [IntKind.wrap_u64]; omega

/-- A word without its sign. -/
def bits0 (b : Nat) : Nat := b % 9223372036854775808
theorem andNot_sign {b : Nat} (h : b < 2 ^ 64) : bitsOp .andNot .u64 b 9223372036854775808 = (bits0 b : Nat) := by
  unfold bitsOp bits0
  have e : (BitVec.ofInt IntKind.u64.bits (b : Int) &&& ~~~ BitVec.ofInt IntKind.u64.bits 9223372036854775808).toNat = b % 9223372036854775808 := by
    show (BitVec.ofInt 64 (b : Int) &&& ~~~ BitVec.ofInt 64 9223372036854775808).toNat = b % 9223372036854775808
    have e1 : ~~~ BitVec.ofInt 64 9223372036854775808 = (9223372036854775807#64 : BitVec 64) := by decide
    rw [e1, BitVec.toNat_and]
    have e2 : (BitVec.ofInt 64 (b : Int)).toNat = b := by
      rw [BitVec.ofInt_natCast, BitVec.toNat_ofNat]; omega
    rw [e2]
    show b &&& (2 ^ 63 - 1) = b % 2 ^ 63
    exact Nat.and_two_pow_sub_one_eq_mod b 63
  simp only [e]
  exact wrapU (by omega) (by omega)

def fabs (x : Nat) : Nat := cf (bits0 x)
theorem fabs_raw {b : Nat} : cf (bits0 b) = fabs (cf b) := by
  unfold fabs
  by_cases h : isNan b = true
  · rw [cf_nan h]
    have : isNan (bits0 b) = true := by
      unfold isNan bits0 at *
      simpa using h
    rw [cf_nan this]; rfl
  · rw [cf_not (b := b) (by simpa using h)]

def csign (x y : Nat) : Nat := cf (bitsOp .or .u64 (bitsOp .andNot .u64 x 9223372036854775808) (bitsOp .and .u64 y 9223372036854775808)).toNat

def nextF (x y : Nat) : Nat :=
  if isNan x = true ∨ isNan y = true then qnan
  else if fcmp .eq x y = true then x
  else if fcmp .eq x 0 = true then csign 1 y
  else if (fcmp .gt y x == fcmp .gt x 0) = true then cf (IntKind.wrap .u64 (x + 1)).toNat
  else cf (IntKind.wrap .u64 (x - 1)).toNat

def finf : Nat := 9218868437227405312
def fninf : Nat := 18442240474082181120
abbrev up (x : Nat) : Nat := nextF x finf
abbrev down (x : Nat) : Nat := nextF x fninf
def isInf (x : Nat) : Bool := fcmp .gt (fabs x) 9218868437227405311
def finite (x : Nat) : Bool := !isNan x && !isInf x
def fsame (x y : Nat) : Bool := fcmp .eq x y || (isNan x && isNan y)

abbrev ivV (p : Nat × Nat) : V := .agg [fl p.1, fl p.2]
def ivMake (lo hi : Nat) : Nat × Nat := if fcmp .le lo hi = true then (lo, hi) else (fninf, finf)
def ivSub (a b : Nat × Nat) : Nat × Nat := ivMake (down (fop .sub a.1 b.2)) (up (fop .sub a.2 b.1))
/-- From the least to the greatest of numbers, none of them a NaN. -/
def spanF : List Nat → Nat → Nat → Nat × Nat
  | [], lo, hi => ivMake (down lo) (up hi)
  | x :: r, lo, hi => if isNan x = true then (fninf, finf) else spanF r (if fcmp .lt x lo = true then x else lo) (if fcmp .gt x hi = true then x else hi)
def ivMul (a b : Nat × Nat) : Nat × Nat :=
  spanF [fop .mul a.1 b.1, fop .mul a.1 b.2, fop .mul a.2 b.1, fop .mul a.2 b.2] (fop .mul a.1 b.1) (fop .mul a.1 b.1)

theorem read_bits0_max {x : Nat} (h : bits0 x < 9218868437227405312) : Ieee.double.order (bits0 x) 9218868437227405311 ≠ some .gt := by
  have hb : bits0 x < 9223372036854775808 := by unfold bits0; omega
  generalize bits0 x = y at h hb
  have e2 : Ieee.double.read 9218868437227405311 = .number false 9007199254740991 971 := by decide
  have h1 : Ieee.double.signWeight = 9223372036854775808 := rfl
  have h2 : Ieee.double.binade = 4503599627370496 := rfl
  have h3 : Ieee.double.infRung = 9218868437227405312 := rfl
  have h4 : Ieee.double.leastPlace = -1074 := rfl
  have key : ∀ (m : Nat) (i : Int), m ≤ 9007199254740991 → i ≤ 971 → Ieee.Datum.order (.number false m i) (.number false 9007199254740991 971) ≠ some .gt := by
    intro m i hm hi
    simp only [Ieee.Datum.order, Ieee.signed, Bool.false_eq_true, if_false]
    rw [Int.min_eq_left hi]
    simp only [Int.sub_self, Int.toNat_zero, Nat.shiftLeft_zero]
    intro hc
    have hc := Option.some.inj hc
    rw [Int.compare_eq_gt] at hc
    have : 9007199254740991 ≤ 9007199254740991 <<< (971 - i).toNat := by
      rw [Nat.shiftLeft_eq]; exact Nat.le_mul_of_pos_right _ (Nat.two_pow_pos _)
    omega
  unfold Ieee.Format.order
  rw [e2]
  unfold Ieee.Format.read
  simp only [h1, h2, h3, h4]
  have m1 : y % 9223372036854775808 = y := Nat.mod_eq_of_lt hb
  have m2 : (y / 9223372036854775808 % 2 == 1) = false := by
    rw [Nat.div_eq_of_lt hb]; rfl
  rw [m1, m2]
  split
  · exact key _ _ (by omega) (by omega)
  · refine key _ _ (by omega) ?_
    have : y / 4503599627370496 ≤ 2046 := by omega
    omega

theorem finite_sub (x : Nat) : fcmp .eq (fop .sub x x) 0 = finite x := by
  have h1 : Ieee.double.signWeight = 9223372036854775808 := rfl
  have h2 : Ieee.double.binade = 4503599627370496 := rfl
  have h3 : Ieee.double.infRung = 9218868437227405312 := rfl
  have q0 : fcmp .eq qnan 0 = false := by decide
  cases hd : Ieee.double.read x with
  | nan s t =>
    have hn : isNan x = true := by rw [← read_nan, hd]; rfl
    have : fop .sub x x = qnan := by simp [fop, Ieee.Format.sub, hd, Ieee.Datum.sum, Ieee.Datum.opposite]
    rw [this, q0]; simp [finite, hn]
  | infinity s =>
    have hn : isNan x = false := by rw [← read_nan, hd]; rfl
    have e : fop .sub x x = qnan := by
      have : ¬ s = !s := by cases s <;> simp
      simp [fop, Ieee.Format.sub, hd, Ieee.Datum.sum, Ieee.Datum.opposite, this]
    have hb : bits0 x = 9218868437227405312 := by
      unfold Ieee.Format.read at hd
      simp only [h1, h2, h3] at hd
      unfold bits0
      split at hd
      · cases hd
      · split at hd
        · cases hd
        · split at hd
          · assumption
          · cases hd
    have : isInf x = true := by unfold isInf fabs; rw [hb]; decide
    rw [e, q0]; simp [finite, this]
  | number s m i =>
    have hn : isNan x = false := by rw [← read_nan, hd]; rfl
    have hb : bits0 x < 9218868437227405312 := by
      unfold Ieee.Format.read at hd
      simp only [h1, h2, h3] at hd
      unfold bits0
      split at hd
      · omega
      · split at hd
        · assumption
        · split at hd <;> cases hd
    have e : fop .sub x x = 0 := by
      have ht : Ieee.signed s m 0 + Ieee.signed (!s) m 0 = 0 := by
        cases s <;> simp [Ieee.signed] <;> omega
      have hs : (s && !s) = false := by cases s <;> rfl
      have hw : Ieee.double.write (.number false 0 i) = 0 := by simp [Ieee.Format.write, Ieee.Format.nearest, Ieee.Format.word]
      simp [fop, Ieee.Format.sub, hd, Ieee.Datum.sum, Ieee.Datum.opposite, ht, hs, hw, cf, isNan]
    have : isInf x = false := by
      unfold isInf fabs
      have hnb : isNan (bits0 x) = false := by unfold isNan bits0 at *; simp; omega
      rw [cf_not hnb]
      have := read_bits0_max hb
      simp only [fcmp]
      cases hc : Ieee.double.order (bits0 x) 9218868437227405311 with
      | none => rfl
      | some o => cases o <;> first | rfl | exact absurd hc this
    rw [e]
    have z : fcmp .eq 0 0 = true := by decide
    rw [z]; simp [finite, hn, this]
end Go.Ab
