/- Zeros, and what is no number: words of which nothing comes but such. -/
import Derived.Test.YtdckmpaakheppaaZE
namespace Go.Ab
set_option linter.unusedSimpArgs false
set_option linter.unusedVariables false
open Go

def Zx (x : Nat) : Prop := match Ieee.double.read x with
  | .number _ m _ => m = 0
  | _ => True

theorem Zx_qnan : Zx qnan := by
  have e : Ieee.double.read qnan = .nan false 2251799813685249 := by decide
  simp [Zx, e]
theorem Zx_zero (s : Bool) (i : Int) : Zx (cf (Ieee.double.write (.number s 0 i))) := by
  have e : Ieee.double.write (.number s 0 i) = Ieee.double.word s 0 := by simp [Ieee.Format.write, Ieee.Format.nearest]
  rw [e]
  cases s
  · have : cf (Ieee.double.word false 0) = 0 := by decide
    have r : Ieee.double.read 0 = .number false 0 (-1074) := by decide
    rw [this]; simp [Zx, r]
  · have : cf (Ieee.double.word true 0) = 9223372036854775808 := by decide
    have r : Ieee.double.read 9223372036854775808 = .number true 0 (-1074) := by decide
    rw [this]; simp [Zx, r]
theorem Zx_inf (s : Bool) : Zx (cf (Ieee.double.write (.infinity s))) := by
  cases s
  · have : cf (Ieee.double.write (.infinity false)) = 9218868437227405312 := by decide
    have r : Ieee.double.read 9218868437227405312 = .infinity false := by decide
    rw [this]; simp [Zx, r]
  · have : cf (Ieee.double.write (.infinity true)) = 18442240474082181120 := by decide
    have r : Ieee.double.read 18442240474082181120 = .infinity true := by decide
    rw [this]; simp [Zx, r]
def Zd : Option Ieee.Datum → Prop
  | some (.number _ m _) => m = 0
  | _ => True
theorem Zx_of {o : Option Ieee.Datum} (h : Zd o) (hn : ∀ s t, o ≠ some (.nan s t)) : Zx (((o.map Ieee.double.write).map cf).getD qnan) := by
  cases o with
  | none => exact Zx_qnan
  | some d =>
    cases d with
    | number s m i => obtain rfl : m = 0 := h; exact Zx_zero s i
    | infinity s => exact Zx_inf s
    | nan s t => exact absurd rfl (hn s t)
theorem Zx_mul {x y : Nat} (h : Zx x) : Zx (fop .mul x y) := by
  unfold fop Ieee.Format.mul
  unfold Zx at h
  simp only
  refine Zx_of ?_ ?_
  · revert h
    cases Ieee.double.read x <;> cases Ieee.double.read y <;> intro h <;> simp only [Ieee.Datum.product, Zd] <;> (try split) <;> simp_all [Zd]
  · intro s t
    cases Ieee.double.read x <;> cases Ieee.double.read y <;> simp only [Ieee.Datum.product] <;> (try split) <;> simp
theorem Zx_div {x y : Nat} (h : Zx x) : Zx (fop .div x y) := by
  unfold fop Ieee.Format.div
  unfold Zx at h
  simp only
  refine Zx_of ?_ ?_
  · revert h
    cases Ieee.double.read x <;> cases Ieee.double.read y <;> intro h <;> simp only [Ieee.Datum.quotient, Zd] <;> (try split) <;> (try split) <;> simp_all [Zd]
  · intro s t
    cases Ieee.double.read x <;> cases Ieee.double.read y <;> simp only [Ieee.Datum.quotient] <;> (try split) <;> (try split) <;> simp
theorem Zx_sub {x y : Nat} (h : Zx x) (k : Zx y) : Zx (fop .sub x y) := by
  unfold fop Ieee.Format.sub
  unfold Zx at h k
  simp only
  refine Zx_of ?_ ?_
  · revert h k
    cases Ieee.double.read x <;> cases Ieee.double.read y <;> intro h k <;> simp only [Ieee.Datum.sum, Ieee.Datum.opposite, Zd] <;> (try split) <;> simp_all [Zd, Ieee.signed]
  · intro s t
    cases Ieee.double.read x <;> cases Ieee.double.read y <;> simp only [Ieee.Datum.sum, Ieee.Datum.opposite] <;> (try split) <;> simp
theorem Zx_bad {x : Nat} (h : Zx x) : fcmp .eq x 0 = true ∨ finite x = false := by
  cases hd : Ieee.double.read x with
  | nan s t => right; have : isNan x = true := by rw [← read_nan, hd]; rfl
               simp [finite, this]
  | infinity s =>
    right
    rw [← finite_sub]
    have e : fop .sub x x = qnan := by
      have : ¬ s = !s := by cases s <;> simp
      simp [fop, Ieee.Format.sub, hd, Ieee.Datum.sum, Ieee.Datum.opposite, this]
    rw [e]; decide
  | number s m i =>
    left
    obtain rfl : m = 0 := by unfold Zx at h; rw [hd] at h; exact h
    have r : Ieee.double.read 0 = .number false 0 (-1074) := by decide
    have : Ieee.double.order x 0 = some .eq := by
      unfold Ieee.Format.order
      rw [hd, r]
      cases s <;> simp [Ieee.Datum.order, Ieee.signed]
    simp [fcmp, this]
theorem Zx_0 : Zx 0 := by
  have r : Ieee.double.read 0 = .number false 0 (-1074) := by decide
  simp [Zx, r]
end Go.Ab
