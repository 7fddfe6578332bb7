/- Rows of rows of so many numbers. -/
import Derived.Test.YtdckmpaakheppaaMB
import Derived.Test.YtdckmpaakheppaaLC
namespace Go.Ab
set_option linter.unusedSimpArgs false
set_option linter.unusedVariables false
open Go Go.Proofs
/-- So many rows of so many numbers. -/
def Rk (m k : Nat) (Z : List (List Nat)) : Prop := Z.length = m ∧ ∀ r, r < m → (Z.getD r []).length = k
theorem Rk_up2 {m k : Nat} {Z : List (List Nat)} (h : Rk m k Z) (i j v : Nat) : Rk m k (up2 Z i j v) := by
  refine ⟨by simp [up2, h.1], fun r hr => ?_⟩
  have := h.2 r hr
  simp only [up2, List.getD_eq_getElem?_getD, List.getElem?_set]
  by_cases e : i = r
  · subst e
    have hl : i < Z.length := by rw [h.1]; exact hr
    have hr2 := h.2 i hr
    rw [List.getD_eq_getElem?_getD] at hr2
    simp only [hl, List.getElem?_eq_getElem, Option.getD_some] at hr2
    simp [hl, hr2]
  · rw [if_neg e, ← List.getD_eq_getElem?_getD]; exact this
theorem zM_rk (ns : List Int) (k i : Nat) : Rk i k (zM ns k i) := ⟨zM_len _ _ _, fun r hr => by rw [zM_row _ _ _ _ hr]; exact tabR_len _ _⟩
end Go.Ab
