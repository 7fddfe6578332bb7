/- Rows that are alike. -/
import Derived.Test.YtdckmpaakheppaaLA
namespace Go.Ab
set_option linter.unusedSimpArgs false
set_option linter.unusedVariables false
open Go Go.Proofs
theorem fsame_self (x : Nat) : fsame x x = true := by
  simp only [fsame, fcmp_eq_self]; cases isNan x <;> rfl
theorem r1_Rows_con (a : List Nat) (ha : a.length < 2 ^ 62) : Con Try.prog 22 [.d (rowD a), .d (rowD a)] (fB true) := by
  refine Con_introA A_r1_Rows_comp rfl mixed ?_
  simp -implicitDefEqProofs only [xC_skip, evS, evT, evU, hv, effC, reduceCtorEq, ↓reduceIte, Nat.reduceEqDiff, Nat.reduceAdd, Nat.reduceMul, Int.reduceToNat, Int.reduceAdd, Int.reduceSub, Int.reduceMul, Int.reduceNeg, Int.reduceLT, Int.reduceLE, Nat.reduceLT, Nat.reduceLeDiff, A_r1_Rows]
  refine WA_for (n := a.length) (fun n s => ∃ i, n + i = a.length ∧ s = ⟨[(0, .d (rowD a)), (1, .d (rowD a)), (5, fI i)], []⟩) ⟨0, rfl, rfl⟩ ?_
  rintro n s ⟨i, hn, rfl⟩
  simp -implicitDefEqProofs only [xC_skip, evS, evT, evU, hv, effC, reduceCtorEq, ↓reduceIte, Nat.reduceEqDiff, Nat.reduceAdd, Nat.reduceMul, Int.reduceToNat, Int.reduceAdd, Int.reduceSub, Int.reduceMul, Int.reduceNeg, Int.reduceLT, Int.reduceLE, Nat.reduceLT, Nat.reduceLeDiff, A_r1_Rows_L0]
  refine condC_intro (fun h => ?_) (fun h => ?_)
  · replace h := of_decide_eq_true h
    simp -implicitDefEqProofs only [xC_skip, evS, evT, evU, hv, effC, reduceCtorEq, ↓reduceIte, Nat.reduceEqDiff, Nat.reduceAdd, Nat.reduceMul, Int.reduceToNat, Int.reduceAdd, Int.reduceSub, Int.reduceMul, Int.reduceNeg, Int.reduceLT, Int.reduceLE, Nat.reduceLT, Nat.reduceLeDiff]
    (repeat (with_reducible refine And.intro (by omega) ?_))
    first | refine callG_con (r1_Same_con (a.getD i 0) (a.getD i 0)) rfl ?_ | refine callCG_con (r1_Same_con (a.getD i 0) (a.getD i 0)) rfl ?_ | refine callSG_con (r1_Same_con (a.getD i 0) (a.getD i 0)) rfl ?_
    rw [fsame_self]
    simp -implicitDefEqProofs only [xC_skip, evS, evT, evU, hv, effC, reduceCtorEq, ↓reduceIte, Nat.reduceEqDiff, Nat.reduceAdd, Nat.reduceMul, Int.reduceToNat, Int.reduceAdd, Int.reduceSub, Int.reduceMul, Int.reduceNeg, Int.reduceLT, Int.reduceLE, Nat.reduceLT, Nat.reduceLeDiff]
    rw [wrapI (by omega) (by omega)]
    exact ⟨n - 1, by omega, i + 1, by omega, rfl⟩
  · simp -implicitDefEqProofs only [xC_skip, evS, evT, evU, hv, effC, reduceCtorEq, ↓reduceIte, Nat.reduceEqDiff, Nat.reduceAdd, Nat.reduceMul, Int.reduceToNat, Int.reduceAdd, Int.reduceSub, Int.reduceMul, Int.reduceNeg, Int.reduceLT, Int.reduceLE, Nat.reduceLT, Nat.reduceLeDiff]
    exact endsT_rett rfl (by decide) (by simp [look])
theorem r1_Tables_con (a : List (List Nat)) (ha : a.length < 2 ^ 62) (hr : ∀ i, i < a.length → (a.getD i []).length < 2 ^ 62) : Con Try.prog 27 [.d (rowsD a), .d (rowsD a)] (fB true) := by
  refine Con_introA A_r1_Tables_comp rfl mixed ?_
  simp -implicitDefEqProofs only [xC_skip, evS, evT, evU, hv, effC, reduceCtorEq, ↓reduceIte, Nat.reduceEqDiff, Nat.reduceAdd, Nat.reduceMul, Int.reduceToNat, Int.reduceAdd, Int.reduceSub, Int.reduceMul, Int.reduceNeg, Int.reduceLT, Int.reduceLE, Nat.reduceLT, Nat.reduceLeDiff, A_r1_Tables]
  refine WA_for (n := a.length) (fun n s => ∃ i, n + i = a.length ∧ s = ⟨[(0, .d (rowsD a)), (1, .d (rowsD a)), (5, fI i)], []⟩) ⟨0, rfl, rfl⟩ ?_
  rintro n s ⟨i, hn, rfl⟩
  simp -implicitDefEqProofs only [xC_skip, evS, evT, evU, hv, effC, reduceCtorEq, ↓reduceIte, Nat.reduceEqDiff, Nat.reduceAdd, Nat.reduceMul, Int.reduceToNat, Int.reduceAdd, Int.reduceSub, Int.reduceMul, Int.reduceNeg, Int.reduceLT, Int.reduceLE, Nat.reduceLT, Nat.reduceLeDiff, A_r1_Tables_L0]
  refine condC_intro (fun h => ?_) (fun h => ?_)
  · replace h := of_decide_eq_true h
    simp -implicitDefEqProofs only [xC_skip, evS, evT, evU, hv, effC, reduceCtorEq, ↓reduceIte, Nat.reduceEqDiff, Nat.reduceAdd, Nat.reduceMul, Int.reduceToNat, Int.reduceAdd, Int.reduceSub, Int.reduceMul, Int.reduceNeg, Int.reduceLT, Int.reduceLE, Nat.reduceLT, Nat.reduceLeDiff]
    (repeat (with_reducible refine And.intro (by omega) ?_))
    first | refine callG_con (r1_Rows_con (a.getD i []) (hr i (by omega))) rfl ?_ | refine callCG_con (r1_Rows_con (a.getD i []) (hr i (by omega))) rfl ?_ | refine callSG_con (r1_Rows_con (a.getD i []) (hr i (by omega))) rfl ?_
    simp -implicitDefEqProofs only [xC_skip, evS, evT, evU, hv, effC, reduceCtorEq, ↓reduceIte, Nat.reduceEqDiff, Nat.reduceAdd, Nat.reduceMul, Int.reduceToNat, Int.reduceAdd, Int.reduceSub, Int.reduceMul, Int.reduceNeg, Int.reduceLT, Int.reduceLE, Nat.reduceLT, Nat.reduceLeDiff]
    rw [wrapI (by omega) (by omega)]
    exact ⟨n - 1, by omega, i + 1, by omega, rfl⟩
  · simp -implicitDefEqProofs only [xC_skip, evS, evT, evU, hv, effC, reduceCtorEq, ↓reduceIte, Nat.reduceEqDiff, Nat.reduceAdd, Nat.reduceMul, Int.reduceToNat, Int.reduceAdd, Int.reduceSub, Int.reduceMul, Int.reduceNeg, Int.reduceLT, Int.reduceLE, Nat.reduceLT, Nat.reduceLeDiff]
    exact endsT_rett rfl (by decide) (by simp [look])
theorem tmod_fix (a n : Int) (hn : 0 < n) : (if a.tmod n < 0 then a.tmod n + n else a.tmod n) = a % n := by
  have h1 := Int.tmod_lt_of_pos a hn
  have h2 : a.tmod n = a - n * (a.tdiv n) := by have := Int.mul_tdiv_add_tmod a n; omega
  have h3 : a % n = a - n * (a / n) := by have := Int.mul_ediv_add_emod a n; omega
  have h4 := Int.emod_nonneg a (by omega : n ≠ 0)
  have h5 := Int.emod_lt_of_pos a hn
  have h6 : -n < a.tmod n := by
    have := Int.lt_tmod_of_pos a hn
    omega
  have e : a.tmod n % n = a % n := by
    rw [h2, Int.sub_mul_emod_self_left]
  split
  · have : (a.tmod n + n) % n = a.tmod n + n := Int.emod_eq_of_lt (by omega) (by omega)
    rw [← e, ← this, Int.add_emod_right]
  · have : a.tmod n % n = a.tmod n := Int.emod_eq_of_lt (by omega) (by omega)
    rw [← e, this]
end Go.Ab
