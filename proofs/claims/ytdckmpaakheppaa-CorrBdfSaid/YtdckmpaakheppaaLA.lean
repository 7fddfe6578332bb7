/- Single numbers and from-to pairs: what math, fp, iv and the document's chapters 1 and 2 hand back. -/
import Derived.Test.YtdckmpaakheppaaLF
namespace Go.Ab
set_option linter.unusedSimpArgs false
set_option linter.unusedVariables false
open Go Go.Proofs
theorem math_IsNaN_con (x : Nat) : Con Try.prog 48 [fl x] (fB (isNan x)) := by
  refine Con_introA A_math_IsNaN_comp rfl mixed ?_
  simp -implicitDefEqProofs only [xC_skip, evS, evT, evU, hv, effC, reduceCtorEq, ↓reduceIte, Nat.reduceEqDiff, Nat.reduceAdd, Nat.reduceMul, Int.reduceToNat, Int.reduceAdd, Int.reduceSub, Int.reduceMul, Int.reduceNeg, Int.reduceLT, Int.reduceLE, Nat.reduceLT, Nat.reduceLeDiff, A_math_IsNaN]
  rw [fcmp_ne_self]
  exact endsT_rett rfl (by decide) (by simp [look])
theorem math_NaN_con : Con Try.prog 54 [] (fl qnan) := by
  refine Con_introA A_math_NaN_comp rfl mixed ?_
  simp -implicitDefEqProofs only [xC_skip, evS, evT, evU, hv, effC, reduceCtorEq, ↓reduceIte, Nat.reduceEqDiff, Nat.reduceAdd, Nat.reduceMul, Int.reduceToNat, Int.reduceAdd, Int.reduceSub, Int.reduceMul, Int.reduceNeg, Int.reduceLT, Int.reduceLE, Nat.reduceLT, Nat.reduceLeDiff, A_math_NaN]
  have : cf 9221120237041090561 = qnan := by decide
  rw [this]
  exact endsT_rett rfl (by decide) (by simp [look])
theorem math_Inf_pos : Con Try.prog 49 [fI 1] (fl finf) := by
  refine Con_introA A_math_Inf_comp rfl mixed ?_
  simp -implicitDefEqProofs only [xC_skip, evS, evT, evU, hv, effC, reduceCtorEq, ↓reduceIte, Nat.reduceEqDiff, Nat.reduceAdd, Nat.reduceMul, Int.reduceToNat, Int.reduceAdd, Int.reduceSub, Int.reduceMul, Int.reduceNeg, Int.reduceLT, Int.reduceLE, Nat.reduceLT, Nat.reduceLeDiff, A_math_Inf]
  have : cf 9218868437227405312 = finf := by decide
  rw [this]
  exact endsT_rett rfl (by decide) (by simp [look])
theorem math_Inf_neg : Con Try.prog 49 [fI (-1)] (fl fninf) := by
  refine Con_introA A_math_Inf_comp rfl mixed ?_
  simp -implicitDefEqProofs only [xC_skip, evS, evT, evU, hv, effC, reduceCtorEq, ↓reduceIte, Nat.reduceEqDiff, Nat.reduceAdd, Nat.reduceMul, Int.reduceToNat, Int.reduceAdd, Int.reduceSub, Int.reduceMul, Int.reduceNeg, Int.reduceLT, Int.reduceLE, Nat.reduceLT, Nat.reduceLeDiff, A_math_Inf]
  have : cf 18442240474082181120 = fninf := by decide
  rw [this]
  exact endsT_rett rfl (by decide) (by simp [look])
theorem math_Abs_con (x : Nat) : Con Try.prog 24 [fl x] (fl (fabs x)) := by
  refine Con_of_raw (compF_go A_math_Abs_comp) fun b hb hx => ?_
  refine Con_introA A_math_Abs_comp rfl mixed ?_
  simp -implicitDefEqProofs only [xC_skip, evS, evT, evU, hv, effC, reduceCtorEq, ↓reduceIte, Nat.reduceEqDiff, Nat.reduceAdd, Nat.reduceMul, Int.reduceToNat, Int.reduceAdd, Int.reduceSub, Int.reduceMul, Int.reduceNeg, Int.reduceLT, Int.reduceLE, Nat.reduceLT, Nat.reduceLeDiff, A_math_Abs]
  rw [andNot_sign hb]
  have : bits0 b < 9223372036854775808 := by unfold bits0; omega
  refine ⟨⟨by omega, by omega⟩, ?_⟩
  simp only [Int.toNat_natCast, fabs_raw, hx]
  exact endsT_rett rfl (by decide) (by simp [look])
theorem math_IsInf_con (x : Nat) : Con Try.prog 81 [fl x, fI 0] (fB (isInf x)) := by
  refine Con_introA A_math_IsInf_comp rfl mixed ?_
  simp -implicitDefEqProofs only [xC_skip, evS, evT, evU, hv, effC, reduceCtorEq, ↓reduceIte, Nat.reduceEqDiff, Nat.reduceAdd, Nat.reduceMul, Int.reduceToNat, Int.reduceAdd, Int.reduceSub, Int.reduceMul, Int.reduceNeg, Int.reduceLT, Int.reduceLE, Nat.reduceLT, Nat.reduceLeDiff, A_math_IsInf]
  first | refine callG_con (math_Abs_con x) rfl ?_ | refine callCG_con (math_Abs_con x) rfl ?_ | refine callSG_con (math_Abs_con x) rfl ?_
  simp -implicitDefEqProofs only [xC_skip, evS, evT, evU, hv, effC, reduceCtorEq, ↓reduceIte, Nat.reduceEqDiff, Nat.reduceAdd, Nat.reduceMul, Int.reduceToNat, Int.reduceAdd, Int.reduceSub, Int.reduceMul, Int.reduceNeg, Int.reduceLT, Int.reduceLE, Nat.reduceLT, Nat.reduceLeDiff]
  exact endsT_rett rfl (by decide) (by simp [look, isInf])
theorem math_Copysign_con (x y : Nat) (hx : isNan x = false) (hy : isNan y = false) : Con Try.prog 88 [fl x, fl y] (fl (csign x y)) := by
  refine Con_introA A_math_Copysign_comp rfl mixed ?_
  simp -implicitDefEqProofs only [xC_skip, evS, evT, evU, hv, effC, reduceCtorEq, ↓reduceIte, Nat.reduceEqDiff, Nat.reduceAdd, Nat.reduceMul, Int.reduceToNat, Int.reduceAdd, Int.reduceSub, Int.reduceMul, Int.reduceNeg, Int.reduceLT, Int.reduceLE, Nat.reduceLT, Nat.reduceLeDiff, A_math_Copysign]
  refine ⟨hx, hy, bitsOp_u64 _ _ _, ?_⟩
  exact endsT_rett rfl (by decide) (by simp [look, csign])
theorem r1_Abs_con (x : Nat) : Con Try.prog 28 [fl x] (fl (fabs x)) := by
  refine Con_introA A_r1_Abs_comp rfl mixed ?_
  simp -implicitDefEqProofs only [xC_skip, evS, evT, evU, hv, effC, reduceCtorEq, ↓reduceIte, Nat.reduceEqDiff, Nat.reduceAdd, Nat.reduceMul, Int.reduceToNat, Int.reduceAdd, Int.reduceSub, Int.reduceMul, Int.reduceNeg, Int.reduceLT, Int.reduceLE, Nat.reduceLT, Nat.reduceLeDiff, A_r1_Abs]
  first | refine callG_con (math_Abs_con x) rfl ?_ | refine callCG_con (math_Abs_con x) rfl ?_ | refine callSG_con (math_Abs_con x) rfl ?_
  simp -implicitDefEqProofs only [xC_skip, evS, evT, evU, hv, effC, reduceCtorEq, ↓reduceIte, Nat.reduceEqDiff, Nat.reduceAdd, Nat.reduceMul, Int.reduceToNat, Int.reduceAdd, Int.reduceSub, Int.reduceMul, Int.reduceNeg, Int.reduceLT, Int.reduceLE, Nat.reduceLT, Nat.reduceLeDiff]
  exact endsT_rett rfl (by decide) (by simp [look])
theorem r1_Inf_con : Con Try.prog 53 [] (fl finf) := by
  refine Con_introA A_r1_Inf_comp rfl mixed ?_
  simp -implicitDefEqProofs only [xC_skip, evS, evT, evU, hv, effC, reduceCtorEq, ↓reduceIte, Nat.reduceEqDiff, Nat.reduceAdd, Nat.reduceMul, Int.reduceToNat, Int.reduceAdd, Int.reduceSub, Int.reduceMul, Int.reduceNeg, Int.reduceLT, Int.reduceLE, Nat.reduceLT, Nat.reduceLeDiff, A_r1_Inf]
  first | refine callG_con (math_Inf_pos) rfl ?_ | refine callCG_con (math_Inf_pos) rfl ?_ | refine callSG_con (math_Inf_pos) rfl ?_
  simp -implicitDefEqProofs only [xC_skip, evS, evT, evU, hv, effC, reduceCtorEq, ↓reduceIte, Nat.reduceEqDiff, Nat.reduceAdd, Nat.reduceMul, Int.reduceToNat, Int.reduceAdd, Int.reduceSub, Int.reduceMul, Int.reduceNeg, Int.reduceLT, Int.reduceLE, Nat.reduceLT, Nat.reduceLeDiff]
  exact endsT_rett rfl (by decide) (by simp [look])
theorem r1_Same_con (x y : Nat) : Con Try.prog 29 [fl x, fl y] (fB (fsame x y)) := by
  refine Con_introA A_r1_Same_comp rfl mixed ?_
  simp -implicitDefEqProofs only [xC_skip, evS, evT, evU, hv, effC, reduceCtorEq, ↓reduceIte, Nat.reduceEqDiff, Nat.reduceAdd, Nat.reduceMul, Int.reduceToNat, Int.reduceAdd, Int.reduceSub, Int.reduceMul, Int.reduceNeg, Int.reduceLT, Int.reduceLE, Nat.reduceLT, Nat.reduceLeDiff, A_r1_Same]
  cases h1 : fcmp .eq x y <;> simp only [fsame, h1, Bool.true_or, Bool.false_or]
  · simp -implicitDefEqProofs only [xC_skip, evS, evT, evU, hv, effC, reduceCtorEq, ↓reduceIte, Nat.reduceEqDiff, Nat.reduceAdd, Nat.reduceMul, Int.reduceToNat, Int.reduceAdd, Int.reduceSub, Int.reduceMul, Int.reduceNeg, Int.reduceLT, Int.reduceLE, Nat.reduceLT, Nat.reduceLeDiff, fcmp_ne_self]
    cases h2 : isNan x <;> simp only [Bool.false_and, Bool.true_and]
    · simp -implicitDefEqProofs only [xC_skip, evS, evT, evU, hv, effC, reduceCtorEq, ↓reduceIte, Nat.reduceEqDiff, Nat.reduceAdd, Nat.reduceMul, Int.reduceToNat, Int.reduceAdd, Int.reduceSub, Int.reduceMul, Int.reduceNeg, Int.reduceLT, Int.reduceLE, Nat.reduceLT, Nat.reduceLeDiff]
      exact endsT_rett rfl (by decide) (by simp [look])
    · simp -implicitDefEqProofs only [xC_skip, evS, evT, evU, hv, effC, reduceCtorEq, ↓reduceIte, Nat.reduceEqDiff, Nat.reduceAdd, Nat.reduceMul, Int.reduceToNat, Int.reduceAdd, Int.reduceSub, Int.reduceMul, Int.reduceNeg, Int.reduceLT, Int.reduceLE, Nat.reduceLT, Nat.reduceLeDiff, fcmp_ne_self]
      exact endsT_rett rfl (by decide) (by simp [look])
  · simp -implicitDefEqProofs only [xC_skip, evS, evT, evU, hv, effC, reduceCtorEq, ↓reduceIte, Nat.reduceEqDiff, Nat.reduceAdd, Nat.reduceMul, Int.reduceToNat, Int.reduceAdd, Int.reduceSub, Int.reduceMul, Int.reduceNeg, Int.reduceLT, Int.reduceLE, Nat.reduceLT, Nat.reduceLeDiff]
    exact endsT_rett rfl (by decide) (by simp [look])
theorem fp_Finite_con (x : Nat) : Con Try.prog 64 [fl x] (fB (finite x)) := by
  refine Con_introA A_fp_Finite_comp rfl mixed ?_
  simp -implicitDefEqProofs only [xC_skip, evS, evT, evU, hv, effC, reduceCtorEq, ↓reduceIte, Nat.reduceEqDiff, Nat.reduceAdd, Nat.reduceMul, Int.reduceToNat, Int.reduceAdd, Int.reduceSub, Int.reduceMul, Int.reduceNeg, Int.reduceLT, Int.reduceLE, Nat.reduceLT, Nat.reduceLeDiff, A_fp_Finite]
  first | refine callG_con (math_IsNaN_con x) rfl ?_ | refine callCG_con (math_IsNaN_con x) rfl ?_ | refine callSG_con (math_IsNaN_con x) rfl ?_
  simp -implicitDefEqProofs only [xC_skip, evS, evT, evU, hv, effC, reduceCtorEq, ↓reduceIte, Nat.reduceEqDiff, Nat.reduceAdd, Nat.reduceMul, Int.reduceToNat, Int.reduceAdd, Int.reduceSub, Int.reduceMul, Int.reduceNeg, Int.reduceLT, Int.reduceLE, Nat.reduceLT, Nat.reduceLeDiff]
  cases h1 : isNan x <;> simp only [finite, h1, Bool.true_or, Bool.false_or, Bool.not_true, Bool.not_false, Bool.true_and, Bool.false_and]
  · simp -implicitDefEqProofs only [xC_skip, evS, evT, evU, hv, effC, reduceCtorEq, ↓reduceIte, Nat.reduceEqDiff, Nat.reduceAdd, Nat.reduceMul, Int.reduceToNat, Int.reduceAdd, Int.reduceSub, Int.reduceMul, Int.reduceNeg, Int.reduceLT, Int.reduceLE, Nat.reduceLT, Nat.reduceLeDiff, h1]
    first | refine callG_con (math_IsInf_con x) rfl ?_ | refine callCG_con (math_IsInf_con x) rfl ?_ | refine callSG_con (math_IsInf_con x) rfl ?_
    simp -implicitDefEqProofs only [xC_skip, evS, evT, evU, hv, effC, reduceCtorEq, ↓reduceIte, Nat.reduceEqDiff, Nat.reduceAdd, Nat.reduceMul, Int.reduceToNat, Int.reduceAdd, Int.reduceSub, Int.reduceMul, Int.reduceNeg, Int.reduceLT, Int.reduceLE, Nat.reduceLT, Nat.reduceLeDiff]
    exact endsT_rett rfl (by decide) (by simp [look])
  · simp -implicitDefEqProofs only [xC_skip, evS, evT, evU, hv, effC, reduceCtorEq, ↓reduceIte, Nat.reduceEqDiff, Nat.reduceAdd, Nat.reduceMul, Int.reduceToNat, Int.reduceAdd, Int.reduceSub, Int.reduceMul, Int.reduceNeg, Int.reduceLT, Int.reduceLE, Nat.reduceLT, Nat.reduceLeDiff, h1]
    exact endsT_rett rfl (by decide) (by simp [look])
theorem r1_Finite_con (x : Nat) : Con Try.prog 47 [fl x] (fB (fcmp .eq (fop .sub x x) 0)) := by
  refine Con_introA A_r1_Finite_comp rfl mixed ?_
  simp -implicitDefEqProofs only [xC_skip, evS, evT, evU, hv, effC, reduceCtorEq, ↓reduceIte, Nat.reduceEqDiff, Nat.reduceAdd, Nat.reduceMul, Int.reduceToNat, Int.reduceAdd, Int.reduceSub, Int.reduceMul, Int.reduceNeg, Int.reduceLT, Int.reduceLE, Nat.reduceLT, Nat.reduceLeDiff, A_r1_Finite]
  exact endsT_rett rfl (by decide) (by simp [look])
theorem four_get (a b c d i : Nat) (h : i < 4) : ∃ x, [fl a, fl b, fl c, fl d].getD i .any = fl x ∧ [a, b, c, d].drop i = x :: [a, b, c, d].drop (i + 1) := by
  rcases i with _ | _ | _ | _ | i
  · exact ⟨a, rfl, rfl⟩
  · exact ⟨b, rfl, rfl⟩
  · exact ⟨c, rfl, rfl⟩
  · exact ⟨d, rfl, rfl⟩
  · omega
end Go.Ab
