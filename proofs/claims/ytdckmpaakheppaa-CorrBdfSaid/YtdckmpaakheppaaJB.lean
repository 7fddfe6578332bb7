/- How a field changes: slopes. -/
import Derived.Test.YtdckmpaakheppaaJA
import Derived.Test.YtdckmpaakheppaaGD
namespace Go.Ab
set_option linter.unusedSimpArgs false
set_option linter.unusedVariables false
open Go Go.Proofs
section
variable (o : OpN) (r : List Nat) (dr : List (List Nat)) (n i q : Nat)
set_option maxRecDepth 8000 in
theorem jslope_k0 (hk : o.k = 0) : Con Try.prog 97 [jfV, opA o, fI i, fl q, .d (regsD r dr)] (fl (slo o q r dr i)) := by
  refine Con_introA A_jac_kind_float64_slope_comp rfl mixed ?_
  simp -implicitDefEqProofs only [xC_skip, evS, evT, evU, hv, effC, reduceCtorEq, ↓reduceIte, Nat.reduceEqDiff, Nat.reduceAdd, Nat.reduceMul, Int.reduceToNat, Int.reduceAdd, Int.reduceSub, Int.reduceMul, Int.reduceNeg, Int.reduceLT, Int.reduceLE, Nat.reduceLT, Nat.reduceLeDiff, A_jac_kind_float64_slope]
  simp -implicitDefEqProofs only [xC_skip, evS, evT, evU, hv, effC, reduceCtorEq, ↓reduceIte, Nat.reduceEqDiff, Nat.reduceAdd, Nat.reduceMul, Int.reduceToNat, Int.reduceAdd, Int.reduceSub, Int.reduceMul, Int.reduceNeg, Int.reduceLT, Int.reduceLE, Nat.reduceLT, Nat.reduceLeDiff, hk, Int.reduceBEq]
  first | refine callG_con (jfloats1_con 0) rfl ?_ | refine callCG_con (jfloats1_con 0) rfl ?_ | refine callSG_con (jfloats1_con 0) rfl ?_
  simp -implicitDefEqProofs only [xC_skip, evS, evT, evU, hv, effC, reduceCtorEq, ↓reduceIte, Nat.reduceEqDiff, Nat.reduceAdd, Nat.reduceMul, Int.reduceToNat, Int.reduceAdd, Int.reduceSub, Int.reduceMul, Int.reduceNeg, Int.reduceLT, Int.reduceLE, Nat.reduceLT, Nat.reduceLeDiff]
  have e : slo o q r dr i = 0 := by simp [slo, hk]
  rw [e]
  exact endsT_rett rfl (by decide) (by simp [look])
set_option maxRecDepth 8000 in
theorem jslope_k1 (hk : o.k = 1) : Con Try.prog 97 [jfV, opA o, fI i, fl q, .d (regsD r dr)] (fl (slo o q r dr i)) := by
  refine Con_introA A_jac_kind_float64_slope_comp rfl mixed ?_
  simp -implicitDefEqProofs only [xC_skip, evS, evT, evU, hv, effC, reduceCtorEq, ↓reduceIte, Nat.reduceEqDiff, Nat.reduceAdd, Nat.reduceMul, Int.reduceToNat, Int.reduceAdd, Int.reduceSub, Int.reduceMul, Int.reduceNeg, Int.reduceLT, Int.reduceLE, Nat.reduceLT, Nat.reduceLeDiff, A_jac_kind_float64_slope]
  simp -implicitDefEqProofs only [xC_skip, evS, evT, evU, hv, effC, reduceCtorEq, ↓reduceIte, Nat.reduceEqDiff, Nat.reduceAdd, Nat.reduceMul, Int.reduceToNat, Int.reduceAdd, Int.reduceSub, Int.reduceMul, Int.reduceNeg, Int.reduceLT, Int.reduceLE, Nat.reduceLT, Nat.reduceLeDiff, hk, Int.reduceBEq]
  by_cases hai : o.a = (i : Int)
  · have h' : (o.a == (i : Int)) = true := by simpa using hai
    simp -implicitDefEqProofs only [xC_skip, evS, evT, evU, hv, effC, reduceCtorEq, ↓reduceIte, Nat.reduceEqDiff, Nat.reduceAdd, Nat.reduceMul, Int.reduceToNat, Int.reduceAdd, Int.reduceSub, Int.reduceMul, Int.reduceNeg, Int.reduceLT, Int.reduceLE, Nat.reduceLT, Nat.reduceLeDiff, h']
    first | refine callG_con (jfloats1_con 4607182418800017408) rfl ?_ | refine callCG_con (jfloats1_con 4607182418800017408) rfl ?_ | refine callSG_con (jfloats1_con 4607182418800017408) rfl ?_
    simp -implicitDefEqProofs only [xC_skip, evS, evT, evU, hv, effC, reduceCtorEq, ↓reduceIte, Nat.reduceEqDiff, Nat.reduceAdd, Nat.reduceMul, Int.reduceToNat, Int.reduceAdd, Int.reduceSub, Int.reduceMul, Int.reduceNeg, Int.reduceLT, Int.reduceLE, Nat.reduceLT, Nat.reduceLeDiff]
    have e : slo o q r dr i = 4607182418800017408 := by simp [slo, hk, hai, oneW]
    rw [e]
    exact endsT_rett rfl (by decide) (by simp [look])
  · have h' : (o.a == (i : Int)) = false := by simpa using hai
    simp -implicitDefEqProofs only [xC_skip, evS, evT, evU, hv, effC, reduceCtorEq, ↓reduceIte, Nat.reduceEqDiff, Nat.reduceAdd, Nat.reduceMul, Int.reduceToNat, Int.reduceAdd, Int.reduceSub, Int.reduceMul, Int.reduceNeg, Int.reduceLT, Int.reduceLE, Nat.reduceLT, Nat.reduceLeDiff, h', Int.reduceBEq]
    first | refine callG_con (jfloats1_con 0) rfl ?_ | refine callCG_con (jfloats1_con 0) rfl ?_ | refine callSG_con (jfloats1_con 0) rfl ?_
    simp -implicitDefEqProofs only [xC_skip, evS, evT, evU, hv, effC, reduceCtorEq, ↓reduceIte, Nat.reduceEqDiff, Nat.reduceAdd, Nat.reduceMul, Int.reduceToNat, Int.reduceAdd, Int.reduceSub, Int.reduceMul, Int.reduceNeg, Int.reduceLT, Int.reduceLE, Nat.reduceLT, Nat.reduceLeDiff]
    have e : slo o q r dr i = 0 := by simp [slo, hk, hai]
    rw [e]
    exact endsT_rett rfl (by decide) (by simp [look])
variable (ha : 0 ≤ o.a ∧ o.a < r.length) (hb : 0 ≤ o.b ∧ o.b < r.length) (la : (dr.getD o.a.toNat []).length = n) (lb : (dr.getD o.b.toNat []).length = n) (hi : i < n)
include ha hb la lb hi
set_option maxRecDepth 8000 in
theorem jslope_k2 (hk : o.k = 2) : Con Try.prog 97 [jfV, opA o, fI i, fl q, .d (regsD r dr)] (fl (slo o q r dr i)) := by
  refine Con_introA A_jac_kind_float64_slope_comp rfl mixed ?_
  simp -implicitDefEqProofs only [xC_skip, evS, evT, evU, hv, effC, reduceCtorEq, ↓reduceIte, Nat.reduceEqDiff, Nat.reduceAdd, Nat.reduceMul, Int.reduceToNat, Int.reduceAdd, Int.reduceSub, Int.reduceMul, Int.reduceNeg, Int.reduceLT, Int.reduceLE, Nat.reduceLT, Nat.reduceLeDiff, A_jac_kind_float64_slope]
  simp -implicitDefEqProofs only [xC_skip, evS, evT, evU, hv, effC, reduceCtorEq, ↓reduceIte, Nat.reduceEqDiff, Nat.reduceAdd, Nat.reduceMul, Int.reduceToNat, Int.reduceAdd, Int.reduceSub, Int.reduceMul, Int.reduceNeg, Int.reduceLT, Int.reduceLE, Nat.reduceLT, Nat.reduceLeDiff, hk, Int.reduceBEq, regsD, regsG]
  refine ⟨ha, hb, by omega, by omega, ?_⟩
  first | refine callG_con (jfloats2_con ((dr.getD o.a.toNat []).getD i 0) ((dr.getD o.b.toNat []).getD i 0)) rfl ?_ | refine callCG_con (jfloats2_con ((dr.getD o.a.toNat []).getD i 0) ((dr.getD o.b.toNat []).getD i 0)) rfl ?_ | refine callSG_con (jfloats2_con ((dr.getD o.a.toNat []).getD i 0) ((dr.getD o.b.toNat []).getD i 0)) rfl ?_
  simp -implicitDefEqProofs only [xC_skip, evS, evT, evU, hv, effC, reduceCtorEq, ↓reduceIte, Nat.reduceEqDiff, Nat.reduceAdd, Nat.reduceMul, Int.reduceToNat, Int.reduceAdd, Int.reduceSub, Int.reduceMul, Int.reduceNeg, Int.reduceLT, Int.reduceLE, Nat.reduceLT, Nat.reduceLeDiff]
  have e : slo o q r dr i = fop .add ((dr.getD o.a.toNat []).getD i 0) ((dr.getD o.b.toNat []).getD i 0) := by simp [slo, hk]
  rw [e]
  exact endsT_rett rfl (by decide) (by simp [look])
set_option maxRecDepth 8000 in
theorem jslope_k3 (hk : o.k = 3) : Con Try.prog 97 [jfV, opA o, fI i, fl q, .d (regsD r dr)] (fl (slo o q r dr i)) := by
  refine Con_introA A_jac_kind_float64_slope_comp rfl mixed ?_
  simp -implicitDefEqProofs only [xC_skip, evS, evT, evU, hv, effC, reduceCtorEq, ↓reduceIte, Nat.reduceEqDiff, Nat.reduceAdd, Nat.reduceMul, Int.reduceToNat, Int.reduceAdd, Int.reduceSub, Int.reduceMul, Int.reduceNeg, Int.reduceLT, Int.reduceLE, Nat.reduceLT, Nat.reduceLeDiff, A_jac_kind_float64_slope]
  simp -implicitDefEqProofs only [xC_skip, evS, evT, evU, hv, effC, reduceCtorEq, ↓reduceIte, Nat.reduceEqDiff, Nat.reduceAdd, Nat.reduceMul, Int.reduceToNat, Int.reduceAdd, Int.reduceSub, Int.reduceMul, Int.reduceNeg, Int.reduceLT, Int.reduceLE, Nat.reduceLT, Nat.reduceLeDiff, hk, Int.reduceBEq, regsD, regsG]
  refine ⟨ha, hb, by omega, by omega, ?_⟩
  first | refine callG_con (jfloats3_con ((dr.getD o.a.toNat []).getD i 0) ((dr.getD o.b.toNat []).getD i 0)) rfl ?_ | refine callCG_con (jfloats3_con ((dr.getD o.a.toNat []).getD i 0) ((dr.getD o.b.toNat []).getD i 0)) rfl ?_ | refine callSG_con (jfloats3_con ((dr.getD o.a.toNat []).getD i 0) ((dr.getD o.b.toNat []).getD i 0)) rfl ?_
  simp -implicitDefEqProofs only [xC_skip, evS, evT, evU, hv, effC, reduceCtorEq, ↓reduceIte, Nat.reduceEqDiff, Nat.reduceAdd, Nat.reduceMul, Int.reduceToNat, Int.reduceAdd, Int.reduceSub, Int.reduceMul, Int.reduceNeg, Int.reduceLT, Int.reduceLE, Nat.reduceLT, Nat.reduceLeDiff]
  have e : slo o q r dr i = fop .sub ((dr.getD o.a.toNat []).getD i 0) ((dr.getD o.b.toNat []).getD i 0) := by simp [slo, hk]
  rw [e]
  exact endsT_rett rfl (by decide) (by simp [look])
set_option maxRecDepth 8000 in
theorem jslope_k4 (hk : o.k = 4) : Con Try.prog 97 [jfV, opA o, fI i, fl q, .d (regsD r dr)] (fl (slo o q r dr i)) := by
  refine Con_introA A_jac_kind_float64_slope_comp rfl mixed ?_
  simp -implicitDefEqProofs only [xC_skip, evS, evT, evU, hv, effC, reduceCtorEq, ↓reduceIte, Nat.reduceEqDiff, Nat.reduceAdd, Nat.reduceMul, Int.reduceToNat, Int.reduceAdd, Int.reduceSub, Int.reduceMul, Int.reduceNeg, Int.reduceLT, Int.reduceLE, Nat.reduceLT, Nat.reduceLeDiff, A_jac_kind_float64_slope]
  simp -implicitDefEqProofs only [xC_skip, evS, evT, evU, hv, effC, reduceCtorEq, ↓reduceIte, Nat.reduceEqDiff, Nat.reduceAdd, Nat.reduceMul, Int.reduceToNat, Int.reduceAdd, Int.reduceSub, Int.reduceMul, Int.reduceNeg, Int.reduceLT, Int.reduceLE, Nat.reduceLT, Nat.reduceLeDiff, hk, Int.reduceBEq, regsD, regsG]
  refine ⟨ha, hb, by omega, ?_⟩
  first | refine callG_con (jfloats4_con ((dr.getD o.a.toNat []).getD i 0) (r.getD o.b.toNat 0)) rfl ?_ | refine callCG_con (jfloats4_con ((dr.getD o.a.toNat []).getD i 0) (r.getD o.b.toNat 0)) rfl ?_ | refine callSG_con (jfloats4_con ((dr.getD o.a.toNat []).getD i 0) (r.getD o.b.toNat 0)) rfl ?_
  simp -implicitDefEqProofs only [xC_skip, evS, evT, evU, hv, effC, reduceCtorEq, ↓reduceIte, Nat.reduceEqDiff, Nat.reduceAdd, Nat.reduceMul, Int.reduceToNat, Int.reduceAdd, Int.reduceSub, Int.reduceMul, Int.reduceNeg, Int.reduceLT, Int.reduceLE, Nat.reduceLT, Nat.reduceLeDiff]
  (repeat (with_reducible refine And.intro (by omega) ?_))
  first | refine callG_con (jfloats4_con (r.getD o.a.toNat 0) ((dr.getD o.b.toNat []).getD i 0)) rfl ?_ | refine callCG_con (jfloats4_con (r.getD o.a.toNat 0) ((dr.getD o.b.toNat []).getD i 0)) rfl ?_ | refine callSG_con (jfloats4_con (r.getD o.a.toNat 0) ((dr.getD o.b.toNat []).getD i 0)) rfl ?_
  simp -implicitDefEqProofs only [xC_skip, evS, evT, evU, hv, effC, reduceCtorEq, ↓reduceIte, Nat.reduceEqDiff, Nat.reduceAdd, Nat.reduceMul, Int.reduceToNat, Int.reduceAdd, Int.reduceSub, Int.reduceMul, Int.reduceNeg, Int.reduceLT, Int.reduceLE, Nat.reduceLT, Nat.reduceLeDiff]
  first | refine callG_con (jfloats2_con (fop .mul ((dr.getD o.a.toNat []).getD i 0) (r.getD o.b.toNat 0)) (fop .mul (r.getD o.a.toNat 0) ((dr.getD o.b.toNat []).getD i 0))) rfl ?_ | refine callCG_con (jfloats2_con (fop .mul ((dr.getD o.a.toNat []).getD i 0) (r.getD o.b.toNat 0)) (fop .mul (r.getD o.a.toNat 0) ((dr.getD o.b.toNat []).getD i 0))) rfl ?_ | refine callSG_con (jfloats2_con (fop .mul ((dr.getD o.a.toNat []).getD i 0) (r.getD o.b.toNat 0)) (fop .mul (r.getD o.a.toNat 0) ((dr.getD o.b.toNat []).getD i 0))) rfl ?_
  simp -implicitDefEqProofs only [xC_skip, evS, evT, evU, hv, effC, reduceCtorEq, ↓reduceIte, Nat.reduceEqDiff, Nat.reduceAdd, Nat.reduceMul, Int.reduceToNat, Int.reduceAdd, Int.reduceSub, Int.reduceMul, Int.reduceNeg, Int.reduceLT, Int.reduceLE, Nat.reduceLT, Nat.reduceLeDiff]
  have e : slo o q r dr i = fop .add (fop .mul ((dr.getD o.a.toNat []).getD i 0) (r.getD o.b.toNat 0)) (fop .mul (r.getD o.a.toNat 0) ((dr.getD o.b.toNat []).getD i 0)) := by simp [slo, hk]
  rw [e]
  exact endsT_rett rfl (by decide) (by simp [look])
set_option maxRecDepth 8000 in
theorem jslope_k5 (hk : o.k = 5) : Con Try.prog 97 [jfV, opA o, fI i, fl q, .d (regsD r dr)] (fl (slo o q r dr i)) := by
  refine Con_introA A_jac_kind_float64_slope_comp rfl mixed ?_
  simp -implicitDefEqProofs only [xC_skip, evS, evT, evU, hv, effC, reduceCtorEq, ↓reduceIte, Nat.reduceEqDiff, Nat.reduceAdd, Nat.reduceMul, Int.reduceToNat, Int.reduceAdd, Int.reduceSub, Int.reduceMul, Int.reduceNeg, Int.reduceLT, Int.reduceLE, Nat.reduceLT, Nat.reduceLeDiff, A_jac_kind_float64_slope]
  simp -implicitDefEqProofs only [xC_skip, evS, evT, evU, hv, effC, reduceCtorEq, ↓reduceIte, Nat.reduceEqDiff, Nat.reduceAdd, Nat.reduceMul, Int.reduceToNat, Int.reduceAdd, Int.reduceSub, Int.reduceMul, Int.reduceNeg, Int.reduceLT, Int.reduceLE, Nat.reduceLT, Nat.reduceLeDiff, hk, Int.reduceBEq, regsD, regsG]
  refine ⟨ha, hb, by omega, by omega, ?_⟩
  first | refine callG_con (jfloats4_con q ((dr.getD o.b.toNat []).getD i 0)) rfl ?_ | refine callCG_con (jfloats4_con q ((dr.getD o.b.toNat []).getD i 0)) rfl ?_ | refine callSG_con (jfloats4_con q ((dr.getD o.b.toNat []).getD i 0)) rfl ?_
  simp -implicitDefEqProofs only [xC_skip, evS, evT, evU, hv, effC, reduceCtorEq, ↓reduceIte, Nat.reduceEqDiff, Nat.reduceAdd, Nat.reduceMul, Int.reduceToNat, Int.reduceAdd, Int.reduceSub, Int.reduceMul, Int.reduceNeg, Int.reduceLT, Int.reduceLE, Nat.reduceLT, Nat.reduceLeDiff]
  first | refine callG_con (jfloats3_con ((dr.getD o.a.toNat []).getD i 0) (fop .mul q ((dr.getD o.b.toNat []).getD i 0))) rfl ?_ | refine callCG_con (jfloats3_con ((dr.getD o.a.toNat []).getD i 0) (fop .mul q ((dr.getD o.b.toNat []).getD i 0))) rfl ?_ | refine callSG_con (jfloats3_con ((dr.getD o.a.toNat []).getD i 0) (fop .mul q ((dr.getD o.b.toNat []).getD i 0))) rfl ?_
  simp -implicitDefEqProofs only [xC_skip, evS, evT, evU, hv, effC, reduceCtorEq, ↓reduceIte, Nat.reduceEqDiff, Nat.reduceAdd, Nat.reduceMul, Int.reduceToNat, Int.reduceAdd, Int.reduceSub, Int.reduceMul, Int.reduceNeg, Int.reduceLT, Int.reduceLE, Nat.reduceLT, Nat.reduceLeDiff]
  first | refine callG_con (jfloats5_con (fop .sub ((dr.getD o.a.toNat []).getD i 0) (fop .mul q ((dr.getD o.b.toNat []).getD i 0))) (r.getD o.b.toNat 0)) rfl ?_ | refine callCG_con (jfloats5_con (fop .sub ((dr.getD o.a.toNat []).getD i 0) (fop .mul q ((dr.getD o.b.toNat []).getD i 0))) (r.getD o.b.toNat 0)) rfl ?_ | refine callSG_con (jfloats5_con (fop .sub ((dr.getD o.a.toNat []).getD i 0) (fop .mul q ((dr.getD o.b.toNat []).getD i 0))) (r.getD o.b.toNat 0)) rfl ?_
  simp -implicitDefEqProofs only [xC_skip, evS, evT, evU, hv, effC, reduceCtorEq, ↓reduceIte, Nat.reduceEqDiff, Nat.reduceAdd, Nat.reduceMul, Int.reduceToNat, Int.reduceAdd, Int.reduceSub, Int.reduceMul, Int.reduceNeg, Int.reduceLT, Int.reduceLE, Nat.reduceLT, Nat.reduceLeDiff]
  have e : slo o q r dr i = fop .div (fop .sub ((dr.getD o.a.toNat []).getD i 0) (fop .mul q ((dr.getD o.b.toNat []).getD i 0))) (r.getD o.b.toNat 0) := by simp [slo, hk]
  rw [e]
  exact endsT_rett rfl (by decide) (by simp [look])
end
theorem jslope_con (o : OpN) (r : List Nat) (dr : List (List Nat)) (n i q : Nat) (ho : Oko o r.length n) (hdr : ∀ j, j < r.length → (dr.getD j []).length = n) (hi : i < n) : Con Try.prog 97 [jfV, opA o, fI i, fl q, .d (regsD r dr)] (fl (slo o q r dr i)) := by
  rcases ho with hk | ⟨hk, ha⟩ | ⟨hk, ha, hb⟩
  · exact jslope_k0 o r dr i q hk
  · exact jslope_k1 o r dr i q hk
  · have la := hdr o.a.toNat (by omega)
    have lb := hdr o.b.toNat (by omega)
    rcases hk with hk | hk | hk | hk
    · exact jslope_k2 o r dr n i q ha hb la lb hi hk
    · exact jslope_k3 o r dr n i q ha hb la lb hi hk
    · exact jslope_k4 o r dr n i q ha hb la lb hi hk
    · exact jslope_k5 o r dr n i q ha hb la lb hi hk
theorem regsG_len (r : List Nat) (dr : List (List Nat)) (i : Nat) : (regsG r dr i).length = 2 := rfl
theorem regs_step (t : Tp) (x : List Nat) (i : Nat) : dcells (i + 1) (regsG (regs t x (i + 1)) (drs t x (i + 1))) = dcells i (regsG (regs t x i) (drs t x i)) ++ [fl ((regs t x (i + 1)).getD i 0), .d (rowD ((drs t x (i + 1)).getD i []))] := by
  rw [dcells_succ]
  have h1 := regs_len t x i
  have h2 := drs_len t x i
  have e : dcells i (regsG (regs t x (i + 1)) (drs t x (i + 1))) = dcells i (regsG (regs t x i) (drs t x i)) := by
    unfold dcells
    rw [dcB_congr fun j hj => ?_]
    have a : (regs t x (i + 1)).getD j 0 = (regs t x i).getD j 0 := by
      rw [regs, List.getD_eq_getElem?_getD, List.getElem?_append_left (by omega), ← List.getD_eq_getElem?_getD]
    have b : (drs t x (i + 1)).getD j [] = (drs t x i).getD j [] := by
      rw [drs, List.getD_eq_getElem?_getD, List.getElem?_append_left (by omega), ← List.getD_eq_getElem?_getD]
    simp only [regsG, a, b]
  rw [e]; rfl
theorem regs_last (t : Tp) (x : List Nat) (i : Nat) : (regs t x (i + 1)).getD i 0 = opV (t.ops.getD i ⟨0, 0, 0, 0⟩) x (regs t x i) := by
  have h1 := regs_len t x i
  rw [regs, List.getD_eq_getElem?_getD, List.getElem?_append_right (by omega), h1, Nat.sub_self]; rfl
theorem drs_last (t : Tp) (x : List Nat) (i : Nat) : (drs t x (i + 1)).getD i [] = tabR (slo (t.ops.getD i ⟨0, 0, 0, 0⟩) (opV (t.ops.getD i ⟨0, 0, 0, 0⟩) x (regs t x i)) (regs t x i) (drs t x i)) t.n := by
  have h1 := drs_len t x i
  rw [drs, List.getD_eq_getElem?_getD, List.getElem?_append_right (by omega), h1, Nat.sub_self]; rfl
abbrev jtT (t : Tp) : List V := [fI t.n, .d (opsD t.ops), .d (rowI t.out)]
abbrev jfC : List V := [.d (.fn 91 [] []), .d (.fn 92 [] []), .d (.fn 93 [] []), .d (.fn 94 [] []), .d (.fn 95 [] [])]
abbrev jR (t : Tp) (x : List Nat) (i : Nat) : T := ⟨[(2, .d (rowD x)), (3, .ptr 0 0 0 5), (4, .ptr 1 0 0 3), (7, .sl 10 0 0 i 2 (i * 2)), (16, .d (opsD t.ops)), (17, fI t.ops.length), (18, fI i)],
  [(10, [dcells i (regsG (regs t x i) (drs t x i))]), (1, [jtT t]), (0, [jfC])]⟩
abbrev opC (o : OpN) : List V := [fI o.k, fI o.a, fI o.b, fl o.c]
abbrev jS1 (t : Tp) (x : List Nat) (i k : Nat) : Sl := [(2, .d (rowD x)), (3, .ptr 0 0 0 5), (4, .ptr 1 0 0 3), (7, .sl 10 0 0 i 2 (i * 2)), (9, .ptr 13 0 0 4), (10, .ptr 20 0 0 2), (16, .d (opsD t.ops)), (17, fI t.ops.length), (18, fI i), (29, fI t.n), (30, fI k)]
abbrev jH1 (t : Tp) (x : List Nat) (i : Nat) (o : OpN) : Heap := [(13, [opC o]), (10, [dcells i (regsG (regs t x i) (drs t x i))]), (1, [jtT t]), (0, [jfC])]
abbrev jT0 (t : Tp) (x : List Nat) (i : Nat) (o : OpN) (v : Nat) : T := ⟨jS1 t x i 0, (20, [[fl v, .nil]]) :: jH1 t x i o⟩
abbrev jT1 (t : Tp) (x : List Nat) (i : Nat) (o : OpN) (v : Nat) (f : Nat → Nat) (k : Nat) : T := ⟨jS1 t x i k, (15, [rowV (tabR f k)]) :: (20, [[fl v, .sl 15 0 0 k 1 k]]) :: jH1 t x i o⟩
set_option maxRecDepth 8000 in
theorem jrun_L1 (t : Tp) (x : List Nat) (i : Nat) (o : OpN) (v : Nat) (f : Nat → Nat) (hn : t.n < 2 ^ 20) (hn0 : 0 < t.n) (hi : i < 2 ^ 40) (hop : Oko o i t.n) (hf : f = slo o v (regs t x i) (drs t x i)) (Q : Ex → T → Prop)
    (hQ : Q (.exit 2) ⟨[(2, .d (rowD x)), (3, .ptr 0 0 0 5), (4, .ptr 1 0 0 3), (7, .sl 10 0 0 i 2 (i * 2)), (9, .ptr 13 0 0 4), (10, .ptr 20 0 0 2), (16, .d (opsD t.ops)), (17, fI t.ops.length), (18, fI i), (29, fI t.n), (30, fI t.n), (31, fB false)],
      (15, [rowV (tabR f t.n)]) :: (20, [[fl v, .sl 15 0 0 t.n 1 t.n]]) :: jH1 t x i o⟩) :
    WA Try.prog (fun _ => False) 73 A_jac_kind_float64_run_L1.loop Q (jT0 t x i o v) := by
  have hl := regs_len t x i
  have hdl := drs_len t x i
  have hrow := drs_rows t x i
  have hcl := dcells_len i (fun j _ => regsG_len (regs t x i) (drs t x i) j)
  have hcon : ∀ k, k < t.n → Con Try.prog 97 [jfV, opA o, fI k, fl v, .d (regsD (regs t x i) (drs t x i))] (fl (f k)) := fun k hk => by
    rw [hf]; exact jslope_con o _ _ t.n k v (by rw [hl]; exact hop) (fun j hj => hrow j (by omega)) hk
  clear hf hrow
  refine WA_forW (n := t.n) (fun c s => ∃ k, c + k = t.n ∧ ((k = 0 ∧ s = jT0 t x i o v) ∨ (0 < k ∧ s = jT1 t x i o v f k))) (Le.refl _) ⟨0, by omega, .inl ⟨rfl, rfl⟩⟩ ?_
  rintro c s ⟨k, hc, ⟨rfl, rfl⟩ | ⟨hk, rfl⟩⟩
  · simp -implicitDefEqProofs only [xC_skip, evS, evT, evU, hv, effC, reduceCtorEq, ↓reduceIte, Nat.reduceEqDiff, Nat.reduceAdd, Nat.reduceMul, Int.reduceToNat, Int.reduceAdd, Int.reduceSub, Int.reduceMul, Int.reduceNeg, Int.reduceLT, Int.reduceLE, Nat.reduceLT, Nat.reduceLeDiff, A_jac_kind_float64_run_L1]
    have h0 : decide ((0 : Int) < (t.n : Int)) = true := by simpa using hn0
    simp -implicitDefEqProofs only [xC_skip, evS, evT, evU, hv, effC, reduceCtorEq, ↓reduceIte, Nat.reduceEqDiff, Nat.reduceAdd, Nat.reduceMul, Int.reduceToNat, Int.reduceAdd, Int.reduceSub, Int.reduceMul, Int.reduceNeg, Int.reduceLT, Int.reduceLE, Nat.reduceLT, Nat.reduceLeDiff, h0]
    refine callS_snaps [jfV, opA o, fI (0 : Nat), fl v, .d (regsD (regs t x i) (drs t x i))] (hcon 0 hn0) ⟨.aggs ⟨.bare _, .bare _, .bare _, .bare _, .bare _, trivial⟩, .aggs ⟨.bare _, .bare _, .bare _, .bare _, trivial⟩, .bare _, .bare _, ?_, trivial⟩ (.flt _) ?_
    · have e : regsD (regs t x i) (drs t x i) = .bor i (regsG (regs t x i) (drs t x i)) := by unfold regsD; rw [hl]
      rw [e]
      exact snp_data (by simp [get_old, get_cons, get_nil]) (fun j _ => rfl) rfl
    simp -implicitDefEqProofs only [xC_skip, evS, evT, evU, hv, effC, reduceCtorEq, ↓reduceIte, Nat.reduceEqDiff, Nat.reduceAdd, Nat.reduceMul, Int.reduceToNat, Int.reduceAdd, Int.reduceSub, Int.reduceMul, Int.reduceNeg, Int.reduceLT, Int.reduceLE, Nat.reduceLT, Nat.reduceLeDiff]
    refine ⟨c - 1, jT1 t x i o v f 1, by omega, ?_, 1, by omega, .inr ⟨by decide, rfl⟩⟩
    refine Le.trans (LeT.only (L' := (31, [[fl (f 0)]]) :: (20, [[fl v, .sl 31 0 0 1 1 1]]) :: jH1 t x i o) (fun X => X != 30) (fun _ h => h) rfl (by simp [KpS_cons, KpS_nil, KpH_cons, KpH_nil, KpF_cons, KpF_nil, KpF_rows, KpA_cons, KpA_nil, KpA_app, KpA_rowV, KpA_rowIV, KpA_dcells, KpA_outC, Kp_any, Kp_nilv, Kp_d, Kp_ptr, Kp_sl, Kp_agg, Kp_tup, Kp_fn, get_cons, get_nil]) (by simp [KpS_cons, KpS_nil, KpH_cons, KpH_nil, KpF_cons, KpF_nil, KpF_rows, KpA_cons, KpA_nil, KpA_app, KpA_rowV, KpA_rowIV, KpA_dcells, KpA_outC, Kp_any, Kp_nilv, Kp_d, Kp_ptr, Kp_sl, Kp_agg, Kp_tup, Kp_fn, get_cons, get_nil])) ?_
    refine Le.trans (LeT.move 15 (by decide) (by simp [fam_cons, fam_nil]) (by simp [fam_cons, fam_nil]) (fun h => h)) ?_
    have e1 : renS (absF 31 15 0) (jS1 t x i 1) = jS1 t x i 1 := by simp [renS, V.ren, absF]
    have e2 : Heap.renH (absF 31 15 0) ((20, [[fl v, .sl 31 0 0 1 1 1]]) :: jH1 t x i o) = (20, [[fl v, .sl 15 0 0 1 1 1]]) :: jH1 t x i o := by
      simp [Heap.renH, V.ren, absF, ren_dcells]
    have e3 : [fl (f 0)].map (V.ren (absF 31 15 0)) = rowV (tabR f 1) := by simp [V.ren, tabR, rowV]
    rw [e2, e3]
    exact (congrArg (fun z => Le (fun _ => False) (T.s 73 ⟨z, (jT1 t x i o v f 1).L⟩) (T.s 73 (jT1 t x i o v f 1))) e1).mpr (Le.refl _)
  · have hrl := tabR_len f k
    simp -implicitDefEqProofs only [xC_skip, evS, evT, evU, hv, effC, reduceCtorEq, ↓reduceIte, Nat.reduceEqDiff, Nat.reduceAdd, Nat.reduceMul, Int.reduceToNat, Int.reduceAdd, Int.reduceSub, Int.reduceMul, Int.reduceNeg, Int.reduceLT, Int.reduceLE, Nat.reduceLT, Nat.reduceLeDiff, A_jac_kind_float64_run_L1]
    refine condC_intro (fun h => ?_) (fun h => ?_)
    · replace h := of_decide_eq_true h
      simp -implicitDefEqProofs only [xC_skip, evS, evT, evU, hv, effC, reduceCtorEq, ↓reduceIte, Nat.reduceEqDiff, Nat.reduceAdd, Nat.reduceMul, Int.reduceToNat, Int.reduceAdd, Int.reduceSub, Int.reduceMul, Int.reduceNeg, Int.reduceLT, Int.reduceLE, Nat.reduceLT, Nat.reduceLeDiff]
      refine callS_snaps [jfV, opA o, fI k, fl v, .d (regsD (regs t x i) (drs t x i))] (hcon k h) ⟨.aggs ⟨.bare _, .bare _, .bare _, .bare _, .bare _, trivial⟩, .aggs ⟨.bare _, .bare _, .bare _, .bare _, trivial⟩, .bare _, .bare _, ?_, trivial⟩ (.flt _) ?_
      · have e : regsD (regs t x i) (drs t x i) = .bor i (regsG (regs t x i) (drs t x i)) := by unfold regsD; rw [hl]
        rw [e]
        exact snp_data (by simp [get_old, get_cons, get_nil]) (fun j _ => rfl) rfl
      simp -implicitDefEqProofs only [xC_skip, evS, evT, evU, hv, effC, reduceCtorEq, ↓reduceIte, Nat.reduceEqDiff, Nat.reduceAdd, Nat.reduceMul, Int.reduceToNat, Int.reduceAdd, Int.reduceSub, Int.reduceMul, Int.reduceNeg, Int.reduceLT, Int.reduceLE, Nat.reduceLT, Nat.reduceLeDiff]
      (repeat (with_reducible refine And.intro (by omega) ?_))
      have e1 : rowV (tabR f k) ++ [fl (f k)] = rowV (tabR f (k + 1)) := (tabR_succ f k).symm
      rw [wrapI (by omega) (by omega), e1]
      exact ⟨c - 1, _, by omega, LeT.only (fun X => decide (X ≤ 20)) (fun _ h => h) rfl (by simp [KpS_cons, KpS_nil, KpH_cons, KpH_nil, KpF_cons, KpF_nil, KpF_rows, KpA_cons, KpA_nil, KpA_app, KpA_rowV, KpA_rowIV, KpA_dcells, KpA_outC, Kp_any, Kp_nilv, Kp_d, Kp_ptr, Kp_sl, Kp_agg, Kp_tup, Kp_fn, get_cons, get_nil]) (by simp [KpS_cons, KpS_nil, KpH_cons, KpH_nil, KpF_cons, KpF_nil, KpF_rows, KpA_cons, KpA_nil, KpA_app, KpA_rowV, KpA_rowIV, KpA_dcells, KpA_outC, Kp_any, Kp_nilv, Kp_d, Kp_ptr, Kp_sl, Kp_agg, Kp_tup, Kp_fn, get_cons, get_nil]), k + 1, by omega, .inr ⟨by omega, rfl⟩⟩
    · replace h := of_decide_eq_false h
      have e : k = t.n := by omega
      subst e
      simp -implicitDefEqProofs only [xC_skip, evS, evT, evU, hv, effC, reduceCtorEq, ↓reduceIte, Nat.reduceEqDiff, Nat.reduceAdd, Nat.reduceMul, Int.reduceToNat, Int.reduceAdd, Int.reduceSub, Int.reduceMul, Int.reduceNeg, Int.reduceLT, Int.reduceLE, Nat.reduceLT, Nat.reduceLeDiff, Nat.lt_irrefl]
      exact hQ
def jacG (t : Tp) (x : List Nat) (i : Nat) : D := rowD ((jacT t x).getD i [])
set_option maxRecDepth 8000 in
theorem jrun_ac (t : Tp) (x : List Nat) (ht : Tok t) (hx : x.length = t.n) (hn0 : 0 < t.n) : AC Try.prog 83 [jfV, tapeV t, .d (rowD x)] [] [(13, [dcells t.n (rowsG (jacT t x))])] (.sl 13 0 0 t.n 1 t.n) := by
  have hn := ht.n
  have hlen := ht.len
  refine AC_introA A_jac_kind_float64_run_comp rfl mixed (fun _ => False) (by simp [get_nil]) ?_
  simp -implicitDefEqProofs only [xC_skip, evS, evT, evU, hv, effC, reduceCtorEq, ↓reduceIte, Nat.reduceEqDiff, Nat.reduceAdd, Nat.reduceMul, Int.reduceToNat, Int.reduceAdd, Int.reduceSub, Int.reduceMul, Int.reduceNeg, Int.reduceLT, Int.reduceLE, Nat.reduceLT, Nat.reduceLeDiff, A_jac_kind_float64_run, opsD]
  refine WA_forW (n := t.ops.length) (fun c s => ∃ i, c + i = t.ops.length ∧ s = jR t x i)
    (LeT.nilrow (X := 10) (esz := 2) (as' := (jR t x 0).sl) (by simp [fam_cons, fam_nil]) (fun h => h) fun i => ?_) ⟨0, by omega, rfl⟩ ?_
  · simp only [look]
    repeat' split
    all_goals simp [rowD, opsD]
  rintro c s ⟨i, hc, rfl⟩
  have hl := regs_len t x i
  have hdl := drs_len t x i
  have hcl := dcells_len i (fun j _ => regsG_len (regs t x i) (drs t x i) j)
  simp -implicitDefEqProofs only [xC_skip, evS, evT, evU, hv, effC, reduceCtorEq, ↓reduceIte, Nat.reduceEqDiff, Nat.reduceAdd, Nat.reduceMul, Int.reduceToNat, Int.reduceAdd, Int.reduceSub, Int.reduceMul, Int.reduceNeg, Int.reduceLT, Int.reduceLE, Nat.reduceLT, Nat.reduceLeDiff, A_jac_kind_float64_run_L0, opsD]
  refine condC_intro (fun h => ?_) (fun h => ?_)
  · replace h := of_decide_eq_true h
    have hop := ht.op i h
    have hra := regs_last t x i
    have hda := drs_last t x i
    generalize ho : t.ops.getD i ⟨0, 0, 0, 0⟩ = o at hop hra hda
    simp -implicitDefEqProofs only [xC_skip, evS, evT, evU, hv, effC, reduceCtorEq, ↓reduceIte, Nat.reduceEqDiff, Nat.reduceAdd, Nat.reduceMul, Int.reduceToNat, Int.reduceAdd, Int.reduceSub, Int.reduceMul, Int.reduceNeg, Int.reduceLT, Int.reduceLE, Nat.reduceLT, Nat.reduceLeDiff, opG, ho]
    (repeat (with_reducible refine And.intro (by omega) ?_))
    refine callG_snaps [jfV, opA o, .d (rowD x), .d (regsD (regs t x i) (drs t x i))] (jvalue_con o x (regs t x i) (drs t x i) t.n (by rw [hl]; exact hop) hx) ⟨.aggs ⟨.bare _, .bare _, .bare _, .bare _, .bare _, trivial⟩, .aggs ⟨.bare _, .bare _, .bare _, .bare _, trivial⟩, .bare _, ?_, trivial⟩ (.flt _) ?_
    · have e : regsD (regs t x i) (drs t x i) = .bor i (regsG (regs t x i) (drs t x i)) := by unfold regsD; rw [hl]
      rw [e]
      exact snp_data (by simp [get_cons, get_nil]) (fun j _ => rfl) rfl
    simp -implicitDefEqProofs only [xC_skip, evS, evT, evU, hv, effC, reduceCtorEq, ↓reduceIte, Nat.reduceEqDiff, Nat.reduceAdd, Nat.reduceMul, Int.reduceToNat, Int.reduceAdd, Int.reduceSub, Int.reduceMul, Int.reduceNeg, Int.reduceLT, Int.reduceLE, Nat.reduceLT, Nat.reduceLeDiff]
    have hr1 := regs_step t x i
    rw [hra, hda] at hr1
    generalize hv1 : opV o x (regs t x i) = v at hr1
    refine jrun_L1 t x i o v _ ht.n hn0 (by omega) hop rfl _ ?_
    generalize slo o v (regs t x i) (drs t x i) = f at hr1
    have hfl := tabR_len f t.n
    simp -implicitDefEqProofs only [xC_skip, evS, evT, evU, hv, effC, reduceCtorEq, ↓reduceIte, Nat.reduceEqDiff, Nat.reduceAdd, Nat.reduceMul, Int.reduceToNat, Int.reduceAdd, Int.reduceSub, Int.reduceMul, Int.reduceNeg, Int.reduceLT, Int.reduceLE, Nat.reduceLT, Nat.reduceLeDiff]
    (repeat (with_reducible refine And.intro (by omega) ?_))
    have e2 : i * 2 + 2 = (i + 1) * 2 := by omega
    rw [wrapI (by omega) (by omega), e2]
    have hz : ∀ L L' : Heap, L.get 15 0 = some (rowV (tabR f t.n)) → L'.get 15 0 = none → Fz L L' (.sl 15 0 0 t.n 1 t.n) (.d (rowD (tabR f t.n))) := fun L L' a b => Fz_row a hfl rfl b
    refine ⟨c - 1, jR t x (i + 1), by omega, ?_, i + 1, by omega, rfl⟩
    unfold jR
    rw [hr1]
    exact LeT.weak (fun _ h => h) (by simp (maxDischargeDepth := 6) [Fz_rowD, Fz_rowI, Fz_rowsD, FzS_cons, FzS_nil, FzH_cons, FzH_nil, FzF_cons, FzF_nil, FzF_rows, FzA_cons, FzA_nil, FzA_app, FzA_rowV, FzA_dcells, FzA_outC, FzA_data, Fz_d, Fz_nil, Fz_any, Fz_ptr, Fz_sl, Fz_agg, get_cons, get_nil, fam_cons, fam_nil]) (by simp (maxDischargeDepth := 6) [Fz_rowD, Fz_rowI, Fz_rowsD, FzS_cons, FzS_nil, FzH_cons, FzH_nil, FzF_cons, FzF_nil, FzF_rows, FzA_cons, FzA_nil, FzA_app, FzA_rowV, FzA_dcells, FzA_outC, FzA_data, Fz_d, Fz_nil, Fz_any, Fz_ptr, Fz_sl, Fz_agg, get_cons, get_nil, fam_cons, fam_nil, hz])
  · replace h := of_decide_eq_false h
    have e : i = t.ops.length := by omega
    subst e
    simp -implicitDefEqProofs only [xC_skip, evS, evT, evU, hv, effC, reduceCtorEq, ↓reduceIte, Nat.reduceEqDiff, Nat.reduceAdd, Nat.reduceMul, Int.reduceToNat, Int.reduceAdd, Int.reduceSub, Int.reduceMul, Int.reduceNeg, Int.reduceLT, Int.reduceLE, Nat.reduceLT, Nat.reduceLeDiff]
    (repeat (with_reducible refine And.intro (by omega) ?_))
    rw [outC_zero t.n (jacG t x)]
    have hgl := ht.outl
    refine WA_forW (n := t.n) (fun c s => ∃ i, c + i = t.n ∧ s = ⟨[(7, .sl 10 0 0 t.ops.length 2 (t.ops.length * 2)), (12, .sl 13 0 0 t.n 1 t.n), (55, .d (rowI t.out)), (56, fI t.n), (57, fI i)],
      [(13, [outC t.n (jacG t x) i]), (10, [dcells t.ops.length (regsG (regs t x t.ops.length) (drs t x t.ops.length))]), (1, [jtT t]), (0, [jfC])]⟩) (by rw [← hgl]; exact Le.refl _) ⟨0, by omega, rfl⟩ ?_
    rintro c s ⟨i, hc, rfl⟩
    have hol := outC_len t.n (jacG t x) i
    simp -implicitDefEqProofs only [xC_skip, evS, evT, evU, hv, effC, reduceCtorEq, ↓reduceIte, Nat.reduceEqDiff, Nat.reduceAdd, Nat.reduceMul, Int.reduceToNat, Int.reduceAdd, Int.reduceSub, Int.reduceMul, Int.reduceNeg, Int.reduceLT, Int.reduceLE, Nat.reduceLT, Nat.reduceLeDiff, A_jac_kind_float64_run_L2]
    refine condC_intro (fun h => ?_) (fun h => ?_)
    · replace h := of_decide_eq_true h
      have hgo := ht.out i h
      have hjr : (jacT t x).getD i [] = (drs t x t.ops.length).getD (t.out.getD i 0).toNat [] := by
        unfold jacT
        rw [List.getD_eq_getElem?_getD, List.getElem?_map, List.getElem?_range h]; rfl
      have hjl : ((jacT t x).getD i []).length = t.n := by rw [hjr]; exact drs_rows t x _ _ (by omega)
      have hcg := dcells_get t.ops.length (fun j _ => regsG_len (regs t x t.ops.length) (drs t x t.ops.length) j) (t.out.getD i 0).toNat 1 (by omega) (by decide)
      have hg2 : (regsG (regs t x t.ops.length) (drs t x t.ops.length) (t.out.getD i 0).toNat).getD 1 default = rowD ((jacT t x).getD i []) := by rw [hjr]; rfl
      rw [hg2] at hcg
      simp -implicitDefEqProofs only [xC_skip, evS, evT, evU, hv, effC, reduceCtorEq, ↓reduceIte, Nat.reduceEqDiff, Nat.reduceAdd, Nat.reduceMul, Int.reduceToNat, Int.reduceAdd, Int.reduceSub, Int.reduceMul, Int.reduceNeg, Int.reduceLT, Int.reduceLE, Nat.reduceLT, Nat.reduceLeDiff, hcg]
      refine ⟨by omega, by omega, ⟨hcl, by omega⟩, ?_⟩
      refine ⟨by omega, h, ⟨hol, by omega⟩, ?_⟩
      rw [hjl, wrapI (by omega) (by omega)]
      have hz : ∀ L L' : Heap, L.get 21 0 = some (rowV ((jacT t x).getD i [])) → L'.get 21 0 = none → Fz L L' (.sl 21 0 0 t.n 1 t.n) (.d (jacG t x i)) := fun L L' a b => Fz_row a hjl rfl b
      refine ⟨c - 1, _, by omega, ?_, i + 1, by omega, rfl⟩
      exact LeT.weak (fun _ h => h) (by simp (maxDischargeDepth := 6) [Fz_rowD, Fz_rowI, Fz_rowsD, FzS_cons, FzS_nil, FzH_cons, FzH_nil, FzF_cons, FzF_nil, FzF_rows, FzA_cons, FzA_nil, FzA_app, FzA_rowV, FzA_dcells, FzA_outC, FzA_data, Fz_d, Fz_nil, Fz_any, Fz_ptr, Fz_sl, Fz_agg, get_cons, get_nil, fam_cons, fam_nil]) (by simp (maxDischargeDepth := 6) [Fz_rowD, Fz_rowI, Fz_rowsD, FzS_cons, FzS_nil, FzH_cons, FzH_nil, FzF_cons, FzF_nil, FzF_rows, FzA_cons, FzA_nil, FzA_app, FzA_rowV, FzA_dcells, FzA_outC, FzA_data, Fz_d, Fz_nil, Fz_any, Fz_ptr, Fz_sl, Fz_agg, get_cons, get_nil, fam_cons, fam_nil, hz, FzA_outC_set])
    · replace h := of_decide_eq_false h
      have e : i = t.n := by omega
      subst e
      simp -implicitDefEqProofs only [xC_skip, evS, evT, evU, hv, effC, reduceCtorEq, ↓reduceIte, Nat.reduceEqDiff, Nat.reduceAdd, Nat.reduceMul, Int.reduceToNat, Int.reduceAdd, Int.reduceSub, Int.reduceMul, Int.reduceNeg, Int.reduceLT, Int.reduceLE, Nat.reduceLT, Nat.reduceLeDiff]
      rw [outC_all]
      exact endsT_only (fun X => X == 13) (fun _ h => h) (resV_tmpI (t := 6) (by decide) rfl) rfl (by simp [KpS_cons, KpS_nil, KpH_cons, KpH_nil, KpF_cons, KpF_nil, KpF_rows, KpA_cons, KpA_nil, KpA_app, KpA_rowV, KpA_rowIV, KpA_dcells, KpA_outC, Kp_any, Kp_nilv, Kp_d, Kp_ptr, Kp_sl, Kp_agg, Kp_tup, Kp_fn, get_cons, get_nil]) (by simp [KpS_cons, KpS_nil, KpH_cons, KpH_nil, KpF_cons, KpF_nil, KpF_rows, KpA_cons, KpA_nil, KpA_app, KpA_rowV, KpA_rowIV, KpA_dcells, KpA_outC, Kp_any, Kp_nilv, Kp_d, Kp_ptr, Kp_sl, Kp_agg, Kp_tup, Kp_fn, get_cons, get_nil])
theorem jacT_len (t : Tp) (x : List Nat) : (jacT t x).length = t.n := by simp [jacT]
theorem jrun_con (t : Tp) (x : List Nat) (ht : Tok t) (hx : x.length = t.n) (hn0 : 0 < t.n) : Con Try.prog 83 [jfV, tapeV t, .d (rowD x)] (.d (rowsD (jacT t x))) :=
  Con_of_AC (jrun_ac t x ht hx hn0) (.d (by unfold rowsD; rw [jacT_len]; exact snapF_data (esz := 1) (fun Y q h => by simp [get_nil] at h) (by simp [get_cons]) (fun _ _ => rfl) (by omega)))
theorem jac_Jac_con (t : Tp) (x : List Nat) (ht : Tok t) (hx : x.length = t.n) (hn0 : 0 < t.n) : Con Try.prog 65 [tapeV t, .d (rowD x)] (.d (rowsD (jacT t x))) := by
  refine Con_introA A_jac_Jac_comp rfl mixed ?_
  simp -implicitDefEqProofs only [xC_skip, evS, evT, evU, hv, effC, reduceCtorEq, ↓reduceIte, Nat.reduceEqDiff, Nat.reduceAdd, Nat.reduceMul, Int.reduceToNat, Int.reduceAdd, Int.reduceSub, Int.reduceMul, Int.reduceNeg, Int.reduceLT, Int.reduceLE, Nat.reduceLT, Nat.reduceLeDiff, A_jac_Jac]
  first | refine callG_con (jfloats_con) rfl ?_ | refine callCG_con (jfloats_con) rfl ?_ | refine callSG_con (jfloats_con) rfl ?_
  simp -implicitDefEqProofs only [xC_skip, evS, evT, evU, hv, effC, reduceCtorEq, ↓reduceIte, Nat.reduceEqDiff, Nat.reduceAdd, Nat.reduceMul, Int.reduceToNat, Int.reduceAdd, Int.reduceSub, Int.reduceMul, Int.reduceNeg, Int.reduceLT, Int.reduceLE, Nat.reduceLT, Nat.reduceLeDiff]
  first | refine callG_con (jrun_con t x ht hx hn0) rfl ?_ | refine callCG_con (jrun_con t x ht hx hn0) rfl ?_ | refine callSG_con (jrun_con t x ht hx hn0) rfl ?_
  simp -implicitDefEqProofs only [xC_skip, evS, evT, evU, hv, effC, reduceCtorEq, ↓reduceIte, Nat.reduceEqDiff, Nat.reduceAdd, Nat.reduceMul, Int.reduceToNat, Int.reduceAdd, Int.reduceSub, Int.reduceMul, Int.reduceNeg, Int.reduceLT, Int.reduceLE, Nat.reduceLT, Nat.reduceLeDiff]
  exact endsT_rett rfl (by decide) (by simp [look])
end Go.Ab
