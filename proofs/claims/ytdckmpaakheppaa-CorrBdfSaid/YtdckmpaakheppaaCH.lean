/- Fields by the reference: r3.Eval. -/
import Derived.Test.YtdckmpaakheppaaCC
namespace Go.Ab
set_option linter.unusedSimpArgs false
set_option linter.unusedVariables false
open Go Go.Proofs
def A_r8_H : CA := (.seq (.reg [⟨0, (some 2), none, [], [], (.h (.mov (.k (.d (.flt 0)))))⟩] [0]) (.seq (.reg [⟨0, (some 3), none, [], [], (.h (.mov (.t 0)))⟩, ⟨1, (some 4), none, [], [], (.h (.i2f (.t 3)))⟩, ⟨2, (some 5), none, [], [], (.h (.fbin .div (.t 4) (.k (.d (.flt 4742290407621132288)))))⟩, ⟨3, (some 2), none, [], [], (.h (.mov (.t 5)))⟩] [2]) .ret))
theorem A_r8_H_comp : compF Try.prog 26 = some ⟨6, [(2, none)], A_r8_H.strip⟩ := by kernel_rfl
def A_r9_minus_L0 : CA := (.seq (.seq (.reg [⟨0, (some 7), none, [], [], (.h (.mov (.t 6)))⟩, ⟨1, (some 8), none, [], [], (.h (.mov (.t 0)))⟩, ⟨2, (some 9), none, [], [], (.h (.len (.t 8)))⟩, ⟨3, (some 10), none, [], [], (.h (.ibin .lss (.t 7) (.t 9)))⟩] [0, 1, 5, 6, 10]) (.cond (.t 10) .skip (.exit 0))) (.seq (.block 1 (.reg [⟨0, (some 13), none, [], [], (.h (.mov (.t 5)))⟩, ⟨1, (some 14), none, [], [], (.h (.mov (.t 0)))⟩, ⟨2, (some 15), none, [], [], (.h (.mov (.t 6)))⟩, ⟨3, (some 16), none, [], [], (.h (.idx (.t 14) (.t 15) 1))⟩, ⟨4, (some 17), none, [], [], (.load (.t 16) 1 false)⟩, ⟨5, (some 18), none, [], [], (.h (.mov (.t 1)))⟩, ⟨6, (some 19), none, [], [], (.h (.mov (.t 6)))⟩, ⟨7, (some 20), none, [], [], (.h (.idx (.t 18) (.t 19) 1))⟩, ⟨8, (some 21), none, [], [], (.load (.t 20) 1 false)⟩, ⟨9, (some 22), none, [], [], (.h (.fbin .sub (.t 17) (.t 21)))⟩, ⟨10, (some 23), none, [], [], (.bslice [(.d (.flt 0))] 1 1 [(0, (1, (.t 22)))] 32)⟩, ⟨11, (some 24), none, [], [], (.app (.t 13) (.t 23) 1 8)⟩, ⟨12, (some 5), none, [], [], (.h (.mov (.t 24)))⟩] [0, 1, 5, 6])) (.reg [⟨0, (some 11), none, [], [], (.h (.mov (.t 6)))⟩, ⟨1, (some 12), none, [], [], (.h (.ibin .add (.t 11) (.k (.d (.int .i64 1)))))⟩, ⟨2, (some 6), none, [], [], (.h (.mov (.t 12)))⟩] [0, 1, 5, 6])))
def A_r9_minus : CA := (.seq (.reg [⟨0, (some 4), none, [], [], (.h (.mov (.k .nil)))⟩] [0, 1]) (.seq (.reg [⟨0, (some 5), none, [], [], (.h (.mov (.k .nil)))⟩] [0, 1, 5]) (.seq (.seq (.reg [⟨0, (some 6), none, [], [], (.h (.mov (.k (.d (.int .i64 0)))))⟩] [0, 1, 5, 6]) (.block 0 (.loop A_r9_minus_L0))) (.seq (.reg [⟨0, (some 25), none, [], [], (.h (.mov (.t 5)))⟩, ⟨1, (some 4), none, [], [], (.h (.mov (.t 25)))⟩] [4]) .ret))))
theorem A_r9_minus_comp : compF Try.prog 45 = some ⟨26, [(4, none)], A_r9_minus.strip⟩ := by kernel_rfl
def A_r9_plus_L0 : CA := (.seq (.seq (.reg [⟨0, (some 7), none, [], [], (.h (.mov (.t 6)))⟩, ⟨1, (some 8), none, [], [], (.h (.mov (.t 0)))⟩, ⟨2, (some 9), none, [], [], (.h (.len (.t 8)))⟩, ⟨3, (some 10), none, [], [], (.h (.ibin .lss (.t 7) (.t 9)))⟩] [0, 1, 5, 6, 10]) (.cond (.t 10) .skip (.exit 0))) (.seq (.block 1 (.reg [⟨0, (some 13), none, [], [], (.h (.mov (.t 5)))⟩, ⟨1, (some 14), none, [], [], (.h (.mov (.t 0)))⟩, ⟨2, (some 15), none, [], [], (.h (.mov (.t 6)))⟩, ⟨3, (some 16), none, [], [], (.h (.idx (.t 14) (.t 15) 1))⟩, ⟨4, (some 17), none, [], [], (.load (.t 16) 1 false)⟩, ⟨5, (some 18), none, [], [], (.h (.mov (.t 1)))⟩, ⟨6, (some 19), none, [], [], (.h (.mov (.t 6)))⟩, ⟨7, (some 20), none, [], [], (.h (.idx (.t 18) (.t 19) 1))⟩, ⟨8, (some 21), none, [], [], (.load (.t 20) 1 false)⟩, ⟨9, (some 22), none, [], [], (.h (.fbin .add (.t 17) (.t 21)))⟩, ⟨10, (some 23), none, [], [], (.bslice [(.d (.flt 0))] 1 1 [(0, (1, (.t 22)))] 32)⟩, ⟨11, (some 24), none, [], [], (.app (.t 13) (.t 23) 1 8)⟩, ⟨12, (some 5), none, [], [], (.h (.mov (.t 24)))⟩] [0, 1, 5, 6])) (.reg [⟨0, (some 11), none, [], [], (.h (.mov (.t 6)))⟩, ⟨1, (some 12), none, [], [], (.h (.ibin .add (.t 11) (.k (.d (.int .i64 1)))))⟩, ⟨2, (some 6), none, [], [], (.h (.mov (.t 12)))⟩] [0, 1, 5, 6])))
def A_r9_plus : CA := (.seq (.reg [⟨0, (some 4), none, [], [], (.h (.mov (.k .nil)))⟩] [0, 1]) (.seq (.reg [⟨0, (some 5), none, [], [], (.h (.mov (.k .nil)))⟩] [0, 1, 5]) (.seq (.seq (.reg [⟨0, (some 6), none, [], [], (.h (.mov (.k (.d (.int .i64 0)))))⟩] [0, 1, 5, 6]) (.block 0 (.loop A_r9_plus_L0))) (.seq (.reg [⟨0, (some 25), none, [], [], (.h (.mov (.t 5)))⟩, ⟨1, (some 4), none, [], [], (.h (.mov (.t 25)))⟩] [4]) .ret))))
theorem A_r9_plus_comp : compF Try.prog 46 = some ⟨26, [(4, none)], A_r9_plus.strip⟩ := by kernel_rfl
def A_r9_left_L0 : CA := (.seq (.seq (.reg [⟨0, (some 18), none, [], [], (.h (.mov (.t 13)))⟩, ⟨1, (some 19), none, [], [], (.h (.mov (.t 4)))⟩, ⟨2, (some 20), none, [], [], (.h (.len (.t 19)))⟩, ⟨3, (some 21), none, [], [], (.h (.ibin .lss (.t 18) (.t 20)))⟩] [1, 2, 3, 4, 5, 11, 12, 13, 21]) (.cond (.t 21) .skip (.exit 0))) (.seq (.block 1 (.seq (.reg [⟨0, (some 24), none, [], [], (.h (.mov (.t 2)))⟩, ⟨1, (some 25), none, [], [], (.h (.mov (.t 4)))⟩, ⟨2, (some 26), none, [], [], (.h (.mov (.t 13)))⟩, ⟨3, (some 27), none, [], [], (.h (.idx (.t 25) (.t 26) 1))⟩, ⟨4, (some 28), none, [], [], (.load (.t 27) 1 false)⟩, ⟨5, (some 29), none, [], [], (.h (.fbin .mul (.t 24) (.t 28)))⟩, ⟨6, (some 14), none, [], [], (.h (.mov (.t 29)))⟩] [1, 2, 3, 4, 5, 11, 12, 13, 14]) (.reg [⟨0, (some 30), none, [], [], (.h (.mov (.t 11)))⟩, ⟨1, (some 31), none, [], [], (.h (.mov (.t 1)))⟩, ⟨2, (some 32), none, [], [], (.h (.idx (.t 31) (.k (.d (.int .i64 0))) 1))⟩, ⟨3, (some 33), none, [], [], (.load (.t 32) 1 false)⟩, ⟨4, (some 34), none, [], [], (.h (.mov (.t 13)))⟩, ⟨5, (some 35), none, [], [], (.h (.idx (.t 33) (.t 34) 1))⟩, ⟨6, (some 36), none, [], [], (.load (.t 35) 1 false)⟩, ⟨7, (some 37), none, [], [], (.h (.mov (.t 14)))⟩, ⟨8, (some 38), none, [], [], (.h (.fbin .add (.t 36) (.t 37)))⟩, ⟨9, (some 39), none, [], [], (.bslice [(.d (.flt 0))] 1 1 [(0, (1, (.t 38)))] 32)⟩, ⟨10, (some 40), none, [], [], (.app (.t 30) (.t 39) 1 8)⟩, ⟨11, (some 11), none, [], [], (.h (.mov (.t 40)))⟩] [1, 2, 3, 4, 5, 11, 12, 13]))) (.reg [⟨0, (some 22), none, [], [], (.h (.mov (.t 13)))⟩, ⟨1, (some 23), none, [], [], (.h (.ibin .add (.t 22) (.k (.d (.int .i64 1)))))⟩, ⟨2, (some 13), none, [], [], (.h (.mov (.t 23)))⟩] [1, 2, 3, 4, 5, 11, 12, 13])))
def A_r9_left_L1 : CA := (.seq (.seq (.reg [⟨0, (some 44), none, [], [], (.h (.mov (.t 16)))⟩, ⟨1, (some 45), none, [], [], (.h (.mov (.t 4)))⟩, ⟨2, (some 46), none, [], [], (.h (.len (.t 45)))⟩, ⟨3, (some 47), none, [], [], (.h (.ibin .lss (.t 44) (.t 46)))⟩] [1, 3, 4, 12, 15, 16, 47]) (.cond (.t 47) .skip (.exit 2))) (.seq (.block 3 (.seq (.reg [⟨0, (some 50), none, [], [], (.h (.mov (.t 3)))⟩, ⟨1, (some 51), none, [], [], (.h (.mov (.t 15)))⟩, ⟨2, (some 52), none, [], [], (.h (.mov (.t 16)))⟩, ⟨3, (some 53), none, [], [], (.h (.idx (.t 51) (.t 52) 1))⟩, ⟨4, (some 54), none, [], [], (.load (.t 53) 1 false)⟩, ⟨5, (some 55), none, [], [], (.h (.fbin .mul (.t 50) (.t 54)))⟩, ⟨6, (some 17), none, [], [], (.h (.mov (.t 55)))⟩] [1, 3, 4, 12, 15, 16, 17]) (.reg [⟨0, (some 56), none, [], [], (.h (.mov (.t 12)))⟩, ⟨1, (some 57), none, [], [], (.h (.mov (.t 17)))⟩, ⟨2, (some 58), none, [], [], (.h (.mov (.t 1)))⟩, ⟨3, (some 59), none, [], [], (.h (.idx (.t 58) (.k (.d (.int .i64 1))) 1))⟩, ⟨4, (some 60), none, [], [], (.load (.t 59) 1 false)⟩, ⟨5, (some 61), none, [], [], (.h (.mov (.t 16)))⟩, ⟨6, (some 62), none, [], [], (.h (.idx (.t 60) (.t 61) 1))⟩, ⟨7, (some 63), none, [], [], (.load (.t 62) 1 false)⟩, ⟨8, (some 64), none, [], [], (.h (.fbin .sub (.t 57) (.t 63)))⟩, ⟨9, (some 65), none, [], [], (.bslice [(.d (.flt 0))] 1 1 [(0, (1, (.t 64)))] 32)⟩, ⟨10, (some 66), none, [], [], (.app (.t 56) (.t 65) 1 8)⟩, ⟨11, (some 12), none, [], [], (.h (.mov (.t 66)))⟩] [1, 3, 4, 12, 15, 16]))) (.reg [⟨0, (some 48), none, [], [], (.h (.mov (.t 16)))⟩, ⟨1, (some 49), none, [], [], (.h (.ibin .add (.t 48) (.k (.d (.int .i64 1)))))⟩, ⟨2, (some 16), none, [], [], (.h (.mov (.t 49)))⟩] [1, 3, 4, 12, 15, 16])))
def A_r9_left : CA := (.seq (.reg [⟨0, (some 5), none, [], [], (.box (.t 0) 3 26)⟩, ⟨1, (some 10), none, [], [], (.h (.mov (.k .nil)))⟩] [1, 2, 3, 4, 5]) (.seq (.reg [⟨0, (some 11), none, [], [], (.h (.mov (.k .nil)))⟩, ⟨1, (some 12), none, [], [], (.h (.mov (.k .nil)))⟩] [1, 2, 3, 4, 5, 11, 12]) (.seq (.seq (.reg [⟨0, (some 13), none, [], [], (.h (.mov (.k (.d (.int .i64 0)))))⟩] [1, 2, 3, 4, 5, 11, 12, 13]) (.block 0 (.loop A_r9_left_L0))) (.seq (.reg [⟨0, (some 41), none, [], [], (.load (.t 5) 3 true)⟩, ⟨1, (some 42), none, [], [], (.h (.mov (.t 11)))⟩, ⟨2, (some 43), none, [], [], (.callA (.k (.d (.fn 25 [] []))) [(.t 41), (.t 42)])⟩, ⟨3, (some 15), none, [], [], (.h (.mov (.t 43)))⟩] [1, 3, 4, 12, 15]) (.seq (.seq (.reg [⟨0, (some 16), none, [], [], (.h (.mov (.k (.d (.int .i64 0)))))⟩] [1, 3, 4, 12, 15, 16]) (.block 2 (.loop A_r9_left_L1))) (.seq (.reg [⟨0, (some 67), none, [], [], (.h (.mov (.t 12)))⟩, ⟨1, (some 10), none, [], [], (.h (.mov (.t 67)))⟩] [10]) .ret))))))
theorem A_r9_left_comp : compF Try.prog 43 = some ⟨68, [(10, none)], A_r9_left.strip⟩ := by kernel_rfl
theorem r8_H_con (step : Int) : Con Try.prog 26 [fI step] (fl (fop .div (FloatKind.nearest .f64 step) 4742290407621132288)) := by
  refine Con_introA A_r8_H_comp rfl mixed ?_
  simp -implicitDefEqProofs only [xC_skip, evS, evT, evU, hv, effC, reduceCtorEq, ↓reduceIte, Nat.reduceEqDiff, Nat.reduceAdd, Nat.reduceMul, Int.reduceToNat, Int.reduceAdd, Int.reduceSub, Int.reduceMul, Int.reduceNeg, Int.reduceLT, Int.reduceLE, Nat.reduceLT, Nat.reduceLeDiff, A_r8_H]
  exact endsT_rett rfl (by decide) (by simp [look])
theorem r3_one_con (k : Int) (x y : Nat) (hk : k = 2 ∨ k = 3 ∨ k = 4 ∨ k = 5) : Con Try.prog 52 [fI k, fl x, fl y] (fl (if k = 2 then fop .add x y else if k = 3 then fop .sub x y else if k = 4 then fop .mul x y else fop .div x y)) := by
  refine Con_introA A_r3_one_comp rfl mixed ?_
  simp -implicitDefEqProofs only [xC_skip, evS, evT, evU, hv, effC, reduceCtorEq, ↓reduceIte, Nat.reduceEqDiff, Nat.reduceAdd, Nat.reduceMul, Int.reduceToNat, Int.reduceAdd, Int.reduceSub, Int.reduceMul, Int.reduceNeg, Int.reduceLT, Int.reduceLE, Nat.reduceLT, Nat.reduceLeDiff, A_r3_one]
  rcases hk with rfl | rfl | rfl | rfl
  · simp -implicitDefEqProofs only [xC_skip, evS, evT, evU, hv, effC, reduceCtorEq, ↓reduceIte, Nat.reduceEqDiff, Nat.reduceAdd, Nat.reduceMul, Int.reduceToNat, Int.reduceAdd, Int.reduceSub, Int.reduceMul, Int.reduceNeg, Int.reduceLT, Int.reduceLE, Nat.reduceLT, Nat.reduceLeDiff, Int.reduceBEq]
    exact endsT_rett rfl (by decide) (by simp [look])
  · simp -implicitDefEqProofs only [xC_skip, evS, evT, evU, hv, effC, reduceCtorEq, ↓reduceIte, Nat.reduceEqDiff, Nat.reduceAdd, Nat.reduceMul, Int.reduceToNat, Int.reduceAdd, Int.reduceSub, Int.reduceMul, Int.reduceNeg, Int.reduceLT, Int.reduceLE, Nat.reduceLT, Nat.reduceLeDiff, Int.reduceBEq]
    exact endsT_rett rfl (by decide) (by simp [look])
  · simp -implicitDefEqProofs only [xC_skip, evS, evT, evU, hv, effC, reduceCtorEq, ↓reduceIte, Nat.reduceEqDiff, Nat.reduceAdd, Nat.reduceMul, Int.reduceToNat, Int.reduceAdd, Int.reduceSub, Int.reduceMul, Int.reduceNeg, Int.reduceLT, Int.reduceLE, Nat.reduceLT, Nat.reduceLeDiff, Int.reduceBEq]
    exact endsT_rett rfl (by decide) (by simp [look])
  · simp -implicitDefEqProofs only [xC_skip, evS, evT, evU, hv, effC, reduceCtorEq, ↓reduceIte, Nat.reduceEqDiff, Nat.reduceAdd, Nat.reduceMul, Int.reduceToNat, Int.reduceAdd, Int.reduceSub, Int.reduceMul, Int.reduceNeg, Int.reduceLT, Int.reduceLE, Nat.reduceLT, Nat.reduceLeDiff, Int.reduceBEq]
    exact endsT_rett rfl (by decide) (by simp [look])
/-- The registers, those to come are 0. -/
def padR (t : Tp) (x : List Nat) (i : Nat) : List Nat := regs t x i ++ List.replicate (t.ops.length - i) 0
theorem padR_len (t : Tp) (x : List Nat) (i : Nat) (hi : i ≤ t.ops.length) : (padR t x i).length = t.ops.length := by simp [padR, regs_len]; omega
theorem padR_set (t : Tp) (x : List Nat) (i : Nat) (hi : i < t.ops.length) : (padR t x i).set i (opV (t.ops.getD i ⟨0, 0, 0, 0⟩) x (regs t x i)) = padR t x (i + 1) := by
  have hl := regs_len t x i
  unfold padR
  rw [List.set_append_right _ _ (by omega), hl, Nat.sub_self]
  obtain ⟨m, hm⟩ : ∃ m, t.ops.length - i = m + 1 := ⟨t.ops.length - i - 1, by omega⟩
  rw [hm, show t.ops.length - (i + 1) = m from by omega, List.replicate_succ, List.set_cons_zero]
  simp [regs]
theorem padR_at (t : Tp) (x : List Nat) (i j : Nat) (hj : j < i) : (padR t x i).getD j 0 = (regs t x i).getD j 0 := by
  have hl := regs_len t x i
  unfold padR
  rw [List.getD_eq_getElem?_getD, List.getD_eq_getElem?_getD, List.getElem?_append_left (by omega)]
set_option maxRecDepth 8000 in
theorem r3_Eval_ac (t : Tp) (x : List Nat) (ht : Tok t) (hx : x.length = t.n) : AC Try.prog 25 [tapeV t, .d (rowD x)] [] [(0, [rowV (evalT t x)])] (.sl 0 0 0 t.n 1 t.n) := by
  refine AC_row0 (X := 100) ?_
  refine AC_introA A_r3_Eval_comp rfl mixed (fun _ => False) (by simp [get_nil]) ?_
  have hlen := ht.len
  simp -implicitDefEqProofs only [xC_skip, evS, evT, evU, hv, effC, reduceCtorEq, ↓reduceIte, Nat.reduceEqDiff, Nat.reduceAdd, Nat.reduceMul, Int.reduceToNat, Int.reduceAdd, Int.reduceSub, Int.reduceMul, Int.reduceNeg, Int.reduceLT, Int.reduceLE, Nat.reduceLT, Nat.reduceLeDiff, A_r3_Eval, opsD]
  (repeat (with_reducible refine And.intro (by omega) ?_))
  have hp0 : List.replicate t.ops.length 0 = padR t x 0 := by simp [padR, regs]
  rw [hp0]
  refine WA_forW (n := t.ops.length) (fun c s => ∃ i, c + i = t.ops.length ∧ s = ⟨[(1, .d (rowD x)), (2, .ptr 0 0 0 3), (5, .sl 4 0 0 t.ops.length 1 t.ops.length), (6, fI i)],
      [(4, [rowV (padR t x i)]), (0, [[fI t.n, .d (opsD t.ops), .d (rowI t.out)]])]⟩) (Le.refl _) ⟨0, by omega, rfl⟩ ?_
  rintro c s ⟨i, hc, rfl⟩
  have hl := padR_len t x i (by omega)
  simp -implicitDefEqProofs only [xC_skip, evS, evT, evU, hv, effC, reduceCtorEq, ↓reduceIte, Nat.reduceEqDiff, Nat.reduceAdd, Nat.reduceMul, Int.reduceToNat, Int.reduceAdd, Int.reduceSub, Int.reduceMul, Int.reduceNeg, Int.reduceLT, Int.reduceLE, Nat.reduceLT, Nat.reduceLeDiff, A_r3_Eval_L0, opsD]
  refine condC_intro (fun h => ?_) (fun h => ?_)
  · replace h := of_decide_eq_true h
    have hop := ht.op i h
    have hset := padR_set t x i h
    generalize ho : t.ops.getD i ⟨0, 0, 0, 0⟩ = o at hop hset
    simp -implicitDefEqProofs only [xC_skip, evS, evT, evU, hv, effC, reduceCtorEq, ↓reduceIte, Nat.reduceEqDiff, Nat.reduceAdd, Nat.reduceMul, Int.reduceToNat, Int.reduceAdd, Int.reduceSub, Int.reduceMul, Int.reduceNeg, Int.reduceLT, Int.reduceLE, Nat.reduceLT, Nat.reduceLeDiff, opG, ho]
    (repeat (with_reducible refine And.intro (by omega) ?_))
    rcases hop with hk | ⟨hk, ha⟩ | ⟨hk, ha, hb⟩
    · have hvv : opV o x (regs t x i) = o.c := by simp [opV, hk]
      rw [hvv] at hset
      simp -implicitDefEqProofs only [xC_skip, evS, evT, evU, hv, effC, reduceCtorEq, ↓reduceIte, Nat.reduceEqDiff, Nat.reduceAdd, Nat.reduceMul, Int.reduceToNat, Int.reduceAdd, Int.reduceSub, Int.reduceMul, Int.reduceNeg, Int.reduceLT, Int.reduceLE, Nat.reduceLT, Nat.reduceLeDiff, hk, Int.reduceBEq]
      (repeat (with_reducible refine And.intro (by omega) ?_))
      rw [wrapI (by omega) (by omega), hset]
      rw [show List.map fl (padR t x (i + 1)) = rowV (padR t x (i + 1)) from rfl]
      exact ⟨c - 1, _, by omega, LeT.only (fun X => decide (X ≤ 4)) (fun _ h => h) rfl (by simp [KpS_cons, KpS_nil, KpH_cons, KpH_nil, KpF_cons, KpF_nil, KpF_rows, KpA_cons, KpA_nil, KpA_app, KpA_rowV, KpA_rowIV, KpA_dcells, KpA_outC, Kp_any, Kp_nilv, Kp_d, Kp_ptr, Kp_sl, Kp_agg, Kp_tup, Kp_fn, get_cons, get_nil]) (by simp [KpS_cons, KpS_nil, KpH_cons, KpH_nil, KpF_cons, KpF_nil, KpF_rows, KpA_cons, KpA_nil, KpA_app, KpA_rowV, KpA_rowIV, KpA_dcells, KpA_outC, Kp_any, Kp_nilv, Kp_d, Kp_ptr, Kp_sl, Kp_agg, Kp_tup, Kp_fn, get_cons, get_nil]), i + 1, by omega, rfl⟩
    · have hvv : opV o x (regs t x i) = x.getD o.a.toNat 0 := by simp [opV, hk]
      rw [hvv] at hset
      simp -implicitDefEqProofs only [xC_skip, evS, evT, evU, hv, effC, reduceCtorEq, ↓reduceIte, Nat.reduceEqDiff, Nat.reduceAdd, Nat.reduceMul, Int.reduceToNat, Int.reduceAdd, Int.reduceSub, Int.reduceMul, Int.reduceNeg, Int.reduceLT, Int.reduceLE, Nat.reduceLT, Nat.reduceLeDiff, hk, Int.reduceBEq]
      (repeat (with_reducible refine And.intro (by omega) ?_))
      rw [wrapI (by omega) (by omega), hset]
      rw [show List.map fl (padR t x (i + 1)) = rowV (padR t x (i + 1)) from rfl]
      exact ⟨c - 1, _, by omega, LeT.only (fun X => decide (X ≤ 4)) (fun _ h => h) rfl (by simp [KpS_cons, KpS_nil, KpH_cons, KpH_nil, KpF_cons, KpF_nil, KpF_rows, KpA_cons, KpA_nil, KpA_app, KpA_rowV, KpA_rowIV, KpA_dcells, KpA_outC, Kp_any, Kp_nilv, Kp_d, Kp_ptr, Kp_sl, Kp_agg, Kp_tup, Kp_fn, get_cons, get_nil]) (by simp [KpS_cons, KpS_nil, KpH_cons, KpH_nil, KpF_cons, KpF_nil, KpF_rows, KpA_cons, KpA_nil, KpA_app, KpA_rowV, KpA_rowIV, KpA_dcells, KpA_outC, Kp_any, Kp_nilv, Kp_d, Kp_ptr, Kp_sl, Kp_agg, Kp_tup, Kp_fn, get_cons, get_nil]), i + 1, by omega, rfl⟩
    · have k0 : (o.k == 0) = false := by simp; omega
      have k1 : (o.k == 1) = false := by simp; omega
      have ga : (rowV (padR t x i)).getD o.a.toNat .any = fl ((regs t x i).getD o.a.toNat 0) := by
        rw [← padR_at t x i _ (by omega)]; exact getD_map_fl _ _ (by omega)
      have gb : (rowV (padR t x i)).getD o.b.toNat .any = fl ((regs t x i).getD o.b.toNat 0) := by
        rw [← padR_at t x i _ (by omega)]; exact getD_map_fl _ _ (by omega)
      have hvv : opV o x (regs t x i) = (if o.k = 2 then fop .add ((regs t x i).getD o.a.toNat 0) ((regs t x i).getD o.b.toNat 0) else if o.k = 3 then fop .sub ((regs t x i).getD o.a.toNat 0) ((regs t x i).getD o.b.toNat 0) else if o.k = 4 then fop .mul ((regs t x i).getD o.a.toNat 0) ((regs t x i).getD o.b.toNat 0) else fop .div ((regs t x i).getD o.a.toNat 0) ((regs t x i).getD o.b.toNat 0)) := by
        unfold opV; rw [if_neg (by omega), if_neg (by omega)]
      have hone := r3_one_con o.k ((regs t x i).getD o.a.toNat 0) ((regs t x i).getD o.b.toNat 0) hk
      rw [← hvv] at hone
      simp -implicitDefEqProofs only [xC_skip, evS, evT, evU, hv, effC, reduceCtorEq, ↓reduceIte, Nat.reduceEqDiff, Nat.reduceAdd, Nat.reduceMul, Int.reduceToNat, Int.reduceAdd, Int.reduceSub, Int.reduceMul, Int.reduceNeg, Int.reduceLT, Int.reduceLE, Nat.reduceLT, Nat.reduceLeDiff, k0, k1, ga, gb]
      (repeat (with_reducible refine And.intro (by omega) ?_))
      first | refine callG_con (hone) rfl ?_ | refine callCG_con (hone) rfl ?_ | refine callSG_con (hone) rfl ?_
      simp -implicitDefEqProofs only [xC_skip, evS, evT, evU, hv, effC, reduceCtorEq, ↓reduceIte, Nat.reduceEqDiff, Nat.reduceAdd, Nat.reduceMul, Int.reduceToNat, Int.reduceAdd, Int.reduceSub, Int.reduceMul, Int.reduceNeg, Int.reduceLT, Int.reduceLE, Nat.reduceLT, Nat.reduceLeDiff]
      (repeat (with_reducible refine And.intro (by omega) ?_))
      rw [wrapI (by omega) (by omega), hset]
      rw [show List.map fl (padR t x (i + 1)) = rowV (padR t x (i + 1)) from rfl]
      exact ⟨c - 1, _, by omega, LeT.only (fun X => decide (X ≤ 4)) (fun _ h => h) rfl (by simp [KpS_cons, KpS_nil, KpH_cons, KpH_nil, KpF_cons, KpF_nil, KpF_rows, KpA_cons, KpA_nil, KpA_app, KpA_rowV, KpA_rowIV, KpA_dcells, KpA_outC, Kp_any, Kp_nilv, Kp_d, Kp_ptr, Kp_sl, Kp_agg, Kp_tup, Kp_fn, get_cons, get_nil]) (by simp [KpS_cons, KpS_nil, KpH_cons, KpH_nil, KpF_cons, KpF_nil, KpF_rows, KpA_cons, KpA_nil, KpA_app, KpA_rowV, KpA_rowIV, KpA_dcells, KpA_outC, Kp_any, Kp_nilv, Kp_d, Kp_ptr, Kp_sl, Kp_agg, Kp_tup, Kp_fn, get_cons, get_nil]), i + 1, by omega, rfl⟩
  · replace h := of_decide_eq_false h
    have e : i = t.ops.length := by omega
    subst e
    have hfull : padR t x t.ops.length = regs t x t.ops.length := by simp [padR]
    rw [hfull] at hl ⊢
    have hn := ht.n
    simp -implicitDefEqProofs only [xC_skip, evS, evT, evU, hv, effC, reduceCtorEq, ↓reduceIte, Nat.reduceEqDiff, Nat.reduceAdd, Nat.reduceMul, Int.reduceToNat, Int.reduceAdd, Int.reduceSub, Int.reduceMul, Int.reduceNeg, Int.reduceLT, Int.reduceLE, Nat.reduceLT, Nat.reduceLeDiff]
    refine WA_forW (n := t.n) (fun c s => ∃ i, c + i = t.n ∧ s = ⟨[(2, .ptr 0 0 0 3), (5, .sl 4 0 0 t.ops.length 1 t.ops.length), (8, .sl 100 0 0 i 1 i), (9, fI i)],
      [(100, [rowV (tabR (fun i => (regs t x t.ops.length).getD (t.out.getD i 0).toNat 0) i)]), (4, [rowV (regs t x t.ops.length)]), (0, [[fI t.n, .d (opsD t.ops), .d (rowI t.out)]])]⟩)
      (s0 := ⟨_, _⟩) (LeT.nilrow (X := 100) (esz := 1) (as' := [(2, .ptr 0 0 0 3), (5, .sl 4 0 0 t.ops.length 1 t.ops.length), (8, .sl 100 0 0 0 1 0), (9, fI 0)]) (by simp [fam_cons, fam_nil]) (fun h => h) fun i => ?_) ⟨0, by omega, rfl⟩ ?_
    · simp only [look]
      repeat' split
      all_goals simp
    rintro c s ⟨i, hc, rfl⟩
    have hl2 := tabR_len (fun i => (regs t x t.ops.length).getD (t.out.getD i 0).toNat 0) i
    simp -implicitDefEqProofs only [xC_skip, evS, evT, evU, hv, effC, reduceCtorEq, ↓reduceIte, Nat.reduceEqDiff, Nat.reduceAdd, Nat.reduceMul, Int.reduceToNat, Int.reduceAdd, Int.reduceSub, Int.reduceMul, Int.reduceNeg, Int.reduceLT, Int.reduceLE, Nat.reduceLT, Nat.reduceLeDiff, A_r3_Eval_L1]
    refine condC_intro (fun h2 => ?_) (fun h2 => ?_)
    · replace h2 := of_decide_eq_true h2
      have ho := ht.out i h2
      have hol := ht.outl
      have ga : (rowV (regs t x t.ops.length)).getD (t.out.getD i 0).toNat .any = fl ((regs t x t.ops.length).getD (t.out.getD i 0).toNat 0) := getD_map_fl _ _ (by omega)
      simp -implicitDefEqProofs only [xC_skip, evS, evT, evU, hv, effC, reduceCtorEq, ↓reduceIte, Nat.reduceEqDiff, Nat.reduceAdd, Nat.reduceMul, Int.reduceToNat, Int.reduceAdd, Int.reduceSub, Int.reduceMul, Int.reduceNeg, Int.reduceLT, Int.reduceLE, Nat.reduceLT, Nat.reduceLeDiff, ga]
      (repeat (with_reducible refine And.intro (by omega) ?_))
      have e2 : rowV (tabR (fun i => (regs t x t.ops.length).getD (t.out.getD i 0).toNat 0) i) ++ [fl ((regs t x t.ops.length).getD (t.out.getD i 0).toNat 0)] = rowV (tabR (fun i => (regs t x t.ops.length).getD (t.out.getD i 0).toNat 0) (i + 1)) := (tabR_succ _ _).symm
      rw [wrapI (by omega) (by omega), e2]
      exact ⟨c - 1, _, by omega, LeT.only (fun X => decide (X ≤ 100)) (fun _ h => h) rfl (by simp [KpS_cons, KpS_nil, KpH_cons, KpH_nil, KpF_cons, KpF_nil, KpF_rows, KpA_cons, KpA_nil, KpA_app, KpA_rowV, KpA_rowIV, KpA_dcells, KpA_outC, Kp_any, Kp_nilv, Kp_d, Kp_ptr, Kp_sl, Kp_agg, Kp_tup, Kp_fn, get_cons, get_nil]) (by simp [KpS_cons, KpS_nil, KpH_cons, KpH_nil, KpF_cons, KpF_nil, KpF_rows, KpA_cons, KpA_nil, KpA_app, KpA_rowV, KpA_rowIV, KpA_dcells, KpA_outC, Kp_any, Kp_nilv, Kp_d, Kp_ptr, Kp_sl, Kp_agg, Kp_tup, Kp_fn, get_cons, get_nil]), i + 1, by omega, rfl⟩
    · replace h2 := of_decide_eq_false h2
      have e : i = t.n := by omega
      subst e
      simp -implicitDefEqProofs only [xC_skip, evS, evT, evU, hv, effC, reduceCtorEq, ↓reduceIte, Nat.reduceEqDiff, Nat.reduceAdd, Nat.reduceMul, Int.reduceToNat, Int.reduceAdd, Int.reduceSub, Int.reduceMul, Int.reduceNeg, Int.reduceLT, Int.reduceLE, Nat.reduceLT, Nat.reduceLeDiff]
      exact endsT_only (fun X => X == 100) (fun _ h => h) (resV_tmpI (t := 4) (by decide) rfl) rfl (by simp [KpS_cons, KpS_nil, KpH_cons, KpH_nil, KpF_cons, KpF_nil, KpF_rows, KpA_cons, KpA_nil, KpA_app, KpA_rowV, KpA_rowIV, KpA_dcells, KpA_outC, Kp_any, Kp_nilv, Kp_d, Kp_ptr, Kp_sl, Kp_agg, Kp_tup, Kp_fn, get_cons, get_nil]) (by simp [KpS_cons, KpS_nil, KpH_cons, KpH_nil, KpF_cons, KpF_nil, KpF_rows, KpA_cons, KpA_nil, KpA_app, KpA_rowV, KpA_rowIV, KpA_dcells, KpA_outC, Kp_any, Kp_nilv, Kp_d, Kp_ptr, Kp_sl, Kp_agg, Kp_tup, Kp_fn, get_cons, get_nil])
/-- a less b; a and b. -/
theorem r9_minus_ac (a b : List Nat) (n : Nat) (ha : a.length = n) (hb : b.length = n) (hn : n < 2 ^ 40) : AC Try.prog 45 [.d (rowD a), .d (rowD b)] [] [(0, [rowV (tabR (fun i => fop .sub (a.getD i 0) (b.getD i 0)) n)])] (.sl 0 0 0 n 1 n) := by
  refine AC_row0 (X := 100) ?_
  refine AC_introA A_r9_minus_comp rfl mixed (fun _ => False) (by simp [get_nil]) ?_
  simp -implicitDefEqProofs only [xC_skip, evS, evT, evU, hv, effC, reduceCtorEq, ↓reduceIte, Nat.reduceEqDiff, Nat.reduceAdd, Nat.reduceMul, Int.reduceToNat, Int.reduceAdd, Int.reduceSub, Int.reduceMul, Int.reduceNeg, Int.reduceLT, Int.reduceLE, Nat.reduceLT, Nat.reduceLeDiff, A_r9_minus]
  refine WA_forW (n := n) (fun c s => ∃ i, c + i = n ∧ s = ⟨[(0, .d (rowD a)), (1, .d (rowD b)), (5, .sl 100 0 0 i 1 i), (6, fI i)], [(100, [rowV (tabR (fun i => fop .sub (a.getD i 0) (b.getD i 0)) i)])]⟩)
    (s0 := ⟨_, _⟩) (LeT.nilrow (X := 100) (esz := 1) (as' := [(0, .d (rowD a)), (1, .d (rowD b)), (5, .sl 100 0 0 0 1 0), (6, fI 0)]) (by simp [fam_nil]) (fun h => h) fun i => ?_) ⟨0, by omega, rfl⟩ ?_
  · simp only [look]
    repeat' split
    all_goals simp [rowD]
  rintro c s ⟨i, hc, rfl⟩
  have hl := tabR_len (fun i => fop .sub (a.getD i 0) (b.getD i 0)) i
  simp -implicitDefEqProofs only [xC_skip, evS, evT, evU, hv, effC, reduceCtorEq, ↓reduceIte, Nat.reduceEqDiff, Nat.reduceAdd, Nat.reduceMul, Int.reduceToNat, Int.reduceAdd, Int.reduceSub, Int.reduceMul, Int.reduceNeg, Int.reduceLT, Int.reduceLE, Nat.reduceLT, Nat.reduceLeDiff, A_r9_minus_L0]
  refine condC_intro (fun h => ?_) (fun h => ?_)
  · replace h := of_decide_eq_true h
    simp -implicitDefEqProofs only [xC_skip, evS, evT, evU, hv, effC, reduceCtorEq, ↓reduceIte, Nat.reduceEqDiff, Nat.reduceAdd, Nat.reduceMul, Int.reduceToNat, Int.reduceAdd, Int.reduceSub, Int.reduceMul, Int.reduceNeg, Int.reduceLT, Int.reduceLE, Nat.reduceLT, Nat.reduceLeDiff]
    (repeat (with_reducible refine And.intro (by omega) ?_))
    have e2 : rowV (tabR (fun i => fop .sub (a.getD i 0) (b.getD i 0)) i) ++ [fl (fop .sub (a.getD i 0) (b.getD i 0))] = rowV (tabR (fun i => fop .sub (a.getD i 0) (b.getD i 0)) (i + 1)) := (tabR_succ _ _).symm
    rw [wrapI (by omega) (by omega), e2]
    exact ⟨c - 1, _, by omega, LeT.only (fun X => decide (X ≤ 100)) (fun _ h => h) rfl (by simp [KpS_cons, KpS_nil, KpH_cons, KpH_nil, KpF_cons, KpF_nil, KpF_rows, KpA_cons, KpA_nil, KpA_app, KpA_rowV, KpA_rowIV, KpA_dcells, KpA_outC, Kp_any, Kp_nilv, Kp_d, Kp_ptr, Kp_sl, Kp_agg, Kp_tup, Kp_fn, get_cons, get_nil]) (by simp [KpS_cons, KpS_nil, KpH_cons, KpH_nil, KpF_cons, KpF_nil, KpF_rows, KpA_cons, KpA_nil, KpA_app, KpA_rowV, KpA_rowIV, KpA_dcells, KpA_outC, Kp_any, Kp_nilv, Kp_d, Kp_ptr, Kp_sl, Kp_agg, Kp_tup, Kp_fn, get_cons, get_nil]), i + 1, by omega, rfl⟩
  · replace h := of_decide_eq_false h
    have e : i = n := by omega
    subst e
    simp -implicitDefEqProofs only [xC_skip, evS, evT, evU, hv, effC, reduceCtorEq, ↓reduceIte, Nat.reduceEqDiff, Nat.reduceAdd, Nat.reduceMul, Int.reduceToNat, Int.reduceAdd, Int.reduceSub, Int.reduceMul, Int.reduceNeg, Int.reduceLT, Int.reduceLE, Nat.reduceLT, Nat.reduceLeDiff]
    exact endsT_only (fun X => X == 100) (fun _ h => h) (resV_tmpI (t := 4) (by decide) rfl) rfl (by simp [KpS_cons, KpS_nil, KpH_cons, KpH_nil, KpF_cons, KpF_nil, KpF_rows, KpA_cons, KpA_nil, KpA_app, KpA_rowV, KpA_rowIV, KpA_dcells, KpA_outC, Kp_any, Kp_nilv, Kp_d, Kp_ptr, Kp_sl, Kp_agg, Kp_tup, Kp_fn, get_cons, get_nil]) (by simp [KpS_cons, KpS_nil, KpH_cons, KpH_nil, KpF_cons, KpF_nil, KpF_rows, KpA_cons, KpA_nil, KpA_app, KpA_rowV, KpA_rowIV, KpA_dcells, KpA_outC, Kp_any, Kp_nilv, Kp_d, Kp_ptr, Kp_sl, Kp_agg, Kp_tup, Kp_fn, get_cons, get_nil])
theorem r9_plus_ac (a b : List Nat) (n : Nat) (ha : a.length = n) (hb : b.length = n) (hn : n < 2 ^ 40) : AC Try.prog 46 [.d (rowD a), .d (rowD b)] [] [(0, [rowV (tabR (fun i => fop .add (a.getD i 0) (b.getD i 0)) n)])] (.sl 0 0 0 n 1 n) := by
  refine AC_row0 (X := 100) ?_
  refine AC_introA A_r9_plus_comp rfl mixed (fun _ => False) (by simp [get_nil]) ?_
  simp -implicitDefEqProofs only [xC_skip, evS, evT, evU, hv, effC, reduceCtorEq, ↓reduceIte, Nat.reduceEqDiff, Nat.reduceAdd, Nat.reduceMul, Int.reduceToNat, Int.reduceAdd, Int.reduceSub, Int.reduceMul, Int.reduceNeg, Int.reduceLT, Int.reduceLE, Nat.reduceLT, Nat.reduceLeDiff, A_r9_plus]
  refine WA_forW (n := n) (fun c s => ∃ i, c + i = n ∧ s = ⟨[(0, .d (rowD a)), (1, .d (rowD b)), (5, .sl 100 0 0 i 1 i), (6, fI i)], [(100, [rowV (tabR (fun i => fop .add (a.getD i 0) (b.getD i 0)) i)])]⟩)
    (s0 := ⟨_, _⟩) (LeT.nilrow (X := 100) (esz := 1) (as' := [(0, .d (rowD a)), (1, .d (rowD b)), (5, .sl 100 0 0 0 1 0), (6, fI 0)]) (by simp [fam_nil]) (fun h => h) fun i => ?_) ⟨0, by omega, rfl⟩ ?_
  · simp only [look]
    repeat' split
    all_goals simp [rowD]
  rintro c s ⟨i, hc, rfl⟩
  have hl := tabR_len (fun i => fop .add (a.getD i 0) (b.getD i 0)) i
  simp -implicitDefEqProofs only [xC_skip, evS, evT, evU, hv, effC, reduceCtorEq, ↓reduceIte, Nat.reduceEqDiff, Nat.reduceAdd, Nat.reduceMul, Int.reduceToNat, Int.reduceAdd, Int.reduceSub, Int.reduceMul, Int.reduceNeg, Int.reduceLT, Int.reduceLE, Nat.reduceLT, Nat.reduceLeDiff, A_r9_plus_L0]
  refine condC_intro (fun h => ?_) (fun h => ?_)
  · replace h := of_decide_eq_true h
    simp -implicitDefEqProofs only [xC_skip, evS, evT, evU, hv, effC, reduceCtorEq, ↓reduceIte, Nat.reduceEqDiff, Nat.reduceAdd, Nat.reduceMul, Int.reduceToNat, Int.reduceAdd, Int.reduceSub, Int.reduceMul, Int.reduceNeg, Int.reduceLT, Int.reduceLE, Nat.reduceLT, Nat.reduceLeDiff]
    (repeat (with_reducible refine And.intro (by omega) ?_))
    have e2 : rowV (tabR (fun i => fop .add (a.getD i 0) (b.getD i 0)) i) ++ [fl (fop .add (a.getD i 0) (b.getD i 0))] = rowV (tabR (fun i => fop .add (a.getD i 0) (b.getD i 0)) (i + 1)) := (tabR_succ _ _).symm
    rw [wrapI (by omega) (by omega), e2]
    exact ⟨c - 1, _, by omega, LeT.only (fun X => decide (X ≤ 100)) (fun _ h => h) rfl (by simp [KpS_cons, KpS_nil, KpH_cons, KpH_nil, KpF_cons, KpF_nil, KpF_rows, KpA_cons, KpA_nil, KpA_app, KpA_rowV, KpA_rowIV, KpA_dcells, KpA_outC, Kp_any, Kp_nilv, Kp_d, Kp_ptr, Kp_sl, Kp_agg, Kp_tup, Kp_fn, get_cons, get_nil]) (by simp [KpS_cons, KpS_nil, KpH_cons, KpH_nil, KpF_cons, KpF_nil, KpF_rows, KpA_cons, KpA_nil, KpA_app, KpA_rowV, KpA_rowIV, KpA_dcells, KpA_outC, Kp_any, Kp_nilv, Kp_d, Kp_ptr, Kp_sl, Kp_agg, Kp_tup, Kp_fn, get_cons, get_nil]), i + 1, by omega, rfl⟩
  · replace h := of_decide_eq_false h
    have e : i = n := by omega
    subst e
    simp -implicitDefEqProofs only [xC_skip, evS, evT, evU, hv, effC, reduceCtorEq, ↓reduceIte, Nat.reduceEqDiff, Nat.reduceAdd, Nat.reduceMul, Int.reduceToNat, Int.reduceAdd, Int.reduceSub, Int.reduceMul, Int.reduceNeg, Int.reduceLT, Int.reduceLE, Nat.reduceLT, Nat.reduceLeDiff]
    exact endsT_only (fun X => X == 100) (fun _ h => h) (resV_tmpI (t := 4) (by decide) rfl) rfl (by simp [KpS_cons, KpS_nil, KpH_cons, KpH_nil, KpF_cons, KpF_nil, KpF_rows, KpA_cons, KpA_nil, KpA_app, KpA_rowV, KpA_rowIV, KpA_dcells, KpA_outC, Kp_any, Kp_nilv, Kp_d, Kp_ptr, Kp_sl, Kp_agg, Kp_tup, Kp_fn, get_cons, get_nil]) (by simp [KpS_cons, KpS_nil, KpH_cons, KpH_nil, KpF_cons, KpF_nil, KpF_rows, KpA_cons, KpA_nil, KpA_app, KpA_rowV, KpA_rowIV, KpA_dcells, KpA_outC, Kp_any, Kp_nilv, Kp_d, Kp_ptr, Kp_sl, Kp_agg, Kp_tup, Kp_fn, get_cons, get_nil])
set_option maxRecDepth 8000 in
theorem r9_left_ac (t : Tp) (z : List (List Nat)) (l : List Nat) (h : Nat) (w d : List Nat) (ok : Sok t z l w d) : AC Try.prog 43 [tapeV t, .d (rowsD z), fl (l.getD 0 0), fl h, .d (rowD d)] [] [(0, [rowV (gS t z l h d)])] (.sl 0 0 0 t.n 1 t.n) := by
  obtain ⟨ht, hz, hzl, hl, hw, hd⟩ := ok
  have hn := ht.n
  have hz0 := hzl 0 (by omega)
  have hz1 := hzl 1 (by omega)
  refine AC_row0 (X := 200) ?_
  refine AC_introA A_r9_left_comp rfl mixed (fun _ => False) (by simp [get_nil]) ?_
  simp -implicitDefEqProofs only [xC_skip, evS, evT, evU, hv, effC, reduceCtorEq, ↓reduceIte, Nat.reduceEqDiff, Nat.reduceAdd, Nat.reduceMul, Int.reduceToNat, Int.reduceAdd, Int.reduceSub, Int.reduceMul, Int.reduceNeg, Int.reduceLT, Int.reduceLE, Nat.reduceLT, Nat.reduceLeDiff, A_r9_left]
  generalize hfy : (fun i => fop .add ((z.getD 0 []).getD i 0) (fop .mul (l.getD 0 0) (d.getD i 0))) = fy
  have fy' : ∀ i, fy i = fop .add ((z.getD 0 []).getD i 0) (fop .mul (l.getD 0 0) (d.getD i 0)) := fun i => by rw [← hfy]
  have hy : yS z l d t.n = tabR fy t.n := by unfold yS; rw [hfy]
  refine WA_forW (n := t.n) (fun c s => ∃ i, c + i = t.n ∧ s = ⟨[(1, .d (rowsD z)), (2, fl (l.getD 0 0)), (3, fl h), (4, .d (rowD d)), (5, .ptr 0 0 0 3), (11, .sl 101 0 0 i 1 i), (12, .nil), (13, fI i)], [(101, [rowV (tabR fy i)]), (0, [[fI t.n, .d (opsD t.ops), .d (rowI t.out)]])]⟩)
    (s0 := ⟨_, _⟩) (LeT.nilrow (X := 101) (esz := 1) (as' := [(1, .d (rowsD z)), (2, fl (l.getD 0 0)), (3, fl h), (4, .d (rowD d)), (5, .ptr 0 0 0 3), (11, .sl 101 0 0 0 1 0), (12, .nil), (13, fI 0)]) (by simp [fam_cons, fam_nil]) (fun h => h) fun i => ?_) ⟨0, by omega, rfl⟩ ?_
  · simp only [look]
    repeat' split
    all_goals simp [rowD, rowsD]
  rintro c s ⟨i, hc, rfl⟩
  have hl1 := tabR_len fy i
  simp -implicitDefEqProofs only [xC_skip, evS, evT, evU, hv, effC, reduceCtorEq, ↓reduceIte, Nat.reduceEqDiff, Nat.reduceAdd, Nat.reduceMul, Int.reduceToNat, Int.reduceAdd, Int.reduceSub, Int.reduceMul, Int.reduceNeg, Int.reduceLT, Int.reduceLE, Nat.reduceLT, Nat.reduceLeDiff, A_r9_left_L0]
  refine condC_intro (fun h1 => ?_) (fun h1 => ?_)
  · replace h1 := of_decide_eq_true h1
    simp -implicitDefEqProofs only [xC_skip, evS, evT, evU, hv, effC, reduceCtorEq, ↓reduceIte, Nat.reduceEqDiff, Nat.reduceAdd, Nat.reduceMul, Int.reduceToNat, Int.reduceAdd, Int.reduceSub, Int.reduceMul, Int.reduceNeg, Int.reduceLT, Int.reduceLE, Nat.reduceLT, Nat.reduceLeDiff]
    (repeat (with_reducible refine And.intro (by omega) ?_))
    have e2 : rowV (tabR fy i) ++ [fl (fop .add ((z.getD 0 []).getD i 0) (fop .mul (l.getD 0 0) (d.getD i 0)))] = rowV (tabR fy (i + 1)) := by rw [← fy']; exact (tabR_succ _ _).symm
    rw [wrapI (by omega) (by omega), e2]
    exact ⟨c - 1, _, by omega, LeT.only (fun X => decide (X ≤ 101)) (fun _ h => h) rfl (by simp [KpS_cons, KpS_nil, KpH_cons, KpH_nil, KpF_cons, KpF_nil, KpF_rows, KpA_cons, KpA_nil, KpA_app, KpA_rowV, KpA_rowIV, KpA_dcells, KpA_outC, Kp_any, Kp_nilv, Kp_d, Kp_ptr, Kp_sl, Kp_agg, Kp_tup, Kp_fn, get_cons, get_nil]) (by simp [KpS_cons, KpS_nil, KpH_cons, KpH_nil, KpF_cons, KpF_nil, KpF_rows, KpA_cons, KpA_nil, KpA_app, KpA_rowV, KpA_rowIV, KpA_dcells, KpA_outC, Kp_any, Kp_nilv, Kp_d, Kp_ptr, Kp_sl, Kp_agg, Kp_tup, Kp_fn, get_cons, get_nil]), i + 1, by omega, rfl⟩
  · replace h1 := of_decide_eq_false h1
    have e : i = t.n := by omega
    subst e
    simp -implicitDefEqProofs only [xC_skip, evS, evT, evU, hv, effC, reduceCtorEq, ↓reduceIte, Nat.reduceEqDiff, Nat.reduceAdd, Nat.reduceMul, Int.reduceToNat, Int.reduceAdd, Int.reduceSub, Int.reduceMul, Int.reduceNeg, Int.reduceLT, Int.reduceLE, Nat.reduceLT, Nat.reduceLeDiff]
    refine callG_row 110 [tapeV t, .d (rowD (tabR fy t.n))] (by simp [Heap.next]) (r3_Eval_ac t (tabR fy t.n) ht hl1) ⟨.aggs ⟨.bare _, .bare _, .bare _, trivial⟩, snp_row rfl hl1 rfl, trivial⟩ ?_
    have hfl := evalT_len t (tabR fy t.n)
    generalize hf : evalT t (tabR fy t.n) = f at hfl
    generalize hfg : (fun i => fop .sub (fop .mul h (f.getD i 0)) ((z.getD 1 []).getD i 0)) = fg
    have fg' : ∀ i, fg i = fop .sub (fop .mul h (f.getD i 0)) ((z.getD 1 []).getD i 0) := fun i => by rw [← hfg]
    have hg : gS t z l h d = tabR fg t.n := by unfold gS; rw [hy, hf, hfg]
    rw [hg]
    simp -implicitDefEqProofs only [xC_skip, evS, evT, evU, hv, effC, reduceCtorEq, ↓reduceIte, Nat.reduceEqDiff, Nat.reduceAdd, Nat.reduceMul, Int.reduceToNat, Int.reduceAdd, Int.reduceSub, Int.reduceMul, Int.reduceNeg, Int.reduceLT, Int.reduceLE, Nat.reduceLT, Nat.reduceLeDiff]
    refine WA_forW (n := t.n) (fun c s => ∃ i, c + i = t.n ∧ s = ⟨[(1, .d (rowsD z)), (3, fl h), (4, .d (rowD d)), (12, .sl 200 0 0 i 1 i), (15, .sl 110 0 0 t.n 1 t.n), (16, fI i)], [(200, [rowV (tabR fg i)]), (110, [rowV f]), (101, [rowV (tabR fy t.n)]), (0, [[fI t.n, .d (opsD t.ops), .d (rowI t.out)]])]⟩)
      (s0 := ⟨_, _⟩) (LeT.nilrow (X := 200) (esz := 1) (as' := [(1, .d (rowsD z)), (3, fl h), (4, .d (rowD d)), (12, .sl 200 0 0 0 1 0), (15, .sl 110 0 0 t.n 1 t.n), (16, fI 0)]) (by simp [fam_cons, fam_nil]) (fun h => h) fun i => ?_) ⟨0, by omega, rfl⟩ ?_
    · simp only [look]
      repeat' split
      all_goals simp [rowD, rowsD]
    rintro c s ⟨i, hc, rfl⟩
    have hl2 := tabR_len fg i
    simp -implicitDefEqProofs only [xC_skip, evS, evT, evU, hv, effC, reduceCtorEq, ↓reduceIte, Nat.reduceEqDiff, Nat.reduceAdd, Nat.reduceMul, Int.reduceToNat, Int.reduceAdd, Int.reduceSub, Int.reduceMul, Int.reduceNeg, Int.reduceLT, Int.reduceLE, Nat.reduceLT, Nat.reduceLeDiff, A_r9_left_L1]
    refine condC_intro (fun h2 => ?_) (fun h2 => ?_)
    · replace h2 := of_decide_eq_true h2
      have ga : (rowV f).getD i .any = fl (f.getD i 0) := getD_map_fl _ _ (by omega)
      simp -implicitDefEqProofs only [xC_skip, evS, evT, evU, hv, effC, reduceCtorEq, ↓reduceIte, Nat.reduceEqDiff, Nat.reduceAdd, Nat.reduceMul, Int.reduceToNat, Int.reduceAdd, Int.reduceSub, Int.reduceMul, Int.reduceNeg, Int.reduceLT, Int.reduceLE, Nat.reduceLT, Nat.reduceLeDiff, ga]
      (repeat (with_reducible refine And.intro (by omega) ?_))
      have e2 : rowV (tabR fg i) ++ [fl (fop .sub (fop .mul h (f.getD i 0)) ((z.getD 1 []).getD i 0))] = rowV (tabR fg (i + 1)) := by rw [← fg']; exact (tabR_succ _ _).symm
      rw [wrapI (by omega) (by omega), e2]
      exact ⟨c - 1, _, by omega, LeT.only (fun X => decide (X ≤ 110) || X == 200) (fun _ h => h) rfl (by simp [KpS_cons, KpS_nil, KpH_cons, KpH_nil, KpF_cons, KpF_nil, KpF_rows, KpA_cons, KpA_nil, KpA_app, KpA_rowV, KpA_rowIV, KpA_dcells, KpA_outC, Kp_any, Kp_nilv, Kp_d, Kp_ptr, Kp_sl, Kp_agg, Kp_tup, Kp_fn, get_cons, get_nil]) (by simp [KpS_cons, KpS_nil, KpH_cons, KpH_nil, KpF_cons, KpF_nil, KpF_rows, KpA_cons, KpA_nil, KpA_app, KpA_rowV, KpA_rowIV, KpA_dcells, KpA_outC, Kp_any, Kp_nilv, Kp_d, Kp_ptr, Kp_sl, Kp_agg, Kp_tup, Kp_fn, get_cons, get_nil]), i + 1, by omega, rfl⟩
    · replace h2 := of_decide_eq_false h2
      have e : i = t.n := by omega
      subst e
      simp -implicitDefEqProofs only [xC_skip, evS, evT, evU, hv, effC, reduceCtorEq, ↓reduceIte, Nat.reduceEqDiff, Nat.reduceAdd, Nat.reduceMul, Int.reduceToNat, Int.reduceAdd, Int.reduceSub, Int.reduceMul, Int.reduceNeg, Int.reduceLT, Int.reduceLE, Nat.reduceLT, Nat.reduceLeDiff]
      exact endsT_only (fun X => X == 200) (fun _ h => h) (resV_tmpI (t := 10) (by decide) rfl) rfl (by simp [KpS_cons, KpS_nil, KpH_cons, KpH_nil, KpF_cons, KpF_nil, KpF_rows, KpA_cons, KpA_nil, KpA_app, KpA_rowV, KpA_rowIV, KpA_dcells, KpA_outC, Kp_any, Kp_nilv, Kp_d, Kp_ptr, Kp_sl, Kp_agg, Kp_tup, Kp_fn, get_cons, get_nil]) (by simp [KpS_cons, KpS_nil, KpH_cons, KpH_nil, KpF_cons, KpF_nil, KpF_rows, KpA_cons, KpA_nil, KpA_app, KpA_rowV, KpA_rowIV, KpA_dcells, KpA_outC, Kp_any, Kp_nilv, Kp_d, Kp_ptr, Kp_sl, Kp_agg, Kp_tup, Kp_fn, get_cons, get_nil])
end Go.Ab
