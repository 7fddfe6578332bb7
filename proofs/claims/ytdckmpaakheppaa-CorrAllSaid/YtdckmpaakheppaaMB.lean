/- What the statements are made of: rows of derivatives. -/
import Derived.Test.YtdckmpaakheppaaLB
import Derived.Test.YtdckmpaakheppaaGD
namespace Go.Ab
set_option linter.unusedSimpArgs false
set_option linter.unusedVariables false
open Go Go.Proofs
def A_l8_within : CA := (.seq (.reg [⟨0, (some 4), none, [], [], (.h (.mov (.k (.d (.int .i64 0)))))⟩] [0, 1]) (.seq (.reg [⟨0, (some 6), none, [], [], (.h (.mov (.t 0)))⟩, ⟨1, (some 7), none, [], [], (.h (.mov (.t 1)))⟩, ⟨2, (some 8), none, [], [], (.h (.ibin .rem (.t 6) (.t 7)))⟩, ⟨3, (some 5), none, [], [], (.h (.mov (.t 8)))⟩] [1, 5]) (.seq (.seq (.reg [⟨0, (some 9), none, [], [], (.h (.mov (.t 5)))⟩, ⟨1, (some 10), none, [], [], (.h (.ibin .lss (.t 9) (.k (.d (.int .i64 0)))))⟩] [1, 5, 10]) (.cond (.t 10) (.reg [⟨0, (some 11), none, [], [], (.h (.mov (.t 5)))⟩, ⟨1, (some 12), none, [], [], (.h (.mov (.t 1)))⟩, ⟨2, (some 13), none, [], [], (.h (.ibin .add (.t 11) (.t 12)))⟩, ⟨3, (some 5), none, [], [], (.h (.mov (.t 13)))⟩] [5]) .skip)) (.seq (.reg [⟨0, (some 14), none, [], [], (.h (.mov (.t 5)))⟩, ⟨1, (some 4), none, [], [], (.h (.mov (.t 14)))⟩] [4]) .ret))))
theorem A_l8_within_comp : compF Try.prog 34 = some ⟨15, [(4, none)], A_l8_within.strip⟩ := by kernel_rfl
def A_l8_Make_L1 : CA := (.seq (.seq (.reg [⟨0, (some 21), none, [], [], (.h (.mov (.t 11)))⟩, ⟨1, (some 22), none, [], [], (.h (.mov (.t 8)))⟩, ⟨2, (some 23), none, [], [], (.h (.ibin .lss (.t 21) (.t 22)))⟩] [0, 2, 7, 8, 9, 10, 11, 23]) (.cond (.t 23) .skip (.exit 2))) (.seq (.block 3 (.seq (.reg [⟨0, (some 26), none, [], [], (.h (.mov (.t 9)))⟩, ⟨1, (some 27), none, [], [], (.h (.mov (.t 11)))⟩, ⟨2, (some 28), none, [], [], (.h (.ibin .add (.t 26) (.t 27)))⟩, ⟨3, (some 12), none, [], [], (.h (.mov (.t 28)))⟩] [0, 2, 7, 8, 9, 10, 11, 12]) (.seq (.seq (.reg [⟨0, (some 29), none, [], [], (.h (.mov (.t 9)))⟩, ⟨1, (some 30), none, [], [], (.h (.mov (.t 8)))⟩, ⟨2, (some 31), none, [], [], (.h (.ibin .mul (.t 29) (.t 30)))⟩, ⟨3, (some 32), none, [], [], (.h (.mov (.t 11)))⟩, ⟨4, (some 33), none, [], [], (.h (.ibin .add (.t 31) (.t 32)))⟩, ⟨5, (some 34), none, [], [], (.h (.mov (.t 2)))⟩, ⟨6, (some 35), none, [], [], (.h (.len (.t 34)))⟩, ⟨7, (some 36), none, [], [], (.h (.ibin .lss (.t 33) (.t 35)))⟩] [0, 2, 7, 8, 9, 10, 11, 12, 36]) (.cond (.t 36) (.reg [⟨0, (some 37), none, [], [], (.h (.mov (.t 2)))⟩, ⟨1, (some 38), none, [], [], (.h (.mov (.t 9)))⟩, ⟨2, (some 39), none, [], [], (.h (.mov (.t 8)))⟩, ⟨3, (some 40), none, [], [], (.h (.ibin .mul (.t 38) (.t 39)))⟩, ⟨4, (some 41), none, [], [], (.h (.mov (.t 11)))⟩, ⟨5, (some 42), none, [], [], (.h (.ibin .add (.t 40) (.t 41)))⟩, ⟨6, (some 43), none, [], [], (.h (.idx (.t 37) (.t 42) 1))⟩, ⟨7, (some 44), none, [], [], (.load (.t 43) 1 false)⟩, ⟨8, (some 12), none, [], [], (.h (.mov (.t 44)))⟩] [0, 2, 7, 8, 9, 10, 11, 12]) .skip)) (.reg [⟨0, (some 45), none, [], [], (.h (.mov (.t 10)))⟩, ⟨1, (some 46), none, [], [], (.h (.mov (.t 12)))⟩, ⟨2, (some 47), none, [], [], (.callA (.k (.d (.fn 34 [] []))) [(.t 46), (.k (.d (.int .i64 201)))])⟩, ⟨3, (some 48), none, [], [], (.h (.ibin .sub (.t 47) (.k (.d (.int .i64 100)))))⟩, ⟨4, (some 49), none, [], [], (.h (.i2f (.t 48)))⟩, ⟨5, (some 50), none, [], [], (.bslice [(.d (.flt 0))] 1 1 [(0, (1, (.t 49)))] 32)⟩, ⟨6, (some 51), none, [], [], (.app (.t 45) (.t 50) 1 8)⟩, ⟨7, (some 10), none, [], [], (.h (.mov (.t 51)))⟩] [0, 2, 7, 8, 9, 10, 11])))) (.reg [⟨0, (some 24), none, [], [], (.h (.mov (.t 11)))⟩, ⟨1, (some 25), none, [], [], (.h (.ibin .add (.t 24) (.k (.d (.int .i64 1)))))⟩, ⟨2, (some 11), none, [], [], (.h (.mov (.t 25)))⟩] [0, 2, 7, 8, 9, 10, 11])))
def A_l8_Make_L0 : CA := (.seq (.seq (.reg [⟨0, (some 16), none, [], [], (.h (.mov (.t 9)))⟩, ⟨1, (some 17), none, [], [], (.h (.mov (.t 0)))⟩, ⟨2, (some 18), none, [], [], (.h (.ibin .leq (.t 16) (.t 17)))⟩] [0, 2, 7, 8, 9, 18]) (.cond (.t 18) .skip (.exit 0))) (.seq (.block 1 (.seq (.reg [⟨0, (some 10), none, [], [], (.h (.mov (.k .nil)))⟩] [0, 2, 7, 8, 9, 10]) (.seq (.seq (.reg [⟨0, (some 11), none, [], [], (.h (.mov (.k (.d (.int .i64 0)))))⟩] [0, 2, 7, 8, 9, 10, 11]) (.block 2 (.loop A_l8_Make_L1))) (.reg [⟨0, (some 52), none, [], [], (.h (.mov (.t 7)))⟩, ⟨1, (some 53), none, [], [], (.h (.mov (.t 10)))⟩, ⟨2, (some 54), none, [], [], (.bslice [.nil] 1 1 [(0, (1, (.t 53)))] 31)⟩, ⟨3, (some 55), none, [], [], (.app (.t 52) (.t 54) 1 24)⟩, ⟨4, (some 7), none, [], [], (.h (.mov (.t 55)))⟩] [0, 2, 7, 8, 9])))) (.reg [⟨0, (some 19), none, [], [], (.h (.mov (.t 9)))⟩, ⟨1, (some 20), none, [], [], (.h (.ibin .add (.t 19) (.k (.d (.int .i64 1)))))⟩, ⟨2, (some 9), none, [], [], (.h (.mov (.t 20)))⟩] [0, 2, 7, 8, 9])))
def A_l8_Make : CA := (.seq (.reg [⟨0, (some 6), none, [], [], (.h (.mov (.k .nil)))⟩] [0, 1, 2]) (.seq (.reg [⟨0, (some 7), none, [], [], (.h (.mov (.k .nil)))⟩] [0, 1, 2, 7]) (.seq (.reg [⟨0, (some 13), none, [], [], (.h (.mov (.t 1)))⟩, ⟨1, (some 14), none, [], [], (.callA (.k (.d (.fn 34 [] []))) [(.t 13), (.k (.d (.int .i64 3)))])⟩, ⟨2, (some 15), none, [], [], (.h (.ibin .add (.k (.d (.int .i64 1))) (.t 14)))⟩, ⟨3, (some 8), none, [], [], (.h (.mov (.t 15)))⟩] [0, 2, 7, 8]) (.seq (.seq (.reg [⟨0, (some 9), none, [], [], (.h (.mov (.k (.d (.int .i64 0)))))⟩] [0, 2, 7, 8, 9]) (.block 0 (.loop A_l8_Make_L0))) (.seq (.reg [⟨0, (some 56), none, [], [], (.h (.mov (.t 7)))⟩, ⟨1, (some 6), none, [], [], (.h (.mov (.t 56)))⟩] [6]) .ret)))))
theorem A_l8_Make_comp : compF Try.prog 17 = some ⟨57, [(6, none)], A_l8_Make.strip⟩ := by kernel_rfl
theorem l8_within_con (a n : Int) (hn : 0 < n) (hn2 : n < 2 ^ 62) : Con Try.prog 34 [fI a, fI n] (fI (a % n)) := by
  rw [← tmod_fix a n hn]
  refine Con_introA A_l8_within_comp rfl mixed ?_
  simp -implicitDefEqProofs only [xC_skip, evS, evT, evU, hv, effC, reduceCtorEq, ↓reduceIte, Nat.reduceEqDiff, Nat.reduceAdd, Nat.reduceMul, Int.reduceToNat, Int.reduceAdd, Int.reduceSub, Int.reduceMul, Int.reduceNeg, Int.reduceLT, Int.reduceLE, Nat.reduceLT, Nat.reduceLeDiff, A_l8_within]
  refine ⟨by omega, ?_⟩
  have h1 := Int.tmod_lt_of_pos a hn
  have h6 := Int.lt_tmod_of_pos a hn
  refine condC_intro (fun h => ?_) (fun h => ?_)
  · simp -implicitDefEqProofs only [xC_skip, evS, evT, evU, hv, effC, reduceCtorEq, ↓reduceIte, Nat.reduceEqDiff, Nat.reduceAdd, Nat.reduceMul, Int.reduceToNat, Int.reduceAdd, Int.reduceSub, Int.reduceMul, Int.reduceNeg, Int.reduceLT, Int.reduceLE, Nat.reduceLT, Nat.reduceLeDiff]
    replace h := of_decide_eq_true h
    rw [wrapI (by omega) (by omega), if_pos h]
    exact endsT_rett rfl (by decide) (by simp [look])
  · replace h := of_decide_eq_false h
    simp -implicitDefEqProofs only [xC_skip, evS, evT, evU, hv, effC, reduceCtorEq, ↓reduceIte, Nat.reduceEqDiff, Nat.reduceAdd, Nat.reduceMul, Int.reduceToNat, Int.reduceAdd, Int.reduceSub, Int.reduceMul, Int.reduceNeg, Int.reduceLT, Int.reduceLE, Nat.reduceLT, Nat.reduceLeDiff]
    rw [if_neg h]
    exact endsT_rett rfl (by decide) (by simp [look])
def numZ (w : Int) : Nat := FloatKind.nearest .f64 (w % 201 - 100)
def zE (ns : List Int) (k j i : Nat) : Nat := numZ (if j * k + i < ns.length then ns.getD (j * k + i) 0 else ((j + i : Nat) : Int))
def zM (ns : List Int) (k i : Nat) : List (List Nat) := (List.range i).map fun j => tabR (zE ns k j) k
theorem zM_len (ns : List Int) (k i : Nat) : (zM ns k i).length = i := by simp [zM]
theorem zM_succ (ns : List Int) (k i : Nat) : (zM ns k (i + 1)).map rowV = (zM ns k i).map rowV ++ [rowV (tabR (zE ns k i) k)] := by simp [zM, List.range_succ]
theorem zM_row (ns : List Int) (k i j : Nat) (h : j < i) : (zM ns k i).getD j [] = tabR (zE ns k j) k := by simp [zM, List.getD_eq_getElem?_getD, h]
set_option maxRecDepth 8000 in
theorem l8_Make_ac (q n : Int) (ns : List Int) (o : Nat) (hq : q = o) (ho : o < 2 ^ 20) (hns : ns.length < 2 ^ 62) (k : Nat) (hk : k = (n % 3).toNat + 1) :
    AC Try.prog 17 [fI q, fI n, .d (rowI ns)] [] [(200, (zM ns k (o + 1)).map rowV), (100, [hdo 200 0 (o + 1) k])] (.sl 100 0 0 (o + 1) 1 (o + 1)) := by
  subst hq
  have m1 := Int.emod_nonneg n (by decide : (3 : Int) ≠ 0)
  have m2 := Int.emod_lt_of_pos n (by decide : (0 : Int) < 3)
  refine AC_introA A_l8_Make_comp rfl mixed (fun _ => False) (by simp [get_nil]) ?_
  simp -implicitDefEqProofs only [xC_skip, evS, evT, evU, hv, effC, reduceCtorEq, ↓reduceIte, Nat.reduceEqDiff, Nat.reduceAdd, Nat.reduceMul, Int.reduceToNat, Int.reduceAdd, Int.reduceSub, Int.reduceMul, Int.reduceNeg, Int.reduceLT, Int.reduceLE, Nat.reduceLT, Nat.reduceLeDiff, A_l8_Make]
  first | refine callG_con (l8_within_con n 3 (by decide) (by decide)) rfl ?_ | refine callCG_con (l8_within_con n 3 (by decide) (by decide)) rfl ?_ | refine callSG_con (l8_within_con n 3 (by decide) (by decide)) rfl ?_
  have w1 : IntKind.i64.wrap (1 + n % 3) = (k : Int) := by rw [wrapI (by omega) (by omega)]; omega
  simp -implicitDefEqProofs only [xC_skip, evS, evT, evU, hv, effC, reduceCtorEq, ↓reduceIte, Nat.reduceEqDiff, Nat.reduceAdd, Nat.reduceMul, Int.reduceToNat, Int.reduceAdd, Int.reduceSub, Int.reduceMul, Int.reduceNeg, Int.reduceLT, Int.reduceLE, Nat.reduceLT, Nat.reduceLeDiff, w1]
  refine WA_forW (n := o + 1) (fun c s => ∃ i, c + i = o + 1 ∧ s = ⟨[(0, fI o), (2, .d (rowI ns)), (7, .sl 100 0 0 i 1 i), (8, fI k), (9, fI i)], [(200, (zM ns k i).map rowV), (100, [hdo 200 0 i k])]⟩)
    (s0 := ⟨_, _⟩) (Le.trans (LeT.nilrow (X := 100) (esz := 1) (as' := [(0, fI o), (2, .d (rowI ns)), (7, .sl 100 0 0 0 1 0), (8, fI k), (9, fI 0)]) rfl (fun h => h) fun i => ?_) (LeT.empty (X := 200) (L1 := []) (by simp [fam_cons, fam_nil]))) ⟨0, by omega, rfl⟩ ?_
  · simp only [look]
    repeat' split
    all_goals simp [rowI]
  rintro c s ⟨i, hc, rfl⟩
  have hlm := zM_len ns k i
  simp -implicitDefEqProofs only [xC_skip, evS, evT, evU, hv, effC, reduceCtorEq, ↓reduceIte, Nat.reduceEqDiff, Nat.reduceAdd, Nat.reduceMul, Int.reduceToNat, Int.reduceAdd, Int.reduceSub, Int.reduceMul, Int.reduceNeg, Int.reduceLT, Int.reduceLE, Nat.reduceLT, Nat.reduceLeDiff, A_l8_Make_L0]
  refine condC_intro (fun h => ?_) (fun h => ?_)
  · replace h := of_decide_eq_true h
    simp -implicitDefEqProofs only [xC_skip, evS, evT, evU, hv, effC, reduceCtorEq, ↓reduceIte, Nat.reduceEqDiff, Nat.reduceAdd, Nat.reduceMul, Int.reduceToNat, Int.reduceAdd, Int.reduceSub, Int.reduceMul, Int.reduceNeg, Int.reduceLT, Int.reduceLE, Nat.reduceLT, Nat.reduceLeDiff]
    have hk1 : ∀ L : Heap, L.fam 200 = some ((zM ns k i).map rowV) → KpA L (hdo 200 0 i k) := fun L hL => KpA_hdoF hL (by omega)
    have hzs := zM_succ ns k i
    generalize zM ns k i = Z at hlm hk1 hzs
    have hik : i * k < 2 ^ 40 := by
      have : i * k ≤ 1048576 * 3 := Nat.mul_le_mul (by omega) (by omega)
      omega
    have hikz : (i : Int) * (k : Int) = ((i * k : Nat) : Int) := by simp
    refine WA_forW (n := k) (fun c s => ∃ m, c + m = k ∧ s = ⟨[(0, fI o), (2, .d (rowI ns)), (7, .sl 100 0 0 i 1 i), (8, fI k), (9, fI i), (10, .sl 300 0 0 m 1 m), (11, fI m)], [(300, [rowV (tabR (zE ns k i) m)]), (200, Z.map rowV), (100, [hdo 200 0 i k])]⟩)
      (s0 := ⟨_, _⟩) (LeT.nilrow (X := 300) (esz := 1) (as' := [(0, fI o), (2, .d (rowI ns)), (7, .sl 100 0 0 i 1 i), (8, fI k), (9, fI i), (10, .sl 300 0 0 0 1 0), (11, fI 0)]) (by simp [fam_cons, fam_nil]) (fun h => h) fun i => ?_) ⟨0, by omega, rfl⟩ ?_
    · simp only [look]
      repeat' split
      all_goals simp [rowI]
    rintro c' s ⟨m, hc', rfl⟩
    have htl := tabR_len (zE ns k i) m
    have w2 : IntKind.i64.wrap (((i * k : Nat) : Int) + (m : Int)) = ((i * k + m : Nat) : Int) := by rw [wrapI (by omega) (by omega)]; omega
    have w3 : IntKind.i64.wrap ((i : Int) * (k : Int)) = ((i * k : Nat) : Int) := by rw [hikz, wrapI (by omega) (by omega)]
    have w4 : IntKind.i64.wrap ((i : Int) + (m : Int)) = ((i + m : Nat) : Int) := by rw [wrapI (by omega) (by omega)]; omega
    simp -implicitDefEqProofs only [xC_skip, evS, evT, evU, hv, effC, reduceCtorEq, ↓reduceIte, Nat.reduceEqDiff, Nat.reduceAdd, Nat.reduceMul, Int.reduceToNat, Int.reduceAdd, Int.reduceSub, Int.reduceMul, Int.reduceNeg, Int.reduceLT, Int.reduceLE, Nat.reduceLT, Nat.reduceLeDiff, A_l8_Make_L1]
    refine condC_intro (fun hm => ?_) (fun hm => ?_)
    · replace hm := of_decide_eq_true hm
      simp -implicitDefEqProofs only [xC_skip, evS, evT, evU, hv, effC, reduceCtorEq, ↓reduceIte, Nat.reduceEqDiff, Nat.reduceAdd, Nat.reduceMul, Int.reduceToNat, Int.reduceAdd, Int.reduceSub, Int.reduceMul, Int.reduceNeg, Int.reduceLT, Int.reduceLE, Nat.reduceLT, Nat.reduceLeDiff, w3, w2, w4]
      have numw : ∀ k : Int, IntKind.i64.wrap (k % 201 - 100) = k % 201 - 100 := by
        intro k
        have h1 := Int.emod_nonneg k (by decide : (201 : Int) ≠ 0)
        have h2 := Int.emod_lt_of_pos k (by decide : (0 : Int) < 201)
        exact wrapI (by omega) (by omega)
      refine condC_intro (fun h3 => ?_) (fun h3 => ?_)
      · replace h3 := of_decide_eq_true h3
        simp -implicitDefEqProofs only [xC_skip, evS, evT, evU, hv, effC, reduceCtorEq, ↓reduceIte, Nat.reduceEqDiff, Nat.reduceAdd, Nat.reduceMul, Int.reduceToNat, Int.reduceAdd, Int.reduceSub, Int.reduceMul, Int.reduceNeg, Int.reduceLT, Int.reduceLE, Nat.reduceLT, Nat.reduceLeDiff, w3, w2, w4]
        (repeat (with_reducible refine And.intro (by omega) ?_))
        first | refine callG_con (l8_within_con (ns.getD (i * k + m) 0) 201 (by decide) (by decide)) rfl ?_ | refine callCG_con (l8_within_con (ns.getD (i * k + m) 0) 201 (by decide) (by decide)) rfl ?_ | refine callSG_con (l8_within_con (ns.getD (i * k + m) 0) 201 (by decide) (by decide)) rfl ?_
        simp -implicitDefEqProofs only [xC_skip, evS, evT, evU, hv, effC, reduceCtorEq, ↓reduceIte, Nat.reduceEqDiff, Nat.reduceAdd, Nat.reduceMul, Int.reduceToNat, Int.reduceAdd, Int.reduceSub, Int.reduceMul, Int.reduceNeg, Int.reduceLT, Int.reduceLE, Nat.reduceLT, Nat.reduceLeDiff, numw]
        (repeat (with_reducible refine And.intro (by omega) ?_))
        have e : rowV (tabR (zE ns k i) m) ++ [fl (FloatKind.nearest .f64 (ns.getD (i * k + m) 0 % 201 - 100))] = rowV (tabR (zE ns k i) (m + 1)) := by
          rw [show FloatKind.nearest .f64 (ns.getD (i * k + m) 0 % 201 - 100) = zE ns k i m by unfold zE; rw [if_pos h3]; rfl]
          exact (tabR_succ _ _).symm
        rw [wrapI (by omega) (by omega), e]
        exact ⟨c' - 1, _, by omega, LeT.only (fun X => decide (X ≤ 300)) (fun _ h => h) rfl (by simp (maxDischargeDepth := 6) [KpS_cons, KpS_nil, KpH_cons, KpH_nil, KpF_cons, KpF_nil, KpF_rows, KpA_cons, KpA_nil, KpA_app, KpA_rowV, KpA_rowIV, KpA_dcells, KpA_outC, Kp_any, Kp_nilv, Kp_d, Kp_ptr, Kp_sl, Kp_agg, Kp_tup, Kp_fn, get_cons, get_nil, fam_cons, fam_nil]) (by simp (maxDischargeDepth := 6) [KpS_cons, KpS_nil, KpH_cons, KpH_nil, KpF_cons, KpF_nil, KpF_rows, KpA_cons, KpA_nil, KpA_app, KpA_rowV, KpA_rowIV, KpA_dcells, KpA_outC, Kp_any, Kp_nilv, Kp_d, Kp_ptr, Kp_sl, Kp_agg, Kp_tup, Kp_fn, get_cons, get_nil, fam_cons, fam_nil, hk1]), m + 1, by omega, rfl⟩
      · replace h3 := of_decide_eq_false h3
        simp -implicitDefEqProofs only [xC_skip, evS, evT, evU, hv, effC, reduceCtorEq, ↓reduceIte, Nat.reduceEqDiff, Nat.reduceAdd, Nat.reduceMul, Int.reduceToNat, Int.reduceAdd, Int.reduceSub, Int.reduceMul, Int.reduceNeg, Int.reduceLT, Int.reduceLE, Nat.reduceLT, Nat.reduceLeDiff, w3, w2, w4]
        first | refine callG_con (l8_within_con ((i + m : Nat) : Int) 201 (by decide) (by decide)) rfl ?_ | refine callCG_con (l8_within_con ((i + m : Nat) : Int) 201 (by decide) (by decide)) rfl ?_ | refine callSG_con (l8_within_con ((i + m : Nat) : Int) 201 (by decide) (by decide)) rfl ?_
        simp -implicitDefEqProofs only [xC_skip, evS, evT, evU, hv, effC, reduceCtorEq, ↓reduceIte, Nat.reduceEqDiff, Nat.reduceAdd, Nat.reduceMul, Int.reduceToNat, Int.reduceAdd, Int.reduceSub, Int.reduceMul, Int.reduceNeg, Int.reduceLT, Int.reduceLE, Nat.reduceLT, Nat.reduceLeDiff, numw]
        (repeat (with_reducible refine And.intro (by omega) ?_))
        have e : rowV (tabR (zE ns k i) m) ++ [fl (FloatKind.nearest .f64 (((i + m : Nat) : Int) % 201 - 100))] = rowV (tabR (zE ns k i) (m + 1)) := by
          rw [show FloatKind.nearest .f64 (((i + m : Nat) : Int) % 201 - 100) = zE ns k i m by unfold zE; rw [if_neg h3]; rfl]
          exact (tabR_succ _ _).symm
        rw [wrapI (by omega) (by omega), e]
        exact ⟨c' - 1, _, by omega, LeT.only (fun X => decide (X ≤ 300)) (fun _ h => h) rfl (by simp (maxDischargeDepth := 6) [KpS_cons, KpS_nil, KpH_cons, KpH_nil, KpF_cons, KpF_nil, KpF_rows, KpA_cons, KpA_nil, KpA_app, KpA_rowV, KpA_rowIV, KpA_dcells, KpA_outC, Kp_any, Kp_nilv, Kp_d, Kp_ptr, Kp_sl, Kp_agg, Kp_tup, Kp_fn, get_cons, get_nil, fam_cons, fam_nil]) (by simp (maxDischargeDepth := 6) [KpS_cons, KpS_nil, KpH_cons, KpH_nil, KpF_cons, KpF_nil, KpF_rows, KpA_cons, KpA_nil, KpA_app, KpA_rowV, KpA_rowIV, KpA_dcells, KpA_outC, Kp_any, Kp_nilv, Kp_d, Kp_ptr, Kp_sl, Kp_agg, Kp_tup, Kp_fn, get_cons, get_nil, fam_cons, fam_nil, hk1]), m + 1, by omega, rfl⟩
    · replace hm := of_decide_eq_false hm
      have e : m = k := by omega
      subst e
      simp -implicitDefEqProofs only [xC_skip, evS, evT, evU, hv, effC, reduceCtorEq, ↓reduceIte, Nat.reduceEqDiff, Nat.reduceAdd, Nat.reduceMul, Int.reduceToNat, Int.reduceAdd, Int.reduceSub, Int.reduceMul, Int.reduceNeg, Int.reduceLT, Int.reduceLE, Nat.reduceLT, Nat.reduceLeDiff]
      (repeat (with_reducible refine And.intro (by omega) ?_))
      rw [wrapI (by omega) (by omega)]
      refine ⟨c - 1, _, by omega, ?_, i + 1, by omega, rfl⟩
      rw [hzs]
      generalize zE ns m i = f at htl
      refine Le.trans (LeT.only (L' := [(300, [rowV (tabR f m)]), (200, Z.map rowV), (100, [hdo 200 0 i m ++ [.sl 300 0 0 m 1 m]])]) (fun X => X != 303) (fun _ h => h) rfl (by simp (maxDischargeDepth := 6) [KpS_cons, KpS_nil, KpH_cons, KpH_nil, KpF_cons, KpF_nil, KpF_rows, KpA_cons, KpA_nil, KpA_app, KpA_rowV, KpA_rowIV, KpA_dcells, KpA_outC, Kp_any, Kp_nilv, Kp_d, Kp_ptr, Kp_sl, Kp_agg, Kp_tup, Kp_fn, get_cons, get_nil, fam_cons, fam_nil]) (by simp (maxDischargeDepth := 6) [KpS_cons, KpS_nil, KpH_cons, KpH_nil, KpF_cons, KpF_nil, KpF_rows, KpA_cons, KpA_nil, KpA_app, KpA_rowV, KpA_rowIV, KpA_dcells, KpA_outC, Kp_any, Kp_nilv, Kp_d, Kp_ptr, Kp_sl, Kp_agg, Kp_tup, Kp_fn, get_cons, get_nil, fam_cons, fam_nil, hk1])) ?_
      have := LeT.absorb (N := fun _ => False) (nt := 57) (Y := 300) (X := 200) (cells := rowV (tabR f m)) (fam := Z.map rowV) (L := [(100, [hdo 200 0 i m ++ [.sl 300 0 0 m 1 m]])])
        (sls := [(0, fI o), (2, .d (rowI ns)), (7, .sl 100 0 0 (i + 1) 1 (i + 1)), (8, fI m), (9, fI ((i : Int) + 1))]) (by decide) (by simp [fam_cons, fam_nil]) (by simp [fam_cons, fam_nil]) (fun h => h)
      have e2 : (Z.map rowV).length = i := by rw [List.length_map]; exact hlm
      have e3 : Heap.renH (absF 300 200 i) [(100, [hdo 200 0 i m ++ [.sl 300 0 0 m 1 m]])] = [(100, [hdo 200 0 (i + 1) m])] := by
        simp only [Heap.renH, List.map_cons, List.map_nil, hdo_absorbL 300 200 _ _ (by decide)]
      rw [e2, ren_fam, ren_rowV, e3] at this
      exact this
  · replace h := of_decide_eq_false h
    have e : i = o + 1 := by omega
    subst e
    simp -implicitDefEqProofs only [xC_skip, evS, evT, evU, hv, effC, reduceCtorEq, ↓reduceIte, Nat.reduceEqDiff, Nat.reduceAdd, Nat.reduceMul, Int.reduceToNat, Int.reduceAdd, Int.reduceSub, Int.reduceMul, Int.reduceNeg, Int.reduceLT, Int.reduceLE, Nat.reduceLT, Nat.reduceLeDiff]
    have hk1 : ∀ L : Heap, L.fam 200 = some ((zM ns k (o + 1)).map rowV) → KpA L (hdo 200 0 (o + 1) k) := fun L hL => KpA_hdoF hL (by omega)
    exact endsT_only (fun X => decide (X ≤ 200)) (fun _ h => h) (resV_tmpI (t := 6) (by decide) rfl) rfl (by simp (maxDischargeDepth := 6) [KpS_cons, KpS_nil, KpH_cons, KpH_nil, KpF_cons, KpF_nil, KpF_rows, KpA_cons, KpA_nil, KpA_app, KpA_rowV, KpA_rowIV, KpA_dcells, KpA_outC, Kp_any, Kp_nilv, Kp_d, Kp_ptr, Kp_sl, Kp_agg, Kp_tup, Kp_fn, get_cons, get_nil, fam_cons, fam_nil]) (by simp (maxDischargeDepth := 6) [KpS_cons, KpS_nil, KpH_cons, KpH_nil, KpF_cons, KpF_nil, KpF_rows, KpA_cons, KpA_nil, KpA_app, KpA_rowV, KpA_rowIV, KpA_dcells, KpA_outC, Kp_any, Kp_nilv, Kp_d, Kp_ptr, Kp_sl, Kp_agg, Kp_tup, Kp_fn, get_cons, get_nil, fam_cons, fam_nil, hk1])
theorem l8_Make_con (q n : Int) (ns : List Int) (o : Nat) (hq : q = o) (ho : o < 2 ^ 20) (hns : ns.length < 2 ^ 62) (k : Nat) (hk : k = (n % 3).toNat + 1) :
    Con Try.prog 17 [fI q, fI n, .d (rowI ns)] (.d (rowsD (zM ns k (o + 1)))) := by
  have hl := zM_len ns k (o + 1)
  refine Con_of_AC (l8_Make_ac q n ns o hq ho hns k hk) (.d (snapF_rows (X := 200) (o := 0) (len := k) (fun Y q h => by simp [get_nil] at h) (fun r hr Y q h => by simp [get_nil] at h) (by simp [get_cons]) (fun r hr => ⟨?_, ?_⟩) hl rfl))
  · unfold Heap.get
    rw [fam_cons, if_pos rfl, Nat.add_zero]
    have : r < (zM ns k (o + 1)).length := by omega
    simp [List.getD_eq_getElem?_getD, this]
  · rw [zM_row _ _ _ _ hr]; exact tabR_len _ _
end Go.Ab
