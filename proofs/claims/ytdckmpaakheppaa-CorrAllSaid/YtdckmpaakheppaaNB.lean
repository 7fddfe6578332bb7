/- What a step adds, by the reference: Bdf. -/
import Derived.Test.YtdckmpaakheppaaNA
import Derived.Test.YtdckmpaakheppaaCI
import Derived.Test.YtdckmpaakheppaaLH
import Derived.Test.YtdckmpaakheppaaJH
namespace Go.Ab
set_option linter.unusedSimpArgs false
set_option linter.unusedVariables false
open Go Go.Proofs
abbrev sB9 (z : List (List Nat)) (l w : List Nat) (h X n k : Nat) : Sl := [(1, .d (rowsD z)), (2, .d (rowD l)), (4, fI 1), (5, .d (rowD w)), (6, .ptr 0 0 0 3), (12, .ptr 1 0 0 3), (13, fl h), (14, .sl X 0 0 n 1 n), (15, .ptr 5 0 0 2), (18, fI k)]
abbrev lB9 (B : List (List Nat)) (π : List Int) (t : Tp) (R : Heap) : Heap := (5, [[.d (rowsD B), .d (rowI π)]]) :: R ++ [(1, [[.nil, fI 0, fI 0]]), (0, [[fI t.n, .d (opsD t.ops), .d (rowI t.out)]])]
theorem r9B_next (t : Tp) (z : List (List Nat)) (l : List Nat) (h : Nat) (w : List Nat) (B : List (List Nat)) (π : List Int) (g a b d x : List Nat) (k : Nat) : Le (fun _ => False) (T.s 96 ⟨sB9 z l w h 120 t.n k, (120, [rowV x]) :: (110, [rowV g]) :: (104, [rowV a]) :: (100, [rowV b]) :: lB9 B π t [(4, [rowV d])]⟩) (T.s 96 ⟨sB9 z l w h 4 t.n k, lB9 B π t [(4, [rowV x])]⟩) := by
  refine Le.trans (LeT.only (L' := (120, [rowV x]) :: lB9 B π t []) (fun X => X == 120 || X == 5 || X == 1 || X == 0) (fun _ h => h) rfl (by simp [KpS_cons, KpS_nil, KpH_cons, KpH_nil, KpF_cons, KpF_nil, KpF_rows, KpA_cons, KpA_nil, KpA_app, KpA_rowV, KpA_rowIV, KpA_dcells, KpA_outC, Kp_any, Kp_nilv, Kp_d, Kp_ptr, Kp_sl, Kp_agg, Kp_tup, Kp_fn, get_cons, get_nil]) (by simp [KpS_cons, KpS_nil, KpH_cons, KpH_nil, KpF_cons, KpF_nil, KpF_rows, KpA_cons, KpA_nil, KpA_app, KpA_rowV, KpA_rowIV, KpA_dcells, KpA_outC, Kp_any, Kp_nilv, Kp_d, Kp_ptr, Kp_sl, Kp_agg, Kp_tup, Kp_fn, get_cons, get_nil])) ?_
  refine Le.trans (LeT.move 4 (by decide) (by simp [fam_cons, fam_nil]) (by simp [fam_cons, fam_nil]) (fun h => h)) ?_
  have e : renS (absF 120 4 0) (sB9 z l w h 120 t.n k) = sB9 z l w h 4 t.n k := by
    simp [renS, V.ren, V.renL, absF]
  have e2 : Heap.renH (absF 120 4 0) (lB9 B π t []) = lB9 B π t [] := by
    simp [Heap.renH, V.ren, absF]
  rw [e, e2, ren_rowV]
  exact LeT.perm (fun _ h => h) (fun X => .inr (by simp only [fam_cons, fam_nil, List.cons_append, List.nil_append]; grind)) (by simp [KpS_cons, KpS_nil, KpH_cons, KpH_nil, KpF_cons, KpF_nil, KpF_rows, KpA_cons, KpA_nil, KpA_app, KpA_rowV, KpA_rowIV, KpA_dcells, KpA_outC, Kp_any, Kp_nilv, Kp_d, Kp_ptr, Kp_sl, Kp_agg, Kp_tup, Kp_fn, get_cons, get_nil]) (by simp [KpS_cons, KpS_nil, KpH_cons, KpH_nil, KpF_cons, KpF_nil, KpF_rows, KpA_cons, KpA_nil, KpA_app, KpA_rowV, KpA_rowIV, KpA_dcells, KpA_outC, Kp_any, Kp_nilv, Kp_d, Kp_ptr, Kp_sl, Kp_agg, Kp_tup, Kp_fn, get_cons, get_nil])
set_option maxRecDepth 8000 in
theorem r9B_gen (L' : Heap) (r : V) (t : Tp) (z : List (List Nat)) (l : List Nat) (w : List Nat) (step : Int) (h : Nat) (hh : fop .div (FloatKind.nearest .f64 step) 4742290407621132288 = h)
    (h1 : ∀ k g, g.length = t.n → solB t z l h w = (g, k, 0) → r = .agg [.sl 120 0 0 t.n 1 t.n, fI k, fI 0] ∧ L' = [(120, [rowV g])])
    (h2 : ∀ k e, solB t z l h w = ([], k, e) → e ≠ 0 → r = .agg [.nil, fI k, fI e] ∧ L' = []) (hn0 : 0 < t.n) (ok : Sok t z l w (List.replicate t.n 0)) :
    AC Try.prog 21 [tapeV t, .d (rowsD z), .d (rowD l), fI step, fI 1, .d (rowD w)] [] L' r := by
  obtain ⟨ht, hz, hzl, hl, hw, hd⟩ := ok
  have hn := ht.n
  have hsq := matT_sq t z l h
  refine AC_introA A_r9_Solve_comp rfl mixed (fun _ => False) (by simp [get_nil]) ?_
  simp -implicitDefEqProofs only [xC_skip, evS, evT, evU, hv, effC, reduceCtorEq, ↓reduceIte, Nat.reduceEqDiff, Nat.reduceAdd, Nat.reduceMul, Int.reduceToNat, Int.reduceAdd, Int.reduceSub, Int.reduceMul, Int.reduceNeg, Int.reduceLT, Int.reduceLE, Nat.reduceLT, Nat.reduceLeDiff, A_r9_Solve]
  first | refine callG_con (r8_H_con step) rfl ?_ | refine callCG_con (r8_H_con step) rfl ?_ | refine callSG_con (r8_H_con step) rfl ?_
  simp -implicitDefEqProofs only [xC_skip, evS, evT, evU, hv, effC, reduceCtorEq, ↓reduceIte, Nat.reduceEqDiff, Nat.reduceAdd, Nat.reduceMul, Int.reduceToNat, Int.reduceAdd, Int.reduceSub, Int.reduceMul, Int.reduceNeg, Int.reduceLT, Int.reduceLE, Nat.reduceLT, Nat.reduceLeDiff]
  (repeat (with_reducible refine And.intro (by omega) ?_))
  rw [hh]
  obtain hp | ⟨⟨B, π⟩, hp⟩ : partP (matT t z l h) t.n t.n = none ∨ ∃ s, partP (matT t z l h) t.n t.n = some s := by cases partP (matT t z l h) t.n t.n <;> simp
  · have he : solB t z l h w = ([], 0, 4) := by unfold solB; rw [hp]
    obtain ⟨rfl, rfl⟩ := h2 0 4 he (by decide)
    first | refine callG_con (r9_newton_none t z l h ht hn0 hz (hzl 0 (by omega)) hp) rfl ?_ | refine callCG_con (r9_newton_none t z l h ht hn0 hz (hzl 0 (by omega)) hp) rfl ?_ | refine callSG_con (r9_newton_none t z l h ht hn0 hz (hzl 0 (by omega)) hp) rfl ?_
    simp -implicitDefEqProofs only [xC_skip, evS, evT, evU, hv, effC, reduceCtorEq, ↓reduceIte, Nat.reduceEqDiff, Nat.reduceAdd, Nat.reduceMul, Int.reduceToNat, Int.reduceAdd, Int.reduceSub, Int.reduceMul, Int.reduceNeg, Int.reduceLT, Int.reduceLE, Nat.reduceLT, Nat.reduceLeDiff, Bool.not_false]
    exact endsT_only (fun _ => false) (fun _ h => h) (resV_cellI (by decide) rfl rfl rfl (by simp) rfl) rfl (by simp [KpS_cons, KpS_nil, KpH_cons, KpH_nil, KpF_cons, KpF_nil, KpF_rows, KpA_cons, KpA_nil, KpA_app, KpA_rowV, KpA_rowIV, KpA_dcells, KpA_outC, Kp_any, Kp_nilv, Kp_d, Kp_ptr, Kp_sl, Kp_agg, Kp_tup, Kp_fn, get_cons, get_nil]) (by simp [KpS_cons, KpS_nil, KpH_cons, KpH_nil, KpF_cons, KpF_nil, KpF_rows, KpA_cons, KpA_nil, KpA_app, KpA_rowV, KpA_rowIV, KpA_dcells, KpA_outC, Kp_any, Kp_nilv, Kp_d, Kp_ptr, Kp_sl, Kp_agg, Kp_tup, Kp_fn, get_cons, get_nil])
  · obtain ⟨hB, hπl⟩ := partP_sq _ _ hsq t.n (Nat.le_refl _) B π hp
    have hπ := partP_pmB _ _ t.n (Nat.le_refl _) B π hp
    have he : solB t z l h w = seek (tryB t z l h w B π) 4 1 (List.replicate t.n 0) := by unfold solB; rw [hp]
    first | refine callG_con (r9_newton_some t z l h ht hn0 hz (hzl 0 (by omega)) B π hp) rfl ?_ | refine callCG_con (r9_newton_some t z l h ht hn0 hz (hzl 0 (by omega)) B π hp) rfl ?_ | refine callSG_con (r9_newton_some t z l h ht hn0 hz (hzl 0 (by omega)) B π hp) rfl ?_
    simp -implicitDefEqProofs only [xC_skip, evS, evT, evU, hv, effC, reduceCtorEq, ↓reduceIte, Nat.reduceEqDiff, Nat.reduceAdd, Nat.reduceMul, Int.reduceToNat, Int.reduceAdd, Int.reduceSub, Int.reduceMul, Int.reduceNeg, Int.reduceLT, Int.reduceLE, Nat.reduceLT, Nat.reduceLeDiff, Bool.not_true]
    rw [he] at h1 h2
    clear he
    generalize List.replicate t.n 0 = d0 at h1 h2 hd
    refine WA_forW (n := 4) (fun c s => ∃ (k : Nat) (d : List Nat), c + k = 5 ∧ (1 ≤ k ∧ k ≤ 4) ∧ d.length = t.n ∧ seek (tryB t z l h w B π) c k d = seek (tryB t z l h w B π) 4 1 d0 ∧ s = ⟨sB9 z l w h 4 t.n k, lB9 B π t [(4, [rowV d])]⟩) (LeT.only (fun X => decide (X ≤ 5)) (fun _ h => h) rfl (by simp [KpS_cons, KpS_nil, KpH_cons, KpH_nil, KpF_cons, KpF_nil, KpF_rows, KpA_cons, KpA_nil, KpA_app, KpA_rowV, KpA_rowIV, KpA_dcells, KpA_outC, Kp_any, Kp_nilv, Kp_d, Kp_ptr, Kp_sl, Kp_agg, Kp_tup, Kp_fn, get_cons, get_nil]) (by simp [KpS_cons, KpS_nil, KpH_cons, KpH_nil, KpF_cons, KpF_nil, KpF_rows, KpA_cons, KpA_nil, KpA_app, KpA_rowV, KpA_rowIV, KpA_dcells, KpA_outC, Kp_any, Kp_nilv, Kp_d, Kp_ptr, Kp_sl, Kp_agg, Kp_tup, Kp_fn, get_cons, get_nil])) ⟨1, _, by omega, by omega, hd, rfl, rfl⟩ ?_
    rintro c s ⟨k, d, hc, hk, hdl, he, rfl⟩
    obtain ⟨f, rfl⟩ : ∃ f, c = f + 1 := ⟨c - 1, by omega⟩
    rw [seekB_succ] at he
    simp -implicitDefEqProofs only [xC_skip, evS, evT, evU, hv, effC, reduceCtorEq, ↓reduceIte, Nat.reduceEqDiff, Nat.reduceAdd, Nat.reduceMul, Int.reduceToNat, Int.reduceAdd, Int.reduceSub, Int.reduceMul, Int.reduceNeg, Int.reduceLT, Int.reduceLE, Nat.reduceLT, Nat.reduceLeDiff, A_r9_Solve_L0]
    (repeat (with_reducible refine And.intro (by omega) ?_))
    have okd : Sok t z l w d := ⟨ht, hz, hzl, hl, hw, hdl⟩
    have hgl : (gS t z l h d).length = t.n := tabR_len _ _
    refine callG_row 100 [tapeV t, .d (rowsD z), fl (l.getD 0 0), fl h, .d (rowD d)] (by simp [Heap.next]) (r9_left_ac t z l h w d okd) ⟨.aggs ⟨.bare _, .bare _, .bare _, trivial⟩, .bare _, .bare _, .bare _, snp_row rfl hdl rfl, trivial⟩ ?_
    simp -implicitDefEqProofs only [xC_skip, evS, evT, evU, hv, effC, reduceCtorEq, ↓reduceIte, Nat.reduceEqDiff, Nat.reduceAdd, Nat.reduceMul, Int.reduceToNat, Int.reduceAdd, Int.reduceSub, Int.reduceMul, Int.reduceNeg, Int.reduceLT, Int.reduceLE, Nat.reduceLT, Nat.reduceLeDiff]
    have hml : (gdS t z l h d).length = t.n := tabR_len _ _
    have hxl : (xB t z l h B π d).length = t.n := solveP_len _ _ _ _
    have hbl : (dB t z l h B π d).length = t.n := tabR_len _ _
    refine callS_row _ (r9_minus_ac _ _ t.n hgl hdl (by omega)) ⟨snp_row rfl hgl rfl, snp_row rfl hdl rfl, trivial⟩ rfl ?_
    simp -implicitDefEqProofs only [xC_skip, evS, evT, evU, hv, effC, reduceCtorEq, ↓reduceIte, Nat.reduceEqDiff, Nat.reduceAdd, Nat.reduceMul, Int.reduceToNat, Int.reduceAdd, Int.reduceSub, Int.reduceMul, Int.reduceNeg, Int.reduceLT, Int.reduceLE, Nat.reduceLT, Nat.reduceLeDiff]
    rw [show tabR (fun i => fop .sub ((gS t z l h d).getD i 0) (d.getD i 0)) t.n = gdS t z l h d from rfl]
    refine callG_row 110 [.agg [.d (rowsD B), .d (rowI π)], .d (rowD (gdS t z l h d))] (by simp [Heap.next]) (AC_row0 (r6_Solve_row B π (gdS t z l h d) t.n hB hπ hml (by omega))) ⟨.aggs ⟨.bare _, .bare _, trivial⟩, snp_row rfl hml rfl, trivial⟩ ?_
    rw [show solveP B π (gdS t z l h d) t.n = xB t z l h B π d from rfl]
    simp -implicitDefEqProofs only [xC_skip, evS, evT, evU, hv, effC, reduceCtorEq, ↓reduceIte, Nat.reduceEqDiff, Nat.reduceAdd, Nat.reduceMul, Int.reduceToNat, Int.reduceAdd, Int.reduceSub, Int.reduceMul, Int.reduceNeg, Int.reduceLT, Int.reduceLE, Nat.reduceLT, Nat.reduceLeDiff]
    refine callG_row 120 [.d (rowD d), .d (rowD (xB t z l h B π d))] (by simp [Heap.next]) (r9_plus_ac d _ t.n hdl hxl (by omega)) ⟨snp_row rfl hdl rfl, snp_row rfl hxl rfl, trivial⟩ ?_
    rw [show tabR (fun i => fop .add (d.getD i 0) ((xB t z l h B π d).getD i 0)) t.n = dB t z l h B π d from rfl]
    simp -implicitDefEqProofs only [xC_skip, evS, evT, evU, hv, effC, reduceCtorEq, ↓reduceIte, Nat.reduceEqDiff, Nat.reduceAdd, Nat.reduceMul, Int.reduceToNat, Int.reduceAdd, Int.reduceSub, Int.reduceMul, Int.reduceNeg, Int.reduceLT, Int.reduceLE, Nat.reduceLT, Nat.reduceLeDiff]
    refine callG_snaps [.d (rowD (xB t z l h B π d)), .d (rowD w)] (r9_Size_con _ w (by omega) (by omega)) ⟨snp_row rfl hxl rfl, .bare _, trivial⟩ (.flt _) ?_
    simp -implicitDefEqProofs only [xC_skip, evS, evT, evU, hv, effC, reduceCtorEq, ↓reduceIte, Nat.reduceEqDiff, Nat.reduceAdd, Nat.reduceMul, Int.reduceToNat, Int.reduceAdd, Int.reduceSub, Int.reduceMul, Int.reduceNeg, Int.reduceLT, Int.reduceLE, Nat.reduceLT, Nat.reduceLeDiff]
    generalize hsz : szP (xB t z l h B π d) w = q at he ⊢
    refine WA_for (n := t.n) (fun c' s => ∃ i, c' + i = t.n ∧ (∀ j, j < i → finite ((dB t z l h B π d).getD j 0) = true) ∧ s = ⟨sB9 z l w h 120 t.n k ++ [(20, fl q), (22, fI i)], (120, [rowV (dB t z l h B π d)]) :: (110, [rowV (xB t z l h B π d)]) :: (104, [rowV (gdS t z l h d)]) :: (100, [rowV (gS t z l h d)]) :: lB9 B π t [(4, [rowV d])]⟩) ⟨0, by omega, fun j hj => by omega, rfl⟩ ?_
    rintro c' s ⟨i, hc', hf, rfl⟩
    simp -implicitDefEqProofs only [xC_skip, evS, evT, evU, hv, effC, reduceCtorEq, ↓reduceIte, Nat.reduceEqDiff, Nat.reduceAdd, Nat.reduceMul, Int.reduceToNat, Int.reduceAdd, Int.reduceSub, Int.reduceMul, Int.reduceNeg, Int.reduceLT, Int.reduceLE, Nat.reduceLT, Nat.reduceLeDiff, A_r9_Solve_L1]
    refine condC_intro (fun hi => ?_) (fun hi => ?_)
    · replace hi := of_decide_eq_true hi
      have ga : (rowV (dB t z l h B π d)).getD i .any = fl ((dB t z l h B π d).getD i 0) := getD_map_fl _ _ (by omega)
      simp -implicitDefEqProofs only [xC_skip, evS, evT, evU, hv, effC, reduceCtorEq, ↓reduceIte, Nat.reduceEqDiff, Nat.reduceAdd, Nat.reduceMul, Int.reduceToNat, Int.reduceAdd, Int.reduceSub, Int.reduceMul, Int.reduceNeg, Int.reduceLT, Int.reduceLE, Nat.reduceLT, Nat.reduceLeDiff, ga]
      (repeat (with_reducible refine And.intro (by omega) ?_))
      first | refine callG_con (r1_Finite_con ((dB t z l h B π d).getD i 0)) rfl ?_ | refine callCG_con (r1_Finite_con ((dB t z l h B π d).getD i 0)) rfl ?_ | refine callSG_con (r1_Finite_con ((dB t z l h B π d).getD i 0)) rfl ?_
      simp -implicitDefEqProofs only [xC_skip, evS, evT, evU, hv, effC, reduceCtorEq, ↓reduceIte, Nat.reduceEqDiff, Nat.reduceAdd, Nat.reduceMul, Int.reduceToNat, Int.reduceAdd, Int.reduceSub, Int.reduceMul, Int.reduceNeg, Int.reduceLT, Int.reduceLE, Nat.reduceLT, Nat.reduceLeDiff, finite_sub]
      cases hfi : finite ((dB t z l h B π d).getD i 0)
      · have hna := fin_not i (by omega) hfi
        rw [if_pos hna] at he
        simp -implicitDefEqProofs only [xC_skip, evS, evT, evU, hv, effC, reduceCtorEq, ↓reduceIte, Nat.reduceEqDiff, Nat.reduceAdd, Nat.reduceMul, Int.reduceToNat, Int.reduceAdd, Int.reduceSub, Int.reduceMul, Int.reduceNeg, Int.reduceLT, Int.reduceLE, Nat.reduceLT, Nat.reduceLeDiff, Bool.not_false]
        obtain ⟨rfl, rfl⟩ := h2 k 2 he.symm (by decide)
        exact endsT_only (fun _ => false) (fun _ h => h) (resV_cellI (by decide) rfl rfl rfl (by simp) rfl) rfl (by simp [KpS_cons, KpS_nil, KpH_cons, KpH_nil, KpF_cons, KpF_nil, KpF_rows, KpA_cons, KpA_nil, KpA_app, KpA_rowV, KpA_rowIV, KpA_dcells, KpA_outC, Kp_any, Kp_nilv, Kp_d, Kp_ptr, Kp_sl, Kp_agg, Kp_tup, Kp_fn, get_cons, get_nil]) (by simp [KpS_cons, KpS_nil, KpH_cons, KpH_nil, KpF_cons, KpF_nil, KpF_rows, KpA_cons, KpA_nil, KpA_app, KpA_rowV, KpA_rowIV, KpA_dcells, KpA_outC, Kp_any, Kp_nilv, Kp_d, Kp_ptr, Kp_sl, Kp_agg, Kp_tup, Kp_fn, get_cons, get_nil])
      · simp -implicitDefEqProofs only [xC_skip, evS, evT, evU, hv, effC, reduceCtorEq, ↓reduceIte, Nat.reduceEqDiff, Nat.reduceAdd, Nat.reduceMul, Int.reduceToNat, Int.reduceAdd, Int.reduceSub, Int.reduceMul, Int.reduceNeg, Int.reduceLT, Int.reduceLE, Nat.reduceLT, Nat.reduceLeDiff, Bool.not_true]
        rw [wrapI (by omega) (by omega)]
        exact ⟨c' - 1, by omega, i + 1, by omega, fun j hj => by rcases Nat.lt_succ_iff_lt_or_eq.1 hj with h1 | rfl; exact hf j h1; exact hfi, rfl⟩
    · replace hi := of_decide_eq_false hi
      have hfa := fin_of (d := dB t z l h B π d) fun j hj => hf j (by omega)
      rw [if_neg (by rw [hfa]; decide)] at he
      simp -implicitDefEqProofs only [xC_skip, evS, evT, evU, hv, effC, reduceCtorEq, ↓reduceIte, Nat.reduceEqDiff, Nat.reduceAdd, Nat.reduceMul, Int.reduceToNat, Int.reduceAdd, Int.reduceSub, Int.reduceMul, Int.reduceNeg, Int.reduceLT, Int.reduceLE, Nat.reduceLT, Nat.reduceLeDiff]
      cases hle : fcmp .le q 4562146422526312448
      · rw [if_neg (by rw [hle]; decide)] at he
        simp -implicitDefEqProofs only [xC_skip, evS, evT, evU, hv, effC, reduceCtorEq, ↓reduceIte, Nat.reduceEqDiff, Nat.reduceAdd, Nat.reduceMul, Int.reduceToNat, Int.reduceAdd, Int.reduceSub, Int.reduceMul, Int.reduceNeg, Int.reduceLT, Int.reduceLE, Nat.reduceLT, Nat.reduceLeDiff]
        by_cases h4 : 4 ≤ k
        · rw [if_pos h4] at he
          have hk4 : k = 4 := by omega
          subst hk4
          simp -implicitDefEqProofs only [xC_skip, evS, evT, evU, hv, effC, reduceCtorEq, ↓reduceIte, Nat.reduceEqDiff, Nat.reduceAdd, Nat.reduceMul, Int.reduceToNat, Int.reduceAdd, Int.reduceSub, Int.reduceMul, Int.reduceNeg, Int.reduceLT, Int.reduceLE, Nat.reduceLT, Nat.reduceLeDiff]
          obtain ⟨rfl, rfl⟩ := h2 4 6 he.symm (by decide)
          exact endsT_only (fun _ => false) (fun _ h => h) (resV_cellI (by decide) rfl rfl rfl (by simp) rfl) rfl (by simp [KpS_cons, KpS_nil, KpH_cons, KpH_nil, KpF_cons, KpF_nil, KpF_rows, KpA_cons, KpA_nil, KpA_app, KpA_rowV, KpA_rowIV, KpA_dcells, KpA_outC, Kp_any, Kp_nilv, Kp_d, Kp_ptr, Kp_sl, Kp_agg, Kp_tup, Kp_fn, get_cons, get_nil]) (by simp [KpS_cons, KpS_nil, KpH_cons, KpH_nil, KpF_cons, KpF_nil, KpF_rows, KpA_cons, KpA_nil, KpA_app, KpA_rowV, KpA_rowIV, KpA_dcells, KpA_outC, Kp_any, Kp_nilv, Kp_d, Kp_ptr, Kp_sl, Kp_agg, Kp_tup, Kp_fn, get_cons, get_nil])
        · rw [if_neg h4] at he
          have h4' : ((k : Int) == 4) = false := by simp; omega
          simp -implicitDefEqProofs only [xC_skip, evS, evT, evU, hv, effC, reduceCtorEq, ↓reduceIte, Nat.reduceEqDiff, Nat.reduceAdd, Nat.reduceMul, Int.reduceToNat, Int.reduceAdd, Int.reduceSub, Int.reduceMul, Int.reduceNeg, Int.reduceLT, Int.reduceLE, Nat.reduceLT, Nat.reduceLeDiff, h4']
          rw [wrapI (by omega) (by omega)]
          exact ⟨f, _, by omega, r9B_next t z l h w B π _ _ _ d _ (k + 1), k + 1, _, by omega, by omega, hbl, he, rfl⟩
      · rw [if_pos hle] at he
        simp -implicitDefEqProofs only [xC_skip, evS, evT, evU, hv, effC, reduceCtorEq, ↓reduceIte, Nat.reduceEqDiff, Nat.reduceAdd, Nat.reduceMul, Int.reduceToNat, Int.reduceAdd, Int.reduceSub, Int.reduceMul, Int.reduceNeg, Int.reduceLT, Int.reduceLE, Nat.reduceLT, Nat.reduceLeDiff]
        obtain ⟨rfl, rfl⟩ := h1 k _ hbl he.symm
        exact endsT_only (fun X => X == 120) (fun _ h => h) (resV_cellI (by decide) rfl rfl rfl (by simp) rfl) rfl (by simp [KpS_cons, KpS_nil, KpH_cons, KpH_nil, KpF_cons, KpF_nil, KpF_rows, KpA_cons, KpA_nil, KpA_app, KpA_rowV, KpA_rowIV, KpA_dcells, KpA_outC, Kp_any, Kp_nilv, Kp_d, Kp_ptr, Kp_sl, Kp_agg, Kp_tup, Kp_fn, get_cons, get_nil]) (by simp [KpS_cons, KpS_nil, KpH_cons, KpH_nil, KpF_cons, KpF_nil, KpF_rows, KpA_cons, KpA_nil, KpA_app, KpA_rowV, KpA_rowIV, KpA_dcells, KpA_outC, Kp_any, Kp_nilv, Kp_d, Kp_ptr, Kp_sl, Kp_agg, Kp_tup, Kp_fn, get_cons, get_nil])
/-- The reference's step, by either method. -/
theorem r9_SolveG_ok (t : Tp) (z : List (List Nat)) (l : List Nat) (h : Nat) (w : List Nat) (step : Int) (m : Int) (hn0 : 0 < t.n) (ok : Sok t z l w (List.replicate t.n 0)) (hh : fop .div (FloatKind.nearest .f64 step) 4742290407621132288 = h)
    (g : List Nat) (k : Nat) (hg : solG t z l h w m = (g, k, 0)) : AC Try.prog 21 [tapeV t, .d (rowsD z), .d (rowD l), fI step, fI m, .d (rowD w)] [] [(0, [rowV g])] (.agg [.sl 0 0 0 t.n 1 t.n, fI k, fI 0]) := by
  unfold solG at hg
  split at hg
  · rename_i e
    subst e
    refine AC_sum0 (X := 120) (r9B_gen _ _ t z l w step h hh (fun k' g' _ he => ?_) (fun k' e he hne => ?_) hn0 ok)
    · rw [hg] at he
      simp only [Prod.mk.injEq] at he
      obtain ⟨rfl, rfl, _⟩ := he
      exact ⟨rfl, rfl⟩
    · rw [hg] at he
      simp only [Prod.mk.injEq] at he
      exact absurd he.2.2.symm hne
  · rename_i e
    refine AC_sum0 (X := 100) (r9_sol_gen _ _ t z l w step m e h hh (fun k' g' _ he => ?_) (fun k' e he hne => ?_) ok)
    · rw [hg] at he
      simp only [Prod.mk.injEq] at he
      obtain ⟨rfl, rfl, _⟩ := he
      exact ⟨rfl, rfl⟩
    · rw [hg] at he
      simp only [Prod.mk.injEq] at he
      exact absurd he.2.2.symm hne
theorem r9_SolveG_no (t : Tp) (z : List (List Nat)) (l : List Nat) (h : Nat) (w : List Nat) (step : Int) (m : Int) (hn0 : 0 < t.n) (ok : Sok t z l w (List.replicate t.n 0)) (hh : fop .div (FloatKind.nearest .f64 step) 4742290407621132288 = h)
    (k : Nat) (e : Int) (hne : e ≠ 0) (hg : solG t z l h w m = ([], k, e)) : AC Try.prog 21 [tapeV t, .d (rowsD z), .d (rowD l), fI step, fI m, .d (rowD w)] [] [] (.agg [.nil, fI k, fI e]) := by
  unfold solG at hg
  split at hg
  · rename_i e
    subst e
    refine r9B_gen _ _ t z l w step h hh (fun k' g' _ he => ?_) (fun k' e' he hne' => ?_) hn0 ok
    · rw [hg] at he
      simp only [Prod.mk.injEq] at he
      exact absurd he.2.2 hne
    · rw [hg] at he
      simp only [Prod.mk.injEq] at he
      obtain ⟨_, rfl, rfl⟩ := he
      exact ⟨rfl, rfl⟩
  · rename_i e'
    refine r9_sol_gen _ _ t z l w step m e' h hh (fun k' g' _ he => ?_) (fun k' e' he hne' => ?_) ok
    · rw [hg] at he
      simp only [Prod.mk.injEq] at he
      exact absurd he.2.2 hne
    · rw [hg] at he
      simp only [Prod.mk.injEq] at he
      obtain ⟨_, rfl, rfl⟩ := he
      exact ⟨rfl, rfl⟩
end Go.Ab
