/- Bdf: one try. -/
import Derived.Test.YtdckmpaakheppaaJE
namespace Go.Ab
set_option linter.unusedSimpArgs false
set_option linter.unusedVariables false
open Go Go.Proofs
def A_corr_solver_bdf_1 : CA := (.seq (.reg [⟨0, (some 4), none, [], [], (.h (.mov (.k (.d (.flt 0)))))⟩] [0, 1, 2]) (.seq (.reg [⟨0, (some 5), none, [], [], (.load (.t 1) 1 false)⟩, ⟨1, (some 6), none, [], [], (.h (.mov (.t 0)))⟩, ⟨2, (some 7), none, [], [], (.h (.idx (.t 5) (.t 6) 1))⟩, ⟨3, (some 8), none, [], [], (.load (.t 7) 1 false)⟩, ⟨4, (some 9), none, [], [], (.load (.t 2) 1 false)⟩, ⟨5, (some 10), none, [], [], (.h (.nilck (.t 9)))⟩, ⟨6, (some 11), none, [], [], (.h (.padd (.t 10) 8))⟩, ⟨7, (some 12), none, [], [], (.load (.t 11) 1 false)⟩, ⟨8, (some 13), none, [], [], (.h (.mov (.t 0)))⟩, ⟨9, (some 14), none, [], [], (.h (.idx (.t 12) (.t 13) 1))⟩, ⟨10, (some 15), none, [], [], (.load (.t 14) 1 false)⟩, ⟨11, (some 16), none, [], [], (.h (.fbin .sub (.t 8) (.t 15)))⟩, ⟨12, (some 4), none, [], [], (.h (.mov (.t 16)))⟩] [4]) .ret))
theorem A_corr_solver_bdf_1_comp : compF Try.prog 70 = some ⟨17, [(4, none)], A_corr_solver_bdf_1.strip⟩ := by kernel_rfl
def A_corr_solver_bdf_2 : CA := (.seq (.reg [⟨0, (some 4), none, [], [], (.h (.mov (.k (.d (.flt 0)))))⟩] [0, 1, 2]) (.seq (.reg [⟨0, (some 5), none, [], [], (.load (.t 1) 1 false)⟩, ⟨1, (some 6), none, [], [], (.h (.mov (.t 0)))⟩, ⟨2, (some 7), none, [], [], (.h (.idx (.t 5) (.t 6) 1))⟩, ⟨3, (some 8), none, [], [], (.load (.t 7) 1 false)⟩, ⟨4, (some 9), none, [], [], (.load (.t 2) 1 false)⟩, ⟨5, (some 10), none, [], [], (.h (.mov (.t 0)))⟩, ⟨6, (some 11), none, [], [], (.h (.idx (.t 9) (.t 10) 1))⟩, ⟨7, (some 12), none, [], [], (.load (.t 11) 1 false)⟩, ⟨8, (some 13), none, [], [], (.h (.fbin .add (.t 8) (.t 12)))⟩, ⟨9, (some 4), none, [], [], (.h (.mov (.t 13)))⟩] [4]) .ret))
theorem A_corr_solver_bdf_2_comp : compF Try.prog 71 = some ⟨14, [(4, none)], A_corr_solver_bdf_2.strip⟩ := by kernel_rfl
def A_corr_solver_bdf : CA := (.seq (.reg [⟨0, (some 1), none, [], [], (.box (.t 0) 1 67)⟩, ⟨1, (some 2), none, [], [], (.h (.mov (.k (.d (.flt 0)))))⟩] [1]) (.seq (.reg [⟨0, (some 6), none, [], [], (.load (.t 1) 1 false)⟩, ⟨1, (some 7), none, [], [], (.callA (.k (.d (.fn 59 [] []))) [(.t 6)])⟩, ⟨2, (some 3), none, [], [], (.alloc [.nil] 31)⟩, ⟨3, none, none, [], [], (.store (.t 3) (.t 7) 1)⟩] [1, 3]) (.seq (.reg [⟨0, (some 8), none, [], [], (.load (.t 1) 1 false)⟩, ⟨1, (some 9), none, [], [], (.h (.nilck (.t 8)))⟩, ⟨2, (some 10), none, [], [], (.h (.padd (.t 9) 9))⟩, ⟨3, (some 11), none, [], [], (.load (.t 10) 2 true)⟩, ⟨4, (some 12), none, [], [], (.load (.t 1) 1 false)⟩, ⟨5, (some 13), none, [], [], (.h (.nilck (.t 12)))⟩, ⟨6, (some 14), none, [], [], (.h (.padd (.t 13) 0))⟩, ⟨7, (some 15), none, [], [], (.load (.t 14) 1 true)⟩, ⟨8, (some 16), none, [], [], (.h (.mkfn 70 [] [(.t 3), (.t 1)]))⟩, ⟨9, (some 17), none, [], [], (.callS 9 (.k (.d (.fn 60 [] []))) [(.t 15), (.t 16)])⟩, ⟨10, (some 18), none, [], [], (.callS 0 (.k (.d (.fn 69 [] []))) [(.t 11), (.t 17)])⟩, ⟨11, (some 4), none, [], [], (.alloc [.nil] 31)⟩, ⟨12, none, none, [], [], (.store (.t 4) (.t 18) 1)⟩] [1, 4]) (.seq (.reg [⟨0, (some 19), none, [], [], (.load (.t 1) 1 false)⟩, ⟨1, (some 20), none, [], [], (.h (.nilck (.t 19)))⟩, ⟨2, (some 21), none, [], [], (.h (.padd (.t 20) 8))⟩, ⟨3, (some 22), none, [], [], (.load (.t 21) 1 false)⟩, ⟨4, (some 5), none, [], [], (.alloc [.nil] 31)⟩, ⟨5, none, none, [], [], (.store (.t 5) (.t 22) 1)⟩] [1, 4, 5]) (.seq (.reg [⟨0, (some 23), none, [], [], (.load (.t 1) 1 false)⟩, ⟨1, (some 24), none, [], [], (.load (.t 1) 1 false)⟩, ⟨2, (some 25), none, [], [], (.h (.nilck (.t 24)))⟩, ⟨3, (some 26), none, [], [], (.h (.padd (.t 25) 0))⟩, ⟨4, (some 27), none, [], [], (.load (.t 26) 1 true)⟩, ⟨5, (some 28), none, [], [], (.h (.mkfn 71 [] [(.t 5), (.t 4)]))⟩, ⟨6, (some 29), none, [], [], (.callS 6 (.k (.d (.fn 60 [] []))) [(.t 27), (.t 28)])⟩, ⟨7, (some 30), none, [], [], (.h (.nilck (.t 23)))⟩, ⟨8, (some 31), none, [], [], (.h (.padd (.t 30) 8))⟩, ⟨9, none, none, [], [], (.store (.t 31) (.t 29) 1)⟩] [1, 4]) (.seq (.reg [⟨0, (some 32), none, [], [], (.load (.t 4) 1 false)⟩, ⟨1, (some 33), none, [], [], (.load (.t 1) 1 false)⟩, ⟨2, (some 34), none, [], [], (.h (.nilck (.t 33)))⟩, ⟨3, (some 35), none, [], [], (.h (.padd (.t 34) 7))⟩, ⟨4, (some 36), none, [], [], (.load (.t 35) 1 false)⟩, ⟨5, (some 37), none, [], [], (.callA (.k (.d (.fn 23 [] []))) [(.t 32), (.t 36)])⟩, ⟨6, (some 2), none, [], [], (.h (.mov (.t 37)))⟩] [2]) .ret))))))
theorem A_corr_solver_bdf_comp : compF Try.prog 40 = some ⟨38, [(2, none)], A_corr_solver_bdf.strip⟩ := by kernel_rfl
def gdS (t : Tp) (z : List (List Nat)) (l : List Nat) (h : Nat) (d : List Nat) : List Nat := tabR (fun i => fop .sub ((gS t z l h d).getD i 0) (d.getD i 0)) t.n
def xB (t : Tp) (z : List (List Nat)) (l : List Nat) (h : Nat) (B : List (List Nat)) (π : List Int) (d : List Nat) : List Nat := solveP B π (gdS t z l h d) t.n
def dB (t : Tp) (z : List (List Nat)) (l : List Nat) (h : Nat) (B : List (List Nat)) (π : List Int) (d : List Nat) : List Nat := tabR (fun i => fop .add (d.getD i 0) ((xB t z l h B π d).getD i 0)) t.n
def tryB (t : Tp) (z : List (List Nat)) (l : List Nat) (h : Nat) (w : List Nat) (B : List (List Nat)) (π : List Int) (d : List Nat) : List Nat × Nat := (dB t z l h B π d, szP (xB t z l h B π d) w)
theorem solveP_len (B : List (List Nat)) (π : List Int) (b : List Nat) (n : Nat) : (solveP B π b n).length = n := by unfold solveP; rw [bckI_len, fwdI_len]
section
variable (t : Tp) (z : List (List Nat)) (l : List Nat) (h : Nat) (w d : List Nat) (p q : D) (ok : Sok t z l w d)
include ok
theorem bdf1_con (g : List Nat) (hg : g.length = t.n) (i : Nat) (hi : i < t.n) : Con Try.prog 70 [fI i, .d (.bptr [rowD g]), .d (.bptr [.bptr (svC t z l h w d p q)])] (fl (fop .sub (g.getD i 0) (d.getD i 0))) := by
  obtain ⟨ht, hz, hzl, hl, hw, hd⟩ := ok
  refine Con_introA A_corr_solver_bdf_1_comp rfl mixed ?_
  simp -implicitDefEqProofs only [xC_skip, evS, evT, evU, hv, effC, reduceCtorEq, ↓reduceIte, Nat.reduceEqDiff, Nat.reduceAdd, Nat.reduceMul, Int.reduceToNat, Int.reduceAdd, Int.reduceSub, Int.reduceMul, Int.reduceNeg, Int.reduceLT, Int.reduceLE, Nat.reduceLT, Nat.reduceLeDiff, A_corr_solver_bdf_1]
  simp -implicitDefEqProofs only [xC_skip, evS, evT, evU, hv, effC, reduceCtorEq, ↓reduceIte, Nat.reduceEqDiff, Nat.reduceAdd, Nat.reduceMul, Int.reduceToNat, Int.reduceAdd, Int.reduceSub, Int.reduceMul, Int.reduceNeg, Int.reduceLT, Int.reduceLE, Nat.reduceLT, Nat.reduceLeDiff, svC]
  (repeat (with_reducible refine And.intro (by omega) ?_))
  exact endsT_rett rfl (by decide) (by simp [look])
omit ok in
theorem bdf2_con (x y : List Nat) (n : Nat) (hx : x.length = n) (hy : y.length = n) (i : Nat) (hi : i < n) : Con Try.prog 71 [fI i, .d (.bptr [rowD x]), .d (.bptr [rowD y])] (fl (fop .add (x.getD i 0) (y.getD i 0))) := by
  refine Con_introA A_corr_solver_bdf_2_comp rfl mixed ?_
  simp -implicitDefEqProofs only [xC_skip, evS, evT, evU, hv, effC, reduceCtorEq, ↓reduceIte, Nat.reduceEqDiff, Nat.reduceAdd, Nat.reduceMul, Int.reduceToNat, Int.reduceAdd, Int.reduceSub, Int.reduceMul, Int.reduceNeg, Int.reduceLT, Int.reduceLE, Nat.reduceLT, Nat.reduceLeDiff, A_corr_solver_bdf_2]
  (repeat (with_reducible refine And.intro (by omega) ?_))
  exact endsT_rett rfl (by decide) (by simp [look])
variable (B : List (List Nat)) (π : List Int) (hB : Sq t.n B) (hπ : Pm t.n π)
include hB hπ
set_option maxRecDepth 8000 in
theorem bdf_ac : AC Try.prog 40 [.ptr 16 0 0 11] [(16, [svV t z l h w 14 (.d (rowsD B)) (.d (rowI π))]), (14, [rowV d]), (1, [[.nil, fI 0, fI 0]]), (0, [[fI t.n, .d (opsD t.ops), .d (rowI t.out)]])]
    [(124, [rowV (dB t z l h B π d)]), (16, [svV t z l h w 124 (.d (rowsD B)) (.d (rowI π))]), (14, [rowV d]), (1, [[.nil, fI 0, fI 0]]), (0, [[fI t.n, .d (opsD t.ops), .d (rowI t.out)]])] (fl (szP (xB t z l h B π d) w)) := by
  have ok' := ok
  obtain ⟨ht, hz, hzl, hl, hw, hd⟩ := ok'
  have hn := ht.n
  refine AC_introA A_corr_solver_bdf_comp rfl mixed (fun X => X ≤ 16) ?_ ?_
  · intro X q
    simp only [get_cons, get_nil]
    repeat' split
    all_goals simp
    all_goals omega
  simp -implicitDefEqProofs only [xC_skip, evS, evT, evU, hv, effC, reduceCtorEq, ↓reduceIte, Nat.reduceEqDiff, Nat.reduceAdd, Nat.reduceMul, Int.reduceToNat, Int.reduceAdd, Int.reduceSub, Int.reduceMul, Int.reduceNeg, Int.reduceLT, Int.reduceLE, Nat.reduceLT, Nat.reduceLeDiff, A_corr_solver_bdf]
  have hg : (gS t z l h d).length = t.n := tabR_len _ _
  have hgd : (gdS t z l h d).length = t.n := tabR_len _ _
  refine callG_row 100 [.d (.bptr (svC t z l h w d (rowsD B) (rowI π)))] (by simp [Heap.next]) (slopes_ac t z l h w d (rowsD B) (rowI π) ok) ⟨snap_sv t z l h w d (rowsD B) (rowI π) (X := 14) (pv := .d (rowsD B)) (qv := .d (rowI π)) rfl rfl hd (.bare _) (.bare _), trivial⟩ ?_
  simp -implicitDefEqProofs only [xC_skip, evS, evT, evU, hv, effC, reduceCtorEq, ↓reduceIte, Nat.reduceEqDiff, Nat.reduceAdd, Nat.reduceMul, Int.reduceToNat, Int.reduceAdd, Int.reduceSub, Int.reduceMul, Int.reduceNeg, Int.reduceLT, Int.reduceLE, Nat.reduceLT, Nat.reduceLeDiff, fnOf_ptr2]
  have e2 := each_ac 70 [.bptr [rowD (gS t z l h d)], .bptr [.bptr (svC t z l h w d (rowsD B) (rowI π))]] t.n _ (by omega) (fun i hi => bdf1_con t z l h w d (rowsD B) (rowI π) ok _ hg i hi)
  refine callS_row _ e2 ⟨.aggs ⟨.bare _, trivial⟩, .fun2 (.box rfl (snp_row rfl hg rfl)) (.box rfl (snap_sv t z l h w d (rowsD B) (rowI π) (X := 14) (pv := .d (rowsD B)) (qv := .d (rowI π)) rfl rfl hd (.bare _) (.bare _))), trivial⟩ rfl ?_
  simp -implicitDefEqProofs only [xC_skip, evS, evT, evU, hv, effC, reduceCtorEq, ↓reduceIte, Nat.reduceEqDiff, Nat.reduceAdd, Nat.reduceMul, Int.reduceToNat, Int.reduceAdd, Int.reduceSub, Int.reduceMul, Int.reduceNeg, Int.reduceLT, Int.reduceLE, Nat.reduceLT, Nat.reduceLeDiff]
  have e3 := AC_row0 (lin_Solve_row B π (gdS t z l h d) t.n hB hπ hgd (by omega))
  change AC Try.prog 69 _ [] [(0, [rowV (xB t z l h B π d)])] _ at e3
  have hx : (xB t z l h B π d).length = t.n := solveP_len _ _ _ _
  rw [show tabR (fun i => fop .sub ((gS t z l h d).getD i 0) (d.getD i 0)) t.n = gdS t z l h d from rfl]
  refine callS_row _ e3 ⟨.aggs ⟨.bare _, .bare _, trivial⟩, snp_row (by simp [get_old, get_cons]) hgd rfl, trivial⟩ rfl ?_
  simp -implicitDefEqProofs only [xC_skip, evS, evT, evU, hv, effC, reduceCtorEq, ↓reduceIte, Nat.reduceEqDiff, Nat.reduceAdd, Nat.reduceMul, Int.reduceToNat, Int.reduceAdd, Int.reduceSub, Int.reduceMul, Int.reduceNeg, Int.reduceLT, Int.reduceLE, Nat.reduceLT, Nat.reduceLeDiff, fnOf_ptr2]
  have e4 := each_ac 71 [.bptr [rowD d], .bptr [rowD (xB t z l h B π d)]] t.n _ (by omega) (fun i hi => bdf2_con d (xB t z l h B π d) t.n hd hx i hi)
  refine callS_row _ e4 ⟨.aggs ⟨.bare _, trivial⟩, .fun2 (.box rfl (snp_row rfl hd rfl)) (.box rfl (snp_row rfl hx rfl)), trivial⟩ rfl ?_
  simp -implicitDefEqProofs only [xC_skip, evS, evT, evU, hv, effC, reduceCtorEq, ↓reduceIte, Nat.reduceEqDiff, Nat.reduceAdd, Nat.reduceMul, Int.reduceToNat, Int.reduceAdd, Int.reduceSub, Int.reduceMul, Int.reduceNeg, Int.reduceLT, Int.reduceLE, Nat.reduceLT, Nat.reduceLeDiff]
  refine callG_snaps [.d (rowD (xB t z l h B π d)), .d (rowD w)] (corr_Size_con _ w (by omega) (by omega)) ⟨snp_row rfl hx rfl, .bare _, trivial⟩ (.flt _) ?_
  simp -implicitDefEqProofs only [xC_skip, evS, evT, evU, hv, effC, reduceCtorEq, ↓reduceIte, Nat.reduceEqDiff, Nat.reduceAdd, Nat.reduceMul, Int.reduceToNat, Int.reduceAdd, Int.reduceSub, Int.reduceMul, Int.reduceNeg, Int.reduceLT, Int.reduceLE, Nat.reduceLT, Nat.reduceLeDiff]
  refine endsT_onlyN (fun X => decide (X ≤ 16) || X == 124) (fun X h => by simp [h]) (resV_tmpI (t := 2) (by decide) rfl) rfl (by simp [KpS_cons, KpS_nil, KpH_cons, KpH_nil, KpF_cons, KpF_nil, KpF_rows, KpA_cons, KpA_nil, KpA_app, KpA_rowV, KpA_rowIV, KpA_dcells, KpA_outC, Kp_any, Kp_nilv, Kp_d, Kp_ptr, Kp_sl, Kp_agg, Kp_tup, Kp_fn, get_cons, get_nil]) (by simp [KpS_cons, KpS_nil, KpH_cons, KpH_nil, KpF_cons, KpF_nil, KpF_rows, KpA_cons, KpA_nil, KpA_app, KpA_rowV, KpA_rowIV, KpA_dcells, KpA_outC, Kp_any, Kp_nilv, Kp_d, Kp_ptr, Kp_sl, Kp_agg, Kp_tup, Kp_fn, get_cons, get_nil])
end
end Go.Ab
