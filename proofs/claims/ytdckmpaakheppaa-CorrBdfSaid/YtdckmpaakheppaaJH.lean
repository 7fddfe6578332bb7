/- Solving by Bdf. -/
import Derived.Test.YtdckmpaakheppaaJG
import Derived.Test.YtdckmpaakheppaaLP
namespace Go.Ab
set_option linter.unusedSimpArgs false
set_option linter.unusedVariables false
open Go Go.Proofs
def solB (t : Tp) (z : List (List Nat)) (l : List Nat) (h : Nat) (w : List Nat) : List Nat × Nat × Int := match partP (matT t z l h) t.n t.n with
  | none => ([], 0, 4)
  | some (B, π) => seek (tryB t z l h w B π) 4 1 (List.replicate t.n 0)
theorem Fz_fn {L L' : Heap} (g : FuncId) (a b a' b' : List V) (h1 : FzA L L' a a') (h2 : FzA L L' b b') : Fz L L' (.fn g a b) (.fn g a' b') :=
  .fn (FzA_at h1).1 (FzA_at h2).1 (FzA_at h1).2 (FzA_at h2).2
abbrev solTB (t : Tp) (z : List (List Nat)) (l : List Nat) (h : Nat) (w d : List Nat) (B : List (List Nat)) (π : List Int) (k : Nat) : T := ⟨[(12, .ptr 1 0 0 3), (13, .ptr 16 0 0 11), (14, .fn 40 [.ptr 16 0 0 11] []), (16, fI k)],
    [(16, [svV t z l h w 14 (.d (rowsD B)) (.d (rowI π))]), (14, [rowV d]), (1, [[.nil, fI 0, fI 0]]), (0, [[fI t.n, .d (opsD t.ops), .d (rowI t.out)]])]⟩
theorem solB_next (t : Tp) (z : List (List Nat)) (l : List Nat) (h : Nat) (w d g : List Nat) (B : List (List Nat)) (π : List Int) (k : Nat) : Le (fun _ => False) (T.s 76 ⟨[(12, .ptr 1 0 0 3), (13, .ptr 16 0 0 11), (14, .fn 40 [.ptr 16 0 0 11] []), (16, fI k)],
    [(124, [rowV g]), (16, [svV t z l h w 124 (.d (rowsD B)) (.d (rowI π))]), (14, [rowV d]), (1, [[.nil, fI 0, fI 0]]), (0, [[fI t.n, .d (opsD t.ops), .d (rowI t.out)]])]⟩) (T.s 76 (solTB t z l h w g B π k)) := by
  refine Le.trans (LeT.only (L' := [(124, [rowV g]), (16, [svV t z l h w 124 (.d (rowsD B)) (.d (rowI π))]), (1, [[.nil, fI 0, fI 0]]), (0, [[fI t.n, .d (opsD t.ops), .d (rowI t.out)]])]) (fun X => X != 14) (fun _ h => h) rfl (by simp [KpS_cons, KpS_nil, KpH_cons, KpH_nil, KpF_cons, KpF_nil, KpF_rows, KpA_cons, KpA_nil, KpA_app, KpA_rowV, KpA_rowIV, KpA_dcells, KpA_outC, Kp_any, Kp_nilv, Kp_d, Kp_ptr, Kp_sl, Kp_agg, Kp_tup, Kp_fn, get_cons, get_nil]) (by simp [KpS_cons, KpS_nil, KpH_cons, KpH_nil, KpF_cons, KpF_nil, KpF_rows, KpA_cons, KpA_nil, KpA_app, KpA_rowV, KpA_rowIV, KpA_dcells, KpA_outC, Kp_any, Kp_nilv, Kp_d, Kp_ptr, Kp_sl, Kp_agg, Kp_tup, Kp_fn, get_cons, get_nil])) ?_
  refine Le.trans (LeT.move 14 (by decide) (by simp [fam_cons, fam_nil]) (by simp [fam_cons, fam_nil]) (fun h => h)) ?_
  have e : renS (absF 124 14 0) [(12, .ptr 1 0 0 3), (13, .ptr 16 0 0 11), (14, .fn 40 [.ptr 16 0 0 11] []), (16, fI k)] = [(12, .ptr 1 0 0 3), (13, .ptr 16 0 0 11), (14, .fn 40 [.ptr 16 0 0 11] []), (16, fI k)] := by
    simp [renS, V.ren, V.renL, absF]
  have e2 : Heap.renH (absF 124 14 0) [(16, [svV t z l h w 124 (.d (rowsD B)) (.d (rowI π))]), (1, [[.nil, fI 0, fI 0]]), (0, [[fI t.n, .d (opsD t.ops), .d (rowI t.out)]])] = [(16, [svV t z l h w 14 (.d (rowsD B)) (.d (rowI π))]), (1, [[.nil, fI 0, fI 0]]), (0, [[fI t.n, .d (opsD t.ops), .d (rowI t.out)]])] := by
    simp [Heap.renH, V.ren, absF]
  rw [e, e2, ren_rowV]
  exact LeT.perm (fun _ h => h) (fun X => .inr (by simp only [fam_cons, fam_nil]; grind)) (by simp [KpS_cons, KpS_nil, KpH_cons, KpH_nil, KpF_cons, KpF_nil, KpF_rows, KpA_cons, KpA_nil, KpA_app, KpA_rowV, KpA_rowIV, KpA_dcells, KpA_outC, Kp_any, Kp_nilv, Kp_d, Kp_ptr, Kp_sl, Kp_agg, Kp_tup, Kp_fn, get_cons, get_nil]) (by simp [KpS_cons, KpS_nil, KpH_cons, KpH_nil, KpF_cons, KpF_nil, KpF_rows, KpA_cons, KpA_nil, KpA_app, KpA_rowV, KpA_rowIV, KpA_dcells, KpA_outC, Kp_any, Kp_nilv, Kp_d, Kp_ptr, Kp_sl, Kp_agg, Kp_tup, Kp_fn, get_cons, get_nil])
theorem seekB_succ (t : Tp) (z : List (List Nat)) (l : List Nat) (h : Nat) (w : List Nat) (B : List (List Nat)) (π : List Int) (f k : Nat) (d : List Nat) : seek (tryB t z l h w B π) (f + 1) k d =
  if finAll (dB t z l h B π d) = false then ([], k, 2) else if fcmp .le (szP (xB t z l h B π d) w) 4562146422526312448 = true then (dB t z l h B π d, k, 0) else if 4 ≤ k then ([], k, 6) else seek (tryB t z l h w B π) f (k + 1) (dB t z l h B π d) := rfl
set_option maxRecDepth 8000 in
theorem solB_gen (L' : Heap) (r : V) (t : Tp) (z : List (List Nat)) (l : List Nat) (h : Nat) (w : List Nat)
    (h1 : ∀ k g, g.length = t.n → solB t z l h w = (g, k, 0) → r = .agg [.sl 129 0 0 t.n 1 t.n, fI k, fI 0] ∧ L' = [(129, [rowV g])])
    (h2 : ∀ k e, solB t z l h w = ([], k, e) → e ≠ 0 → r = .agg [.nil, fI k, fI e] ∧ L' = [])
    (step : Int) (hn0 : 0 < t.n) (ok : Sok t z l w (List.replicate t.n 0)) (hs : Con Try.prog 36 [fl (FloatKind.nearest .f64 step), fI (-30)] (fl h)) :
    AC Try.prog 20 [tapeV t, .d (rowsD z), .d (rowD l), fI step, fI 1, .d (rowD w)] [] L' r := by
  have ok' := ok
  obtain ⟨ht, hz, hzl, hl, hw, hd⟩ := ok'
  have hn := ht.n
  have hsq := matT_sq t z l h
  refine AC_introA A_corr_Solve_comp rfl mixed (fun _ => False) (by simp [get_nil]) ?_
  simp -implicitDefEqProofs only [xC_skip, evS, evT, evU, hv, effC, reduceCtorEq, ↓reduceIte, Nat.reduceEqDiff, Nat.reduceAdd, Nat.reduceMul, Int.reduceToNat, Int.reduceAdd, Int.reduceSub, Int.reduceMul, Int.reduceNeg, Int.reduceLT, Int.reduceLE, Nat.reduceLT, Nat.reduceLeDiff, A_corr_Solve]
  first | refine callG_con (hs) rfl ?_ | refine callCG_con (hs) rfl ?_ | refine callSG_con (hs) rfl ?_
  simp -implicitDefEqProofs only [xC_skip, evS, evT, evU, hv, effC, reduceCtorEq, ↓reduceIte, Nat.reduceEqDiff, Nat.reduceAdd, Nat.reduceMul, Int.reduceToNat, Int.reduceAdd, Int.reduceSub, Int.reduceMul, Int.reduceNeg, Int.reduceLT, Int.reduceLE, Nat.reduceLT, Nat.reduceLeDiff, fnOf_first]
  (repeat (with_reducible refine And.intro (by omega) ?_))
  refine callG_rows 200 [.d (.bptr (svC t z l h w (List.replicate t.n 0) .nils .nils))] (by simp [Heap.next]) (matrix_ac t z l h w (List.replicate t.n 0) .nils .nils ok hn0) ⟨snap_sv t z l h w _ .nils .nils (X := 14) (pv := .nil) (qv := .nil) rfl rfl hd .nil .nil, trivial⟩ ?_
  simp -implicitDefEqProofs only [xC_skip, evS, evT, evU, hv, effC, reduceCtorEq, ↓reduceIte, Nat.reduceEqDiff, Nat.reduceAdd, Nat.reduceMul, Int.reduceToNat, Int.reduceAdd, Int.reduceSub, Int.reduceMul, Int.reduceNeg, Int.reduceLT, Int.reduceLE, Nat.reduceLT, Nat.reduceLeDiff]
  have hX : ∀ (L : Heap) r, L.fam 320 = some ((matT t z l h).map rowV) → r < t.n → L.get 320 (r + 0) = some (rowV ((matT t z l h).getD r [])) := fun L r hL hr => by
    unfold Heap.get
    rw [hL, Nat.add_zero]
    have : r < (matT t z l h).length := by rw [hsq.1]; exact hr
    simp [List.getD_eq_getElem?_getD, this]
  obtain hp | ⟨⟨B, π⟩, hp⟩ : partP (matT t z l h) t.n t.n = none ∨ ∃ s, partP (matT t z l h) t.n t.n = some s := by cases partP (matT t z l h) t.n t.n <;> simp
  · have he : solB t z l h w = ([], 0, 4) := by unfold solB; rw [hp]
    obtain ⟨rfl, rfl⟩ := h2 0 4 he (by decide)
    refine part_nil_namedB (X := 320) (o := 0) (A := matT t z l h) hsq (by omega) (by simp [get_cons]) (fun r hr => hX _ r (by simp [fam_cons]) hr) hp _ ?_
    simp -implicitDefEqProofs only [xC_skip, evS, evT, evU, hv, effC, reduceCtorEq, ↓reduceIte, Nat.reduceEqDiff, Nat.reduceAdd, Nat.reduceMul, Int.reduceToNat, Int.reduceAdd, Int.reduceSub, Int.reduceMul, Int.reduceNeg, Int.reduceLT, Int.reduceLE, Nat.reduceLT, Nat.reduceLeDiff, Bool.not_false]
    exact endsT_only (fun _ => false) (fun _ h => h) (resV_cellI (by decide) rfl rfl rfl (by simp) rfl) rfl (by simp [KpS_cons, KpS_nil, KpH_cons, KpH_nil, KpF_cons, KpF_nil, KpF_rows, KpA_cons, KpA_nil, KpA_app, KpA_rowV, KpA_rowIV, KpA_dcells, KpA_outC, Kp_any, Kp_nilv, Kp_d, Kp_ptr, Kp_sl, Kp_agg, Kp_tup, Kp_fn, get_cons, get_nil]) (by simp [KpS_cons, KpS_nil, KpH_cons, KpH_nil, KpF_cons, KpF_nil, KpF_rows, KpA_cons, KpA_nil, KpA_app, KpA_rowV, KpA_rowIV, KpA_dcells, KpA_outC, Kp_any, Kp_nilv, Kp_d, Kp_ptr, Kp_sl, Kp_agg, Kp_tup, Kp_fn, get_cons, get_nil])
  · obtain ⟨hB, hπl⟩ := partP_sq _ _ hsq t.n (Nat.le_refl _) B π hp
    have hπ := partP_pmB _ _ t.n (Nat.le_refl _) B π hp
    have he : solB t z l h w = seek (tryB t z l h w B π) 4 1 (List.replicate t.n 0) := by unfold solB; rw [hp]
    refine part_namedB (X := 320) (o := 0) (A := matT t z l h) 400 (by simp [Heap.next]) hsq (by omega) (by simp [get_cons]) (fun r hr => hX _ r (by simp [fam_cons]) hr) hp _ ?_
    simp -implicitDefEqProofs only [xC_skip, evS, evT, evU, hv, effC, reduceCtorEq, ↓reduceIte, Nat.reduceEqDiff, Nat.reduceAdd, Nat.reduceMul, Int.reduceToNat, Int.reduceAdd, Int.reduceSub, Int.reduceMul, Int.reduceNeg, Int.reduceLT, Int.reduceLE, Nat.reduceLT, Nat.reduceLeDiff, Bool.not_true, fnOf_first]
    have hz1 : ∀ L L' : Heap, L.fam 402 = some (hdo 402 1 t.n t.n :: B.map rowV) → L'.fam 402 = none → Fz L L' (.sl 402 0 0 t.n 1 t.n) (.d (rowsD B)) := fun L L' a b =>
      Fz_rows (X := 402) (o := 1) (len := t.n) (by unfold Heap.get; rw [a]; rfl) (fun r hr => ⟨by
        unfold Heap.get
        rw [a]
        have : r < B.length := by rw [hB.1]; exact hr
        simp [List.getD_eq_getElem?_getD, this], hB.2 r hr⟩) hB.1 rfl b b
    have hz2 : ∀ L L' : Heap, L.get 405 0 = some (rowIV π) → L'.fam 405 = none → Fz L L' (.sl 405 0 0 t.n 1 t.n) (.d (rowI π)) := fun L L' a b => Fz_rowN a hπl rfl b
    rw [he] at h1 h2
    clear he
    generalize List.replicate t.n 0 = d0 at h1 h2 hd
    refine WA_forW (n := 4) (fun c s => ∃ k d, c + k = 5 ∧ (1 ≤ k ∧ k ≤ 4) ∧ d.length = t.n ∧ seek (tryB t z l h w B π) c k d = seek (tryB t z l h w B π) 4 1 d0 ∧ s = solTB t z l h w d B π k) (s0 := solTB t z l h w d0 B π 1) ?_ ⟨1, _, by omega, by omega, hd, rfl, rfl⟩ ?_
    · exact LeT.weak (fun _ h => h) (by simp (maxDischargeDepth := 6) [Fz_rowD, Fz_rowI, Fz_rowsD, FzS_cons, FzS_nil, FzH_cons, FzH_nil, FzF_cons, FzF_nil, FzF_rows, FzA_cons, FzA_nil, FzA_app, FzA_rowV, FzA_dcells, FzA_outC, FzA_data, Fz_d, Fz_nil, Fz_any, Fz_ptr, Fz_sl, Fz_agg, get_cons, get_nil, fam_cons, fam_nil, Fz_fn]) (by simp (maxDischargeDepth := 6) [Fz_rowD, Fz_rowI, Fz_rowsD, FzS_cons, FzS_nil, FzH_cons, FzH_nil, FzF_cons, FzF_nil, FzF_rows, FzA_cons, FzA_nil, FzA_app, FzA_rowV, FzA_dcells, FzA_outC, FzA_data, Fz_d, Fz_nil, Fz_any, Fz_ptr, Fz_sl, Fz_agg, get_cons, get_nil, fam_cons, fam_nil, hz1, hz2])
    rintro c s ⟨k, d, hc, hk, hdl, he, rfl⟩
    have okd : Sok t z l w d := ⟨ht, hz, hzl, hl, hw, hdl⟩
    have hgl : (dB t z l h B π d).length = t.n := tabR_len _ _
    have okg : Sok t z l w (dB t z l h B π d) := ⟨ht, hz, hzl, hl, hw, hgl⟩
    obtain ⟨f, rfl⟩ : ∃ f, c = f + 1 := ⟨c - 1, by omega⟩
    simp -implicitDefEqProofs only [xC_skip, evS, evT, evU, hv, effC, reduceCtorEq, ↓reduceIte, Nat.reduceEqDiff, Nat.reduceAdd, Nat.reduceMul, Int.reduceToNat, Int.reduceAdd, Int.reduceSub, Int.reduceMul, Int.reduceNeg, Int.reduceLT, Int.reduceLE, Nat.reduceLT, Nat.reduceLeDiff, A_corr_Solve_L0]
    refine callG_ac (bdf_ac t z l h w d okd B π hB hπ) ?_
    simp -implicitDefEqProofs only [xC_skip, evS, evT, evU, hv, effC, reduceCtorEq, ↓reduceIte, Nat.reduceEqDiff, Nat.reduceAdd, Nat.reduceMul, Int.reduceToNat, Int.reduceAdd, Int.reduceSub, Int.reduceMul, Int.reduceNeg, Int.reduceLT, Int.reduceLE, Nat.reduceLT, Nat.reduceLeDiff]
    refine callG_snaps [.d (.bptr (svC t z l h w (dB t z l h B π d) (rowsD B) (rowI π)))] (finite_con t z l h w _ (rowsD B) (rowI π) okg) ⟨snap_sv t z l h w _ (rowsD B) (rowI π) (X := 124) (pv := .d (rowsD B)) (qv := .d (rowI π)) rfl rfl hgl (.bare _) (.bare _), trivial⟩ (.bool _) ?_
    simp -implicitDefEqProofs only [xC_skip, evS, evT, evU, hv, effC, reduceCtorEq, ↓reduceIte, Nat.reduceEqDiff, Nat.reduceAdd, Nat.reduceMul, Int.reduceToNat, Int.reduceAdd, Int.reduceSub, Int.reduceMul, Int.reduceNeg, Int.reduceLT, Int.reduceLE, Nat.reduceLT, Nat.reduceLeDiff]
    rw [seekB_succ] at he
    cases hf : finAll (dB t z l h B π d)
    · rw [if_pos hf] at he
      simp -implicitDefEqProofs only [xC_skip, evS, evT, evU, hv, effC, reduceCtorEq, ↓reduceIte, Nat.reduceEqDiff, Nat.reduceAdd, Nat.reduceMul, Int.reduceToNat, Int.reduceAdd, Int.reduceSub, Int.reduceMul, Int.reduceNeg, Int.reduceLT, Int.reduceLE, Nat.reduceLT, Nat.reduceLeDiff, Bool.not_false]
      obtain ⟨rfl, rfl⟩ := h2 k 2 he.symm (by decide)
      exact endsT_only (fun _ => false) (fun _ h => h) (resV_cellI (by decide) rfl rfl rfl (by simp) rfl) rfl (by simp [KpS_cons, KpS_nil, KpH_cons, KpH_nil, KpF_cons, KpF_nil, KpF_rows, KpA_cons, KpA_nil, KpA_app, KpA_rowV, KpA_rowIV, KpA_dcells, KpA_outC, Kp_any, Kp_nilv, Kp_d, Kp_ptr, Kp_sl, Kp_agg, Kp_tup, Kp_fn, get_cons, get_nil]) (by simp [KpS_cons, KpS_nil, KpH_cons, KpH_nil, KpF_cons, KpF_nil, KpF_rows, KpA_cons, KpA_nil, KpA_app, KpA_rowV, KpA_rowIV, KpA_dcells, KpA_outC, Kp_any, Kp_nilv, Kp_d, Kp_ptr, Kp_sl, Kp_agg, Kp_tup, Kp_fn, get_cons, get_nil])
    · rw [if_neg (by rw [hf]; decide)] at he
      simp -implicitDefEqProofs only [xC_skip, evS, evT, evU, hv, effC, reduceCtorEq, ↓reduceIte, Nat.reduceEqDiff, Nat.reduceAdd, Nat.reduceMul, Int.reduceToNat, Int.reduceAdd, Int.reduceSub, Int.reduceMul, Int.reduceNeg, Int.reduceLT, Int.reduceLE, Nat.reduceLT, Nat.reduceLeDiff, Bool.not_true]
      cases hle : fcmp .le (szP (xB t z l h B π d) w) 4562146422526312448
      · rw [if_neg (by rw [hle]; decide)] at he
        simp -implicitDefEqProofs only [xC_skip, evS, evT, evU, hv, effC, reduceCtorEq, ↓reduceIte, Nat.reduceEqDiff, Nat.reduceAdd, Nat.reduceMul, Int.reduceToNat, Int.reduceAdd, Int.reduceSub, Int.reduceMul, Int.reduceNeg, Int.reduceLT, Int.reduceLE, Nat.reduceLT, Nat.reduceLeDiff]
        by_cases h4 : 4 ≤ k
        · rw [if_pos h4] at he
          have h4' : decide ((4 : Int) ≤ (k : Int)) = true := by simp; omega
          simp -implicitDefEqProofs only [xC_skip, evS, evT, evU, hv, effC, reduceCtorEq, ↓reduceIte, Nat.reduceEqDiff, Nat.reduceAdd, Nat.reduceMul, Int.reduceToNat, Int.reduceAdd, Int.reduceSub, Int.reduceMul, Int.reduceNeg, Int.reduceLT, Int.reduceLE, Nat.reduceLT, Nat.reduceLeDiff, h4']
          obtain ⟨rfl, rfl⟩ := h2 k 6 he.symm (by decide)
          exact endsT_only (fun _ => false) (fun _ h => h) (resV_cellI (by decide) rfl rfl rfl (by simp) rfl) rfl (by simp [KpS_cons, KpS_nil, KpH_cons, KpH_nil, KpF_cons, KpF_nil, KpF_rows, KpA_cons, KpA_nil, KpA_app, KpA_rowV, KpA_rowIV, KpA_dcells, KpA_outC, Kp_any, Kp_nilv, Kp_d, Kp_ptr, Kp_sl, Kp_agg, Kp_tup, Kp_fn, get_cons, get_nil]) (by simp [KpS_cons, KpS_nil, KpH_cons, KpH_nil, KpF_cons, KpF_nil, KpF_rows, KpA_cons, KpA_nil, KpA_app, KpA_rowV, KpA_rowIV, KpA_dcells, KpA_outC, Kp_any, Kp_nilv, Kp_d, Kp_ptr, Kp_sl, Kp_agg, Kp_tup, Kp_fn, get_cons, get_nil])
        · rw [if_neg h4] at he
          have h4' : decide ((4 : Int) ≤ (k : Int)) = false := by simp; omega
          simp -implicitDefEqProofs only [xC_skip, evS, evT, evU, hv, effC, reduceCtorEq, ↓reduceIte, Nat.reduceEqDiff, Nat.reduceAdd, Nat.reduceMul, Int.reduceToNat, Int.reduceAdd, Int.reduceSub, Int.reduceMul, Int.reduceNeg, Int.reduceLT, Int.reduceLE, Nat.reduceLT, Nat.reduceLeDiff, h4']
          rw [wrapI (by omega) (by omega)]
          exact ⟨f, _, by omega, solB_next t z l h w d (dB t z l h B π d) B π (k + 1), k + 1, _, by omega, by omega, hgl, he, rfl⟩
      · rw [if_pos hle] at he
        simp -implicitDefEqProofs only [xC_skip, evS, evT, evU, hv, effC, reduceCtorEq, ↓reduceIte, Nat.reduceEqDiff, Nat.reduceAdd, Nat.reduceMul, Int.reduceToNat, Int.reduceAdd, Int.reduceSub, Int.reduceMul, Int.reduceNeg, Int.reduceLT, Int.reduceLE, Nat.reduceLT, Nat.reduceLeDiff]
        have htk : List.take t.n (rowV (dB t z l h B π d)) = rowV (dB t z l h B π d) := List.take_of_length_le (by simp [hgl])
        have hrl : (rowV (dB t z l h B π d)).length = t.n := by simp [hgl]
        rw [if_pos ⟨hgl, by omega⟩, htk]
        simp only []
        (repeat (with_reducible refine And.intro (by omega) ?_))
        obtain ⟨rfl, rfl⟩ := h1 k _ hgl he.symm
        refine ⟨⟨by omega, hrl, by simp [rowV, V.isCell]⟩, ?_⟩
        exact endsT_only (fun X => X == 129) (fun _ h => h) (resV_cellI (by decide) rfl rfl rfl (by simp) rfl) rfl (by simp [KpS_cons, KpS_nil, KpH_cons, KpH_nil, KpF_cons, KpF_nil, KpF_rows, KpA_cons, KpA_nil, KpA_app, KpA_rowV, KpA_rowIV, KpA_dcells, KpA_outC, Kp_any, Kp_nilv, Kp_d, Kp_ptr, Kp_sl, Kp_agg, Kp_tup, Kp_fn, get_cons, get_nil]) (by simp [KpS_cons, KpS_nil, KpH_cons, KpH_nil, KpF_cons, KpF_nil, KpF_rows, KpA_cons, KpA_nil, KpA_app, KpA_rowV, KpA_rowIV, KpA_dcells, KpA_outC, Kp_any, Kp_nilv, Kp_d, Kp_ptr, Kp_sl, Kp_agg, Kp_tup, Kp_fn, get_cons, get_nil])
theorem seekB_len (t : Tp) (z : List (List Nat)) (l : List Nat) (h : Nat) (w : List Nat) (B : List (List Nat)) (π : List Int) (f : Nat) : ∀ (k : Nat) (d g : List Nat) (a : Nat), seek (tryB t z l h w B π) f k d = (g, a, 0) → g.length = t.n := by
  induction f with
  | zero => intro k d g a he; simp [seek] at he
  | succ f ih =>
    intro k d g a he
    rw [seekB_succ] at he
    split at he
    · simp at he
    · split at he
      · injection he with h1 h2
        rw [← h1]; exact tabR_len _ _
      · split at he
        · simp at he
        · exact ih _ _ _ _ he
/-- What is added, by either method. -/
def solG (t : Tp) (z : List (List Nat)) (l : List Nat) (h : Nat) (w : List Nat) (m : Int) : List Nat × Nat × Int := if m = 1 then solB t z l h w else solA t z l h w
theorem seek_form (tr : List Nat → List Nat × Nat) (f : Nat) : ∀ k d, (∃ g a, seek tr f k d = (g, a, 0)) ∨ ∃ a e, e ≠ 0 ∧ seek tr f k d = ([], a, e) := by
  induction f with
  | zero => intro k d; exact .inr ⟨k, 6, by decide, rfl⟩
  | succ f ih =>
    intro k d
    simp only [seek]
    split
    · exact .inr ⟨k, 2, by decide, rfl⟩
    · split
      · exact .inl ⟨_, _, rfl⟩
      · split
        · exact .inr ⟨k, 6, by decide, rfl⟩
        · exact ih _ _
theorem solG_form (t : Tp) (z : List (List Nat)) (l : List Nat) (h : Nat) (w : List Nat) (m : Int) : (∃ g k, g.length = t.n ∧ solG t z l h w m = (g, k, 0)) ∨ ∃ k e, e ≠ 0 ∧ solG t z l h w m = ([], k, e) := by
  unfold solG
  split
  · unfold solB
    cases partP (matT t z l h) t.n t.n with
    | none => exact .inr ⟨0, 4, by decide, rfl⟩
    | some s =>
      obtain ⟨B, π⟩ := s
      rcases seek_form (tryB t z l h w B π) 4 1 (List.replicate t.n 0) with ⟨g, k, hg⟩ | ⟨k, e, he, hk⟩
      · exact .inl ⟨g, k, seekB_len _ _ _ _ _ _ _ _ _ _ _ _ hg, hg⟩
      · exact .inr ⟨k, e, he, hk⟩
  · rcases seek_form (tryA t z l h w) 4 1 (List.replicate t.n 0) with ⟨g, k, hg⟩ | ⟨k, e, he, hk⟩
    · exact .inl ⟨g, k, seekA_len _ _ _ _ _ _ _ _ _ _ hg, hg⟩
    · exact .inr ⟨k, e, he, hk⟩
theorem corr_SolveG_ok (t : Tp) (z : List (List Nat)) (l : List Nat) (h : Nat) (w : List Nat) (step : Int) (m : Int) (hn0 : 0 < t.n) (ok : Sok t z l w (List.replicate t.n 0)) (hs : Con Try.prog 36 [fl (FloatKind.nearest .f64 step), fI (-30)] (fl h))
    (g : List Nat) (k : Nat) (hg : solG t z l h w m = (g, k, 0)) : AC Try.prog 20 [tapeV t, .d (rowsD z), .d (rowD l), fI step, fI m, .d (rowD w)] [] [(0, [rowV g])] (.agg [.sl 0 0 0 t.n 1 t.n, fI k, fI 0]) := by
  unfold solG at hg
  split at hg
  · rename_i e
    subst e
    refine AC_sum0 (X := 129) (solB_gen _ _ t z l h w (fun k' g' _ he => ?_) (fun k' e he hne => ?_) step hn0 ok hs)
    · rw [hg] at he
      simp only [Prod.mk.injEq] at he
      obtain ⟨rfl, rfl, _⟩ := he
      exact ⟨rfl, rfl⟩
    · rw [hg] at he
      simp only [Prod.mk.injEq] at he
      exact absurd he.2.2.symm hne
  · rename_i e
    exact corr_Solve_ok t z l h w step m e ok hs g k hg
theorem corr_SolveG_no (t : Tp) (z : List (List Nat)) (l : List Nat) (h : Nat) (w : List Nat) (step : Int) (m : Int) (hn0 : 0 < t.n) (ok : Sok t z l w (List.replicate t.n 0)) (hs : Con Try.prog 36 [fl (FloatKind.nearest .f64 step), fI (-30)] (fl h))
    (k : Nat) (e : Int) (hne : e ≠ 0) (hg : solG t z l h w m = ([], k, e)) : AC Try.prog 20 [tapeV t, .d (rowsD z), .d (rowD l), fI step, fI m, .d (rowD w)] [] [] (.agg [.nil, fI k, fI e]) := by
  unfold solG at hg
  split at hg
  · rename_i e
    subst e
    refine solB_gen _ _ t z l h w (fun k' g' _ he => ?_) (fun k' e' he hne' => ?_) step hn0 ok hs
    · rw [hg] at he
      simp only [Prod.mk.injEq] at he
      exact absurd he.2.2 hne
    · rw [hg] at he
      simp only [Prod.mk.injEq] at he
      obtain ⟨_, rfl, rfl⟩ := he
      exact ⟨rfl, rfl⟩
  · rename_i e'
    exact corr_Solve_no t z l h w step m e' ok hs k e hne hg
end Go.Ab
