/- The rows of Bdf, parted, by the reference. -/
import Derived.Test.YtdckmpaakheppaaJD
import Derived.Test.YtdckmpaakheppaaJE
import Derived.Test.YtdckmpaakheppaaLG
import Derived.Test.YtdckmpaakheppaaLP
namespace Go.Ab
set_option linter.unusedSimpArgs false
set_option linter.unusedVariables false
open Go Go.Proofs
def A_r9_newton_L1 : CA := (.seq (.seq (.reg [⟨0, (some 30), none, [], [], (.h (.mov (.t 13)))⟩, ⟨1, (some 31), none, [], [], (.h (.mov (.t 10)))⟩, ⟨2, (some 32), none, [], [], (.h (.len (.t 31)))⟩, ⟨3, (some 33), none, [], [], (.h (.ibin .lss (.t 30) (.t 32)))⟩] [8, 10, 11, 12, 13, 33]) (.cond (.t 33) .skip (.exit 2))) (.seq (.block 3 (.seq (.reg [⟨0, (some 14), none, [], [], (.h (.mov (.k (.d (.flt 0)))))⟩] [8, 10, 11, 12, 13, 14]) (.seq (.seq (.reg [⟨0, (some 36), none, [], [], (.h (.mov (.t 12)))⟩, ⟨1, (some 37), none, [], [], (.h (.mov (.t 13)))⟩, ⟨2, (some 38), none, [], [], (.h (.ibin .eql (.t 36) (.t 37)))⟩] [8, 10, 11, 12, 13, 14, 38]) (.cond (.t 38) (.reg [⟨0, (some 14), none, [], [], (.h (.mov (.k (.d (.flt 4607182418800017408)))))⟩] [8, 10, 11, 12, 13, 14]) .skip)) (.seq (.reg [⟨0, (some 39), none, [], [], (.h (.mov (.t 11)))⟩, ⟨1, (some 40), none, [], [], (.h (.mov (.t 10)))⟩, ⟨2, (some 41), none, [], [], (.h (.mov (.t 12)))⟩, ⟨3, (some 42), none, [], [], (.h (.idx (.t 40) (.t 41) 1))⟩, ⟨4, (some 43), none, [], [], (.load (.t 42) 1 false)⟩, ⟨5, (some 44), none, [], [], (.h (.mov (.t 13)))⟩, ⟨6, (some 45), none, [], [], (.h (.idx (.t 43) (.t 44) 1))⟩, ⟨7, (some 46), none, [], [], (.load (.t 45) 1 false)⟩, ⟨8, (some 47), none, [], [], (.h (.fbin .mul (.t 39) (.t 46)))⟩, ⟨9, (some 15), none, [], [], (.h (.mov (.t 47)))⟩] [8, 10, 11, 12, 13, 14, 15]) (.reg [⟨0, (some 48), none, [], [], (.h (.mov (.t 10)))⟩, ⟨1, (some 49), none, [], [], (.h (.mov (.t 12)))⟩, ⟨2, (some 50), none, [], [], (.h (.idx (.t 48) (.t 49) 1))⟩, ⟨3, (some 51), none, [], [], (.load (.t 50) 1 false)⟩, ⟨4, (some 52), none, [], [], (.h (.mov (.t 13)))⟩, ⟨5, (some 53), none, [], [], (.h (.mov (.t 14)))⟩, ⟨6, (some 54), none, [], [], (.h (.mov (.t 15)))⟩, ⟨7, (some 55), none, [], [], (.h (.fbin .sub (.t 53) (.t 54)))⟩, ⟨8, (some 56), none, [], [], (.h (.idx (.t 51) (.t 52) 1))⟩, ⟨9, none, none, [], [], (.store (.t 56) (.t 55) 1)⟩] [8, 10, 11, 12, 13]))))) (.reg [⟨0, (some 34), none, [], [], (.h (.mov (.t 13)))⟩, ⟨1, (some 35), none, [], [], (.h (.ibin .add (.t 34) (.k (.d (.int .i64 1)))))⟩, ⟨2, (some 13), none, [], [], (.h (.mov (.t 35)))⟩] [8, 10, 11, 12, 13])))
def A_r9_newton_L0 : CA := (.seq (.seq (.reg [⟨0, (some 24), none, [], [], (.h (.mov (.t 12)))⟩, ⟨1, (some 25), none, [], [], (.h (.mov (.t 10)))⟩, ⟨2, (some 26), none, [], [], (.h (.len (.t 25)))⟩, ⟨3, (some 27), none, [], [], (.h (.ibin .lss (.t 24) (.t 26)))⟩] [8, 10, 11, 12, 27]) (.cond (.t 27) .skip (.exit 0))) (.seq (.block 1 (.seq (.reg [⟨0, (some 13), none, [], [], (.h (.mov (.k (.d (.int .i64 0)))))⟩] [8, 10, 11, 12, 13]) (.block 2 (.loop A_r9_newton_L1)))) (.reg [⟨0, (some 28), none, [], [], (.h (.mov (.t 12)))⟩, ⟨1, (some 29), none, [], [], (.h (.ibin .add (.t 28) (.k (.d (.int .i64 1)))))⟩, ⟨2, (some 12), none, [], [], (.h (.mov (.t 29)))⟩] [8, 10, 11, 12])))
def A_r9_newton : CA := (.seq (.reg [⟨0, (some 4), none, [], [], (.box (.t 0) 3 26)⟩, ⟨1, (some 8), none, [], [], (.alloc [.nil, .nil] 79)⟩, ⟨2, (some 9), none, [], [], (.h (.mov (.k (.d (.bool false)))))⟩] [1, 2, 3, 4, 8]) (.seq (.reg [⟨0, (some 16), none, [], [], (.load (.t 4) 3 true)⟩, ⟨1, (some 17), none, [], [], (.h (.mov (.t 1)))⟩, ⟨2, (some 18), none, [], [], (.h (.idx (.t 17) (.k (.d (.int .i64 0))) 1))⟩, ⟨3, (some 19), none, [], [], (.load (.t 18) 1 false)⟩, ⟨4, (some 20), none, [], [], (.callA (.k (.d (.fn 72 [] []))) [(.t 16), (.t 19)])⟩, ⟨5, (some 10), none, [], [], (.h (.mov (.t 20)))⟩] [2, 3, 8, 10]) (.seq (.reg [⟨0, (some 21), none, [], [], (.h (.mov (.t 3)))⟩, ⟨1, (some 22), none, [], [], (.h (.mov (.t 2)))⟩, ⟨2, (some 23), none, [], [], (.h (.fbin .mul (.t 21) (.t 22)))⟩, ⟨3, (some 11), none, [], [], (.h (.mov (.t 23)))⟩] [8, 10, 11]) (.seq (.seq (.reg [⟨0, (some 12), none, [], [], (.h (.mov (.k (.d (.int .i64 0)))))⟩] [8, 10, 11, 12]) (.block 0 (.loop A_r9_newton_L0))) (.seq (.reg [⟨0, (some 57), none, [], [], (.h (.mov (.t 10)))⟩, ⟨1, (some 58), none, [], [], (.callA (.k (.d (.fn 73 [] []))) [(.t 57)])⟩, ⟨2, (some 59), none, [], [], (.h (.ext (.t 58) 0))⟩, ⟨3, (some 60), none, [], [], (.h (.ext (.t 58) 1))⟩, ⟨4, none, none, [], [], (.store (.t 8) (.t 59) 2)⟩, ⟨5, (some 9), none, [], [], (.h (.mov (.t 60)))⟩] [8, 9]) .ret)))))
theorem A_r9_newton_comp : compF Try.prog 42 = some ⟨61, [(8, (some (2, true))), (9, none)], A_r9_newton.strip⟩ := by kernel_rfl
theorem Sq_up2 (B : List (List Nat)) (n i j v : Nat) (hB : Sq n B) : Sq n (up2 B i j v) := up2_sq B n i j v hB
theorem nw_up2 (A : List (List Nat)) (n i j v r c : Nat) (hA : Sq n A) (hi : i < n) (hj : j < n) : ((up2 A i j v).getD r []).getD c 0 = if r = i ∧ c = j then v else (A.getD r []).getD c 0 := by
  have h1 := hA.1
  have h2 := hA.2 i hi
  simp only [up2, List.getD_eq_getElem?_getD, List.getElem?_set]
  rw [List.getD_eq_getElem?_getD] at h2
  by_cases e : i = r
  · subst e
    simp only [h1, hi, ↓reduceIte, Option.getD_some, true_and]
    rw [List.getElem?_set]
    by_cases e2 : j = c
    · subst e2
      simp [h2, hj]
    · rw [if_neg e2, if_neg (fun h => e2 h.symm)]
  · rw [if_neg e, if_neg (fun h => e h.1.symm)]
/-- So many rows are made. -/
def Nw (t : Tp) (z : List (List Nat)) (l : List Nat) (h i k : Nat) (Z : List (List Nat)) : Prop :=
  Sq t.n Z ∧ ∀ r c, r < t.n → c < t.n → (Z.getD r []).getD c 0 = if r < i ∨ (r = i ∧ c < k) then matE t z l h r c else ((jacT t (z.getD 0 [])).getD r []).getD c 0
theorem jacT_sq (t : Tp) (x : List Nat) (ht : Tok t) : Sq t.n (jacT t x) := ⟨by simp [jacT], fun i hi => jacT_row t x ht i hi⟩
theorem Nw_zero (t : Tp) (z : List (List Nat)) (l : List Nat) (h : Nat) (ht : Tok t) : Nw t z l h 0 0 (jacT t (z.getD 0 [])) := ⟨jacT_sq t _ ht, fun r c _ _ => by rw [if_neg (by omega)]⟩
theorem Nw_row {t : Tp} {z : List (List Nat)} {l : List Nat} {h i : Nat} {Z : List (List Nat)} (hN : Nw t z l h i t.n Z) : Nw t z l h (i + 1) 0 Z := by
  refine ⟨hN.1, fun r c hr hc => ?_⟩
  rw [hN.2 r c hr hc]
  by_cases e : r < i ∨ (r = i ∧ c < t.n)
  · rw [if_pos e, if_pos (by omega)]
  · rw [if_neg e, if_neg (by omega)]
theorem Nw_up {t : Tp} {z : List (List Nat)} {l : List Nat} {h i k : Nat} {Z : List (List Nat)} (hN : Nw t z l h i k Z) (hi : i < t.n) (hk : k < t.n) : Nw t z l h i (k + 1) (up2 Z i k (matE t z l h i k)) := by
  refine ⟨up2_sq _ _ _ _ _ hN.1, fun r c hr hc => ?_⟩
  rw [nw_up2 _ _ _ _ _ _ _ hN.1 hi hk]
  by_cases e : r = i ∧ c = k
  · rw [if_pos e, if_pos (by omega), e.1, e.2]
  · rw [if_neg e, hN.2 r c hr hc]
    by_cases e2 : r < i ∨ (r = i ∧ c < k)
    · rw [if_pos e2, if_pos (by omega)]
    · rw [if_neg e2, if_neg (by omega)]
theorem Nw_all {t : Tp} {z : List (List Nat)} {l : List Nat} {h : Nat} {Z : List (List Nat)} (hN : Nw t z l h t.n 0 Z) : Z = matT t z l h := by
  have hM := matT_sq t z l h
  refine List.ext_getElem (hN.1.1.trans hM.1.symm) fun r h1 h2 => ?_
  have hr : r < t.n := by have := hN.1.1; omega
  have e1 := hN.1.2 r hr
  have e2 := hM.2 r hr
  have g1 : Z.getD r [] = Z[r] := by simp [List.getD_eq_getElem?_getD, h1]
  have g2 : (matT t z l h).getD r [] = (matT t z l h)[r] := by simp [List.getD_eq_getElem?_getD, h2]
  rw [g1] at e1
  rw [g2] at e2
  refine List.ext_getElem (e1.trans e2.symm) fun c h3 h4 => ?_
  have hc : c < t.n := by omega
  have k1 := hN.2 r c hr hc
  rw [if_pos (by omega), g1] at k1
  have k2 : ((matT t z l h).getD r []).getD c 0 = matE t z l h r c := by rw [matT_row _ _ _ _ _ hr, tabR_getD _ _ _ hc]
  rw [g2] at k2
  rw [← k2] at k1
  simpa [List.getD_eq_getElem?_getD, h3, h4] using k1
set_option maxRecDepth 8000 in
theorem r9_newton_gen (t : Tp) (z : List (List Nat)) (l : List Nat) (h : Nat) (ht : Tok t) (hn0 : 0 < t.n) (hz : 2 ≤ z.length) (hz0 : (z.getD 0 []).length = t.n) (A C : D) (b : Bool) (hr : Con Try.prog 73 [.d (rowsD (matT t z l h))] (.tup [.agg [.d A, .d C], fB b])) : Con Try.prog 42 [tapeV t, .d (rowsD z), fl (l.getD 0 0), fl h] (.tup [.agg [.d A, .d C], fB b]) := by
  have hn := ht.n
  refine Con_introA A_r9_newton_comp rfl mixed ?_
  simp -implicitDefEqProofs only [xC_skip, evS, evT, evU, hv, effC, reduceCtorEq, ↓reduceIte, Nat.reduceEqDiff, Nat.reduceAdd, Nat.reduceMul, Int.reduceToNat, Int.reduceAdd, Int.reduceSub, Int.reduceMul, Int.reduceNeg, Int.reduceLT, Int.reduceLE, Nat.reduceLT, Nat.reduceLeDiff, A_r9_newton]
  (repeat (with_reducible refine And.intro (by omega) ?_))
  refine callG_rows 100 [tapeV t, .d (rowD (z.getD 0 []))] (by simp [Heap.next]) (r4_Jac_ac t (z.getD 0 []) ht hz0) ⟨.aggs ⟨.bare _, .bare _, .bare _, trivial⟩, .bare _, trivial⟩ ?_
  simp -implicitDefEqProofs only [xC_skip, evS, evT, evU, hv, effC, reduceCtorEq, ↓reduceIte, Nat.reduceEqDiff, Nat.reduceAdd, Nat.reduceMul, Int.reduceToNat, Int.reduceAdd, Int.reduceSub, Int.reduceMul, Int.reduceNeg, Int.reduceLT, Int.reduceLE, Nat.reduceLT, Nat.reduceLeDiff]
  generalize hw : fop .mul h (l.getD 0 0) = w
  refine WA_forW (n := t.n) (fun c s => ∃ i Z, c + i = t.n ∧ Nw t z l h i 0 Z ∧ ((i < t.n ∧ s = ⟨[(8, .ptr 1 0 0 2), (10, .sl 120 0 0 t.n 1 t.n), (11, fl w), (12, fI i)], [(121, Z.map rowV), (120, [hdo 121 0 t.n t.n]), (1, [[.nil, .nil]]), (0, [jtT t])]⟩) ∨
    (i = t.n ∧ s = ⟨[(8, .ptr 1 0 0 2), (10, .d (rowsD Z)), (11, fl w), (12, fI i)], [(1, [[.nil, .nil]])]⟩))) (Le.refl _) ⟨0, _, by omega, Nw_zero t z l h ht, .inl ⟨hn0, rfl⟩⟩ ?_
  rintro c s ⟨i, Z, hc, hZ, ⟨hi, rfl⟩ | ⟨rfl, rfl⟩⟩
  · have hid : decide (i < t.n) = true := by simpa using hi
    simp -implicitDefEqProofs only [xC_skip, evS, evT, evU, hv, effC, reduceCtorEq, ↓reduceIte, Nat.reduceEqDiff, Nat.reduceAdd, Nat.reduceMul, Int.reduceToNat, Int.reduceAdd, Int.reduceSub, Int.reduceMul, Int.reduceNeg, Int.reduceLT, Int.reduceLE, Nat.reduceLT, Nat.reduceLeDiff, A_r9_newton_L0, hid]
    refine WA_for (n := t.n) (fun c s => ∃ k Z, c + k = t.n ∧ Nw t z l h i k Z ∧ s = ⟨[(8, .ptr 1 0 0 2), (10, .sl 120 0 0 t.n 1 t.n), (11, fl w), (12, fI i), (13, fI k)], [(121, Z.map rowV), (120, [hdo 121 0 t.n t.n]), (1, [[.nil, .nil]]), (0, [jtT t])]⟩) ⟨0, Z, by omega, hZ, rfl⟩ ?_
    rintro c' s ⟨k, Z', hc', hZ', rfl⟩
    have hzl' := hZ'.1.1
    have hzj := hZ'.1.2 i hi
    simp -implicitDefEqProofs only [xC_skip, evS, evT, evU, hv, effC, reduceCtorEq, ↓reduceIte, Nat.reduceEqDiff, Nat.reduceAdd, Nat.reduceMul, Int.reduceToNat, Int.reduceAdd, Int.reduceSub, Int.reduceMul, Int.reduceNeg, Int.reduceLT, Int.reduceLE, Nat.reduceLT, Nat.reduceLeDiff, A_r9_newton_L1, hdo_getD 121 0 t.n t.n i hi]
    have up : ∀ v, v = matE t z l h i k → k < t.n → Nw t z l h i (k + 1) (up2 Z' i k v) := fun v e hk => by rw [e]; exact Nw_up hZ' hi hk
    have hme : matE t z l h i k = fop .sub (if i = k then oneW else 0) (fop .mul w (((jacT t (z.getD 0 [])).getD i []).getD k 0)) := by rw [← hw]; rfl
    refine condC_intro (fun hk => ?_) (fun hk => ?_)
    · replace hk := of_decide_eq_true hk
      have hjk := hZ'.2 i k hi hk
      rw [if_neg (by omega)] at hjk
      have gk := getD_map_fl (Z'.getD i []) k (by omega)
      by_cases e : i = k
      · subst e
        rw [if_pos rfl] at hme
        simp -implicitDefEqProofs only [xC_skip, evS, evT, evU, hv, effC, reduceCtorEq, ↓reduceIte, Nat.reduceEqDiff, Nat.reduceAdd, Nat.reduceMul, Int.reduceToNat, Int.reduceAdd, Int.reduceSub, Int.reduceMul, Int.reduceNeg, Int.reduceLT, Int.reduceLE, Nat.reduceLT, Nat.reduceLeDiff, hdo_getD 121 0 t.n t.n i hi, getE Z' i (by omega), gk, setE, beq_self_eq_true]
        (repeat (with_reducible refine And.intro (by omega) ?_))
        rw [hjk, wrapI (by omega) (by omega)]
        exact ⟨c' - 1, by omega, i + 1, _, by omega, up _ hme.symm hk, rfl⟩
      · have e' : ((i : Int) == (k : Int)) = false := by simp; omega
        rw [if_neg e] at hme
        simp -implicitDefEqProofs only [xC_skip, evS, evT, evU, hv, effC, reduceCtorEq, ↓reduceIte, Nat.reduceEqDiff, Nat.reduceAdd, Nat.reduceMul, Int.reduceToNat, Int.reduceAdd, Int.reduceSub, Int.reduceMul, Int.reduceNeg, Int.reduceLT, Int.reduceLE, Nat.reduceLT, Nat.reduceLeDiff, hdo_getD 121 0 t.n t.n i hi, getE Z' i (by omega), gk, setE, e']
        (repeat (with_reducible refine And.intro (by omega) ?_))
        rw [hjk, wrapI (by omega) (by omega)]
        exact ⟨c' - 1, by omega, k + 1, _, by omega, up _ hme.symm hk, rfl⟩
    · replace hk := of_decide_eq_false hk
      have e : k = t.n := by omega
      subst e
      have hZ3 := Nw_row hZ'
      simp -implicitDefEqProofs only [xC_skip, evS, evT, evU, hv, effC, reduceCtorEq, ↓reduceIte, Nat.reduceEqDiff, Nat.reduceAdd, Nat.reduceMul, Int.reduceToNat, Int.reduceAdd, Int.reduceSub, Int.reduceMul, Int.reduceNeg, Int.reduceLT, Int.reduceLE, Nat.reduceLT, Nat.reduceLeDiff]
      rw [wrapI (by omega) (by omega)]
      by_cases hl : i + 1 = t.n
      · refine ⟨c - 1, _, by omega, ?_, i + 1, Z', by omega, hZ3, .inr ⟨hl, rfl⟩⟩
        have hz : ∀ L L' : Heap, L.get 120 0 = some (hdo 121 0 t.n t.n) → L.fam 121 = some (Z'.map rowV) → L'.fam 120 = none → L'.fam 121 = none → Fz L L' (.sl 120 0 0 t.n 1 t.n) (.d (.bor Z'.length (rowsG Z'))) := fun L L' a b c d =>
          Fz_rows (X := 121) (o := 0) (len := t.n) a (fun r hr => ⟨by
            unfold Heap.get
            rw [b, Nat.add_zero]
            have : r < Z'.length := by omega
            simp [List.getD_eq_getElem?_getD, this], hZ'.1.2 r hr⟩) hzl' rfl c d
        exact LeT.weak (fun _ h => h) (by simp (maxDischargeDepth := 6) [Fz_rowD, Fz_rowI, Fz_rowsD, FzS_cons, FzS_nil, FzH_cons, FzH_nil, FzF_cons, FzF_nil, FzF_rows, FzA_cons, FzA_nil, FzA_app, FzA_rowV, FzA_dcells, FzA_outC, FzA_data, Fz_d, Fz_nil, Fz_any, Fz_ptr, Fz_sl, Fz_agg, get_cons, get_nil, fam_cons, fam_nil, hz]) (by simp (maxDischargeDepth := 6) [Fz_rowD, Fz_rowI, Fz_rowsD, FzS_cons, FzS_nil, FzH_cons, FzH_nil, FzF_cons, FzF_nil, FzF_rows, FzA_cons, FzA_nil, FzA_app, FzA_rowV, FzA_dcells, FzA_outC, FzA_data, Fz_d, Fz_nil, Fz_any, Fz_ptr, Fz_sl, Fz_agg, get_cons, get_nil, fam_cons, fam_nil])
      · exact ⟨c - 1, _, by omega, Le.refl _, i + 1, Z', by omega, hZ3, .inl ⟨by omega, rfl⟩⟩
  · have hid : decide (t.n < Z.length) = false := by rw [hZ.1.1]; simp
    rw [← Nw_all hZ] at hr
    simp -implicitDefEqProofs only [xC_skip, evS, evT, evU, hv, effC, reduceCtorEq, ↓reduceIte, Nat.reduceEqDiff, Nat.reduceAdd, Nat.reduceMul, Int.reduceToNat, Int.reduceAdd, Int.reduceSub, Int.reduceMul, Int.reduceNeg, Int.reduceLT, Int.reduceLE, Nat.reduceLT, Nat.reduceLeDiff, A_r9_newton_L0, hid]
    first | refine callG_con (hr) rfl ?_ | refine callCG_con (hr) rfl ?_ | refine callSG_con (hr) rfl ?_
    simp -implicitDefEqProofs only [xC_skip, evS, evT, evU, hv, effC, reduceCtorEq, ↓reduceIte, Nat.reduceEqDiff, Nat.reduceAdd, Nat.reduceMul, Int.reduceToNat, Int.reduceAdd, Int.reduceSub, Int.reduceMul, Int.reduceNeg, Int.reduceLT, Int.reduceLE, Nat.reduceLT, Nat.reduceLeDiff]
    exact endsT_only (fun _ => false) (fun _ h => h) ⟨.agg [.d A, .d C], fB b, resV_cell (by decide) rfl rfl rfl (by simp) rfl, resV_tmpI (t := 9) (by decide) rfl, rfl⟩ rfl (by simp [KpS_cons, KpS_nil, KpH_cons, KpH_nil, KpF_cons, KpF_nil, KpF_rows, KpA_cons, KpA_nil, KpA_app, KpA_rowV, KpA_rowIV, KpA_dcells, KpA_outC, Kp_any, Kp_nilv, Kp_d, Kp_ptr, Kp_sl, Kp_agg, Kp_tup, Kp_fn, get_cons, get_nil]) (by simp [KpS_cons, KpS_nil, KpH_cons, KpH_nil, KpF_cons, KpF_nil, KpF_rows, KpA_cons, KpA_nil, KpA_app, KpA_rowV, KpA_rowIV, KpA_dcells, KpA_outC, Kp_any, Kp_nilv, Kp_d, Kp_ptr, Kp_sl, Kp_agg, Kp_tup, Kp_fn, get_cons, get_nil])
theorem r9_newton_some (t : Tp) (z : List (List Nat)) (l : List Nat) (h : Nat) (ht : Tok t) (hn0 : 0 < t.n) (hz : 2 ≤ z.length) (hz0 : (z.getD 0 []).length = t.n) (B : List (List Nat)) (π : List Int) (hp : partP (matT t z l h) t.n t.n = some (B, π)) :
    Con Try.prog 42 [tapeV t, .d (rowsD z), fl (l.getD 0 0), fl h] (.tup [.agg [.d (rowsD B), .d (rowI π)], fB true]) :=
  r9_newton_gen t z l h ht hn0 hz hz0 _ _ _ (r6_Part_data _ t.n (matT_sq t z l h) hn0 (by have := ht.n; omega) B π hp)
theorem r9_newton_none (t : Tp) (z : List (List Nat)) (l : List Nat) (h : Nat) (ht : Tok t) (hn0 : 0 < t.n) (hz : 2 ≤ z.length) (hz0 : (z.getD 0 []).length = t.n) (hp : partP (matT t z l h) t.n t.n = none) :
    Con Try.prog 42 [tapeV t, .d (rowsD z), fl (l.getD 0 0), fl h] (.tup [.agg [.d (rowsD []), .d (rowI [])], fB false]) :=
  r9_newton_gen t z l h ht hn0 hz hz0 _ _ _ (r6_Part_none _ t.n (matT_sq t z l h) hn0 (by have := ht.n; omega) hp)
end Go.Ab
