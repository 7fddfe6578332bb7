/- The rows of Bdf. -/
import Derived.Test.YtdckmpaakheppaaJB
namespace Go.Ab
set_option linter.unusedSimpArgs false
set_option linter.unusedVariables false
open Go Go.Proofs
def A_corr_solver_matrix_1_1 : CA := (.seq (.reg [⟨0, (some 5), none, [], [], (.h (.mov (.k (.d (.flt 0)))))⟩] [0, 1, 2, 3]) (.seq (.reg [⟨0, (some 6), none, [], [], (.h (.mov (.k (.d (.flt 0)))))⟩] [0, 1, 2, 3, 6]) (.seq (.seq (.reg [⟨0, (some 7), none, [], [], (.load (.t 1) 1 false)⟩, ⟨1, (some 8), none, [], [], (.h (.mov (.t 0)))⟩, ⟨2, (some 9), none, [], [], (.h (.ibin .eql (.t 7) (.t 8)))⟩] [0, 1, 2, 3, 6, 9]) (.cond (.t 9) (.reg [⟨0, (some 6), none, [], [], (.h (.mov (.k (.d (.flt 4607182418800017408)))))⟩] [0, 1, 2, 3, 6]) .skip)) (.seq (.reg [⟨0, (some 10), none, [], [], (.h (.mov (.t 6)))⟩, ⟨1, (some 11), none, [], [], (.load (.t 2) 1 false)⟩, ⟨2, (some 12), none, [], [], (.load (.t 3) 1 false)⟩, ⟨3, (some 13), none, [], [], (.load (.t 1) 1 false)⟩, ⟨4, (some 14), none, [], [], (.h (.idx (.t 12) (.t 13) 1))⟩, ⟨5, (some 15), none, [], [], (.load (.t 14) 1 false)⟩, ⟨6, (some 16), none, [], [], (.h (.mov (.t 0)))⟩, ⟨7, (some 17), none, [], [], (.h (.idx (.t 15) (.t 16) 1))⟩, ⟨8, (some 18), none, [], [], (.load (.t 17) 1 false)⟩, ⟨9, (some 19), none, [], [], (.h (.fbin .mul (.t 11) (.t 18)))⟩, ⟨10, (some 20), none, [], [], (.h (.fbin .sub (.t 10) (.t 19)))⟩, ⟨11, (some 5), none, [], [], (.h (.mov (.t 20)))⟩] [5]) .ret))))
theorem A_corr_solver_matrix_1_1_comp : compF Try.prog 68 = some ⟨21, [(5, none)], A_corr_solver_matrix_1_1.strip⟩ := by kernel_rfl
def A_corr_solver_matrix_1 : CA := (.seq (.reg [⟨0, (some 4), none, [], [], (.box (.t 0) 1 3)⟩, ⟨1, (some 5), none, [], [], (.h (.mov (.k .nil)))⟩] [1, 2, 3, 4]) (.seq (.reg [⟨0, (some 6), none, [], [], (.load (.t 1) 1 false)⟩, ⟨1, (some 7), none, [], [], (.h (.nilck (.t 6)))⟩, ⟨2, (some 8), none, [], [], (.h (.padd (.t 7) 0))⟩, ⟨3, (some 9), none, [], [], (.load (.t 8) 1 true)⟩, ⟨4, (some 10), none, [], [], (.h (.mkfn 68 [] [(.t 4), (.t 2), (.t 3)]))⟩, ⟨5, (some 11), none, [], [], (.callA (.k (.d (.fn 60 [] []))) [(.t 9), (.t 10)])⟩, ⟨6, (some 5), none, [], [], (.h (.mov (.t 11)))⟩] [5]) .ret))
theorem A_corr_solver_matrix_1_comp : compF Try.prog 67 = some ⟨12, [(5, none)], A_corr_solver_matrix_1.strip⟩ := by kernel_rfl
def A_corr_solver_matrix : CA := (.seq (.reg [⟨0, (some 1), none, [], [], (.box (.t 0) 1 67)⟩, ⟨1, (some 2), none, [], [], (.h (.mov (.k .nil)))⟩] [1]) (.seq (.reg [⟨0, (some 5), none, [], [], (.load (.t 1) 1 false)⟩, ⟨1, (some 6), none, [], [], (.h (.nilck (.t 5)))⟩, ⟨2, (some 7), none, [], [], (.h (.padd (.t 6) 1))⟩, ⟨3, (some 8), none, [], [], (.load (.t 7) 3 true)⟩, ⟨4, (some 9), none, [], [], (.load (.t 1) 1 false)⟩, ⟨5, (some 10), none, [], [], (.h (.nilck (.t 9)))⟩, ⟨6, (some 11), none, [], [], (.h (.padd (.t 10) 4))⟩, ⟨7, (some 12), none, [], [], (.load (.t 11) 1 false)⟩, ⟨8, (some 13), none, [], [], (.h (.idx (.t 12) (.k (.d (.int .i64 0))) 1))⟩, ⟨9, (some 14), none, [], [], (.load (.t 13) 1 false)⟩, ⟨10, (some 15), none, [], [], (.callS 0 (.k (.d (.fn 65 [] []))) [(.t 8), (.t 14)])⟩, ⟨11, (some 3), none, [], [], (.alloc [.nil] 29)⟩, ⟨12, none, none, [], [], (.store (.t 3) (.t 15) 1)⟩] [1, 3]) (.seq (.reg [⟨0, (some 16), none, [], [], (.load (.t 1) 1 false)⟩, ⟨1, (some 17), none, [], [], (.h (.nilck (.t 16)))⟩, ⟨2, (some 18), none, [], [], (.h (.padd (.t 17) 6))⟩, ⟨3, (some 19), none, [], [], (.load (.t 18) 1 false)⟩, ⟨4, (some 20), none, [], [], (.load (.t 1) 1 false)⟩, ⟨5, (some 21), none, [], [], (.h (.nilck (.t 20)))⟩, ⟨6, (some 22), none, [], [], (.h (.padd (.t 21) 5))⟩, ⟨7, (some 23), none, [], [], (.load (.t 22) 1 false)⟩, ⟨8, (some 24), none, [], [], (.h (.idx (.t 23) (.k (.d (.int .i64 0))) 1))⟩, ⟨9, (some 25), none, [], [], (.load (.t 24) 1 false)⟩, ⟨10, (some 26), none, [], [], (.h (.fbin .mul (.t 19) (.t 25)))⟩, ⟨11, (some 4), none, [], [], (.alloc [(.d (.flt 0))] 32)⟩, ⟨12, none, none, [], [], (.store (.t 4) (.t 26) 1)⟩] [1, 3, 4]) (.seq (.reg [⟨0, (some 27), none, [], [], (.load (.t 1) 1 false)⟩, ⟨1, (some 28), none, [], [], (.h (.nilck (.t 27)))⟩, ⟨2, (some 29), none, [], [], (.h (.padd (.t 28) 0))⟩, ⟨3, (some 30), none, [], [], (.h (.padd (.t 29) 0))⟩, ⟨4, (some 31), none, [], [], (.load (.t 30) 1 false)⟩, ⟨5, (some 32), none, [], [], (.h (.build [(.d (.int .i64 0))] [(0, (1, (.t 31)))]))⟩, ⟨6, (some 33), none, [], [], (.h (.mkfn 67 [] [(.t 1), (.t 4), (.t 3)]))⟩, ⟨7, (some 34), none, [], [], (.callA (.k (.d (.fn 66 [] []))) [(.t 32), (.t 33)])⟩, ⟨8, (some 2), none, [], [], (.h (.mov (.t 34)))⟩] [2]) .ret))))
theorem A_corr_solver_matrix_comp : compF Try.prog 39 = some ⟨35, [(2, none)], A_corr_solver_matrix.strip⟩ := by kernel_rfl
def A_corr_maker__float64_each_L0 : CA := (.seq (.reg [⟨0, (some 13), none, [], [], (.h (.ibin .lss (.t 12) (.t 11)))⟩] [1, 5, 11, 12, 13]) (.seq (.cond (.t 13) .skip (.exit 0)) (.seq (.block 1 (.seq (.reg [⟨0, (some 14), none, [], [], (.h (.mov (.t 12)))⟩, ⟨1, (some 6), none, [], [], (.h (.mov (.t 14)))⟩] [1, 5, 6, 11, 12]) (.reg [⟨0, (some 15), none, [], [], (.h (.mov (.t 5)))⟩, ⟨1, (some 16), none, [], [], (.h (.mov (.t 6)))⟩, ⟨2, (some 17), none, [], [], (.h (.mov (.t 1)))⟩, ⟨3, (some 18), none, [], [], (.h (.mov (.t 6)))⟩, ⟨4, (some 19), none, [], [], (.callA (.t 17) [(.t 18)])⟩, ⟨5, (some 20), none, [], [], (.h (.idx (.t 15) (.t 16) 1))⟩, ⟨6, none, none, [], [], (.store (.t 20) (.t 19) 1)⟩] [1, 5, 11, 12]))) (.reg [⟨0, (some 21), none, [], [], (.h (.ibin .add (.t 12) (.k (.d (.int .i64 1)))))⟩, ⟨1, (some 12), none, [], [], (.h (.mov (.t 21)))⟩] [1, 5, 11, 12]))))
def A_corr_maker__float64_each : CA := (.seq (.reg [⟨0, (some 2), none, [], [], (.box (.t 0) 1 96)⟩, ⟨1, (some 4), none, [], [], (.h (.mov (.k .nil)))⟩] [1, 2]) (.seq (.reg [⟨0, (some 7), none, [], [], (.h (.padd (.t 2) 0))⟩, ⟨1, (some 8), none, [], [], (.load (.t 7) 1 false)⟩, ⟨2, (some 9), none, [], [], (.mksl [.nil] 1 24 (.t 8) (.t 8) 31)⟩, ⟨3, (some 5), none, [], [], (.h (.mov (.t 9)))⟩] [1, 5]) (.seq (.seq (.reg [⟨0, (some 10), none, [], [], (.h (.mov (.t 5)))⟩, ⟨1, (some 11), none, [], [], (.h (.len (.t 10)))⟩, ⟨2, (some 12), none, [], [], (.h (.mov (.k (.d (.int .i64 0)))))⟩] [1, 5, 11, 12]) (.block 0 (.loop A_corr_maker__float64_each_L0))) (.seq (.reg [⟨0, (some 22), none, [], [], (.h (.mov (.t 5)))⟩, ⟨1, (some 4), none, [], [], (.h (.mov (.t 22)))⟩] [4]) .ret))))
theorem A_corr_maker__float64_each_comp : compF Try.prog 66 = some ⟨23, [(4, none)], A_corr_maker__float64_each.strip⟩ := by kernel_rfl
def matE (t : Tp) (z : List (List Nat)) (l : List Nat) (h i k : Nat) : Nat := fop .sub (if i = k then oneW else 0) (fop .mul (fop .mul h (l.getD 0 0)) (((jacT t (z.getD 0 [])).getD i []).getD k 0))
def matT (t : Tp) (z : List (List Nat)) (l : List Nat) (h : Nat) : List (List Nat) := (List.range t.n).map fun i => tabR (matE t z l h i) t.n
theorem matT_row (t : Tp) (z : List (List Nat)) (l : List Nat) (h i : Nat) (hi : i < t.n) : (matT t z l h).getD i [] = tabR (matE t z l h i) t.n := by
  unfold matT
  rw [List.getD_eq_getElem?_getD, List.getElem?_map, List.getElem?_range hi]; rfl
theorem matT_sq (t : Tp) (z : List (List Nat)) (l : List Nat) (h : Nat) : Sq t.n (matT t z l h) := ⟨by simp [matT], fun i hi => by rw [matT_row _ _ _ _ _ hi]; exact tabR_len _ _⟩
theorem jacT_row (t : Tp) (x : List Nat) (ht : Tok t) (i : Nat) (hi : i < t.n) : ((jacT t x).getD i []).length = t.n := by
  have hgo := ht.out i hi
  have hjr : (jacT t x).getD i [] = (drs t x t.ops.length).getD (t.out.getD i 0).toNat [] := by
    unfold jacT
    rw [List.getD_eq_getElem?_getD, List.getElem?_map, List.getElem?_range hi]; rfl
  rw [hjr]; exact drs_rows t x _ _ (by omega)
/-- Rows made one by one, of what nobody writes. -/
theorem each_rows_ac (f : FuncId) (cap : List D) (n : Nat) (A : List (List Nat)) (hA : Sq n A) (hn : n < 2 ^ 20) (hf : ∀ i : Nat, i < n → AC Try.prog f (fI i :: cap.map .d) [] [(0, [rowV (A.getD i [])])] (.sl 0 0 0 n 1 n)) :
    AC Try.prog 66 [.agg [fI n], .d (.fn f [] cap)] [] [(20, A.map rowV), (3, [hdo 20 0 n n])] (.sl 3 0 0 n 1 n) := by
  obtain ⟨hl, hr⟩ := hA
  refine AC_introA A_corr_maker__float64_each_comp rfl mixed (fun _ => False) (by simp [get_nil]) ?_
  simp -implicitDefEqProofs only [xC_skip, evS, evT, evU, hv, effC, reduceCtorEq, ↓reduceIte, Nat.reduceEqDiff, Nat.reduceAdd, Nat.reduceMul, Int.reduceToNat, Int.reduceAdd, Int.reduceSub, Int.reduceMul, Int.reduceNeg, Int.reduceLT, Int.reduceLE, Nat.reduceLT, Nat.reduceLeDiff, A_corr_maker__float64_each]
  (repeat (with_reducible refine And.intro (by omega) ?_))
  refine WA_forW (n := n) (fun c s => ∃ i, c + i = n ∧ s = ⟨[(1, .d (.fn f [] cap)), (5, .sl 3 0 0 n 1 n), (11, fI n), (12, fI i)], [(20, (A.take i).map rowV), (3, [hd 20 n i n]), (0, [[fI n]])]⟩) (s0 := ⟨_, _⟩) ?_ ⟨0, by omega, rfl⟩ ?_
  · rw [hd_zero]
    exact LeT.empty (L1 := []) (by simp [fam_cons, fam_nil])
  rintro c s ⟨i, hc, rfl⟩
  simp -implicitDefEqProofs only [xC_skip, evS, evT, evU, hv, effC, reduceCtorEq, ↓reduceIte, Nat.reduceEqDiff, Nat.reduceAdd, Nat.reduceMul, Int.reduceToNat, Int.reduceAdd, Int.reduceSub, Int.reduceMul, Int.reduceNeg, Int.reduceLT, Int.reduceLE, Nat.reduceLT, Nat.reduceLeDiff, A_corr_maker__float64_each_L0]
  refine condC_intro (fun h => ?_) (fun h => ?_)
  · replace h := of_decide_eq_true h
    simp -implicitDefEqProofs only [xC_skip, evS, evT, evU, hv, effC, reduceCtorEq, ↓reduceIte, Nat.reduceEqDiff, Nat.reduceAdd, Nat.reduceMul, Int.reduceToNat, Int.reduceAdd, Int.reduceSub, Int.reduceMul, Int.reduceNeg, Int.reduceLT, Int.reduceLE, Nat.reduceLT, Nat.reduceLeDiff]
    have e1 := hr i h
    refine callG_row 110 (fI i :: cap.map .d) (by simp [Heap.next]) (hf i h) ⟨.bare _, snaps_data _ _⟩ ?_
    simp -implicitDefEqProofs only [xC_skip, evS, evT, evU, hv, effC, reduceCtorEq, ↓reduceIte, Nat.reduceEqDiff, Nat.reduceAdd, Nat.reduceMul, Int.reduceToNat, Int.reduceAdd, Int.reduceSub, Int.reduceMul, Int.reduceNeg, Int.reduceLT, Int.reduceLE, Nat.reduceLT, Nat.reduceLeDiff]
    refine ⟨h, by omega, ?_⟩
    rw [wrapI (by omega) (by omega)]
    refine ⟨c - 1, _, by omega, LeT.absorb (by decide) rfl rfl (fun h => h), i + 1, by omega, ?_⟩
    have e2 : ((A.take i).map rowV).length = i := by simp; omega
    rw [e2, ren_fam, ren_rowV, take_fam A i (by omega)]
    simp only [renS, Heap.renH, ren_absF_sl _ _ _ _ _ _ _ _ _ (by decide : (3 : Nat) ≠ 110), ren_d, List.map_cons, List.map_nil, hd_absorb 110 20 _ _ _ (by decide) h]
    rfl
  · replace h := of_decide_eq_false h
    have e : i = n := by omega
    subst e
    simp -implicitDefEqProofs only [xC_skip, evS, evT, evU, hv, effC, reduceCtorEq, ↓reduceIte, Nat.reduceEqDiff, Nat.reduceAdd, Nat.reduceMul, Int.reduceToNat, Int.reduceAdd, Int.reduceSub, Int.reduceMul, Int.reduceNeg, Int.reduceLT, Int.reduceLE, Nat.reduceLT, Nat.reduceLeDiff]
    have e : A.take i = A := List.take_of_length_le (by omega)
    have hk1 : ∀ L : Heap, L.fam 20 = some (A.map rowV) → KpA L (hdo 20 0 i i) := fun L hL => KpA_hdoF hL (by omega)
    rw [e, hd_all]
    exact endsT_only (fun X => X == 20 || X == 3) (fun _ h => h) (resV_tmpI (t := 4) (by decide) rfl) rfl (by simp (maxDischargeDepth := 6) [KpS_cons, KpS_nil, KpH_cons, KpH_nil, KpF_cons, KpF_nil, KpF_rows, KpA_cons, KpA_nil, KpA_app, KpA_rowV, KpA_rowIV, KpA_dcells, KpA_outC, Kp_any, Kp_nilv, Kp_d, Kp_ptr, Kp_sl, Kp_agg, Kp_tup, Kp_fn, get_cons, get_nil, fam_cons, fam_nil]) (by simp (maxDischargeDepth := 6) [KpS_cons, KpS_nil, KpH_cons, KpH_nil, KpF_cons, KpF_nil, KpF_rows, KpA_cons, KpA_nil, KpA_app, KpA_rowV, KpA_rowIV, KpA_dcells, KpA_outC, Kp_any, Kp_nilv, Kp_d, Kp_ptr, Kp_sl, Kp_agg, Kp_tup, Kp_fn, get_cons, get_nil, fam_cons, fam_nil, hk1])
section
variable (t : Tp) (z : List (List Nat)) (l : List Nat) (h : Nat) (w d : List Nat) (p q : D) (ok : Sok t z l w d)
include ok
theorem matrix11_con (i k : Nat) (hi : i < t.n) (hk : k < t.n) : Con Try.prog 68 [fI k, .d (.bptr [.int .i64 i]), .d (.bptr [.flt (fop .mul h (l.getD 0 0))]), .d (.bptr [rowsD (jacT t (z.getD 0 []))])] (fl (matE t z l h i k)) := by
  obtain ⟨ht, hz, hzl, hl, hw, hd⟩ := ok
  have j1 := jacT_len t (z.getD 0 [])
  have j2 := jacT_row t (z.getD 0 []) ht i hi
  refine Con_introA A_corr_solver_matrix_1_1_comp rfl mixed ?_
  simp -implicitDefEqProofs only [xC_skip, evS, evT, evU, hv, effC, reduceCtorEq, ↓reduceIte, Nat.reduceEqDiff, Nat.reduceAdd, Nat.reduceMul, Int.reduceToNat, Int.reduceAdd, Int.reduceSub, Int.reduceMul, Int.reduceNeg, Int.reduceLT, Int.reduceLE, Nat.reduceLT, Nat.reduceLeDiff, A_corr_solver_matrix_1_1]
  by_cases hik : i = k
  · have h' : ((i : Int) == (k : Int)) = true := by simp [hik]
    simp -implicitDefEqProofs only [xC_skip, evS, evT, evU, hv, effC, reduceCtorEq, ↓reduceIte, Nat.reduceEqDiff, Nat.reduceAdd, Nat.reduceMul, Int.reduceToNat, Int.reduceAdd, Int.reduceSub, Int.reduceMul, Int.reduceNeg, Int.reduceLT, Int.reduceLE, Nat.reduceLT, Nat.reduceLeDiff, h']
    (repeat (with_reducible refine And.intro (by omega) ?_))
    have e : matE t z l h i k = fop .sub 4607182418800017408 (fop .mul (fop .mul h (l.getD 0 0)) (((jacT t (z.getD 0 [])).getD i []).getD k 0)) := by unfold matE; rw [if_pos hik]; rfl
    rw [e]
    exact endsT_rett rfl (by decide) (by simp [look])
  · have h' : ((i : Int) == (k : Int)) = false := by simp; omega
    simp -implicitDefEqProofs only [xC_skip, evS, evT, evU, hv, effC, reduceCtorEq, ↓reduceIte, Nat.reduceEqDiff, Nat.reduceAdd, Nat.reduceMul, Int.reduceToNat, Int.reduceAdd, Int.reduceSub, Int.reduceMul, Int.reduceNeg, Int.reduceLT, Int.reduceLE, Nat.reduceLT, Nat.reduceLeDiff, h']
    (repeat (with_reducible refine And.intro (by omega) ?_))
    have e : matE t z l h i k = fop .sub 0 (fop .mul (fop .mul h (l.getD 0 0)) (((jacT t (z.getD 0 [])).getD i []).getD k 0)) := by unfold matE; rw [if_neg hik]
    rw [e]
    exact endsT_rett rfl (by decide) (by simp [look])
theorem matrix1_ac (i : Nat) (hi : i < t.n) : AC Try.prog 67 [fI i, .d (.bptr [.bptr (svC t z l h w d p q)]), .d (.bptr [.flt (fop .mul h (l.getD 0 0))]), .d (.bptr [rowsD (jacT t (z.getD 0 []))])] [] [(0, [rowV ((matT t z l h).getD i [])])] (.sl 0 0 0 t.n 1 t.n) := by
  have ok' := ok
  obtain ⟨ht, hz, hzl, hl, hw, hd⟩ := ok'
  have hn := ht.n
  rw [matT_row _ _ _ _ _ hi]
  refine AC_row0 (X := 120) ?_
  refine AC_introA A_corr_solver_matrix_1_comp rfl mixed (fun _ => False) (by simp [get_nil]) ?_
  simp -implicitDefEqProofs only [xC_skip, evS, evT, evU, hv, effC, reduceCtorEq, ↓reduceIte, Nat.reduceEqDiff, Nat.reduceAdd, Nat.reduceMul, Int.reduceToNat, Int.reduceAdd, Int.reduceSub, Int.reduceMul, Int.reduceNeg, Int.reduceLT, Int.reduceLE, Nat.reduceLT, Nat.reduceLeDiff, A_corr_solver_matrix_1, svC, fnOf_pdd]
  have e1 := each_ac 68 [.bptr [.int .i64 i], .bptr [.flt (fop .mul h (l.getD 0 0))], .bptr [rowsD (jacT t (z.getD 0 []))]] t.n (matE t z l h i) (by omega) (fun k hk => matrix11_con t z l h w d ok i k hi hk)
  refine callG_row 120 _ (by simp [Heap.next]) e1 ⟨.aggs ⟨.bare _, trivial⟩, .fun3 (.box rfl (.bare _)) (.bare _) (.bare _), trivial⟩ ?_
  simp -implicitDefEqProofs only [xC_skip, evS, evT, evU, hv, effC, reduceCtorEq, ↓reduceIte, Nat.reduceEqDiff, Nat.reduceAdd, Nat.reduceMul, Int.reduceToNat, Int.reduceAdd, Int.reduceSub, Int.reduceMul, Int.reduceNeg, Int.reduceLT, Int.reduceLE, Nat.reduceLT, Nat.reduceLeDiff]
  exact endsT_only (fun X => X == 120) (fun _ h => h) (resV_tmpI (t := 5) (by decide) rfl) rfl (by simp [KpS_cons, KpS_nil, KpH_cons, KpH_nil, KpF_cons, KpF_nil, KpF_rows, KpA_cons, KpA_nil, KpA_app, KpA_rowV, KpA_rowIV, KpA_dcells, KpA_outC, Kp_any, Kp_nilv, Kp_d, Kp_ptr, Kp_sl, Kp_agg, Kp_tup, Kp_fn, get_cons, get_nil]) (by simp [KpS_cons, KpS_nil, KpH_cons, KpH_nil, KpF_cons, KpF_nil, KpF_rows, KpA_cons, KpA_nil, KpA_app, KpA_rowV, KpA_rowIV, KpA_dcells, KpA_outC, Kp_any, Kp_nilv, Kp_d, Kp_ptr, Kp_sl, Kp_agg, Kp_tup, Kp_fn, get_cons, get_nil])
theorem matrix_ac (hn0 : 0 < t.n) : AC Try.prog 39 [.d (.bptr (svC t z l h w d p q))] [] [(120, (matT t z l h).map rowV), (103, [hdo 120 0 t.n t.n])] (.sl 103 0 0 t.n 1 t.n) := by
  have ok' := ok
  obtain ⟨ht, hz, hzl, hl, hw, hd⟩ := ok'
  have hn := ht.n
  have hz0 := hzl 0 (by omega)
  have hsq := matT_sq t z l h
  refine AC_introA A_corr_solver_matrix_comp rfl mixed (fun _ => False) (by simp [get_nil]) ?_
  simp -implicitDefEqProofs only [xC_skip, evS, evT, evU, hv, effC, reduceCtorEq, ↓reduceIte, Nat.reduceEqDiff, Nat.reduceAdd, Nat.reduceMul, Int.reduceToNat, Int.reduceAdd, Int.reduceSub, Int.reduceMul, Int.reduceNeg, Int.reduceLT, Int.reduceLE, Nat.reduceLT, Nat.reduceLeDiff, A_corr_solver_matrix, svC]
  (repeat (with_reducible refine And.intro (by omega) ?_))
  first | refine callG_con (jac_Jac_con t (z.getD 0 []) ht hz0 hn0) rfl ?_ | refine callCG_con (jac_Jac_con t (z.getD 0 []) ht hz0 hn0) rfl ?_ | refine callSG_con (jac_Jac_con t (z.getD 0 []) ht hz0 hn0) rfl ?_
  simp -implicitDefEqProofs only [xC_skip, evS, evT, evU, hv, effC, reduceCtorEq, ↓reduceIte, Nat.reduceEqDiff, Nat.reduceAdd, Nat.reduceMul, Int.reduceToNat, Int.reduceAdd, Int.reduceSub, Int.reduceMul, Int.reduceNeg, Int.reduceLT, Int.reduceLE, Nat.reduceLT, Nat.reduceLeDiff, svC]
  (repeat (with_reducible refine And.intro (by omega) ?_))
  simp -implicitDefEqProofs only [xC_skip, evS, evT, evU, hv, effC, reduceCtorEq, ↓reduceIte, Nat.reduceEqDiff, Nat.reduceAdd, Nat.reduceMul, Int.reduceToNat, Int.reduceAdd, Int.reduceSub, Int.reduceMul, Int.reduceNeg, Int.reduceLT, Int.reduceLE, Nat.reduceLT, Nat.reduceLeDiff, fnOf_ptr3]
  have e1 := each_rows_ac 67 [.bptr [.bptr (svC t z l h w d p q)], .bptr [.flt (fop .mul h (l.getD 0 0))], .bptr [rowsD (jacT t (z.getD 0 []))]] t.n (matT t z l h) hsq hn (fun i hi => matrix1_ac t z l h w d p q ok i hi)
  refine callG_rows 100 _ (by simp [Heap.next]) e1 ⟨.aggs ⟨.bare _, trivial⟩, .fun3 (.box rfl (.bare _)) (.box rfl (.bare _)) (.box rfl (.bare _)), trivial⟩ ?_
  simp -implicitDefEqProofs only [xC_skip, evS, evT, evU, hv, effC, reduceCtorEq, ↓reduceIte, Nat.reduceEqDiff, Nat.reduceAdd, Nat.reduceMul, Int.reduceToNat, Int.reduceAdd, Int.reduceSub, Int.reduceMul, Int.reduceNeg, Int.reduceLT, Int.reduceLE, Nat.reduceLT, Nat.reduceLeDiff]
  have hk1 : ∀ L : Heap, L.fam 120 = some ((matT t z l h).map rowV) → KpA L (hdo 120 0 t.n t.n) := fun L hL => KpA_hdoF hL (by rw [hsq.1]; exact Nat.le_refl _)
  exact endsT_only (fun X => X == 120 || X == 103) (fun _ h => h) (resV_tmpI (t := 2) (by decide) rfl) rfl (by simp (maxDischargeDepth := 6) [KpS_cons, KpS_nil, KpH_cons, KpH_nil, KpF_cons, KpF_nil, KpF_rows, KpA_cons, KpA_nil, KpA_app, KpA_rowV, KpA_rowIV, KpA_dcells, KpA_outC, Kp_any, Kp_nilv, Kp_d, Kp_ptr, Kp_sl, Kp_agg, Kp_tup, Kp_fn, get_cons, get_nil, fam_cons, fam_nil]) (by simp (maxDischargeDepth := 6) [KpS_cons, KpS_nil, KpH_cons, KpH_nil, KpF_cons, KpF_nil, KpF_rows, KpA_cons, KpA_nil, KpA_app, KpA_rowV, KpA_rowIV, KpA_dcells, KpA_outC, Kp_any, Kp_nilv, Kp_d, Kp_ptr, Kp_sl, Kp_agg, Kp_tup, Kp_fn, get_cons, get_nil, fam_cons, fam_nil, hk1])
end
end Go.Ab
