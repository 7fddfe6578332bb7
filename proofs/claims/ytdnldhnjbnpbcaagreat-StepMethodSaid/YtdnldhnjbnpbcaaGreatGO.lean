/- Part 15: SG, SJ, JD, LE. -/
import Derived.Test.YtdnldhnjbnpbcaaGreatGN
namespace Go.Ab
set_option linter.unusedSimpArgs false
set_option linter.unusedVariables false
open Nat renaming reduceEqDiff → n1_, reduceAdd → n2_, reduceMul → n3_, reduceLT → n4_, reduceLeDiff → n5_
open Int renaming reduceToNat → i1_, reduceAdd → i2_, reduceSub → i3_, reduceMul → i4_, reduceNeg → i5_, reduceLT → i6_, reduceLE → i7_
open Go Go.Proofs
def A_step_highest : CA := (.seq (.reg [i_X 0 0 (.alloc [(.d (.int .i64 0)), (.d (.int .i64 0))] 118)] [0]) (.seq (.reg [i_X 0 1 (.h (.build [(.d (.int .i64 0)), (.d (.int .i64 0))] [(0, (1, (.k (.d (.int .i64 5))))), (1, (1, (.k (.d (.int .i64 4)))))])), i_S 1 0 1 2] [0]) .ret))
theorem A_step_highest_comp : compF Tryz.prog 74 = some ⟨2, [(0, (some (2, true)))], A_step_highest.strip⟩ := by kernel_rfl
def A_step_own : CA := (.seq (.reg [i_X 0 2 (.h (.mov (.k .nil)))] [0]) (.seq (.reg [i_M 0 3 0, i_X 1 4 (.callA (.k (.d (.fn 41 [] []))) [(.t 3), (.k (.d (.int .i64 0)))]), i_M 2 2 4] [2]) .ret))
theorem A_step_own_comp : compF Tryz.prog 40 = some ⟨5, [(2, none)], A_step_own.strip⟩ := by kernel_rfl
def A_step_fresh : CA := (.seq (.reg [i_X 0 2 (.box (.t 0) 13 33), i_X 1 3 (.box (.t 1) 5 37), i_X 2 4 (.alloc [(.d (.int .i64 0)), (.d (.int .i64 0)), (.d (.int .i64 0)), (.d (.int .i64 0)), .nil] 37)] [2, 3, 4]) (.seq (.reg [i_P 0 6 2 0, i_A 1 7 6 3, i_P 2 8 3 4, i_L 3 9 8 1, i_X 4 10 (.h (.idx (.t 9) (.k (.d (.int .i64 0))) 1)), i_L 5 11 10 1, i_P 6 12 3 1, i_L 7 13 12 1, i_X 8 14 (.callS 0 (.k (.d (.fn 76 [] []))) [(.t 7), (.t 11), (.t 13)]), i_X 9 5 (.alloc [(.d (.int .i64 0)), (.d (.int .i64 0)), (.d (.int .i64 0)), (.d (.int .i64 0)), .nil] 37), i_S 10 5 14 5] [3, 4, 5]) (.seq (.reg [i_P 0 15 3 0, i_L 1 16 15 1, i_P 2 17 3 3, ⟨3, (some 18), none, [(.t 3)], [], (.load (.t 17) 1 false)⟩, i_P 4 19 5 0, ⟨5, none, none, [], [(.t 3)], (.store (.t 19) (.t 16) 1)⟩, i_P 6 20 5 3, i_S 7 20 18 1] [4, 5]) (.seq (.reg [i_A 0 21 5 5, i_S 1 4 21 5] [4]) .ret))))
theorem A_step_fresh_comp : compF Tryz.prog 42 = some ⟨22, [(4, (some (5, true)))], A_step_fresh.strip⟩ := by kernel_rfl
def A_step_taken_L0 : CA := (.seq (.reg [i_X 0 75 (.h (.ibin .lss (.t 74) (.t 73)))] [3, 7, 8, 12, 13, 72, 73, 74, 75]) (.seq (.cond (.t 75) .skip (.exit 0)) (.seq (.block 1 (.seq (.reg [i_X 0 76 (.h (.idx (.t 72) (.t 74) 1)), i_L 1 77 76 1, i_M 2 15 77] [3, 7, 8, 12, 13, 15, 72, 73, 74]) (.reg [i_M 0 78 13, i_M 1 79 3, i_P 2 80 8 2, i_L 3 81 80 1, i_X 4 82 (.h (.idx (.t 79) (.t 81) 1)), i_L 5 83 82 1, i_M 6 84 15, i_X 7 85 (.h (.fbin .mul (.t 83) (.t 84))), i_P 8 86 8 2, i_L 9 87 86 1, i_X 10 88 (.h (.ibin .add (.t 87) (.k (.d (.int .i64 1))))), i_X 11 89 (.h (.i2f (.t 88))), i_X 12 90 (.h (.fbin .div (.t 85) (.t 89))), i_X 13 91 (.bslice [(.d (.flt 0))] 1 1 [(0, (1, (.t 90)))] 31), i_X 14 92 (.app (.t 78) (.t 91) 1 8), i_M 15 13 92] [3, 7, 8, 12, 13, 72, 73, 74]))) (.reg [i_X 0 93 (.h (.ibin .add (.t 74) (.k (.d (.int .i64 1))))), i_M 1 74 93] [3, 7, 8, 12, 13, 72, 73, 74]))))
def A_step_taken : CA := (.seq (.reg [i_X 0 6 (.box (.t 0) 13 33), i_X 1 7 (.box (.t 1) 8 42), i_X 2 8 (.box (.t 2) 5 37), i_X 3 12 (.alloc [(.d (.int .i64 0)), (.d (.int .i64 0)), (.d (.int .i64 0)), (.d (.int .i64 0)), .nil, (.d (.int .i64 0)), (.d (.int .i64 0)), (.d (.int .i64 0))] 42)] [3, 4, 5, 6, 7, 8, 12]) (.seq (.reg [i_A 0 16 8 5, i_P 1 17 7 5, i_L 2 18 17 1, i_X 3 19 (.h (.ibin .add (.t 18) (.k (.d (.int .i64 1))))), i_P 4 20 7 0, i_S 5 20 16 5, i_P 6 21 7 5, i_S 7 21 19 1, i_P 8 22 7 6, ⟨9, none, none, [], [], (.store (.t 22) (.k (.d (.int .i64 0))) 1)⟩] [3, 4, 5, 6, 7, 8, 12]) (.seq (.reg [i_P 0 23 8 4, i_L 1 24 23 1, i_X 2 25 (.callA (.k (.d (.fn 40 [] []))) [(.t 24)]), i_P 3 26 7 0, i_P 4 27 26 4, i_S 5 27 25 1] [3, 4, 5, 6, 7, 8, 12]) (.seq (.seq (.reg [i_P 0 28 7 5, i_L 1 29 28 1, i_P 2 30 8 2, i_L 3 31 30 1, i_X 4 32 (.h (.ibin .add (.t 31) (.k (.d (.int .i64 1))))), i_X 5 33 (.h (.ibin .leq (.t 29) (.t 32)))] [3, 4, 5, 6, 7, 8, 12, 33]) (.cond (.t 33) (.seq (.reg [i_A 0 34 7 8, i_S 1 12 34 8] [12]) .ret) .skip)) (.seq (.seq (.reg [i_M 0 35 5, i_P 1 36 8 2, i_L 2 37 36 1, i_X 3 38 (.h (.ibin .add (.t 37) (.k (.d (.int .i64 3))))), i_X 4 39 (.h (.un .neg (.t 38))), i_X 5 40 (.callA (.k (.d (.fn 64 [] []))) [(.k (.d (.flt 4607182418800017408))), (.t 39)]), i_X 6 41 (.h (.fcmp .le (.t 35) (.t 40))), i_M 7 42 41, ⟨8, (some 43), (some (42, true)), [], [], (.h (.padd (.t 8) 1))⟩, ⟨9, (some 44), (some (42, true)), [], [], (.load (.t 43) 1 false)⟩, ⟨10, (some 45), (some (42, true)), [], [], (.h (.padd (.t 6) 5))⟩, ⟨11, (some 46), (some (42, true)), [], [], (.load (.t 45) 1 false)⟩, ⟨12, (some 47), (some (42, true)), [], [], (.h (.ibin .leq (.t 44) (.t 46)))⟩, i_X 13 48 (.h (.pick (.t 42) (.t 47) (.k (.d (.bool false)))))] [3, 4, 5, 7, 8, 12, 48]) (.cond (.t 48) (.seq (.reg [i_P 0 49 8 1, i_L 1 50 49 1, i_X 2 51 (.h (.ibin .mul (.k (.d (.int .i64 2))) (.t 50))), i_P 3 52 8 4, i_L 4 53 52 1, i_X 5 54 (.callS 5 (.k (.d (.fn 41 [] []))) [(.t 53), (.k (.d (.int .i64 1)))]), i_P 6 55 7 0, i_P 7 56 55 1, i_S 8 56 51 1, i_P 9 57 7 0, i_P 10 58 57 4, i_S 11 58 54 1, i_P 12 59 7 5, ⟨13, none, none, [], [], (.store (.t 59) (.k (.d (.int .i64 0))) 1)⟩] [7, 12]) (.seq (.reg [i_A 0 60 7 8, i_S 1 12 60 8] [12]) .ret)) .skip)) (.seq (.seq (.reg [i_M 0 61 5, i_X 1 62 (.h (.fcmp .le (.t 61) (.k (.d (.flt 4598175219545276416))))), i_M 2 63 62, ⟨3, (some 64), (some (63, true)), [], [], (.h (.padd (.t 8) 2))⟩, ⟨4, (some 65), (some (63, true)), [], [], (.load (.t 64) 1 false)⟩, ⟨5, (some 66), (some (63, true)), [], [], (.callS 5 (.k (.d (.fn 74 [] []))) [])⟩, ⟨6, (some 67), (some (63, true)), [], [], (.h (.padd (.t 8) 3))⟩, ⟨7, (some 68), (some (63, true)), [], [], (.load (.t 67) 1 false)⟩, ⟨8, (some 69), (some (63, true)), [], [], (.h (.idxv (.t 66) (.t 68) 2 1 false))⟩, ⟨9, (some 70), (some (63, true)), [], [], (.h (.ibin .lss (.t 65) (.t 69)))⟩, i_X 10 71 (.h (.pick (.t 63) (.t 70) (.k (.d (.bool false)))))] [3, 4, 7, 8, 12, 71]) (.cond (.t 71) (.seq (.reg [i_X 0 13 (.h (.mov (.k .nil)))] [3, 4, 7, 8, 12, 13]) (.seq (.seq (.reg [i_M 0 72 4, i_X 1 73 (.h (.len (.t 72))), i_X 2 74 (.h (.mov (.k (.d (.int .i64 0)))))] [3, 7, 8, 12, 13, 72, 73, 74]) (.block 0 (.loop A_step_taken_L0))) (.seq (.reg [i_P 0 94 8 2, i_L 1 95 94 1, i_X 2 96 (.h (.ibin .add (.t 95) (.k (.d (.int .i64 1))))), i_P 3 97 7 0, i_P 4 98 97 2, i_S 5 98 96 1, i_P 6 99 7 5, ⟨7, none, none, [], [], (.store (.t 99) (.k (.d (.int .i64 0))) 1)⟩] [7, 12, 13]) (.reg [i_P 0 100 7 0, i_P 1 101 100 4, ⟨2, (some 102), none, [(.t 7)], [], (.load (.t 101) 1 false)⟩, i_M 3 103 13, ⟨4, (some 104), none, [], [(.t 7)], (.app (.k .nil) (.t 103) 1 8)⟩, i_X 5 105 (.bslice [.nil] 1 1 [(0, (1, (.t 104)))] 30), i_X 6 106 (.app (.t 102) (.t 105) 1 24), i_P 7 107 7 0, i_P 8 108 107 4, i_S 9 108 106 1] [7, 12])))) .skip)) (.seq (.reg [i_A 0 109 7 8, i_S 1 12 109 8] [12]) .ret)))))))
theorem A_step_taken_comp : compF Tryz.prog 39 = some ⟨110, [(12, (some (8, true)))], A_step_taken.strip⟩ := by kernel_rfl
def A_r10_less_L0 : CA := (.seq (.seq (.reg [i_M 0 5 4, i_M 1 6 0, i_X 2 7 (.h (.ibin .lss (.t 5) (.t 6)))] [0, 3, 4, 7]) (.cond (.t 7) .skip (.exit 0))) (.seq (.block 1 (.reg [i_M 0 10 3, i_X 1 11 (.h (.fbin .div (.t 10) (.k (.d (.flt 4611686018427387904))))), i_M 2 3 11] [0, 3, 4])) (.reg [i_M 0 8 4, i_X 1 9 (.h (.ibin .add (.t 8) (.k (.d (.int .i64 1))))), i_M 2 4 9] [0, 3, 4])))
def A_r10_less : CA := (.seq (.reg [i_X 0 2 (.h (.mov (.k (.d (.flt 0)))))] [0]) (.seq (.reg [i_X 0 3 (.h (.mov (.k (.d (.flt 4607182418800017408)))))] [0, 3]) (.seq (.seq (.reg [i_X 0 4 (.h (.mov (.k (.d (.int .i64 0)))))] [0, 3, 4]) (.block 0 (.loop A_r10_less_L0))) (.seq (.reg [i_M 0 12 3, i_M 1 2 12] [2]) .ret))))
theorem A_r10_less_comp : compF Tryz.prog 80 = some ⟨13, [(2, none)], A_r10_less.strip⟩ := by kernel_rfl
def A_r10_most : CA := (.seq (.reg [i_X 0 2 (.h (.mov (.k (.d (.int .i64 0)))))] [0]) (.seq (.seq (.reg [i_M 0 3 0, i_X 1 4 (.h (.ibin .eql (.t 3) (.k (.d (.int .i64 0)))))] [4]) (.cond (.t 4) (.seq (.reg [i_X 0 2 (.h (.mov (.k (.d (.int .i64 5)))))] [2]) .ret) .skip)) (.seq (.reg [i_X 0 2 (.h (.mov (.k (.d (.int .i64 4)))))] [2]) .ret)))
theorem A_r10_most_comp : compF Tryz.prog 81 = some ⟨5, [(2, none)], A_r10_most.strip⟩ := by kernel_rfl
def A_r10_anew : CA := (.seq (.reg [i_X 0 2 (.box (.t 0) 13 33), i_X 1 3 (.box (.t 1) 8 39), i_X 2 4 (.alloc [(.d (.int .i64 0)), (.d (.int .i64 0)), (.d (.int .i64 0)), (.d (.int .i64 0)), .nil, (.d (.int .i64 0)), (.d (.int .i64 0)), (.d (.int .i64 0))] 39)] [2, 3, 4]) (.seq (.reg [i_P 0 6 2 0, i_A 1 7 6 3, i_P 2 8 3 0, i_P 3 9 8 4, i_L 4 10 9 1, i_X 5 11 (.h (.idx (.t 10) (.k (.d (.int .i64 0))) 1)), i_L 6 12 11 1, i_P 7 13 3 0, i_P 8 14 13 1, i_L 9 15 14 1, i_X 10 16 (.callS 0 (.k (.d (.fn 32 [] []))) [(.t 7), (.t 12), (.t 15)]), i_X 11 5 (.alloc [(.d (.int .i64 0)), (.d (.int .i64 0)), (.d (.int .i64 0)), (.d (.int .i64 0)), .nil] 37), i_S 12 5 16 5] [3, 4, 5]) (.seq (.reg [i_P 0 17 3 0, i_P 1 18 17 0, i_L 2 19 18 1, i_P 3 20 3 0, i_P 4 21 20 3, ⟨5, (some 22), none, [(.t 3)], [], (.load (.t 21) 1 false)⟩, i_P 6 23 5 0, ⟨7, none, none, [], [(.t 3)], (.store (.t 23) (.t 19) 1)⟩, i_P 8 24 5 3, i_S 9 24 22 1] [3, 4, 5]) (.seq (.reg [i_A 0 25 5 5, i_P 1 26 3 0, i_S 2 26 25 5, i_P 3 27 3 6, ⟨4, none, none, [], [], (.store (.t 27) (.k (.d (.int .i64 0))) 1)⟩] [3, 4]) (.seq (.reg [i_A 0 28 3 8, i_S 1 4 28 8] [4]) .ret)))))
theorem A_r10_anew_comp : compF Tryz.prog 78 = some ⟨29, [(4, (some (8, true)))], A_r10_anew.strip⟩ := by kernel_rfl
theorem step_highest_con : Con Tryz.prog 74 [] (.agg [fI 5, fI 4]) := by
  refine Con_introA A_step_highest_comp rfl mixed ?_
  simp -implicitDefEqProofs only [evI, hv, effC, reduceCtorEq, ↓reduceIte, n1_, n2_, n3_, n4_, n5_, i1_, i2_, i3_, i4_, i5_, i6_, i7_, A_step_highest]
  exact endsT_retm rfl (by decide) rfl rfl rfl (by simp) (by simp [ldv])
theorem step_own_ac (A : List (List Nat)) (m n : Nat) (hA : Rk m n A) (hc : Cw A) (hm : m < 1000) (hn : n < 2 ^ 40) : AC Tryz.prog 40 [.d (rowsD A)] [] [(101, A.map rowV), (3, [hdo 101 0 m n])] (.sl 3 0 0 m 1 m) := by
  refine AC_introA A_step_own_comp rfl mixed (fun _ => False) (by simp [get_nil]) ?_
  have h := nord_Rescale_ac A m n hA hm hn 0 (by decide)
  rw [scale_zero hA hc] at h
  simp -implicitDefEqProofs only [evI, hv, effC, reduceCtorEq, ↓reduceIte, n1_, n2_, n3_, n4_, n5_, i1_, i2_, i3_, i4_, i5_, i6_, i7_, A_step_own]
  refine callG_rows 0 [.d (rowsD A), fI 0] (by simp [Heap.next]) h ⟨.bare _, .bare _, trivial⟩ ?_
  have hk1 : ∀ L : Heap, L.fam 101 = some (A.map rowV) → KpA L (hdo 101 0 m n) := fun L hL => KpA_hdoF hL (by have := hA.1; omega)
  simp -implicitDefEqProofs only [evI, hv, effC, reduceCtorEq, ↓reduceIte, n1_, n2_, n3_, n4_, n5_, i1_, i2_, i3_, i4_, i5_, i6_, i7_]
  exact endsT_only (fun X => X == 101 || X == 3) (fun _ h => h) (resV_tmpI (t := 2) (by decide) rfl) rfl (by simp (maxDischargeDepth := 6) [KpS_cons, KpS_nil, KpH_cons, KpH_nil, KpF_cons, KpF_nil, KpF_rows, KpA_cons, KpA_nil, KpA_app, KpA_rowV, KpA_rowIV, KpA_dcells, KpA_outC, Kp_any, Kp_nilv, Kp_d, Kp_ptr, Kp_sl, Kp_agg, Kp_tup, Kp_fn, get_cons, get_nil, fam_cons, fam_nil]) (by simp (maxDischargeDepth := 6) [KpS_cons, KpS_nil, KpH_cons, KpH_nil, KpF_cons, KpF_nil, KpF_rows, KpA_cons, KpA_nil, KpA_app, KpA_rowV, KpA_rowIV, KpA_dcells, KpA_outC, Kp_any, Kp_nilv, Kp_d, Kp_ptr, Kp_sl, Kp_agg, Kp_tup, Kp_fn, get_cons, get_nil, fam_cons, fam_nil, hk1])
theorem step_own_con (A : List (List Nat)) (m n : Nat) (hA : Rk m n A) (hc : Cw A) (hm : m < 1000) (hn : n < 2 ^ 40) : Con Tryz.prog 40 [.d (rowsD A)] (.d (rowsD A)) :=
  Con_of_rows (step_own_ac A m n hA hc hm hn) hA (by decide)
theorem r10_less_con (k : Nat) (hk : k < 1000) : Con Tryz.prog 80 [fI k] (fl (((List.range k).foldl (fun x _ => fop .div x 4611686018427387904) 4607182418800017408))) := by
  refine Con_introA A_r10_less_comp rfl mixed ?_
  simp -implicitDefEqProofs only [evI, hv, effC, reduceCtorEq, ↓reduceIte, n1_, n2_, n3_, n4_, n5_, i1_, i2_, i3_, i4_, i5_, i6_, i7_, A_r10_less]
  refine WA_for (n := k) (fun c s => ∃ i, c + i = k ∧ s = ⟨[(0, fI k), (3, fl ((List.range i).foldl (fun x _ => fop .div x 4611686018427387904) 4607182418800017408)), (4, fI i)], []⟩) ⟨0, by omega, rfl⟩ ?_
  rintro c s ⟨i, hc, rfl⟩
  simp -implicitDefEqProofs only [evI, hv, effC, reduceCtorEq, ↓reduceIte, n1_, n2_, n3_, n4_, n5_, i1_, i2_, i3_, i4_, i5_, i6_, i7_, A_r10_less_L0]
  refine condC_intro (fun h => ?_) (fun h => ?_)
  · replace h := of_decide_eq_true h
    simp -implicitDefEqProofs only [evI, hv, effC, reduceCtorEq, ↓reduceIte, n1_, n2_, n3_, n4_, n5_, i1_, i2_, i3_, i4_, i5_, i6_, i7_]
    rw [wrapI (by omega) (by omega)]
    refine ⟨c - 1, by omega, i + 1, by omega, ?_⟩
    rw [List.range_succ, List.foldl_append]
    rfl
  · replace h := of_decide_eq_false h
    have e : i = k := by omega
    subst e
    simp -implicitDefEqProofs only [evI, hv, effC, reduceCtorEq, ↓reduceIte, n1_, n2_, n3_, n4_, n5_, i1_, i2_, i3_, i4_, i5_, i6_, i7_]
    exact endsT_rett rfl (by decide) (by simp [look])
theorem less_ok (k : Nat) (hk : k < 12) : ((List.range k).foldl (fun x _ => fop .div x 4611686018427387904) 4607182418800017408) = lessW k := by
  have h : ((List.range 12).all fun k => ((List.range k).foldl (fun x _ => fop .div x 4611686018427387904) 4607182418800017408) == lessW k) = true := by kernel_rfl
  exact eq_of_beq (List.all_eq_true.1 h k (by simpa using hk))
theorem r10_most_con (m : Int) : Con Tryz.prog 81 [fI m] (fI (mostO m)) := by
  refine Con_introA A_r10_most_comp rfl mixed ?_
  simp -implicitDefEqProofs only [evI, hv, effC, reduceCtorEq, ↓reduceIte, n1_, n2_, n3_, n4_, n5_, i1_, i2_, i3_, i4_, i5_, i6_, i7_, A_r10_most]
  unfold mostO
  by_cases h : m = 0
  · subst h
    simp -implicitDefEqProofs only [evI, hv, effC, reduceCtorEq, ↓reduceIte, n1_, n2_, n3_, n4_, n5_, i1_, i2_, i3_, i4_, i5_, i6_, i7_, Int.reduceBEq]
    exact endsT_rett rfl (by decide) (by simp [look])
  · have h' : (m == 0) = false := by simpa using h
    rw [if_neg h]
    simp -implicitDefEqProofs only [evI, hv, effC, reduceCtorEq, ↓reduceIte, n1_, n2_, n3_, n4_, n5_, i1_, i2_, i3_, i4_, i5_, i6_, i7_, h']
    exact endsT_rett rfl (by decide) (by simp [look])
set_option maxRecDepth 8000 in
theorem step_fresh_con (p : Pb) (n : Nd) (hp : Pok p) (hns : ∃ j : Nat, j < 60 ∧ n.step = (2 ^ j : Nat)) (hnr : Rk (n.order.toNat + 1) p.t.n n.z) : Con Tryz.prog 42 [pbV p, ndV n] (ndV (freshP p n)) := by
  obtain ⟨j, hj, hst⟩ := hns
  obtain ⟨r1, r2⟩ := hnr
  obtain ⟨pos, st, o, m, z⟩ := n
  simp only at hst r1 r2
  subst hst
  refine Con_introA A_step_fresh_comp rfl mixed ?_
  simp -implicitDefEqProofs only [evI, hv, effC, reduceCtorEq, ↓reduceIte, n1_, n2_, n3_, n4_, n5_, i1_, i2_, i3_, i4_, i5_, i6_, i7_, A_step_fresh]
  (repeat (with_reducible refine And.intro (by omega) ?_))
  first | refine callG_con (nord_Start_con p.t (z.getD 0 []) j hp.t (r2 0 (by omega)) hj) rfl ?_ | refine callCG_con (nord_Start_con p.t (z.getD 0 []) j hp.t (r2 0 (by omega)) hj) rfl ?_ | refine callSG_con (nord_Start_con p.t (z.getD 0 []) j hp.t (r2 0 (by omega)) hj) rfl ?_
  simp -implicitDefEqProofs only [evI, hv, effC, reduceCtorEq, ↓reduceIte, n1_, n2_, n3_, n4_, n5_, i1_, i2_, i3_, i4_, i5_, i6_, i7_]
  exact endsT_retm rfl (by decide) rfl rfl rfl (by simp) rfl
set_option maxRecDepth 8000 in
theorem r10_anew_con (p : Pb) (s : Sta) (hp : Pok p) (hns : ∃ j : Nat, j < 60 ∧ s.n.step = (2 ^ j : Nat)) (hnr : Rk (s.n.order.toNat + 1) p.t.n s.n.z) : Con Tryz.prog 78 [pbV p, staV s] (staV ⟨freshP p s.n, s.good, 0, s.slow⟩) := by
  obtain ⟨j, hj, hst⟩ := hns
  obtain ⟨r1, r2⟩ := hnr
  obtain ⟨⟨pos, st, o, m, z⟩, g, f, sl⟩ := s
  simp only at hst r1 r2
  subst hst
  refine Con_introA A_r10_anew_comp rfl mixed ?_
  simp -implicitDefEqProofs only [evI, hv, effC, reduceCtorEq, ↓reduceIte, n1_, n2_, n3_, n4_, n5_, i1_, i2_, i3_, i4_, i5_, i6_, i7_, A_r10_anew]
  (repeat (with_reducible refine And.intro (by omega) ?_))
  first | refine callG_con (r8_Start_con p.t (z.getD 0 []) j hp.t (r2 0 (by omega)) hj) rfl ?_ | refine callCG_con (r8_Start_con p.t (z.getD 0 []) j hp.t (r2 0 (by omega)) hj) rfl ?_ | refine callSG_con (r8_Start_con p.t (z.getD 0 []) j hp.t (r2 0 (by omega)) hj) rfl ?_
  simp -implicitDefEqProofs only [evI, hv, effC, reduceCtorEq, ↓reduceIte, n1_, n2_, n3_, n4_, n5_, i1_, i2_, i3_, i4_, i5_, i6_, i7_]
  exact endsT_retm rfl (by decide) rfl rfl rfl (by simp) rfl
theorem pow_range (j : Nat) (hj : j < 60) : (0 : Int) < ((2 ^ j : Nat) : Int) ∧ ((2 ^ j : Nat) : Int) < 1152921504606846976 := by
  have h1 : 2 ^ j < 2 ^ 60 := Nat.pow_lt_pow_right (by decide) hj
  have h2 : 0 < 2 ^ j := Nat.pow_pos (by decide)
  generalize 2 ^ j = w at h1 h2
  have h3 : w < 1152921504606846976 := h1
  omega
abbrev tkS (l d : List Nat) (n i : Nat) : Sl := [(3, .d (rowD l)), (7, .ptr 1 0 0 8), (8, .ptr 2 0 0 5), (12, .ptr 3 0 0 8), (13, .sl 200 0 0 i 1 i), (72, .d (rowD d)), (73, fI n), (74, fI i)]
abbrev tkL (q n : Nat) (m g sl pos st : Int) (C : List (List Nat)) : Heap := [(121, C.map rowV), (23, [hdo 121 0 (q + 1) n]), (3, [[fI 0, fI 0, fI 0, fI 0, .nil, fI 0, fI 0, fI 0]]), (2, [[fI (pos + st), fI st, fI q, fI m, .d (rowsD C)]]),
  (1, [[fI (pos + st), fI st, fI q, fI m, .sl 23 0 0 (q + 1) 1 (q + 1), fI (g + 1), fI 0, fI sl]])]
set_option maxRecDepth 16000 in
theorem taken_L0 (pc : List V) (q : Nat) (m g sl pos st : Int) (C : List (List Nat)) (l d : List Nat) (n : Nat) (gg : Nat → Nat) (hl : l.length = q + 1) (hd : d.length = n) (hn : n < 2 ^ 40) (w2 : IntKind.i64.wrap ((q : Int) + 1) = (q : Int) + 1)
    (hz : Rk (q + 1) n C) (hgg : ∀ i, fop .div (fop .mul (l.getD q 0) (d.getD i 0)) (FloatKind.nearest .f64 ((q : Int) + 1)) = gg i) (Q : Ex → T → Prop)
    (hQ : ∀ w, Q (.exit 0) ⟨tkS l d n n ++ [w], (200, [rowV (tabR gg n)]) :: tkL q n m g sl pos st C⟩) :
    WA Tryz.prog (fun _ => False) 110 (.loop A_step_taken_L0) Q ⟨[(3, .d (rowD l)), (7, .ptr 1 0 0 8), (8, .ptr 2 0 0 5), (12, .ptr 3 0 0 8), (13, .nil), (72, .d (rowD d)), (73, fI d.length), (74, fI 0)], tkL q n m g sl pos st C ++ [(0, [pc])]⟩ := by
  have hk1 : ∀ L : Heap, L.fam 121 = some (C.map rowV) → KpA L (hdo 121 0 (q + 1) n) := fun L hL => KpA_hdoF hL (by have := hz.1; omega)
  refine WA_forW (n := n) (fun c s => ∃ i, c + i = n ∧ s = ⟨tkS l d n i, (200, [rowV (tabR gg i)]) :: tkL q n m g sl pos st C⟩)
    (s0 := ⟨_, _⟩) (Le.trans (LeT.nilrow (X := 200) (esz := 1) (as' := tkS l d n 0) (by simp [fam_cons, fam_nil]) (fun h => h) fun i => ?_)
      (LeT.only (L' := (200, [rowV (tabR gg 0)]) :: tkL q n m g sl pos st C) (fun X => X != 0) (fun _ h => h) rfl (by simp (maxDischargeDepth := 6) [KpS_cons, KpS_nil, KpH_cons, KpH_nil, KpF_cons, KpF_nil, KpF_rows, KpA_cons, KpA_nil, KpA_app, KpA_rowV, KpA_rowIV, KpA_dcells, KpA_outC, Kp_any, Kp_nilv, Kp_d, Kp_ptr, Kp_sl, Kp_agg, Kp_tup, Kp_fn, get_cons, get_nil, fam_cons, fam_nil]) (by simp (maxDischargeDepth := 6) [KpS_cons, KpS_nil, KpH_cons, KpH_nil, KpF_cons, KpF_nil, KpF_rows, KpA_cons, KpA_nil, KpA_app, KpA_rowV, KpA_rowIV, KpA_dcells, KpA_outC, Kp_any, Kp_nilv, Kp_d, Kp_ptr, Kp_sl, Kp_agg, Kp_tup, Kp_fn, get_cons, get_nil, fam_cons, fam_nil, hk1]))) ⟨0, by omega, rfl⟩ ?_
  · simp only [look]
    repeat' split
    all_goals simp [rowD, hd]
  rintro c s ⟨i, hc3, rfl⟩
  have hgl := tabR_len gg i
  simp -implicitDefEqProofs only [evI, hv, effC, reduceCtorEq, ↓reduceIte, n1_, n2_, n3_, n4_, n5_, i1_, i2_, i3_, i4_, i5_, i6_, i7_, A_step_taken_L0]
  refine condC_intro (fun hi => ?_) (fun hi => ?_)
  · replace hi := of_decide_eq_true hi
    simp -implicitDefEqProofs only [evI, hv, effC, reduceCtorEq, ↓reduceIte, n1_, n2_, n3_, n4_, n5_, i1_, i2_, i3_, i4_, i5_, i6_, i7_, w2, hgg]
    (repeat (with_reducible refine And.intro (by omega) ?_))
    have e2 : rowV (tabR gg i) ++ [fl (gg i)] = rowV (tabR gg (i + 1)) := (tabR_succ _ _).symm
    rw [wrapI (by omega) (by omega), e2]
    exact ⟨c - 1, _, by omega, LeT.only (L' := (200, [rowV (tabR gg (i + 1))]) :: tkL q n m g sl pos st C) (fun X => X != 214) (fun _ h => h) rfl (by simp (maxDischargeDepth := 6) [KpS_cons, KpS_nil, KpH_cons, KpH_nil, KpF_cons, KpF_nil, KpF_rows, KpA_cons, KpA_nil, KpA_app, KpA_rowV, KpA_rowIV, KpA_dcells, KpA_outC, Kp_any, Kp_nilv, Kp_d, Kp_ptr, Kp_sl, Kp_agg, Kp_tup, Kp_fn, get_cons, get_nil, fam_cons, fam_nil]) (by simp (maxDischargeDepth := 6) [KpS_cons, KpS_nil, KpH_cons, KpH_nil, KpF_cons, KpF_nil, KpF_rows, KpA_cons, KpA_nil, KpA_app, KpA_rowV, KpA_rowIV, KpA_dcells, KpA_outC, Kp_any, Kp_nilv, Kp_d, Kp_ptr, Kp_sl, Kp_agg, Kp_tup, Kp_fn, get_cons, get_nil, fam_cons, fam_nil, hk1]), i + 1, by omega, rfl⟩
  · replace hi := of_decide_eq_false hi
    have e : i = n := by omega
    subst e
    simp -implicitDefEqProofs only [evI, hv, effC, reduceCtorEq, ↓reduceIte, n1_, n2_, n3_, n4_, n5_, i1_, i2_, i3_, i4_, i5_, i6_, i7_]
    exact hQ _
set_option maxRecDepth 16000 in
theorem step_taken_con (p : Pb) (s : Sta) (z : List (List Nat)) (l d : List Nat) (err : Nat) (hp : Pok p) (hs : s.ok p.t) (hz : Rk (s.n.order.toNat + 1) p.t.n z) (hzc : Cw z) (hl : l.length = s.n.order.toNat + 1) (hd : d.length = p.t.n) :
    Con Tryz.prog 39 [pbV p, staV s, ndV (takeP p s z l d err).n, .d (rowD l), .d (rowD d), fl err] (staV (takeP p s z l d err).s) := by
  obtain ⟨hn, hg, hf, hsl⟩ := hs
  obtain ⟨hm, ⟨j, hj, hst⟩, hk, hc, hpos⟩ := hn
  obtain ⟨⟨pos, st, o, m, z0⟩, g, f, sl⟩ := s
  simp only at *
  have hsr := pow_range j hj
  rw [← hst] at hsr
  clear hst
  obtain ⟨q, rfl⟩ : ∃ q : Nat, o = q := ⟨o.toNat, by omega⟩
  rw [Int.toNat_natCast] at hk hz hl
  have hz' := corrP_rk hz l d (q + 1) p.t.n
  have hzc' := corrP_cw hzc l d (q + 1) p.t.n
  have hpn := hp.t.n
  have hq9 : q + 1 < 1000 := by omega
  have hn8 : p.t.n * 8 ≤ 140737488355328 := by omega
  have hq8 : (q + 1 + 1) * 24 ≤ 140737488355328 := by omega
  have hmo : [fI 5, fI 4].getD m.toNat .any = fI (mostO m) := by
    rcases hm with ⟨rfl, _⟩ | ⟨rfl, _⟩ <;> rfl
  have hm01 : 0 ≤ m ∧ m < 2 := by omega
  have hm02 : m.toNat ≤ 1 := by omega
  have hn40 : p.t.n < 2 ^ 40 := by omega
  have hqs : -1000000 < -((q + 3 : Nat) : Int) ∧ -((q + 3 : Nat) : Int) < 1000000 := by omega
  have hown := step_own_ac (corrP z l d (q + 1) p.t.n) (q + 1) p.t.n hz' hzc' (by omega) (by omega)
  unfold takeP
  simp only [Int.toNat_natCast]
  generalize hC : corrP z l d (q + 1) p.t.n = C at hz' hzc' hown
  refine Con_introA A_step_taken_comp rfl mixed ?_
  simp -implicitDefEqProofs only [evI, hv, effC, reduceCtorEq, ↓reduceIte, n1_, n2_, n3_, n4_, n5_, i1_, i2_, i3_, i4_, i5_, i6_, i7_, A_step_taken]
  refine callG_rows 20 [.d (rowsD C)] (by simp [Heap.next]) hown ⟨.bare _, trivial⟩ ?_
  have w1 : IntKind.i64.wrap (g + 1) = g + 1 := wrapI (by omega) (by omega)
  have w2 : IntKind.i64.wrap ((q : Int) + 1) = (q : Int) + 1 := wrapI (by omega) (by omega)
  simp -implicitDefEqProofs only [evI, hv, effC, reduceCtorEq, ↓reduceIte, n1_, n2_, n3_, n4_, n5_, i1_, i2_, i3_, i4_, i5_, i6_, i7_, w1, w2]
  by_cases c1 : g + 1 ≤ (q : Int) + 1
  · rw [if_pos c1]
    have c1' : decide (g + 1 ≤ (q : Int) + 1) = true := decide_eq_true c1
    simp -implicitDefEqProofs only [evI, hv, effC, reduceCtorEq, ↓reduceIte, n1_, n2_, n3_, n4_, n5_, i1_, i2_, i3_, i4_, i5_, i6_, i7_, c1']
    exact endsT_le (.agg [fI (pos + st), fI st, fI q, fI m, .sl 23 0 0 (q + 1) 1 (q + 1), fI (g + 1), fI 0, fI sl]) (fun _ h => h) (resV_cellI (by decide) rfl rfl rfl (by simp) rfl)
      (Fz_agg _ _ ⟨Fz_d _, Fz_d _, Fz_d _, Fz_d _, Fz_rk (X := 121) hz' rfl rfl rfl rfl, Fz_d _, Fz_d _, Fz_d _, trivial⟩)
  · rw [if_neg c1]
    have c1' : decide (g + 1 ≤ (q : Int) + 1) = false := decide_eq_false c1
    have w3 : IntKind.i64.wrap ((q : Int) + 3) = (q : Int) + 3 := wrapI (by omega) (by omega)
    have w4 : IntKind.i64.wrap (0 - ((q : Int) + 3)) = -((q + 3 : Nat) : Int) := by rw [wrapI (by omega) (by omega)]; omega
    have hlw : Con Tryz.prog 64 [fl 4607182418800017408, fI (-((q + 3 : Nat) : Int))] (fl (lessW (q + 3))) := fp_Scale_all _ _ hqs
    simp -implicitDefEqProofs only [evI, hv, effC, reduceCtorEq, ↓reduceIte, n1_, n2_, n3_, n4_, n5_, i1_, i2_, i3_, i4_, i5_, i6_, i7_, c1', w3, w4]
    first | refine callG_con (hlw) rfl ?_ | refine callCG_con (hlw) rfl ?_ | refine callSG_con (hlw) rfl ?_
    generalize lessW (q + 3) = lw
    have w5 : IntKind.i64.wrap (2 * st) = 2 * st := wrapI (by omega) (by omega)
    have hre := nord_Rescale_ac C (q + 1) p.t.n hz' hq9 hn40 1 (by decide)
    have hrk := scaleP_rk hz' 1 (q + 1) p.t.n
    by_cases c2 : fcmp .le err lw = true ∧ st ≤ p.fin
    · rw [if_pos c2]
      have c3 : decide (st ≤ p.fin) = true := decide_eq_true c2.2
      simp -implicitDefEqProofs only [evI, hv, effC, reduceCtorEq, ↓reduceIte, n1_, n2_, n3_, n4_, n5_, i1_, i2_, i3_, i4_, i5_, i6_, i7_, c2.1, c3, w5]
      have hreC := nord_Rescale_con C (q + 1) p.t.n hz' hq9 hn40 1 (by decide)
      generalize scaleP C 1 (q + 1) p.t.n = S at hre hrk hreC
      first | refine callG_con (hreC) rfl ?_ | refine callCG_con (hreC) rfl ?_ | refine callSG_con (hreC) rfl ?_
      simp -implicitDefEqProofs only [evI, hv, effC, reduceCtorEq, ↓reduceIte, n1_, n2_, n3_, n4_, n5_, i1_, i2_, i3_, i4_, i5_, i6_, i7_]
      exact endsT_le (.agg [fI (pos + st), fI (2 * st), fI q, fI m, .d (rowsD S), fI 0, fI 0, fI sl]) (fun _ h => h) (resV_cellI (by decide) rfl rfl rfl (by simp) rfl)
        (Fz_agg _ _ ⟨Fz_d _, Fz_d _, Fz_d _, Fz_d _, Fz_d _, Fz_d _, Fz_d _, Fz_d _, trivial⟩)
    · rw [if_neg c2]
      have c4 : (fcmp .le err lw = false) ∨ (fcmp .le err lw = true ∧ decide (st ≤ p.fin) = false) := by
        cases h1 : fcmp .le err lw with
        | false => exact .inl rfl
        | true => exact .inr ⟨rfl, decide_eq_false fun h2 => c2 ⟨h1, h2⟩⟩
      have fin : ∀ (Lr : Heap), Lr.get 23 0 = some (hdo 121 0 (q + 1) p.t.n) → Lr.fam 121 = some (C.map rowV) → LeV Lr [] (fun X r => (X, r)) (.agg [fI (pos + st), fI st, fI q, fI m, .sl 23 0 0 (q + 1) 1 (q + 1), fI (g + 1), fI 0, fI sl]) (staV ⟨⟨pos + st, st, q, m, C⟩, g + 1, 0, sl⟩) := fun Lr e1 e2 =>
        Fz_agg _ _ ⟨Fz_d _, Fz_d _, Fz_d _, Fz_d _, Fz_rk (X := 121) hz' e1 e2 rfl rfl, Fz_d _, Fz_d _, Fz_d _, trivial⟩
      rcases c4 with c4 | ⟨c4, c5⟩
      case' inl => simp -implicitDefEqProofs only [evI, hv, effC, reduceCtorEq, ↓reduceIte, n1_, n2_, n3_, n4_, n5_, i1_, i2_, i3_, i4_, i5_, i6_, i7_, c4]
      case' inr => simp -implicitDefEqProofs only [evI, hv, effC, reduceCtorEq, ↓reduceIte, n1_, n2_, n3_, n4_, n5_, i1_, i2_, i3_, i4_, i5_, i6_, i7_, c4, c5]
      all_goals
        cases c8 : fcmp .le err 4598175219545276416 with
        | false =>
          rw [if_neg (by simp)]
          simp -implicitDefEqProofs only [evI, hv, effC, reduceCtorEq, ↓reduceIte, n1_, n2_, n3_, n4_, n5_, i1_, i2_, i3_, i4_, i5_, i6_, i7_]
          exact endsT_le (.agg [fI (pos + st), fI st, fI q, fI m, .sl 23 0 0 (q + 1) 1 (q + 1), fI (g + 1), fI 0, fI sl]) (fun _ h => h) (resV_cellI (by decide) rfl rfl rfl (by simp) rfl) (fin _ rfl rfl)
        | true =>
          simp -implicitDefEqProofs only [evI, hv, effC, reduceCtorEq, ↓reduceIte, n1_, n2_, n3_, n4_, n5_, i1_, i2_, i3_, i4_, i5_, i6_, i7_]
          first | refine callG_con (step_highest_con) rfl ?_ | refine callCG_con (step_highest_con) rfl ?_ | refine callSG_con (step_highest_con) rfl ?_
          simp -implicitDefEqProofs only [evI, hv, effC, reduceCtorEq, ↓reduceIte, n1_, n2_, n3_, n4_, n5_, i1_, i2_, i3_, i4_, i5_, i6_, i7_, hmo]
          refine ⟨hm01, hm02, ?_⟩
          by_cases c9 : (q : Int) < mostO m
          · have c9' : decide ((q : Int) < mostO m) = true := decide_eq_true c9
            rw [if_pos c9]
            simp -implicitDefEqProofs only [evI, hv, effC, reduceCtorEq, ↓reduceIte, n1_, n2_, n3_, n4_, n5_, i1_, i2_, i3_, i4_, i5_, i6_, i7_, c9']
            obtain ⟨gg, hgg⟩ : ∃ gg, gg = (fun i => fop .div (fop .mul (l.getD q 0) (d.getD i 0)) (FloatKind.nearest .f64 ((q : Int) + 1))) := ⟨_, rfl⟩
            have hgg' : ∀ i, fop .div (fop .mul (l.getD q 0) (d.getD i 0)) (FloatKind.nearest .f64 ((q : Int) + 1)) = gg i := fun i => by rw [hgg]
            have hnr : nextR l d q = tabR gg p.t.n := by unfold nextR; rw [hd, hgg]
            rw [hnr]
            refine taken_L0 (pbC p) q m g sl pos st C l d p.t.n gg hl hd hn40 w2 hz' hgg' _ fun w => ?_
            have hgl := tabR_len gg p.t.n
            generalize tabR gg p.t.n = G at hgl
            have hgl' : p.t.n ≤ G.length := Nat.le_of_eq hgl.symm
            simp -implicitDefEqProofs only [evI, hv, effC, reduceCtorEq, ↓reduceIte, n1_, n2_, n3_, n4_, n5_, i1_, i2_, i3_, i4_, i5_, i6_, i7_, w2]
            have hta : List.take p.t.n (rowV G) = rowV G := List.take_of_length_le (by simp [hgl])
            rw [if_pos ⟨hgl, hgl'⟩, hta]
            simp only []
            refine ⟨⟨hn8, by simp [hgl], by simp [rowV, V.isCell]⟩, hq8, ?_⟩
            exact endsT_le (.agg [fI (pos + st), fI st, fI (q + 1), fI m, .sl 23 0 0 (q + 1 + 1) 1 (q + 1 + 1), fI 0, fI 0, fI sl]) (fun _ h => h) (resV_cellI (by decide) rfl rfl rfl (by simp) rfl)
              (Fz_agg _ _ ⟨Fz_d _, Fz_d _, Fz_d _, Fz_d _, Fz_rk_app (X := 121) (R := 205) hz' rfl rfl rfl hgl rfl rfl rfl, Fz_d _, Fz_d _, Fz_d _, trivial⟩)
          · have c9' : decide ((q : Int) < mostO m) = false := decide_eq_false c9
            rw [if_neg c9]
            simp -implicitDefEqProofs only [evI, hv, effC, reduceCtorEq, ↓reduceIte, n1_, n2_, n3_, n4_, n5_, i1_, i2_, i3_, i4_, i5_, i6_, i7_, c9']
            exact endsT_le (.agg [fI (pos + st), fI st, fI q, fI m, .sl 23 0 0 (q + 1) 1 (q + 1), fI (g + 1), fI 0, fI sl]) (fun _ h => h) (resV_cellI (by decide) rfl rfl rfl (by simp) rfl) (fin _ rfl rfl)
end Go.Ab

namespace Go.Ab
set_option linter.unusedSimpArgs false
set_option linter.unusedVariables false
open Nat renaming reduceEqDiff → n1_, reduceAdd → n2_, reduceMul → n3_, reduceLT → n4_, reduceLeDiff → n5_
open Int renaming reduceToNat → i1_, reduceAdd → i2_, reduceSub → i3_, reduceMul → i4_, reduceNeg → i5_, reduceLT → i6_, reduceLE → i7_
open Go Go.Proofs
def A_r10_failed : CA := (.seq (.reg [i_X 0 4 (.box (.t 0) 13 33), i_X 1 5 (.box (.t 1) 8 39), i_X 2 8 (.alloc [(.d (.int .i64 0)), (.d (.int .i64 0)), (.d (.int .i64 0)), (.d (.int .i64 0)), .nil, (.d (.int .i64 0)), (.d (.int .i64 0)), (.d (.int .i64 0)), (.d (.int .i64 0)), (.d (.int .i64 0)), (.d (.int .i64 0)), (.d (.int .i64 0)), .nil, (.d (.bool false)), (.d (.flt 0)), (.d (.int .i64 0))] 49)] [2, 3, 4, 5, 8]) (.seq (.reg [i_A 0 10 5 8, i_M 1 11 3, i_X 2 12 (.h (.build [(.d (.int .i64 0)), (.d (.int .i64 0)), (.d (.int .i64 0)), (.d (.int .i64 0)), .nil, (.d (.int .i64 0)), (.d (.int .i64 0)), (.d (.int .i64 0)), (.d (.int .i64 0)), (.d (.int .i64 0)), (.d (.int .i64 0)), (.d (.int .i64 0)), .nil, (.d (.bool false)), (.d (.flt 0)), (.d (.int .i64 0))] [(0, (8, (.t 10))), (14, (1, (.t 11)))])), i_X 3 9 (.alloc [(.d (.int .i64 0)), (.d (.int .i64 0)), (.d (.int .i64 0)), (.d (.int .i64 0)), .nil, (.d (.int .i64 0)), (.d (.int .i64 0)), (.d (.int .i64 0)), (.d (.int .i64 0)), (.d (.int .i64 0)), (.d (.int .i64 0)), (.d (.int .i64 0)), .nil, (.d (.bool false)), (.d (.flt 0)), (.d (.int .i64 0))] 49), i_S 4 9 12 16] [2, 4, 5, 8, 9]) (.seq (.seq (.reg [i_P 0 13 5 0, i_P 1 14 13 1, i_L 2 15 14 1, i_P 3 16 4 7, i_L 4 17 16 1, i_X 5 18 (.h (.ibin .leq (.t 15) (.t 17)))] [2, 4, 5, 8, 9, 18]) (.cond (.t 18) (.seq (.reg [i_P 0 19 9 15, ⟨1, none, none, [], [], (.store (.t 19) (.k (.d (.int .i64 5))) 1)⟩] [2, 8, 9]) (.seq (.seq (.reg [i_M 0 20 2, i_X 1 21 (.h (.ibin .eql (.t 20) (.k (.d (.int .i64 4))))), i_M 2 22 21, ⟨3, (some 23), (some (22, false)), [], [], (.h (.mov (.t 2)))⟩, ⟨4, (some 24), (some (22, false)), [], [], (.h (.ibin .eql (.t 23) (.k (.d (.int .i64 2)))))⟩, i_X 5 25 (.h (.pick (.t 22) (.k (.d (.bool true))) (.t 24)))] [2, 8, 9, 25]) (.cond (.t 25) (.reg [i_M 0 26 2, i_P 1 27 9 15, i_S 2 27 26 1] [8, 9]) .skip)) (.seq (.reg [i_A 0 28 9 16, i_S 1 8 28 16] [8]) .ret))) .skip)) (.seq (.reg [i_P 0 29 5 6, i_L 1 30 29 1, i_X 2 31 (.h (.ibin .add (.t 30) (.k (.d (.int .i64 1))))), i_P 3 32 9 0, i_P 4 33 32 6, i_S 5 33 31 1, i_P 6 34 9 0, i_P 7 35 34 5, ⟨8, none, none, [], [], (.store (.t 35) (.k (.d (.int .i64 0))) 1)⟩] [2, 4, 5, 8, 9]) (.seq (.seq (.reg [i_M 0 36 2, i_X 1 37 (.h (.ibin .eql (.t 36) (.k (.d (.int .i64 6))))), i_M 2 38 37, ⟨3, (some 39), (some (38, true)), [], [], (.h (.padd (.t 5) 0))⟩, ⟨4, (some 40), (some (38, true)), [], [], (.h (.padd (.t 39) 3))⟩, ⟨5, (some 41), (some (38, true)), [], [], (.load (.t 40) 1 false)⟩, ⟨6, (some 42), (some (38, true)), [], [], (.h (.ibin .eql (.t 41) (.k (.d (.int .i64 0)))))⟩, i_X 7 43 (.h (.pick (.t 38) (.t 42) (.k (.d (.bool false)))))] [4, 5, 8, 9, 43]) (.cond (.t 43) (.reg [i_P 0 44 5 7, i_L 1 45 44 1, i_X 2 46 (.h (.ibin .add (.t 45) (.k (.d (.int .i64 1))))), i_P 3 47 9 0, i_P 4 48 47 7, i_S 5 48 46 1] [4, 5, 8, 9]) .skip)) (.seq (.reg [i_P 0 49 5 0, i_P 1 50 49 1, i_L 2 51 50 1, i_X 3 52 (.h (.ibin .quo (.t 51) (.k (.d (.int .i64 2))))), i_P 4 53 9 0, i_P 5 54 53 0, i_P 6 55 54 1, i_S 7 55 52 1] [4, 5, 8, 9]) (.seq (.reg [i_P 0 56 5 0, i_P 1 57 56 4, i_L 2 58 57 1, i_X 3 59 (.callA (.k (.d (.fn 43 [] []))) [(.t 58), (.k (.d (.int .i64 (-1))))]), i_P 4 60 9 0, i_P 5 61 60 0, i_P 6 62 61 4, i_S 7 62 59 1] [4, 8, 9]) (.seq (.seq (.reg [i_P 0 63 9 0, i_P 1 64 63 7, i_L 2 65 64 1, i_X 3 66 (.h (.ibin .geq (.t 65) (.k (.d (.int .i64 2)))))] [4, 8, 9, 66]) (.cond (.t 66) (.seq (.reg [i_P 0 67 9 0, i_P 1 68 67 0, i_P 2 69 68 3, ⟨3, none, none, [], [], (.store (.t 69) (.k (.d (.int .i64 1))) 1)⟩, i_P 4 70 9 0, i_P 5 71 70 7, ⟨6, none, none, [], [], (.store (.t 71) (.k (.d (.int .i64 0))) 1)⟩] [4, 8, 9]) (.reg [i_A 0 72 4 13, i_P 1 73 9 0, i_A 2 74 73 8, i_X 3 75 (.callA (.k (.d (.fn 78 [] []))) [(.t 72), (.t 74)]), i_P 4 76 9 0, i_S 5 76 75 8] [8, 9])) (.seq (.reg [i_P 0 77 9 0, i_P 1 78 77 6, i_L 2 79 78 1, i_X 3 80 (.h (.ibin .geq (.t 79) (.k (.d (.int .i64 3)))))] [4, 8, 9, 80]) (.cond (.t 80) (.reg [i_A 0 81 4 13, i_P 1 82 9 0, i_A 2 83 82 8, i_X 3 84 (.callA (.k (.d (.fn 78 [] []))) [(.t 81), (.t 83)]), i_P 4 85 9 0, i_S 5 85 84 8] [8, 9]) .skip)))) (.seq (.reg [i_A 0 86 9 16, i_S 1 8 86 16] [8]) .ret)))))))))
theorem A_r10_failed_comp : compF Tryz.prog 44 = some ⟨87, [(8, (some (16, true)))], A_r10_failed.strip⟩ := by kernel_rfl
def A_r10_taken_L0 : CA := (.seq (.seq (.reg [i_M 0 92 16, i_M 1 93 4, i_X 2 94 (.h (.len (.t 93))), i_X 3 95 (.h (.ibin .lss (.t 92) (.t 94)))] [3, 4, 12, 13, 14, 15, 16, 95]) (.cond (.t 95) .skip (.exit 0))) (.seq (.block 1 (.seq (.reg [i_M 0 98 3, i_P 1 99 13 2, i_L 2 100 99 1, i_X 3 101 (.h (.idx (.t 98) (.t 100) 1)), i_L 4 102 101 1, i_M 5 103 4, i_M 6 104 16, i_X 7 105 (.h (.idx (.t 103) (.t 104) 1)), i_L 8 106 105 1, i_X 9 107 (.h (.fbin .mul (.t 102) (.t 106))), i_M 10 17 107] [3, 4, 12, 13, 14, 15, 16, 17]) (.reg [i_M 0 108 15, i_M 1 109 17, i_P 2 110 13 2, i_L 3 111 110 1, i_X 4 112 (.h (.ibin .add (.t 111) (.k (.d (.int .i64 1))))), i_X 5 113 (.h (.i2f (.t 112))), i_X 6 114 (.h (.fbin .div (.t 109) (.t 113))), i_X 7 115 (.bslice [(.d (.flt 0))] 1 1 [(0, (1, (.t 114)))] 31), i_X 8 116 (.app (.t 108) (.t 115) 1 8), i_M 9 15 116] [3, 4, 12, 13, 14, 15, 16]))) (.reg [i_M 0 96 16, i_X 1 97 (.h (.ibin .add (.t 96) (.k (.d (.int .i64 1))))), i_M 2 16 97] [3, 4, 12, 13, 14, 15, 16])))
def A_r10_taken : CA := (.seq (.reg [i_X 0 6 (.box (.t 0) 13 33), i_X 1 7 (.box (.t 1) 8 39), i_X 2 12 (.alloc [(.d (.int .i64 0)), (.d (.int .i64 0)), (.d (.int .i64 0)), (.d (.int .i64 0)), .nil, (.d (.int .i64 0)), (.d (.int .i64 0)), (.d (.int .i64 0)), (.d (.int .i64 0)), (.d (.int .i64 0)), (.d (.int .i64 0)), (.d (.int .i64 0)), .nil, (.d (.bool false)), (.d (.flt 0)), (.d (.int .i64 0))] 49)] [2, 3, 4, 5, 6, 7, 12]) (.seq (.reg [i_P 0 18 7 0, i_A 1 19 18 5, i_X 2 13 (.alloc [(.d (.int .i64 0)), (.d (.int .i64 0)), (.d (.int .i64 0)), (.d (.int .i64 0)), .nil] 37), i_S 3 13 19 5] [2, 3, 4, 5, 6, 7, 12, 13]) (.seq (.reg [i_M 0 20 2, i_M 1 21 3, i_M 2 22 4, i_X 3 23 (.callA (.k (.d (.fn 29 [] []))) [(.t 20), (.t 21), (.t 22)]), i_P 4 24 13 4, i_S 5 24 23 1] [3, 4, 5, 6, 7, 12, 13]) (.seq (.reg [i_P 0 25 13 0, i_L 1 26 25 1, i_P 2 27 13 1, i_L 3 28 27 1, i_X 4 29 (.h (.ibin .add (.t 26) (.t 28))), i_P 5 30 13 0, i_S 6 30 29 1] [3, 4, 5, 6, 7, 12, 13]) (.seq (.reg [i_A 0 31 13 5, i_M 1 32 5, i_A 2 33 13 5, i_P 3 34 7 5, i_L 4 35 34 1, i_X 5 36 (.h (.ibin .add (.t 35) (.k (.d (.int .i64 1))))), i_P 6 37 7 7, i_L 7 38 37 1, i_X 8 39 (.h (.build [(.d (.int .i64 0)), (.d (.int .i64 0)), (.d (.int .i64 0)), (.d (.int .i64 0)), .nil, (.d (.int .i64 0)), (.d (.int .i64 0)), (.d (.int .i64 0))] [(0, (5, (.t 33))), (5, (1, (.t 36))), (7, (1, (.t 38)))])), i_X 9 40 (.h (.build [(.d (.int .i64 0)), (.d (.int .i64 0)), (.d (.int .i64 0)), (.d (.int .i64 0)), .nil, (.d (.int .i64 0)), (.d (.int .i64 0)), (.d (.int .i64 0)), (.d (.int .i64 0)), (.d (.int .i64 0)), (.d (.int .i64 0)), (.d (.int .i64 0)), .nil, (.d (.bool false)), (.d (.flt 0)), (.d (.int .i64 0))] [(8, (5, (.t 31))), (13, (1, (.k (.d (.bool true))))), (14, (1, (.t 32))), (0, (8, (.t 39)))])), i_X 10 14 (.alloc [(.d (.int .i64 0)), (.d (.int .i64 0)), (.d (.int .i64 0)), (.d (.int .i64 0)), .nil, (.d (.int .i64 0)), (.d (.int .i64 0)), (.d (.int .i64 0)), (.d (.int .i64 0)), (.d (.int .i64 0)), (.d (.int .i64 0)), (.d (.int .i64 0)), .nil, (.d (.bool false)), (.d (.flt 0)), (.d (.int .i64 0))] 49), i_S 11 14 40 16] [3, 4, 5, 6, 12, 13, 14]) (.seq (.reg [i_P 0 41 13 4, i_L 1 42 41 1, i_X 2 43 (.callA (.k (.d (.fn 43 [] []))) [(.t 42), (.k (.d (.int .i64 0)))]), i_P 3 44 14 0, i_P 4 45 44 0, i_P 5 46 45 4, i_S 6 46 43 1] [3, 4, 5, 6, 12, 13, 14]) (.seq (.seq (.reg [i_P 0 47 14 0, i_P 1 48 47 5, i_L 2 49 48 1, i_P 3 50 13 2, i_L 4 51 50 1, i_X 5 52 (.h (.ibin .add (.t 51) (.k (.d (.int .i64 1))))), i_X 6 53 (.h (.ibin .leq (.t 49) (.t 52)))] [3, 4, 5, 6, 12, 13, 14, 53]) (.cond (.t 53) (.seq (.reg [i_A 0 54 14 16, i_S 1 12 54 16] [12]) .ret) .skip)) (.seq (.seq (.reg [i_M 0 55 5, i_P 1 56 13 2, i_L 2 57 56 1, i_X 3 58 (.h (.ibin .add (.t 57) (.k (.d (.int .i64 3))))), i_X 4 59 (.callA (.k (.d (.fn 80 [] []))) [(.t 58)]), i_X 5 60 (.h (.fcmp .le (.t 55) (.t 59))), i_M 6 61 60, ⟨7, (some 62), (some (61, true)), [], [], (.h (.padd (.t 13) 1))⟩, ⟨8, (some 63), (some (61, true)), [], [], (.load (.t 62) 1 false)⟩, ⟨9, (some 64), (some (61, true)), [], [], (.h (.padd (.t 6) 5))⟩, ⟨10, (some 65), (some (61, true)), [], [], (.load (.t 64) 1 false)⟩, ⟨11, (some 66), (some (61, true)), [], [], (.h (.ibin .leq (.t 63) (.t 65)))⟩, i_X 12 67 (.h (.pick (.t 61) (.t 66) (.k (.d (.bool false)))))] [3, 4, 5, 12, 13, 14, 67]) (.cond (.t 67) (.seq (.reg [i_P 0 68 13 1, i_L 1 69 68 1, i_X 2 70 (.h (.ibin .mul (.k (.d (.int .i64 2))) (.t 69))), i_P 3 71 14 0, i_P 4 72 71 0, i_P 5 73 72 1, i_S 6 73 70 1, i_P 7 74 14 0, i_P 8 75 74 5, ⟨9, none, none, [], [], (.store (.t 75) (.k (.d (.int .i64 0))) 1)⟩] [12, 13, 14]) (.reg [i_P 0 76 13 4, i_L 1 77 76 1, i_X 2 78 (.callA (.k (.d (.fn 43 [] []))) [(.t 77), (.k (.d (.int .i64 1)))]), i_P 3 79 14 0, i_P 4 80 79 0, i_P 5 81 80 4, i_S 6 81 78 1] [12, 14])) (.seq (.reg [i_M 0 82 5, i_X 1 83 (.h (.fcmp .le (.t 82) (.k (.d (.flt 4598175219545276416))))), i_M 2 84 83, ⟨3, (some 85), (some (84, true)), [], [], (.h (.padd (.t 13) 2))⟩, ⟨4, (some 86), (some (84, true)), [], [], (.load (.t 85) 1 false)⟩, ⟨5, (some 87), (some (84, true)), [], [], (.h (.padd (.t 13) 3))⟩, ⟨6, (some 88), (some (84, true)), [], [], (.load (.t 87) 1 false)⟩, ⟨7, (some 89), (some (84, true)), [], [], (.callS 7 (.k (.d (.fn 81 [] []))) [(.t 88)])⟩, ⟨8, (some 90), (some (84, true)), [], [], (.h (.ibin .lss (.t 86) (.t 89)))⟩, i_X 9 91 (.h (.pick (.t 84) (.t 90) (.k (.d (.bool false)))))] [3, 4, 12, 13, 14, 91]) (.cond (.t 91) (.seq (.reg [i_X 0 15 (.h (.mov (.k .nil)))] [3, 4, 12, 13, 14, 15]) (.seq (.seq (.reg [i_X 0 16 (.h (.mov (.k (.d (.int .i64 0)))))] [3, 4, 12, 13, 14, 15, 16]) (.block 0 (.loop A_r10_taken_L0))) (.seq (.reg [i_P 0 117 14 0, i_P 1 118 117 0, i_P 2 119 118 4, i_L 3 120 119 1, i_M 4 121 15, i_X 5 122 (.bslice [.nil] 1 1 [(0, (1, (.t 121)))] 30), i_X 6 123 (.app (.t 120) (.t 122) 1 24), i_P 7 124 14 0, i_P 8 125 124 0, i_P 9 126 125 4, i_S 10 126 123 1] [12, 13, 14]) (.reg [i_P 0 127 13 2, i_L 1 128 127 1, i_X 2 129 (.h (.ibin .add (.t 128) (.k (.d (.int .i64 1))))), i_P 3 130 14 0, i_P 4 131 130 0, i_P 5 132 131 2, i_S 6 132 129 1, i_P 7 133 14 0, i_P 8 134 133 5, ⟨9, none, none, [], [], (.store (.t 134) (.k (.d (.int .i64 0))) 1)⟩] [12, 14])))) .skip)))) (.seq (.reg [i_A 0 135 14 16, i_S 1 12 135 16] [12]) .ret)))))))))
theorem A_r10_taken_comp : compF Tryz.prog 46 = some ⟨136, [(12, (some (16, true)))], A_r10_taken.strip⟩ := by kernel_rfl
abbrev tjS (l d : List Nat) (i : Nat) : Sl := [(3, .d (rowD l)), (4, .d (rowD d)), (12, .ptr 2 0 0 16), (13, .ptr 5 0 0 5), (14, .ptr 16 0 0 16), (15, .sl 300 0 0 i 1 i), (16, fI i)]
abbrev tjL (q n : Nat) (m g sl pos st : Int) (err : Nat) (C : List (List Nat)) : Heap := [(240, C.map rowV), (140, [hdo 240 0 (q + 1) n]),
  (16, [[fI (pos + st), fI st, fI q, fI m, .sl 140 0 0 (q + 1) 1 (q + 1), fI (g + 1), fI 0, fI sl, fI (pos + st), fI st, fI q, fI m, .d (rowsD C), fB true, fl err, fI 0]]), (5, [[fI (pos + st), fI st, fI q, fI m, .d (rowsD C)]]),
  (2, [[fI 0, fI 0, fI 0, fI 0, .nil, fI 0, fI 0, fI 0, fI 0, fI 0, fI 0, fI 0, .nil, fB false, fl 0, fI 0]])]
set_option maxRecDepth 16000 in
theorem taken10_L0 (p1 p0 : List V) (q : Nat) (m g sl pos st : Int) (err : Nat) (C : List (List Nat)) (l d : List Nat) (n : Nat) (gg : Nat → Nat) (hl : l.length = q + 1) (hd : d.length = n) (hn : n < 2 ^ 40) (w2 : IntKind.i64.wrap ((q : Int) + 1) = (q : Int) + 1)
    (hz : Rk (q + 1) n C) (hgg : ∀ i, fop .div (fop .mul (l.getD q 0) (d.getD i 0)) (FloatKind.nearest .f64 ((q : Int) + 1)) = gg i) (Q : Ex → T → Prop)
    (hQ : ∀ w, Q (.exit 0) ⟨tjS l d n ++ [w], (300, [rowV (tabR gg n)]) :: tjL q n m g sl pos st err C⟩) :
    WA Tryz.prog (fun _ => False) 136 (.loop A_r10_taken_L0) Q ⟨[(3, .d (rowD l)), (4, .d (rowD d)), (12, .ptr 2 0 0 16), (13, .ptr 5 0 0 5), (14, .ptr 16 0 0 16), (15, .nil), (16, fI 0)], tjL q n m g sl pos st err C ++ [(1, [p1]), (0, [p0])]⟩ := by
  have hk1 : ∀ L : Heap, L.fam 240 = some (C.map rowV) → KpA L (hdo 240 0 (q + 1) n) := fun L hL => KpA_hdoF hL (by have := hz.1; omega)
  refine WA_forW (n := n) (fun c s => ∃ i, c + i = n ∧ s = ⟨tjS l d i, (300, [rowV (tabR gg i)]) :: tjL q n m g sl pos st err C⟩)
    (s0 := ⟨_, _⟩) (Le.trans (LeT.nilrow (X := 300) (esz := 1) (as' := tjS l d 0) (by simp [fam_cons, fam_nil]) (fun h => h) fun i => ?_)
      (LeT.only (L' := (300, [rowV (tabR gg 0)]) :: tjL q n m g sl pos st err C) (fun X => X != 0 && X != 1) (fun _ h => h) rfl (by simp (maxDischargeDepth := 6) [KpS_cons, KpS_nil, KpH_cons, KpH_nil, KpF_cons, KpF_nil, KpF_rows, KpA_cons, KpA_nil, KpA_app, KpA_rowV, KpA_rowIV, KpA_dcells, KpA_outC, Kp_any, Kp_nilv, Kp_d, Kp_ptr, Kp_sl, Kp_agg, Kp_tup, Kp_fn, get_cons, get_nil, fam_cons, fam_nil]) (by simp (maxDischargeDepth := 6) [KpS_cons, KpS_nil, KpH_cons, KpH_nil, KpF_cons, KpF_nil, KpF_rows, KpA_cons, KpA_nil, KpA_app, KpA_rowV, KpA_rowIV, KpA_dcells, KpA_outC, Kp_any, Kp_nilv, Kp_d, Kp_ptr, Kp_sl, Kp_agg, Kp_tup, Kp_fn, get_cons, get_nil, fam_cons, fam_nil, hk1]))) ⟨0, by omega, rfl⟩ ?_
  · simp only [look]
    repeat' split
    all_goals simp [rowD, hd]
  rintro c s ⟨i, hc3, rfl⟩
  have hgl := tabR_len gg i
  simp -implicitDefEqProofs only [evI, hv, effC, reduceCtorEq, ↓reduceIte, n1_, n2_, n3_, n4_, n5_, i1_, i2_, i3_, i4_, i5_, i6_, i7_, A_r10_taken_L0]
  refine condC_intro (fun hi => ?_) (fun hi => ?_)
  · replace hi := of_decide_eq_true hi
    simp -implicitDefEqProofs only [evI, hv, effC, reduceCtorEq, ↓reduceIte, n1_, n2_, n3_, n4_, n5_, i1_, i2_, i3_, i4_, i5_, i6_, i7_, w2, hgg]
    (repeat (with_reducible refine And.intro (by omega) ?_))
    have e2 : rowV (tabR gg i) ++ [fl (gg i)] = rowV (tabR gg (i + 1)) := (tabR_succ _ _).symm
    rw [wrapI (by omega) (by omega), e2]
    exact ⟨c - 1, _, by omega, LeT.only (L' := (300, [rowV (tabR gg (i + 1))]) :: tjL q n m g sl pos st err C) (fun X => X != 308) (fun _ h => h) rfl (by simp (maxDischargeDepth := 6) [KpS_cons, KpS_nil, KpH_cons, KpH_nil, KpF_cons, KpF_nil, KpF_rows, KpA_cons, KpA_nil, KpA_app, KpA_rowV, KpA_rowIV, KpA_dcells, KpA_outC, Kp_any, Kp_nilv, Kp_d, Kp_ptr, Kp_sl, Kp_agg, Kp_tup, Kp_fn, get_cons, get_nil, fam_cons, fam_nil]) (by simp (maxDischargeDepth := 6) [KpS_cons, KpS_nil, KpH_cons, KpH_nil, KpF_cons, KpF_nil, KpF_rows, KpA_cons, KpA_nil, KpA_app, KpA_rowV, KpA_rowIV, KpA_dcells, KpA_outC, Kp_any, Kp_nilv, Kp_d, Kp_ptr, Kp_sl, Kp_agg, Kp_tup, Kp_fn, get_cons, get_nil, fam_cons, fam_nil, hk1]), i + 1, by omega, rfl⟩
  · replace hi := of_decide_eq_false hi
    have e : i = n := by omega
    subst e
    simp -implicitDefEqProofs only [evI, hv, effC, reduceCtorEq, ↓reduceIte, n1_, n2_, n3_, n4_, n5_, i1_, i2_, i3_, i4_, i5_, i6_, i7_]
    exact hQ _
set_option maxRecDepth 16000 in
theorem r10_taken_con (p : Pb) (s : Sta) (z : List (List Nat)) (l d : List Nat) (err : Nat) (hp : Pok p) (hs : s.ok p.t) (hz : Rk (s.n.order.toNat + 1) p.t.n z) (hzc : Cw z) (hl : l.length = s.n.order.toNat + 1) (hd : d.length = p.t.n) :
    Con Tryz.prog 46 [pbV p, staV s, .d (rowsD z), .d (rowD l), .d (rowD d), fl err] (trdV (takeP p s z l d err)) := by
  obtain ⟨hn, hg, hf, hsl⟩ := hs
  obtain ⟨hm, ⟨j, hj, hst⟩, hk, hc, hpos⟩ := hn
  obtain ⟨⟨pos, st, o, m, z0⟩, g, f, sl⟩ := s
  simp only at *
  have hsr := pow_range j hj
  rw [← hst] at hsr
  clear hst
  obtain ⟨q, rfl⟩ : ∃ q : Nat, o = q := ⟨o.toNat, by omega⟩
  rw [Int.toNat_natCast] at hk hz hl
  have hz' := corrP_rk hz l d (q + 1) p.t.n
  have hzc' := corrP_cw hzc l d (q + 1) p.t.n
  have hpn := hp.t.n
  have hq9 : q + 1 < 1000 := by omega
  have hn8 : p.t.n * 8 ≤ 140737488355328 := by omega
  have hq8 : (q + 1 + 1) * 24 ≤ 140737488355328 := by omega
  have hn40 : p.t.n < 2 ^ 40 := by omega
  have hq12 : q + 3 < 12 := by omega
  have hq10 : q + 3 < 1000 := by omega
  have hcor := r8_Correct_con z (q + 1) p.t.n hz hq9 hn40 l d hl hd
  have hre0 := r8_Rescale_ac (corrP z l d (q + 1) p.t.n) (q + 1) p.t.n hz' hq9 hn40 0 (by decide)
  rw [scale_zero hz' hzc'] at hre0
  have hre1 := r8_Rescale_con (corrP z l d (q + 1) p.t.n) (q + 1) p.t.n hz' hq9 hn40 1 (by decide)
  have w1 : IntKind.i64.wrap (g + 1) = g + 1 := wrapI (by omega) (by omega)
  have w2 : IntKind.i64.wrap ((q : Int) + 1) = (q : Int) + 1 := wrapI (by omega) (by omega)
  have w3 : IntKind.i64.wrap ((q : Int) + 3) = ((q + 3 : Nat) : Int) := by rw [wrapI (by omega) (by omega)]; omega
  have w5 : IntKind.i64.wrap (2 * st) = 2 * st := wrapI (by omega) (by omega)
  have w6 : IntKind.i64.wrap (pos + st) = pos + st := wrapI (by omega) (by omega)
  have hless := r10_less_con (q + 3) hq10
  rw [less_ok _ hq12] at hless
  unfold takeP
  simp only [Int.toNat_natCast]
  generalize hC : corrP z l d (q + 1) p.t.n = C at hz' hzc' hcor hre0 hre1
  refine Con_introA A_r10_taken_comp rfl mixed ?_
  simp -implicitDefEqProofs only [evI, hv, effC, reduceCtorEq, ↓reduceIte, n1_, n2_, n3_, n4_, n5_, i1_, i2_, i3_, i4_, i5_, i6_, i7_, A_r10_taken]
  first | refine callG_con (hcor) rfl ?_ | refine callCG_con (hcor) rfl ?_ | refine callSG_con (hcor) rfl ?_
  simp -implicitDefEqProofs only [evI, hv, effC, reduceCtorEq, ↓reduceIte, n1_, n2_, n3_, n4_, n5_, i1_, i2_, i3_, i4_, i5_, i6_, i7_, w6]
  refine callG_rows 40 [.d (rowsD C), fI 0] (by simp [Heap.next]) hre0 ⟨.bare _, .bare _, trivial⟩ ?_
  simp -implicitDefEqProofs only [evI, hv, effC, reduceCtorEq, ↓reduceIte, n1_, n2_, n3_, n4_, n5_, i1_, i2_, i3_, i4_, i5_, i6_, i7_, w1, w2]
  by_cases c1 : g + 1 ≤ (q : Int) + 1
  · rw [if_pos c1]
    have c1' : decide (g + 1 ≤ (q : Int) + 1) = true := decide_eq_true c1
    simp -implicitDefEqProofs only [evI, hv, effC, reduceCtorEq, ↓reduceIte, n1_, n2_, n3_, n4_, n5_, i1_, i2_, i3_, i4_, i5_, i6_, i7_, c1']
    exact endsT_le (.agg [fI (pos + st), fI st, fI q, fI m, .sl 140 0 0 (q + 1) 1 (q + 1), fI (g + 1), fI 0, fI sl, fI (pos + st), fI st, fI q, fI m, .d (rowsD C), fB true, fl err, fI 0]) (fun _ h => h) (resV_cellI (by decide) rfl rfl rfl (by simp) rfl)
      (Fz_agg _ _ ⟨Fz_d _, Fz_d _, Fz_d _, Fz_d _, Fz_rk (X := 240) hz' rfl rfl rfl rfl, Fz_d _, Fz_d _, Fz_d _, Fz_d _, Fz_d _, Fz_d _, Fz_d _, Fz_d _, Fz_d _, Fz_d _, Fz_d _, trivial⟩)
  · rw [if_neg c1]
    have c1' : decide (g + 1 ≤ (q : Int) + 1) = false := decide_eq_false c1
    simp -implicitDefEqProofs only [evI, hv, effC, reduceCtorEq, ↓reduceIte, n1_, n2_, n3_, n4_, n5_, i1_, i2_, i3_, i4_, i5_, i6_, i7_, c1', w3]
    first | refine callG_con (hless) rfl ?_ | refine callCG_con (hless) rfl ?_ | refine callSG_con (hless) rfl ?_
    generalize lessW (q + 3) = lw
    simp -implicitDefEqProofs only [evI, hv, effC, reduceCtorEq, ↓reduceIte, n1_, n2_, n3_, n4_, n5_, i1_, i2_, i3_, i4_, i5_, i6_, i7_]
    by_cases c2 : fcmp .le err lw = true ∧ st ≤ p.fin
    · rw [if_pos c2]
      have c3 : decide (st ≤ p.fin) = true := decide_eq_true c2.2
      simp -implicitDefEqProofs only [evI, hv, effC, reduceCtorEq, ↓reduceIte, n1_, n2_, n3_, n4_, n5_, i1_, i2_, i3_, i4_, i5_, i6_, i7_, c2.1, c3, w5]
      generalize scaleP C 1 (q + 1) p.t.n = S at hre1
      first | refine callG_con (hre1) rfl ?_ | refine callCG_con (hre1) rfl ?_ | refine callSG_con (hre1) rfl ?_
      simp -implicitDefEqProofs only [evI, hv, effC, reduceCtorEq, ↓reduceIte, n1_, n2_, n3_, n4_, n5_, i1_, i2_, i3_, i4_, i5_, i6_, i7_]
      exact endsT_le (.agg [fI (pos + st), fI (2 * st), fI q, fI m, .d (rowsD S), fI 0, fI 0, fI sl, fI (pos + st), fI st, fI q, fI m, .d (rowsD C), fB true, fl err, fI 0]) (fun _ h => h) (resV_cellI (by decide) rfl rfl rfl (by simp) rfl)
        (Fz_agg _ _ ⟨Fz_d _, Fz_d _, Fz_d _, Fz_d _, Fz_d _, Fz_d _, Fz_d _, Fz_d _, Fz_d _, Fz_d _, Fz_d _, Fz_d _, Fz_d _, Fz_d _, Fz_d _, Fz_d _, trivial⟩)
    · rw [if_neg c2]
      have c4 : (fcmp .le err lw = false) ∨ (fcmp .le err lw = true ∧ decide (st ≤ p.fin) = false) := by
        cases h1 : fcmp .le err lw with
        | false => exact .inl rfl
        | true => exact .inr ⟨rfl, decide_eq_false fun h2 => c2 ⟨h1, h2⟩⟩
      have fin : ∀ (Lr : Heap), Lr.get 140 0 = some (hdo 240 0 (q + 1) p.t.n) → Lr.fam 240 = some (C.map rowV) → LeV Lr [] (fun X r => (X, r)) (.agg [fI (pos + st), fI st, fI q, fI m, .sl 140 0 0 (q + 1) 1 (q + 1), fI (g + 1), fI 0, fI sl, fI (pos + st), fI st, fI q, fI m, .d (rowsD C), fB true, fl err, fI 0])
          (trdV ⟨⟨⟨pos + st, st, q, m, C⟩, g + 1, 0, sl⟩, ⟨pos + st, st, q, m, C⟩, true, err, 0⟩) := fun Lr e1 e2 =>
        Fz_agg _ _ ⟨Fz_d _, Fz_d _, Fz_d _, Fz_d _, Fz_rk (X := 240) hz' e1 e2 rfl rfl, Fz_d _, Fz_d _, Fz_d _, Fz_d _, Fz_d _, Fz_d _, Fz_d _, Fz_d _, Fz_d _, Fz_d _, Fz_d _, trivial⟩
      rcases c4 with c4 | ⟨c4, c5⟩
      case' inl => simp -implicitDefEqProofs only [evI, hv, effC, reduceCtorEq, ↓reduceIte, n1_, n2_, n3_, n4_, n5_, i1_, i2_, i3_, i4_, i5_, i6_, i7_, c4]
      case' inr => simp -implicitDefEqProofs only [evI, hv, effC, reduceCtorEq, ↓reduceIte, n1_, n2_, n3_, n4_, n5_, i1_, i2_, i3_, i4_, i5_, i6_, i7_, c4, c5]
      all_goals
        cases c8 : fcmp .le err 4598175219545276416 with
        | false =>
          rw [if_neg (by simp)]
          simp -implicitDefEqProofs only [evI, hv, effC, reduceCtorEq, ↓reduceIte, n1_, n2_, n3_, n4_, n5_, i1_, i2_, i3_, i4_, i5_, i6_, i7_]
          exact endsT_le (.agg [fI (pos + st), fI st, fI q, fI m, .sl 140 0 0 (q + 1) 1 (q + 1), fI (g + 1), fI 0, fI sl, fI (pos + st), fI st, fI q, fI m, .d (rowsD C), fB true, fl err, fI 0]) (fun _ h => h) (resV_cellI (by decide) rfl rfl rfl (by simp) rfl) (fin _ rfl rfl)
        | true =>
          simp -implicitDefEqProofs only [evI, hv, effC, reduceCtorEq, ↓reduceIte, n1_, n2_, n3_, n4_, n5_, i1_, i2_, i3_, i4_, i5_, i6_, i7_]
          first | refine callG_con (r10_most_con m) rfl ?_ | refine callCG_con (r10_most_con m) rfl ?_ | refine callSG_con (r10_most_con m) rfl ?_
          simp -implicitDefEqProofs only [evI, hv, effC, reduceCtorEq, ↓reduceIte, n1_, n2_, n3_, n4_, n5_, i1_, i2_, i3_, i4_, i5_, i6_, i7_]
          by_cases c9 : (q : Int) < mostO m
          · have c9' : decide ((q : Int) < mostO m) = true := decide_eq_true c9
            rw [if_pos c9]
            simp -implicitDefEqProofs only [evI, hv, effC, reduceCtorEq, ↓reduceIte, n1_, n2_, n3_, n4_, n5_, i1_, i2_, i3_, i4_, i5_, i6_, i7_, c9']
            obtain ⟨gg, hgg⟩ : ∃ gg, gg = (fun i => fop .div (fop .mul (l.getD q 0) (d.getD i 0)) (FloatKind.nearest .f64 ((q : Int) + 1))) := ⟨_, rfl⟩
            have hgg' : ∀ i, fop .div (fop .mul (l.getD q 0) (d.getD i 0)) (FloatKind.nearest .f64 ((q : Int) + 1)) = gg i := fun i => by rw [hgg]
            have hnr : nextR l d q = tabR gg p.t.n := by unfold nextR; rw [hd, hgg]
            rw [hnr]
            refine taken10_L0 _ (pbC p) q m g sl pos st err C l d p.t.n gg hl hd hn40 w2 hz' hgg' _ fun w => ?_
            have hgl := tabR_len gg p.t.n
            generalize tabR gg p.t.n = G at hgl
            have hgl' : p.t.n ≤ G.length := Nat.le_of_eq hgl.symm
            simp -implicitDefEqProofs only [evI, hv, effC, reduceCtorEq, ↓reduceIte, n1_, n2_, n3_, n4_, n5_, i1_, i2_, i3_, i4_, i5_, i6_, i7_, w2]
            refine ⟨hq8, ?_⟩
            exact endsT_le (.agg [fI (pos + st), fI st, fI (q + 1), fI m, .sl 140 0 0 (q + 1 + 1) 1 (q + 1 + 1), fI 0, fI 0, fI sl, fI (pos + st), fI st, fI q, fI m, .d (rowsD C), fB true, fl err, fI 0]) (fun _ h => h) (resV_cellI (by decide) rfl rfl rfl (by simp) rfl)
              (Fz_agg _ _ ⟨Fz_d _, Fz_d _, Fz_d _, Fz_d _, Fz_rk_app (X := 240) (R := 300) hz' rfl rfl rfl hgl rfl rfl rfl, Fz_d _, Fz_d _, Fz_d _, Fz_d _, Fz_d _, Fz_d _, Fz_d _, Fz_d _, Fz_d _, Fz_d _, Fz_d _, trivial⟩)
          · have c9' : decide ((q : Int) < mostO m) = false := decide_eq_false c9
            rw [if_neg c9]
            simp -implicitDefEqProofs only [evI, hv, effC, reduceCtorEq, ↓reduceIte, n1_, n2_, n3_, n4_, n5_, i1_, i2_, i3_, i4_, i5_, i6_, i7_, c9']
            exact endsT_le (.agg [fI (pos + st), fI st, fI q, fI m, .sl 140 0 0 (q + 1) 1 (q + 1), fI (g + 1), fI 0, fI sl, fI (pos + st), fI st, fI q, fI m, .d (rowsD C), fB true, fl err, fI 0]) (fun _ h => h) (resV_cellI (by decide) rfl rfl rfl (by simp) rfl) (fin _ rfl rfl)
theorem le_failed (Lr : Heap) (s : Sta) (err : Nat) (e : Int) : LeV Lr [] (fun X r => (X, r)) (.agg [fI s.n.pos, fI s.n.step, fI s.n.order, fI s.n.method, .d (rowsD s.n.z), fI s.good, fI s.fails, fI s.slow, fI 0, fI 0, fI 0, fI 0, .nil, fB false, fl err, fI e])
    (trdV ⟨s, ⟨0, 0, 0, 0, []⟩, false, err, e⟩) :=
  Fz_agg _ _ ⟨Fz_d _, Fz_d _, Fz_d _, Fz_d _, Fz_d _, Fz_d _, Fz_d _, Fz_d _, Fz_d _, Fz_d _, Fz_d _, Fz_d _, .d (.nil _), Fz_d _, Fz_d _, Fz_d _, trivial⟩
set_option maxRecDepth 16000 in
theorem r10_failed_con (p : Pb) (s : Sta) (e : Int) (err : Nat) (hp : Pok p) (hs : s.ok p.t) : Con Tryz.prog 44 [pbV p, staV s, fI e, fl err] (trdV (failP p s e err)) := by
  obtain ⟨hn, hg, hf, hsl⟩ := hs
  have hn' := hn
  obtain ⟨hm, ⟨j, hj, hst⟩, hk, hc, hpos⟩ := hn
  obtain ⟨⟨pos, st, o, m, z⟩, g, f, sl⟩ := s
  simp only at *
  have hsr := pow_range j hj
  rw [← hst] at hsr
  obtain ⟨q, rfl⟩ : ∃ q : Nat, o = q := ⟨o.toNat, by omega⟩
  rw [Int.toNat_natCast] at hk
  have hpn := hp.t.n
  have hq9 : q + 1 < 1000 := by omega
  have hn40 : p.t.n < 2 ^ 40 := by omega
  have hre := r8_Rescale_con z (q + 1) p.t.n hk hq9 hn40 (-1) (by decide)
  have w1 : IntKind.i64.wrap (f + 1) = f + 1 := wrapI (by omega) (by omega)
  have w2 : IntKind.i64.wrap (sl + 1) = sl + 1 := wrapI (by omega) (by omega)
  have w5 : IntKind.i64.wrap (st.tdiv 2) = st / 2 := by rw [Int.tdiv_eq_ediv_of_nonneg (by omega)]; exact wrapI (by omega) (by omega)
  unfold failP
  simp only [Int.toNat_natCast]
  refine Con_introA A_r10_failed_comp rfl mixed ?_
  simp -implicitDefEqProofs only [evI, hv, effC, reduceCtorEq, ↓reduceIte, n1_, n2_, n3_, n4_, n5_, i1_, i2_, i3_, i4_, i5_, i6_, i7_, A_r10_failed]
  by_cases c1 : st ≤ p.least
  · rw [if_pos c1]
    have c1' : decide (st ≤ p.least) = true := decide_eq_true c1
    simp -implicitDefEqProofs only [evI, hv, effC, reduceCtorEq, ↓reduceIte, n1_, n2_, n3_, n4_, n5_, i1_, i2_, i3_, i4_, i5_, i6_, i7_, c1']
    by_cases e4 : e = 4
    · subst e4
      simp -implicitDefEqProofs only [evI, hv, effC, reduceCtorEq, ↓reduceIte, n1_, n2_, n3_, n4_, n5_, i1_, i2_, i3_, i4_, i5_, i6_, i7_, Int.reduceBEq]
      exact endsT_le _ (fun _ h => h) (resV_cellI (by decide) rfl rfl rfl (by simp) rfl) (le_failed _ ⟨⟨pos, st, q, m, z⟩, g, f, sl⟩ err 4)
    · have e4' : (e == 4) = false := by simpa using e4
      by_cases e2 : e = 2
      · subst e2
        simp -implicitDefEqProofs only [evI, hv, effC, reduceCtorEq, ↓reduceIte, n1_, n2_, n3_, n4_, n5_, i1_, i2_, i3_, i4_, i5_, i6_, i7_, Int.reduceBEq]
        exact endsT_le _ (fun _ h => h) (resV_cellI (by decide) rfl rfl rfl (by simp) rfl) (le_failed _ ⟨⟨pos, st, q, m, z⟩, g, f, sl⟩ err 2)
      · have e2' : (e == 2) = false := by simpa using e2
        rw [if_neg (by simp [e4, e2])]
        simp -implicitDefEqProofs only [evI, hv, effC, reduceCtorEq, ↓reduceIte, n1_, n2_, n3_, n4_, n5_, i1_, i2_, i3_, i4_, i5_, i6_, i7_, e4', e2']
        exact endsT_le _ (fun _ h => h) (resV_cellI (by decide) rfl rfl rfl (by simp) rfl) (le_failed _ ⟨⟨pos, st, q, m, z⟩, g, f, sl⟩ err 5)
  · rw [if_neg c1]
    have c1' : decide (st ≤ p.least) = false := decide_eq_false c1
    obtain ⟨S, hS⟩ : ∃ S, S = scaleP z (-1) (q + 1) p.t.n := ⟨_, rfl⟩
    have hhalf : ∃ j' : Nat, j' < 60 ∧ st / 2 = (2 ^ j' : Nat) := by
      have hl := hp.least
      obtain ⟨i, rfl⟩ : ∃ i, j = i + 1 := ⟨j - 1, by
        rcases j with _ | j
        · simp at hst; omega
        · omega⟩
      refine ⟨i, by omega, ?_⟩
      rw [hst, Nat.pow_succ]; omega
    have hrkS := scaleP_rk hk (-1) (q + 1) p.t.n
    rw [← hS] at hre hrkS ⊢
    simp -implicitDefEqProofs only [evI, hv, effC, reduceCtorEq, ↓reduceIte, n1_, n2_, n3_, n4_, n5_, i1_, i2_, i3_, i4_, i5_, i6_, i7_, c1', w1, w2]
    have c2 : (e = 6 ∧ m = 0) ∨ e ≠ 6 ∨ (e = 6 ∧ m ≠ 0) := by omega
    obtain ⟨sl', hsl'⟩ : ∃ sl', sl' = if e = 6 ∧ m = 0 then sl + 1 else sl := ⟨_, rfl⟩
    have hslr : 0 ≤ sl' ∧ sl' < 2000000000 := by rw [hsl']; split <;> omega
    rw [← hsl']
    have d2 : ¬ (2 : Int) = 0 := by decide
    rcases c2 with c2 | c2 | c2
    case' inl =>
      rw [if_pos c2] at hsl'
      have m0 : (m == 0) = true := by rw [c2.2]; rfl
      have e6 : (e == 6) = true := by rw [c2.1]; rfl
      simp -implicitDefEqProofs only [evI, hv, effC, reduceCtorEq, ↓reduceIte, n1_, n2_, n3_, n4_, n5_, i1_, i2_, i3_, i4_, i5_, i6_, i7_, e6, m0, w2, w5]
      refine ⟨d2, ?_⟩
      first | refine callG_con (hre) rfl ?_ | refine callCG_con (hre) rfl ?_ | refine callSG_con (hre) rfl ?_
      rw [← hsl']
      simp -implicitDefEqProofs only [evI, hv, effC, reduceCtorEq, ↓reduceIte, n1_, n2_, n3_, n4_, n5_, i1_, i2_, i3_, i4_, i5_, i6_, i7_]
    case' inr.inl =>
      rw [if_neg (fun h => c2 h.1)] at hsl'
      have e6 : (e == 6) = false := by simpa using c2
      simp -implicitDefEqProofs only [evI, hv, effC, reduceCtorEq, ↓reduceIte, n1_, n2_, n3_, n4_, n5_, i1_, i2_, i3_, i4_, i5_, i6_, i7_, e6, w2, w5]
      refine ⟨d2, ?_⟩
      first | refine callG_con (hre) rfl ?_ | refine callCG_con (hre) rfl ?_ | refine callSG_con (hre) rfl ?_
      rw [← hsl']
      simp -implicitDefEqProofs only [evI, hv, effC, reduceCtorEq, ↓reduceIte, n1_, n2_, n3_, n4_, n5_, i1_, i2_, i3_, i4_, i5_, i6_, i7_]
    case' inr.inr =>
      rw [if_neg (fun h => c2.2 h.2)] at hsl'
      have m0 : (m == 0) = false := by simpa using c2.2
      have e6 : (e == 6) = true := by rw [c2.1]; rfl
      simp -implicitDefEqProofs only [evI, hv, effC, reduceCtorEq, ↓reduceIte, n1_, n2_, n3_, n4_, n5_, i1_, i2_, i3_, i4_, i5_, i6_, i7_, e6, m0, w2, w5]
      refine ⟨d2, ?_⟩
      first | refine callG_con (hre) rfl ?_ | refine callCG_con (hre) rfl ?_ | refine callSG_con (hre) rfl ?_
      rw [← hsl']
      simp -implicitDefEqProofs only [evI, hv, effC, reduceCtorEq, ↓reduceIte, n1_, n2_, n3_, n4_, n5_, i1_, i2_, i3_, i4_, i5_, i6_, i7_]
    all_goals
      by_cases c3 : 2 ≤ sl'
      · have c3' : decide (2 ≤ sl') = true := decide_eq_true c3
        rw [if_pos c3]
        simp -implicitDefEqProofs only [evI, hv, effC, reduceCtorEq, ↓reduceIte, n1_, n2_, n3_, n4_, n5_, i1_, i2_, i3_, i4_, i5_, i6_, i7_, c3']
        first | refine callG_con (r10_anew_con p ⟨⟨pos, st / 2, q, 1, S⟩, 0, f + 1, 0⟩ hp hhalf hrkS) rfl ?_ | refine callCG_con (r10_anew_con p ⟨⟨pos, st / 2, q, 1, S⟩, 0, f + 1, 0⟩ hp hhalf hrkS) rfl ?_ | refine callSG_con (r10_anew_con p ⟨⟨pos, st / 2, q, 1, S⟩, 0, f + 1, 0⟩ hp hhalf hrkS) rfl ?_
        simp -implicitDefEqProofs only [evI, hv, effC, reduceCtorEq, ↓reduceIte, n1_, n2_, n3_, n4_, n5_, i1_, i2_, i3_, i4_, i5_, i6_, i7_]
        exact endsT_le _ (fun _ h => h) (resV_cellI (by decide) rfl rfl rfl (by simp) rfl) (le_failed _ ⟨freshP p ⟨pos, st / 2, q, 1, S⟩, 0, 0, 0⟩ err 0)
      · have c3' : decide (2 ≤ sl') = false := decide_eq_false c3
        rw [if_neg c3]
        simp -implicitDefEqProofs only [evI, hv, effC, reduceCtorEq, ↓reduceIte, n1_, n2_, n3_, n4_, n5_, i1_, i2_, i3_, i4_, i5_, i6_, i7_, c3']
        by_cases c4 : f + 1 < 3
        · have c4' : decide (3 ≤ f + 1) = false := decide_eq_false (by omega)
          rw [if_pos c4]
          simp -implicitDefEqProofs only [evI, hv, effC, reduceCtorEq, ↓reduceIte, n1_, n2_, n3_, n4_, n5_, i1_, i2_, i3_, i4_, i5_, i6_, i7_, c4']
          exact endsT_le _ (fun _ h => h) (resV_cellI (by decide) rfl rfl rfl (by simp) rfl) (le_failed _ ⟨⟨pos, st / 2, q, m, S⟩, 0, f + 1, sl'⟩ err 0)
        · have c4' : decide (3 ≤ f + 1) = true := decide_eq_true (by omega)
          rw [if_neg c4]
          simp -implicitDefEqProofs only [evI, hv, effC, reduceCtorEq, ↓reduceIte, n1_, n2_, n3_, n4_, n5_, i1_, i2_, i3_, i4_, i5_, i6_, i7_, c4']
          first | refine callG_con (r10_anew_con p ⟨⟨pos, st / 2, q, m, S⟩, 0, f + 1, sl'⟩ hp hhalf hrkS) rfl ?_ | refine callCG_con (r10_anew_con p ⟨⟨pos, st / 2, q, m, S⟩, 0, f + 1, sl'⟩ hp hhalf hrkS) rfl ?_ | refine callSG_con (r10_anew_con p ⟨⟨pos, st / 2, q, m, S⟩, 0, f + 1, sl'⟩ hp hhalf hrkS) rfl ?_
          simp -implicitDefEqProofs only [evI, hv, effC, reduceCtorEq, ↓reduceIte, n1_, n2_, n3_, n4_, n5_, i1_, i2_, i3_, i4_, i5_, i6_, i7_]
          exact endsT_le _ (fun _ h => h) (resV_cellI (by decide) rfl rfl rfl (by simp) rfl) (le_failed _ ⟨freshP p ⟨pos, st / 2, q, m, S⟩, 0, 0, sl'⟩ err 0)
end Go.Ab

namespace Go.Ab
set_option linter.unusedSimpArgs false
set_option linter.unusedVariables false
open Nat renaming reduceEqDiff → n1_, reduceAdd → n2_, reduceMul → n3_, reduceLT → n4_, reduceLeDiff → n5_
open Int renaming reduceToNat → i1_, reduceAdd → i2_, reduceSub → i3_, reduceMul → i4_, reduceNeg → i5_, reduceLT → i6_, reduceLE → i7_
open Go Go.Proofs
def A_r4_change : CA := (.seq (.reg [i_X 0 12 (.h (.mov (.k (.d (.flt 0)))))] [0, 1, 2, 3, 4, 5]) (.seq (.seq (.reg [i_M 0 17 0] [1, 2, 3, 4, 5, 17]) (.block 0 (.seq (.reg [i_X 0 19 (.h (.ibin .eql (.t 17) (.k (.d (.int .i64 2))))), i_M 1 18 19] [1, 2, 3, 4, 5, 17, 18]) (.cond (.t 18) (.seq (.reg [i_M 0 20 4, i_M 1 21 5, i_X 2 22 (.h (.fbin .add (.t 20) (.t 21))), i_M 3 12 22] [12]) .ret) (.seq (.reg [i_X 0 24 (.h (.ibin .eql (.t 17) (.k (.d (.int .i64 3))))), i_M 1 23 24] [1, 2, 3, 4, 5, 17, 23]) (.cond (.t 23) (.seq (.reg [i_M 0 25 4, i_M 1 26 5, i_X 2 27 (.h (.fbin .sub (.t 25) (.t 26))), i_M 3 12 27] [12]) .ret) (.seq (.reg [i_X 0 29 (.h (.ibin .eql (.t 17) (.k (.d (.int .i64 4))))), i_M 1 28 29] [1, 2, 3, 4, 5, 28]) (.cond (.t 28) (.seq (.reg [i_M 0 30 4, i_M 1 31 2, i_X 2 32 (.h (.fbin .mul (.t 30) (.t 31))), i_M 3 13 32] [1, 5, 13]) (.seq (.reg [i_M 0 33 1, i_M 1 34 5, i_X 2 35 (.h (.fbin .mul (.t 33) (.t 34))), i_M 3 14 35] [13, 14]) (.seq (.reg [i_M 0 36 13, i_M 1 37 14, i_X 2 38 (.h (.fbin .add (.t 36) (.t 37))), i_M 3 12 38] [12]) .ret))) .skip)))))))) (.seq (.reg [i_M 0 39 3, i_M 1 40 5, i_X 2 41 (.h (.fbin .mul (.t 39) (.t 40))), i_M 3 15 41] [2, 4, 15]) (.seq (.reg [i_M 0 42 4, i_M 1 43 15, i_X 2 44 (.h (.fbin .sub (.t 42) (.t 43))), i_M 3 16 44] [2, 16]) (.seq (.reg [i_M 0 45 16, i_M 1 46 2, i_X 2 47 (.h (.fbin .div (.t 45) (.t 46))), i_M 3 12 47] [12]) .ret)))))
theorem A_r4_change_comp : compF Tryz.prog 108 = some ⟨48, [(12, none)], A_r4_change.strip⟩ := by kernel_rfl
def A_r4_Jac_L1 : CA := (.seq (.seq (.reg [i_M 0 126 9, i_P 1 127 2 0, i_L 2 128 127 1, i_X 3 129 (.h (.ibin .lss (.t 126) (.t 128)))] [1, 2, 5, 6, 7, 8, 9, 129]) (.cond (.t 129) .skip (.exit 3))) (.seq (.block 4 (.reg [i_M 0 132 6, i_M 1 133 7, i_X 2 134 (.h (.idx (.t 132) (.t 133) 1)), i_L 3 135 134 1, i_M 4 136 9, i_P 5 137 8 0, i_L 6 138 137 1, i_M 7 139 5, i_P 8 140 8 1, i_L 9 141 140 1, i_X 10 142 (.h (.idx (.t 139) (.t 141) 1)), i_L 11 143 142 1, i_M 12 144 5, i_P 13 145 8 2, i_L 14 146 145 1, i_X 15 147 (.h (.idx (.t 144) (.t 146) 1)), i_L 16 148 147 1, i_M 17 149 5, i_M 18 150 7, i_X 19 151 (.h (.idx (.t 149) (.t 150) 1)), i_L 20 152 151 1, i_M 21 153 6, i_P 22 154 8 1, i_L 23 155 154 1, i_X 24 156 (.h (.idx (.t 153) (.t 155) 1)), i_L 25 157 156 1, i_M 26 158 9, i_X 27 159 (.h (.idx (.t 157) (.t 158) 1)), i_L 28 160 159 1, i_M 29 161 6, i_P 30 162 8 2, i_L 31 163 162 1, i_X 32 164 (.h (.idx (.t 161) (.t 163) 1)), i_L 33 165 164 1, i_M 34 166 9, i_X 35 167 (.h (.idx (.t 165) (.t 166) 1)), i_L 36 168 167 1, i_X 37 169 (.callS 37 (.k (.d (.fn 108 [] []))) [(.t 138), (.t 143), (.t 148), (.t 152), (.t 160), (.t 168)]), i_X 38 170 (.h (.idx (.t 135) (.t 136) 1)), i_S 39 170 169 1] [1, 2, 5, 6, 7, 8, 9])) (.reg [i_M 0 130 9, i_X 1 131 (.h (.ibin .add (.t 130) (.k (.d (.int .i64 1))))), i_M 2 9 131] [1, 2, 5, 6, 7, 8, 9])))
def A_r4_Jac_L0 : CA := (.seq (.seq (.reg [i_M 0 20 7, i_P 1 21 2 1, i_L 2 22 21 1, i_X 3 23 (.h (.len (.t 22))), i_X 4 24 (.h (.ibin .lss (.t 20) (.t 23)))] [1, 2, 5, 6, 7, 24]) (.cond (.t 24) .skip (.exit 0))) (.seq (.block 1 (.seq (.reg [i_P 0 27 2 1, i_L 1 28 27 1, i_M 2 29 7, i_X 3 30 (.h (.idx (.t 28) (.t 29) 4)), i_A 4 31 30 4, i_X 5 8 (.alloc [(.d (.int .i64 0)), (.d (.int .i64 0)), (.d (.int .i64 0)), (.d (.flt 0))] 67), i_S 6 8 31 4] [1, 2, 5, 6, 7, 8]) (.seq (.reg [i_M 0 32 6, i_M 1 33 7, i_P 2 34 2 0, i_L 3 35 34 1, i_X 4 36 (.mksl [(.d (.flt 0))] 1 8 (.t 35) (.t 35) 31), i_X 5 37 (.h (.idx (.t 32) (.t 33) 1)), i_S 6 37 36 1] [1, 2, 5, 6, 7, 8]) (.seq (.seq (.reg [i_P 0 38 8 0, i_L 1 39 38 1] [1, 2, 5, 6, 7, 8, 39]) (.block 2 (.seq (.reg [i_X 0 55 (.h (.ibin .eql (.t 39) (.k (.d (.int .i64 0))))), i_M 1 54 55] [1, 2, 5, 6, 7, 8, 39, 54]) (.cond (.t 54) (.seq (.reg [i_M 0 56 5, i_M 1 57 7, i_P 2 58 8 3, i_L 3 59 58 1, i_X 4 60 (.h (.idx (.t 56) (.t 57) 1)), i_S 5 60 59 1] [1, 2, 5, 6, 7]) (.exit 1)) (.seq (.reg [i_X 0 62 (.h (.ibin .eql (.t 39) (.k (.d (.int .i64 1))))), i_M 1 61 62] [1, 2, 5, 6, 7, 8, 39, 61]) (.cond (.t 61) (.seq (.reg [i_M 0 63 5, i_M 1 64 7, i_M 2 65 6, i_M 3 66 7, i_X 4 67 (.h (.idx (.t 65) (.t 66) 1)), i_L 5 68 67 1, i_P 6 69 8 1, ⟨7, (some 70), none, [(.t 8)], [], (.load (.t 69) 1 false)⟩, i_M 8 71 1, i_P 9 72 8 1, i_L 10 73 72 1, i_X 11 74 (.h (.idx (.t 71) (.t 73) 1)), i_L 12 75 74 1, i_X 13 76 (.h (.idx (.t 63) (.t 64) 1)), ⟨14, none, none, [], [(.t 8)], (.store (.t 76) (.t 75) 1)⟩, i_X 15 77 (.h (.idx (.t 68) (.t 70) 1)), ⟨16, none, none, [], [], (.store (.t 77) (.k (.d (.flt 4607182418800017408))) 1)⟩] [1, 2, 5, 6, 7]) (.exit 1)) (.seq (.reg [i_X 0 79 (.h (.ibin .eql (.t 39) (.k (.d (.int .i64 2))))), i_M 1 78 79] [1, 2, 5, 6, 7, 8, 39, 78]) (.cond (.t 78) (.reg [i_M 0 80 5, i_M 1 81 7, i_M 2 82 5, i_P 3 83 8 1, i_L 4 84 83 1, i_X 5 85 (.h (.idx (.t 82) (.t 84) 1)), i_L 6 86 85 1, i_M 7 87 5, i_P 8 88 8 2, i_L 9 89 88 1, i_X 10 90 (.h (.idx (.t 87) (.t 89) 1)), i_L 11 91 90 1, i_X 12 92 (.h (.fbin .add (.t 86) (.t 91))), i_X 13 93 (.h (.idx (.t 80) (.t 81) 1)), i_S 14 93 92 1] [1, 2, 5, 6, 7, 8]) (.seq (.reg [i_X 0 95 (.h (.ibin .eql (.t 39) (.k (.d (.int .i64 3))))), i_M 1 94 95] [1, 2, 5, 6, 7, 8, 39, 94]) (.cond (.t 94) (.reg [i_M 0 96 5, i_M 1 97 7, i_M 2 98 5, i_P 3 99 8 1, i_L 4 100 99 1, i_X 5 101 (.h (.idx (.t 98) (.t 100) 1)), i_L 6 102 101 1, i_M 7 103 5, i_P 8 104 8 2, i_L 9 105 104 1, i_X 10 106 (.h (.idx (.t 103) (.t 105) 1)), i_L 11 107 106 1, i_X 12 108 (.h (.fbin .sub (.t 102) (.t 107))), i_X 13 109 (.h (.idx (.t 96) (.t 97) 1)), i_S 14 109 108 1] [1, 2, 5, 6, 7, 8]) (.seq (.reg [i_X 0 111 (.h (.ibin .eql (.t 39) (.k (.d (.int .i64 4))))), i_M 1 110 111] [1, 2, 5, 6, 7, 8, 110]) (.cond (.t 110) (.reg [i_M 0 112 5, i_M 1 113 7, i_M 2 114 5, i_P 3 115 8 1, i_L 4 116 115 1, i_X 5 117 (.h (.idx (.t 114) (.t 116) 1)), i_L 6 118 117 1, i_M 7 119 5, i_P 8 120 8 2, i_L 9 121 120 1, i_X 10 122 (.h (.idx (.t 119) (.t 121) 1)), i_L 11 123 122 1, i_X 12 124 (.h (.fbin .mul (.t 118) (.t 123))), i_X 13 125 (.h (.idx (.t 112) (.t 113) 1)), i_S 14 125 124 1] [1, 2, 5, 6, 7, 8]) (.reg [i_M 0 40 5, i_M 1 41 7, i_M 2 42 5, i_P 3 43 8 1, i_L 4 44 43 1, i_X 5 45 (.h (.idx (.t 42) (.t 44) 1)), i_L 6 46 45 1, i_M 7 47 5, i_P 8 48 8 2, i_L 9 49 48 1, i_X 10 50 (.h (.idx (.t 47) (.t 49) 1)), i_L 11 51 50 1, i_X 12 52 (.h (.fbin .div (.t 46) (.t 51))), i_X 13 53 (.h (.idx (.t 40) (.t 41) 1)), i_S 14 53 52 1] [1, 2, 5, 6, 7, 8]))))))))))))) (.seq (.reg [i_X 0 9 (.h (.mov (.k (.d (.int .i64 0)))))] [1, 2, 5, 6, 7, 8, 9]) (.block 3 (.loop A_r4_Jac_L1))))))) (.reg [i_M 0 25 7, i_X 1 26 (.h (.ibin .add (.t 25) (.k (.d (.int .i64 1))))), i_M 2 7 26] [1, 2, 5, 6, 7])))
def A_r4_Jac_L2 : CA := (.seq (.seq (.reg [i_M 0 171 11, i_P 1 172 2 0, i_L 2 173 172 1, i_X 3 174 (.h (.ibin .lss (.t 171) (.t 173)))] [2, 6, 10, 11, 174]) (.cond (.t 174) .skip (.exit 5))) (.seq (.block 6 (.reg [i_M 0 177 10, i_X 1 178 (.bslice [] 0 1 [] 31), i_M 2 179 6, i_P 3 180 2 2, i_L 4 181 180 1, i_M 5 182 11, i_X 6 183 (.h (.idx (.t 181) (.t 182) 1)), i_L 7 184 183 1, i_X 8 185 (.h (.idx (.t 179) (.t 184) 1)), i_L 9 186 185 1, i_X 10 187 (.app (.t 178) (.t 186) 1 8), i_X 11 188 (.bslice [.nil] 1 1 [(0, (1, (.t 187)))] 30), i_X 12 189 (.app (.t 177) (.t 188) 1 24), i_M 13 10 189] [2, 6, 10, 11])) (.reg [i_M 0 175 11, i_X 1 176 (.h (.ibin .add (.t 175) (.k (.d (.int .i64 1))))), i_M 2 11 176] [2, 6, 10, 11])))
def A_r4_Jac : CA := (.seq (.reg [i_X 0 2 (.box (.t 0) 3 28), i_X 1 4 (.h (.mov (.k .nil)))] [1, 2]) (.seq (.reg [i_P 0 12 2 1, i_L 1 13 12 1, i_X 2 14 (.h (.len (.t 13))), i_X 3 15 (.mksl [(.d (.flt 0))] 1 8 (.t 14) (.t 14) 31), i_M 4 5 15] [1, 2, 5]) (.seq (.reg [i_P 0 16 2 1, i_L 1 17 16 1, i_X 2 18 (.h (.len (.t 17))), i_X 3 19 (.mksl [.nil] 1 24 (.t 18) (.t 18) 30), i_M 4 6 19] [1, 2, 5, 6]) (.seq (.seq (.reg [i_X 0 7 (.h (.mov (.k (.d (.int .i64 0)))))] [1, 2, 5, 6, 7]) (.block 0 (.loop A_r4_Jac_L0))) (.seq (.reg [i_X 0 10 (.h (.mov (.k .nil)))] [2, 6, 10]) (.seq (.seq (.reg [i_X 0 11 (.h (.mov (.k (.d (.int .i64 0)))))] [2, 6, 10, 11]) (.block 5 (.loop A_r4_Jac_L2))) (.seq (.reg [i_M 0 190 10, i_M 1 4 190] [4]) .ret)))))))
theorem A_r4_Jac_comp : compF Tryz.prog 84 = some ⟨191, [(4, none)], A_r4_Jac.strip⟩ := by kernel_rfl
theorem r4change_con (k : Int) (u v q da db : Nat) (hk : k = 2 ∨ k = 3 ∨ k = 4 ∨ k = 5) : Con Tryz.prog 108 [fI k, fl u, fl v, fl q, fl da, fl db] (fl (if k = 2 then fop .add da db else if k = 3 then fop .sub da db else if k = 4 then fop .add (fop .mul da v) (fop .mul u db) else fop .div (fop .sub da (fop .mul q db)) v)) := by
  refine Con_introA A_r4_change_comp rfl mixed ?_
  simp -implicitDefEqProofs only [evI, hv, effC, reduceCtorEq, ↓reduceIte, n1_, n2_, n3_, n4_, n5_, i1_, i2_, i3_, i4_, i5_, i6_, i7_, A_r4_change]
  rcases hk with rfl | rfl | rfl | rfl
  · simp -implicitDefEqProofs only [evI, hv, effC, reduceCtorEq, ↓reduceIte, n1_, n2_, n3_, n4_, n5_, i1_, i2_, i3_, i4_, i5_, i6_, i7_]
    exact endsT_rett rfl (by decide) (by simp [look])
  · simp -implicitDefEqProofs only [evI, hv, effC, reduceCtorEq, ↓reduceIte, n1_, n2_, n3_, n4_, n5_, i1_, i2_, i3_, i4_, i5_, i6_, i7_, Int.reduceBEq]
    exact endsT_rett rfl (by decide) (by simp [look])
  · simp -implicitDefEqProofs only [evI, hv, effC, reduceCtorEq, ↓reduceIte, n1_, n2_, n3_, n4_, n5_, i1_, i2_, i3_, i4_, i5_, i6_, i7_, Int.reduceBEq]
    exact endsT_rett rfl (by decide) (by simp [look])
  · simp -implicitDefEqProofs only [evI, hv, effC, reduceCtorEq, ↓reduceIte, n1_, n2_, n3_, n4_, n5_, i1_, i2_, i3_, i4_, i5_, i6_, i7_, Int.reduceBEq]
    exact endsT_rett rfl (by decide) (by simp [look])
theorem regs_pre (t : Tp) (x : List Nat) (i m j : Nat) (h : i ≤ m) (hj : j < i) : (regs t x m).getD j 0 = (regs t x i).getD j 0 := by
  induction m with
  | zero => omega
  | succ m ih =>
    by_cases e : i = m + 1
    · subst e; rfl
    · have hl := regs_len t x m
      rw [regs, List.getD_eq_getElem?_getD, List.getElem?_append_left (by omega), ← List.getD_eq_getElem?_getD]
      exact ih (by omega)
theorem drs_pre (t : Tp) (x : List Nat) (i m j : Nat) (h : i ≤ m) (hj : j < i) : (drs t x m).getD j [] = (drs t x i).getD j [] := by
  induction m with
  | zero => omega
  | succ m ih =>
    by_cases e : i = m + 1
    · subst e; rfl
    · have hl := drs_len t x m
      rw [drs, List.getD_eq_getElem?_getD, List.getElem?_append_left (by omega), ← List.getD_eq_getElem?_getD]
      exact ih (by omega)
def rG (t : Tp) (x : List Nat) (i : Nat) : Nat := (regs t x t.ops.length).getD i 0
def dG (t : Tp) (x : List Nat) (i : Nat) : D := rowD ((drs t x t.ops.length).getD i [])
theorem outC_set_get (n : Nat) (g : Nat → D) (i j : Nat) (v : V) (hj : j < i) (hi : i < n) : ((outC n g i).set i v).getD j .any = .d (g j) := by
  rw [List.getD_eq_getElem?_getD, List.getElem?_set_ne (by omega), ← List.getD_eq_getElem?_getD, outC_get, if_pos (by omega), if_pos hj]
abbrev rS0 (t : Tp) (x : List Nat) (i : Nat) : Sl := [(1, .d (rowD x)), (2, .ptr 0 0 0 3), (5, .sl 4 0 0 t.ops.length 1 t.ops.length), (6, .sl 8 0 0 t.ops.length 1 t.ops.length), (7, fI i)]
abbrev rT0 (t : Tp) (x : List Nat) (i : Nat) : T := ⟨rS0 t x i, [(8, [outC t.ops.length (dG t x) i]), (4, [rowV (fillR (rG t x) t.ops.length i)]), (0, [jtT t])]⟩
theorem outC_set_self (n : Nat) (g : Nat → D) (i : Nat) (v : V) (hi : i < n) : ((outC n g i).set i v).getD i .any = v := by
  rw [List.getD_eq_getElem?_getD, List.getElem?_set_self (by rw [outC_len]; exact hi)]; rfl
theorem r4_next (t : Tp) (x : List Nat) (i : Nat) (junk : List (List V)) (d : List Nat) (hD : (drs t x t.ops.length).getD i [] = d) (hl : d.length = t.n) :
    Le (fun _ => False) (T.s 191 ⟨rS0 t x (i + 1), [(19, [rowV d]), (14, junk), (8, [(outC t.ops.length (dG t x) i).set i (.sl 19 0 0 t.n 1 t.n)]), (4, [rowV (fillR (rG t x) t.ops.length (i + 1))]), (0, [jtT t])]⟩) (T.s 191 (rT0 t x (i + 1))) := by
  have hz : ∀ L L' : Heap, L.get 19 0 = some (rowV d) → L'.get 19 0 = none → Fz L L' (.sl 19 0 0 t.n 1 t.n) (.d (dG t x i)) := fun L L' a b => by
    unfold dG; rw [hD]; exact Fz_row a hl rfl b
  exact LeT.weak (fun _ h => h) (by simp (maxDischargeDepth := 6) [Fz_rowD, Fz_rowI, Fz_rowsD, FzS_cons, FzS_nil, FzH_cons, FzH_nil, FzF_cons, FzF_nil, FzF_rows, FzA_cons, FzA_nil, FzA_app, FzA_rowV, FzA_dcells, FzA_outC, FzA_data, Fz_d, Fz_nil, Fz_any, Fz_ptr, Fz_sl, Fz_agg, get_cons, get_nil, fam_cons, fam_nil]) (by simp (maxDischargeDepth := 6) [Fz_rowD, Fz_rowI, Fz_rowsD, FzS_cons, FzS_nil, FzH_cons, FzH_nil, FzF_cons, FzF_nil, FzF_rows, FzA_cons, FzA_nil, FzA_app, FzA_rowV, FzA_dcells, FzA_outC, FzA_data, Fz_d, Fz_nil, Fz_any, Fz_ptr, Fz_sl, Fz_agg, get_cons, get_nil, fam_cons, fam_nil, hz, FzA_outC_set])
theorem slo_var (o : OpN) (q : Nat) (r : List Nat) (dr : List (List Nat)) (n : Nat) (hk : o.k = 1) (ha : 0 ≤ o.a ∧ o.a < n) : tabR (slo o q r dr) n = (List.replicate n 0).set o.a.toNat oneW := by
  refine List.ext_getElem (by simp [tabR_len]) fun k h1 h2 => ?_
  rw [tabR_len] at h1
  simp only [tabR, List.getElem_map, List.getElem_range, List.getElem_set, List.getElem_replicate, slo]
  by_cases e : o.a = (k : Int)
  · rw [if_pos ⟨hk, e⟩, if_pos (by omega)]
  · rw [if_neg (fun h => e h.2), if_pos (.inr hk), if_neg (by omega)]
theorem slo_const (o : OpN) (q : Nat) (r : List Nat) (dr : List (List Nat)) (n : Nat) (hk : o.k = 0) : tabR (slo o q r dr) n = List.replicate n 0 := by
  refine List.ext_getElem (by simp [tabR_len]) fun k h1 h2 => ?_
  simp [tabR, slo, hk]
abbrev r4H (t : Tp) (x : List Nat) (i : Nat) (o : OpN) (d : List Nat) : Heap := [(19, [rowV d]), (14, [opC o]), (8, [(outC t.ops.length (dG t x) i).set i (.sl 19 0 0 t.n 1 t.n)]), (4, [rowV (fillR (rG t x) t.ops.length (i + 1))]), (0, [jtT t])]
abbrev r4S (t : Tp) (x : List Nat) (i k : Nat) : Sl := [(1, .d (rowD x)), (2, .ptr 0 0 0 3), (5, .sl 4 0 0 t.ops.length 1 t.ops.length), (6, .sl 8 0 0 t.ops.length 1 t.ops.length), (7, fI i), (8, .ptr 14 0 0 4), (9, fI k)]
set_option maxRecDepth 8000 in
theorem r4_L1 (t : Tp) (x : List Nat) (i : Nat) (o : OpN) (f : Nat → Nat) (hn : t.n < 2 ^ 20) (hlen : t.ops.length < 2 ^ 40) (h : i < t.ops.length) (hk : o.k = 2 ∨ o.k = 3 ∨ o.k = 4 ∨ o.k = 5) (ha : 0 ≤ o.a ∧ o.a < (i : Int)) (hb : 0 ≤ o.b ∧ o.b < (i : Int))
    (hf : f = slo o (rG t x i) (regs t x i) (drs t x i)) (Q : Ex → T → Prop) (hQ : Q (.exit 3) ⟨r4S t x i t.n ++ [(129, fB false)], r4H t x i o (tabR f t.n)⟩) :
    WA Tryz.prog (fun _ => False) 191 A_r4_Jac_L1.loop Q ⟨r4S t x i 0, r4H t x i o (List.replicate t.n 0)⟩ := by
  rw [← fillR_zero f]
  have rl := fillR_len (rG t x) t.ops.length (i + 1)
  have rget : ∀ j, j < i + 1 → (rowV (fillR (rG t x) t.ops.length (i + 1))).getD j .any = fl (rG t x j) := fun j hj => by
    rw [getD_map_fl _ _ (by omega)]
    simp [fillR, List.getD_eq_getElem?_getD, hj, show j < t.ops.length by omega]
  have r1 := rget o.a.toNat (by omega)
  have r2 := rget o.b.toNat (by omega)
  have r3 := rget i (by omega)
  have s1 := outC_set_get t.ops.length (dG t x) i o.a.toNat (.sl 19 0 0 t.n 1 t.n) (by omega) h
  have s2 := outC_set_get t.ops.length (dG t x) i o.b.toNat (.sl 19 0 0 t.n 1 t.n) (by omega) h
  have s3 := outC_set_self t.ops.length (dG t x) i (.sl 19 0 0 t.n 1 t.n) h
  have sl : ((outC t.ops.length (dG t x) i).set i (V.sl 19 0 0 t.n 1 t.n)).length = t.ops.length := by rw [List.length_set, outC_len]
  have d1 := drs_rows t x t.ops.length o.a.toNat (by omega)
  have d2 := drs_rows t x t.ops.length o.b.toNat (by omega)
  refine WA_for (n := t.n) (fun c s => ∃ k, c + k = t.n ∧ s = ⟨r4S t x i k, r4H t x i o (fillR f t.n k)⟩) ⟨0, by omega, rfl⟩ ?_
  rintro c s ⟨k, hc, rfl⟩
  have hkl := fillR_len f t.n k
  simp -implicitDefEqProofs only [evI, hv, effC, reduceCtorEq, ↓reduceIte, n1_, n2_, n3_, n4_, n5_, i1_, i2_, i3_, i4_, i5_, i6_, i7_, A_r4_Jac_L1]
  refine condC_intro (fun hi => ?_) (fun hi => ?_)
  · replace hi := of_decide_eq_true hi
    have hfs := fillR_set f t.n k hi
    generalize fillR f t.n k = d at hkl hfs
    have hol := outC_len t.ops.length (dG t x) i
    simp -implicitDefEqProofs only [evI, hv, effC, reduceCtorEq, ↓reduceIte, n1_, n2_, n3_, n4_, n5_, i1_, i2_, i3_, i4_, i5_, i6_, i7_, r1, r2, r3, s1, s2, s3, dG]
    repeat (with_reducible refine And.intro (by omega) ?_)
    first | refine callG_con (r4change_con o.k (rG t x o.a.toNat) (rG t x o.b.toNat) (rG t x i) (((drs t x t.ops.length).getD o.a.toNat []).getD k 0) (((drs t x t.ops.length).getD o.b.toNat []).getD k 0) hk) rfl ?_ | refine callCG_con (r4change_con o.k (rG t x o.a.toNat) (rG t x o.b.toNat) (rG t x i) (((drs t x t.ops.length).getD o.a.toNat []).getD k 0) (((drs t x t.ops.length).getD o.b.toNat []).getD k 0) hk) rfl ?_ | refine callSG_con (r4change_con o.k (rG t x o.a.toNat) (rG t x o.b.toNat) (rG t x i) (((drs t x t.ops.length).getD o.a.toNat []).getD k 0) (((drs t x t.ops.length).getD o.b.toNat []).getD k 0) hk) rfl ?_
    have ef : (if o.k = 2 then fop .add (((drs t x t.ops.length).getD o.a.toNat []).getD k 0) (((drs t x t.ops.length).getD o.b.toNat []).getD k 0) else if o.k = 3 then fop .sub (((drs t x t.ops.length).getD o.a.toNat []).getD k 0) (((drs t x t.ops.length).getD o.b.toNat []).getD k 0) else if o.k = 4 then fop .add (fop .mul (((drs t x t.ops.length).getD o.a.toNat []).getD k 0) (rG t x o.b.toNat)) (fop .mul (rG t x o.a.toNat) (((drs t x t.ops.length).getD o.b.toNat []).getD k 0)) else fop .div (fop .sub (((drs t x t.ops.length).getD o.a.toNat []).getD k 0) (fop .mul (rG t x i) (((drs t x t.ops.length).getD o.b.toNat []).getD k 0))) (rG t x o.b.toNat)) = f k := by
      rw [hf]
      unfold slo rG
      rw [drs_pre t x i t.ops.length o.a.toNat (by omega) (by omega), drs_pre t x i t.ops.length o.b.toNat (by omega) (by omega), regs_pre t x i t.ops.length o.a.toNat (by omega) (by omega), regs_pre t x i t.ops.length o.b.toNat (by omega) (by omega)]
      rcases hk with hk | hk | hk | hk <;> simp [hk]
    rw [ef]
    simp -implicitDefEqProofs only [evI, hv, effC, reduceCtorEq, ↓reduceIte, n1_, n2_, n3_, n4_, n5_, i1_, i2_, i3_, i4_, i5_, i6_, i7_]
    (repeat (with_reducible refine And.intro (by omega) ?_))
    rw [wrapI (by omega) (by omega), hfs]
    exact ⟨c - 1, by omega, k + 1, by omega, rfl⟩
  · replace hi := of_decide_eq_false hi
    have e : k = t.n := by omega
    subst e
    rw [fillR_all]
    simp -implicitDefEqProofs only [evI, hv, effC, reduceCtorEq, ↓reduceIte, n1_, n2_, n3_, n4_, n5_, i1_, i2_, i3_, i4_, i5_, i6_, i7_, Nat.lt_irrefl]
    exact hQ
set_option maxRecDepth 8000 in
theorem r4_Jac_ac (t : Tp) (x : List Nat) (ht : Tok t) (hx : x.length = t.n) : AC Tryz.prog 84 [tapeV t, .d (rowD x)] [] [(21, (jacT t x).map rowV), (20, [hdo 21 0 t.n t.n])] (.sl 20 0 0 t.n 1 t.n) := by
  have hn := ht.n
  have hlen := ht.len
  refine AC_introA A_r4_Jac_comp rfl mixed (fun _ => False) (by simp [get_nil]) ?_
  simp -implicitDefEqProofs only [evI, hv, effC, reduceCtorEq, ↓reduceIte, n1_, n2_, n3_, n4_, n5_, i1_, i2_, i3_, i4_, i5_, i6_, i7_, A_r4_Jac, opsD]
  have hm0 : (t.ops.length : Int) * 8 ≤ 281474976710656 := by omega
  refine ⟨hm0, by omega, ?_⟩
  rw [outC_zero t.ops.length (dG t x), ← fillR_zero (rG t x)]
  refine WA_forW (n := t.ops.length) (fun c s => ∃ i, c + i = t.ops.length ∧ s = rT0 t x i) (Le.refl _) ⟨0, by omega, rfl⟩ ?_
  rintro c s ⟨i, hc, rfl⟩
  have hrl := fillR_len (rG t x) t.ops.length i
  have hol := outC_len t.ops.length (dG t x) i
  simp -implicitDefEqProofs only [evI, hv, effC, reduceCtorEq, ↓reduceIte, n1_, n2_, n3_, n4_, n5_, i1_, i2_, i3_, i4_, i5_, i6_, i7_, A_r4_Jac_L0, opsD]
  refine condC_intro (fun h => ?_) (fun h => ?_)
  · replace h := of_decide_eq_true h
    have hop := ht.op i h
    have hra := regs_last t x i
    have hda := drs_last t x i
    rw [← regs_pre t x (i + 1) t.ops.length i (by omega) (by omega)] at hra
    rw [← drs_pre t x (i + 1) t.ops.length i (by omega) (by omega)] at hda
    generalize ho : t.ops.getD i ⟨0, 0, 0, 0⟩ = o at hop hra hda
    have hs := fillR_set (rG t x) t.ops.length i h
    have rget : ∀ j, j < i → (rowV (fillR (rG t x) t.ops.length i)).getD j .any = fl (rG t x j) := fun j hj => by
      rw [getD_map_fl _ _ (by omega)]
      simp [fillR, List.getD_eq_getElem?_getD, hj, show j < t.ops.length by omega]
    generalize fillR (rG t x) t.ops.length i = R at hrl hs rget
    simp -implicitDefEqProofs only [evI, hv, effC, reduceCtorEq, ↓reduceIte, n1_, n2_, n3_, n4_, n5_, i1_, i2_, i3_, i4_, i5_, i6_, i7_, opG, ho, opsD]
    (repeat (with_reducible refine And.intro (by omega) ?_))
    (repeat (with_reducible refine And.intro (by omega) ?_))
    (repeat (with_reducible refine And.intro (by omega) ?_))
    rcases hop with hk | ⟨hk, ha⟩ | ⟨hk, ha, hb⟩
    · simp -implicitDefEqProofs only [evI, hv, effC, reduceCtorEq, ↓reduceIte, n1_, n2_, n3_, n4_, n5_, i1_, i2_, i3_, i4_, i5_, i6_, i7_, hk]
      refine ⟨by omega, ⟨hrl, by omega⟩, ?_⟩
      have e : o.c = rG t x i := by rw [rG, hra]; simp [opV, hk]
      rw [wrapI (by omega) (by omega), e, hs]
      rw [slo_const _ _ _ _ _ hk] at hda
      exact ⟨c - 1, _, by omega, r4_next t x i _ _ hda (by simp), i + 1, by omega, rfl⟩
    · simp -implicitDefEqProofs only [evI, hv, effC, reduceCtorEq, ↓reduceIte, n1_, n2_, n3_, n4_, n5_, i1_, i2_, i3_, i4_, i5_, i6_, i7_, hk, Int.reduceBEq, outC_set_self t.ops.length (dG t x) i (V.sl 19 0 0 t.n 1 t.n) h]
      repeat (with_reducible refine And.intro (by omega) ?_)
      have e : x.getD o.a.toNat 0 = rG t x i := by rw [rG, hra]; simp [opV, hk]
      rw [wrapI (by omega) (by omega), e, hs]
      rw [slo_var _ _ _ _ _ hk ha] at hda
      exact ⟨c - 1, _, by omega, r4_next t x i _ _ hda (by simp), i + 1, by omega, rfl⟩
    · have r1 := rget o.a.toNat (by omega)
      have r2 := rget o.b.toNat (by omega)
      have p1 := regs_pre t x i t.ops.length o.a.toNat (by omega) (by omega)
      have p2 := regs_pre t x i t.ops.length o.b.toNat (by omega) (by omega)
      have hvv : opV o x (regs t x i) = rG t x i := by rw [rG, hra]
      rw [hvv] at hda
      have hk4 := hk
      rcases hk with hk | hk | hk | hk
      · simp -implicitDefEqProofs only [evI, hv, effC, reduceCtorEq, ↓reduceIte, n1_, n2_, n3_, n4_, n5_, i1_, i2_, i3_, i4_, i5_, i6_, i7_, hk, Int.reduceBEq, r1, r2]
        repeat (with_reducible refine And.intro (by omega) ?_)
        have e : fop .add (rG t x o.a.toNat) (rG t x o.b.toNat) = rG t x i := by
          rw [← hvv]; unfold rG; rw [p1, p2]; simp [opV, hk]
        rw [e, hs]
        rw [← hk]
        refine r4_L1 t x i o _ ht.n hlen h hk4 ha hb rfl _ ?_
        simp -implicitDefEqProofs only [evI, hv, effC, reduceCtorEq, ↓reduceIte, n1_, n2_, n3_, n4_, n5_, i1_, i2_, i3_, i4_, i5_, i6_, i7_]
        rw [wrapI (by omega) (by omega)]
        exact ⟨c - 1, _, by omega, r4_next t x i _ _ hda (tabR_len _ _), i + 1, by omega, rfl⟩
      · simp -implicitDefEqProofs only [evI, hv, effC, reduceCtorEq, ↓reduceIte, n1_, n2_, n3_, n4_, n5_, i1_, i2_, i3_, i4_, i5_, i6_, i7_, hk, Int.reduceBEq, r1, r2]
        repeat (with_reducible refine And.intro (by omega) ?_)
        have e : fop .sub (rG t x o.a.toNat) (rG t x o.b.toNat) = rG t x i := by
          rw [← hvv]; unfold rG; rw [p1, p2]; simp [opV, hk]
        rw [e, hs]
        rw [← hk]
        refine r4_L1 t x i o _ ht.n hlen h hk4 ha hb rfl _ ?_
        simp -implicitDefEqProofs only [evI, hv, effC, reduceCtorEq, ↓reduceIte, n1_, n2_, n3_, n4_, n5_, i1_, i2_, i3_, i4_, i5_, i6_, i7_]
        rw [wrapI (by omega) (by omega)]
        exact ⟨c - 1, _, by omega, r4_next t x i _ _ hda (tabR_len _ _), i + 1, by omega, rfl⟩
      · simp -implicitDefEqProofs only [evI, hv, effC, reduceCtorEq, ↓reduceIte, n1_, n2_, n3_, n4_, n5_, i1_, i2_, i3_, i4_, i5_, i6_, i7_, hk, Int.reduceBEq, r1, r2]
        repeat (with_reducible refine And.intro (by omega) ?_)
        have e : fop .mul (rG t x o.a.toNat) (rG t x o.b.toNat) = rG t x i := by
          rw [← hvv]; unfold rG; rw [p1, p2]; simp [opV, hk]
        rw [e, hs]
        rw [← hk]
        refine r4_L1 t x i o _ ht.n hlen h hk4 ha hb rfl _ ?_
        simp -implicitDefEqProofs only [evI, hv, effC, reduceCtorEq, ↓reduceIte, n1_, n2_, n3_, n4_, n5_, i1_, i2_, i3_, i4_, i5_, i6_, i7_]
        rw [wrapI (by omega) (by omega)]
        exact ⟨c - 1, _, by omega, r4_next t x i _ _ hda (tabR_len _ _), i + 1, by omega, rfl⟩
      · simp -implicitDefEqProofs only [evI, hv, effC, reduceCtorEq, ↓reduceIte, n1_, n2_, n3_, n4_, n5_, i1_, i2_, i3_, i4_, i5_, i6_, i7_, hk, Int.reduceBEq, r1, r2]
        repeat (with_reducible refine And.intro (by omega) ?_)
        have e : fop .div (rG t x o.a.toNat) (rG t x o.b.toNat) = rG t x i := by
          rw [← hvv]; unfold rG; rw [p1, p2]; simp [opV, hk]
        rw [e, hs]
        rw [← hk]
        refine r4_L1 t x i o _ ht.n hlen h hk4 ha hb rfl _ ?_
        simp -implicitDefEqProofs only [evI, hv, effC, reduceCtorEq, ↓reduceIte, n1_, n2_, n3_, n4_, n5_, i1_, i2_, i3_, i4_, i5_, i6_, i7_]
        rw [wrapI (by omega) (by omega)]
        exact ⟨c - 1, _, by omega, r4_next t x i _ _ hda (tabR_len _ _), i + 1, by omega, rfl⟩
  · replace h := of_decide_eq_false h
    have e : i = t.ops.length := by omega
    subst e
    simp -implicitDefEqProofs only [evI, hv, effC, reduceCtorEq, ↓reduceIte, n1_, n2_, n3_, n4_, n5_, i1_, i2_, i3_, i4_, i5_, i6_, i7_]
    have hjl := jacT_len t x
    have hgl := ht.outl
    refine WA_forW (n := t.n) (fun c s => ∃ i, c + i = t.n ∧ s = ⟨[(2, .ptr 0 0 0 3), (6, .sl 8 0 0 t.ops.length 1 t.ops.length), (10, .sl 20 0 0 i 1 i), (11, fI i)],
      [(21, ((jacT t x).take i).map rowV), (20, [hdo 21 0 i t.n]), (8, [outC t.ops.length (dG t x) t.ops.length]), (4, [rowV (fillR (rG t x) t.ops.length t.ops.length)]), (0, [jtT t])]⟩)
      (s0 := ⟨_, _⟩) (Le.trans (LeT.nilrow (X := 20) (esz := 1) (as' := [(2, .ptr 0 0 0 3), (6, .sl 8 0 0 t.ops.length 1 t.ops.length), (10, .sl 20 0 0 0 1 0), (11, fI 0)]) (by simp [fam_cons, fam_nil]) (fun h => h) fun i => ?_) (LeT.empty (X := 21) (L1 := []) (by simp [fam_cons, fam_nil]))) ⟨0, by omega, rfl⟩ ?_
    · simp only [look]
      repeat' split
      all_goals simp
    rintro c s ⟨i, hc, rfl⟩
    simp -implicitDefEqProofs only [evI, hv, effC, reduceCtorEq, ↓reduceIte, n1_, n2_, n3_, n4_, n5_, i1_, i2_, i3_, i4_, i5_, i6_, i7_, A_r4_Jac_L2]
    refine condC_intro (fun hi => ?_) (fun hi => ?_)
    · replace hi := of_decide_eq_true hi
      have hgo := ht.out i hi
      have hcell : (outC t.ops.length (dG t x) t.ops.length).getD (t.out.getD i 0).toNat .any = .d (dG t x (t.out.getD i 0).toNat) := by
        rw [outC_get, if_pos (by omega), if_pos (by omega)]
      have hjr : (jacT t x).getD i [] = (drs t x t.ops.length).getD (t.out.getD i 0).toNat [] := by
        unfold jacT
        rw [List.getD_eq_getElem?_getD, List.getElem?_map, List.getElem?_range hi]; rfl
      have hrl : ((jacT t x).getD i []).length = t.n := by rw [hjr]; exact drs_rows t x _ _ (by omega)
      have hdg : dG t x (t.out.getD i 0).toNat = rowD ((jacT t x).getD i []) := by rw [hjr]; rfl
      rw [hdg] at hcell
      simp -implicitDefEqProofs only [evI, hv, effC, reduceCtorEq, ↓reduceIte, n1_, n2_, n3_, n4_, n5_, i1_, i2_, i3_, i4_, i5_, i6_, i7_, hcell]
      (repeat (with_reducible refine And.intro (by omega) ?_))
      have hti : ((jacT t x).take i).length = i := by simp [hjl]; omega
      have hk1 : ∀ L : Heap, L.fam 21 = some (((jacT t x).take i).map rowV) → KpA L (hdo 21 0 i t.n) := fun L hL => KpA_hdoF hL (by omega)
      have htf := take_fam (jacT t x) i (by omega)
      rw [hrl, wrapI (by omega) (by omega)]
      refine ⟨c - 1, _, by omega, ?_, i + 1, by omega, rfl⟩
      rw [← htf]
      generalize (jacT t x).take i = B at hti hk1
      refine Le.trans (LeT.only (L' := [(23, [rowV ((jacT t x).getD i [])]), (21, B.map rowV), (20, [hdo 21 0 i t.n ++ [.sl 23 0 0 t.n 1 t.n]]), (8, [outC t.ops.length (dG t x) t.ops.length]), (4, [rowV (fillR (rG t x) t.ops.length t.ops.length)]), (0, [jtT t])])
        (fun X => X != 33) (fun _ h => h) rfl (by simp (maxDischargeDepth := 6) [KpS_cons, KpS_nil, KpH_cons, KpH_nil, KpF_cons, KpF_nil, KpF_rows, KpA_cons, KpA_nil, KpA_app, KpA_rowV, KpA_rowIV, KpA_dcells, KpA_outC, Kp_any, Kp_nilv, Kp_d, Kp_ptr, Kp_sl, Kp_agg, Kp_tup, Kp_fn, get_cons, get_nil, fam_cons, fam_nil]) (by simp (maxDischargeDepth := 6) [KpS_cons, KpS_nil, KpH_cons, KpH_nil, KpF_cons, KpF_nil, KpF_rows, KpA_cons, KpA_nil, KpA_app, KpA_rowV, KpA_rowIV, KpA_dcells, KpA_outC, Kp_any, Kp_nilv, Kp_d, Kp_ptr, Kp_sl, Kp_agg, Kp_tup, Kp_fn, get_cons, get_nil, fam_cons, fam_nil, hk1])) ?_
      have := LeT.absorb (N := fun _ => False) (nt := 191) (Y := 23) (X := 21) (cells := rowV ((jacT t x).getD i [])) (fam := B.map rowV) (L := [(20, [hdo 21 0 i t.n ++ [.sl 23 0 0 t.n 1 t.n]]), (8, [outC t.ops.length (dG t x) t.ops.length]), (4, [rowV (fillR (rG t x) t.ops.length t.ops.length)]), (0, [jtT t])])
        (sls := [(2, .ptr 0 0 0 3), (6, .sl 8 0 0 t.ops.length 1 t.ops.length), (10, .sl 20 0 0 (i + 1) 1 (i + 1)), (11, fI (i + 1 : Nat))]) (by decide) (by simp [fam_cons, fam_nil]) (by simp [fam_cons, fam_nil]) (fun h => h)
      have e2 : (B.map rowV).length = i := by rw [List.length_map]; exact hti
      have e3 : Heap.renH (absF 23 21 i) [(20, [hdo 21 0 i t.n ++ [.sl 23 0 0 t.n 1 t.n]]), (8, [outC t.ops.length (dG t x) t.ops.length]), (4, [rowV (fillR (rG t x) t.ops.length t.ops.length)]), (0, [jtT t])] =
          [(20, [hdo 21 0 (i + 1) t.n]), (8, [outC t.ops.length (dG t x) t.ops.length]), (4, [rowV (fillR (rG t x) t.ops.length t.ops.length)]), (0, [jtT t])] := by
        simp only [Heap.renH, List.map_cons, List.map_nil, hdo_absorbL 23 21 _ _ (by decide), ren_rowV, outC_all, ren_dcells]
        simp [V.ren]
      rw [e2, ren_fam, ren_rowV, e3] at this
      exact this
    · replace hi := of_decide_eq_false hi
      have e : i = t.n := by omega
      subst e
      simp -implicitDefEqProofs only [evI, hv, effC, reduceCtorEq, ↓reduceIte, n1_, n2_, n3_, n4_, n5_, i1_, i2_, i3_, i4_, i5_, i6_, i7_]
      have e : (jacT t x).take t.n = jacT t x := List.take_of_length_le (by omega)
      have hk1 : ∀ L : Heap, L.fam 21 = some ((jacT t x).map rowV) → KpA L (hdo 21 0 t.n t.n) := fun L hL => KpA_hdoF hL (by omega)
      rw [e]
      exact endsT_only (fun X => X == 21 || X == 20) (fun _ h => h) (resV_tmpI (t := 4) (by decide) rfl) rfl (by simp (maxDischargeDepth := 6) [KpS_cons, KpS_nil, KpH_cons, KpH_nil, KpF_cons, KpF_nil, KpF_rows, KpA_cons, KpA_nil, KpA_app, KpA_rowV, KpA_rowIV, KpA_dcells, KpA_outC, Kp_any, Kp_nilv, Kp_d, Kp_ptr, Kp_sl, Kp_agg, Kp_tup, Kp_fn, get_cons, get_nil, fam_cons, fam_nil]) (by simp (maxDischargeDepth := 6) [KpS_cons, KpS_nil, KpH_cons, KpH_nil, KpF_cons, KpF_nil, KpF_rows, KpA_cons, KpA_nil, KpA_app, KpA_rowV, KpA_rowIV, KpA_dcells, KpA_outC, Kp_any, Kp_nilv, Kp_d, Kp_ptr, Kp_sl, Kp_agg, Kp_tup, Kp_fn, get_cons, get_nil, fam_cons, fam_nil, hk1])
end Go.Ab

namespace Go.Ab
set_option linter.unusedSimpArgs false
set_option linter.unusedVariables false
open Nat renaming reduceEqDiff → n1_, reduceAdd → n2_, reduceMul → n3_, reduceLT → n4_, reduceLeDiff → n5_
open Int renaming reduceToNat → i1_, reduceAdd → i2_, reduceSub → i3_, reduceMul → i4_, reduceNeg → i5_, reduceLT → i6_, reduceLE → i7_
open Go Go.Proofs
theorem hdo_absorb (Y X i len : Nat) (h : Y ≠ X) : (hdo X 0 i len ++ [V.sl Y 0 0 len 1 len]).map (V.ren (absF Y X i)) = hdo X 0 (i + 1) len := by
  have e : hdo X 0 (i + 1) len = hdo X 0 i len ++ [.sl X i 0 len 1 len] := by
    simp [hdo, List.range_succ]
  rw [e, List.map_append]
  congr 1
  · refine hdo_ren _ X 0 i len X 0 fun j hj => ?_
    have : ¬ (X = Y ∧ j + 0 = 0) := fun e => h e.1.symm
    simp only [absF, if_neg this]
  · simp [V.ren, absF]
set_option maxRecDepth 8000 in
theorem r6_copied_ac (A : List (List Nat)) (n : Nat) (hA : Sq n A) (hn : n < 2 ^ 40) :
    AC Tryz.prog 109 [.d (rowsD A)] [] [(200, A.map rowV), (100, [hdo 200 0 n n])] (.sl 100 0 0 n 1 n) := by
  obtain ⟨hl, hr⟩ := hA
  refine AC_introA A_r6_copied_comp rfl mixed (fun _ => False) (by simp [get_nil]) ?_
  simp -implicitDefEqProofs only [evI, hv, effC, reduceCtorEq, ↓reduceIte, n1_, n2_, n3_, n4_, n5_, i1_, i2_, i3_, i4_, i5_, i6_, i7_, A_r6_copied]
  refine WA_forW (n := n) (fun c s => ∃ i, c + i = n ∧ s = ⟨[(0, .d (rowsD A)), (3, .sl 100 0 0 i 1 i), (4, fI i)], [(200, (A.take i).map rowV), (100, [hdo 200 0 i n])]⟩)
    (s0 := ⟨_, _⟩) (Le.trans (LeT.nilrow (X := 100) (esz := 1) (as' := [(0, .d (rowsD A)), (3, .sl 100 0 0 0 1 0), (4, fI 0)]) rfl (fun h => h) fun i => ?_) (LeT.empty (X := 200) (L1 := []) (by simp [fam_cons, fam_nil]))) ⟨0, rfl, rfl⟩ ?_
  · simp only [look]
    repeat' split
    all_goals simp [rowsD]
  rintro c s ⟨i, hc, rfl⟩
  simp -implicitDefEqProofs only [evI, hv, effC, reduceCtorEq, ↓reduceIte, n1_, n2_, n3_, n4_, n5_, i1_, i2_, i3_, i4_, i5_, i6_, i7_, A_r6_copied_L0]
  refine condC_intro (fun h => ?_) (fun h => ?_)
  · replace h := of_decide_eq_true h
    have hin : i < n := by omega
    have g1 := hr i hin
    simp -implicitDefEqProofs only [evI, hv, effC, reduceCtorEq, ↓reduceIte, n1_, n2_, n3_, n4_, n5_, i1_, i2_, i3_, i4_, i5_, i6_, i7_, Nat.zero_mul, Nat.zero_le]
    (repeat (with_reducible refine And.intro (by omega) ?_))
    rw [wrapI (by omega) (by omega), g1]
    have hd1 : ∀ X r c, Heap.get [(202, [rowV (A.getD i [])]), (200, (A.take i).map rowV), (100, [hdo 200 0 i n ++ [V.sl 202 0 0 n 1 n]])] X r = some c → ∀ v ∈ c,
        LeV [(208, [[V.sl 202 0 0 n 1 n]]), (202, [rowV (A.getD i [])]), (200, (A.take i).map rowV), (100, [hdo 200 0 i n ++ [V.sl 202 0 0 n 1 n]])]
          [(202, [rowV (A.getD i [])]), (200, (A.take i).map rowV), (100, [hdo 200 0 i n ++ [V.sl 202 0 0 n 1 n]])] (fun X q => (X, q)) v v := by
      intro X r c hX v hv'
      rw [get_cons, get_cons, get_cons, get_nil] at hX
      split at hX
      · rcases r with _ | r <;> simp at hX; subst hX; exact mem_rowV hv' _ _ _
      · split at hX
        · rw [List.getElem?_map] at hX
          obtain ⟨xs, h1, rfl⟩ := Option.map_eq_some_iff.1 hX
          exact mem_rowV hv' _ _ _
        · split at hX
          · rcases r with _ | r <;> simp only [List.getElem?_cons_zero, List.getElem?_cons_succ, List.getElem?_nil, Option.some.injEq, reduceCtorEq] at hX
            subst hX
            rcases List.mem_append.1 hv' with hv' | hv'
            · obtain ⟨j, hj, rfl⟩ := List.mem_map.1 hv'
              refine .sl ?_ rfl
              have : j < i := by simpa using hj
              simp [get_cons]; omega
            · obtain rfl : v = V.sl 202 0 0 n 1 n := by simpa using hv'
              exact .sl (by simp [get_cons]) rfl
          · cases hX
    refine ⟨c - 1, ⟨[(0, .d (rowsD A)), (3, .sl 100 0 0 (i + 1) 1 (i + 1)), (4, fI (i + 1 : Nat))], [(200, (A.take (i + 1)).map rowV), (100, [hdo 200 0 (i + 1) n])]⟩, by omega, Le.trans (LeT.drop (fun _ h => h) (L' := [(202, [rowV (A.getD i [])]), (200, (A.take i).map rowV), (100, [hdo 200 0 i n ++ [V.sl 202 0 0 n 1 n]])]) (fun p hp => ?_) (fun X r c hX => ⟨?_, hd1 X r c hX⟩)) ?_, i + 1, by omega, rfl⟩
    · simp only [List.mem_cons, List.not_mem_nil, or_false] at hp
      rcases hp with rfl | rfl | rfl
      all_goals first | exact .d (.d _) | exact .sl (by simp [get_cons]) rfl
    · rw [get_cons, get_cons, get_cons, get_nil] at hX
      rw [get_cons, get_cons, get_cons, get_cons, get_nil]
      split at hX
      · rename_i e; subst e; simpa using hX
      · rename_i e1
        split at hX
        · rename_i e; subst e; simpa using hX
        · rename_i e2
          split at hX
          · rename_i e; subst e; simpa using hX
          · cases hX
    · have := LeT.absorb (N := fun _ => False) (nt := 21) (Y := 202) (X := 200) (cells := rowV (A.getD i [])) (fam := (A.take i).map rowV) (L := [(100, [hdo 200 0 i n ++ [V.sl 202 0 0 n 1 n]])]) (sls := [(0, .d (rowsD A)), (3, .sl 100 0 0 (i + 1) 1 (i + 1)), (4, fI (i + 1 : Nat))]) (by decide) (by simp [fam_cons, fam_nil]) (by simp [fam_cons, fam_nil]) (fun h => h)
      have e2 : ((A.take i).map rowV).length = i := by simp; omega
      rw [e2, ren_fam, ren_rowV, take_fam A i h] at this
      simp only [renS, Heap.renH, ren_absF_sl _ _ _ _ _ _ _ _ _ (by decide : (100 : Nat) ≠ 202), ren_d, List.map_cons, List.map_nil, hdo_absorb 202 200 _ _ (by decide)] at this
      exact this
  · replace h := of_decide_eq_false h
    simp -implicitDefEqProofs only [evI, hv, effC, reduceCtorEq, ↓reduceIte, n1_, n2_, n3_, n4_, n5_, i1_, i2_, i3_, i4_, i5_, i6_, i7_]
    obtain rfl : n = i := by omega
    have e : A.take n = A := List.take_of_length_le (by omega)
    rw [e]
    refine endsT_keep (fun _ h => h) (resV_tmpI (t := 2) (by decide) rfl) rfl (.sl (by simp [get_cons]) rfl) (keep_cells fun X q cells hX v hv' => ?_)
    rw [get_cons, get_cons, get_nil] at hX
    split at hX
    · rw [List.getElem?_map] at hX
      obtain ⟨xs, h1, rfl⟩ := Option.map_eq_some_iff.1 hX
      exact mem_rowV hv' _ _ _
    · split at hX
      · rcases q with _ | q <;> simp at hX; subst hX
        exact mem_hdo hv' fun r hr' => by simp [get_cons]; omega
      · cases hX
end Go.Ab
