/- Part 12: BE, BF, BH, JB, BI. -/
import Derived.Test.YtloimimehbehoaaGreatGK
namespace Go.Ab
set_option linter.unusedSimpArgs false
set_option linter.unusedVariables false
open Nat renaming reduceEqDiff → n1_, reduceAdd → n2_, reduceMul → n3_, reduceLT → n4_, reduceLeDiff → n5_
open Int renaming reduceToNat → i1_, reduceAdd → i2_, reduceSub → i3_, reduceMul → i4_, reduceNeg → i5_, reduceLT → i6_, reduceLE → i7_
open Go Go.Proofs
def A_model_point : CA := (.seq (.reg [i_X 0 2 (.alloc [(.d (.flt 0)), (.d (.flt 0))] 58)] [0, 2]) (.seq (.reg [i_M 0 3 0, i_M 1 4 0, i_X 2 5 (.h (.build [(.d (.flt 0)), (.d (.flt 0))] [(0, (1, (.t 3))), (1, (1, (.t 4)))])), i_S 3 2 5 2] [2]) .ret))
theorem A_model_point_comp : compF Tryz.prog 124 = some ⟨6, [(2, (some (2, true)))], A_model_point.strip⟩ := by kernel_rfl
def A_model_power : CA := (.seq (.reg [i_X 0 2 (.alloc [(.d (.flt 0)), (.d (.flt 0))] 58)] [0, 2]) (.seq (.seq (.reg [i_M 0 3 0, i_B 1 4 .rem 3 2, i_B 2 5 .eql 4 0] [2, 5]) (.cond (.t 5) (.seq (.reg [i_X 0 6 (.h (.build [(.d (.flt 0)), (.d (.flt 0))] [(0, (1, (.k (.d (.flt 0))))), (1, (1, (.k (.d (.flt 4607182418800017408)))))])), i_S 1 2 6 2] [2]) .ret) .skip)) (.seq (.reg [i_X 0 7 (.h (.build [(.d (.flt 0)), (.d (.flt 0))] [(0, (1, (.k (.d (.flt 13830554455654793216))))), (1, (1, (.k (.d (.flt 0)))))])), i_S 1 2 7 2] [2]) .ret)))
theorem A_model_power_comp : compF Tryz.prog 156 = some ⟨8, [(2, (some (2, true)))], A_model_power.strip⟩ := by kernel_rfl
def A_model_powers_L0 : CA := (.seq (.reg [i_B 0 4 .lss 3 9] [0, 1, 3, 4]) (.seq (.cond (.t 4) .skip (.exit 0)) (.seq (.block 1 (.seq (.reg [i_M 0 5 3, i_M 1 2 5] [0, 1, 2, 3]) (.reg [i_M 0 6 2, i_M 1 7 2, i_X 2 8 (.callA (kF 156) [(.t 7)]), i_X 3 9 (.h (.idxa (.t 1) (.t 6) 9 2)), i_S 4 9 8 2] [0, 1, 3]))) (.reg [i_B 0 10 .add 3 1, i_M 1 3 10] [0, 1, 3]))))
def A_model_powers : CA := (.seq (.reg [i_X 0 0 (.alloc z_18 160)] [0]) (.seq (.reg [i_X 0 1 (.alloc z_18 160)] [0, 1]) (.seq (.seq (.reg [i_K 0 3 0] [0, 1, 3]) (.block 0 (.loop A_model_powers_L0))) (.seq (.reg [i_A 0 11 1 18, i_S 1 0 11 18] [0]) .ret))))
theorem A_model_powers_comp : compF Tryz.prog 159 = some ⟨12, [(0, (some (18, true)))], A_model_powers.strip⟩ := by kernel_rfl
def A_model_Of_L0 : CA := (.seq (.reg [i_B 0 8 .lss 7 9] [0, 2, 3, 7, 8]) (.seq (.cond (.t 8) .skip (.exit 0)) (.seq (.block 1 (.seq (.reg [i_M 0 9 7, i_M 1 4 9] [0, 2, 3, 4, 7]) (.seq (.reg [i_M 0 10 4, i_X 1 11 (.callA (kF 124) [(.k (.d (.flt 0)))]), i_P 2 12 3 0, i_X 3 13 (.h (.idxa (.t 12) (.t 10) 9 2)), i_S 4 13 11 2] [0, 2, 3, 4, 7]) (.seq (.reg [i_M 0 14 4, i_M 1 15 0, i_X 2 16 (.h (.len (.t 15))), i_N 3 17 .lss 14 16] [0, 2, 3, 4, 7, 17]) (.cond (.t 17) (.reg [i_M 0 18 4, i_M 1 19 0, i_M 2 20 4, i_I 3 21 19 20 1, i_L 4 22 21 1, i_X 5 23 (.callA (kF 124) [(.t 22)]), i_P 6 24 3 0, i_X 7 25 (.h (.idxa (.t 24) (.t 18) 9 2)), i_S 8 25 23 2] [0, 2, 3, 7]) .skip))))) (.reg [i_B 0 26 .add 7 1, i_M 1 7 26] [0, 2, 3, 7]))))
def A_model_Of : CA := (.seq (.reg [i_X 0 2 (.alloc z_20 87)] [0, 2]) (.seq (.reg [i_X 0 5 (.callA (kF 124) [(.k (.d (.flt 0)))]), i_X 1 6 (.h (.build z_20 [(18, (2, (.t 5)))])), i_X 2 3 (.alloc z_20 87), i_S 3 3 6 20] [0, 2, 3]) (.seq (.seq (.reg [i_K 0 7 0] [0, 2, 3, 7]) (.block 0 (.loop A_model_Of_L0))) (.seq (.reg [i_A 0 27 3 20, i_S 1 2 27 20] [2]) .ret))))
theorem A_model_Of_comp : compF Tryz.prog 76 = some ⟨28, [(2, (some (20, true)))], A_model_Of.strip⟩ := by kernel_rfl
def A_model_poly_L0 : CA := (.seq (.seq (.reg [i_M 0 9 5, i_B 1 10 .leq 9 8] [1, 2, 3, 4, 5, 10]) (.cond (.t 10) .skip (.exit 0))) (.seq (.block 1 (.reg [i_A 0 13 4 2, i_M 1 14 5, i_X 2 15 (.h (.idxa (.t 1) (.t 14) 9 2)), i_A 3 16 15 2, i_M 4 17 5, i_X 5 18 (.h (.idxa (.t 3) (.t 17) 9 2)), i_A 6 19 18 2, i_X 7 20 (.callS 7 (kF 125) [(.t 16), (.t 19)]), i_X 8 21 (.callA (kF 92) [(.t 13), (.t 20)]), i_S 9 4 21 2] [1, 2, 3, 4, 5])) (.reg [i_M 0 11 5, i_B 1 12 .add 11 1, i_M 2 5 12] [1, 2, 3, 4, 5])))
def A_model_poly : CA := (.seq (.reg [i_X 0 1 (.box (.t 0) 18 160), i_X 1 2 (.alloc [(.d (.flt 0)), (.d (.flt 0))] 58)] [1, 2]) (.seq (.reg [i_X 0 6 (.callA (kF 159) []), i_X 1 3 (.alloc z_18 160), i_S 2 3 6 18] [1, 2, 3]) (.seq (.reg [i_X 0 7 (.h (.idxa (.t 1) (kI 0) 9 2)), i_A 1 8 7 2, i_X 2 4 (.alloc [(.d (.flt 0)), (.d (.flt 0))] 58), i_S 3 4 8 2] [1, 2, 3, 4]) (.seq (.seq (.reg [i_K 0 5 1] [1, 2, 3, 4, 5]) (.block 0 (.loop A_model_poly_L0))) (.seq (.reg [i_A 0 22 4 2, i_S 1 2 22 2] [2]) .ret)))))
theorem A_model_poly_comp : compF Tryz.prog 133 = some ⟨23, [(2, (some (2, true)))], A_model_poly.strip⟩ := by kernel_rfl
def A_model_Range : CA := (.seq (.reg [i_X 0 1 (.box (.t 0) 20 87), i_X 1 2 (.alloc [(.d (.flt 0)), (.d (.flt 0))] 58)] [1, 2]) (.seq (.reg [i_P 0 3 1 0, i_A 1 4 3 18, i_X 2 5 (.callS 0 (kF 133) [(.t 4)]), i_P 3 6 1 18, i_A 4 7 6 2, i_X 5 8 (.callA (kF 92) [(.t 5), (.t 7)]), i_S 6 2 8 2] [2]) .ret))
theorem A_model_Range_comp : compF Tryz.prog 87 = some ⟨9, [(2, (some (2, true)))], A_model_Range.strip⟩ := by kernel_rfl
def A_model_each_L0 : CA := (.seq (.reg [i_B 0 10 .lss 9 9] [2, 3, 4, 6, 7, 9, 10]) (.seq (.cond (.t 10) .skip (.exit 0)) (.seq (.block 1 (.seq (.reg [i_M 0 11 9, i_M 1 8 11] [2, 3, 4, 6, 7, 8, 9]) (.reg [i_M 0 12 8, i_M 1 13 2, i_M 2 14 8, i_P 3 15 3 0, i_X 4 16 (.h (.idxa (.t 15) (.t 14) 9 2)), i_A 5 17 16 2, i_M 6 18 8, i_P 7 19 4 0, i_X 8 20 (.h (.idxa (.t 19) (.t 18) 9 2)), i_A 9 21 20 2, i_X 10 22 (.callA (.t 13) [(.t 17), (.t 21)]), i_P 11 23 7 0, i_X 12 24 (.h (.idxa (.t 23) (.t 12) 9 2)), i_S 13 24 22 2] [2, 3, 4, 6, 7, 9]))) (.reg [i_B 0 25 .add 9 1, i_M 1 9 25] [2, 3, 4, 6, 7, 9]))))
def A_model_each : CA := (.seq (.reg [i_X 0 3 (.box (.t 0) 20 87), i_X 1 4 (.box (.t 1) 20 87), i_X 2 6 (.alloc z_20 87)] [2, 3, 4, 6]) (.seq (.reg [i_X 0 7 (.alloc z_20 87)] [2, 3, 4, 6, 7]) (.seq (.seq (.reg [i_K 0 9 0] [2, 3, 4, 6, 7, 9]) (.block 0 (.loop A_model_each_L0))) (.seq (.reg [i_M 0 26 2, i_P 1 27 3 18, i_A 2 28 27 2, i_P 3 29 4 18, i_A 4 30 29 2, i_X 5 31 (.callA (.t 26) [(.t 28), (.t 30)]), i_P 6 32 7 18, i_S 7 32 31 2] [6, 7]) (.seq (.reg [i_A 0 33 7 20, i_S 1 6 33 20] [6]) .ret)))))
theorem A_model_each_comp : compF Tryz.prog 132 = some ⟨34, [(6, (some (20, true)))], A_model_each.strip⟩ := by kernel_rfl
def A_model_Add : CA := (.seq (.reg [i_X 0 2 (.box (.t 0) 20 87), i_X 1 3 (.box (.t 1) 20 87), i_X 2 4 (.alloc z_20 87)] [2, 3, 4]) (.seq (.reg [i_A 0 5 2 20, i_A 1 6 3 20, i_X 2 7 (.callA (kF 132) [(.t 5), (.t 6), (kF 92)]), i_S 3 4 7 20] [4]) .ret))
theorem A_model_Add_comp : compF Tryz.prog 128 = some ⟨8, [(4, (some (20, true)))], A_model_Add.strip⟩ := by kernel_rfl
def A_model_Sub : CA := (.seq (.reg [i_X 0 2 (.box (.t 0) 20 87), i_X 1 3 (.box (.t 1) 20 87), i_X 2 4 (.alloc z_20 87)] [2, 3, 4]) (.seq (.reg [i_A 0 5 2 20, i_A 1 6 3 20, i_X 2 7 (.callA (kF 132) [(.t 5), (.t 6), (kF 79)]), i_S 3 4 7 20] [4]) .ret))
theorem A_model_Sub_comp : compF Tryz.prog 85 = some ⟨8, [(4, (some (20, true)))], A_model_Sub.strip⟩ := by kernel_rfl
def A_model_none : CA := (.seq (.reg [i_X 0 0 (.alloc z_20 87)] [0]) (.seq (.reg [i_X 0 2 (.callA (kF 76) [(.k .nil)]), i_X 1 1 (.alloc z_20 87), i_S 2 1 2 20] [0, 1]) (.seq (.reg [i_X 0 3 (.callA (kF 91) [(.k (.d (.int .i64 (-1))))]), i_X 1 4 (.callA (kF 91) [(kI 1)]), i_X 2 5 (.callA (kF 93) [(.t 3), (.t 4)]), i_P 3 6 1 18, i_S 4 6 5 2] [0, 1]) (.seq (.reg [i_A 0 7 1 20, i_S 1 0 7 20] [0]) .ret))))
theorem A_model_none_comp : compF Tryz.prog 158 = some ⟨8, [(0, (some (20, true)))], A_model_none.strip⟩ := by kernel_rfl
def filI (f z : Nat → Iv) (n i : Nat) : List Iv := (List.range n).map fun j => if j < i then f j else z j
theorem filI_len (f z : Nat → Iv) (n i : Nat) : (filI f z n i).length = n := by simp [filI]
theorem filI_set (f z : Nat → Iv) (n i : Nat) (p : Iv) (hp : p = f i) : (filI f z n i).set i p = filI f z n (i + 1) := by
  subst hp
  refine List.ext_getElem (by simp [filI]) fun j h1 h2 => ?_
  simp only [filI, List.getElem_set, List.getElem_map, List.getElem_range]
  by_cases e : i = j
  · subst e; rw [if_pos rfl, if_pos (by omega)]
  · rw [if_neg e]
    by_cases h : j < i
    · rw [if_pos h, if_pos (by omega)]
    · rw [if_neg h, if_neg (by omega)]
theorem filI_all (f z : Nat → Iv) (n : Nat) : filI f z n n = tabI f n := by
  refine List.ext_getElem (by simp [filI, tabI]) fun j h1 h2 => ?_
  have : j < n := by simpa [filI] using h1
  simp [filI, tabI, this]
theorem filI_get (f z : Nat → Iv) (n i j : Nat) (h : j < n) : mG (filI f z n i) j = if j < i then f j else z j := by
  simp [mG, filI, List.getD_eq_getElem?_getD, h]
theorem ivC_put (ps : List Iv) (i a b : Nat) (h : i < ps.length) : ((ivC ps).set (i * 2) (fl a)).set (i * 2 + 1) (fl b) = ivC (ps.set i (a, b)) := ivC_set ps i a b h
theorem ivC_R (m : Md) (h : m.length = 10) : ((ivC m).drop 18).take 2 = [fl (mG m 9).1, fl (mG m 9).2] := ivC_two m 9 (by omega)
theorem ivC_0 (m : Md) (h : 0 < m.length) : (ivC m).take 2 = [fl (mG m 0).1, fl (mG m 0).2] := ivC_two m 0 h
theorem ivC_18 (m : Md) (h : m.length = 10) : (ivC m).take 18 = ivC (m.take 9) := by
  match m, h with
  | [a, b, c, d, e, f, g, h, i, j], _ => rfl
theorem ivC_20 (m : Md) (h : m.length = 10) : (ivC m).take 20 = ivC m := List.take_of_length_le (by rw [ivC_length]; omega)
theorem ivC_take (ps : List Iv) (n : Nat) (h : ps.length * 2 = n) : (ivC ps).take n = ivC ps := List.take_of_length_le (by rw [ivC_length]; omega)
theorem ivC_bare (ps : List Iv) : (V.agg (ivC ps)).bareB = true := by
  rw [V.bareB, ivC_data, List.all_map]
  exact List.all_eq_true.2 fun x _ => rfl
theorem bare_d (x : D) : (V.d x).bareB = true := rfl
theorem KpA_ivC' (L : Heap) (ps : List Iv) : KpA L (ivC ps) := by rw [ivC_data]; exact KpA_data _
theorem endsT_ivs {nt t n row X ver : Nat} {s : T} (ps : List Iv) (hn : ps.length * 2 = n) (ht : t < nt) (h1 : look s.sl t = .ptr X row 0 ver) (h2 : s.L.get X row = some (ivC ps)) (h3 : n = ver) : EndsT (fun _ => False) nt [(t, some (n, true))] (.agg (ivC ps)) [] .ret s :=
  endsT_retm (ivC_bare ps) ht h1 h2 (by rw [ivC_length]; omega) (by rw [ivC_length]; omega) (by rw [ldv_agg, List.drop_zero, ivC_take _ _ hn])
theorem model_point_con (x : Nat) : Con Tryz.prog 124 [fl x] (ivV (pt x)) := by
  refine Con_introA A_model_point_comp rfl mixed ?_
  refine evx @A_model_point.eq_1 ?_
  exact endsT_retm rfl (by decide) rfl rfl rfl (by simp) (by simp [ldv, pt])
theorem model_power_con (k : Nat) (hk : k < 2 ^ 40) : Con Tryz.prog 156 [fI k] (ivV (pwI k)) := by
  refine Con_introA A_model_power_comp rfl mixed ?_
  refine evx @A_model_power.eq_1 ?_
  have e : Int.tmod (k : Int) 2 = ((k % 2 : Nat) : Int) := by rw [Int.tmod_eq_emod_of_nonneg (by omega)]; omega
  refine evx e ?_
  unfold pwI
  by_cases h : k % 2 = 0
  · rw [h, if_pos rfl]
    refine ev ?_
    refine ⟨by decide, ?_⟩
    exact endsT_retm rfl (by decide) rfl rfl rfl (by simp) (by simp [ldv, oneW])
  · have h1 : k % 2 = 1 := by omega
    rw [if_neg h, h1]
    refine evb ?_
    refine ⟨by decide, ?_⟩
    exact endsT_retm rfl (by decide) rfl rfl rfl (by simp) (by simp [ldv, negW])
theorem model_powers_con : Con Tryz.prog 159 [] (.agg (ivC (tabI pwI 9))) := by
  refine Con_introA A_model_powers_comp rfl mixed ?_
  refine evx @A_model_powers.eq_1 ?_
  refine WA_forW (n := 9) (fun c s => ∃ i, c + i = 9 ∧ s = ⟨[(0, .ptr 0 0 0 18), (1, .ptr 1 0 0 18), (3, fI i)], [(1, [ivC (filI pwI (fun _ => (0, 0)) 9 i)]), (0, [ivC (List.replicate 9 (0, 0))])]⟩) (Le.refl _) ⟨0, by omega, rfl⟩ ?_
  rintro c s ⟨i, hc, rfl⟩
  have hl := filI_len pwI (fun _ => (0, 0)) 9 i
  refine evx @A_model_powers_L0.eq_1 ?_
  refine condC_intro (fun h => ?_) (fun h => ?_)
  · replace h := of_decide_eq_true h
    have h9 : i < 9 := by omega
    refine ev ?_
    refine callG_con (model_power_con i (by omega)) rfl ?_
    refine ev ?_
    refine ⟨by omega, by omega, ?_⟩
    rw [wrapI (by omega) (by omega), ivC_put _ _ _ _ (by omega), filI_set _ _ _ _ _ rfl]
    exact ⟨c - 1, _, by omega, LeT.only (fun X => decide (X ≤ 1)) (fun _ h => h) rfl (by simp (maxDischargeDepth := 6) [kpS, fam_cons, fam_nil, KpA_ivC']) (by simp (maxDischargeDepth := 6) [kpS, fam_cons, fam_nil, KpA_ivC']), i + 1, by omega, rfl⟩
  · replace h := of_decide_eq_false h
    obtain rfl : i = 9 := by omega
    refine ev ?_
    rw [filI_all, ivC_take _ 18 (by simp [tabI]), splice_all _ _ (by simp [ivC_length, tabI])]
    refine ⟨by simp [tabI], ⟨by simp [ivC_length, tabI], ivC_cells _⟩, ?_⟩
    exact endsT_ivs _ (by simp [tabI]) (by decide) rfl rfl rfl
theorem set_same (ps : List Iv) (i : Nat) (h : mG ps i = (0, 0)) (hi : i < ps.length) : ps.set i (0, 0) = ps := by
  have : ps[i] = (0, 0) := by simpa [mG, List.getD_eq_getElem?_getD, hi] using h
  rw [← this]; exact List.set_getElem_self hi
def ofF (z : List Nat) (i : Nat) : Iv := if i < z.length ∧ i < 9 then pt (z.getD i 0) else (0, 0)
theorem ofM_fil (z : List Nat) : filI (ofF z) (fun _ => (0, 0)) 10 9 = ofM z := by
  refine List.ext_getElem (by simp [filI, ofM]) fun j h1 h2 => ?_
  simp only [filI, ofM, List.getElem_map, List.getElem_range, ofF]
  by_cases h : j < 9
  · rw [if_pos h]
  · rw [if_neg h, if_neg (fun e => h e.2)]
set_option maxRecDepth 8000 in
theorem model_Of_con (z : List Nat) (hz : z.length < 2 ^ 40) : Con Tryz.prog 76 [.d (rowD z)] (mdV (ofM z)) := by
  refine Con_introA A_model_Of_comp rfl mixed ?_
  refine evx @A_model_Of.eq_1 ?_
  refine callG_con (model_point_con 0) rfl ?_
  refine ev ?_
  refine WA_forW (n := 9) (fun c s => ∃ i, c + i = 9 ∧ s = ⟨[(0, .d (rowD z)), (2, .ptr 0 0 0 20), (3, .ptr 3 0 0 20), (7, fI i)], [(3, [ivC (filI (ofF z) (fun _ => (0, 0)) 10 i)]), (0, [ivC (List.replicate 10 (0, 0))])]⟩) (Le.refl _) ⟨0, by omega, rfl⟩ ?_
  rintro c s ⟨i, hc, rfl⟩
  have hl := filI_len (ofF z) (fun _ => (0, 0)) 10 i
  refine evx @A_model_Of_L0.eq_1 ?_
  refine condC_intro (fun h => ?_) (fun h => ?_)
  · replace h := of_decide_eq_true h
    have h9 : i < 9 := by omega
    refine ev ?_
    refine callG_con (model_point_con 0) rfl ?_
    refine ev ?_
    refine ⟨by omega, by omega, ?_⟩
    have hg := filI_get (ofF z) (fun _ => (0, 0)) 10 i i (by omega)
    rw [if_neg (by omega)] at hg
    have e0 := set_same _ _ hg (by omega)
    rw [ivC_put _ _ _ _ (by omega)]
    unfold pt
    rw [e0]
    refine condC_intro (fun h2 => ?_) (fun h2 => ?_)
    · replace h2 := of_decide_eq_true h2
      have h3 : i < z.length := by omega
      refine ev ?_
      (repeat (with_reducible refine And.intro (by omega) ?_))
      refine callG_con (model_point_con (z.getD i 0)) rfl ?_
      refine ev ?_
      refine ⟨by omega, by omega, ?_⟩
      rw [wrapI (by omega) (by omega), ivC_put _ _ _ _ (by omega), filI_set _ _ _ _ _ (by unfold ofF; rw [if_pos ⟨h3, h9⟩])]
      exact ⟨c - 1, _, by omega, LeT.only (fun X => decide (X ≤ 3)) (fun _ h => h) rfl (by simp (maxDischargeDepth := 6) [kpS, fam_cons, fam_nil, KpA_ivC']) (by simp (maxDischargeDepth := 6) [kpS, fam_cons, fam_nil, KpA_ivC']), i + 1, by omega, rfl⟩
    · replace h2 := of_decide_eq_false h2
      refine ev ?_
      have e1 := filI_set (ofF z) (fun _ => (0, 0)) 10 i (0, 0) (by unfold ofF; rw [if_neg (by omega)])
      rw [wrapI (by omega) (by omega), ← e0, e1]
      exact ⟨c - 1, _, by omega, LeT.only (fun X => decide (X ≤ 3)) (fun _ h => h) rfl (by simp (maxDischargeDepth := 6) [kpS, fam_cons, fam_nil, KpA_ivC']) (by simp (maxDischargeDepth := 6) [kpS, fam_cons, fam_nil, KpA_ivC']), i + 1, by omega, rfl⟩
  · replace h := of_decide_eq_false h
    obtain rfl : i = 9 := by omega
    refine ev ?_
    have hol := ofM_len z
    rw [ofM_fil, ivC_take _ 20 (by omega), splice_all _ _ (by simp [ivC_length, hol])]
    refine ⟨by omega, ⟨by simp [ivC_length, hol], ivC_cells _⟩, ?_⟩
    exact endsT_ivs _ (by omega) (by decide) rfl rfl rfl
theorem polyK_take (m : Md) (k : Nat) (hk : k < 9) : polyK (m.take 9) k = polyK m k := by
  have hg : ∀ i, i < 9 → mG (m.take 9) i = mG m i := fun i hi => by
    unfold mG
    rw [List.getD_eq_getElem?_getD, List.getD_eq_getElem?_getD, List.getElem?_take_of_lt hi]
  induction k with
  | zero => exact hg 0 hk
  | succ k ih => simp only [polyK, ih (by omega), hg (k + 1) hk]
set_option maxRecDepth 8000 in
theorem model_poly_con (c : List Iv) (hc : c.length = 9) : Con Tryz.prog 133 [.agg (ivC c)] (ivV (polyK c 8)) := by
  have hp : (tabI pwI 9).length = 9 := by simp [tabI]
  refine Con_introA A_model_poly_comp rfl mixed ?_
  refine evx @A_model_poly.eq_1 ?_
  (repeat (with_reducible refine And.intro (by omega) ?_))
  refine callG_con (model_powers_con) rfl ?_
  simp -implicitDefEqProofs only [evI, hv, effC, reduceCtorEq, ↓reduceIte, n1_, n2_, n3_, n4_, n5_, i1_, i2_, i3_, i4_, i5_, i6_, i7_, ivC_0 c (by omega)]
  refine ⟨by omega, by omega, ?_⟩
  rw [splice_all _ _ (by rw [ivC_length, hp]; rfl)]
  refine WA_forW (n := 8) (fun n s => ∃ k, n + k = 8 ∧ s = ⟨[(1, .ptr 0 0 0 18), (2, .ptr 1 0 0 2), (3, .ptr 3 0 0 18), (4, .ptr 6 0 0 2), (5, fI (k + 1 : Nat))],
    [(6, [[fl (polyK c k).1, fl (polyK c k).2]]), (3, [ivC (tabI pwI 9)]), (1, [[fl 0, fl 0]]), (0, [ivC c])]⟩) (Le.refl _) ⟨0, by omega, rfl⟩ ?_
  rintro n s ⟨k, hk, rfl⟩
  refine evx @A_model_poly_L0.eq_1 ?_
  refine condC_intro (fun h => ?_) (fun h => ?_)
  · replace h := of_decide_eq_true h
    have h8 : k < 8 := by omega
    simp -implicitDefEqProofs only [evI, hv, effC, reduceCtorEq, ↓reduceIte, n1_, n2_, n3_, n4_, n5_, i1_, i2_, i3_, i4_, i5_, i6_, i7_, ivC_two c (k + 1) (by omega), ivC_two (tabI pwI 9) (k + 1) (by omega), mG_tabI pwI 9 (k + 1) (by omega)]
    (repeat (with_reducible refine And.intro (by omega) ?_))
    refine callSG_con (iv_Mul_con (mG c (k + 1)) (pwI (k + 1))) rfl ?_
    refine ev ?_
    refine callG_con (iv_Add_con (polyK c k) (ivMul (mG c (k + 1)) (pwI (k + 1)))) rfl ?_
    refine ev ?_
    rw [show IntKind.i64.wrap (((k + 1 : Nat) : Int) + 1) = ((k + 1 + 1 : Nat) : Int) by rw [wrapI (by omega) (by omega)]; omega]
    exact ⟨n - 1, _, by omega, Le.refl _, k + 1, by omega, rfl⟩
  · replace h := of_decide_eq_false h
    obtain rfl : k = 8 := by omega
    refine ev ?_
    exact endsT_retm rfl (by decide) rfl rfl rfl (by simp) (by simp [ldv])
theorem model_Range_con (m : Md) (hm : m.length = 10) : Con Tryz.prog 87 [mdV m] (ivV (rngM m)) := by
  refine Con_introA A_model_Range_comp rfl mixed ?_
  refine evx @A_model_Range.eq_1 ?_
  refine evx (And.intro (ivC_18 m hm) (ivC_R m hm)) ?_
  (repeat (with_reducible refine And.intro (by omega) ?_))
  have h9 : (m.take 9).length = 9 := by rw [List.length_take]; omega
  first | refine callG_con (model_poly_con (m.take 9) h9) (by simp [bare_d, ivC_bare]) ?_ | refine callCG_con (model_poly_con (m.take 9) h9) (by simp [bare_d, ivC_bare]) ?_ | refine callSG_con (model_poly_con (m.take 9) h9) (by simp [bare_d, ivC_bare]) ?_
  rw [polyK_take m 8 (by decide)]
  refine evx (ivC_R m hm) ?_
  (repeat (with_reducible refine And.intro (by omega) ?_))
  refine callG_con (iv_Add_con (polyK m 8) (mG m 9)) rfl ?_
  refine ev ?_
  exact endsT_retm rfl (by decide) rfl rfl rfl (by simp) (by simp [ldv, rngM, polyM])
theorem zipM_fil (F : Iv → Iv → Iv) (a b : Md) : (filI (fun i => F (mG a i) (mG b i)) (fun _ => (0, 0)) 10 9).set 9 (F (mG a 9) (mG b 9)) = zipM F a b := by
  rw [filI_set _ _ _ _ _ rfl, filI_all]; rfl
set_option maxRecDepth 8000 in
theorem model_each_con (g : Nat) (F : Iv → Iv → Iv) (hF : ∀ a b, Con Tryz.prog g [ivV a, ivV b] (ivV (F a b))) (a b : Md) (ha : a.length = 10) (hb : b.length = 10) : Con Tryz.prog 132 [mdV a, mdV b, .d (.fn g [] [])] (mdV (zipM F a b)) := by
  refine Con_introA A_model_each_comp rfl mixed ?_
  refine evx @A_model_each.eq_1 ?_
  (repeat (with_reducible refine And.intro (by omega) ?_))
  refine WA_forW (n := 9) (fun c s => ∃ i, c + i = 9 ∧ s = ⟨[(2, .d (.fn g [] [])), (3, .ptr 0 0 0 20), (4, .ptr 1 0 0 20), (6, .ptr 2 0 0 20), (7, .ptr 3 0 0 20), (9, fI i)],
    [(3, [ivC (filI (fun i => F (mG a i) (mG b i)) (fun _ => (0, 0)) 10 i)]), (2, [ivC (List.replicate 10 (0, 0))]), (1, [ivC b]), (0, [ivC a])]⟩) (Le.refl _) ⟨0, by omega, rfl⟩ ?_
  rintro c s ⟨i, hc, rfl⟩
  have hl := filI_len (fun i => F (mG a i) (mG b i)) (fun _ => (0, 0)) 10 i
  refine evx @A_model_each_L0.eq_1 ?_
  refine condC_intro (fun h => ?_) (fun h => ?_)
  · replace h := of_decide_eq_true h
    have h9 : i < 9 := by omega
    simp -implicitDefEqProofs only [evI, hv, effC, reduceCtorEq, ↓reduceIte, n1_, n2_, n3_, n4_, n5_, i1_, i2_, i3_, i4_, i5_, i6_, i7_, ivC_two a i (by omega), ivC_two b i (by omega)]
    (repeat (with_reducible refine And.intro (by omega) ?_))
    refine callG_con (hF (mG a i) (mG b i)) rfl ?_
    refine ev ?_
    refine ⟨by omega, by omega, ?_⟩
    rw [wrapI (by omega) (by omega), ivC_put _ _ _ _ (by omega), filI_set _ _ _ _ _ rfl]
    exact ⟨c - 1, _, by omega, LeT.only (fun X => decide (X ≤ 3)) (fun _ h => h) rfl (by simp (maxDischargeDepth := 6) [kpS, fam_cons, fam_nil, KpA_ivC']) (by simp (maxDischargeDepth := 6) [kpS, fam_cons, fam_nil, KpA_ivC']), i + 1, by omega, rfl⟩
  · replace h := of_decide_eq_false h
    obtain rfl : i = 9 := by omega
    refine evx (And.intro (ivC_R a ha) (ivC_R b hb)) ?_
    (repeat (with_reducible refine And.intro (by omega) ?_))
    refine callG_con (hF (mG a 9) (mG b 9)) rfl ?_
    refine ev ?_
    have e := ivC_put (filI (fun i => F (mG a i) (mG b i)) (fun _ => (0, 0)) 10 9) 9 (F (mG a 9) (mG b 9)).1 (F (mG a 9) (mG b 9)).2 (by omega)
    rw [zipM_fil] at e
    have e' : ((ivC (filI (fun i => F (mG a i) (mG b i)) (fun _ => (0, 0)) 10 9)).set 18 (fl (F (mG a 9) (mG b 9)).1)).set 19 (fl (F (mG a 9) (mG b 9)).2) = ivC (zipM F a b) := e
    have hz := zipM_len F a b
    rw [e']
    simp -implicitDefEqProofs only [evI, hv, effC, reduceCtorEq, ↓reduceIte, n1_, n2_, n3_, n4_, n5_, i1_, i2_, i3_, i4_, i5_, i6_, i7_, ivC_20 _ hz]
    refine ⟨by omega, by omega, by omega, ?_⟩
    rw [splice_all _ _ (by rw [ivC_length, hz]; rfl)]
    exact endsT_ivs _ (by omega) (by decide) rfl rfl rfl
set_option maxRecDepth 8000 in
theorem model_Add_con (a b : Md) (ha : a.length = 10) (hb : b.length = 10) : Con Tryz.prog 128 [mdV a, mdV b] (mdV (zipM ivAdd a b)) := by
  have hz := zipM_len ivAdd a b
  refine Con_introA A_model_Add_comp rfl mixed ?_
  refine evx @A_model_Add.eq_1 ?_
  (repeat (with_reducible refine And.intro (by omega) ?_))
  rw [ivC_20 a ha, ivC_20 b hb]
  first | refine callG_con (model_each_con 92 ivAdd iv_Add_con a b ha hb) (by simp [bare_d, ivC_bare]) ?_ | refine callCG_con (model_each_con 92 ivAdd iv_Add_con a b ha hb) (by simp [bare_d, ivC_bare]) ?_ | refine callSG_con (model_each_con 92 ivAdd iv_Add_con a b ha hb) (by simp [bare_d, ivC_bare]) ?_
  refine ev ?_
  refine ⟨by omega, ?_⟩
  rw [splice_all _ _ (by rw [ivC_length, hz]; rfl)]
  exact endsT_ivs _ (by omega) (by decide) rfl rfl rfl
set_option maxRecDepth 8000 in
theorem model_Sub_con (a b : Md) (ha : a.length = 10) (hb : b.length = 10) : Con Tryz.prog 85 [mdV a, mdV b] (mdV (zipM ivSub a b)) := by
  have hz := zipM_len ivSub a b
  refine Con_introA A_model_Sub_comp rfl mixed ?_
  refine evx @A_model_Sub.eq_1 ?_
  (repeat (with_reducible refine And.intro (by omega) ?_))
  rw [ivC_20 a ha, ivC_20 b hb]
  first | refine callG_con (model_each_con 79 ivSub iv_Sub_con a b ha hb) (by simp [bare_d, ivC_bare]) ?_ | refine callCG_con (model_each_con 79 ivSub iv_Sub_con a b ha hb) (by simp [bare_d, ivC_bare]) ?_ | refine callSG_con (model_each_con 79 ivSub iv_Sub_con a b ha hb) (by simp [bare_d, ivC_bare]) ?_
  refine ev ?_
  refine ⟨by omega, ?_⟩
  rw [splice_all _ _ (by rw [ivC_length, hz]; rfl)]
  exact endsT_ivs _ (by omega) (by decide) rfl rfl rfl
set_option maxRecDepth 8000 in
theorem model_Of_nil_con : Con Tryz.prog 76 [.nil] (mdV (ofM [])) := by
  refine Con_introA A_model_Of_comp rfl mixed ?_
  refine evx @A_model_Of.eq_1 ?_
  refine callG_con (model_point_con 0) rfl ?_
  refine ev ?_
  refine WA_forW (n := 9) (fun c s => ∃ i, c + i = 9 ∧ s = ⟨[(0, .nil), (2, .ptr 0 0 0 20), (3, .ptr 3 0 0 20), (7, fI i)], [(3, [ivC (filI (ofF []) (fun _ => (0, 0)) 10 i)]), (0, [ivC (List.replicate 10 (0, 0))])]⟩) (Le.refl _) ⟨0, by omega, rfl⟩ ?_
  rintro c s ⟨i, hc, rfl⟩
  have hl := filI_len (ofF []) (fun _ => (0, 0)) 10 i
  refine evx @A_model_Of_L0.eq_1 ?_
  refine condC_intro (fun h => ?_) (fun h => ?_)
  · replace h := of_decide_eq_true h
    have h9 : i < 9 := by omega
    refine ev ?_
    refine callG_con (model_point_con 0) rfl ?_
    refine ev ?_
    refine ⟨by omega, by omega, ?_⟩
    have hg := filI_get (ofF []) (fun _ => (0, 0)) 10 i i (by omega)
    rw [if_neg (by omega)] at hg
    have e0 := set_same _ _ hg (by omega)
    rw [ivC_put _ _ _ _ (by omega)]
    unfold pt
    rw [e0]
    have h2 : decide ((i : Int) < 0) = false := decide_eq_false (by omega)
    refine evx h2 ?_
    have e1 := filI_set (ofF []) (fun _ => (0, 0)) 10 i (0, 0) (by unfold ofF; rw [if_neg (by simp)])
    rw [wrapI (by omega) (by omega), ← e0, e1]
    exact ⟨c - 1, _, by omega, LeT.only (fun X => decide (X ≤ 3)) (fun _ h => h) rfl (by simp (maxDischargeDepth := 6) [kpS, fam_cons, fam_nil, KpA_ivC']) (by simp (maxDischargeDepth := 6) [kpS, fam_cons, fam_nil, KpA_ivC']), i + 1, by omega, rfl⟩
  · replace h := of_decide_eq_false h
    obtain rfl : i = 9 := by omega
    refine ev ?_
    have hol := ofM_len []
    rw [ofM_fil, ivC_take _ 20 (by omega), splice_all _ _ (by simp [ivC_length, hol])]
    refine ⟨by omega, ⟨by simp [ivC_length, hol], ivC_cells _⟩, ?_⟩
    exact endsT_ivs _ (by omega) (by decide) rfl rfl rfl
set_option maxRecDepth 8000 in
theorem model_none_con : Con Tryz.prog 158 [] (mdV noneM) := by
  have hol := ofM_len []
  refine Con_introA A_model_none_comp rfl mixed ?_
  refine evx @A_model_none.eq_1 ?_
  refine callG_con (model_Of_nil_con) rfl ?_
  refine ev ?_
  refine ⟨by omega, ?_⟩
  rw [splice_all _ _ (by rw [ivC_length, hol]; rfl)]
  refine callG_con (math_Inf_neg) rfl ?_
  refine ev ?_
  refine callG_con (math_Inf_pos) rfl ?_
  refine ev ?_
  refine callG_con (iv_Make_con fninf finf) rfl ?_
  have e1 : ivMake fninf finf = (fninf, finf) := by decide
  rw [e1]
  refine ev ?_
  have e : ((ivC (ofM [])).set 18 (fl fninf)).set 19 (fl finf) = ivC noneM := by rfl
  rw [e]
  have hn : noneM.length = 10 := by rfl
  simp -implicitDefEqProofs only [evI, hv, effC, reduceCtorEq, ↓reduceIte, n1_, n2_, n3_, n4_, n5_, i1_, i2_, i3_, i4_, i5_, i6_, i7_, ivC_20 _ hn]
  refine ⟨by omega, by omega, by omega, ?_⟩
  rw [splice_all _ _ (by rw [ivC_length, hn]; rfl)]
  exact endsT_ivs _ (by omega) (by decide) rfl rfl rfl
def A_model_Mul_L1 : CA := (.seq (.seq (.reg [i_M 0 26 7, i_M 1 27 6, i_N 2 28 .leq 26 27] [2, 3, 4, 5, 6, 7, 12, 28]) (.cond (.t 28) .skip (.exit 2))) (.seq (.block 3 (.reg [i_M 0 31 6, i_M 1 32 6, i_P 2 33 5 0, i_X 3 34 (.h (.idxa (.t 33) (.t 32) 9 2)), i_A 4 35 34 2, i_M 5 36 7, i_P 6 37 2 0, i_X 7 38 (.h (.idxa (.t 37) (.t 36) 9 2)), i_A 8 39 38 2, i_M 9 40 6, i_M 10 41 7, i_N 11 42 .sub 40 41, i_P 12 43 3 0, i_X 13 44 (.h (.idxa (.t 43) (.t 42) 9 2)), i_A 14 45 44 2, i_X 15 46 (.callS 15 (kF 125) [(.t 39), (.t 45)]), i_X 16 47 (.callA (kF 92) [(.t 35), (.t 46)]), i_P 17 48 5 0, i_X 18 49 (.h (.idxa (.t 48) (.t 31) 9 2)), i_S 19 49 47 2] [2, 3, 4, 5, 6, 7, 12])) (.reg [i_M 0 29 7, i_B 1 30 .add 29 1, i_M 2 7 30] [2, 3, 4, 5, 6, 7, 12])))
def A_model_Mul_L0 : CA := (.seq (.reg [i_B 0 13 .lss 12 9] [2, 3, 4, 5, 12, 13]) (.seq (.cond (.t 13) .skip (.exit 0)) (.seq (.block 1 (.seq (.reg [i_M 0 14 12, i_M 1 6 14] [2, 3, 4, 5, 6, 12]) (.seq (.reg [i_M 0 15 6, i_P 1 16 2 0, i_X 2 17 (.h (.idxa (.t 16) (kI 0) 9 2)), i_A 3 18 17 2, i_M 4 19 6, i_P 5 20 3 0, i_X 6 21 (.h (.idxa (.t 20) (.t 19) 9 2)), i_A 7 22 21 2, i_X 8 23 (.callA (kF 125) [(.t 18), (.t 22)]), i_P 9 24 5 0, i_X 10 25 (.h (.idxa (.t 24) (.t 15) 9 2)), i_S 11 25 23 2] [2, 3, 4, 5, 6, 12]) (.seq (.reg [i_K 0 7 1] [2, 3, 4, 5, 6, 7, 12]) (.block 2 (.loop A_model_Mul_L1)))))) (.reg [i_B 0 50 .add 12 1, i_M 1 12 50] [2, 3, 4, 5, 12]))))
def A_model_Mul_L3 : CA := (.seq (.reg [i_B 0 55 .lss 54 9] [2, 3, 4, 5, 8, 51, 54, 55]) (.seq (.cond (.t 55) .skip (.exit 6)) (.seq (.block 7 (.seq (.reg [i_M 0 56 54, i_M 1 9 56] [2, 3, 4, 5, 8, 9, 51, 54]) (.seq (.reg [i_M 0 57 8, i_M 1 58 9, i_N 2 59 .add 57 58, i_B 3 60 .gtr 59 8] [2, 3, 4, 5, 8, 9, 51, 54, 60]) (.cond (.t 60) (.reg [i_P 0 61 5 18, i_A 1 62 61 2, i_M 2 63 8, i_P 3 64 2 0, i_X 4 65 (.h (.idxa (.t 64) (.t 63) 9 2)), i_A 5 66 65 2, i_M 6 67 9, i_P 7 68 3 0, i_X 8 69 (.h (.idxa (.t 68) (.t 67) 9 2)), i_A 9 70 69 2, i_X 10 71 (.callS 10 (kF 125) [(.t 66), (.t 70)]), i_M 11 72 8, i_M 12 73 9, i_N 13 74 .add 72 73, i_X 14 75 (.callS 14 (kF 156) [(.t 74)]), i_X 15 76 (.callS 15 (kF 125) [(.t 71), (.t 75)]), i_X 16 77 (.callA (kF 92) [(.t 62), (.t 76)]), i_P 17 78 5 18, i_S 18 78 77 2] [2, 3, 4, 5, 8, 51, 54]) .skip)))) (.reg [i_B 0 79 .add 54 1, i_M 1 54 79] [2, 3, 4, 5, 8, 51, 54]))))
def A_model_Mul_L2 : CA := (.seq (.reg [i_B 0 52 .lss 51 9] [2, 3, 4, 5, 51, 52]) (.seq (.cond (.t 52) .skip (.exit 4)) (.seq (.block 5 (.seq (.reg [i_M 0 53 51, i_M 1 8 53] [2, 3, 4, 5, 8, 51]) (.seq (.reg [i_K 0 54 0] [2, 3, 4, 5, 8, 51, 54]) (.block 6 (.loop A_model_Mul_L3))))) (.reg [i_B 0 80 .add 51 1, i_M 1 51 80] [2, 3, 4, 5, 51]))))
def A_model_Mul : CA := (.seq (.reg [i_X 0 2 (.box (.t 0) 20 87), i_X 1 3 (.box (.t 1) 20 87), i_X 2 4 (.alloc z_20 87)] [2, 3, 4]) (.seq (.reg [i_X 0 10 (.callA (kF 124) [(.k (.d (.flt 0)))]), i_X 1 11 (.h (.build z_20 [(18, (2, (.t 10)))])), i_X 2 5 (.alloc z_20 87), i_S 3 5 11 20] [2, 3, 4, 5]) (.seq (.seq (.reg [i_K 0 12 0] [2, 3, 4, 5, 12]) (.block 0 (.loop A_model_Mul_L0))) (.seq (.seq (.reg [i_K 0 51 0] [2, 3, 4, 5, 51]) (.block 4 (.loop A_model_Mul_L2))) (.seq (.reg [i_P 0 81 5 18, i_A 1 82 81 2, i_P 2 83 2 18, i_A 3 84 83 2, i_A 4 85 3 20, i_X 5 86 (.callS 5 (kF 87) [(.t 85)]), i_X 6 87 (.callS 6 (kF 125) [(.t 84), (.t 86)]), i_X 7 88 (.callA (kF 92) [(.t 82), (.t 87)]), i_P 8 89 5 18, i_S 9 89 88 2] [2, 3, 4, 5]) (.seq (.reg [i_P 0 90 5 18, i_A 1 91 90 2, i_P 2 92 2 0, i_A 3 93 92 18, i_X 4 94 (.callS 4 (kF 133) [(.t 93)]), i_P 5 95 3 18, i_A 6 96 95 2, i_X 7 97 (.callS 7 (kF 125) [(.t 94), (.t 96)]), i_X 8 98 (.callA (kF 92) [(.t 91), (.t 97)]), i_P 9 99 5 18, i_S 10 99 98 2] [4, 5]) (.seq (.reg [i_A 0 100 5 20, i_S 1 4 100 20] [4]) .ret)))))))
theorem A_model_Mul_comp : compF Tryz.prog 129 = some ⟨101, [(4, (some (20, true)))], A_model_Mul.strip⟩ := by kernel_rfl
def A_model_Div_L1 : CA := (.seq (.seq (.reg [i_M 0 30 9, i_M 1 31 7, i_N 2 32 .leq 30 31] [2, 3, 4, 5, 6, 7, 8, 9, 23, 32]) (.cond (.t 32) .skip (.exit 2))) (.seq (.block 3 (.reg [i_A 0 35 8 2, i_M 1 36 9, i_P 2 37 3 0, i_X 3 38 (.h (.idxa (.t 37) (.t 36) 9 2)), i_A 4 39 38 2, i_M 5 40 7, i_M 6 41 9, i_N 7 42 .sub 40 41, i_P 8 43 6 0, i_X 9 44 (.h (.idxa (.t 43) (.t 42) 9 2)), i_A 10 45 44 2, i_X 11 46 (.callS 11 (kF 125) [(.t 39), (.t 45)]), i_X 12 47 (.callA (kF 79) [(.t 35), (.t 46)]), i_S 13 8 47 2] [2, 3, 4, 5, 6, 7, 8, 9, 23])) (.reg [i_M 0 33 9, i_B 1 34 .add 33 1, i_M 2 9 34] [2, 3, 4, 5, 6, 7, 8, 9, 23])))
def A_model_Div_L0 : CA := (.seq (.reg [i_B 0 24 .lss 23 9] [2, 3, 4, 5, 6, 23, 24]) (.seq (.cond (.t 24) .skip (.exit 0)) (.seq (.block 1 (.seq (.reg [i_M 0 25 23, i_M 1 7 25] [2, 3, 4, 5, 6, 7, 23]) (.seq (.reg [i_M 0 26 7, i_P 1 27 2 0, i_X 2 28 (.h (.idxa (.t 27) (.t 26) 9 2)), i_A 3 29 28 2, i_X 4 8 (.alloc [(.d (.flt 0)), (.d (.flt 0))] 58), i_S 5 8 29 2] [2, 3, 4, 5, 6, 7, 8, 23]) (.seq (.seq (.reg [i_K 0 9 1] [2, 3, 4, 5, 6, 7, 8, 9, 23]) (.block 2 (.loop A_model_Div_L1))) (.reg [i_M 0 48 7, i_A 1 49 8 2, i_P 2 50 3 0, i_X 3 51 (.h (.idxa (.t 50) (kI 0) 9 2)), i_A 4 52 51 2, i_X 5 53 (.callA (kF 131) [(.t 49), (.t 52)]), i_P 6 54 6 0, i_X 7 55 (.h (.idxa (.t 54) (.t 48) 9 2)), i_S 8 55 53 2] [2, 3, 4, 5, 6, 23]))))) (.reg [i_B 0 56 .add 23 1, i_M 1 23 56] [2, 3, 4, 5, 6, 23]))))
def A_model_Div : CA := (.seq (.reg [i_X 0 2 (.box (.t 0) 20 87), i_X 1 3 (.box (.t 1) 20 87), i_X 2 4 (.alloc z_20 87)] [2, 3, 4]) (.seq (.reg [i_A 0 10 3 20, i_X 1 11 (.callA (kF 87) [(.t 10)]), i_X 2 5 (.alloc [(.d (.flt 0)), (.d (.flt 0))] 58), i_S 3 5 11 2] [2, 3, 4, 5]) (.seq (.seq (.reg [i_P 0 12 3 0, i_X 1 13 (.h (.idxa (.t 12) (kI 0) 9 2)), i_A 2 14 13 2, i_X 3 15 (.callS 0 (kF 157) [(.k (.d (.flt 0))), (.t 14)]), i_A 4 16 5 2, i_X 5 17 (.callA (kF 157) [(.k (.d (.flt 0))), (.t 16)]), i_X 6 18 (.h (.build [(.d (.bool false)), (.d (.bool false))] [(0, (1, (.t 15))), (1, (1, (.t 17)))])), i_X 7 19 (.h (.build [(.d (.bool false)), (.d (.bool false))] [])), i_X 8 20 (.h (.acmp true (.t 18) (.t 19) [(0, false), (1, false)]))] [2, 3, 4, 5, 20]) (.cond (.t 20) (.seq (.reg [i_X 0 21 (.callA (kF 158) []), i_S 1 4 21 20] [4]) .ret) .skip)) (.seq (.reg [i_X 0 22 (.callA (kF 76) [(.k .nil)]), i_X 1 6 (.alloc z_20 87), i_S 2 6 22 20] [2, 3, 4, 5, 6]) (.seq (.seq (.reg [i_K 0 23 0] [2, 3, 4, 5, 6, 23]) (.block 0 (.loop A_model_Div_L0))) (.seq (.reg [i_A 0 57 2 20, i_A 1 58 3 20, i_A 2 59 6 20, i_X 3 60 (.callS 3 (kF 129) [(.t 58), (.t 59)]), i_X 4 61 (.callS 0 (kF 85) [(.t 57), (.t 60)]), i_X 5 62 (.callS 0 (kF 87) [(.t 61)]), i_A 6 63 5 2, i_X 7 64 (.callA (kF 131) [(.t 62), (.t 63)]), i_P 8 65 6 18, i_S 9 65 64 2] [4, 6]) (.seq (.reg [i_A 0 66 6 20, i_S 1 4 66 20] [4]) .ret)))))))
theorem A_model_Div_comp : compF Tryz.prog 130 = some ⟨67, [(4, (some (20, true)))], A_model_Div.strip⟩ := by kernel_rfl
abbrev mulH (a b c : Md) : Heap := [(5, [ivC c]), (2, [ivC (List.replicate 10 (0, 0))]), (1, [ivC b]), (0, [ivC a])]
abbrev mulS (r : Sl) : Sl := (2, .ptr 0 0 0 20) :: (3, .ptr 1 0 0 20) :: (4, .ptr 2 0 0 20) :: (5, .ptr 5 0 0 20) :: r
theorem mG_set_self (m : Md) (i : Nat) (p : Iv) (hi : i < m.length) : mG (m.set i p) i = p := by rw [mG_set _ _ _ _ hi, if_pos rfl]
set_option maxRecDepth 8000 in
theorem mul_L1 (a b C : Md) (k : Nat) (ha : a.length = 10) (hb : b.length = 10) (hC : C.length = 10) (hk : k < 9) (Q : Ex → T → Prop)
    (hQ : ∀ v w, Q (.exit 2) ⟨mulS [(6, fI k), (7, v), (12, fI k), (28, w)], mulH a b (C.set k (mulK a b k k))⟩) :
    WA Tryz.prog (fun _ => False) 101 (.loop A_model_Mul_L1) Q ⟨mulS [(6, fI k), (7, fI 1), (12, fI k)], mulH a b (C.set k (mulK a b k 0))⟩ := by
  refine WA_for (n := k) (fun c s => ∃ i, c + i = k ∧ s = ⟨mulS [(6, fI k), (7, fI (i + 1 : Nat)), (12, fI k)], mulH a b (C.set k (mulK a b k i))⟩) ⟨0, by omega, rfl⟩ ?_
  rintro c s ⟨i, hc, rfl⟩
  have hl : (C.set k (mulK a b k i)).length = 10 := by rw [List.length_set]; exact hC
  refine evx @A_model_Mul_L1.eq_1 ?_
  refine condC_intro (fun h => ?_) (fun h => ?_)
  · replace h := of_decide_eq_true h
    have hik : i + 1 ≤ k := by omega
    have w1 : IntKind.i64.wrap ((k : Int) - ((i + 1 : Nat) : Int)) = ((k - (i + 1) : Nat) : Int) := by rw [wrapI (by omega) (by omega)]; omega
    simp -implicitDefEqProofs only [evI, hv, effC, reduceCtorEq, ↓reduceIte, n1_, n2_, n3_, n4_, n5_, i1_, i2_, i3_, i4_, i5_, i6_, i7_, w1, ivC_two (C.set k (mulK a b k i)) k (by omega), mG_set_self C k (mulK a b k i) (by omega), ivC_two a (i + 1) (by omega), ivC_two b (k - (i + 1)) (by omega)]
    (repeat (with_reducible refine And.intro (by omega) ?_))
    refine callSG_con (iv_Mul_con (mG a (i + 1)) (mG b (k - (i + 1)))) rfl ?_
    refine ev ?_
    refine callG_con (iv_Add_con (mulK a b k i) (ivMul (mG a (i + 1)) (mG b (k - (i + 1))))) rfl ?_
    refine ev ?_
    (repeat (with_reducible refine And.intro (by omega) ?_))
    rw [ivC_put _ _ _ _ (by omega), List.set_set, show IntKind.i64.wrap (((i + 1 : Nat) : Int) + 1) = ((i + 1 + 1 : Nat) : Int) by rw [wrapI (by omega) (by omega)]; omega]
    exact ⟨c - 1, by omega, i + 1, by omega, rfl⟩
  · replace h := of_decide_eq_false h
    obtain rfl : i = k := by omega
    refine ev ?_
    exact hQ _ _
set_option maxRecDepth 8000 in
theorem mul_L0 (a b : Md) (ha : a.length = 10) (hb : b.length = 10) (Q : Ex → T → Prop)
    (hQ : ∀ v w, Q (.exit 0) ⟨mulS [(12, v), (13, w)], mulH a b (filI (fun k => mulK a b k k) (fun _ => (0, 0)) 10 9)⟩) :
    WA Tryz.prog (fun _ => False) 101 (.loop A_model_Mul_L0) Q ⟨mulS [(12, fI 0)], mulH a b (filI (fun k => mulK a b k k) (fun _ => (0, 0)) 10 0)⟩ := by
  refine WA_for (n := 9) (fun c s => ∃ k, c + k = 9 ∧ s = ⟨mulS [(12, fI k)], mulH a b (filI (fun k => mulK a b k k) (fun _ => (0, 0)) 10 k)⟩) ⟨0, by omega, rfl⟩ ?_
  rintro c s ⟨k, hc, rfl⟩
  have hl := filI_len (fun k => mulK a b k k) (fun _ => (0, 0)) 10 k
  refine evx @A_model_Mul_L0.eq_1 ?_
  refine condC_intro (fun h => ?_) (fun h => ?_)
  · replace h := of_decide_eq_true h
    have hk : k < 9 := by omega
    simp -implicitDefEqProofs only [evI, hv, effC, reduceCtorEq, ↓reduceIte, n1_, n2_, n3_, n4_, n5_, i1_, i2_, i3_, i4_, i5_, i6_, i7_, ivC_0 a (by omega), ivC_two b k (by omega)]
    (repeat (with_reducible refine And.intro (by omega) ?_))
    refine callG_con (iv_Mul_con (mG a 0) (mG b k)) rfl ?_
    refine ev ?_
    (repeat (with_reducible refine And.intro (by omega) ?_))
    rw [ivC_put _ _ _ _ (by omega)]
    refine mul_L1 a b _ k ha hb hl hk _ fun v w => ?_
    rw [filI_set _ _ _ _ _ rfl]
    refine ev ?_
    rw [wrapI (by omega) (by omega)]
    exact ⟨c - 1, by omega, k + 1, by omega, rfl⟩
  · replace h := of_decide_eq_false h
    obtain rfl : k = 9 := by omega
    refine ev ?_
    exact hQ _ _
set_option maxRecDepth 8000 in
theorem mul_L3 (a b C : Md) (i : Nat) (r : Iv) (ha : a.length = 10) (hb : b.length = 10) (hC : C.length = 10) (hi : i < 9) (Q : Ex → T → Prop)
    (hQ : ∀ v w, Q (.exit 6) ⟨mulS [(8, fI i), (51, fI i), (54, v), (55, w)], mulH a b (C.set 9 (mulJ a b i r 9))⟩) :
    WA Tryz.prog (fun _ => False) 101 (.loop A_model_Mul_L3) Q ⟨mulS [(8, fI i), (51, fI i), (54, fI 0)], mulH a b (C.set 9 r)⟩ := by
  refine WA_for (n := 9) (fun c s => ∃ j, c + j = 9 ∧ s = ⟨mulS [(8, fI i), (51, fI i), (54, fI j)], mulH a b (C.set 9 (mulJ a b i r j))⟩) ⟨0, by omega, rfl⟩ ?_
  rintro c s ⟨j, hc, rfl⟩
  have hl : (C.set 9 (mulJ a b i r j)).length = 10 := by rw [List.length_set]; exact hC
  refine evx @A_model_Mul_L3.eq_1 ?_
  refine condC_intro (fun h => ?_) (fun h => ?_)
  · replace h := of_decide_eq_true h
    have hj : j < 9 := by omega
    have w1 : IntKind.i64.wrap ((i : Int) + (j : Int)) = ((i + j : Nat) : Int) := by rw [wrapI (by omega) (by omega)]; omega
    have w2 : IntKind.i64.wrap ((j : Int) + 1) = ((j + 1 : Nat) : Int) := by rw [wrapI (by omega) (by omega)]; omega
    have er := ivC_R (C.set 9 (mulJ a b i r j)) hl
    rw [mG_set_self _ _ _ (by omega)] at er
    refine evx w1 ?_
    refine condC_intro (fun h8 => ?_) (fun h8 => ?_)
    · replace h8 := of_decide_eq_true h8
      have h8' : 8 < i + j := by omega
      simp -implicitDefEqProofs only [evI, hv, effC, reduceCtorEq, ↓reduceIte, n1_, n2_, n3_, n4_, n5_, i1_, i2_, i3_, i4_, i5_, i6_, i7_, w1, er, ivC_two a i (by omega), ivC_two b j (by omega)]
      (repeat (with_reducible refine And.intro (by omega) ?_))
      refine callSG_con (iv_Mul_con (mG a i) (mG b j)) rfl ?_
      refine evx w1 ?_
      refine callSG_con (model_power_con (i + j) (by omega)) rfl ?_
      refine ev ?_
      refine callSG_con (iv_Mul_con (ivMul (mG a i) (mG b j)) (pwI (i + j))) rfl ?_
      refine ev ?_
      refine callG_con (iv_Add_con (mulJ a b i r j) (ivMul (ivMul (mG a i) (mG b j)) (pwI (i + j)))) rfl ?_
      refine ev ?_
      (repeat (with_reducible refine And.intro (by omega) ?_))
      have e := ivC_put (C.set 9 (mulJ a b i r j)) 9 (ivAdd (mulJ a b i r j) (ivMul (ivMul (mG a i) (mG b j)) (pwI (i + j)))).1 (ivAdd (mulJ a b i r j) (ivMul (ivMul (mG a i) (mG b j)) (pwI (i + j)))).2 (by omega)
      rw [List.set_set] at e
      have e2 : mulJ a b i r (j + 1) = ivAdd (mulJ a b i r j) (ivMul (ivMul (mG a i) (mG b j)) (pwI (i + j))) := by rw [mulJ, if_pos h8']
      rw [w2]
      refine ⟨c - 1, by omega, j + 1, by omega, ?_⟩
      rw [e2]
      exact congrArg (fun z => (⟨mulS [(8, fI i), (51, fI i), (54, fI (j + 1 : Nat))], [(5, [z]), (2, [ivC (List.replicate 10 (0, 0))]), (1, [ivC b]), (0, [ivC a])]⟩ : T)) e
    · replace h8 := of_decide_eq_false h8
      have e2 : mulJ a b i r (j + 1) = mulJ a b i r j := by rw [mulJ, if_neg (by omega)]
      refine ev ?_
      rw [w2]
      exact ⟨c - 1, by omega, j + 1, by omega, by rw [e2]⟩
  · replace h := of_decide_eq_false h
    obtain rfl : j = 9 := by omega
    refine ev ?_
    exact hQ _ _
set_option maxRecDepth 8000 in
theorem mul_L2 (a b C : Md) (ha : a.length = 10) (hb : b.length = 10) (hC : C.length = 10) (Q : Ex → T → Prop)
    (hQ : ∀ v w, Q (.exit 4) ⟨mulS [(51, v), (52, w)], mulH a b (C.set 9 (mulI a b 9))⟩) :
    WA Tryz.prog (fun _ => False) 101 (.loop A_model_Mul_L2) Q ⟨mulS [(51, fI 0)], mulH a b (C.set 9 (0, 0))⟩ := by
  refine WA_for (n := 9) (fun c s => ∃ i, c + i = 9 ∧ s = ⟨mulS [(51, fI i)], mulH a b (C.set 9 (mulI a b i))⟩) ⟨0, by omega, rfl⟩ ?_
  rintro c s ⟨i, hc, rfl⟩
  refine evx @A_model_Mul_L2.eq_1 ?_
  refine condC_intro (fun h => ?_) (fun h => ?_)
  · replace h := of_decide_eq_true h
    have hi : i < 9 := by omega
    refine ev ?_
    refine mul_L3 a b C i (mulI a b i) ha hb hC hi _ fun v w => ?_
    refine ev ?_
    rw [wrapI (by omega) (by omega)]
    exact ⟨c - 1, by omega, i + 1, by omega, rfl⟩
  · replace h := of_decide_eq_false h
    obtain rfl : i = 9 := by omega
    refine ev ?_
    exact hQ _ _
theorem mulM_set (f : Nat → Iv) (r : Iv) : (filI f (fun _ => (0, 0)) 10 9).set 9 r = (List.range 9).map f ++ [r] := by
  refine List.ext_getElem (by simp [filI]) fun j h1 h2 => ?_
  have hj : j < 10 := by simpa [filI] using h1
  rw [List.getElem_set]
  by_cases e : 9 = j
  · subst e; simp
  · have h9 : j < 9 := by omega
    rw [if_neg e]
    simp [filI, List.getElem_append, h9]
set_option maxRecDepth 8000 in
theorem model_Mul_con (a b : Md) (ha : a.length = 10) (hb : b.length = 10) : Con Tryz.prog 129 [mdV a, mdV b] (mdV (mulM a b)) := by
  refine Con_introA A_model_Mul_comp rfl mixed ?_
  refine evx @A_model_Mul.eq_1 ?_
  (repeat (with_reducible refine And.intro (by omega) ?_))
  refine callG_con (model_point_con 0) rfl ?_
  refine ev ?_
  refine mul_L0 a b ha hb _ fun v w => ?_
  have hl := filI_len (fun k => mulK a b k k) (fun _ => (0, 0)) 10 9
  have hm := mulM_len a b
  have hset : (filI (fun k => mulK a b k k) (fun _ => (0, 0)) 10 9).set 9 (ivAdd (ivAdd (mulI a b 9) (ivMul (mG a 9) (rngM b))) (ivMul (polyK a 8) (mG b 9))) = mulM a b := by
    rw [mulM_set]; unfold mulM polyM; rfl
  have hz : (filI (fun k => mulK a b k k) (fun _ => (0, 0)) 10 9).set 9 (0, 0) = filI (fun k => mulK a b k k) (fun _ => (0, 0)) 10 9 := set_same _ _ (by rw [filI_get _ _ _ _ _ (by decide), if_neg (by decide)]) (by omega)
  generalize filI (fun k => mulK a b k k) (fun _ => (0, 0)) 10 9 = C at hl hset hz
  refine ev ?_
  rw [← hz]
  refine mul_L2 a b C ha hb hl _ fun v w => ?_
  have hl2 : (C.set 9 (mulI a b 9)).length = 10 := by rw [List.length_set]; exact hl
  have er := ivC_R (C.set 9 (mulI a b 9)) hl2
  rw [mG_set_self _ _ _ (by omega)] at er
  refine evx (And.intro er (And.intro (ivC_R a ha) (ivC_20 b hb))) ?_
  (repeat (with_reducible refine And.intro (by omega) ?_))
  first | refine callG_con (model_Range_con b hb) (by simp [bare_d, ivC_bare]) ?_ | refine callCG_con (model_Range_con b hb) (by simp [bare_d, ivC_bare]) ?_ | refine callSG_con (model_Range_con b hb) (by simp [bare_d, ivC_bare]) ?_
  refine ev ?_
  refine callSG_con (iv_Mul_con (mG a 9) (rngM b)) rfl ?_
  refine ev ?_
  refine callG_con (iv_Add_con (mulI a b 9) (ivMul (mG a 9) (rngM b))) rfl ?_
  refine ev ?_
  generalize ivAdd (mulI a b 9) (ivMul (mG a 9) (rngM b)) = r1 at hset ⊢
  have e := ivC_put (C.set 9 (mulI a b 9)) 9 r1.1 r1.2 (by omega)
  rw [List.set_set] at e
  have e' : ((ivC (C.set 9 (mulI a b 9))).set 18 (fl r1.1)).set 19 (fl r1.2) = ivC (C.set 9 r1) := e
  rw [e']
  have hl3 : (C.set 9 r1).length = 10 := by rw [List.length_set]; exact hl
  have er3 := ivC_R (C.set 9 r1) hl3
  rw [mG_set_self _ _ _ (by omega)] at er3
  have h9 : (a.take 9).length = 9 := by rw [List.length_take]; omega
  refine evx (And.intro er3 (And.intro (ivC_18 a ha) (ivC_R b hb))) ?_
  (repeat (with_reducible refine And.intro (by omega) ?_))
  first | refine callG_con (model_poly_con (a.take 9) h9) (by simp [bare_d, ivC_bare]) ?_ | refine callCG_con (model_poly_con (a.take 9) h9) (by simp [bare_d, ivC_bare]) ?_ | refine callSG_con (model_poly_con (a.take 9) h9) (by simp [bare_d, ivC_bare]) ?_
  rw [polyK_take a 8 (by decide)]
  refine evx (ivC_R b hb) ?_
  (repeat (with_reducible refine And.intro (by omega) ?_))
  refine callSG_con (iv_Mul_con (polyK a 8) (mG b 9)) rfl ?_
  refine ev ?_
  refine callG_con (iv_Add_con r1 (ivMul (polyK a 8) (mG b 9))) rfl ?_
  refine ev ?_
  generalize ivAdd r1 (ivMul (polyK a 8) (mG b 9)) = r2 at hset ⊢
  have f := ivC_put (C.set 9 r1) 9 r2.1 r2.2 (by omega)
  rw [List.set_set] at f
  have f' : ((ivC (C.set 9 r1)).set 18 (fl r2.1)).set 19 (fl r2.2) = ivC (mulM a b) := f.trans (by rw [← hset])
  rw [f']
  simp -implicitDefEqProofs only [evI, hv, effC, reduceCtorEq, ↓reduceIte, n1_, n2_, n3_, n4_, n5_, i1_, i2_, i3_, i4_, i5_, i6_, i7_, ivC_20 _ hm]
  (repeat (with_reducible refine And.intro (by omega) ?_))
  rw [splice_all _ _ (by rw [ivC_length, hm]; rfl)]
  exact endsT_ivs _ (by omega) (by decide) rfl rfl rfl
theorem in0_eq (p : Iv) : (fcmp .le p.1 0 && fcmp .le 0 p.2) = in0 p := rfl
def qC (a b : Md) (k : Nat) : Md := divQ a b k ++ List.replicate (10 - k) (0, 0)
theorem qC_len (a b : Md) (k : Nat) (h : k ≤ 10) : (qC a b k).length = 10 := by simp [qC, divQ_len]; omega
theorem qC_get (a b : Md) (k j : Nat) (h : j < k) : mG (qC a b k) j = mG (divQ a b k) j := by
  unfold mG qC
  rw [List.getD_eq_getElem?_getD, List.getElem?_append_left (by rw [divQ_len]; exact h), ← List.getD_eq_getElem?_getD]
theorem qC_set (a b : Md) (k : Nat) (h : k < 10) (p : Iv) (hp : p = ivDiv (divW a b (divQ a b k) k k) (mG b 0)) : (qC a b k).set k p = qC a b (k + 1) := by
  have hl := divQ_len a b k
  subst hp
  obtain ⟨m, hm⟩ : ∃ m, 10 - k = m + 1 := ⟨9 - k, by omega⟩
  unfold qC
  rw [List.set_append_right _ _ (by omega), hl, Nat.sub_self, hm, List.replicate_succ, List.set_cons_zero, divQ, show 10 - (k + 1) = m by omega]
  simp
abbrev divH (a b q : Md) : Heap := [(7, [ivC q]), (5, [[fl (rngM b).1, fl (rngM b).2]]), (2, [ivC (List.replicate 10 (0, 0))]), (1, [ivC b]), (0, [ivC a])]
abbrev divS (r : Sl) : Sl := (2, .ptr 0 0 0 20) :: (3, .ptr 1 0 0 20) :: (4, .ptr 2 0 0 20) :: (5, .ptr 5 0 0 2) :: (6, .ptr 7 0 0 20) :: r
set_option maxRecDepth 8000 in
theorem div_L1 (a b : Md) (k : Nat) (hb : b.length = 10) (hk : k < 9) (Q : Ex → T → Prop)
    (hQ : ∀ v w, Q (.exit 2) ⟨divS [(7, fI k), (8, .ptr 12 0 0 2), (9, v), (23, fI k), (32, w)], (12, [[fl (divW a b (divQ a b k) k k).1, fl (divW a b (divQ a b k) k k).2]]) :: divH a b (qC a b k)⟩) :
    WA Tryz.prog (fun _ => False) 67 (.loop A_model_Div_L1) Q ⟨divS [(7, fI k), (8, .ptr 12 0 0 2), (9, fI 1), (23, fI k)], (12, [[fl (divW a b (divQ a b k) k 0).1, fl (divW a b (divQ a b k) k 0).2]]) :: divH a b (qC a b k)⟩ := by
  have hl := qC_len a b k (by omega)
  refine WA_for (n := k) (fun c s => ∃ i, c + i = k ∧ s = ⟨divS [(7, fI k), (8, .ptr 12 0 0 2), (9, fI (i + 1 : Nat)), (23, fI k)], (12, [[fl (divW a b (divQ a b k) k i).1, fl (divW a b (divQ a b k) k i).2]]) :: divH a b (qC a b k)⟩) ⟨0, by omega, rfl⟩ ?_
  rintro c s ⟨i, hc, rfl⟩
  refine evx @A_model_Div_L1.eq_1 ?_
  refine condC_intro (fun h => ?_) (fun h => ?_)
  · replace h := of_decide_eq_true h
    have hik : i + 1 ≤ k := by omega
    have w1 : IntKind.i64.wrap ((k : Int) - ((i + 1 : Nat) : Int)) = ((k - (i + 1) : Nat) : Int) := by rw [wrapI (by omega) (by omega)]; omega
    simp -implicitDefEqProofs only [evI, hv, effC, reduceCtorEq, ↓reduceIte, n1_, n2_, n3_, n4_, n5_, i1_, i2_, i3_, i4_, i5_, i6_, i7_, w1, ivC_two b (i + 1) (by omega), ivC_two (qC a b k) (k - (i + 1)) (by omega), qC_get a b k (k - (i + 1)) (by omega)]
    (repeat (with_reducible refine And.intro (by omega) ?_))
    refine callSG_con (iv_Mul_con (mG b (i + 1)) (mG (divQ a b k) (k - (i + 1)))) rfl ?_
    refine ev ?_
    refine callG_con (iv_Sub_con (divW a b (divQ a b k) k i) (ivMul (mG b (i + 1)) (mG (divQ a b k) (k - (i + 1))))) rfl ?_
    refine ev ?_
    rw [show IntKind.i64.wrap (((i + 1 : Nat) : Int) + 1) = ((i + 1 + 1 : Nat) : Int) by rw [wrapI (by omega) (by omega)]; omega]
    exact ⟨c - 1, by omega, i + 1, by omega, rfl⟩
  · replace h := of_decide_eq_false h
    obtain rfl : i = k := by omega
    refine ev ?_
    exact hQ _ _
set_option maxRecDepth 8000 in
theorem div_L0 (a b : Md) (ha : a.length = 10) (hb : b.length = 10) (Q : Ex → T → Prop)
    (hQ : ∀ v w, Q (.exit 0) ⟨divS [(23, v), (24, w)], divH a b (qC a b 9)⟩) :
    WA Tryz.prog (fun _ => False) 67 (.loop A_model_Div_L0) Q ⟨divS [(23, fI 0)], divH a b (qC a b 0)⟩ := by
  refine WA_forW (n := 9) (fun c s => ∃ k, c + k = 9 ∧ s = ⟨divS [(23, fI k)], divH a b (qC a b k)⟩) (Le.refl _) ⟨0, by omega, rfl⟩ ?_
  rintro c s ⟨k, hc, rfl⟩
  refine evx @A_model_Div_L0.eq_1 ?_
  refine condC_intro (fun h => ?_) (fun h => ?_)
  · replace h := of_decide_eq_true h
    have hk : k < 9 := by omega
    have hl := qC_len a b k (by omega)
    simp -implicitDefEqProofs only [evI, hv, effC, reduceCtorEq, ↓reduceIte, n1_, n2_, n3_, n4_, n5_, i1_, i2_, i3_, i4_, i5_, i6_, i7_, ivC_two a k (by omega)]
    (repeat (with_reducible refine And.intro (by omega) ?_))
    refine div_L1 a b k hb hk _ fun v w => ?_
    simp -implicitDefEqProofs only [evI, hv, effC, reduceCtorEq, ↓reduceIte, n1_, n2_, n3_, n4_, n5_, i1_, i2_, i3_, i4_, i5_, i6_, i7_, ivC_0 b (by omega)]
    (repeat (with_reducible refine And.intro (by omega) ?_))
    refine callG_con (iv_Div_con (divW a b (divQ a b k) k k) (mG b 0)) rfl ?_
    refine ev ?_
    (repeat (with_reducible refine And.intro (by omega) ?_))
    rw [wrapI (by omega) (by omega), ivC_put _ _ _ _ (by omega), qC_set a b k (by omega) _ rfl]
    exact ⟨c - 1, _, by omega, LeT.only (fun X => decide (X ≤ 7)) (fun _ h => h) rfl (by simp (maxDischargeDepth := 6) [kpS, fam_cons, fam_nil, KpA_ivC']) (by simp (maxDischargeDepth := 6) [kpS, fam_cons, fam_nil, KpA_ivC']), k + 1, by omega, rfl⟩
  · replace h := of_decide_eq_false h
    obtain rfl : k = 9 := by omega
    refine ev ?_
    exact hQ _ _
set_option maxRecDepth 8000 in
theorem model_Div_con (a b : Md) (ha : a.length = 10) (hb : b.length = 10) : Con Tryz.prog 130 [mdV a, mdV b] (mdV (divM a b)) := by
  refine Con_introA A_model_Div_comp rfl mixed ?_
  refine evx @A_model_Div.eq_1 ?_
  (repeat (with_reducible refine And.intro (by omega) ?_))
  rw [ivC_20 b hb]
  first | refine callG_con (model_Range_con b hb) (by simp [bare_d, ivC_bare]) ?_ | refine callCG_con (model_Range_con b hb) (by simp [bare_d, ivC_bare]) ?_ | refine callSG_con (model_Range_con b hb) (by simp [bare_d, ivC_bare]) ?_
  refine ev ?_
  rw [ivC_0 b (by omega)]
  (repeat (with_reducible refine And.intro (by omega) ?_))
  refine callSG_con (iv_In_con 0 (mG b 0)) rfl ?_
  rw [in0_eq]
  refine ev ?_
  refine callG_con (iv_In_con 0 (rngM b)) rfl ?_
  rw [in0_eq]
  simp -implicitDefEqProofs only [evI, hv, effC, reduceCtorEq, ↓reduceIte, n1_, n2_, n3_, n4_, n5_, i1_, i2_, i3_, i4_, i5_, i6_, i7_, aeq, Option.map_some]
  have e0 : (in0 (mG b 0) == false && in0 (rngM b) == false ^^ true) = (in0 (mG b 0) || in0 (rngM b)) := by cases in0 (mG b 0) <;> cases in0 (rngM b) <;> rfl
  rw [e0]
  unfold divM
  cases hd : (in0 (mG b 0) || in0 (rngM b))
  · have e1 : qC a b 0 = List.replicate 10 (0, 0) := rfl
    have e2 : ofM [] = List.replicate 10 (0, 0) := by rfl
    refine ev ?_
    refine callG_con (model_Of_nil_con) rfl ?_
    refine ev ?_
    rw [e2]
    (repeat (with_reducible refine And.intro (by omega) ?_))
    rw [splice_all _ _ (by rw [ivC_length]; rfl), ← e1]
    refine ⟨by rw [e1]; rfl, ?_⟩
    refine div_L0 a b ha hb _ fun v w => ?_
    have hl := qC_len a b 9 (by decide)
    have hq : divQ a b 9 ++ [(0, 0)] = qC a b 9 := rfl
    have hset : (qC a b 9).set 9 (ivDiv (rngM (zipM ivSub a (mulM b (qC a b 9)))) (rngM b)) = divQ a b 9 ++ [ivDiv (rngM (zipM ivSub a (mulM b (qC a b 9)))) (rngM b)] := by
      have := divQ_len a b 9
      unfold qC
      rw [List.set_append_right _ _ (by omega), this]; rfl
    rw [hq, ← hset]
    generalize qC a b 9 = q at hl ⊢
    refine evx (And.intro (ivC_20 a ha) (And.intro (ivC_20 b hb) (ivC_20 q hl))) ?_
    (repeat (with_reducible refine And.intro (by omega) ?_))
    first | refine callG_con (model_Mul_con b q hb hl) (by simp [bare_d, ivC_bare]) ?_ | refine callCG_con (model_Mul_con b q hb hl) (by simp [bare_d, ivC_bare]) ?_ | refine callSG_con (model_Mul_con b q hb hl) (by simp [bare_d, ivC_bare]) ?_
    refine ev ?_
    first | refine callG_con (model_Sub_con a (mulM b q) ha (mulM_len b q)) (by simp [bare_d, ivC_bare]) ?_ | refine callCG_con (model_Sub_con a (mulM b q) ha (mulM_len b q)) (by simp [bare_d, ivC_bare]) ?_ | refine callSG_con (model_Sub_con a (mulM b q) ha (mulM_len b q)) (by simp [bare_d, ivC_bare]) ?_
    refine ev ?_
    first | refine callG_con (model_Range_con (zipM ivSub a (mulM b q)) (zipM_len _ _ _)) (by simp [bare_d, ivC_bare]) ?_ | refine callCG_con (model_Range_con (zipM ivSub a (mulM b q)) (zipM_len _ _ _)) (by simp [bare_d, ivC_bare]) ?_ | refine callSG_con (model_Range_con (zipM ivSub a (mulM b q)) (zipM_len _ _ _)) (by simp [bare_d, ivC_bare]) ?_
    refine ev ?_
    refine callG_con (iv_Div_con (rngM (zipM ivSub a (mulM b q))) (rngM b)) rfl ?_
    generalize ivDiv (rngM (zipM ivSub a (mulM b q))) (rngM b) = r
    refine ev ?_
    have f : ((ivC q).set 18 (fl r.1)).set 19 (fl r.2) = ivC (q.set 9 r) := ivC_put q 9 r.1 r.2 (by omega)
    have hl2 : (q.set 9 r).length = 10 := by rw [List.length_set]; exact hl
    rw [f]
    simp -implicitDefEqProofs only [evI, hv, effC, reduceCtorEq, ↓reduceIte, n1_, n2_, n3_, n4_, n5_, i1_, i2_, i3_, i4_, i5_, i6_, i7_, ivC_20 _ hl2]
    (repeat (with_reducible refine And.intro (by omega) ?_))
    rw [splice_all _ _ (by rw [ivC_length, hl2]; rfl)]
    exact endsT_ivs _ (by omega) (by decide) rfl rfl rfl
  · have hn : noneM.length = 10 := by rfl
    refine ev ?_
    refine callG_con (model_none_con) rfl ?_
    refine ev ?_
    (repeat (with_reducible refine And.intro (by omega) ?_))
    rw [splice_all _ _ (by rw [ivC_length, hn]; rfl)]
    exact endsT_ivs _ (by omega) (by decide) rfl rfl rfl
def A_model_Eval_L0 : CA := (.seq (.reg [i_N 0 15 .lss 14 13] [1, 2, 5, 12, 13, 14, 15]) (.seq (.cond (.t 15) .skip (.exit 0)) (.seq (.block 1 (.seq (.reg [i_I 0 16 12 14 4, i_A 1 17 16 4, i_X 2 7 (.alloc [(.d (.int .i64 0)), (.d (.int .i64 0)), (.d (.int .i64 0)), (.d (.flt 0))] 62), i_S 3 7 17 4] [1, 2, 5, 7, 12, 13, 14]) (.seq (.reg [i_P 0 18 7 0, i_L 1 19 18 1] [1, 2, 5, 7, 12, 13, 14, 19]) (.block 2 (.seq (.reg [i_B 0 21 .eql 19 0, i_M 1 20 21] [1, 2, 5, 7, 12, 13, 14, 19, 20]) (.cond (.t 20) (.reg [i_M 0 22 5, i_P 1 23 7 3, i_L 2 24 23 1, i_X 3 25 (.bslice [(.d (.flt 0))] 1 1 [(0, (1, (.t 24)))] 31), i_X 4 26 (.callA (kF 76) [(.t 25)]), i_X 5 27 (.bslice z_20 1 20 [(0, (20, (.t 26)))] 87), i_X 6 28 (.app (.t 22) (.t 27) 20 160), i_M 7 5 28] [1, 2, 5, 12, 13, 14]) (.seq (.reg [i_B 0 30 .eql 19 1, i_M 1 29 30] [1, 2, 5, 7, 12, 13, 14, 19, 29]) (.cond (.t 29) (.reg [i_M 0 31 5, i_M 1 32 1, i_P 2 33 7 1, i_L 3 34 33 1, i_I 4 35 32 34 20, i_A 5 36 35 20, i_X 6 37 (.bslice z_20 1 20 [(0, (20, (.t 36)))] 87), i_X 7 38 (.app (.t 31) (.t 37) 20 160), i_M 8 5 38] [1, 2, 5, 12, 13, 14]) (.seq (.reg [i_B 0 40 .eql 19 2, i_M 1 39 40] [1, 2, 5, 7, 12, 13, 14, 19, 39]) (.cond (.t 39) (.reg [i_M 0 41 5, i_M 1 42 5, i_P 2 43 7 1, i_L 3 44 43 1, i_I 4 45 42 44 20, i_A 5 46 45 20, i_M 6 47 5, i_P 7 48 7 2, i_L 8 49 48 1, i_I 9 50 47 49 20, i_A 10 51 50 20, i_X 11 52 (.callA (kF 128) [(.t 46), (.t 51)]), i_X 12 53 (.bslice z_20 1 20 [(0, (20, (.t 52)))] 87), i_X 13 54 (.app (.t 41) (.t 53) 20 160), i_M 14 5 54] [1, 2, 5, 12, 13, 14]) (.seq (.reg [i_B 0 56 .eql 19 3, i_M 1 55 56] [1, 2, 5, 7, 12, 13, 14, 19, 55]) (.cond (.t 55) (.reg [i_M 0 57 5, i_M 1 58 5, i_P 2 59 7 1, i_L 3 60 59 1, i_I 4 61 58 60 20, i_A 5 62 61 20, i_M 6 63 5, i_P 7 64 7 2, i_L 8 65 64 1, i_I 9 66 63 65 20, i_A 10 67 66 20, i_X 11 68 (.callA (kF 85) [(.t 62), (.t 67)]), i_X 12 69 (.bslice z_20 1 20 [(0, (20, (.t 68)))] 87), i_X 13 70 (.app (.t 57) (.t 69) 20 160), i_M 14 5 70] [1, 2, 5, 12, 13, 14]) (.seq (.reg [i_B 0 72 .eql 19 4, i_M 1 71 72] [1, 2, 5, 7, 12, 13, 14, 19, 71]) (.cond (.t 71) (.reg [i_M 0 73 5, i_M 1 74 5, i_P 2 75 7 1, i_L 3 76 75 1, i_I 4 77 74 76 20, i_A 5 78 77 20, i_M 6 79 5, i_P 7 80 7 2, i_L 8 81 80 1, i_I 9 82 79 81 20, i_A 10 83 82 20, i_X 11 84 (.callA (kF 129) [(.t 78), (.t 83)]), i_X 12 85 (.bslice z_20 1 20 [(0, (20, (.t 84)))] 87), i_X 13 86 (.app (.t 73) (.t 85) 20 160), i_M 14 5 86] [1, 2, 5, 12, 13, 14]) (.seq (.reg [i_B 0 88 .eql 19 5, i_M 1 87 88] [1, 2, 5, 7, 12, 13, 14, 87]) (.cond (.t 87) (.reg [i_M 0 89 5, i_M 1 90 5, i_P 2 91 7 1, i_L 3 92 91 1, i_I 4 93 90 92 20, i_A 5 94 93 20, i_M 6 95 5, i_P 7 96 7 2, i_L 8 97 96 1, i_I 9 98 95 97 20, i_A 10 99 98 20, i_X 11 100 (.callA (kF 130) [(.t 94), (.t 99)]), i_X 12 101 (.bslice z_20 1 20 [(0, (20, (.t 100)))] 87), i_X 13 102 (.app (.t 89) (.t 101) 20 160), i_M 14 5 102] [1, 2, 5, 12, 13, 14]) .skip)))))))))))))))) (.reg [i_B 0 103 .add 14 1, i_M 1 14 103] [1, 2, 5, 12, 13, 14]))))
def A_model_Eval_L1 : CA := (.seq (.reg [i_N 0 111 .lss 110 109] [5, 8, 108, 109, 110, 111]) (.seq (.cond (.t 111) .skip (.exit 3)) (.seq (.block 4 (.seq (.reg [i_M 0 112 110, i_I 1 113 108 110 1, i_L 2 114 113 1, i_M 3 9 112, i_M 4 10 114] [5, 8, 9, 10, 108, 109, 110]) (.reg [i_M 0 115 8, i_M 1 116 9, i_M 2 117 5, i_M 3 118 10, i_I 4 119 117 118 20, i_A 5 120 119 20, i_I 6 121 115 116 20, i_S 7 121 120 20] [5, 8, 108, 109, 110]))) (.reg [i_B 0 122 .add 110 1, i_M 1 110 122] [5, 8, 108, 109, 110]))))
def A_model_Eval : CA := (.seq (.reg [i_X 0 2 (.box (.t 0) 3 28), i_X 1 4 (.h (.mov (.k .nil)))] [1, 2]) (.seq (.reg [i_X 0 5 (.h (.mov (.k .nil)))] [1, 2, 5]) (.seq (.seq (.reg [i_P 0 11 2 1, i_L 1 12 11 1, i_X 2 13 (.h (.len (.t 12))), i_K 3 14 0] [1, 2, 5, 12, 13, 14]) (.block 0 (.loop A_model_Eval_L0))) (.seq (.reg [i_P 0 104 2 0, i_L 1 105 104 1, i_X 2 106 (.mksl z_20 20 160 (.t 105) (.t 105) 87), i_M 3 8 106] [2, 5, 8]) (.seq (.seq (.reg [i_P 0 107 2 2, i_L 1 108 107 1, i_X 2 109 (.h (.len (.t 108))), i_K 3 110 0] [5, 8, 108, 109, 110]) (.block 3 (.loop A_model_Eval_L1))) (.seq (.reg [i_M 0 123 8, i_M 1 4 123] [4]) .ret))))))
theorem A_model_Eval_comp : compF Tryz.prog 82 = some ⟨124, [(4, none)], A_model_Eval.strip⟩ := by kernel_rfl
theorem scalar_iv (ps : List Iv) : Scalar (.agg (ivC ps)) := by
  refine .agg fun j hj => ?_
  rw [ivC_data, List.getD_eq_getElem?_getD, List.getElem?_map]
  have hj2 : j < (ivDs ps).length := by rw [ivC_data, List.length_map] at hj; exact hj
  rw [List.getElem?_eq_getElem hj2]
  show Scalar (.d (ivDs ps)[j])
  have : ∀ d ∈ ivDs ps, Scalar (.d d) := fun d hd => by
    unfold ivDs at hd
    obtain ⟨p, _, hp⟩ := List.mem_flatMap.1 hd
    simp at hp
    rcases hp with rfl | rfl <;> exact .flt _
  exact this _ (List.getElem_mem hj2)
theorem mdG_len (r : List Md) (i : Nat) (h : (r.getD i []).length = 10) : (mdG r i).length = 20 := by show (ivDs _).length = 20; rw [ivDs_len, h]
theorem regM_pre (t : Tp) (x : List Md) (i j : Nat) (h : j < i) : (regM t x (i + 1)).getD j [] = (regM t x i).getD j [] := by
  have hl := regM_len t x i
  rw [regM, List.getD_eq_getElem?_getD, List.getElem?_append_left (by omega), ← List.getD_eq_getElem?_getD]
theorem regM_last (t : Tp) (x : List Md) (i : Nat) : (regM t x (i + 1)).getD i [] = opM (t.ops.getD i ⟨0, 0, 0, 0⟩) x (regM t x i) := by
  have hl := regM_len t x i
  rw [regM, List.getD_eq_getElem?_getD, List.getElem?_append_right (by omega), hl, Nat.sub_self]; rfl
theorem regM_step (t : Tp) (x : List Md) (i : Nat) : dcells (i + 1) (mdG (regM t x (i + 1))) = dcells i (mdG (regM t x i)) ++ ivC (opM (t.ops.getD i ⟨0, 0, 0, 0⟩) x (regM t x i)) := by
  rw [dcells_succ]
  have e : dcells i (mdG (regM t x (i + 1))) = dcells i (mdG (regM t x i)) := by
    unfold dcells
    rw [dcB_congr fun j hj => ?_]
    simp only [mdG, regM_pre t x i j hj]
  rw [e, ivC_data, mdG, regM_last]
def outG (g : Nat → Md) (i j : Nat) : List D := if j < i then ivDs (g j) else ivDs (List.replicate 10 (0, 0))
theorem outG_len (g : Nat → Md) (i j : Nat) (h : (g j).length = 10) : (outG g i j).length = 20 := by
  unfold outG; split
  · rw [ivDs_len, h]
  · rw [ivDs_len]; rfl
theorem splice_block {get get' : Nat → List D} {esz : Nat} (n : Nat) (h : ∀ i, i < n → (get i).length = esz) (h' : ∀ i, i < n → (get' i).length = esz) (i : Nat) (hi : i < n) (he : ∀ j, j < n → j ≠ i → get' j = get j) : splice (dcells n get) (i * esz) ((get' i).map .d) = dcells n get' := by
  have l1 := dcells_len n h
  have l2 := dcells_len n h'
  refine List.ext_getElem? fun k => ?_
  rw [splice_at, List.length_map, h' i hi, l1]
  by_cases hk : k < n * esz
  · have e0 : 0 < esz := by
      rcases Nat.eq_zero_or_pos esz with h0 | h0
      · subst h0; simp at hk
      · exact h0
    have e1 : k / esz < n := (Nat.div_lt_iff_lt_mul e0).2 hk
    have e2 : k % esz < esz := Nat.mod_lt _ e0
    have e3 : k / esz * esz + k % esz = k := Nat.div_add_mod' k esz
    have g1 := dcells_get n h (k / esz) (k % esz) e1 e2
    have g2 := dcells_get n h' (k / esz) (k % esz) e1 e2
    rw [e3, List.getD_eq_getElem?_getD, List.getElem?_eq_getElem (by omega)] at g1 g2
    rw [List.getElem?_eq_getElem (by omega : k < (dcells n get').length)]
    by_cases hb : i * esz ≤ k ∧ k < i * esz + esz ∧ k < n * esz
    · rw [if_pos hb]
      have ei : k / esz = i := by
        refine Nat.div_eq_of_lt_le (by omega) ?_
        rw [Nat.succ_mul]; omega
      have ej : k - i * esz = k % esz := by rw [← ei]; omega
      rw [ej, List.getElem?_map, List.getElem?_eq_getElem (by rw [h' i hi]; exact e2)]
      simp only [Option.getD_some] at g2
      rw [g2, ei]
      simp [List.getD_eq_getElem?_getD, h' i hi, e2]
    · rw [if_neg hb, List.getElem?_eq_getElem (by omega)]
      have en : k / esz ≠ i := fun e => hb ⟨by rw [← e]; omega, by rw [← e]; omega, hk⟩
      simp only [Option.getD_some] at g1 g2
      rw [g1, g2, he _ e1 en]
  · rw [if_neg (by omega), List.getElem?_eq_none (by omega), List.getElem?_eq_none (by omega)]
theorem outG_zero (g : Nat → Md) (n : Nat) : repl n [fl 0, fl 0, fl 0, fl 0, fl 0, fl 0, fl 0, fl 0, fl 0, fl 0, fl 0, fl 0, fl 0, fl 0, fl 0, fl 0, fl 0, fl 0, fl 0, fl 0] = dcells n (outG g 0) := by
  induction n with
  | zero => rfl
  | succ n ih =>
    rw [dcells_succ, ← ih]
    unfold repl
    rw [List.replicate_succ', List.flatten_append]
    rfl
theorem outG_all (g : Nat → Md) (n : Nat) : dcells n (outG g n) = dcells n fun j => ivDs (g j) := by
  unfold dcells
  rw [dcB_congr fun j hj => by unfold outG; rw [if_pos hj]]
theorem mdG_map (r : List Md) (i : Nat) : (mdG r i).map V.d = ivC (r.getD i []) := (ivC_data _).symm
theorem ivC_len20 (p : Md) (h : p.length = 10) : (ivC p).length = 20 := by rw [ivC_length, h]
theorem splice_z20 (p : Md) (h : p.length = 10) : splice [fl 0, fl 0, fl 0, fl 0, fl 0, fl 0, fl 0, fl 0, fl 0, fl 0, fl 0, fl 0, fl 0, fl 0, fl 0, fl 0, fl 0, fl 0, fl 0, fl 0] 0 (ivC p) = ivC p := splice_all _ _ (by rw [ivC_length, h]; rfl)
set_option maxRecDepth 8000 in
theorem model_Eval_con (t : Tp) (x : List Md) (ht : Tok t) (hx : x.length = t.n) (hxr : ∀ i, i < t.n → (x.getD i []).length = 10) (hlen : t.ops.length < 2 ^ 39) : Con Tryz.prog 82 [tapeV t, .d (mdD x)] (.d (mdD (evalM t x))) := by
  refine Con_introA A_model_Eval_comp rfl mixed ?_
  refine evx @A_model_Eval.eq_1 ?_
  refine evx @opsD.eq_1 ?_
  refine WA_forW (n := t.ops.length) (fun c s => ∃ i, c + i = t.ops.length ∧ s = ⟨[(1, .d (mdD x)), (2, .ptr 0 0 0 3), (5, .sl 100 0 0 i 20 (i * 20)), (12, .d (opsD t.ops)), (13, fI t.ops.length), (14, fI i)],
      [(100, [dcells i (mdG (regM t x i))]), (0, [[fI t.n, .d (opsD t.ops), .d (rowI t.out)]])]⟩)
    (s0 := ⟨_, _⟩) (LeT.nilrow (X := 100) (esz := 20) (as' := [(1, .d (mdD x)), (2, .ptr 0 0 0 3), (5, .sl 100 0 0 0 20 0), (12, .d (opsD t.ops)), (13, fI t.ops.length), (14, fI 0)]) (by simp [fam_cons, fam_nil]) (fun h => h) fun i => ?_) ⟨0, by omega, rfl⟩ ?_
  · simp only [look]
    repeat' split
    all_goals simp [opsD]
  rintro c s ⟨i, hc, rfl⟩
  have hl := regM_len t x i
  have hrr : ∀ j, j < i → ((regM t x i).getD j []).length = 10 := regM_rows t x ht hxr i (by omega)
  have hcl : (dcells i (mdG (regM t x i))).length = i * 20 := dcells_len i fun j hj => mdG_len _ _ (hrr j hj)
  refine evx (And.intro @A_model_Eval_L0.eq_1 @opsD.eq_1) ?_
  refine condC_intro (fun h => ?_) (fun h => ?_)
  · replace h := of_decide_eq_true h
    have hop := ht.op i h
    have hstep := regM_step t x i
    generalize ho : t.ops.getD i ⟨0, 0, 0, 0⟩ = o at hop hstep
    refine evx (And.intro @opG.eq_1 ho) ?_
    rcases hop with hk | ⟨hk, ha⟩ | ⟨hk, ha, hb⟩
    · have hp := ofM_len [o.c]
      have e : dcells (i + 1) (mdG (regM t x (i + 1))) = dcells i (mdG (regM t x i)) ++ ivC (ofM [o.c]) := by rw [hstep]; simp [opM, hk]
      refine evx hk ?_
      (repeat (with_reducible refine And.intro (by omega) ?_))
      refine callG_snaps [.d (rowD [o.c])] (model_Of_con [o.c] (by simp)) ⟨snp_row rfl rfl rfl, trivial⟩ (scalar_iv _) ?_
      generalize ofM [o.c] = p at hp e ⊢
      refine evx (And.intro (ivC_len20 p hp) (And.intro (splice_z20 p hp) (ivC_20 p hp))) ?_
      (repeat (with_reducible refine And.intro (by omega) ?_))
      rw [show i * 20 + 20 = (i + 1) * 20 by omega, wrapI (by omega) (by omega), ← e]
      exact ⟨c - 1, _, by omega, LeT.only (fun X => decide (X ≤ 100)) (fun _ h => h) rfl (by simp [kpS]) (by simp [kpS]), i + 1, by omega, rfl⟩
    · have hp := hxr o.a.toNat (by omega)
      have e : dcells (i + 1) (mdG (regM t x (i + 1))) = dcells i (mdG (regM t x i)) ++ ivC (x.getD o.a.toNat []) := by rw [hstep]; simp [opM, hk]
      have hg := mdG_len x o.a.toNat hp
      simp -implicitDefEqProofs only [evI, hv, effC, reduceCtorEq, ↓reduceIte, n1_, n2_, n3_, n4_, n5_, i1_, i2_, i3_, i4_, i5_, i6_, i7_, hk, Int.reduceBEq, mdD, mdG_map, hg, ivC_20 _ hp, ivC_len20 _ hp, splice_z20 _ hp]
      (repeat (with_reducible refine And.intro (by omega) ?_))
      rw [show i * 20 + 20 = (i + 1) * 20 by omega, wrapI (by omega) (by omega), ← e]
      exact ⟨c - 1, _, by omega, LeT.only (fun X => decide (X ≤ 100)) (fun _ h => h) rfl (by simp [kpS]) (by simp [kpS]), i + 1, by omega, rfl⟩
    · have ga := md_block (regM t x i) i hrr o.a.toNat (by omega)
      have gb := md_block (regM t x i) i hrr o.b.toNat (by omega)
      have la := hrr o.a.toNat (by omega)
      have lb := hrr o.b.toNat (by omega)
      rcases hk with hk | hk | hk | hk
      · have hp := zipM_len ivAdd ((regM t x i).getD o.a.toNat []) ((regM t x i).getD o.b.toNat [])
        have e : dcells (i + 1) (mdG (regM t x (i + 1))) = dcells i (mdG (regM t x i)) ++ ivC (zipM ivAdd ((regM t x i).getD o.a.toNat []) ((regM t x i).getD o.b.toNat [])) := by rw [hstep]; simp [opM, hk]
        refine evbx (And.intro hk (And.intro ga gb)) ?_
        (repeat (with_reducible refine And.intro (by omega) ?_))
        first | refine callG_con (model_Add_con _ _ la lb) (by simp [bare_d, ivC_bare]) ?_ | refine callCG_con (model_Add_con _ _ la lb) (by simp [bare_d, ivC_bare]) ?_ | refine callSG_con (model_Add_con _ _ la lb) (by simp [bare_d, ivC_bare]) ?_
        generalize zipM ivAdd ((regM t x i).getD o.a.toNat []) ((regM t x i).getD o.b.toNat []) = p at hp e ⊢
        refine evx (And.intro (ivC_len20 p hp) (And.intro (splice_z20 p hp) (ivC_20 p hp))) ?_
        (repeat (with_reducible refine And.intro (by omega) ?_))
        rw [show i * 20 + 20 = (i + 1) * 20 by omega, wrapI (by omega) (by omega), ← e]
        exact ⟨c - 1, _, by omega, LeT.only (fun X => decide (X ≤ 100)) (fun _ h => h) rfl (by simp [kpS]) (by simp [kpS]), i + 1, by omega, rfl⟩
      · have hp := zipM_len ivSub ((regM t x i).getD o.a.toNat []) ((regM t x i).getD o.b.toNat [])
        have e : dcells (i + 1) (mdG (regM t x (i + 1))) = dcells i (mdG (regM t x i)) ++ ivC (zipM ivSub ((regM t x i).getD o.a.toNat []) ((regM t x i).getD o.b.toNat [])) := by rw [hstep]; simp [opM, hk]
        refine evbx (And.intro hk (And.intro ga gb)) ?_
        (repeat (with_reducible refine And.intro (by omega) ?_))
        first | refine callG_con (model_Sub_con _ _ la lb) (by simp [bare_d, ivC_bare]) ?_ | refine callCG_con (model_Sub_con _ _ la lb) (by simp [bare_d, ivC_bare]) ?_ | refine callSG_con (model_Sub_con _ _ la lb) (by simp [bare_d, ivC_bare]) ?_
        generalize zipM ivSub ((regM t x i).getD o.a.toNat []) ((regM t x i).getD o.b.toNat []) = p at hp e ⊢
        refine evx (And.intro (ivC_len20 p hp) (And.intro (splice_z20 p hp) (ivC_20 p hp))) ?_
        (repeat (with_reducible refine And.intro (by omega) ?_))
        rw [show i * 20 + 20 = (i + 1) * 20 by omega, wrapI (by omega) (by omega), ← e]
        exact ⟨c - 1, _, by omega, LeT.only (fun X => decide (X ≤ 100)) (fun _ h => h) rfl (by simp [kpS]) (by simp [kpS]), i + 1, by omega, rfl⟩
      · have hp := mulM_len ((regM t x i).getD o.a.toNat []) ((regM t x i).getD o.b.toNat [])
        have e : dcells (i + 1) (mdG (regM t x (i + 1))) = dcells i (mdG (regM t x i)) ++ ivC (mulM ((regM t x i).getD o.a.toNat []) ((regM t x i).getD o.b.toNat [])) := by rw [hstep]; simp [opM, hk]
        refine evbx (And.intro hk (And.intro ga gb)) ?_
        (repeat (with_reducible refine And.intro (by omega) ?_))
        first | refine callG_con (model_Mul_con _ _ la lb) (by simp [bare_d, ivC_bare]) ?_ | refine callCG_con (model_Mul_con _ _ la lb) (by simp [bare_d, ivC_bare]) ?_ | refine callSG_con (model_Mul_con _ _ la lb) (by simp [bare_d, ivC_bare]) ?_
        generalize mulM ((regM t x i).getD o.a.toNat []) ((regM t x i).getD o.b.toNat []) = p at hp e ⊢
        refine evx (And.intro (ivC_len20 p hp) (And.intro (splice_z20 p hp) (ivC_20 p hp))) ?_
        (repeat (with_reducible refine And.intro (by omega) ?_))
        rw [show i * 20 + 20 = (i + 1) * 20 by omega, wrapI (by omega) (by omega), ← e]
        exact ⟨c - 1, _, by omega, LeT.only (fun X => decide (X ≤ 100)) (fun _ h => h) rfl (by simp [kpS]) (by simp [kpS]), i + 1, by omega, rfl⟩
      · have hp := divM_len ((regM t x i).getD o.a.toNat []) ((regM t x i).getD o.b.toNat [])
        have e : dcells (i + 1) (mdG (regM t x (i + 1))) = dcells i (mdG (regM t x i)) ++ ivC (divM ((regM t x i).getD o.a.toNat []) ((regM t x i).getD o.b.toNat [])) := by rw [hstep]; simp [opM, hk]
        refine evbx (And.intro hk (And.intro ga gb)) ?_
        (repeat (with_reducible refine And.intro (by omega) ?_))
        first | refine callG_con (model_Div_con _ _ la lb) (by simp [bare_d, ivC_bare]) ?_ | refine callCG_con (model_Div_con _ _ la lb) (by simp [bare_d, ivC_bare]) ?_ | refine callSG_con (model_Div_con _ _ la lb) (by simp [bare_d, ivC_bare]) ?_
        generalize divM ((regM t x i).getD o.a.toNat []) ((regM t x i).getD o.b.toNat []) = p at hp e ⊢
        refine evx (And.intro (ivC_len20 p hp) (And.intro (splice_z20 p hp) (ivC_20 p hp))) ?_
        (repeat (with_reducible refine And.intro (by omega) ?_))
        rw [show i * 20 + 20 = (i + 1) * 20 by omega, wrapI (by omega) (by omega), ← e]
        exact ⟨c - 1, _, by omega, LeT.only (fun X => decide (X ≤ 100)) (fun _ h => h) rfl (by simp [kpS]) (by simp [kpS]), i + 1, by omega, rfl⟩
  · replace h := of_decide_eq_false h
    have e : i = t.ops.length := by omega
    subst e
    have hn := ht.n
    have hol := ht.outl
    have hev := evalM_rows t x ht hxr
    have hel := evalM_len t x
    have hg0 : ∀ j, j < t.n → (evalM t x).getD j [] = (regM t x t.ops.length).getD (t.out.getD j 0).toNat [] := fun j hj => by
      unfold evalM
      rw [List.getD_eq_getElem?_getD, List.getElem?_map, List.getElem?_range hj]; rfl
    refine ev ?_
    (repeat (with_reducible refine And.intro (by omega) ?_))
    rw [outG_zero (fun j => (evalM t x).getD j [])]
    refine WA_for (n := t.n) (fun c s => ∃ i, c + i = t.n ∧ s = ⟨[(5, .sl 100 0 0 t.ops.length 20 (t.ops.length * 20)), (8, .sl 103 0 0 t.n 20 (t.n * 20)), (108, .d (rowI t.out)), (109, fI t.n), (110, fI i)],
      [(103, [dcells t.n (outG (fun j => (evalM t x).getD j []) i)]), (100, [dcells t.ops.length (mdG (regM t x t.ops.length))]), (0, [[fI t.n, .d (opsD t.ops), .d (rowI t.out)]])]⟩) ⟨0, by omega, by rw [← hol]; rfl⟩ ?_
    rintro c s ⟨i, hc, rfl⟩
    have hlo := fun i => dcells_len (esz := 20) t.n (get := outG (fun j => (evalM t x).getD j []) i) (fun j hj => outG_len _ _ _ (hev j hj))
    have hli := hlo i
    refine evx @A_model_Eval_L1.eq_1 ?_
    refine condC_intro (fun h => ?_) (fun h => ?_)
    · replace h := of_decide_eq_true h
      have hi : i < t.n := by omega
      have ho := ht.out i hi
      have gb := md_block (regM t x t.ops.length) t.ops.length hrr (t.out.getD i 0).toNat (by omega)
      rw [← hg0 i hi] at gb
      have hp := hev i hi
      simp -implicitDefEqProofs only [evI, hv, effC, reduceCtorEq, ↓reduceIte, n1_, n2_, n3_, n4_, n5_, i1_, i2_, i3_, i4_, i5_, i6_, i7_, gb, ivC_len20 _ hp]
      (repeat (with_reducible refine And.intro (by omega) ?_))
      have es : splice (dcells t.n (outG (fun j => (evalM t x).getD j []) i)) (i * 20) (ivC ((evalM t x).getD i [])) = dcells t.n (outG (fun j => (evalM t x).getD j []) (i + 1)) := by
        have := splice_block (esz := 20) t.n (get := outG (fun j => (evalM t x).getD j []) i) (get' := outG (fun j => (evalM t x).getD j []) (i + 1)) (fun j hj => outG_len _ _ _ (hev j hj)) (fun j hj => outG_len _ _ _ (hev j hj)) i hi (fun j _ hne => by
          unfold outG
          by_cases e : j < i
          · rw [if_pos e, if_pos (by omega)]
          · rw [if_neg e, if_neg (by omega)])
        rw [← this]
        unfold outG
        rw [if_pos (by omega), ← ivC_data]
      rw [wrapI (by omega) (by omega), es]
      exact ⟨c - 1, by omega, i + 1, by omega, rfl⟩
    · replace h := of_decide_eq_false h
      have e : i = t.n := by omega
      subst e
      refine evx @Nat.lt_irrefl ?_
      rw [outG_all]
      refine endsT_le (.sl 103 0 0 t.n 20 (t.n * 20)) (fun _ h => h) (resV_tmpI (t := 4) (by decide) rfl) ?_
      unfold mdD
      rw [hel]
      exact .d (snapF_data (esz := 20) (fun Y q h => by simp [get_nil] at h) (by simp [get_cons]; rfl) (fun j hj => mdG_len _ _ (hev j hj)) rfl)
end Go.Ab
namespace Go.Ab
set_option linter.unusedSimpArgs false
set_option linter.unusedVariables false
open Go Go.Proofs
section
variable (o : OpN) (r : List Nat) (dr : List (List Nat)) (n i q : Nat)
variable (ha : 0 ≤ o.a ∧ o.a < r.length) (hb : 0 ≤ o.b ∧ o.b < r.length) (la : (dr.getD o.a.toNat []).length = n) (lb : (dr.getD o.b.toNat []).length = n) (hi : i < n)
include ha hb la lb hi
end
theorem regs_last (t : Tp) (x : List Nat) (i : Nat) : (regs t x (i + 1)).getD i 0 = opV (t.ops.getD i ⟨0, 0, 0, 0⟩) x (regs t x i) := by
  have h1 := regs_len t x i
  rw [regs, List.getD_eq_getElem?_getD, List.getElem?_append_right (by omega), h1, Nat.sub_self]; rfl
theorem drs_last (t : Tp) (x : List Nat) (i : Nat) : (drs t x (i + 1)).getD i [] = tabR (slo (t.ops.getD i ⟨0, 0, 0, 0⟩) (opV (t.ops.getD i ⟨0, 0, 0, 0⟩) x (regs t x i)) (regs t x i) (drs t x i)) t.n := by
  have h1 := drs_len t x i
  rw [drs, List.getD_eq_getElem?_getD, List.getElem?_append_right (by omega), h1, Nat.sub_self]; rfl
abbrev jtT (t : Tp) : List V := [fI t.n, .d (opsD t.ops), .d (rowI t.out)]
abbrev opC (o : OpN) : List V := [fI o.k, fI o.a, fI o.b, fl o.c]
theorem jacT_len (t : Tp) (x : List Nat) : (jacT t x).length = t.n := by simp [jacT]
end Go.Ab
namespace Go.Ab
set_option linter.unusedSimpArgs false
set_option linter.unusedVariables false
open Go Go.Proofs
def A_jac_ranges : CA := (.seq (.reg [i_X 0 0 (.alloc [(.d .nilf), (.d .nilf), (.d .nilf), (.d .nilf), (.d .nilf)] 142)] [0]) (.seq (.reg [i_X 0 1 (.h (.build [(.d .nilf), (.d .nilf), (.d .nilf), (.d .nilf), (.d .nilf)] [(0, (1, (kF 137))), (1, (1, (kF 92))), (2, (1, (kF 79))), (3, (1, (kF 125))), (4, (1, (kF 131)))])), i_S 1 0 1 5] [0]) .ret))
theorem A_jac_ranges_comp : compF Tryz.prog 96 = some ⟨2, [(0, (some (5, true)))], A_jac_ranges.strip⟩ := by kernel_rfl
def A_jac_ranges_1 : CA := (.seq (.reg [i_X 0 2 (.alloc [(.d (.flt 0)), (.d (.flt 0))] 58)] [0, 2]) (.seq (.reg [i_M 0 3 0, i_M 1 4 0, i_X 2 5 (.h (.build [(.d (.flt 0)), (.d (.flt 0))] [(0, (1, (.t 3))), (1, (1, (.t 4)))])), i_S 3 2 5 2] [2]) .ret))
theorem A_jac_ranges_1_comp : compF Tryz.prog 137 = some ⟨6, [(2, (some (2, true)))], A_jac_ranges_1.strip⟩ := by kernel_rfl
def A_jac_kind_api_Iv_value : CA := (.seq (.reg [i_X 0 4 (.box (.t 0) 5 142), i_X 1 5 (.box (.t 1) 4 62), i_X 2 8 (.alloc [(.d (.flt 0)), (.d (.flt 0))] 58)] [2, 3, 4, 5, 8]) (.seq (.seq (.reg [i_P 0 11 5 0, i_L 1 12 11 1] [2, 3, 4, 5, 8, 12]) (.block 0 (.seq (.reg [i_B 0 14 .eql 12 0, i_M 1 13 14] [2, 3, 4, 5, 8, 12, 13]) (.cond (.t 13) (.seq (.reg [i_P 0 15 4 0, i_L 1 16 15 1, i_P 2 17 5 3, i_L 3 18 17 1, i_X 4 19 (.callA (.t 16) [(.t 18)]), i_S 5 8 19 2] [8]) .ret) (.seq (.reg [i_B 0 21 .eql 12 1, i_M 1 20 21] [2, 3, 4, 5, 8, 20]) (.cond (.t 20) (.seq (.reg [i_M 0 22 2, i_P 1 23 5 1, i_L 2 24 23 1, i_I 3 25 22 24 2, i_A 4 26 25 2, i_S 5 8 26 2] [8]) .ret) .skip)))))) (.seq (.reg [i_M 0 27 3, i_P 1 28 5 1, i_L 2 29 28 1, i_I 3 30 27 29 3, i_P 4 31 30 0, i_A 5 32 31 2, i_M 6 33 3, i_P 7 34 5 2, ⟨8, (some 35), none, [(.t 5)], [], (.load (.t 34) 1 false)⟩, i_I 9 36 33 35 3, i_P 10 37 36 0, ⟨11, (some 38), none, [(.t 3)], [], (.load (.t 37) 2 true)⟩, i_X 12 9 (.alloc [(.d (.flt 0)), (.d (.flt 0))] 58), i_X 13 10 (.alloc [(.d (.flt 0)), (.d (.flt 0))] 58), ⟨14, none, none, [], [(.t 5), (.t 3)], (.store (.t 9) (.t 32) 2)⟩, i_S 15 10 38 2] [4, 5, 8, 9, 10]) (.seq (.seq (.reg [i_P 0 39 5 0, i_L 1 40 39 1] [4, 8, 9, 10, 40]) (.block 1 (.seq (.reg [i_B 0 42 .eql 40 2, i_M 1 41 42] [4, 8, 9, 10, 40, 41]) (.cond (.t 41) (.seq (.reg [i_P 0 43 4 1, i_L 1 44 43 1, i_A 2 45 9 2, i_A 3 46 10 2, i_X 4 47 (.callA (.t 44) [(.t 45), (.t 46)]), i_S 5 8 47 2] [8]) .ret) (.seq (.reg [i_B 0 49 .eql 40 3, i_M 1 48 49] [4, 8, 9, 10, 40, 48]) (.cond (.t 48) (.seq (.reg [i_P 0 50 4 2, i_L 1 51 50 1, i_A 2 52 9 2, i_A 3 53 10 2, i_X 4 54 (.callA (.t 51) [(.t 52), (.t 53)]), i_S 5 8 54 2] [8]) .ret) (.seq (.reg [i_B 0 56 .eql 40 4, i_M 1 55 56] [4, 8, 9, 10, 55]) (.cond (.t 55) (.seq (.reg [i_P 0 57 4 3, i_L 1 58 57 1, i_A 2 59 9 2, i_A 3 60 10 2, i_X 4 61 (.callA (.t 58) [(.t 59), (.t 60)]), i_S 5 8 61 2] [8]) .ret) .skip)))))))) (.seq (.reg [i_P 0 62 4 4, i_L 1 63 62 1, i_A 2 64 9 2, i_A 3 65 10 2, i_X 4 66 (.callA (.t 63) [(.t 64), (.t 65)]), i_S 5 8 66 2] [8]) .ret)))))
theorem A_jac_kind_api_Iv_value_comp : compF Tryz.prog 138 = some ⟨67, [(8, (some (2, true)))], A_jac_kind_api_Iv_value.strip⟩ := by kernel_rfl
def A_jac_kind_api_Iv_slope : CA := (.seq (.reg [i_X 0 5 (.box (.t 0) 5 142), i_X 1 6 (.box (.t 1) 4 62), i_X 2 8 (.box (.t 3) 2 58), i_X 3 10 (.alloc [(.d (.flt 0)), (.d (.flt 0))] 58)] [2, 4, 5, 6, 8, 10]) (.seq (.block 0 (.seq (.reg [i_P 0 14 6 0, i_L 1 15 14 1, i_B 2 16 .eql 15 1, i_M 3 17 16, ⟨4, (some 18), (some (17, true)), [], [], (.h (.padd (.t 6) 1))⟩, ⟨5, (some 19), (some (17, true)), [], [], (.load (.t 18) 1 false)⟩, ⟨6, (some 20), (some (17, true)), [], [], (.h (.mov (.t 2)))⟩, ⟨7, (some 21), (some (17, true)), [], [], (.h (.ibin .eql (.t 19) (.t 20)))⟩, i_X 8 22 (.h (.pick (.t 17) (.t 21) (.k (.d (.bool false))))), i_M 9 13 22] [2, 4, 5, 6, 8, 10, 13]) (.cond (.t 13) (.seq (.reg [i_P 0 23 5 0, i_L 1 24 23 1, i_X 2 25 (.callA (.t 24) [(.k (.d (.flt 4607182418800017408)))]), i_S 3 10 25 2] [10]) .ret) (.seq (.reg [i_P 0 27 6 0, i_L 1 28 27 1, i_B 2 29 .eql 28 0, i_M 3 30 29, ⟨4, (some 31), (some (30, false)), [], [], (.h (.padd (.t 6) 0))⟩, ⟨5, (some 32), (some (30, false)), [], [], (.load (.t 31) 1 false)⟩, ⟨6, (some 33), (some (30, false)), [], [], (.h (.ibin .eql (.t 32) (kI 1)))⟩, i_X 7 34 (.h (.pick (.t 30) (.k (.d (.bool true))) (.t 33))), i_M 8 26 34] [2, 4, 5, 6, 8, 10, 26]) (.cond (.t 26) (.seq (.reg [i_P 0 35 5 0, i_L 1 36 35 1, i_X 2 37 (.callA (.t 36) [(.k (.d (.flt 0)))]), i_S 3 10 37 2] [10]) .ret) .skip))))) (.seq (.reg [i_M 0 38 4, i_P 1 39 6 1, i_L 2 40 39 1, i_I 3 41 38 40 3, i_A 4 42 41 3, i_M 5 43 4, i_P 6 44 6 2, ⟨7, (some 45), none, [(.t 6)], [], (.load (.t 44) 1 false)⟩, i_I 8 46 43 45 3, ⟨9, (some 47), none, [(.t 4)], [], (.load (.t 46) 3 true)⟩, i_X 10 11 (.alloc [(.d (.flt 0)), (.d (.flt 0)), .nil] 167), i_X 11 12 (.alloc [(.d (.flt 0)), (.d (.flt 0)), .nil] 167), ⟨12, none, none, [], [(.t 6), (.t 4)], (.store (.t 11) (.t 42) 3)⟩, i_S 13 12 47 3] [2, 5, 6, 8, 10, 11, 12]) (.seq (.seq (.reg [i_P 0 48 6 0, i_L 1 49 48 1] [2, 5, 8, 10, 11, 12, 49]) (.block 1 (.seq (.reg [i_B 0 51 .eql 49 2, i_M 1 50 51] [2, 5, 8, 10, 11, 12, 49, 50]) (.cond (.t 50) (.seq (.reg [i_P 0 52 5 1, i_L 1 53 52 1, i_P 2 54 11 2, i_L 3 55 54 1, i_M 4 56 2, i_I 5 57 55 56 2, i_A 6 58 57 2, i_P 7 59 12 2, i_L 8 60 59 1, i_M 9 61 2, i_I 10 62 60 61 2, i_A 11 63 62 2, i_X 12 64 (.callA (.t 53) [(.t 58), (.t 63)]), i_S 13 10 64 2] [10]) .ret) (.seq (.reg [i_B 0 66 .eql 49 3, i_M 1 65 66] [2, 5, 8, 10, 11, 12, 49, 65]) (.cond (.t 65) (.seq (.reg [i_P 0 67 5 2, i_L 1 68 67 1, i_P 2 69 11 2, i_L 3 70 69 1, i_M 4 71 2, i_I 5 72 70 71 2, i_A 6 73 72 2, i_P 7 74 12 2, i_L 8 75 74 1, i_M 9 76 2, i_I 10 77 75 76 2, i_A 11 78 77 2, i_X 12 79 (.callA (.t 68) [(.t 73), (.t 78)]), i_S 13 10 79 2] [10]) .ret) (.seq (.reg [i_B 0 81 .eql 49 4, i_M 1 80 81] [2, 5, 8, 10, 11, 12, 80]) (.cond (.t 80) (.seq (.reg [i_P 0 82 5 1, i_L 1 83 82 1, i_P 2 84 5 3, i_L 3 85 84 1, i_P 4 86 11 2, i_L 5 87 86 1, i_M 6 88 2, i_I 7 89 87 88 2, i_A 8 90 89 2, i_P 9 91 12 0, i_A 10 92 91 2, i_X 11 93 (.callS 11 (.t 85) [(.t 90), (.t 92)]), i_P 12 94 5 3, i_L 13 95 94 1, i_P 14 96 11 0, i_A 15 97 96 2, i_P 16 98 12 2, i_L 17 99 98 1, i_M 18 100 2, i_I 19 101 99 100 2, i_A 20 102 101 2, i_X 21 103 (.callS 21 (.t 95) [(.t 97), (.t 102)]), i_X 22 104 (.callA (.t 83) [(.t 93), (.t 103)]), i_S 23 10 104 2] [10]) .ret) .skip)))))))) (.seq (.reg [i_P 0 105 5 4, i_L 1 106 105 1, i_P 2 107 5 2, i_L 3 108 107 1, i_P 4 109 11 2, i_L 5 110 109 1, i_M 6 111 2, i_I 7 112 110 111 2, i_A 8 113 112 2, i_P 9 114 5 3, i_L 10 115 114 1, i_A 11 116 8 2, i_P 12 117 12 2, i_L 13 118 117 1, i_M 14 119 2, i_I 15 120 118 119 2, i_A 16 121 120 2, i_X 17 122 (.callS 17 (.t 115) [(.t 116), (.t 121)]), i_X 18 123 (.callS 18 (.t 108) [(.t 113), (.t 122)]), i_P 19 124 12 0, i_A 20 125 124 2, i_X 21 126 (.callA (.t 106) [(.t 123), (.t 125)]), i_S 22 10 126 2] [10]) .ret)))))
theorem A_jac_kind_api_Iv_slope_comp : compF Tryz.prog 139 = some ⟨127, [(10, (some (2, true)))], A_jac_kind_api_Iv_slope.strip⟩ := by kernel_rfl
def A_jac_kind_api_Iv_run_L1 : CA := (.seq (.reg [i_N 0 31 .lss 30 29] [2, 3, 4, 7, 9, 10, 16, 17, 18, 29, 30, 31]) (.seq (.cond (.t 31) .skip (.exit 2)) (.seq (.block 3 (.seq (.reg [i_M 0 32 30, i_M 1 11 32] [2, 3, 4, 7, 9, 10, 11, 16, 17, 18, 29, 30]) (.reg [i_P 0 33 10 2, i_L 1 34 33 1, i_A 2 35 3 5, i_A 3 36 9 4, i_M 4 37 11, i_P 5 38 10 0, i_A 6 39 38 2, i_M 7 40 7, i_X 8 41 (.callS 8 (kF 139) [(.t 35), (.t 36), (.t 37), (.t 39), (.t 40)]), i_X 9 42 (.bslice [(.d (.flt 0)), (.d (.flt 0))] 1 2 [(0, (2, (.t 41)))] 58), i_X 10 43 (.app (.t 34) (.t 42) 2 16), i_P 11 44 10 2, i_S 12 44 43 1] [2, 3, 4, 7, 9, 10, 16, 17, 18, 29, 30]))) (.reg [i_B 0 45 .add 30 1, i_M 1 30 45] [2, 3, 4, 7, 9, 10, 16, 17, 18, 29, 30]))))
def A_jac_kind_api_Iv_run_L0 : CA := (.seq (.reg [i_N 0 19 .lss 18 17] [2, 3, 4, 7, 16, 17, 18, 19]) (.seq (.cond (.t 19) .skip (.exit 0)) (.seq (.block 1 (.seq (.reg [i_I 0 20 16 18 4, i_A 1 21 20 4, i_X 2 9 (.alloc [(.d (.int .i64 0)), (.d (.int .i64 0)), (.d (.int .i64 0)), (.d (.flt 0))] 62), i_S 3 9 21 4] [2, 3, 4, 7, 9, 16, 17, 18]) (.seq (.reg [i_A 0 22 3 5, i_A 1 23 9 4, i_M 2 24 2, i_M 3 25 7, i_X 4 26 (.callA (kF 138) [(.t 22), (.t 23), (.t 24), (.t 25)]), i_X 5 27 (.h (.build [(.d (.flt 0)), (.d (.flt 0)), .nil] [(0, (2, (.t 26)))])), i_X 6 10 (.alloc [(.d (.flt 0)), (.d (.flt 0)), .nil] 167), i_S 7 10 27 3] [2, 3, 4, 7, 9, 10, 16, 17, 18]) (.seq (.seq (.reg [i_P 0 28 4 0, i_L 1 29 28 1, i_K 2 30 0] [2, 3, 4, 7, 9, 10, 16, 17, 18, 29, 30]) (.block 2 (.loop A_jac_kind_api_Iv_run_L1))) (.reg [i_M 0 46 7, i_A 1 47 10 3, i_X 2 48 (.bslice [(.d (.flt 0)), (.d (.flt 0)), .nil] 1 3 [(0, (3, (.t 47)))] 167), i_X 3 49 (.app (.t 46) (.t 48) 3 40), i_M 4 7 49] [2, 3, 4, 7, 16, 17, 18]))))) (.reg [i_B 0 50 .add 18 1, i_M 1 18 50] [2, 3, 4, 7, 16, 17, 18]))))
def A_jac_kind_api_Iv_run_L2 : CA := (.seq (.reg [i_N 0 58 .lss 57 56] [7, 12, 55, 56, 57, 58]) (.seq (.cond (.t 58) .skip (.exit 4)) (.seq (.block 5 (.seq (.reg [i_M 0 59 57, i_I 1 60 55 57 1, i_L 2 61 60 1, i_M 3 13 59, i_M 4 14 61] [7, 12, 13, 14, 55, 56, 57]) (.reg [i_M 0 62 12, i_M 1 63 13, i_M 2 64 7, i_M 3 65 14, i_I 4 66 64 65 3, i_P 5 67 66 2, i_L 6 68 67 1, i_X 7 69 (.app (.k .nil) (.t 68) 2 16), i_I 8 70 62 63 1, i_S 9 70 69 1] [7, 12, 55, 56, 57]))) (.reg [i_B 0 71 .add 57 1, i_M 1 57 71] [7, 12, 55, 56, 57]))))
def A_jac_kind_api_Iv_run : CA := (.seq (.reg [i_X 0 3 (.box (.t 0) 5 142), i_X 1 4 (.box (.t 1) 3 28), i_X 2 6 (.h (.mov (.k .nil)))] [2, 3, 4]) (.seq (.reg [i_X 0 7 (.h (.mov (.k .nil)))] [2, 3, 4, 7]) (.seq (.seq (.reg [i_P 0 15 4 1, i_L 1 16 15 1, i_X 2 17 (.h (.len (.t 16))), i_K 3 18 0] [2, 3, 4, 7, 16, 17, 18]) (.block 0 (.loop A_jac_kind_api_Iv_run_L0))) (.seq (.reg [i_P 0 51 4 0, i_L 1 52 51 1, i_X 2 53 (.mksl [.nil] 1 24 (.t 52) (.t 52) 29), i_M 3 12 53] [4, 7, 12]) (.seq (.seq (.reg [i_P 0 54 4 2, i_L 1 55 54 1, i_X 2 56 (.h (.len (.t 55))), i_K 3 57 0] [7, 12, 55, 56, 57]) (.block 4 (.loop A_jac_kind_api_Iv_run_L2))) (.seq (.reg [i_M 0 72 12, i_M 1 6 72] [6]) .ret))))))
theorem A_jac_kind_api_Iv_run_comp : compF Tryz.prog 97 = some ⟨73, [(6, none)], A_jac_kind_api_Iv_run.strip⟩ := by kernel_rfl
def A_jac_JacIv : CA := (.seq (.reg [i_X 0 2 (.box (.t 0) 3 28), i_X 1 4 (.h (.mov (.k .nil)))] [1, 2]) (.seq (.reg [i_X 0 5 (.callS 0 (kF 96) []), i_A 1 6 2 3, i_M 2 7 1, i_X 3 8 (.callA (kF 97) [(.t 5), (.t 6), (.t 7)]), i_M 4 4 8] [4]) .ret))
theorem A_jac_JacIv_comp : compF Tryz.prog 44 = some ⟨9, [(4, none)], A_jac_JacIv.strip⟩ := by kernel_rfl
theorem jranges1_con (x : Nat) : Con Tryz.prog 137 [fl x] (ivV (pt x)) := by
  refine Con_introA A_jac_ranges_1_comp rfl mixed ?_
  refine evx @A_jac_ranges_1.eq_1 ?_
  exact endsT_retm rfl (by decide) rfl rfl rfl (by simp) (by simp [ldv, pt])
abbrev jrV : V := .agg [.d (.fn 137 [] []), .d (.fn 92 [] []), .d (.fn 79 [] []), .d (.fn 125 [] []), .d (.fn 131 [] [])]
theorem jranges_con : Con Tryz.prog 96 [] jrV := by
  refine Con_introA A_jac_ranges_comp rfl mixed ?_
  refine evx @A_jac_ranges.eq_1 ?_
  exact endsT_retm rfl (by decide) rfl rfl rfl (by simp) (by simp [ldv])
def riG (r : List Iv) (dr : List (List Iv)) (i : Nat) : List D := [.flt (mG r i).1, .flt (mG r i).2, ivD (dr.getD i [])]
def riD (r : List Iv) (dr : List (List Iv)) : D := .bor r.length (riG r dr)
theorem ivG_eq (x : List Iv) (i : Nat) : ivG x i = [.flt (mG x i).1, .flt (mG x i).2] := rfl
section
variable (o : OpN) (x r : List Iv) (dr : List (List Iv)) (n : Nat) (ho : Oko o r.length n) (hx : x.length = n)
include ho hx
set_option maxRecDepth 8000 in
theorem ivalue_con : Con Tryz.prog 138 [jrV, opA o, .d (ivD x), .d (riD r dr)] (ivV (opI o x r)) := by
  refine Con_introA A_jac_kind_api_Iv_value_comp rfl mixed ?_
  refine evx @A_jac_kind_api_Iv_value.eq_1 ?_
  rcases ho with hk | ⟨hk, ha⟩ | ⟨hk, ha, hb⟩
  · refine evx hk ?_
    refine callG_con (jranges1_con o.c) rfl ?_
    refine ev ?_
    have e : opI o x r = pt o.c := by simp [opI, hk]
    rw [e]
    exact endsT_retm rfl (by decide) rfl rfl rfl (by simp) (by simp [ldv])
  · refine evbx (And.intro hk (And.intro @ivD.eq_1 @ivG_eq)) ?_
    refine ⟨by omega, ?_⟩
    have e : opI o x r = mG x o.a.toNat := by simp [opI, hk]
    rw [e]
    exact endsT_retm rfl (by decide) rfl rfl rfl (by simp) (by simp [ldv, mG])
  · rcases hk with hk | hk | hk | hk
    · refine evbx (And.intro hk (And.intro @riD.eq_1 @riG.eq_1)) ?_
      refine ⟨by omega, by omega, ?_⟩
      refine callG_con (iv_Add_con (mG r o.a.toNat) (mG r o.b.toNat)) rfl ?_
      refine ev ?_
      have e : opI o x r = ivAdd (mG r o.a.toNat) (mG r o.b.toNat) := by simp [opI, hk]
      rw [e]
      exact endsT_retm rfl (by decide) rfl rfl rfl (by simp) (by simp [ldv])
    · refine evbx (And.intro hk (And.intro @riD.eq_1 @riG.eq_1)) ?_
      refine ⟨by omega, by omega, ?_⟩
      refine callG_con (iv_Sub_con (mG r o.a.toNat) (mG r o.b.toNat)) rfl ?_
      refine ev ?_
      have e : opI o x r = ivSub (mG r o.a.toNat) (mG r o.b.toNat) := by simp [opI, hk]
      rw [e]
      exact endsT_retm rfl (by decide) rfl rfl rfl (by simp) (by simp [ldv])
    · refine evbx (And.intro hk (And.intro @riD.eq_1 @riG.eq_1)) ?_
      refine ⟨by omega, by omega, ?_⟩
      refine callG_con (iv_Mul_con (mG r o.a.toNat) (mG r o.b.toNat)) rfl ?_
      refine ev ?_
      have e : opI o x r = ivMul (mG r o.a.toNat) (mG r o.b.toNat) := by simp [opI, hk]
      rw [e]
      exact endsT_retm rfl (by decide) rfl rfl rfl (by simp) (by simp [ldv])
    · refine evbx (And.intro hk (And.intro @riD.eq_1 @riG.eq_1)) ?_
      refine ⟨by omega, by omega, ?_⟩
      refine callG_con (iv_Div_con (mG r o.a.toNat) (mG r o.b.toNat)) rfl ?_
      refine ev ?_
      have e : opI o x r = ivDiv (mG r o.a.toNat) (mG r o.b.toNat) := by simp [opI, hk]
      rw [e]
      exact endsT_retm rfl (by decide) rfl rfl rfl (by simp) (by simp [ldv])
end
section
variable (o : OpN) (r : List Iv) (dr : List (List Iv)) (n i : Nat) (q : Iv)
set_option maxRecDepth 8000 in
theorem islope_k0 (hk : o.k = 0) : Con Tryz.prog 139 [jrV, opA o, fI i, ivV q, .d (riD r dr)] (ivV (sloI o q r dr i)) := by
  refine Con_introA A_jac_kind_api_Iv_slope_comp rfl mixed ?_
  refine evx @A_jac_kind_api_Iv_slope.eq_1 ?_
  refine evbx hk ?_
  refine callG_con (jranges1_con 0) rfl ?_
  refine ev ?_
  have e : sloI o q r dr i = pt 0 := by simp [sloI, hk, pt]
  rw [e]
  exact endsT_retm rfl (by decide) rfl rfl rfl (by simp) (by simp [ldv])
set_option maxRecDepth 8000 in
theorem islope_k1 (hk : o.k = 1) : Con Tryz.prog 139 [jrV, opA o, fI i, ivV q, .d (riD r dr)] (ivV (sloI o q r dr i)) := by
  refine Con_introA A_jac_kind_api_Iv_slope_comp rfl mixed ?_
  refine evx @A_jac_kind_api_Iv_slope.eq_1 ?_
  refine evbx hk ?_
  by_cases hai : o.a = (i : Int)
  · have h' : (o.a == (i : Int)) = true := by simpa using hai
    refine evx h' ?_
    refine callG_con (jranges1_con 4607182418800017408) rfl ?_
    refine ev ?_
    have e : sloI o q r dr i = pt 4607182418800017408 := by simp [sloI, hk, hai, oneW]
    rw [e]
    exact endsT_retm rfl (by decide) rfl rfl rfl (by simp) (by simp [ldv])
  · have h' : (o.a == (i : Int)) = false := by simpa using hai
    refine evbx h' ?_
    refine callG_con (jranges1_con 0) rfl ?_
    refine ev ?_
    have e : sloI o q r dr i = pt 0 := by simp [sloI, hk, hai, pt]
    rw [e]
    exact endsT_retm rfl (by decide) rfl rfl rfl (by simp) (by simp [ldv])
variable (ha : 0 ≤ o.a ∧ o.a < r.length) (hb : 0 ≤ o.b ∧ o.b < r.length) (la : (dr.getD o.a.toNat []).length = n) (lb : (dr.getD o.b.toNat []).length = n) (hi : i < n)
include ha hb la lb hi
set_option maxRecDepth 8000 in
theorem islope_k2 (hk : o.k = 2) : Con Tryz.prog 139 [jrV, opA o, fI i, ivV q, .d (riD r dr)] (ivV (sloI o q r dr i)) := by
  refine Con_introA A_jac_kind_api_Iv_slope_comp rfl mixed ?_
  refine evx @A_jac_kind_api_Iv_slope.eq_1 ?_
  refine evbx (And.intro hk (And.intro @riD.eq_1 (And.intro @riG.eq_1 (And.intro @ivD.eq_1 @ivG_eq)))) ?_
  (repeat (with_reducible refine And.intro (by omega) ?_))
  refine callG_con (iv_Add_con (dI dr o.a i) (dI dr o.b i)) rfl ?_
  refine ev ?_
  have e : sloI o q r dr i = ivAdd (dI dr o.a i) (dI dr o.b i) := by simp [sloI, hk]
  rw [e]
  exact endsT_retm rfl (by decide) rfl rfl rfl (by simp) (by simp [ldv])
set_option maxRecDepth 8000 in
theorem islope_k3 (hk : o.k = 3) : Con Tryz.prog 139 [jrV, opA o, fI i, ivV q, .d (riD r dr)] (ivV (sloI o q r dr i)) := by
  refine Con_introA A_jac_kind_api_Iv_slope_comp rfl mixed ?_
  refine evx @A_jac_kind_api_Iv_slope.eq_1 ?_
  refine evbx (And.intro hk (And.intro @riD.eq_1 (And.intro @riG.eq_1 (And.intro @ivD.eq_1 @ivG_eq)))) ?_
  (repeat (with_reducible refine And.intro (by omega) ?_))
  refine callG_con (iv_Sub_con (dI dr o.a i) (dI dr o.b i)) rfl ?_
  refine ev ?_
  have e : sloI o q r dr i = ivSub (dI dr o.a i) (dI dr o.b i) := by simp [sloI, hk]
  rw [e]
  exact endsT_retm rfl (by decide) rfl rfl rfl (by simp) (by simp [ldv])
set_option maxRecDepth 8000 in
theorem islope_k4 (hk : o.k = 4) : Con Tryz.prog 139 [jrV, opA o, fI i, ivV q, .d (riD r dr)] (ivV (sloI o q r dr i)) := by
  refine Con_introA A_jac_kind_api_Iv_slope_comp rfl mixed ?_
  refine evx @A_jac_kind_api_Iv_slope.eq_1 ?_
  refine evbx (And.intro hk (And.intro @riD.eq_1 (And.intro @riG.eq_1 (And.intro @ivD.eq_1 @ivG_eq)))) ?_
  (repeat (with_reducible refine And.intro (by omega) ?_))
  refine callSG_con (iv_Mul_con (dI dr o.a i) (mG r o.b.toNat)) rfl ?_
  refine ev ?_
  (repeat (with_reducible refine And.intro (by omega) ?_))
  refine callSG_con (iv_Mul_con (mG r o.a.toNat) (dI dr o.b i)) rfl ?_
  refine ev ?_
  (repeat (with_reducible refine And.intro (by omega) ?_))
  refine callG_con (iv_Add_con (ivMul (dI dr o.a i) (mG r o.b.toNat)) (ivMul (mG r o.a.toNat) (dI dr o.b i))) rfl ?_
  refine ev ?_
  have e : sloI o q r dr i = ivAdd (ivMul (dI dr o.a i) (mG r o.b.toNat)) (ivMul (mG r o.a.toNat) (dI dr o.b i)) := by simp [sloI, hk]
  rw [e]
  exact endsT_retm rfl (by decide) rfl rfl rfl (by simp) (by simp [ldv])
set_option maxRecDepth 8000 in
theorem islope_k5 (hk : o.k = 5) : Con Tryz.prog 139 [jrV, opA o, fI i, ivV q, .d (riD r dr)] (ivV (sloI o q r dr i)) := by
  refine Con_introA A_jac_kind_api_Iv_slope_comp rfl mixed ?_
  refine evx @A_jac_kind_api_Iv_slope.eq_1 ?_
  refine evbx (And.intro hk (And.intro @riD.eq_1 (And.intro @riG.eq_1 (And.intro @ivD.eq_1 @ivG_eq)))) ?_
  (repeat (with_reducible refine And.intro (by omega) ?_))
  refine callSG_con (iv_Mul_con q (dI dr o.b i)) rfl ?_
  refine ev ?_
  (repeat (with_reducible refine And.intro (by omega) ?_))
  refine callSG_con (iv_Sub_con (dI dr o.a i) (ivMul q (dI dr o.b i))) rfl ?_
  refine ev ?_
  (repeat (with_reducible refine And.intro (by omega) ?_))
  refine callG_con (iv_Div_con (ivSub (dI dr o.a i) (ivMul q (dI dr o.b i))) (mG r o.b.toNat)) rfl ?_
  refine ev ?_
  have e : sloI o q r dr i = ivDiv (ivSub (dI dr o.a i) (ivMul q (dI dr o.b i))) (mG r o.b.toNat) := by simp [sloI, hk]
  rw [e]
  exact endsT_retm rfl (by decide) rfl rfl rfl (by simp) (by simp [ldv])
end
theorem islope_con (o : OpN) (r : List Iv) (dr : List (List Iv)) (n i : Nat) (q : Iv) (ho : Oko o r.length n) (hdr : ∀ j, j < r.length → (dr.getD j []).length = n) (hi : i < n) : Con Tryz.prog 139 [jrV, opA o, fI i, ivV q, .d (riD r dr)] (ivV (sloI o q r dr i)) := by
  rcases ho with hk | ⟨hk, ha⟩ | ⟨hk, ha, hb⟩
  · exact islope_k0 o r dr i q hk
  · exact islope_k1 o r dr i q hk
  · have la := hdr o.a.toNat (by omega)
    have lb := hdr o.b.toNat (by omega)
    rcases hk with hk | hk | hk | hk
    · exact islope_k2 o r dr n i q ha hb la lb hi hk
    · exact islope_k3 o r dr n i q ha hb la lb hi hk
    · exact islope_k4 o r dr n i q ha hb la lb hi hk
    · exact islope_k5 o r dr n i q ha hb la lb hi hk
theorem riG_len (r : List Iv) (dr : List (List Iv)) (i : Nat) : (riG r dr i).length = 3 := rfl
theorem regI_step (t : Tp) (x : List Iv) (i : Nat) : dcells (i + 1) (riG (regI t x (i + 1)) (drI t x (i + 1))) = dcells i (riG (regI t x i) (drI t x i)) ++ [fl (mG (regI t x (i + 1)) i).1, fl (mG (regI t x (i + 1)) i).2, .d (ivD ((drI t x (i + 1)).getD i []))] := by
  rw [dcells_succ]
  have h1 := regI_len t x i
  have h2 := drI_len t x i
  have e : dcells i (riG (regI t x (i + 1)) (drI t x (i + 1))) = dcells i (riG (regI t x i) (drI t x i)) := by
    unfold dcells
    rw [dcB_congr fun j hj => ?_]
    have a : mG (regI t x (i + 1)) j = mG (regI t x i) j := by
      unfold mG
      rw [regI, List.getD_eq_getElem?_getD, List.getElem?_append_left (by omega), ← List.getD_eq_getElem?_getD]
    have b : (drI t x (i + 1)).getD j [] = (drI t x i).getD j [] := by
      rw [drI, List.getD_eq_getElem?_getD, List.getElem?_append_left (by omega), ← List.getD_eq_getElem?_getD]
    simp only [riG, a, b]
  rw [e]; rfl
theorem regI_last (t : Tp) (x : List Iv) (i : Nat) : mG (regI t x (i + 1)) i = opI (t.ops.getD i ⟨0, 0, 0, 0⟩) x (regI t x i) := by
  have h1 := regI_len t x i
  unfold mG
  rw [regI, List.getD_eq_getElem?_getD, List.getElem?_append_right (by omega), h1, Nat.sub_self]; rfl
theorem drI_last (t : Tp) (x : List Iv) (i : Nat) : (drI t x (i + 1)).getD i [] = tabI (sloI (t.ops.getD i ⟨0, 0, 0, 0⟩) (opI (t.ops.getD i ⟨0, 0, 0, 0⟩) x (regI t x i)) (regI t x i) (drI t x i)) t.n := by
  have h1 := drI_len t x i
  rw [drI, List.getD_eq_getElem?_getD, List.getElem?_append_right (by omega), h1, Nat.sub_self]; rfl
theorem ivC_tabI (f : Nat → Iv) (k : Nat) : ivC (tabI f k) ++ [fl (f k).1, fl (f k).2] = ivC (tabI f (k + 1)) := by rw [tabI_succ, ivC_app]
theorem Fz_ivs {L L' : Heap} {Y r n ver : Nat} {ps : List Iv} (h : L.get Y r = some (ivC ps)) (hn : ps.length = n) (hv : n * 2 = ver) (h' : L'.get Y r = none) : Fz L L' (.sl Y r 0 n 2 ver) (.d (ivD ps)) :=
  .d (snap_iv (fun Z q hZ e => by cases e; exact hZ h') h hn hv)
theorem dcells_iv (ps : List Iv) : dcells ps.length (ivG ps) = ivC ps := by
  have key : ∀ n, n ≤ ps.length → dcells n (ivG ps) = ivC (ps.take n) := fun n => by
    induction n with
    | zero => intro _; rfl
    | succ n ih =>
      intro h
      rw [dcells_succ, ih (by omega), List.take_succ_eq_append_getElem (by omega), ← ivC_app]
      have e : mG ps n = ps[n] := by simp [mG, List.getD_eq_getElem?_getD, show n < ps.length by omega]
      rw [ivG_eq, e]; rfl
  rw [key _ (Nat.le_refl _), List.take_length]
theorem srcCells_iv (L : Heap) (esz : Nat) (ps : List Iv) : srcCells L esz (.d (.bor ps.length (ivG ps))) = some (ivC ps) := by
  simp only [srcCells]
  rw [← dcells_iv]; rfl
theorem Fz_ivD {L L' : Heap} (x : List Iv) : Fz L L' (.d (.bor x.length (ivG x))) (.d (ivD x)) := .d (.d _)
abbrev jrC : List V := [.d (.fn 137 [] []), .d (.fn 92 [] []), .d (.fn 79 [] []), .d (.fn 125 [] []), .d (.fn 131 [] [])]
abbrev jiR (t : Tp) (x : List Iv) (i : Nat) : T := ⟨[(2, .d (ivD x)), (3, .ptr 0 0 0 5), (4, .ptr 1 0 0 3), (7, .sl 10 0 0 i 3 (i * 3)), (16, .d (opsD t.ops)), (17, fI t.ops.length), (18, fI i)],
  [(10, [dcells i (riG (regI t x i) (drI t x i))]), (1, [jtT t]), (0, [jrC])]⟩
abbrev jiS (t : Tp) (x : List Iv) (i k : Nat) : Sl := [(2, .d (ivD x)), (3, .ptr 0 0 0 5), (4, .ptr 1 0 0 3), (7, .sl 10 0 0 i 3 (i * 3)), (9, .ptr 13 0 0 4), (10, .ptr 20 0 0 3), (16, .d (opsD t.ops)), (17, fI t.ops.length), (18, fI i), (29, fI t.n), (30, fI k)]
abbrev jiH (t : Tp) (x : List Iv) (i : Nat) (o : OpN) : Heap := [(13, [opC o]), (10, [dcells i (riG (regI t x i) (drI t x i))]), (1, [jtT t]), (0, [jrC])]
abbrev jiT0 (t : Tp) (x : List Iv) (i : Nat) (o : OpN) (v : Iv) : T := ⟨jiS t x i 0, (20, [[fl v.1, fl v.2, .nil]]) :: jiH t x i o⟩
abbrev jiT1 (t : Tp) (x : List Iv) (i : Nat) (o : OpN) (v : Iv) (f : Nat → Iv) (k : Nat) : T := ⟨jiS t x i k, (15, [ivC (tabI f k)]) :: (20, [[fl v.1, fl v.2, .sl 15 0 0 k 2 (k * 2)]]) :: jiH t x i o⟩
set_option maxRecDepth 8000 in
theorem irun_L1 (t : Tp) (x : List Iv) (i : Nat) (o : OpN) (v : Iv) (f : Nat → Iv) (hn : t.n < 2 ^ 20) (hn0 : 0 < t.n) (hi : i < 2 ^ 40) (hop : Oko o i t.n) (hf : f = sloI o v (regI t x i) (drI t x i)) (Q : Ex → T → Prop)
    (hQ : Q (.exit 2) ⟨[(2, .d (ivD x)), (3, .ptr 0 0 0 5), (4, .ptr 1 0 0 3), (7, .sl 10 0 0 i 3 (i * 3)), (9, .ptr 13 0 0 4), (10, .ptr 20 0 0 3), (16, .d (opsD t.ops)), (17, fI t.ops.length), (18, fI i), (29, fI t.n), (30, fI t.n), (31, fB false)],
      (15, [ivC (tabI f t.n)]) :: (20, [[fl v.1, fl v.2, .sl 15 0 0 t.n 2 (t.n * 2)]]) :: jiH t x i o⟩) :
    WA Tryz.prog (fun _ => False) 73 A_jac_kind_api_Iv_run_L1.loop Q (jiT0 t x i o v) := by
  have hl := regI_len t x i
  have hdl := drI_len t x i
  have hrow := drI_rows t x i
  have hcl := dcells_len i (fun j _ => riG_len (regI t x i) (drI t x i) j)
  have hcon : ∀ k, k < t.n → Con Tryz.prog 139 [jrV, opA o, fI k, ivV v, .d (riD (regI t x i) (drI t x i))] (ivV (f k)) := fun k hk => by
    rw [hf]; exact islope_con o _ _ t.n k v (by rw [hl]; exact hop) (fun j hj => hrow j (by omega)) hk
  have sc : ∀ p : Iv, Scalar (ivV p) := fun p => scalar_iv [p]
  clear hf hrow
  refine WA_forW (n := t.n) (fun c s => ∃ k, c + k = t.n ∧ ((k = 0 ∧ s = jiT0 t x i o v) ∨ (0 < k ∧ s = jiT1 t x i o v f k))) (Le.refl _) ⟨0, by omega, .inl ⟨rfl, rfl⟩⟩ ?_
  rintro c s ⟨k, hc, ⟨rfl, rfl⟩ | ⟨hk, rfl⟩⟩
  · refine evx @A_jac_kind_api_Iv_run_L1.eq_1 ?_
    have h0 : decide ((0 : Int) < (t.n : Int)) = true := by simpa using hn0
    refine evx h0 ?_
    refine callS_snaps [jrV, opA o, fI (0 : Nat), ivV v, .d (riD (regI t x i) (drI t x i))] (hcon 0 hn0) ⟨.aggs ⟨.bare _, .bare _, .bare _, .bare _, .bare _, trivial⟩, .aggs ⟨.bare _, .bare _, .bare _, .bare _, trivial⟩, .bare _, .aggs ⟨.bare _, .bare _, trivial⟩, ?_, trivial⟩ (sc _) ?_
    · have e : riD (regI t x i) (drI t x i) = .bor i (riG (regI t x i) (drI t x i)) := by unfold riD; rw [hl]
      rw [e]
      exact snp_data (by simp [get_old, get_cons, get_nil]) (fun j _ => rfl) rfl
    refine ev ?_
    refine ⟨c - 1, jiT1 t x i o v f 1, by omega, ?_, 1, by omega, .inr ⟨by decide, rfl⟩⟩
    refine Le.trans (LeT.only (L' := (31, [[fl (f 0).1, fl (f 0).2]]) :: (20, [[fl v.1, fl v.2, .sl 31 0 0 1 2 2]]) :: jiH t x i o) (fun X => X != 30) (fun _ h => h) rfl (by simp [kpS]) (by simp [kpS])) ?_
    refine Le.trans (LeT.move 15 (by decide) (by simp [fam_cons, fam_nil]) (by simp [fam_cons, fam_nil]) (fun h => h)) ?_
    have e1 : renS (absF 31 15 0) (jiS t x i 1) = jiS t x i 1 := by simp [renS, V.ren, absF]
    have e2 : Heap.renH (absF 31 15 0) ((20, [[fl v.1, fl v.2, .sl 31 0 0 1 2 2]]) :: jiH t x i o) = (20, [[fl v.1, fl v.2, .sl 15 0 0 1 2 2]]) :: jiH t x i o := by
      simp [Heap.renH, V.ren, absF, ren_dcells]
    have e3 : [fl (f 0).1, fl (f 0).2].map (V.ren (absF 31 15 0)) = ivC (tabI f 1) := by simp [V.ren, tabI, ivC]
    rw [e2, e3]
    exact (congrArg (fun z => Le (fun _ => False) (T.s 73 ⟨z, (jiT1 t x i o v f 1).L⟩) (T.s 73 (jiT1 t x i o v f 1))) e1).mpr (Le.refl _)
  · have hrl := tabI_len f k
    refine evx @A_jac_kind_api_Iv_run_L1.eq_1 ?_
    refine condC_intro (fun h => ?_) (fun h => ?_)
    · replace h := of_decide_eq_true h
      refine ev ?_
      refine callS_snaps [jrV, opA o, fI k, ivV v, .d (riD (regI t x i) (drI t x i))] (hcon k h) ⟨.aggs ⟨.bare _, .bare _, .bare _, .bare _, .bare _, trivial⟩, .aggs ⟨.bare _, .bare _, .bare _, .bare _, trivial⟩, .bare _, .aggs ⟨.bare _, .bare _, trivial⟩, ?_, trivial⟩ (sc _) ?_
      · have e : riD (regI t x i) (drI t x i) = .bor i (riG (regI t x i) (drI t x i)) := by unfold riD; rw [hl]
        rw [e]
        exact snp_data (by simp [get_old, get_cons, get_nil]) (fun j _ => rfl) rfl
      refine ev ?_
      (repeat (with_reducible refine And.intro (by omega) ?_))
      rw [wrapI (by omega) (by omega), ivC_tabI, show k * 2 + 2 = (k + 1) * 2 by omega]
      exact ⟨c - 1, _, by omega, LeT.only (fun X => decide (X ≤ 20)) (fun _ h => h) rfl (by simp (maxDischargeDepth := 6) [kpS, fam_cons, fam_nil, KpA_ivC']) (by simp (maxDischargeDepth := 6) [kpS, fam_cons, fam_nil, KpA_ivC']), k + 1, by omega, .inr ⟨by omega, rfl⟩⟩
    · replace h := of_decide_eq_false h
      have e : k = t.n := by omega
      subst e
      refine evx @Nat.lt_irrefl ?_
      exact hQ
def ivsD (J : List (List Iv)) : D := .bor J.length fun i => [ivD (J.getD i [])]
def jiG (t : Tp) (x : List Iv) (i : Nat) : D := ivD ((jacI t x).getD i [])
set_option maxRecDepth 8000 in
theorem irun_con (t : Tp) (x : List Iv) (ht : Tok t) (hx : x.length = t.n) (hn0 : 0 < t.n) : Con Tryz.prog 97 [jrV, tapeV t, .d (ivD x)] (.d (ivsD (jacI t x))) := by
  have hn := ht.n
  have hlen := ht.len
  refine Con_introA A_jac_kind_api_Iv_run_comp rfl mixed ?_
  refine evx @A_jac_kind_api_Iv_run.eq_1 ?_
  refine evx @opsD.eq_1 ?_
  refine WA_forW (n := t.ops.length) (fun c s => ∃ i, c + i = t.ops.length ∧ s = jiR t x i)
    (LeT.nilrow (X := 10) (esz := 3) (as' := (jiR t x 0).sl) (by simp [fam_cons, fam_nil]) (fun h => h) fun i => ?_) ⟨0, by omega, rfl⟩ ?_
  · simp only [look]
    repeat' split
    all_goals simp [ivD, opsD]
  rintro c s ⟨i, hc, rfl⟩
  have hl := regI_len t x i
  have hdl := drI_len t x i
  have hcl := dcells_len i (fun j _ => riG_len (regI t x i) (drI t x i) j)
  refine evx (And.intro @A_jac_kind_api_Iv_run_L0.eq_1 @opsD.eq_1) ?_
  refine condC_intro (fun h => ?_) (fun h => ?_)
  · replace h := of_decide_eq_true h
    have hop := ht.op i h
    have hra := regI_last t x i
    have hda := drI_last t x i
    generalize ho : t.ops.getD i ⟨0, 0, 0, 0⟩ = o at hop hra hda
    refine evx (And.intro @opG.eq_1 ho) ?_
    (repeat (with_reducible refine And.intro (by omega) ?_))
    refine callG_snaps [jrV, opA o, .d (ivD x), .d (riD (regI t x i) (drI t x i))] (ivalue_con o x (regI t x i) (drI t x i) t.n (by rw [hl]; exact hop) hx) ⟨.aggs ⟨.bare _, .bare _, .bare _, .bare _, .bare _, trivial⟩, .aggs ⟨.bare _, .bare _, .bare _, .bare _, trivial⟩, .bare _, ?_, trivial⟩ (scalar_iv [opI o x (regI t x i)]) ?_
    · have e : riD (regI t x i) (drI t x i) = .bor i (riG (regI t x i) (drI t x i)) := by unfold riD; rw [hl]
      rw [e]
      exact snp_data (by simp [get_cons, get_nil]) (fun j _ => rfl) rfl
    refine ev ?_
    have hr1 := regI_step t x i
    rw [hra, hda] at hr1
    generalize hv1 : opI o x (regI t x i) = v at hr1
    refine irun_L1 t x i o v _ ht.n hn0 (by omega) hop rfl _ ?_
    generalize sloI o v (regI t x i) (drI t x i) = f at hr1
    have hfl := tabI_len f t.n
    refine ev ?_
    (repeat (with_reducible refine And.intro (by omega) ?_))
    have e2 : i * 3 + 3 = (i + 1) * 3 := by omega
    rw [wrapI (by omega) (by omega), e2]
    have hz : ∀ L L' : Heap, L.get 15 0 = some (ivC (tabI f t.n)) → L'.get 15 0 = none → Fz L L' (.sl 15 0 0 t.n 2 (t.n * 2)) (.d (ivD (tabI f t.n))) := fun L L' a b => Fz_ivs a hfl rfl b
    refine ⟨c - 1, jiR t x (i + 1), by omega, ?_, i + 1, by omega, rfl⟩
    unfold jiR
    rw [hr1]
    exact LeT.weak (fun _ h => h) (by simp (maxDischargeDepth := 6) [fzS, Fz_ivD]) (by simp (maxDischargeDepth := 6) [fzS, hz])
  · replace h := of_decide_eq_false h
    have e : i = t.ops.length := by omega
    subst e
    refine ev ?_
    (repeat (with_reducible refine And.intro (by omega) ?_))
    rw [outC_zero t.n (jiG t x)]
    have hgl := ht.outl
    refine WA_forW (n := t.n) (fun c s => ∃ i, c + i = t.n ∧ s = ⟨[(7, .sl 10 0 0 t.ops.length 3 (t.ops.length * 3)), (12, .sl 13 0 0 t.n 1 t.n), (55, .d (rowI t.out)), (56, fI t.n), (57, fI i)],
      [(13, [outC t.n (jiG t x) i]), (10, [dcells t.ops.length (riG (regI t x t.ops.length) (drI t x t.ops.length))]), (1, [jtT t]), (0, [jrC])]⟩) (by rw [← hgl]; exact Le.refl _) ⟨0, by omega, rfl⟩ ?_
    rintro c s ⟨i, hc, rfl⟩
    have hol := outC_len t.n (jiG t x) i
    refine evx @A_jac_kind_api_Iv_run_L2.eq_1 ?_
    refine condC_intro (fun h => ?_) (fun h => ?_)
    · replace h := of_decide_eq_true h
      have hgo := ht.out i h
      have hjr : (jacI t x).getD i [] = (drI t x t.ops.length).getD (t.out.getD i 0).toNat [] := by
        unfold jacI
        rw [List.getD_eq_getElem?_getD, List.getElem?_map, List.getElem?_range h]; rfl
      have hjl : ((jacI t x).getD i []).length = t.n := by rw [hjr]; exact drI_rows t x _ _ (by omega)
      have hcg := dcells_get t.ops.length (fun j _ => riG_len (regI t x t.ops.length) (drI t x t.ops.length) j) (t.out.getD i 0).toNat 2 (by omega) (by decide)
      have hg2 : (riG (regI t x t.ops.length) (drI t x t.ops.length) (t.out.getD i 0).toNat).getD 2 default = ivD ((jacI t x).getD i []) := by rw [hjr]; rfl
      rw [hg2] at hcg
      refine evx (And.intro hcg @srcCells_iv) ?_
      (repeat (with_reducible refine And.intro (by omega) ?_))
      rw [hjl, wrapI (by omega) (by omega)]
      have hz : ∀ L L' : Heap, L.get 21 0 = some (ivC ((jacI t x).getD i [])) → L'.get 21 0 = none → Fz L L' (.sl 21 0 0 t.n 2 (t.n * 2)) (.d (jiG t x i)) := fun L L' a b => Fz_ivs a hjl rfl b
      refine ⟨c - 1, _, by omega, ?_, i + 1, by omega, rfl⟩
      exact LeT.weak (fun _ h => h) (by simp (maxDischargeDepth := 6) [fzS]) (by simp (maxDischargeDepth := 6) [fzS, hz, FzA_outC_set])
    · replace h := of_decide_eq_false h
      have e : i = t.n := by omega
      subst e
      refine ev ?_
      rw [outC_all]
      refine endsT_le (.sl 13 0 0 t.n 1 t.n) (fun _ h => h) (resV_tmpI (t := 6) (by decide) rfl) ?_
      unfold ivsD
      rw [jacI_len]
      exact .d (snapF_data (esz := 1) (fun Y q h => by simp [get_nil] at h) (by simp [get_cons]; rfl) (fun j hj => rfl) (by simp))
theorem JacIv_con (t : Tp) (x : List Iv) (ht : Tok t) (hx : x.length = t.n) (hn0 : 0 < t.n) : Con Tryz.prog 44 [tapeV t, .d (ivD x)] (.d (ivsD (jacI t x))) := by
  refine Con_introA A_jac_JacIv_comp rfl mixed ?_
  refine evx @A_jac_JacIv.eq_1 ?_
  refine callSG_con (jranges_con) rfl ?_
  refine ev ?_
  refine callG_con (irun_con t x ht hx hn0) rfl ?_
  refine ev ?_
  exact endsT_rett rfl (by decide) (by simp [look])
end Go.Ab
