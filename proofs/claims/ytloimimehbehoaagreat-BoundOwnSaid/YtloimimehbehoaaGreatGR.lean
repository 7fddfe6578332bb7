/- Part 18: BQ, BR, SN, SO, SP, SR, ST, SU, BT, BU. -/
import Derived.Test.YtloimimehbehoaaGreatGQ
namespace Go.Ab
set_option linter.unusedSimpArgs false
set_option linter.unusedVariables false
open Nat renaming reduceEqDiff → n1_, reduceAdd → n2_, reduceMul → n3_, reduceLT → n4_, reduceLeDiff → n5_
open Int renaming reduceToNat → i1_, reduceAdd → i2_, reduceSub → i3_, reduceMul → i4_, reduceNeg → i5_, reduceLT → i6_, reduceLE → i7_
open Go Go.Proofs
def A_r11_column_L0 : CA := (.seq (.seq (.reg [i_M 0 7 6, i_M 1 8 0, i_X 2 9 (.h (.len (.t 8))), i_N 3 10 .lss 7 9] [0, 1, 5, 6, 10]) (.cond (.t 10) .skip (.exit 0))) (.seq (.block 1 (.reg [i_M 0 13 5, i_M 1 14 0, i_M 2 15 6, i_I 3 16 14 15 1, i_L 4 17 16 1, i_M 5 18 1, i_I 6 19 17 18 1, i_L 7 20 19 1, i_X 8 21 (.bslice [(.d (.flt 0))] 1 1 [(0, (1, (.t 20)))] 31), i_X 9 22 (.app (.t 13) (.t 21) 1 8), i_M 10 5 22] [0, 1, 5, 6])) (.reg [i_M 0 11 6, i_B 1 12 .add 11 1, i_M 2 6 12] [0, 1, 5, 6])))
def A_r11_column : CA := (.seq (.reg [i_X 0 4 (.h (.mov (.k .nil)))] [0, 1]) (.seq (.reg [i_X 0 5 (.h (.mov (.k .nil)))] [0, 1, 5]) (.seq (.seq (.reg [i_K 0 6 0] [0, 1, 5, 6]) (.block 0 (.loop A_r11_column_L0))) (.seq (.reg [i_M 0 23 5, i_M 1 4 23] [4]) .ret))))
theorem A_r11_column_comp : compF Tryz.prog 47 = some ⟨24, [(4, none)], A_r11_column.strip⟩ := by kernel_rfl
def A_r11_Value_L0 : CA := (.seq (.seq (.reg [i_M 0 17 6, i_B 1 18 .gtr 17 0] [0, 1, 4, 5, 6, 18]) (.cond (.t 18) .skip (.exit 0))) (.seq (.block 1 (.reg [i_A 0 21 5 2, i_M 1 22 1, i_X 2 23 (.callS 2 (kF 99) [(.t 22)]), i_X 3 24 (.callS 0 (kF 108) [(.t 21), (.t 23)]), i_M 4 25 0, i_M 5 26 6, i_B 6 27 .sub 26 1, i_I 7 28 25 27 1, i_L 8 29 28 1, i_X 9 30 (.callA (kF 99) [(.t 29)]), i_X 10 31 (.callA (kF 55) [(.t 24), (.t 30)]), i_S 11 5 31 2] [0, 1, 4, 5, 6])) (.reg [i_M 0 19 6, i_B 1 20 .sub 19 1, i_M 2 6 20] [0, 1, 4, 5, 6])))
def A_r11_Value : CA := (.seq (.reg [i_X 0 4 (.alloc [(.d (.flt 0)), (.d (.flt 0))] 58)] [0, 1, 4]) (.seq (.reg [i_M 0 7 0, i_M 1 8 0, i_X 2 9 (.h (.len (.t 8))), i_B 3 10 .sub 9 1, i_I 4 11 7 10 1, i_L 5 12 11 1, i_X 6 13 (.callA (kF 99) [(.t 12)]), i_X 7 5 (.alloc [(.d (.flt 0)), (.d (.flt 0))] 58), i_S 8 5 13 2] [0, 1, 4, 5]) (.seq (.seq (.reg [i_M 0 14 0, i_X 1 15 (.h (.len (.t 14))), i_B 2 16 .sub 15 1, i_M 3 6 16] [0, 1, 4, 5, 6]) (.block 0 (.loop A_r11_Value_L0))) (.seq (.reg [i_A 0 32 5 2, i_S 1 4 32 2] [4]) .ret))))
theorem A_r11_Value_comp : compF Tryz.prog 103 = some ⟨33, [(4, (some (2, true)))], A_r11_Value.strip⟩ := by kernel_rfl
def A_r11_slope_L0 : CA := (.seq (.seq (.reg [i_M 0 7 6, i_B 1 8 .add 7 1, i_M 2 9 0, i_X 3 10 (.h (.len (.t 9))), i_N 4 11 .lss 8 10] [0, 1, 4, 5, 6, 11]) (.cond (.t 11) .skip (.exit 0))) (.seq (.block 1 (.reg [i_M 0 14 6, i_M 1 15 6, i_B 2 16 .add 15 1, i_X 3 17 (.h (.i2f (.t 16))), i_X 4 18 (.callS 0 (kF 99) [(.t 17)]), i_M 5 19 0, i_M 6 20 6, i_B 7 21 .add 20 1, i_I 8 22 19 21 1, i_L 9 23 22 1, i_X 10 24 (.callA (kF 99) [(.t 23)]), i_X 11 25 (.callA (kF 108) [(.t 18), (.t 24)]), i_M 12 26 1, i_X 13 27 (.callA (kF 99) [(.t 26)]), i_X 14 28 (.callA (kF 109) [(.t 25), (.t 27)]), i_P 15 29 5 0, i_X 16 30 (.h (.idxa (.t 29) (.t 14) 9 2)), i_S 17 30 28 2] [0, 1, 4, 5, 6])) (.reg [i_M 0 12 6, i_B 1 13 .add 12 1, i_M 2 6 13] [0, 1, 4, 5, 6])))
def A_r11_slope : CA := (.seq (.reg [i_X 0 4 (.alloc z_20 87)] [0, 1, 4]) (.seq (.reg [i_X 0 5 (.alloc z_20 87)] [0, 1, 4, 5]) (.seq (.seq (.reg [i_K 0 6 0] [0, 1, 4, 5, 6]) (.block 0 (.loop A_r11_slope_L0))) (.seq (.reg [i_A 0 31 5 20, i_S 1 4 31 20] [4]) .ret))))
theorem A_r11_slope_comp : compF Tryz.prog 105 = some ⟨32, [(4, (some (20, true)))], A_r11_slope.strip⟩ := by kernel_rfl
def A_r11_greatest_L0 : CA := (.seq (.seq (.reg [i_M 0 8 4, i_M 1 9 0, i_X 2 10 (.h (.len (.t 9))), i_N 3 11 .lss 8 10] [0, 3, 4, 11]) (.cond (.t 11) .skip (.exit 0))) (.seq (.block 1 (.seq (.reg [i_M 0 14 0, i_M 1 15 4, i_I 2 16 14 15 1, i_L 3 17 16 1, i_M 4 18 3, i_X 5 19 (.h (.fcmp .gt (.t 17) (.t 18)))] [0, 3, 4, 19]) (.cond (.t 19) (.reg [i_M 0 20 0, i_M 1 21 4, i_I 2 22 20 21 1, i_L 3 23 22 1, i_M 4 3 23] [0, 3, 4]) .skip))) (.reg [i_M 0 12 4, i_B 1 13 .add 12 1, i_M 2 4 13] [0, 3, 4])))
def A_r11_greatest : CA := (.seq (.reg [i_X 0 2 (.h (.mov (.k (.d (.flt 0)))))] [0]) (.seq (.reg [i_M 0 5 0, i_X 1 6 (.h (.idx (.t 5) (kI 0) 1)), i_L 2 7 6 1, i_M 3 3 7] [0, 3]) (.seq (.seq (.reg [i_K 0 4 1] [0, 3, 4]) (.block 0 (.loop A_r11_greatest_L0))) (.seq (.reg [i_M 0 24 3, i_M 1 2 24] [2]) .ret))))
theorem A_r11_greatest_comp : compF Tryz.prog 106 = some ⟨25, [(2, none)], A_r11_greatest.strip⟩ := by kernel_rfl
def A_r11_parts_L0 : CA := (.seq (.seq (.reg [i_M 0 18 12, i_M 1 19 2, i_X 2 20 (.h (.len (.t 19))), i_N 3 21 .lss 18 20] [2, 5, 8, 9, 10, 11, 12, 21]) (.cond (.t 21) .skip (.exit 0))) (.seq (.block 1 (.seq (.reg [i_P 0 24 5 4, i_L 1 25 24 1, i_M 2 26 12, i_X 3 27 (.callA (kF 47) [(.t 25), (.t 26)]), i_M 4 13 27] [2, 5, 8, 9, 10, 11, 12, 13]) (.seq (.reg [i_M 0 28 9, i_M 1 29 13, i_X 2 30 (.callS 0 (kF 103) [(.t 29), (.k (.d (.flt 13830554455654793216)))]), i_M 3 31 2, i_M 4 32 12, i_I 5 33 31 32 1, i_L 6 34 33 1, i_X 7 35 (.callA (kF 99) [(.t 34)]), i_X 8 36 (.callA (kF 102) [(.t 30), (.t 35)]), i_X 9 37 (.callA (kF 101) [(.t 36)]), i_X 10 38 (.bslice [(.d (.flt 0))] 1 1 [(0, (1, (.t 37)))] 31), i_X 11 39 (.app (.t 28) (.t 38) 1 8), i_M 12 9 39] [2, 5, 8, 9, 10, 11, 12, 13]) (.reg [i_M 0 40 10, i_M 1 41 11, i_M 2 42 12, i_I 3 43 41 42 20, i_A 4 44 43 20, i_M 5 45 13, i_P 6 46 5 1, i_L 7 47 46 1, i_X 8 48 (.callS 8 (kF 49) [(.t 47)]), i_X 9 49 (.callS 9 (kF 105) [(.t 45), (.t 48)]), i_X 10 50 (.callA (kF 104) [(.t 44), (.t 49)]), i_X 11 51 (.callA (kF 56) [(.t 50)]), i_X 12 52 (.callA (kF 101) [(.t 51)]), i_X 13 53 (.bslice [(.d (.flt 0))] 1 1 [(0, (1, (.t 52)))] 31), i_X 14 54 (.app (.t 40) (.t 53) 1 8), i_M 15 10 54] [2, 5, 8, 9, 10, 11, 12])))) (.reg [i_M 0 22 12, i_B 1 23 .add 22 1, i_M 2 12 23] [2, 5, 8, 9, 10, 11, 12])))
def A_r11_parts : CA := (.seq (.reg [i_X 0 4 (.box (.t 0) 13 33), i_X 1 5 (.box (.t 1) 5 37), i_X 2 8 (.alloc z_5 50)] [2, 3, 4, 5, 8]) (.seq (.reg [i_X 0 9 (.h (.mov (.k .nil))), i_X 1 10 (.h (.mov (.k .nil)))] [2, 3, 4, 5, 8, 9, 10]) (.seq (.reg [i_P 0 14 4 0, i_A 1 15 14 3, i_M 2 16 3, i_X 3 17 (.callA (kF 100) [(.t 15), (.t 16)]), i_M 4 11 17] [2, 5, 8, 9, 10, 11]) (.seq (.seq (.reg [i_K 0 12 0] [2, 5, 8, 9, 10, 11, 12]) (.block 0 (.loop A_r11_parts_L0))) (.seq (.reg [i_M 0 55 9, i_X 1 56 (.callA (kF 106) [(.t 55)]), i_M 2 57 10, i_X 3 58 (.callA (kF 106) [(.t 57)]), i_X 4 59 (.h (.build z_5 [(0, (1, (.t 56))), (1, (1, (.t 58)))])), i_S 5 8 59 5] [8]) .ret)))))
theorem A_r11_parts_comp : compF Tryz.prog 48 = some ⟨60, [(8, (some (5, true)))], A_r11_parts.strip⟩ := by kernel_rfl
def A_r11_around_L0 : CA := (.seq (.seq (.reg [i_M 0 11 9, i_M 1 12 1, i_X 2 13 (.h (.len (.t 12))), i_N 3 14 .lss 11 13] [1, 2, 3, 8, 9, 14]) (.cond (.t 14) .skip (.exit 0))) (.seq (.block 1 (.seq (.reg [i_M 0 17 1, i_M 1 18 9, i_I 2 19 17 18 20, i_A 3 20 19 20, i_X 4 21 (.callA (kF 56) [(.t 20)]), i_M 5 22 2, i_X 6 23 (.h (.fbin .sub (.k (.d (.flt 0))) (.t 22))), i_M 7 24 2, i_X 8 25 (.h (.build [(.d (.flt 0)), (.d (.flt 0))] [(0, (1, (.t 23))), (1, (1, (.t 24)))])), i_X 9 26 (.callA (kF 55) [(.t 21), (.t 25)]), i_X 10 10 (.alloc [(.d (.flt 0)), (.d (.flt 0))] 58), i_S 11 10 26 2] [1, 2, 3, 8, 9, 10]) (.seq (.seq (.reg [i_A 0 27 10 2, i_P 1 28 3 3, i_L 2 29 28 1, i_M 3 30 9, i_I 4 31 29 30 2, i_A 5 32 31 2, i_X 6 33 (.callA (kF 57) [(.t 27), (.t 32)]), i_X 7 34 (.h (.un .not (.t 33)))] [1, 2, 3, 8, 9, 10, 34]) (.cond (.t 34) (.seq (.reg [i_X 0 6 (.h (.mov (.k .nil))), i_X 1 7 (.h (.mov (.k (.d (.bool false)))))] [6, 7]) .ret) .skip)) (.reg [i_M 0 35 8, i_A 1 36 10 2, i_X 2 37 (.bslice [(.d (.flt 0)), (.d (.flt 0))] 1 2 [(0, (2, (.t 36)))] 58), i_X 3 38 (.app (.t 35) (.t 37) 2 16), i_M 4 8 38] [1, 2, 3, 8, 9])))) (.reg [i_M 0 15 9, i_B 1 16 .add 15 1, i_M 2 9 16] [1, 2, 3, 8, 9])))
def A_r11_around : CA := (.seq (.reg [i_X 0 3 (.box (.t 0) 13 33), i_X 1 6 (.h (.mov (.k .nil))), i_X 2 7 (.h (.mov (.k (.d (.bool false)))))] [1, 2, 3]) (.seq (.reg [i_X 0 8 (.h (.mov (.k .nil)))] [1, 2, 3, 8]) (.seq (.seq (.reg [i_K 0 9 0] [1, 2, 3, 8, 9]) (.block 0 (.loop A_r11_around_L0))) (.seq (.reg [i_M 0 39 8, i_M 1 6 39, i_X 2 7 (.h (.mov (.k (.d (.bool true)))))] [6, 7]) .ret))))
theorem A_r11_around_comp : compF Tryz.prog 51 = some ⟨40, [(6, none), (7, none)], A_r11_around.strip⟩ := by kernel_rfl
set_option maxRecDepth 8000 in
theorem r11_column_con (Z : List (List Nat)) (m n i : Nat) (hZ : Rk (m + 1) n Z) (hi : i < n) (hm : m < 1000) : Con Tryz.prog 47 [.d (rowsD Z), fI i] (.d (rowD (colT Z i))) := by
  have hl := hZ.1
  have hr := fun k h => hZ.2 k h
  rw [← colT_tab]
  refine Con_introA A_r11_column_comp rfl mixed ?_
  refine evx @A_r11_column.eq_1 ?_
  refine WA_forW (n := m + 1) (fun c s => ∃ k, c + k = m + 1 ∧ s = ⟨[(0, .d (rowsD Z)), (1, fI i), (5, .sl 100 0 0 k 1 k), (6, fI k)], [(100, [rowV (tabR (fun k => (Z.getD k []).getD i 0) k)])]⟩) (s0 := ⟨_, _⟩)
    (LeT.nilrow (X := 100) (esz := 1) (as' := [(0, .d (rowsD Z)), (1, fI i), (5, .sl 100 0 0 0 1 0), (6, fI 0)]) (by simp [fam_nil]) (fun h => h) (NilTo.look ?_)) ⟨0, by omega, rfl⟩ ?_
  · repeat (first | exact trivial | refine ⟨rfl, .inl rfl, ?_⟩ | refine ⟨rfl, .inr ⟨rfl, rfl⟩, ?_⟩)
  rintro c s ⟨k, hc, rfl⟩
  have htl := tabR_len (fun k => (Z.getD k []).getD i 0) k
  refine evx @A_r11_column_L0.eq_1 ?_
  refine condC_intro (fun h => ?_) (fun h => ?_)
  · replace h := of_decide_eq_true h
    have hk : k < m + 1 := by omega
    have rk := hr k hk
    refine ev ?_
    (repeat (with_reducible refine And.intro (by omega) ?_))
    have e : rowV (tabR (fun k => (Z.getD k []).getD i 0) k) ++ [fl ((Z.getD k []).getD i 0)] = rowV (tabR (fun k => (Z.getD k []).getD i 0) (k + 1)) := (tabR_succ _ _).symm
    rw [wrapI (by omega) (by omega), e]
    exact ⟨c - 1, _, by omega, LeT.only (fun X => decide (X ≤ 100)) (fun _ h => h) rfl (by simp [kpS]) (by simp [kpS]), k + 1, by omega, rfl⟩
  · replace h := of_decide_eq_false h
    obtain rfl : k = m + 1 := by omega
    rw [← hl] at htl ⊢
    refine ev ?_
    refine endsT_le (.sl 100 0 0 Z.length 1 Z.length) (fun _ h => h) (resV_tmpI (t := 4) (by decide) rfl) ?_
    exact .d (snap_row (fun Y q h => by simp [get_nil] at h) (by simp [get_cons]) htl rfl)
set_option maxRecDepth 8000 in
theorem r11_Value_con (c : List Nat) (s : Nat) (hc : 0 < c.length ∧ c.length < 1000) : Con Tryz.prog 103 [.d (rowD c), fl s] (ivV (valC c s)) := by
  obtain ⟨m, hm⟩ : ∃ m, c.length = m + 1 := ⟨c.length - 1, by omega⟩
  have w1 : IntKind.i64.wrap ((c.length : Int) - 1) = (m : Int) := by rw [wrapI (by omega) (by omega)]; omega
  unfold valC
  rw [show c.length - 1 = m by omega]
  refine Con_introA A_r11_Value_comp rfl mixed ?_
  refine evx @A_r11_Value.eq_1 ?_
  refine evx w1 ?_
  (repeat (with_reducible refine And.intro (by omega) ?_))
  refine callG_con (r2_Point_con (c.getD m 0)) rfl ?_
  refine evx w1 ?_
  have e0 : pt (c.getD m 0) = valK c s 0 := by rw [valK, show c.length - 1 = m by omega]
  have e0' : valK c s 0 = (c.getD m 0, c.getD m 0) := e0.symm
  refine WA_for (n := m) (fun cc st => ∃ k, cc + k = m ∧ st = ⟨[(0, .d (rowD c)), (1, fl s), (4, .ptr 0 0 0 2), (5, .ptr 8 0 0 2), (6, fI (m - k : Nat))], [(8, [[fl (valK c s k).1, fl (valK c s k).2]]), (0, [[fl 0, fl 0]])]⟩) ⟨0, by omega, by rw [e0']; rfl⟩ ?_
  rintro cc st ⟨k, hk, rfl⟩
  refine evx @A_r11_Value_L0.eq_1 ?_
  refine condC_intro (fun h => ?_) (fun h => ?_)
  · replace h := of_decide_eq_true h
    have hkm : k < m := by omega
    have w2 : IntKind.i64.wrap (((m - k : Nat) : Int) - 1) = ((m - 1 - k : Nat) : Int) := by rw [wrapI (by omega) (by omega)]; omega
    refine evx w2 ?_
    refine callSG_con (r2_Point_con s) rfl ?_
    refine ev ?_
    refine callSG_con (r2_Mul_con (valK c s k) (pt s)) rfl ?_
    refine evx w2 ?_
    (repeat (with_reducible refine And.intro (by omega) ?_))
    refine callG_con (r2_Point_con (c.getD (m - 1 - k) 0)) rfl ?_
    refine ev ?_
    refine callG_con (r2_Add_con (ivMul (valK c s k) (pt s)) (pt (c.getD (m - 1 - k) 0))) rfl ?_
    have e1 : ivAdd (ivMul (valK c s k) (pt s)) (pt (c.getD (m - 1 - k) 0)) = valK c s (k + 1) := by rw [valK_next, show c.length - 2 - k = m - 1 - k by omega]
    rw [e1]
    refine evx w2 ?_
    rw [show m - 1 - k = m - (k + 1) by omega]
    exact ⟨cc - 1, by omega, k + 1, by omega, rfl⟩
  · replace h := of_decide_eq_false h
    obtain rfl : k = m := by omega
    refine ev ?_
    exact endsT_retm rfl (by decide) rfl rfl rfl (by simp) (by simp [ldv])
set_option maxRecDepth 8000 in
theorem r11_slope_con (c : List Nat) (h : Nat) (hc : 0 < c.length ∧ c.length ≤ 9) : Con Tryz.prog 105 [.d (rowD c), fl h] (mdV (sloM c h)) := by
  obtain ⟨m, hm⟩ : ∃ m, c.length = m + 1 := ⟨c.length - 1, by omega⟩
  have hfil := sloM_fil c h m hm (by omega)
  refine Con_introA A_r11_slope_comp rfl mixed ?_
  refine evx @A_r11_slope.eq_1 ?_
  refine WA_forW (n := m) (fun cc s => ∃ k, cc + k = m ∧ s = ⟨[(0, .d (rowD c)), (1, fl h), (4, .ptr 0 0 0 20), (5, .ptr 1 0 0 20), (6, fI k)],
    [(1, [ivC (filI (sloF c h) zI 10 k)]), (0, [ivC (List.replicate 10 (0, 0))])]⟩) (Le.refl _) ⟨0, by omega, rfl⟩ ?_
  rintro cc s ⟨k, hk, rfl⟩
  have hfl := filI_len (sloF c h) zI 10 k
  have w2 : IntKind.i64.wrap ((k : Int) + 1) = ((k + 1 : Nat) : Int) := by rw [wrapI (by omega) (by omega)]; omega
  refine evx (And.intro @A_r11_slope_L0.eq_1 w2) ?_
  refine condC_intro (fun h2 => ?_) (fun h2 => ?_)
  · replace h2 := of_decide_eq_true h2
    have hkm : k < m := by omega
    refine evx w2 ?_
    refine callSG_con (r2_Point_con (FloatKind.nearest .f64 ((k + 1 : Nat) : Int))) rfl ?_
    refine evx w2 ?_
    (repeat (with_reducible refine And.intro (by omega) ?_))
    refine callG_con (r2_Point_con (c.getD (k + 1) 0)) rfl ?_
    refine ev ?_
    refine callG_con (r2_Mul_con (pt (FloatKind.nearest .f64 ((k + 1 : Nat) : Int))) (pt (c.getD (k + 1) 0))) rfl ?_
    refine ev ?_
    refine callG_con (r2_Point_con h) rfl ?_
    refine ev ?_
    refine callG_con (r2_Div_con (ivMul (pt (FloatKind.nearest .f64 ((k + 1 : Nat) : Int))) (pt (c.getD (k + 1) 0))) (pt h)) rfl ?_
    have e1 : ivDiv (ivMul (pt (FloatKind.nearest .f64 ((k + 1 : Nat) : Int))) (pt (c.getD (k + 1) 0))) (pt h) = sloF c h k := rfl
    rw [e1]
    refine evx w2 ?_
    (repeat (with_reducible refine And.intro (by omega) ?_))
    rw [ivC_put _ _ _ _ (by omega), filI_set _ _ _ _ _ rfl]
    exact ⟨cc - 1, _, by omega, LeT.only (fun X => decide (X ≤ 3)) (fun _ h => h) rfl (by simp (maxDischargeDepth := 6) [kpS, fam_cons, fam_nil, KpA_ivC']) (by simp (maxDischargeDepth := 6) [kpS, fam_cons, fam_nil, KpA_ivC']), k + 1, by omega, rfl⟩
  · replace h2 := of_decide_eq_false h2
    obtain rfl : k = m := by omega
    rw [hfil] at hfl ⊢
    simp -implicitDefEqProofs only [evI, hv, effC, reduceCtorEq, ↓reduceIte, n1_, n2_, n3_, n4_, n5_, i1_, i2_, i3_, i4_, i5_, i6_, i7_, ivC_20 _ hfl]
    (repeat (with_reducible refine And.intro (by omega) ?_))
    rw [splice_all _ _ (by rw [ivC_length, ivC_length, hfl]; rfl)]
    exact endsT_ivs _ (by omega) (by decide) rfl rfl rfl
set_option maxRecDepth 8000 in
theorem r11_greatest_con (l : List Nat) (hl : 0 < l.length ∧ l.length < 2 ^ 40) : Con Tryz.prog 106 [.d (rowD l)] (fl (bestF (fun i => l.getD i 0) (l.length - 1))) := by
  refine Con_introA A_r11_greatest_comp rfl mixed ?_
  refine evx @A_r11_greatest.eq_1 ?_
  (repeat (with_reducible refine And.intro (by omega) ?_))
  refine WA_for (n := l.length - 1) (fun c s => ∃ k, c + k = l.length - 1 ∧ s = ⟨[(0, .d (rowD l)), (3, fl (bestF (fun i => l.getD i 0) k)), (4, fI (k + 1 : Nat))], []⟩) ⟨0, by omega, rfl⟩ ?_
  rintro c s ⟨k, hc, rfl⟩
  refine evx @A_r11_greatest_L0.eq_1 ?_
  refine condC_intro (fun h => ?_) (fun h => ?_)
  · replace h := of_decide_eq_true h
    have hk : k + 1 < l.length := by omega
    refine ev ?_
    (repeat (with_reducible refine And.intro (by omega) ?_))
    have w2 : IntKind.i64.wrap (((k + 1 : Nat) : Int) + 1) = ((k + 1 + 1 : Nat) : Int) := by rw [wrapI (by omega) (by omega)]; omega
    refine condC_intro (fun h2 => ?_) (fun h2 => ?_)
    · have e : bestF (fun i => l.getD i 0) (k + 1) = l.getD (k + 1) 0 := by rw [bestF, if_pos h2]
      refine evx w2 ?_
      (repeat (with_reducible refine And.intro (by omega) ?_))
      exact ⟨c - 1, by omega, k + 1, by omega, by rw [e]⟩
    · have e : bestF (fun i => l.getD i 0) (k + 1) = bestF (fun i => l.getD i 0) k := by rw [bestF, if_neg (fun h3 => by have := h2.symm.trans h3; cases this)]
      refine evx w2 ?_
      exact ⟨c - 1, by omega, k + 1, by omega, by rw [e]⟩
  · replace h := of_decide_eq_false h
    obtain rfl : k = l.length - 1 := by omega
    refine ev ?_
    exact endsT_rett rfl (by decide) (by simp [look])
theorem bestF_congr (f g : Nat → Nat) (k : Nat) (h : ∀ i, i ≤ k → f i = g i) : bestF f k = bestF g k := by
  induction k with
  | zero => exact h 0 (Nat.le_refl _)
  | succ k ih => rw [bestF, bestF, ih (fun i hi => h i (by omega)), h (k + 1) (Nat.le_refl _)]
theorem bestF_tab (f : Nat → Nat) (n : Nat) (hn : 0 < n) : bestF (fun i => (tabR f n).getD i 0) ((tabR f n).length - 1) = bestF f (n - 1) := by
  rw [tabR_len]
  exact bestF_congr _ _ _ fun i hi => tabR_getD _ _ _ (by omega)
abbrev rpS (y : List Nat) (q : D) (u v : V) (k : Nat) : Sl := [(2, .d (rowD y)), (5, .ptr 1 0 0 5), (8, .ptr 2 0 0 5), (9, u), (10, v), (11, .d q), (12, fI k)]
set_option maxRecDepth 8000 in
theorem rparts_L0 (t : Tp) (Z : List (List Nat)) (y : List Nat) (q : List Md) (pos st o mt : Int) (pb : List V) (hpb : ∀ L, KpA L pb) (j m n : Nat) (hj : j < 60) (hst : st = (2 ^ j : Nat)) (ht : Tok t) (htn : t.n = n) (hZ : Rk (m + 1) n Z) (hm : m < 9) (hy : y.length = n) (hq : q.length = n) (hqr : ∀ i, i < n → (q.getD i []).length = 10) (hn : 0 < n ∧ n < 2 ^ 20) (Q : Ex → T → Prop)
    (hQ : ∀ a, Q (.exit 0) ⟨rpS y (mdD (evalM t q)) (.sl 100 0 0 n 1 n) (.sl 101 0 0 n 1 n) n ++ [(21, a)], [(101, [rowV (tabR (dftI t Z q (hW (2 ^ j))) n)]), (100, [rowV (tabR (jmpI Z y) n)]), (2, [[fl 0, fl 0, fl 0, fl 0, fl 0]]), (1, [ndC ⟨pos, st, o, mt, Z⟩]), (0, [pb])]⟩) :
    WA Tryz.prog (fun _ => False) 60 (.loop A_r11_parts_L0) Q ⟨rpS y (mdD (evalM t q)) .nil .nil 0, [(2, [[fl 0, fl 0, fl 0, fl 0, fl 0]]), (1, [ndC ⟨pos, st, o, mt, Z⟩]), (0, [pb])]⟩ := by
  have hel := evalM_len t q
  have her := evalM_rows t q ht (by rw [htn]; exact hqr)
  have hcl := colT_len Z
  have hzl := hZ.1
  refine WA_forW (n := n) (fun c s => ∃ k, c + k = n ∧ s = ⟨rpS y (mdD (evalM t q)) (.sl 100 0 0 k 1 k) (.sl 101 0 0 k 1 k) k, [(101, [rowV (tabR (dftI t Z q (hW (2 ^ j))) k)]), (100, [rowV (tabR (jmpI Z y) k)]), (2, [[fl 0, fl 0, fl 0, fl 0, fl 0]]), (1, [ndC ⟨pos, st, o, mt, Z⟩]), (0, [pb])]⟩) (s0 := ⟨_, _⟩)
    (Le.trans (LeT.nilrow (X := 100) (esz := 1) (as' := rpS y (mdD (evalM t q)) (.sl 100 0 0 0 1 0) .nil 0) (by simp [fam_cons, fam_nil]) (fun h => h) (NilTo.look ?_)) (LeT.nilrow (X := 101) (esz := 1) (as' := rpS y (mdD (evalM t q)) (.sl 100 0 0 0 1 0) (.sl 101 0 0 0 1 0) 0) (by simp [fam_cons, fam_nil]) (fun h => h) (NilTo.look ?_))) ⟨0, by omega, rfl⟩ ?_
  · repeat (first | exact trivial | refine ⟨rfl, .inl rfl, ?_⟩ | refine ⟨rfl, .inr ⟨rfl, rfl⟩, ?_⟩)
  · repeat (first | exact trivial | refine ⟨rfl, .inl rfl, ?_⟩ | refine ⟨rfl, .inr ⟨rfl, rfl⟩, ?_⟩)
  rintro c s ⟨k, hc, rfl⟩
  have l1 := tabR_len (jmpI Z y) k
  have l2 := tabR_len (dftI t Z q (hW (2 ^ j))) k
  refine evx @A_r11_parts_L0.eq_1 ?_
  refine condC_intro (fun h => ?_) (fun h => ?_)
  · replace h := of_decide_eq_true h
    have hk : k < n := by omega
    have hp := her k (by omega)
    have hgm := mdG_len (evalM t q) k hp
    refine ev ?_
    refine callG_con (r11_column_con Z m n k hZ hk (by omega)) rfl ?_
    refine ev ?_
    have hcl9 : 0 < (colT Z k).length ∧ (colT Z k).length ≤ 9 := by rw [hcl]; omega
    have hclk : 0 < (colT Z k).length ∧ (colT Z k).length < 1000 := by omega
    refine callSG_con (r11_Value_con (colT Z k) 13830554455654793216 hclk) rfl ?_
    refine ev ?_
    (repeat (with_reducible refine And.intro (by omega) ?_))
    refine callG_con (r2_Point_con (y.getD k 0)) rfl ?_
    refine ev ?_
    refine callG_con (r2_Sub_con (valC (colT Z k) 13830554455654793216) (pt (y.getD k 0))) rfl ?_
    refine ev ?_
    refine callG_con (r2_Mag_con (ivSub (valC (colT Z k) 13830554455654793216) (pt (y.getD k 0)))) rfl ?_
    have e1 : ivMag (ivSub (valC (colT Z k) 13830554455654793216) (pt (y.getD k 0))) = jmpI Z y k := rfl
    rw [e1]
    simp -implicitDefEqProofs only [evI, hv, effC, reduceCtorEq, ↓reduceIte, n1_, n2_, n3_, n4_, n5_, i1_, i2_, i3_, i4_, i5_, i6_, i7_, mdD, mdG_map, hgm, ivC_20 _ hp]
    (repeat (with_reducible refine And.intro (by omega) ?_))
    subst hst
    refine callSG_con (r8_H_step j) rfl ?_
    refine ev ?_
    refine callSG_con (r11_slope_con (colT Z k) (hW (2 ^ j)) hcl9) rfl ?_
    refine ev ?_
    first | refine callG_con (r5_Sub_con ((evalM t q).getD k []) (sloM (colT Z k) (hW (2 ^ j))) hp (sloM_len _ _)) (by simp [bare_d, ivC_bare]) ?_ | refine callCG_con (r5_Sub_con ((evalM t q).getD k []) (sloM (colT Z k) (hW (2 ^ j))) hp (sloM_len _ _)) (by simp [bare_d, ivC_bare]) ?_ | refine callSG_con (r5_Sub_con ((evalM t q).getD k []) (sloM (colT Z k) (hW (2 ^ j))) hp (sloM_len _ _)) (by simp [bare_d, ivC_bare]) ?_
    refine ev ?_
    first | refine callG_con (r5_Range_con (zipM ivSub ((evalM t q).getD k []) (sloM (colT Z k) (hW (2 ^ j)))) (zipM_len _ _ _)) (by simp [bare_d, ivC_bare]) ?_ | refine callCG_con (r5_Range_con (zipM ivSub ((evalM t q).getD k []) (sloM (colT Z k) (hW (2 ^ j)))) (zipM_len _ _ _)) (by simp [bare_d, ivC_bare]) ?_ | refine callSG_con (r5_Range_con (zipM ivSub ((evalM t q).getD k []) (sloM (colT Z k) (hW (2 ^ j)))) (zipM_len _ _ _)) (by simp [bare_d, ivC_bare]) ?_
    refine ev ?_
    refine callG_con (r2_Mag_con (rngM (zipM ivSub ((evalM t q).getD k []) (sloM (colT Z k) (hW (2 ^ j)))))) rfl ?_
    have e2 : ivMag (rngM (zipM ivSub ((evalM t q).getD k []) (sloM (colT Z k) (hW (2 ^ j))))) = dftI t Z q (hW (2 ^ j)) k := rfl
    rw [e2]
    refine ev ?_
    (repeat (with_reducible refine And.intro (by omega) ?_))
    have f1 : rowV (tabR (jmpI Z y) k) ++ [fl (jmpI Z y k)] = rowV (tabR (jmpI Z y) (k + 1)) := (tabR_succ _ _).symm
    have f2 : rowV (tabR (dftI t Z q (hW (2 ^ j))) k) ++ [fl (dftI t Z q (hW (2 ^ j)) k)] = rowV (tabR (dftI t Z q (hW (2 ^ j))) (k + 1)) := (tabR_succ _ _).symm
    rw [f1, f2, wrapI (by omega) (by omega)]
    exact ⟨c - 1, _, by omega, LeT.only (fun X => decide (X ≤ 101)) (fun _ h => h) rfl (by simp (maxDischargeDepth := 6) [kpS, fam_cons, fam_nil, hpb]) (by simp (maxDischargeDepth := 6) [kpS, fam_cons, fam_nil, hpb]), k + 1, by omega, rfl⟩
  · replace h := of_decide_eq_false h
    obtain rfl : k = n := by omega
    refine ev ?_
    exact hQ _
set_option maxRecDepth 8000 in
theorem r11_parts_con (p : Pb) (v : Nd) (y : List Nat) (q : List Md) (j m n : Nat) (hj : j < 60) (hst : v.step = (2 ^ j : Nat)) (ht : Tok p.t) (htn : p.t.n = n) (hlen : p.t.ops.length < 2 ^ 39) (hZ : Rk (m + 1) n v.z) (hm : m < 9) (hy : y.length = n) (hq : q.length = n) (hqr : ∀ i, i < n → (q.getD i []).length = 10) (hn : 0 < n ∧ n < 2 ^ 20) :
    Con Tryz.prog 48 [pbV p, ndV v, .d (rowD y), .d (mdD q)] (bdV ⟨bestF (jmpI v.z y) (n - 1), bestF (dftI p.t v.z q (hW (2 ^ j))) (n - 1), 0, 0, 0⟩) := by
  obtain ⟨pos, st, o, mt, Z⟩ := v
  have hev := r5_Eval_con p.t q ht (by omega) (by rw [htn]; exact hqr) hlen
  have g1 := r11_greatest_con (tabR (jmpI Z y) n) (by rw [tabR_len]; omega)
  have g2 := r11_greatest_con (tabR (dftI p.t Z q (hW (2 ^ j))) n) (by rw [tabR_len]; omega)
  rw [bestF_tab _ _ hn.1] at g1 g2
  refine Con_introA A_r11_parts_comp rfl mixed ?_
  refine evx @A_r11_parts.eq_1 ?_
  refine callG_con (hev) rfl ?_
  refine ev ?_
  refine rparts_L0 p.t Z y q pos st o mt _ (fun L => by simp [KpA_cons, KpA_nil, Kp_d]) j m n hj hst ht htn hZ hm hy hq hqr hn _ fun a => ?_
  refine ev ?_
  refine callG_snaps [.d (rowD (tabR (jmpI Z y) n))] g1 ⟨snp_row rfl (tabR_len _ _) rfl, trivial⟩ (.flt _) ?_
  refine ev ?_
  refine callG_snaps [.d (rowD (tabR (dftI p.t Z q (hW (2 ^ j))) n))] g2 ⟨snp_row rfl (tabR_len _ _) rfl, trivial⟩ (.flt _) ?_
  refine ev ?_
  exact endsT_retm rfl (by decide) rfl rfl rfl (by simp) (by simp [ldv])
def arK (q : List Md) (box : List Iv) (r : Nat) (n : Nat) : V := if insK q box r n = true then .tup [.d (ivD (tabI (tubI q r) n)), fB true] else .tup [.nil, fB false]
set_option maxRecDepth 8000 in
theorem r11_around_con (p : Pb) (q : List Md) (r n : Nat) (hq : q.length = n) (hqr : ∀ i, i < n → (q.getD i []).length = 10) (hb : p.box.length = n) (hn : n < 2 ^ 20) : Con Tryz.prog 51 [pbV p, .d (mdD q), fl r] (arK q p.box r n) := by
  have htl := tabI_len (tubI q r) n
  unfold arK
  rw [insK_eq]
  refine Con_introA A_r11_around_comp rfl mixed ?_
  refine evx @A_r11_around.eq_1 ?_
  refine WA_forW (n := n) (fun c s => ∃ k, c + k = n ∧ insL (tabI (tubI q r) n) p.box k = true ∧ s = ⟨[(1, .d (mdD q)), (2, fl r), (3, .ptr 0 0 0 13), (8, .sl 100 0 0 k 2 (k * 2)), (9, fI k)], [(100, [ivC (tabI (tubI q r) k)]), (0, [pbC p])]⟩) (s0 := ⟨_, _⟩)
    (LeT.nilrow (X := 100) (esz := 2) (as' := [(1, .d (mdD q)), (2, fl r), (3, .ptr 0 0 0 13), (8, .sl 100 0 0 0 2 0), (9, fI 0)]) (by simp [fam_cons, fam_nil]) (fun h => h) (NilTo.look ?_)) ⟨0, by omega, rfl, rfl⟩ ?_
  · repeat (first | exact trivial | refine ⟨rfl, .inl rfl, ?_⟩ | refine ⟨rfl, .inr ⟨rfl, rfl⟩, ?_⟩)
  rintro c s ⟨k, hc, hin, rfl⟩
  have hkl := tabI_len (tubI q r) k
  refine evx (And.intro @A_r11_around_L0.eq_1 @mdD.eq_1) ?_
  refine condC_intro (fun h => ?_) (fun h => ?_)
  · replace h := of_decide_eq_true h
    have hk : k < n := by omega
    have hp := hqr k hk
    have hgm := mdG_len q k hp
    have es := insL_succ (tabI (tubI q r) n) p.box k
    rw [hin, mG_tabI _ _ _ hk] at es
    simp -implicitDefEqProofs only [evI, hv, effC, reduceCtorEq, ↓reduceIte, n1_, n2_, n3_, n4_, n5_, i1_, i2_, i3_, i4_, i5_, i6_, i7_, mdG_map, hgm, ivC_20 _ hp, ivC_len20 _ hp, splice_z20 _ hp]
    (repeat (with_reducible refine And.intro (by omega) ?_))
    first | refine callG_con (r5_Range_con (q.getD k []) hp) (by simp [bare_d, ivC_bare]) ?_ | refine callCG_con (r5_Range_con (q.getD k []) hp) (by simp [bare_d, ivC_bare]) ?_ | refine callSG_con (r5_Range_con (q.getD k []) hp) (by simp [bare_d, ivC_bare]) ?_
    refine ev ?_
    refine callG_con (r2_Add_con (rngM (q.getD k [])) (fop .sub 0 r, r)) rfl ?_
    have e : ivAdd (rngM (q.getD k [])) (fop .sub 0 r, r) = tubI q r k := rfl
    rw [e]
    refine evx @ivG_eq ?_
    (repeat (with_reducible refine And.intro (by omega) ?_))
    refine callG_con (r2_Within_con (tubI q r k) (mG p.box k)) rfl ?_
    cases hw : withinI (tubI q r k) (mG p.box k)
    · rw [hw] at es
      rw [insL_false _ _ (k + 1) n (by omega) es, if_neg (by decide)]
      refine ev ?_
      exact endsT_ret rfl ⟨_, _, resV_tmpI (by decide) rfl, resV_tmpI (by decide) rfl, rfl⟩
    · rw [hw] at es
      refine ev ?_
      (repeat (with_reducible refine And.intro (by omega) ?_))
      rw [wrapI (by omega) (by omega), ivC_tabI, show k * 2 + 2 = (k + 1) * 2 by omega]
      exact ⟨c - 1, _, by omega, LeT.only (fun X => X == 100 || X == 0) (fun _ h => h) rfl (by simp (maxDischargeDepth := 6) [kpS, fam_cons, fam_nil, KpA_ivC']) (by simp (maxDischargeDepth := 6) [kpS, fam_cons, fam_nil, KpA_ivC']), k + 1, by omega, es, rfl⟩
  · replace h := of_decide_eq_false h
    obtain rfl : k = n := by omega
    refine ev ?_
    rw [hin, if_pos rfl]
    refine endsT_le (.tup [.sl 100 0 0 k 2 (k * 2), fB true]) (fun _ h => h) ⟨_, _, resV_tmpI (by decide) rfl, resV_tmpI (by decide) rfl, rfl⟩ ?_
    refine .tup rfl fun i hi => ?_
    rcases i with _ | _ | i
    · exact .d (snap_iv (fun Y q h => by simp [get_nil] at h) (by simp [get_cons]) htl rfl)
    · exact .d (.d _)
    · have hi : i + 2 < 2 := hi
      omega
def A_r11_Step_L0 : CA := (.seq (.seq (.reg [i_M 0 23 11, i_M 1 24 2, i_X 2 25 (.h (.len (.t 24))), i_N 3 26 .lss 23 25] [2, 3, 4, 5, 8, 10, 11, 26]) (.cond (.t 26) .skip (.exit 0))) (.seq (.block 1 (.reg [i_M 0 29 10, i_P 1 30 5 4, i_L 2 31 30 1, i_M 3 32 11, i_X 4 33 (.callA (kF 47) [(.t 31), (.t 32)]), i_X 5 34 (.callA (kF 46) [(.t 33)]), i_X 6 35 (.bslice z_20 1 20 [(0, (20, (.t 34)))] 87), i_X 7 36 (.app (.t 29) (.t 35) 20 160), i_M 8 10 36] [2, 3, 4, 5, 8, 10, 11])) (.reg [i_M 0 27 11, i_B 1 28 .add 27 1, i_M 2 11 28] [2, 3, 4, 5, 8, 10, 11])))
def A_r11_Step_L1 : CA := (.seq (.seq (.reg [i_M 0 73 18, i_B 1 74 .lss 73 3] [4, 8, 10, 12, 13, 16, 17, 18, 74]) (.cond (.t 74) .skip (.exit 2))) (.seq (.block 3 (.seq (.reg [i_A 0 78 4 13, i_M 1 79 10, i_M 2 80 17, i_X 3 81 (.callA (kF 51) [(.t 78), (.t 79), (.t 80)]), i_M 4 77 81, i_X 5 82 (.h (.ext (.t 77) 0)), i_X 6 83 (.h (.ext (.t 77) 1)), i_M 7 19 82, i_M 8 20 83] [4, 8, 10, 12, 13, 16, 17, 18, 19, 20]) (.seq (.seq (.reg [i_M 0 84 20, i_X 1 85 (.h (.un .not (.t 84)))] [4, 8, 10, 12, 13, 16, 17, 18, 19, 85]) (.cond (.t 85) (.seq (.reg [i_X 0 86 (.h (.build z_5 [])), i_S 1 8 86 5, i_K 2 9 3] [8, 9]) .ret) .skip)) (.seq (.reg [i_P 0 87 4 0, i_A 1 88 87 3, i_M 2 89 19, i_X 3 90 (.callA (kF 53) [(.t 88), (.t 89)]), i_X 4 91 (.callA (kF 52) [(.t 90)]), i_P 5 92 12 2, i_S 6 92 91 1] [4, 8, 10, 12, 13, 16, 17, 18]) (.seq (.reg [i_P 0 93 12 3, ⟨1, none, none, [], [], (.store (.t 93) (.k (.d (.flt 4607182418800017408))) 1)⟩] [4, 8, 10, 12, 13, 16, 17, 18]) (.seq (.seq (.reg [i_P 0 94 12 2, i_L 1 95 94 1, i_X 2 96 (.h (.fcmp .le (.t 95) (.k (.d (.flt 0))))), i_X 3 97 (.h (.un .not (.t 96)))] [4, 8, 10, 12, 13, 16, 17, 18, 97]) (.cond (.t 97) (.seq (.reg [i_M 0 98 13, i_P 1 99 12 2, i_L 2 100 99 1, i_F 3 101 .mul 98 100, i_X 4 102 (.callA (kF 50) [(.t 101)]), i_X 5 103 (.callA (kF 54) [(.t 102)]), i_M 6 21 103] [4, 8, 10, 12, 13, 16, 17, 18, 21]) (.seq (.reg [i_M 0 104 21, i_X 1 105 (.h (.fcmp .gt (.t 104) (.k (.d (.flt 4607182418800017408)))))] [4, 8, 10, 12, 13, 16, 17, 18, 21, 105]) (.cond (.t 105) (.reg [i_M 0 106 21, i_P 1 107 12 3, i_S 2 107 106 1] [4, 8, 10, 12, 13, 16, 17, 18]) .skip))) .skip)) (.seq (.reg [i_P 0 108 12 3, i_L 1 109 108 1, i_M 2 110 16, i_F 3 111 .mul 109 110, i_X 4 112 (.callA (kF 50) [(.t 111)]), i_M 5 22 112] [4, 8, 10, 12, 13, 16, 17, 18, 22]) (.seq (.seq (.reg [i_M 0 113 22, i_M 1 114 17, i_X 2 115 (.h (.fcmp .lt (.t 113) (.t 114)))] [4, 8, 10, 12, 13, 16, 18, 22, 115]) (.cond (.t 115) (.seq (.reg [i_M 0 116 22, i_P 1 117 12 4, i_S 2 117 116 1] [8, 12]) (.seq (.reg [i_A 0 118 12 5, i_S 1 8 118 5, i_K 2 9 0] [8, 9]) .ret)) .skip)) (.seq (.seq (.reg [i_M 0 119 22, i_X 1 120 (.callA (kF 20) [(.t 119)]), i_X 2 121 (.h (.un .not (.t 120)))] [4, 8, 10, 12, 13, 16, 18, 22, 121]) (.cond (.t 121) (.seq (.reg [i_X 0 122 (.h (.build z_5 [])), i_S 1 8 122 5, i_K 2 9 7] [8, 9]) .ret) .skip)) (.reg [i_M 0 123 22, i_X 1 124 (.h (.fbin .mul (.k (.d (.flt 4616189618054758400))) (.t 123))), i_X 2 125 (.callA (kF 50) [(.t 124)]), i_M 3 17 125] [4, 8, 10, 12, 13, 16, 17, 18])))))))))) (.reg [i_M 0 75 18, i_B 1 76 .add 75 1, i_M 2 18 76] [4, 8, 10, 12, 13, 16, 17, 18])))
def A_r11_Step : CA := (.seq (.reg [i_X 0 4 (.box (.t 0) 13 33), i_X 1 5 (.box (.t 1) 5 37), i_X 2 8 (.alloc z_5 50), i_K 3 9 0] [2, 3, 4, 5, 8]) (.seq (.reg [i_X 0 10 (.h (.mov (.k .nil)))] [2, 3, 4, 5, 8, 10]) (.seq (.seq (.reg [i_K 0 11 0] [2, 3, 4, 5, 8, 10, 11]) (.block 0 (.loop A_r11_Step_L0))) (.seq (.reg [i_A 0 37 4 13, i_A 1 38 5 5, i_M 2 39 2, i_M 3 40 10, i_X 4 41 (.callA (kF 48) [(.t 37), (.t 38), (.t 39), (.t 40)]), i_X 5 12 (.alloc z_5 50), i_S 6 12 41 5] [3, 4, 5, 8, 10, 12]) (.seq (.seq (.reg [i_P 0 42 12 0, i_L 1 43 42 1, i_X 2 44 (.callA (kF 20) [(.t 43)]), i_X 3 45 (.h (.un .not (.t 44))), i_M 4 46 45, ⟨5, (some 47), (some (46, false)), [], [], (.h (.padd (.t 12) 1))⟩, ⟨6, (some 48), (some (46, false)), [], [], (.load (.t 47) 1 false)⟩, ⟨7, (some 49), (some (46, false)), [], [], (.callA (kF 20) [(.t 48)])⟩, ⟨8, (some 50), (some (46, false)), [], [], (.h (.un .not (.t 49)))⟩, i_X 9 51 (.h (.pick (.t 46) (.k (.d (.bool true))) (.t 50)))] [3, 4, 5, 8, 10, 12, 51]) (.cond (.t 51) (.seq (.reg [i_X 0 52 (.h (.build z_5 [])), i_S 1 8 52 5, i_K 2 9 7] [8, 9]) .ret) .skip)) (.seq (.reg [i_P 0 53 5 1, i_L 1 54 53 1, i_X 2 55 (.callA (kF 49) [(.t 54)]), i_M 3 13 55] [3, 4, 8, 10, 12, 13]) (.seq (.reg [i_M 0 56 3, i_P 1 57 12 0, i_L 2 58 57 1, i_F 3 59 .add 56 58, i_X 4 60 (.callA (kF 50) [(.t 59)]), i_M 5 14 60] [4, 8, 10, 12, 13, 14]) (.seq (.reg [i_M 0 61 13, i_P 1 62 12 1, i_L 2 63 62 1, i_F 3 64 .mul 61 63, i_X 4 65 (.callA (kF 50) [(.t 64)]), i_M 5 15 65] [4, 8, 10, 12, 13, 14, 15]) (.seq (.reg [i_M 0 66 14, i_M 1 67 15, i_F 2 68 .add 66 67, i_X 3 69 (.callA (kF 50) [(.t 68)]), i_M 4 16 69] [4, 8, 10, 12, 13, 16]) (.seq (.reg [i_M 0 70 16, i_X 1 71 (.h (.fbin .mul (.k (.d (.flt 4616189618054758400))) (.t 70))), i_X 2 72 (.callA (kF 50) [(.t 71)]), i_M 3 17 72] [4, 8, 10, 12, 13, 16, 17]) (.seq (.seq (.reg [i_K 0 18 0] [4, 8, 10, 12, 13, 16, 17, 18]) (.block 2 (.loop A_r11_Step_L1))) (.seq (.reg [i_X 0 126 (.h (.build z_5 [])), i_S 1 8 126 5, i_K 2 9 7] [8, 9]) .ret))))))))))))
theorem A_r11_Step_comp : compF Tryz.prog 18 = some ⟨127, [(8, (some (5, true))), (9, none)], A_r11_Step.strip⟩ := by kernel_rfl
abbrev rsS0 (y : List Nat) (w : Nat) (v : V) (k : Nat) : Sl := [(2, .d (rowD y)), (3, fl w), (4, .ptr 0 0 0 13), (5, .ptr 1 0 0 5), (8, .ptr 2 0 0 5), (10, v), (11, fI k)]
set_option maxRecDepth 8000 in
theorem rstep_L0 (v : Nd) (p : Pb) (y : List Nat) (w n m : Nat) (hk : Rk (m + 1) n v.z) (hn : 0 < n ∧ n < 2 ^ 20) (ho : m < 9) (hy : y.length = n) (Q : Ex → T → Prop)
    (hQ : ∀ a, Q (.exit 0) ⟨rsS0 y w (.d (mdD (colsM v.z n))) n ++ [(26, a)], bsH (ndC v) (pbC p)⟩) :
    WA Tryz.prog (fun _ => False) 127 (.loop A_r11_Step_L0) Q ⟨rsS0 y w .nil 0, bsH (ndC v) (pbC p)⟩ := by
  obtain ⟨pos, st, o, mt, Z⟩ := v
  simp only at hk hQ ⊢
  have hqr := colsM_rows Z n
  have hql := colsM_len Z n
  have hrow := colsM_row Z n
  have hcl0 := colT_len Z
  have hzl := hk.1
  refine WA_forW (n := n) (fun c s => ∃ k, c + k = n ∧ ((k < n ∧ s = ⟨rsS0 y w (.sl 100 0 0 k 20 (k * 20)) k, (100, [dcells k (mdG (colsM Z n))]) :: bsH (ndC ⟨pos, st, o, mt, Z⟩) (pbC p)⟩) ∨ (k = n ∧ s = ⟨rsS0 y w (.d (mdD (colsM Z n))) k, bsH (ndC ⟨pos, st, o, mt, Z⟩) (pbC p)⟩))) (s0 := ⟨_, _⟩)
    (LeT.nilrow (X := 100) (esz := 20) (as' := rsS0 y w (.sl 100 0 0 0 20 0) 0) (by simp [fam_cons, fam_nil]) (fun h => h) (NilTo.look ?_)) ⟨0, by omega, .inl ⟨by omega, rfl⟩⟩ ?_
  · repeat (first | exact trivial | refine ⟨rfl, .inl rfl, ?_⟩ | refine ⟨rfl, .inr ⟨rfl, rfl⟩, ?_⟩)
  rintro c s ⟨k, hc, ⟨hkn, rfl⟩ | ⟨hkn, rfl⟩⟩
  · have hcl : (dcells k (mdG (colsM Z n))).length = k * 20 := dcells_len k fun j hj => mdG_len _ _ (hqr j (by omega))
    have hpo := ofM_len (colT Z k)
    have hcz : (colT Z k).length ≤ 9 := by rw [hcl0]; omega
    refine evx @A_r11_Step_L0.eq_1 ?_
    have h2 : decide (k < y.length) = true := decide_eq_true (by omega)
    refine evx h2 ?_
    (repeat (with_reducible refine And.intro (by omega) ?_))
    refine callG_con (r11_column_con Z m n k hk hkn (by omega)) rfl ?_
    refine ev ?_
    refine callG_con (r5_Of_con (colT Z k) hcz) rfl ?_
    simp -implicitDefEqProofs only [evI, hv, effC, reduceCtorEq, ↓reduceIte, n1_, n2_, n3_, n4_, n5_, i1_, i2_, i3_, i4_, i5_, i6_, i7_, ivC_len20 _ hpo, splice_z20 _ hpo, ivC_20 _ hpo]
    (repeat (with_reducible refine And.intro (by omega) ?_))
    have e : dcells k (mdG (colsM Z n)) ++ ivC (ofM (colT Z k)) = dcells (k + 1) (mdG (colsM Z n)) := by rw [dcells_succ, ivC_data, mdG, hrow k hkn]
    rw [e, wrapI (by omega) (by omega), show k * 20 + 20 = (k + 1) * 20 by omega]
    by_cases hlast : k + 1 = n
    · have hz : ∀ L : Heap, L.get 100 0 = some (dcells (k + 1) (mdG (colsM Z n))) → Fz L (bsH (ndC ⟨pos, st, o, mt, Z⟩) (pbC p)) (.sl 100 0 0 (k + 1) 20 ((k + 1) * 20)) (.d (mdD (colsM Z n))) := fun L a => Fz_md a (by omega) (fun i hi => hqr i (by omega)) (by simp [get_cons, get_nil])
      refine ⟨c - 1, _, by omega, ?_, k + 1, by omega, .inr ⟨hlast, rfl⟩⟩
      have hz2 := hz ((107, [ivC (ofM (colT Z k))]) :: (100, [dcells (k + 1) (mdG (colsM Z n))]) :: bsH (ndC ⟨pos, st, o, mt, Z⟩) (pbC p)) (by simp [get_cons])
      exact LeT.weak (fun _ h => h) (by simp (maxDischargeDepth := 6) [fzS, hz2]) (by simp (maxDischargeDepth := 6) [fzS])
    · refine ⟨c - 1, _, by omega, LeT.only (fun X => decide (X ≤ 100)) (fun _ h => h) rfl (by simp [kpS]) (by simp [kpS]), k + 1, by omega, .inl ⟨by omega, rfl⟩⟩
  · subst hkn
    have h2 : decide (k < y.length) = false := decide_eq_false (by omega)
    refine evx (And.intro @A_r11_Step_L0.eq_1 h2) ?_
    exact hQ _
abbrev rsS1 (h e r : Nat) (q : List Md) (k : Nat) : Sl := [(4, .ptr 0 0 0 13), (8, .ptr 2 0 0 5), (10, .d (mdD q)), (12, .ptr 8 0 0 5), (13, fl h), (16, fl e), (17, fl r), (18, fI k)]
abbrev rsH1 (nd : List V) (p : Pb) (o : List Nat) : Heap := [(8, [rowV o]), (2, [[fl 0, fl 0, fl 0, fl 0, fl 0]]), (1, [nd]), (0, [pbC p])]
set_option maxRecDepth 8000 in
theorem rstep_L1 (nd : List V) (p : Pb) (q : List Md) (h e j d : Nat) (ht : Tok p.t) (hn : 0 < p.t.n) (hb : p.box.length = p.t.n) (hq : q.length = p.t.n) (hqr : ∀ i, i < p.t.n → (q.getD i []).length = 10) (r0 : Nat) (Q : Ex → T → Prop) (R : Bnd × Int) (hR : bndK p.t p.box q h e j d 3 r0 = R)
    (hQ1 : ∀ o : List Nat, o.length = 5 → Q .ret ⟨[(8, .ptr 2 0 0 5), (9, fI R.2)], [(8, [rowV o]), (2, [[fl R.1.jump, fl R.1.defect, fl R.1.norm, fl R.1.growth, fl R.1.bound]]), (1, [nd]), (0, [pbC p])]⟩)
    (hQ2 : R = (⟨0, 0, 0, 0, 0⟩, 7) → ∀ (o : List Nat) r k a, Q (.exit 2) ⟨rsS1 h e r q k ++ [(74, a)], rsH1 nd p o⟩) :
    WA Tryz.prog (fun _ => False) 127 (.loop A_r11_Step_L1) Q ⟨rsS1 h e r0 q 0, rsH1 nd p [j, d, 0, 0, 0]⟩ := by
  have hn20 := ht.n
  refine WA_for (n := 3) (fun c s => ∃ k r a b, c + k = 3 ∧ bndK p.t p.box q h e j d c r = R ∧ s = ⟨rsS1 h e r q k, rsH1 nd p [j, d, a, b, 0]⟩) ⟨0, r0, 0, 0, by omega, hR, rfl⟩ ?_
  rintro c s ⟨k, r, a, b, hc, hR, rfl⟩
  refine evx @A_r11_Step_L1.eq_1 ?_
  refine condC_intro (fun h2 => ?_) (fun h2 => ?_)
  · replace h2 := of_decide_eq_true h2
    obtain ⟨c', rfl⟩ : ∃ c', c = c' + 1 := ⟨c - 1, by omega⟩
    have htl := tabI_len (tubI q r) p.t.n
    have hjl := jacI_len p.t (tabI (tubI q r) p.t.n)
    have hjr := fun i hi => jacI_rows p.t (tabI (tubI q r) p.t.n) ht i hi
    rw [bndK] at hR
    have har := r11_around_con p q r p.t.n hq hqr hb hn20
    unfold arK at har
    refine ev ?_
    refine callG_con (har) rfl ?_
    cases hin : insK q p.box r p.t.n
    · rw [hin, if_pos rfl] at hR
      subst hR
      refine ev ?_
      exact hQ1 [j, d, a, b, 0] rfl
    · rw [hin, if_neg (by decide)] at hR
      simp only at hR
      refine ev ?_
      refine callG_con (r4_JacIv_con p.t (tabI (tubI q r) p.t.n) ht htl) rfl ?_
      refine ev ?_
      refine callG_con (r4_Norm_con (jacI p.t (tabI (tubI q r) p.t.n)) p.t.n hjl hjr (by omega)) rfl ?_
      generalize normI (jacI p.t (tabI (tubI q r) p.t.n)) = nm at hR ⊢
      refine ev ?_
      cases hle : fcmp .le nm 0
      · generalize hgx : ivExp (up (fop .mul h nm)) = gx
        refine ev ?_
        refine callG_con (r1_Up_con (fop .mul h nm)) rfl ?_
        refine ev ?_
        refine callG_con (r2_Exp_con (up (fop .mul h nm))) rfl ?_
        rw [hgx]
        refine ev ?_
        refine condC_intro (fun h4 => ?_) (fun h4 => ?_)
        · have gB : growF h nm = gx := by unfold growF; rw [if_neg (by simp [hle]), hgx, show oneW = 4607182418800017408 from rfl, if_pos h4]
          refine ev ?_
          rw [gB] at hR
          refine callG_con (r1_Up_con (fop .mul gx e)) rfl ?_
          generalize up (fop .mul gx e) = b2 at hR ⊢
          refine ev ?_
          refine condC_intro (fun h3 => ?_) (fun h3 => ?_)
          · rw [if_pos h3] at hR
            subst hR
            refine ev ?_
            exact hQ1 [j, d, nm, gx, b2] rfl
          · rw [if_neg (by simp [h3])] at hR
            refine ev ?_
            refine callG_con (r1_Finite_con b2) rfl ?_
            rw [finite_sub]
            cases hf : finite b2
            · rw [hf, if_pos rfl] at hR
              subst hR
              refine ev ?_
              exact hQ1 [j, d, nm, gx, 0] rfl
            · rw [hf, if_neg (by decide)] at hR
              refine ev ?_
              refine callG_con (r1_Up_con (fop .mul 4616189618054758400 b2)) rfl ?_
              refine ev ?_
              rw [wrapI (by omega) (by omega)]
              exact ⟨c', by omega, k + 1, _, nm, gx, by omega, hR, rfl⟩
        · have gC : growF h nm = 4607182418800017408 := by unfold growF; rw [if_neg (by simp [hle]), hgx, show oneW = 4607182418800017408 from rfl, if_neg (fun h5 => by have := h4.symm.trans h5; cases this)]
          refine ev ?_
          rw [gC] at hR
          refine callG_con (r1_Up_con (fop .mul 4607182418800017408 e)) rfl ?_
          generalize up (fop .mul 4607182418800017408 e) = b2 at hR ⊢
          refine ev ?_
          refine condC_intro (fun h3 => ?_) (fun h3 => ?_)
          · rw [if_pos h3] at hR
            subst hR
            refine ev ?_
            exact hQ1 [j, d, nm, 4607182418800017408, b2] rfl
          · rw [if_neg (by simp [h3])] at hR
            refine ev ?_
            refine callG_con (r1_Finite_con b2) rfl ?_
            rw [finite_sub]
            cases hf : finite b2
            · rw [hf, if_pos rfl] at hR
              subst hR
              refine ev ?_
              exact hQ1 [j, d, nm, 4607182418800017408, 0] rfl
            · rw [hf, if_neg (by decide)] at hR
              refine ev ?_
              refine callG_con (r1_Up_con (fop .mul 4616189618054758400 b2)) rfl ?_
              refine ev ?_
              rw [wrapI (by omega) (by omega)]
              exact ⟨c', by omega, k + 1, _, nm, 4607182418800017408, by omega, hR, rfl⟩
      · have gA : growF h nm = 4607182418800017408 := by unfold growF; rw [if_pos hle]; rfl
        refine ev ?_
        rw [gA] at hR
        refine callG_con (r1_Up_con (fop .mul 4607182418800017408 e)) rfl ?_
        generalize up (fop .mul 4607182418800017408 e) = b2 at hR ⊢
        refine ev ?_
        refine condC_intro (fun h3 => ?_) (fun h3 => ?_)
        · rw [if_pos h3] at hR
          subst hR
          refine ev ?_
          exact hQ1 [j, d, nm, 4607182418800017408, b2] rfl
        · rw [if_neg (by simp [h3])] at hR
          refine ev ?_
          refine callG_con (r1_Finite_con b2) rfl ?_
          rw [finite_sub]
          cases hf : finite b2
          · rw [hf, if_pos rfl] at hR
            subst hR
            refine ev ?_
            exact hQ1 [j, d, nm, 4607182418800017408, 0] rfl
          · rw [hf, if_neg (by decide)] at hR
            refine ev ?_
            refine callG_con (r1_Up_con (fop .mul 4616189618054758400 b2)) rfl ?_
            refine ev ?_
            rw [wrapI (by omega) (by omega)]
            exact ⟨c', by omega, k + 1, _, nm, 4607182418800017408, by omega, hR, rfl⟩
  · replace h2 := of_decide_eq_false h2
    obtain rfl : c = 0 := by omega
    rw [bndK] at hR
    refine ev ?_
    exact hQ2 hR.symm [j, d, a, b, 0] _ _ _
theorem endsT_br {s : T} {R : Bnd × Int} (h1 : look s.sl 8 = .ptr 2 0 0 5) (h2 : look s.sl 9 = fI R.2) (h3 : s.L.get 2 0 = some [fl R.1.jump, fl R.1.defect, fl R.1.norm, fl R.1.growth, fl R.1.bound]) : EndsT (fun _ => False) 127 [(8, some (5, true)), (9, none)] (.tup [bdV R.1, fI R.2]) [] .ret s :=
  endsT_ret rfl ⟨_, _, resV_cell (by decide) h1 h3 rfl (by simp) (by simp [ldv]), by rw [← h2]; exact resV_tmpI (by decide) rfl, rfl⟩
set_option maxRecDepth 16000 in
theorem r11_Step_con (p : Pb) (v : Nd) (y : List Nat) (w : Nat) (h : Bok p v y w) : Con Tryz.prog 18 [pbV p, ndV v, .d (rowD y), fl w] (.tup [bdV (bndP p.t p.box v.z (hW v.step.toNat) y w).1, fI (bndP p.t p.box v.z (hW v.step.toNat) y w).2]) := by
  obtain ⟨ht, hn, hlen, hk, ho, ⟨j, hj, hst⟩, hy, hw, hb⟩ := h
  have hn20 := ht.n
  obtain ⟨m, hm⟩ : ∃ m, v.order.toNat = m := ⟨_, rfl⟩
  rw [hm] at hk ho
  have hqr := colsM_rows v.z p.t.n
  have hql := colsM_len v.z p.t.n
  have hpa := r11_parts_con p v y (colsM v.z p.t.n) j m p.t.n hj hst ht rfl hlen hk (by omega) hy hql hqr ⟨hn, hn20⟩
  have hH := r8_H_step j
  rw [← hst] at hH
  have eH : hW v.step.toNat = hW (2 ^ j) := by rw [hst]; rfl
  rw [eH]
  unfold bndP
  simp only
  generalize hW (2 ^ j) = H at hpa hH ⊢
  refine Con_introA A_r11_Step_comp rfl mixed ?_
  refine evx @A_r11_Step.eq_1 ?_
  refine rstep_L0 v p y w p.t.n m hk ⟨hn, hn20⟩ (by omega) hy _ fun a => ?_
  refine ev ?_
  refine callG_con (hpa) rfl ?_
  generalize bestF (jmpI v.z y) (p.t.n - 1) = jj
  generalize bestF (dftI p.t v.z (colsM v.z p.t.n) H) (p.t.n - 1) = dd
  generalize hR : (if (finite jj && finite dd) = false then ((⟨0, 0, 0, 0, 0⟩, 7) : Bnd × Int) else bndK p.t p.box (colsM v.z p.t.n) H (up (fop .add (up (fop .add w jj)) (up (fop .mul H dd)))) jj dd 3 (up (fop .mul 4616189618054758400 (up (fop .add (up (fop .add w jj)) (up (fop .mul H dd))))))) = R
  refine ev ?_
  refine callG_con (r1_Finite_con jj) rfl ?_
  rw [finite_sub]
  cases h1 : finite jj
  · rw [h1, Bool.false_and, if_pos rfl] at hR
    subst hR
    refine ev ?_
    exact endsT_br (R := (⟨0, 0, 0, 0, 0⟩, 7)) rfl rfl rfl
  · refine ev ?_
    refine callG_con (r1_Finite_con dd) rfl ?_
    rw [finite_sub]
    cases h2 : finite dd
    · rw [h1, h2, Bool.and_false, if_pos rfl] at hR
      subst hR
      refine ev ?_
      exact endsT_br (R := (⟨0, 0, 0, 0, 0⟩, 7)) rfl rfl rfl
    · rw [h1, h2, Bool.and_self, if_neg (by decide)] at hR
      refine ev ?_
      refine callG_con (hH) rfl ?_
      refine ev ?_
      refine callG_con (r1_Up_con (fop .add w jj)) rfl ?_
      refine ev ?_
      refine callG_con (r1_Up_con (fop .mul H dd)) rfl ?_
      refine ev ?_
      refine callG_con (r1_Up_con (fop .add (up (fop .add w jj)) (up (fop .mul H dd)))) rfl ?_
      generalize up (fop .add (up (fop .add w jj)) (up (fop .mul H dd))) = e at hR ⊢
      refine ev ?_
      refine callG_con (r1_Up_con (fop .mul 4616189618054758400 e)) rfl ?_
      generalize up (fop .mul 4616189618054758400 e) = r at hR ⊢
      refine ev ?_
      refine rstep_L1 _ p (colsM v.z p.t.n) H e jj dd ht hn hb hql hqr r _ R hR ?_ ?_
      · intro ov ho5
        refine ev ?_
        exact endsT_br rfl rfl rfl
      · rintro rfl ov r' k' a'
        refine ev ?_
        exact endsT_br (R := (⟨0, 0, 0, 0, 0⟩, 7)) rfl rfl rfl
def A_l10_Shape_Make_L0 : CA := (.seq (.seq (.reg [i_M 0 22 4, i_P 1 23 3 0, i_P 2 24 23 0, i_L 3 25 24 1, i_N 4 26 .lss 22 25] [1, 2, 3, 4, 26]) (.cond (.t 26) .skip (.exit 0))) (.seq (.block 1 (.reg [i_P 0 29 3 3, i_L 1 30 29 1, i_P 2 31 3 4, i_L 3 32 31 1, i_M 4 33 4, i_I 5 34 32 33 1, i_L 6 35 34 1, i_X 7 36 (.h (.fbin .sub (.t 35) (.k (.d (.flt 4625196817309499392))))), i_P 8 37 3 4, i_L 9 38 37 1, i_M 10 39 4, i_I 11 40 38 39 1, i_L 12 41 40 1, i_X 13 42 (.h (.fbin .add (.t 41) (.k (.d (.flt 4625196817309499392))))), i_X 14 43 (.h (.build [(.d (.flt 0)), (.d (.flt 0))] [(0, (1, (.t 36))), (1, (1, (.t 42)))])), i_X 15 44 (.bslice [(.d (.flt 0)), (.d (.flt 0))] 1 2 [(0, (2, (.t 43)))] 58), i_X 16 45 (.app (.t 30) (.t 44) 2 16), i_P 17 46 3 3, i_S 18 46 45 1] [1, 2, 3, 4])) (.reg [i_M 0 27 4, i_B 1 28 .add 27 1, i_M 2 4 28] [1, 2, 3, 4])))
def A_l10_Shape_Make_L1 : CA := (.seq (.seq (.reg [i_M 0 92 5, i_P 1 93 1 7, i_L 2 94 93 1, i_X 3 95 (.h (.len (.t 94))), i_N 4 96 .lss 92 95, i_M 5 97 96, ⟨6, (some 98), (some (97, true)), [], [], (.h (.mov (.t 5)))⟩, ⟨7, (some 99), (some (97, true)), [], [], (.h (.ibin .lss (.t 98) (kI 8)))⟩, i_X 8 100 (.h (.pick (.t 97) (.t 99) (.k (.d (.bool false)))))] [1, 2, 3, 5, 100]) (.cond (.t 100) .skip (.exit 2))) (.seq (.block 3 (.reg [i_P 0 103 3 12, i_L 1 104 103 1, i_P 2 105 1 7, i_L 3 106 105 1, i_M 4 107 5, i_I 5 108 106 107 1, i_L 6 109 108 1, i_P 7 110 3 5, i_L 8 111 110 1, i_B 9 112 .add 111 1, i_X 10 113 (.callS 10 (kF 25) [(.t 109), (.t 112)]), i_X 11 114 (.bslice [(.d (.int .i64 0))] 1 1 [(0, (1, (.t 113)))] 3), i_X 12 115 (.app (.t 104) (.t 114) 1 8), i_P 13 116 3 12, i_S 14 116 115 1] [1, 2, 3, 5])) (.reg [i_M 0 101 5, i_B 1 102 .add 101 1, i_M 2 5 102] [1, 2, 3, 5])))
def A_l10_Shape_Make_L2 : CA := (.seq (.seq (.reg [i_M 0 117 6, i_P 1 118 3 12, i_L 2 119 118 1, i_X 3 120 (.h (.len (.t 119))), i_N 4 121 .lss 117 120] [2, 3, 6, 121]) (.cond (.t 121) .skip (.exit 4))) (.seq (.block 5 (.reg [i_P 0 124 3 12, i_L 1 125 124 1, i_M 2 126 6, i_P 3 127 3 12, i_L 4 128 127 1, i_M 5 129 6, i_I 6 130 128 129 1, i_L 7 131 130 1, i_P 8 132 3 12, i_L 9 133 132 1, i_M 10 134 6, i_B 11 135 .sub 134 1, i_I 12 136 133 135 1, i_L 13 137 136 1, i_X 14 138 (.h (.mm true (.t 131) (.t 137))), i_I 15 139 125 126 1, i_S 16 139 138 1] [2, 3, 6])) (.reg [i_M 0 122 6, i_B 1 123 .add 122 1, i_M 2 6 123] [2, 3, 6])))
def A_l10_Shape_Make : CA := (.seq (.reg [i_X 0 1 (.box (.t 0) 9 24), i_X 1 2 (.alloc [(.d (.int .i64 0)), .nil, .nil, .nil, .nil, (.d (.int .i64 0)), (.d (.int .i64 0)), (.d (.int .i64 0)), (.d (.flt 0)), (.d (.flt 0)), (.d (.flt 0)), (.d (.int .i64 0)), .nil] 33)] [1, 2]) (.seq (.reg [i_P 0 7 1 0, i_L 1 8 7 1, i_P 2 9 1 5, i_L 3 10 9 1, i_P 4 11 1 8, i_L 5 12 11 1, i_X 6 13 (.callA (kF 23) [(.t 8), (.t 10), (.t 12)]), i_X 7 14 (.h (.build [(.d (.int .i64 0)), .nil, .nil, .nil, .nil, (.d (.int .i64 0)), (.d (.int .i64 0)), (.d (.int .i64 0)), (.d (.flt 0)), (.d (.flt 0)), (.d (.flt 0)), (.d (.int .i64 0)), .nil] [(0, (3, (.t 13)))])), i_X 8 3 (.alloc [(.d (.int .i64 0)), .nil, .nil, .nil, .nil, (.d (.int .i64 0)), (.d (.int .i64 0)), (.d (.int .i64 0)), (.d (.flt 0)), (.d (.flt 0)), (.d (.flt 0)), (.d (.int .i64 0)), .nil] 33), i_S 9 3 14 13] [1, 2, 3]) (.seq (.reg [i_P 0 15 3 0, i_P 1 16 15 0, i_L 2 17 16 1, i_P 3 18 1 6, i_L 4 19 18 1, i_X 5 20 (.callA (kF 24) [(.t 17), (.t 19)]), i_P 6 21 3 4, i_S 7 21 20 1] [1, 2, 3]) (.seq (.seq (.reg [i_K 0 4 0] [1, 2, 3, 4]) (.block 0 (.loop A_l10_Shape_Make_L0))) (.seq (.reg [i_P 0 47 1 1, i_L 1 48 47 1, i_X 2 49 (.callA (kF 25) [(.t 48), (kI 13)]), i_X 3 50 (.h (.ibin .add (kI 16) (.t 49))), i_X 4 51 (.h (.icv .u64 (.t 50))), i_X 5 52 (.h (.ibin .shl (kI 1) (.t 51))), i_P 6 53 3 6, i_S 7 53 52 1] [1, 2, 3]) (.seq (.reg [i_P 0 54 3 6, i_L 1 55 54 1, i_P 2 56 1 2, i_L 3 57 56 1, i_X 4 58 (.callS 4 (kF 25) [(.t 57), (kI 10)]), i_X 5 59 (.h (.icv .u64 (.t 58))), i_N 6 60 .shr 55 59, i_P 7 61 3 7, i_S 8 61 60 1] [1, 2, 3]) (.seq (.reg [i_P 0 62 1 4, i_L 1 63 62 1, i_X 2 64 (.callA (kF 25) [(.t 63), (kI 536870912)]), i_X 3 65 (.h (.ibin .add (kI 1) (.t 64))), i_P 4 66 3 5, i_S 5 66 65 1] [1, 2, 3]) (.seq (.seq (.reg [i_P 0 67 1 4, i_L 1 68 67 1, i_X 2 69 (.callA (kF 25) [(.t 68), (kI 4)]), i_B 3 70 .eql 69 0] [1, 2, 3, 70]) (.cond (.t 70) (.reg [i_P 0 71 3 6, i_L 1 72 71 1, i_X 2 73 (.h (.ibin .mul (kI 4) (.t 72))), i_P 3 74 3 5, i_S 4 74 73 1] [1, 2, 3]) .skip)) (.seq (.reg [i_P 0 75 1 3, i_L 1 76 75 1, i_X 2 77 (.callA (kF 25) [(.t 76), (kI 24)]), i_X 3 78 (.h (.icv .u64 (.t 77))), i_X 4 79 (.h (.ibin .shl (kI 1) (.t 78))), i_X 5 80 (.h (.i2f (.t 79))), i_X 6 81 (.h (.fbin .div (.k (.d (.flt 4607182418800017408))) (.t 80))), i_P 7 82 3 8, i_S 8 82 81 1] [1, 2, 3]) (.seq (.reg [i_P 0 83 1 3, i_L 1 84 83 1, i_B 2 85 .quo 84 24, i_X 3 86 (.callA (kF 25) [(.t 85), (kI 3)]), i_X 4 87 (.h (.i2f (.t 86))), i_X 5 88 (.h (.fbin .div (.t 87) (.k (.d (.flt 4652218415073722368))))), i_P 6 89 3 9, i_S 7 89 88 1] [1, 2, 3]) (.seq (.reg [i_P 0 90 3 10, ⟨1, none, none, [], [], (.store (.t 90) (.k (.d (.flt 4616189618054758400))) 1)⟩] [1, 2, 3]) (.seq (.reg [i_P 0 91 3 11, ⟨1, none, none, [], [], (.store (.t 91) (kI 24) 1)⟩] [1, 2, 3]) (.seq (.seq (.reg [i_K 0 5 0] [1, 2, 3, 5]) (.block 2 (.loop A_l10_Shape_Make_L1))) (.seq (.seq (.reg [i_K 0 6 1] [2, 3, 6]) (.block 4 (.loop A_l10_Shape_Make_L2))) (.seq (.reg [i_A 0 140 3 13, i_S 1 2 140 13] [2]) .ret)))))))))))))))
theorem A_l10_Shape_Make_comp : compF Tryz.prog 13 = some ⟨141, [(2, (some (13, true)))], A_l10_Shape_Make.strip⟩ := by kernel_rfl
theorem shl_pow' (m : Nat) (h : m < 62) : IntKind.i64.wrap (1 * 2 ^ min (IntKind.u64.wrap (m : Int)).toNat IntKind.i64.bits) = ((2 ^ m : Nat) : Int) := by
  rw [wrapU (by omega) (by omega)]
  have e : min ((m : Int).toNat) IntKind.i64.bits = m := by
    have : IntKind.i64.bits = 64 := rfl
    rw [this]; omega
  rw [e, Int.one_mul]
  have h1 : (2 : Nat) ^ m ≤ 2 ^ 61 := Nat.pow_le_pow_right (by decide) (by omega)
  have h2 : (2 : Int) ^ m = ((2 ^ m : Nat) : Int) := by simp
  rw [h2]
  generalize (2 : Nat) ^ m = x at h1
  exact wrapI (by omega) (by omega)
theorem shr_pow (a b : Nat) (hb : b ≤ a) (h : b < 62) : (((2 ^ a : Nat) : Int)).fdiv (2 ^ min (IntKind.u64.wrap (b : Int)).toNat IntKind.i64.bits) = ((2 ^ (a - b) : Nat) : Int) := by
  rw [wrapU (by omega) (by omega)]
  have e : min ((b : Int).toNat) IntKind.i64.bits = b := by
    have : IntKind.i64.bits = 64 := rfl
    rw [this]; omega
  rw [e]
  have h3 : ((2 : Int) ^ b) = ((2 ^ b : Nat) : Int) := by push_cast; rfl
  rw [h3, Int.fdiv_eq_ediv_of_nonneg _ (Int.natCast_nonneg _)]
  have h4 : 2 ^ a = 2 ^ (a - b) * 2 ^ b := by rw [← Nat.pow_add]; congr 1; omega
  rw [h4]
  have h5 : 0 < 2 ^ b := Nat.pow_pos (by decide)
  rw [← Int.natCast_ediv, Nat.mul_div_cancel _ h5]
theorem KpA_ivC (L : Heap) (ps : List (Nat × Nat)) : KpA L (ivC ps) := by
  induction ps with
  | nil => exact KpA_nil
  | cons p ps ih =>
    show KpA L (fl p.1 :: fl p.2 :: ivC ps)
    rw [KpA_cons, KpA_cons]
    exact ⟨Kp_d _, Kp_d _, ih⟩
def boxE (y : List Nat) (j : Nat) : Nat × Nat := (fop .sub (y.getD j 0) 4625196817309499392, fop .add (y.getD j 0) 4625196817309499392)
def boxL (y : List Nat) (i : Nat) : List (Nat × Nat) := (List.range i).map (boxE y)
theorem boxL_succ (y : List Nat) (i : Nat) : ivC (boxL y i) ++ [fl (boxE y i).1, fl (boxE y i).2] = ivC (boxL y (i + 1)) := by simp [boxL, ivC, List.range_succ]
theorem boxL_len (y : List Nat) (i : Nat) : (boxL y i).length = i := by simp [boxL]
abbrev mkC (t : Tp) (b : V) (y : List Nat) (fin first least : Int) (atol rtol cap : Nat) (most : Int) (o : V) : List V := [fI t.n, .d (opsD t.ops), .d (rowI t.out), b, .d (rowD y), fI fin, fI first, fI least, fl atol, fl rtol, fl cap, fI most, o]
abbrev mkZ : List V := [fI 0, .nil, .nil, .nil, .nil, fI 0, fI 0, fI 0, fl 0, fl 0, fl 0, fI 0, .nil]
abbrev mkS0 (i : Nat) : Sl := [(1, .ptr 0 0 0 9), (2, .ptr 1 0 0 13), (3, .ptr 10 0 0 13), (4, fI i)]
set_option maxRecDepth 8000 in
theorem make10_L0 (sh : List V) (t : Tp) (y : List Nat) (hy : y.length = t.n) (hN : 0 < t.n ∧ t.n ≤ 3) (hsh : ∀ L, KpA L sh) (Q : Ex → T → Prop)
    (hQ : ∀ w, Q (.exit 0) ⟨mkS0 t.n ++ [w], [(27, [ivC (boxL y t.n)]), (10, [mkC t (.sl 27 0 0 t.n 2 (t.n * 2)) y 0 0 0 0 0 0 0 .nil]), (1, [mkZ]), (0, [sh])]⟩) :
    WA Tryz.prog (fun _ => False) 141 (.loop A_l10_Shape_Make_L0) Q ⟨mkS0 0, [(10, [mkC t .nil y 0 0 0 0 0 0 0 .nil]), (1, [mkZ]), (0, [sh])]⟩ := by
  refine WA_forW (n := t.n) (fun c s => ∃ i, c + i = t.n ∧ ((i = 0 ∧ s = ⟨mkS0 0, [(10, [mkC t .nil y 0 0 0 0 0 0 0 .nil]), (1, [mkZ]), (0, [sh])]⟩) ∨ (0 < i ∧ s = ⟨mkS0 i, [(27, [ivC (boxL y i)]), (10, [mkC t (.sl 27 0 0 i 2 (i * 2)) y 0 0 0 0 0 0 0 .nil]), (1, [mkZ]), (0, [sh])]⟩))) (Le.refl _) ⟨0, by omega, .inl ⟨rfl, rfl⟩⟩ ?_
  rintro c s ⟨i, hc, ⟨rfl, rfl⟩ | ⟨hi, rfl⟩⟩
  · refine evx @A_l10_Shape_Make_L0.eq_1 ?_
    have h0 : decide ((0 : Int) < (t.n : Int)) = true := by simp; omega
    refine evx h0 ?_
    refine ⟨by omega, by omega, ?_⟩
    rw [show IntKind.i64.wrap 1 = ((0 + 1 : Nat) : Int) from by decide]
    exact ⟨c - 1, _, by omega, LeT.only (L' := [(27, [ivC (boxL y (0 + 1))]), (10, [mkC t (.sl 27 0 0 (0 + 1) 2 ((0 + 1) * 2)) y 0 0 0 0 0 0 0 .nil]), (1, [mkZ]), (0, [sh])]) (fun X => X != 26) (fun _ h => h) rfl (by simp (maxDischargeDepth := 6) [kpS, fam_cons, fam_nil, KpA_ivC, hsh]) (by simp (maxDischargeDepth := 6) [kpS, fam_cons, fam_nil, KpA_ivC, hsh]), 0 + 1, by omega, .inr ⟨by omega, rfl⟩⟩
  · have hl : (ivC (boxL y i)).length = i * 2 := by rw [ivC_length, boxL_len]
    refine evx @A_l10_Shape_Make_L0.eq_1 ?_
    refine condC_intro (fun h => ?_) (fun h => ?_)
    · replace h := of_decide_eq_true h
      refine ev ?_
      (repeat (with_reducible refine And.intro (by omega) ?_))
      have e := boxL_succ y i
      unfold boxE at e
      simp only [] at e
      have e2 : (boxL y i).length * 2 = i * 2 ∧ (i + 1) * 16 ≤ 140737488355328 := by rw [boxL_len]; exact ⟨rfl, by omega⟩
      refine ⟨e2, ?_⟩
      rw [wrapI (by omega) (by omega), e, show i * 2 + 2 = (i + 1) * 2 by omega]
      exact ⟨c - 1, _, by omega, LeT.only (fun X => decide (X ≤ 27)) (fun _ h => h) rfl (by simp (maxDischargeDepth := 6) [kpS, fam_cons, fam_nil, KpA_ivC, hsh]) (by simp (maxDischargeDepth := 6) [kpS, fam_cons, fam_nil, KpA_ivC, hsh]), i + 1, by omega, .inr ⟨by omega, rfl⟩⟩
    · replace h := of_decide_eq_false h
      have e : i = t.n := by omega
      subst e
      refine ev ?_
      exact hQ _
def outE (outs : List Int) (E : Int) (j : Nat) : Int := outs.getD j 0 % (E + 1)
def outsA (outs : List Int) (E : Int) (i : Nat) : List Int := (List.range i).map (outE outs E)
theorem outsA_succ (outs : List Int) (E : Int) (i : Nat) : rowIV (outsA outs E i) ++ [fI (outE outs E i)] = rowIV (outsA outs E (i + 1)) := by simp [outsA, rowIV, List.range_succ]
theorem outsA_len (outs : List Int) (E : Int) (i : Nat) : (outsA outs E i).length = i := by simp [outsA]
abbrev mkS1 (i : Nat) : Sl := [(1, .ptr 0 0 0 9), (2, .ptr 1 0 0 13), (3, .ptr 10 0 0 13), (5, fI i)]
abbrev mkH (t : Tp) (box : List (Nat × Nat)) (y : List Nat) (E : Int) (c : List V) (sh : List V) : Heap := [(27, [ivC box]), (10, [[fI t.n, .d (opsD t.ops), .d (rowI t.out), .sl 27 0 0 t.n 2 (t.n * 2), .d (rowD y), fI E] ++ c]), (1, [mkZ]), (0, [sh])]
set_option maxRecDepth 8000 in
theorem make10_L1 (n first least tol fin : Int) (ns ms outs : List Int) (dv : Bool) (t : Tp) (box : List (Nat × Nat)) (y : List Nat) (E : Int) (hE : 0 ≤ E ∧ E < 2 ^ 40) (F B : Int) (ra rb rc : Nat) (hmo : Int) (ho : outs.length ≤ 60) (Q : Ex → T → Prop)
    (hQ0 : outs.length = 0 → ∀ w, Q (.exit 2) ⟨mkS1 0 ++ [w], mkH t box y E [fI F, fI B, fl ra, fl rb, fl rc, fI hmo, .nil] (shC n first least tol fin ns ms outs dv)⟩)
    (hQ : 0 < outs.length → ∀ w, Q (.exit 2) ⟨mkS1 (min outs.length 8) ++ [w], (40, [rowIV (outsA outs E (min outs.length 8))]) :: mkH t box y E [fI F, fI B, fl ra, fl rb, fl rc, fI hmo, .sl 40 0 0 (min outs.length 8) 1 (min outs.length 8)] (shC n first least tol fin ns ms outs dv)⟩) :
    WA Tryz.prog (fun _ => False) 141 (.loop A_l10_Shape_Make_L1) Q ⟨mkS1 0, mkH t box y E [fI F, fI B, fl ra, fl rb, fl rc, fI hmo, .nil] (shC n first least tol fin ns ms outs dv)⟩ := by
  refine WA_forW (n := min outs.length 8) (fun c s => ∃ i, c + i = min outs.length 8 ∧ ((i = 0 ∧ s = ⟨mkS1 0, mkH t box y E [fI F, fI B, fl ra, fl rb, fl rc, fI hmo, .nil] (shC n first least tol fin ns ms outs dv)⟩) ∨ (0 < i ∧ s = ⟨mkS1 i, (40, [rowIV (outsA outs E i)]) :: mkH t box y E [fI F, fI B, fl ra, fl rb, fl rc, fI hmo, .sl 40 0 0 i 1 i] (shC n first least tol fin ns ms outs dv)⟩))) (Le.refl _) ⟨0, by omega, .inl ⟨rfl, rfl⟩⟩ ?_
  have wE : IntKind.i64.wrap (E + 1) = E + 1 := wrapI (by omega) (by omega)
  rintro c s ⟨i, hc, ⟨rfl, rfl⟩ | ⟨hi, rfl⟩⟩
  · refine evx @A_l10_Shape_Make_L1.eq_1 ?_
    by_cases h0 : 0 < outs.length
    · have h0' : decide ((0 : Int) < (outs.length : Int)) = true := decide_eq_true (by omega)
      refine evx (And.intro h0' wE) ?_
      refine ⟨by omega, ?_⟩
      refine callSG_con (l10_within_con (outs.getD 0 0) (E + 1) (by omega) (by omega)) rfl ?_
      refine ev ?_
      rw [show IntKind.i64.wrap 1 = ((0 + 1 : Nat) : Int) from by decide]
      exact ⟨c - 1, _, by omega, LeT.only (L' := (40, [rowIV (outsA outs E (0 + 1))]) :: mkH t box y E [fI F, fI B, fl ra, fl rb, fl rc, fI hmo, .sl 40 0 0 (0 + 1) 1 (0 + 1)] (shC n first least tol fin ns ms outs dv)) (fun X => X != 39) (fun _ h => h) rfl (by simp (maxDischargeDepth := 6) [kpS, fam_cons, fam_nil, KpA_ivC]) (by simp (maxDischargeDepth := 6) [kpS, fam_cons, fam_nil, KpA_ivC]), 0 + 1, by omega, .inr ⟨by omega, rfl⟩⟩
    · have h0' : decide ((0 : Int) < (outs.length : Int)) = false := decide_eq_false (by omega)
      refine evx h0' ?_
      exact hQ0 (by omega) _
  · have hol := outsA_len outs E i
    refine evx @A_l10_Shape_Make_L1.eq_1 ?_
    by_cases h1 : i < outs.length
    · have h1' : decide (i < outs.length) = true := decide_eq_true h1
      by_cases h2 : i < 8
      · have h2' : decide ((i : Int) < 8) = true := by simp; omega
        refine evx (And.intro h1' (And.intro h2' wE)) ?_
        (repeat (with_reducible refine And.intro (by omega) ?_))
        refine callSG_con (l10_within_con (outs.getD i 0) (E + 1) (by omega) (by omega)) rfl ?_
        refine ev ?_
        have e1 := outsA_succ outs E i
        unfold outE at e1
        have e2 : (outsA outs E i).length = i ∧ (i + 1) * 8 ≤ 140737488355328 := ⟨hol, by omega⟩
        refine ⟨e2, ?_⟩
        rw [wrapI (by omega) (by omega), e1]
        exact ⟨c - 1, _, by omega, LeT.only (fun X => decide (X ≤ 40)) (fun _ h => h) rfl (by simp (maxDischargeDepth := 6) [kpS, fam_cons, fam_nil, KpA_ivC]) (by simp (maxDischargeDepth := 6) [kpS, fam_cons, fam_nil, KpA_ivC]), i + 1, by omega, .inr ⟨by omega, rfl⟩⟩
      · have h2' : decide ((i : Int) < 8) = false := by simp; omega
        have e : i = min outs.length 8 := by omega
        refine evx (And.intro h1' h2') ?_
        rw [e]
        exact hQ (by omega) _
    · have h1' : decide (i < outs.length) = false := decide_eq_false h1
      have e : i = min outs.length 8 := by omega
      refine evx h1' ?_
      rw [e]
      exact hQ (by omega) _
theorem rowIV_getD {A : List Int} {i : Nat} (h : i < A.length) : (rowIV A).getD i .any = fI (A.getD i 0) := by
  simp [rowIV, List.getD_eq_getElem?_getD, List.getElem?_eq_getElem h]
def maxL (A : List Int) : Nat → List Int
  | 0 => A
  | i + 1 => (maxL A i).set (i + 1) (if (maxL A i).getD (i + 1) 0 < (maxL A i).getD i 0 then (maxL A i).getD i 0 else (maxL A i).getD (i + 1) 0)
theorem maxL_len (A : List Int) (i : Nat) : (maxL A i).length = A.length := by
  induction i with
  | zero => rfl
  | succ i ih => simp [maxL, ih]
abbrev mkS2 (i : Nat) : Sl := [(2, .ptr 1 0 0 13), (3, .ptr 10 0 0 13), (6, fI i)]
set_option maxRecDepth 8000 in
theorem make10_L2 (A : List Int) (m : Nat) (hA : A.length = m) (hm : 0 < m ∧ m ≤ 8) (t : Tp) (box : List (Nat × Nat)) (y : List Nat) (E : Int) (F B : Int) (ra rb rc : Nat) (hmo : Int) (sh : List V) (hsh : ∀ L, KpA L sh) (Q : Ex → T → Prop)
    (hQ : ∀ w, Q (.exit 4) ⟨mkS2 m ++ [w], (40, [rowIV (maxL A (m - 1))]) :: mkH t box y E [fI F, fI B, fl ra, fl rb, fl rc, fI hmo, .sl 40 0 0 m 1 m] sh⟩) :
    WA Tryz.prog (fun _ => False) 141 (.loop A_l10_Shape_Make_L2) Q ⟨mkS2 1, (40, [rowIV A]) :: mkH t box y E [fI F, fI B, fl ra, fl rb, fl rc, fI hmo, .sl 40 0 0 m 1 m] sh⟩ := by
  refine WA_forW (n := m - 1) (fun c s => ∃ i, c + i = m - 1 ∧ s = ⟨mkS2 (i + 1), (40, [rowIV (maxL A i)]) :: mkH t box y E [fI F, fI B, fl ra, fl rb, fl rc, fI hmo, .sl 40 0 0 m 1 m] sh⟩) (Le.refl _) ⟨0, by omega, rfl⟩ ?_
  rintro c s ⟨i, hc, rfl⟩
  have hl := maxL_len A i
  rw [hA] at hl
  refine evx @A_l10_Shape_Make_L2.eq_1 ?_
  refine condC_intro (fun h => ?_) (fun h => ?_)
  · replace h := of_decide_eq_true h
    have wi : IntKind.i64.wrap (((i + 1 : Nat) : Int) - 1) = (i : Int) := by rw [wrapI (by omega) (by omega)]; omega
    have g1 : (rowIV (maxL A i)).getD (i + 1) .any = fI ((maxL A i).getD (i + 1) 0) := rowIV_getD (by omega)
    have g2 : (rowIV (maxL A i)).getD i .any = fI ((maxL A i).getD i 0) := rowIV_getD (by omega)
    refine evx (And.intro wi (And.intro g1 g2)) ?_
    refine ⟨h, ⟨hl, by omega⟩, by omega, ⟨hl, by omega⟩, h, ⟨hl, by omega⟩, ?_⟩
    rw [wrapI (by omega) (by omega)]
    exact ⟨c - 1, _, by omega, Le.refl _, i + 1, by omega, rfl⟩
  · replace h := of_decide_eq_false h
    have e : i = m - 1 := by omega
    refine ev ?_
    rw [show i + 1 = m by omega, show i = m - 1 by omega]
    exact hQ _
theorem Fz_iv {L L' : Heap} {X n : Nat} {ps : List (Nat × Nat)} (h : L.get X 0 = some (ivC ps)) (hn : ps.length = n) (h2 : L'.get X 0 = none) : LeV L L' (fun X r => (X, r)) (.sl X 0 0 n 2 (n * 2)) (.d (ivD ps)) :=
  .d (snap_iv (fun Z q hZ e => by cases e; exact hZ h2) h hn rfl)
theorem Fz_ints {L L' : Heap} {X n : Nat} {xs : List Int} (h : L.get X 0 = some (rowIV xs)) (hn : xs.length = n) (h2 : L'.get X 0 = none) : LeV L L' (fun X r => (X, r)) (.sl X 0 0 n 1 n) (.d (rowI xs)) :=
  .d (snap_rowI (fun Z q hZ e => by cases e; exact hZ h2) h hn rfl)
def mkE (fin : Int) (F : Nat) : Int := if fin % 4 = 0 then 4 * (F : Int) else 1 + fin % 536870912
def mkA (first : Int) : Nat := (16 + first % 13).toNat
def mkB (least : Int) : Nat := (least % 10).toNat
def mkAt (tol : Int) : Nat := fop .div 4607182418800017408 (FloatKind.nearest .f64 ((2 ^ (tol % 24).toNat : Nat) : Int))
def mkRt (tol : Int) : Nat := fop .div (FloatKind.nearest .f64 (IntKind.i64.wrap (tol.tdiv 24) % 3)) 4652218415073722368
def mkO (outs : List Int) (E : Int) : List Int := maxL (outsA outs E (min outs.length 8)) (min outs.length 8 - 1)
def mkPb (n first least tol fin : Int) (ns ms outs : List Int) (dv : Bool) : Pb :=
  ⟨mkT n ns dv, boxL (valsL (mkT n ns dv).n ms) (mkT n ns dv).n, valsL (mkT n ns dv).n ms, mkE fin (2 ^ mkA first), ((2 ^ mkA first : Nat) : Int), ((2 ^ (mkA first - mkB least) : Nat) : Int),
    mkAt tol, mkRt tol, 4616189618054758400, 24, mkO outs (mkE fin (2 ^ mkA first))⟩
theorem mkO_nil (outs : List Int) (E : Int) (h : outs.length = 0) : mkO outs E = [] := by
  unfold mkO; rw [h]; rfl
theorem mkO_len (outs : List Int) (E : Int) : (mkO outs E).length = min outs.length 8 := by
  unfold mkO; rw [maxL_len, outsA_len]
set_option maxRecDepth 8000 in
theorem l10_Make_con (n first least tol fin : Int) (ns ms outs : List Int) (dv : Bool) (h1 : ns.length ≤ 60) (h2 : ms.length ≤ 60) (h3 : outs.length ≤ 60) : Con Tryz.prog 13 [.agg (shC n first least tol fin ns ms outs dv)] (pbV (mkPb n first least tol fin ns ms outs dv)) := by
  unfold mkPb
  refine Con_introA A_l10_Shape_Make_comp rfl mixed ?_
  refine evx @A_l10_Shape_Make.eq_1 ?_
  refine callG_con (l3_Make_con n ns dv (by omega)) rfl ?_
  have hT := mkT_n n ns dv
  generalize mkT n ns dv = t at hT
  refine ev ?_
  refine callG_con (l3_Values_con t.n ms (by omega) (by omega)) rfl ?_
  have hy : (valsL t.n ms).length = t.n := tabR_len _ _
  generalize valsL t.n ms = y at hy
  refine ev ?_
  refine make10_L0 _ t y hy (by omega) (fun L => ?_) _ fun w => ?_
  · simp only [KpA_cons]; exact ⟨Kp_d _, Kp_d _, Kp_d _, Kp_d _, Kp_d _, Kp_d _, Kp_d _, Kp_d _, Kp_d _, KpA_nil⟩
  have hbl : (boxL y t.n).length = t.n := boxL_len _ _
  generalize boxL y t.n = box at hbl
  refine ev ?_
  refine callG_con (l10_within_con first 13 (by decide) (by decide)) rfl ?_
  have f1 := Int.emod_nonneg first (by decide : (13 : Int) ≠ 0)
  have f2 := Int.emod_lt_of_pos first (by decide : (0 : Int) < 13)
  obtain ⟨a, ha⟩ : ∃ a : Nat, 16 + first % 13 = a := ⟨(16 + first % 13).toNat, by omega⟩
  have haA : mkA first = a := by unfold mkA; rw [ha]; rfl
  rw [haA]
  have wa : IntKind.i64.wrap (16 + first % 13) = (a : Int) := by rw [ha]; exact wrapI (by omega) (by omega)
  have wu : 0 ≤ IntKind.u64.wrap (a : Int) := by rw [wrapU (by omega) (by omega)]; omega
  simp -implicitDefEqProofs only [evI, hv, effC, reduceCtorEq, ↓reduceIte, n1_, n2_, n3_, n4_, n5_, i1_, i2_, i3_, i4_, i5_, i6_, i7_, wa, shl_pow' a (by omega)]
  refine ⟨wu, ?_⟩
  refine callSG_con (l10_within_con least 10 (by decide) (by decide)) rfl ?_
  have g1 := Int.emod_nonneg least (by decide : (10 : Int) ≠ 0)
  have g2 := Int.emod_lt_of_pos least (by decide : (0 : Int) < 10)
  obtain ⟨b, hb⟩ : ∃ b : Nat, least % 10 = b := ⟨(least % 10).toNat, by omega⟩
  have hbB : mkB least = b := by unfold mkB; rw [hb]; rfl
  rw [hb, hbB]
  have wu2 : 0 ≤ IntKind.u64.wrap (b : Int) := by rw [wrapU (by omega) (by omega)]; omega
  simp -implicitDefEqProofs only [evI, hv, effC, reduceCtorEq, ↓reduceIte, n1_, n2_, n3_, n4_, n5_, i1_, i2_, i3_, i4_, i5_, i6_, i7_, shr_pow a b (by omega) (by omega)]
  refine ⟨wu2, ?_⟩
  refine callG_con (l10_within_con fin 536870912 (by decide) (by decide)) rfl ?_
  have e1 := Int.emod_nonneg fin (by decide : (536870912 : Int) ≠ 0)
  have e2 := Int.emod_lt_of_pos fin (by decide : (0 : Int) < 536870912)
  have we : IntKind.i64.wrap (1 + fin % 536870912) = 1 + fin % 536870912 := wrapI (by omega) (by omega)
  refine evx we ?_
  refine callG_con (l10_within_con fin 4 (by decide) (by decide)) rfl ?_
  obtain ⟨F, hF⟩ : ∃ F : Nat, 2 ^ a = F := ⟨_, rfl⟩
  rw [hF]
  have w4 : IntKind.i64.wrap (4 * (F : Int)) = 4 * (F : Int) := by
    have : 2 ^ a ≤ 2 ^ 28 := Nat.pow_le_pow_right (by decide) (by omega)
    exact wrapI (by omega) (by omega)
  obtain ⟨E, hE⟩ : ∃ E : Int, E = mkE fin F := ⟨_, rfl⟩
  have hFb : 0 < F ∧ F ≤ 2 ^ 28 := by rw [← hF]; exact ⟨Nat.pow_pos (by decide), Nat.pow_le_pow_right (by decide) (by omega)⟩
  have hEb : 0 ≤ E ∧ E < 2 ^ 40 := by rw [hE]; unfold mkE; split <;> omega
  rw [← hE]
  unfold mkE at hE
  by_cases c1 : fin % 4 = 0
  case' pos =>
    have c1' : (fin % 4 == 0) = true := by simpa using c1
    refine evx (And.intro c1' w4) ?_
    rw [if_pos c1] at hE
    rw [← hE]
  case' neg =>
    have c1' : (fin % 4 == 0) = false := by simpa using c1
    refine evx c1' ?_
    rw [if_neg c1] at hE
    rw [← hE]
  all_goals
    refine callG_con (l10_within_con tol 24 (by decide) (by decide)) rfl ?_
    have t1 := Int.emod_nonneg tol (by decide : (24 : Int) ≠ 0)
    have t2 := Int.emod_lt_of_pos tol (by decide : (0 : Int) < 24)
    obtain ⟨k, hk⟩ : ∃ k : Nat, tol % 24 = k := ⟨(tol % 24).toNat, by omega⟩
    have hkA : mkAt tol = fop .div 4607182418800017408 (FloatKind.nearest .f64 ((2 ^ k : Nat) : Int)) := by unfold mkAt; rw [hk]; rfl
    rw [hk, hkA]
    have wu3 : 0 ≤ IntKind.u64.wrap (k : Int) := by rw [wrapU (by omega) (by omega)]; omega
    simp -implicitDefEqProofs only [evI, hv, effC, reduceCtorEq, ↓reduceIte, n1_, n2_, n3_, n4_, n5_, i1_, i2_, i3_, i4_, i5_, i6_, i7_, shl_pow' k (by omega)]
    refine ⟨wu3, by decide, ?_⟩
    refine callG_con (l10_within_con (IntKind.i64.wrap (tol.tdiv 24)) 3 (by decide) (by decide)) rfl ?_
    refine ev ?_
    refine make10_L1 n first least tol fin ns ms outs dv t box y E hEb F ((2 ^ (a - b) : Nat) : Int) _ _ _ 24 h3 _ (fun h w => ?_) (fun h w => ?_)
    · refine ev ?_
      refine WA_for (n := 0) (fun c s => s = ⟨_, _⟩) rfl ?_
      rintro c s rfl
      refine evx @A_l10_Shape_Make_L2.eq_1 ?_
      rw [mkO_nil _ _ h]
      exact endsT_le (.agg [fI t.n, .d (opsD t.ops), .d (rowI t.out), .sl 27 0 0 t.n 2 (t.n * 2), .d (rowD y), fI E, fI F, fI ((2 ^ (a - b) : Nat) : Int), fl _, fl _, fl _, fI 24, .nil]) (fun _ h => h) (resV_cellI (by decide) rfl rfl rfl (by simp) rfl)
        (Fz_agg _ _ ⟨Fz_d _, Fz_d _, Fz_d _, Fz_iv rfl hbl (get_nil _ _), Fz_d _, Fz_d _, Fz_d _, Fz_d _, Fz_d _, Fz_d _, Fz_d _, Fz_d _, .d (.nil _), trivial⟩)
    · refine ev ?_
      refine make10_L2 _ _ (outsA_len _ _ _) (by omega) t box y E F ((2 ^ (a - b) : Nat) : Int) _ _ _ 24 _ ?_ _ fun w => ?_
      · intro L; simp only [KpA_cons]; exact ⟨Kp_d _, Kp_d _, Kp_d _, Kp_d _, Kp_d _, Kp_d _, Kp_d _, Kp_d _, Kp_d _, KpA_nil⟩
      refine ev ?_
      exact endsT_le (.agg [fI t.n, .d (opsD t.ops), .d (rowI t.out), .sl 27 0 0 t.n 2 (t.n * 2), .d (rowD y), fI E, fI F, fI ((2 ^ (a - b) : Nat) : Int), fl _, fl _, fl _, fI 24, .sl 40 0 0 (min outs.length 8) 1 (min outs.length 8)]) (fun _ h => h) (resV_cellI (by decide) rfl rfl rfl (by simp) rfl)
        (Fz_agg _ _ ⟨Fz_d _, Fz_d _, Fz_d _, Fz_iv rfl hbl (get_nil _ _), Fz_d _, Fz_d _, Fz_d _, Fz_d _, Fz_d _, Fz_d _, Fz_d _, Fz_d _, Fz_ints rfl (mkO_len _ _) (get_nil _ _), trivial⟩)
end Go.Ab
namespace Go.Ab
set_option linter.unusedSimpArgs false
set_option linter.unusedVariables false
open Go Go.Proofs
theorem scale_row0 {Z : List (List Nat)} {m n : Nat} (h : Rk m n Z) (hm : 0 < m) (hc : Cw Z) (k : Int) : (scaleP Z k m n).getD 0 [] = Z.getD 0 [] := by
  have hs := scaleP_rk h k m n
  have l1 := hs.2 0 hm
  have l2 := h.2 0 hm
  refine List.ext_getElem (by omega) fun i h1 h2 => ?_
  have e := mapJ_at (fun j _ x => scl x (j * k)) h m (Nat.le_refl _) 0 i
  rw [if_pos ⟨hm, by omega⟩] at e
  have e2 : at2 (scaleP Z k m n) 0 i = at2 Z 0 i := by
    show at2 (mapJ _ Z n m) 0 i = _
    rw [e]
    show scl _ ((0 : Nat) * k) = _
    rw [show (((0 : Nat) : Int) * k) = 0 by simp]
    exact scl_zero (hc 0 i)
  unfold at2 at e2
  rw [List.getD_eq_getElem?_getD (i := i), List.getD_eq_getElem?_getD (i := i), List.getElem?_eq_getElem h1, List.getElem?_eq_getElem h2] at e2
  exact e2
theorem tabR_cw (f : Nat → Nat) (n : Nat) (h : ∀ i, cw (f i)) (i : Nat) : cw ((tabR f n).getD i 0) := by
  by_cases hi : i < n
  · rw [tabR_getD _ _ _ hi]; exact h i
  · rw [List.getD_eq_getElem?_getD, List.getElem?_eq_none (by rw [tabR_len]; omega)]
    exact cw_zero
theorem startZ_rk (t : Tp) (y : List Nat) (h : Nat) (hy : y.length = t.n) : Rk 2 t.n (startZ t y h) := by
  refine ⟨rfl, fun i hi => ?_⟩
  rcases i with _ | _ | i
  · exact hy
  · exact tabR_len _ _
  · omega
theorem startZ_cw (t : Tp) (y : List Nat) (h : Nat) (hy : ∀ i, cw (y.getD i 0)) : Cw (startZ t y h) := fun r i => by
  rcases r with _ | _ | r
  · exact hy i
  · exact tabR_cw _ _ (fun i => fop_cw _ _ _) i
  · exact cw_zero
structure Pk (p : Pb) : Prop where
  ok : Pok p
  fst : ∃ a, a ≤ 28 ∧ p.first = (2 ^ a : Nat)
  lst : ∃ b, b ≤ 28 ∧ p.least = (2 ^ b : Nat)
  le : p.least ≤ p.first
  fin : 0 ≤ p.fin ∧ p.fin ≤ 2147483648
  yl : p.y.length = p.t.n
  yc : ∀ i, cw (p.y.getD i 0)
structure Inv (p : Pb) (k : Nat) (s : Sta) : Prop where
  ok : s.ok p.t
  pos : s.n.pos ≤ k * 4294967296
  good : s.good ≤ k
  fails : s.fails ≤ 2
  slow : s.slow ≤ 1
  lo : p.least ≤ s.n.step
  hi : s.n.step ≤ 2 * p.fin ∨ s.n.step ≤ 2 * p.first
def beginS (p : Pb) : Sta := ⟨⟨0, p.first, 1, 0, startZ p.t p.y (hW p.first.toNat)⟩, 0, 0, 0⟩
theorem begin_inv {p : Pb} (h : Pk p) : Inv p 0 (beginS p) := by
  obtain ⟨a, ha, hfa⟩ := h.fst
  have hl := h.ok.least
  have hle := h.le
  refine ⟨⟨⟨.inl ⟨rfl, Int.le_refl _, by show (1 : Int) ≤ 5; decide⟩, ⟨a, by omega, hfa⟩, startZ_rk _ _ _ h.yl, startZ_cw _ _ _ h.yc, ⟨Int.le_refl _, by show (0 : Int) < _; decide⟩⟩, ⟨Int.le_refl _, by show (0 : Int) < _; decide⟩, ⟨Int.le_refl _, by show (0 : Int) < _; decide⟩, ⟨Int.le_refl _, by show (0 : Int) < _; decide⟩⟩, by show (0 : Int) ≤ _; decide, by show (0 : Int) ≤ _; decide, by show (0 : Int) ≤ _; decide, by show (0 : Int) ≤ _; decide, hle, .inr ?_⟩
  show p.first ≤ 2 * p.first
  omega
theorem tryP_cases {p : Pb} {k : Nat} {s : Sta} (hp : Pk p) (h : Inv p k s) :
    (∃ d kk err, solG p.t (predP s.n.z p.t.n s.n.order.toNat) (ofL s.n.method s.n.order.toNat) (hW s.n.step.toNat) (wtP (s.n.z.getD 0 []) p.atol p.rtol) s.n.method = (d, kk, 0) ∧ d.length = p.t.n ∧ fcmp .le err 4607182418800017408 = true ∧ tryP p s = takeP p s (predP s.n.z p.t.n s.n.order.toNat) (ofL s.n.method s.n.order.toNat) d err) ∨ ∃ e err, tryP p s = failP p s e err := by
  unfold tryP
  rcases solG_form p.t (predP s.n.z p.t.n s.n.order.toNat) (ofL s.n.method s.n.order.toNat) (hW s.n.step.toNat) (wtP (s.n.z.getD 0 []) p.atol p.rtol) s.n.method with ⟨g, kk, hg, he⟩ | ⟨kk, e, hne, he⟩
  · simp only [he, ne_eq, not_true_eq_false, if_false]
    split
    · rename_i h1
      exact .inl ⟨g, kk, _, rfl, hg, h1, rfl⟩
    · exact .inr ⟨_, _, rfl⟩
  · simp only [he, ne_eq, hne, not_false_eq_true, if_true]
    exact .inr ⟨_, _, rfl⟩
theorem mkPb_ok (n first least tol fin : Int) (ns ms outs : List Int) (dv : Bool) : Pk (mkPb n first least tol fin ns ms outs dv) := by
  have m1 := Int.emod_nonneg n (by decide : (3 : Int) ≠ 0)
  have f1 := Int.emod_nonneg first (by decide : (13 : Int) ≠ 0)
  have f2 := Int.emod_lt_of_pos first (by decide : (0 : Int) < 13)
  have g1 := Int.emod_nonneg least (by decide : (10 : Int) ≠ 0)
  have g2 := Int.emod_lt_of_pos least (by decide : (0 : Int) < 10)
  have e1 := Int.emod_nonneg fin (by decide : (536870912 : Int) ≠ 0)
  have e2 := Int.emod_lt_of_pos fin (by decide : (0 : Int) < 536870912)
  have ha : mkA first ≤ 28 := by unfold mkA; omega
  have hl : (2 : Nat) ^ (mkA first - mkB least) ≤ 2 ^ mkA first := Nat.pow_le_pow_right (by decide) (Nat.sub_le _ _)
  have hpos : 0 < (2 : Nat) ^ (mkA first - mkB least) := Nat.pow_pos (by decide)
  have hp28 : (2 : Nat) ^ mkA first ≤ 2 ^ 28 := Nat.pow_le_pow_right (by decide) ha
  refine ⟨⟨mkT_ok n ns dv, ?_, ?_⟩, ⟨mkA first, ha, rfl⟩, ⟨mkA first - mkB least, by omega, rfl⟩, ?_, ?_, tabR_len _ _, tabR_cw _ _ fun i => fop_cw _ _ _⟩
  · show 0 < (mkT n ns dv).n
    rw [mkT_n]; omega
  · show (1 : Int) ≤ ((2 ^ (mkA first - mkB least) : Nat) : Int)
    omega
  · show ((2 ^ (mkA first - mkB least) : Nat) : Int) ≤ ((2 ^ mkA first : Nat) : Int)
    omega
  · show 0 ≤ mkE fin (2 ^ mkA first) ∧ mkE fin (2 ^ mkA first) ≤ 2147483648
    generalize 2 ^ mkA first = F at hp28
    unfold mkE
    split <;> omega
def kp10 : Pb := ⟨⟨1, [⟨0, 0, 0, 0⟩], [0]⟩, [(13844628204490326016, 4621256167635550208)], [4607182418800017408], 1073741824, 1048576, 1, 4607182418800017408, 0, 4607182418800017408, 9, []⟩
def ks10 : Sta := ⟨⟨0, 1048576, 1, 0, [[4607182418800017408], [0]]⟩, 0, 0, 0⟩
theorem kp10_ok : Pok kp10 := ⟨⟨by decide, by decide, fun i hi => by
    have hi : i < 1 := hi
    obtain rfl : i = 0 := by omega
    exact .inl rfl, rfl, fun i hi => by
    have hi : i < 1 := hi
    obtain rfl : i = 0 := by omega
    decide⟩, by decide, by decide⟩
theorem cw_one : cw 4607182418800017408 := .inr (.inr (.inr ⟨false, 4607182418800017408, by decide, by decide⟩))
theorem ks10_ok : ks10.ok kp10.t := ⟨⟨.inl ⟨rfl, by decide, by decide⟩, ⟨20, by decide, rfl⟩, ⟨rfl, fun r hr => by
    have hr : r < 2 := hr
    rcases r with _ | _ | r
    · rfl
    · rfl
    · omega⟩, fun r i => by
    rcases r with _ | _ | r
    · rcases i with _ | i
      · exact cw_one
      · exact cw_zero
    · rcases i with _ | i
      · exact cw_zero
      · exact cw_zero
    · exact cw_zero, by decide⟩, by decide, by decide, by decide⟩
theorem snap_two' {L : Heap} {X A B : Nat} {a b : Nat} (h : L.get X 0 = some [.sl A 0 0 1 1 1, .sl B 0 0 1 1 1]) (hA : L.get A 0 = some (rowV [a])) (hB : L.get B 0 = some (rowV [b])) : Snap L (.sl X 0 0 2 1 2) (.d (rowsD [[a], [b]])) := by
  refine .sl h rfl (by simp) (fun i hi => rfl) fun i j hi hj => ?_
  obtain rfl : j = 0 := by omega
  have hi : i < 2 := hi
  rcases i with _ | _ | i
  · exact snp_row hA rfl rfl
  · exact snp_row hB rfl rfl
  · omega
theorem begin_con (p : Pb) (hp : Pk p) : Con Tryz.prog 14 [pbV p] (staV (beginS p)) := by
  obtain ⟨a, ha, hfa⟩ := hp.fst
  have h := l10_Begin_con p hp.ok a (by omega) hfa hp.yl
  have e : hW p.first.toNat = hW (2 ^ a) := by rw [hfa, Int.toNat_natCast]
  unfold beginS
  rw [e]
  exact h
structure SpecT (p : Pb) (x : Sta) (r : Trd) : Prop where
  err : fcmp .le r.err 4607182418800017408 = true
  e : r.e = 0
  npos : r.n.pos = x.n.pos + x.n.step
  nord : r.n.order = x.n.order
  nmet : r.n.method = x.n.method
  nstep : r.n.step = x.n.step
  pos : r.s.n.pos = x.n.pos + x.n.step
  fails : r.s.fails = 0
  step : (r.s.n.step = x.n.step ∧ (r.s.n.order = x.n.order ∨ r.s.n.order = x.n.order + 1)) ∨ (r.s.n.step = 2 * x.n.step ∧ r.s.n.order = x.n.order)
  met : r.s.n.method = x.n.method
  len : r.n.z.length = x.n.order.toNat + 1
  row : r.s.n.z.getD 0 [] = r.n.z.getD 0 []
  sol : ∃ d k, d.length = p.t.n ∧ solG p.t (predP x.n.z p.t.n x.n.order.toNat) (ofL x.n.method x.n.order.toNat) (hW x.n.step.toNat) (wtP (x.n.z.getD 0 []) p.atol p.rtol) x.n.method = (d, k, 0) ∧ r.n.z = corrP (predP x.n.z p.t.n x.n.order.toNat) (ofL x.n.method x.n.order.toNat) d (x.n.order.toNat + 1) p.t.n
structure SpecF (p : Pb) (x : Sta) (r : Trd) : Prop where
  nz : r.n.z = []
  pos : r.s.n.pos = x.n.pos
  half : r.e = 0 → 2 * r.s.n.step = x.n.step
  stay : r.e ≠ 0 → r.s = x ∧ x.n.step ≤ p.least ∧ (r.e = 5 ∨ r.e = 4 ∨ r.e = 2)
  anew : r.e = 0 → r.s.fails = 0 → r.s.n.order = 1
  ord : r.s.n.order = x.n.order ∨ r.s.n.order = 1
  met : x.n.method ≤ r.s.n.method
  row : r.s.n.z.getD 0 [] = x.n.z.getD 0 []
theorem take_row {Z : List (List Nat)} {m n : Nat} (h : Rk m n Z) (hm : 0 < m) (x : List Nat) : (Z ++ [x]).getD 0 [] = Z.getD 0 [] := by
  rw [List.getD_eq_getElem?_getD, List.getElem?_append_left (by rw [h.1]; exact hm), ← List.getD_eq_getElem?_getD]
theorem try_spec {p : Pb} {k : Nat} {x : Sta} (hp : Pk p) (h : Inv p k x) : ((tryP p x).taken = true ∧ SpecT p x (tryP p x)) ∨ ((tryP p x).taken = false ∧ SpecF p x (tryP p x)) := by
  rcases tryP_cases hp h with ⟨d, kk, err, hsg, hd, hle, e⟩ | ⟨e', err, e⟩
  · left
    rw [e]
    have hz := corrP_rk (predP_rk h.ok.n.rk x.n.order.toNat) (ofL x.n.method x.n.order.toNat) d (x.n.order.toNat + 1) p.t.n
    have hc := corrP_cw (predP_cw h.ok.n.cw p.t.n x.n.order.toNat) (ofL x.n.method x.n.order.toNat) d (x.n.order.toNat + 1) p.t.n
    unfold takeP
    simp only
    split
    · exact ⟨trivial, hle, rfl, rfl, rfl, rfl, rfl, rfl, rfl, .inl ⟨rfl, .inl rfl⟩, rfl, hz.1, rfl, d, kk, hd, hsg, rfl⟩
    · split
      · exact ⟨trivial, hle, rfl, rfl, rfl, rfl, rfl, rfl, rfl, .inr ⟨rfl, rfl⟩, rfl, hz.1, scale_row0 hz (by omega) hc _, d, kk, hd, hsg, rfl⟩
      · split
        · exact ⟨trivial, hle, rfl, rfl, rfl, rfl, rfl, rfl, rfl, .inl ⟨rfl, .inr rfl⟩, rfl, hz.1, take_row hz (by omega) _, d, kk, hd, hsg, rfl⟩
        · exact ⟨trivial, hle, rfl, rfl, rfl, rfl, rfl, rfl, rfl, .inl ⟨rfl, .inl rfl⟩, rfl, hz.1, rfl, d, kk, hd, hsg, rfl⟩
  · right
    rw [e]
    obtain ⟨⟨hm, ⟨j, hj, hst⟩, hr, hc, hpos⟩, hg, hf, hsl⟩ := h.ok
    obtain ⟨b, hb, hlb⟩ := hp.lst
    have hl1 := hp.ok.least
    unfold failP
    simp only
    split
    · rename_i h1
      refine ⟨rfl, rfl, rfl, fun h2 => ?_, fun _ => ⟨rfl, h1, ?_⟩, fun h2 => ?_, .inl rfl, Int.le_refl _, rfl⟩
      · replace h2 : (if e' = 4 ∨ e' = 2 then e' else 5) = 0 := h2
        split at h2 <;> omega
      · show (if e' = 4 ∨ e' = 2 then e' else 5) = 5 ∨ (if e' = 4 ∨ e' = 2 then e' else 5) = 4 ∨ (if e' = 4 ∨ e' = 2 then e' else 5) = 2
        split <;> omega
      · replace h2 : (if e' = 4 ∨ e' = 2 then e' else 5) = 0 := h2
        split at h2 <;> omega
    · rename_i h1
      have hhalf : 2 * (x.n.step / 2) = x.n.step := by
        obtain ⟨i, rfl⟩ : ∃ i, j = i + 1 := ⟨j - 1, by
          rcases j with _ | j
          · simp at hst; omega
          · omega⟩
        rw [hst, Nat.pow_succ]; omega
      have hrow := scale_row0 hr (by omega) hc (-1)
      generalize (if e' = 6 ∧ x.n.method = 0 then x.slow + 1 else x.slow) = sl'
      split
      · refine ⟨rfl, rfl, rfl, fun _ => hhalf, fun h2 => absurd rfl h2, fun _ _ => rfl, .inr rfl, ?_, hrow⟩
        show x.n.method ≤ 1
        omega
      · split
        · refine ⟨rfl, rfl, rfl, fun _ => hhalf, fun h2 => absurd rfl h2, fun _ h2 => ?_, .inl rfl, Int.le_refl _, hrow⟩
          have h2 : x.fails + 1 = 0 := h2
          omega
        · exact ⟨rfl, rfl, rfl, fun _ => hhalf, fun h2 => absurd rfl h2, fun _ _ => rfl, .inr rfl, Int.le_refl _, hrow⟩
def A_l11_known : CA := (.seq (.reg [i_X 0 0 (.h (.mov (.k (.d (.bool false)))))] []) (.seq (.reg [i_X 0 5 (.h (.build [(.d (.int .i64 0)), (.d (.int .i64 0)), (.d (.int .i64 0)), (.d (.flt 0))] [])), i_X 1 6 (.bslice [(.d (.int .i64 0)), (.d (.int .i64 0)), (.d (.int .i64 0)), (.d (.flt 0))] 1 4 [(0, (4, (.t 5)))] 62), i_X 2 7 (.bslice [(.d (.int .i64 0))] 1 1 [(0, (1, (kI 0)))] 3), i_X 3 8 (.h (.build [(.d (.int .i64 0)), .nil, .nil] [(0, (1, (kI 1))), (1, (1, (.t 6))), (2, (1, (.t 7)))])), i_X 4 1 (.alloc [(.d (.int .i64 0)), .nil, .nil] 28), i_S 5 1 8 3] [1]) (.seq (.reg [i_A 0 9 1 3, i_X 1 10 (.h (.build [(.d (.flt 0)), (.d (.flt 0))] [(0, (1, (.k (.d (.flt 13844628204490326016))))), (1, (1, (.k (.d (.flt 4621256167635550208)))))])), i_X 2 11 (.bslice [(.d (.flt 0)), (.d (.flt 0))] 1 2 [(0, (2, (.t 10)))] 58), i_X 3 12 (.bslice [(.d (.flt 0))] 1 1 [(0, (1, (.k (.d (.flt 4607182418800017408)))))] 31), i_X 4 13 (.h (.build [(.d (.int .i64 0)), .nil, .nil, .nil, .nil, (.d (.int .i64 0)), (.d (.int .i64 0)), (.d (.int .i64 0)), (.d (.flt 0)), (.d (.flt 0)), (.d (.flt 0)), (.d (.int .i64 0)), .nil] [(0, (3, (.t 9))), (3, (1, (.t 11))), (4, (1, (.t 12))), (5, (1, (kI 1073741824))), (6, (1, (kI 1048576))), (7, (1, (kI 1))), (8, (1, (.k (.d (.flt 4607182418800017408))))), (10, (1, (.k (.d (.flt 4607182418800017408))))), (11, (1, (kI 9)))])), i_X 5 2 (.alloc [(.d (.int .i64 0)), .nil, .nil, .nil, .nil, (.d (.int .i64 0)), (.d (.int .i64 0)), (.d (.int .i64 0)), (.d (.flt 0)), (.d (.flt 0)), (.d (.flt 0)), (.d (.int .i64 0)), .nil] 33), i_S 6 2 13 13] [2]) (.seq (.reg [i_A 0 15 2 13, i_X 1 16 (.bslice [(.d (.flt 0))] 1 1 [(0, (1, (.k (.d (.flt 4607182418800017408)))))] 31), i_X 2 17 (.bslice [(.d (.flt 0))] 1 1 [(0, (1, (.k (.d (.flt 0)))))] 31), i_X 3 18 (.bslice [.nil, .nil] 2 1 [(0, (1, (.t 16))), (1, (1, (.t 17)))] 30), i_X 4 19 (.h (.build [(.d (.int .i64 0)), (.d (.int .i64 0)), (.d (.int .i64 0)), (.d (.int .i64 0)), .nil] [(0, (1, (kI 1048576))), (1, (1, (kI 1048576))), (2, (1, (kI 1))), (4, (1, (.t 18)))])), i_X 5 20 (.bslice [(.d (.flt 0))] 1 1 [(0, (1, (.k (.d (.flt 4607182418800017408)))))] 31), i_X 6 21 (.callA (kF 17) [(.t 15), (.t 19), (.t 20), (.k (.d (.flt 0)))]), i_M 7 14 21, i_X 8 22 (.h (.ext (.t 14) 0)), i_X 9 23 (.h (.ext (.t 14) 1)), i_X 10 3 (.alloc z_5 46), i_S 11 3 22 5, i_M 12 4 23] [3, 4]) (.seq (.reg [i_M 0 24 4, i_B 1 25 .eql 24 0, i_M 2 26 25, ⟨3, (some 27), (some (26, true)), [], [], (.h (.padd (.t 3) 4))⟩, ⟨4, (some 28), (some (26, true)), [], [], (.load (.t 27) 1 false)⟩, ⟨5, (some 29), (some (26, true)), [], [], (.h (.fcmp .ge (.t 28) (.k (.d (.flt 0)))))⟩, i_X 6 30 (.h (.pick (.t 26) (.t 29) (.k (.d (.bool false))))), i_M 7 31 30, ⟨8, (some 32), (some (31, true)), [], [], (.h (.padd (.t 3) 4))⟩, ⟨9, (some 33), (some (31, true)), [], [], (.load (.t 32) 1 false)⟩, ⟨10, (some 34), (some (31, true)), [], [], (.h (.fcmp .lt (.t 33) (.k (.d (.flt 4472406533629990549)))))⟩, i_X 11 35 (.h (.pick (.t 31) (.t 34) (.k (.d (.bool false))))), i_M 12 36 35, ⟨13, (some 37), (some (36, true)), [], [], (.h (.padd (.t 3) 3))⟩, ⟨14, (some 38), (some (36, true)), [], [], (.load (.t 37) 1 false)⟩, ⟨15, (some 39), (some (36, true)), [], [], (.h (.fcmp .ge (.t 38) (.k (.d (.flt 4607182418800017408)))))⟩, i_X 16 40 (.h (.pick (.t 36) (.t 39) (.k (.d (.bool false))))), i_M 17 0 40] [0]) .ret)))))
theorem A_l11_known_comp : compF Tryz.prog 11 = some ⟨41, [(0, none)], A_l11_known.strip⟩ := by kernel_rfl
def A_l11_within : CA := (.seq (.reg [i_K 0 4 0] [0, 1]) (.seq (.reg [i_M 0 6 0, i_M 1 7 1, i_N 2 8 .rem 6 7, i_M 3 5 8] [1, 5]) (.seq (.seq (.reg [i_M 0 9 5, i_B 1 10 .lss 9 0] [1, 5, 10]) (.cond (.t 10) (.reg [i_M 0 11 5, i_M 1 12 1, i_N 2 13 .add 11 12, i_M 3 5 13] [5]) .skip)) (.seq (.reg [i_M 0 14 5, i_M 1 4 14] [4]) .ret))))
theorem A_l11_within_comp : compF Tryz.prog 15 = some ⟨15, [(4, none)], A_l11_within.strip⟩ := by kernel_rfl
def A_l11_parts : CA := (.seq (.reg [i_X 0 1 (.box (.t 0) 5 46), i_X 1 2 (.alloc z_5 50)] [1, 2]) (.seq (.reg [i_P 0 3 1 0, i_L 1 4 3 1, i_P 2 5 1 1, i_L 3 6 5 1, i_P 4 7 1 2, i_L 5 8 7 1, i_P 6 9 1 3, i_L 7 10 9 1, i_P 8 11 1 4, i_L 9 12 11 1, i_X 10 13 (.h (.build z_5 [(0, (1, (.t 4))), (1, (1, (.t 6))), (2, (1, (.t 8))), (3, (1, (.t 10))), (4, (1, (.t 12)))])), i_S 11 2 13 5] [2]) .ret))
theorem A_l11_parts_comp : compF Tryz.prog 19 = some ⟨14, [(2, (some (5, true)))], A_l11_parts.strip⟩ := by kernel_rfl
theorem l11_within_con (a n : Int) (hn : 0 < n) (hn2 : n < 2 ^ 62) : Con Tryz.prog 15 [fI a, fI n] (fI (a % n)) := by
  rw [← tmod_fix a n hn]
  refine Con_introA A_l11_within_comp rfl mixed ?_
  refine evx @A_l11_within.eq_1 ?_
  refine ⟨by omega, ?_⟩
  have h1 := Int.tmod_lt_of_pos a hn
  have h2 : -n < a.tmod n := Int.lt_tmod_of_pos a hn
  refine condC_intro (fun h => ?_) (fun h => ?_)
  · have h := of_decide_eq_true h
    rw [if_pos h]
    refine ev ?_
    rw [wrapI (by omega) (by omega)]
    exact endsT_rett rfl (by decide) (by simp [look])
  · have h := of_decide_eq_false h
    rw [if_neg h]
    refine ev ?_
    exact endsT_rett rfl (by decide) (by simp [look])
theorem l11_parts_con (b : Bnd) : Con Tryz.prog 19 [bdV b] (bdV b) := by
  refine Con_introA A_l11_parts_comp rfl mixed ?_
  refine evx @A_l11_parts.eq_1 ?_
  exact endsT_retm rfl (by decide) rfl rfl rfl (by simp) (by simp [ldv])
def BndOk (R : Bnd × Int) : Prop := (R.2 = 0 ∧ isNan R.1.jump = false ∧ isNan R.1.defect = false ∧ isNan R.1.norm = false ∧ isNan R.1.growth = false ∧ isNan R.1.bound = false) ∨ (R.1 = ⟨0, 0, 0, 0, 0⟩ ∧ (R.2 = 3 ∨ R.2 = 7))
theorem normK_nan (J : List (List Iv)) (i : Nat) : ∀ b, normK J i = some b → isNan b = false := by
  induction i with
  | zero => intro b h; simp [normK] at h; subst h; decide
  | succ i ih =>
    intro b h
    rw [normK] at h
    split at h
    · cases h
    · rename_i b0 hb
      simp only at h
      split at h
      · cases h
      · rename_i hn
        simp only [Option.some.injEq] at h
        split at h
        · subst h; simpa using hn
        · subst h; exact ih _ hb
theorem normI_nan (J : List (List Iv)) : isNan (normI J) = false := by
  unfold normI
  cases h : normK J J.length with
  | none => decide
  | some b => exact normK_nan J _ b h
theorem lt_nan {x y : Nat} (h : fcmp .lt x y = true) : isNan x = false := by
  cases hn : isNan x with
  | false => rfl
  | true =>
    unfold fcmp at h
    rw [order_none_l hn] at h
    simp at h
theorem finite_nan {x : Nat} (h : finite x = true) : isNan x = false := by
  unfold finite at h
  simp only [Bool.and_eq_true, Bool.not_eq_true'] at h
  exact h.1
theorem bndK_ok (t : Tp) (box : List Iv) (q : List Md) (h e j d : Nat) (hj : isNan j = false) (hd : isNan d = false) : ∀ k r, BndOk (bndK t box q h e j d k r) := by
  intro k
  induction k with
  | zero => intro r; exact .inr ⟨rfl, .inr rfl⟩
  | succ k ih =>
    intro r
    rw [bndK]
    split
    · exact .inr ⟨rfl, .inl rfl⟩
    · simp only
      split
      · rename_i hlt
        exact .inl ⟨rfl, hj, hd, normI_nan _, Pw_nan (growF_Pw _ _).1, lt_nan hlt⟩
      · split
        · exact .inr ⟨rfl, .inr rfl⟩
        · exact ih _
theorem bndP_ok (t : Tp) (box : List Iv) (z : List (List Nat)) (h : Nat) (y : List Nat) (w : Nat) : BndOk (bndP t box z h y w) := by
  unfold bndP
  simp only
  split
  · exact .inr ⟨rfl, .inr rfl⟩
  · rename_i hf
    have hf2 : finite (bestF (jmpI z y) (t.n - 1)) = true ∧ finite (bestF (dftI t z (colsM z t.n) h) (t.n - 1)) = true := by
      simpa using hf
    exact bndK_ok _ _ _ _ _ _ _ (finite_nan hf2.1) (finite_nan hf2.2) _ _
structure Pk2 (p : Pb) : Prop where
  pk : Pk p
  len : p.t.ops.length < 2 ^ 39
  box : p.box.length = p.t.n
  n : p.t.n ≤ 3
theorem mkPb_ok2 (n first least tol fin : Int) (ns ms outs : List Int) (dv : Bool) : Pk2 (mkPb n first least tol fin ns ms outs dv) := by
  have m1 := Int.emod_nonneg n (by decide : (3 : Int) ≠ 0)
  have m2 := Int.emod_lt_of_pos n (by decide : (0 : Int) < 3)
  have hl := mkOps_len n ns dv ((n % 3).toNat + 1) (min ns.length 8)
  refine ⟨mkPb_ok _ _ _ _ _ _ _ _ _, ?_, boxL_len _ _, ?_⟩
  · show (mkOps n ns dv ((n % 3).toNat + 1) (min ns.length 8)).length < 2 ^ 39
    omega
  · show (mkT n ns dv).n ≤ 3
    rw [mkT_n]; omega
theorem taken_bok {p : Pb} {k : Nat} {x : Sta} (hp : Pk2 p) (hi : Inv p k x) (ht : (tryP p x).taken = true) (y : List Nat) (w : Nat) (hy : y.length = p.t.n) (hw : Pw w) : Bok p (tryP p x).n y w := by
  rcases try_spec hp.pk hi with ⟨_, sp⟩ | ⟨h, _⟩
  · obtain ⟨d, kk, hd, hs, hz⟩ := sp.sol
    have hm := hi.ok.n.m
    refine ⟨hp.pk.ok.t, hp.pk.ok.n, hp.len, ?_, ?_, ?_, hy, hw, hp.box⟩
    · rw [sp.nord, hz]; exact corrP_rk (predP_rk hi.ok.n.rk _) _ _ _ _
    · rw [sp.nord]; omega
    · rw [sp.nstep]; exact hi.ok.n.step
  · rw [h] at ht; cases ht
def wB (b : Int) : Nat := fop .div (FloatKind.nearest .f64 (b % 50)) 4661225614328463360
theorem wB_chk : ((List.range 50).all fun i => decide (fop .div (FloatKind.nearest .f64 (i : Int)) 4661225614328463360 ≤ 9218868437227405312)) = true := by kernel_rfl
theorem wB_Pw (b : Int) : Pw (wB b) := by
  have h1 := Int.emod_nonneg b (by decide : (50 : Int) ≠ 0)
  have h2 := Int.emod_lt_of_pos b (by decide : (0 : Int) < 50)
  obtain ⟨i, hi⟩ : ∃ i : Nat, b % 50 = i := ⟨(b % 50).toNat, by omega⟩
  have := List.all_eq_true.1 wB_chk i (by simp; omega)
  unfold wB
  rw [hi]
  have h3 : fop .div (FloatKind.nearest .f64 (i : Int)) 4661225614328463360 ≤ 9218868437227405312 := of_decide_eq_true this
  exact h3
theorem kb_ok : Bok kp10 ⟨1048576, 1048576, 1, 0, [[4607182418800017408], [0]]⟩ [4607182418800017408] 0 := by
  refine ⟨kp10_ok.t, by decide, by decide, ⟨rfl, fun r hr => ?_⟩, by decide, ⟨20, by decide, rfl⟩, rfl, Nat.zero_le _, rfl⟩
  have hr : r < 2 := hr
  rcases r with _ | _ | r
  · rfl
  · rfl
  · omega
theorem kb_val : (fun R : Bnd × Int => R.2 == 0 && fcmp .ge R.1.bound 0 && fcmp .lt R.1.bound 4472406533629990549 && fcmp .ge R.1.growth 4607182418800017408) (bndP kp10.t kp10.box [[4607182418800017408], [0]] (hW 1048576) [4607182418800017408] 0) = true := by kernel_rfl
theorem scalar_bd (R : Bnd × Int) : Scalar (.tup [bdV R.1, fI R.2]) := by
  refine .tup fun j hj => ?_
  rcases j with _ | _ | j
  · refine .agg fun i hi => ?_
    rcases i with _ | _ | _ | _ | _ | i
    · exact .flt _
    · exact .flt _
    · exact .flt _
    · exact .flt _
    · exact .flt _
    · have hi : i + 5 < 5 := hi
      omega
  · exact .int ..
  · have hj : j + 2 < 2 := hj
    omega
set_option maxRecDepth 8000 in
theorem l11_known_con : Con Tryz.prog 11 [] (fB true) := by
  have hb := bound_Step_conO kp10 .nils ⟨1048576, 1048576, 1, 0, [[4607182418800017408], [0]]⟩ [4607182418800017408] 0 kb_ok
  have hvv := kb_val
  simp only [Bool.and_eq_true, beq_iff_eq] at hvv
  have e1 : ((1048576 : Int)).toNat = 1048576 := rfl
  simp only [e1] at hb
  generalize bndP kp10.t kp10.box [[4607182418800017408], [0]] (hW 1048576) [4607182418800017408] 0 = R at hb hvv
  obtain ⟨⟨⟨v1, v2⟩, v3⟩, v4⟩ := hvv
  refine Con_introA A_l11_known_comp rfl mixed ?_
  refine evx @A_l11_known.eq_1 ?_
  refine callG_snaps [pbVo kp10 .nils, ndV ⟨1048576, 1048576, 1, 0, [[4607182418800017408], [0]]⟩, .d (rowD [4607182418800017408]), fl 0] hb ⟨.aggs ⟨.bare _, snp_data rfl (fun _ _ => rfl) rfl, snp_data rfl (fun _ _ => rfl) rfl, snp_data rfl (fun _ _ => rfl) rfl, snp_row rfl rfl rfl, .bare _, .bare _, .bare _, .bare _, .bare _, .bare _, .bare _, .nil, trivial⟩, .aggs ⟨.bare _, .bare _, .bare _, .bare _, snap_two' rfl rfl rfl, trivial⟩, snp_row rfl rfl rfl, .bare _, trivial⟩ (scalar_bd R) ?_
  refine evx (And.intro v1 (And.intro v2 (And.intro v3 v4))) ?_
  exact endsT_rett rfl (by decide) (by simp [look])
end Go.Ab
namespace Go.Ab
set_option linter.unusedSimpArgs false
set_option linter.unusedVariables false
open Nat renaming reduceEqDiff → n1_, reduceAdd → n2_, reduceMul → n3_, reduceLT → n4_, reduceLeDiff → n5_
open Int renaming reduceToNat → i1_, reduceAdd → i2_, reduceSub → i3_, reduceMul → i4_, reduceNeg → i5_, reduceLT → i6_, reduceLE → i7_
open Go Go.Proofs
def A_l11_BoundOwn : CA := (.seq (.reg [i_X 0 2 (.box (.t 0) 9 24), i_X 1 4 (.h (.mov (.k (.d (.bool false)))))] [1, 2]) (.seq (.seq (.reg [i_X 0 16 (.callA (kF 11) []), i_X 1 17 (.h (.un .not (.t 16)))] [1, 2, 17]) (.cond (.t 17) (.seq (.reg [i_X 0 4 (.h (.mov (.k (.d (.bool false)))))] [4]) .ret) .skip)) (.seq (.seq (.reg [i_A 0 18 2 9, i_X 1 19 (.callA (kF 12) [(.t 18)]), i_X 2 20 (.h (.un .not (.t 19)))] [1, 2, 20]) (.cond (.t 20) (.seq (.reg [i_X 0 4 (.h (.mov (.k (.d (.bool true)))))] [4]) .ret) .skip)) (.seq (.reg [i_A 0 21 2 9, i_X 1 22 (.callA (kF 13) [(.t 21)]), i_X 2 5 (.alloc [(.d (.int .i64 0)), .nil, .nil, .nil, .nil, (.d (.int .i64 0)), (.d (.int .i64 0)), (.d (.int .i64 0)), (.d (.flt 0)), (.d (.flt 0)), (.d (.flt 0)), (.d (.int .i64 0)), .nil] 33), i_S 3 5 22 13] [1, 2, 5]) (.seq (.reg [i_A 0 23 5 13, i_X 1 24 (.callA (kF 14) [(.t 23)]), i_X 2 6 (.alloc [(.d (.int .i64 0)), (.d (.int .i64 0)), (.d (.int .i64 0)), (.d (.int .i64 0)), .nil, (.d (.int .i64 0)), (.d (.int .i64 0)), (.d (.int .i64 0))] 39), i_S 3 6 24 8] [1, 2, 5, 6]) (.seq (.reg [i_A 0 25 5 13, i_A 1 26 6 8, i_X 2 27 (.callS 0 (kF 16) [(.t 25), (.t 26)]), i_A 3 28 5 13, i_A 4 29 6 8, i_X 5 30 (.callS 0 (kF 16) [(.t 28), (.t 29)]), i_X 6 7 (.alloc [(.d (.int .i64 0)), (.d (.int .i64 0)), (.d (.int .i64 0)), (.d (.int .i64 0)), .nil, (.d (.int .i64 0)), (.d (.int .i64 0)), (.d (.int .i64 0)), (.d (.int .i64 0)), (.d (.int .i64 0)), (.d (.int .i64 0)), (.d (.int .i64 0)), .nil, (.d (.bool false)), (.d (.flt 0)), (.d (.int .i64 0))] 43), i_X 7 8 (.alloc [(.d (.int .i64 0)), (.d (.int .i64 0)), (.d (.int .i64 0)), (.d (.int .i64 0)), .nil, (.d (.int .i64 0)), (.d (.int .i64 0)), (.d (.int .i64 0)), (.d (.int .i64 0)), (.d (.int .i64 0)), (.d (.int .i64 0)), (.d (.int .i64 0)), .nil, (.d (.bool false)), (.d (.flt 0)), (.d (.int .i64 0))] 43), i_S 8 7 27 16, i_S 9 8 30 16] [1, 2, 5, 6, 7, 8]) (.seq (.seq (.reg [i_P 0 31 7 13, i_L 1 32 31 1, i_X 2 33 (.h (.un .not (.t 32)))] [1, 2, 5, 6, 7, 8, 33]) (.cond (.t 33) (.seq (.reg [i_X 0 4 (.h (.mov (.k (.d (.bool true)))))] [4]) .ret) .skip)) (.seq (.reg [i_M 0 34 1, i_X 1 35 (.callA (kF 15) [(.t 34), (kI 50)]), i_X 2 36 (.h (.i2f (.t 35))), i_X 3 37 (.h (.fbin .div (.t 36) (.k (.d (.flt 4661225614328463360))))), i_M 4 9 37] [2, 5, 6, 7, 8, 9]) (.seq (.reg [i_A 0 39 5 13, i_P 1 40 7 8, i_A 2 41 40 5, i_P 3 42 6 0, i_P 4 43 42 4, i_L 5 44 43 1, i_X 6 45 (.h (.idx (.t 44) (kI 0) 1)), i_L 7 46 45 1, i_M 8 47 9, i_X 9 48 (.callS 0 (kF 17) [(.t 39), (.t 41), (.t 46), (.t 47)]), i_M 10 38 48, i_X 11 49 (.h (.ext (.t 38) 0)), i_X 12 50 (.h (.ext (.t 38) 1)), i_X 13 10 (.alloc z_5 46), i_S 14 10 49 5, i_M 15 11 50] [2, 5, 6, 7, 8, 9, 10, 11]) (.seq (.reg [i_A 0 52 5 13, i_P 1 53 7 8, i_A 2 54 53 5, i_P 3 55 6 0, i_P 4 56 55 4, i_L 5 57 56 1, i_X 6 58 (.h (.idx (.t 57) (kI 0) 1)), i_L 7 59 58 1, i_M 8 60 9, i_X 9 61 (.callS 0 (kF 17) [(.t 52), (.t 54), (.t 59), (.t 60)]), i_M 10 51 61, i_X 11 62 (.h (.ext (.t 51) 0)), i_X 12 63 (.h (.ext (.t 51) 1)), i_X 13 12 (.alloc z_5 46), i_S 14 12 62 5, i_M 15 13 63] [2, 7, 8, 9, 10, 11, 12, 13]) (.seq (.reg [i_A 0 65 2 9, i_X 1 66 (.callS 0 (kF 13) [(.t 65)]), i_P 2 67 8 8, i_A 3 68 67 5, i_A 4 69 2 9, i_X 5 70 (.callS 5 (kF 13) [(.t 69)]), i_X 6 71 (.h (.fld (.t 70) 4 1 false)), i_M 7 72 9, i_X 8 73 (.callS 0 (kF 18) [(.t 66), (.t 68), (.t 71), (.t 72)]), i_M 9 64 73, i_X 10 74 (.h (.ext (.t 64) 0)), i_X 11 75 (.h (.ext (.t 64) 1)), i_X 12 14 (.alloc z_5 50), i_S 13 14 74 5, i_M 14 15 75] [7, 8, 10, 11, 12, 13, 14, 15]) (.seq (.reg [i_A 0 76 10 5, i_A 1 77 12 5, i_X 2 78 (.h (.acmp false (.t 76) (.t 77) [(0, true), (1, true), (2, true), (3, true), (4, true)])), i_M 3 79 78, ⟨4, (some 80), (some (79, true)), [], [], (.h (.mov (.t 11)))⟩, ⟨5, (some 81), (some (79, true)), [], [], (.h (.mov (.t 13)))⟩, ⟨6, (some 82), (some (79, true)), [], [], (.h (.ibin .eql (.t 80) (.t 81)))⟩, i_X 7 83 (.h (.pick (.t 79) (.t 82) (.k (.d (.bool false))))), i_M 8 84 83, ⟨9, (some 85), (some (84, true)), [], [], (.h (.mov (.t 11)))⟩, ⟨10, (some 86), (some (84, true)), [], [], (.h (.mov (.t 15)))⟩, ⟨11, (some 87), (some (84, true)), [], [], (.h (.ibin .eql (.t 85) (.t 86)))⟩, i_X 12 88 (.h (.pick (.t 84) (.t 87) (.k (.d (.bool false))))), i_M 13 89 88, ⟨14, (some 90), (some (89, true)), [], [], (.load (.t 10) 5 true)⟩, ⟨15, (some 91), (some (89, true)), [], [], (.callS 0 (kF 19) [(.t 90)])⟩, ⟨16, (some 92), (some (89, true)), [], [], (.load (.t 14) 5 true)⟩, ⟨17, (some 93), (some (89, true)), [], [], (.h (.acmp false (.t 91) (.t 92) [(0, true), (1, true), (2, true), (3, true), (4, true)]))⟩, i_X 18 94 (.h (.pick (.t 89) (.t 93) (.k (.d (.bool false))))), i_M 19 95 94, ⟨20, (some 96), (some (95, true)), [], [], (.h (.padd (.t 7) 8))⟩, ⟨21, (some 97), (some (95, true)), [], [], (.h (.padd (.t 96) 4))⟩, ⟨22, (some 98), (some (95, true)), [], [], (.load (.t 97) 1 false)⟩, ⟨23, (some 99), (some (95, true)), [], [], (.h (.padd (.t 8) 8))⟩, ⟨24, (some 100), (some (95, true)), [], [], (.h (.padd (.t 99) 4))⟩, ⟨25, (some 101), (some (95, true)), [], [], (.load (.t 100) 1 false)⟩, ⟨26, (some 102), (some (95, true)), [], [], (.callA (kF 22) [(.t 98), (.t 101)])⟩, i_X 27 103 (.h (.pick (.t 95) (.t 102) (.k (.d (.bool false))))), i_M 28 4 103] [4]) .ret))))))))))))
theorem A_l11_BoundOwn_comp : compF Tryz.prog 10 = some ⟨104, [(4, none)], A_l11_BoundOwn.strip⟩ := by kernel_rfl
set_option maxRecDepth 8000 in
theorem l11_BoundOwn_con (n first least tol fin : Int) (ns ms outs : List Int) (dv : Bool) (before : Int) : Con Tryz.prog 10 [.agg (shC n first least tol fin ns ms outs dv), fI before] (fB true) := by
  refine Con_introA A_l11_BoundOwn_comp rfl mixed ?_
  refine evx @A_l11_BoundOwn.eq_1 ?_
  refine callG_con (l11_known_con) rfl ?_
  refine ev ?_
  refine callG_con (l10_Few_con n first least tol fin ns ms outs dv) rfl ?_
  by_cases hfew : ns.length ≤ 60 ∧ ms.length ≤ 60 ∧ outs.length ≤ 60
  · rw [decide_eq_true hfew]
    refine ev ?_
    refine callG_con (l10_Make_con n first least tol fin ns ms outs dv hfew.1 hfew.2.1 hfew.2.2) rfl ?_
    have hp2 := mkPb_ok2 n first least tol fin ns ms outs dv
    generalize hpp : mkPb n first least tol fin ns ms outs dv = p at hp2
    have hp := hp2.pk
    refine ev ?_
    have hn40 : p.t.n < 2 ^ 40 := Nat.lt_trans hp.ok.t.n (by decide)
    refine callG_con (begin_con p hp) rfl ?_
    refine ev ?_
    have hi := begin_inv hp
    have hb := fun y hy ht w hw => taken_bok hp2 hi ht y w hy hw
    have hzx := hi.ok.n.rk
    have hx0 := hzx.2 0 (by omega)
    have hxl := hzx.1
    have hy : (beginS p).n.z.getD 0 [] = p.y := rfl
    refine callSG_con (r10_Try_con p (beginS p) hp.ok hi.ok) rfl ?_
    refine ev ?_
    refine callSG_con (r10_Try_con p (beginS p) hp.ok hi.ok) rfl ?_
    generalize tryP p (beginS p) = r at hb
    generalize beginS p = x at hzx hx0 hxl hy ⊢
    obtain ⟨sst, nd, tk, er, e⟩ := r
    simp only at hb
    refine ev ?_
    cases tk
    · refine ev ?_
      exact endsT_rett rfl (by decide) (by simp [look])
    · refine ev ?_
      refine callG_con (l11_within_con before 50 (by decide) (by decide)) rfl ?_
      refine ev ?_
      have hwB := wB_Pw before
      have ewB : fop .div (FloatKind.nearest .f64 (before % 50)) 4661225614328463360 = wB before := rfl
      rw [ewB]
      generalize wB before = w at hwB ⊢
      have hbk := hb (x.n.z.getD 0 []) hx0 rfl w hwB
      have hs1 := bound_Step_con p nd (x.n.z.getD 0 []) w hbk
      refine ⟨by omega, ?_⟩
      refine callSG_con (hs1) rfl ?_
      refine ev ?_
      refine ⟨by omega, ?_⟩
      refine callSG_con (hs1) rfl ?_
      refine ev ?_
      refine callSG_con (l10_Make_con n first least tol fin ns ms outs dv hfew.1 hfew.2.1 hfew.2.2) rfl ?_
      rw [hpp]
      refine ev ?_
      refine callSG_con (l10_Make_con n first least tol fin ns ms outs dv hfew.1 hfew.2.1 hfew.2.2) rfl ?_
      rw [hpp]
      refine ev ?_
      have hs2 := r11_Step_con p nd p.y w (hy ▸ hbk)
      rw [hy] at hs1 ⊢
      have hok := bndP_ok p.t p.box nd.z (hW nd.step.toNat) p.y w
      have hr : ∀ i, i < nd.z.length → (nd.z.getD i []).length < 2 ^ 62 := fun i hi => by have h1 := hbk.rk.1; have := hbk.rk.2 i (by omega); have := hp.ok.t.n; omega
      have hl : nd.z.length < 2 ^ 62 := by have h1 := hbk.rk.1; have := hbk.ord; omega
      generalize bndP p.t p.box nd.z (hW nd.step.toNat) p.y w = R at hs1 hs2 hok ⊢
      refine callSG_con (hs2) rfl ?_
      refine ev ?_
      rcases hok with ⟨r2, n1, n2, n3, n4, n5⟩ | ⟨r1, r2⟩
      · have c1 := fcmp_eq_self R.1.jump
        have c2 := fcmp_eq_self R.1.defect
        have c3 := fcmp_eq_self R.1.norm
        have c4 := fcmp_eq_self R.1.growth
        have c5 := fcmp_eq_self R.1.bound
        rw [n1] at c1
        rw [n2] at c2
        rw [n3] at c3
        rw [n4] at c4
        rw [n5] at c5
        simp -implicitDefEqProofs only [evI, hv, effC, reduceCtorEq, ↓reduceIte, n1_, n2_, n3_, n4_, n5_, i1_, i2_, i3_, i4_, i5_, i6_, i7_, aeq, Option.map_some, c1, c2, c3, c4, c5, beq_self_eq_true]
        refine callSG_con (l11_parts_con R.1) rfl ?_
        simp -implicitDefEqProofs only [evI, hv, effC, reduceCtorEq, ↓reduceIte, n1_, n2_, n3_, n4_, n5_, i1_, i2_, i3_, i4_, i5_, i6_, i7_, aeq, Option.map_some, c1, c2, c3, c4, c5]
        refine callG_con (r1_Tables_con nd.z hl hr) rfl ?_
        refine ev ?_
        exact endsT_rett rfl (by decide) (by simp [look])
      · obtain ⟨R1, R2⟩ := R
        simp only at r1 r2
        subst r1
        have c0 : fcmp .eq 0 0 = true := by decide
        rcases r2 with rfl | rfl
        · simp -implicitDefEqProofs only [evI, hv, effC, reduceCtorEq, ↓reduceIte, n1_, n2_, n3_, n4_, n5_, i1_, i2_, i3_, i4_, i5_, i6_, i7_, aeq, Option.map_some, c0, Int.reduceBEq]
          refine callSG_con (l11_parts_con ⟨0, 0, 0, 0, 0⟩) rfl ?_
          simp -implicitDefEqProofs only [evI, hv, effC, reduceCtorEq, ↓reduceIte, n1_, n2_, n3_, n4_, n5_, i1_, i2_, i3_, i4_, i5_, i6_, i7_, aeq, Option.map_some, c0]
          refine callG_con (r1_Tables_con nd.z hl hr) rfl ?_
          refine ev ?_
          exact endsT_rett rfl (by decide) (by simp [look])
        · simp -implicitDefEqProofs only [evI, hv, effC, reduceCtorEq, ↓reduceIte, n1_, n2_, n3_, n4_, n5_, i1_, i2_, i3_, i4_, i5_, i6_, i7_, aeq, Option.map_some, c0, Int.reduceBEq]
          refine callSG_con (l11_parts_con ⟨0, 0, 0, 0, 0⟩) rfl ?_
          simp -implicitDefEqProofs only [evI, hv, effC, reduceCtorEq, ↓reduceIte, n1_, n2_, n3_, n4_, n5_, i1_, i2_, i3_, i4_, i5_, i6_, i7_, aeq, Option.map_some, c0]
          refine callG_con (r1_Tables_con nd.z hl hr) rfl ?_
          refine ev ?_
          exact endsT_rett rfl (by decide) (by simp [look])
  · rw [decide_eq_false hfew]
    refine ev ?_
    exact endsT_rett rfl (by decide) (by simp [look])
end Go.Ab
