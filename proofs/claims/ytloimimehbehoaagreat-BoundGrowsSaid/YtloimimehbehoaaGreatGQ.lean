/- Part 17: SN, SO, SP, SR, ST, SU, BT, BW, BX, BV. -/
import Derived.Test.YtloimimehbehoaaGreatGP
namespace Go.Ab
set_option linter.unusedSimpArgs false
set_option linter.unusedVariables false
open Nat renaming reduceEqDiff → n1_, reduceAdd → n2_, reduceMul → n3_, reduceLT → n4_, reduceLeDiff → n5_
open Int renaming reduceToNat → i1_, reduceAdd → i2_, reduceSub → i3_, reduceMul → i4_, reduceNeg → i5_, reduceLT → i6_, reduceLE → i7_
open Go Go.Proofs
def A_l10_Shape_Make_L0 : CA := (.seq (.seq (.reg [i_M 0 22 4, i_P 1 23 3 0, i_P 2 24 23 0, i_L 3 25 24 1, i_N 4 26 .lss 22 25] [1, 2, 3, 4, 26]) (.cond (.t 26) .skip (.exit 0))) (.seq (.block 1 (.reg [i_P 0 29 3 3, i_L 1 30 29 1, i_P 2 31 3 4, i_L 3 32 31 1, i_M 4 33 4, i_I 5 34 32 33 1, i_L 6 35 34 1, i_X 7 36 (.h (.fbin .sub (.t 35) (.k (.d (.flt 4625196817309499392))))), i_P 8 37 3 4, i_L 9 38 37 1, i_M 10 39 4, i_I 11 40 38 39 1, i_L 12 41 40 1, i_X 13 42 (.h (.fbin .add (.t 41) (.k (.d (.flt 4625196817309499392))))), i_X 14 43 (.h (.build [(.d (.flt 0)), (.d (.flt 0))] [(0, (1, (.t 36))), (1, (1, (.t 42)))])), i_X 15 44 (.bslice [(.d (.flt 0)), (.d (.flt 0))] 1 2 [(0, (2, (.t 43)))] 58), i_X 16 45 (.app (.t 30) (.t 44) 2 16), i_P 17 46 3 3, i_S 18 46 45 1] [1, 2, 3, 4])) (.reg [i_M 0 27 4, i_B 1 28 .add 27 1, i_M 2 4 28] [1, 2, 3, 4])))
def A_l10_Shape_Make_L1 : CA := (.seq (.seq (.reg [i_M 0 92 5, i_P 1 93 1 7, i_L 2 94 93 1, i_X 3 95 (.h (.len (.t 94))), i_N 4 96 .lss 92 95, i_M 5 97 96, ⟨6, (some 98), (some (97, true)), [], [], (.h (.mov (.t 5)))⟩, ⟨7, (some 99), (some (97, true)), [], [], (.h (.ibin .lss (.t 98) (kI 8)))⟩, i_X 8 100 (.h (.pick (.t 97) (.t 99) (.k (.d (.bool false)))))] [1, 2, 3, 5, 100]) (.cond (.t 100) .skip (.exit 2))) (.seq (.block 3 (.reg [i_P 0 103 3 12, i_L 1 104 103 1, i_P 2 105 1 7, i_L 3 106 105 1, i_M 4 107 5, i_I 5 108 106 107 1, i_L 6 109 108 1, i_P 7 110 3 5, i_L 8 111 110 1, i_B 9 112 .add 111 1, i_X 10 113 (.callS 10 (kF 25) [(.t 109), (.t 112)]), i_X 11 114 (.bslice [(.d (.int .i64 0))] 1 1 [(0, (1, (.t 113)))] 3), i_X 12 115 (.app (.t 104) (.t 114) 1 8), i_P 13 116 3 12, i_S 14 116 115 1] [1, 2, 3, 5])) (.reg [i_M 0 101 5, i_B 1 102 .add 101 1, i_M 2 5 102] [1, 2, 3, 5])))
def A_l10_Shape_Make_L2 : CA := (.seq (.seq (.reg [i_M 0 117 6, i_P 1 118 3 12, i_L 2 119 118 1, i_X 3 120 (.h (.len (.t 119))), i_N 4 121 .lss 117 120] [2, 3, 6, 121]) (.cond (.t 121) .skip (.exit 4))) (.seq (.block 5 (.reg [i_P 0 124 3 12, i_L 1 125 124 1, i_M 2 126 6, i_P 3 127 3 12, i_L 4 128 127 1, i_M 5 129 6, i_I 6 130 128 129 1, i_L 7 131 130 1, i_P 8 132 3 12, i_L 9 133 132 1, i_M 10 134 6, i_B 11 135 .sub 134 1, i_I 12 136 133 135 1, i_L 13 137 136 1, i_X 14 138 (.h (.mm true (.t 131) (.t 137))), i_I 15 139 125 126 1, i_S 16 139 138 1] [2, 3, 6])) (.reg [i_M 0 122 6, i_B 1 123 .add 122 1, i_M 2 6 123] [2, 3, 6])))
def A_l10_Shape_Make : CA := (.seq (.reg [i_X 0 1 (.box (.t 0) 9 24), i_X 1 2 (.alloc [(.d (.int .i64 0)), .nil, .nil, .nil, .nil, (.d (.int .i64 0)), (.d (.int .i64 0)), (.d (.int .i64 0)), (.d (.flt 0)), (.d (.flt 0)), (.d (.flt 0)), (.d (.int .i64 0)), .nil] 33)] [1, 2]) (.seq (.reg [i_P 0 7 1 0, i_L 1 8 7 1, i_P 2 9 1 5, i_L 3 10 9 1, i_P 4 11 1 8, i_L 5 12 11 1, i_X 6 13 (.callA (kF 23) [(.t 8), (.t 10), (.t 12)]), i_X 7 14 (.h (.build [(.d (.int .i64 0)), .nil, .nil, .nil, .nil, (.d (.int .i64 0)), (.d (.int .i64 0)), (.d (.int .i64 0)), (.d (.flt 0)), (.d (.flt 0)), (.d (.flt 0)), (.d (.int .i64 0)), .nil] [(0, (3, (.t 13)))])), i_X 8 3 (.alloc [(.d (.int .i64 0)), .nil, .nil, .nil, .nil, (.d (.int .i64 0)), (.d (.int .i64 0)), (.d (.int .i64 0)), (.d (.flt 0)), (.d (.flt 0)), (.d (.flt 0)), (.d (.int .i64 0)), .nil] 33), i_S 9 3 14 13] [1, 2, 3]) (.seq (.reg [i_P 0 15 3 0, i_P 1 16 15 0, i_L 2 17 16 1, i_P 3 18 1 6, i_L 4 19 18 1, i_X 5 20 (.callA (kF 24) [(.t 17), (.t 19)]), i_P 6 21 3 4, i_S 7 21 20 1] [1, 2, 3]) (.seq (.seq (.reg [i_K 0 4 0] [1, 2, 3, 4]) (.block 0 (.loop A_l10_Shape_Make_L0))) (.seq (.reg [i_P 0 47 1 1, i_L 1 48 47 1, i_X 2 49 (.callA (kF 25) [(.t 48), (kI 13)]), i_X 3 50 (.h (.ibin .add (kI 16) (.t 49))), i_X 4 51 (.h (.icv .u64 (.t 50))), i_X 5 52 (.h (.ibin .shl (kI 1) (.t 51))), i_P 6 53 3 6, i_S 7 53 52 1] [1, 2, 3]) (.seq (.reg [i_P 0 54 3 6, i_L 1 55 54 1, i_P 2 56 1 2, i_L 3 57 56 1, i_X 4 58 (.callS 4 (kF 25) [(.t 57), (kI 10)]), i_X 5 59 (.h (.icv .u64 (.t 58))), i_N 6 60 .shr 55 59, i_P 7 61 3 7, i_S 8 61 60 1] [1, 2, 3]) (.seq (.reg [i_P 0 62 1 4, i_L 1 63 62 1, i_X 2 64 (.callA (kF 25) [(.t 63), (kI 536870912)]), i_X 3 65 (.h (.ibin .add (kI 1) (.t 64))), i_P 4 66 3 5, i_S 5 66 65 1] [1, 2, 3]) (.seq (.seq (.reg [i_P 0 67 1 4, i_L 1 68 67 1, i_X 2 69 (.callA (kF 25) [(.t 68), (kI 4)]), i_B 3 70 .eql 69 0] [1, 2, 3, 70]) (.cond (.t 70) (.reg [i_P 0 71 3 6, i_L 1 72 71 1, i_X 2 73 (.h (.ibin .mul (kI 4) (.t 72))), i_P 3 74 3 5, i_S 4 74 73 1] [1, 2, 3]) .skip)) (.seq (.reg [i_P 0 75 1 3, i_L 1 76 75 1, i_X 2 77 (.callA (kF 25) [(.t 76), (kI 24)]), i_X 3 78 (.h (.icv .u64 (.t 77))), i_X 4 79 (.h (.ibin .shl (kI 1) (.t 78))), i_X 5 80 (.h (.i2f (.t 79))), i_X 6 81 (.h (.fbin .div (.k (.d (.flt 4607182418800017408))) (.t 80))), i_P 7 82 3 8, i_S 8 82 81 1] [1, 2, 3]) (.seq (.reg [i_P 0 83 1 3, i_L 1 84 83 1, i_B 2 85 .quo 84 24, i_X 3 86 (.callA (kF 25) [(.t 85), (kI 3)]), i_X 4 87 (.h (.i2f (.t 86))), i_X 5 88 (.h (.fbin .div (.t 87) (.k (.d (.flt 4652218415073722368))))), i_P 6 89 3 9, i_S 7 89 88 1] [1, 2, 3]) (.seq (.reg [i_P 0 90 3 10, ⟨1, none, none, [], [], (.store (.t 90) (.k (.d (.flt 4616189618054758400))) 1)⟩] [1, 2, 3]) (.seq (.reg [i_P 0 91 3 11, ⟨1, none, none, [], [], (.store (.t 91) (kI 24) 1)⟩] [1, 2, 3]) (.seq (.seq (.reg [i_K 0 5 0] [1, 2, 3, 5]) (.block 2 (.loop A_l10_Shape_Make_L1))) (.seq (.seq (.reg [i_K 0 6 1] [2, 3, 6]) (.block 4 (.loop A_l10_Shape_Make_L2))) (.seq (.reg [i_A 0 140 3 13, i_S 1 2 140 13] [2]) .ret)))))))))))))))
theorem A_l10_Shape_Make_comp : compF Tryz.prog 13 = some ⟨141, [(2, (some (13, true)))], A_l10_Shape_Make.strip⟩ := by kernel_rfl
theorem shl_pow' (m : Nat) (h : m < 62) : IntKind.i64.wrap (1 * 2 ^ min (IntKind.u64.wrap (m : Int)).toNat IntKind.i64.bits) = ((2 ^ m : Nat) : Int) := by
  rw [wrapU (by omega) (by omega)]
  have e : min ((m : Int).toNat) IntKind.i64.bits = m := by
    have : IntKind.i64.bits = 64 := rfl
    rw [this]; omega
  rw [e, Int.one_mul]
  have h1 : (2 : Nat) ^ m ≤ 2 ^ 61 := Nat.pow_le_pow_right (by decide) (by omega)
  have h2 : (2 : Int) ^ m = ((2 ^ m : Nat) : Int) := by simp
  rw [h2]
  generalize (2 : Nat) ^ m = x at h1
  exact wrapI (by omega) (by omega)
theorem shr_pow (a b : Nat) (hb : b ≤ a) (h : b < 62) : (((2 ^ a : Nat) : Int)).fdiv (2 ^ min (IntKind.u64.wrap (b : Int)).toNat IntKind.i64.bits) = ((2 ^ (a - b) : Nat) : Int) := by
  rw [wrapU (by omega) (by omega)]
  have e : min ((b : Int).toNat) IntKind.i64.bits = b := by
    have : IntKind.i64.bits = 64 := rfl
    rw [this]; omega
  rw [e]
  have h3 : ((2 : Int) ^ b) = ((2 ^ b : Nat) : Int) := by push_cast; rfl
  rw [h3, Int.fdiv_eq_ediv_of_nonneg _ (Int.natCast_nonneg _)]
  have h4 : 2 ^ a = 2 ^ (a - b) * 2 ^ b := by rw [← Nat.pow_add]; congr 1; omega
  rw [h4]
  have h5 : 0 < 2 ^ b := Nat.pow_pos (by decide)
  rw [← Int.natCast_ediv, Nat.mul_div_cancel _ h5]
theorem KpA_ivC (L : Heap) (ps : List (Nat × Nat)) : KpA L (ivC ps) := by
  induction ps with
  | nil => exact KpA_nil
  | cons p ps ih =>
    show KpA L (fl p.1 :: fl p.2 :: ivC ps)
    rw [KpA_cons, KpA_cons]
    exact ⟨Kp_d _, Kp_d _, ih⟩
def boxE (y : List Nat) (j : Nat) : Nat × Nat := (fop .sub (y.getD j 0) 4625196817309499392, fop .add (y.getD j 0) 4625196817309499392)
def boxL (y : List Nat) (i : Nat) : List (Nat × Nat) := (List.range i).map (boxE y)
theorem boxL_succ (y : List Nat) (i : Nat) : ivC (boxL y i) ++ [fl (boxE y i).1, fl (boxE y i).2] = ivC (boxL y (i + 1)) := by simp [boxL, ivC, List.range_succ]
theorem boxL_len (y : List Nat) (i : Nat) : (boxL y i).length = i := by simp [boxL]
abbrev mkC (t : Tp) (b : V) (y : List Nat) (fin first least : Int) (atol rtol cap : Nat) (most : Int) (o : V) : List V := [fI t.n, .d (opsD t.ops), .d (rowI t.out), b, .d (rowD y), fI fin, fI first, fI least, fl atol, fl rtol, fl cap, fI most, o]
abbrev mkZ : List V := [fI 0, .nil, .nil, .nil, .nil, fI 0, fI 0, fI 0, fl 0, fl 0, fl 0, fI 0, .nil]
abbrev mkS0 (i : Nat) : Sl := [(1, .ptr 0 0 0 9), (2, .ptr 1 0 0 13), (3, .ptr 10 0 0 13), (4, fI i)]
set_option maxRecDepth 8000 in
theorem make10_L0 (sh : List V) (t : Tp) (y : List Nat) (hy : y.length = t.n) (hN : 0 < t.n ∧ t.n ≤ 3) (hsh : ∀ L, KpA L sh) (Q : Ex → T → Prop)
    (hQ : ∀ w, Q (.exit 0) ⟨mkS0 t.n ++ [w], [(27, [ivC (boxL y t.n)]), (10, [mkC t (.sl 27 0 0 t.n 2 (t.n * 2)) y 0 0 0 0 0 0 0 .nil]), (1, [mkZ]), (0, [sh])]⟩) :
    WA Tryz.prog (fun _ => False) 141 (.loop A_l10_Shape_Make_L0) Q ⟨mkS0 0, [(10, [mkC t .nil y 0 0 0 0 0 0 0 .nil]), (1, [mkZ]), (0, [sh])]⟩ := by
  refine WA_forW (n := t.n) (fun c s => ∃ i, c + i = t.n ∧ ((i = 0 ∧ s = ⟨mkS0 0, [(10, [mkC t .nil y 0 0 0 0 0 0 0 .nil]), (1, [mkZ]), (0, [sh])]⟩) ∨ (0 < i ∧ s = ⟨mkS0 i, [(27, [ivC (boxL y i)]), (10, [mkC t (.sl 27 0 0 i 2 (i * 2)) y 0 0 0 0 0 0 0 .nil]), (1, [mkZ]), (0, [sh])]⟩))) (Le.refl _) ⟨0, by omega, .inl ⟨rfl, rfl⟩⟩ ?_
  rintro c s ⟨i, hc, ⟨rfl, rfl⟩ | ⟨hi, rfl⟩⟩
  · refine evx @A_l10_Shape_Make_L0.eq_1 ?_
    have h0 : decide ((0 : Int) < (t.n : Int)) = true := by simp; omega
    refine evx h0 ?_
    refine ⟨by omega, by omega, ?_⟩
    rw [show IntKind.i64.wrap 1 = ((0 + 1 : Nat) : Int) from by decide]
    exact ⟨c - 1, _, by omega, LeT.only (L' := [(27, [ivC (boxL y (0 + 1))]), (10, [mkC t (.sl 27 0 0 (0 + 1) 2 ((0 + 1) * 2)) y 0 0 0 0 0 0 0 .nil]), (1, [mkZ]), (0, [sh])]) (fun X => X != 26) (fun _ h => h) rfl (by simp (maxDischargeDepth := 6) [kpS, fam_cons, fam_nil, KpA_ivC, hsh]) (by simp (maxDischargeDepth := 6) [kpS, fam_cons, fam_nil, KpA_ivC, hsh]), 0 + 1, by omega, .inr ⟨by omega, rfl⟩⟩
  · have hl : (ivC (boxL y i)).length = i * 2 := by rw [ivC_length, boxL_len]
    refine evx @A_l10_Shape_Make_L0.eq_1 ?_
    refine condC_intro (fun h => ?_) (fun h => ?_)
    · replace h := of_decide_eq_true h
      refine ev ?_
      (repeat (with_reducible refine And.intro (by omega) ?_))
      have e := boxL_succ y i
      unfold boxE at e
      simp only [] at e
      have e2 : (boxL y i).length * 2 = i * 2 ∧ (i + 1) * 16 ≤ 140737488355328 := by rw [boxL_len]; exact ⟨rfl, by omega⟩
      refine ⟨e2, ?_⟩
      rw [wrapI (by omega) (by omega), e, show i * 2 + 2 = (i + 1) * 2 by omega]
      exact ⟨c - 1, _, by omega, LeT.only (fun X => decide (X ≤ 27)) (fun _ h => h) rfl (by simp (maxDischargeDepth := 6) [kpS, fam_cons, fam_nil, KpA_ivC, hsh]) (by simp (maxDischargeDepth := 6) [kpS, fam_cons, fam_nil, KpA_ivC, hsh]), i + 1, by omega, .inr ⟨by omega, rfl⟩⟩
    · replace h := of_decide_eq_false h
      have e : i = t.n := by omega
      subst e
      refine ev ?_
      exact hQ _
def outE (outs : List Int) (E : Int) (j : Nat) : Int := outs.getD j 0 % (E + 1)
def outsA (outs : List Int) (E : Int) (i : Nat) : List Int := (List.range i).map (outE outs E)
theorem outsA_succ (outs : List Int) (E : Int) (i : Nat) : rowIV (outsA outs E i) ++ [fI (outE outs E i)] = rowIV (outsA outs E (i + 1)) := by simp [outsA, rowIV, List.range_succ]
theorem outsA_len (outs : List Int) (E : Int) (i : Nat) : (outsA outs E i).length = i := by simp [outsA]
abbrev mkS1 (i : Nat) : Sl := [(1, .ptr 0 0 0 9), (2, .ptr 1 0 0 13), (3, .ptr 10 0 0 13), (5, fI i)]
abbrev mkH (t : Tp) (box : List (Nat × Nat)) (y : List Nat) (E : Int) (c : List V) (sh : List V) : Heap := [(27, [ivC box]), (10, [[fI t.n, .d (opsD t.ops), .d (rowI t.out), .sl 27 0 0 t.n 2 (t.n * 2), .d (rowD y), fI E] ++ c]), (1, [mkZ]), (0, [sh])]
set_option maxRecDepth 8000 in
theorem make10_L1 (n first least tol fin : Int) (ns ms outs : List Int) (dv : Bool) (t : Tp) (box : List (Nat × Nat)) (y : List Nat) (E : Int) (hE : 0 ≤ E ∧ E < 2 ^ 40) (F B : Int) (ra rb rc : Nat) (hmo : Int) (ho : outs.length ≤ 60) (Q : Ex → T → Prop)
    (hQ0 : outs.length = 0 → ∀ w, Q (.exit 2) ⟨mkS1 0 ++ [w], mkH t box y E [fI F, fI B, fl ra, fl rb, fl rc, fI hmo, .nil] (shC n first least tol fin ns ms outs dv)⟩)
    (hQ : 0 < outs.length → ∀ w, Q (.exit 2) ⟨mkS1 (min outs.length 8) ++ [w], (40, [rowIV (outsA outs E (min outs.length 8))]) :: mkH t box y E [fI F, fI B, fl ra, fl rb, fl rc, fI hmo, .sl 40 0 0 (min outs.length 8) 1 (min outs.length 8)] (shC n first least tol fin ns ms outs dv)⟩) :
    WA Tryz.prog (fun _ => False) 141 (.loop A_l10_Shape_Make_L1) Q ⟨mkS1 0, mkH t box y E [fI F, fI B, fl ra, fl rb, fl rc, fI hmo, .nil] (shC n first least tol fin ns ms outs dv)⟩ := by
  refine WA_forW (n := min outs.length 8) (fun c s => ∃ i, c + i = min outs.length 8 ∧ ((i = 0 ∧ s = ⟨mkS1 0, mkH t box y E [fI F, fI B, fl ra, fl rb, fl rc, fI hmo, .nil] (shC n first least tol fin ns ms outs dv)⟩) ∨ (0 < i ∧ s = ⟨mkS1 i, (40, [rowIV (outsA outs E i)]) :: mkH t box y E [fI F, fI B, fl ra, fl rb, fl rc, fI hmo, .sl 40 0 0 i 1 i] (shC n first least tol fin ns ms outs dv)⟩))) (Le.refl _) ⟨0, by omega, .inl ⟨rfl, rfl⟩⟩ ?_
  have wE : IntKind.i64.wrap (E + 1) = E + 1 := wrapI (by omega) (by omega)
  rintro c s ⟨i, hc, ⟨rfl, rfl⟩ | ⟨hi, rfl⟩⟩
  · refine evx @A_l10_Shape_Make_L1.eq_1 ?_
    by_cases h0 : 0 < outs.length
    · have h0' : decide ((0 : Int) < (outs.length : Int)) = true := decide_eq_true (by omega)
      refine evx (And.intro h0' wE) ?_
      refine ⟨by omega, ?_⟩
      refine callSG_con (l10_within_con (outs.getD 0 0) (E + 1) (by omega) (by omega)) rfl ?_
      refine ev ?_
      rw [show IntKind.i64.wrap 1 = ((0 + 1 : Nat) : Int) from by decide]
      exact ⟨c - 1, _, by omega, LeT.only (L' := (40, [rowIV (outsA outs E (0 + 1))]) :: mkH t box y E [fI F, fI B, fl ra, fl rb, fl rc, fI hmo, .sl 40 0 0 (0 + 1) 1 (0 + 1)] (shC n first least tol fin ns ms outs dv)) (fun X => X != 39) (fun _ h => h) rfl (by simp (maxDischargeDepth := 6) [kpS, fam_cons, fam_nil, KpA_ivC]) (by simp (maxDischargeDepth := 6) [kpS, fam_cons, fam_nil, KpA_ivC]), 0 + 1, by omega, .inr ⟨by omega, rfl⟩⟩
    · have h0' : decide ((0 : Int) < (outs.length : Int)) = false := decide_eq_false (by omega)
      refine evx h0' ?_
      exact hQ0 (by omega) _
  · have hol := outsA_len outs E i
    refine evx @A_l10_Shape_Make_L1.eq_1 ?_
    by_cases h1 : i < outs.length
    · have h1' : decide (i < outs.length) = true := decide_eq_true h1
      by_cases h2 : i < 8
      · have h2' : decide ((i : Int) < 8) = true := by simp; omega
        refine evx (And.intro h1' (And.intro h2' wE)) ?_
        (repeat (with_reducible refine And.intro (by omega) ?_))
        refine callSG_con (l10_within_con (outs.getD i 0) (E + 1) (by omega) (by omega)) rfl ?_
        refine ev ?_
        have e1 := outsA_succ outs E i
        unfold outE at e1
        have e2 : (outsA outs E i).length = i ∧ (i + 1) * 8 ≤ 140737488355328 := ⟨hol, by omega⟩
        refine ⟨e2, ?_⟩
        rw [wrapI (by omega) (by omega), e1]
        exact ⟨c - 1, _, by omega, LeT.only (fun X => decide (X ≤ 40)) (fun _ h => h) rfl (by simp (maxDischargeDepth := 6) [kpS, fam_cons, fam_nil, KpA_ivC]) (by simp (maxDischargeDepth := 6) [kpS, fam_cons, fam_nil, KpA_ivC]), i + 1, by omega, .inr ⟨by omega, rfl⟩⟩
      · have h2' : decide ((i : Int) < 8) = false := by simp; omega
        have e : i = min outs.length 8 := by omega
        refine evx (And.intro h1' h2') ?_
        rw [e]
        exact hQ (by omega) _
    · have h1' : decide (i < outs.length) = false := decide_eq_false h1
      have e : i = min outs.length 8 := by omega
      refine evx h1' ?_
      rw [e]
      exact hQ (by omega) _
theorem rowIV_getD {A : List Int} {i : Nat} (h : i < A.length) : (rowIV A).getD i .any = fI (A.getD i 0) := by
  simp [rowIV, List.getD_eq_getElem?_getD, List.getElem?_eq_getElem h]
def maxL (A : List Int) : Nat → List Int
  | 0 => A
  | i + 1 => (maxL A i).set (i + 1) (if (maxL A i).getD (i + 1) 0 < (maxL A i).getD i 0 then (maxL A i).getD i 0 else (maxL A i).getD (i + 1) 0)
theorem maxL_len (A : List Int) (i : Nat) : (maxL A i).length = A.length := by
  induction i with
  | zero => rfl
  | succ i ih => simp [maxL, ih]
abbrev mkS2 (i : Nat) : Sl := [(2, .ptr 1 0 0 13), (3, .ptr 10 0 0 13), (6, fI i)]
set_option maxRecDepth 8000 in
theorem make10_L2 (A : List Int) (m : Nat) (hA : A.length = m) (hm : 0 < m ∧ m ≤ 8) (t : Tp) (box : List (Nat × Nat)) (y : List Nat) (E : Int) (F B : Int) (ra rb rc : Nat) (hmo : Int) (sh : List V) (hsh : ∀ L, KpA L sh) (Q : Ex → T → Prop)
    (hQ : ∀ w, Q (.exit 4) ⟨mkS2 m ++ [w], (40, [rowIV (maxL A (m - 1))]) :: mkH t box y E [fI F, fI B, fl ra, fl rb, fl rc, fI hmo, .sl 40 0 0 m 1 m] sh⟩) :
    WA Tryz.prog (fun _ => False) 141 (.loop A_l10_Shape_Make_L2) Q ⟨mkS2 1, (40, [rowIV A]) :: mkH t box y E [fI F, fI B, fl ra, fl rb, fl rc, fI hmo, .sl 40 0 0 m 1 m] sh⟩ := by
  refine WA_forW (n := m - 1) (fun c s => ∃ i, c + i = m - 1 ∧ s = ⟨mkS2 (i + 1), (40, [rowIV (maxL A i)]) :: mkH t box y E [fI F, fI B, fl ra, fl rb, fl rc, fI hmo, .sl 40 0 0 m 1 m] sh⟩) (Le.refl _) ⟨0, by omega, rfl⟩ ?_
  rintro c s ⟨i, hc, rfl⟩
  have hl := maxL_len A i
  rw [hA] at hl
  refine evx @A_l10_Shape_Make_L2.eq_1 ?_
  refine condC_intro (fun h => ?_) (fun h => ?_)
  · replace h := of_decide_eq_true h
    have wi : IntKind.i64.wrap (((i + 1 : Nat) : Int) - 1) = (i : Int) := by rw [wrapI (by omega) (by omega)]; omega
    have g1 : (rowIV (maxL A i)).getD (i + 1) .any = fI ((maxL A i).getD (i + 1) 0) := rowIV_getD (by omega)
    have g2 : (rowIV (maxL A i)).getD i .any = fI ((maxL A i).getD i 0) := rowIV_getD (by omega)
    refine evx (And.intro wi (And.intro g1 g2)) ?_
    refine ⟨h, ⟨hl, by omega⟩, by omega, ⟨hl, by omega⟩, h, ⟨hl, by omega⟩, ?_⟩
    rw [wrapI (by omega) (by omega)]
    exact ⟨c - 1, _, by omega, Le.refl _, i + 1, by omega, rfl⟩
  · replace h := of_decide_eq_false h
    have e : i = m - 1 := by omega
    refine ev ?_
    rw [show i + 1 = m by omega, show i = m - 1 by omega]
    exact hQ _
theorem Fz_iv {L L' : Heap} {X n : Nat} {ps : List (Nat × Nat)} (h : L.get X 0 = some (ivC ps)) (hn : ps.length = n) (h2 : L'.get X 0 = none) : LeV L L' (fun X r => (X, r)) (.sl X 0 0 n 2 (n * 2)) (.d (ivD ps)) :=
  .d (snap_iv (fun Z q hZ e => by cases e; exact hZ h2) h hn rfl)
theorem Fz_ints {L L' : Heap} {X n : Nat} {xs : List Int} (h : L.get X 0 = some (rowIV xs)) (hn : xs.length = n) (h2 : L'.get X 0 = none) : LeV L L' (fun X r => (X, r)) (.sl X 0 0 n 1 n) (.d (rowI xs)) :=
  .d (snap_rowI (fun Z q hZ e => by cases e; exact hZ h2) h hn rfl)
def mkE (fin : Int) (F : Nat) : Int := if fin % 4 = 0 then 4 * (F : Int) else 1 + fin % 536870912
def mkA (first : Int) : Nat := (16 + first % 13).toNat
def mkB (least : Int) : Nat := (least % 10).toNat
def mkAt (tol : Int) : Nat := fop .div 4607182418800017408 (FloatKind.nearest .f64 ((2 ^ (tol % 24).toNat : Nat) : Int))
def mkRt (tol : Int) : Nat := fop .div (FloatKind.nearest .f64 (IntKind.i64.wrap (tol.tdiv 24) % 3)) 4652218415073722368
def mkO (outs : List Int) (E : Int) : List Int := maxL (outsA outs E (min outs.length 8)) (min outs.length 8 - 1)
def mkPb (n first least tol fin : Int) (ns ms outs : List Int) (dv : Bool) : Pb :=
  ⟨mkT n ns dv, boxL (valsL (mkT n ns dv).n ms) (mkT n ns dv).n, valsL (mkT n ns dv).n ms, mkE fin (2 ^ mkA first), ((2 ^ mkA first : Nat) : Int), ((2 ^ (mkA first - mkB least) : Nat) : Int),
    mkAt tol, mkRt tol, 4616189618054758400, 24, mkO outs (mkE fin (2 ^ mkA first))⟩
theorem mkO_nil (outs : List Int) (E : Int) (h : outs.length = 0) : mkO outs E = [] := by
  unfold mkO; rw [h]; rfl
theorem mkO_len (outs : List Int) (E : Int) : (mkO outs E).length = min outs.length 8 := by
  unfold mkO; rw [maxL_len, outsA_len]
set_option maxRecDepth 8000 in
theorem l10_Make_con (n first least tol fin : Int) (ns ms outs : List Int) (dv : Bool) (h1 : ns.length ≤ 60) (h2 : ms.length ≤ 60) (h3 : outs.length ≤ 60) : Con Tryz.prog 13 [.agg (shC n first least tol fin ns ms outs dv)] (pbV (mkPb n first least tol fin ns ms outs dv)) := by
  unfold mkPb
  refine Con_introA A_l10_Shape_Make_comp rfl mixed ?_
  refine evx @A_l10_Shape_Make.eq_1 ?_
  refine callG_con (l3_Make_con n ns dv (by omega)) rfl ?_
  have hT := mkT_n n ns dv
  generalize mkT n ns dv = t at hT
  refine ev ?_
  refine callG_con (l3_Values_con t.n ms (by omega) (by omega)) rfl ?_
  have hy : (valsL t.n ms).length = t.n := tabR_len _ _
  generalize valsL t.n ms = y at hy
  refine ev ?_
  refine make10_L0 _ t y hy (by omega) (fun L => ?_) _ fun w => ?_
  · simp only [KpA_cons]; exact ⟨Kp_d _, Kp_d _, Kp_d _, Kp_d _, Kp_d _, Kp_d _, Kp_d _, Kp_d _, Kp_d _, KpA_nil⟩
  have hbl : (boxL y t.n).length = t.n := boxL_len _ _
  generalize boxL y t.n = box at hbl
  refine ev ?_
  refine callG_con (l10_within_con first 13 (by decide) (by decide)) rfl ?_
  have f1 := Int.emod_nonneg first (by decide : (13 : Int) ≠ 0)
  have f2 := Int.emod_lt_of_pos first (by decide : (0 : Int) < 13)
  obtain ⟨a, ha⟩ : ∃ a : Nat, 16 + first % 13 = a := ⟨(16 + first % 13).toNat, by omega⟩
  have haA : mkA first = a := by unfold mkA; rw [ha]; rfl
  rw [haA]
  have wa : IntKind.i64.wrap (16 + first % 13) = (a : Int) := by rw [ha]; exact wrapI (by omega) (by omega)
  have wu : 0 ≤ IntKind.u64.wrap (a : Int) := by rw [wrapU (by omega) (by omega)]; omega
  simp -implicitDefEqProofs only [evI, hv, effC, reduceCtorEq, ↓reduceIte, n1_, n2_, n3_, n4_, n5_, i1_, i2_, i3_, i4_, i5_, i6_, i7_, wa, shl_pow' a (by omega)]
  refine ⟨wu, ?_⟩
  refine callSG_con (l10_within_con least 10 (by decide) (by decide)) rfl ?_
  have g1 := Int.emod_nonneg least (by decide : (10 : Int) ≠ 0)
  have g2 := Int.emod_lt_of_pos least (by decide : (0 : Int) < 10)
  obtain ⟨b, hb⟩ : ∃ b : Nat, least % 10 = b := ⟨(least % 10).toNat, by omega⟩
  have hbB : mkB least = b := by unfold mkB; rw [hb]; rfl
  rw [hb, hbB]
  have wu2 : 0 ≤ IntKind.u64.wrap (b : Int) := by rw [wrapU (by omega) (by omega)]; omega
  simp -implicitDefEqProofs only [evI, hv, effC, reduceCtorEq, ↓reduceIte, n1_, n2_, n3_, n4_, n5_, i1_, i2_, i3_, i4_, i5_, i6_, i7_, shr_pow a b (by omega) (by omega)]
  refine ⟨wu2, ?_⟩
  refine callG_con (l10_within_con fin 536870912 (by decide) (by decide)) rfl ?_
  have e1 := Int.emod_nonneg fin (by decide : (536870912 : Int) ≠ 0)
  have e2 := Int.emod_lt_of_pos fin (by decide : (0 : Int) < 536870912)
  have we : IntKind.i64.wrap (1 + fin % 536870912) = 1 + fin % 536870912 := wrapI (by omega) (by omega)
  refine evx we ?_
  refine callG_con (l10_within_con fin 4 (by decide) (by decide)) rfl ?_
  obtain ⟨F, hF⟩ : ∃ F : Nat, 2 ^ a = F := ⟨_, rfl⟩
  rw [hF]
  have w4 : IntKind.i64.wrap (4 * (F : Int)) = 4 * (F : Int) := by
    have : 2 ^ a ≤ 2 ^ 28 := Nat.pow_le_pow_right (by decide) (by omega)
    exact wrapI (by omega) (by omega)
  obtain ⟨E, hE⟩ : ∃ E : Int, E = mkE fin F := ⟨_, rfl⟩
  have hFb : 0 < F ∧ F ≤ 2 ^ 28 := by rw [← hF]; exact ⟨Nat.pow_pos (by decide), Nat.pow_le_pow_right (by decide) (by omega)⟩
  have hEb : 0 ≤ E ∧ E < 2 ^ 40 := by rw [hE]; unfold mkE; split <;> omega
  rw [← hE]
  unfold mkE at hE
  by_cases c1 : fin % 4 = 0
  case' pos =>
    have c1' : (fin % 4 == 0) = true := by simpa using c1
    refine evx (And.intro c1' w4) ?_
    rw [if_pos c1] at hE
    rw [← hE]
  case' neg =>
    have c1' : (fin % 4 == 0) = false := by simpa using c1
    refine evx c1' ?_
    rw [if_neg c1] at hE
    rw [← hE]
  all_goals
    refine callG_con (l10_within_con tol 24 (by decide) (by decide)) rfl ?_
    have t1 := Int.emod_nonneg tol (by decide : (24 : Int) ≠ 0)
    have t2 := Int.emod_lt_of_pos tol (by decide : (0 : Int) < 24)
    obtain ⟨k, hk⟩ : ∃ k : Nat, tol % 24 = k := ⟨(tol % 24).toNat, by omega⟩
    have hkA : mkAt tol = fop .div 4607182418800017408 (FloatKind.nearest .f64 ((2 ^ k : Nat) : Int)) := by unfold mkAt; rw [hk]; rfl
    rw [hk, hkA]
    have wu3 : 0 ≤ IntKind.u64.wrap (k : Int) := by rw [wrapU (by omega) (by omega)]; omega
    simp -implicitDefEqProofs only [evI, hv, effC, reduceCtorEq, ↓reduceIte, n1_, n2_, n3_, n4_, n5_, i1_, i2_, i3_, i4_, i5_, i6_, i7_, shl_pow' k (by omega)]
    refine ⟨wu3, by decide, ?_⟩
    refine callG_con (l10_within_con (IntKind.i64.wrap (tol.tdiv 24)) 3 (by decide) (by decide)) rfl ?_
    refine ev ?_
    refine make10_L1 n first least tol fin ns ms outs dv t box y E hEb F ((2 ^ (a - b) : Nat) : Int) _ _ _ 24 h3 _ (fun h w => ?_) (fun h w => ?_)
    · refine ev ?_
      refine WA_for (n := 0) (fun c s => s = ⟨_, _⟩) rfl ?_
      rintro c s rfl
      refine evx @A_l10_Shape_Make_L2.eq_1 ?_
      rw [mkO_nil _ _ h]
      exact endsT_le (.agg [fI t.n, .d (opsD t.ops), .d (rowI t.out), .sl 27 0 0 t.n 2 (t.n * 2), .d (rowD y), fI E, fI F, fI ((2 ^ (a - b) : Nat) : Int), fl _, fl _, fl _, fI 24, .nil]) (fun _ h => h) (resV_cellI (by decide) rfl rfl rfl (by simp) rfl)
        (Fz_agg _ _ ⟨Fz_d _, Fz_d _, Fz_d _, Fz_iv rfl hbl (get_nil _ _), Fz_d _, Fz_d _, Fz_d _, Fz_d _, Fz_d _, Fz_d _, Fz_d _, Fz_d _, .d (.nil _), trivial⟩)
    · refine ev ?_
      refine make10_L2 _ _ (outsA_len _ _ _) (by omega) t box y E F ((2 ^ (a - b) : Nat) : Int) _ _ _ 24 _ ?_ _ fun w => ?_
      · intro L; simp only [KpA_cons]; exact ⟨Kp_d _, Kp_d _, Kp_d _, Kp_d _, Kp_d _, Kp_d _, Kp_d _, Kp_d _, Kp_d _, KpA_nil⟩
      refine ev ?_
      exact endsT_le (.agg [fI t.n, .d (opsD t.ops), .d (rowI t.out), .sl 27 0 0 t.n 2 (t.n * 2), .d (rowD y), fI E, fI F, fI ((2 ^ (a - b) : Nat) : Int), fl _, fl _, fl _, fI 24, .sl 40 0 0 (min outs.length 8) 1 (min outs.length 8)]) (fun _ h => h) (resV_cellI (by decide) rfl rfl rfl (by simp) rfl)
        (Fz_agg _ _ ⟨Fz_d _, Fz_d _, Fz_d _, Fz_iv rfl hbl (get_nil _ _), Fz_d _, Fz_d _, Fz_d _, Fz_d _, Fz_d _, Fz_d _, Fz_d _, Fz_d _, Fz_ints rfl (mkO_len _ _) (get_nil _ _), trivial⟩)
end Go.Ab
namespace Go.Ab
set_option linter.unusedSimpArgs false
set_option linter.unusedVariables false
open Go Go.Proofs
theorem scale_row0 {Z : List (List Nat)} {m n : Nat} (h : Rk m n Z) (hm : 0 < m) (hc : Cw Z) (k : Int) : (scaleP Z k m n).getD 0 [] = Z.getD 0 [] := by
  have hs := scaleP_rk h k m n
  have l1 := hs.2 0 hm
  have l2 := h.2 0 hm
  refine List.ext_getElem (by omega) fun i h1 h2 => ?_
  have e := mapJ_at (fun j _ x => scl x (j * k)) h m (Nat.le_refl _) 0 i
  rw [if_pos ⟨hm, by omega⟩] at e
  have e2 : at2 (scaleP Z k m n) 0 i = at2 Z 0 i := by
    show at2 (mapJ _ Z n m) 0 i = _
    rw [e]
    show scl _ ((0 : Nat) * k) = _
    rw [show (((0 : Nat) : Int) * k) = 0 by simp]
    exact scl_zero (hc 0 i)
  unfold at2 at e2
  rw [List.getD_eq_getElem?_getD (i := i), List.getD_eq_getElem?_getD (i := i), List.getElem?_eq_getElem h1, List.getElem?_eq_getElem h2] at e2
  exact e2
theorem nextR_len (l d : List Nat) (q : Nat) : (nextR l d q).length = d.length := tabR_len _ _
theorem Rk_app {Z : List (List Nat)} {m n : Nat} (h : Rk m n Z) (x : List Nat) (hx : x.length = n) : Rk (m + 1) n (Z ++ [x]) := by
  refine ⟨by simp [h.1], fun i hi => ?_⟩
  by_cases hi2 : i < m
  · rw [List.getD_eq_getElem?_getD, List.getElem?_append_left (by rw [h.1]; exact hi2), ← List.getD_eq_getElem?_getD]
    exact h.2 i hi2
  · obtain rfl : i = m := by omega
    rw [List.getD_eq_getElem?_getD, List.getElem?_append_right (by rw [h.1]; exact Nat.le_refl _), h.1, Nat.sub_self]
    exact hx
theorem Cw_app {Z : List (List Nat)} (h : Cw Z) (x : List Nat) (hx : ∀ i, cw (x.getD i 0)) : Cw (Z ++ [x]) := fun r i => by
  unfold at2
  by_cases hr : r < Z.length
  · rw [List.getD_eq_getElem?_getD (l := Z ++ [x]), List.getElem?_append_left hr, ← List.getD_eq_getElem?_getD]
    exact h r i
  · rw [List.getD_eq_getElem?_getD (l := Z ++ [x]), List.getElem?_append_right (by omega)]
    by_cases hr2 : r - Z.length = 0
    · rw [hr2]; exact hx i
    · rw [show ([x] : List (List Nat))[r - Z.length]? = none from List.getElem?_eq_none (by simp; omega)]
      exact cw_zero
theorem tabR_cw (f : Nat → Nat) (n : Nat) (h : ∀ i, cw (f i)) (i : Nat) : cw ((tabR f n).getD i 0) := by
  by_cases hi : i < n
  · rw [tabR_getD _ _ _ hi]; exact h i
  · rw [List.getD_eq_getElem?_getD, List.getElem?_eq_none (by rw [tabR_len]; omega)]
    exact cw_zero
theorem startZ_rk (t : Tp) (y : List Nat) (h : Nat) (hy : y.length = t.n) : Rk 2 t.n (startZ t y h) := by
  refine ⟨rfl, fun i hi => ?_⟩
  rcases i with _ | _ | i
  · exact hy
  · exact tabR_len _ _
  · omega
theorem startZ_cw (t : Tp) (y : List Nat) (h : Nat) (hy : ∀ i, cw (y.getD i 0)) : Cw (startZ t y h) := fun r i => by
  rcases r with _ | _ | r
  · exact hy i
  · exact tabR_cw _ _ (fun i => fop_cw _ _ _) i
  · exact cw_zero
structure Pk (p : Pb) : Prop where
  ok : Pok p
  fst : ∃ a, a ≤ 28 ∧ p.first = (2 ^ a : Nat)
  lst : ∃ b, b ≤ 28 ∧ p.least = (2 ^ b : Nat)
  le : p.least ≤ p.first
  fin : 0 ≤ p.fin ∧ p.fin ≤ 2147483648
  yl : p.y.length = p.t.n
  yc : ∀ i, cw (p.y.getD i 0)
structure Inv (p : Pb) (k : Nat) (s : Sta) : Prop where
  ok : s.ok p.t
  pos : s.n.pos ≤ k * 4294967296
  good : s.good ≤ k
  fails : s.fails ≤ 2
  slow : s.slow ≤ 1
  lo : p.least ≤ s.n.step
  hi : s.n.step ≤ 2 * p.fin ∨ s.n.step ≤ 2 * p.first
def beginS (p : Pb) : Sta := ⟨⟨0, p.first, 1, 0, startZ p.t p.y (hW p.first.toNat)⟩, 0, 0, 0⟩
theorem begin_inv {p : Pb} (h : Pk p) : Inv p 0 (beginS p) := by
  obtain ⟨a, ha, hfa⟩ := h.fst
  have hl := h.ok.least
  have hle := h.le
  refine ⟨⟨⟨.inl ⟨rfl, Int.le_refl _, by show (1 : Int) ≤ 5; decide⟩, ⟨a, by omega, hfa⟩, startZ_rk _ _ _ h.yl, startZ_cw _ _ _ h.yc, ⟨Int.le_refl _, by show (0 : Int) < _; decide⟩⟩, ⟨Int.le_refl _, by show (0 : Int) < _; decide⟩, ⟨Int.le_refl _, by show (0 : Int) < _; decide⟩, ⟨Int.le_refl _, by show (0 : Int) < _; decide⟩⟩, by show (0 : Int) ≤ _; decide, by show (0 : Int) ≤ _; decide, by show (0 : Int) ≤ _; decide, by show (0 : Int) ≤ _; decide, hle, .inr ?_⟩
  show p.first ≤ 2 * p.first
  omega
theorem pow_step {a b : Nat} (h : 2 ^ a < 2 ^ b) : a + 1 ≤ b := by
  rcases Nat.lt_or_ge a b with h1 | h1
  · exact h1
  · exact absurd (Nat.pow_le_pow_right (by decide : 0 < 2) h1) (by omega)
theorem fresh_ok {p : Pb} {n : Nd} (hp : Pk p) (hm : n.method = 0 ∨ n.method = 1) (hst : ∃ j : Nat, j < 60 ∧ n.step = (2 ^ j : Nat)) (hr : (n.z.getD 0 []).length = p.t.n) (hc : ∀ i, cw ((n.z.getD 0 []).getD i 0)) (hpos : 0 ≤ n.pos ∧ n.pos < 2305843009213693952) : Nok p.t (freshP p n) := by
  refine ⟨?_, hst, startZ_rk _ _ _ hr, startZ_cw _ _ _ hc, hpos⟩
  show (n.method = 0 ∧ (1 : Int) ≤ 1 ∧ (1 : Int) ≤ 5) ∨ (n.method = 1 ∧ (1 : Int) ≤ 1 ∧ (1 : Int) ≤ 4)
  omega
theorem take_inv {p : Pb} {k : Nat} {s : Sta} (hp : Pk p) (h : Inv p k s) (hk : k < 100000) (z : List (List Nat)) (l d : List Nat) (err : Nat) (hz : Rk (s.n.order.toNat + 1) p.t.n z) (hzc : Cw z) (hd : d.length = p.t.n) : Inv p (k + 1) (takeP p s z l d err).s := by
  obtain ⟨⟨⟨hm, ⟨j, hj, hst⟩, hr, hc, hpos⟩, hg, hf, hsl⟩, hps, hgd, hfl, hsw, hlo, hhi⟩ := h
  obtain ⟨a, ha, hfa⟩ := hp.fst
  have hfin := hp.fin
  have pa : 2 ^ a ≤ 2 ^ 28 := Nat.pow_le_pow_right (by decide) ha
  have hl1 := hp.ok.least
  obtain ⟨⟨pos, st, o, m, z0⟩, g, f, sl⟩ := s
  simp only at *
  have hst2 : st ≤ 4294967296 := by omega
  have hr' := corrP_rk hz l d (o.toNat + 1) p.t.n
  have hc' := corrP_cw hzc l d (o.toNat + 1) p.t.n
  have hpos' : 0 ≤ pos + st ∧ pos + st < 2305843009213693952 := by omega
  have hps' : pos + st ≤ ((k + 1 : Nat) : Int) * 4294967296 := by omega
  unfold takeP
  simp only
  split
  · exact ⟨⟨⟨hm, ⟨j, hj, hst⟩, hr', hc', hpos'⟩, by simp only; omega, by simp only; omega, by simp only; omega⟩, hps', by simp only; omega, by simp only; omega, by simp only; omega, hlo, hhi⟩
  · split
    · rename_i h2
      have hj2 : j + 1 < 60 := by
        have : 2 ^ j < 2 ^ 40 := by omega
        have := pow_step this
        omega
      refine ⟨⟨⟨hm, ⟨j + 1, hj2, ?_⟩, scaleP_rk hr' 1 _ _, scaleP_cw hc' 1 _ _, hpos'⟩, by simp only; omega, by simp only; omega, by simp only; omega⟩, hps', by simp only; omega, by simp only; omega, by simp only; omega, by simp only; omega, .inl (by simp only; omega)⟩
      show 2 * st = _
      rw [hst, Nat.pow_succ]; omega
    · split
      · rename_i h3
        have hmo : mostO m = if m = 0 then 5 else 4 := rfl
        have h4 := h3.2
        rw [hmo] at h4
        have ho1 : (o + 1).toNat + 1 = o.toNat + 1 + 1 := by omega
        refine ⟨⟨⟨?_, ⟨j, hj, hst⟩, ?_, Cw_app hc' _ (tabR_cw _ _ fun i => fop_cw _ _ _), hpos'⟩, by simp only; omega, by simp only; omega, by simp only; omega⟩, hps', by simp only; omega, by simp only; omega, by simp only; omega, hlo, hhi⟩
        · simp only
          split at h4 <;> omega
        · simp only
          rw [ho1]
          exact Rk_app hr' _ (by rw [nextR_len]; exact hd)
      · exact ⟨⟨⟨hm, ⟨j, hj, hst⟩, hr', hc', hpos'⟩, by simp only; omega, by simp only; omega, by simp only; omega⟩, hps', by simp only; omega, by simp only; omega, by simp only; omega, hlo, hhi⟩
theorem fail_inv {p : Pb} {k : Nat} {s : Sta} (hp : Pk p) (h : Inv p k s) (hk : k < 100000) (e : Int) (err : Nat) : Inv p (k + 1) (failP p s e err).s := by
  obtain ⟨⟨⟨hm, ⟨j, hj, hst⟩, hr, hc, hpos⟩, hg, hf, hsl⟩, hps, hgd, hfl, hsw, hlo, hhi⟩ := h
  obtain ⟨b, hb, hlb⟩ := hp.lst
  have hl1 := hp.ok.least
  obtain ⟨⟨pos, st, o, m, z0⟩, g, f, sl⟩ := s
  simp only at *
  have hps' : pos ≤ ((k + 1 : Nat) : Int) * 4294967296 := by omega
  unfold failP
  simp only
  split
  · exact ⟨⟨⟨hm, ⟨j, hj, hst⟩, hr, hc, hpos⟩, hg, hf, hsl⟩, hps', by simp only; omega, hfl, hsw, hlo, hhi⟩
  · rename_i h1
    have hbj : 2 ^ b < 2 ^ j := by omega
    have hbj2 := pow_step hbj
    obtain ⟨i, rfl⟩ : ∃ i, j = i + 1 := ⟨j - 1, by omega⟩
    have hst' : st / 2 = ((2 ^ i : Nat) : Int) := by rw [hst, Nat.pow_succ]; omega
    have hlo' : p.least ≤ st / 2 := by
      rw [hst', hlb]
      have : 2 ^ b ≤ 2 ^ i := Nat.pow_le_pow_right (by decide) (by omega)
      omega
    have hhi' : st / 2 ≤ 2 * p.fin ∨ st / 2 ≤ 2 * p.first := by
      have : 0 ≤ st := by omega
      omega
    have hr' := scaleP_rk hr (-1) (o.toNat + 1) p.t.n
    have hc' := scaleP_cw hc (-1) (o.toNat + 1) p.t.n
    have hsl' : 0 ≤ (if e = 6 ∧ m = 0 then sl + 1 else sl) ∧ (if e = 6 ∧ m = 0 then sl + 1 else sl) ≤ 2 := by split <;> omega
    generalize (if e = 6 ∧ m = 0 then sl + 1 else sl) = sl' at hsl'
    split
    · exact ⟨⟨fresh_ok hp (.inr rfl) ⟨i, by omega, hst'⟩ (hr'.2 0 (by omega)) (fun c => hc' 0 c) hpos, by simp only; omega, by simp only; omega, by simp only; omega⟩, hps', by simp only; omega, by simp only; omega, by simp only; omega, hlo', hhi'⟩
    · split
      · exact ⟨⟨⟨hm, ⟨i, by omega, hst'⟩, hr', hc', hpos⟩, by simp only; omega, by simp only; omega, by simp only; omega⟩, hps', by simp only; omega, by simp only; omega, by simp only; omega, hlo', hhi'⟩
      · exact ⟨⟨fresh_ok hp (by simp only; omega) ⟨i, by omega, hst'⟩ (hr'.2 0 (by omega)) (fun c => hc' 0 c) hpos, by simp only; omega, by simp only; omega, by simp only; omega⟩, hps', by simp only; omega, by simp only; omega, by simp only; omega, hlo', hhi'⟩
theorem tryP_cases {p : Pb} {k : Nat} {s : Sta} (hp : Pk p) (h : Inv p k s) :
    (∃ d kk err, solG p.t (predP s.n.z p.t.n s.n.order.toNat) (ofL s.n.method s.n.order.toNat) (hW s.n.step.toNat) (wtP (s.n.z.getD 0 []) p.atol p.rtol) s.n.method = (d, kk, 0) ∧ d.length = p.t.n ∧ fcmp .le err 4607182418800017408 = true ∧ tryP p s = takeP p s (predP s.n.z p.t.n s.n.order.toNat) (ofL s.n.method s.n.order.toNat) d err) ∨ ∃ e err, tryP p s = failP p s e err := by
  unfold tryP
  rcases solG_form p.t (predP s.n.z p.t.n s.n.order.toNat) (ofL s.n.method s.n.order.toNat) (hW s.n.step.toNat) (wtP (s.n.z.getD 0 []) p.atol p.rtol) s.n.method with ⟨g, kk, hg, he⟩ | ⟨kk, e, hne, he⟩
  · simp only [he, ne_eq, not_true_eq_false, if_false]
    split
    · rename_i h1
      exact .inl ⟨g, kk, _, rfl, hg, h1, rfl⟩
    · exact .inr ⟨_, _, rfl⟩
  · simp only [he, ne_eq, hne, not_false_eq_true, if_true]
    exact .inr ⟨_, _, rfl⟩
theorem tryP_inv {p : Pb} {k : Nat} {s : Sta} (hp : Pk p) (h : Inv p k s) (hk : k < 100000) : Inv p (k + 1) (tryP p s).s := by
  rcases tryP_cases hp h with ⟨d, kk, err, _, hd, _, e⟩ | ⟨e', err, e⟩
  · rw [e]
    exact take_inv hp h hk _ _ _ _ (predP_rk h.ok.n.rk _) (predP_cw h.ok.n.cw _ _) hd
  · rw [e]
    exact fail_inv hp h hk _ _
theorem mkPb_ok (n first least tol fin : Int) (ns ms outs : List Int) (dv : Bool) : Pk (mkPb n first least tol fin ns ms outs dv) := by
  have m1 := Int.emod_nonneg n (by decide : (3 : Int) ≠ 0)
  have f1 := Int.emod_nonneg first (by decide : (13 : Int) ≠ 0)
  have f2 := Int.emod_lt_of_pos first (by decide : (0 : Int) < 13)
  have g1 := Int.emod_nonneg least (by decide : (10 : Int) ≠ 0)
  have g2 := Int.emod_lt_of_pos least (by decide : (0 : Int) < 10)
  have e1 := Int.emod_nonneg fin (by decide : (536870912 : Int) ≠ 0)
  have e2 := Int.emod_lt_of_pos fin (by decide : (0 : Int) < 536870912)
  have ha : mkA first ≤ 28 := by unfold mkA; omega
  have hl : (2 : Nat) ^ (mkA first - mkB least) ≤ 2 ^ mkA first := Nat.pow_le_pow_right (by decide) (Nat.sub_le _ _)
  have hpos : 0 < (2 : Nat) ^ (mkA first - mkB least) := Nat.pow_pos (by decide)
  have hp28 : (2 : Nat) ^ mkA first ≤ 2 ^ 28 := Nat.pow_le_pow_right (by decide) ha
  refine ⟨⟨mkT_ok n ns dv, ?_, ?_⟩, ⟨mkA first, ha, rfl⟩, ⟨mkA first - mkB least, by omega, rfl⟩, ?_, ?_, tabR_len _ _, tabR_cw _ _ fun i => fop_cw _ _ _⟩
  · show 0 < (mkT n ns dv).n
    rw [mkT_n]; omega
  · show (1 : Int) ≤ ((2 ^ (mkA first - mkB least) : Nat) : Int)
    omega
  · show ((2 ^ (mkA first - mkB least) : Nat) : Int) ≤ ((2 ^ mkA first : Nat) : Int)
    omega
  · show 0 ≤ mkE fin (2 ^ mkA first) ∧ mkE fin (2 ^ mkA first) ≤ 2147483648
    generalize 2 ^ mkA first = F at hp28
    unfold mkE
    split <;> omega
def kp10 : Pb := ⟨⟨1, [⟨0, 0, 0, 0⟩], [0]⟩, [(13844628204490326016, 4621256167635550208)], [4607182418800017408], 1073741824, 1048576, 1, 4607182418800017408, 0, 4607182418800017408, 9, []⟩
def ks10 : Sta := ⟨⟨0, 1048576, 1, 0, [[4607182418800017408], [0]]⟩, 0, 0, 0⟩
theorem kp10_ok : Pok kp10 := ⟨⟨by decide, by decide, fun i hi => by
    have hi : i < 1 := hi
    obtain rfl : i = 0 := by omega
    exact .inl rfl, rfl, fun i hi => by
    have hi : i < 1 := hi
    obtain rfl : i = 0 := by omega
    decide⟩, by decide, by decide⟩
theorem cw_one : cw 4607182418800017408 := .inr (.inr (.inr ⟨false, 4607182418800017408, by decide, by decide⟩))
theorem ks10_ok : ks10.ok kp10.t := ⟨⟨.inl ⟨rfl, by decide, by decide⟩, ⟨20, by decide, rfl⟩, ⟨rfl, fun r hr => by
    have hr : r < 2 := hr
    rcases r with _ | _ | r
    · rfl
    · rfl
    · omega⟩, fun r i => by
    rcases r with _ | _ | r
    · rcases i with _ | i
      · exact cw_one
      · exact cw_zero
    · rcases i with _ | i
      · exact cw_zero
      · exact cw_zero
    · exact cw_zero, by decide⟩, by decide, by decide, by decide⟩
theorem snap_two' {L : Heap} {X A B : Nat} {a b : Nat} (h : L.get X 0 = some [.sl A 0 0 1 1 1, .sl B 0 0 1 1 1]) (hA : L.get A 0 = some (rowV [a])) (hB : L.get B 0 = some (rowV [b])) : Snap L (.sl X 0 0 2 1 2) (.d (rowsD [[a], [b]])) := by
  refine .sl h rfl (by simp) (fun i hi => rfl) fun i j hi hj => ?_
  obtain rfl : j = 0 := by omega
  have hi : i < 2 := hi
  rcases i with _ | _ | i
  · exact snp_row hA rfl rfl
  · exact snp_row hB rfl rfl
  · omega
theorem begin_con (p : Pb) (hp : Pk p) : Con Tryz.prog 14 [pbV p] (staV (beginS p)) := by
  obtain ⟨a, ha, hfa⟩ := hp.fst
  have h := l10_Begin_con p hp.ok a (by omega) hfa hp.yl
  have e : hW p.first.toNat = hW (2 ^ a) := by rw [hfa, Int.toNat_natCast]
  unfold beginS
  rw [e]
  exact h
structure SpecT (p : Pb) (x : Sta) (r : Trd) : Prop where
  err : fcmp .le r.err 4607182418800017408 = true
  e : r.e = 0
  npos : r.n.pos = x.n.pos + x.n.step
  nord : r.n.order = x.n.order
  nmet : r.n.method = x.n.method
  nstep : r.n.step = x.n.step
  pos : r.s.n.pos = x.n.pos + x.n.step
  fails : r.s.fails = 0
  step : (r.s.n.step = x.n.step ∧ (r.s.n.order = x.n.order ∨ r.s.n.order = x.n.order + 1)) ∨ (r.s.n.step = 2 * x.n.step ∧ r.s.n.order = x.n.order)
  met : r.s.n.method = x.n.method
  len : r.n.z.length = x.n.order.toNat + 1
  row : r.s.n.z.getD 0 [] = r.n.z.getD 0 []
  sol : ∃ d k, d.length = p.t.n ∧ solG p.t (predP x.n.z p.t.n x.n.order.toNat) (ofL x.n.method x.n.order.toNat) (hW x.n.step.toNat) (wtP (x.n.z.getD 0 []) p.atol p.rtol) x.n.method = (d, k, 0) ∧ r.n.z = corrP (predP x.n.z p.t.n x.n.order.toNat) (ofL x.n.method x.n.order.toNat) d (x.n.order.toNat + 1) p.t.n
structure SpecF (p : Pb) (x : Sta) (r : Trd) : Prop where
  nz : r.n.z = []
  pos : r.s.n.pos = x.n.pos
  half : r.e = 0 → 2 * r.s.n.step = x.n.step
  stay : r.e ≠ 0 → r.s = x ∧ x.n.step ≤ p.least ∧ (r.e = 5 ∨ r.e = 4 ∨ r.e = 2)
  anew : r.e = 0 → r.s.fails = 0 → r.s.n.order = 1
  ord : r.s.n.order = x.n.order ∨ r.s.n.order = 1
  met : x.n.method ≤ r.s.n.method
  row : r.s.n.z.getD 0 [] = x.n.z.getD 0 []
theorem take_row {Z : List (List Nat)} {m n : Nat} (h : Rk m n Z) (hm : 0 < m) (x : List Nat) : (Z ++ [x]).getD 0 [] = Z.getD 0 [] := by
  rw [List.getD_eq_getElem?_getD, List.getElem?_append_left (by rw [h.1]; exact hm), ← List.getD_eq_getElem?_getD]
theorem try_spec {p : Pb} {k : Nat} {x : Sta} (hp : Pk p) (h : Inv p k x) : ((tryP p x).taken = true ∧ SpecT p x (tryP p x)) ∨ ((tryP p x).taken = false ∧ SpecF p x (tryP p x)) := by
  rcases tryP_cases hp h with ⟨d, kk, err, hsg, hd, hle, e⟩ | ⟨e', err, e⟩
  · left
    rw [e]
    have hz := corrP_rk (predP_rk h.ok.n.rk x.n.order.toNat) (ofL x.n.method x.n.order.toNat) d (x.n.order.toNat + 1) p.t.n
    have hc := corrP_cw (predP_cw h.ok.n.cw p.t.n x.n.order.toNat) (ofL x.n.method x.n.order.toNat) d (x.n.order.toNat + 1) p.t.n
    unfold takeP
    simp only
    split
    · exact ⟨trivial, hle, rfl, rfl, rfl, rfl, rfl, rfl, rfl, .inl ⟨rfl, .inl rfl⟩, rfl, hz.1, rfl, d, kk, hd, hsg, rfl⟩
    · split
      · exact ⟨trivial, hle, rfl, rfl, rfl, rfl, rfl, rfl, rfl, .inr ⟨rfl, rfl⟩, rfl, hz.1, scale_row0 hz (by omega) hc _, d, kk, hd, hsg, rfl⟩
      · split
        · exact ⟨trivial, hle, rfl, rfl, rfl, rfl, rfl, rfl, rfl, .inl ⟨rfl, .inr rfl⟩, rfl, hz.1, take_row hz (by omega) _, d, kk, hd, hsg, rfl⟩
        · exact ⟨trivial, hle, rfl, rfl, rfl, rfl, rfl, rfl, rfl, .inl ⟨rfl, .inl rfl⟩, rfl, hz.1, rfl, d, kk, hd, hsg, rfl⟩
  · right
    rw [e]
    obtain ⟨⟨hm, ⟨j, hj, hst⟩, hr, hc, hpos⟩, hg, hf, hsl⟩ := h.ok
    obtain ⟨b, hb, hlb⟩ := hp.lst
    have hl1 := hp.ok.least
    unfold failP
    simp only
    split
    · rename_i h1
      refine ⟨rfl, rfl, rfl, fun h2 => ?_, fun _ => ⟨rfl, h1, ?_⟩, fun h2 => ?_, .inl rfl, Int.le_refl _, rfl⟩
      · replace h2 : (if e' = 4 ∨ e' = 2 then e' else 5) = 0 := h2
        split at h2 <;> omega
      · show (if e' = 4 ∨ e' = 2 then e' else 5) = 5 ∨ (if e' = 4 ∨ e' = 2 then e' else 5) = 4 ∨ (if e' = 4 ∨ e' = 2 then e' else 5) = 2
        split <;> omega
      · replace h2 : (if e' = 4 ∨ e' = 2 then e' else 5) = 0 := h2
        split at h2 <;> omega
    · rename_i h1
      have hhalf : 2 * (x.n.step / 2) = x.n.step := by
        obtain ⟨i, rfl⟩ : ∃ i, j = i + 1 := ⟨j - 1, by
          rcases j with _ | j
          · simp at hst; omega
          · omega⟩
        rw [hst, Nat.pow_succ]; omega
      have hrow := scale_row0 hr (by omega) hc (-1)
      generalize (if e' = 6 ∧ x.n.method = 0 then x.slow + 1 else x.slow) = sl'
      split
      · refine ⟨rfl, rfl, rfl, fun _ => hhalf, fun h2 => absurd rfl h2, fun _ _ => rfl, .inr rfl, ?_, hrow⟩
        show x.n.method ≤ 1
        omega
      · split
        · refine ⟨rfl, rfl, rfl, fun _ => hhalf, fun h2 => absurd rfl h2, fun _ h2 => ?_, .inl rfl, Int.le_refl _, hrow⟩
          have h2 : x.fails + 1 = 0 := h2
          omega
        · exact ⟨rfl, rfl, rfl, fun _ => hhalf, fun h2 => absurd rfl h2, fun _ _ => rfl, .inr rfl, Int.le_refl _, hrow⟩
def A_l11_known : CA := (.seq (.reg [i_X 0 0 (.h (.mov (.k (.d (.bool false)))))] []) (.seq (.reg [i_X 0 5 (.h (.build [(.d (.int .i64 0)), (.d (.int .i64 0)), (.d (.int .i64 0)), (.d (.flt 0))] [])), i_X 1 6 (.bslice [(.d (.int .i64 0)), (.d (.int .i64 0)), (.d (.int .i64 0)), (.d (.flt 0))] 1 4 [(0, (4, (.t 5)))] 62), i_X 2 7 (.bslice [(.d (.int .i64 0))] 1 1 [(0, (1, (kI 0)))] 3), i_X 3 8 (.h (.build [(.d (.int .i64 0)), .nil, .nil] [(0, (1, (kI 1))), (1, (1, (.t 6))), (2, (1, (.t 7)))])), i_X 4 1 (.alloc [(.d (.int .i64 0)), .nil, .nil] 28), i_S 5 1 8 3] [1]) (.seq (.reg [i_A 0 9 1 3, i_X 1 10 (.h (.build [(.d (.flt 0)), (.d (.flt 0))] [(0, (1, (.k (.d (.flt 13844628204490326016))))), (1, (1, (.k (.d (.flt 4621256167635550208)))))])), i_X 2 11 (.bslice [(.d (.flt 0)), (.d (.flt 0))] 1 2 [(0, (2, (.t 10)))] 58), i_X 3 12 (.bslice [(.d (.flt 0))] 1 1 [(0, (1, (.k (.d (.flt 4607182418800017408)))))] 31), i_X 4 13 (.h (.build [(.d (.int .i64 0)), .nil, .nil, .nil, .nil, (.d (.int .i64 0)), (.d (.int .i64 0)), (.d (.int .i64 0)), (.d (.flt 0)), (.d (.flt 0)), (.d (.flt 0)), (.d (.int .i64 0)), .nil] [(0, (3, (.t 9))), (3, (1, (.t 11))), (4, (1, (.t 12))), (5, (1, (kI 1073741824))), (6, (1, (kI 1048576))), (7, (1, (kI 1))), (8, (1, (.k (.d (.flt 4607182418800017408))))), (10, (1, (.k (.d (.flt 4607182418800017408))))), (11, (1, (kI 9)))])), i_X 5 2 (.alloc [(.d (.int .i64 0)), .nil, .nil, .nil, .nil, (.d (.int .i64 0)), (.d (.int .i64 0)), (.d (.int .i64 0)), (.d (.flt 0)), (.d (.flt 0)), (.d (.flt 0)), (.d (.int .i64 0)), .nil] 33), i_S 6 2 13 13] [2]) (.seq (.reg [i_A 0 15 2 13, i_X 1 16 (.bslice [(.d (.flt 0))] 1 1 [(0, (1, (.k (.d (.flt 4607182418800017408)))))] 31), i_X 2 17 (.bslice [(.d (.flt 0))] 1 1 [(0, (1, (.k (.d (.flt 0)))))] 31), i_X 3 18 (.bslice [.nil, .nil] 2 1 [(0, (1, (.t 16))), (1, (1, (.t 17)))] 30), i_X 4 19 (.h (.build [(.d (.int .i64 0)), (.d (.int .i64 0)), (.d (.int .i64 0)), (.d (.int .i64 0)), .nil] [(0, (1, (kI 1048576))), (1, (1, (kI 1048576))), (2, (1, (kI 1))), (4, (1, (.t 18)))])), i_X 5 20 (.bslice [(.d (.flt 0))] 1 1 [(0, (1, (.k (.d (.flt 4607182418800017408)))))] 31), i_X 6 21 (.callA (kF 17) [(.t 15), (.t 19), (.t 20), (.k (.d (.flt 0)))]), i_M 7 14 21, i_X 8 22 (.h (.ext (.t 14) 0)), i_X 9 23 (.h (.ext (.t 14) 1)), i_X 10 3 (.alloc z_5 46), i_S 11 3 22 5, i_M 12 4 23] [3, 4]) (.seq (.reg [i_M 0 24 4, i_B 1 25 .eql 24 0, i_M 2 26 25, ⟨3, (some 27), (some (26, true)), [], [], (.h (.padd (.t 3) 4))⟩, ⟨4, (some 28), (some (26, true)), [], [], (.load (.t 27) 1 false)⟩, ⟨5, (some 29), (some (26, true)), [], [], (.h (.fcmp .ge (.t 28) (.k (.d (.flt 0)))))⟩, i_X 6 30 (.h (.pick (.t 26) (.t 29) (.k (.d (.bool false))))), i_M 7 31 30, ⟨8, (some 32), (some (31, true)), [], [], (.h (.padd (.t 3) 4))⟩, ⟨9, (some 33), (some (31, true)), [], [], (.load (.t 32) 1 false)⟩, ⟨10, (some 34), (some (31, true)), [], [], (.h (.fcmp .lt (.t 33) (.k (.d (.flt 4472406533629990549)))))⟩, i_X 11 35 (.h (.pick (.t 31) (.t 34) (.k (.d (.bool false))))), i_M 12 36 35, ⟨13, (some 37), (some (36, true)), [], [], (.h (.padd (.t 3) 3))⟩, ⟨14, (some 38), (some (36, true)), [], [], (.load (.t 37) 1 false)⟩, ⟨15, (some 39), (some (36, true)), [], [], (.h (.fcmp .ge (.t 38) (.k (.d (.flt 4607182418800017408)))))⟩, i_X 16 40 (.h (.pick (.t 36) (.t 39) (.k (.d (.bool false))))), i_M 17 0 40] [0]) .ret)))))
theorem A_l11_known_comp : compF Tryz.prog 11 = some ⟨41, [(0, none)], A_l11_known.strip⟩ := by kernel_rfl
def A_l11_within : CA := (.seq (.reg [i_K 0 4 0] [0, 1]) (.seq (.reg [i_M 0 6 0, i_M 1 7 1, i_N 2 8 .rem 6 7, i_M 3 5 8] [1, 5]) (.seq (.seq (.reg [i_M 0 9 5, i_B 1 10 .lss 9 0] [1, 5, 10]) (.cond (.t 10) (.reg [i_M 0 11 5, i_M 1 12 1, i_N 2 13 .add 11 12, i_M 3 5 13] [5]) .skip)) (.seq (.reg [i_M 0 14 5, i_M 1 4 14] [4]) .ret))))
theorem A_l11_within_comp : compF Tryz.prog 15 = some ⟨15, [(4, none)], A_l11_within.strip⟩ := by kernel_rfl
theorem l11_within_con (a n : Int) (hn : 0 < n) (hn2 : n < 2 ^ 62) : Con Tryz.prog 15 [fI a, fI n] (fI (a % n)) := by
  rw [← tmod_fix a n hn]
  refine Con_introA A_l11_within_comp rfl mixed ?_
  refine evx @A_l11_within.eq_1 ?_
  refine ⟨by omega, ?_⟩
  have h1 := Int.tmod_lt_of_pos a hn
  have h2 : -n < a.tmod n := Int.lt_tmod_of_pos a hn
  refine condC_intro (fun h => ?_) (fun h => ?_)
  · have h := of_decide_eq_true h
    rw [if_pos h]
    refine ev ?_
    rw [wrapI (by omega) (by omega)]
    exact endsT_rett rfl (by decide) (by simp [look])
  · have h := of_decide_eq_false h
    rw [if_neg h]
    refine ev ?_
    exact endsT_rett rfl (by decide) (by simp [look])
structure Pk2 (p : Pb) : Prop where
  pk : Pk p
  len : p.t.ops.length < 2 ^ 39
  box : p.box.length = p.t.n
  n : p.t.n ≤ 3
theorem mkPb_ok2 (n first least tol fin : Int) (ns ms outs : List Int) (dv : Bool) : Pk2 (mkPb n first least tol fin ns ms outs dv) := by
  have m1 := Int.emod_nonneg n (by decide : (3 : Int) ≠ 0)
  have m2 := Int.emod_lt_of_pos n (by decide : (0 : Int) < 3)
  have hl := mkOps_len n ns dv ((n % 3).toNat + 1) (min ns.length 8)
  refine ⟨mkPb_ok _ _ _ _ _ _ _ _ _, ?_, boxL_len _ _, ?_⟩
  · show (mkOps n ns dv ((n % 3).toNat + 1) (min ns.length 8)).length < 2 ^ 39
    omega
  · show (mkT n ns dv).n ≤ 3
    rw [mkT_n]; omega
theorem taken_bok {p : Pb} {k : Nat} {x : Sta} (hp : Pk2 p) (hi : Inv p k x) (ht : (tryP p x).taken = true) (y : List Nat) (w : Nat) (hy : y.length = p.t.n) (hw : Pw w) : Bok p (tryP p x).n y w := by
  rcases try_spec hp.pk hi with ⟨_, sp⟩ | ⟨h, _⟩
  · obtain ⟨d, kk, hd, hs, hz⟩ := sp.sol
    have hm := hi.ok.n.m
    refine ⟨hp.pk.ok.t, hp.pk.ok.n, hp.len, ?_, ?_, ?_, hy, hw, hp.box⟩
    · rw [sp.nord, hz]; exact corrP_rk (predP_rk hi.ok.n.rk _) _ _ _ _
    · rw [sp.nord]; omega
    · rw [sp.nstep]; exact hi.ok.n.step
  · rw [h] at ht; cases ht
def wB (b : Int) : Nat := fop .div (FloatKind.nearest .f64 (b % 50)) 4661225614328463360
theorem wB_chk : ((List.range 50).all fun i => decide (fop .div (FloatKind.nearest .f64 (i : Int)) 4661225614328463360 ≤ 9218868437227405312)) = true := by kernel_rfl
theorem wB_Pw (b : Int) : Pw (wB b) := by
  have h1 := Int.emod_nonneg b (by decide : (50 : Int) ≠ 0)
  have h2 := Int.emod_lt_of_pos b (by decide : (0 : Int) < 50)
  obtain ⟨i, hi⟩ : ∃ i : Nat, b % 50 = i := ⟨(b % 50).toNat, by omega⟩
  have := List.all_eq_true.1 wB_chk i (by simp; omega)
  unfold wB
  rw [hi]
  have h3 : fop .div (FloatKind.nearest .f64 (i : Int)) 4661225614328463360 ≤ 9218868437227405312 := of_decide_eq_true this
  exact h3
theorem kb_ok : Bok kp10 ⟨1048576, 1048576, 1, 0, [[4607182418800017408], [0]]⟩ [4607182418800017408] 0 := by
  refine ⟨kp10_ok.t, by decide, by decide, ⟨rfl, fun r hr => ?_⟩, by decide, ⟨20, by decide, rfl⟩, rfl, Nat.zero_le _, rfl⟩
  have hr : r < 2 := hr
  rcases r with _ | _ | r
  · rfl
  · rfl
  · omega
theorem kb_val : (fun R : Bnd × Int => R.2 == 0 && fcmp .ge R.1.bound 0 && fcmp .lt R.1.bound 4472406533629990549 && fcmp .ge R.1.growth 4607182418800017408) (bndP kp10.t kp10.box [[4607182418800017408], [0]] (hW 1048576) [4607182418800017408] 0) = true := by kernel_rfl
theorem scalar_bd (R : Bnd × Int) : Scalar (.tup [bdV R.1, fI R.2]) := by
  refine .tup fun j hj => ?_
  rcases j with _ | _ | j
  · refine .agg fun i hi => ?_
    rcases i with _ | _ | _ | _ | _ | i
    · exact .flt _
    · exact .flt _
    · exact .flt _
    · exact .flt _
    · exact .flt _
    · have hi : i + 5 < 5 := hi
      omega
  · exact .int ..
  · have hj : j + 2 < 2 := hj
    omega
set_option maxRecDepth 8000 in
theorem l11_known_con : Con Tryz.prog 11 [] (fB true) := by
  have hb := bound_Step_conO kp10 .nils ⟨1048576, 1048576, 1, 0, [[4607182418800017408], [0]]⟩ [4607182418800017408] 0 kb_ok
  have hvv := kb_val
  simp only [Bool.and_eq_true, beq_iff_eq] at hvv
  have e1 : ((1048576 : Int)).toNat = 1048576 := rfl
  simp only [e1] at hb
  generalize bndP kp10.t kp10.box [[4607182418800017408], [0]] (hW 1048576) [4607182418800017408] 0 = R at hb hvv
  obtain ⟨⟨⟨v1, v2⟩, v3⟩, v4⟩ := hvv
  refine Con_introA A_l11_known_comp rfl mixed ?_
  refine evx @A_l11_known.eq_1 ?_
  refine callG_snaps [pbVo kp10 .nils, ndV ⟨1048576, 1048576, 1, 0, [[4607182418800017408], [0]]⟩, .d (rowD [4607182418800017408]), fl 0] hb ⟨.aggs ⟨.bare _, snp_data rfl (fun _ _ => rfl) rfl, snp_data rfl (fun _ _ => rfl) rfl, snp_data rfl (fun _ _ => rfl) rfl, snp_row rfl rfl rfl, .bare _, .bare _, .bare _, .bare _, .bare _, .bare _, .bare _, .nil, trivial⟩, .aggs ⟨.bare _, .bare _, .bare _, .bare _, snap_two' rfl rfl rfl, trivial⟩, snp_row rfl rfl rfl, .bare _, trivial⟩ (scalar_bd R) ?_
  refine evx (And.intro v1 (And.intro v2 (And.intro v3 v4))) ?_
  exact endsT_rett rfl (by decide) (by simp [look])
end Go.Ab
namespace Go.Ab
set_option linter.unusedSimpArgs false
set_option linter.unusedVariables false
open Go
theorem near_gen (s : Bool) (m : Nat) (i : Int) : ∃ A, Ieee.double.nearest s m i = Ieee.double.word s (min A 9218868437227405312) ∧ (∀ x, rv x ≤ (m : Rat) * pw i → x ≤ A) ∧ (∀ x, (m : Rat) * pw i ≤ rv x → A ≤ x) := by
  by_cases h0 : m = 0
  · subst h0
    have h00 : ((0 : Nat) : Rat) * pw i = 0 := by simp
    refine ⟨0, by simp [Ieee.Format.nearest], fun x hx => ?_, fun x _ => Nat.zero_le _⟩
    by_cases h : x = 0
    · omega
    · have := rv_lt (show 0 < x by omega)
      rw [rv_zero] at this
      rw [h00] at hx
      grind
  have q1 : Ieee.double.fractionBits = 52 := rfl
  have q2 : Ieee.double.leastPlace = -1074 := rfl
  have q3 : Ieee.double.binade = 4503599627370496 := rfl
  have q4 : Ieee.double.infRung = 9218868437227405312 := rfl
  have e0 : Ieee.double.nearest s m i = Ieee.double.word s (min (((max (i + (m.log2 : Int) - (52 : Nat)) (-1074)) - (-1074)).toNat * 4503599627370496 +
      Ieee.Toward.even.cut s (m <<< (i - max (i + (m.log2 : Int) - (52 : Nat)) (-1074)).toNat) (max (i + (m.log2 : Int) - (52 : Nat)) (-1074) - i).toNat) 9218868437227405312) := by
    unfold Ieee.Format.nearest
    rw [if_neg h0, q1, q2, q3, q4]
  have hl1 : 2 ^ m.log2 ≤ m := Nat.log2_self_le h0
  have hl2 : m < 2 ^ (m.log2 + 1) := Nat.lt_log2_self
  generalize m.log2 = L at e0 hl1 hl2
  generalize hlast : max (i + (L : Int) - (52 : Nat)) (-1074) = last at e0
  generalize hkept : Ieee.Toward.even.cut s (m <<< (i - last).toNat) (last - i).toNat = kept at e0
  have hP := pw_pos last
  -- v between powers
  have b1 : pw (i + L) ≤ (m : Rat) * pw i := by
    rw [pw_up]
    exact Rat.mul_le_mul_of_nonneg_right (by exact_mod_cast Rat.natCast_le_natCast.2 hl1) (Rat.le_of_lt (pw_pos i))
  have b2 : (m : Rat) * pw i < pw (i + L + 1) := by
    rw [Int.add_assoc, show (L : Int) + 1 = ((L + 1 : Nat) : Int) from by omega, pw_up]
    exact Rat.mul_lt_mul_of_pos_right (by exact_mod_cast Rat.natCast_lt_natCast.2 hl2) (pw_pos i)
  -- kept
  have hk : 2 * ((kept : Rat) * pw last) ≤ 2 * ((m : Rat) * pw i) + pw last ∧ 2 * ((m : Rat) * pw i) ≤ 2 * ((kept : Rat) * pw last) + pw last := by
    by_cases h : last ≤ i
    · have e1 : (last - i).toNat = 0 := by omega
      rw [e1, cut_zero] at hkept
      have e2 : pw i = ((2 ^ (i - last).toNat : Nat) : Rat) * pw last := by
        have h7 : i = last + ((i - last).toNat : Nat) := by omega
        exact (congrArg pw h7).trans (pw_up _ _)
      have e3 : (kept : Rat) * pw last = (m : Rat) * pw i := by
        rw [← hkept, Nat.shiftLeft_eq, Rat.natCast_mul, e2]; grind
      grind
    · have e1 : (i - last).toNat = 0 := by omega
      rw [e1, Nat.shiftLeft_zero] at hkept
      have hc := cut_spec s m (last - i).toNat
      rw [hkept] at hc
      have e2 : pw last = ((2 ^ (last - i).toNat : Nat) : Rat) * pw i := by
        have h7 : last = i + ((last - i).toNat : Nat) := by omega
        exact (congrArg pw h7).trans (pw_up _ _)
      rw [e2]
      generalize 2 ^ (last - i).toNat = g at hc
      have h1 : (2 : Rat) * ((kept : Rat) * g) ≤ 2 * m + g := by exact_mod_cast Rat.natCast_le_natCast.2 hc.1
      have h2 : (2 : Rat) * m ≤ 2 * ((kept : Rat) * g) + g := by exact_mod_cast Rat.natCast_le_natCast.2 hc.2
      have hi := Rat.le_of_lt (pw_pos i)
      have h3 := Rat.mul_le_mul_of_nonneg_right h1 hi
      have h4 := Rat.mul_le_mul_of_nonneg_right h2 hi
      grind
  have hlow : -1074 ≤ last := by omega
  have hll : i + L ≤ last + 52 := by omega
  have cast_le : ∀ a b : Nat, (a : Rat) ≤ (b : Rat) → a ≤ b := fun a b h => Rat.natCast_le_natCast.1 h
  have cast_lt : ∀ a b : Nat, (a : Rat) < (b : Rat) → a < b := fun a b h => Rat.natCast_lt_natCast.1 h
  have k1 : kept ≤ 9007199254740992 := by
    have h1 := pw_mono (show i + L + 1 ≤ last + 53 by omega)
    rw [pw53] at h1
    have h2 : (kept : Rat) * pw last < 9007199254740993 * pw last := by grind
    have h3 := Rat.lt_of_mul_lt_mul_right h2 (Rat.le_of_lt hP)
    have := cast_lt kept 9007199254740993 (by exact_mod_cast h3)
    omega
  have k2 : last = -1074 ∨ (i + L = last + 52 ∧ 4503599627370496 ≤ kept) := by
    by_cases e : last = -1074
    · exact .inl e
    · refine .inr ⟨by omega, ?_⟩
      have h1 : i + L = last + 52 := by omega
      rw [h1, pw52] at b1
      have h2 : (4503599627370495 : Rat) * pw last < kept * pw last := by grind
      have h3 := Rat.lt_of_mul_lt_mul_right h2 (Rat.le_of_lt hP)
      have := cast_lt 4503599627370495 kept (by exact_mod_cast h3)
      omega
  obtain ⟨E, hE⟩ : ∃ E : Nat, last = -1074 + E := ⟨(last + 1074).toNat, by omega⟩
  have hEk : E = 0 ∨ 4503599627370496 ≤ kept := by omega
  have e1 : (last - -1074).toNat = E := by omega
  have hrv := rv_norm E kept k1 hEk
  rw [← hE] at hrv
  rw [e1] at e0
  have hhi : (m : Rat) * pw i < rv (E * 4503599627370496 + kept + 1) := by
    by_cases h5 : kept < 9007199254740992
    · have e3 := rv_succ E kept h5 hEk
      rw [e3, hrv, ← hE]; grind
    · have hk5 : kept = 9007199254740992 := by omega
      subst hk5
      have e3 := rv_norm (E + 1) 4503599627370497 (by omega) (by omega)
      rw [show E * 4503599627370496 + 9007199254740992 + 1 = (E + 1) * 4503599627370496 + 4503599627370497 from by omega, e3]
      have e4 : (-1074 : Int) + ((E + 1 : Nat) : Int) = last + 1 := by omega
      have e5 := pw_succ last
      rw [e4, e5]
      have h6 : ((9007199254740992 : Nat) : Rat) = 9007199254740992 := rfl
      have h7 : ((4503599627370497 : Nat) : Rat) = 4503599627370497 := rfl
      rw [h6] at hk
      rw [h7]
      grind
  refine ⟨_, e0, fun x hx => ?_, fun x hx => ?_⟩
  · by_cases h : x ≤ E * 4503599627370496 + kept
    · exact h
    · have h2 := rv_mono (show E * 4503599627370496 + kept + 1 ≤ x by omega)
      grind
  · by_cases h : E * 4503599627370496 + kept ≤ x
    · exact h
    · exfalso
      have hlt : x ≤ E * 4503599627370496 + kept - 1 := by omega
      have hx2 := rv_mono hlt
      by_cases h5 : E = 0 ∨ 4503599627370497 ≤ kept
      · obtain ⟨q, rfl⟩ : ∃ q, kept = q + 1 := ⟨kept - 1, by omega⟩
        have e3 := rv_norm E q (by omega) (by omega)
        rw [show E * 4503599627370496 + (q + 1) - 1 = E * 4503599627370496 + q from by omega, e3, ← hE] at hx2
        rw [Rat.natCast_add] at hk
        grind
      · have hk5 : kept = 4503599627370496 := by omega
        subst hk5
        obtain ⟨F, rfl⟩ : ∃ F, E = F + 1 := ⟨E - 1, by omega⟩
        have e3 := rv_norm F 9007199254740991 (by omega) (by omega)
        rw [show (F + 1) * 4503599627370496 + 4503599627370496 - 1 = F * 4503599627370496 + 9007199254740991 from by omega, e3] at hx2
        have e4 : (-1074 : Int) + F = last - 1 := by omega
        have e5 := pw_pred last
        rw [e4] at hx2
        have h6 : ((9007199254740991 : Nat) : Rat) = 9007199254740991 := rfl
        rw [h6] at hx2
        have e6 : i + L = last + 52 := by omega
        rw [e6, pw52] at b1
        have := pw_pos (last - 1)
        grind
end Go.Ab
namespace Go.Ab
set_option linter.unusedSimpArgs false
set_option linter.unusedVariables false
open Go Go.Proofs
theorem sum_val (m n : Nat) (i j : Int) : ∃ a b, Ieee.Datum.sum (.number false m i) (.number false n j) = some (.number false a b) ∧ (a : Rat) * pw b = (m : Rat) * pw i + (n : Rat) * pw j := by
  have hs := signed_val false m i (min i j) (by omega)
  have ht := signed_val false n j (min i j) (by omega)
  simp only [Bool.false_eq_true, if_false] at hs ht
  simp only [Ieee.Datum.sum]
  have n1 : 0 ≤ Ieee.signed false m (i - min i j).toNat := by simp only [Ieee.signed, Bool.false_eq_true, if_false]; exact Int.natCast_nonneg _
  have n2 : 0 ≤ Ieee.signed false n (j - min i j).toNat := by simp only [Ieee.signed, Bool.false_eq_true, if_false]; exact Int.natCast_nonneg _
  generalize Ieee.signed false m (i - min i j).toNat = a at hs n1
  generalize Ieee.signed false n (j - min i j).toNat = b at ht n2
  have q1 : decide (a + b < 0) = false := decide_eq_false (by omega)
  refine ⟨(a + b).natAbs, min i j, ?_, ?_⟩
  · rw [q1]; simp
  · rw [← hs, ← ht]
    have e : (((a + b).natAbs : Nat) : Rat) = (a : Rat) + (b : Rat) := by
      rw [← Rat.intCast_add, ← Rat.intCast_natCast]
      exact congrArg (fun z : Int => (z : Rat)) (by omega)
    rw [e]; grind
theorem cf_min (A : Nat) : cf (Ieee.double.word false (min A 9218868437227405312)) = min A 9218868437227405312 := by
  rw [word_false]
  exact cf_not (Pw_nan (Nat.min_le_right _ _))
theorem Pw_write {m : Nat} {i : Int} {x : Nat} (hx : Pw x) (h : rv x ≤ (m : Rat) * pw i) : x ≤ cf (Ieee.double.write (.number false m i)) := by
  obtain ⟨A, e, h1, h2⟩ := near_gen false m i
  have : Ieee.double.write (.number false m i) = Ieee.double.nearest false m i := rfl
  rw [this, e, cf_min]
  have := h1 x h
  unfold Pw at hx
  omega
theorem num_lt {x m : Nat} {i : Int} (hx : Pw x) (h : Ieee.double.read x = .number false m i) : x < 9218868437227405312 ∧ rv x = (m : Rat) * pw i := by
  have hne : x ≠ 9218868437227405312 := by rintro rfl; rw [read_inf] at h; cases h
  have hlt : x < 9218868437227405312 := by unfold Pw at hx; omega
  have := val_eq h
  rw [Pw_val hlt] at this
  exact ⟨hlt, by simpa using this⟩
theorem Pw_add_ge {x y : Nat} (hx : Pw x) (hy : Pw y) : x ≤ fop .add x y ∧ y ≤ fop .add x y := by
  have h9 : cf (Ieee.double.write (.infinity false)) = 9218868437227405312 := by decide
  unfold fop Ieee.Format.add
  simp only
  rcases Pw_read hx with ⟨m, i, h1⟩ | rfl <;> rcases Pw_read hy with ⟨n, j, h2⟩ | rfl
  · obtain ⟨l1, v1⟩ := num_lt hx h1
    obtain ⟨l2, v2⟩ := num_lt hy h2
    have p1 := rv_nonneg x
    have p2 := rv_nonneg y
    rw [h1, h2]
    obtain ⟨a, b, e, hv⟩ := sum_val m n i j
    rw [e]
    exact ⟨Pw_write hx (by rw [hv, ← v1, ← v2]; grind), Pw_write hy (by rw [hv, ← v1, ← v2]; grind)⟩
  · rw [h1, read_inf, show Ieee.Datum.sum (.number false m i) (.infinity false) = some (.infinity false) from rfl]
    simp only [Option.map_some, Option.getD_some, h9]
    exact ⟨hx, Nat.le_refl _⟩
  · rw [h2, read_inf, show Ieee.Datum.sum (.infinity false) (.number false n j) = some (.infinity false) from rfl]
    simp only [Option.map_some, Option.getD_some, h9]
    exact ⟨Nat.le_refl _, hy⟩
  · rw [read_inf, show Ieee.Datum.sum (.infinity false) (.infinity false) = some (.infinity false) from rfl]
    simp only [Option.map_some, Option.getD_some, h9]
    exact ⟨Nat.le_refl _, Nat.le_refl _⟩
theorem Pw_mul_ge {g y : Nat} (hg : Pw g) (h1 : oneW ≤ g) (hy : Pw y) (h0 : 0 < y) : y ≤ fop .mul g y := by
  have h9 : cf (Ieee.double.write (.infinity false)) = 9218868437227405312 := by decide
  have o1 : (0 : Nat) < oneW := by decide
  unfold fop Ieee.Format.mul
  simp only
  rcases Pw_read hg with ⟨m, i, r1⟩ | rfl <;> rcases Pw_read hy with ⟨n, j, r2⟩ | rfl
  · obtain ⟨l1, v1⟩ := num_lt hg r1
    obtain ⟨l2, v2⟩ := num_lt hy r2
    have p2 := rv_nonneg y
    have p1 := rv_mono h1
    have e1 : rv oneW = 1 := by rw [← Pw_val (by decide : oneW < _)]; exact v1W
    rw [e1] at p1
    rw [r1, r2, show Ieee.Datum.product (.number false m i) (.number false n j) = some (.number false (m * n) (i + j)) from rfl]
    refine Pw_write hy ?_
    rw [pw_add, Rat.natCast_mul]
    have := Rat.mul_le_mul_of_nonneg_right p1 p2
    have e : (m : Rat) * n * (pw i * pw j) = (m * pw i) * (n * pw j) := by grind
    rw [e, ← v1, ← v2]
    grind
  · rw [r1, read_inf]
    obtain ⟨l1, v1⟩ := num_lt hg r1
    have hm : m ≠ 0 := by
      rintro rfl
      have := rv_lt (show 0 < g by omega)
      rw [rv_zero, v1] at this
      simp at this
    have e : Ieee.Datum.product (.number false m i) (.infinity false) = some (.infinity false) := by simp only [Ieee.Datum.product, hm, if_false, Bool.xor_self]
    rw [e]
    simp only [Option.map_some, Option.getD_some, h9]
    exact Nat.le_refl _
  · rw [r2, read_inf]
    obtain ⟨l2, v2⟩ := num_lt hy r2
    have hm : n ≠ 0 := by
      rintro rfl
      have := rv_lt h0
      rw [rv_zero, v2] at this
      simp at this
    have e : Ieee.Datum.product (.infinity false) (.number false n j) = some (.infinity false) := by simp only [Ieee.Datum.product, hm, if_false, Bool.xor_self]
    rw [e]
    simp only [Option.map_some, Option.getD_some, h9]
    exact hy
  · rw [read_inf, show Ieee.Datum.product (.infinity false) (.infinity false) = some (.infinity false) from rfl]
    simp only [Option.map_some, Option.getD_some, h9]
    exact Nat.le_refl _
theorem up_ge {x : Nat} (h : Pw x) : x ≤ up x := by
  by_cases e : x = 9218868437227405312
  · subst e; rw [up_inf]; exact Nat.le_refl _
  · unfold Pw at h; rw [up_Pw (by omega)]; omega
theorem Pw_order {x y : Nat} (hx : Pw x) (hy : Pw y) : Ieee.double.order x y = some (compare x y) := by
  by_cases e1 : x = 9218868437227405312
  · subst e1
    by_cases e2 : y = 9218868437227405312
    · subst e2; decide
    · unfold Pw at hy
      obtain ⟨s, m, i, hd⟩ := Pw_fin (x := y) (by omega)
      have : compare (9218868437227405312 : Nat) y = .gt := Nat.compare_eq_gt.2 (by omega)
      rw [this]
      simp [Ieee.Format.order, hd, read_inf, Ieee.Datum.order]
  · by_cases e2 : y = 9218868437227405312
    · subst e2
      unfold Pw at hx
      obtain ⟨s, m, i, hd⟩ := Pw_fin (x := x) (by omega)
      have : compare x (9218868437227405312 : Nat) = .lt := Nat.compare_eq_lt.2 (by omega)
      rw [this]
      simp [Ieee.Format.order, hd, read_inf, Ieee.Datum.order]
    · unfold Pw at hx hy
      have l1 : x < 9218868437227405312 := by omega
      have l2 : y < 9218868437227405312 := by omega
      have o := order_fin (Pw_fin l1) (Pw_fin l2)
      rw [Pw_val l1, Pw_val l2] at o
      rcases Nat.lt_trichotomy x y with h | h | h
      · have := rv_lt h
        rw [Nat.compare_eq_lt.2 h]
        rcases o with ⟨_, o⟩ | ⟨o, _⟩ | ⟨o, _⟩
        · exact o
        · grind
        · grind
      · subst h
        rw [Nat.compare_eq_eq.2 rfl]
        rcases o with ⟨o, _⟩ | ⟨_, o⟩ | ⟨o, _⟩
        · grind
        · exact o
        · grind
      · have := rv_lt h
        rw [Nat.compare_eq_gt.2 h]
        rcases o with ⟨o, _⟩ | ⟨o, _⟩ | ⟨_, o⟩
        · grind
        · grind
        · exact o
theorem Pw_ge {x y : Nat} (hx : Pw x) (hy : Pw y) : fcmp .ge x y = true ↔ y ≤ x := by
  simp only [fcmp, Pw_order hx hy]
  rcases Nat.lt_trichotomy x y with h | h | h
  · rw [Nat.compare_eq_lt.2 h]; simp; omega
  · subst h; rw [Nat.compare_eq_eq.2 rfl]; simp
  · rw [Nat.compare_eq_gt.2 h]; simp; omega
theorem Pw_lt {x y : Nat} (hx : Pw x) (hy : Pw y) : fcmp .lt x y = true ↔ x < y := by
  simp only [fcmp, Pw_order hx hy]
  rcases Nat.lt_trichotomy x y with h | h | h
  · rw [Nat.compare_eq_lt.2 h]; simp; omega
  · subst h; rw [Nat.compare_eq_eq.2 rfl]; simp
  · rw [Nat.compare_eq_gt.2 h]; simp; omega
theorem Pw_gt {x y : Nat} (hx : Pw x) (hy : Pw y) : fcmp .gt x y = true ↔ y < x := by
  simp only [fcmp, Pw_order hx hy]
  rcases Nat.lt_trichotomy x y with h | h | h
  · rw [Nat.compare_eq_lt.2 h]; simp; omega
  · subst h; rw [Nat.compare_eq_eq.2 rfl]; simp
  · rw [Nat.compare_eq_gt.2 h]; simp; omega
theorem Pw_finite {x : Nat} (h : x < 9218868437227405312) : finite x = true := fin_finite (Pw_fin h)
theorem growF_one (h m : Nat) : oneW ≤ growF h m := by
  unfold growF
  split
  · exact Nat.le_refl _
  · split
    · rename_i h2
      have hp := (cw_gt1 (ivExp_cw _) h2).1
      have := (Pw_gt hp (by unfold Pw; decide : Pw oneW)).1 h2
      omega
    · exact Nat.le_refl _
def Grown (R : Bnd × Int) (w h : Nat) : Prop := (R.2 = 0 ∧ Pw R.1.jump ∧ Pw R.1.defect ∧ Pw R.1.growth ∧ oneW ≤ R.1.growth ∧ R.1.bound < 9218868437227405312 ∧ w ≤ R.1.bound ∧ fop .add w R.1.jump ≤ R.1.bound ∧ fop .mul h R.1.defect ≤ R.1.bound) ∨ (R.1 = ⟨0, 0, 0, 0, 0⟩ ∧ (R.2 = 3 ∨ R.2 = 7))
theorem bndK_grown (t : Tp) (box : List Iv) (q : List Md) (h e j d w : Nat) (hj : Pw j) (hd : Pw d) (he : Pw e) (he0 : 0 < e) (h1 : w ≤ e) (h2 : fop .add w j ≤ e) (h3 : fop .mul h d ≤ e) : ∀ k r, Pw r → Grown (bndK t box q h e j d k r) w h := by
  intro k
  induction k with
  | zero => intro r _; exact .inr ⟨rfl, .inr rfl⟩
  | succ k ih =>
    intro r hr
    rw [bndK]
    split
    · exact .inr ⟨rfl, .inl rfl⟩
    · simp only
      have hg := growF_Pw h (normI (jacI t (tabI (tubI q r) t.n)))
      have hg1 := growF_one h (normI (jacI t (tabI (tubI q r) t.n)))
      generalize growF h (normI (jacI t (tabI (tubI q r) t.n))) = g at hg hg1 ⊢
      have hb := Pw_mul2 hg.1 hg.2 he he0
      have hbe := Pw_mul_ge hg.1 hg1 he he0
      have hub := up_pos hb
      have hue := up_ge hb
      generalize up (fop .mul g e) = b at hub hue ⊢
      split
      · rename_i hlt
        have hl := (Pw_lt hub.1 hr).1 hlt
        unfold Pw at hr
        exact .inl ⟨rfl, hj, hd, hg.1, hg1, by show b < _; omega, by show w ≤ b; omega, by show fop .add w j ≤ b; omega, by show fop .mul h d ≤ b; omega⟩
      · split
        · exact .inr ⟨rfl, .inr rfl⟩
        · exact ih _ (four_Pw hub.1).1
theorem bndP_grown (t : Tp) (box : List Iv) (z : List (List Nat)) (h : Nat) (y : List Nat) (w : Nat) (hw : Pw w) (h0 : 0 < h ∧ h < 9218868437227405312) : Grown (bndP t box z h y w) w h := by
  unfold bndP
  simp only
  split
  · exact .inr ⟨rfl, .inr rfl⟩
  · rename_i hf
    have hf2 : finite (bestF (jmpI z y) (t.n - 1)) = true ∧ finite (bestF (dftI t z (colsM z t.n) h) (t.n - 1)) = true := by
      simpa using hf
    have hj : Pw (bestF (jmpI z y) (t.n - 1)) := by
      obtain ⟨i, _, e⟩ := bestF_is (jmpI z y) (t.n - 1)
      rw [e] at hf2 ⊢; exact mag_Pw hf2.1
    have hd : Pw (bestF (dftI t z (colsM z t.n) h) (t.n - 1)) := by
      obtain ⟨i, _, e⟩ := bestF_is (dftI t z (colsM z t.n) h) (t.n - 1)
      rw [e] at hf2 ⊢; exact mag_Pw hf2.2
    generalize bestF (jmpI z y) (t.n - 1) = j at hj hf2 ⊢
    generalize bestF (dftI t z (colsM z t.n) h) (t.n - 1) = d at hd hf2 ⊢
    obtain ⟨f, v⟩ := Pw_pos h0.2 h0.1
    have he := bnd_begin hw hj hd h0
    have a1 := Pw_add hw hj
    have a2 := Pw_mul f (by unfold Pw; omega) v hd
    have b1 := Pw_add_ge (up_pos a1).1 (up_pos a2).1
    have c1 := up_ge (Pw_add (up_pos a1).1 (up_pos a2).1)
    have c2 := up_ge a1
    have c3 := up_ge a2
    have c4 := Pw_add_ge hw hj
    refine bndK_grown _ _ _ _ _ _ _ _ hj hd he.1 he.2 ?_ ?_ ?_ _ _ (four_Pw he.1).1
    · omega
    · omega
    · omega
end Go.Ab
namespace Go.Ab
set_option linter.unusedSimpArgs false
set_option linter.unusedVariables false
open Nat renaming reduceEqDiff → n1_, reduceAdd → n2_, reduceMul → n3_, reduceLT → n4_, reduceLeDiff → n5_
open Int renaming reduceToNat → i1_, reduceAdd → i2_, reduceSub → i3_, reduceMul → i4_, reduceNeg → i5_, reduceLT → i6_, reduceLE → i7_
open Go Go.Proofs
def A_l11_BoundGrows_L0 : CA := (.seq (.seq (.reg [i_M 0 28 10, i_M 1 29 1, i_X 2 30 (.callA (kF 15) [(.t 29), (kI 10)]), i_X 3 31 (.h (.ibin .add (kI 4) (.t 30))), i_N 4 32 .lss 28 31] [1, 7, 8, 9, 10, 32]) (.cond (.t 32) .skip (.exit 0))) (.seq (.block 1 (.seq (.reg [i_A 0 35 7 13, i_A 1 36 8 8, i_X 2 37 (.callA (kF 16) [(.t 35), (.t 36)]), i_X 3 11 (.alloc [(.d (.int .i64 0)), (.d (.int .i64 0)), (.d (.int .i64 0)), (.d (.int .i64 0)), .nil, (.d (.int .i64 0)), (.d (.int .i64 0)), (.d (.int .i64 0)), (.d (.int .i64 0)), (.d (.int .i64 0)), (.d (.int .i64 0)), (.d (.int .i64 0)), .nil, (.d (.bool false)), (.d (.flt 0)), (.d (.int .i64 0))] 43), i_S 4 11 37 16] [1, 7, 8, 9, 10, 11]) (.seq (.seq (.reg [i_P 0 38 11 13, i_L 1 39 38 1] [1, 7, 8, 9, 10, 11, 39]) (.cond (.t 39) (.seq (.reg [i_A 0 41 7 13, i_P 1 42 11 8, i_A 2 43 42 5, i_P 3 44 8 0, i_P 4 45 44 4, i_L 5 46 45 1, i_X 6 47 (.h (.idx (.t 46) (kI 0) 1)), i_L 7 48 47 1, i_M 8 49 9, i_X 9 50 (.callS 0 (kF 17) [(.t 41), (.t 43), (.t 48), (.t 49)]), i_M 10 40 50, i_X 11 51 (.h (.ext (.t 40) 0)), i_X 12 52 (.h (.ext (.t 40) 1)), i_X 13 12 (.alloc z_5 46), i_S 14 12 51 5, i_M 15 13 52] [1, 7, 8, 9, 10, 11, 12, 13]) (.seq (.reg [i_P 0 53 11 8, i_P 1 54 53 1, i_L 2 55 54 1, i_X 3 56 (.h (.i2f (.t 55))), i_X 4 57 (.h (.fbin .div (.t 56) (.k (.d (.flt 4742290407621132288))))), i_M 5 14 57] [1, 7, 8, 9, 10, 11, 12, 13, 14]) (.seq (.seq (.reg [i_M 0 58 13, i_B 1 59 .eql 58 0, i_M 2 60 59, ⟨3, (some 61), (some (60, true)), [], [], (.h (.padd (.t 12) 4))⟩, ⟨4, (some 62), (some (60, true)), [], [], (.load (.t 61) 1 false)⟩, ⟨5, (some 63), (some (60, true)), [], [], (.h (.mov (.t 9)))⟩, ⟨6, (some 64), (some (60, true)), [], [], (.h (.fcmp .ge (.t 62) (.t 63)))⟩, ⟨7, (some 65), (some (60, true)), [], [], (.h (.mov (.t 64)))⟩, ⟨8, (some 66), (some (65, true)), [], [], (.h (.padd (.t 12) 4))⟩, ⟨9, (some 67), (some (65, true)), [], [], (.load (.t 66) 1 false)⟩, ⟨10, (some 68), (some (65, true)), [], [], (.h (.mov (.t 9)))⟩, ⟨11, (some 69), (some (65, true)), [], [], (.h (.padd (.t 12) 0))⟩, ⟨12, (some 70), (some (65, true)), [], [], (.load (.t 69) 1 false)⟩, ⟨13, (some 71), (some (65, true)), [], [], (.h (.fbin .add (.t 68) (.t 70)))⟩, ⟨14, (some 72), (some (65, true)), [], [], (.h (.fcmp .ge (.t 67) (.t 71)))⟩, ⟨15, (some 73), (some (60, true)), [], [], (.h (.pick (.t 65) (.t 72) (.k (.d (.bool false)))))⟩, ⟨16, (some 74), (some (60, true)), [], [], (.h (.mov (.t 73)))⟩, ⟨17, (some 75), (some (74, true)), [], [], (.h (.padd (.t 12) 4))⟩, ⟨18, (some 76), (some (74, true)), [], [], (.load (.t 75) 1 false)⟩, ⟨19, (some 77), (some (74, true)), [], [], (.h (.mov (.t 14)))⟩, ⟨20, (some 78), (some (74, true)), [], [], (.h (.padd (.t 12) 1))⟩, ⟨21, (some 79), (some (74, true)), [], [], (.load (.t 78) 1 false)⟩, ⟨22, (some 80), (some (74, true)), [], [], (.h (.fbin .mul (.t 77) (.t 79)))⟩, ⟨23, (some 81), (some (74, true)), [], [], (.h (.fcmp .ge (.t 76) (.t 80)))⟩, ⟨24, (some 82), (some (60, true)), [], [], (.h (.pick (.t 74) (.t 81) (.k (.d (.bool false)))))⟩, ⟨25, (some 83), (some (60, true)), [], [], (.h (.mov (.t 82)))⟩, ⟨26, (some 84), (some (83, true)), [], [], (.h (.padd (.t 12) 3))⟩, ⟨27, (some 85), (some (83, true)), [], [], (.load (.t 84) 1 false)⟩, ⟨28, (some 86), (some (83, true)), [], [], (.h (.fcmp .ge (.t 85) (.k (.d (.flt 4607182418800017408)))))⟩, ⟨29, (some 87), (some (60, true)), [], [], (.h (.pick (.t 83) (.t 86) (.k (.d (.bool false)))))⟩, ⟨30, (some 88), (some (60, true)), [], [], (.h (.mov (.t 87)))⟩, ⟨31, (some 89), (some (88, true)), [], [], (.h (.padd (.t 12) 0))⟩, ⟨32, (some 90), (some (88, true)), [], [], (.load (.t 89) 1 false)⟩, ⟨33, (some 91), (some (88, true)), [], [], (.h (.fcmp .ge (.t 90) (.k (.d (.flt 0)))))⟩, ⟨34, (some 92), (some (60, true)), [], [], (.h (.pick (.t 88) (.t 91) (.k (.d (.bool false)))))⟩, ⟨35, (some 93), (some (60, true)), [], [], (.h (.mov (.t 92)))⟩, ⟨36, (some 94), (some (93, true)), [], [], (.h (.padd (.t 12) 1))⟩, ⟨37, (some 95), (some (93, true)), [], [], (.load (.t 94) 1 false)⟩, ⟨38, (some 96), (some (93, true)), [], [], (.h (.fcmp .ge (.t 95) (.k (.d (.flt 0)))))⟩, ⟨39, (some 97), (some (60, true)), [], [], (.h (.pick (.t 93) (.t 96) (.k (.d (.bool false)))))⟩, ⟨40, (some 98), (some (60, true)), [], [], (.h (.mov (.t 97)))⟩, ⟨41, (some 99), (some (98, true)), [], [], (.h (.padd (.t 12) 4))⟩, ⟨42, (some 100), (some (98, true)), [], [], (.load (.t 99) 1 false)⟩, ⟨43, (some 101), (some (98, true)), [], [], (.callA (kF 20) [(.t 100)])⟩, ⟨44, (some 102), (some (60, true)), [], [], (.h (.pick (.t 98) (.t 101) (.k (.d (.bool false)))))⟩, ⟨45, (some 103), (some (60, true)), [], [], (.h (.un .not (.t 102)))⟩, i_X 46 104 (.h (.pick (.t 60) (.t 103) (.k (.d (.bool false)))))] [1, 7, 8, 9, 10, 11, 13, 104]) (.cond (.t 104) (.seq (.reg [i_X 0 6 (.h (.mov (.k (.d (.bool false)))))] [6]) .ret) .skip)) (.seq (.reg [i_M 0 105 13, i_B 1 106 .neq 105 0, i_M 2 107 106, ⟨3, (some 108), (some (107, true)), [], [], (.h (.mov (.t 13)))⟩, ⟨4, (some 109), (some (107, true)), [], [], (.h (.ibin .neq (.t 108) (kI 7)))⟩, i_X 5 110 (.h (.pick (.t 107) (.t 109) (.k (.d (.bool false))))), i_M 6 111 110, ⟨7, (some 112), (some (111, true)), [], [], (.h (.mov (.t 13)))⟩, ⟨8, (some 113), (some (111, true)), [], [], (.h (.ibin .neq (.t 112) (kI 3)))⟩, i_X 9 114 (.h (.pick (.t 111) (.t 113) (.k (.d (.bool false)))))] [1, 7, 8, 9, 10, 11, 114]) (.cond (.t 114) (.seq (.reg [i_X 0 6 (.h (.mov (.k (.d (.bool false)))))] [6]) .ret) .skip))))) .skip)) (.seq (.seq (.reg [i_P 0 115 11 15, i_L 1 116 115 1, i_B 2 117 .neq 116 0] [1, 7, 8, 9, 10, 11, 117]) (.cond (.t 117) (.seq (.reg [i_X 0 6 (.h (.mov (.k (.d (.bool true)))))] [6]) .ret) .skip)) (.reg [i_P 0 118 11 0, i_A 1 119 118 8, i_S 2 8 119 8] [1, 7, 8, 9, 10]))))) (.reg [i_M 0 33 10, i_B 1 34 .add 33 1, i_M 2 10 34] [1, 7, 8, 9, 10])))
def A_l11_BoundGrows : CA := (.seq (.reg [i_X 0 3 (.box (.t 0) 9 24), i_X 1 6 (.h (.mov (.k (.d (.bool false)))))] [1, 2, 3]) (.seq (.seq (.reg [i_X 0 15 (.callA (kF 11) []), i_X 1 16 (.h (.un .not (.t 15)))] [1, 2, 3, 16]) (.cond (.t 16) (.seq (.reg [i_X 0 6 (.h (.mov (.k (.d (.bool false)))))] [6]) .ret) .skip)) (.seq (.seq (.reg [i_A 0 17 3 9, i_X 1 18 (.callA (kF 12) [(.t 17)]), i_X 2 19 (.h (.un .not (.t 18)))] [1, 2, 3, 19]) (.cond (.t 19) (.seq (.reg [i_X 0 6 (.h (.mov (.k (.d (.bool true)))))] [6]) .ret) .skip)) (.seq (.reg [i_A 0 20 3 9, i_X 1 21 (.callA (kF 13) [(.t 20)]), i_X 2 7 (.alloc [(.d (.int .i64 0)), .nil, .nil, .nil, .nil, (.d (.int .i64 0)), (.d (.int .i64 0)), (.d (.int .i64 0)), (.d (.flt 0)), (.d (.flt 0)), (.d (.flt 0)), (.d (.int .i64 0)), .nil] 33), i_S 3 7 21 13] [1, 2, 7]) (.seq (.reg [i_A 0 22 7 13, i_X 1 23 (.callA (kF 14) [(.t 22)]), i_X 2 8 (.alloc [(.d (.int .i64 0)), (.d (.int .i64 0)), (.d (.int .i64 0)), (.d (.int .i64 0)), .nil, (.d (.int .i64 0)), (.d (.int .i64 0)), (.d (.int .i64 0))] 39), i_S 3 8 23 8] [1, 2, 7, 8]) (.seq (.reg [i_M 0 24 2, i_X 1 25 (.callA (kF 15) [(.t 24), (kI 50)]), i_X 2 26 (.h (.i2f (.t 25))), i_X 3 27 (.h (.fbin .div (.t 26) (.k (.d (.flt 4661225614328463360))))), i_M 4 9 27] [1, 7, 8, 9]) (.seq (.seq (.reg [i_K 0 10 0] [1, 7, 8, 9, 10]) (.block 0 (.loop A_l11_BoundGrows_L0))) (.seq (.reg [i_X 0 6 (.h (.mov (.k (.d (.bool true)))))] [6]) .ret))))))))
theorem A_l11_BoundGrows_comp : compF Tryz.prog 4 = some ⟨120, [(6, none)], A_l11_BoundGrows.strip⟩ := by kernel_rfl
set_option maxRecDepth 8000 in
theorem l11_BoundGrows_con (n first least tol fin : Int) (ns ms outs : List Int) (dv : Bool) (steps before : Int) : Con Tryz.prog 4 [.agg (shC n first least tol fin ns ms outs dv), fI steps, fI before] (fB true) := by
  refine Con_introA A_l11_BoundGrows_comp rfl mixed ?_
  refine evx @A_l11_BoundGrows.eq_1 ?_
  refine callG_con (l11_known_con) rfl ?_
  refine ev ?_
  refine callG_con (l10_Few_con n first least tol fin ns ms outs dv) rfl ?_
  by_cases hfew : ns.length ≤ 60 ∧ ms.length ≤ 60 ∧ outs.length ≤ 60
  · rw [decide_eq_true hfew]
    refine ev ?_
    refine callG_con (l10_Make_con n first least tol fin ns ms outs dv hfew.1 hfew.2.1 hfew.2.2) rfl ?_
    have hp2 := mkPb_ok2 n first least tol fin ns ms outs dv
    generalize mkPb n first least tol fin ns ms outs dv = p at hp2
    have hp := hp2.pk
    refine ev ?_
    have hn40 : p.t.n < 2 ^ 40 := Nat.lt_trans hp.ok.t.n (by decide)
    refine callG_con (begin_con p hp) rfl ?_
    refine ev ?_
    refine callG_con (l11_within_con before 50 (by decide) (by decide)) rfl ?_
    refine ev ?_
    have hwB := wB_Pw before
    have ewB : fop .div (FloatKind.nearest .f64 (before % 50)) 4661225614328463360 = wB before := rfl
    rw [ewB]
    generalize wB before = w at hwB ⊢
    have q1 := Int.emod_nonneg steps (by decide : (10 : Int) ≠ 0)
    have q2 := Int.emod_lt_of_pos steps (by decide : (0 : Int) < 10)
    obtain ⟨N, hN⟩ : ∃ N : Nat, 4 + steps % 10 = N := ⟨(4 + steps % 10).toNat, by omega⟩
    have wN : IntKind.i64.wrap (4 + steps % 10) = (N : Int) := by rw [hN]; exact wrapI (by omega) (by omega)
    refine WA_forW (n := N) (fun c s => ∃ (i : Nat) (x : Sta), c + i = N ∧ Inv p i x ∧ s = ⟨[(1, fI steps), (7, .ptr 3 0 0 13), (8, .ptr 6 0 0 8), (9, fl w), (10, fI i)], [(6, [staC x]), (3, [pbC p]), (0, [shC n first least tol fin ns ms outs dv])]⟩) (Le.refl _) ⟨0, beginS p, by omega, begin_inv hp, rfl⟩ ?_
    rintro c s ⟨i, x, hc, hi, rfl⟩
    refine evx @A_l11_BoundGrows_L0.eq_1 ?_
    refine callG_con (l11_within_con steps 10 (by decide) (by decide)) rfl ?_
    refine evx wN ?_
    refine condC_intro (fun h => ?_) (fun h => ?_)
    · replace h := of_decide_eq_true h
      have hin := tryP_inv hp hi (by omega)
      have hzx := hi.ok.n.rk
      have hx0 := hzx.2 0 (by omega)
      have hxl := hzx.1
      have hwi : IntKind.i64.wrap ((i : Int) + 1) = ((i + 1 : Nat) : Int) := by rw [wrapI (by omega) (by omega)]; omega
      refine ev ?_
      refine callG_con (r10_Try_con p x hp.ok hi.ok) rfl ?_
      have hb := fun y hy ht => taken_bok hp2 hi ht y w hy hwB
      generalize tryP p x = r at hin hb
      obtain ⟨sst, nd, tk, er, e⟩ := r
      simp only at hb hin
      refine ev ?_
      cases tk
      · refine ev ?_
        refine condC_intro (fun h2 => ?_) (fun h2 => ?_)
        · refine ev ?_
          exact endsT_rett rfl (by decide) (by simp [look])
        · refine ev ?_
          rw [hwi]
          exact ⟨c - 1, _, by omega, LeT.only (fun X => decide (X ≤ 6)) (fun _ h => h) rfl (by simp [kpS]) (by simp [kpS]), i + 1, sst, by omega, hin, rfl⟩
      · refine ev ?_
        have hbk := hb (x.n.z.getD 0 []) hx0 rfl
        obtain ⟨j, hj, hst⟩ := hbk.step
        have hs1 := bound_Step_con p nd (x.n.z.getD 0 []) w hbk
        have hok := bndP_grown p.t p.box nd.z (hW nd.step.toNat) (x.n.z.getD 0 []) w hwB (by rw [hst, Int.toNat_natCast]; exact hW_Pw j hj)
        have ehW : fop .div (FloatKind.nearest .f64 nd.step) 4742290407621132288 = hW nd.step.toNat := by rw [hst, Int.toNat_natCast]; exact hW_div j
        generalize bndP p.t p.box nd.z (hW nd.step.toNat) (x.n.z.getD 0 []) w = R at hs1 hok
        refine ⟨by omega, ?_⟩
        refine callSG_con (hs1) rfl ?_
        rcases hok with ⟨r2, n1, n2, n3, n4, n5, n6, n7, n8⟩ | ⟨r1, r2⟩
        · have hbp : Pw R.1.bound := Nat.le_of_lt n5
          have p0 : Pw 0 := Nat.zero_le _
          have p1 : Pw oneW := by unfold Pw; decide
          obtain ⟨hp0, hp9⟩ := hW_Pw j hj
          obtain ⟨f, v⟩ := Pw_pos hp9 hp0
          have ehh : hW nd.step.toNat = hW (2 ^ j) := by rw [hst, Int.toNat_natCast]
          have c2 : fcmp .ge R.1.bound (fop .add w R.1.jump) = true := (Pw_ge hbp (Pw_add hwB n1)).2 n7
          have c3 : fcmp .ge R.1.bound (fop .mul (hW nd.step.toNat) R.1.defect) = true := (Pw_ge hbp (by rw [ehh]; exact Pw_mul f (Nat.le_of_lt hp9) v n2)).2 n8
          have c4 : fcmp .ge R.1.growth 4607182418800017408 = true := (Pw_ge n3 p1).2 n4
          have c5 : fcmp .ge R.1.jump 0 = true := (Pw_ge n1 p0).2 (Nat.zero_le _)
          have c6 : fcmp .ge R.1.defect 0 = true := (Pw_ge n2 p0).2 (Nat.zero_le _)
          have c7 : fcmp .eq (fop .sub R.1.bound R.1.bound) 0 = true := by rw [finite_sub]; exact Pw_finite n5
          have c1 : fcmp .ge R.1.bound w = true := (Pw_ge (Nat.le_of_lt n5) hwB).2 n6
          rw [r2]
          refine evx (And.intro c1 (And.intro c2 (And.intro c3 (And.intro c4 (And.intro c5 (And.intro c6 ehW)))))) ?_
          refine callG_con (r1_Finite_con R.1.bound) rfl ?_
          refine evx c7 ?_
          refine condC_intro (fun h2 => ?_) (fun h2 => ?_)
          · refine ev ?_
            exact endsT_rett rfl (by decide) (by simp [look])
          · refine ev ?_
            rw [hwi]
            exact ⟨c - 1, _, by omega, LeT.only (fun X => decide (X ≤ 6)) (fun _ h => h) rfl (by simp [kpS]) (by simp [kpS]), i + 1, sst, by omega, hin, rfl⟩
        · obtain ⟨R1, R2⟩ := R
          simp only at r1 r2
          subst r1
          rcases r2 with rfl | rfl
          · simp -implicitDefEqProofs only [evI, hv, effC, reduceCtorEq, ↓reduceIte, n1_, n2_, n3_, n4_, n5_, i1_, i2_, i3_, i4_, i5_, i6_, i7_, Int.reduceBEq, Int.reduceBNe]
            refine condC_intro (fun h2 => ?_) (fun h2 => ?_)
            · refine ev ?_
              exact endsT_rett rfl (by decide) (by simp [look])
            · refine ev ?_
              rw [hwi]
              exact ⟨c - 1, _, by omega, LeT.only (fun X => decide (X ≤ 6)) (fun _ h => h) rfl (by simp [kpS]) (by simp [kpS]), i + 1, sst, by omega, hin, rfl⟩
          · simp -implicitDefEqProofs only [evI, hv, effC, reduceCtorEq, ↓reduceIte, n1_, n2_, n3_, n4_, n5_, i1_, i2_, i3_, i4_, i5_, i6_, i7_, Int.reduceBEq, Int.reduceBNe]
            refine condC_intro (fun h2 => ?_) (fun h2 => ?_)
            · refine ev ?_
              exact endsT_rett rfl (by decide) (by simp [look])
            · refine ev ?_
              rw [hwi]
              exact ⟨c - 1, _, by omega, LeT.only (fun X => decide (X ≤ 6)) (fun _ h => h) rfl (by simp [kpS]) (by simp [kpS]), i + 1, sst, by omega, hin, rfl⟩
    · replace h := of_decide_eq_false h
      refine ev ?_
      exact endsT_rett rfl (by decide) (by simp [look])
  · rw [decide_eq_false hfew]
    refine ev ?_
    exact endsT_rett rfl (by decide) (by simp [look])
end Go.Ab
