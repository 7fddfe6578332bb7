/- Part 14: CH, SH, SI, BM, BO, BN, SG. -/
import Derived.Test.YtloimimehbehoaaGreatGM
namespace Go.Ab
set_option linter.unusedSimpArgs false
set_option linter.unusedVariables false
open Go Go.Proofs
def A_r8_H : CA := (.seq (.reg [i_X 0 2 (.h (.mov (.k (.d (.flt 0)))))] [0]) (.seq (.reg [i_M 0 3 0, i_X 1 4 (.h (.i2f (.t 3))), i_X 2 5 (.h (.fbin .div (.t 4) (.k (.d (.flt 4742290407621132288))))), i_M 3 2 5] [2]) .ret))
theorem A_r8_H_comp : compF Tryz.prog 49 = some ⟨6, [(2, none)], A_r8_H.strip⟩ := by kernel_rfl
def A_r9_minus_L0 : CA := (.seq (.seq (.reg [i_M 0 7 6, i_M 1 8 0, i_X 2 9 (.h (.len (.t 8))), i_N 3 10 .lss 7 9] [0, 1, 5, 6, 10]) (.cond (.t 10) .skip (.exit 0))) (.seq (.block 1 (.reg [i_M 0 13 5, i_M 1 14 0, i_M 2 15 6, i_I 3 16 14 15 1, i_L 4 17 16 1, i_M 5 18 1, i_M 6 19 6, i_I 7 20 18 19 1, i_L 8 21 20 1, i_F 9 22 .sub 17 21, i_X 10 23 (.bslice [(.d (.flt 0))] 1 1 [(0, (1, (.t 22)))] 31), i_X 11 24 (.app (.t 13) (.t 23) 1 8), i_M 12 5 24] [0, 1, 5, 6])) (.reg [i_M 0 11 6, i_B 1 12 .add 11 1, i_M 2 6 12] [0, 1, 5, 6])))
def A_r9_minus : CA := (.seq (.reg [i_X 0 4 (.h (.mov (.k .nil)))] [0, 1]) (.seq (.reg [i_X 0 5 (.h (.mov (.k .nil)))] [0, 1, 5]) (.seq (.seq (.reg [i_K 0 6 0] [0, 1, 5, 6]) (.block 0 (.loop A_r9_minus_L0))) (.seq (.reg [i_M 0 25 5, i_M 1 4 25] [4]) .ret))))
theorem A_r9_minus_comp : compF Tryz.prog 67 = some ⟨26, [(4, none)], A_r9_minus.strip⟩ := by kernel_rfl
def A_r9_plus_L0 : CA := (.seq (.seq (.reg [i_M 0 7 6, i_M 1 8 0, i_X 2 9 (.h (.len (.t 8))), i_N 3 10 .lss 7 9] [0, 1, 5, 6, 10]) (.cond (.t 10) .skip (.exit 0))) (.seq (.block 1 (.reg [i_M 0 13 5, i_M 1 14 0, i_M 2 15 6, i_I 3 16 14 15 1, i_L 4 17 16 1, i_M 5 18 1, i_M 6 19 6, i_I 7 20 18 19 1, i_L 8 21 20 1, i_F 9 22 .add 17 21, i_X 10 23 (.bslice [(.d (.flt 0))] 1 1 [(0, (1, (.t 22)))] 31), i_X 11 24 (.app (.t 13) (.t 23) 1 8), i_M 12 5 24] [0, 1, 5, 6])) (.reg [i_M 0 11 6, i_B 1 12 .add 11 1, i_M 2 6 12] [0, 1, 5, 6])))
def A_r9_plus : CA := (.seq (.reg [i_X 0 4 (.h (.mov (.k .nil)))] [0, 1]) (.seq (.reg [i_X 0 5 (.h (.mov (.k .nil)))] [0, 1, 5]) (.seq (.seq (.reg [i_K 0 6 0] [0, 1, 5, 6]) (.block 0 (.loop A_r9_plus_L0))) (.seq (.reg [i_M 0 25 5, i_M 1 4 25] [4]) .ret))))
theorem A_r9_plus_comp : compF Tryz.prog 68 = some ⟨26, [(4, none)], A_r9_plus.strip⟩ := by kernel_rfl
def A_r9_left_L0 : CA := (.seq (.seq (.reg [i_M 0 18 13, i_M 1 19 4, i_X 2 20 (.h (.len (.t 19))), i_N 3 21 .lss 18 20] [1, 2, 3, 4, 5, 11, 12, 13, 21]) (.cond (.t 21) .skip (.exit 0))) (.seq (.block 1 (.seq (.reg [i_M 0 24 2, i_M 1 25 4, i_M 2 26 13, i_I 3 27 25 26 1, i_L 4 28 27 1, i_F 5 29 .mul 24 28, i_M 6 14 29] [1, 2, 3, 4, 5, 11, 12, 13, 14]) (.reg [i_M 0 30 11, i_M 1 31 1, i_X 2 32 (.h (.idx (.t 31) (kI 0) 1)), i_L 3 33 32 1, i_M 4 34 13, i_I 5 35 33 34 1, i_L 6 36 35 1, i_M 7 37 14, i_F 8 38 .add 36 37, i_X 9 39 (.bslice [(.d (.flt 0))] 1 1 [(0, (1, (.t 38)))] 31), i_X 10 40 (.app (.t 30) (.t 39) 1 8), i_M 11 11 40] [1, 2, 3, 4, 5, 11, 12, 13]))) (.reg [i_M 0 22 13, i_B 1 23 .add 22 1, i_M 2 13 23] [1, 2, 3, 4, 5, 11, 12, 13])))
def A_r9_left_L1 : CA := (.seq (.seq (.reg [i_M 0 44 16, i_M 1 45 4, i_X 2 46 (.h (.len (.t 45))), i_N 3 47 .lss 44 46] [1, 3, 4, 12, 15, 16, 47]) (.cond (.t 47) .skip (.exit 2))) (.seq (.block 3 (.seq (.reg [i_M 0 50 3, i_M 1 51 15, i_M 2 52 16, i_I 3 53 51 52 1, i_L 4 54 53 1, i_F 5 55 .mul 50 54, i_M 6 17 55] [1, 3, 4, 12, 15, 16, 17]) (.reg [i_M 0 56 12, i_M 1 57 17, i_M 2 58 1, i_X 3 59 (.h (.idx (.t 58) (kI 1) 1)), i_L 4 60 59 1, i_M 5 61 16, i_I 6 62 60 61 1, i_L 7 63 62 1, i_F 8 64 .sub 57 63, i_X 9 65 (.bslice [(.d (.flt 0))] 1 1 [(0, (1, (.t 64)))] 31), i_X 10 66 (.app (.t 56) (.t 65) 1 8), i_M 11 12 66] [1, 3, 4, 12, 15, 16]))) (.reg [i_M 0 48 16, i_B 1 49 .add 48 1, i_M 2 16 49] [1, 3, 4, 12, 15, 16])))
def A_r9_left : CA := (.seq (.reg [i_X 0 5 (.box (.t 0) 3 28), i_X 1 10 (.h (.mov (.k .nil)))] [1, 2, 3, 4, 5]) (.seq (.reg [i_X 0 11 (.h (.mov (.k .nil))), i_X 1 12 (.h (.mov (.k .nil)))] [1, 2, 3, 4, 5, 11, 12]) (.seq (.seq (.reg [i_K 0 13 0] [1, 2, 3, 4, 5, 11, 12, 13]) (.block 0 (.loop A_r9_left_L0))) (.seq (.reg [i_A 0 41 5 3, i_M 1 42 11, i_X 2 43 (.callA (kF 60) [(.t 41), (.t 42)]), i_M 3 15 43] [1, 3, 4, 12, 15]) (.seq (.seq (.reg [i_K 0 16 0] [1, 3, 4, 12, 15, 16]) (.block 2 (.loop A_r9_left_L1))) (.seq (.reg [i_M 0 67 12, i_M 1 10 67] [10]) .ret))))))
theorem A_r9_left_comp : compF Tryz.prog 65 = some ⟨68, [(10, none)], A_r9_left.strip⟩ := by kernel_rfl
theorem r8_H_con (step : Int) : Con Tryz.prog 49 [fI step] (fl (fop .div (FloatKind.nearest .f64 step) 4742290407621132288)) := by
  refine Con_introA A_r8_H_comp rfl mixed ?_
  refine evx @A_r8_H.eq_1 ?_
  exact endsT_rett rfl (by decide) (by simp [look])
theorem r3_one_con (k : Int) (x y : Nat) (hk : k = 2 ∨ k = 3 ∨ k = 4 ∨ k = 5) : Con Tryz.prog 115 [fI k, fl x, fl y] (fl (if k = 2 then fop .add x y else if k = 3 then fop .sub x y else if k = 4 then fop .mul x y else fop .div x y)) := by
  refine Con_introA A_r3_one_comp rfl mixed ?_
  refine evx @A_r3_one.eq_1 ?_
  rcases hk with rfl | rfl | rfl | rfl
  · refine evb ?_
    exact endsT_rett rfl (by decide) (by simp [look])
  · refine evb ?_
    exact endsT_rett rfl (by decide) (by simp [look])
  · refine evb ?_
    exact endsT_rett rfl (by decide) (by simp [look])
  · refine evb ?_
    exact endsT_rett rfl (by decide) (by simp [look])
def padR (t : Tp) (x : List Nat) (i : Nat) : List Nat := regs t x i ++ List.replicate (t.ops.length - i) 0
theorem padR_len (t : Tp) (x : List Nat) (i : Nat) (hi : i ≤ t.ops.length) : (padR t x i).length = t.ops.length := by simp [padR, regs_len]; omega
theorem padR_set (t : Tp) (x : List Nat) (i : Nat) (hi : i < t.ops.length) : (padR t x i).set i (opV (t.ops.getD i ⟨0, 0, 0, 0⟩) x (regs t x i)) = padR t x (i + 1) := by
  have hl := regs_len t x i
  unfold padR
  rw [List.set_append_right _ _ (by omega), hl, Nat.sub_self]
  obtain ⟨m, hm⟩ : ∃ m, t.ops.length - i = m + 1 := ⟨t.ops.length - i - 1, by omega⟩
  rw [hm, show t.ops.length - (i + 1) = m from by omega, List.replicate_succ, List.set_cons_zero]
  simp [regs]
theorem padR_at (t : Tp) (x : List Nat) (i j : Nat) (hj : j < i) : (padR t x i).getD j 0 = (regs t x i).getD j 0 := by
  have hl := regs_len t x i
  unfold padR
  rw [List.getD_eq_getElem?_getD, List.getD_eq_getElem?_getD, List.getElem?_append_left (by omega)]
set_option maxRecDepth 8000 in
theorem r3_Eval_ac (t : Tp) (x : List Nat) (ht : Tok t) (hx : x.length = t.n) : AC Tryz.prog 60 [tapeV t, .d (rowD x)] [] [(0, [rowV (evalT t x)])] (.sl 0 0 0 t.n 1 t.n) := by
  refine AC_row0 (X := 100) ?_
  refine AC_introA A_r3_Eval_comp rfl mixed (fun _ => False) (by simp [get_nil]) ?_
  have hlen := ht.len
  refine evx (And.intro @A_r3_Eval.eq_1 @opsD.eq_1) ?_
  (repeat (with_reducible refine And.intro (by omega) ?_))
  have hp0 : List.replicate t.ops.length 0 = padR t x 0 := by simp [padR, regs]
  rw [hp0]
  refine WA_forW (n := t.ops.length) (fun c s => ∃ i, c + i = t.ops.length ∧ s = ⟨[(1, .d (rowD x)), (2, .ptr 0 0 0 3), (5, .sl 4 0 0 t.ops.length 1 t.ops.length), (6, fI i)],
      [(4, [rowV (padR t x i)]), (0, [[fI t.n, .d (opsD t.ops), .d (rowI t.out)]])]⟩) (Le.refl _) ⟨0, by omega, rfl⟩ ?_
  rintro c s ⟨i, hc, rfl⟩
  have hl := padR_len t x i (by omega)
  refine evx (And.intro @A_r3_Eval_L0.eq_1 @opsD.eq_1) ?_
  refine condC_intro (fun h => ?_) (fun h => ?_)
  · replace h := of_decide_eq_true h
    have hop := ht.op i h
    have hset := padR_set t x i h
    generalize ho : t.ops.getD i ⟨0, 0, 0, 0⟩ = o at hop hset
    refine evx (And.intro @opG.eq_1 ho) ?_
    (repeat (with_reducible refine And.intro (by omega) ?_))
    rcases hop with hk | ⟨hk, ha⟩ | ⟨hk, ha, hb⟩
    · have hvv : opV o x (regs t x i) = o.c := by simp [opV, hk]
      rw [hvv] at hset
      refine evbx hk ?_
      (repeat (with_reducible refine And.intro (by omega) ?_))
      rw [wrapI (by omega) (by omega), hset]
      rw [show List.map fl (padR t x (i + 1)) = rowV (padR t x (i + 1)) from rfl]
      exact ⟨c - 1, _, by omega, LeT.only (fun X => decide (X ≤ 4)) (fun _ h => h) rfl (by simp [kpS]) (by simp [kpS]), i + 1, by omega, rfl⟩
    · have hvv : opV o x (regs t x i) = x.getD o.a.toNat 0 := by simp [opV, hk]
      rw [hvv] at hset
      refine evbx hk ?_
      (repeat (with_reducible refine And.intro (by omega) ?_))
      rw [wrapI (by omega) (by omega), hset]
      rw [show List.map fl (padR t x (i + 1)) = rowV (padR t x (i + 1)) from rfl]
      exact ⟨c - 1, _, by omega, LeT.only (fun X => decide (X ≤ 4)) (fun _ h => h) rfl (by simp [kpS]) (by simp [kpS]), i + 1, by omega, rfl⟩
    · have k0 : (o.k == 0) = false := by simp; omega
      have k1 : (o.k == 1) = false := by simp; omega
      have ga : (rowV (padR t x i)).getD o.a.toNat .any = fl ((regs t x i).getD o.a.toNat 0) := by
        rw [← padR_at t x i _ (by omega)]; exact getD_map_fl _ _ (by omega)
      have gb : (rowV (padR t x i)).getD o.b.toNat .any = fl ((regs t x i).getD o.b.toNat 0) := by
        rw [← padR_at t x i _ (by omega)]; exact getD_map_fl _ _ (by omega)
      have hvv : opV o x (regs t x i) = (if o.k = 2 then fop .add ((regs t x i).getD o.a.toNat 0) ((regs t x i).getD o.b.toNat 0) else if o.k = 3 then fop .sub ((regs t x i).getD o.a.toNat 0) ((regs t x i).getD o.b.toNat 0) else if o.k = 4 then fop .mul ((regs t x i).getD o.a.toNat 0) ((regs t x i).getD o.b.toNat 0) else fop .div ((regs t x i).getD o.a.toNat 0) ((regs t x i).getD o.b.toNat 0)) := by
        unfold opV; rw [if_neg (by omega), if_neg (by omega)]
      have hone := r3_one_con o.k ((regs t x i).getD o.a.toNat 0) ((regs t x i).getD o.b.toNat 0) hk
      rw [← hvv] at hone
      refine evx (And.intro k0 (And.intro k1 (And.intro ga gb))) ?_
      (repeat (with_reducible refine And.intro (by omega) ?_))
      refine callG_con (hone) rfl ?_
      refine ev ?_
      (repeat (with_reducible refine And.intro (by omega) ?_))
      rw [wrapI (by omega) (by omega), hset]
      rw [show List.map fl (padR t x (i + 1)) = rowV (padR t x (i + 1)) from rfl]
      exact ⟨c - 1, _, by omega, LeT.only (fun X => decide (X ≤ 4)) (fun _ h => h) rfl (by simp [kpS]) (by simp [kpS]), i + 1, by omega, rfl⟩
  · replace h := of_decide_eq_false h
    have e : i = t.ops.length := by omega
    subst e
    have hfull : padR t x t.ops.length = regs t x t.ops.length := by simp [padR]
    rw [hfull] at hl ⊢
    have hn := ht.n
    refine ev ?_
    refine WA_forW (n := t.n) (fun c s => ∃ i, c + i = t.n ∧ s = ⟨[(2, .ptr 0 0 0 3), (5, .sl 4 0 0 t.ops.length 1 t.ops.length), (8, .sl 100 0 0 i 1 i), (9, fI i)],
      [(100, [rowV (tabR (fun i => (regs t x t.ops.length).getD (t.out.getD i 0).toNat 0) i)]), (4, [rowV (regs t x t.ops.length)]), (0, [[fI t.n, .d (opsD t.ops), .d (rowI t.out)]])]⟩)
      (s0 := ⟨_, _⟩) (LeT.nilrow (X := 100) (esz := 1) (as' := [(2, .ptr 0 0 0 3), (5, .sl 4 0 0 t.ops.length 1 t.ops.length), (8, .sl 100 0 0 0 1 0), (9, fI 0)]) (by simp [fam_cons, fam_nil]) (fun h => h) fun i => ?_) ⟨0, by omega, rfl⟩ ?_
    · simp only [look]
      repeat' split
      all_goals simp
    rintro c s ⟨i, hc, rfl⟩
    have hl2 := tabR_len (fun i => (regs t x t.ops.length).getD (t.out.getD i 0).toNat 0) i
    refine evx @A_r3_Eval_L1.eq_1 ?_
    refine condC_intro (fun h2 => ?_) (fun h2 => ?_)
    · replace h2 := of_decide_eq_true h2
      have ho := ht.out i h2
      have hol := ht.outl
      have ga : (rowV (regs t x t.ops.length)).getD (t.out.getD i 0).toNat .any = fl ((regs t x t.ops.length).getD (t.out.getD i 0).toNat 0) := getD_map_fl _ _ (by omega)
      refine evx ga ?_
      (repeat (with_reducible refine And.intro (by omega) ?_))
      have e2 : rowV (tabR (fun i => (regs t x t.ops.length).getD (t.out.getD i 0).toNat 0) i) ++ [fl ((regs t x t.ops.length).getD (t.out.getD i 0).toNat 0)] = rowV (tabR (fun i => (regs t x t.ops.length).getD (t.out.getD i 0).toNat 0) (i + 1)) := (tabR_succ _ _).symm
      rw [wrapI (by omega) (by omega), e2]
      exact ⟨c - 1, _, by omega, LeT.only (fun X => decide (X ≤ 100)) (fun _ h => h) rfl (by simp [kpS]) (by simp [kpS]), i + 1, by omega, rfl⟩
    · replace h2 := of_decide_eq_false h2
      have e : i = t.n := by omega
      subst e
      refine ev ?_
      exact endsT_only (fun X => X == 100) (fun _ h => h) (resV_tmpI (t := 4) (by decide) rfl) rfl (by simp [kpS]) (by simp [kpS])
theorem r9_minus_ac (a b : List Nat) (n : Nat) (ha : a.length = n) (hb : b.length = n) (hn : n < 2 ^ 40) : AC Tryz.prog 67 [.d (rowD a), .d (rowD b)] [] [(0, [rowV (tabR (fun i => fop .sub (a.getD i 0) (b.getD i 0)) n)])] (.sl 0 0 0 n 1 n) := by
  refine AC_row0 (X := 100) ?_
  refine AC_introA A_r9_minus_comp rfl mixed (fun _ => False) (by simp [get_nil]) ?_
  refine evx @A_r9_minus.eq_1 ?_
  refine WA_forW (n := n) (fun c s => ∃ i, c + i = n ∧ s = ⟨[(0, .d (rowD a)), (1, .d (rowD b)), (5, .sl 100 0 0 i 1 i), (6, fI i)], [(100, [rowV (tabR (fun i => fop .sub (a.getD i 0) (b.getD i 0)) i)])]⟩)
    (s0 := ⟨_, _⟩) (LeT.nilrow (X := 100) (esz := 1) (as' := [(0, .d (rowD a)), (1, .d (rowD b)), (5, .sl 100 0 0 0 1 0), (6, fI 0)]) (by simp [fam_nil]) (fun h => h) fun i => ?_) ⟨0, by omega, rfl⟩ ?_
  · simp only [look]
    repeat' split
    all_goals simp [rowD]
  rintro c s ⟨i, hc, rfl⟩
  have hl := tabR_len (fun i => fop .sub (a.getD i 0) (b.getD i 0)) i
  refine evx @A_r9_minus_L0.eq_1 ?_
  refine condC_intro (fun h => ?_) (fun h => ?_)
  · replace h := of_decide_eq_true h
    refine ev ?_
    (repeat (with_reducible refine And.intro (by omega) ?_))
    have e2 : rowV (tabR (fun i => fop .sub (a.getD i 0) (b.getD i 0)) i) ++ [fl (fop .sub (a.getD i 0) (b.getD i 0))] = rowV (tabR (fun i => fop .sub (a.getD i 0) (b.getD i 0)) (i + 1)) := (tabR_succ _ _).symm
    rw [wrapI (by omega) (by omega), e2]
    exact ⟨c - 1, _, by omega, LeT.only (fun X => decide (X ≤ 100)) (fun _ h => h) rfl (by simp [kpS]) (by simp [kpS]), i + 1, by omega, rfl⟩
  · replace h := of_decide_eq_false h
    have e : i = n := by omega
    subst e
    refine ev ?_
    exact endsT_only (fun X => X == 100) (fun _ h => h) (resV_tmpI (t := 4) (by decide) rfl) rfl (by simp [kpS]) (by simp [kpS])
theorem r9_plus_ac (a b : List Nat) (n : Nat) (ha : a.length = n) (hb : b.length = n) (hn : n < 2 ^ 40) : AC Tryz.prog 68 [.d (rowD a), .d (rowD b)] [] [(0, [rowV (tabR (fun i => fop .add (a.getD i 0) (b.getD i 0)) n)])] (.sl 0 0 0 n 1 n) := by
  refine AC_row0 (X := 100) ?_
  refine AC_introA A_r9_plus_comp rfl mixed (fun _ => False) (by simp [get_nil]) ?_
  refine evx @A_r9_plus.eq_1 ?_
  refine WA_forW (n := n) (fun c s => ∃ i, c + i = n ∧ s = ⟨[(0, .d (rowD a)), (1, .d (rowD b)), (5, .sl 100 0 0 i 1 i), (6, fI i)], [(100, [rowV (tabR (fun i => fop .add (a.getD i 0) (b.getD i 0)) i)])]⟩)
    (s0 := ⟨_, _⟩) (LeT.nilrow (X := 100) (esz := 1) (as' := [(0, .d (rowD a)), (1, .d (rowD b)), (5, .sl 100 0 0 0 1 0), (6, fI 0)]) (by simp [fam_nil]) (fun h => h) fun i => ?_) ⟨0, by omega, rfl⟩ ?_
  · simp only [look]
    repeat' split
    all_goals simp [rowD]
  rintro c s ⟨i, hc, rfl⟩
  have hl := tabR_len (fun i => fop .add (a.getD i 0) (b.getD i 0)) i
  refine evx @A_r9_plus_L0.eq_1 ?_
  refine condC_intro (fun h => ?_) (fun h => ?_)
  · replace h := of_decide_eq_true h
    refine ev ?_
    (repeat (with_reducible refine And.intro (by omega) ?_))
    have e2 : rowV (tabR (fun i => fop .add (a.getD i 0) (b.getD i 0)) i) ++ [fl (fop .add (a.getD i 0) (b.getD i 0))] = rowV (tabR (fun i => fop .add (a.getD i 0) (b.getD i 0)) (i + 1)) := (tabR_succ _ _).symm
    rw [wrapI (by omega) (by omega), e2]
    exact ⟨c - 1, _, by omega, LeT.only (fun X => decide (X ≤ 100)) (fun _ h => h) rfl (by simp [kpS]) (by simp [kpS]), i + 1, by omega, rfl⟩
  · replace h := of_decide_eq_false h
    have e : i = n := by omega
    subst e
    refine ev ?_
    exact endsT_only (fun X => X == 100) (fun _ h => h) (resV_tmpI (t := 4) (by decide) rfl) rfl (by simp [kpS]) (by simp [kpS])
set_option maxRecDepth 8000 in
theorem r9_left_ac (t : Tp) (z : List (List Nat)) (l : List Nat) (h : Nat) (w d : List Nat) (ok : Sok t z l w d) : AC Tryz.prog 65 [tapeV t, .d (rowsD z), fl (l.getD 0 0), fl h, .d (rowD d)] [] [(0, [rowV (gS t z l h d)])] (.sl 0 0 0 t.n 1 t.n) := by
  obtain ⟨ht, hz, hzl, hl, hw, hd⟩ := ok
  have hn := ht.n
  have hz0 := hzl 0 (by omega)
  have hz1 := hzl 1 (by omega)
  refine AC_row0 (X := 200) ?_
  refine AC_introA A_r9_left_comp rfl mixed (fun _ => False) (by simp [get_nil]) ?_
  refine evx @A_r9_left.eq_1 ?_
  generalize hfy : (fun i => fop .add ((z.getD 0 []).getD i 0) (fop .mul (l.getD 0 0) (d.getD i 0))) = fy
  have fy' : ∀ i, fy i = fop .add ((z.getD 0 []).getD i 0) (fop .mul (l.getD 0 0) (d.getD i 0)) := fun i => by rw [← hfy]
  have hy : yS z l d t.n = tabR fy t.n := by unfold yS; rw [hfy]
  refine WA_forW (n := t.n) (fun c s => ∃ i, c + i = t.n ∧ s = ⟨[(1, .d (rowsD z)), (2, fl (l.getD 0 0)), (3, fl h), (4, .d (rowD d)), (5, .ptr 0 0 0 3), (11, .sl 101 0 0 i 1 i), (12, .nil), (13, fI i)], [(101, [rowV (tabR fy i)]), (0, [[fI t.n, .d (opsD t.ops), .d (rowI t.out)]])]⟩)
    (s0 := ⟨_, _⟩) (LeT.nilrow (X := 101) (esz := 1) (as' := [(1, .d (rowsD z)), (2, fl (l.getD 0 0)), (3, fl h), (4, .d (rowD d)), (5, .ptr 0 0 0 3), (11, .sl 101 0 0 0 1 0), (12, .nil), (13, fI 0)]) (by simp [fam_cons, fam_nil]) (fun h => h) fun i => ?_) ⟨0, by omega, rfl⟩ ?_
  · simp only [look]
    repeat' split
    all_goals simp [rowD, rowsD]
  rintro c s ⟨i, hc, rfl⟩
  have hl1 := tabR_len fy i
  refine evx @A_r9_left_L0.eq_1 ?_
  refine condC_intro (fun h1 => ?_) (fun h1 => ?_)
  · replace h1 := of_decide_eq_true h1
    refine ev ?_
    (repeat (with_reducible refine And.intro (by omega) ?_))
    have e2 : rowV (tabR fy i) ++ [fl (fop .add ((z.getD 0 []).getD i 0) (fop .mul (l.getD 0 0) (d.getD i 0)))] = rowV (tabR fy (i + 1)) := by rw [← fy']; exact (tabR_succ _ _).symm
    rw [wrapI (by omega) (by omega), e2]
    exact ⟨c - 1, _, by omega, LeT.only (fun X => decide (X ≤ 101)) (fun _ h => h) rfl (by simp [kpS]) (by simp [kpS]), i + 1, by omega, rfl⟩
  · replace h1 := of_decide_eq_false h1
    have e : i = t.n := by omega
    subst e
    refine ev ?_
    refine callG_row 110 [tapeV t, .d (rowD (tabR fy t.n))] (by simp [Heap.next]) (r3_Eval_ac t (tabR fy t.n) ht hl1) ⟨.aggs ⟨.bare _, .bare _, .bare _, trivial⟩, snp_row rfl hl1 rfl, trivial⟩ ?_
    have hfl := evalT_len t (tabR fy t.n)
    generalize hf : evalT t (tabR fy t.n) = f at hfl
    generalize hfg : (fun i => fop .sub (fop .mul h (f.getD i 0)) ((z.getD 1 []).getD i 0)) = fg
    have fg' : ∀ i, fg i = fop .sub (fop .mul h (f.getD i 0)) ((z.getD 1 []).getD i 0) := fun i => by rw [← hfg]
    have hg : gS t z l h d = tabR fg t.n := by unfold gS; rw [hy, hf, hfg]
    rw [hg]
    refine ev ?_
    refine WA_forW (n := t.n) (fun c s => ∃ i, c + i = t.n ∧ s = ⟨[(1, .d (rowsD z)), (3, fl h), (4, .d (rowD d)), (12, .sl 200 0 0 i 1 i), (15, .sl 110 0 0 t.n 1 t.n), (16, fI i)], [(200, [rowV (tabR fg i)]), (110, [rowV f]), (101, [rowV (tabR fy t.n)]), (0, [[fI t.n, .d (opsD t.ops), .d (rowI t.out)]])]⟩)
      (s0 := ⟨_, _⟩) (LeT.nilrow (X := 200) (esz := 1) (as' := [(1, .d (rowsD z)), (3, fl h), (4, .d (rowD d)), (12, .sl 200 0 0 0 1 0), (15, .sl 110 0 0 t.n 1 t.n), (16, fI 0)]) (by simp [fam_cons, fam_nil]) (fun h => h) fun i => ?_) ⟨0, by omega, rfl⟩ ?_
    · simp only [look]
      repeat' split
      all_goals simp [rowD, rowsD]
    rintro c s ⟨i, hc, rfl⟩
    have hl2 := tabR_len fg i
    refine evx @A_r9_left_L1.eq_1 ?_
    refine condC_intro (fun h2 => ?_) (fun h2 => ?_)
    · replace h2 := of_decide_eq_true h2
      have ga : (rowV f).getD i .any = fl (f.getD i 0) := getD_map_fl _ _ (by omega)
      refine evx ga ?_
      (repeat (with_reducible refine And.intro (by omega) ?_))
      have e2 : rowV (tabR fg i) ++ [fl (fop .sub (fop .mul h (f.getD i 0)) ((z.getD 1 []).getD i 0))] = rowV (tabR fg (i + 1)) := by rw [← fg']; exact (tabR_succ _ _).symm
      rw [wrapI (by omega) (by omega), e2]
      exact ⟨c - 1, _, by omega, LeT.only (fun X => decide (X ≤ 110) || X == 200) (fun _ h => h) rfl (by simp [kpS]) (by simp [kpS]), i + 1, by omega, rfl⟩
    · replace h2 := of_decide_eq_false h2
      have e : i = t.n := by omega
      subst e
      refine ev ?_
      exact endsT_only (fun X => X == 200) (fun _ h => h) (resV_tmpI (t := 10) (by decide) rfl) rfl (by simp [kpS]) (by simp [kpS])
end Go.Ab
namespace Go.Ab
set_option linter.unusedSimpArgs false
set_option linter.unusedVariables false
open Nat renaming reduceEqDiff → n1_, reduceAdd → n2_, reduceMul → n3_, reduceLT → n4_, reduceLeDiff → n5_
open Int renaming reduceToNat → i1_, reduceAdd → i2_, reduceSub → i3_, reduceMul → i4_, reduceNeg → i5_, reduceLT → i6_, reduceLE → i7_
open Go Go.Proofs
set_option maxRecDepth 8000 in
theorem r8_copied_ac (A : List (List Nat)) (m n : Nat) (hA : Rk m n A) (hm : m < 2 ^ 30) (hn : n < 2 ^ 40) :
    AC Tryz.prog 61 [.d (rowsD A)] [] [(200, A.map rowV), (100, [hdo 200 0 m n])] (.sl 100 0 0 m 1 m) := by
  obtain ⟨hl, hr⟩ := hA
  refine AC_introA A_r8_copied_comp rfl mixed (fun _ => False) (by simp [get_nil]) ?_
  refine evx @A_r8_copied.eq_1 ?_
  refine WA_forW (n := m) (fun c s => ∃ i, c + i = m ∧ s = ⟨[(0, .d (rowsD A)), (3, .sl 100 0 0 i 1 i), (4, fI i)], [(200, (A.take i).map rowV), (100, [hdo 200 0 i n])]⟩)
    (s0 := ⟨_, _⟩) (Le.trans (LeT.nilrow (X := 100) (esz := 1) (as' := [(0, .d (rowsD A)), (3, .sl 100 0 0 0 1 0), (4, fI 0)]) rfl (fun h => h) fun i => ?_) (LeT.empty (X := 200) (L1 := []) (by simp [fam_cons, fam_nil]))) ⟨0, by omega, rfl⟩ ?_
  · simp only [look]
    repeat' split
    all_goals simp [rowsD]
  rintro c s ⟨i, hc, rfl⟩
  refine evx @A_r8_copied_L0.eq_1 ?_
  refine condC_intro (fun h => ?_) (fun h => ?_)
  · replace h := of_decide_eq_true h
    have hin : i < m := by omega
    have g1 := hr i hin
    refine evx (And.intro @Nat.zero_mul @Nat.zero_le) ?_
    (repeat (with_reducible refine And.intro (by omega) ?_))
    rw [wrapI (by omega) (by omega), g1]
    have hk1 : ∀ L : Heap, L.fam 200 = some ((A.take i).map rowV) → KpA L (hdo 200 0 i n) := fun L hL => KpA_hdoF hL (by simp; omega)
    have htk := take_fam A i h
    refine ⟨c - 1, _, by omega, ?_, i + 1, by omega, rfl⟩
    rw [← htk]
    generalize hB : A.take i = B at hk1
    have e2 : (B.map rowV).length = i := by rw [← hB]; simp; omega
    generalize hxs : A.getD i [] = xs
    refine Le.trans (LeT.only (L' := [(202, [rowV xs]), (200, B.map rowV), (100, [hdo 200 0 i n ++ [.sl 202 0 0 n 1 n]])]) (fun X => X != 208) (fun _ h => h) rfl (by simp (maxDischargeDepth := 6) [kpS, fam_cons, fam_nil]) (by simp (maxDischargeDepth := 6) [kpS, fam_cons, fam_nil, hk1])) ?_
    have := LeT.absorb (N := fun _ => False) (nt := 21) (Y := 202) (X := 200) (cells := rowV xs) (fam := B.map rowV) (L := [(100, [hdo 200 0 i n ++ [.sl 202 0 0 n 1 n]])])
      (sls := [(0, .d (rowsD A)), (3, .sl 100 0 0 (i + 1) 1 (i + 1)), (4, fI ((i : Int) + 1))]) (by decide) (by simp [fam_cons, fam_nil]) (by simp [fam_cons, fam_nil]) (fun h => h)
    have e3 : Heap.renH (absF 202 200 i) [(100, [hdo 200 0 i n ++ [.sl 202 0 0 n 1 n]])] = [(100, [hdo 200 0 (i + 1) n])] := by
      simp only [Heap.renH, List.map_cons, List.map_nil, hdo_absorbL 202 200 _ _ (by decide)]
    rw [e2, ren_fam, ren_rowV, e3] at this
    exact this
  · replace h := of_decide_eq_false h
    refine ev ?_
    obtain rfl : m = i := by omega
    have e : A.take m = A := List.take_of_length_le (by omega)
    rw [e]
    have hk1 : ∀ L : Heap, L.fam 200 = some (A.map rowV) → KpA L (hdo 200 0 m n) := fun L hL => KpA_hdoF hL (by omega)
    exact endsT_only (fun X => decide (X ≤ 200)) (fun _ h => h) (resV_tmpI (t := 2) (by decide) rfl) rfl (by simp (maxDischargeDepth := 6) [kpS, fam_cons, fam_nil]) (by simp (maxDischargeDepth := 6) [kpS, fam_cons, fam_nil, hk1])
theorem r1_Scale_con (x : Nat) (k : Int) (hk : -1000000 < k ∧ k < 1000000) : Con Tryz.prog 121 [fl x, fI k] (fl (scl x k)) := by
  refine Con_introA A_r1_Scale_comp rfl mixed ?_
  refine evx @A_r1_Scale.eq_1 ?_
  refine callG_con (math_Ldexp_all x k hk) rfl ?_
  refine ev ?_
  exact endsT_rett rfl (by decide) (by simp [look])
set_option maxRecDepth 8000 in
theorem r8_Correct_con (A : List (List Nat)) (m n : Nat) (hA : Rk m n A) (hm : m < 1000) (hn : n < 2 ^ 40) (l d : List Nat) (hl : l.length = m) (hd : d.length = n) :
    Con Tryz.prog 72 [.d (rowsD A), .d (rowD l), .d (rowD d)] (.d (rowsD (corrP A l d m n))) := by
  refine Con_introA A_r8_Correct_comp rfl mixed ?_
  refine evx @A_r8_Correct.eq_1 ?_
  refine callG_rows 0 [.d (rowsD A)] (by simp [Heap.next]) (r8_copied_ac A m n hA (by omega) hn) ⟨.bare _, trivial⟩ ?_
  refine ev ?_
  unfold corrP
  generalize hg : (fun k i x => fop .add x (fop .mul (l.getD k 0) (d.getD i 0))) = g
  have hg' : ∀ k i x, fop .add x (fop .mul (l.getD k 0) (d.getD i 0)) = g k i x := fun k i x => by rw [← hg]
  refine WA_for (n := m) (fun c s => ∃ j, c + j = m ∧ s = ⟨[(1, .d (rowD l)), (2, .d (rowD d)), (7, .sl 100 0 0 m 1 m), (8, fI j)], [(200, (mapJ g A n j).map rowV), (100, [hdo 200 0 m n])]⟩) ⟨0, by omega, rfl⟩ ?_
  rintro c s ⟨j, hc, rfl⟩
  have hZ := mapJ_rk g hA n j
  refine evx @A_r8_Correct_L0.eq_1 ?_
  refine condC_intro (fun hj => ?_) (fun hj => ?_)
  · replace hj := of_decide_eq_true hj
    refine ev ?_
    refine WA_for (n := n) (fun c s => ∃ i, c + i = n ∧ s = ⟨[(1, .d (rowD l)), (2, .d (rowD d)), (7, .sl 100 0 0 m 1 m), (8, fI j), (9, fI i)], [(200, (mapI g (mapJ g A n j) j i).map rowV), (100, [hdo 200 0 m n])]⟩) ⟨0, by omega, rfl⟩ ?_
    rintro c' s ⟨i, hc', rfl⟩
    have hZ2 := mapI_rk g hZ j i
    have hnx : mapI g (mapJ g A n j) j (i + 1) = up2 (mapI g (mapJ g A n j) j i) j i (g j i (at2 (mapI g (mapJ g A n j) j i) j i)) := rfl
    generalize hZe : mapI g (mapJ g A n j) j i = Z at hZ2 hnx
    have hzl := hZ2.1
    have hzj := hZ2.2 j hj
    refine evx @A_r8_Correct_L1.eq_1 ?_
    refine condC_intro (fun hi => ?_) (fun hi => ?_)
    · replace hi := of_decide_eq_true hi
      have gk := getD_map_fl (Z.getD j []) i (by omega)
      simp -implicitDefEqProofs only [evI, hv, effC, reduceCtorEq, ↓reduceIte, n1_, n2_, n3_, n4_, n5_, i1_, i2_, i3_, i4_, i5_, i6_, i7_, hdo_getD 200 0 m n j hj, getE Z j (by omega), gk, setE, hg']
      (repeat (with_reducible refine And.intro (by omega) ?_))
      rw [wrapI (by omega) (by omega)]
      refine ⟨c' - 1, by omega, i + 1, by omega, ?_⟩
      rw [hnx]
      rfl
    · replace hi := of_decide_eq_false hi
      have e : i = n := by omega
      subst e
      refine ev ?_
      rw [wrapI (by omega) (by omega), ← hZe]
      exact ⟨c - 1, by omega, j + 1, by omega, rfl⟩
  · replace hj := of_decide_eq_false hj
    have e : j = m := by omega
    subst e
    refine ev ?_
    exact endsT_le (.sl 100 0 0 j 1 j) (fun _ h => h) (resV_tmpI (t := 6) (by decide) rfl) (Fz_rk (X := 200) hZ rfl rfl rfl rfl)
set_option maxRecDepth 8000 in
theorem r8_Rescale_ac (A : List (List Nat)) (m n : Nat) (hA : Rk m n A) (hm : m < 1000) (hn : n < 2 ^ 40) (k : Int) (hk : -10 ≤ k ∧ k ≤ 10) :
    AC Tryz.prog 69 [.d (rowsD A), fI k] [] [(200, (scaleP A k m n).map rowV), (100, [hdo 200 0 m n])] (.sl 100 0 0 m 1 m) := by
  refine AC_introA A_r8_Rescale_comp rfl mixed (fun _ => False) (by simp [get_nil]) ?_
  refine evx @A_r8_Rescale.eq_1 ?_
  refine callG_rows 0 [.d (rowsD A)] (by simp [Heap.next]) (r8_copied_ac A m n hA (by omega) hn) ⟨.bare _, trivial⟩ ?_
  refine ev ?_
  unfold scaleP
  generalize hg : (fun (j : Nat) (_ : Nat) x => scl x ((j : Int) * k)) = g
  have hg' : ∀ (j i : Nat) x, scl x ((j : Int) * k) = g j i x := fun j i x => by rw [← hg]
  refine WA_for (n := m) (fun c s => ∃ j, c + j = m ∧ s = ⟨[(1, fI k), (5, .sl 100 0 0 m 1 m), (6, fI j)], [(200, (mapJ g A n j).map rowV), (100, [hdo 200 0 m n])]⟩) ⟨0, by omega, rfl⟩ ?_
  rintro c s ⟨j, hc, rfl⟩
  have hZ := mapJ_rk g hA n j
  refine evx @A_r8_Rescale_L0.eq_1 ?_
  refine condC_intro (fun hj => ?_) (fun hj => ?_)
  · replace hj := of_decide_eq_true hj
    have hjk : -10000 ≤ (j : Int) * k ∧ (j : Int) * k ≤ 10000 := by
      constructor
      · have := Int.mul_le_mul_of_nonneg_left hk.1 (show (0 : Int) ≤ (j : Int) by omega)
        omega
      · have := Int.mul_le_mul_of_nonneg_left hk.2 (show (0 : Int) ≤ (j : Int) by omega)
        omega
    have w1 : IntKind.i64.wrap ((j : Int) * k) = (j : Int) * k := wrapI (by omega) (by omega)
    refine ev ?_
    refine WA_for (n := n) (fun c s => ∃ i, c + i = n ∧ s = ⟨[(1, fI k), (5, .sl 100 0 0 m 1 m), (6, fI j), (7, fI i)], [(200, (mapI g (mapJ g A n j) j i).map rowV), (100, [hdo 200 0 m n])]⟩) ⟨0, by omega, rfl⟩ ?_
    rintro c' s ⟨i, hc', rfl⟩
    have hZ2 := mapI_rk g hZ j i
    have hnx : mapI g (mapJ g A n j) j (i + 1) = up2 (mapI g (mapJ g A n j) j i) j i (g j i (at2 (mapI g (mapJ g A n j) j i) j i)) := rfl
    generalize hZe : mapI g (mapJ g A n j) j i = Z at hZ2 hnx
    have hzl := hZ2.1
    have hzj := hZ2.2 j hj
    refine evx (And.intro @A_r8_Rescale_L1.eq_1 (hdo_getD 200 0 m n j hj)) ?_
    (repeat (with_reducible refine And.intro (by omega) ?_))
    refine condC_intro (fun hi => ?_) (fun hi => ?_)
    · replace hi := of_decide_eq_true hi
      have gk := getD_map_fl (Z.getD j []) i (by omega)
      simp -implicitDefEqProofs only [evI, hv, effC, reduceCtorEq, ↓reduceIte, n1_, n2_, n3_, n4_, n5_, i1_, i2_, i3_, i4_, i5_, i6_, i7_, hdo_getD 200 0 m n j hj, getE Z j (by omega), gk, setE, w1]
      (repeat (with_reducible refine And.intro (by omega) ?_))
      refine callSG_con (r1_Scale_con ((Z.getD j []).getD i 0) ((j : Int) * k) (by omega)) rfl ?_
      simp -implicitDefEqProofs only [evI, hv, effC, reduceCtorEq, ↓reduceIte, n1_, n2_, n3_, n4_, n5_, i1_, i2_, i3_, i4_, i5_, i6_, i7_, hdo_getD 200 0 m n j hj, getE Z j (by omega), setE, hg' j i]
      (repeat (with_reducible refine And.intro (by omega) ?_))
      rw [wrapI (by omega) (by omega)]
      refine ⟨c' - 1, by omega, i + 1, by omega, ?_⟩
      rw [hnx]
      rfl
    · replace hi := of_decide_eq_false hi
      have e : i = n := by omega
      subst e
      refine ev ?_
      rw [wrapI (by omega) (by omega), ← hZe]
      exact ⟨c - 1, by omega, j + 1, by omega, rfl⟩
  · replace hj := of_decide_eq_false hj
    have e : j = m := by omega
    subst e
    refine ev ?_
    have hk1 : ∀ L : Heap, L.fam 200 = some ((mapJ g A n j).map rowV) → KpA L (hdo 200 0 j n) := fun L hL => KpA_hdoF hL (by have := hZ.1; omega)
    exact endsT_only (fun X => X == 200 || X == 100) (fun _ h => h) (resV_tmpI (t := 4) (by decide) rfl) rfl (by simp (maxDischargeDepth := 6) [kpS, fam_cons, fam_nil]) (by simp (maxDischargeDepth := 6) [kpS, fam_cons, fam_nil, hk1])
theorem r8_Rescale_con (A : List (List Nat)) (m n : Nat) (hA : Rk m n A) (hm : m < 1000) (hn : n < 2 ^ 40) (k : Int) (hk : -10 ≤ k ∧ k ≤ 10) :
    Con Tryz.prog 69 [.d (rowsD A), fI k] (.d (rowsD (scaleP A k m n))) :=
  Con_of_rows (r8_Rescale_ac A m n hA hm hn k hk) (scaleP_rk hA k m n) (by decide)
set_option maxRecDepth 8000 in
theorem r8_Predict_con (A : List (List Nat)) (q n : Nat) (hA : Rk (q + 1) n A) (hm : q < 1000) (hn : n < 2 ^ 40) : Con Tryz.prog 27 [.d (rowsD A)] (.d (rowsD (predP A n q))) := by
  refine Con_introA A_r8_Predict_comp rfl mixed ?_
  refine evx @A_r8_Predict.eq_1 ?_
  refine callG_rows 0 [.d (rowsD A)] (by simp [Heap.next]) (r8_copied_ac A (q + 1) n hA (by omega) hn) ⟨.bare _, trivial⟩ ?_
  have w1 : IntKind.i64.wrap (((q + 1 : Nat) : Int) - 1) = (q : Int) := by rw [wrapI (by omega) (by omega)]; omega
  refine evx w1 ?_
  refine WA_for (n := q + 1) (fun c s => ∃ j, c + j = q + 1 ∧ j ≤ q ∧ s = ⟨[(3, .sl 100 0 0 (q + 1) 1 (q + 1)), (4, fI q), (5, fI (j + 1 : Nat))], [(200, (predJ A n q j).map rowV), (100, [hdo 200 0 (q + 1) n])]⟩) ⟨0, by omega, by omega, rfl⟩ ?_
  rintro c s ⟨j, hc, hjq, rfl⟩
  have hZ := predJ_rk hA q j
  have hnx : predJ A n q (j + 1) = predK (predJ A n q j) n (q - 1) (q - j) := rfl
  generalize hJ : predJ A n q j = Z at hZ hnx
  refine evx @A_r8_Predict_L0.eq_1 ?_
  refine condC_intro (fun hj => ?_) (fun hj => ?_)
  · replace hj := of_decide_eq_true hj
    have w2 : IntKind.i64.wrap ((q : Int) - 1) = (q : Int) - 1 := wrapI (by omega) (by omega)
    have w3 : IntKind.i64.wrap (((j + 1 : Nat) : Int) - 1) = (j : Int) := by rw [wrapI (by omega) (by omega)]; omega
    refine evx w2 ?_
    refine WA_for (n := q - j + 1) (fun c s => ∃ k, c + k = q - j + 1 ∧ k ≤ q - j ∧ s = ⟨[(3, .sl 100 0 0 (q + 1) 1 (q + 1)), (4, fI q), (5, fI (j + 1 : Nat)), (6, fI ((q : Int) - 1 - k))], [(200, (predK Z n (q - 1) k).map rowV), (100, [hdo 200 0 (q + 1) n])]⟩) ⟨0, by omega, by omega, by simp [predK]⟩ ?_
    rintro c' s ⟨k, hc', hkq, rfl⟩
    have hZk := predK_rk hZ (q - 1) k
    have hnk : predK Z n (q - 1) (k + 1) = addI (predK Z n (q - 1) k) (q - 1 - k) n := rfl
    generalize hK : predK Z n (q - 1) k = Y at hZk hnk
    refine evx (And.intro @A_r8_Predict_L1.eq_1 w3) ?_
    refine condC_intro (fun hk => ?_) (fun hk => ?_)
    · replace hk := of_decide_eq_true hk
      obtain ⟨r, hr⟩ : ∃ r : Nat, (q : Int) - 1 - k = r := ⟨((q : Int) - 1 - k).toNat, by omega⟩
      have hrq : r < q + 1 := by omega
      have hr1 : r + 1 < q + 1 := by omega
      have hrk : q - 1 - k = r := by omega
      rw [hrk] at hnk
      rw [hr]
      have w4 : IntKind.i64.wrap ((r : Int) + 1) = ((r + 1 : Nat) : Int) := by rw [wrapI (by omega) (by omega)]; omega
      refine evx (hdo_getD 200 0 (q + 1) n r hrq) ?_
      refine WA_for (n := n) (fun c s => ∃ i, c + i = n ∧ s = ⟨[(3, .sl 100 0 0 (q + 1) 1 (q + 1)), (4, fI q), (5, fI (j + 1 : Nat)), (6, fI r), (7, fI i)], [(200, (addI Y r i).map rowV), (100, [hdo 200 0 (q + 1) n])]⟩) ⟨0, by omega, rfl⟩ ?_
      rintro c2 s ⟨i, hc2, rfl⟩
      have hZi := addI_rk hZk r i
      have hni : addI Y r (i + 1) = up2 (addI Y r i) r i (fop .add (at2 (addI Y r i) r i) (at2 (addI Y r i) (r + 1) i)) := rfl
      generalize hI : addI Y r i = X at hZi hni
      have l0 := hZi.1
      have l1 := hZi.2 r hrq
      have l2 := hZi.2 (r + 1) hr1
      refine evx (And.intro @A_r8_Predict_L2.eq_1 (hdo_getD 200 0 (q + 1) n r hrq)) ?_
      (repeat (with_reducible refine And.intro (by omega) ?_))
      refine condC_intro (fun hi => ?_) (fun hi => ?_)
      · replace hi := of_decide_eq_true hi
        have g1 := getD_map_fl (X.getD r []) i (by omega)
        have g2 := getD_map_fl (X.getD (r + 1) []) i (by omega)
        simp -implicitDefEqProofs only [evI, hv, effC, reduceCtorEq, ↓reduceIte, n1_, n2_, n3_, n4_, n5_, i1_, i2_, i3_, i4_, i5_, i6_, i7_, hdo_getD 200 0 (q + 1) n r hrq, hdo_getD 200 0 (q + 1) n (r + 1) hr1, w4, getE X r (by omega), getE X (r + 1) (by omega), g1, g2, setE]
        (repeat (with_reducible refine And.intro (by omega) ?_))
        rw [wrapI (by omega) (by omega)]
        refine ⟨c2 - 1, by omega, i + 1, by omega, ?_⟩
        rw [hni]
        rfl
      · replace hi := of_decide_eq_false hi
        have e : i = n := by omega
        subst e
        refine ev ?_
        rw [wrapI (by omega) (by omega)]
        refine ⟨c' - 1, by omega, k + 1, by omega, by omega, ?_⟩
        rw [hnk, hI]
        have e2 : (r : Int) - 1 = (q : Int) - 1 - ((k + 1 : Nat) : Int) := by omega
        rw [e2]
    · replace hk := of_decide_eq_false hk
      have e : k = q - j := by omega
      subst e
      refine ev ?_
      rw [wrapI (by omega) (by omega)]
      refine ⟨c - 1, by omega, j + 1, by omega, by omega, ?_⟩
      rw [hnx, hK]
      rfl
  · replace hj := of_decide_eq_false hj
    have e : j = q := by omega
    subst e
    refine ev ?_
    have hp : predP A n j = Z := hJ
    rw [hp]
    exact endsT_le (.sl 100 0 0 (j + 1) 1 (j + 1)) (fun _ h => h) (resV_tmpI (t := 2) (by decide) rfl) (Fz_rk (X := 200) hZ rfl rfl rfl rfl)
end Go.Ab
namespace Go.Ab
set_option linter.unusedSimpArgs false
set_option linter.unusedVariables false
open Go Go.Proofs
theorem Fz_two {L L' : Heap} {H A B n m : Nat} {xs ys : List Nat} (h : L.get H 0 = some [.sl A 0 0 n 1 n, .sl B 0 0 m 1 m]) (hA : L.get A 0 = some (rowV xs)) (hB : L.get B 0 = some (rowV ys)) (ha : xs.length = n) (hb : ys.length = m)
    (h1 : L'.fam H = none) (h2 : L'.fam A = none) (h3 : L'.fam B = none) : Fz L L' (.sl H 0 0 2 1 2) (.d (rowsD [xs, ys])) := by
  have nf : ∀ X, L'.fam X = none → ∀ r, ∀ Y q, L'.get Y q ≠ none → (Y, q) ≠ (X, r) := fun X hX r Y q hY e => by cases e; exact hY (get_of_fam_none hX _)
  refine .d (.sl (fun _ Y q hY => nf H h1 0 Y q hY) h rfl (by simp) (fun i hi => rfl) fun i j hi hj => ?_)
  obtain rfl : j = 0 := by omega
  have hi : i < 2 := hi
  rcases i with _ | _ | i
  · exact snap_row (fun Y q hY => nf A h2 0 Y q hY) hA ha rfl
  · exact snap_row (fun Y q hY => nf B h3 0 Y q hY) hB hb rfl
  · omega
theorem hW_all : ((List.range 60).all fun j => scl (FloatKind.nearest .f64 ((2 ^ j : Nat) : Int)) (-30) == hW (2 ^ j)) = true := by kernel_rfl
theorem Scale_step (j : Nat) (hj : j < 60) : Con Tryz.prog 34 [fl (FloatKind.nearest .f64 ((2 ^ j : Nat) : Int)), fI (-30)] (fl (hW (2 ^ j))) := by
  have h := List.all_eq_true.1 hW_all j (by simpa using hj)
  rw [← eq_of_beq h]
  exact fp_Scale_all _ _ (by decide)
theorem r8_H_step (j : Nat) : Con Tryz.prog 49 [fI ((2 ^ j : Nat) : Int)] (fl (hW (2 ^ j))) := by
  have h := r8_H_con ((2 ^ j : Nat) : Int)
  have e : fop .div (FloatKind.nearest .f64 ((2 ^ j : Nat) : Int)) 4742290407621132288 = hW (2 ^ j) := by
    unfold hW; rw [show FloatKind.nearest .f64 1073741824 = 4742290407621132288 by kernel_rfl]
  rwa [e] at h
set_option maxRecDepth 8000 in
theorem r8_Start_con (t : Tp) (y : List Nat) (j : Nat) (ht : Tok t) (hy : y.length = t.n) (hj : j < 60) :
    Con Tryz.prog 26 [tapeV t, .d (rowD y), fI ((2 ^ j : Nat) : Int)] (ndV ⟨0, ((2 ^ j : Nat) : Int), 1, 0, startZ t y (hW (2 ^ j))⟩) := by
  have hn := ht.n
  have hH := r8_H_step j
  refine Con_introA A_r8_Start_comp rfl mixed ?_
  refine evx @A_r8_Start.eq_1 ?_
  generalize hW (2 ^ j) = h at hH
  generalize ((2 ^ j : Nat) : Int) = st at hH
  refine callG_row 100 [tapeV t, .d (rowD y)] (by simp [Heap.next]) (r3_Eval_ac t y ht hy) ⟨.aggs ⟨.bare _, .bare _, .bare _, trivial⟩, .bare _, trivial⟩ ?_
  have hfl := evalT_len t y
  unfold startZ
  generalize evalT t y = f at hfl
  generalize hg : (fun i => fop .mul h (f.getD i 0)) = g
  have hg' : ∀ i, fop .mul h (f.getD i 0) = g i := fun i => by rw [← hg]
  refine ev ?_
  refine WA_forW (n := t.n) (fun c s => ∃ i, c + i = t.n ∧ s = ⟨[(1, .d (rowD y)), (2, fI st), (6, .ptr 1 0 0 5), (7, .sl 100 0 0 t.n 1 t.n), (8, .sl 101 0 0 i 1 i), (9, fI i)],
    [(101, [rowV (tabR g i)]), (100, [rowV f]), (1, [[fI 0, fI 0, fI 0, fI 0, .nil]])]⟩) (s0 := ⟨_, _⟩) (Le.trans (LeT.nilrow (X := 101) (esz := 1) (as' := [(1, .d (rowD y)), (2, fI st), (6, .ptr 1 0 0 5), (7, .sl 100 0 0 t.n 1 t.n), (8, .sl 101 0 0 0 1 0), (9, fI 0)]) (by simp [fam_cons, fam_nil]) (fun h => h) fun i => ?_)
      (LeT.only (L' := [(101, [rowV (tabR g 0)]), (100, [rowV f]), (1, [[fI 0, fI 0, fI 0, fI 0, .nil]])]) (fun X => X != 0) (fun _ h => h) rfl (by simp [kpS]) (by simp [kpS]))) ⟨0, by omega, rfl⟩ ?_
  · simp only [look]
    repeat' split
    all_goals simp [rowD]
  rintro c s ⟨i, hc, rfl⟩
  have hl := tabR_len g i
  refine evx @A_r8_Start_L0.eq_1 ?_
  refine condC_intro (fun hi => ?_) (fun hi => ?_)
  · replace hi := of_decide_eq_true hi
    have gk := getD_map_fl f i (by omega)
    refine evx gk ?_
    refine callSG_con (hH) rfl ?_
    refine evx (And.intro gk hg') ?_
    (repeat (with_reducible refine And.intro (by omega) ?_))
    have e2 : rowV (tabR g i) ++ [fl (g i)] = rowV (tabR g (i + 1)) := (tabR_succ _ _).symm
    rw [wrapI (by omega) (by omega), e2]
    exact ⟨c - 1, _, by omega, LeT.only (fun X => X == 101 || X == 100 || X == 1) (fun _ h => h) rfl (by simp [kpS]) (by simp [kpS]), i + 1, by omega, rfl⟩
  · replace hi := of_decide_eq_false hi
    have e : i = t.n := by omega
    subst e
    refine evx (And.intro @srcCells_row @srcLen_bor) ?_
    (repeat (with_reducible refine And.intro (by omega) ?_))
    exact endsT_le (.agg [fI 0, fI st, fI 1, fI 0, .sl 107 0 0 2 1 2]) (fun _ h => h) (resV_cellI (by decide) rfl rfl rfl (by simp) rfl)
      (Fz_agg _ _ ⟨Fz_d _, Fz_d _, Fz_d _, Fz_d _, Fz_two (A := 103) (B := 101) rfl rfl rfl rfl hl rfl rfl rfl, trivial⟩)
end Go.Ab
namespace Go.Ab
set_option linter.unusedSimpArgs false
set_option linter.unusedVariables false
open Nat renaming reduceEqDiff → n1_, reduceAdd → n2_, reduceMul → n3_, reduceLT → n4_, reduceLeDiff → n5_
open Int renaming reduceToNat → i1_, reduceAdd → i2_, reduceSub → i3_, reduceMul → i4_, reduceNeg → i5_, reduceLT → i6_, reduceLE → i7_
open Go Go.Proofs
def A_bound_point : CA := (.seq (.reg [i_X 0 2 (.alloc [(.d (.flt 0)), (.d (.flt 0))] 58)] [0, 2]) (.seq (.reg [i_M 0 3 0, i_M 1 4 0, i_X 2 5 (.h (.build [(.d (.flt 0)), (.d (.flt 0))] [(0, (1, (.t 3))), (1, (1, (.t 4)))])), i_S 3 2 5 2] [2]) .ret))
theorem A_bound_point_comp : compF Tryz.prog 80 = some ⟨6, [(2, (some (2, true)))], A_bound_point.strip⟩ := by kernel_rfl
def A_bound_greatest_api_Iv_see : CA := (.seq (.reg [i_X 0 4 (.box (.t 1) 2 58)] [0, 2, 4]) (.seq (.reg [i_M 0 7 2, i_A 1 8 4 2, i_X 2 9 (.callA (.t 7) [(.t 8)]), i_M 3 6 9] [0, 6]) (.seq (.reg [i_M 0 10 0, i_X 1 11 (.h (.nilck (.t 10))), i_P 2 12 11 1, i_L 3 13 12 1, i_X 4 14 (.h (.un .not (.t 13))), i_M 5 15 14, ⟨6, (some 16), (some (15, false)), [], [], (.h (.mov (.t 6)))⟩, ⟨7, (some 17), (some (15, false)), [], [], (.h (.mov (.t 0)))⟩, ⟨8, (some 18), (some (15, false)), [], [], (.h (.nilck (.t 17)))⟩, ⟨9, (some 19), (some (15, false)), [], [], (.h (.padd (.t 18) 0))⟩, ⟨10, (some 20), (some (15, false)), [], [], (.load (.t 19) 1 false)⟩, ⟨11, (some 21), (some (15, false)), [], [], (.h (.fcmp .gt (.t 16) (.t 20)))⟩, i_X 12 22 (.h (.pick (.t 15) (.k (.d (.bool true))) (.t 21)))] [0, 6, 22]) (.cond (.t 22) (.reg [i_M 0 23 0, i_M 1 24 0, i_M 2 25 6, i_X 3 26 (.h (.nilck (.t 23))), i_P 4 27 26 0, i_S 5 27 25 1, i_X 6 28 (.h (.nilck (.t 24))), i_P 7 29 28 1, ⟨8, none, none, [], [], (.store (.t 29) (.k (.d (.bool true))) 1)⟩] []) .skip))))
theorem A_bound_greatest_api_Iv_see_comp : compF Tryz.prog 78 = some ⟨30, [], A_bound_greatest_api_Iv_see.strip⟩ := by kernel_rfl
def A_bound_greatest_api_Model_see : CA := (.seq (.reg [i_X 0 4 (.box (.t 1) 20 87)] [0, 2, 4]) (.seq (.reg [i_M 0 7 2, i_A 1 8 4 20, i_X 2 9 (.callA (.t 7) [(.t 8)]), i_M 3 6 9] [0, 6]) (.seq (.reg [i_M 0 10 0, i_X 1 11 (.h (.nilck (.t 10))), i_P 2 12 11 1, i_L 3 13 12 1, i_X 4 14 (.h (.un .not (.t 13))), i_M 5 15 14, ⟨6, (some 16), (some (15, false)), [], [], (.h (.mov (.t 6)))⟩, ⟨7, (some 17), (some (15, false)), [], [], (.h (.mov (.t 0)))⟩, ⟨8, (some 18), (some (15, false)), [], [], (.h (.nilck (.t 17)))⟩, ⟨9, (some 19), (some (15, false)), [], [], (.h (.padd (.t 18) 0))⟩, ⟨10, (some 20), (some (15, false)), [], [], (.load (.t 19) 1 false)⟩, ⟨11, (some 21), (some (15, false)), [], [], (.h (.fcmp .gt (.t 16) (.t 20)))⟩, i_X 12 22 (.h (.pick (.t 15) (.k (.d (.bool true))) (.t 21)))] [0, 6, 22]) (.cond (.t 22) (.reg [i_M 0 23 0, i_M 1 24 0, i_M 2 25 6, i_X 3 26 (.h (.nilck (.t 23))), i_P 4 27 26 0, i_S 5 27 25 1, i_X 6 28 (.h (.nilck (.t 24))), i_P 7 29 28 1, ⟨8, none, none, [], [], (.store (.t 29) (.k (.d (.bool true))) 1)⟩] []) .skip))))
theorem A_bound_greatest_api_Model_see_comp : compF Tryz.prog 84 = some ⟨30, [], A_bound_greatest_api_Model_see.strip⟩ := by kernel_rfl
def A_bound_part_at_L0 : CA := (.seq (.seq (.reg [i_M 0 22 5, i_B 1 23 .geq 22 0] [1, 2, 4, 5, 23]) (.cond (.t 23) .skip (.exit 0))) (.seq (.block 1 (.reg [i_A 0 26 4 2, i_X 1 27 (.callS 1 (kF 80) [(.k (.d (.flt 13830554455654793216)))]), i_X 2 28 (.callS 0 (kF 125) [(.t 26), (.t 27)]), i_P 3 29 1 0, i_L 4 30 29 1, i_M 5 31 5, i_I 6 32 30 31 1, i_L 7 33 32 1, i_P 8 34 1 1, i_L 9 35 34 1, i_I 10 36 33 35 1, i_L 11 37 36 1, i_X 12 38 (.callA (kF 80) [(.t 37)]), i_X 13 39 (.callA (kF 92) [(.t 28), (.t 38)]), i_S 14 4 39 2] [1, 2, 4, 5])) (.reg [i_M 0 24 5, i_B 1 25 .sub 24 1, i_M 2 5 25] [1, 2, 4, 5])))
def A_bound_part_at : CA := (.seq (.reg [i_X 0 1 (.box (.t 0) 2 84), i_X 1 2 (.alloc [(.d (.flt 0)), (.d (.flt 0))] 58)] [1, 2]) (.seq (.reg [i_P 0 6 1 0, i_L 1 7 6 1, i_X 2 8 (.h (.len (.t 7))), i_B 3 9 .sub 8 1, i_M 4 3 9] [1, 2, 3]) (.seq (.reg [i_P 0 10 1 0, i_L 1 11 10 1, i_M 2 12 3, i_I 3 13 11 12 1, i_L 4 14 13 1, i_P 5 15 1 1, i_L 6 16 15 1, i_I 7 17 14 16 1, i_L 8 18 17 1, i_X 9 19 (.callS 0 (kF 80) [(.t 18)]), i_X 10 4 (.alloc [(.d (.flt 0)), (.d (.flt 0))] 58), i_S 11 4 19 2] [1, 2, 3, 4]) (.seq (.seq (.reg [i_M 0 20 3, i_B 1 21 .sub 20 1, i_M 2 5 21] [1, 2, 4, 5]) (.block 0 (.loop A_bound_part_at_L0))) (.seq (.reg [i_A 0 40 4 2, i_S 1 2 40 2] [2]) .ret)))))
theorem A_bound_part_at_comp : compF Tryz.prog 77 = some ⟨41, [(2, (some (2, true)))], A_bound_part_at.strip⟩ := by kernel_rfl
def A_bound_part_model_L0 : CA := (.seq (.reg [i_N 0 10 .lss 9 8] [1, 2, 3, 7, 8, 9, 10]) (.seq (.cond (.t 10) .skip (.exit 0)) (.seq (.block 1 (.seq (.reg [i_I 0 11 7 9 1, i_L 1 12 11 1, i_M 2 5 12] [1, 2, 3, 5, 7, 8, 9]) (.reg [i_M 0 13 3, i_M 1 14 5, i_P 2 15 1 1, i_L 3 16 15 1, i_I 4 17 14 16 1, i_L 5 18 17 1, i_X 6 19 (.bslice [(.d (.flt 0))] 1 1 [(0, (1, (.t 18)))] 31), i_X 7 20 (.app (.t 13) (.t 19) 1 8), i_M 8 3 20] [1, 2, 3, 7, 8, 9]))) (.reg [i_B 0 21 .add 9 1, i_M 1 9 21] [1, 2, 3, 7, 8, 9]))))
def A_bound_part_model : CA := (.seq (.reg [i_X 0 1 (.box (.t 0) 2 84), i_X 1 2 (.alloc z_20 87)] [1, 2]) (.seq (.reg [i_X 0 3 (.h (.mov (.k .nil)))] [1, 2, 3]) (.seq (.seq (.reg [i_P 0 6 1 0, i_L 1 7 6 1, i_X 2 8 (.h (.len (.t 7))), i_K 3 9 0] [1, 2, 3, 7, 8, 9]) (.block 0 (.loop A_bound_part_model_L0))) (.seq (.reg [i_M 0 22 3, i_X 1 23 (.callA (kF 76) [(.t 22)]), i_S 2 2 23 20] [2]) .ret))))
theorem A_bound_part_model_comp : compF Tryz.prog 36 = some ⟨24, [(2, (some (20, true)))], A_bound_part_model.strip⟩ := by kernel_rfl
def A_bound_part_slope_L0 : CA := (.seq (.reg [i_N 0 13 .lss 12 11] [1, 2, 4, 5, 11, 12, 13]) (.seq (.cond (.t 13) .skip (.exit 0)) (.seq (.block 1 (.seq (.reg [i_M 0 14 12, i_M 1 6 14] [1, 2, 4, 5, 6, 11, 12]) (.reg [i_M 0 15 6, i_M 1 16 6, i_B 2 17 .add 16 1, i_X 3 18 (.h (.i2f (.t 17))), i_X 4 19 (.callS 0 (kF 80) [(.t 18)]), i_P 5 20 2 0, i_L 6 21 20 1, i_M 7 22 6, i_B 8 23 .add 22 1, i_I 9 24 21 23 1, i_L 10 25 24 1, i_P 11 26 2 1, i_L 12 27 26 1, i_I 13 28 25 27 1, i_L 14 29 28 1, i_X 15 30 (.callA (kF 80) [(.t 29)]), i_X 16 31 (.callA (kF 125) [(.t 19), (.t 30)]), i_M 17 32 1, i_X 18 33 (.callA (kF 80) [(.t 32)]), i_X 19 34 (.callA (kF 131) [(.t 31), (.t 33)]), i_P 20 35 5 0, i_X 21 36 (.h (.idxa (.t 35) (.t 15) 9 2)), i_S 22 36 34 2] [1, 2, 4, 5, 11, 12]))) (.reg [i_B 0 37 .add 12 1, i_M 1 12 37] [1, 2, 4, 5, 11, 12]))))
def A_bound_part_slope : CA := (.seq (.reg [i_X 0 2 (.box (.t 0) 2 84), i_X 1 4 (.alloc z_20 87)] [1, 2, 4]) (.seq (.reg [i_X 0 7 (.callA (kF 76) [(.k .nil)]), i_X 1 5 (.alloc z_20 87), i_S 2 5 7 20] [1, 2, 4, 5]) (.seq (.seq (.reg [i_P 0 8 2 0, i_L 1 9 8 1, i_X 2 10 (.h (.len (.t 9))), i_B 3 11 .sub 10 1, i_K 4 12 0] [1, 2, 4, 5, 11, 12]) (.block 0 (.loop A_bound_part_slope_L0))) (.seq (.reg [i_A 0 38 5 20, i_S 1 4 38 20] [4]) .ret))))
theorem A_bound_part_slope_comp : compF Tryz.prog 83 = some ⟨39, [(4, (some (20, true)))], A_bound_part_slope.strip⟩ := by kernel_rfl
def A_bound_parts_L0 : CA := (.seq (.reg [i_N 0 11 .lss 10 9] [1, 3, 9, 10, 11]) (.seq (.cond (.t 11) .skip (.exit 0)) (.seq (.block 1 (.seq (.reg [i_M 0 12 10, i_M 1 4 12] [1, 3, 4, 9, 10]) (.reg [i_M 0 13 3, i_P 1 14 1 4, i_L 2 15 14 1, i_M 3 16 4, i_X 4 17 (.h (.build [.nil, (.d (.int .i64 0))] [(0, (1, (.t 15))), (1, (1, (.t 16)))])), i_X 5 18 (.bslice [.nil, (.d (.int .i64 0))] 1 2 [(0, (2, (.t 17)))] 84), i_X 6 19 (.app (.t 13) (.t 18) 2 32), i_M 7 3 19] [1, 3, 9, 10]))) (.reg [i_B 0 20 .add 10 1, i_M 1 10 20] [1, 3, 9, 10]))))
def A_bound_parts : CA := (.seq (.reg [i_X 0 1 (.box (.t 0) 5 37), i_X 1 2 (.h (.mov (.k .nil)))] [1]) (.seq (.reg [i_X 0 3 (.h (.mov (.k .nil)))] [1, 3]) (.seq (.seq (.reg [i_P 0 5 1 4, i_L 1 6 5 1, i_X 2 7 (.h (.idx (.t 6) (kI 0) 1)), i_L 3 8 7 1, i_X 4 9 (.h (.len (.t 8))), i_K 5 10 0] [1, 3, 9, 10]) (.block 0 (.loop A_bound_parts_L0))) (.seq (.reg [i_M 0 21 3, i_M 1 2 21] [2]) .ret))))
theorem A_bound_parts_comp : compF Tryz.prog 35 = some ⟨22, [(2, none)], A_bound_parts.strip⟩ := by kernel_rfl
def A_bound_jump_L0 : CA := (.seq (.reg [i_N 0 12 .lss 11 10] [1, 5, 6, 9, 10, 11, 12]) (.seq (.cond (.t 12) .skip (.exit 0)) (.seq (.block 1 (.seq (.reg [i_M 0 13 11, i_I 1 14 9 11 2, i_A 2 15 14 2, i_X 3 8 (.alloc [.nil, (.d (.int .i64 0))] 84), i_M 4 7 13, i_S 5 8 15 2] [1, 5, 6, 7, 8, 9, 10, 11]) (.reg [i_M 0 16 6, i_A 1 17 8 2, i_X 2 18 (.callS 0 (.t 16) [(.t 17)]), i_M 3 19 1, i_M 4 20 7, i_I 5 21 19 20 1, i_L 6 22 21 1, i_X 7 23 (.callA (kF 80) [(.t 22)]), i_X 8 24 (.callA (kF 79) [(.t 18), (.t 23)]), i_X 9 25 (.callA (kF 78) [(.t 5), (.t 24), (kF 81)])] [1, 5, 6, 9, 10, 11]))) (.reg [i_B 0 26 .add 11 1, i_M 1 11 26] [1, 5, 6, 9, 10, 11]))))
def A_bound_jump : CA := (.seq (.reg [i_X 0 4 (.h (.mov (.k (.d (.flt 0)))))] [0, 1]) (.seq (.reg [i_X 0 5 (.alloc [(.d (.flt 0)), (.d (.bool false))] 126)] [0, 1, 5]) (.seq (.reg [i_X 0 6 (.h (.mov (kF 77)))] [0, 1, 5, 6]) (.seq (.seq (.reg [i_M 0 9 0, i_X 1 10 (.h (.len (.t 9))), i_K 2 11 0] [1, 5, 6, 9, 10, 11]) (.block 0 (.loop A_bound_jump_L0))) (.seq (.reg [i_P 0 27 5 0, i_L 1 28 27 1, i_M 2 4 28] [4]) .ret)))))
theorem A_bound_jump_comp : compF Tryz.prog 37 = some ⟨29, [(4, none)], A_bound_jump.strip⟩ := by kernel_rfl
def A_bound_defect_L0 : CA := (.seq (.reg [i_N 0 20 .lss 19 18] [3, 9, 10, 11, 17, 18, 19, 20]) (.seq (.cond (.t 20) .skip (.exit 0)) (.seq (.block 1 (.seq (.reg [i_M 0 21 19, i_I 1 22 17 19 2, i_A 2 23 22 2, i_X 3 13 (.alloc [.nil, (.d (.int .i64 0))] 84), i_M 4 12 21, i_S 5 13 23 2] [3, 9, 10, 11, 12, 13, 17, 18, 19]) (.reg [i_M 0 24 10, i_M 1 25 12, i_I 2 26 24 25 20, i_A 3 27 26 20, i_M 4 28 11, i_A 5 29 13 2, i_M 6 30 3, i_X 7 31 (.callS 7 (.t 28) [(.t 29), (.t 30)]), i_X 8 32 (.callA (kF 85) [(.t 27), (.t 31)]), i_X 9 33 (.callA (kF 84) [(.t 9), (.t 32), (kF 86)])] [3, 9, 10, 11, 17, 18, 19]))) (.reg [i_B 0 34 .add 19 1, i_M 1 19 34] [3, 9, 10, 11, 17, 18, 19]))))
def A_bound_defect : CA := (.seq (.reg [i_X 0 4 (.box (.t 0) 3 28), i_X 1 8 (.h (.mov (.k (.d (.flt 0)))))] [1, 2, 3, 4]) (.seq (.reg [i_X 0 9 (.alloc [(.d (.flt 0)), (.d (.bool false))] 132)] [1, 2, 3, 4, 9]) (.seq (.reg [i_A 0 14 4 3, i_M 1 15 2, i_X 2 16 (.callA (kF 82) [(.t 14), (.t 15)]), i_M 3 10 16] [1, 3, 9, 10]) (.seq (.reg [i_X 0 11 (.h (.mov (kF 83)))] [1, 3, 9, 10, 11]) (.seq (.seq (.reg [i_M 0 17 1, i_X 1 18 (.h (.len (.t 17))), i_K 2 19 0] [3, 9, 10, 11, 17, 18, 19]) (.block 0 (.loop A_bound_defect_L0))) (.seq (.reg [i_P 0 35 9 0, i_L 1 36 35 1, i_M 2 8 36] [8]) .ret))))))
theorem A_bound_defect_comp : compF Tryz.prog 38 = some ⟨37, [(8, none)], A_bound_defect.strip⟩ := by kernel_rfl
def A_bound_defect_1 : CA := (.seq (.reg [i_X 0 1 (.box (.t 0) 20 87), i_X 1 2 (.h (.mov (.k (.d (.flt 0)))))] [1]) (.seq (.reg [i_A 0 3 1 20, i_X 1 4 (.callA (kF 87) [(.t 3)]), i_X 2 5 (.callA (kF 81) [(.t 4)]), i_M 3 2 5] [2]) .ret))
theorem A_bound_defect_1_comp : compF Tryz.prog 86 = some ⟨6, [(2, none)], A_bound_defect_1.strip⟩ := by kernel_rfl
def A_bound_tube_L0 : CA := (.seq (.reg [i_N 0 11 .lss 10 9] [1, 5, 8, 9, 10, 11]) (.seq (.cond (.t 11) .skip (.exit 0)) (.seq (.block 1 (.seq (.reg [i_I 0 12 8 10 20, i_A 1 13 12 20, i_X 2 7 (.alloc z_20 87), i_S 3 7 13 20] [1, 5, 7, 8, 9, 10]) (.reg [i_M 0 14 5, i_A 1 15 7 20, i_X 2 16 (.callA (kF 87) [(.t 15)]), i_M 3 17 1, i_X 4 18 (.h (.un .neg (.t 17))), i_M 5 19 1, i_X 6 20 (.callA (kF 93) [(.t 18), (.t 19)]), i_X 7 21 (.callA (kF 92) [(.t 16), (.t 20)]), i_X 8 22 (.bslice [(.d (.flt 0)), (.d (.flt 0))] 1 2 [(0, (2, (.t 21)))] 58), i_X 9 23 (.app (.t 14) (.t 22) 2 16), i_M 10 5 23] [1, 5, 8, 9, 10]))) (.reg [i_B 0 24 .add 10 1, i_M 1 10 24] [1, 5, 8, 9, 10]))))
def A_bound_tube : CA := (.seq (.reg [i_X 0 4 (.h (.mov (.k .nil)))] [0, 1]) (.seq (.reg [i_X 0 5 (.h (.mov (.k .nil)))] [0, 1, 5]) (.seq (.seq (.reg [i_M 0 8 0, i_X 1 9 (.h (.len (.t 8))), i_K 2 10 0] [1, 5, 8, 9, 10]) (.block 0 (.loop A_bound_tube_L0))) (.seq (.reg [i_M 0 25 5, i_M 1 4 25] [4]) .ret))))
theorem A_bound_tube_comp : compF Tryz.prog 41 = some ⟨26, [(4, none)], A_bound_tube.strip⟩ := by kernel_rfl
def A_bound_inside_L0 : CA := (.seq (.reg [i_N 0 10 .lss 9 8] [1, 7, 8, 9, 10]) (.seq (.cond (.t 10) .skip (.exit 0)) (.seq (.block 1 (.seq (.reg [i_M 0 11 9, i_I 1 12 7 9 2, i_A 2 13 12 2, i_X 3 6 (.alloc [(.d (.flt 0)), (.d (.flt 0))] 58), i_M 4 5 11, i_S 5 6 13 2] [1, 5, 6, 7, 8, 9]) (.seq (.reg [i_A 0 14 6 2, i_M 1 15 1, i_M 2 16 5, i_I 3 17 15 16 2, i_A 4 18 17 2, i_X 5 19 (.callA (kF 94) [(.t 14), (.t 18)]), i_X 6 20 (.h (.un .not (.t 19)))] [1, 7, 8, 9, 20]) (.cond (.t 20) (.seq (.reg [i_X 0 4 (.h (.mov (.k (.d (.bool false)))))] [4]) .ret) .skip)))) (.reg [i_B 0 21 .add 9 1, i_M 1 9 21] [1, 7, 8, 9]))))
def A_bound_inside : CA := (.seq (.reg [i_X 0 4 (.h (.mov (.k (.d (.bool false)))))] [0, 1]) (.seq (.seq (.reg [i_M 0 7 0, i_X 1 8 (.h (.len (.t 7))), i_K 2 9 0] [1, 7, 8, 9]) (.block 0 (.loop A_bound_inside_L0))) (.seq (.reg [i_X 0 4 (.h (.mov (.k (.d (.bool true)))))] [4]) .ret)))
theorem A_bound_inside_comp : compF Tryz.prog 42 = some ⟨22, [(4, none)], A_bound_inside.strip⟩ := by kernel_rfl
def A_bound_growth : CA := (.seq (.reg [i_X 0 4 (.h (.mov (.k (.d (.flt 0)))))] [0, 1]) (.seq (.seq (.reg [i_M 0 5 1, i_X 1 6 (.h (.fcmp .le (.t 5) (.k (.d (.flt 0)))))] [0, 1, 6]) (.cond (.t 6) (.seq (.reg [i_X 0 4 (.h (.mov (.k (.d (.flt 4607182418800017408)))))] [4]) .ret) .skip)) (.seq (.reg [i_M 0 7 0, i_M 1 8 1, i_F 2 9 .mul 7 8, i_X 3 10 (.callA (kF 40) [(.t 9)]), i_X 4 11 (.callA (kF 98) [(.t 10)]), i_X 5 12 (.h (.mm true (.k (.d (.flt 4607182418800017408))) (.t 11))), i_M 6 4 12] [4]) .ret)))
theorem A_bound_growth_comp : compF Tryz.prog 45 = some ⟨13, [(4, none)], A_bound_growth.strip⟩ := by kernel_rfl
theorem bound_point_con (x : Nat) : Con Tryz.prog 80 [fl x] (ivV (pt x)) := by
  refine Con_introA A_bound_point_comp rfl mixed ?_
  refine evx @A_bound_point.eq_1 ?_
  exact endsT_retm rfl (by decide) rfl rfl rfl (by simp) (by simp [ldv, pt])
def gr (m : Nat) (s : Bool) (n : Nat) : Nat := if s = true then (if fcmp .gt n m = true then n else m) else n
set_option maxRecDepth 8000 in
theorem see_iv_ac (m : Nat) (s : Bool) (n : Nat) (p : Iv) (sz : Nat) (hsz : Con Tryz.prog sz [ivV p] (fl n)) (z : D) (i : Int) : AC Tryz.prog 78 [.ptr 0 0 0 2, ivV p, .d (.fn sz [] [])] [(4, [[.d z, fI i]]), (0, [[fl m, fB s]])]
    [(4, [[.d z, fI i]]), (0, [[fl (gr m s n), fB true]])] (.tup []) := by
  refine AC_introA A_bound_greatest_api_Iv_see_comp rfl mixed (fun X => X = 4 ∨ X = 0) ?_ ?_
  · intro X q
    simp only [get_cons, get_nil]
    grind
  refine evx @A_bound_greatest_api_Iv_see.eq_1 ?_
  refine callG_con (hsz) rfl ?_
  unfold gr
  cases s
  · refine ev ?_
    show EndsT _ _ _ _ _ _ _
    exact endsT_onlyN (fun X => X == 4 || X == 0) (fun X h => by simp; omega) rfl rfl (by simp [kpS]) (by simp [kpS])
  · refine ev ?_
    refine condC_intro (fun h => ?_) (fun h => ?_)
    · refine evx h ?_
      show EndsT _ _ _ _ _ _ _
      exact endsT_onlyN (fun X => X == 4 || X == 0) (fun X h => by simp; omega) rfl rfl (by simp [kpS]) (by simp [kpS])
    · refine evx h ?_
      show EndsT _ _ _ _ _ _ _
      exact endsT_onlyN (fun X => X == 4 || X == 0) (fun X h => by simp; omega) rfl rfl (by simp [kpS]) (by simp [kpS])
set_option maxRecDepth 8000 in
theorem see_md_ac (m : Nat) (s : Bool) (n : Nat) (p : Md) (hp : p.length = 10) (sz : Nat) (hsz : Con Tryz.prog sz [mdV p] (fl n)) (z : D) (i : Int) (c0 : List V) (hc0 : ∀ L, KpA L c0) : AC Tryz.prog 84 [.ptr 1 0 0 2, mdV p, .d (.fn sz [] [])] [(5, [[.d z, fI i]]), (1, [[fl m, fB s]]), (0, [c0])]
    [(5, [[.d z, fI i]]), (1, [[fl (gr m s n), fB true]]), (0, [c0])] (.tup []) := by
  refine AC_introA A_bound_greatest_api_Model_see_comp rfl mixed (fun X => X = 5 ∨ X = 1 ∨ X = 0) ?_ ?_
  · intro X q
    simp only [get_cons, get_nil]
    grind
  refine evx (And.intro @A_bound_greatest_api_Model_see.eq_1 (ivC_20 p hp)) ?_
  (repeat (with_reducible refine And.intro (by omega) ?_))
  first | refine callG_con (hsz) (by simp [bare_d, ivC_bare]) ?_ | refine callCG_con (hsz) (by simp [bare_d, ivC_bare]) ?_ | refine callSG_con (hsz) (by simp [bare_d, ivC_bare]) ?_
  unfold gr
  cases s
  · refine ev ?_
    show EndsT _ _ _ _ _ _ _
    exact endsT_onlyN (fun X => X == 5 || X == 1 || X == 0) (fun X h => by simp; omega) rfl rfl (by simp [kpS]) (by simp (maxDischargeDepth := 6) [kpS, fam_cons, fam_nil, hc0])
  · refine ev ?_
    refine condC_intro (fun h => ?_) (fun h => ?_)
    · refine evx h ?_
      show EndsT _ _ _ _ _ _ _
      exact endsT_onlyN (fun X => X == 5 || X == 1 || X == 0) (fun X h => by simp; omega) rfl rfl (by simp [kpS]) (by simp (maxDischargeDepth := 6) [kpS, fam_cons, fam_nil, hc0])
    · refine evx h ?_
      show EndsT _ _ _ _ _ _ _
      exact endsT_onlyN (fun X => X == 5 || X == 1 || X == 0) (fun X h => by simp; omega) rfl rfl (by simp [kpS]) (by simp (maxDischargeDepth := 6) [kpS, fam_cons, fam_nil, hc0])
abbrev ptV (Z : List (List Nat)) (i : Nat) : V := .agg [.d (rowsD Z), fI i]
def ptG (Z : List (List Nat)) (i : Nat) : List D := [rowsD Z, .int .i64 i]
def ptD (Z : List (List Nat)) (n : Nat) : D := .bor n (ptG Z)
theorem valK_next (c : List Nat) (s k : Nat) : valK c s (k + 1) = ivAdd (ivMul (valK c s k) (pt s)) (pt (c.getD (c.length - 2 - k) 0)) := rfl
set_option maxRecDepth 8000 in
theorem part_at_con (Z : List (List Nat)) (m n i : Nat) (hZ : Rk (m + 1) n Z) (hi : i < n) (hm : m < 1000) : Con Tryz.prog 77 [ptV Z i] (ivV (valC (colT Z i) negW)) := by
  have hl := hZ.1
  have hcl := colT_len Z i
  have hr := fun k h => hZ.2 k h
  have hca := fun k h => colT_at Z i k h
  unfold valC
  rw [hcl, hl, show m + 1 - 1 = m from rfl]
  refine Con_introA A_bound_part_at_comp rfl mixed ?_
  refine evx @A_bound_part_at.eq_1 ?_
  have w1 : IntKind.i64.wrap ((Z.length : Int) - 1) = (m : Int) := by rw [wrapI (by omega) (by omega)]; omega
  have r0 := hr m (by omega)
  refine evx (And.intro @rowsD.eq_1 (And.intro @rowsG.eq_1 w1)) ?_
  (repeat (with_reducible refine And.intro (by omega) ?_))
  refine callSG_con (bound_point_con ((Z.getD m []).getD i 0)) rfl ?_
  refine ev ?_
  have e0 : valK (colT Z i) negW 0 = pt ((Z.getD m []).getD i 0) := by rw [valK, hcl, hl, show m + 1 - 1 = m from rfl, hca m (by omega)]
  rw [← e0]
  have e5 : IntKind.i64.wrap ((m : Int) - 1) = (m : Int) - 1 - ((0 : Nat) : Int) := by rw [wrapI (by omega) (by omega)]; omega
  rw [e5]
  refine WA_forW (n := m) (fun c s => ∃ k, c + k = m ∧ s = ⟨[(1, .ptr 0 0 0 2), (2, .ptr 1 0 0 2), (4, .ptr 12 0 0 2), (5, fI ((m : Int) - 1 - (k : Int)))],
    [(12, [[fl (valK (colT Z i) negW k).1, fl (valK (colT Z i) negW k).2]]), (1, [[fl 0, fl 0]]), (0, [[.d (rowsD Z), fI i]])]⟩) (Le.refl _) ⟨0, by omega, rfl⟩ ?_
  rintro c s ⟨k, hc, rfl⟩
  refine evx @A_bound_part_at_L0.eq_1 ?_
  refine condC_intro (fun h => ?_) (fun h => ?_)
  · replace h := of_decide_eq_true h
    obtain ⟨j, hj⟩ : ∃ j : Nat, (m : Int) - 1 - (k : Int) = j := ⟨m - 1 - k, by omega⟩
    have hj2 : j = (colT Z i).length - 2 - k := by omega
    have rj := hr j (by omega)
    rw [hj]
    refine evx (And.intro @rowsD.eq_1 @rowsG.eq_1) ?_
    refine callSG_con (bound_point_con 13830554455654793216) rfl ?_
    refine ev ?_
    refine callSG_con (iv_Mul_con (valK (colT Z i) negW k) (pt 13830554455654793216)) rfl ?_
    refine evx (And.intro @rowsD.eq_1 @rowsG.eq_1) ?_
    (repeat (with_reducible refine And.intro (by omega) ?_))
    refine callG_con (bound_point_con ((Z.getD j []).getD i 0)) rfl ?_
    refine ev ?_
    refine callG_con (iv_Add_con (ivMul (valK (colT Z i) negW k) (pt 13830554455654793216)) (pt ((Z.getD j []).getD i 0))) rfl ?_
    have e1 : ivAdd (ivMul (valK (colT Z i) negW k) (pt 13830554455654793216)) (pt ((Z.getD j []).getD i 0)) = valK (colT Z i) negW (k + 1) := by
      rw [valK_next, ← hj2, hca j (by omega)]; rfl
    rw [e1]
    refine ev ?_
    rw [show IntKind.i64.wrap ((j : Int) - 1) = (m : Int) - 1 - ((k + 1 : Nat) : Int) by rw [wrapI (by omega) (by omega)]; omega]
    exact ⟨c - 1, _, by omega, Le.refl _, k + 1, by omega, rfl⟩
  · replace h := of_decide_eq_false h
    obtain rfl : k = m := by omega
    refine ev ?_
    exact endsT_retm rfl (by decide) rfl rfl rfl (by simp) (by simp [ldv])
theorem colT_tab (Z : List (List Nat)) (i : Nat) : tabR (fun k => (Z.getD k []).getD i 0) Z.length = colT Z i := by
  refine List.ext_getElem (by simp [tabR_len, colT]) fun k h1 h2 => ?_
  rw [tabR_len] at h1
  simp [tabR, colT, List.getD_eq_getElem?_getD, h1]
set_option maxRecDepth 8000 in
theorem part_model_con (Z : List (List Nat)) (m n i : Nat) (hZ : Rk (m + 1) n Z) (hi : i < n) (hm : m < 1000) : Con Tryz.prog 36 [ptV Z i] (mdV (ofM (colT Z i))) := by
  have hl := hZ.1
  have hcl := colT_len Z i
  have hr := fun k h => hZ.2 k h
  rw [← colT_tab]
  refine Con_introA A_bound_part_model_comp rfl mixed ?_
  refine evx @A_bound_part_model.eq_1 ?_
  have hz0 : ∀ L : Heap, KpA L [.d (rowsD Z), fI i] := fun L => by rw [KpA_cons, KpA_cons]; exact ⟨Kp_d _, Kp_d _, KpA_nil⟩
  refine WA_forW (n := m + 1) (fun c s => ∃ k, c + k = m + 1 ∧ s = ⟨[(1, .ptr 0 0 0 2), (2, .ptr 1 0 0 20), (3, .sl 100 0 0 k 1 k), (7, .d (rowsD Z)), (8, fI Z.length), (9, fI k)],
    [(100, [rowV (tabR (fun k => (Z.getD k []).getD i 0) k)]), (1, [ivC (List.replicate 10 (0, 0))]), (0, [[.d (rowsD Z), fI i]])]⟩) (s0 := ⟨_, _⟩)
    (LeT.nilrow (X := 100) (esz := 1) (as' := [(1, .ptr 0 0 0 2), (2, .ptr 1 0 0 20), (3, .sl 100 0 0 0 1 0), (7, .d (rowsD Z)), (8, fI Z.length), (9, fI 0)]) (by simp [fam_cons, fam_nil]) (fun h => h) fun i => ?_) ⟨0, by omega, rfl⟩ ?_
  · simp only [look]
    repeat' split
    all_goals simp [rowsD]
  rintro c s ⟨k, hc, rfl⟩
  have htl := tabR_len (fun k => (Z.getD k []).getD i 0) k
  refine evx @A_bound_part_model_L0.eq_1 ?_
  refine condC_intro (fun h => ?_) (fun h => ?_)
  · replace h := of_decide_eq_true h
    have hk : k < m + 1 := by omega
    have rk := hr k hk
    refine evx (And.intro @rowsD.eq_1 @rowsG.eq_1) ?_
    (repeat (with_reducible refine And.intro (by omega) ?_))
    have e : rowV (tabR (fun k => (Z.getD k []).getD i 0) k) ++ [fl ((Z.getD k []).getD i 0)] = rowV (tabR (fun k => (Z.getD k []).getD i 0) (k + 1)) := (tabR_succ _ _).symm
    rw [wrapI (by omega) (by omega), e]
    exact ⟨c - 1, _, by omega, LeT.only (fun X => decide (X ≤ 100)) (fun _ h => h) rfl (by simp (maxDischargeDepth := 6) [kpS, fam_cons, fam_nil, KpA_ivC']) (by simp (maxDischargeDepth := 6) [kpS, fam_cons, fam_nil, KpA_ivC']), k + 1, by omega, rfl⟩
  · replace h := of_decide_eq_false h
    obtain rfl : k = m + 1 := by omega
    rw [← hl] at htl ⊢
    refine ev ?_
    refine callG_snaps [.d (rowD (tabR (fun k => (Z.getD k []).getD i 0) Z.length))] (model_Of_con _ (by omega)) ⟨snp_row rfl (tabR_len _ _) rfl, trivial⟩ (scalar_iv _) ?_
    have hp := ofM_len (tabR (fun k => (Z.getD k []).getD i 0) Z.length)
    refine ev ?_
    (repeat (with_reducible refine And.intro (by omega) ?_))
    rw [splice_all _ _ (by rw [ivC_length, ivC_length, hp]; rfl)]
    exact endsT_ivs _ (by omega) (by decide) rfl rfl rfl
def sloF (c : List Nat) (h k : Nat) : Iv := ivDiv (ivMul (pt (FloatKind.nearest .f64 ((k : Int) + 1))) (pt (c.getD (k + 1) 0))) (pt h)
theorem sloM_fil (c : List Nat) (h m : Nat) (hc : c.length = m + 1) (hm : m < 9) : filI (sloF c h) zI 10 m = sloM c h := by
  refine List.ext_getElem (by simp [filI, sloM]) fun j h1 h2 => ?_
  simp only [filI, sloM, List.getElem_map, List.getElem_range, sloF]
  by_cases e : j < m
  · rw [if_pos e, if_pos (by omega)]
  · rw [if_neg e, if_neg (by omega)]
set_option maxRecDepth 8000 in
theorem part_slope_con (Z : List (List Nat)) (m n i h : Nat) (hZ : Rk (m + 1) n Z) (hi : i < n) (hm : m < 9) : Con Tryz.prog 83 [ptV Z i, fl h] (mdV (sloM (colT Z i) h)) := by
  have hl := hZ.1
  have hcl := colT_len Z i
  have hr := fun k h => hZ.2 k h
  have hca := fun k h => colT_at Z i k h
  have hfil := sloM_fil (colT Z i) h m (by omega) hm
  have e2 : ofM [] = List.replicate 10 (0, 0) := by rfl
  have w1 : IntKind.i64.wrap ((Z.length : Int) - 1) = (m : Int) := by rw [wrapI (by omega) (by omega)]; omega
  refine Con_introA A_bound_part_slope_comp rfl mixed ?_
  refine evx @A_bound_part_slope.eq_1 ?_
  refine callG_con (model_Of_nil_con) rfl ?_
  refine evx (And.intro @rowsD.eq_1 w1) ?_
  (repeat (with_reducible refine And.intro (by omega) ?_))
  rw [splice_all _ _ (by rw [ivC_length, ofM_len]; rfl), e2]
  refine ⟨rfl, ?_⟩
  refine WA_forW (n := m) (fun c s => ∃ k, c + k = m ∧ s = ⟨[(1, fl h), (2, .ptr 0 0 0 2), (4, .ptr 1 0 0 20), (5, .ptr 3 0 0 20), (11, fI m), (12, fI k)],
    [(3, [ivC (filI (sloF (colT Z i) h) zI 10 k)]), (1, [ivC (List.replicate 10 (0, 0))]), (0, [[.d (rowsD Z), fI i]])]⟩) (Le.refl _) ⟨0, by omega, rfl⟩ ?_
  rintro c s ⟨k, hc, rfl⟩
  have hfl := filI_len (sloF (colT Z i) h) zI 10 k
  refine evx @A_bound_part_slope_L0.eq_1 ?_
  refine condC_intro (fun h2 => ?_) (fun h2 => ?_)
  · replace h2 := of_decide_eq_true h2
    have hk : k < m := by omega
    have rk := hr (k + 1) (by omega)
    have w2 : IntKind.i64.wrap ((k : Int) + 1) = ((k + 1 : Nat) : Int) := by rw [wrapI (by omega) (by omega)]; omega
    refine evx (And.intro @rowsD.eq_1 (And.intro @rowsG.eq_1 w2)) ?_
    refine callSG_con (bound_point_con (FloatKind.nearest .f64 ((k + 1 : Nat) : Int))) rfl ?_
    refine evx (And.intro @rowsD.eq_1 (And.intro @rowsG.eq_1 w2)) ?_
    (repeat (with_reducible refine And.intro (by omega) ?_))
    refine callG_con (bound_point_con ((Z.getD (k + 1) []).getD i 0)) rfl ?_
    refine ev ?_
    refine callG_con (iv_Mul_con (pt (FloatKind.nearest .f64 ((k + 1 : Nat) : Int))) (pt ((Z.getD (k + 1) []).getD i 0))) rfl ?_
    refine ev ?_
    refine callG_con (bound_point_con h) rfl ?_
    refine ev ?_
    refine callG_con (iv_Div_con (ivMul (pt (FloatKind.nearest .f64 ((k + 1 : Nat) : Int))) (pt ((Z.getD (k + 1) []).getD i 0))) (pt h)) rfl ?_
    have e1 : ivDiv (ivMul (pt (FloatKind.nearest .f64 ((k + 1 : Nat) : Int))) (pt ((Z.getD (k + 1) []).getD i 0))) (pt h) = sloF (colT Z i) h k := by
      unfold sloF; rw [hca (k + 1) (by omega)]; rfl
    rw [e1]
    refine evx w2 ?_
    (repeat (with_reducible refine And.intro (by omega) ?_))
    rw [ivC_put _ _ _ _ (by omega), filI_set _ _ _ _ _ rfl]
    exact ⟨c - 1, _, by omega, LeT.only (fun X => decide (X ≤ 3)) (fun _ h => h) rfl (by simp (maxDischargeDepth := 6) [kpS, fam_cons, fam_nil, KpA_ivC']) (by simp (maxDischargeDepth := 6) [kpS, fam_cons, fam_nil, KpA_ivC']), k + 1, by omega, rfl⟩
  · replace h2 := of_decide_eq_false h2
    obtain rfl : k = m := by omega
    rw [hfil] at hfl ⊢
    simp -implicitDefEqProofs only [evI, hv, effC, reduceCtorEq, ↓reduceIte, n1_, n2_, n3_, n4_, n5_, i1_, i2_, i3_, i4_, i5_, i6_, i7_, ivC_20 _ hfl]
    (repeat (with_reducible refine And.intro (by omega) ?_))
    rw [splice_all _ _ (by rw [ivC_length, ivC_length, hfl]; rfl)]
    exact endsT_ivs _ (by omega) (by decide) rfl rfl rfl
set_option maxRecDepth 8000 in
theorem bound_parts_con (v : Nd) (n : Nat) (hl : 0 < v.z.length) (hz : (v.z.getD 0 []).length = n) (hn : n < 2 ^ 40) : Con Tryz.prog 35 [ndV v] (.d (ptD v.z n)) := by
  refine Con_introA A_bound_parts_comp rfl mixed ?_
  refine evx @A_bound_parts.eq_1 ?_
  (repeat (with_reducible refine And.intro (by omega) ?_))
  refine WA_forW (n := n) (fun c s => ∃ k, c + k = n ∧ s = ⟨[(1, .ptr 0 0 0 5), (3, .sl 100 0 0 k 2 (k * 2)), (9, fI (v.z.getD 0 []).length), (10, fI k)],
    [(100, [dcells k (ptG v.z)]), (0, [ndC v])]⟩) (s0 := ⟨_, _⟩)
    (LeT.nilrow (X := 100) (esz := 2) (as' := [(1, .ptr 0 0 0 5), (3, .sl 100 0 0 0 2 0), (9, fI (v.z.getD 0 []).length), (10, fI 0)]) (by simp [fam_cons, fam_nil]) (fun h => h) fun i => ?_) ⟨0, by omega, rfl⟩ ?_
  · simp only [look]
    repeat' split
    all_goals simp
  rintro c s ⟨k, hc, rfl⟩
  have hdl : (dcells k (ptG v.z)).length = k * 2 := dcells_len k fun _ _ => rfl
  refine evx @A_bound_parts_L0.eq_1 ?_
  refine condC_intro (fun h => ?_) (fun h => ?_)
  · replace h := of_decide_eq_true h
    refine ev ?_
    (repeat (with_reducible refine And.intro (by omega) ?_))
    have e : dcells k (ptG v.z) ++ [.d (.bor v.z.length (rowsG v.z)), .d (.int .i64 (k : Int))] = dcells (k + 1) (ptG v.z) := by rw [dcells_succ]; rfl
    rw [e, wrapI (by omega) (by omega), show k * 2 + 2 = (k + 1) * 2 by omega]
    exact ⟨c - 1, _, by omega, LeT.only (fun X => decide (X ≤ 100)) (fun _ h => h) rfl (by simp [kpS]) (by simp [kpS]), k + 1, by omega, rfl⟩
  · replace h := of_decide_eq_false h
    obtain rfl : k = n := by omega
    refine ev ?_
    refine endsT_le (.sl 100 0 0 k 2 (k * 2)) (fun _ h => h) (resV_tmpI (t := 2) (by decide) rfl) ?_
    exact .d (snapF_data (esz := 2) (fun Y q h => by simp [get_nil] at h) (by simp [get_cons]) (fun j hj => rfl) rfl)
theorem bestF_gr (f : Nat → Nat) (k : Nat) : gr (if k = 0 then 0 else bestF f (k - 1)) (decide (0 < k)) (f k) = bestF f k := by
  rcases k with _ | k
  · rfl
  · rw [if_neg (by omega), Nat.add_sub_cancel, decide_eq_true (by omega)]; rfl
set_option maxRecDepth 8000 in
theorem bound_jump_con (Z : List (List Nat)) (y : List Nat) (m n : Nat) (hZ : Rk (m + 1) n Z) (hy : y.length = n) (hn : 0 < n ∧ n < 2 ^ 40) (hm : m < 1000) : Con Tryz.prog 37 [.d (ptD Z n), .d (rowD y)] (fl (bestF (jmpI Z y) (n - 1))) := by
  refine Con_introA A_bound_jump_comp rfl mixed ?_
  refine evx @A_bound_jump.eq_1 ?_
  refine evx @ptD.eq_1 ?_
  refine WA_forW (n := n) (fun c s => ∃ k, c + k = n ∧ s = ⟨[(1, .d (rowD y)), (5, .ptr 0 0 0 2), (6, .d (.fn 77 [] [])), (9, .d (ptD Z n)), (10, fI n), (11, fI k)],
    [(0, [[fl (if k = 0 then 0 else bestF (jmpI Z y) (k - 1)), fB (decide (0 < k))]])]⟩) (Le.refl _) ⟨0, by omega, rfl⟩ ?_
  rintro c s ⟨k, hc, rfl⟩
  refine evx (And.intro @A_bound_jump_L0.eq_1 @ptD.eq_1) ?_
  refine condC_intro (fun h => ?_) (fun h => ?_)
  · replace h := of_decide_eq_true h
    have hk : k < n := by omega
    refine evx @ptG.eq_1 ?_
    (repeat (with_reducible refine And.intro (by omega) ?_))
    refine callSG_con (part_at_con Z m n k hZ hk hm) rfl ?_
    refine ev ?_
    (repeat (with_reducible refine And.intro (by omega) ?_))
    refine callG_con (bound_point_con (y.getD k 0)) rfl ?_
    refine ev ?_
    refine callG_con (iv_Sub_con (valC (colT Z k) negW) (pt (y.getD k 0))) rfl ?_
    refine ev ?_
    refine callG_ac (see_iv_ac _ _ (jmpI Z y k) (ivSub (valC (colT Z k) negW) (pt (y.getD k 0))) 81 (iv_Mag_con _) (rowsD Z) k) ?_
    rw [bestF_gr]
    refine ev ?_
    rw [wrapI (by omega) (by omega)]
    refine ⟨c - 1, _, by omega, LeT.only (fun X => X == 0) (fun _ h => h) rfl (by simp [kpS]) (by simp [kpS]), k + 1, by omega, ?_⟩
    rw [if_neg (by omega), Nat.add_sub_cancel, decide_eq_true (by omega : 0 < k + 1)]
    rfl
  · replace h := of_decide_eq_false h
    obtain rfl : k = n := by omega
    rw [if_neg (by omega)]
    refine ev ?_
    exact endsT_rett rfl (by decide) (by simp [look])
theorem defect1_con (m : Md) (hm : m.length = 10) : Con Tryz.prog 86 [mdV m] (fl (ivMag (rngM m))) := by
  refine Con_introA A_bound_defect_1_comp rfl mixed ?_
  refine evx @A_bound_defect_1.eq_1 ?_
  refine evx (ivC_20 m hm) ?_
  (repeat (with_reducible refine And.intro (by omega) ?_))
  first | refine callG_con (model_Range_con m hm) (by simp [bare_d, ivC_bare]) ?_ | refine callCG_con (model_Range_con m hm) (by simp [bare_d, ivC_bare]) ?_ | refine callSG_con (model_Range_con m hm) (by simp [bare_d, ivC_bare]) ?_
  refine ev ?_
  refine callG_con (iv_Mag_con (rngM m)) rfl ?_
  refine ev ?_
  exact endsT_rett rfl (by decide) (by simp [look])
theorem sloM_len (c : List Nat) (h : Nat) : (sloM c h).length = 10 := by simp [sloM]
set_option maxRecDepth 8000 in
theorem bound_defect_con (t : Tp) (Z : List (List Nat)) (q : List Md) (h m n : Nat) (ht : Tok t) (htn : t.n = n) (hlen : t.ops.length < 2 ^ 39) (hZ : Rk (m + 1) n Z) (hq : q.length = n) (hqr : ∀ i, i < n → (q.getD i []).length = 10) (hn : 0 < n ∧ n < 2 ^ 40) (hm : m < 9) :
    Con Tryz.prog 38 [tapeV t, .d (ptD Z n), .d (mdD q), fl h] (fl (bestF (dftI t Z q h) (n - 1))) := by
  have hcon := model_Eval_con t q ht (by omega) (by rw [htn]; exact hqr) hlen
  have hel := evalM_len t q
  have her := evalM_rows t q ht (by rw [htn]; exact hqr)
  refine Con_introA A_bound_defect_comp rfl mixed ?_
  refine evx @A_bound_defect.eq_1 ?_
  refine callG_con (hcon) rfl ?_
  refine evx @ptD.eq_1 ?_
  refine WA_forW (n := n) (fun c s => ∃ k, c + k = n ∧ s = ⟨[(3, fl h), (9, .ptr 1 0 0 2), (10, .d (mdD (evalM t q))), (11, .d (.fn 83 [] [])), (17, .d (ptD Z n)), (18, fI n), (19, fI k)],
    [(1, [[fl (if k = 0 then 0 else bestF (dftI t Z q h) (k - 1)), fB (decide (0 < k))]]), (0, [[fI t.n, .d (opsD t.ops), .d (rowI t.out)]])]⟩) (Le.refl _) ⟨0, by omega, rfl⟩ ?_
  rintro c s ⟨k, hc, rfl⟩
  refine evx (And.intro @A_bound_defect_L0.eq_1 @ptD.eq_1) ?_
  refine condC_intro (fun h2 => ?_) (fun h2 => ?_)
  · replace h2 := of_decide_eq_true h2
    have hk : k < n := by omega
    have hp := her k (by omega)
    have hgm := mdG_len (evalM t q) k hp
    simp -implicitDefEqProofs only [evI, hv, effC, reduceCtorEq, ↓reduceIte, n1_, n2_, n3_, n4_, n5_, i1_, i2_, i3_, i4_, i5_, i6_, i7_, ptG, mdD, mdG_map, hgm, ivC_20 _ hp]
    (repeat (with_reducible refine And.intro (by omega) ?_))
    refine callSG_con (part_slope_con Z m n k h hZ hk hm) rfl ?_
    refine ev ?_
    first | refine callG_con (model_Sub_con ((evalM t q).getD k []) (sloM (colT Z k) h) hp (sloM_len _ _)) (by simp [bare_d, ivC_bare]) ?_ | refine callCG_con (model_Sub_con ((evalM t q).getD k []) (sloM (colT Z k) h) hp (sloM_len _ _)) (by simp [bare_d, ivC_bare]) ?_ | refine callSG_con (model_Sub_con ((evalM t q).getD k []) (sloM (colT Z k) h) hp (sloM_len _ _)) (by simp [bare_d, ivC_bare]) ?_
    refine ev ?_
    refine callG_ac (see_md_ac _ _ (dftI t Z q h k) (zipM ivSub ((evalM t q).getD k []) (sloM (colT Z k) h)) (zipM_len _ _ _) 86 (defect1_con _ (zipM_len _ _ _)) (rowsD Z) k _ (fun L => by simp [KpA_cons, KpA_nil, Kp_d])) ?_
    rw [bestF_gr]
    refine ev ?_
    rw [wrapI (by omega) (by omega)]
    refine ⟨c - 1, _, by omega, LeT.only (fun X => X == 0 || X == 1) (fun _ h => h) rfl (by simp [kpS]) (by simp [kpS]), k + 1, by omega, ?_⟩
    rw [if_neg (by omega), Nat.add_sub_cancel, decide_eq_true (by omega : 0 < k + 1)]
    rfl
  · replace h2 := of_decide_eq_false h2
    obtain rfl : k = n := by omega
    rw [if_neg (by omega)]
    refine ev ?_
    exact endsT_rett rfl (by decide) (by simp [look])
theorem xor_sign {r : Nat} (h : Pw r) : cf (r ^^^ 9223372036854775808) = 9223372036854775808 + r := by
  unfold Pw at h
  have e : r ^^^ 9223372036854775808 = 9223372036854775808 + r := by
    have h2 : 9223372036854775808 + r = 2 ^ 63 ||| r := by
      have := Nat.two_pow_add_eq_or_of_lt (i := 63) (b := r) (by omega) 1
      simpa using this
    rw [h2, show (9223372036854775808 : Nat) = 2 ^ 63 from rfl]
    refine Nat.eq_of_testBit_eq fun i => ?_
    rw [Nat.testBit_xor, Nat.testBit_or, Nat.testBit_two_pow]
    by_cases hi : 63 = i
    · subst hi
      have : r.testBit 63 = false := Nat.testBit_lt_two_pow (by omega)
      simp [this]
    · simp [hi]
  rw [e]
  refine cf_not ?_
  unfold isNan
  simp only [decide_eq_false_iff_not]
  omega
theorem neg_iv {r : Nat} (h : Pw r) (h0 : 0 < r) : ivMake (cf (r ^^^ 9223372036854775808)) r = (fop .sub 0 r, r) := by
  obtain ⟨h1, h2⟩ := neg_Pw h h0
  rw [xor_sign h, h1]
  unfold ivMake
  rw [if_pos h2]
set_option maxRecDepth 8000 in
theorem bound_tube_con (q : List Md) (r n : Nat) (hq : q.length = n) (hqr : ∀ i, i < n → (q.getD i []).length = 10) (hn : n < 2 ^ 40) (hr : Pw r) (h0 : 0 < r) : Con Tryz.prog 41 [.d (mdD q), fl r] (.d (ivD (tabI (tubI q r) n))) := by
  have htl := tabI_len (tubI q r) n
  refine Con_introA A_bound_tube_comp rfl mixed ?_
  refine evx @A_bound_tube.eq_1 ?_
  refine evx @mdD.eq_1 ?_
  refine WA_forW (n := n) (fun c s => ∃ k, c + k = n ∧ s = ⟨[(1, fl r), (5, .sl 100 0 0 k 2 (k * 2)), (8, .d (mdD q)), (9, fI q.length), (10, fI k)], [(100, [ivC (tabI (tubI q r) k)])]⟩) (s0 := ⟨_, _⟩)
    (LeT.nilrow (X := 100) (esz := 2) (as' := [(1, fl r), (5, .sl 100 0 0 0 2 0), (8, .d (mdD q)), (9, fI q.length), (10, fI 0)]) (by simp [fam_cons, fam_nil]) (fun h => h) fun i => ?_) ⟨0, by omega, rfl⟩ ?_
  · simp only [look]
    repeat' split
    all_goals simp [mdD]
  rintro c s ⟨k, hc, rfl⟩
  have hkl := tabI_len (tubI q r) k
  refine evx (And.intro @A_bound_tube_L0.eq_1 @mdD.eq_1) ?_
  refine condC_intro (fun h => ?_) (fun h => ?_)
  · replace h := of_decide_eq_true h
    have hk : k < n := by omega
    have hp := hqr k hk
    have hgm := mdG_len q k hp
    simp -implicitDefEqProofs only [evI, hv, effC, reduceCtorEq, ↓reduceIte, n1_, n2_, n3_, n4_, n5_, i1_, i2_, i3_, i4_, i5_, i6_, i7_, mdG_map, hgm, ivC_20 _ hp, ivC_len20 _ hp, splice_z20 _ hp]
    (repeat (with_reducible refine And.intro (by omega) ?_))
    first | refine callG_con (model_Range_con (q.getD k []) hp) (by simp [bare_d, ivC_bare]) ?_ | refine callCG_con (model_Range_con (q.getD k []) hp) (by simp [bare_d, ivC_bare]) ?_ | refine callSG_con (model_Range_con (q.getD k []) hp) (by simp [bare_d, ivC_bare]) ?_
    refine ev ?_
    refine callG_con (iv_Make_con (cf (r ^^^ 9223372036854775808)) r) rfl ?_
    rw [neg_iv hr h0]
    refine ev ?_
    refine callG_con (iv_Add_con (rngM (q.getD k [])) (fop .sub 0 r, r)) rfl ?_
    refine ev ?_
    (repeat (with_reducible refine And.intro (by omega) ?_))
    have e : ivAdd (rngM (q.getD k [])) (fop .sub 0 r, r) = tubI q r k := rfl
    rw [e, wrapI (by omega) (by omega), ivC_tabI, show k * 2 + 2 = (k + 1) * 2 by omega]
    exact ⟨c - 1, _, by omega, LeT.only (fun X => X == 100) (fun _ h => h) rfl (by simp (maxDischargeDepth := 6) [kpS, fam_cons, fam_nil, KpA_ivC']) (by simp (maxDischargeDepth := 6) [kpS, fam_cons, fam_nil, KpA_ivC']), k + 1, by omega, rfl⟩
  · replace h := of_decide_eq_false h
    obtain rfl : k = n := by omega
    refine ev ?_
    refine endsT_le (.sl 100 0 0 k 2 (k * 2)) (fun _ h => h) (resV_tmpI (t := 4) (by decide) rfl) ?_
    exact .d (snap_iv (fun Y q h => by simp [get_nil] at h) (by simp [get_cons]) htl rfl)
def insL (l box : List Iv) (k : Nat) : Bool := (List.range k).all fun i => withinI (mG l i) (mG box i)
theorem insL_succ (l box : List Iv) (k : Nat) : insL l box (k + 1) = (insL l box k && withinI (mG l k) (mG box k)) := by simp [insL, List.range_succ]
theorem insL_false (l box : List Iv) (k n : Nat) (h : k ≤ n) (hf : insL l box k = false) : insL l box n = false := by
  induction n with
  | zero => obtain rfl : k = 0 := by omega
            exact hf
  | succ n ih =>
    by_cases e : k = n + 1
    · subst e; exact hf
    · rw [insL_succ, ih (by omega)]; rfl
set_option maxRecDepth 8000 in
theorem bound_inside_con (l box : List Iv) (n : Nat) (hl : l.length = n) (hb : n ≤ box.length) (hn : n < 2 ^ 40) : Con Tryz.prog 42 [.d (ivD l), .d (ivD box)] (fB (insL l box n)) := by
  refine Con_introA A_bound_inside_comp rfl mixed ?_
  refine evx @A_bound_inside.eq_1 ?_
  refine WA_forW (n := n) (fun c s => ∃ k, c + k = n ∧ insL l box k = true ∧ s = ⟨[(1, .d (ivD box)), (7, .d (ivD l)), (8, fI l.length), (9, fI k)], []⟩) (Le.refl _) ⟨0, by omega, rfl, rfl⟩ ?_
  rintro c s ⟨k, hc, hin, rfl⟩
  refine evx @A_bound_inside_L0.eq_1 ?_
  refine condC_intro (fun h => ?_) (fun h => ?_)
  · replace h := of_decide_eq_true h
    have hk : k < n := by omega
    have e := insL_succ l box k
    rw [hin] at e
    refine evx @ivG_eq ?_
    (repeat (with_reducible refine And.intro (by omega) ?_))
    refine callG_con (iv_Within_con (mG l k) (mG box k)) rfl ?_
    cases hw : withinI (mG l k) (mG box k)
    · rw [hw] at e
      refine ev ?_
      rw [insL_false l box (k + 1) n (by omega) e]
      exact endsT_rett rfl (by decide) (by simp [look])
    · rw [hw] at e
      refine ev ?_
      rw [wrapI (by omega) (by omega)]
      exact ⟨c - 1, _, by omega, LeT.only (fun X => false) (fun _ h => h) rfl (by simp [kpS]) (by simp [kpS]), k + 1, by omega, e, rfl⟩
  · replace h := of_decide_eq_false h
    obtain rfl : k = n := by omega
    refine ev ?_
    rw [hin]
    exact endsT_rett rfl (by decide) (by simp [look])
theorem max1 {g : Nat} (h : isNan g = false) : fmaxmin true 4607182418800017408 g = if fcmp .gt g 4607182418800017408 = true then g else 4607182418800017408 := by
  have f1 : fin 4607182418800017408 := ⟨false, 4503599627370496, -52, by decide +kernel⟩
  have r1 : Ieee.double.read 4607182418800017408 = .number false 4503599627370496 (-52) := by decide +kernel
  have rn : (Ieee.double.read 4607182418800017408).neg = false := by rw [r1]; rfl
  unfold fmaxmin fcmp
  simp only [rn]
  cases hd : Ieee.double.read g with
  | nan s t =>
    have : isNan g = true := by rw [← read_nan, hd]; rfl
    rw [this] at h; cases h
  | infinity s =>
    unfold Ieee.Format.order
    rw [hd, r1]
    cases s <;> simp [Ieee.Datum.order]
  | number s m i =>
    have fg : fin g := ⟨s, m, i, hd⟩
    rcases order_fin f1 fg with ⟨h1, e1⟩ | ⟨h1, e1⟩ | ⟨h1, e1⟩ <;> rcases order_fin fg f1 with ⟨h2, e2⟩ | ⟨h2, e2⟩ | ⟨h2, e2⟩ <;> first | (rw [e1, e2]; simp; done) | (exfalso; grind)
theorem ivMake_nan (lo hi : Nat) : isNan (ivMake lo hi).2 = false := by
  unfold ivMake
  split
  · rename_i h
    show isNan hi = false
    cases hn : isNan hi with
    | false => rfl
    | true =>
      unfold fcmp at h
      rw [order_none_r hn] at h
      simp at h
  · decide
theorem spanF_nan (l : List Nat) : ∀ lo hi, isNan (spanF l lo hi).2 = false := by
  induction l with
  | nil => intro lo hi; exact ivMake_nan _ _
  | cons x l ih =>
    intro lo hi
    unfold spanF
    split
    · decide
    · exact ih _ _
theorem ivExp_nan (x : Nat) : isNan (ivExp x) = false := by
  unfold ivExp
  split
  · decide
  · exact spanF_nan _ _ _
theorem bound_growth_con (h m : Nat) : Con Tryz.prog 45 [fl h, fl m] (fl (growF h m)) := by
  unfold growF
  rw [show oneW = 4607182418800017408 from rfl]
  refine Con_introA A_bound_growth_comp rfl mixed ?_
  refine evx @A_bound_growth.eq_1 ?_
  refine condC_intro (fun h2 => ?_) (fun h2 => ?_)
  · rw [if_pos h2]
    refine ev ?_
    exact endsT_rett rfl (by decide) (by simp [look])
  · rw [if_neg (by simp [h2])]
    refine ev ?_
    refine callG_con (fp_Up_con _) rfl ?_
    refine ev ?_
    refine callG_con (iv_Exp_con _) rfl ?_
    refine ev ?_
    rw [max1 (ivExp_nan _)]
    exact endsT_rett rfl (by decide) (by simp [look])
end Go.Ab
namespace Go.Ab
set_option linter.unusedSimpArgs false
set_option linter.unusedVariables false
open Go Go.Proofs
theorem ivMake_cw {lo hi : Nat} (h : cw hi) : cw (ivMake lo hi).2 := by
  unfold ivMake; split
  · exact h
  · exact .inr (.inl rfl)
theorem spanF_cw (l : List Nat) : ∀ lo hi, (∀ x ∈ l, cw x) → cw hi → cw (spanF l lo hi).2 := by
  induction l with
  | nil => intro lo hi _ h; exact ivMake_cw (up_cw h)
  | cons x l ih =>
    intro lo hi hl h
    unfold spanF
    split
    · exact .inr (.inl rfl)
    · refine ih _ _ (fun y hy => hl y (List.mem_cons_of_mem _ hy)) ?_
      split
      · exact hl x (List.mem_cons_self ..)
      · exact h
theorem ivAdd_cw (a b : Iv) : cw (ivAdd a b).2 := ivMake_cw (up_cw (fop_cw _ _ _))
theorem ivSub_cw (a b : Iv) : cw (ivSub a b).2 := ivMake_cw (up_cw (fop_cw _ _ _))
theorem ivMul_cw (a b : Iv) : cw (ivMul a b).2 := by
  refine spanF_cw _ _ _ (fun x hx => ?_) (fop_cw _ _ _)
  simp at hx
  rcases hx with rfl | rfl | rfl | rfl <;> exact fop_cw _ _ _
theorem ivDiv_cw (a b : Iv) : cw (ivDiv a b).2 := by
  unfold ivDiv; split
  · exact .inr (.inl rfl)
  · refine spanF_cw _ _ _ (fun x hx => ?_) (fop_cw _ _ _)
    simp at hx
    rcases hx with rfl | rfl | rfl | rfl <;> exact fop_cw _ _ _
theorem cw_oneW : cw oneW := .inr (.inr (.inr ⟨false, 4607182418800017408, by decide, by decide⟩))
theorem sloI_cw (o : OpN) (q : Iv) (r : List Iv) (dr : List (List Iv)) (k : Nat) : cw (sloI o q r dr k).2 := by
  unfold sloI
  repeat' split
  · exact cw_oneW
  · exact cw_zero
  · exact ivAdd_cw _ _
  · exact ivSub_cw _ _
  · exact ivAdd_cw _ _
  · exact ivDiv_cw _ _
theorem drI_cw (t : Tp) (x : List Iv) (i : Nat) : ∀ j k, cw (mG ((drI t x i).getD j []) k).2 := by
  induction i with
  | zero => intro j k; exact cw_zero
  | succ i ih =>
    intro j k
    have hl := drI_len t x i
    unfold drI
    by_cases h : j < i
    · rw [List.getD_eq_getElem?_getD, List.getElem?_append_left (by omega), ← List.getD_eq_getElem?_getD]
      exact ih j k
    · rw [List.getD_eq_getElem?_getD, List.getElem?_append_right (by omega), hl]
      by_cases h2 : j - i = 0
      · rw [h2]
        show cw (mG (tabI _ t.n) k).2
        by_cases hk : k < t.n
        · rw [mG_tabI _ _ _ hk]; exact sloI_cw _ _ _ _ _
        · have : mG (tabI (sloI (t.ops.getD i ⟨0, 0, 0, 0⟩) (opI (t.ops.getD i ⟨0, 0, 0, 0⟩) x (regI t x i)) (regI t x i) (drI t x i)) t.n) k = (0, 0) := by
            unfold mG
            rw [List.getD_eq_getElem?_getD, List.getElem?_eq_none (by rw [tabI_len]; omega)]; rfl
          rw [this]; exact cw_zero
      · rw [List.getElem?_eq_none (by simp; omega)]; exact cw_zero
theorem jacI_cw (t : Tp) (x : List Iv) : Jcw (jacI t x) := fun i => by
  unfold jacI
  by_cases h : i < t.n
  · rw [List.getD_eq_getElem?_getD, List.getElem?_map, List.getElem?_range h]
    exact drI_cw t x _ _ _
  · rw [List.getD_eq_getElem?_getD, List.getElem?_eq_none (by simp; omega)]; exact cw_zero
theorem jacI_rows (t : Tp) (x : List Iv) (ht : Tok t) (i : Nat) (h : i < t.n) : ((jacI t x).getD i []).length = t.n := by
  unfold jacI
  rw [List.getD_eq_getElem?_getD, List.getElem?_map, List.getElem?_range h]
  have := ht.out i h
  exact drI_rows t x _ _ (by omega)
theorem sqI_cw (y : Iv) (k : Nat) : cw (sqI y (k + 1)).2 := ivMul_cw _ _
theorem ivExp_cw (x : Nat) : cw (ivExp x) := by
  unfold ivExp; split
  · exact .inr (.inl rfl)
  · exact sqI_cw _ 9
theorem f1W : fin oneW := ⟨false, 4503599627370496, -52, by decide +kernel⟩
theorem v1W : val oneW = 1 := by
  have h : Ieee.double.read oneW = .number false 4503599627370496 (-52) := by decide +kernel
  rw [val_eq h]; decide +kernel
theorem cw_gt1 {x : Nat} (h : cw x) (hg : fcmp .gt x oneW = true) : Pw x ∧ 0 < x := by
  rcases h with rfl | rfl | rfl | ⟨s, r, hr, rfl⟩
  · have : fcmp .gt qnan oneW = false := by decide +kernel
    rw [this] at hg; cases hg
  · exact ⟨Nat.le_refl _, by decide⟩
  · have : fcmp .gt fninf oneW = false := by decide +kernel
    rw [this] at hg; cases hg
  · have hf := fin_word s r hr
    rw [fcmp_gt hf f1W, val_word s r hr, v1W] at hg
    have h0 := rv_nonneg r
    cases s
    · rw [word_false]
      unfold Pw
      refine ⟨by omega, ?_⟩
      rcases Nat.eq_zero_or_pos r with rfl | h1
      · rw [rv_zero] at hg; simp at hg; grind
      · exact h1
    · simp at hg; grind
theorem growF_Pw (h m : Nat) : Pw (growF h m) ∧ 0 < growF h m := by
  unfold growF
  split
  · exact ⟨by unfold Pw; decide, by decide⟩
  · split
    · rename_i h2; exact cw_gt1 (ivExp_cw _) h2
    · exact ⟨by unfold Pw; decide, by decide⟩
theorem Pw_pos {x : Nat} (h : x < 9218868437227405312) (h0 : 0 < x) : fin x ∧ 0 < val x := by
  refine ⟨Pw_fin h, ?_⟩
  rw [Pw_val h]
  have := rv_lt h0
  rwa [rv_zero] at this
theorem Pw_mul2 {x y : Nat} (hx : Pw x) (h0 : 0 < x) (hy : Pw y) (hy0 : 0 < y) : Pw (fop .mul x y) := by
  by_cases e : x = 9218868437227405312
  · subst e
    unfold fop Ieee.Format.mul
    simp only
    rcases Pw_read hy with ⟨n, j, h2⟩ | rfl
    · rw [read_inf, h2]
      have hn : n ≠ 0 := by
        rintro rfl
        by_cases e2 : y = 9218868437227405312
        · subst e2; rw [read_inf] at h2; cases h2
        · unfold Pw at hy
          have := (Pw_pos (by omega) hy0).2
          rw [val_eq h2] at this
          simp at this
      have e : Ieee.Datum.product (.infinity false) (.number false n j) = some (.infinity false) := by simp only [Ieee.Datum.product, hn, if_false, Bool.xor_self]
      rw [e]; exact Pw_some _ Pw_inf
    · rw [read_inf, show Ieee.Datum.product (.infinity false) (.infinity false) = some (.infinity false) from rfl]; exact Pw_some _ Pw_inf
  · unfold Pw at hx
    obtain ⟨f, v⟩ := Pw_pos (by omega) h0
    exact Pw_mul f (by unfold Pw; omega) v hy
theorem fabs_Pw {x : Nat} (h : finite (fabs x) = true) : Pw (fabs x) := by
  unfold finite at h
  simp only [Bool.and_eq_true, Bool.not_eq_true'] at h
  have hn := h.1
  unfold fabs at hn ⊢
  rw [isNan_cf] at hn
  rw [cf_not hn]
  have hb : bits0 x < 9223372036854775808 := Nat.mod_lt _ (by decide)
  unfold isNan at hn
  simp only [decide_eq_false_iff_not] at hn
  unfold Pw
  omega
theorem mag_Pw {p : Iv} (h : finite (ivMag p) = true) : Pw (ivMag p) := by
  unfold ivMag at h ⊢
  split at h
  · rename_i h1; rw [if_pos h1]; exact fabs_Pw h
  · rename_i h1; rw [if_neg h1]; exact fabs_Pw h
theorem bestF_is (f : Nat → Nat) (k : Nat) : ∃ i, i ≤ k ∧ bestF f k = f i := by
  induction k with
  | zero => exact ⟨0, Nat.le_refl _, rfl⟩
  | succ k ih =>
    rw [bestF]; split
    · exact ⟨k + 1, Nat.le_refl _, rfl⟩
    · obtain ⟨i, h, e⟩ := ih; exact ⟨i, by omega, e⟩
theorem hW_rng : ((List.range 60).all fun j => decide (0 < hW (2 ^ j)) && decide (hW (2 ^ j) < 9218868437227405312)) = true := by kernel_rfl
theorem hW_Pw (j : Nat) (h : j < 60) : 0 < hW (2 ^ j) ∧ hW (2 ^ j) < 9218868437227405312 := by
  have := List.all_eq_true.1 hW_rng j (by simpa using h)
  simpa using this
theorem four_Pw {x : Nat} (h : Pw x) : Pw (up (fop .mul 4616189618054758400 x)) ∧ 0 < up (fop .mul 4616189618054758400 x) := by
  obtain ⟨f, v⟩ := Pw_pos (x := 4616189618054758400) (by decide) (by decide)
  exact up_pos (Pw_mul f (by unfold Pw; decide) v h)
theorem bnd_begin {w j d h : Nat} (hw : Pw w) (hj : Pw j) (hd : Pw d) (h0 : 0 < h ∧ h < 9218868437227405312) :
    Pw (up (fop .add (up (fop .add w j)) (up (fop .mul h d)))) ∧ 0 < up (fop .add (up (fop .add w j)) (up (fop .mul h d))) := by
  obtain ⟨f, v⟩ := Pw_pos h0.2 h0.1
  exact up_pos (Pw_add (up_pos (Pw_add hw hj)).1 (up_pos (Pw_mul f (by unfold Pw; omega) v hd)).1)
theorem insK_eq (q : List Md) (box : List Iv) (r n : Nat) : insK q box r n = insL (tabI (tubI q r) n) box n := by
  unfold insK insL
  rw [Bool.eq_iff_iff, List.all_eq_true, List.all_eq_true]
  constructor <;> intro h i hi <;> have := h i hi <;> rw [List.mem_range] at hi <;> rw [mG_tabI _ _ _ hi] at * <;> exact this
end Go.Ab
namespace Go.Ab
set_option linter.unusedSimpArgs false
set_option linter.unusedVariables false
open Nat renaming reduceEqDiff → n1_, reduceAdd → n2_, reduceMul → n3_, reduceLT → n4_, reduceLeDiff → n5_
open Int renaming reduceToNat → i1_, reduceAdd → i2_, reduceSub → i3_, reduceMul → i4_, reduceNeg → i5_, reduceLT → i6_, reduceLE → i7_
open Go Go.Proofs
def A_bound_Step_L0 : CA := (.seq (.reg [i_N 0 30 .lss 29 28] [2, 3, 4, 8, 10, 11, 12, 27, 28, 29, 30]) (.seq (.cond (.t 30) .skip (.exit 0)) (.seq (.block 1 (.seq (.reg [i_I 0 31 27 29 2, i_A 1 32 31 2, i_X 2 14 (.alloc [.nil, (.d (.int .i64 0))] 84), i_S 3 14 32 2] [2, 3, 4, 8, 10, 11, 12, 14, 27, 28, 29]) (.reg [i_M 0 33 12, i_A 1 34 14 2, i_X 2 35 (.callA (kF 36) [(.t 34)]), i_X 3 36 (.bslice z_20 1 20 [(0, (20, (.t 35)))] 87), i_X 4 37 (.app (.t 33) (.t 36) 20 160), i_M 5 12 37] [2, 3, 4, 8, 10, 11, 12, 27, 28, 29]))) (.reg [i_B 0 38 .add 29 1, i_M 1 29 38] [2, 3, 4, 8, 10, 11, 12, 27, 28, 29]))))
def A_bound_Step_L1 : CA := (.seq (.reg [i_B 0 77 .lss 76 3] [4, 8, 10, 12, 15, 17, 18, 76, 77]) (.seq (.cond (.t 77) .skip (.exit 2)) (.seq (.block 3 (.seq (.reg [i_M 0 78 12, i_M 1 79 18, i_X 2 80 (.callA (kF 41) [(.t 78), (.t 79)]), i_M 3 19 80] [4, 8, 10, 12, 15, 17, 18, 19, 76]) (.seq (.seq (.reg [i_M 0 81 19, i_P 1 82 4 3, i_L 2 83 82 1, i_X 3 84 (.callA (kF 42) [(.t 81), (.t 83)]), i_X 4 85 (.h (.un .not (.t 84)))] [4, 8, 10, 12, 15, 17, 18, 19, 76, 85]) (.cond (.t 85) (.seq (.reg [i_X 0 86 (.h (.build z_5 [])), i_S 1 8 86 5, i_K 2 9 3] [8, 9]) .ret) .skip)) (.seq (.reg [i_P 0 87 4 0, i_A 1 88 87 3, i_M 2 89 19, i_X 3 90 (.callA (kF 44) [(.t 88), (.t 89)]), i_X 4 91 (.callA (kF 43) [(.t 90)]), i_P 5 92 15 2, i_S 6 92 91 1] [4, 8, 10, 12, 15, 17, 18, 76]) (.seq (.reg [i_M 0 93 10, i_P 1 94 15 2, i_L 2 95 94 1, i_X 3 96 (.callA (kF 45) [(.t 93), (.t 95)]), i_P 4 97 15 3, i_S 5 97 96 1] [4, 8, 10, 12, 15, 17, 18, 76]) (.seq (.reg [i_P 0 98 15 3, i_L 1 99 98 1, i_M 2 100 17, i_F 3 101 .mul 99 100, i_X 4 102 (.callA (kF 40) [(.t 101)]), i_M 5 20 102] [4, 8, 10, 12, 15, 17, 18, 20, 76]) (.seq (.seq (.reg [i_M 0 103 20, i_M 1 104 18, i_X 2 105 (.h (.fcmp .lt (.t 103) (.t 104)))] [4, 8, 10, 12, 15, 17, 20, 76, 105]) (.cond (.t 105) (.seq (.reg [i_M 0 106 20, i_P 1 107 15 4, i_S 2 107 106 1] [8, 15]) (.seq (.reg [i_A 0 108 15 5, i_S 1 8 108 5, i_K 2 9 0] [8, 9]) .ret)) .skip)) (.seq (.seq (.reg [i_M 0 109 20, i_X 1 110 (.callA (kF 39) [(.t 109)]), i_X 2 111 (.h (.un .not (.t 110)))] [4, 8, 10, 12, 15, 17, 20, 76, 111]) (.cond (.t 111) (.exit 2) .skip)) (.reg [i_M 0 112 20, i_X 1 113 (.h (.fbin .mul (.k (.d (.flt 4616189618054758400))) (.t 112))), i_X 2 114 (.callA (kF 40) [(.t 113)]), i_M 3 18 114] [4, 8, 10, 12, 15, 17, 18, 76]))))))))) (.reg [i_B 0 115 .add 76 1, i_M 1 76 115] [4, 8, 10, 12, 15, 17, 18, 76]))))
def A_bound_Step : CA := (.seq (.reg [i_X 0 4 (.box (.t 0) 13 33), i_X 1 5 (.box (.t 1) 5 37), i_X 2 8 (.alloc z_5 46), i_K 3 9 0] [2, 3, 4, 5, 8]) (.seq (.reg [i_P 0 21 5 1, i_L 1 22 21 1, i_X 2 23 (.h (.i2f (.t 22))), i_X 3 24 (.callA (kF 34) [(.t 23), (.k (.d (.int .i64 (-30))))]), i_M 4 10 24] [2, 3, 4, 5, 8, 10]) (.seq (.reg [i_A 0 25 5 5, i_X 1 26 (.callA (kF 35) [(.t 25)]), i_M 2 11 26] [2, 3, 4, 8, 10, 11]) (.seq (.reg [i_X 0 12 (.h (.mov (.k .nil)))] [2, 3, 4, 8, 10, 11, 12]) (.seq (.seq (.reg [i_M 0 27 11, i_X 1 28 (.h (.len (.t 27))), i_K 2 29 0] [2, 3, 4, 8, 10, 11, 12, 27, 28, 29]) (.block 0 (.loop A_bound_Step_L0))) (.seq (.reg [i_M 0 39 11, i_M 1 40 2, i_X 2 41 (.callS 0 (kF 37) [(.t 39), (.t 40)]), i_P 3 42 4 0, i_A 4 43 42 3, i_M 5 44 11, i_M 6 45 12, i_M 7 46 10, i_X 8 47 (.callS 0 (kF 38) [(.t 43), (.t 44), (.t 45), (.t 46)]), i_X 9 48 (.h (.build z_5 [(0, (1, (.t 41))), (1, (1, (.t 47)))])), i_X 10 15 (.alloc z_5 46), i_S 11 15 48 5] [3, 4, 8, 10, 12, 15]) (.seq (.seq (.reg [i_P 0 49 15 0, i_L 1 50 49 1, i_X 2 51 (.callA (kF 39) [(.t 50)]), i_X 3 52 (.h (.un .not (.t 51))), i_M 4 53 52, ⟨5, (some 54), (some (53, false)), [], [], (.h (.padd (.t 15) 1))⟩, ⟨6, (some 55), (some (53, false)), [], [], (.load (.t 54) 1 false)⟩, ⟨7, (some 56), (some (53, false)), [], [], (.callA (kF 39) [(.t 55)])⟩, ⟨8, (some 57), (some (53, false)), [], [], (.h (.un .not (.t 56)))⟩, i_X 9 58 (.h (.pick (.t 53) (.k (.d (.bool true))) (.t 57)))] [3, 4, 8, 10, 12, 15, 58]) (.cond (.t 58) (.seq (.reg [i_X 0 59 (.h (.build z_5 [])), i_S 1 8 59 5, i_K 2 9 7] [8, 9]) .ret) .skip)) (.seq (.reg [i_M 0 60 3, i_P 1 61 15 0, i_L 2 62 61 1, i_F 3 63 .add 60 62, i_X 4 64 (.callA (kF 40) [(.t 63)]), i_M 5 16 64] [4, 8, 10, 12, 15, 16]) (.seq (.reg [i_M 0 65 16, i_M 1 66 10, i_P 2 67 15 1, i_L 3 68 67 1, i_F 4 69 .mul 66 68, i_X 5 70 (.callA (kF 40) [(.t 69)]), i_F 6 71 .add 65 70, i_X 7 72 (.callA (kF 40) [(.t 71)]), i_M 8 17 72] [4, 8, 10, 12, 15, 17]) (.seq (.reg [i_M 0 73 17, i_X 1 74 (.h (.fbin .mul (.k (.d (.flt 4616189618054758400))) (.t 73))), i_X 2 75 (.callA (kF 40) [(.t 74)]), i_M 3 18 75] [4, 8, 10, 12, 15, 17, 18]) (.seq (.seq (.reg [i_K 0 76 0] [4, 8, 10, 12, 15, 17, 18, 76]) (.block 2 (.loop A_bound_Step_L1))) (.seq (.reg [i_X 0 116 (.h (.build z_5 [])), i_S 1 8 116 5, i_K 2 9 7] [8, 9]) .ret))))))))))))
theorem A_bound_Step_comp : compF Tryz.prog 17 = some ⟨117, [(8, (some (5, true))), (9, none)], A_bound_Step.strip⟩ := by kernel_rfl
abbrev bdV (b : Bnd) : V := .agg [fl b.jump, fl b.defect, fl b.norm, fl b.growth, fl b.bound]
theorem colsM_row (z : List (List Nat)) (n i : Nat) (h : i < n) : (colsM z n).getD i [] = ofM (colT z i) := by
  simp [colsM, List.getD_eq_getElem?_getD, h]
theorem colsM_rows (z : List (List Nat)) (n i : Nat) (h : i < n) : ((colsM z n).getD i []).length = 10 := by rw [colsM_row z n i h]; exact ofM_len _
structure Bok (p : Pb) (v : Nd) (y : List Nat) (w : Nat) : Prop where
  t : Tok p.t
  n : 0 < p.t.n
  len : p.t.ops.length < 2 ^ 39
  rk : Rk (v.order.toNat + 1) p.t.n v.z
  ord : v.order.toNat < 9
  step : ∃ j : Nat, j < 60 ∧ v.step = (2 ^ j : Nat)
  y : y.length = p.t.n
  w : Pw w
  box : p.box.length = p.t.n
theorem Fz_md {L L' : Heap} {Y r n : Nat} {q : List Md} (h : L.get Y r = some (dcells n (mdG q))) (hn : q.length = n) (hr : ∀ i, i < n → (q.getD i []).length = 10) (h' : L'.get Y r = none) : Fz L L' (.sl Y r 0 n 20 (n * 20)) (.d (mdD q)) := by
  unfold mdD
  rw [hn]
  exact .d (snapF_data (esz := 20) (fun Z q hZ e => by cases e; exact hZ h') h (fun j hj => mdG_len _ _ (hr j hj)) rfl)
def NilTo (v : V) : Sl → Sl → Prop
  | [], [] => True
  | (i, a) :: s, (j, b) :: s' => i = j ∧ (b = a ∨ (a = .nil ∧ b = v)) ∧ NilTo v s s'
  | _, _ => False
theorem NilTo.look {v : V} {s s' : Sl} (h : NilTo v s s') (i : Nat) : look s' i = look s i ∨ (look s i = .nil ∧ look s' i = v) := by
  induction s generalizing s' with
  | nil => cases s' with
    | nil => exact .inl rfl
    | cons u us => exact h.elim
  | cons p s ih => cases s' with
    | nil => exact h.elim
    | cons q s' =>
      obtain ⟨k, a⟩ := p
      obtain ⟨k', b⟩ := q
      obtain ⟨rfl, hv, h2⟩ := h
      simp only [Ab.look]
      split
      · exact hv
      · exact ih h2
abbrev bsS0 (y : List Nat) (w H : Nat) (Z : List (List Nat)) (n : Nat) (v : V) (k : Nat) : Sl := [(2, .d (rowD y)), (3, fl w), (4, .ptr 0 0 0 13), (8, .ptr 2 0 0 5), (10, fl H), (11, .d (ptD Z n)), (12, v), (27, .d (ptD Z n)), (28, fI n), (29, fI k)]
abbrev bsH (nd pb : List V) : Heap := [(2, [[fl 0, fl 0, fl 0, fl 0, fl 0]]), (1, [nd]), (0, [pb])]
set_option maxRecDepth 8000 in
theorem bstep_L0 (nd pb : List V) (hnd : ∀ L, KpA L nd) (hpb : ∀ L, KpA L pb) (hndF : ∀ L L', FzA L L' nd nd) (hpbF : ∀ L L', FzA L L' pb pb) (y : List Nat) (w H : Nat) (Z : List (List Nat)) (n m : Nat) (hk : Rk (m + 1) n Z) (hn : 0 < n ∧ n < 2 ^ 20) (ho : m < 9) (Q : Ex → T → Prop)
    (hQ : ∀ a, Q (.exit 0) ⟨bsS0 y w H Z n (.d (mdD (colsM Z n))) n ++ [(30, a)], bsH nd pb⟩) :
    WA Tryz.prog (fun _ => False) 117 (.loop A_bound_Step_L0) Q ⟨bsS0 y w H Z n .nil 0, bsH nd pb⟩ := by
  have hqr := colsM_rows Z n
  have hql := colsM_len Z n
  have hrow := colsM_row Z n
  refine WA_forW (n := n) (fun c s => ∃ k, c + k = n ∧ ((k < n ∧ s = ⟨bsS0 y w H Z n (.sl 100 0 0 k 20 (k * 20)) k, (100, [dcells k (mdG (colsM Z n))]) :: bsH nd pb⟩) ∨ (k = n ∧ s = ⟨bsS0 y w H Z n (.d (mdD (colsM Z n))) k, bsH nd pb⟩))) (s0 := ⟨_, _⟩)
    (LeT.nilrow (X := 100) (esz := 20) (as' := bsS0 y w H Z n (.sl 100 0 0 0 20 0) 0) (by simp [fam_cons, fam_nil]) (fun h => h) (NilTo.look ?_)) ⟨0, by omega, .inl ⟨by omega, rfl⟩⟩ ?_
  · repeat (first | exact trivial | refine ⟨rfl, .inl rfl, ?_⟩ | refine ⟨rfl, .inr ⟨rfl, rfl⟩, ?_⟩)
  rintro c s ⟨k, hc, ⟨hkn, rfl⟩ | ⟨hkn, rfl⟩⟩
  · have hcl : (dcells k (mdG (colsM Z n))).length = k * 20 := dcells_len k fun j hj => mdG_len _ _ (hqr j (by omega))
    have hpo := ofM_len (colT Z k)
    refine evx (And.intro @A_bound_Step_L0.eq_1 @ptD.eq_1) ?_
    have h2 : decide (k < n) = true := decide_eq_true (by omega)
    refine evx (And.intro h2 @ptG.eq_1) ?_
    (repeat (with_reducible refine And.intro (by omega) ?_))
    refine callG_con (part_model_con Z m n k hk hkn (by omega)) rfl ?_
    simp -implicitDefEqProofs only [evI, hv, effC, reduceCtorEq, ↓reduceIte, n1_, n2_, n3_, n4_, n5_, i1_, i2_, i3_, i4_, i5_, i6_, i7_, ivC_len20 _ hpo, splice_z20 _ hpo, ivC_20 _ hpo]
    (repeat (with_reducible refine And.intro (by omega) ?_))
    have e : dcells k (mdG (colsM Z n)) ++ ivC (ofM (colT Z k)) = dcells (k + 1) (mdG (colsM Z n)) := by rw [dcells_succ, ivC_data, mdG, hrow k hkn]
    rw [e, wrapI (by omega) (by omega), show k * 20 + 20 = (k + 1) * 20 by omega]
    by_cases hlast : k + 1 = n
    · have hz : ∀ L : Heap, L.get 100 0 = some (dcells (k + 1) (mdG (colsM Z n))) → Fz L (bsH nd pb) (.sl 100 0 0 (k + 1) 20 ((k + 1) * 20)) (.d (mdD (colsM Z n))) := fun L a => Fz_md a (by omega) (fun i hi => hqr i (by omega)) (by simp [get_cons, get_nil])
      have hpt : ∀ L L' : Heap, Fz L L' (.d (.bor n (ptG Z))) (.d (ptD Z n)) := fun L L' => .d (.d _)
      refine ⟨c - 1, _, by omega, ?_, k + 1, by omega, .inr ⟨hlast, rfl⟩⟩
      have hz2 := hz ((107, [ivC (ofM (colT Z k))]) :: (103, [[.d (.bor Z.length (rowsG Z)), .d (.int .i64 (k : Int))]]) :: (100, [dcells (k + 1) (mdG (colsM Z n))]) :: bsH nd pb) (by simp [get_cons])
      exact LeT.weak (fun _ h => h) (by simp (maxDischargeDepth := 6) [fzS, hpt, hz2]) (by simp (maxDischargeDepth := 6) [fzS, hpt, hndF, hpbF])
    · refine ⟨c - 1, _, by omega, LeT.only (fun X => decide (X ≤ 100)) (fun _ h => h) rfl (by simp (maxDischargeDepth := 6) [kpS, fam_cons, fam_nil, hnd, hpb]) (by simp (maxDischargeDepth := 6) [kpS, fam_cons, fam_nil, hnd, hpb]), k + 1, by omega, .inl ⟨by omega, rfl⟩⟩
  · subst hkn
    refine evx (And.intro @A_bound_Step_L0.eq_1 (And.intro @ptD.eq_1 @Nat.lt_irrefl)) ?_
    exact hQ _
abbrev bsS1 (h e r : Nat) (q : List Md) (k : Nat) : Sl := [(4, .ptr 0 0 0 13), (8, .ptr 2 0 0 5), (10, fl h), (12, .d (mdD q)), (15, .ptr 13 0 0 5), (17, fl e), (18, fl r), (76, fI k)]
abbrev bsH1 (nd : List V) (p : Pb) (od : D) (o : List Nat) : Heap := [(13, [rowV o]), (2, [[fl 0, fl 0, fl 0, fl 0, fl 0]]), (1, [nd]), (0, [pbCo p od])]
set_option maxRecDepth 8000 in
theorem bstep_L1 (nd : List V) (p : Pb) (od : D) (q : List Md) (h e j d : Nat) (ht : Tok p.t) (hn : 0 < p.t.n) (hb : p.box.length = p.t.n) (hq : q.length = p.t.n) (hqr : ∀ i, i < p.t.n → (q.getD i []).length = 10) (he : Pw e ∧ 0 < e) (r0 : Nat) (hr0 : Pw r0 ∧ 0 < r0) (Q : Ex → T → Prop) (R : Bnd × Int) (hR : bndK p.t p.box q h e j d 3 r0 = R)
    (hQ1 : ∀ o : List Nat, o.length = 5 → Q .ret ⟨[(8, .ptr 2 0 0 5), (9, fI R.2)], [(13, [rowV o]), (2, [[fl R.1.jump, fl R.1.defect, fl R.1.norm, fl R.1.growth, fl R.1.bound]]), (1, [nd]), (0, [pbCo p od])]⟩)
    (hQ2 : R = (⟨0, 0, 0, 0, 0⟩, 7) → ∀ (o : List Nat) r k a, Q (.exit 2) ⟨bsS1 h e r q k ++ [(77, a)], bsH1 nd p od o⟩)
    (hQ3 : R = (⟨0, 0, 0, 0, 0⟩, 7) → ∀ (o : List Nat) b k a, Q (.exit 2) ⟨[(4, .ptr 0 0 0 13), (8, .ptr 2 0 0 5), (10, fl h), (12, .d (mdD q)), (15, .ptr 13 0 0 5), (17, fl e), (20, fl b), (76, k), (111, a)], bsH1 nd p od o⟩) :
    WA Tryz.prog (fun _ => False) 117 (.loop A_bound_Step_L1) Q ⟨bsS1 h e r0 q 0, bsH1 nd p od [j, d, 0, 0, 0]⟩ := by
  have hn20 := ht.n
  refine WA_for (n := 3) (fun c s => ∃ k r a b, c + k = 3 ∧ Pw r ∧ 0 < r ∧ bndK p.t p.box q h e j d c r = R ∧ s = ⟨bsS1 h e r q k, bsH1 nd p od [j, d, a, b, 0]⟩) ⟨0, r0, 0, 0, by omega, hr0.1, hr0.2, hR, rfl⟩ ?_
  rintro c s ⟨k, r, a, b, hc, hr, hrp, hR, rfl⟩
  refine evx @A_bound_Step_L1.eq_1 ?_
  refine condC_intro (fun h2 => ?_) (fun h2 => ?_)
  · replace h2 := of_decide_eq_true h2
    obtain ⟨c', rfl⟩ : ∃ c', c = c' + 1 := ⟨c - 1, by omega⟩
    have htl := tabI_len (tubI q r) p.t.n
    have hjl := jacI_len p.t (tabI (tubI q r) p.t.n)
    have hjr := fun i hi => jacI_rows p.t (tabI (tubI q r) p.t.n) ht i hi
    have hcw := jacI_cw p.t (tabI (tubI q r) p.t.n)
    rw [bndK, insK_eq] at hR
    refine ev ?_
    refine callG_con (bound_tube_con q r p.t.n hq hqr (by omega) hr hrp) rfl ?_
    refine ev ?_
    refine callG_con (bound_inside_con (tabI (tubI q r) p.t.n) p.box p.t.n htl (by omega) (by omega)) rfl ?_
    cases hin : insL (tabI (tubI q r) p.t.n) p.box p.t.n
    · rw [hin, if_pos rfl] at hR
      subst hR
      refine ev ?_
      exact hQ1 [j, d, a, b, 0] rfl
    · rw [hin, if_neg (by decide)] at hR
      simp only at hR
      refine ev ?_
      refine callG_con (JacIv_con p.t (tabI (tubI q r) p.t.n) ht htl hn) rfl ?_
      refine ev ?_
      refine callG_con (jac_Norm_con (jacI p.t (tabI (tubI q r) p.t.n)) p.t.n hjl hjr (by omega) hcw) rfl ?_
      generalize normI (jacI p.t (tabI (tubI q r) p.t.n)) = nm at hR ⊢
      refine ev ?_
      refine callG_con (bound_growth_con h nm) rfl ?_
      obtain ⟨g1, g2⟩ := growF_Pw h nm
      generalize growF h nm = g at hR g1 g2 ⊢
      refine ev ?_
      refine callG_con (fp_Up_con (fop .mul g e)) rfl ?_
      have hb1 := up_pos (Pw_mul2 g1 g2 he.1 he.2)
      generalize up (fop .mul g e) = b2 at hR hb1 ⊢
      refine ev ?_
      refine condC_intro (fun h3 => ?_) (fun h3 => ?_)
      · rw [if_pos h3] at hR
        subst hR
        refine ev ?_
        exact hQ1 [j, d, nm, g, b2] rfl
      · rw [if_neg (by simp [h3])] at hR
        refine ev ?_
        refine callG_con (fp_Finite_con b2) rfl ?_
        cases hf : finite b2
        · rw [hf, if_pos rfl] at hR
          refine ev ?_
          exact hQ3 hR.symm [j, d, nm, g, 0] _ _ _
        · rw [hf, if_neg (by decide)] at hR
          obtain ⟨f1, f2⟩ := four_Pw hb1.1
          refine ev ?_
          refine callG_con (fp_Up_con (fop .mul 4616189618054758400 b2)) rfl ?_
          refine ev ?_
          rw [wrapI (by omega) (by omega)]
          exact ⟨c', by omega, k + 1, _, nm, g, by omega, f1, f2, hR, rfl⟩
  · replace h2 := of_decide_eq_false h2
    obtain rfl : c = 0 := by omega
    rw [bndK] at hR
    refine ev ?_
    exact hQ2 hR.symm [j, d, a, b, 0] _ _ _
theorem endsT_bd {s : T} {R : Bnd × Int} (h1 : look s.sl 8 = .ptr 2 0 0 5) (h2 : look s.sl 9 = fI R.2) (h3 : s.L.get 2 0 = some [fl R.1.jump, fl R.1.defect, fl R.1.norm, fl R.1.growth, fl R.1.bound]) : EndsT (fun _ => False) 117 [(8, some (5, true)), (9, none)] (.tup [bdV R.1, fI R.2]) [] .ret s :=
  endsT_ret rfl ⟨_, _, resV_cell (by decide) h1 h3 rfl (by simp) (by simp [ldv]), by rw [← h2]; exact resV_tmpI (by decide) rfl, rfl⟩
set_option maxRecDepth 16000 in
theorem bound_Step_conO (p : Pb) (od : D) (v : Nd) (y : List Nat) (w : Nat) (h : Bok p v y w) : Con Tryz.prog 17 [pbVo p od, ndV v, .d (rowD y), fl w] (.tup [bdV (bndP p.t p.box v.z (hW v.step.toNat) y w).1, fI (bndP p.t p.box v.z (hW v.step.toNat) y w).2]) := by
  obtain ⟨ht, hn, hlen, hk, ho, ⟨j, hj, hst⟩, hy, hw, hb⟩ := h
  have hn20 := ht.n
  have hp := bound_parts_con v p.t.n (by have := hk.1; omega) (hk.2 0 (by omega)) (by omega)
  refine Con_introA A_bound_Step_comp rfl mixed ?_
  refine evx @A_bound_Step.eq_1 ?_
  rw [hst]
  refine callG_con (Scale_step j hj) rfl ?_
  refine ev ?_
  refine callG_con (hp) rfl ?_
  have hH := hW_Pw j hj
  generalize hW (2 ^ j) = H at hH ⊢
  obtain ⟨pos, st, o, mt, Z⟩ := v
  simp only at hst hk ho hp ⊢
  obtain ⟨m, hm⟩ : ∃ m, o.toNat = m := ⟨_, rfl⟩
  rw [hm] at hk ho
  have hqr := colsM_rows Z p.t.n
  have hql := colsM_len Z p.t.n
  refine evx @ptD.eq_1 ?_
  refine bstep_L0 (ndC ⟨pos, st, o, mt, Z⟩) (pbCo p od) (fun L => by simp [KpA_cons, KpA_nil, Kp_d]) (fun L => by simp [KpA_cons, KpA_nil, Kp_d]) (fun L L' => by simp [FzA_cons, FzA_nil, Fz_d]) (fun L L' => by simp [FzA_cons, FzA_nil, Fz_d]) y w H Z p.t.n m hk ⟨hn, hn20⟩ (by omega) _ fun a => ?_
  have hj1 := bound_jump_con Z y m p.t.n hk hy ⟨hn, by omega⟩ (by omega)
  have hd1 := bound_defect_con p.t Z (colsM Z p.t.n) H m p.t.n ht rfl hlen hk hql hqr ⟨hn, by omega⟩ (by omega)
  obtain ⟨ji, _, jE⟩ := bestF_is (jmpI Z y) (p.t.n - 1)
  obtain ⟨di, _, dE⟩ := bestF_is (dftI p.t Z (colsM Z p.t.n) H) (p.t.n - 1)
  have hjP : finite (bestF (jmpI Z y) (p.t.n - 1)) = true → Pw (bestF (jmpI Z y) (p.t.n - 1)) := fun hf => by rw [jE] at hf ⊢; exact mag_Pw hf
  have hdP : finite (bestF (dftI p.t Z (colsM Z p.t.n) H) (p.t.n - 1)) = true → Pw (bestF (dftI p.t Z (colsM Z p.t.n) H) (p.t.n - 1)) := fun hf => by rw [dE] at hf ⊢; exact mag_Pw hf
  unfold bndP
  simp only
  clear jE dE
  refine ev ?_
  refine callSG_con (hj1) rfl ?_
  refine ev ?_
  refine callSG_con (hd1) rfl ?_
  generalize bestF (jmpI Z y) (p.t.n - 1) = jj at hjP ⊢
  generalize bestF (dftI p.t Z (colsM Z p.t.n) H) (p.t.n - 1) = dd at hdP ⊢
  refine ev ?_
  refine callG_con (fp_Finite_con jj) rfl ?_
  generalize hR : (if (finite jj && finite dd) = false then ((⟨0, 0, 0, 0, 0⟩, 7) : Bnd × Int) else bndK p.t p.box (colsM Z p.t.n) H (up (fop .add (up (fop .add w jj)) (up (fop .mul H dd)))) jj dd 3 (up (fop .mul 4616189618054758400 (up (fop .add (up (fop .add w jj)) (up (fop .mul H dd))))))) = R
  cases h1 : finite jj
  · rw [h1, Bool.false_and, if_pos rfl] at hR
    subst hR
    refine ev ?_
    exact endsT_bd (R := (⟨0, 0, 0, 0, 0⟩, 7)) rfl rfl rfl
  · refine ev ?_
    refine callG_con (fp_Finite_con dd) rfl ?_
    cases h2 : finite dd
    · rw [h1, h2, Bool.and_false, if_pos rfl] at hR
      subst hR
      refine ev ?_
      exact endsT_bd (R := (⟨0, 0, 0, 0, 0⟩, 7)) rfl rfl rfl
    · rw [h1, h2, Bool.and_self, if_neg (by decide)] at hR
      have hb1 := bnd_begin hw (hjP h1) (hdP h2) hH
      refine ev ?_
      refine callG_con (fp_Up_con (fop .add w jj)) rfl ?_
      refine ev ?_
      refine callG_con (fp_Up_con (fop .mul H dd)) rfl ?_
      refine ev ?_
      refine callG_con (fp_Up_con (fop .add (up (fop .add w jj)) (up (fop .mul H dd)))) rfl ?_
      generalize up (fop .add (up (fop .add w jj)) (up (fop .mul H dd))) = e at hb1 hR ⊢
      have hr1 := four_Pw hb1.1
      refine ev ?_
      refine callG_con (fp_Up_con (fop .mul 4616189618054758400 e)) rfl ?_
      generalize up (fop .mul 4616189618054758400 e) = r at hr1 hR ⊢
      refine ev ?_
      refine bstep_L1 _ p od (colsM Z p.t.n) H e jj dd ht hn hb hql hqr hb1 r hr1 _ R hR ?_ ?_ ?_
      · intro ov ho5
        refine ev ?_
        exact endsT_bd rfl rfl rfl
      · rintro rfl ov r' k' a'
        refine ev ?_
        exact endsT_bd (R := (⟨0, 0, 0, 0, 0⟩, 7)) rfl rfl rfl
      · rintro rfl ov b' k' a'
        refine ev ?_
        exact endsT_bd (R := (⟨0, 0, 0, 0, 0⟩, 7)) rfl rfl rfl
theorem bound_Step_con (p : Pb) (v : Nd) (y : List Nat) (w : Nat) (h : Bok p v y w) : Con Tryz.prog 17 [pbV p, ndV v, .d (rowD y), fl w] (.tup [bdV (bndP p.t p.box v.z (hW v.step.toNat) y w).1, fI (bndP p.t p.box v.z (hW v.step.toNat) y w).2]) := bound_Step_conO p (rowI p.outs) v y w h
end Go.Ab
namespace Go.Ab
set_option linter.unusedSimpArgs false
set_option linter.unusedVariables false
open Go Go.Proofs
def A_r10_less_L0 : CA := (.seq (.seq (.reg [i_M 0 5 4, i_M 1 6 0, i_N 2 7 .lss 5 6] [0, 3, 4, 7]) (.cond (.t 7) .skip (.exit 0))) (.seq (.block 1 (.reg [i_M 0 10 3, i_X 1 11 (.h (.fbin .div (.t 10) (.k (.d (.flt 4611686018427387904))))), i_M 2 3 11] [0, 3, 4])) (.reg [i_M 0 8 4, i_B 1 9 .add 8 1, i_M 2 4 9] [0, 3, 4])))
def A_r10_less : CA := (.seq (.reg [i_X 0 2 (.h (.mov (.k (.d (.flt 0)))))] [0]) (.seq (.reg [i_X 0 3 (.h (.mov (.k (.d (.flt 4607182418800017408)))))] [0, 3]) (.seq (.seq (.reg [i_K 0 4 0] [0, 3, 4]) (.block 0 (.loop A_r10_less_L0))) (.seq (.reg [i_M 0 12 3, i_M 1 2 12] [2]) .ret))))
theorem A_r10_less_comp : compF Tryz.prog 73 = some ⟨13, [(2, none)], A_r10_less.strip⟩ := by kernel_rfl
def A_r10_most : CA := (.seq (.reg [i_K 0 2 0] [0]) (.seq (.seq (.reg [i_M 0 3 0, i_B 1 4 .eql 3 0] [4]) (.cond (.t 4) (.seq (.reg [i_K 0 2 5] [2]) .ret) .skip)) (.seq (.reg [i_K 0 2 4] [2]) .ret)))
theorem A_r10_most_comp : compF Tryz.prog 74 = some ⟨5, [(2, none)], A_r10_most.strip⟩ := by kernel_rfl
def A_r10_anew : CA := (.seq (.reg [i_X 0 2 (.box (.t 0) 13 33), i_X 1 3 (.box (.t 1) 8 39), i_X 2 4 (.alloc [(.d (.int .i64 0)), (.d (.int .i64 0)), (.d (.int .i64 0)), (.d (.int .i64 0)), .nil, (.d (.int .i64 0)), (.d (.int .i64 0)), (.d (.int .i64 0))] 39)] [2, 3, 4]) (.seq (.reg [i_P 0 6 2 0, i_A 1 7 6 3, i_P 2 8 3 0, i_P 3 9 8 4, i_L 4 10 9 1, i_X 5 11 (.h (.idx (.t 10) (kI 0) 1)), i_L 6 12 11 1, i_P 7 13 3 0, i_P 8 14 13 1, i_L 9 15 14 1, i_X 10 16 (.callS 0 (kF 26) [(.t 7), (.t 12), (.t 15)]), i_X 11 5 (.alloc [(.d (.int .i64 0)), (.d (.int .i64 0)), (.d (.int .i64 0)), (.d (.int .i64 0)), .nil] 37), i_S 12 5 16 5] [3, 4, 5]) (.seq (.reg [i_P 0 17 3 0, i_P 1 18 17 0, i_L 2 19 18 1, i_P 3 20 3 0, i_P 4 21 20 3, ⟨5, (some 22), none, [(.t 3)], [], (.load (.t 21) 1 false)⟩, i_P 6 23 5 0, ⟨7, none, none, [], [(.t 3)], (.store (.t 23) (.t 19) 1)⟩, i_P 8 24 5 3, i_S 9 24 22 1] [3, 4, 5]) (.seq (.reg [i_A 0 25 5 5, i_P 1 26 3 0, i_S 2 26 25 5, i_P 3 27 3 6, ⟨4, none, none, [], [], (.store (.t 27) (kI 0) 1)⟩] [3, 4]) (.seq (.reg [i_A 0 28 3 8, i_S 1 4 28 8] [4]) .ret)))))
theorem A_r10_anew_comp : compF Tryz.prog 70 = some ⟨29, [(4, (some (8, true)))], A_r10_anew.strip⟩ := by kernel_rfl
theorem r10_less_con (k : Nat) (hk : k < 1000) : Con Tryz.prog 73 [fI k] (fl (((List.range k).foldl (fun x _ => fop .div x 4611686018427387904) 4607182418800017408))) := by
  refine Con_introA A_r10_less_comp rfl mixed ?_
  refine evx @A_r10_less.eq_1 ?_
  refine WA_for (n := k) (fun c s => ∃ i, c + i = k ∧ s = ⟨[(0, fI k), (3, fl ((List.range i).foldl (fun x _ => fop .div x 4611686018427387904) 4607182418800017408)), (4, fI i)], []⟩) ⟨0, by omega, rfl⟩ ?_
  rintro c s ⟨i, hc, rfl⟩
  refine evx @A_r10_less_L0.eq_1 ?_
  refine condC_intro (fun h => ?_) (fun h => ?_)
  · replace h := of_decide_eq_true h
    refine ev ?_
    rw [wrapI (by omega) (by omega)]
    refine ⟨c - 1, by omega, i + 1, by omega, ?_⟩
    rw [List.range_succ, List.foldl_append]
    rfl
  · replace h := of_decide_eq_false h
    have e : i = k := by omega
    subst e
    refine ev ?_
    exact endsT_rett rfl (by decide) (by simp [look])
theorem less_ok (k : Nat) (hk : k < 12) : ((List.range k).foldl (fun x _ => fop .div x 4611686018427387904) 4607182418800017408) = lessW k := by
  have h : ((List.range 12).all fun k => ((List.range k).foldl (fun x _ => fop .div x 4611686018427387904) 4607182418800017408) == lessW k) = true := by kernel_rfl
  exact eq_of_beq (List.all_eq_true.1 h k (by simpa using hk))
theorem r10_most_con (m : Int) : Con Tryz.prog 74 [fI m] (fI (mostO m)) := by
  refine Con_introA A_r10_most_comp rfl mixed ?_
  refine evx @A_r10_most.eq_1 ?_
  unfold mostO
  by_cases h : m = 0
  · subst h
    refine evb ?_
    exact endsT_rett rfl (by decide) (by simp [look])
  · have h' : (m == 0) = false := by simpa using h
    rw [if_neg h]
    refine evx h' ?_
    exact endsT_rett rfl (by decide) (by simp [look])
set_option maxRecDepth 8000 in
theorem r10_anew_con (p : Pb) (s : Sta) (hp : Pok p) (hns : ∃ j : Nat, j < 60 ∧ s.n.step = (2 ^ j : Nat)) (hnr : Rk (s.n.order.toNat + 1) p.t.n s.n.z) : Con Tryz.prog 70 [pbV p, staV s] (staV ⟨freshP p s.n, s.good, 0, s.slow⟩) := by
  obtain ⟨j, hj, hst⟩ := hns
  obtain ⟨r1, r2⟩ := hnr
  obtain ⟨⟨pos, st, o, m, z⟩, g, f, sl⟩ := s
  simp only at hst r1 r2
  subst hst
  refine Con_introA A_r10_anew_comp rfl mixed ?_
  refine evx @A_r10_anew.eq_1 ?_
  (repeat (with_reducible refine And.intro (by omega) ?_))
  refine callSG_con (r8_Start_con p.t (z.getD 0 []) j hp.t (r2 0 (by omega)) hj) rfl ?_
  refine ev ?_
  exact endsT_retm rfl (by decide) rfl rfl rfl (by simp) rfl
theorem pow_range (j : Nat) (hj : j < 60) : (0 : Int) < ((2 ^ j : Nat) : Int) ∧ ((2 ^ j : Nat) : Int) < 1152921504606846976 := by
  have h1 : 2 ^ j < 2 ^ 60 := Nat.pow_lt_pow_right (by decide) hj
  have h2 : 0 < 2 ^ j := Nat.pow_pos (by decide)
  generalize 2 ^ j = w at h1 h2
  have h3 : w < 1152921504606846976 := h1
  omega
end Go.Ab
