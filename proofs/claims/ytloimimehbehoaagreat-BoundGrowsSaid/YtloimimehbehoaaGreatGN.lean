/- Part 14: LH, NB, SK, MA, SM. -/
import Derived.Test.YtloimimehbehoaaGreatGM
namespace Go.Ab
set_option linter.unusedSimpArgs false
set_option linter.unusedVariables false
open Nat renaming reduceEqDiff → n1_, reduceAdd → n2_, reduceMul → n3_, reduceLT → n4_, reduceLeDiff → n5_
open Int renaming reduceToNat → i1_, reduceAdd → i2_, reduceSub → i3_, reduceMul → i4_, reduceNeg → i5_, reduceLT → i6_, reduceLE → i7_
open Go Go.Proofs
def A_r6_Solve_L0 : CA := (.seq (.seq (.reg [i_M 0 18 7, i_M 1 19 5, i_N 2 20 .lss 18 19] [1, 2, 5, 6, 7, 20]) (.cond (.t 20) .skip (.exit 0))) (.seq (.block 1 (.reg [i_M 0 23 6, i_M 1 24 7, i_M 2 25 1, i_P 3 26 2 1, i_L 4 27 26 1, i_M 5 28 7, i_I 6 29 27 28 1, i_L 7 30 29 1, i_I 8 31 25 30 1, i_L 9 32 31 1, i_I 10 33 23 24 1, i_S 11 33 32 1] [1, 2, 5, 6, 7])) (.reg [i_M 0 21 7, i_B 1 22 .add 21 1, i_M 2 7 22] [1, 2, 5, 6, 7])))
def A_r6_Solve_L2 : CA := (.seq (.seq (.reg [i_M 0 39 9, i_M 1 40 8, i_N 2 41 .lss 39 40] [2, 5, 6, 8, 9, 41]) (.cond (.t 41) .skip (.exit 4))) (.seq (.block 5 (.seq (.reg [i_P 0 44 2 0, i_L 1 45 44 1, i_M 2 46 8, i_I 3 47 45 46 1, i_L 4 48 47 1, i_M 5 49 9, i_I 6 50 48 49 1, i_L 7 51 50 1, i_M 8 52 6, i_M 9 53 9, i_I 10 54 52 53 1, i_L 11 55 54 1, i_F 12 56 .mul 51 55, i_M 13 10 56] [2, 5, 6, 8, 9, 10]) (.reg [i_M 0 57 6, i_M 1 58 8, i_M 2 59 6, i_M 3 60 8, i_I 4 61 59 60 1, i_L 5 62 61 1, i_M 6 63 10, i_F 7 64 .sub 62 63, i_I 8 65 57 58 1, i_S 9 65 64 1] [2, 5, 6, 8, 9]))) (.reg [i_M 0 42 9, i_B 1 43 .add 42 1, i_M 2 9 43] [2, 5, 6, 8, 9])))
def A_r6_Solve_L1 : CA := (.seq (.seq (.reg [i_M 0 34 8, i_M 1 35 5, i_N 2 36 .lss 34 35] [2, 5, 6, 8, 36]) (.cond (.t 36) .skip (.exit 2))) (.seq (.block 3 (.seq (.reg [i_K 0 9 0] [2, 5, 6, 8, 9]) (.block 4 (.loop A_r6_Solve_L2)))) (.reg [i_M 0 37 8, i_B 1 38 .add 37 1, i_M 2 8 38] [2, 5, 6, 8])))
def A_r6_Solve_L4 : CA := (.seq (.seq (.reg [i_M 0 72 12, i_M 1 73 5, i_N 2 74 .lss 72 73] [2, 5, 6, 11, 12, 74]) (.cond (.t 74) .skip (.exit 8))) (.seq (.block 9 (.seq (.reg [i_P 0 77 2 0, i_L 1 78 77 1, i_M 2 79 11, i_B 3 80 .sub 79 1, i_I 4 81 78 80 1, i_L 5 82 81 1, i_M 6 83 12, i_I 7 84 82 83 1, i_L 8 85 84 1, i_M 9 86 6, i_M 10 87 12, i_I 11 88 86 87 1, i_L 12 89 88 1, i_F 13 90 .mul 85 89, i_M 14 13 90] [2, 5, 6, 11, 12, 13]) (.reg [i_M 0 91 6, i_M 1 92 11, i_B 2 93 .sub 92 1, i_M 3 94 6, i_M 4 95 11, i_B 5 96 .sub 95 1, i_I 6 97 94 96 1, i_L 7 98 97 1, i_M 8 99 13, i_F 9 100 .sub 98 99, i_I 10 101 91 93 1, i_S 11 101 100 1] [2, 5, 6, 11, 12]))) (.reg [i_M 0 75 12, i_B 1 76 .add 75 1, i_M 2 12 76] [2, 5, 6, 11, 12])))
def A_r6_Solve_L3 : CA := (.seq (.seq (.reg [i_M 0 67 11, i_B 1 68 .gtr 67 0] [2, 5, 6, 11, 68]) (.cond (.t 68) .skip (.exit 6))) (.seq (.block 7 (.seq (.seq (.reg [i_M 0 71 11, i_M 1 12 71] [2, 5, 6, 11, 12]) (.block 8 (.loop A_r6_Solve_L4))) (.reg [i_M 0 102 6, i_M 1 103 11, i_B 2 104 .sub 103 1, i_M 3 105 6, i_M 4 106 11, i_B 5 107 .sub 106 1, i_I 6 108 105 107 1, i_L 7 109 108 1, i_P 8 110 2 0, i_L 9 111 110 1, i_M 10 112 11, i_B 11 113 .sub 112 1, i_I 12 114 111 113 1, i_L 13 115 114 1, i_M 14 116 11, i_B 15 117 .sub 116 1, i_I 16 118 115 117 1, i_L 17 119 118 1, i_F 18 120 .div 109 119, i_I 19 121 102 104 1, i_S 20 121 120 1] [2, 5, 6, 11]))) (.reg [i_M 0 69 11, i_B 1 70 .sub 69 1, i_M 2 11 70] [2, 5, 6, 11])))
def A_r6_Solve : CA := (.seq (.reg [i_X 0 2 (.box (.t 0) 2 114), i_X 1 4 (.h (.mov (.k .nil)))] [1, 2]) (.seq (.reg [i_M 0 14 1, i_X 1 15 (.h (.len (.t 14))), i_M 2 5 15] [1, 2, 5]) (.seq (.reg [i_M 0 16 5, i_X 1 17 (.mksl [(.d (.flt 0))] 1 8 (.t 16) (.t 16) 31), i_M 2 6 17] [1, 2, 5, 6]) (.seq (.seq (.reg [i_K 0 7 0] [1, 2, 5, 6, 7]) (.block 0 (.loop A_r6_Solve_L0))) (.seq (.seq (.reg [i_K 0 8 0] [2, 5, 6, 8]) (.block 2 (.loop A_r6_Solve_L1))) (.seq (.seq (.reg [i_M 0 66 5, i_M 1 11 66] [2, 5, 6, 11]) (.block 6 (.loop A_r6_Solve_L3))) (.seq (.reg [i_M 0 122 6, i_M 1 4 122] [4]) .ret)))))))
theorem A_r6_Solve_comp : compF Tryz.prog 66 = some ⟨123, [(4, none)], A_r6_Solve.strip⟩ := by kernel_rfl
def gI (π : List Int) (b : List Nat) (n : Nat) : Nat → List Nat
  | 0 => List.replicate n 0
  | m + 1 => (gI π b n m).set m (b.getD (π.getD m 0).toNat 0)
def fwdR (A : List (List Nat)) (x : List Nat) : Nat → List Nat
  | 0 => x
  | m + 1 => fJ A m (fwdR A x m) m
theorem gI_len (π : List Int) (b : List Nat) (n : Nat) : ∀ m, (gI π b n m).length = n := by
  intro m; induction m with
  | zero => simp [gI]
  | succ m ih => simp [gI, ih]
theorem fwdR_len (A : List (List Nat)) (x : List Nat) : ∀ m, (fwdR A x m).length = x.length := by
  intro m; induction m with
  | zero => rfl
  | succ m ih => simp [fwdR, fJ_len, ih]
theorem gI_getD (π : List Int) (b : List Nat) (n : Nat) : ∀ m j, m ≤ n → j < m → (gI π b n m).getD j 0 = b.getD (π.getD j 0).toNat 0 := by
  intro m; induction m with
  | zero => intro j _ h; omega
  | succ m ih =>
    intro j hm hj
    have hlen := gI_len π b n m
    simp only [gI, List.getD_eq_getElem?_getD, List.getElem?_set]
    by_cases e : m = j
    · subst e; simp [hlen, show m < n from by omega]
    · have := ih j (by omega) (by omega)
      simp only [List.getD_eq_getElem?_getD] at this
      rw [if_neg e]; exact this
theorem fJ_agree (A : List (List Nat)) (i : Nat) (x y : List Nat) (hl : x.length = y.length) (h : ∀ j, j ≤ i → x.getD j 0 = y.getD j 0) : ∀ m, m ≤ i → ∀ j, j ≤ i → (fJ A i x m).getD j 0 = (fJ A i y m).getD j 0 := by
  intro m; induction m with
  | zero => intro _ j hj; exact h j hj
  | succ m ih =>
    intro hm j hj
    have ih := ih (by omega)
    have h1 := fJ_len A i x m
    have h2 := fJ_len A i y m
    simp only [fJ, ih i (Nat.le_refl _), ih m (by omega), List.getD_eq_getElem?_getD, List.getElem?_set]
    have := ih j hj
    simp only [List.getD_eq_getElem?_getD] at this
    by_cases e : i = j
    · subst e; simp [h1, h2, hl]
    · rw [if_neg e, if_neg e]; exact this
theorem fJ_above (A : List (List Nat)) (i : Nat) (x : List Nat) : ∀ m j, j ≠ i → (fJ A i x m).getD j 0 = x.getD j 0 := by
  intro m; induction m with
  | zero => intro j _; rfl
  | succ m ih =>
    intro j hj
    have := ih j hj
    simp only [List.getD_eq_getElem?_getD] at this
    simp only [fJ, List.getD_eq_getElem?_getD, List.getElem?_set]
    rw [if_neg (fun e => hj e.symm)]; exact this
theorem fwd_agree (A : List (List Nat)) (π : List Int) (b : List Nat) (n : Nat) : ∀ m, m ≤ n → (∀ j, j < m → (fwdI A π b n m).getD j 0 = (fwdR A (gI π b n n) m).getD j 0) ∧ (∀ j, m ≤ j → (fwdR A (gI π b n n) m).getD j 0 = (gI π b n n).getD j 0) := by
  intro m; induction m with
  | zero => intro _; exact ⟨fun j h => by omega, fun j _ => rfl⟩
  | succ m ih =>
    intro hm
    obtain ⟨h1, h2⟩ := ih (by omega)
    have hl1 := fwdI_len A π b n m
    have hl2 : (fwdR A (gI π b n n) m).length = n := by rw [fwdR_len, gI_len]
    refine ⟨fun j hj => ?_, fun j hj => ?_⟩
    · simp only [fwdI, fwdR]
      refine fJ_agree A m _ _ (by simp [hl1, hl2]) (fun j hj => ?_) m (Nat.le_refl _) j (by omega)
      by_cases e : m = j
      · subst e
        rw [h2 m (Nat.le_refl _), gI_getD π b n n m (Nat.le_refl _) (by omega)]
        simp [List.getD_eq_getElem?_getD, hl1, show m < n from by omega]
      · have := h1 j (by omega)
        simp only [List.getD_eq_getElem?_getD] at this
        simp only [List.getD_eq_getElem?_getD, List.getElem?_set]
        rw [if_neg e]; exact this
    · simp only [fwdR]
      rw [fJ_above A m _ m j (by omega)]
      exact h2 j (by omega)
theorem fwd_eq (A : List (List Nat)) (π : List Int) (b : List Nat) (n : Nat) : fwdI A π b n n = fwdR A (gI π b n n) n := by
  obtain ⟨h, _⟩ := fwd_agree A π b n n (Nat.le_refl _)
  have hl1 := fwdI_len A π b n n
  have hl2 : (fwdR A (gI π b n n) n).length = n := by rw [fwdR_len, gI_len]
  refine List.ext_getElem (by rw [hl1, hl2]) fun j h1 h2 => ?_
  have := h j (by omega)
  simpa [List.getD_eq_getElem?_getD, h1, h2] using this
set_option maxRecDepth 8000 in
theorem r6solve_L2 (N : Nat → Prop) (A : List (List Nat)) (π : List Int) (n i : Nat) (x : List Nat) (hA : Sq n A) (hx : x.length = n) (hi : i < n) (hn : n < 2 ^ 40) (Q : Ex → T → Prop)
    (hQ : ∀ v w, Q (.exit 4) ⟨[(2, .ptr 0 0 0 2), (5, fI n), (6, .sl 2 0 0 n 1 n), (8, fI i), (9, v), (41, w)], solveH A π (fJ A i x i)⟩) :
    WA Tryz.prog N 123 (.loop A_r6_Solve_L2) Q ⟨[(2, .ptr 0 0 0 2), (5, fI n), (6, .sl 2 0 0 n 1 n), (8, fI i), (9, fI 0)], solveH A π x⟩ := by
  obtain ⟨hl, hr⟩ := hA
  refine WA_for (n := i) (fun c s => ∃ m, c + m = i ∧ s = ⟨[(2, .ptr 0 0 0 2), (5, fI n), (6, .sl 2 0 0 n 1 n), (8, fI i), (9, fI m)], solveH A π (fJ A i x m)⟩) ⟨0, rfl, rfl⟩ ?_
  rintro c s ⟨m, hc, rfl⟩
  have hy := fJ_len A i x m
  generalize hY : fJ A i x m = y at hy
  have g1 := hr i hi
  refine evx (And.intro @A_r6_Solve_L2.eq_1 @solveH.eq_1) ?_
  refine condC_intro (fun h => ?_) (fun h => ?_)
  · replace h := of_decide_eq_true h
    have e1 : i < y.length := by omega
    have e2 : m < y.length := by omega
    simp -implicitDefEqProofs only [evI, hv, effC, reduceCtorEq, ↓reduceIte, n1_, n2_, n3_, n4_, n5_, i1_, i2_, i3_, i4_, i5_, i6_, i7_, getD_map_fl _ _ e1, getD_map_fl _ _ e2]
    (repeat (with_reducible refine And.intro (by omega) ?_))
    rw [wrapI (by omega) (by omega)]
    refine ⟨c - 1, by omega, m + 1, by omega, ?_⟩
    simp only [fJ, hY]; rfl
  · replace h := of_decide_eq_false h
    refine ev ?_
    obtain rfl : i = m := by omega
    rw [hY] at hQ
    exact hQ _ _
set_option maxRecDepth 8000 in
theorem r6solve_L4 (N : Nat → Prop) (A : List (List Nat)) (π : List Int) (n i : Nat) (z : Int) (x : List Nat) (hA : Sq n A) (hx : x.length = n) (hi : i < n) (hz : z = (i : Int) + 1) (hn : n < 2 ^ 40) (Q : Ex → T → Prop)
    (hQ : ∀ v w, Q (.exit 8) ⟨[(2, .ptr 0 0 0 2), (5, fI n), (6, .sl 2 0 0 n 1 n), (11, fI z), (12, v), (74, w)], solveH A π (bJ A i x (n - 1 - i))⟩) :
    WA Tryz.prog N 123 (.loop A_r6_Solve_L4) Q ⟨[(2, .ptr 0 0 0 2), (5, fI n), (6, .sl 2 0 0 n 1 n), (11, fI z), (12, fI (i + 1 : Nat))], solveH A π x⟩ := by
  obtain ⟨hl, hr⟩ := hA
  have hw : IntKind.i64.wrap (z - 1) = (i : Int) := by rw [wrapI (by omega) (by omega)]; omega
  refine WA_for (n := n) (fun c s => ∃ m, c + m = n ∧ i + 1 + m ≤ n ∧ s = ⟨[(2, .ptr 0 0 0 2), (5, fI n), (6, .sl 2 0 0 n 1 n), (11, fI z), (12, fI (i + 1 + m : Nat))], solveH A π (bJ A i x m)⟩) ⟨0, rfl, by omega, rfl⟩ ?_
  rintro c s ⟨m, hc, hm, rfl⟩
  have hy := bJ_len A i x m
  generalize hY : bJ A i x m = y at hy
  have g1 := hr i hi
  refine evx (And.intro @A_r6_Solve_L4.eq_1 @solveH.eq_1) ?_
  refine condC_intro (fun h => ?_) (fun h => ?_)
  · replace h := of_decide_eq_true h
    have e1 : i < y.length := by omega
    have e2 : i + 1 + m < y.length := by omega
    simp -implicitDefEqProofs only [evI, hv, effC, reduceCtorEq, ↓reduceIte, n1_, n2_, n3_, n4_, n5_, i1_, i2_, i3_, i4_, i5_, i6_, i7_, getD_map_fl _ _ e1, getD_map_fl _ _ e2, hw]
    (repeat (with_reducible refine And.intro (by omega) ?_))
    rw [wrapI (by omega) (by omega)]
    refine ⟨c - 1, by omega, m + 1, by omega, by omega, ?_⟩
    simp only [bJ, hY]; rfl
  · replace h := of_decide_eq_false h
    refine ev ?_
    obtain rfl : n - 1 - i = m := by omega
    rw [hY] at hQ
    exact hQ _ _
set_option maxRecDepth 8000 in
theorem r6_Solve_ac (A : List (List Nat)) (π : List Int) (b : List Nat) (n : Nat) (hA : Sq n A) (hπ : Pm n π) (hb : b.length = n) (hn : n < 2 ^ 40) :
    AC Tryz.prog 66 [.agg [.d (rowsD A), .d (rowI π)], .d (rowD b)] [] (solveH A π (solveP A π b n)) (.sl 2 0 0 n 1 n) := by
  obtain ⟨hl, hr⟩ := hA
  obtain ⟨hp1, hp2⟩ := hπ
  generalize hR : solveP A π b n = R
  refine AC_introA A_r6_Solve_comp rfl mixed (fun _ => False) (by simp [get_nil]) ?_
  refine evx @A_r6_Solve.eq_1 ?_
  (repeat (with_reducible refine And.intro (by omega) ?_))
  refine WA_for (n := n) (fun c s => ∃ m, c + m = n ∧ s = ⟨[(1, .d (rowD b)), (2, .ptr 0 0 0 2), (5, fI n), (6, .sl 2 0 0 n 1 n), (7, fI m)], solveH A π (gI π b n m)⟩) ⟨0, rfl, ?_⟩ ?_
  · simp only [solveH, gI, rowD, hb]; rfl
  rintro c s ⟨m, hc, rfl⟩
  have hy := gI_len π b n m
  generalize hY : gI π b n m = y at hy
  refine evx (And.intro @A_r6_Solve_L0.eq_1 @solveH.eq_1) ?_
  refine condC_intro (fun h => ?_) (fun h => ?_)
  · replace h := of_decide_eq_true h
    obtain ⟨q1, q2⟩ := hp2 m h
    refine ev ?_
    (repeat (with_reducible refine And.intro (by omega) ?_))
    rw [wrapI (by omega) (by omega)]
    refine ⟨c - 1, by omega, m + 1, by omega, ?_⟩
    simp only [gI, hY]; rfl
  · replace h := of_decide_eq_false h
    obtain rfl : n = m := by omega
    refine ev ?_
    refine WA_for (n := n) (fun c s => ∃ m, c + m = n ∧ s = ⟨[(2, .ptr 0 0 0 2), (5, fI n), (6, .sl 2 0 0 n 1 n), (8, fI m)], solveH A π (fwdR A y m)⟩) ⟨0, rfl, rfl⟩ ?_
    rintro c s ⟨m, hc, rfl⟩
    have hf := fwdR_len A y m
    generalize hF : fwdR A y m = u at hf
    refine evx (And.intro @A_r6_Solve_L1.eq_1 @solveH.eq_1) ?_
    refine condC_intro (fun h2 => ?_) (fun h2 => ?_)
    · replace h2 := of_decide_eq_true h2
      refine ev ?_
      refine r6solve_L2 _ A π n m u ⟨hl, hr⟩ (by omega) h2 hn _ fun v w => ?_
      refine ev ?_
      rw [wrapI (by omega) (by omega)]
      refine ⟨c - 1, by omega, m + 1, by omega, ?_⟩
      simp only [fwdR, hF]; rfl
    · replace h2 := of_decide_eq_false h2
      obtain rfl : n = m := by omega
      refine ev ?_
      have hu : u = fwdI A π b n n := by rw [fwd_eq, ← hF, hY]
      refine WA_for (n := n) (fun c s => ∃ m, ∃ z : Int, c + m = n ∧ z = (n : Int) - m ∧ s = ⟨[(2, .ptr 0 0 0 2), (5, fI n), (6, .sl 2 0 0 n 1 n), (11, fI z)], solveH A π (bckI A n u m)⟩) ⟨0, _, rfl, rfl, ?_⟩ ?_
      · simp only [Int.natCast_zero, Int.sub_zero]; rfl
      rintro c s ⟨m, z, hc, hz, rfl⟩
      have hb2 := bckI_len A n u m
      generalize hU : bckI A n u m = t at hb2
      refine evx (And.intro @A_r6_Solve_L3.eq_1 @solveH.eq_1) ?_
      refine condC_intro (fun h3 => ?_) (fun h3 => ?_)
      · replace h3 := of_decide_eq_true h3
        obtain ⟨i, hzi⟩ : ∃ i : Nat, z = (i : Int) + 1 := ⟨n - 1 - m, by omega⟩
        have hi : i < n := by omega
        have hw : IntKind.i64.wrap (z - 1) = (i : Int) := by rw [wrapI (by omega) (by omega)]; omega
        refine ev ?_
        have hz12 : fI z = fI (i + 1 : Nat) := by rw [hzi]; rfl
        rw [show ([(2, V.ptr 0 0 0 2), (5, fI n), (6, V.sl 2 0 0 n 1 n), (11, fI z), (12, fI z)] : Sl) = [(2, V.ptr 0 0 0 2), (5, fI n), (6, V.sl 2 0 0 n 1 n), (11, fI z), (12, fI (i + 1 : Nat))] from by rw [← hz12]]
        refine r6solve_L4 _ A π n i z t ⟨hl, hr⟩ (by omega) hi hzi hn _ fun v w => ?_
        have hbl := bJ_len A i t (n - 1 - i)
        have e1 : i < (bJ A i t (n - 1 - i)).length := by omega
        have g1 := hr i hi
        simp -implicitDefEqProofs only [evI, hv, effC, reduceCtorEq, ↓reduceIte, n1_, n2_, n3_, n4_, n5_, i1_, i2_, i3_, i4_, i5_, i6_, i7_, solveH, getD_map_fl _ _ e1, hw]
        (repeat (with_reducible refine And.intro (by omega) ?_))
        refine ⟨c - 1, by omega, m + 1, (i : Int), by omega, by omega, ?_⟩
        have e : n - 1 - m = i := by omega
        simp only [bckI, hU, bStep, e]; rfl
      · replace h3 := of_decide_eq_false h3
        refine ev ?_
        obtain rfl : n = m := by omega
        have e0 : t = R := by rw [← hR, solveP, ← hu, hU]
        subst e0
        refine endsT_keep (fun _ h => h) (resV_tmpI (t := 4) (by decide) rfl) (by simp only [solveH]) (.sl (by simp [get_cons]) rfl) (keep_cells fun X q cells hX v hv' => ?_)
        simp only [solveH, get_cons, get_nil] at hX
        split at hX
        · rcases q with _ | q <;> simp at hX; subst hX; exact mem_rowV hv' _ _ _
        · split at hX
          · rcases q with _ | q <;> simp at hX; subst hX
            rcases List.mem_cons.1 hv' with rfl | hv'
            · exact .d (.d _)
            · rcases List.mem_cons.1 hv' with rfl | hv'
              · exact .d (.d _)
              · cases hv'
          · cases hX
theorem r6_Solve_row (A : List (List Nat)) (π : List Int) (b : List Nat) (n : Nat) (hA : Sq n A) (hπ : Pm n π) (hb : b.length = n) (hn : n < 2 ^ 40) :
    AC Tryz.prog 66 [.agg [.d (rowsD A), .d (rowI π)], .d (rowD b)] [] [(2, [rowV (solveP A π b n)])] (.sl 2 0 0 n 1 n) := by
  refine AC_le (r6_Solve_ac A π b n hA hπ hb hn) (Le.of_wk (fun X q => (X, q)) ⟨rfl, fun i hi => ?_, fun X q c hX => ?_, fun X r Y q _ _ e => by simpa using e, fun X r h => h.elim⟩)
  · obtain rfl : i = 0 := by simpa using hi
    exact .sl (by simp [get_cons]) rfl
  · rw [get_cons, get_nil] at hX
    split at hX
    · rename_i e; subst e
      rcases q with _ | q <;> simp at hX; subst hX
      refine ⟨_, by simp [solveH, get_cons], rfl, fun j hj => ?_⟩
      rw [List.getD_eq_getElem?_getD, List.getElem?_eq_getElem hj]
      exact mem_rowV (List.getElem_mem hj) _ _ _
    · cases hX
end Go.Ab
namespace Go.Ab
set_option linter.unusedSimpArgs false
set_option linter.unusedVariables false
open Go Go.Proofs
abbrev sB9 (z : List (List Nat)) (l w : List Nat) (h X n k : Nat) : Sl := [(1, .d (rowsD z)), (2, .d (rowD l)), (4, fI 1), (5, .d (rowD w)), (6, .ptr 0 0 0 3), (12, .ptr 1 0 0 3), (13, fl h), (14, .sl X 0 0 n 1 n), (15, .ptr 5 0 0 2), (18, fI k)]
abbrev lB9 (B : List (List Nat)) (π : List Int) (t : Tp) (R : Heap) : Heap := (5, [[.d (rowsD B), .d (rowI π)]]) :: R ++ [(1, [[.nil, fI 0, fI 0]]), (0, [[fI t.n, .d (opsD t.ops), .d (rowI t.out)]])]
theorem r9B_next (t : Tp) (z : List (List Nat)) (l : List Nat) (h : Nat) (w : List Nat) (B : List (List Nat)) (π : List Int) (g a b d x : List Nat) (k : Nat) : Le (fun _ => False) (T.s 96 ⟨sB9 z l w h 120 t.n k, (120, [rowV x]) :: (110, [rowV g]) :: (104, [rowV a]) :: (100, [rowV b]) :: lB9 B π t [(4, [rowV d])]⟩) (T.s 96 ⟨sB9 z l w h 4 t.n k, lB9 B π t [(4, [rowV x])]⟩) := by
  refine Le.trans (LeT.only (L' := (120, [rowV x]) :: lB9 B π t []) (fun X => X == 120 || X == 5 || X == 1 || X == 0) (fun _ h => h) rfl (by simp [kpS]) (by simp [kpS])) ?_
  refine Le.trans (LeT.move 4 (by decide) (by simp [fam_cons, fam_nil]) (by simp [fam_cons, fam_nil]) (fun h => h)) ?_
  have e : renS (absF 120 4 0) (sB9 z l w h 120 t.n k) = sB9 z l w h 4 t.n k := by
    simp [renS, V.ren, V.renL, absF]
  have e2 : Heap.renH (absF 120 4 0) (lB9 B π t []) = lB9 B π t [] := by
    simp [Heap.renH, V.ren, absF]
  rw [e, e2, ren_rowV]
  exact LeT.perm (fun _ h => h) (fun X => .inr (by simp only [fam_cons, fam_nil, List.cons_append, List.nil_append]; grind)) (by simp [kpS]) (by simp [kpS])
set_option maxRecDepth 8000 in
theorem r9B_gen (L' : Heap) (r : V) (t : Tp) (z : List (List Nat)) (l : List Nat) (w : List Nat) (step : Int) (h : Nat) (hh : fop .div (FloatKind.nearest .f64 step) 4742290407621132288 = h)
    (h1 : ∀ k g, g.length = t.n → solB t z l h w = (g, k, 0) → r = .agg [.sl 120 0 0 t.n 1 t.n, fI k, fI 0] ∧ L' = [(120, [rowV g])])
    (h2 : ∀ k e, solB t z l h w = ([], k, e) → e ≠ 0 → r = .agg [.nil, fI k, fI e] ∧ L' = []) (hn0 : 0 < t.n) (ok : Sok t z l w (List.replicate t.n 0)) :
    AC Tryz.prog 30 [tapeV t, .d (rowsD z), .d (rowD l), fI step, fI 1, .d (rowD w)] [] L' r := by
  obtain ⟨ht, hz, hzl, hl, hw, hd⟩ := ok
  have hn := ht.n
  have hsq := matT_sq t z l h
  refine AC_introA A_r9_Solve_comp rfl mixed (fun _ => False) (by simp [get_nil]) ?_
  refine evx @A_r9_Solve.eq_1 ?_
  refine callG_con (r8_H_con step) rfl ?_
  refine ev ?_
  (repeat (with_reducible refine And.intro (by omega) ?_))
  rw [hh]
  obtain hp | ⟨⟨B, π⟩, hp⟩ : partP (matT t z l h) t.n t.n = none ∨ ∃ s, partP (matT t z l h) t.n t.n = some s := by cases partP (matT t z l h) t.n t.n <;> simp
  · have he : solB t z l h w = ([], 0, 4) := by unfold solB; rw [hp]
    obtain ⟨rfl, rfl⟩ := h2 0 4 he (by decide)
    refine callSG_con (r9_newton_none t z l h ht hn0 hz (hzl 0 (by omega)) hp) rfl ?_
    refine evx @Bool.not_false ?_
    exact endsT_only (fun _ => false) (fun _ h => h) (resV_cellI (by decide) rfl rfl rfl (by simp) rfl) rfl (by simp [kpS]) (by simp [kpS])
  · obtain ⟨hB, hπl⟩ := partP_sq _ _ hsq t.n (Nat.le_refl _) B π hp
    have hπ := partP_pmB _ _ t.n (Nat.le_refl _) B π hp
    have he : solB t z l h w = seek (tryB t z l h w B π) 4 1 (List.replicate t.n 0) := by unfold solB; rw [hp]
    refine callSG_con (r9_newton_some t z l h ht hn0 hz (hzl 0 (by omega)) B π hp) rfl ?_
    refine evx @Bool.not_true ?_
    rw [he] at h1 h2
    clear he
    generalize List.replicate t.n 0 = d0 at h1 h2 hd
    refine WA_forW (n := 4) (fun c s => ∃ (k : Nat) (d : List Nat), c + k = 5 ∧ (1 ≤ k ∧ k ≤ 4) ∧ d.length = t.n ∧ seek (tryB t z l h w B π) c k d = seek (tryB t z l h w B π) 4 1 d0 ∧ s = ⟨sB9 z l w h 4 t.n k, lB9 B π t [(4, [rowV d])]⟩) (LeT.only (fun X => decide (X ≤ 5)) (fun _ h => h) rfl (by simp [kpS]) (by simp [kpS])) ⟨1, _, by omega, by omega, hd, rfl, rfl⟩ ?_
    rintro c s ⟨k, d, hc, hk, hdl, he, rfl⟩
    obtain ⟨f, rfl⟩ : ∃ f, c = f + 1 := ⟨c - 1, by omega⟩
    rw [seekB_succ] at he
    refine evx @A_r9_Solve_L0.eq_1 ?_
    (repeat (with_reducible refine And.intro (by omega) ?_))
    have okd : Sok t z l w d := ⟨ht, hz, hzl, hl, hw, hdl⟩
    have hgl : (gS t z l h d).length = t.n := tabR_len _ _
    refine callG_row 100 [tapeV t, .d (rowsD z), fl (l.getD 0 0), fl h, .d (rowD d)] (by simp [Heap.next]) (r9_left_ac t z l h w d okd) ⟨.aggs ⟨.bare _, .bare _, .bare _, trivial⟩, .bare _, .bare _, .bare _, snp_row rfl hdl rfl, trivial⟩ ?_
    refine ev ?_
    have hml : (gdS t z l h d).length = t.n := tabR_len _ _
    have hxl : (xB t z l h B π d).length = t.n := solveP_len _ _ _ _
    have hbl : (dB t z l h B π d).length = t.n := tabR_len _ _
    refine callS_row _ (r9_minus_ac _ _ t.n hgl hdl (by omega)) ⟨snp_row rfl hgl rfl, snp_row rfl hdl rfl, trivial⟩ rfl ?_
    refine ev ?_
    rw [show tabR (fun i => fop .sub ((gS t z l h d).getD i 0) (d.getD i 0)) t.n = gdS t z l h d from rfl]
    refine callG_row 110 [.agg [.d (rowsD B), .d (rowI π)], .d (rowD (gdS t z l h d))] (by simp [Heap.next]) (AC_row0 (r6_Solve_row B π (gdS t z l h d) t.n hB hπ hml (by omega))) ⟨.aggs ⟨.bare _, .bare _, trivial⟩, snp_row rfl hml rfl, trivial⟩ ?_
    rw [show solveP B π (gdS t z l h d) t.n = xB t z l h B π d from rfl]
    refine ev ?_
    refine callG_row 120 [.d (rowD d), .d (rowD (xB t z l h B π d))] (by simp [Heap.next]) (r9_plus_ac d _ t.n hdl hxl (by omega)) ⟨snp_row rfl hdl rfl, snp_row rfl hxl rfl, trivial⟩ ?_
    rw [show tabR (fun i => fop .add (d.getD i 0) ((xB t z l h B π d).getD i 0)) t.n = dB t z l h B π d from rfl]
    refine ev ?_
    refine callG_snaps [.d (rowD (xB t z l h B π d)), .d (rowD w)] (r9_Size_con _ w (by omega) (by omega)) ⟨snp_row rfl hxl rfl, .bare _, trivial⟩ (.flt _) ?_
    refine ev ?_
    generalize hsz : szP (xB t z l h B π d) w = q at he ⊢
    refine WA_for (n := t.n) (fun c' s => ∃ i, c' + i = t.n ∧ (∀ j, j < i → finite ((dB t z l h B π d).getD j 0) = true) ∧ s = ⟨sB9 z l w h 120 t.n k ++ [(20, fl q), (22, fI i)], (120, [rowV (dB t z l h B π d)]) :: (110, [rowV (xB t z l h B π d)]) :: (104, [rowV (gdS t z l h d)]) :: (100, [rowV (gS t z l h d)]) :: lB9 B π t [(4, [rowV d])]⟩) ⟨0, by omega, fun j hj => by omega, rfl⟩ ?_
    rintro c' s ⟨i, hc', hf, rfl⟩
    refine evx @A_r9_Solve_L1.eq_1 ?_
    refine condC_intro (fun hi => ?_) (fun hi => ?_)
    · replace hi := of_decide_eq_true hi
      have ga : (rowV (dB t z l h B π d)).getD i .any = fl ((dB t z l h B π d).getD i 0) := getD_map_fl _ _ (by omega)
      refine evx ga ?_
      (repeat (with_reducible refine And.intro (by omega) ?_))
      refine callG_con (r1_Finite_con ((dB t z l h B π d).getD i 0)) rfl ?_
      refine evx @finite_sub ?_
      cases hfi : finite ((dB t z l h B π d).getD i 0)
      · have hna := fin_not i (by omega) hfi
        rw [if_pos hna] at he
        refine evx @Bool.not_false ?_
        obtain ⟨rfl, rfl⟩ := h2 k 2 he.symm (by decide)
        exact endsT_only (fun _ => false) (fun _ h => h) (resV_cellI (by decide) rfl rfl rfl (by simp) rfl) rfl (by simp [kpS]) (by simp [kpS])
      · refine evx @Bool.not_true ?_
        rw [wrapI (by omega) (by omega)]
        exact ⟨c' - 1, by omega, i + 1, by omega, fun j hj => by rcases Nat.lt_succ_iff_lt_or_eq.1 hj with h1 | rfl; exact hf j h1; exact hfi, rfl⟩
    · replace hi := of_decide_eq_false hi
      have hfa := fin_of (d := dB t z l h B π d) fun j hj => hf j (by omega)
      rw [if_neg (by rw [hfa]; decide)] at he
      refine ev ?_
      cases hle : fcmp .le q 4562146422526312448
      · rw [if_neg (by rw [hle]; decide)] at he
        refine ev ?_
        by_cases h4 : 4 ≤ k
        · rw [if_pos h4] at he
          have hk4 : k = 4 := by omega
          subst hk4
          refine ev ?_
          obtain ⟨rfl, rfl⟩ := h2 4 6 he.symm (by decide)
          exact endsT_only (fun _ => false) (fun _ h => h) (resV_cellI (by decide) rfl rfl rfl (by simp) rfl) rfl (by simp [kpS]) (by simp [kpS])
        · rw [if_neg h4] at he
          have h4' : ((k : Int) == 4) = false := by simp; omega
          refine evx h4' ?_
          rw [wrapI (by omega) (by omega)]
          exact ⟨f, _, by omega, r9B_next t z l h w B π _ _ _ d _ (k + 1), k + 1, _, by omega, by omega, hbl, he, rfl⟩
      · rw [if_pos hle] at he
        refine ev ?_
        obtain ⟨rfl, rfl⟩ := h1 k _ hbl he.symm
        exact endsT_only (fun X => X == 120) (fun _ h => h) (resV_cellI (by decide) rfl rfl rfl (by simp) rfl) rfl (by simp [kpS]) (by simp [kpS])
theorem r9_SolveG_ok (t : Tp) (z : List (List Nat)) (l : List Nat) (h : Nat) (w : List Nat) (step : Int) (m : Int) (hn0 : 0 < t.n) (ok : Sok t z l w (List.replicate t.n 0)) (hh : fop .div (FloatKind.nearest .f64 step) 4742290407621132288 = h)
    (g : List Nat) (k : Nat) (hg : solG t z l h w m = (g, k, 0)) : AC Tryz.prog 30 [tapeV t, .d (rowsD z), .d (rowD l), fI step, fI m, .d (rowD w)] [] [(0, [rowV g])] (.agg [.sl 0 0 0 t.n 1 t.n, fI k, fI 0]) := by
  unfold solG at hg
  split at hg
  · rename_i e
    subst e
    refine AC_sum0 (X := 120) (r9B_gen _ _ t z l w step h hh (fun k' g' _ he => ?_) (fun k' e he hne => ?_) hn0 ok)
    · rw [hg] at he
      simp only [Prod.mk.injEq] at he
      obtain ⟨rfl, rfl, _⟩ := he
      exact ⟨rfl, rfl⟩
    · rw [hg] at he
      simp only [Prod.mk.injEq] at he
      exact absurd he.2.2.symm hne
  · rename_i e
    refine AC_sum0 (X := 100) (r9_sol_gen _ _ t z l w step m e h hh (fun k' g' _ he => ?_) (fun k' e he hne => ?_) ok)
    · rw [hg] at he
      simp only [Prod.mk.injEq] at he
      obtain ⟨rfl, rfl, _⟩ := he
      exact ⟨rfl, rfl⟩
    · rw [hg] at he
      simp only [Prod.mk.injEq] at he
      exact absurd he.2.2.symm hne
theorem r9_SolveG_no (t : Tp) (z : List (List Nat)) (l : List Nat) (h : Nat) (w : List Nat) (step : Int) (m : Int) (hn0 : 0 < t.n) (ok : Sok t z l w (List.replicate t.n 0)) (hh : fop .div (FloatKind.nearest .f64 step) 4742290407621132288 = h)
    (k : Nat) (e : Int) (hne : e ≠ 0) (hg : solG t z l h w m = ([], k, e)) : AC Tryz.prog 30 [tapeV t, .d (rowsD z), .d (rowD l), fI step, fI m, .d (rowD w)] [] [] (.agg [.nil, fI k, fI e]) := by
  unfold solG at hg
  split at hg
  · rename_i e
    subst e
    refine r9B_gen _ _ t z l w step h hh (fun k' g' _ he => ?_) (fun k' e' he hne' => ?_) hn0 ok
    · rw [hg] at he
      simp only [Prod.mk.injEq] at he
      exact absurd he.2.2 hne
    · rw [hg] at he
      simp only [Prod.mk.injEq] at he
      obtain ⟨_, rfl, rfl⟩ := he
      exact ⟨rfl, rfl⟩
  · rename_i e'
    refine r9_sol_gen _ _ t z l w step m e' h hh (fun k' g' _ he => ?_) (fun k' e' he hne' => ?_) ok
    · rw [hg] at he
      simp only [Prod.mk.injEq] at he
      exact absurd he.2.2 hne
    · rw [hg] at he
      simp only [Prod.mk.injEq] at he
      obtain ⟨_, rfl, rfl⟩ := he
      exact ⟨rfl, rfl⟩
end Go.Ab
namespace Go.Ab
set_option linter.unusedSimpArgs false
set_option linter.unusedVariables false
open Nat renaming reduceEqDiff → n1_, reduceAdd → n2_, reduceMul → n3_, reduceLT → n4_, reduceLeDiff → n5_
open Int renaming reduceToNat → i1_, reduceAdd → i2_, reduceSub → i3_, reduceMul → i4_, reduceNeg → i5_, reduceLT → i6_, reduceLE → i7_
open Go Go.Proofs
def A_r10_Try : CA := (.seq (.reg [i_X 0 2 (.box (.t 0) 13 33), i_X 1 3 (.box (.t 1) 8 39), i_X 2 4 (.alloc [(.d (.int .i64 0)), (.d (.int .i64 0)), (.d (.int .i64 0)), (.d (.int .i64 0)), .nil, (.d (.int .i64 0)), (.d (.int .i64 0)), (.d (.int .i64 0)), (.d (.int .i64 0)), (.d (.int .i64 0)), (.d (.int .i64 0)), (.d (.int .i64 0)), .nil, (.d (.bool false)), (.d (.flt 0)), (.d (.int .i64 0))] 43)] [2, 3, 4]) (.seq (.reg [i_P 0 11 3 0, i_P 1 12 11 4, i_L 2 13 12 1, i_X 3 14 (.callA (kF 27) [(.t 13)]), i_M 4 5 14] [2, 3, 4, 5]) (.seq (.reg [i_P 0 16 3 0, i_P 1 17 16 3, i_L 2 18 17 1, i_P 3 19 3 0, i_P 4 20 19 2, i_L 5 21 20 1, i_X 6 22 (.callA (kF 28) [(.t 18), (.t 21)]), i_M 7 15 22, i_X 8 23 (.h (.ext (.t 15) 0)), i_X 9 24 (.h (.ext (.t 15) 1)), i_M 10 6 23, i_M 11 7 24] [2, 3, 4, 5, 6]) (.seq (.reg [i_P 0 25 3 0, i_P 1 26 25 4, i_L 2 27 26 1, i_X 3 28 (.h (.idx (.t 27) (kI 0) 1)), i_L 4 29 28 1, i_P 5 30 2 8, i_L 6 31 30 1, i_P 7 32 2 9, i_L 8 33 32 1, i_X 9 34 (.callA (kF 29) [(.t 29), (.t 31), (.t 33)]), i_M 10 8 34] [2, 3, 4, 5, 6, 8]) (.seq (.reg [i_P 0 35 2 0, i_A 1 36 35 3, i_M 2 37 5, i_M 3 38 6, i_P 4 39 3 0, i_P 5 40 39 1, i_L 6 41 40 1, i_P 7 42 3 0, i_P 8 43 42 3, i_L 9 44 43 1, i_M 10 45 8, i_X 11 46 (.callA (kF 30) [(.t 36), (.t 37), (.t 38), (.t 41), (.t 44), (.t 45)]), i_X 12 9 (.alloc [.nil, (.d (.int .i64 0)), (.d (.int .i64 0))] 74), i_S 13 9 46 3] [2, 3, 4, 5, 6, 8, 9]) (.seq (.seq (.reg [i_P 0 47 9 2, i_L 1 48 47 1, i_B 2 49 .neq 48 0] [2, 3, 4, 5, 6, 8, 9, 49]) (.cond (.t 49) (.seq (.reg [i_A 0 50 2 13, i_A 1 51 3 8, i_P 2 52 9 2, i_L 3 53 52 1, i_X 4 54 (.callA (kF 31) [(.t 50), (.t 51), (.t 53), (.k (.d (.flt 0)))]), i_S 5 4 54 16] [4]) .ret) .skip)) (.seq (.reg [i_P 0 55 9 0, i_L 1 56 55 1, i_M 2 57 8, i_X 3 58 (.callS 0 (kF 32) [(.t 56), (.t 57)]), i_P 4 59 3 0, i_P 5 60 59 2, i_L 6 61 60 1, i_B 7 62 .add 61 1, i_X 8 63 (.h (.i2f (.t 62))), i_F 9 64 .div 58 63, i_M 10 10 64] [2, 3, 4, 5, 6, 9, 10]) (.seq (.seq (.reg [i_M 0 65 10, i_X 1 66 (.h (.fcmp .le (.t 65) (.k (.d (.flt 4607182418800017408)))))] [2, 3, 4, 5, 6, 9, 10, 66]) (.cond (.t 66) (.seq (.reg [i_A 0 67 2 13, i_A 1 68 3 8, i_M 2 69 5, i_M 3 70 6, i_P 4 71 9 0, i_L 5 72 71 1, i_M 6 73 10, i_X 7 74 (.callA (kF 33) [(.t 67), (.t 68), (.t 69), (.t 70), (.t 72), (.t 73)]), i_S 8 4 74 16] [4]) .ret) .skip)) (.seq (.reg [i_A 0 75 2 13, i_A 1 76 3 8, i_M 2 77 10, i_X 3 78 (.callA (kF 31) [(.t 75), (.t 76), (kI 0), (.t 77)]), i_S 4 4 78 16] [4]) .ret)))))))))
theorem A_r10_Try_comp : compF Tryz.prog 16 = some ⟨79, [(4, (some (16, true)))], A_r10_Try.strip⟩ := by kernel_rfl
theorem le_sum (Lr : Heap) (n k : Nat) (g : List Nat) (e : Int) (h : Lr.get 0 0 = some (rowV g)) (hg : g.length = n) : LeV Lr [] (fun X r => (X, r)) (.agg [.sl 0 0 0 n 1 n, fI k, fI e]) (sumV (g, k, e)) :=
  Fz_agg _ _ ⟨Fz_row h hg rfl (get_nil _ _), Fz_d _, Fz_d _, trivial⟩
theorem le_sumN (Lr : Heap) (k : Nat) (e : Int) : LeV Lr [] (fun X r => (X, r)) (.agg [.nil, fI k, fI e]) (sumV ([], k, e)) :=
  Fz_agg _ _ ⟨.d (.nil _), Fz_d _, Fz_d _, trivial⟩
theorem r9_Solve_con (t : Tp) (z : List (List Nat)) (l : List Nat) (h : Nat) (w : List Nat) (step : Int) (m : Int) (hn0 : 0 < t.n) (ok : Sok t z l w (List.replicate t.n 0)) (hh : fop .div (FloatKind.nearest .f64 step) 4742290407621132288 = h) :
    Con Tryz.prog 30 [tapeV t, .d (rowsD z), .d (rowD l), fI step, fI m, .d (rowD w)] (sumV (solG t z l h w m)) := by
  rcases solG_form t z l h w m with ⟨g, k, hg, he⟩ | ⟨k, e, hne, he⟩
  · rw [he]; exact Con_of_AC (r9_SolveG_ok t z l h w step m hn0 ok hh g k he) (le_sum _ _ _ _ _ rfl hg)
  · rw [he]; exact Con_of_AC (r9_SolveG_no t z l h w step m hn0 ok hh k e hne he) (le_sumN _ _ _)
theorem hW_div (j : Nat) : fop .div (FloatKind.nearest .f64 ((2 ^ j : Nat) : Int)) 4742290407621132288 = hW (2 ^ j) := by
  unfold hW; rw [show FloatKind.nearest .f64 1073741824 = 4742290407621132288 by kernel_rfl]
set_option maxRecDepth 16000 in
theorem r10_Try_con (p : Pb) (s : Sta) (hp : Pok p) (hs : s.ok p.t) : Con Tryz.prog 16 [pbV p, staV s] (trdV (tryP p s)) := by
  have hs' := hs
  obtain ⟨hn, hg, hf, hsl⟩ := hs
  obtain ⟨hm, ⟨j, hj, hst⟩, hk, hc, hpos⟩ := hn
  obtain ⟨⟨pos, st, o, m, z⟩, g, f, sl⟩ := s
  simp only at hm hst hk hc hpos hg hf hsl
  have hsr := pow_range j hj
  obtain ⟨q, rfl⟩ : ∃ q : Nat, o = q := ⟨o.toNat, by omega⟩
  rw [Int.toNat_natCast] at hk
  have hm' : (m = 0 ∧ 1 ≤ q ∧ q ≤ 5) ∨ (m = 1 ∧ 1 ≤ q ∧ q ≤ 4) := by omega
  have hpn := hp.t.n
  have hq9 : q < 1000 := by omega
  have hn40 : p.t.n < 2 ^ 40 := by omega
  have hZ := predP_rk hk q
  have hpred := r8_Predict_con z q p.t.n hk hq9 hn40
  obtain ⟨hof, hofl⟩ := r7_Of_ok m q hm'
  have hz0 := hk.2 0 (by omega)
  have hzl := hk.1
  have hwt := r9_Weights_con (z.getD 0 []) p.atol p.rtol (by omega)
  have hwl : (wtP (z.getD 0 []) p.atol p.rtol).length = p.t.n := by rw [wtP_len]; exact hz0
  have ok : Sok p.t (predP z p.t.n q) (ofL m q) (wtP (z.getD 0 []) p.atol p.rtol) (List.replicate p.t.n 0) := ⟨hp.t, by have := hZ.1; omega, fun i hi => hZ.2 i (by omega), by omega, hwl, by simp⟩
  have hsol := r9_Solve_con p.t (predP z p.t.n q) (ofL m q) (hW (2 ^ j)) (wtP (z.getD 0 []) p.atol p.rtol) ((2 ^ j : Nat) : Int) m hp.n ok (hW_div j)
  rw [← hst] at hsol
  have htry : tryP p ⟨⟨pos, st, q, m, z⟩, g, f, sl⟩ = (let c := solG p.t (predP z p.t.n q) (ofL m q) (hW (2 ^ j)) (wtP (z.getD 0 []) p.atol p.rtol) m
    if c.2.2 ≠ 0 then failP p ⟨⟨pos, st, q, m, z⟩, g, f, sl⟩ c.2.2 0 else
      let err := fop .div (szP c.1 (wtP (z.getD 0 []) p.atol p.rtol)) (FloatKind.nearest .f64 ((q : Int) + 1))
      if fcmp .le err 4607182418800017408 = true then takeP p ⟨⟨pos, st, q, m, z⟩, g, f, sl⟩ (predP z p.t.n q) (ofL m q) c.1 err else failP p ⟨⟨pos, st, q, m, z⟩, g, f, sl⟩ 0 err) := by
    unfold tryP
    simp only [Int.toNat_natCast, hst]
  rw [htry]
  have htake := fun d err hd => r10_taken_con p ⟨⟨pos, st, q, m, z⟩, g, f, sl⟩ (predP z p.t.n q) (ofL m q) d err hp hs' (by rw [Int.toNat_natCast]; exact hZ) (predP_cw hc _ _) (by rw [Int.toNat_natCast]; exact hofl) hd
  have hfail := fun e err => r10_failed_con p ⟨⟨pos, st, q, m, z⟩, g, f, sl⟩ e err hp hs'
  have hform := solG_form p.t (predP z p.t.n q) (ofL m q) (hW (2 ^ j)) (wtP (z.getD 0 []) p.atol p.rtol) m
  generalize solG p.t (predP z p.t.n q) (ofL m q) (hW (2 ^ j)) (wtP (z.getD 0 []) p.atol p.rtol) m = c at hsol hform
  generalize predP z p.t.n q = Z at hpred htake hZ hsol
  generalize ofL m q = l at hof hofl htake hsol
  generalize wtP (z.getD 0 []) p.atol p.rtol = w at hwt hwl hsol
  clear htry ok
  refine Con_introA A_r10_Try_comp rfl mixed ?_
  refine evx @A_r10_Try.eq_1 ?_
  refine callG_con (hpred) rfl ?_
  refine ev ?_
  refine callG_con (hof) rfl ?_
  refine ev ?_
  (repeat (with_reducible refine And.intro (by omega) ?_))
  refine callG_con (hwt) rfl ?_
  refine ev ?_
  refine callG_con (hsol) rfl ?_
  refine ev ?_
  rcases hform with ⟨g', k', hgl, rfl⟩ | ⟨k', e', hne, rfl⟩
  · simp only [ne_eq, not_true_eq_false, if_false, ↓reduceIte]
    have hsz := r9_Size_con g' w (by omega) (by omega)
    have w3 : IntKind.i64.wrap ((q : Int) + 1) = (q : Int) + 1 := wrapI (by omega) (by omega)
    refine ev ?_
    refine callSG_con (hsz) rfl ?_
    refine evx w3 ?_
    generalize fop .div (szP g' w) (FloatKind.nearest .f64 ((q : Int) + 1)) = err
    refine condC_intro (fun he => ?_) (fun he => ?_)
    · rw [if_pos he]
      refine ev ?_
      refine callG_con (htake g' err hgl) rfl ?_
      refine ev ?_
      exact endsT_retm rfl (by decide) rfl rfl rfl (by simp) rfl
    · rw [if_neg (by rw [he]; decide)]
      refine ev ?_
      refine callG_con (hfail 0 err) rfl ?_
      refine ev ?_
      exact endsT_retm rfl (by decide) rfl rfl rfl (by simp) rfl
  · have hne' : ¬ (e' = 0) := hne
    simp only [ne_eq, hne', not_false_eq_true, if_true]
    have hd : (e' != 0) = true := by simp [hne']
    simp -implicitDefEqProofs only [evI, hv, effC, reduceCtorEq, ↓reduceIte, n1_, n2_, n3_, n4_, n5_, i1_, i2_, i3_, i4_, i5_, i6_, i7_, hd]
    refine callG_con (hfail e' 0) rfl ?_
    refine ev ?_
    exact endsT_retm rfl (by decide) rfl rfl rfl (by simp) rfl
end Go.Ab
namespace Go.Ab
set_option linter.unusedSimpArgs false
set_option linter.unusedVariables false
open Go Go.Proofs
def A_l3_within : CA := (.seq (.reg [i_K 0 4 0] [0, 1]) (.seq (.reg [i_M 0 6 0, i_M 1 7 1, i_N 2 8 .rem 6 7, i_M 3 5 8] [1, 5]) (.seq (.seq (.reg [i_M 0 9 5, i_B 1 10 .lss 9 0] [1, 5, 10]) (.cond (.t 10) (.reg [i_M 0 11 5, i_M 1 12 1, i_N 2 13 .add 11 12, i_M 3 5 13] [5]) .skip)) (.seq (.reg [i_M 0 14 5, i_M 1 4 14] [4]) .ret))))
theorem A_l3_within_comp : compF Tryz.prog 59 = some ⟨15, [(4, none)], A_l3_within.strip⟩ := by kernel_rfl
def A_l3_Make_L0 : CA := (.seq (.seq (.reg [i_M 0 18 8, i_P 1 19 7 0, i_L 2 20 19 1, i_N 3 21 .lss 18 20] [0, 1, 2, 6, 7, 8, 21]) (.cond (.t 21) .skip (.exit 0))) (.seq (.block 1 (.reg [i_P 0 24 7 1, i_L 1 25 24 1, i_M 2 26 8, i_X 3 27 (.h (.build [(.d (.int .i64 0)), (.d (.int .i64 0)), (.d (.int .i64 0)), (.d (.flt 0))] [(0, (1, (kI 1))), (1, (1, (.t 26)))])), i_X 4 28 (.bslice [(.d (.int .i64 0)), (.d (.int .i64 0)), (.d (.int .i64 0)), (.d (.flt 0))] 1 4 [(0, (4, (.t 27)))] 62), i_X 5 29 (.app (.t 25) (.t 28) 4 32), i_P 6 30 7 1, i_S 7 30 29 1] [0, 1, 2, 6, 7, 8])) (.reg [i_M 0 22 8, i_B 1 23 .add 22 1, i_M 2 8 23] [0, 1, 2, 6, 7, 8])))
def A_l3_Make_L1 : CA := (.seq (.seq (.reg [i_M 0 42 9, i_M 1 43 1, i_X 2 44 (.h (.len (.t 43))), i_N 3 45 .lss 42 44, i_M 4 46 45, ⟨5, (some 47), (some (46, true)), [], [], (.h (.mov (.t 9)))⟩, ⟨6, (some 48), (some (46, true)), [], [], (.h (.ibin .lss (.t 47) (kI 8)))⟩, i_X 7 49 (.h (.pick (.t 46) (.t 48) (.k (.d (.bool false)))))] [0, 1, 2, 6, 7, 9, 49]) (.cond (.t 49) .skip (.exit 2))) (.seq (.block 3 (.seq (.reg [i_M 0 52 1, i_M 1 53 9, i_I 2 54 52 53 1, i_L 3 55 54 1, i_M 4 10 55] [0, 1, 2, 6, 7, 9, 10]) (.seq (.reg [i_P 0 56 7 1, i_L 1 57 56 1, i_X 2 58 (.h (.len (.t 57))), i_M 3 11 58] [0, 1, 2, 6, 7, 9, 10, 11]) (.seq (.reg [i_M 0 59 10, i_X 1 60 (.callA (kF 59) [(.t 59), (kI 3)]), i_X 2 61 (.h (.ibin .add (kI 2) (.t 60))), i_M 3 62 10, i_B 4 63 .quo 62 4, i_M 5 64 11, i_X 6 65 (.callA (kF 59) [(.t 63), (.t 64)]), i_M 7 66 10, i_B 8 67 .quo 66 40, i_M 9 68 11, i_X 10 69 (.callA (kF 59) [(.t 67), (.t 68)]), i_X 11 70 (.h (.build [(.d (.int .i64 0)), (.d (.int .i64 0)), (.d (.int .i64 0)), (.d (.flt 0))] [(0, (1, (.t 61))), (1, (1, (.t 65))), (2, (1, (.t 69)))])), i_X 12 12 (.alloc [(.d (.int .i64 0)), (.d (.int .i64 0)), (.d (.int .i64 0)), (.d (.flt 0))] 62), i_S 13 12 70 4] [0, 1, 2, 6, 7, 9, 10, 12]) (.seq (.seq (.reg [i_M 0 71 2, i_M 1 72 71, ⟨2, (some 73), (some (72, true)), [], [], (.h (.mov (.t 10)))⟩, ⟨3, (some 74), (some (72, true)), [], [], (.callA (kF 59) [(.t 73), (kI 7)])⟩, ⟨4, (some 75), (some (72, true)), [], [], (.h (.ibin .eql (.t 74) (kI 0)))⟩, i_X 5 76 (.h (.pick (.t 72) (.t 75) (.k (.d (.bool false)))))] [0, 1, 2, 6, 7, 9, 10, 12, 76]) (.cond (.t 76) (.reg [i_P 0 77 12 0, ⟨1, none, none, [], [], (.store (.t 77) (kI 5) 1)⟩] [0, 1, 2, 6, 7, 9, 10, 12]) .skip)) (.seq (.seq (.reg [i_M 0 78 10, i_X 1 79 (.callA (kF 59) [(.t 78), (kI 11)]), i_B 2 80 .eql 79 0] [0, 1, 2, 6, 7, 9, 10, 12, 80]) (.cond (.t 80) (.reg [i_M 0 81 10, i_B 1 82 .quo 81 11, i_X 2 83 (.callA (kF 59) [(.t 82), (kI 33)]), i_B 3 84 .sub 83 16, i_X 4 85 (.h (.i2f (.t 84))), i_X 5 86 (.h (.fbin .div (.t 85) (.k (.d (.flt 4620693217682128896))))), i_X 6 87 (.h (.build [(.d (.int .i64 0)), (.d (.int .i64 0)), (.d (.int .i64 0)), (.d (.flt 0))] [(0, (1, (kI 0))), (3, (1, (.t 86)))])), i_S 7 12 87 4] [0, 1, 2, 6, 7, 9, 12]) .skip)) (.reg [i_P 0 88 7 1, i_L 1 89 88 1, i_A 2 90 12 4, i_X 3 91 (.bslice [(.d (.int .i64 0)), (.d (.int .i64 0)), (.d (.int .i64 0)), (.d (.flt 0))] 1 4 [(0, (4, (.t 90)))] 62), i_X 4 92 (.app (.t 89) (.t 91) 4 32), i_P 5 93 7 1, i_S 6 93 92 1] [0, 1, 2, 6, 7, 9]))))))) (.reg [i_M 0 50 9, i_B 1 51 .add 50 1, i_M 2 9 51] [0, 1, 2, 6, 7, 9])))
def A_l3_Make_L2 : CA := (.seq (.seq (.reg [i_M 0 94 13, i_P 1 95 7 0, i_L 2 96 95 1, i_N 3 97 .lss 94 96] [0, 6, 7, 13, 97]) (.cond (.t 97) .skip (.exit 4))) (.seq (.block 5 (.reg [i_P 0 100 7 2, i_L 1 101 100 1, i_P 2 102 7 1, i_L 3 103 102 1, i_X 4 104 (.h (.len (.t 103))), i_B 5 105 .sub 104 1, i_M 6 106 0, i_B 7 107 .quo 106 3, i_M 8 108 13, i_N 9 109 .add 107 108, i_P 10 110 7 1, i_L 11 111 110 1, i_X 12 112 (.h (.len (.t 111))), i_X 13 113 (.h (.mm false (kI 3) (.t 112))), i_X 14 114 (.callS 14 (kF 59) [(.t 109), (.t 113)]), i_N 15 115 .sub 105 114, i_X 16 116 (.bslice [(.d (.int .i64 0))] 1 1 [(0, (1, (.t 115)))] 3), i_X 17 117 (.app (.t 101) (.t 116) 1 8), i_P 18 118 7 2, i_S 19 118 117 1] [0, 6, 7, 13])) (.reg [i_M 0 98 13, i_B 1 99 .add 98 1, i_M 2 13 99] [0, 6, 7, 13])))
def A_l3_Make : CA := (.seq (.reg [i_X 0 6 (.alloc [(.d (.int .i64 0)), .nil, .nil] 28)] [0, 1, 2, 6]) (.seq (.reg [i_M 0 14 0, i_X 1 15 (.callA (kF 59) [(.t 14), (kI 3)]), i_X 2 16 (.h (.ibin .add (kI 1) (.t 15))), i_X 3 17 (.h (.build [(.d (.int .i64 0)), .nil, .nil] [(0, (1, (.t 16)))])), i_X 4 7 (.alloc [(.d (.int .i64 0)), .nil, .nil] 28), i_S 5 7 17 3] [0, 1, 2, 6, 7]) (.seq (.seq (.reg [i_K 0 8 0] [0, 1, 2, 6, 7, 8]) (.block 0 (.loop A_l3_Make_L0))) (.seq (.reg [i_P 0 31 7 1, i_L 1 32 31 1, i_M 2 33 0, i_X 3 34 (.callS 3 (kF 59) [(.t 33), (kI 17)]), i_B 4 35 .sub 34 8, i_X 5 36 (.h (.i2f (.t 35))), i_X 6 37 (.h (.fbin .div (.t 36) (.k (.d (.flt 4616189618054758400))))), i_X 7 38 (.h (.build [(.d (.int .i64 0)), (.d (.int .i64 0)), (.d (.int .i64 0)), (.d (.flt 0))] [(0, (1, (kI 0))), (3, (1, (.t 37)))])), i_X 8 39 (.bslice [(.d (.int .i64 0)), (.d (.int .i64 0)), (.d (.int .i64 0)), (.d (.flt 0))] 1 4 [(0, (4, (.t 38)))] 62), i_X 9 40 (.app (.t 32) (.t 39) 4 32), i_P 10 41 7 1, i_S 11 41 40 1] [0, 1, 2, 6, 7]) (.seq (.seq (.reg [i_K 0 9 0] [0, 1, 2, 6, 7, 9]) (.block 2 (.loop A_l3_Make_L1))) (.seq (.seq (.reg [i_K 0 13 0] [0, 6, 7, 13]) (.block 4 (.loop A_l3_Make_L2))) (.seq (.reg [i_A 0 119 7 3, i_S 1 6 119 3] [6]) .ret)))))))
theorem A_l3_Make_comp : compF Tryz.prog 23 = some ⟨120, [(6, (some (3, true)))], A_l3_Make.strip⟩ := by kernel_rfl
theorem l3_within_con (a n : Int) (hn : 0 < n) (hn2 : n < 2 ^ 62) : Con Tryz.prog 59 [fI a, fI n] (fI (a % n)) := by
  rw [← tmod_fix a n hn]
  refine Con_introA A_l3_within_comp rfl mixed ?_
  refine evx @A_l3_within.eq_1 ?_
  refine ⟨by omega, ?_⟩
  have h1 := Int.tmod_lt_of_pos a hn
  have h6 := Int.lt_tmod_of_pos a hn
  refine condC_intro (fun h => ?_) (fun h => ?_)
  · refine ev ?_
    replace h := of_decide_eq_true h
    rw [wrapI (by omega) (by omega), if_pos h]
    exact endsT_rett rfl (by decide) (by simp [look])
  · replace h := of_decide_eq_false h
    refine ev ?_
    rw [if_neg h]
    exact endsT_rett rfl (by decide) (by simp [look])
def mkOp (ns : List Int) (div : Bool) (at' : Nat) (i : Nat) : OpN :=
  let k := ns.getD i 0
  if k % 11 = 0 then ⟨0, 0, 0, fop .div (FloatKind.nearest .f64 (IntKind.i64.wrap (k.tdiv 11) % 33 - 16)) 4620693217682128896⟩
  else ⟨if div = true ∧ k % 7 = 0 then 5 else 2 + k % 3, IntKind.i64.wrap (k.tdiv 4) % at', IntKind.i64.wrap (k.tdiv 40) % at', 0⟩
def varOps (N : Nat) : List OpN := (List.range N).map fun (i : Nat) => ⟨1, i, 0, 0⟩
def baseOps (n : Int) (N : Nat) : List OpN := varOps N ++ [⟨0, 0, 0, fop .div (FloatKind.nearest .f64 (n % 17 - 8)) 4616189618054758400⟩]
def mkOps (n : Int) (ns : List Int) (div : Bool) (N : Nat) : Nat → List OpN
  | 0 => baseOps n N
  | i + 1 => mkOps n ns div N i ++ [mkOp ns div (N + 1 + i) i]
def mkOut (n : Int) (L : Nat) (i : Nat) : Int := (L : Int) - 1 - (IntKind.i64.wrap (IntKind.i64.wrap (n.tdiv 3) + i)) % (min 3 L : Nat)
def mkT (n : Int) (ns : List Int) (div : Bool) : Tp :=
  let N := (n % 3).toNat + 1
  let m := min ns.length 8
  ⟨N, mkOps n ns div N m, (List.range N).map fun i => mkOut n (N + 1 + m) i⟩
theorem mkOps_len (n : Int) (ns : List Int) (div : Bool) (N i : Nat) : (mkOps n ns div N i).length = N + 1 + i := by
  induction i with
  | zero => simp [mkOps, baseOps, varOps]
  | succ i ih => simp [mkOps, ih]; omega
def Oko' (o : OpN) (i n : Nat) : Prop := o.k = 0 ∨ (o.k = 1 ∧ 0 ≤ o.a ∧ o.a < n) ∨ ((o.k = 2 ∨ o.k = 3 ∨ o.k = 4 ∨ o.k = 5) ∧ (0 ≤ o.a ∧ o.a < i) ∧ 0 ≤ o.b ∧ o.b < i)
theorem opc_succ (xs : List OpN) (o : OpN) (i : Nat) (h : xs.length = i) : dcells i (opG xs) ++ [fI o.k, fI o.a, fI o.b, fl o.c] = dcells (i + 1) (opG (xs ++ [o])) := by
  rw [dcells_succ]
  have e : dcells i (opG (xs ++ [o])) = dcells i (opG xs) := by
    unfold dcells
    rw [dcB_congr fun j hj => ?_]
    have : (xs ++ [o]).getD j ⟨0, 0, 0, 0⟩ = xs.getD j ⟨0, 0, 0, 0⟩ := by rw [List.getD_eq_getElem?_getD, List.getElem?_append_left (by omega), ← List.getD_eq_getElem?_getD]
    simp only [opG, this]
  have e2 : (xs ++ [o]).getD i ⟨0, 0, 0, 0⟩ = o := by rw [List.getD_eq_getElem?_getD, List.getElem?_append_right (by omega), h, Nat.sub_self]; rfl
  rw [e]
  congr 1
  simp only [opG, e2, List.map_cons, List.map_nil]
theorem opc_len (xs : List OpN) (i : Nat) : (dcells i (opG xs)).length = i * 4 := dcells_len i fun _ _ => rfl
theorem varOps_succ (i : Nat) : varOps (i + 1) = varOps i ++ [⟨1, i, 0, 0⟩] := by simp [varOps, List.range_succ]
theorem varOps_len (i : Nat) : (varOps i).length = i := by simp [varOps]
abbrev m0S (n : Int) (ns : List Int) (div : Bool) (i : Nat) : Sl := [(0, fI n), (1, .d (rowI ns)), (2, fB div), (6, .ptr 0 0 0 3), (7, .ptr 5 0 0 3), (8, fI i)]
abbrev m1S (n : Int) (ns : List Int) (div : Bool) (i : Nat) : Sl := [(0, fI n), (1, .d (rowI ns)), (2, fB div), (6, .ptr 0 0 0 3), (7, .ptr 5 0 0 3), (9, fI i)]
abbrev mTop : List V := [fI 0, .nil, .nil]
set_option maxRecDepth 8000 in
theorem make3_L0 (n : Int) (ns : List Int) (div : Bool) (N : Nat) (hN : 0 < N ∧ N ≤ 3) (Q : Ex → T → Prop)
    (hQ : ∀ w, Q (.exit 0) ⟨m0S n ns div N ++ [w], [(11, [dcells N (opG (varOps N))]), (5, [[fI N, .sl 11 0 0 N 4 (N * 4), .nil]]), (0, [mTop])]⟩) :
    WA Tryz.prog (fun _ => False) 120 (.loop A_l3_Make_L0) Q ⟨m0S n ns div 0, [(5, [[fI N, .nil, .nil]]), (0, [mTop])]⟩ := by
  refine WA_forW (n := N) (fun c s => ∃ i, c + i = N ∧ ((i = 0 ∧ s = ⟨m0S n ns div 0, [(5, [[fI N, .nil, .nil]]), (0, [mTop])]⟩) ∨ (0 < i ∧ s = ⟨m0S n ns div i, [(11, [dcells i (opG (varOps i))]), (5, [[fI N, .sl 11 0 0 i 4 (i * 4), .nil]]), (0, [mTop])]⟩))) (Le.refl _) ⟨0, rfl, .inl ⟨rfl, rfl⟩⟩ ?_
  rintro c s ⟨i, hc, ⟨rfl, rfl⟩ | ⟨hi, rfl⟩⟩
  · refine evx @A_l3_Make_L0.eq_1 ?_
    have h0 : decide ((0 : Int) < (N : Int)) = true := by simp; omega
    refine evx h0 ?_
    rw [show IntKind.i64.wrap 1 = ((0 + 1 : Nat) : Int) from by decide]
    exact ⟨c - 1, _, by omega, LeT.only (L' := [(11, [dcells (0 + 1) (opG (varOps (0 + 1)))]), (5, [[fI N, .sl 11 0 0 (0 + 1) 4 ((0 + 1) * 4), .nil]]), (0, [mTop])]) (fun X => X != 10) (fun _ h => h) rfl (by simp [kpS]) (by simp [kpS]), 0 + 1, by omega, .inr ⟨by omega, rfl⟩⟩
  · have hl := opc_len (varOps i) i
    refine evx @A_l3_Make_L0.eq_1 ?_
    refine condC_intro (fun h => ?_) (fun h => ?_)
    · replace h := of_decide_eq_true h
      refine ev ?_
      (repeat (with_reducible refine And.intro (by omega) ?_))
      have e := opc_succ (varOps i) ⟨1, i, 0, 0⟩ i (varOps_len i)
      rw [← varOps_succ] at e
      have e4 : i * 4 + 4 = (i + 1) * 4 := by omega
      rw [wrapI (by omega) (by omega), e4]
      simp only [] at e
      rw [e]
      exact ⟨c - 1, _, by omega, LeT.only (fun X => decide (X ≤ 11)) (fun _ h => h) rfl (by simp [kpS]) (by simp [kpS]), i + 1, by omega, .inr ⟨by omega, rfl⟩⟩
    · replace h := of_decide_eq_false h
      have e : i = N := by omega
      subst e
      refine ev ?_
      exact hQ _
abbrev m1T (n : Int) (ns : List Int) (div : Bool) (N i : Nat) : T := ⟨m1S n ns div i, [(11, [dcells (N + 1 + i) (opG (mkOps n ns div N i))]), (5, [[fI N, .sl 11 0 0 (N + 1 + i) 4 ((N + 1 + i) * 4), .nil]]), (0, [mTop])]⟩
set_option maxRecDepth 8000 in
theorem make3_L1 (n : Int) (ns : List Int) (div : Bool) (N : Nat) (hN : 0 < N ∧ N ≤ 3) (hns : ns.length < 2 ^ 62) (Q : Ex → T → Prop)
    (hQ : ∀ w, Q (.exit 2) ⟨m1S n ns div (min ns.length 8) ++ [w], (m1T n ns div N (min ns.length 8)).L⟩) :
    WA Tryz.prog (fun _ => False) 120 (.loop A_l3_Make_L1) Q (m1T n ns div N 0) := by
  refine WA_forW (n := min ns.length 8) (fun c s => ∃ i, c + i = min ns.length 8 ∧ s = m1T n ns div N i) (Le.refl _) ⟨0, by omega, rfl⟩ ?_
  rintro c s ⟨i, hc, rfl⟩
  have hl := mkOps_len n ns div N i
  have hcl := opc_len (mkOps n ns div N i) (N + 1 + i)
  have hnx : mkOps n ns div N (i + 1) = mkOps n ns div N i ++ [mkOp ns div (N + 1 + i) i] := rfl
  refine evx @A_l3_Make_L1.eq_1 ?_
  by_cases h1 : i < ns.length
  · have h1' : decide (i < ns.length) = true := decide_eq_true h1
    by_cases h2 : i < 8
    · have h2' : decide ((i : Int) < 8) = true := by simp; omega
      refine evx (And.intro h1' h2') ?_
      (repeat (with_reducible refine And.intro (by omega) ?_))
      generalize hk : ns.getD i 0 = k
      have ho : mkOp ns div (N + 1 + i) i = if k % 11 = 0 then ⟨0, 0, 0, fop .div (FloatKind.nearest .f64 (IntKind.i64.wrap (k.tdiv 11) % 33 - 16)) 4620693217682128896⟩ else ⟨if div = true ∧ k % 7 = 0 then 5 else 2 + k % 3, IntKind.i64.wrap (k.tdiv 4) % (N + 1 + i : Nat), IntKind.i64.wrap (k.tdiv 40) % (N + 1 + i : Nat), 0⟩ := by unfold mkOp; rw [hk]
      generalize mkOp ns div (N + 1 + i) i = o at ho hnx
      refine callG_con (l3_within_con k 3 (by decide) (by decide)) rfl ?_
      have q1 := Int.emod_nonneg k (by decide : (3 : Int) ≠ 0)
      have q2 := Int.emod_lt_of_pos k (by decide : (0 : Int) < 3)
      have w2 : IntKind.i64.wrap (2 + k % 3) = 2 + k % 3 := wrapI (by omega) (by omega)
      refine evx w2 ?_
      refine ⟨by decide, ?_⟩
      refine callG_con (l3_within_con (IntKind.i64.wrap (k.tdiv 4)) (N + 1 + i : Nat) (by omega) (by omega)) rfl ?_
      refine ev ?_
      refine ⟨by decide, ?_⟩
      refine callG_con (l3_within_con (IntKind.i64.wrap (k.tdiv 40)) (N + 1 + i : Nat) (by omega) (by omega)) rfl ?_
      refine ev ?_
      cases div
      · rw [if_neg (by simp : ¬ (false = true ∧ k % 7 = 0))] at ho
        refine evx hcl ?_
        refine callG_con (l3_within_con k 11 (by decide) (by decide)) rfl ?_
        by_cases h11 : k % 11 = 0
        · rw [if_pos h11] at ho
          have h11' : (k % 11 == 0) = true := by simpa using h11
          refine evx h11' ?_
          refine ⟨by decide, ?_⟩
          refine callG_con (l3_within_con (IntKind.i64.wrap (k.tdiv 11)) 33 (by decide) (by decide)) rfl ?_
          have v1 := Int.emod_nonneg (IntKind.i64.wrap (k.tdiv 11)) (by decide : (33 : Int) ≠ 0)
          have v2 := Int.emod_lt_of_pos (IntKind.i64.wrap (k.tdiv 11)) (by decide : (0 : Int) < 33)
          have v3 : IntKind.i64.wrap (IntKind.i64.wrap (k.tdiv 11) % 33 - 16) = IntKind.i64.wrap (k.tdiv 11) % 33 - 16 := wrapI (by omega) (by omega)
          refine evx v3 ?_
          have e := opc_succ (mkOps n ns _ N i) o (N + 1 + i) hl
          rw [← hnx, ho] at e
          simp only [] at e
          have e4 : (N + 1 + i) * 4 + 4 = (N + 1 + (i + 1)) * 4 := by omega
          have e5 : N + 1 + i + 1 = N + 1 + (i + 1) := by omega
          (repeat (with_reducible refine And.intro (by omega) ?_))
          rw [wrapI (by omega) (by omega), e4, e, e5]
          exact ⟨c - 1, _, by omega, LeT.only (fun X => X == 11 || X == 5 || X == 0) (fun _ h => h) rfl (by simp [kpS]) (by simp [kpS]), i + 1, by omega, rfl⟩
        · rw [if_neg h11] at ho
          have h11' : (k % 11 == 0) = false := by simpa using h11
          refine evx h11' ?_
          have e := opc_succ (mkOps n ns _ N i) o (N + 1 + i) hl
          rw [← hnx, ho] at e
          simp only [] at e
          have e4 : (N + 1 + i) * 4 + 4 = (N + 1 + (i + 1)) * 4 := by omega
          have e5 : N + 1 + i + 1 = N + 1 + (i + 1) := by omega
          (repeat (with_reducible refine And.intro (by omega) ?_))
          rw [wrapI (by omega) (by omega), e4, e, e5]
          exact ⟨c - 1, _, by omega, LeT.only (fun X => X == 11 || X == 5 || X == 0) (fun _ h => h) rfl (by simp [kpS]) (by simp [kpS]), i + 1, by omega, rfl⟩
      · by_cases h7 : k % 7 = 0
        · have hd : (true = true ∧ k % 7 = 0) := ⟨rfl, h7⟩
          rw [if_pos hd] at ho
          have h7' : (k % 7 == 0) = true := by simpa using h7
          refine ev ?_
          refine callG_con (l3_within_con k 7 (by decide) (by decide)) rfl ?_
          refine evx h7' ?_
          refine callG_con (l3_within_con k 11 (by decide) (by decide)) rfl ?_
          by_cases h11 : k % 11 = 0
          · rw [if_pos h11] at ho
            have h11' : (k % 11 == 0) = true := by simpa using h11
            refine evx h11' ?_
            refine ⟨by decide, ?_⟩
            refine callG_con (l3_within_con (IntKind.i64.wrap (k.tdiv 11)) 33 (by decide) (by decide)) rfl ?_
            have v1 := Int.emod_nonneg (IntKind.i64.wrap (k.tdiv 11)) (by decide : (33 : Int) ≠ 0)
            have v2 := Int.emod_lt_of_pos (IntKind.i64.wrap (k.tdiv 11)) (by decide : (0 : Int) < 33)
            have v3 : IntKind.i64.wrap (IntKind.i64.wrap (k.tdiv 11) % 33 - 16) = IntKind.i64.wrap (k.tdiv 11) % 33 - 16 := wrapI (by omega) (by omega)
            refine evx v3 ?_
            have e := opc_succ (mkOps n ns _ N i) o (N + 1 + i) hl
            rw [← hnx, ho] at e
            simp only [] at e
            have e4 : (N + 1 + i) * 4 + 4 = (N + 1 + (i + 1)) * 4 := by omega
            have e5 : N + 1 + i + 1 = N + 1 + (i + 1) := by omega
            (repeat (with_reducible refine And.intro (by omega) ?_))
            rw [wrapI (by omega) (by omega), e4, e, e5]
            exact ⟨c - 1, _, by omega, LeT.only (fun X => X == 11 || X == 5 || X == 0) (fun _ h => h) rfl (by simp [kpS]) (by simp [kpS]), i + 1, by omega, rfl⟩
          · rw [if_neg h11] at ho
            have h11' : (k % 11 == 0) = false := by simpa using h11
            refine evx h11' ?_
            have e := opc_succ (mkOps n ns _ N i) o (N + 1 + i) hl
            rw [← hnx, ho] at e
            simp only [] at e
            have e4 : (N + 1 + i) * 4 + 4 = (N + 1 + (i + 1)) * 4 := by omega
            have e5 : N + 1 + i + 1 = N + 1 + (i + 1) := by omega
            (repeat (with_reducible refine And.intro (by omega) ?_))
            rw [wrapI (by omega) (by omega), e4, e, e5]
            exact ⟨c - 1, _, by omega, LeT.only (fun X => X == 11 || X == 5 || X == 0) (fun _ h => h) rfl (by simp [kpS]) (by simp [kpS]), i + 1, by omega, rfl⟩
        · have hd : ¬ (true = true ∧ k % 7 = 0) := fun h => h7 h.2
          rw [if_neg hd] at ho
          have h7' : (k % 7 == 0) = false := by simpa using h7
          refine ev ?_
          refine callG_con (l3_within_con k 7 (by decide) (by decide)) rfl ?_
          refine evx h7' ?_
          refine callG_con (l3_within_con k 11 (by decide) (by decide)) rfl ?_
          by_cases h11 : k % 11 = 0
          · rw [if_pos h11] at ho
            have h11' : (k % 11 == 0) = true := by simpa using h11
            refine evx h11' ?_
            refine ⟨by decide, ?_⟩
            refine callG_con (l3_within_con (IntKind.i64.wrap (k.tdiv 11)) 33 (by decide) (by decide)) rfl ?_
            have v1 := Int.emod_nonneg (IntKind.i64.wrap (k.tdiv 11)) (by decide : (33 : Int) ≠ 0)
            have v2 := Int.emod_lt_of_pos (IntKind.i64.wrap (k.tdiv 11)) (by decide : (0 : Int) < 33)
            have v3 : IntKind.i64.wrap (IntKind.i64.wrap (k.tdiv 11) % 33 - 16) = IntKind.i64.wrap (k.tdiv 11) % 33 - 16 := wrapI (by omega) (by omega)
            refine evx v3 ?_
            have e := opc_succ (mkOps n ns _ N i) o (N + 1 + i) hl
            rw [← hnx, ho] at e
            simp only [] at e
            have e4 : (N + 1 + i) * 4 + 4 = (N + 1 + (i + 1)) * 4 := by omega
            have e5 : N + 1 + i + 1 = N + 1 + (i + 1) := by omega
            (repeat (with_reducible refine And.intro (by omega) ?_))
            rw [wrapI (by omega) (by omega), e4, e, e5]
            exact ⟨c - 1, _, by omega, LeT.only (fun X => X == 11 || X == 5 || X == 0) (fun _ h => h) rfl (by simp [kpS]) (by simp [kpS]), i + 1, by omega, rfl⟩
          · rw [if_neg h11] at ho
            have h11' : (k % 11 == 0) = false := by simpa using h11
            refine evx h11' ?_
            have e := opc_succ (mkOps n ns _ N i) o (N + 1 + i) hl
            rw [← hnx, ho] at e
            simp only [] at e
            have e4 : (N + 1 + i) * 4 + 4 = (N + 1 + (i + 1)) * 4 := by omega
            have e5 : N + 1 + i + 1 = N + 1 + (i + 1) := by omega
            (repeat (with_reducible refine And.intro (by omega) ?_))
            rw [wrapI (by omega) (by omega), e4, e, e5]
            exact ⟨c - 1, _, by omega, LeT.only (fun X => X == 11 || X == 5 || X == 0) (fun _ h => h) rfl (by simp [kpS]) (by simp [kpS]), i + 1, by omega, rfl⟩
    · have h2' : decide ((i : Int) < 8) = false := by simp; omega
      have e : i = min ns.length 8 := by omega
      refine evx (And.intro h1' h2') ?_
      rw [e]
      exact hQ _
  · have h1' : decide (i < ns.length) = false := decide_eq_false h1
    have e : i = min ns.length 8 := by omega
    refine evx h1' ?_
    rw [e]
    exact hQ _
def mkOutL (n : Int) (L i : Nat) : List Int := (List.range i).map fun j => mkOut n L j
theorem mkOutL_succ (n : Int) (L i : Nat) : rowIV (mkOutL n L i) ++ [fI (mkOut n L i)] = rowIV (mkOutL n L (i + 1)) := by simp [mkOutL, rowIV, List.range_succ]
theorem mkOutL_len (n : Int) (L i : Nat) : (mkOutL n L i).length = i := by simp [mkOutL]
abbrev m2S (n : Int) (i : Nat) : Sl := [(0, fI n), (6, .ptr 0 0 0 3), (7, .ptr 5 0 0 3), (13, fI i)]
set_option maxRecDepth 8000 in
theorem make3_L2 (n : Int) (N M : Nat) (ops : List OpN) (hM : ops.length = M) (hN : 0 < N ∧ N ≤ 3) (hM2 : 2 ≤ M ∧ M ≤ 100) (Q : Ex → T → Prop)
    (hQ : ∀ w, Q (.exit 4) ⟨m2S n N ++ [w], [(29, [rowIV (mkOutL n M N)]), (11, [dcells M (opG ops)]), (5, [[fI N, .sl 11 0 0 M 4 (M * 4), .sl 29 0 0 N 1 N]]), (0, [mTop])]⟩) :
    WA Tryz.prog (fun _ => False) 120 (.loop A_l3_Make_L2) Q ⟨m2S n 0, [(11, [dcells M (opG ops)]), (5, [[fI N, .sl 11 0 0 M 4 (M * 4), .nil]]), (0, [mTop])]⟩ := by
  have hcl := opc_len ops M
  refine WA_forW (n := N) (fun c s => ∃ i, c + i = N ∧ ((i = 0 ∧ s = ⟨m2S n 0, [(11, [dcells M (opG ops)]), (5, [[fI N, .sl 11 0 0 M 4 (M * 4), .nil]]), (0, [mTop])]⟩) ∨ (0 < i ∧ s = ⟨m2S n i, [(29, [rowIV (mkOutL n M i)]), (11, [dcells M (opG ops)]), (5, [[fI N, .sl 11 0 0 M 4 (M * 4), .sl 29 0 0 i 1 i]]), (0, [mTop])]⟩))) (Le.refl _) ⟨0, rfl, .inl ⟨rfl, rfl⟩⟩ ?_
  have hmm : (if (M : Int) < 3 then (M : Int) else 3) = ((min 3 M : Nat) : Int) := by split <;> omega
  have wM : IntKind.i64.wrap ((M : Int) - 1) = (M : Int) - 1 := wrapI (by omega) (by omega)
  rintro c s ⟨i, hc, ⟨rfl, rfl⟩ | ⟨hi, rfl⟩⟩
  · refine evx @A_l3_Make_L2.eq_1 ?_
    have h0 : decide ((0 : Int) < (N : Int)) = true := by simp; omega
    refine evx (And.intro h0 (And.intro wM hmm)) ?_
    refine ⟨by decide, ?_⟩
    refine callSG_con (l3_within_con (IntKind.i64.wrap (IntKind.i64.wrap (n.tdiv 3) + 0)) (min 3 M : Nat) (by omega) (by omega)) rfl ?_
    have u1 := Int.emod_nonneg (IntKind.i64.wrap (IntKind.i64.wrap (n.tdiv 3) + 0)) (by omega : ((min 3 M : Nat) : Int) ≠ 0)
    have u2 := Int.emod_lt_of_pos (IntKind.i64.wrap (IntKind.i64.wrap (n.tdiv 3) + 0)) (by omega : (0 : Int) < ((min 3 M : Nat) : Int))
    have hmo : mkOut n M 0 = (M : Int) - 1 - IntKind.i64.wrap (IntKind.i64.wrap (n.tdiv 3) + 0) % ((min 3 M : Nat) : Int) := rfl
    have wu : IntKind.i64.wrap ((M : Int) - 1 - IntKind.i64.wrap (IntKind.i64.wrap (n.tdiv 3) + 0) % ((min 3 M : Nat) : Int)) = mkOut n M 0 := by rw [hmo]; exact wrapI (by omega) (by omega)
    refine evx wu ?_
    rw [show IntKind.i64.wrap 1 = ((0 + 1 : Nat) : Int) from by decide]
    exact ⟨c - 1, _, by omega, LeT.only (L' := [(29, [rowIV (mkOutL n M (0 + 1))]), (11, [dcells M (opG ops)]), (5, [[fI N, .sl 11 0 0 M 4 (M * 4), .sl 29 0 0 (0 + 1) 1 (0 + 1)]]), (0, [mTop])]) (fun X => X != 28) (fun _ h => h) rfl (by simp [kpS]) (by simp [kpS]), 0 + 1, by omega, .inr ⟨by omega, rfl⟩⟩
  · have hol := mkOutL_len n M i
    refine evx @A_l3_Make_L2.eq_1 ?_
    refine condC_intro (fun h => ?_) (fun h => ?_)
    · replace h := of_decide_eq_true h
      refine evx (And.intro wM hmm) ?_
      refine ⟨by decide, ?_⟩
      refine callSG_con (l3_within_con (IntKind.i64.wrap (IntKind.i64.wrap (n.tdiv 3) + (i : Int))) (min 3 M : Nat) (by omega) (by omega)) rfl ?_
      have u1 := Int.emod_nonneg (IntKind.i64.wrap (IntKind.i64.wrap (n.tdiv 3) + (i : Int))) (by omega : ((min 3 M : Nat) : Int) ≠ 0)
      have u2 := Int.emod_lt_of_pos (IntKind.i64.wrap (IntKind.i64.wrap (n.tdiv 3) + (i : Int))) (by omega : (0 : Int) < ((min 3 M : Nat) : Int))
      have hmo : mkOut n M i = (M : Int) - 1 - IntKind.i64.wrap (IntKind.i64.wrap (n.tdiv 3) + (i : Int)) % ((min 3 M : Nat) : Int) := rfl
      have wu : IntKind.i64.wrap ((M : Int) - 1 - IntKind.i64.wrap (IntKind.i64.wrap (n.tdiv 3) + (i : Int)) % ((min 3 M : Nat) : Int)) = mkOut n M i := by rw [hmo]; exact wrapI (by omega) (by omega)
      refine evx wu ?_
      (repeat (with_reducible refine And.intro (by omega) ?_))
      have e1 := mkOutL_succ n M i
      rw [wrapI (by omega) (by omega), e1]
      exact ⟨c - 1, _, by omega, LeT.only (fun X => decide (X ≤ 29)) (fun _ h => h) rfl (by simp [kpS]) (by simp [kpS]), i + 1, by omega, .inr ⟨by omega, rfl⟩⟩
    · replace h := of_decide_eq_false h
      have e : i = N := by omega
      subst e
      refine ev ?_
      exact hQ _
set_option maxRecDepth 8000 in
theorem l3_Make_con (n : Int) (ns : List Int) (div : Bool) (hns : ns.length < 2 ^ 62) : Con Tryz.prog 23 [fI n, .d (rowI ns), fB div] (tapeV (mkT n ns div)) := by
  have m1 := Int.emod_nonneg n (by decide : (3 : Int) ≠ 0)
  have m2 := Int.emod_lt_of_pos n (by decide : (0 : Int) < 3)
  refine Con_introA A_l3_Make_comp rfl mixed ?_
  refine evx @A_l3_Make.eq_1 ?_
  refine callG_con (l3_within_con n 3 (by decide) (by decide)) rfl ?_
  obtain ⟨N, hN⟩ : ∃ N : Nat, N = (n % 3).toNat + 1 := ⟨_, rfl⟩
  have w1 : IntKind.i64.wrap (1 + n % 3) = (N : Int) := by rw [wrapI (by omega) (by omega)]; omega
  refine evx w1 ?_
  refine make3_L0 n ns div N (by omega) _ fun w => ?_
  have hl := opc_len (varOps N) N
  refine ev ?_
  refine callSG_con (l3_within_con n 17 (by decide) (by decide)) rfl ?_
  have r1 := Int.emod_nonneg n (by decide : (17 : Int) ≠ 0)
  have r2 := Int.emod_lt_of_pos n (by decide : (0 : Int) < 17)
  have w2 : IntKind.i64.wrap (n % 17 - 8) = n % 17 - 8 := wrapI (by omega) (by omega)
  refine evx w2 ?_
  (repeat (with_reducible refine And.intro (by omega) ?_))
  have e := opc_succ (varOps N) ⟨0, 0, 0, fop .div (FloatKind.nearest .f64 (n % 17 - 8)) 4616189618054758400⟩ N (varOps_len N)
  simp only [] at e
  rw [e]
  have e4 : N * 4 + 4 = (N + 1 + 0) * 4 := by omega
  rw [e4]
  refine WA_le (s' := m1T n ns div N 0) (LeT.only (fun X => X == 11 || X == 5 || X == 0) (fun _ h => h) rfl (by simp [kpS]) (by simp [kpS])) ?_
  refine make3_L1 n ns div N (by omega) hns _ fun w => ?_
  obtain ⟨M, hM⟩ : ∃ M, M = N + 1 + min ns.length 8 := ⟨_, rfl⟩
  have hol := mkOps_len n ns div N (min ns.length 8)
  rw [← hM] at hol
  simp only [← hM]
  have hT : mkT n ns div = ⟨N, mkOps n ns div N (min ns.length 8), mkOutL n M N⟩ := by unfold mkT mkOutL; rw [← hN, hM]
  rw [hT]
  generalize mkOps n ns div N (min ns.length 8) = ops at hol
  refine ev ?_
  refine make3_L2 n N M ops hol (by omega) (by omega) _ fun w => ?_
  have hul := mkOutL_len n M N
  refine ev ?_
  refine endsT_le (.agg [fI N, .sl 11 0 0 M 4 (M * 4), .sl 29 0 0 N 1 N]) (fun _ h => h) (resV_cellI (by decide) rfl rfl rfl (by simp) rfl) (LeV.agg3 (.d (.d _)) (.d ?_) (.d ?_))
  · unfold opsD
    rw [hol]
    exact snapF_data (esz := 4) (fun Y q h => by simp [get_nil] at h) (by simp [get_cons]) (fun _ _ => rfl) rfl
  · exact snap_rowI (fun Y q h => by simp [get_nil] at h) (by simp [get_cons]) hul rfl
theorem mkT_n (n : Int) (ns : List Int) (div : Bool) : (mkT n ns div).n = (n % 3).toNat + 1 := rfl
theorem mkOps_ok (n : Int) (ns : List Int) (div : Bool) (N i : Nat) : ∀ j, j < N + 1 + i → Oko' ((mkOps n ns div N i).getD j ⟨0, 0, 0, 0⟩) j N := by
  induction i with
  | zero =>
    intro j hj
    have hl := varOps_len N
    unfold mkOps baseOps
    by_cases h : j < N
    · rw [List.getD_eq_getElem?_getD, List.getElem?_append_left (by omega)]
      have : (varOps N)[j]? = some ⟨1, j, 0, 0⟩ := by simp [varOps, h]
      rw [this]
      exact .inr (.inl ⟨rfl, by simp, by simpa using h⟩)
    · obtain rfl : j = N := by omega
      rw [List.getD_eq_getElem?_getD, List.getElem?_append_right (by omega), hl, Nat.sub_self]
      exact .inl rfl
  | succ i ih =>
    intro j hj
    have hl := mkOps_len n ns div N i
    unfold mkOps
    by_cases h : j < N + 1 + i
    · have := ih j h
      rw [List.getD_eq_getElem?_getD] at this ⊢
      rwa [List.getElem?_append_left (by omega)]
    · obtain rfl : j = N + 1 + i := by omega
      rw [List.getD_eq_getElem?_getD, List.getElem?_append_right (by omega), hl, Nat.sub_self]
      show Oko' (mkOp ns div (N + 1 + i) i) (N + 1 + i) N
      unfold mkOp
      simp only
      split
      · exact .inl rfl
      · have a1 := Int.emod_nonneg (IntKind.i64.wrap ((ns.getD i 0).tdiv 4)) (by omega : ((N + 1 + i : Nat) : Int) ≠ 0)
        have a2 := Int.emod_lt_of_pos (IntKind.i64.wrap ((ns.getD i 0).tdiv 4)) (by omega : (0 : Int) < ((N + 1 + i : Nat) : Int))
        have b1 := Int.emod_nonneg (IntKind.i64.wrap ((ns.getD i 0).tdiv 40)) (by omega : ((N + 1 + i : Nat) : Int) ≠ 0)
        have b2 := Int.emod_lt_of_pos (IntKind.i64.wrap ((ns.getD i 0).tdiv 40)) (by omega : (0 : Int) < ((N + 1 + i : Nat) : Int))
        have c1 := Int.emod_nonneg (ns.getD i 0) (by decide : (3 : Int) ≠ 0)
        have c2 := Int.emod_lt_of_pos (ns.getD i 0) (by decide : (0 : Int) < 3)
        refine .inr (.inr ⟨?_, ⟨a1, a2⟩, b1, b2⟩)
        simp only
        split <;> omega
theorem mkT_ok (n : Int) (ns : List Int) (div : Bool) : Tok (mkT n ns div) := by
  have m1 := Int.emod_nonneg n (by decide : (3 : Int) ≠ 0)
  have m2 := Int.emod_lt_of_pos n (by decide : (0 : Int) < 3)
  have hl := mkOps_len n ns div ((n % 3).toNat + 1) (min ns.length 8)
  refine ⟨?_, ?_, ?_, ?_, ?_⟩
  · rw [mkT_n]; omega
  · show (mkOps n ns div ((n % 3).toNat + 1) (min ns.length 8)).length < 2 ^ 40
    omega
  · intro i hi
    have hi' : i < (mkOps n ns div ((n % 3).toNat + 1) (min ns.length 8)).length := hi
    exact mkOps_ok n ns div ((n % 3).toNat + 1) (min ns.length 8) i (by omega)
  · simp [mkT]
  · intro i hi
    rw [mkT_n] at hi
    have hx : (mkT n ns div).out.getD i 0 = mkOut n ((n % 3).toNat + 1 + 1 + min ns.length 8) i := by
      unfold mkT
      simp only
      rw [List.getD_eq_getElem?_getD, List.getElem?_map, List.getElem?_range hi]; rfl
    rw [hx]
    show _ ∧ _ < ((mkOps n ns div ((n % 3).toNat + 1) (min ns.length 8)).length : Int)
    rw [hl]
    have hM : 2 ≤ (n % 3).toNat + 1 + 1 + min ns.length 8 := by omega
    generalize (n % 3).toNat + 1 + 1 + min ns.length 8 = M at hM
    have u1 := Int.emod_nonneg (IntKind.i64.wrap (IntKind.i64.wrap (n.tdiv 3) + (i : Int))) (by omega : ((min 3 M : Nat) : Int) ≠ 0)
    have u2 := Int.emod_lt_of_pos (IntKind.i64.wrap (IntKind.i64.wrap (n.tdiv 3) + (i : Int))) (by omega : (0 : Int) < ((min 3 M : Nat) : Int))
    unfold mkOut
    omega
def A_l10_within : CA := (.seq (.reg [i_K 0 4 0] [0, 1]) (.seq (.reg [i_M 0 6 0, i_M 1 7 1, i_N 2 8 .rem 6 7, i_M 3 5 8] [1, 5]) (.seq (.seq (.reg [i_M 0 9 5, i_B 1 10 .lss 9 0] [1, 5, 10]) (.cond (.t 10) (.reg [i_M 0 11 5, i_M 1 12 1, i_N 2 13 .add 11 12, i_M 3 5 13] [5]) .skip)) (.seq (.reg [i_M 0 14 5, i_M 1 4 14] [4]) .ret))))
theorem A_l10_within_comp : compF Tryz.prog 25 = some ⟨15, [(4, none)], A_l10_within.strip⟩ := by kernel_rfl
def A_l10_Begin : CA := (.seq (.reg [i_X 0 1 (.box (.t 0) 13 33), i_X 1 2 (.alloc [(.d (.int .i64 0)), (.d (.int .i64 0)), (.d (.int .i64 0)), (.d (.int .i64 0)), .nil, (.d (.int .i64 0)), (.d (.int .i64 0)), (.d (.int .i64 0))] 39)] [1, 2]) (.seq (.reg [i_P 0 3 1 0, i_A 1 4 3 3, i_P 2 5 1 4, i_L 3 6 5 1, i_P 4 7 1 6, i_L 5 8 7 1, i_X 6 9 (.callA (kF 26) [(.t 4), (.t 6), (.t 8)]), i_X 7 10 (.h (.build [(.d (.int .i64 0)), (.d (.int .i64 0)), (.d (.int .i64 0)), (.d (.int .i64 0)), .nil, (.d (.int .i64 0)), (.d (.int .i64 0)), (.d (.int .i64 0))] [(0, (5, (.t 9)))])), i_S 8 2 10 8] [2]) .ret))
theorem A_l10_Begin_comp : compF Tryz.prog 14 = some ⟨11, [(2, (some (8, true)))], A_l10_Begin.strip⟩ := by kernel_rfl
def A_l10_Shape_Few : CA := (.seq (.reg [i_X 0 1 (.box (.t 0) 9 24), i_X 1 2 (.h (.mov (.k (.d (.bool false)))))] [1]) (.seq (.reg [i_P 0 3 1 5, i_L 1 4 3 1, i_X 2 5 (.h (.len (.t 4))), i_B 3 6 .leq 5 60, i_M 4 7 6, ⟨5, (some 8), (some (7, true)), [], [], (.h (.padd (.t 1) 6))⟩, ⟨6, (some 9), (some (7, true)), [], [], (.load (.t 8) 1 false)⟩, ⟨7, (some 10), (some (7, true)), [], [], (.h (.len (.t 9)))⟩, ⟨8, (some 11), (some (7, true)), [], [], (.h (.ibin .leq (.t 10) (kI 60)))⟩, i_X 9 12 (.h (.pick (.t 7) (.t 11) (.k (.d (.bool false))))), i_M 10 13 12, ⟨11, (some 14), (some (13, true)), [], [], (.h (.padd (.t 1) 7))⟩, ⟨12, (some 15), (some (13, true)), [], [], (.load (.t 14) 1 false)⟩, ⟨13, (some 16), (some (13, true)), [], [], (.h (.len (.t 15)))⟩, ⟨14, (some 17), (some (13, true)), [], [], (.h (.ibin .leq (.t 16) (kI 60)))⟩, i_X 15 18 (.h (.pick (.t 13) (.t 17) (.k (.d (.bool false))))), i_M 16 2 18] [2]) .ret))
theorem A_l10_Shape_Few_comp : compF Tryz.prog 12 = some ⟨19, [(2, none)], A_l10_Shape_Few.strip⟩ := by kernel_rfl
def A_l3_Values_L0 : CA := (.seq (.seq (.reg [i_M 0 8 6, i_M 1 9 0, i_N 2 10 .lss 8 9] [0, 1, 5, 6, 10]) (.cond (.t 10) .skip (.exit 0))) (.seq (.block 1 (.seq (.reg [i_M 0 13 6, i_M 1 7 13] [0, 1, 5, 6, 7]) (.seq (.seq (.reg [i_M 0 14 6, i_M 1 15 1, i_X 2 16 (.h (.len (.t 15))), i_N 3 17 .lss 14 16] [0, 1, 5, 6, 7, 17]) (.cond (.t 17) (.reg [i_M 0 18 1, i_M 1 19 6, i_I 2 20 18 19 1, i_L 3 21 20 1, i_M 4 7 21] [0, 1, 5, 6, 7]) .skip)) (.reg [i_M 0 22 5, i_M 1 23 7, i_X 2 24 (.callA (kF 59) [(.t 23), (kI 65)]), i_B 3 25 .sub 24 32, i_X 4 26 (.h (.i2f (.t 25))), i_X 5 27 (.h (.fbin .div (.t 26) (.k (.d (.flt 4620693217682128896))))), i_X 6 28 (.bslice [(.d (.flt 0))] 1 1 [(0, (1, (.t 27)))] 31), i_X 7 29 (.app (.t 22) (.t 28) 1 8), i_M 8 5 29] [0, 1, 5, 6])))) (.reg [i_M 0 11 6, i_B 1 12 .add 11 1, i_M 2 6 12] [0, 1, 5, 6])))
def A_l3_Values : CA := (.seq (.reg [i_X 0 4 (.h (.mov (.k .nil)))] [0, 1]) (.seq (.reg [i_X 0 5 (.h (.mov (.k .nil)))] [0, 1, 5]) (.seq (.seq (.reg [i_K 0 6 0] [0, 1, 5, 6]) (.block 0 (.loop A_l3_Values_L0))) (.seq (.reg [i_M 0 30 5, i_M 1 4 30] [4]) .ret))))
theorem A_l3_Values_comp : compF Tryz.prog 24 = some ⟨31, [(4, none)], A_l3_Values.strip⟩ := by kernel_rfl
theorem l10_within_con (a n : Int) (hn : 0 < n) (hn2 : n < 2 ^ 62) : Con Tryz.prog 25 [fI a, fI n] (fI (a % n)) := by
  rw [← tmod_fix a n hn]
  refine Con_introA A_l10_within_comp rfl mixed ?_
  refine evx @A_l10_within.eq_1 ?_
  refine ⟨by omega, ?_⟩
  have h1 := Int.tmod_lt_of_pos a hn
  have h6 := Int.lt_tmod_of_pos a hn
  refine condC_intro (fun h => ?_) (fun h => ?_)
  · refine ev ?_
    replace h := of_decide_eq_true h
    rw [wrapI (by omega) (by omega), if_pos h]
    exact endsT_rett rfl (by decide) (by simp [look])
  · replace h := of_decide_eq_false h
    refine ev ?_
    rw [if_neg h]
    exact endsT_rett rfl (by decide) (by simp [look])
set_option maxRecDepth 8000 in
theorem l10_Begin_con (p : Pb) (hp : Pok p) (j : Nat) (hj : j < 60) (hf : p.first = (2 ^ j : Nat)) (hy : p.y.length = p.t.n) : Con Tryz.prog 14 [pbV p] (staV ⟨⟨0, p.first, 1, 0, startZ p.t p.y (hW (2 ^ j))⟩, 0, 0, 0⟩) := by
  refine Con_introA A_l10_Begin_comp rfl mixed ?_
  refine evx @A_l10_Begin.eq_1 ?_
  rw [hf]
  refine callG_con (r8_Start_con p.t p.y j hp.t hy hj) rfl ?_
  refine ev ?_
  exact endsT_retm rfl (by decide) rfl rfl rfl (by simp) rfl
abbrev shC (n first least tol fin : Int) (ns ms outs : List Int) (dv : Bool) : List V := [fI n, fI first, fI least, fI tol, fI fin, .d (rowI ns), .d (rowI ms), .d (rowI outs), fB dv]
set_option maxRecDepth 8000 in
theorem l10_Few_con (n first least tol fin : Int) (ns ms outs : List Int) (dv : Bool) : Con Tryz.prog 12 [.agg (shC n first least tol fin ns ms outs dv)] (fB (decide (ns.length ≤ 60 ∧ ms.length ≤ 60 ∧ outs.length ≤ 60))) := by
  refine Con_introA A_l10_Shape_Few_comp rfl mixed ?_
  refine evx @A_l10_Shape_Few.eq_1 ?_
  by_cases h1 : ns.length ≤ 60
  · by_cases h2 : ms.length ≤ 60
    · by_cases h3 : outs.length ≤ 60
      · have k1 : decide ((ns.length : Int) ≤ 60) = true := decide_eq_true (by omega)
        have k2 : decide ((ms.length : Int) ≤ 60) = true := decide_eq_true (by omega)
        have k3 : decide ((outs.length : Int) ≤ 60) = true := decide_eq_true (by omega)
        refine evx (And.intro k1 (And.intro k2 k3)) ?_
        rw [decide_eq_true ⟨h1, h2, h3⟩]
        exact endsT_rett rfl (by decide) (by simp [look])
      · have k1 : decide ((ns.length : Int) ≤ 60) = true := decide_eq_true (by omega)
        have k2 : decide ((ms.length : Int) ≤ 60) = true := decide_eq_true (by omega)
        have k3 : decide ((outs.length : Int) ≤ 60) = false := decide_eq_false (by omega)
        refine evx (And.intro k1 (And.intro k2 k3)) ?_
        rw [decide_eq_false (fun h => h3 h.2.2)]
        exact endsT_rett rfl (by decide) (by simp [look])
    · have k1 : decide ((ns.length : Int) ≤ 60) = true := decide_eq_true (by omega)
      have k2 : decide ((ms.length : Int) ≤ 60) = false := decide_eq_false (by omega)
      refine evx (And.intro k1 k2) ?_
      rw [decide_eq_false (fun h => h2 h.2.1)]
      exact endsT_rett rfl (by decide) (by simp [look])
  · have k1 : decide ((ns.length : Int) ≤ 60) = false := decide_eq_false (by omega)
    refine evx k1 ?_
    rw [decide_eq_false (fun h => h1 h.1)]
    exact endsT_rett rfl (by decide) (by simp [look])
def valN (k : Int) : Nat := fop .div (FloatKind.nearest .f64 (k % 65 - 32)) 4620693217682128896
def valsL (n : Nat) (ms : List Int) : List Nat := tabR (fun i => valN (if i < ms.length then ms.getD i 0 else i)) n
set_option maxRecDepth 8000 in
theorem l3_Values_con (n : Nat) (ms : List Int) (hn : n < 1000) (hms : ms.length < 2 ^ 62) : Con Tryz.prog 24 [fI n, .d (rowI ms)] (.d (rowD (valsL n ms))) := by
  have numw : ∀ k : Int, IntKind.i64.wrap (k % 65 - 32) = k % 65 - 32 := by
    intro k
    have h1 := Int.emod_nonneg k (by decide : (65 : Int) ≠ 0)
    have h2 := Int.emod_lt_of_pos k (by decide : (0 : Int) < 65)
    exact wrapI (by omega) (by omega)
  refine Con_of_row (X := 100) (n := n) ?_ (tabR_len _ _)
  refine AC_introA A_l3_Values_comp rfl mixed (fun _ => False) (by simp [get_nil]) ?_
  refine evx @A_l3_Values.eq_1 ?_
  unfold valsL
  refine WA_forW (n := n) (fun c s => ∃ i, c + i = n ∧ s = ⟨[(0, fI n), (1, .d (rowI ms)), (5, .sl 100 0 0 i 1 i), (6, fI i)], [(100, [rowV (tabR (fun i => valN (if i < ms.length then ms.getD i 0 else i)) i)])]⟩)
    (s0 := ⟨_, _⟩) (LeT.nilrow (X := 100) (esz := 1) (as' := [(0, fI n), (1, .d (rowI ms)), (5, .sl 100 0 0 0 1 0), (6, fI 0)]) rfl (fun h => h) fun i => ?_) ⟨0, by omega, rfl⟩ ?_
  · simp only [look]
    repeat' split
    all_goals simp [rowI]
  rintro c s ⟨i, hc, rfl⟩
  have hl := tabR_len (fun i => valN (if i < ms.length then ms.getD i 0 else i)) i
  refine evx @A_l3_Values_L0.eq_1 ?_
  refine condC_intro (fun h => ?_) (fun h => ?_)
  · replace h := of_decide_eq_true h
    refine ev ?_
    have e := tabR_succ (fun i => valN (if i < ms.length then ms.getD i 0 else i)) i
    refine condC_intro (fun h3 => ?_) (fun h3 => ?_)
    · replace h3 := of_decide_eq_true h3
      refine ev ?_
      (repeat (with_reducible refine And.intro (by omega) ?_))
      refine callG_con (l3_within_con (ms.getD i 0) 65 (by decide) (by decide)) rfl ?_
      refine evx numw ?_
      (repeat (with_reducible refine And.intro (by omega) ?_))
      have e2 : V.d (.flt (fop .div (FloatKind.nearest .f64 (ms.getD i 0 % 65 - 32)) 4620693217682128896)) = fl (valN (if i < ms.length then ms.getD i 0 else i)) := by rw [if_pos h3]; rfl
      rw [wrapI (by omega) (by omega), e2, ← e]
      exact ⟨c - 1, _, by omega, LeT.only (fun X => decide (X ≤ 100)) (fun _ h => h) rfl (by simp [kpS]) (by simp [kpS]), i + 1, by omega, rfl⟩
    · replace h3 := of_decide_eq_false h3
      refine ev ?_
      refine callG_con (l3_within_con i 65 (by decide) (by decide)) rfl ?_
      refine evx numw ?_
      (repeat (with_reducible refine And.intro (by omega) ?_))
      have e2 : V.d (.flt (fop .div (FloatKind.nearest .f64 ((i : Int) % 65 - 32)) 4620693217682128896)) = fl (valN (if i < ms.length then ms.getD i 0 else i)) := by rw [if_neg (by omega)]; rfl
      rw [wrapI (by omega) (by omega), e2, ← e]
      exact ⟨c - 1, _, by omega, LeT.only (fun X => decide (X ≤ 100)) (fun _ h => h) rfl (by simp [kpS]) (by simp [kpS]), i + 1, by omega, rfl⟩
  · replace h := of_decide_eq_false h
    have e : i = n := by omega
    subst e
    refine ev ?_
    exact endsT_row (fun _ h => h) (resV_tmpI (t := 4) (by decide) rfl) rfl
end Go.Ab
