/- The document's solving. -/
import Derived.Test.YtdckmpaakheppaaLG
namespace Go.Ab
set_option linter.unusedSimpArgs false
set_option linter.unusedVariables false
open Go Go.Proofs
def A_r6_Solve_L0 : CA := (.seq (.seq (.reg [⟨0, (some 18), none, [], [], (.h (.mov (.t 7)))⟩, ⟨1, (some 19), none, [], [], (.h (.mov (.t 5)))⟩, ⟨2, (some 20), none, [], [], (.h (.ibin .lss (.t 18) (.t 19)))⟩] [1, 2, 5, 6, 7, 20]) (.cond (.t 20) .skip (.exit 0))) (.seq (.block 1 (.reg [⟨0, (some 23), none, [], [], (.h (.mov (.t 6)))⟩, ⟨1, (some 24), none, [], [], (.h (.mov (.t 7)))⟩, ⟨2, (some 25), none, [], [], (.h (.mov (.t 1)))⟩, ⟨3, (some 26), none, [], [], (.h (.padd (.t 2) 1))⟩, ⟨4, (some 27), none, [], [], (.load (.t 26) 1 false)⟩, ⟨5, (some 28), none, [], [], (.h (.mov (.t 7)))⟩, ⟨6, (some 29), none, [], [], (.h (.idx (.t 27) (.t 28) 1))⟩, ⟨7, (some 30), none, [], [], (.load (.t 29) 1 false)⟩, ⟨8, (some 31), none, [], [], (.h (.idx (.t 25) (.t 30) 1))⟩, ⟨9, (some 32), none, [], [], (.load (.t 31) 1 false)⟩, ⟨10, (some 33), none, [], [], (.h (.idx (.t 23) (.t 24) 1))⟩, ⟨11, none, none, [], [], (.store (.t 33) (.t 32) 1)⟩] [1, 2, 5, 6, 7])) (.reg [⟨0, (some 21), none, [], [], (.h (.mov (.t 7)))⟩, ⟨1, (some 22), none, [], [], (.h (.ibin .add (.t 21) (.k (.d (.int .i64 1)))))⟩, ⟨2, (some 7), none, [], [], (.h (.mov (.t 22)))⟩] [1, 2, 5, 6, 7])))
def A_r6_Solve_L2 : CA := (.seq (.seq (.reg [⟨0, (some 39), none, [], [], (.h (.mov (.t 9)))⟩, ⟨1, (some 40), none, [], [], (.h (.mov (.t 8)))⟩, ⟨2, (some 41), none, [], [], (.h (.ibin .lss (.t 39) (.t 40)))⟩] [2, 5, 6, 8, 9, 41]) (.cond (.t 41) .skip (.exit 4))) (.seq (.block 5 (.seq (.reg [⟨0, (some 44), none, [], [], (.h (.padd (.t 2) 0))⟩, ⟨1, (some 45), none, [], [], (.load (.t 44) 1 false)⟩, ⟨2, (some 46), none, [], [], (.h (.mov (.t 8)))⟩, ⟨3, (some 47), none, [], [], (.h (.idx (.t 45) (.t 46) 1))⟩, ⟨4, (some 48), none, [], [], (.load (.t 47) 1 false)⟩, ⟨5, (some 49), none, [], [], (.h (.mov (.t 9)))⟩, ⟨6, (some 50), none, [], [], (.h (.idx (.t 48) (.t 49) 1))⟩, ⟨7, (some 51), none, [], [], (.load (.t 50) 1 false)⟩, ⟨8, (some 52), none, [], [], (.h (.mov (.t 6)))⟩, ⟨9, (some 53), none, [], [], (.h (.mov (.t 9)))⟩, ⟨10, (some 54), none, [], [], (.h (.idx (.t 52) (.t 53) 1))⟩, ⟨11, (some 55), none, [], [], (.load (.t 54) 1 false)⟩, ⟨12, (some 56), none, [], [], (.h (.fbin .mul (.t 51) (.t 55)))⟩, ⟨13, (some 10), none, [], [], (.h (.mov (.t 56)))⟩] [2, 5, 6, 8, 9, 10]) (.reg [⟨0, (some 57), none, [], [], (.h (.mov (.t 6)))⟩, ⟨1, (some 58), none, [], [], (.h (.mov (.t 8)))⟩, ⟨2, (some 59), none, [], [], (.h (.mov (.t 6)))⟩, ⟨3, (some 60), none, [], [], (.h (.mov (.t 8)))⟩, ⟨4, (some 61), none, [], [], (.h (.idx (.t 59) (.t 60) 1))⟩, ⟨5, (some 62), none, [], [], (.load (.t 61) 1 false)⟩, ⟨6, (some 63), none, [], [], (.h (.mov (.t 10)))⟩, ⟨7, (some 64), none, [], [], (.h (.fbin .sub (.t 62) (.t 63)))⟩, ⟨8, (some 65), none, [], [], (.h (.idx (.t 57) (.t 58) 1))⟩, ⟨9, none, none, [], [], (.store (.t 65) (.t 64) 1)⟩] [2, 5, 6, 8, 9]))) (.reg [⟨0, (some 42), none, [], [], (.h (.mov (.t 9)))⟩, ⟨1, (some 43), none, [], [], (.h (.ibin .add (.t 42) (.k (.d (.int .i64 1)))))⟩, ⟨2, (some 9), none, [], [], (.h (.mov (.t 43)))⟩] [2, 5, 6, 8, 9])))
def A_r6_Solve_L1 : CA := (.seq (.seq (.reg [⟨0, (some 34), none, [], [], (.h (.mov (.t 8)))⟩, ⟨1, (some 35), none, [], [], (.h (.mov (.t 5)))⟩, ⟨2, (some 36), none, [], [], (.h (.ibin .lss (.t 34) (.t 35)))⟩] [2, 5, 6, 8, 36]) (.cond (.t 36) .skip (.exit 2))) (.seq (.block 3 (.seq (.reg [⟨0, (some 9), none, [], [], (.h (.mov (.k (.d (.int .i64 0)))))⟩] [2, 5, 6, 8, 9]) (.block 4 (.loop A_r6_Solve_L2)))) (.reg [⟨0, (some 37), none, [], [], (.h (.mov (.t 8)))⟩, ⟨1, (some 38), none, [], [], (.h (.ibin .add (.t 37) (.k (.d (.int .i64 1)))))⟩, ⟨2, (some 8), none, [], [], (.h (.mov (.t 38)))⟩] [2, 5, 6, 8])))
def A_r6_Solve_L4 : CA := (.seq (.seq (.reg [⟨0, (some 72), none, [], [], (.h (.mov (.t 12)))⟩, ⟨1, (some 73), none, [], [], (.h (.mov (.t 5)))⟩, ⟨2, (some 74), none, [], [], (.h (.ibin .lss (.t 72) (.t 73)))⟩] [2, 5, 6, 11, 12, 74]) (.cond (.t 74) .skip (.exit 8))) (.seq (.block 9 (.seq (.reg [⟨0, (some 77), none, [], [], (.h (.padd (.t 2) 0))⟩, ⟨1, (some 78), none, [], [], (.load (.t 77) 1 false)⟩, ⟨2, (some 79), none, [], [], (.h (.mov (.t 11)))⟩, ⟨3, (some 80), none, [], [], (.h (.ibin .sub (.t 79) (.k (.d (.int .i64 1)))))⟩, ⟨4, (some 81), none, [], [], (.h (.idx (.t 78) (.t 80) 1))⟩, ⟨5, (some 82), none, [], [], (.load (.t 81) 1 false)⟩, ⟨6, (some 83), none, [], [], (.h (.mov (.t 12)))⟩, ⟨7, (some 84), none, [], [], (.h (.idx (.t 82) (.t 83) 1))⟩, ⟨8, (some 85), none, [], [], (.load (.t 84) 1 false)⟩, ⟨9, (some 86), none, [], [], (.h (.mov (.t 6)))⟩, ⟨10, (some 87), none, [], [], (.h (.mov (.t 12)))⟩, ⟨11, (some 88), none, [], [], (.h (.idx (.t 86) (.t 87) 1))⟩, ⟨12, (some 89), none, [], [], (.load (.t 88) 1 false)⟩, ⟨13, (some 90), none, [], [], (.h (.fbin .mul (.t 85) (.t 89)))⟩, ⟨14, (some 13), none, [], [], (.h (.mov (.t 90)))⟩] [2, 5, 6, 11, 12, 13]) (.reg [⟨0, (some 91), none, [], [], (.h (.mov (.t 6)))⟩, ⟨1, (some 92), none, [], [], (.h (.mov (.t 11)))⟩, ⟨2, (some 93), none, [], [], (.h (.ibin .sub (.t 92) (.k (.d (.int .i64 1)))))⟩, ⟨3, (some 94), none, [], [], (.h (.mov (.t 6)))⟩, ⟨4, (some 95), none, [], [], (.h (.mov (.t 11)))⟩, ⟨5, (some 96), none, [], [], (.h (.ibin .sub (.t 95) (.k (.d (.int .i64 1)))))⟩, ⟨6, (some 97), none, [], [], (.h (.idx (.t 94) (.t 96) 1))⟩, ⟨7, (some 98), none, [], [], (.load (.t 97) 1 false)⟩, ⟨8, (some 99), none, [], [], (.h (.mov (.t 13)))⟩, ⟨9, (some 100), none, [], [], (.h (.fbin .sub (.t 98) (.t 99)))⟩, ⟨10, (some 101), none, [], [], (.h (.idx (.t 91) (.t 93) 1))⟩, ⟨11, none, none, [], [], (.store (.t 101) (.t 100) 1)⟩] [2, 5, 6, 11, 12]))) (.reg [⟨0, (some 75), none, [], [], (.h (.mov (.t 12)))⟩, ⟨1, (some 76), none, [], [], (.h (.ibin .add (.t 75) (.k (.d (.int .i64 1)))))⟩, ⟨2, (some 12), none, [], [], (.h (.mov (.t 76)))⟩] [2, 5, 6, 11, 12])))
def A_r6_Solve_L3 : CA := (.seq (.seq (.reg [⟨0, (some 67), none, [], [], (.h (.mov (.t 11)))⟩, ⟨1, (some 68), none, [], [], (.h (.ibin .gtr (.t 67) (.k (.d (.int .i64 0)))))⟩] [2, 5, 6, 11, 68]) (.cond (.t 68) .skip (.exit 6))) (.seq (.block 7 (.seq (.seq (.reg [⟨0, (some 71), none, [], [], (.h (.mov (.t 11)))⟩, ⟨1, (some 12), none, [], [], (.h (.mov (.t 71)))⟩] [2, 5, 6, 11, 12]) (.block 8 (.loop A_r6_Solve_L4))) (.reg [⟨0, (some 102), none, [], [], (.h (.mov (.t 6)))⟩, ⟨1, (some 103), none, [], [], (.h (.mov (.t 11)))⟩, ⟨2, (some 104), none, [], [], (.h (.ibin .sub (.t 103) (.k (.d (.int .i64 1)))))⟩, ⟨3, (some 105), none, [], [], (.h (.mov (.t 6)))⟩, ⟨4, (some 106), none, [], [], (.h (.mov (.t 11)))⟩, ⟨5, (some 107), none, [], [], (.h (.ibin .sub (.t 106) (.k (.d (.int .i64 1)))))⟩, ⟨6, (some 108), none, [], [], (.h (.idx (.t 105) (.t 107) 1))⟩, ⟨7, (some 109), none, [], [], (.load (.t 108) 1 false)⟩, ⟨8, (some 110), none, [], [], (.h (.padd (.t 2) 0))⟩, ⟨9, (some 111), none, [], [], (.load (.t 110) 1 false)⟩, ⟨10, (some 112), none, [], [], (.h (.mov (.t 11)))⟩, ⟨11, (some 113), none, [], [], (.h (.ibin .sub (.t 112) (.k (.d (.int .i64 1)))))⟩, ⟨12, (some 114), none, [], [], (.h (.idx (.t 111) (.t 113) 1))⟩, ⟨13, (some 115), none, [], [], (.load (.t 114) 1 false)⟩, ⟨14, (some 116), none, [], [], (.h (.mov (.t 11)))⟩, ⟨15, (some 117), none, [], [], (.h (.ibin .sub (.t 116) (.k (.d (.int .i64 1)))))⟩, ⟨16, (some 118), none, [], [], (.h (.idx (.t 115) (.t 117) 1))⟩, ⟨17, (some 119), none, [], [], (.load (.t 118) 1 false)⟩, ⟨18, (some 120), none, [], [], (.h (.fbin .div (.t 109) (.t 119)))⟩, ⟨19, (some 121), none, [], [], (.h (.idx (.t 102) (.t 104) 1))⟩, ⟨20, none, none, [], [], (.store (.t 121) (.t 120) 1)⟩] [2, 5, 6, 11]))) (.reg [⟨0, (some 69), none, [], [], (.h (.mov (.t 11)))⟩, ⟨1, (some 70), none, [], [], (.h (.ibin .sub (.t 69) (.k (.d (.int .i64 1)))))⟩, ⟨2, (some 11), none, [], [], (.h (.mov (.t 70)))⟩] [2, 5, 6, 11])))
def A_r6_Solve : CA := (.seq (.reg [⟨0, (some 2), none, [], [], (.box (.t 0) 2 79)⟩, ⟨1, (some 4), none, [], [], (.h (.mov (.k .nil)))⟩] [1, 2]) (.seq (.reg [⟨0, (some 14), none, [], [], (.h (.mov (.t 1)))⟩, ⟨1, (some 15), none, [], [], (.h (.len (.t 14)))⟩, ⟨2, (some 5), none, [], [], (.h (.mov (.t 15)))⟩] [1, 2, 5]) (.seq (.reg [⟨0, (some 16), none, [], [], (.h (.mov (.t 5)))⟩, ⟨1, (some 17), none, [], [], (.mksl [(.d (.flt 0))] 1 8 (.t 16) (.t 16) 32)⟩, ⟨2, (some 6), none, [], [], (.h (.mov (.t 17)))⟩] [1, 2, 5, 6]) (.seq (.seq (.reg [⟨0, (some 7), none, [], [], (.h (.mov (.k (.d (.int .i64 0)))))⟩] [1, 2, 5, 6, 7]) (.block 0 (.loop A_r6_Solve_L0))) (.seq (.seq (.reg [⟨0, (some 8), none, [], [], (.h (.mov (.k (.d (.int .i64 0)))))⟩] [2, 5, 6, 8]) (.block 2 (.loop A_r6_Solve_L1))) (.seq (.seq (.reg [⟨0, (some 66), none, [], [], (.h (.mov (.t 5)))⟩, ⟨1, (some 11), none, [], [], (.h (.mov (.t 66)))⟩] [2, 5, 6, 11]) (.block 6 (.loop A_r6_Solve_L3))) (.seq (.reg [⟨0, (some 122), none, [], [], (.h (.mov (.t 6)))⟩, ⟨1, (some 4), none, [], [], (.h (.mov (.t 122)))⟩] [4]) .ret)))))))
theorem A_r6_Solve_comp : compF Try.prog 44 = some ⟨123, [(4, none)], A_r6_Solve.strip⟩ := by kernel_rfl
def gI (π : List Int) (b : List Nat) (n : Nat) : Nat → List Nat
  | 0 => List.replicate n 0
  | m + 1 => (gI π b n m).set m (b.getD (π.getD m 0).toNat 0)
def fwdR (A : List (List Nat)) (x : List Nat) : Nat → List Nat
  | 0 => x
  | m + 1 => fJ A m (fwdR A x m) m
theorem gI_len (π : List Int) (b : List Nat) (n : Nat) : ∀ m, (gI π b n m).length = n := by
  intro m; induction m with
  | zero => simp [gI]
  | succ m ih => simp [gI, ih]
theorem fwdR_len (A : List (List Nat)) (x : List Nat) : ∀ m, (fwdR A x m).length = x.length := by
  intro m; induction m with
  | zero => rfl
  | succ m ih => simp [fwdR, fJ_len, ih]
theorem gI_getD (π : List Int) (b : List Nat) (n : Nat) : ∀ m j, m ≤ n → j < m → (gI π b n m).getD j 0 = b.getD (π.getD j 0).toNat 0 := by
  intro m; induction m with
  | zero => intro j _ h; omega
  | succ m ih =>
    intro j hm hj
    have hlen := gI_len π b n m
    simp only [gI, List.getD_eq_getElem?_getD, List.getElem?_set]
    by_cases e : m = j
    · subst e; simp [hlen, show m < n from by omega]
    · have := ih j (by omega) (by omega)
      simp only [List.getD_eq_getElem?_getD] at this
      rw [if_neg e]; exact this
/-- Both go forward alike. -/
theorem fJ_agree (A : List (List Nat)) (i : Nat) (x y : List Nat) (hl : x.length = y.length) (h : ∀ j, j ≤ i → x.getD j 0 = y.getD j 0) : ∀ m, m ≤ i → ∀ j, j ≤ i → (fJ A i x m).getD j 0 = (fJ A i y m).getD j 0 := by
  intro m; induction m with
  | zero => intro _ j hj; exact h j hj
  | succ m ih =>
    intro hm j hj
    have ih := ih (by omega)
    have h1 := fJ_len A i x m
    have h2 := fJ_len A i y m
    simp only [fJ, ih i (Nat.le_refl _), ih m (by omega), List.getD_eq_getElem?_getD, List.getElem?_set]
    have := ih j hj
    simp only [List.getD_eq_getElem?_getD] at this
    by_cases e : i = j
    · subst e; simp [h1, h2, hl]
    · rw [if_neg e, if_neg e]; exact this
theorem fJ_above (A : List (List Nat)) (i : Nat) (x : List Nat) : ∀ m j, j ≠ i → (fJ A i x m).getD j 0 = x.getD j 0 := by
  intro m; induction m with
  | zero => intro j _; rfl
  | succ m ih =>
    intro j hj
    have := ih j hj
    simp only [List.getD_eq_getElem?_getD] at this
    simp only [fJ, List.getD_eq_getElem?_getD, List.getElem?_set]
    rw [if_neg (fun e => hj e.symm)]; exact this
theorem fwd_agree (A : List (List Nat)) (π : List Int) (b : List Nat) (n : Nat) : ∀ m, m ≤ n → (∀ j, j < m → (fwdI A π b n m).getD j 0 = (fwdR A (gI π b n n) m).getD j 0) ∧ (∀ j, m ≤ j → (fwdR A (gI π b n n) m).getD j 0 = (gI π b n n).getD j 0) := by
  intro m; induction m with
  | zero => intro _; exact ⟨fun j h => by omega, fun j _ => rfl⟩
  | succ m ih =>
    intro hm
    obtain ⟨h1, h2⟩ := ih (by omega)
    have hl1 := fwdI_len A π b n m
    have hl2 : (fwdR A (gI π b n n) m).length = n := by rw [fwdR_len, gI_len]
    refine ⟨fun j hj => ?_, fun j hj => ?_⟩
    · simp only [fwdI, fwdR]
      refine fJ_agree A m _ _ (by simp [hl1, hl2]) (fun j hj => ?_) m (Nat.le_refl _) j (by omega)
      by_cases e : m = j
      · subst e
        rw [h2 m (Nat.le_refl _), gI_getD π b n n m (Nat.le_refl _) (by omega)]
        simp [List.getD_eq_getElem?_getD, hl1, show m < n from by omega]
      · have := h1 j (by omega)
        simp only [List.getD_eq_getElem?_getD] at this
        simp only [List.getD_eq_getElem?_getD, List.getElem?_set]
        rw [if_neg e]; exact this
    · simp only [fwdR]
      rw [fJ_above A m _ m j (by omega)]
      exact h2 j (by omega)
theorem fwd_eq (A : List (List Nat)) (π : List Int) (b : List Nat) (n : Nat) : fwdI A π b n n = fwdR A (gI π b n n) n := by
  obtain ⟨h, _⟩ := fwd_agree A π b n n (Nat.le_refl _)
  have hl1 := fwdI_len A π b n n
  have hl2 : (fwdR A (gI π b n n) n).length = n := by rw [fwdR_len, gI_len]
  refine List.ext_getElem (by rw [hl1, hl2]) fun j h1 h2 => ?_
  have := h j (by omega)
  simpa [List.getD_eq_getElem?_getD, h1, h2] using this
set_option maxRecDepth 8000 in
theorem r6solve_L2 (N : Nat → Prop) (A : List (List Nat)) (π : List Int) (n i : Nat) (x : List Nat) (hA : Sq n A) (hx : x.length = n) (hi : i < n) (hn : n < 2 ^ 40) (Q : Ex → T → Prop)
    (hQ : ∀ v w, Q (.exit 4) ⟨[(2, .ptr 0 0 0 2), (5, fI n), (6, .sl 2 0 0 n 1 n), (8, fI i), (9, v), (41, w)], solveH A π (fJ A i x i)⟩) :
    WA Try.prog N 123 (.loop A_r6_Solve_L2) Q ⟨[(2, .ptr 0 0 0 2), (5, fI n), (6, .sl 2 0 0 n 1 n), (8, fI i), (9, fI 0)], solveH A π x⟩ := by
  obtain ⟨hl, hr⟩ := hA
  refine WA_for (n := i) (fun c s => ∃ m, c + m = i ∧ s = ⟨[(2, .ptr 0 0 0 2), (5, fI n), (6, .sl 2 0 0 n 1 n), (8, fI i), (9, fI m)], solveH A π (fJ A i x m)⟩) ⟨0, rfl, rfl⟩ ?_
  rintro c s ⟨m, hc, rfl⟩
  have hy := fJ_len A i x m
  generalize hY : fJ A i x m = y at hy
  have g1 := hr i hi
  simp -implicitDefEqProofs only [xC_skip, evS, evT, evU, hv, effC, reduceCtorEq, ↓reduceIte, Nat.reduceEqDiff, Nat.reduceAdd, Nat.reduceMul, Int.reduceToNat, Int.reduceAdd, Int.reduceSub, Int.reduceMul, Int.reduceNeg, Int.reduceLT, Int.reduceLE, Nat.reduceLT, Nat.reduceLeDiff, A_r6_Solve_L2, solveH]
  refine condC_intro (fun h => ?_) (fun h => ?_)
  · replace h := of_decide_eq_true h
    have e1 : i < y.length := by omega
    have e2 : m < y.length := by omega
    simp -implicitDefEqProofs only [xC_skip, evS, evT, evU, hv, effC, reduceCtorEq, ↓reduceIte, Nat.reduceEqDiff, Nat.reduceAdd, Nat.reduceMul, Int.reduceToNat, Int.reduceAdd, Int.reduceSub, Int.reduceMul, Int.reduceNeg, Int.reduceLT, Int.reduceLE, Nat.reduceLT, Nat.reduceLeDiff, getD_map_fl _ _ e1, getD_map_fl _ _ e2]
    (repeat (with_reducible refine And.intro (by omega) ?_))
    rw [wrapI (by omega) (by omega)]
    refine ⟨c - 1, by omega, m + 1, by omega, ?_⟩
    simp only [fJ, hY]; rfl
  · replace h := of_decide_eq_false h
    simp -implicitDefEqProofs only [xC_skip, evS, evT, evU, hv, effC, reduceCtorEq, ↓reduceIte, Nat.reduceEqDiff, Nat.reduceAdd, Nat.reduceMul, Int.reduceToNat, Int.reduceAdd, Int.reduceSub, Int.reduceMul, Int.reduceNeg, Int.reduceLT, Int.reduceLE, Nat.reduceLT, Nat.reduceLeDiff]
    obtain rfl : i = m := by omega
    rw [hY] at hQ
    exact hQ _ _
set_option maxRecDepth 8000 in
theorem r6solve_L4 (N : Nat → Prop) (A : List (List Nat)) (π : List Int) (n i : Nat) (z : Int) (x : List Nat) (hA : Sq n A) (hx : x.length = n) (hi : i < n) (hz : z = (i : Int) + 1) (hn : n < 2 ^ 40) (Q : Ex → T → Prop)
    (hQ : ∀ v w, Q (.exit 8) ⟨[(2, .ptr 0 0 0 2), (5, fI n), (6, .sl 2 0 0 n 1 n), (11, fI z), (12, v), (74, w)], solveH A π (bJ A i x (n - 1 - i))⟩) :
    WA Try.prog N 123 (.loop A_r6_Solve_L4) Q ⟨[(2, .ptr 0 0 0 2), (5, fI n), (6, .sl 2 0 0 n 1 n), (11, fI z), (12, fI (i + 1 : Nat))], solveH A π x⟩ := by
  obtain ⟨hl, hr⟩ := hA
  have hw : IntKind.i64.wrap (z - 1) = (i : Int) := by rw [wrapI (by omega) (by omega)]; omega
  refine WA_for (n := n) (fun c s => ∃ m, c + m = n ∧ i + 1 + m ≤ n ∧ s = ⟨[(2, .ptr 0 0 0 2), (5, fI n), (6, .sl 2 0 0 n 1 n), (11, fI z), (12, fI (i + 1 + m : Nat))], solveH A π (bJ A i x m)⟩) ⟨0, rfl, by omega, rfl⟩ ?_
  rintro c s ⟨m, hc, hm, rfl⟩
  have hy := bJ_len A i x m
  generalize hY : bJ A i x m = y at hy
  have g1 := hr i hi
  simp -implicitDefEqProofs only [xC_skip, evS, evT, evU, hv, effC, reduceCtorEq, ↓reduceIte, Nat.reduceEqDiff, Nat.reduceAdd, Nat.reduceMul, Int.reduceToNat, Int.reduceAdd, Int.reduceSub, Int.reduceMul, Int.reduceNeg, Int.reduceLT, Int.reduceLE, Nat.reduceLT, Nat.reduceLeDiff, A_r6_Solve_L4, solveH]
  refine condC_intro (fun h => ?_) (fun h => ?_)
  · replace h := of_decide_eq_true h
    have e1 : i < y.length := by omega
    have e2 : i + 1 + m < y.length := by omega
    simp -implicitDefEqProofs only [xC_skip, evS, evT, evU, hv, effC, reduceCtorEq, ↓reduceIte, Nat.reduceEqDiff, Nat.reduceAdd, Nat.reduceMul, Int.reduceToNat, Int.reduceAdd, Int.reduceSub, Int.reduceMul, Int.reduceNeg, Int.reduceLT, Int.reduceLE, Nat.reduceLT, Nat.reduceLeDiff, getD_map_fl _ _ e1, getD_map_fl _ _ e2, hw]
    (repeat (with_reducible refine And.intro (by omega) ?_))
    rw [wrapI (by omega) (by omega)]
    refine ⟨c - 1, by omega, m + 1, by omega, by omega, ?_⟩
    simp only [bJ, hY]; rfl
  · replace h := of_decide_eq_false h
    simp -implicitDefEqProofs only [xC_skip, evS, evT, evU, hv, effC, reduceCtorEq, ↓reduceIte, Nat.reduceEqDiff, Nat.reduceAdd, Nat.reduceMul, Int.reduceToNat, Int.reduceAdd, Int.reduceSub, Int.reduceMul, Int.reduceNeg, Int.reduceLT, Int.reduceLE, Nat.reduceLT, Nat.reduceLeDiff]
    obtain rfl : n - 1 - i = m := by omega
    rw [hY] at hQ
    exact hQ _ _
set_option maxRecDepth 8000 in
theorem r6_Solve_ac (A : List (List Nat)) (π : List Int) (b : List Nat) (n : Nat) (hA : Sq n A) (hπ : Pm n π) (hb : b.length = n) (hn : n < 2 ^ 40) :
    AC Try.prog 44 [.agg [.d (rowsD A), .d (rowI π)], .d (rowD b)] [] (solveH A π (solveP A π b n)) (.sl 2 0 0 n 1 n) := by
  obtain ⟨hl, hr⟩ := hA
  obtain ⟨hp1, hp2⟩ := hπ
  generalize hR : solveP A π b n = R
  refine AC_introA A_r6_Solve_comp rfl mixed (fun _ => False) (by simp [get_nil]) ?_
  simp -implicitDefEqProofs only [xC_skip, evS, evT, evU, hv, effC, reduceCtorEq, ↓reduceIte, Nat.reduceEqDiff, Nat.reduceAdd, Nat.reduceMul, Int.reduceToNat, Int.reduceAdd, Int.reduceSub, Int.reduceMul, Int.reduceNeg, Int.reduceLT, Int.reduceLE, Nat.reduceLT, Nat.reduceLeDiff, A_r6_Solve]
  (repeat (with_reducible refine And.intro (by omega) ?_))
  refine WA_for (n := n) (fun c s => ∃ m, c + m = n ∧ s = ⟨[(1, .d (rowD b)), (2, .ptr 0 0 0 2), (5, fI n), (6, .sl 2 0 0 n 1 n), (7, fI m)], solveH A π (gI π b n m)⟩) ⟨0, rfl, ?_⟩ ?_
  · simp only [solveH, gI, rowD, hb]; rfl
  rintro c s ⟨m, hc, rfl⟩
  have hy := gI_len π b n m
  generalize hY : gI π b n m = y at hy
  simp -implicitDefEqProofs only [xC_skip, evS, evT, evU, hv, effC, reduceCtorEq, ↓reduceIte, Nat.reduceEqDiff, Nat.reduceAdd, Nat.reduceMul, Int.reduceToNat, Int.reduceAdd, Int.reduceSub, Int.reduceMul, Int.reduceNeg, Int.reduceLT, Int.reduceLE, Nat.reduceLT, Nat.reduceLeDiff, A_r6_Solve_L0, solveH]
  refine condC_intro (fun h => ?_) (fun h => ?_)
  · replace h := of_decide_eq_true h
    obtain ⟨q1, q2⟩ := hp2 m h
    simp -implicitDefEqProofs only [xC_skip, evS, evT, evU, hv, effC, reduceCtorEq, ↓reduceIte, Nat.reduceEqDiff, Nat.reduceAdd, Nat.reduceMul, Int.reduceToNat, Int.reduceAdd, Int.reduceSub, Int.reduceMul, Int.reduceNeg, Int.reduceLT, Int.reduceLE, Nat.reduceLT, Nat.reduceLeDiff]
    (repeat (with_reducible refine And.intro (by omega) ?_))
    rw [wrapI (by omega) (by omega)]
    refine ⟨c - 1, by omega, m + 1, by omega, ?_⟩
    simp only [gI, hY]; rfl
  · replace h := of_decide_eq_false h
    obtain rfl : n = m := by omega
    simp -implicitDefEqProofs only [xC_skip, evS, evT, evU, hv, effC, reduceCtorEq, ↓reduceIte, Nat.reduceEqDiff, Nat.reduceAdd, Nat.reduceMul, Int.reduceToNat, Int.reduceAdd, Int.reduceSub, Int.reduceMul, Int.reduceNeg, Int.reduceLT, Int.reduceLE, Nat.reduceLT, Nat.reduceLeDiff]
    refine WA_for (n := n) (fun c s => ∃ m, c + m = n ∧ s = ⟨[(2, .ptr 0 0 0 2), (5, fI n), (6, .sl 2 0 0 n 1 n), (8, fI m)], solveH A π (fwdR A y m)⟩) ⟨0, rfl, rfl⟩ ?_
    rintro c s ⟨m, hc, rfl⟩
    have hf := fwdR_len A y m
    generalize hF : fwdR A y m = u at hf
    simp -implicitDefEqProofs only [xC_skip, evS, evT, evU, hv, effC, reduceCtorEq, ↓reduceIte, Nat.reduceEqDiff, Nat.reduceAdd, Nat.reduceMul, Int.reduceToNat, Int.reduceAdd, Int.reduceSub, Int.reduceMul, Int.reduceNeg, Int.reduceLT, Int.reduceLE, Nat.reduceLT, Nat.reduceLeDiff, A_r6_Solve_L1, solveH]
    refine condC_intro (fun h2 => ?_) (fun h2 => ?_)
    · replace h2 := of_decide_eq_true h2
      simp -implicitDefEqProofs only [xC_skip, evS, evT, evU, hv, effC, reduceCtorEq, ↓reduceIte, Nat.reduceEqDiff, Nat.reduceAdd, Nat.reduceMul, Int.reduceToNat, Int.reduceAdd, Int.reduceSub, Int.reduceMul, Int.reduceNeg, Int.reduceLT, Int.reduceLE, Nat.reduceLT, Nat.reduceLeDiff]
      refine r6solve_L2 _ A π n m u ⟨hl, hr⟩ (by omega) h2 hn _ fun v w => ?_
      simp -implicitDefEqProofs only [xC_skip, evS, evT, evU, hv, effC, reduceCtorEq, ↓reduceIte, Nat.reduceEqDiff, Nat.reduceAdd, Nat.reduceMul, Int.reduceToNat, Int.reduceAdd, Int.reduceSub, Int.reduceMul, Int.reduceNeg, Int.reduceLT, Int.reduceLE, Nat.reduceLT, Nat.reduceLeDiff]
      rw [wrapI (by omega) (by omega)]
      refine ⟨c - 1, by omega, m + 1, by omega, ?_⟩
      simp only [fwdR, hF]; rfl
    · replace h2 := of_decide_eq_false h2
      obtain rfl : n = m := by omega
      simp -implicitDefEqProofs only [xC_skip, evS, evT, evU, hv, effC, reduceCtorEq, ↓reduceIte, Nat.reduceEqDiff, Nat.reduceAdd, Nat.reduceMul, Int.reduceToNat, Int.reduceAdd, Int.reduceSub, Int.reduceMul, Int.reduceNeg, Int.reduceLT, Int.reduceLE, Nat.reduceLT, Nat.reduceLeDiff]
      have hu : u = fwdI A π b n n := by rw [fwd_eq, ← hF, hY]
      refine WA_for (n := n) (fun c s => ∃ m, ∃ z : Int, c + m = n ∧ z = (n : Int) - m ∧ s = ⟨[(2, .ptr 0 0 0 2), (5, fI n), (6, .sl 2 0 0 n 1 n), (11, fI z)], solveH A π (bckI A n u m)⟩) ⟨0, _, rfl, rfl, ?_⟩ ?_
      · simp only [Int.natCast_zero, Int.sub_zero]; rfl
      rintro c s ⟨m, z, hc, hz, rfl⟩
      have hb2 := bckI_len A n u m
      generalize hU : bckI A n u m = t at hb2
      simp -implicitDefEqProofs only [xC_skip, evS, evT, evU, hv, effC, reduceCtorEq, ↓reduceIte, Nat.reduceEqDiff, Nat.reduceAdd, Nat.reduceMul, Int.reduceToNat, Int.reduceAdd, Int.reduceSub, Int.reduceMul, Int.reduceNeg, Int.reduceLT, Int.reduceLE, Nat.reduceLT, Nat.reduceLeDiff, A_r6_Solve_L3, solveH]
      refine condC_intro (fun h3 => ?_) (fun h3 => ?_)
      · replace h3 := of_decide_eq_true h3
        obtain ⟨i, hzi⟩ : ∃ i : Nat, z = (i : Int) + 1 := ⟨n - 1 - m, by omega⟩
        have hi : i < n := by omega
        have hw : IntKind.i64.wrap (z - 1) = (i : Int) := by rw [wrapI (by omega) (by omega)]; omega
        simp -implicitDefEqProofs only [xC_skip, evS, evT, evU, hv, effC, reduceCtorEq, ↓reduceIte, Nat.reduceEqDiff, Nat.reduceAdd, Nat.reduceMul, Int.reduceToNat, Int.reduceAdd, Int.reduceSub, Int.reduceMul, Int.reduceNeg, Int.reduceLT, Int.reduceLE, Nat.reduceLT, Nat.reduceLeDiff]
        have hz12 : fI z = fI (i + 1 : Nat) := by rw [hzi]; rfl
        rw [show ([(2, V.ptr 0 0 0 2), (5, fI n), (6, V.sl 2 0 0 n 1 n), (11, fI z), (12, fI z)] : Sl) = [(2, V.ptr 0 0 0 2), (5, fI n), (6, V.sl 2 0 0 n 1 n), (11, fI z), (12, fI (i + 1 : Nat))] from by rw [← hz12]]
        refine r6solve_L4 _ A π n i z t ⟨hl, hr⟩ (by omega) hi hzi hn _ fun v w => ?_
        have hbl := bJ_len A i t (n - 1 - i)
        have e1 : i < (bJ A i t (n - 1 - i)).length := by omega
        have g1 := hr i hi
        simp -implicitDefEqProofs only [xC_skip, evS, evT, evU, hv, effC, reduceCtorEq, ↓reduceIte, Nat.reduceEqDiff, Nat.reduceAdd, Nat.reduceMul, Int.reduceToNat, Int.reduceAdd, Int.reduceSub, Int.reduceMul, Int.reduceNeg, Int.reduceLT, Int.reduceLE, Nat.reduceLT, Nat.reduceLeDiff, solveH, getD_map_fl _ _ e1, hw]
        (repeat (with_reducible refine And.intro (by omega) ?_))
        refine ⟨c - 1, by omega, m + 1, (i : Int), by omega, by omega, ?_⟩
        have e : n - 1 - m = i := by omega
        simp only [bckI, hU, bStep, e]; rfl
      · replace h3 := of_decide_eq_false h3
        simp -implicitDefEqProofs only [xC_skip, evS, evT, evU, hv, effC, reduceCtorEq, ↓reduceIte, Nat.reduceEqDiff, Nat.reduceAdd, Nat.reduceMul, Int.reduceToNat, Int.reduceAdd, Int.reduceSub, Int.reduceMul, Int.reduceNeg, Int.reduceLT, Int.reduceLE, Nat.reduceLT, Nat.reduceLeDiff]
        obtain rfl : n = m := by omega
        have e0 : t = R := by rw [← hR, solveP, ← hu, hU]
        subst e0
        refine endsT_keep (fun _ h => h) (resV_tmpI (t := 4) (by decide) rfl) (by simp only [solveH]) (.sl (by simp [get_cons]) rfl) (keep_cells fun X q cells hX v hv' => ?_)
        simp only [solveH, get_cons, get_nil] at hX
        split at hX
        · rcases q with _ | q <;> simp at hX; subst hX; exact mem_rowV hv' _ _ _
        · split at hX
          · rcases q with _ | q <;> simp at hX; subst hX
            rcases List.mem_cons.1 hv' with rfl | hv'
            · exact .d (.d _)
            · rcases List.mem_cons.1 hv' with rfl | hv'
              · exact .d (.d _)
              · cases hv'
          · cases hX
theorem r6_Solve_con (A : List (List Nat)) (π : List Int) (b : List Nat) (n : Nat) (hA : Sq n A) (hπ : Pm n π) (hb : b.length = n) (hn : n < 2 ^ 40) :
    Con Try.prog 44 [.agg [.d (rowsD A), .d (rowI π)], .d (rowD b)] (.d (rowD (solveP A π b n))) :=
  Con_of_AC (r6_Solve_ac A π b n hA hπ hb hn) (.d (snap_row (fun Y q h => by simp [get_nil] at h) (by simp [solveH, get_cons]) (by simp [solveP, bckI_len, fwdI_len]) rfl))
theorem r6_Solve_row (A : List (List Nat)) (π : List Int) (b : List Nat) (n : Nat) (hA : Sq n A) (hπ : Pm n π) (hb : b.length = n) (hn : n < 2 ^ 40) :
    AC Try.prog 44 [.agg [.d (rowsD A), .d (rowI π)], .d (rowD b)] [] [(2, [rowV (solveP A π b n)])] (.sl 2 0 0 n 1 n) := by
  refine AC_le (r6_Solve_ac A π b n hA hπ hb hn) (Le.of_wk (fun X q => (X, q)) ⟨rfl, fun i hi => ?_, fun X q c hX => ?_, fun X r Y q _ _ e => by simpa using e, fun X r h => h.elim⟩)
  · obtain rfl : i = 0 := by simpa using hi
    exact .sl (by simp [get_cons]) rfl
  · rw [get_cons, get_nil] at hX
    split at hX
    · rename_i e; subst e
      rcases q with _ | q <;> simp at hX; subst hX
      refine ⟨_, by simp [solveH, get_cons], rfl, fun j hj => ?_⟩
      rw [List.getD_eq_getElem?_getD, List.getElem?_eq_getElem hj]
      exact mem_rowV (List.getElem_mem hj) _ _ _
    · cases hX
end Go.Ab
