/- LinTurned: rows of which two are one, or one is 0. -/
import Derived.Test.YtnoeajoeeldimaaLI
import Derived.Test.YtnoeajoeeldimaaZM
namespace Go.Ab
set_option linter.unusedSimpArgs false
set_option linter.unusedVariables false
open Go Go.Proofs
def A_l6_LinTurned_L0 : CA := (.seq (.seq (.reg [⟨0, (some 42), none, [], [], (.h (.mov (.t 15)))⟩, ⟨1, (some 43), none, [], [], (.h (.mov (.t 12)))⟩, ⟨2, (some 44), none, [], [], (.h (.ibin .lss (.t 42) (.t 43)))⟩] [4, 11, 12, 13, 14, 15, 44]) (.cond (.t 44) .skip (.exit 0))) (.seq (.block 1 (.seq (.reg [⟨0, (some 47), none, [], [], (.h (.mov (.t 11)))⟩, ⟨1, (some 48), none, [], [], (.h (.mov (.t 13)))⟩, ⟨2, (some 49), none, [], [], (.h (.idx (.t 47) (.t 48) 1))⟩, ⟨3, (some 50), none, [], [], (.load (.t 49) 1 false)⟩, ⟨4, (some 51), none, [], [], (.h (.mov (.t 15)))⟩, ⟨5, (some 52), none, [], [], (.h (.idx (.t 50) (.t 51) 1))⟩, ⟨6, none, none, [], [], (.store (.t 52) (.k (.d (.flt 0))) 1)⟩] [4, 11, 12, 13, 14, 15]) (.seq (.reg [⟨0, (some 53), none, [], [], (.h (.mov (.t 4)))⟩, ⟨1, (some 54), none, [], [], (.h (.un .not (.t 53)))⟩] [4, 11, 12, 13, 14, 15, 54]) (.cond (.t 54) (.reg [⟨0, (some 55), none, [], [], (.h (.mov (.t 11)))⟩, ⟨1, (some 56), none, [], [], (.h (.mov (.t 13)))⟩, ⟨2, (some 57), none, [], [], (.h (.idx (.t 55) (.t 56) 1))⟩, ⟨3, (some 58), none, [], [], (.load (.t 57) 1 false)⟩, ⟨4, (some 59), none, [], [], (.h (.mov (.t 15)))⟩, ⟨5, (some 60), none, [], [], (.h (.mov (.t 11)))⟩, ⟨6, (some 61), none, [], [], (.h (.mov (.t 14)))⟩, ⟨7, (some 62), none, [], [], (.h (.idx (.t 60) (.t 61) 1))⟩, ⟨8, (some 63), none, [], [], (.load (.t 62) 1 false)⟩, ⟨9, (some 64), none, [], [], (.h (.mov (.t 15)))⟩, ⟨10, (some 65), none, [], [], (.h (.idx (.t 63) (.t 64) 1))⟩, ⟨11, (some 66), none, [], [], (.load (.t 65) 1 false)⟩, ⟨12, (some 67), none, [], [], (.h (.idx (.t 58) (.t 59) 1))⟩, ⟨13, none, none, [], [], (.store (.t 67) (.t 66) 1)⟩] [4, 11, 12, 13, 14, 15]) .skip)))) (.reg [⟨0, (some 45), none, [], [], (.h (.mov (.t 15)))⟩, ⟨1, (some 46), none, [], [], (.h (.ibin .add (.t 45) (.k (.d (.int .i64 1)))))⟩, ⟨2, (some 15), none, [], [], (.h (.mov (.t 46)))⟩] [4, 11, 12, 13, 14, 15])))
def A_l6_LinTurned : CA := (.seq (.reg [⟨0, (some 10), none, [], [], (.h (.mov (.k (.d (.bool false)))))⟩] [0, 1, 2, 3, 4]) (.seq (.seq (.reg [⟨0, (some 18), none, [], [], (.callA (.k (.d (.fn 13 [] []))) [])⟩, ⟨1, (some 19), none, [], [], (.h (.un .not (.t 18)))⟩] [0, 1, 2, 3, 4, 19]) (.cond (.t 19) (.seq (.reg [⟨0, (some 10), none, [], [], (.h (.mov (.k (.d (.bool false)))))⟩] [10]) .ret) .skip)) (.seq (.reg [⟨0, (some 20), none, [], [], (.h (.mov (.t 0)))⟩, ⟨1, (some 21), none, [], [], (.callA (.k (.d (.fn 27 [] []))) [(.t 20), (.k (.d (.int .i64 4)))])⟩, ⟨2, (some 22), none, [], [], (.h (.ibin .add (.k (.d (.int .i64 1))) (.t 21)))⟩, ⟨3, (some 23), none, [], [], (.h (.mov (.t 1)))⟩, ⟨4, (some 24), none, [], [], (.callA (.k (.d (.fn 14 [] []))) [(.t 22), (.t 23), (.k (.d (.int .i64 1)))])⟩, ⟨5, (some 11), none, [], [], (.h (.mov (.t 24)))⟩] [2, 3, 4, 11]) (.seq (.reg [⟨0, (some 25), none, [], [], (.h (.mov (.t 11)))⟩, ⟨1, (some 26), none, [], [], (.h (.len (.t 25)))⟩, ⟨2, (some 12), none, [], [], (.h (.mov (.t 26)))⟩] [2, 3, 4, 11, 12]) (.seq (.seq (.reg [⟨0, (some 27), none, [], [], (.h (.mov (.t 12)))⟩, ⟨1, (some 28), none, [], [], (.h (.ibin .lss (.t 27) (.k (.d (.int .i64 2)))))⟩] [2, 3, 4, 11, 12, 28]) (.cond (.t 28) (.seq (.reg [⟨0, (some 10), none, [], [], (.h (.mov (.k (.d (.bool true)))))⟩] [10]) .ret) .skip)) (.seq (.reg [⟨0, (some 29), none, [], [], (.h (.mov (.t 2)))⟩, ⟨1, (some 30), none, [], [], (.h (.mov (.t 12)))⟩, ⟨2, (some 31), none, [], [], (.callA (.k (.d (.fn 27 [] []))) [(.t 29), (.t 30)])⟩, ⟨3, (some 32), none, [], [], (.h (.mov (.t 3)))⟩, ⟨4, (some 33), none, [], [], (.h (.mov (.t 12)))⟩, ⟨5, (some 34), none, [], [], (.callA (.k (.d (.fn 27 [] []))) [(.t 32), (.t 33)])⟩, ⟨6, (some 13), none, [], [], (.h (.mov (.t 31)))⟩, ⟨7, (some 14), none, [], [], (.h (.mov (.t 34)))⟩] [4, 11, 12, 13, 14]) (.seq (.seq (.reg [⟨0, (some 35), none, [], [], (.h (.mov (.t 13)))⟩, ⟨1, (some 36), none, [], [], (.h (.mov (.t 14)))⟩, ⟨2, (some 37), none, [], [], (.h (.ibin .eql (.t 35) (.t 36)))⟩] [4, 11, 12, 13, 14, 37]) (.cond (.t 37) (.reg [⟨0, (some 38), none, [], [], (.h (.mov (.t 13)))⟩, ⟨1, (some 39), none, [], [], (.h (.ibin .add (.t 38) (.k (.d (.int .i64 1)))))⟩, ⟨2, (some 40), none, [], [], (.h (.mov (.t 12)))⟩, ⟨3, (some 41), none, [], [], (.h (.ibin .rem (.t 39) (.t 40)))⟩, ⟨4, (some 14), none, [], [], (.h (.mov (.t 41)))⟩] [4, 11, 12, 13, 14]) .skip)) (.seq (.seq (.reg [⟨0, (some 15), none, [], [], (.h (.mov (.k (.d (.int .i64 0)))))⟩] [4, 11, 12, 13, 14, 15]) (.block 0 (.loop A_l6_LinTurned_L0))) (.seq (.seq (.reg [⟨0, (some 68), none, [], [], (.h (.mov (.t 12)))⟩, ⟨1, (some 69), none, [], [], (.h (.ibin .gtr (.t 68) (.k (.d (.int .i64 2)))))⟩, ⟨2, (some 70), none, [], [], (.h (.mov (.t 69)))⟩, ⟨3, (some 71), (some (70, true)), [], [], (.h (.mov (.t 4)))⟩, ⟨4, (some 72), (some (70, true)), [], [], (.h (.un .not (.t 71)))⟩, ⟨5, (some 73), none, [], [], (.h (.pick (.t 70) (.t 72) (.k (.d (.bool false)))))⟩] [11, 73]) (.cond (.t 73) (.seq (.reg [⟨0, (some 10), none, [], [], (.h (.mov (.k (.d (.bool true)))))⟩] [10]) .ret) .skip)) (.seq (.reg [⟨0, (some 75), none, [], [], (.h (.mov (.t 11)))⟩, ⟨1, (some 76), none, [], [], (.callA (.k (.d (.fn 16 [] []))) [(.t 75)])⟩, ⟨2, (some 74), none, [], [], (.h (.mov (.t 76)))⟩, ⟨3, (some 77), none, [], [], (.h (.ext (.t 74) 0))⟩, ⟨4, (some 78), none, [], [], (.h (.ext (.t 74) 1))⟩, ⟨5, (some 16), none, [], [], (.alloc [.nil, .nil] 29)⟩, ⟨6, none, none, [], [], (.store (.t 16) (.t 77) 2)⟩, ⟨7, (some 17), none, [], [], (.h (.mov (.t 78)))⟩] [17]) (.seq (.reg [⟨0, (some 79), none, [], [], (.h (.mov (.t 17)))⟩, ⟨1, (some 80), none, [], [], (.h (.un .not (.t 79)))⟩, ⟨2, (some 10), none, [], [], (.h (.mov (.t 80)))⟩] [10]) .ret)))))))))))
theorem A_l6_LinTurned_comp : compF Try.prog 5 = some ⟨81, [(10, none)], A_l6_LinTurned.strip⟩ := by kernel_rfl
def turnM (A : List (List Nat)) (i j : Nat) (zero : Bool) : Nat → List (List Nat)
  | 0 => A
  | m + 1 => if zero = true then up2 (turnM A i j zero m) i m 0 else up2 (up2 (turnM A i j zero m) i m 0) i m (at2 (up2 (turnM A i j zero m) i m 0) j m)
theorem turnM_sq (A : List (List Nat)) (n i j : Nat) (zero : Bool) (hA : Sq n A) : ∀ m, Sq n (turnM A i j zero m) := by
  intro m
  induction m with
  | zero => exact hA
  | succ m ih =>
    simp only [turnM]
    split
    · exact up2_sq _ _ _ _ _ ih
    · exact up2_sq _ _ _ _ _ (up2_sq _ _ _ _ _ ih)
set_option maxRecDepth 8000 in
theorem turned_L0 (N : Nat → Prop) (A : List (List Nat)) (k i j : Nat) (zero : Bool) (hA : Sq k A) (hi : i < k) (hj : j < k) (hk : k < 2 ^ 20) (Q : Ex → T → Prop)
    (hQ : ∀ v w, Q (.exit 0) ⟨[(4, fB zero), (11, .sl 100 0 0 k 1 k), (12, fI k), (13, fI i), (14, fI j), (15, v), (44, w)], mkH0 (turnM A i j zero k) k k⟩) :
    WA Try.prog N 81 (.loop A_l6_LinTurned_L0) Q ⟨[(4, fB zero), (11, .sl 100 0 0 k 1 k), (12, fI k), (13, fI i), (14, fI j), (15, fI 0)], mkH0 A k k⟩ := by
  refine WA_for (n := k) (fun c s => ∃ m, c + m = k ∧ s = ⟨[(4, fB zero), (11, .sl 100 0 0 k 1 k), (12, fI k), (13, fI i), (14, fI j), (15, fI m)], mkH0 (turnM A i j zero m) k k⟩) ⟨0, rfl, rfl⟩ ?_
  rintro c s ⟨m, hc, rfl⟩
  have hB := turnM_sq A k i j zero hA m
  generalize hBe : turnM A i j zero m = B at hB
  have g1 := hB.2 i hi
  have g2 := hB.2 j hj
  have hl := hB.1
  simp -implicitDefEqProofs only [xC_skip, evS, decide_true, decide_false, decide_eq_true_eq, sides, Inst.places, List.zip_cons_cons, List.zip_nil_right, List.zip_nil_left, List.mem_cons, List.not_mem_nil, forall_eq_or_imp, forall_eq, false_implies, implies_true, Apart, xeff, xhv, hv, effC, xev, look, argSl, atL, drops, keep, inBlockT, pickX, callX, callCX, callSX, callee, List.map_cons, List.map_nil, List.append_nil, List.nil_append, List.cons_append, reduceCtorEq, ↓reduceIte, Nat.reduceEqDiff, Nat.reduceAdd, Nat.reduceMul, eq_self, List.length_replicate, Int.reduceToNat, Int.reduceAdd, Int.reduceSub, Int.reduceMul, Int.reduceNeg, Int.reduceLT, Int.reduceLE, rowD, rowI, rowsD, ivD, rowG, rowIG, rowsG, ivG, bne_self_eq_false, beq_self_eq_true, List.length_map, List.getD_cons_zero, List.getD_cons_succ, List.drop_succ_cons, List.drop_zero, List.take_succ_cons, List.take_zero, List.take_nil, List.getElem?_cons_zero, List.getElem?_cons_succ, List.length_cons, List.length_nil, List.length_set, List.set_cons_zero, List.set_cons_succ, List.all_cons, List.all_nil, Nat.reduceLT, Nat.reduceLeDiff, ne_eq, Option.some.injEq, fillV, partsV, V.okPart, gt_iff_lt, ge_iff_le, A_l6_LinTurned_L0, mkH0]
  refine condC_intro (fun h => ?_) (fun h => ?_)
  · replace h := of_decide_eq_true h
    have hiB : i < B.length := by omega
    simp -implicitDefEqProofs only [xC_skip, evS, decide_true, decide_false, decide_eq_true_eq, sides, Inst.places, List.zip_cons_cons, List.zip_nil_right, List.zip_nil_left, List.mem_cons, List.not_mem_nil, forall_eq_or_imp, forall_eq, false_implies, implies_true, Apart, xeff, xhv, hv, effC, xev, look, argSl, atL, drops, keep, inBlockT, pickX, callX, callCX, callSX, callee, List.map_cons, List.map_nil, List.append_nil, List.nil_append, List.cons_append, reduceCtorEq, ↓reduceIte, Nat.reduceEqDiff, Nat.reduceAdd, Nat.reduceMul, eq_self, List.length_replicate, Int.reduceToNat, Int.reduceAdd, Int.reduceSub, Int.reduceMul, Int.reduceNeg, Int.reduceLT, Int.reduceLE, rowD, rowI, rowsD, ivD, rowG, rowIG, rowsG, ivG, bne_self_eq_false, beq_self_eq_true, List.length_map, List.getD_cons_zero, List.getD_cons_succ, List.drop_succ_cons, List.drop_zero, List.take_succ_cons, List.take_zero, List.take_nil, List.getElem?_cons_zero, List.getElem?_cons_succ, List.length_cons, List.length_nil, List.length_set, List.set_cons_zero, List.set_cons_succ, List.all_cons, List.all_nil, Nat.reduceLT, Nat.reduceLeDiff, ne_eq, Option.some.injEq, fillV, partsV, V.okPart, gt_iff_lt, ge_iff_le, hdo_getD _ _ _ _ _ hi, getE B i hiB, setE]
    (repeat (with_reducible refine And.intro (by omega) ?_))
    cases hz : zero
    · have hB1 := up2_sq B k i m 0 hB
      have hjB1 : j < (up2 B i m 0).length := by (have := hB1.1; omega)
      have hiB1 : i < (up2 B i m 0).length := by (have := hB1.1; omega)
      have f1 := hB1.2 i hi
      have f2 := hB1.2 j hj
      have hmj : m < ((up2 B i m 0).getD j []).length := by omega
      have hup : B.set i ((B.getD i []).set m 0) = up2 B i m 0 := rfl
      rw [hup]
      simp -implicitDefEqProofs only [xC_skip, evS, decide_true, decide_false, decide_eq_true_eq, sides, Inst.places, List.zip_cons_cons, List.zip_nil_right, List.zip_nil_left, List.mem_cons, List.not_mem_nil, forall_eq_or_imp, forall_eq, false_implies, implies_true, Apart, xeff, xhv, hv, effC, xev, look, argSl, atL, drops, keep, inBlockT, pickX, callX, callCX, callSX, callee, List.map_cons, List.map_nil, List.append_nil, List.nil_append, List.cons_append, reduceCtorEq, ↓reduceIte, Nat.reduceEqDiff, Nat.reduceAdd, Nat.reduceMul, eq_self, List.length_replicate, Int.reduceToNat, Int.reduceAdd, Int.reduceSub, Int.reduceMul, Int.reduceNeg, Int.reduceLT, Int.reduceLE, rowD, rowI, rowsD, ivD, rowG, rowIG, rowsG, ivG, bne_self_eq_false, beq_self_eq_true, List.length_map, List.getD_cons_zero, List.getD_cons_succ, List.drop_succ_cons, List.drop_zero, List.take_succ_cons, List.take_zero, List.take_nil, List.getElem?_cons_zero, List.getElem?_cons_succ, List.length_cons, List.length_nil, List.length_set, List.set_cons_zero, List.set_cons_succ, List.all_cons, List.all_nil, Nat.reduceLT, Nat.reduceLeDiff, ne_eq, Option.some.injEq, fillV, partsV, V.okPart, gt_iff_lt, ge_iff_le, hdo_getD _ _ _ _ _ hi, hdo_getD _ _ _ _ _ hj, getE _ i hiB1, getE _ j hjB1, getD_map_fl _ _ hmj, setE]
      (repeat (with_reducible refine And.intro (by omega) ?_))
      rw [wrapI (by omega) (by omega)]
      refine ⟨c - 1, by omega, m + 1, by omega, ?_⟩
      subst hz
      simp only [turnM, hBe, Bool.false_eq_true, if_false]; rfl
    · simp -implicitDefEqProofs only [xC_skip, evS, decide_true, decide_false, decide_eq_true_eq, sides, Inst.places, List.zip_cons_cons, List.zip_nil_right, List.zip_nil_left, List.mem_cons, List.not_mem_nil, forall_eq_or_imp, forall_eq, false_implies, implies_true, Apart, xeff, xhv, hv, effC, xev, look, argSl, atL, drops, keep, inBlockT, pickX, callX, callCX, callSX, callee, List.map_cons, List.map_nil, List.append_nil, List.nil_append, List.cons_append, reduceCtorEq, ↓reduceIte, Nat.reduceEqDiff, Nat.reduceAdd, Nat.reduceMul, eq_self, List.length_replicate, Int.reduceToNat, Int.reduceAdd, Int.reduceSub, Int.reduceMul, Int.reduceNeg, Int.reduceLT, Int.reduceLE, rowD, rowI, rowsD, ivD, rowG, rowIG, rowsG, ivG, bne_self_eq_false, beq_self_eq_true, List.length_map, List.getD_cons_zero, List.getD_cons_succ, List.drop_succ_cons, List.drop_zero, List.take_succ_cons, List.take_zero, List.take_nil, List.getElem?_cons_zero, List.getElem?_cons_succ, List.length_cons, List.length_nil, List.length_set, List.set_cons_zero, List.set_cons_succ, List.all_cons, List.all_nil, Nat.reduceLT, Nat.reduceLeDiff, ne_eq, Option.some.injEq, fillV, partsV, V.okPart, gt_iff_lt, ge_iff_le]
      rw [wrapI (by omega) (by omega)]
      refine ⟨c - 1, by omega, m + 1, by omega, ?_⟩
      subst hz
      simp only [turnM, hBe, if_true]; rfl
  · replace h := of_decide_eq_false h
    simp -implicitDefEqProofs only [xC_skip, evS, decide_true, decide_false, decide_eq_true_eq, sides, Inst.places, List.zip_cons_cons, List.zip_nil_right, List.zip_nil_left, List.mem_cons, List.not_mem_nil, forall_eq_or_imp, forall_eq, false_implies, implies_true, Apart, xeff, xhv, hv, effC, xev, look, argSl, atL, drops, keep, inBlockT, pickX, callX, callCX, callSX, callee, List.map_cons, List.map_nil, List.append_nil, List.nil_append, List.cons_append, reduceCtorEq, ↓reduceIte, Nat.reduceEqDiff, Nat.reduceAdd, Nat.reduceMul, eq_self, List.length_replicate, Int.reduceToNat, Int.reduceAdd, Int.reduceSub, Int.reduceMul, Int.reduceNeg, Int.reduceLT, Int.reduceLE, rowD, rowI, rowsD, ivD, rowG, rowIG, rowsG, ivG, bne_self_eq_false, beq_self_eq_true, List.length_map, List.getD_cons_zero, List.getD_cons_succ, List.drop_succ_cons, List.drop_zero, List.take_succ_cons, List.take_zero, List.take_nil, List.getElem?_cons_zero, List.getElem?_cons_succ, List.length_cons, List.length_nil, List.length_set, List.set_cons_zero, List.set_cons_succ, List.all_cons, List.all_nil, Nat.reduceLT, Nat.reduceLeDiff, ne_eq, Option.some.injEq, fillV, partsV, V.okPart, gt_iff_lt, ge_iff_le]
    obtain rfl : k = m := by omega
    rw [hBe] at hQ
    exact hQ _ _
theorem at2_up2 (A : List (List Nat)) (n i j v r c : Nat) (hA : Sq n A) (hi : i < n) (hj : j < n) : at2 (up2 A i j v) r c = if r = i ∧ c = j then v else at2 A r c := by
  have h1 := hA.1
  have h2 := hA.2 i hi
  simp only [List.getD_eq_getElem?_getD] at h2
  unfold at2 up2
  simp only [List.getD_eq_getElem?_getD, List.getElem?_set]
  by_cases e : i = r
  · subst e
    rw [if_pos rfl, if_pos (by omega)]
    simp only [Option.getD_some, List.getElem?_set]
    by_cases e2 : j = c
    · subst e2; simp [h2, hj]
    · have : ¬ c = j := fun e => e2 e.symm
      simp [e2, this]
  · have : ¬ (r = i ∧ c = j) := fun h => e h.1.symm
    rw [if_neg e, if_neg this]
/-- Row q is nothing from column m on. -/
def ZR (n m q : Nat) (A : List (List Nat)) : Prop := ∀ c, m ≤ c → c < n → Zx (at2 A q c)
theorem ZR_up {n m q : Nat} {A : List (List Nat)} (h : ZR n m q A) (hA : Sq n A) {i j v : Nat} (hi : i < n) (hj : j < n) (hv : i = q → Zx v) : ZR n m q (up2 A i j v) := by
  intro c hm hc
  rw [at2_up2 A n i j v q c hA hi hj]
  split
  · rename_i e; exact hv e.1.symm
  · exact h c hm hc
theorem ZR_elimJ {n m q i k : Nat} {A : List (List Nat)} (h : ZR n m q A) (hA : Sq n A) (hi : i < n) (hmk : m ≤ k) (hk : k < n) : ∀ d, k + 1 + d ≤ n → ZR n m q (elimJ A i k d) := by
  intro d
  induction d with
  | zero => intro _; exact h
  | succ d ih =>
    intro hd
    have ih := ih (by omega)
    have hs := elimJ_sq A n i k hA d
    simp only [elimJ]
    refine ZR_up ih hs hi (by omega) fun e => ?_
    subst e
    exact Zx_sub (ih _ (by omega) (by omega)) (Zx_mul (ih k hmk hk))
theorem ZR_elimI {n m q k : Nat} {A : List (List Nat)} (h : ZR n m q A) (hA : Sq n A) (hmk : m ≤ k) (hk : k < n) : ∀ d, k + 1 + d ≤ n → ZR n m q (elimI A n k d) := by
  intro d
  induction d with
  | zero => intro _; exact h
  | succ d ih =>
    intro hd
    have ih := ih (by omega)
    have hs := elimI_sq A n k hA d
    simp only [elimI, elimRow]
    refine ZR_elimJ (ZR_up ih hs (by omega) hk fun e => ?_) (up2_sq _ _ _ _ _ hs) (by omega) hmk hk _ (by omega)
    subst e
    exact Zx_div (ih k hmk hk)
theorem ZR_none (A : List (List Nat)) (n q0 : Nat) (hA : Sq n A) (hq0 : q0 < n) (h0 : ZR n 0 q0 A) : partP A n n = none := by
  have key : ∀ m, m ≤ n → ∀ B π, partP A n m = some (B, π) → ∃ q, m ≤ q ∧ q < n ∧ ZR n m q B := by
    intro m
    induction m with
    | zero =>
      intro _ B π h
      simp only [partP, Option.some.injEq, Prod.mk.injEq] at h
      obtain ⟨rfl, _⟩ := h
      exact ⟨q0, by omega, hq0, h0⟩
    | succ m ih =>
      intro hm B π h
      simp only [partP, Option.bind_eq_some_iff] at h
      obtain ⟨⟨C, σ⟩, h1, h2⟩ := h
      obtain ⟨q, hq1, hq2, hz⟩ := ih (by omega) C σ h1
      have hC := (partP_sq A n hA m (by omega) C σ h1).1
      have hp := pvP_lt C m (n - 1 - m)
      simp only [stepP] at h2
      generalize pvP C m (n - 1 - m) = p at hp h2
      split at h2
      · cases h2
      rename_i hg
      simp only [Option.some.injEq, Prod.mk.injEq] at h2
      obtain ⟨rfl, _⟩ := h2
      have hpq : p ≠ q := by
        rintro rfl
        exact hg (Zx_bad (hz m (by omega) (by omega)))
      have hs := swapL_sq C n m p hC (by omega) (by omega)
      have hl := hC.1
      have sw : ∀ r, (swapL [] C m p).getD r [] = if p = r then C.getD m [] else if m = r then C.getD p [] else C.getD r [] := by
        intro r
        simp only [swapL, List.getD_eq_getElem?_getD, List.getElem?_set, List.length_set]
        by_cases e : p = r
        · subst e; rw [if_pos rfl, if_pos rfl, if_pos (by omega)]; rfl
        · rw [if_neg e, if_neg e]
          by_cases e2 : m = r
          · subst e2; rw [if_pos rfl, if_pos rfl, if_pos (by omega)]; rfl
          · rw [if_neg e2, if_neg e2]
      by_cases hqm : q = m
      · refine ⟨p, by omega, by omega, ?_⟩
        have : ZR n (m + 1) p (swapL [] C m p) := by
          intro c h1 h2
          unfold at2
          rw [sw, if_pos rfl, ← hqm]
          exact hz c (by omega) h2
        have z0 : ZR n m p (swapL [] C m p) := by
          intro c h1 h2
          unfold at2
          rw [sw, if_pos rfl, ← hqm]
          exact hz c (by omega) h2
        have := ZR_elimI z0 hs (Nat.le_refl m) (by omega) (n - 1 - m) (by omega)
        exact fun c h1 h2 => this c (by omega) h2
      · refine ⟨q, by omega, hq2, ?_⟩
        have z0 : ZR n m q (swapL [] C m p) := by
          intro c h1 h2
          unfold at2
          rw [sw, if_neg hpq, if_neg (fun e => hqm e.symm)]
          exact hz c (by omega) h2
        have := ZR_elimI z0 hs (Nat.le_refl m) (by omega) (n - 1 - m) (by omega)
        exact fun c h1 h2 => this c (by omega) h2
  cases h : partP A n n with
  | none => rfl
  | some s =>
    obtain ⟨B, π⟩ := s
    obtain ⟨q, h1, h2, _⟩ := key n (Nat.le_refl n) B π h
    omega
theorem turn_zero (A : List (List Nat)) (n i j : Nat) (hA : Sq n A) (hi : i < n) : ∀ m, m ≤ n → ∀ c, c < m → at2 (turnM A i j true m) i c = 0 := by
  intro m
  induction m with
  | zero => intro _ c h; omega
  | succ m ih =>
    intro hm c hc
    simp only [turnM, if_true]
    rw [at2_up2 _ n i m 0 i c (turnM_sq A n i j true hA m) hi (by omega)]
    split
    · rfl
    · rename_i h
      exact ih (by omega) c (by have : ¬ c = m := fun e => h ⟨rfl, e⟩
                                omega)
def numK (k : Nat) : Nat := fop .div (FloatKind.nearest .f64 ((k : Int) - 16)) 4616189618054758400
theorem numM_K (w : Int) : ∃ k, k < 33 ∧ numM w = numK k := by
  have h1 := Int.emod_nonneg w (by decide : (33 : Int) ≠ 0)
  have h2 := Int.emod_lt_of_pos w (by decide : (0 : Int) < 33)
  refine ⟨(w % 33).toNat, by omega, ?_⟩
  unfold numM numK
  have : (((w % 33).toNat : Nat) : Int) = w % 33 := by omega
  rw [this]
theorem num_chk1 : ((List.range 33).all fun k => fcmp .eq (numK k) 0 || fop .div (numK k) (numK k) == 4607182418800017408) = true := by kernel_rfl
theorem num_chk2 : ((List.range 33).all fun k => fop .sub (numK k) (fop .mul 4607182418800017408 (numK k)) == 0) = true := by kernel_rfl
theorem num_two (w v : Int) (h : fcmp .eq (numM w) 0 = false) : Zx (fop .sub (numM v) (fop .mul (fop .div (numM w) (numM w)) (numM v))) := by
  obtain ⟨a, ha, e1⟩ := numM_K w
  obtain ⟨b, hb, e2⟩ := numM_K v
  rw [e1] at h ⊢
  rw [e2]
  have h1 := List.all_eq_true.1 num_chk1 a (by simpa using ha)
  have h2 := List.all_eq_true.1 num_chk2 b (by simpa using hb)
  simp only [h, Bool.false_or, beq_iff_eq] at h1
  simp only [beq_iff_eq] at h2
  rw [h1, h2]; exact Zx_0
/-- Two rows that are one. -/
theorem two_none (A : List (List Nat)) (hA : Sq 2 A) (x y : Int) (h00 : at2 A 0 0 = numM x) (h01 : at2 A 0 1 = numM y) (h10 : at2 A 1 0 = numM x) (h11 : at2 A 1 1 = numM y) : partP A 2 2 = none := by
  cases h : partP A 2 2 with
  | none => rfl
  | some s =>
    exfalso
    obtain ⟨D, σ⟩ := s
    simp only [partP, Option.bind_some, Option.bind_eq_some_iff] at h
    obtain ⟨⟨C, τ⟩, h1, h2⟩ := h
    simp only [stepP] at h1
    generalize hp : pvP A 0 (2 - 1 - 0) = p at h1
    have hpl := pvP_lt A 0 (2 - 1 - 0)
    rw [hp] at hpl
    split at h1
    · cases h1
    rename_i hg
    simp only [Option.some.injEq, Prod.mk.injEq] at h1
    obtain ⟨rfl, _⟩ := h1
    have hp0 : at2 A p 0 = numM x := by
      rcases p with _ | _ | p
      · exact h00
      · exact h10
      · omega
    have hx : fcmp .eq (numM x) 0 = false := by
      cases hc : fcmp .eq (numM x) 0
      · rfl
      · exact absurd (Or.inl (by rw [hp0]; exact hc)) hg
    have hs := swapL_sq A 2 0 p hA (by omega) (by omega)
    have sw : ∀ r c, r < 2 → c < 2 → at2 (swapL [] A 0 p) r c = if c = 0 then numM x else numM y := by
      intro r c hr hc
      have hl := hA.1
      unfold at2 at *
      simp only [swapL, List.getD_eq_getElem?_getD, List.getElem?_set, List.length_set] at *
      rcases p with _ | _ | p
      · rcases r with _ | _ | r <;> rcases c with _ | _ | c <;> simp_all <;> omega
      · rcases r with _ | _ | r <;> rcases c with _ | _ | c <;> simp_all <;> omega
      · omega
    generalize swapL [] A 0 p = B at hs sw h2
    have e1 : at2 (elimI B 2 0 (2 - 1 - 0)) 1 1 = fop .sub (numM y) (fop .mul (fop .div (numM x) (numM x)) (numM y)) := by
      have s1 := up2_sq B 2 1 0 (fop .div (at2 B 1 0) (at2 B 0 0)) hs
      show at2 (up2 (up2 B 1 0 (fop .div (at2 B 1 0) (at2 B 0 0))) 1 1 _) 1 1 = _
      rw [at2_up2 _ 2 1 1 _ 1 1 s1 (by omega) (by omega), if_pos ⟨rfl, rfl⟩]
      show fop .sub (at2 (up2 B 1 0 _) 1 1) (fop .mul (at2 (up2 B 1 0 _) 1 0) (at2 (up2 B 1 0 _) 0 1)) = _
      rw [at2_up2 B 2 1 0 _ 1 1 hs (by omega) (by omega), at2_up2 B 2 1 0 _ 1 0 hs (by omega) (by omega), at2_up2 B 2 1 0 _ 0 1 hs (by omega) (by omega)]
      simp only [sw _ _ (by omega : 1 < 2) (by omega : 1 < 2), sw _ _ (by omega : 1 < 2) (by omega : 0 < 2), sw _ _ (by omega : 0 < 2) (by omega : 0 < 2), sw _ _ (by omega : 0 < 2) (by omega : 1 < 2)]
      simp
      show fop .sub (numM y) (fop .mul (fop .div (at2 B 1 0) (at2 B 0 0)) (numM y)) = _
      rw [sw 1 0 (by omega) (by omega), sw 0 0 (by omega) (by omega), if_pos rfl]
    have hz : Zx (at2 (elimI B 2 0 (2 - 1 - 0)) 1 1) := by rw [e1]; exact num_two x y hx
    simp only [stepP] at h2
    have hp1 : pvP (elimI B 2 0 (2 - 1 - 0)) 1 (2 - 1 - 1) = 1 := rfl
    rw [hp1, if_pos (Zx_bad hz)] at h2
    cases h2
theorem mkM_at (ns : List Int) (k r c : Nat) (hr : r < k) (hc : c < k) : ∃ w, at2 (mkM ns k k) r c = numM w := by
  unfold at2
  rw [mkM_getD ns k k r hr]
  exact ⟨_, by simp [mkRow, List.getD_eq_getElem?_getD, hc, mkE]; rfl⟩
theorem turn_one (A : List (List Nat)) (n i j : Nat) (hA : Sq n A) (hi : i < n) (hj : j < n) (hij : i ≠ j) : ∀ m, m ≤ n → (∀ c, c < n → at2 (turnM A i j false m) j c = at2 A j c) ∧ ∀ c, c < m → at2 (turnM A i j false m) i c = at2 A j c := by
  intro m
  induction m with
  | zero => intro _; exact ⟨fun c _ => rfl, fun c h => by omega⟩
  | succ m ih =>
    intro hm
    obtain ⟨h1, h2⟩ := ih (by omega)
    have s0 := turnM_sq A n i j false hA m
    have s1 := up2_sq _ n i m 0 s0
    have hji : ¬ j = i := fun e => hij e.symm
    simp only [turnM, Bool.false_eq_true, if_false]
    refine ⟨fun c hc => ?_, fun c hc => ?_⟩
    · rw [at2_up2 _ n i m _ j c s1 hi (by omega), if_neg (fun h => hji h.1), at2_up2 _ n i m _ j c s0 hi (by omega), if_neg (fun h => hji h.1)]
      exact h1 c hc
    · rw [at2_up2 _ n i m _ i c s1 hi (by omega)]
      split
      · rename_i e
        rw [at2_up2 _ n i m _ j m s0 hi (by omega), if_neg (fun h => hji h.1), e.2]
        exact h1 m (by omega)
      · rename_i e
        rw [at2_up2 _ n i m _ i c s0 hi (by omega), if_neg e]
        exact h2 c (by have : ¬ c = m := fun h => e ⟨rfl, h⟩
                       omega)
theorem turn_none (ns : List Int) (k i j : Nat) (zero : Bool) (hi : i < k) (hj : j < k) (hij : i ≠ j) (h : zero = true ∨ k = 2) : partP (turnM (mkM ns k k) i j zero k) k k = none := by
  have hA := mkM_sq ns k
  cases zero with
  | true =>
    refine ZR_none _ k i (turnM_sq _ _ _ _ _ hA _) hi fun c _ hc => ?_
    rw [turn_zero _ k i j hA hi k (Nat.le_refl _) c hc]; exact Zx_0
  | false =>
    obtain rfl : k = 2 := by simpa using h
    obtain ⟨h1, h2⟩ := turn_one (mkM ns 2 2) 2 i j hA hi hj hij 2 (Nat.le_refl _)
    obtain ⟨x, hx⟩ := mkM_at ns 2 j 0 hj (by omega)
    obtain ⟨y, hy⟩ := mkM_at ns 2 j 1 hj (by omega)
    have a1 := h1 0 (by omega)
    have a2 := h1 1 (by omega)
    have a3 := h2 0 (by omega)
    have a4 := h2 1 (by omega)
    rw [hx] at a1 a3
    rw [hy] at a2 a4
    have hs := turnM_sq (mkM ns 2 2) 2 i j false hA 2
    generalize turnM (mkM ns 2 2) i j false 2 = B at *
    rcases i with _ | _ | i
    · rcases j with _ | _ | j
      · omega
      · exact two_none B hs x y a3 a4 a1 a2
      · omega
    · rcases j with _ | _ | j
      · exact two_none B hs x y a1 a2 a3 a4
      · omega
      · omega
    · omega
theorem part_nil_named (B : List (List Nat)) (k : Nat) (hB : Sq k B) (hk : k < 2 ^ 20) (hn : partP B k k = none) (K : V → Heap → Prop) (h : K (.tup [.agg [.nil, .nil], fB false]) (mkH0 B k k)) :
    callG Try.prog 16 [.sl 100 0 0 k 1 k] (mkH0 B k k) K := by
  refine callG_ac (AC_frame (us := [.d (rowsD B)]) (lin_Part_nil B k hB (by omega) hn) rfl (.inr ⟨fun j hj => ?_, .tup fun j hj => ?_, fun X q cells h => by simp [get_nil] at h⟩)) ?_
  · obtain rfl : j = 0 := by simpa using hj
    refine snp_rows (X := 200) (o := 0) (by simp [mkH0, get_cons]) (fun r hr => ⟨?_, hB.2 r hr⟩) hB.1 rfl
    have := hB.1
    rw [mkH0, get_cons, if_pos rfl, Nat.add_zero]
    exact getE _ r (by omega)
  · rcases j with _ | _ | j
    · refine .agg fun j hj => ?_
      rcases j with _ | _ | j
      · exact .nil
      · exact .nil
      · simp at hj; omega
    · exact .bool _
    · simp at hj; omega
  · simpa [Heap.up, V.ren, V.renL] using h
set_option maxRecDepth 8000 in
theorem l6_LinTurned_con (n : Int) (ns : List Int) (at' by' : Int) (zero : Bool) (hns : ns.length < 2 ^ 62) : Con Try.prog 5 [fI n, .d (rowI ns), fI at', fI by', fB zero] (fB true) := by
  refine Con_introA A_l6_LinTurned_comp rfl mixed ?_
  simp -implicitDefEqProofs only [xC_skip, evS, decide_true, decide_false, decide_eq_true_eq, sides, Inst.places, List.zip_cons_cons, List.zip_nil_right, List.zip_nil_left, List.mem_cons, List.not_mem_nil, forall_eq_or_imp, forall_eq, false_implies, implies_true, Apart, xeff, xhv, hv, effC, xev, look, argSl, atL, drops, keep, inBlockT, pickX, callX, callCX, callSX, callee, List.map_cons, List.map_nil, List.append_nil, List.nil_append, List.cons_append, reduceCtorEq, ↓reduceIte, Nat.reduceEqDiff, Nat.reduceAdd, Nat.reduceMul, eq_self, List.length_replicate, Int.reduceToNat, Int.reduceAdd, Int.reduceSub, Int.reduceMul, Int.reduceNeg, Int.reduceLT, Int.reduceLE, rowD, rowI, rowsD, ivD, rowG, rowIG, rowsG, ivG, bne_self_eq_false, beq_self_eq_true, List.length_map, List.getD_cons_zero, List.getD_cons_succ, List.drop_succ_cons, List.drop_zero, List.take_succ_cons, List.take_zero, List.take_nil, List.getElem?_cons_zero, List.getElem?_cons_succ, List.length_cons, List.length_nil, List.length_set, List.set_cons_zero, List.set_cons_succ, List.all_cons, List.all_nil, Nat.reduceLT, Nat.reduceLeDiff, ne_eq, Option.some.injEq, fillV, partsV, V.okPart, gt_iff_lt, ge_iff_le, A_l6_LinTurned]
  first | refine callG_con (l6_known_con) rfl ?_ | refine callCG_con (l6_known_con) rfl ?_ | refine callSG_con (l6_known_con) rfl ?_
  simp -implicitDefEqProofs only [xC_skip, evS, decide_true, decide_false, decide_eq_true_eq, sides, Inst.places, List.zip_cons_cons, List.zip_nil_right, List.zip_nil_left, List.mem_cons, List.not_mem_nil, forall_eq_or_imp, forall_eq, false_implies, implies_true, Apart, xeff, xhv, hv, effC, xev, look, argSl, atL, drops, keep, inBlockT, pickX, callX, callCX, callSX, callee, List.map_cons, List.map_nil, List.append_nil, List.nil_append, List.cons_append, reduceCtorEq, ↓reduceIte, Nat.reduceEqDiff, Nat.reduceAdd, Nat.reduceMul, eq_self, List.length_replicate, Int.reduceToNat, Int.reduceAdd, Int.reduceSub, Int.reduceMul, Int.reduceNeg, Int.reduceLT, Int.reduceLE, rowD, rowI, rowsD, ivD, rowG, rowIG, rowsG, ivG, bne_self_eq_false, beq_self_eq_true, List.length_map, List.getD_cons_zero, List.getD_cons_succ, List.drop_succ_cons, List.drop_zero, List.take_succ_cons, List.take_zero, List.take_nil, List.getElem?_cons_zero, List.getElem?_cons_succ, List.length_cons, List.length_nil, List.length_set, List.set_cons_zero, List.set_cons_succ, List.all_cons, List.all_nil, Nat.reduceLT, Nat.reduceLeDiff, ne_eq, Option.some.injEq, fillV, partsV, V.okPart, gt_iff_lt, ge_iff_le]
  first | refine callG_con (l6_within_con n 4 (by decide) (by decide)) rfl ?_ | refine callCG_con (l6_within_con n 4 (by decide) (by decide)) rfl ?_ | refine callSG_con (l6_within_con n 4 (by decide) (by decide)) rfl ?_
  have m1 := Int.emod_nonneg n (by decide : (4 : Int) ≠ 0)
  have m2 := Int.emod_lt_of_pos n (by decide : (0 : Int) < 4)
  generalize n % 4 = z at m1 m2
  obtain ⟨z, rfl⟩ : ∃ z' : Nat, z = z' := ⟨z.toNat, by omega⟩
  have w1 : IntKind.i64.wrap (1 + (z : Int)) = ((z + 1 : Nat) : Int) := by rw [wrapI (by omega) (by omega)]; omega
  simp -implicitDefEqProofs only [xC_skip, evS, decide_true, decide_false, decide_eq_true_eq, sides, Inst.places, List.zip_cons_cons, List.zip_nil_right, List.zip_nil_left, List.mem_cons, List.not_mem_nil, forall_eq_or_imp, forall_eq, false_implies, implies_true, Apart, xeff, xhv, hv, effC, xev, look, argSl, atL, drops, keep, inBlockT, pickX, callX, callCX, callSX, callee, List.map_cons, List.map_nil, List.append_nil, List.nil_append, List.cons_append, reduceCtorEq, ↓reduceIte, Nat.reduceEqDiff, Nat.reduceAdd, Nat.reduceMul, eq_self, List.length_replicate, Int.reduceToNat, Int.reduceAdd, Int.reduceSub, Int.reduceMul, Int.reduceNeg, Int.reduceLT, Int.reduceLE, rowD, rowI, rowsD, ivD, rowG, rowIG, rowsG, ivG, bne_self_eq_false, beq_self_eq_true, List.length_map, List.getD_cons_zero, List.getD_cons_succ, List.drop_succ_cons, List.drop_zero, List.take_succ_cons, List.take_zero, List.take_nil, List.getElem?_cons_zero, List.getElem?_cons_succ, List.length_cons, List.length_nil, List.length_set, List.set_cons_zero, List.set_cons_succ, List.all_cons, List.all_nil, Nat.reduceLT, Nat.reduceLeDiff, ne_eq, Option.some.injEq, fillV, partsV, V.okPart, gt_iff_lt, ge_iff_le, w1]
  have hm := l6_Make_ac ((z + 1 : Nat) : Int) 1 ns hns
  have e5 : (((z + 1 : Nat) : Int) % 5).toNat + 1 = z + 2 := by omega
  have em : makeM ((z + 1 : Nat) : Int) ns 1 = mkM ns (z + 2) (z + 2) := by
    unfold makeM
    simp only [e5]
    rw [if_neg (by decide)]
  rw [e5, em] at hm
  refine callG_ac hm ?_
  have hsq := mkM_sq ns (z + 2)
  have hno : ∀ i j zero, i < z + 2 → j < z + 2 → i ≠ j → (zero = true ∨ z + 2 = 2) → partP (turnM (mkM ns (z + 2) (z + 2)) i j zero (z + 2)) (z + 2) (z + 2) = none := fun i j zero => turn_none ns (z + 2) i j zero
  generalize mkM ns (z + 2) (z + 2) = A at hsq hno
  have hk2 : 2 ≤ z + 2 := by omega
  have hk5 : z + 2 ≤ 5 := by omega
  clear hm e5 em w1 m1 m2
  generalize z + 2 = k at *
  simp -implicitDefEqProofs only [xC_skip, evS, decide_true, decide_false, decide_eq_true_eq, sides, Inst.places, List.zip_cons_cons, List.zip_nil_right, List.zip_nil_left, List.mem_cons, List.not_mem_nil, forall_eq_or_imp, forall_eq, false_implies, implies_true, Apart, xeff, xhv, hv, effC, xev, look, argSl, atL, drops, keep, inBlockT, pickX, callX, callCX, callSX, callee, List.map_cons, List.map_nil, List.append_nil, List.nil_append, List.cons_append, reduceCtorEq, ↓reduceIte, Nat.reduceEqDiff, Nat.reduceAdd, Nat.reduceMul, eq_self, List.length_replicate, Int.reduceToNat, Int.reduceAdd, Int.reduceSub, Int.reduceMul, Int.reduceNeg, Int.reduceLT, Int.reduceLE, rowD, rowI, rowsD, ivD, rowG, rowIG, rowsG, ivG, bne_self_eq_false, beq_self_eq_true, List.length_map, List.getD_cons_zero, List.getD_cons_succ, List.drop_succ_cons, List.drop_zero, List.take_succ_cons, List.take_zero, List.take_nil, List.getElem?_cons_zero, List.getElem?_cons_succ, List.length_cons, List.length_nil, List.length_set, List.set_cons_zero, List.set_cons_succ, List.all_cons, List.all_nil, Nat.reduceLT, Nat.reduceLeDiff, ne_eq, Option.some.injEq, fillV, partsV, V.okPart, gt_iff_lt, ge_iff_le, mkH0]
  refine condC_intro (fun h0 => ?_) (fun h0 => ?_)
  · replace h0 := of_decide_eq_true h0
    omega
  simp -implicitDefEqProofs only [xC_skip, evS, decide_true, decide_false, decide_eq_true_eq, sides, Inst.places, List.zip_cons_cons, List.zip_nil_right, List.zip_nil_left, List.mem_cons, List.not_mem_nil, forall_eq_or_imp, forall_eq, false_implies, implies_true, Apart, xeff, xhv, hv, effC, xev, look, argSl, atL, drops, keep, inBlockT, pickX, callX, callCX, callSX, callee, List.map_cons, List.map_nil, List.append_nil, List.nil_append, List.cons_append, reduceCtorEq, ↓reduceIte, Nat.reduceEqDiff, Nat.reduceAdd, Nat.reduceMul, eq_self, List.length_replicate, Int.reduceToNat, Int.reduceAdd, Int.reduceSub, Int.reduceMul, Int.reduceNeg, Int.reduceLT, Int.reduceLE, rowD, rowI, rowsD, ivD, rowG, rowIG, rowsG, ivG, bne_self_eq_false, beq_self_eq_true, List.length_map, List.getD_cons_zero, List.getD_cons_succ, List.drop_succ_cons, List.drop_zero, List.take_succ_cons, List.take_zero, List.take_nil, List.getElem?_cons_zero, List.getElem?_cons_succ, List.length_cons, List.length_nil, List.length_set, List.set_cons_zero, List.set_cons_succ, List.all_cons, List.all_nil, Nat.reduceLT, Nat.reduceLeDiff, ne_eq, Option.some.injEq, fillV, partsV, V.okPart, gt_iff_lt, ge_iff_le]
  first | refine callG_con (l6_within_con at' k (by omega) (by omega)) rfl ?_ | refine callCG_con (l6_within_con at' k (by omega) (by omega)) rfl ?_ | refine callSG_con (l6_within_con at' k (by omega) (by omega)) rfl ?_
  have q1 := Int.emod_nonneg at' (by omega : (k : Int) ≠ 0)
  have q2 := Int.emod_lt_of_pos at' (by omega : (0 : Int) < (k : Int))
  generalize at' % (k : Int) = i at q1 q2
  obtain ⟨i, rfl⟩ : ∃ i' : Nat, i = i' := ⟨i.toNat, by omega⟩
  simp -implicitDefEqProofs only [xC_skip, evS, decide_true, decide_false, decide_eq_true_eq, sides, Inst.places, List.zip_cons_cons, List.zip_nil_right, List.zip_nil_left, List.mem_cons, List.not_mem_nil, forall_eq_or_imp, forall_eq, false_implies, implies_true, Apart, xeff, xhv, hv, effC, xev, look, argSl, atL, drops, keep, inBlockT, pickX, callX, callCX, callSX, callee, List.map_cons, List.map_nil, List.append_nil, List.nil_append, List.cons_append, reduceCtorEq, ↓reduceIte, Nat.reduceEqDiff, Nat.reduceAdd, Nat.reduceMul, eq_self, List.length_replicate, Int.reduceToNat, Int.reduceAdd, Int.reduceSub, Int.reduceMul, Int.reduceNeg, Int.reduceLT, Int.reduceLE, rowD, rowI, rowsD, ivD, rowG, rowIG, rowsG, ivG, bne_self_eq_false, beq_self_eq_true, List.length_map, List.getD_cons_zero, List.getD_cons_succ, List.drop_succ_cons, List.drop_zero, List.take_succ_cons, List.take_zero, List.take_nil, List.getElem?_cons_zero, List.getElem?_cons_succ, List.length_cons, List.length_nil, List.length_set, List.set_cons_zero, List.set_cons_succ, List.all_cons, List.all_nil, Nat.reduceLT, Nat.reduceLeDiff, ne_eq, Option.some.injEq, fillV, partsV, V.okPart, gt_iff_lt, ge_iff_le]
  first | refine callG_con (l6_within_con by' k (by omega) (by omega)) rfl ?_ | refine callCG_con (l6_within_con by' k (by omega) (by omega)) rfl ?_ | refine callSG_con (l6_within_con by' k (by omega) (by omega)) rfl ?_
  have q3 := Int.emod_nonneg by' (by omega : (k : Int) ≠ 0)
  have q4 := Int.emod_lt_of_pos by' (by omega : (0 : Int) < (k : Int))
  generalize by' % (k : Int) = j at q3 q4
  obtain ⟨j, rfl⟩ : ∃ j' : Nat, j = j' := ⟨j.toNat, by omega⟩
  simp -implicitDefEqProofs only [xC_skip, evS, decide_true, decide_false, decide_eq_true_eq, sides, Inst.places, List.zip_cons_cons, List.zip_nil_right, List.zip_nil_left, List.mem_cons, List.not_mem_nil, forall_eq_or_imp, forall_eq, false_implies, implies_true, Apart, xeff, xhv, hv, effC, xev, look, argSl, atL, drops, keep, inBlockT, pickX, callX, callCX, callSX, callee, List.map_cons, List.map_nil, List.append_nil, List.nil_append, List.cons_append, reduceCtorEq, ↓reduceIte, Nat.reduceEqDiff, Nat.reduceAdd, Nat.reduceMul, eq_self, List.length_replicate, Int.reduceToNat, Int.reduceAdd, Int.reduceSub, Int.reduceMul, Int.reduceNeg, Int.reduceLT, Int.reduceLE, rowD, rowI, rowsD, ivD, rowG, rowIG, rowsG, ivG, bne_self_eq_false, beq_self_eq_true, List.length_map, List.getD_cons_zero, List.getD_cons_succ, List.drop_succ_cons, List.drop_zero, List.take_succ_cons, List.take_zero, List.take_nil, List.getElem?_cons_zero, List.getElem?_cons_succ, List.length_cons, List.length_nil, List.length_set, List.set_cons_zero, List.set_cons_succ, List.all_cons, List.all_nil, Nat.reduceLT, Nat.reduceLeDiff, ne_eq, Option.some.injEq, fillV, partsV, V.okPart, gt_iff_lt, ge_iff_le]
  have hi : i < k := by omega
  refine condC_intro (fun h1 => ?_) (fun h1 => ?_)
  · replace h1 : i = j := by (have := eq_of_beq h1; omega)
    have w1 : IntKind.i64.wrap ((i : Int) + 1) = ((i + 1 : Nat) : Int) := by rw [wrapI (by omega) (by omega)]; omega
    have w2 : Int.tmod ((i + 1 : Nat) : Int) (k : Int) = (((i + 1) % k : Nat) : Int) := by rw [Int.ofNat_tmod]
    have hm1 : (i + 1) % k < k := Nat.mod_lt _ (by omega)
    have hm2 : i ≠ (i + 1) % k := by
      by_cases e : i + 1 = k
      · rw [e, Nat.mod_self]; omega
      · rw [Nat.mod_eq_of_lt (by omega)]; omega
    simp -implicitDefEqProofs only [xC_skip, evS, decide_true, decide_false, decide_eq_true_eq, sides, Inst.places, List.zip_cons_cons, List.zip_nil_right, List.zip_nil_left, List.mem_cons, List.not_mem_nil, forall_eq_or_imp, forall_eq, false_implies, implies_true, Apart, xeff, xhv, hv, effC, xev, look, argSl, atL, drops, keep, inBlockT, pickX, callX, callCX, callSX, callee, List.map_cons, List.map_nil, List.append_nil, List.nil_append, List.cons_append, reduceCtorEq, ↓reduceIte, Nat.reduceEqDiff, Nat.reduceAdd, Nat.reduceMul, eq_self, List.length_replicate, Int.reduceToNat, Int.reduceAdd, Int.reduceSub, Int.reduceMul, Int.reduceNeg, Int.reduceLT, Int.reduceLE, rowD, rowI, rowsD, ivD, rowG, rowIG, rowsG, ivG, bne_self_eq_false, beq_self_eq_true, List.length_map, List.getD_cons_zero, List.getD_cons_succ, List.drop_succ_cons, List.drop_zero, List.take_succ_cons, List.take_zero, List.take_nil, List.getElem?_cons_zero, List.getElem?_cons_succ, List.length_cons, List.length_nil, List.length_set, List.set_cons_zero, List.set_cons_succ, List.all_cons, List.all_nil, Nat.reduceLT, Nat.reduceLeDiff, ne_eq, Option.some.injEq, fillV, partsV, V.okPart, gt_iff_lt, ge_iff_le, w1, w2]
    (repeat (with_reducible refine And.intro (by omega) ?_))
    refine turned_L0 _ A k i ((i + 1) % k) zero hsq (by omega) (by omega) (by omega) _ fun v w => ?_
    simp -implicitDefEqProofs only [xC_skip, evS, decide_true, decide_false, decide_eq_true_eq, sides, Inst.places, List.zip_cons_cons, List.zip_nil_right, List.zip_nil_left, List.mem_cons, List.not_mem_nil, forall_eq_or_imp, forall_eq, false_implies, implies_true, Apart, xeff, xhv, hv, effC, xev, look, argSl, atL, drops, keep, inBlockT, pickX, callX, callCX, callSX, callee, List.map_cons, List.map_nil, List.append_nil, List.nil_append, List.cons_append, reduceCtorEq, ↓reduceIte, Nat.reduceEqDiff, Nat.reduceAdd, Nat.reduceMul, eq_self, List.length_replicate, Int.reduceToNat, Int.reduceAdd, Int.reduceSub, Int.reduceMul, Int.reduceNeg, Int.reduceLT, Int.reduceLE, rowD, rowI, rowsD, ivD, rowG, rowIG, rowsG, ivG, bne_self_eq_false, beq_self_eq_true, List.length_map, List.getD_cons_zero, List.getD_cons_succ, List.drop_succ_cons, List.drop_zero, List.take_succ_cons, List.take_zero, List.take_nil, List.getElem?_cons_zero, List.getElem?_cons_succ, List.length_cons, List.length_nil, List.length_set, List.set_cons_zero, List.set_cons_succ, List.all_cons, List.all_nil, Nat.reduceLT, Nat.reduceLeDiff, ne_eq, Option.some.injEq, fillV, partsV, V.okPart, gt_iff_lt, ge_iff_le]
    by_cases hbig : 2 < k
    · have d : decide ((2 : Int) < (k : Int)) = true := by simp; omega
      cases zero
      · simp -implicitDefEqProofs only [xC_skip, evS, decide_true, decide_false, decide_eq_true_eq, sides, Inst.places, List.zip_cons_cons, List.zip_nil_right, List.zip_nil_left, List.mem_cons, List.not_mem_nil, forall_eq_or_imp, forall_eq, false_implies, implies_true, Apart, xeff, xhv, hv, effC, xev, look, argSl, atL, drops, keep, inBlockT, pickX, callX, callCX, callSX, callee, List.map_cons, List.map_nil, List.append_nil, List.nil_append, List.cons_append, reduceCtorEq, ↓reduceIte, Nat.reduceEqDiff, Nat.reduceAdd, Nat.reduceMul, eq_self, List.length_replicate, Int.reduceToNat, Int.reduceAdd, Int.reduceSub, Int.reduceMul, Int.reduceNeg, Int.reduceLT, Int.reduceLE, rowD, rowI, rowsD, ivD, rowG, rowIG, rowsG, ivG, bne_self_eq_false, beq_self_eq_true, List.length_map, List.getD_cons_zero, List.getD_cons_succ, List.drop_succ_cons, List.drop_zero, List.take_succ_cons, List.take_zero, List.take_nil, List.getElem?_cons_zero, List.getElem?_cons_succ, List.length_cons, List.length_nil, List.length_set, List.set_cons_zero, List.set_cons_succ, List.all_cons, List.all_nil, Nat.reduceLT, Nat.reduceLeDiff, ne_eq, Option.some.injEq, fillV, partsV, V.okPart, gt_iff_lt, ge_iff_le, d]
        exact endsT_rett rfl (by decide) (by simp [look])
      · simp -implicitDefEqProofs only [xC_skip, evS, decide_true, decide_false, decide_eq_true_eq, sides, Inst.places, List.zip_cons_cons, List.zip_nil_right, List.zip_nil_left, List.mem_cons, List.not_mem_nil, forall_eq_or_imp, forall_eq, false_implies, implies_true, Apart, xeff, xhv, hv, effC, xev, look, argSl, atL, drops, keep, inBlockT, pickX, callX, callCX, callSX, callee, List.map_cons, List.map_nil, List.append_nil, List.nil_append, List.cons_append, reduceCtorEq, ↓reduceIte, Nat.reduceEqDiff, Nat.reduceAdd, Nat.reduceMul, eq_self, List.length_replicate, Int.reduceToNat, Int.reduceAdd, Int.reduceSub, Int.reduceMul, Int.reduceNeg, Int.reduceLT, Int.reduceLE, rowD, rowI, rowsD, ivD, rowG, rowIG, rowsG, ivG, bne_self_eq_false, beq_self_eq_true, List.length_map, List.getD_cons_zero, List.getD_cons_succ, List.drop_succ_cons, List.drop_zero, List.take_succ_cons, List.take_zero, List.take_nil, List.getElem?_cons_zero, List.getElem?_cons_succ, List.length_cons, List.length_nil, List.length_set, List.set_cons_zero, List.set_cons_succ, List.all_cons, List.all_nil, Nat.reduceLT, Nat.reduceLeDiff, ne_eq, Option.some.injEq, fillV, partsV, V.okPart, gt_iff_lt, ge_iff_le, d]
        refine part_nil_named _ k (turnM_sq _ _ _ _ _ hsq _) (by omega) (hno i ((i + 1) % k) true hi (by omega) hm2 (.inl rfl)) _ ?_
        simp -implicitDefEqProofs only [xC_skip, evS, decide_true, decide_false, decide_eq_true_eq, sides, Inst.places, List.zip_cons_cons, List.zip_nil_right, List.zip_nil_left, List.mem_cons, List.not_mem_nil, forall_eq_or_imp, forall_eq, false_implies, implies_true, Apart, xeff, xhv, hv, effC, xev, look, argSl, atL, drops, keep, inBlockT, pickX, callX, callCX, callSX, callee, List.map_cons, List.map_nil, List.append_nil, List.nil_append, List.cons_append, reduceCtorEq, ↓reduceIte, Nat.reduceEqDiff, Nat.reduceAdd, Nat.reduceMul, eq_self, List.length_replicate, Int.reduceToNat, Int.reduceAdd, Int.reduceSub, Int.reduceMul, Int.reduceNeg, Int.reduceLT, Int.reduceLE, rowD, rowI, rowsD, ivD, rowG, rowIG, rowsG, ivG, bne_self_eq_false, beq_self_eq_true, List.length_map, List.getD_cons_zero, List.getD_cons_succ, List.drop_succ_cons, List.drop_zero, List.take_succ_cons, List.take_zero, List.take_nil, List.getElem?_cons_zero, List.getElem?_cons_succ, List.length_cons, List.length_nil, List.length_set, List.set_cons_zero, List.set_cons_succ, List.all_cons, List.all_nil, Nat.reduceLT, Nat.reduceLeDiff, ne_eq, Option.some.injEq, fillV, partsV, V.okPart, gt_iff_lt, ge_iff_le, mkH0]
        exact endsT_rett rfl (by decide) (by simp [look])
    · have d : decide ((2 : Int) < (k : Int)) = false := by simp; omega
      simp -implicitDefEqProofs only [xC_skip, evS, decide_true, decide_false, decide_eq_true_eq, sides, Inst.places, List.zip_cons_cons, List.zip_nil_right, List.zip_nil_left, List.mem_cons, List.not_mem_nil, forall_eq_or_imp, forall_eq, false_implies, implies_true, Apart, xeff, xhv, hv, effC, xev, look, argSl, atL, drops, keep, inBlockT, pickX, callX, callCX, callSX, callee, List.map_cons, List.map_nil, List.append_nil, List.nil_append, List.cons_append, reduceCtorEq, ↓reduceIte, Nat.reduceEqDiff, Nat.reduceAdd, Nat.reduceMul, eq_self, List.length_replicate, Int.reduceToNat, Int.reduceAdd, Int.reduceSub, Int.reduceMul, Int.reduceNeg, Int.reduceLT, Int.reduceLE, rowD, rowI, rowsD, ivD, rowG, rowIG, rowsG, ivG, bne_self_eq_false, beq_self_eq_true, List.length_map, List.getD_cons_zero, List.getD_cons_succ, List.drop_succ_cons, List.drop_zero, List.take_succ_cons, List.take_zero, List.take_nil, List.getElem?_cons_zero, List.getElem?_cons_succ, List.length_cons, List.length_nil, List.length_set, List.set_cons_zero, List.set_cons_succ, List.all_cons, List.all_nil, Nat.reduceLT, Nat.reduceLeDiff, ne_eq, Option.some.injEq, fillV, partsV, V.okPart, gt_iff_lt, ge_iff_le, d]
      refine part_nil_named _ k (turnM_sq _ _ _ _ _ hsq _) (by omega) (hno i ((i + 1) % k) zero hi (by omega) hm2 (.inr (by omega))) _ ?_
      simp -implicitDefEqProofs only [xC_skip, evS, decide_true, decide_false, decide_eq_true_eq, sides, Inst.places, List.zip_cons_cons, List.zip_nil_right, List.zip_nil_left, List.mem_cons, List.not_mem_nil, forall_eq_or_imp, forall_eq, false_implies, implies_true, Apart, xeff, xhv, hv, effC, xev, look, argSl, atL, drops, keep, inBlockT, pickX, callX, callCX, callSX, callee, List.map_cons, List.map_nil, List.append_nil, List.nil_append, List.cons_append, reduceCtorEq, ↓reduceIte, Nat.reduceEqDiff, Nat.reduceAdd, Nat.reduceMul, eq_self, List.length_replicate, Int.reduceToNat, Int.reduceAdd, Int.reduceSub, Int.reduceMul, Int.reduceNeg, Int.reduceLT, Int.reduceLE, rowD, rowI, rowsD, ivD, rowG, rowIG, rowsG, ivG, bne_self_eq_false, beq_self_eq_true, List.length_map, List.getD_cons_zero, List.getD_cons_succ, List.drop_succ_cons, List.drop_zero, List.take_succ_cons, List.take_zero, List.take_nil, List.getElem?_cons_zero, List.getElem?_cons_succ, List.length_cons, List.length_nil, List.length_set, List.set_cons_zero, List.set_cons_succ, List.all_cons, List.all_nil, Nat.reduceLT, Nat.reduceLeDiff, ne_eq, Option.some.injEq, fillV, partsV, V.okPart, gt_iff_lt, ge_iff_le, mkH0]
      exact endsT_rett rfl (by decide) (by simp [look])
  · replace h1 : i ≠ j := by (rintro rfl; simp at h1)
    simp -implicitDefEqProofs only [xC_skip, evS, decide_true, decide_false, decide_eq_true_eq, sides, Inst.places, List.zip_cons_cons, List.zip_nil_right, List.zip_nil_left, List.mem_cons, List.not_mem_nil, forall_eq_or_imp, forall_eq, false_implies, implies_true, Apart, xeff, xhv, hv, effC, xev, look, argSl, atL, drops, keep, inBlockT, pickX, callX, callCX, callSX, callee, List.map_cons, List.map_nil, List.append_nil, List.nil_append, List.cons_append, reduceCtorEq, ↓reduceIte, Nat.reduceEqDiff, Nat.reduceAdd, Nat.reduceMul, eq_self, List.length_replicate, Int.reduceToNat, Int.reduceAdd, Int.reduceSub, Int.reduceMul, Int.reduceNeg, Int.reduceLT, Int.reduceLE, rowD, rowI, rowsD, ivD, rowG, rowIG, rowsG, ivG, bne_self_eq_false, beq_self_eq_true, List.length_map, List.getD_cons_zero, List.getD_cons_succ, List.drop_succ_cons, List.drop_zero, List.take_succ_cons, List.take_zero, List.take_nil, List.getElem?_cons_zero, List.getElem?_cons_succ, List.length_cons, List.length_nil, List.length_set, List.set_cons_zero, List.set_cons_succ, List.all_cons, List.all_nil, Nat.reduceLT, Nat.reduceLeDiff, ne_eq, Option.some.injEq, fillV, partsV, V.okPart, gt_iff_lt, ge_iff_le]
    refine turned_L0 _ A k i j zero hsq (by omega) (by omega) (by omega) _ fun v w => ?_
    simp -implicitDefEqProofs only [xC_skip, evS, decide_true, decide_false, decide_eq_true_eq, sides, Inst.places, List.zip_cons_cons, List.zip_nil_right, List.zip_nil_left, List.mem_cons, List.not_mem_nil, forall_eq_or_imp, forall_eq, false_implies, implies_true, Apart, xeff, xhv, hv, effC, xev, look, argSl, atL, drops, keep, inBlockT, pickX, callX, callCX, callSX, callee, List.map_cons, List.map_nil, List.append_nil, List.nil_append, List.cons_append, reduceCtorEq, ↓reduceIte, Nat.reduceEqDiff, Nat.reduceAdd, Nat.reduceMul, eq_self, List.length_replicate, Int.reduceToNat, Int.reduceAdd, Int.reduceSub, Int.reduceMul, Int.reduceNeg, Int.reduceLT, Int.reduceLE, rowD, rowI, rowsD, ivD, rowG, rowIG, rowsG, ivG, bne_self_eq_false, beq_self_eq_true, List.length_map, List.getD_cons_zero, List.getD_cons_succ, List.drop_succ_cons, List.drop_zero, List.take_succ_cons, List.take_zero, List.take_nil, List.getElem?_cons_zero, List.getElem?_cons_succ, List.length_cons, List.length_nil, List.length_set, List.set_cons_zero, List.set_cons_succ, List.all_cons, List.all_nil, Nat.reduceLT, Nat.reduceLeDiff, ne_eq, Option.some.injEq, fillV, partsV, V.okPart, gt_iff_lt, ge_iff_le]
    by_cases hbig : 2 < k
    · have d : decide ((2 : Int) < (k : Int)) = true := by simp; omega
      cases zero
      · simp -implicitDefEqProofs only [xC_skip, evS, decide_true, decide_false, decide_eq_true_eq, sides, Inst.places, List.zip_cons_cons, List.zip_nil_right, List.zip_nil_left, List.mem_cons, List.not_mem_nil, forall_eq_or_imp, forall_eq, false_implies, implies_true, Apart, xeff, xhv, hv, effC, xev, look, argSl, atL, drops, keep, inBlockT, pickX, callX, callCX, callSX, callee, List.map_cons, List.map_nil, List.append_nil, List.nil_append, List.cons_append, reduceCtorEq, ↓reduceIte, Nat.reduceEqDiff, Nat.reduceAdd, Nat.reduceMul, eq_self, List.length_replicate, Int.reduceToNat, Int.reduceAdd, Int.reduceSub, Int.reduceMul, Int.reduceNeg, Int.reduceLT, Int.reduceLE, rowD, rowI, rowsD, ivD, rowG, rowIG, rowsG, ivG, bne_self_eq_false, beq_self_eq_true, List.length_map, List.getD_cons_zero, List.getD_cons_succ, List.drop_succ_cons, List.drop_zero, List.take_succ_cons, List.take_zero, List.take_nil, List.getElem?_cons_zero, List.getElem?_cons_succ, List.length_cons, List.length_nil, List.length_set, List.set_cons_zero, List.set_cons_succ, List.all_cons, List.all_nil, Nat.reduceLT, Nat.reduceLeDiff, ne_eq, Option.some.injEq, fillV, partsV, V.okPart, gt_iff_lt, ge_iff_le, d]
        exact endsT_rett rfl (by decide) (by simp [look])
      · simp -implicitDefEqProofs only [xC_skip, evS, decide_true, decide_false, decide_eq_true_eq, sides, Inst.places, List.zip_cons_cons, List.zip_nil_right, List.zip_nil_left, List.mem_cons, List.not_mem_nil, forall_eq_or_imp, forall_eq, false_implies, implies_true, Apart, xeff, xhv, hv, effC, xev, look, argSl, atL, drops, keep, inBlockT, pickX, callX, callCX, callSX, callee, List.map_cons, List.map_nil, List.append_nil, List.nil_append, List.cons_append, reduceCtorEq, ↓reduceIte, Nat.reduceEqDiff, Nat.reduceAdd, Nat.reduceMul, eq_self, List.length_replicate, Int.reduceToNat, Int.reduceAdd, Int.reduceSub, Int.reduceMul, Int.reduceNeg, Int.reduceLT, Int.reduceLE, rowD, rowI, rowsD, ivD, rowG, rowIG, rowsG, ivG, bne_self_eq_false, beq_self_eq_true, List.length_map, List.getD_cons_zero, List.getD_cons_succ, List.drop_succ_cons, List.drop_zero, List.take_succ_cons, List.take_zero, List.take_nil, List.getElem?_cons_zero, List.getElem?_cons_succ, List.length_cons, List.length_nil, List.length_set, List.set_cons_zero, List.set_cons_succ, List.all_cons, List.all_nil, Nat.reduceLT, Nat.reduceLeDiff, ne_eq, Option.some.injEq, fillV, partsV, V.okPart, gt_iff_lt, ge_iff_le, d]
        refine part_nil_named _ k (turnM_sq _ _ _ _ _ hsq _) (by omega) (hno i j true hi (by omega) h1 (.inl rfl)) _ ?_
        simp -implicitDefEqProofs only [xC_skip, evS, decide_true, decide_false, decide_eq_true_eq, sides, Inst.places, List.zip_cons_cons, List.zip_nil_right, List.zip_nil_left, List.mem_cons, List.not_mem_nil, forall_eq_or_imp, forall_eq, false_implies, implies_true, Apart, xeff, xhv, hv, effC, xev, look, argSl, atL, drops, keep, inBlockT, pickX, callX, callCX, callSX, callee, List.map_cons, List.map_nil, List.append_nil, List.nil_append, List.cons_append, reduceCtorEq, ↓reduceIte, Nat.reduceEqDiff, Nat.reduceAdd, Nat.reduceMul, eq_self, List.length_replicate, Int.reduceToNat, Int.reduceAdd, Int.reduceSub, Int.reduceMul, Int.reduceNeg, Int.reduceLT, Int.reduceLE, rowD, rowI, rowsD, ivD, rowG, rowIG, rowsG, ivG, bne_self_eq_false, beq_self_eq_true, List.length_map, List.getD_cons_zero, List.getD_cons_succ, List.drop_succ_cons, List.drop_zero, List.take_succ_cons, List.take_zero, List.take_nil, List.getElem?_cons_zero, List.getElem?_cons_succ, List.length_cons, List.length_nil, List.length_set, List.set_cons_zero, List.set_cons_succ, List.all_cons, List.all_nil, Nat.reduceLT, Nat.reduceLeDiff, ne_eq, Option.some.injEq, fillV, partsV, V.okPart, gt_iff_lt, ge_iff_le, mkH0]
        exact endsT_rett rfl (by decide) (by simp [look])
    · have d : decide ((2 : Int) < (k : Int)) = false := by simp; omega
      simp -implicitDefEqProofs only [xC_skip, evS, decide_true, decide_false, decide_eq_true_eq, sides, Inst.places, List.zip_cons_cons, List.zip_nil_right, List.zip_nil_left, List.mem_cons, List.not_mem_nil, forall_eq_or_imp, forall_eq, false_implies, implies_true, Apart, xeff, xhv, hv, effC, xev, look, argSl, atL, drops, keep, inBlockT, pickX, callX, callCX, callSX, callee, List.map_cons, List.map_nil, List.append_nil, List.nil_append, List.cons_append, reduceCtorEq, ↓reduceIte, Nat.reduceEqDiff, Nat.reduceAdd, Nat.reduceMul, eq_self, List.length_replicate, Int.reduceToNat, Int.reduceAdd, Int.reduceSub, Int.reduceMul, Int.reduceNeg, Int.reduceLT, Int.reduceLE, rowD, rowI, rowsD, ivD, rowG, rowIG, rowsG, ivG, bne_self_eq_false, beq_self_eq_true, List.length_map, List.getD_cons_zero, List.getD_cons_succ, List.drop_succ_cons, List.drop_zero, List.take_succ_cons, List.take_zero, List.take_nil, List.getElem?_cons_zero, List.getElem?_cons_succ, List.length_cons, List.length_nil, List.length_set, List.set_cons_zero, List.set_cons_succ, List.all_cons, List.all_nil, Nat.reduceLT, Nat.reduceLeDiff, ne_eq, Option.some.injEq, fillV, partsV, V.okPart, gt_iff_lt, ge_iff_le, d]
      refine part_nil_named _ k (turnM_sq _ _ _ _ _ hsq _) (by omega) (hno i j zero hi (by omega) h1 (.inr (by omega))) _ ?_
      simp -implicitDefEqProofs only [xC_skip, evS, decide_true, decide_false, decide_eq_true_eq, sides, Inst.places, List.zip_cons_cons, List.zip_nil_right, List.zip_nil_left, List.mem_cons, List.not_mem_nil, forall_eq_or_imp, forall_eq, false_implies, implies_true, Apart, xeff, xhv, hv, effC, xev, look, argSl, atL, drops, keep, inBlockT, pickX, callX, callCX, callSX, callee, List.map_cons, List.map_nil, List.append_nil, List.nil_append, List.cons_append, reduceCtorEq, ↓reduceIte, Nat.reduceEqDiff, Nat.reduceAdd, Nat.reduceMul, eq_self, List.length_replicate, Int.reduceToNat, Int.reduceAdd, Int.reduceSub, Int.reduceMul, Int.reduceNeg, Int.reduceLT, Int.reduceLE, rowD, rowI, rowsD, ivD, rowG, rowIG, rowsG, ivG, bne_self_eq_false, beq_self_eq_true, List.length_map, List.getD_cons_zero, List.getD_cons_succ, List.drop_succ_cons, List.drop_zero, List.take_succ_cons, List.take_zero, List.take_nil, List.getElem?_cons_zero, List.getElem?_cons_succ, List.length_cons, List.length_nil, List.length_set, List.set_cons_zero, List.set_cons_succ, List.all_cons, List.all_nil, Nat.reduceLT, Nat.reduceLeDiff, ne_eq, Option.some.injEq, fillV, partsV, V.okPart, gt_iff_lt, ge_iff_le, mkH0]
      exact endsT_rett rfl (by decide) (by simp [look])
end Go.Ab
