/- LinUpper: rows that are parted already. -/
import Derived.Test.YtnoeajoeeldimaaLO
import Derived.Test.YtnoeajoeeldimaaZQ
namespace Go.Ab
set_option linter.unusedSimpArgs false
set_option linter.unusedVariables false
open Go Go.Proofs
def A_l6_LinUpper_L1 : CA := (.seq (.seq (.reg [⟨0, (some 32), none, [], [], (.h (.mov (.t 12)))⟩, ⟨1, (some 33), none, [], [], (.h (.mov (.t 11)))⟩, ⟨2, (some 34), none, [], [], (.h (.ibin .lss (.t 32) (.t 33)))⟩] [2, 7, 8, 9, 10, 11, 12, 34]) (.cond (.t 34) .skip (.exit 2))) (.seq (.block 3 (.reg [⟨0, (some 37), none, [], [], (.h (.mov (.t 7)))⟩, ⟨1, (some 38), none, [], [], (.h (.mov (.t 11)))⟩, ⟨2, (some 39), none, [], [], (.h (.idx (.t 37) (.t 38) 1))⟩, ⟨3, (some 40), none, [], [], (.load (.t 39) 1 false)⟩, ⟨4, (some 41), none, [], [], (.h (.mov (.t 12)))⟩, ⟨5, (some 42), none, [], [], (.h (.idx (.t 40) (.t 41) 1))⟩, ⟨6, none, none, [], [], (.store (.t 42) (.k (.d (.flt 0))) 1)⟩] [2, 7, 8, 9, 10, 11, 12])) (.reg [⟨0, (some 35), none, [], [], (.h (.mov (.t 12)))⟩, ⟨1, (some 36), none, [], [], (.h (.ibin .add (.t 35) (.k (.d (.int .i64 1)))))⟩, ⟨2, (some 12), none, [], [], (.h (.mov (.t 36)))⟩] [2, 7, 8, 9, 10, 11, 12])))
def A_l6_LinUpper_L0 : CA := (.seq (.seq (.reg [⟨0, (some 27), none, [], [], (.h (.mov (.t 11)))⟩, ⟨1, (some 28), none, [], [], (.h (.mov (.t 8)))⟩, ⟨2, (some 29), none, [], [], (.h (.ibin .lss (.t 27) (.t 28)))⟩] [2, 7, 8, 9, 10, 11, 29]) (.cond (.t 29) .skip (.exit 0))) (.seq (.block 1 (.seq (.seq (.reg [⟨0, (some 12), none, [], [], (.h (.mov (.k (.d (.int .i64 0)))))⟩] [2, 7, 8, 9, 10, 11, 12]) (.block 2 (.loop A_l6_LinUpper_L1))) (.seq (.reg [⟨0, (some 43), none, [], [], (.h (.mov (.t 7)))⟩, ⟨1, (some 44), none, [], [], (.h (.mov (.t 11)))⟩, ⟨2, (some 45), none, [], [], (.h (.idx (.t 43) (.t 44) 1))⟩, ⟨3, (some 46), none, [], [], (.load (.t 45) 1 false)⟩, ⟨4, (some 47), none, [], [], (.h (.mov (.t 11)))⟩, ⟨5, (some 48), none, [], [], (.h (.idx (.t 46) (.t 47) 1))⟩, ⟨6, none, none, [], [], (.store (.t 48) (.k (.d (.flt 4620693217682128896))) 1)⟩] [2, 7, 8, 9, 10, 11]) (.seq (.reg [⟨0, (some 49), none, [], [], (.h (.mov (.t 11)))⟩, ⟨1, (some 13), none, [], [], (.h (.mov (.t 49)))⟩] [2, 7, 8, 9, 10, 11, 13]) (.seq (.seq (.reg [⟨0, (some 50), none, [], [], (.h (.mov (.t 11)))⟩, ⟨1, (some 51), none, [], [], (.h (.mov (.t 2)))⟩, ⟨2, (some 52), none, [], [], (.h (.len (.t 51)))⟩, ⟨3, (some 53), none, [], [], (.h (.ibin .lss (.t 50) (.t 52)))⟩] [2, 7, 8, 9, 10, 11, 13, 53]) (.cond (.t 53) (.reg [⟨0, (some 54), none, [], [], (.h (.mov (.t 2)))⟩, ⟨1, (some 55), none, [], [], (.h (.mov (.t 11)))⟩, ⟨2, (some 56), none, [], [], (.h (.idx (.t 54) (.t 55) 1))⟩, ⟨3, (some 57), none, [], [], (.load (.t 56) 1 false)⟩, ⟨4, (some 13), none, [], [], (.h (.mov (.t 57)))⟩] [2, 7, 8, 9, 10, 11, 13]) .skip)) (.reg [⟨0, (some 58), none, [], [], (.h (.mov (.t 9)))⟩, ⟨1, (some 59), none, [], [], (.h (.mov (.t 13)))⟩, ⟨2, (some 60), none, [], [], (.callA (.k (.d (.fn 27 [] []))) [(.t 59), (.k (.d (.int .i64 21)))])⟩, ⟨3, (some 61), none, [], [], (.h (.ibin .sub (.t 60) (.k (.d (.int .i64 10)))))⟩, ⟨4, (some 62), none, [], [], (.h (.i2f (.t 61)))⟩, ⟨5, (some 63), none, [], [], (.bslice [(.d (.flt 0))] 1 1 [(0, (1, (.t 62)))] 45)⟩, ⟨6, (some 64), none, [], [], (.app (.t 58) (.t 63) 1 8)⟩, ⟨7, (some 9), none, [], [], (.h (.mov (.t 64)))⟩] [2, 7, 8, 9, 10, 11])))))) (.reg [⟨0, (some 30), none, [], [], (.h (.mov (.t 11)))⟩, ⟨1, (some 31), none, [], [], (.h (.ibin .add (.t 30) (.k (.d (.int .i64 1)))))⟩, ⟨2, (some 11), none, [], [], (.h (.mov (.t 31)))⟩] [2, 7, 8, 9, 10, 11])))
def A_l6_LinUpper_L3 : CA := (.seq (.seq (.reg [⟨0, (some 71), none, [], [], (.h (.mov (.t 16)))⟩, ⟨1, (some 72), none, [], [], (.h (.mov (.t 8)))⟩, ⟨2, (some 73), none, [], [], (.h (.ibin .lss (.t 71) (.t 72)))⟩] [7, 8, 9, 10, 14, 15, 16, 73]) (.cond (.t 73) .skip (.exit 6))) (.seq (.block 7 (.reg [⟨0, (some 76), none, [], [], (.h (.mov (.t 15)))⟩, ⟨1, (some 77), none, [], [], (.h (.mov (.t 7)))⟩, ⟨2, (some 78), none, [], [], (.h (.mov (.t 14)))⟩, ⟨3, (some 79), none, [], [], (.h (.idx (.t 77) (.t 78) 1))⟩, ⟨4, (some 80), none, [], [], (.load (.t 79) 1 false)⟩, ⟨5, (some 81), none, [], [], (.h (.mov (.t 16)))⟩, ⟨6, (some 82), none, [], [], (.h (.idx (.t 80) (.t 81) 1))⟩, ⟨7, (some 83), none, [], [], (.load (.t 82) 1 false)⟩, ⟨8, (some 84), none, [], [], (.h (.mov (.t 9)))⟩, ⟨9, (some 85), none, [], [], (.h (.mov (.t 16)))⟩, ⟨10, (some 86), none, [], [], (.h (.idx (.t 84) (.t 85) 1))⟩, ⟨11, (some 87), none, [], [], (.load (.t 86) 1 false)⟩, ⟨12, (some 88), none, [], [], (.h (.fbin .mul (.t 83) (.t 87)))⟩, ⟨13, (some 89), none, [], [], (.h (.fbin .add (.t 76) (.t 88)))⟩, ⟨14, (some 15), none, [], [], (.h (.mov (.t 89)))⟩] [7, 8, 9, 10, 14, 15, 16])) (.reg [⟨0, (some 74), none, [], [], (.h (.mov (.t 16)))⟩, ⟨1, (some 75), none, [], [], (.h (.ibin .add (.t 74) (.k (.d (.int .i64 1)))))⟩, ⟨2, (some 16), none, [], [], (.h (.mov (.t 75)))⟩] [7, 8, 9, 10, 14, 15, 16])))
def A_l6_LinUpper_L2 : CA := (.seq (.seq (.reg [⟨0, (some 65), none, [], [], (.h (.mov (.t 14)))⟩, ⟨1, (some 66), none, [], [], (.h (.mov (.t 8)))⟩, ⟨2, (some 67), none, [], [], (.h (.ibin .lss (.t 65) (.t 66)))⟩] [7, 8, 9, 10, 14, 67]) (.cond (.t 67) .skip (.exit 4))) (.seq (.block 5 (.seq (.reg [⟨0, (some 15), none, [], [], (.h (.mov (.k (.d (.flt 0)))))⟩] [7, 8, 9, 10, 14, 15]) (.seq (.seq (.reg [⟨0, (some 70), none, [], [], (.h (.mov (.t 14)))⟩, ⟨1, (some 16), none, [], [], (.h (.mov (.t 70)))⟩] [7, 8, 9, 10, 14, 15, 16]) (.block 6 (.loop A_l6_LinUpper_L3))) (.reg [⟨0, (some 90), none, [], [], (.h (.mov (.t 10)))⟩, ⟨1, (some 91), none, [], [], (.h (.mov (.t 15)))⟩, ⟨2, (some 92), none, [], [], (.bslice [(.d (.flt 0))] 1 1 [(0, (1, (.t 91)))] 45)⟩, ⟨3, (some 93), none, [], [], (.app (.t 90) (.t 92) 1 8)⟩, ⟨4, (some 10), none, [], [], (.h (.mov (.t 93)))⟩] [7, 8, 9, 10, 14])))) (.reg [⟨0, (some 68), none, [], [], (.h (.mov (.t 14)))⟩, ⟨1, (some 69), none, [], [], (.h (.ibin .add (.t 68) (.k (.d (.int .i64 1)))))⟩, ⟨2, (some 14), none, [], [], (.h (.mov (.t 69)))⟩] [7, 8, 9, 10, 14])))
def A_l6_LinUpper_L4 : CA := (.seq (.seq (.reg [⟨0, (some 115), none, [], [], (.h (.mov (.t 19)))⟩, ⟨1, (some 116), none, [], [], (.h (.mov (.t 8)))⟩, ⟨2, (some 117), none, [], [], (.h (.ibin .lss (.t 115) (.t 116)))⟩] [8, 9, 10, 17, 19, 117]) (.cond (.t 117) .skip (.exit 8))) (.seq (.block 9 (.seq (.reg [⟨0, (some 120), none, [], [], (.h (.padd (.t 17) 1))⟩, ⟨1, (some 121), none, [], [], (.load (.t 120) 1 false)⟩, ⟨2, (some 122), none, [], [], (.h (.mov (.t 19)))⟩, ⟨3, (some 123), none, [], [], (.h (.idx (.t 121) (.t 122) 1))⟩, ⟨4, (some 124), none, [], [], (.load (.t 123) 1 false)⟩, ⟨5, (some 125), none, [], [], (.h (.mov (.t 19)))⟩, ⟨6, (some 126), none, [], [], (.h (.ibin .neq (.t 124) (.t 125)))⟩] [8, 9, 10, 17, 19, 126]) (.cond (.t 126) (.seq (.reg [⟨0, (some 6), none, [], [], (.h (.mov (.k (.d (.bool false)))))⟩] [6]) .ret) .skip))) (.reg [⟨0, (some 118), none, [], [], (.h (.mov (.t 19)))⟩, ⟨1, (some 119), none, [], [], (.h (.ibin .add (.t 118) (.k (.d (.int .i64 1)))))⟩, ⟨2, (some 19), none, [], [], (.h (.mov (.t 119)))⟩] [8, 9, 10, 17, 19])))
def A_l6_LinUpper : CA := (.seq (.reg [⟨0, (some 6), none, [], [], (.h (.mov (.k (.d (.bool false)))))⟩] [0, 1, 2]) (.seq (.seq (.reg [⟨0, (some 20), none, [], [], (.callA (.k (.d (.fn 13 [] []))) [])⟩, ⟨1, (some 21), none, [], [], (.h (.un .not (.t 20)))⟩] [0, 1, 2, 21]) (.cond (.t 21) (.seq (.reg [⟨0, (some 6), none, [], [], (.h (.mov (.k (.d (.bool false)))))⟩] [6]) .ret) .skip)) (.seq (.reg [⟨0, (some 22), none, [], [], (.h (.mov (.t 0)))⟩, ⟨1, (some 23), none, [], [], (.h (.mov (.t 1)))⟩, ⟨2, (some 24), none, [], [], (.callA (.k (.d (.fn 14 [] []))) [(.t 22), (.t 23), (.k (.d (.int .i64 1)))])⟩, ⟨3, (some 7), none, [], [], (.h (.mov (.t 24)))⟩] [2, 7]) (.seq (.reg [⟨0, (some 25), none, [], [], (.h (.mov (.t 7)))⟩, ⟨1, (some 26), none, [], [], (.h (.len (.t 25)))⟩, ⟨2, (some 8), none, [], [], (.h (.mov (.t 26)))⟩] [2, 7, 8]) (.seq (.reg [⟨0, (some 9), none, [], [], (.h (.mov (.k .nil)))⟩, ⟨1, (some 10), none, [], [], (.h (.mov (.k .nil)))⟩] [2, 7, 8, 9, 10]) (.seq (.seq (.reg [⟨0, (some 11), none, [], [], (.h (.mov (.k (.d (.int .i64 0)))))⟩] [2, 7, 8, 9, 10, 11]) (.block 0 (.loop A_l6_LinUpper_L0))) (.seq (.seq (.reg [⟨0, (some 14), none, [], [], (.h (.mov (.k (.d (.int .i64 0)))))⟩] [7, 8, 9, 10, 14]) (.block 4 (.loop A_l6_LinUpper_L2))) (.seq (.reg [⟨0, (some 95), none, [], [], (.h (.mov (.t 7)))⟩, ⟨1, (some 96), none, [], [], (.callA (.k (.d (.fn 16 [] []))) [(.t 95)])⟩, ⟨2, (some 94), none, [], [], (.h (.mov (.t 96)))⟩, ⟨3, (some 97), none, [], [], (.h (.ext (.t 94) 0))⟩, ⟨4, (some 98), none, [], [], (.h (.ext (.t 94) 1))⟩, ⟨5, (some 17), none, [], [], (.alloc [.nil, .nil] 29)⟩, ⟨6, none, none, [], [], (.store (.t 17) (.t 97) 2)⟩, ⟨7, (some 18), none, [], [], (.h (.mov (.t 98)))⟩] [7, 8, 9, 10, 17, 18]) (.seq (.seq (.reg [⟨0, (some 99), none, [], [], (.h (.mov (.t 18)))⟩, ⟨1, (some 100), none, [], [], (.h (.un .not (.t 99)))⟩, ⟨2, (some 101), none, [], [], (.h (.mov (.t 100)))⟩, ⟨3, (some 102), (some (101, false)), [], [], (.h (.padd (.t 17) 0))⟩, ⟨4, (some 103), (some (101, false)), [], [], (.load (.t 102) 1 false)⟩, ⟨5, (some 104), (some (101, false)), [], [], (.h (.mov (.t 7)))⟩, ⟨6, (some 105), (some (101, false)), [], [], (.callA (.k (.d (.fn 30 [] []))) [(.t 103), (.t 104)])⟩, ⟨7, (some 106), (some (101, false)), [], [], (.h (.un .not (.t 105)))⟩, ⟨8, (some 107), none, [], [], (.h (.pick (.t 101) (.k (.d (.bool true))) (.t 106)))⟩, ⟨9, (some 108), none, [], [], (.h (.mov (.t 107)))⟩, ⟨10, (some 109), (some (108, false)), [], [], (.h (.padd (.t 17) 1))⟩, ⟨11, (some 110), (some (108, false)), [], [], (.load (.t 109) 1 false)⟩, ⟨12, (some 111), (some (108, false)), [], [], (.h (.len (.t 110)))⟩, ⟨13, (some 112), (some (108, false)), [], [], (.h (.mov (.t 8)))⟩, ⟨14, (some 113), (some (108, false)), [], [], (.h (.ibin .neq (.t 111) (.t 112)))⟩, ⟨15, (some 114), none, [], [], (.h (.pick (.t 108) (.k (.d (.bool true))) (.t 113)))⟩] [8, 9, 10, 17, 114]) (.cond (.t 114) (.seq (.reg [⟨0, (some 6), none, [], [], (.h (.mov (.k (.d (.bool false)))))⟩] [6]) .ret) .skip)) (.seq (.seq (.reg [⟨0, (some 19), none, [], [], (.h (.mov (.k (.d (.int .i64 0)))))⟩] [8, 9, 10, 17, 19]) (.block 8 (.loop A_l6_LinUpper_L4))) (.seq (.reg [⟨0, (some 127), none, [], [], (.load (.t 17) 2 true)⟩, ⟨1, (some 128), none, [], [], (.h (.mov (.t 10)))⟩, ⟨2, (some 129), none, [], [], (.callA (.k (.d (.fn 24 [] []))) [(.t 127), (.t 128)])⟩, ⟨3, (some 130), none, [], [], (.h (.mov (.t 9)))⟩, ⟨4, (some 131), none, [], [], (.callA (.k (.d (.fn 23 [] []))) [(.t 129), (.t 130)])⟩, ⟨5, (some 6), none, [], [], (.h (.mov (.t 131)))⟩] [6]) .ret)))))))))))
theorem A_l6_LinUpper_comp : compF Try.prog 10 = some ⟨132, [(6, none)], A_l6_LinUpper.strip⟩ := by kernel_rfl
def eight : Nat := 4620693217682128896
/-- Row i: nothing below its corner. -/
def upJ (A : List (List Nat)) (i : Nat) : Nat → List (List Nat)
  | 0 => A
  | j + 1 => up2 (upJ A i j) i j 0
def upI (A : List (List Nat)) : Nat → List (List Nat)
  | 0 => A
  | i + 1 => up2 (upJ (upI A i) i i) i i eight
theorem upJ_sq (A : List (List Nat)) (n i : Nat) (hA : Sq n A) : ∀ j, Sq n (upJ A i j) := by
  intro j
  induction j with
  | zero => exact hA
  | succ j ih => exact up2_sq _ _ _ _ _ ih
theorem upI_sq (A : List (List Nat)) (n : Nat) (hA : Sq n A) : ∀ i, Sq n (upI A i) := by
  intro i
  induction i with
  | zero => exact hA
  | succ i ih => exact up2_sq _ _ _ _ _ (upJ_sq _ _ _ ih _)
def numX (w : Int) : Nat := FloatKind.nearest .f64 (w % 21 - 10)
def rowX (xs : List Int) (n : Nat) : List Nat := (List.range n).map fun (i : Nat) => numX (if i < xs.length then xs.getD i 0 else i)
theorem rowX_len (xs : List Int) (n : Nat) : (rowX xs n).length = n := by simp [rowX]
theorem rowX_succ (xs : List Int) (n : Nat) : rowV (rowX xs (n + 1)) = rowV (rowX xs n) ++ [fl (numX (if n < xs.length then xs.getD n 0 else n))] := by
  simp [rowX, List.range_succ]
/-- The rows, and a row of numbers beside them. -/
def uppH (X : List Nat) (A : List (List Nat)) (k : Nat) : Heap := [(300, [rowV X]), (200, A.map rowV), (100, [hdo 200 0 k k])]
set_option maxRecDepth 8000 in
theorem upper_L1 (N : Nat → Prop) (A : List (List Nat)) (X : List Nat) (xs : List Int) (k i : Nat) (hA : Sq k A) (hi : i < k) (hk : k < 2 ^ 20) (Q : Ex → T → Prop)
    (hQ : ∀ v w, Q (.exit 2) ⟨[(2, .d (rowI xs)), (7, .sl 100 0 0 k 1 k), (8, fI k), (9, .sl 300 0 0 i 1 i), (10, .nil), (11, fI i), (12, v), (34, w)], uppH X (upJ A i i) k⟩) :
    WA Try.prog N 132 (.loop A_l6_LinUpper_L1) Q ⟨[(2, .d (rowI xs)), (7, .sl 100 0 0 k 1 k), (8, fI k), (9, .sl 300 0 0 i 1 i), (10, .nil), (11, fI i), (12, fI 0)], uppH X A k⟩ := by
  refine WA_for (n := i) (fun c s => ∃ j, c + j = i ∧ s = ⟨[(2, .d (rowI xs)), (7, .sl 100 0 0 k 1 k), (8, fI k), (9, .sl 300 0 0 i 1 i), (10, .nil), (11, fI i), (12, fI j)], uppH X (upJ A i j) k⟩) ⟨0, by omega, rfl⟩ ?_
  rintro c s ⟨j, hc, rfl⟩
  have hB := upJ_sq A k i hA j
  generalize hBe : upJ A i j = B at hB
  have g1 := hB.2 i hi
  have hl := hB.1
  simp -implicitDefEqProofs only [xC_skip, evS, decide_true, decide_false, decide_eq_true_eq, sides, Inst.places, List.zip_cons_cons, List.zip_nil_right, List.zip_nil_left, List.mem_cons, List.not_mem_nil, forall_eq_or_imp, forall_eq, false_implies, implies_true, Apart, xeff, xhv, hv, effC, xev, look, argSl, atL, drops, keep, inBlockT, pickX, callX, callCX, callee, List.map_cons, List.map_nil, List.append_nil, List.nil_append, List.cons_append, reduceCtorEq, ↓reduceIte, Nat.reduceEqDiff, Nat.reduceAdd, Nat.reduceMul, eq_self, List.length_replicate, Int.reduceToNat, Int.reduceAdd, Int.reduceSub, Int.reduceMul, Int.reduceNeg, Int.reduceLT, Int.reduceLE, rowD, rowI, rowsD, ivD, rowG, rowIG, rowsG, ivG, bne_self_eq_false, beq_self_eq_true, List.length_map, List.getD_cons_zero, List.getD_cons_succ, List.drop_succ_cons, List.drop_zero, List.take_succ_cons, List.take_zero, List.take_nil, List.getElem?_cons_zero, List.getElem?_cons_succ, List.length_cons, List.length_nil, List.length_set, List.set_cons_zero, List.set_cons_succ, List.all_cons, List.all_nil, Nat.reduceLT, Nat.reduceLeDiff, ne_eq, Option.some.injEq, fillV, partsV, V.okPart, gt_iff_lt, ge_iff_le, A_l6_LinUpper_L1, uppH]
  refine condC_intro (fun h => ?_) (fun h => ?_)
  · replace h := of_decide_eq_true h
    have hiB : i < B.length := by omega
    simp -implicitDefEqProofs only [xC_skip, evS, decide_true, decide_false, decide_eq_true_eq, sides, Inst.places, List.zip_cons_cons, List.zip_nil_right, List.zip_nil_left, List.mem_cons, List.not_mem_nil, forall_eq_or_imp, forall_eq, false_implies, implies_true, Apart, xeff, xhv, hv, effC, xev, look, argSl, atL, drops, keep, inBlockT, pickX, callX, callCX, callee, List.map_cons, List.map_nil, List.append_nil, List.nil_append, List.cons_append, reduceCtorEq, ↓reduceIte, Nat.reduceEqDiff, Nat.reduceAdd, Nat.reduceMul, eq_self, List.length_replicate, Int.reduceToNat, Int.reduceAdd, Int.reduceSub, Int.reduceMul, Int.reduceNeg, Int.reduceLT, Int.reduceLE, rowD, rowI, rowsD, ivD, rowG, rowIG, rowsG, ivG, bne_self_eq_false, beq_self_eq_true, List.length_map, List.getD_cons_zero, List.getD_cons_succ, List.drop_succ_cons, List.drop_zero, List.take_succ_cons, List.take_zero, List.take_nil, List.getElem?_cons_zero, List.getElem?_cons_succ, List.length_cons, List.length_nil, List.length_set, List.set_cons_zero, List.set_cons_succ, List.all_cons, List.all_nil, Nat.reduceLT, Nat.reduceLeDiff, ne_eq, Option.some.injEq, fillV, partsV, V.okPart, gt_iff_lt, ge_iff_le, hdo_getD _ _ _ _ _ hi, getE B i hiB, setE]
    (repeat (with_reducible refine And.intro (by omega) ?_))
    rw [wrapI (by omega) (by omega)]
    refine ⟨c - 1, by omega, j + 1, by omega, ?_⟩
    simp only [upJ, hBe]; rfl
  · replace h := of_decide_eq_false h
    simp -implicitDefEqProofs only [xC_skip, evS, decide_true, decide_false, decide_eq_true_eq, sides, Inst.places, List.zip_cons_cons, List.zip_nil_right, List.zip_nil_left, List.mem_cons, List.not_mem_nil, forall_eq_or_imp, forall_eq, false_implies, implies_true, Apart, xeff, xhv, hv, effC, xev, look, argSl, atL, drops, keep, inBlockT, pickX, callX, callCX, callee, List.map_cons, List.map_nil, List.append_nil, List.nil_append, List.cons_append, reduceCtorEq, ↓reduceIte, Nat.reduceEqDiff, Nat.reduceAdd, Nat.reduceMul, eq_self, List.length_replicate, Int.reduceToNat, Int.reduceAdd, Int.reduceSub, Int.reduceMul, Int.reduceNeg, Int.reduceLT, Int.reduceLE, rowD, rowI, rowsD, ivD, rowG, rowIG, rowsG, ivG, bne_self_eq_false, beq_self_eq_true, List.length_map, List.getD_cons_zero, List.getD_cons_succ, List.drop_succ_cons, List.drop_zero, List.take_succ_cons, List.take_zero, List.take_nil, List.getElem?_cons_zero, List.getElem?_cons_succ, List.length_cons, List.length_nil, List.length_set, List.set_cons_zero, List.set_cons_succ, List.all_cons, List.all_nil, Nat.reduceLT, Nat.reduceLeDiff, ne_eq, Option.some.injEq, fillV, partsV, V.okPart, gt_iff_lt, ge_iff_le]
    obtain rfl : i = j := by omega
    rw [hBe] at hQ
    exact hQ _ _
theorem uppH_cells (L : Heap) (X : List Nat) (A : List (List Nat)) (k : Nat) (hA : Sq k A) : ∀ Y q c, Heap.get (uppH X A k) Y q = some c → ∀ v ∈ c, LeV L (uppH X A k) (fun X q => (X, q)) v v := by
  intro Y q c h v hv
  have hl := hA.1
  simp only [uppH, get_cons, get_nil] at h
  split at h
  · rcases q with _ | q <;> simp at h
    subst h; exact mem_rowV hv _ _ _
  · split at h
    · rw [List.getElem?_map] at h
      obtain ⟨xs, _, rfl⟩ := Option.map_eq_some_iff.1 h
      exact mem_rowV hv _ _ _
    · split at h
      · rcases q with _ | q <;> simp at h
        subst h
        obtain ⟨j, hj, rfl⟩ := List.mem_map.1 hv
        refine .sl ?_ rfl
        have hj : j < k := by simpa using hj
        rw [uppH, get_cons, if_neg (by decide), get_cons, if_pos rfl, Nat.add_zero, getE A j (by omega)]
        simp
      · cases h
set_option maxRecDepth 8000 in
theorem upper_L0 (N : Nat → Prop) (hN : ∀ Y, ¬ N Y) (A : List (List Nat)) (xs : List Int) (k : Nat) (hA : Sq k A) (hk : k < 2 ^ 20) (hxs : xs.length < 2 ^ 62) (Q : Ex → T → Prop)
    (hQ : ∀ v w, Q (.exit 0) ⟨[(2, .d (rowI xs)), (7, .sl 100 0 0 k 1 k), (8, fI k), (9, .sl 300 0 0 k 1 k), (10, .nil), (11, v), (29, w)], uppH (rowX xs k) (upI A k) k⟩) :
    WA Try.prog N 132 (.loop A_l6_LinUpper_L0) Q ⟨[(2, .d (rowI xs)), (7, .sl 100 0 0 k 1 k), (8, fI k), (9, .nil), (10, .nil), (11, fI 0)], [(200, A.map rowV), (100, [hdo 200 0 k k])]⟩ := by
  refine WA_forW (n := k) (fun c s => ∃ i, c + i = k ∧ s = ⟨[(2, .d (rowI xs)), (7, .sl 100 0 0 k 1 k), (8, fI k), (9, .sl 300 0 0 i 1 i), (10, .nil), (11, fI i)], uppH (rowX xs i) (upI A i) k⟩)
    (s0 := ⟨_, _⟩) (LeT.nilrow (X := 300) (esz := 1) (as' := [(2, .d (rowI xs)), (7, .sl 100 0 0 k 1 k), (8, fI k), (9, .sl 300 0 0 0 1 0), (10, .nil), (11, fI 0)]) (by simp [fam_cons, fam_nil]) (hN _) fun i => ?_) ⟨0, by omega, rfl⟩ ?_
  · simp only [look]
    repeat' split
    all_goals simp [rowI]
  rintro c s ⟨i, hc, rfl⟩
  have hB := upI_sq A k hA i
  generalize hBe : upI A i = B at hB
  have hxl := rowX_len xs i
  simp -implicitDefEqProofs only [xC_skip, evS, decide_true, decide_false, decide_eq_true_eq, sides, Inst.places, List.zip_cons_cons, List.zip_nil_right, List.zip_nil_left, List.mem_cons, List.not_mem_nil, forall_eq_or_imp, forall_eq, false_implies, implies_true, Apart, xeff, xhv, hv, effC, xev, look, argSl, atL, drops, keep, inBlockT, pickX, callX, callCX, callee, List.map_cons, List.map_nil, List.append_nil, List.nil_append, List.cons_append, reduceCtorEq, ↓reduceIte, Nat.reduceEqDiff, Nat.reduceAdd, Nat.reduceMul, eq_self, List.length_replicate, Int.reduceToNat, Int.reduceAdd, Int.reduceSub, Int.reduceMul, Int.reduceNeg, Int.reduceLT, Int.reduceLE, rowD, rowI, rowsD, ivD, rowG, rowIG, rowsG, ivG, bne_self_eq_false, beq_self_eq_true, List.length_map, List.getD_cons_zero, List.getD_cons_succ, List.drop_succ_cons, List.drop_zero, List.take_succ_cons, List.take_zero, List.take_nil, List.getElem?_cons_zero, List.getElem?_cons_succ, List.length_cons, List.length_nil, List.length_set, List.set_cons_zero, List.set_cons_succ, List.all_cons, List.all_nil, Nat.reduceLT, Nat.reduceLeDiff, ne_eq, Option.some.injEq, fillV, partsV, V.okPart, gt_iff_lt, ge_iff_le, A_l6_LinUpper_L0, uppH]
  refine condC_intro (fun h => ?_) (fun h => ?_)
  · replace h := of_decide_eq_true h
    simp -implicitDefEqProofs only [xC_skip, evS, decide_true, decide_false, decide_eq_true_eq, sides, Inst.places, List.zip_cons_cons, List.zip_nil_right, List.zip_nil_left, List.mem_cons, List.not_mem_nil, forall_eq_or_imp, forall_eq, false_implies, implies_true, Apart, xeff, xhv, hv, effC, xev, look, argSl, atL, drops, keep, inBlockT, pickX, callX, callCX, callee, List.map_cons, List.map_nil, List.append_nil, List.nil_append, List.cons_append, reduceCtorEq, ↓reduceIte, Nat.reduceEqDiff, Nat.reduceAdd, Nat.reduceMul, eq_self, List.length_replicate, Int.reduceToNat, Int.reduceAdd, Int.reduceSub, Int.reduceMul, Int.reduceNeg, Int.reduceLT, Int.reduceLE, rowD, rowI, rowsD, ivD, rowG, rowIG, rowsG, ivG, bne_self_eq_false, beq_self_eq_true, List.length_map, List.getD_cons_zero, List.getD_cons_succ, List.drop_succ_cons, List.drop_zero, List.take_succ_cons, List.take_zero, List.take_nil, List.getElem?_cons_zero, List.getElem?_cons_succ, List.length_cons, List.length_nil, List.length_set, List.set_cons_zero, List.set_cons_succ, List.all_cons, List.all_nil, Nat.reduceLT, Nat.reduceLeDiff, ne_eq, Option.some.injEq, fillV, partsV, V.okPart, gt_iff_lt, ge_iff_le]
    refine upper_L1 N B (rowX xs i) xs k i hB h hk _ fun v w => ?_
    have hC := upJ_sq B k i hB i
    have hCe : up2 (upJ B i i) i i eight = upI A (i + 1) := by rw [← hBe]; rfl
    have hD := upI_sq A k hA (i + 1)
    generalize upJ B i i = C at hC hCe
    have g1 := hC.2 i h
    have hl := hC.1
    have hiC : i < C.length := by omega
    simp -implicitDefEqProofs only [xC_skip, evS, decide_true, decide_false, decide_eq_true_eq, sides, Inst.places, List.zip_cons_cons, List.zip_nil_right, List.zip_nil_left, List.mem_cons, List.not_mem_nil, forall_eq_or_imp, forall_eq, false_implies, implies_true, Apart, xeff, xhv, hv, effC, xev, look, argSl, atL, drops, keep, inBlockT, pickX, callX, callCX, callee, List.map_cons, List.map_nil, List.append_nil, List.nil_append, List.cons_append, reduceCtorEq, ↓reduceIte, Nat.reduceEqDiff, Nat.reduceAdd, Nat.reduceMul, eq_self, List.length_replicate, Int.reduceToNat, Int.reduceAdd, Int.reduceSub, Int.reduceMul, Int.reduceNeg, Int.reduceLT, Int.reduceLE, rowD, rowI, rowsD, ivD, rowG, rowIG, rowsG, ivG, bne_self_eq_false, beq_self_eq_true, List.length_map, List.getD_cons_zero, List.getD_cons_succ, List.drop_succ_cons, List.drop_zero, List.take_succ_cons, List.take_zero, List.take_nil, List.getElem?_cons_zero, List.getElem?_cons_succ, List.length_cons, List.length_nil, List.length_set, List.set_cons_zero, List.set_cons_succ, List.all_cons, List.all_nil, Nat.reduceLT, Nat.reduceLeDiff, ne_eq, Option.some.injEq, fillV, partsV, V.okPart, gt_iff_lt, ge_iff_le, uppH, hdo_getD _ _ _ _ _ h, getE C i hiC, setE]
    (repeat (with_reducible refine And.intro (by omega) ?_))
    have hCe' : C.set i ((C.getD i []).set i 4620693217682128896) = upI A (i + 1) := hCe
    rw [hCe']
    have hx := rowX_succ xs i
    have numw : ∀ k : Int, IntKind.i64.wrap (k % 21 - 10) = k % 21 - 10 := by
      intro k
      have h1 := Int.emod_nonneg k (by decide : (21 : Int) ≠ 0)
      have h2 := Int.emod_lt_of_pos k (by decide : (0 : Int) < 21)
      exact wrapI (by omega) (by omega)
    have fin : ∀ (w : Int), w = (if i < xs.length then xs.getD i 0 else i) → ∀ (Y : Nat), Y ≠ 300 → Y ≠ 200 → Y ≠ 100 →
        nextW N 132 (fun c s => ∃ i, c + i = k ∧ s = ⟨[(2, .d (rowI xs)), (7, .sl 100 0 0 k 1 k), (8, fI k), (9, .sl 300 0 0 i 1 i), (10, .nil), (11, fI i)], uppH (rowX xs i) (upI A i) k⟩) c
          ⟨[(2, .d (rowI xs)), (7, .sl 100 0 0 k 1 k), (8, fI k), (9, .sl 300 0 0 (i + 1) 1 (i + 1)), (10, .nil), (11, fI ((i : Int) + 1))], [(Y, [[fl (numX w)]]), (300, [rowV (rowX xs i) ++ [fl (numX w)]]), (200, (upI A (i + 1)).map rowV), (100, [hdo 200 0 k k])]⟩ := by
      intro w hw Y h3 h2 h1
      rw [hw, ← hx]
      refine ⟨c - 1, _, by omega, LeT.dropHd hN (by simp [fam_cons, fam_nil, h3, h2, h1]) (fun p hp => ?_) (uppH_cells _ (rowX xs (i + 1)) (upI A (i + 1)) k hD), i + 1, by omega, rfl⟩
      simp only [List.mem_cons, List.not_mem_nil, or_false] at hp
      rcases hp with rfl | rfl | rfl | rfl | rfl | rfl
      all_goals first | exact .d (.d _) | exact .nil | exact .sl (by simp [get_cons]) rfl
    refine condC_intro (fun h4 => ?_) (fun h4 => ?_)
    · replace h4 := of_decide_eq_true h4
      simp -implicitDefEqProofs only [xC_skip, evS, decide_true, decide_false, decide_eq_true_eq, sides, Inst.places, List.zip_cons_cons, List.zip_nil_right, List.zip_nil_left, List.mem_cons, List.not_mem_nil, forall_eq_or_imp, forall_eq, false_implies, implies_true, Apart, xeff, xhv, hv, effC, xev, look, argSl, atL, drops, keep, inBlockT, pickX, callX, callCX, callee, List.map_cons, List.map_nil, List.append_nil, List.nil_append, List.cons_append, reduceCtorEq, ↓reduceIte, Nat.reduceEqDiff, Nat.reduceAdd, Nat.reduceMul, eq_self, List.length_replicate, Int.reduceToNat, Int.reduceAdd, Int.reduceSub, Int.reduceMul, Int.reduceNeg, Int.reduceLT, Int.reduceLE, rowD, rowI, rowsD, ivD, rowG, rowIG, rowsG, ivG, bne_self_eq_false, beq_self_eq_true, List.length_map, List.getD_cons_zero, List.getD_cons_succ, List.drop_succ_cons, List.drop_zero, List.take_succ_cons, List.take_zero, List.take_nil, List.getElem?_cons_zero, List.getElem?_cons_succ, List.length_cons, List.length_nil, List.length_set, List.set_cons_zero, List.set_cons_succ, List.all_cons, List.all_nil, Nat.reduceLT, Nat.reduceLeDiff, ne_eq, Option.some.injEq, fillV, partsV, V.okPart, gt_iff_lt, ge_iff_le]
      (repeat (with_reducible refine And.intro (by omega) ?_))
      first | refine callG_con (l6_within_con (xs.getD i 0) 21 (by decide) (by decide)) rfl ?_ | refine callCG_con (l6_within_con (xs.getD i 0) 21 (by decide) (by decide)) rfl ?_
      simp -implicitDefEqProofs only [xC_skip, evS, decide_true, decide_false, decide_eq_true_eq, sides, Inst.places, List.zip_cons_cons, List.zip_nil_right, List.zip_nil_left, List.mem_cons, List.not_mem_nil, forall_eq_or_imp, forall_eq, false_implies, implies_true, Apart, xeff, xhv, hv, effC, xev, look, argSl, atL, drops, keep, inBlockT, pickX, callX, callCX, callee, List.map_cons, List.map_nil, List.append_nil, List.nil_append, List.cons_append, reduceCtorEq, ↓reduceIte, Nat.reduceEqDiff, Nat.reduceAdd, Nat.reduceMul, eq_self, List.length_replicate, Int.reduceToNat, Int.reduceAdd, Int.reduceSub, Int.reduceMul, Int.reduceNeg, Int.reduceLT, Int.reduceLE, rowD, rowI, rowsD, ivD, rowG, rowIG, rowsG, ivG, bne_self_eq_false, beq_self_eq_true, List.length_map, List.getD_cons_zero, List.getD_cons_succ, List.drop_succ_cons, List.drop_zero, List.take_succ_cons, List.take_zero, List.take_nil, List.getElem?_cons_zero, List.getElem?_cons_succ, List.length_cons, List.length_nil, List.length_set, List.set_cons_zero, List.set_cons_succ, List.all_cons, List.all_nil, Nat.reduceLT, Nat.reduceLeDiff, ne_eq, Option.some.injEq, fillV, partsV, V.okPart, gt_iff_lt, ge_iff_le, numw]
      (repeat (with_reducible refine And.intro (by omega) ?_))
      rw [wrapI (by omega) (by omega)]
      exact fin (xs.getD i 0) (by rw [if_pos h4]) _ (by decide) (by decide) (by decide)
    · replace h4 := of_decide_eq_false h4
      simp -implicitDefEqProofs only [xC_skip, evS, decide_true, decide_false, decide_eq_true_eq, sides, Inst.places, List.zip_cons_cons, List.zip_nil_right, List.zip_nil_left, List.mem_cons, List.not_mem_nil, forall_eq_or_imp, forall_eq, false_implies, implies_true, Apart, xeff, xhv, hv, effC, xev, look, argSl, atL, drops, keep, inBlockT, pickX, callX, callCX, callee, List.map_cons, List.map_nil, List.append_nil, List.nil_append, List.cons_append, reduceCtorEq, ↓reduceIte, Nat.reduceEqDiff, Nat.reduceAdd, Nat.reduceMul, eq_self, List.length_replicate, Int.reduceToNat, Int.reduceAdd, Int.reduceSub, Int.reduceMul, Int.reduceNeg, Int.reduceLT, Int.reduceLE, rowD, rowI, rowsD, ivD, rowG, rowIG, rowsG, ivG, bne_self_eq_false, beq_self_eq_true, List.length_map, List.getD_cons_zero, List.getD_cons_succ, List.drop_succ_cons, List.drop_zero, List.take_succ_cons, List.take_zero, List.take_nil, List.getElem?_cons_zero, List.getElem?_cons_succ, List.length_cons, List.length_nil, List.length_set, List.set_cons_zero, List.set_cons_succ, List.all_cons, List.all_nil, Nat.reduceLT, Nat.reduceLeDiff, ne_eq, Option.some.injEq, fillV, partsV, V.okPart, gt_iff_lt, ge_iff_le]
      first | refine callG_con (l6_within_con i 21 (by decide) (by decide)) rfl ?_ | refine callCG_con (l6_within_con i 21 (by decide) (by decide)) rfl ?_
      simp -implicitDefEqProofs only [xC_skip, evS, decide_true, decide_false, decide_eq_true_eq, sides, Inst.places, List.zip_cons_cons, List.zip_nil_right, List.zip_nil_left, List.mem_cons, List.not_mem_nil, forall_eq_or_imp, forall_eq, false_implies, implies_true, Apart, xeff, xhv, hv, effC, xev, look, argSl, atL, drops, keep, inBlockT, pickX, callX, callCX, callee, List.map_cons, List.map_nil, List.append_nil, List.nil_append, List.cons_append, reduceCtorEq, ↓reduceIte, Nat.reduceEqDiff, Nat.reduceAdd, Nat.reduceMul, eq_self, List.length_replicate, Int.reduceToNat, Int.reduceAdd, Int.reduceSub, Int.reduceMul, Int.reduceNeg, Int.reduceLT, Int.reduceLE, rowD, rowI, rowsD, ivD, rowG, rowIG, rowsG, ivG, bne_self_eq_false, beq_self_eq_true, List.length_map, List.getD_cons_zero, List.getD_cons_succ, List.drop_succ_cons, List.drop_zero, List.take_succ_cons, List.take_zero, List.take_nil, List.getElem?_cons_zero, List.getElem?_cons_succ, List.length_cons, List.length_nil, List.length_set, List.set_cons_zero, List.set_cons_succ, List.all_cons, List.all_nil, Nat.reduceLT, Nat.reduceLeDiff, ne_eq, Option.some.injEq, fillV, partsV, V.okPart, gt_iff_lt, ge_iff_le, numw]
      (repeat (with_reducible refine And.intro (by omega) ?_))
      rw [wrapI (by omega) (by omega)]
      exact fin i (by rw [if_neg h4]) _ (by decide) (by decide) (by decide)
  · replace h := of_decide_eq_false h
    simp -implicitDefEqProofs only [xC_skip, evS, decide_true, decide_false, decide_eq_true_eq, sides, Inst.places, List.zip_cons_cons, List.zip_nil_right, List.zip_nil_left, List.mem_cons, List.not_mem_nil, forall_eq_or_imp, forall_eq, false_implies, implies_true, Apart, xeff, xhv, hv, effC, xev, look, argSl, atL, drops, keep, inBlockT, pickX, callX, callCX, callee, List.map_cons, List.map_nil, List.append_nil, List.nil_append, List.cons_append, reduceCtorEq, ↓reduceIte, Nat.reduceEqDiff, Nat.reduceAdd, Nat.reduceMul, eq_self, List.length_replicate, Int.reduceToNat, Int.reduceAdd, Int.reduceSub, Int.reduceMul, Int.reduceNeg, Int.reduceLT, Int.reduceLE, rowD, rowI, rowsD, ivD, rowG, rowIG, rowsG, ivG, bne_self_eq_false, beq_self_eq_true, List.length_map, List.getD_cons_zero, List.getD_cons_succ, List.drop_succ_cons, List.drop_zero, List.take_succ_cons, List.take_zero, List.take_nil, List.getElem?_cons_zero, List.getElem?_cons_succ, List.length_cons, List.length_nil, List.length_set, List.set_cons_zero, List.set_cons_succ, List.all_cons, List.all_nil, Nat.reduceLT, Nat.reduceLeDiff, ne_eq, Option.some.injEq, fillV, partsV, V.okPart, gt_iff_lt, ge_iff_le]
    obtain rfl : k = i := by omega
    rw [hBe] at hQ
    exact hQ _ _
def sumU (A : List (List Nat)) (X : List Nat) (i : Nat) : Nat → Nat
  | 0 => 0
  | m + 1 => fop .add (sumU A X i m) (fop .mul (at2 A i (i + m)) (X.getD (i + m) 0))
def rowB (A : List (List Nat)) (X : List Nat) (k n : Nat) : List Nat := (List.range n).map fun i => sumU A X i (k - i)
theorem rowB_len (A : List (List Nat)) (X : List Nat) (k n : Nat) : (rowB A X k n).length = n := by simp [rowB]
theorem rowB_succ (A : List (List Nat)) (X : List Nat) (k n : Nat) : rowV (rowB A X k (n + 1)) = rowV (rowB A X k n) ++ [fl (sumU A X n (k - n))] := by
  simp [rowB, List.range_succ]
def uppB (b X : List Nat) (A : List (List Nat)) (k : Nat) : Heap := (400, [rowV b]) :: uppH X A k
set_option maxRecDepth 8000 in
theorem upper_L3 (N : Nat → Prop) (A : List (List Nat)) (b X : List Nat) (k i : Nat) (vb : V) (hA : Sq k A) (hX : X.length = k) (hi : i < k) (hk : k < 2 ^ 20) (Q : Ex → T → Prop)
    (hQ : ∀ v w, Q (.exit 6) ⟨[(7, .sl 100 0 0 k 1 k), (8, fI k), (9, .sl 300 0 0 k 1 k), (10, vb), (14, fI i), (15, fl (sumU A X i (k - i))), (16, v), (73, w)], uppB b X A k⟩) :
    WA Try.prog N 132 (.loop A_l6_LinUpper_L3) Q ⟨[(7, .sl 100 0 0 k 1 k), (8, fI k), (9, .sl 300 0 0 k 1 k), (10, vb), (14, fI i), (15, fl 0), (16, fI i)], uppB b X A k⟩ := by
  refine WA_for (n := k) (fun c s => ∃ m, c + m = k ∧ i + m ≤ k ∧ s = ⟨[(7, .sl 100 0 0 k 1 k), (8, fI k), (9, .sl 300 0 0 k 1 k), (10, vb), (14, fI i), (15, fl (sumU A X i m)), (16, fI (i + m : Nat))], uppB b X A k⟩) ⟨0, by omega, by omega, rfl⟩ ?_
  rintro c s ⟨m, hc, hm, rfl⟩
  have g1 := hA.2 i hi
  have hl := hA.1
  simp -implicitDefEqProofs only [xC_skip, evS, decide_true, decide_false, decide_eq_true_eq, sides, Inst.places, List.zip_cons_cons, List.zip_nil_right, List.zip_nil_left, List.mem_cons, List.not_mem_nil, forall_eq_or_imp, forall_eq, false_implies, implies_true, Apart, xeff, xhv, hv, effC, xev, look, argSl, atL, drops, keep, inBlockT, pickX, callX, callCX, callee, List.map_cons, List.map_nil, List.append_nil, List.nil_append, List.cons_append, reduceCtorEq, ↓reduceIte, Nat.reduceEqDiff, Nat.reduceAdd, Nat.reduceMul, eq_self, List.length_replicate, Int.reduceToNat, Int.reduceAdd, Int.reduceSub, Int.reduceMul, Int.reduceNeg, Int.reduceLT, Int.reduceLE, rowD, rowI, rowsD, ivD, rowG, rowIG, rowsG, ivG, bne_self_eq_false, beq_self_eq_true, List.length_map, List.getD_cons_zero, List.getD_cons_succ, List.drop_succ_cons, List.drop_zero, List.take_succ_cons, List.take_zero, List.take_nil, List.getElem?_cons_zero, List.getElem?_cons_succ, List.length_cons, List.length_nil, List.length_set, List.set_cons_zero, List.set_cons_succ, List.all_cons, List.all_nil, Nat.reduceLT, Nat.reduceLeDiff, ne_eq, Option.some.injEq, fillV, partsV, V.okPart, gt_iff_lt, ge_iff_le, A_l6_LinUpper_L3, uppB, uppH]
  refine condC_intro (fun h => ?_) (fun h => ?_)
  · replace h := of_decide_eq_true h
    have hiA : i < A.length := by omega
    have e1 : i + m < (A.getD i []).length := by omega
    have e2 : i + m < X.length := by omega
    simp -implicitDefEqProofs only [xC_skip, evS, decide_true, decide_false, decide_eq_true_eq, sides, Inst.places, List.zip_cons_cons, List.zip_nil_right, List.zip_nil_left, List.mem_cons, List.not_mem_nil, forall_eq_or_imp, forall_eq, false_implies, implies_true, Apart, xeff, xhv, hv, effC, xev, look, argSl, atL, drops, keep, inBlockT, pickX, callX, callCX, callee, List.map_cons, List.map_nil, List.append_nil, List.nil_append, List.cons_append, reduceCtorEq, ↓reduceIte, Nat.reduceEqDiff, Nat.reduceAdd, Nat.reduceMul, eq_self, List.length_replicate, Int.reduceToNat, Int.reduceAdd, Int.reduceSub, Int.reduceMul, Int.reduceNeg, Int.reduceLT, Int.reduceLE, rowD, rowI, rowsD, ivD, rowG, rowIG, rowsG, ivG, bne_self_eq_false, beq_self_eq_true, List.length_map, List.getD_cons_zero, List.getD_cons_succ, List.drop_succ_cons, List.drop_zero, List.take_succ_cons, List.take_zero, List.take_nil, List.getElem?_cons_zero, List.getElem?_cons_succ, List.length_cons, List.length_nil, List.length_set, List.set_cons_zero, List.set_cons_succ, List.all_cons, List.all_nil, Nat.reduceLT, Nat.reduceLeDiff, ne_eq, Option.some.injEq, fillV, partsV, V.okPart, gt_iff_lt, ge_iff_le, hdo_getD _ _ _ _ _ hi, getE A i hiA, getD_map_fl _ _ e1, getD_map_fl _ _ e2]
    (repeat (with_reducible refine And.intro (by omega) ?_))
    rw [wrapI (by omega) (by omega)]
    exact ⟨c - 1, by omega, m + 1, by omega, by omega, rfl⟩
  · replace h := of_decide_eq_false h
    simp -implicitDefEqProofs only [xC_skip, evS, decide_true, decide_false, decide_eq_true_eq, sides, Inst.places, List.zip_cons_cons, List.zip_nil_right, List.zip_nil_left, List.mem_cons, List.not_mem_nil, forall_eq_or_imp, forall_eq, false_implies, implies_true, Apart, xeff, xhv, hv, effC, xev, look, argSl, atL, drops, keep, inBlockT, pickX, callX, callCX, callee, List.map_cons, List.map_nil, List.append_nil, List.nil_append, List.cons_append, reduceCtorEq, ↓reduceIte, Nat.reduceEqDiff, Nat.reduceAdd, Nat.reduceMul, eq_self, List.length_replicate, Int.reduceToNat, Int.reduceAdd, Int.reduceSub, Int.reduceMul, Int.reduceNeg, Int.reduceLT, Int.reduceLE, rowD, rowI, rowsD, ivD, rowG, rowIG, rowsG, ivG, bne_self_eq_false, beq_self_eq_true, List.length_map, List.getD_cons_zero, List.getD_cons_succ, List.drop_succ_cons, List.drop_zero, List.take_succ_cons, List.take_zero, List.take_nil, List.getElem?_cons_zero, List.getElem?_cons_succ, List.length_cons, List.length_nil, List.length_set, List.set_cons_zero, List.set_cons_succ, List.all_cons, List.all_nil, Nat.reduceLT, Nat.reduceLeDiff, ne_eq, Option.some.injEq, fillV, partsV, V.okPart, gt_iff_lt, ge_iff_le]
    obtain rfl : k = i + m := by omega
    rw [show i + m - i = m from by omega] at hQ
    exact hQ _ _
theorem uppB_cells (L : Heap) (b X : List Nat) (A : List (List Nat)) (k : Nat) (hA : Sq k A) : ∀ Y q c, Heap.get (uppB b X A k) Y q = some c → ∀ v ∈ c, LeV L (uppB b X A k) (fun X q => (X, q)) v v := by
  intro Y q c h v hv
  have hl := hA.1
  simp only [uppB, uppH, get_cons, get_nil] at h
  split at h
  · rcases q with _ | q <;> simp at h
    subst h; exact mem_rowV hv _ _ _
  · split at h
    · rcases q with _ | q <;> simp at h
      subst h; exact mem_rowV hv _ _ _
    · split at h
      · rw [List.getElem?_map] at h
        obtain ⟨xs, _, rfl⟩ := Option.map_eq_some_iff.1 h
        exact mem_rowV hv _ _ _
      · split at h
        · rcases q with _ | q <;> simp at h
          subst h
          obtain ⟨j, hj, rfl⟩ := List.mem_map.1 hv
          refine .sl ?_ rfl
          have hj : j < k := by simpa using hj
          rw [uppB, get_cons, if_neg (by decide), uppH, get_cons, if_neg (by decide), get_cons, if_pos rfl, Nat.add_zero, getE A j (by omega)]
          simp
        · cases h
set_option maxRecDepth 8000 in
theorem upper_L2 (N : Nat → Prop) (hN : ∀ Y, ¬ N Y) (A : List (List Nat)) (X : List Nat) (k : Nat) (hA : Sq k A) (hX : X.length = k) (hk : k < 2 ^ 20) (Q : Ex → T → Prop)
    (hQ : ∀ v w, Q (.exit 4) ⟨[(7, .sl 100 0 0 k 1 k), (8, fI k), (9, .sl 300 0 0 k 1 k), (10, .sl 400 0 0 k 1 k), (14, v), (67, w)], uppB (rowB A X k k) X A k⟩) :
    WA Try.prog N 132 (.loop A_l6_LinUpper_L2) Q ⟨[(7, .sl 100 0 0 k 1 k), (8, fI k), (9, .sl 300 0 0 k 1 k), (10, .nil), (14, fI 0)], uppH X A k⟩ := by
  refine WA_forW (n := k) (fun c s => ∃ i, c + i = k ∧ s = ⟨[(7, .sl 100 0 0 k 1 k), (8, fI k), (9, .sl 300 0 0 k 1 k), (10, .sl 400 0 0 i 1 i), (14, fI i)], uppB (rowB A X k i) X A k⟩)
    (s0 := ⟨_, _⟩) (LeT.nilrow (X := 400) (esz := 1) (as' := [(7, .sl 100 0 0 k 1 k), (8, fI k), (9, .sl 300 0 0 k 1 k), (10, .sl 400 0 0 0 1 0), (14, fI 0)]) (by simp [uppH, fam_cons, fam_nil]) (hN _) fun i => ?_) ⟨0, by omega, rfl⟩ ?_
  · simp only [look]
    repeat' split
    all_goals simp
  rintro c s ⟨i, hc, rfl⟩
  have hbl := rowB_len A X k i
  simp -implicitDefEqProofs only [xC_skip, evS, decide_true, decide_false, decide_eq_true_eq, sides, Inst.places, List.zip_cons_cons, List.zip_nil_right, List.zip_nil_left, List.mem_cons, List.not_mem_nil, forall_eq_or_imp, forall_eq, false_implies, implies_true, Apart, xeff, xhv, hv, effC, xev, look, argSl, atL, drops, keep, inBlockT, pickX, callX, callCX, callee, List.map_cons, List.map_nil, List.append_nil, List.nil_append, List.cons_append, reduceCtorEq, ↓reduceIte, Nat.reduceEqDiff, Nat.reduceAdd, Nat.reduceMul, eq_self, List.length_replicate, Int.reduceToNat, Int.reduceAdd, Int.reduceSub, Int.reduceMul, Int.reduceNeg, Int.reduceLT, Int.reduceLE, rowD, rowI, rowsD, ivD, rowG, rowIG, rowsG, ivG, bne_self_eq_false, beq_self_eq_true, List.length_map, List.getD_cons_zero, List.getD_cons_succ, List.drop_succ_cons, List.drop_zero, List.take_succ_cons, List.take_zero, List.take_nil, List.getElem?_cons_zero, List.getElem?_cons_succ, List.length_cons, List.length_nil, List.length_set, List.set_cons_zero, List.set_cons_succ, List.all_cons, List.all_nil, Nat.reduceLT, Nat.reduceLeDiff, ne_eq, Option.some.injEq, fillV, partsV, V.okPart, gt_iff_lt, ge_iff_le, A_l6_LinUpper_L2, uppB, uppH]
  refine condC_intro (fun h => ?_) (fun h => ?_)
  · replace h := of_decide_eq_true h
    simp -implicitDefEqProofs only [xC_skip, evS, decide_true, decide_false, decide_eq_true_eq, sides, Inst.places, List.zip_cons_cons, List.zip_nil_right, List.zip_nil_left, List.mem_cons, List.not_mem_nil, forall_eq_or_imp, forall_eq, false_implies, implies_true, Apart, xeff, xhv, hv, effC, xev, look, argSl, atL, drops, keep, inBlockT, pickX, callX, callCX, callee, List.map_cons, List.map_nil, List.append_nil, List.nil_append, List.cons_append, reduceCtorEq, ↓reduceIte, Nat.reduceEqDiff, Nat.reduceAdd, Nat.reduceMul, eq_self, List.length_replicate, Int.reduceToNat, Int.reduceAdd, Int.reduceSub, Int.reduceMul, Int.reduceNeg, Int.reduceLT, Int.reduceLE, rowD, rowI, rowsD, ivD, rowG, rowIG, rowsG, ivG, bne_self_eq_false, beq_self_eq_true, List.length_map, List.getD_cons_zero, List.getD_cons_succ, List.drop_succ_cons, List.drop_zero, List.take_succ_cons, List.take_zero, List.take_nil, List.getElem?_cons_zero, List.getElem?_cons_succ, List.length_cons, List.length_nil, List.length_set, List.set_cons_zero, List.set_cons_succ, List.all_cons, List.all_nil, Nat.reduceLT, Nat.reduceLeDiff, ne_eq, Option.some.injEq, fillV, partsV, V.okPart, gt_iff_lt, ge_iff_le]
    refine upper_L3 N A (rowB A X k i) X k i (.sl 400 0 0 i 1 i) hA hX h hk _ fun v w => ?_
    have hx := rowB_succ A X k i
    generalize sumU A X i (k - i) = s at hx
    simp -implicitDefEqProofs only [xC_skip, evS, decide_true, decide_false, decide_eq_true_eq, sides, Inst.places, List.zip_cons_cons, List.zip_nil_right, List.zip_nil_left, List.mem_cons, List.not_mem_nil, forall_eq_or_imp, forall_eq, false_implies, implies_true, Apart, xeff, xhv, hv, effC, xev, look, argSl, atL, drops, keep, inBlockT, pickX, callX, callCX, callee, List.map_cons, List.map_nil, List.append_nil, List.nil_append, List.cons_append, reduceCtorEq, ↓reduceIte, Nat.reduceEqDiff, Nat.reduceAdd, Nat.reduceMul, eq_self, List.length_replicate, Int.reduceToNat, Int.reduceAdd, Int.reduceSub, Int.reduceMul, Int.reduceNeg, Int.reduceLT, Int.reduceLE, rowD, rowI, rowsD, ivD, rowG, rowIG, rowsG, ivG, bne_self_eq_false, beq_self_eq_true, List.length_map, List.getD_cons_zero, List.getD_cons_succ, List.drop_succ_cons, List.drop_zero, List.take_succ_cons, List.take_zero, List.take_nil, List.getElem?_cons_zero, List.getElem?_cons_succ, List.length_cons, List.length_nil, List.length_set, List.set_cons_zero, List.set_cons_succ, List.all_cons, List.all_nil, Nat.reduceLT, Nat.reduceLeDiff, ne_eq, Option.some.injEq, fillV, partsV, V.okPart, gt_iff_lt, ge_iff_le, uppB, uppH]
    (repeat (with_reducible refine And.intro (by omega) ?_))
    rw [wrapI (by omega) (by omega), ← hx]
    refine ⟨c - 1, _, by omega, LeT.dropHd hN (by simp [fam_cons, fam_nil]) (fun p hp => ?_) (uppB_cells _ (rowB A X k (i + 1)) X A k hA), i + 1, by omega, rfl⟩
    simp only [List.mem_cons, List.not_mem_nil, or_false] at hp
    rcases hp with rfl | rfl | rfl | rfl | rfl
    all_goals first | exact .d (.d _) | exact .sl (by simp [get_cons]) rfl
  · replace h := of_decide_eq_false h
    simp -implicitDefEqProofs only [xC_skip, evS, decide_true, decide_false, decide_eq_true_eq, sides, Inst.places, List.zip_cons_cons, List.zip_nil_right, List.zip_nil_left, List.mem_cons, List.not_mem_nil, forall_eq_or_imp, forall_eq, false_implies, implies_true, Apart, xeff, xhv, hv, effC, xev, look, argSl, atL, drops, keep, inBlockT, pickX, callX, callCX, callee, List.map_cons, List.map_nil, List.append_nil, List.nil_append, List.cons_append, reduceCtorEq, ↓reduceIte, Nat.reduceEqDiff, Nat.reduceAdd, Nat.reduceMul, eq_self, List.length_replicate, Int.reduceToNat, Int.reduceAdd, Int.reduceSub, Int.reduceMul, Int.reduceNeg, Int.reduceLT, Int.reduceLE, rowD, rowI, rowsD, ivD, rowG, rowIG, rowsG, ivG, bne_self_eq_false, beq_self_eq_true, List.length_map, List.getD_cons_zero, List.getD_cons_succ, List.drop_succ_cons, List.drop_zero, List.take_succ_cons, List.take_zero, List.take_nil, List.getElem?_cons_zero, List.getElem?_cons_succ, List.length_cons, List.length_nil, List.length_set, List.set_cons_zero, List.set_cons_succ, List.all_cons, List.all_nil, Nat.reduceLT, Nat.reduceLeDiff, ne_eq, Option.some.injEq, fillV, partsV, V.okPart, gt_iff_lt, ge_iff_le]
    obtain rfl : k = i := by omega
    exact hQ _ _
/-- Rows of the same numbers are the same. -/
theorem sq_ext {A B : List (List Nat)} {n : Nat} (hA : Sq n A) (hB : Sq n B) (h : ∀ r c, r < n → c < n → at2 A r c = at2 B r c) : A = B := by
  refine List.ext_getElem (hA.1.trans hB.1.symm) fun r h1 h2 => ?_
  have hr : r < n := by have := hA.1; omega
  have e1 := hA.2 r hr
  have e2 := hB.2 r hr
  have h := h r
  unfold at2 at h
  have g1 : A.getD r [] = A[r] := by rw [List.getD_eq_getElem?_getD, List.getElem?_eq_getElem h1]; rfl
  have g2 : B.getD r [] = B[r] := by rw [List.getD_eq_getElem?_getD, List.getElem?_eq_getElem h2]; rfl
  rw [g1] at e1
  rw [g2] at e2
  rw [g1, g2] at h
  refine List.ext_getElem (e1.trans e2.symm) fun c h3 h4 => ?_
  have := h c hr (by omega)
  rwa [List.getD_eq_getElem?_getD, List.getD_eq_getElem?_getD, List.getElem?_eq_getElem h3, List.getElem?_eq_getElem h4] at this
theorem upJ_at (A : List (List Nat)) (n i : Nat) (hA : Sq n A) (hi : i < n) : ∀ j, j ≤ n → ∀ r c, at2 (upJ A i j) r c = if r = i ∧ c < j then 0 else at2 A r c := by
  intro j
  induction j with
  | zero => intro _ r c; rw [if_neg (by omega)]; rfl
  | succ j ih =>
    intro hj r c
    simp only [upJ]
    rw [at2_up2 _ n i j _ r c (upJ_sq A n i hA j) hi (by omega), ih (by omega)]
    by_cases e : r = i ∧ c = j
    · rw [if_pos e, if_pos (by omega)]
    · rw [if_neg e]
      by_cases e2 : r = i ∧ c < j
      · rw [if_pos e2, if_pos (by omega)]
      · rw [if_neg e2, if_neg (by omega)]
theorem upI_at (A : List (List Nat)) (n : Nat) (hA : Sq n A) : ∀ i, i ≤ n → ∀ r c, at2 (upI A i) r c = if r < i ∧ c ≤ r then (if c = r then eight else 0) else at2 A r c := by
  intro i
  induction i with
  | zero => intro _ r c; rw [if_neg (by omega)]; rfl
  | succ i ih =>
    intro hi r c
    simp only [upI]
    rw [at2_up2 _ n i i _ r c (upJ_sq _ n i (upI_sq A n hA i) i) (by omega) (by omega), upJ_at _ n i (upI_sq A n hA i) (by omega) i (by omega), ih (by omega)]
    by_cases e : r = i ∧ c = i
    · rw [if_pos e, if_pos (by omega), if_pos (by omega)]
    · rw [if_neg e]
      by_cases e2 : r = i ∧ c < i
      · rw [if_pos e2, if_pos (by omega), if_neg (by omega)]
      · rw [if_neg e2]
        by_cases e3 : r < i ∧ c ≤ r
        · rw [if_pos e3, if_pos (by omega : r < i + 1 ∧ c ≤ r)]
        · rw [if_neg e3, if_neg (by omega : ¬ (r < i + 1 ∧ c ≤ r))]
/-- Rows that are parted already. -/
structure Upp (k : Nat) (U : List (List Nat)) : Prop where
  sq : Sq k U
  low : ∀ r c, r < k → c < r → at2 U r c = 0
  dia : ∀ r, r < k → at2 U r r = eight
  num : ∀ r c, r < c → c < k → ∃ t, t < 33 ∧ at2 U r c = numK t
theorem upp_M (ns : List Int) (k : Nat) : Upp k (upI (mkM ns k k) k) := by
  have hs := mkM_sq ns k
  have e := upI_at (mkM ns k k) k hs k (Nat.le_refl k)
  refine ⟨upI_sq _ _ hs k, fun r c hr hc => ?_, fun r hr => ?_, fun r c hr hc => ?_⟩
  · rw [e, if_pos (by omega), if_neg (by omega)]
  · rw [e, if_pos (by omega), if_pos rfl]
  · rw [e, if_neg (by omega)]
    obtain ⟨w, hw⟩ := mkM_at ns k r c (by omega) hc
    obtain ⟨t, ht, h2⟩ := numM_K w
    exact ⟨t, ht, by rw [hw, h2]⟩
theorem upp_chk1 : ((List.range 33).all fun t => zz (fop .mul 0 (numK t)) && fop .sub (numK t) 0 == numK t && fop .sub (numK t) 9223372036854775808 == numK t) = true := by kernel_rfl
theorem upp_c2 : fop .sub eight 0 = eight ∧ fop .sub eight 9223372036854775808 = eight ∧ fop .sub 0 0 = 0 ∧ fop .sub 0 9223372036854775808 = 0 :=
  ⟨by kernel_rfl, by kernel_rfl, by kernel_rfl, by kernel_rfl⟩
theorem upp_c3 : fop .div 0 eight = 0 ∧ fcmp .gt (fabs 0) (fabs eight) = false ∧ fcmp .eq eight 0 = false ∧ finite eight = true :=
  ⟨by kernel_rfl, by kernel_rfl, by kernel_rfl, by kernel_rfl⟩
theorem upp_sub {k : Nat} {U : List (List Nat)} (h : Upp k U) {r c : Nat} (hr : r < k) (hc : c < k) {y : Nat} (hy : zz y = true) : fop .sub (at2 U r c) y = at2 U r c := by
  simp only [zz, Bool.or_eq_true, beq_iff_eq] at hy
  rcases Nat.lt_trichotomy c r with e | e | e
  · rw [h.low r c hr e]
    rcases hy with rfl | rfl
    · exact upp_c2.2.2.1
    · exact upp_c2.2.2.2
  · subst e
    rw [h.dia c hc]
    rcases hy with rfl | rfl
    · exact upp_c2.1
    · exact upp_c2.2.1
  · obtain ⟨t, ht, e2⟩ := h.num r c e hc
    rw [e2]
    have h := List.all_eq_true.1 upp_chk1 t (by simpa using ht)
    simp only [Bool.and_eq_true, beq_iff_eq] at h
    rcases hy with rfl | rfl
    · exact h.1.2
    · exact h.2
theorem upp_part {k : Nat} {U : List (List Nat)} (h : Upp k U) : ∀ m, m ≤ k → partP U k m = some (U, (List.range k).map fun (i : Nat) => (i : Int)) := by
  intro m
  induction m with
  | zero => intro _; rfl
  | succ m ih =>
    intro hm
    have hpv : ∀ d, m + 1 + d ≤ k → pvP U m d = m := by
      intro d
      induction d with
      | zero => intro _; rfl
      | succ d ihd =>
        intro hd
        simp only [pvP, ihd (by omega)]
        rw [h.low (m + 1 + d) m (by omega) (by omega), h.dia m (by omega), upp_c3.2.1]; rfl
    have hsw : ∀ {α : Type} (d : α) (l : List α), m < l.length → swapL d l m m = l := fun d l hl => swap_same d l m hl
    simp only [partP, ih (by omega), Option.bind_some, stepP]
    rw [hpv _ (by omega), h.dia m (by omega), if_neg (by simp [upp_c3.2.2.1, upp_c3.2.2.2]), hsw _ U (by have := h.sq.1; omega), hsw _ _ (by simp; omega)]
    refine congrArg (fun z => some (z, _)) (sq_ext (elimI_sq U k m h.sq _) h.sq fun r c hr hc => ?_)
    rw [elim_at U k m h.sq (by omega) r c hr hc]
    unfold stepAt multP
    by_cases e1 : r ≤ m ∨ c < m
    · rw [if_pos e1]
    · rw [if_neg e1, h.low r m hr (by omega), h.dia m (by omega), upp_c3.1]
      by_cases e2 : c = m
      · rw [if_pos e2, e2, h.low r m hr (by omega)]
      · rw [if_neg e2]
        obtain ⟨t, ht, e3⟩ := h.num m c (by omega) hc
        rw [e3]
        have hz := List.all_eq_true.1 upp_chk1 t (by simpa using ht)
        simp only [Bool.and_eq_true] at hz
        exact upp_sub h hr hc hz.1.1

/-- Whole numbers, added one by one. -/
def isum (g : Nat → Int) : Nat → Int
  | 0 => 0
  | m + 1 => isum g m + g m
theorem isum_le (g : Nat → Int) (b : Nat) : ∀ m, (∀ j, j < m → (g j).natAbs ≤ b) → (isum g m).natAbs ≤ m * b := by
  intro m
  induction m with
  | zero => intro _; simp [isum]
  | succ m ih =>
    intro h
    have h1 := ih fun j hj => h j (by omega)
    have h2 := h m (by omega)
    simp only [isum]
    rw [Nat.add_mul, Nat.one_mul]; omega
theorem isum_congr {g f : Nat → Int} : ∀ m, (∀ j, j < m → g j = f j) → isum g m = isum f m := by
  intro m
  induction m with
  | zero => intro _; rfl
  | succ m ih => intro h; simp only [isum]; rw [ih (fun j hj => h j (by omega)), h m (by omega)]
theorem isum_first (g : Nat → Int) : ∀ m, isum g (m + 1) = g 0 + isum (fun j => g (j + 1)) m := by
  intro m
  induction m with
  | zero => simp [isum]
  | succ m ih => simp only [isum] at ih ⊢; omega
theorem Ix.seqS {e : Int} {v : Nat} {β : Int} {f : Nat → Nat} {g : Nat → Int} (hv : Ix e v β) (h1 : -1074 ≤ e) (h2 : e ≤ 900) : ∀ m, (∀ j, j < m → Ix e (f j) (g j)) → (∀ j, j ≤ m → (β - isum g j).natAbs < 9007199254740992) → Ix e (Ab.seqS v f m) (β - isum g m) := by
  intro m
  induction m with
  | zero => intro _ _; simpa [Ab.seqS, isum] using hv
  | succ m ih =>
    intro hf hb
    have := (ih (fun j hj => hf j (by omega)) (fun j hj => hb j (by omega))).sub (hf m (by omega)) (by have := hb (m + 1) (Nat.le_refl _); simp only [isum] at this; omega) h1 h2
    simp only [Ab.seqS, isum]
    exact this.cast (by omega)
theorem Ix.any {e : Int} {x : Nat} (h : Ix e x 0) (f : Int) : Ix f x 0 := ⟨h.fin, by rw [h.val]; simp⟩
theorem ix_four : Ix 2 4616189618054758400 1 := by
  have r : Ieee.double.read 4616189618054758400 = .number false 4503599627370496 (-50) := by decide
  refine ⟨⟨_, _, _, r⟩, ?_⟩
  rw [val_eq r]
  have h7 : (2 : Int) = -50 + (52 : Nat) := by decide
  have := (congrArg pw h7).trans (pw_up _ _)
  rw [this]; simp
theorem ix_eight : Ix (-2) eight 32 := by
  have r : Ieee.double.read eight = .number false 4503599627370496 (-49) := by decide
  refine ⟨⟨_, _, _, r⟩, ?_⟩
  rw [val_eq r]
  have h7 : (-2 : Int) = -49 + (47 : Nat) := by decide
  have := (congrArg pw h7).trans (pw_up _ _)
  rw [this]; simp; grind
theorem ix_numK (t : Nat) (ht : t < 33) : Ix (-2) (numK t) ((t : Int) - 16) := by
  unfold numK
  exact (Ix.ofInt ((t : Int) - 16) (by omega)).div ix_four (by decide) (by decide) (by omega) (by omega) (by decide) (by decide)
theorem ix_numX (w : Int) : Ix 0 (numX w) (w % 21 - 10) := by
  unfold numX
  exact Ix.ofInt _ (by omega)
theorem upp_solve {k : Nat} {U : List (List Nat)} (h : Upp k U) (hk : k ≤ 5) (X : List Nat) (ξ : Nat → Int) (hX : ∀ i, i < k → Ix 0 (X.getD i 0) (ξ i) ∧ (ξ i).natAbs ≤ 10) (hl : X.length = k) :
    ∀ i, i < k → Ix 0 ((solveP U ((List.range k).map fun (i : Nat) => (i : Int)) (rowB U X k k) k).getD i 0) (ξ i) := by
  -- the rows' numbers, times 4
  obtain ⟨a, ha⟩ : ∃ a : Nat → Nat → Int, ∀ r c, r < k → c < k → Ix (-2) (at2 U r c) (a r c) ∧ (a r c).natAbs ≤ 32 ∧ (c < r → a r c = 0) ∧ (c = r → a r c = 32) := by
    have key : ∀ r c, ∃ z : Int, r < k → c < k → Ix (-2) (at2 U r c) z ∧ z.natAbs ≤ 32 ∧ (c < r → z = 0) ∧ (c = r → z = 32) := by
      intro r c
      by_cases hr : r < k
      · by_cases hc : c < k
        · rcases Nat.lt_trichotomy c r with e | e | e
          · exact ⟨0, fun _ _ => ⟨by rw [h.low r c hr e]; exact .zero _, by decide, fun _ => rfl, fun _ => by omega⟩⟩
          · exact ⟨32, fun _ _ => ⟨by subst e; rw [h.dia c hr]; exact ix_eight, by decide, fun _ => by omega, fun _ => rfl⟩⟩
          · obtain ⟨t, ht, e2⟩ := h.num r c e hc
            exact ⟨(t : Int) - 16, fun _ _ => ⟨by rw [e2]; exact ix_numK t ht, by omega, fun _ => by omega, fun _ => by omega⟩⟩
        · exact ⟨0, fun _ h => absurd h hc⟩
      · exact ⟨0, fun h => absurd h hr⟩
    exact ⟨fun r c => Classical.choose (key r c), fun r c hr hc => Classical.choose_spec (key r c) hr hc⟩
  have hprod : ∀ r c, r < k → c < k → (a r c * ξ c).natAbs ≤ 320 := by
    intro r c hr hc
    rw [Int.natAbs_mul]
    exact Nat.mul_le_mul (ha r c hr hc).2.1 (hX c hc).2
  have hmul : ∀ r c x, r < k → c < k → Ix 0 x (ξ c) → Ix (-2) (fop .mul (at2 U r c) x) (a r c * ξ c) := by
    intro r c x hr hc hx
    have := (ha r c hr hc).1.mul hx (by have := hprod r c hr hc; omega) (by decide) (by decide)
    exact this
  -- what is asked for
  have hb : ∀ i, i < k → Ix (-2) ((rowB U X k k).getD i 0) (isum (fun m => a i (i + m) * ξ (i + m)) (k - i)) := by
    intro i hi
    have e : (rowB U X k k).getD i 0 = sumU U X i (k - i) := by simp [rowB, List.getD_eq_getElem?_getD, hi]
    rw [e]
    have : ∀ m, i + m ≤ k → Ix (-2) (sumU U X i m) (isum (fun m => a i (i + m) * ξ (i + m)) m) := by
      intro m
      induction m with
      | zero => intro _; exact .zero _
      | succ m ih =>
        intro hm
        have hle := isum_le (fun m => a i (i + m) * ξ (i + m)) 320 (m + 1) (fun j hj => hprod i (i + j) hi (by omega))
        simp only [isum] at hle
        have := (ih (by omega)).add (hmul i (i + m) _ hi (by omega) (hX _ (by omega)).1) (by omega) (by decide) (by decide)
        exact this
    exact this (k - i) (by omega)
  have hbb : ∀ i, i < k → (isum (fun m => a i (i + m) * ξ (i + m)) (k - i)).natAbs ≤ 1600 := by
    intro i hi
    have := isum_le (fun m => a i (i + m) * ξ (i + m)) 320 (k - i) (fun j hj => hprod i (i + j) hi (by omega))
    omega
  obtain ⟨y, hy, hx⟩ := solve_spec U ((List.range k).map fun (i : Nat) => (i : Int)) (rowB U X k k) k
  generalize hS : solveP U ((List.range k).map fun (i : Nat) => (i : Int)) (rowB U X k k) k = x at hx
  have hyv : ∀ n i, i < n → i < k → Ix (-2) (y i) (isum (fun m => a i (i + m) * ξ (i + m)) (k - i)) := by
    intro n
    induction n with
    | zero => intro i hi; omega
    | succ n ih =>
      intro i hi hik
      rw [hy i hik]
      have e : (((List.range k).map fun (i : Nat) => (i : Int)).getD i 0).toNat = i := by simp [List.getD_eq_getElem?_getD, hik]
      rw [e]
      have z : isum (fun _ => (0 : Int)) = fun _ => 0 := by
        funext m
        induction m with
        | zero => rfl
        | succ m ih => simp [isum, ih]
      have hq := (hb i hik).seqS (f := fun j => fop .mul (at2 U i j) (y j)) (g := fun _ => 0) (by decide) (by decide) i (fun j hj => ?_) (fun j hj => ?_)
      · rw [z] at hq; exact hq.cast (Int.sub_zero _)
      · rw [h.low i j hik hj]
        have hyj := ih j (by omega) (by omega)
        have := (Ix.zero (-2)).mul hyj (by rw [Int.zero_mul]; decide) (by decide) (by decide)
        rw [Int.zero_mul] at this
        exact this.any _
      · rw [z]
        have := hbb i hik
        show (isum (fun m => a i (i + m) * ξ (i + m)) (k - i) - 0).natAbs < 9007199254740992
        omega
  have hxv : ∀ n i, k - i < n → i < k → Ix 0 (x.getD i 0) (ξ i) := by
    intro n
    induction n with
    | zero => intro i hi; omega
    | succ n ih =>
      intro i hi hik
      rw [hx i hik, h.dia i hik]
      have hpart : ∀ m, m ≤ k - 1 - i → (isum (fun j => a i (i + 1 + j) * ξ (i + 1 + j)) m).natAbs ≤ m * 320 := fun m hm => isum_le _ 320 m (fun j hj => hprod i (i + 1 + j) hik (by omega))
      have hq := (hyv k i hik hik).seqS (f := fun j => fop .mul (at2 U i (i + 1 + j)) (x.getD (i + 1 + j) 0)) (g := fun j => a i (i + 1 + j) * ξ (i + 1 + j)) (by decide) (by decide) (k - 1 - i)
        (fun j hj => hmul i (i + 1 + j) _ hik (by omega) (ih (i + 1 + j) (by omega) (by omega)))
        (fun j hj => by have := hbb i hik; have := hpart j hj; omega)
      have hval : isum (fun m => a i (i + m) * ξ (i + m)) (k - i) - isum (fun j => a i (i + 1 + j) * ξ (i + 1 + j)) (k - 1 - i) = ξ i * 32 := by
        rw [show k - i = (k - 1 - i) + 1 from by omega, isum_first]
        have e2 : isum (fun j => a i (i + (j + 1)) * ξ (i + (j + 1))) (k - 1 - i) = isum (fun j => a i (i + 1 + j) * ξ (i + 1 + j)) (k - 1 - i) := isum_congr _ fun j _ => by rw [show i + (j + 1) = i + 1 + j from by omega]
        rw [e2, Nat.add_zero, (ha i i hik hik).2.2.2 rfl]; omega
      exact hq.div ix_eight (by decide) (by decide) hval (by have := (hX i hik).2; omega) (by decide) (by decide)
  exact fun i hi => hxv (k + 1) i (by omega) hi
theorem rowX_ix (xs : List Int) (k i : Nat) (hi : i < k) : ∃ z : Int, Ix 0 ((rowX xs k).getD i 0) z ∧ z.natAbs ≤ 10 := by
  refine ⟨(if i < xs.length then xs.getD i 0 else (i : Int)) % 21 - 10, ?_, by omega⟩
  have e : (rowX xs k).getD i 0 = numX (if i < xs.length then xs.getD i 0 else i) := by simp [rowX, List.getD_eq_getElem?_getD, hi]
  rw [e]; exact ix_numX _
theorem upp_law (ns xs : List Int) (k : Nat) (hk : k ≤ 5) : partP (upI (mkM ns k k) k) k k = some (upI (mkM ns k k) k, (List.range k).map fun (i : Nat) => (i : Int)) ∧
    ∀ i, i < k → fsame ((solveP (upI (mkM ns k k) k) ((List.range k).map fun (i : Nat) => (i : Int)) (rowB (upI (mkM ns k k) k) (rowX xs k) k k) k).getD i 0) ((rowX xs k).getD i 0) = true := by
  have hU := upp_M ns k
  refine ⟨upp_part hU k (Nat.le_refl k), fun i hi => ?_⟩
  have key : ∀ i, ∃ z : Int, i < k → Ix 0 ((rowX xs k).getD i 0) z ∧ z.natAbs ≤ 10 := fun i => by
    by_cases h : i < k
    · obtain ⟨z, hz⟩ := rowX_ix xs k i h; exact ⟨z, fun _ => hz⟩
    · exact ⟨0, fun h' => absurd h' h⟩
  have hX : ∀ i, i < k → Ix 0 ((rowX xs k).getD i 0) (Classical.choose (key i)) ∧ (Classical.choose (key i)).natAbs ≤ 10 := fun i hi => Classical.choose_spec (key i) hi
  have := (upp_solve hU hk (rowX xs k) (fun i => Classical.choose (key i)) hX (rowX_len _ _) i hi).eq (hX i hi).1
  unfold fsame
  rw [this]; rfl
set_option maxRecDepth 8000 in
theorem upper_L4 (N : Nat → Prop) (k p : Nat) (v9 v10 : V) (L : Heap) (hk : k < 2 ^ 20) (h1 : L.get p 0 = some [.sl 1002 0 0 k 1 k, .sl 1005 0 0 k 1 k]) (h2 : L.get 1005 0 = some (rowIV ((List.range k).map fun (i : Nat) => (i : Int)))) (Q : Ex → T → Prop)
    (hQ : ∀ v w, Q (.exit 8) ⟨[(8, fI k), (9, v9), (10, v10), (17, .ptr p 0 0 2), (19, v), (117, w)], L⟩) :
    WA Try.prog N 132 (.loop A_l6_LinUpper_L4) Q ⟨[(8, fI k), (9, v9), (10, v10), (17, .ptr p 0 0 2), (19, fI 0)], L⟩ := by
  refine WA_for (n := k) (fun c s => ∃ i, c + i = k ∧ s = ⟨[(8, fI k), (9, v9), (10, v10), (17, .ptr p 0 0 2), (19, fI i)], L⟩) ⟨0, by omega, rfl⟩ ?_
  rintro c s ⟨i, hc, rfl⟩
  have hl : ((List.range k).map fun (i : Nat) => (i : Int)).length = k := by simp
  simp -implicitDefEqProofs only [xC_skip, evS, decide_true, decide_false, decide_eq_true_eq, sides, Inst.places, List.zip_cons_cons, List.zip_nil_right, List.zip_nil_left, List.mem_cons, List.not_mem_nil, forall_eq_or_imp, forall_eq, false_implies, implies_true, Apart, xeff, xhv, hv, effC, xev, look, argSl, atL, drops, keep, inBlockT, pickX, callX, callCX, callee, List.map_cons, List.map_nil, List.append_nil, List.nil_append, List.cons_append, reduceCtorEq, ↓reduceIte, Nat.reduceEqDiff, Nat.reduceAdd, Nat.reduceMul, eq_self, List.length_replicate, Int.reduceToNat, Int.reduceAdd, Int.reduceSub, Int.reduceMul, Int.reduceNeg, Int.reduceLT, Int.reduceLE, rowD, rowI, rowsD, ivD, rowG, rowIG, rowsG, ivG, bne_self_eq_false, beq_self_eq_true, List.length_map, List.getD_cons_zero, List.getD_cons_succ, List.drop_succ_cons, List.drop_zero, List.take_succ_cons, List.take_zero, List.take_nil, List.getElem?_cons_zero, List.getElem?_cons_succ, List.length_cons, List.length_nil, List.length_set, List.set_cons_zero, List.set_cons_succ, List.all_cons, List.all_nil, Nat.reduceLT, Nat.reduceLeDiff, ne_eq, Option.some.injEq, fillV, partsV, V.okPart, gt_iff_lt, ge_iff_le, A_l6_LinUpper_L4]
  refine condC_intro (fun h => ?_) (fun h => ?_)
  · replace h := of_decide_eq_true h
    have e0 : ((List.range k).map fun (i : Nat) => (i : Int)).getD i 0 = i := by simp [List.getD_eq_getElem?_getD, h]
    generalize ((List.range k).map fun (i : Nat) => (i : Int)) = π at h2 hl e0
    have e1 : i < π.length := by omega
    simp -implicitDefEqProofs only [xC_skip, evS, decide_true, decide_false, decide_eq_true_eq, sides, Inst.places, List.zip_cons_cons, List.zip_nil_right, List.zip_nil_left, List.mem_cons, List.not_mem_nil, forall_eq_or_imp, forall_eq, false_implies, implies_true, Apart, xeff, xhv, hv, effC, xev, look, argSl, atL, drops, keep, inBlockT, pickX, callX, callCX, callee, List.map_cons, List.map_nil, List.append_nil, List.nil_append, List.cons_append, reduceCtorEq, ↓reduceIte, Nat.reduceEqDiff, Nat.reduceAdd, Nat.reduceMul, eq_self, List.length_replicate, Int.reduceToNat, Int.reduceAdd, Int.reduceSub, Int.reduceMul, Int.reduceNeg, Int.reduceLT, Int.reduceLE, rowD, rowI, rowsD, ivD, rowG, rowIG, rowsG, ivG, bne_self_eq_false, beq_self_eq_true, List.length_map, List.getD_cons_zero, List.getD_cons_succ, List.drop_succ_cons, List.drop_zero, List.take_succ_cons, List.take_zero, List.take_nil, List.getElem?_cons_zero, List.getElem?_cons_succ, List.length_cons, List.length_nil, List.length_set, List.set_cons_zero, List.set_cons_succ, List.all_cons, List.all_nil, Nat.reduceLT, Nat.reduceLeDiff, ne_eq, Option.some.injEq, fillV, partsV, V.okPart, gt_iff_lt, ge_iff_le, h1, h2, getD_rowIV _ _ e1, e0]
    (repeat (with_reducible refine And.intro (by omega) ?_))
    rw [wrapI (by omega) (by omega)]
    exact ⟨c - 1, by omega, i + 1, by omega, rfl⟩
  · replace h := of_decide_eq_false h
    simp -implicitDefEqProofs only [xC_skip, evS, decide_true, decide_false, decide_eq_true_eq, sides, Inst.places, List.zip_cons_cons, List.zip_nil_right, List.zip_nil_left, List.mem_cons, List.not_mem_nil, forall_eq_or_imp, forall_eq, false_implies, implies_true, Apart, xeff, xhv, hv, effC, xev, look, argSl, atL, drops, keep, inBlockT, pickX, callX, callCX, callee, List.map_cons, List.map_nil, List.append_nil, List.nil_append, List.cons_append, reduceCtorEq, ↓reduceIte, Nat.reduceEqDiff, Nat.reduceAdd, Nat.reduceMul, eq_self, List.length_replicate, Int.reduceToNat, Int.reduceAdd, Int.reduceSub, Int.reduceMul, Int.reduceNeg, Int.reduceLT, Int.reduceLE, rowD, rowI, rowsD, ivD, rowG, rowIG, rowsG, ivG, bne_self_eq_false, beq_self_eq_true, List.length_map, List.getD_cons_zero, List.getD_cons_succ, List.drop_succ_cons, List.drop_zero, List.take_succ_cons, List.take_zero, List.take_nil, List.getElem?_cons_zero, List.getElem?_cons_succ, List.length_cons, List.length_nil, List.length_set, List.set_cons_zero, List.set_cons_succ, List.all_cons, List.all_nil, Nat.reduceLT, Nat.reduceLeDiff, ne_eq, Option.some.injEq, fillV, partsV, V.okPart, gt_iff_lt, ge_iff_le]
    exact hQ _ _
set_option maxRecDepth 8000 in
theorem l6_LinUpper_con (n : Int) (ns xs : List Int) (hns : ns.length < 2 ^ 62) (hxs : xs.length < 2 ^ 62) : Con Try.prog 10 [fI n, .d (rowI ns), .d (rowI xs)] (fB true) := by
  refine Con_introA A_l6_LinUpper_comp rfl mixed ?_
  simp -implicitDefEqProofs only [xC_skip, evS, decide_true, decide_false, decide_eq_true_eq, sides, Inst.places, List.zip_cons_cons, List.zip_nil_right, List.zip_nil_left, List.mem_cons, List.not_mem_nil, forall_eq_or_imp, forall_eq, false_implies, implies_true, Apart, xeff, xhv, hv, effC, xev, look, argSl, atL, drops, keep, inBlockT, pickX, callX, callCX, callee, List.map_cons, List.map_nil, List.append_nil, List.nil_append, List.cons_append, reduceCtorEq, ↓reduceIte, Nat.reduceEqDiff, Nat.reduceAdd, Nat.reduceMul, eq_self, List.length_replicate, Int.reduceToNat, Int.reduceAdd, Int.reduceSub, Int.reduceMul, Int.reduceNeg, Int.reduceLT, Int.reduceLE, rowD, rowI, rowsD, ivD, rowG, rowIG, rowsG, ivG, bne_self_eq_false, beq_self_eq_true, List.length_map, List.getD_cons_zero, List.getD_cons_succ, List.drop_succ_cons, List.drop_zero, List.take_succ_cons, List.take_zero, List.take_nil, List.getElem?_cons_zero, List.getElem?_cons_succ, List.length_cons, List.length_nil, List.length_set, List.set_cons_zero, List.set_cons_succ, List.all_cons, List.all_nil, Nat.reduceLT, Nat.reduceLeDiff, ne_eq, Option.some.injEq, fillV, partsV, V.okPart, gt_iff_lt, ge_iff_le, A_l6_LinUpper]
  first | refine callG_con (l6_known_con) rfl ?_ | refine callCG_con (l6_known_con) rfl ?_
  simp -implicitDefEqProofs only [xC_skip, evS, decide_true, decide_false, decide_eq_true_eq, sides, Inst.places, List.zip_cons_cons, List.zip_nil_right, List.zip_nil_left, List.mem_cons, List.not_mem_nil, forall_eq_or_imp, forall_eq, false_implies, implies_true, Apart, xeff, xhv, hv, effC, xev, look, argSl, atL, drops, keep, inBlockT, pickX, callX, callCX, callee, List.map_cons, List.map_nil, List.append_nil, List.nil_append, List.cons_append, reduceCtorEq, ↓reduceIte, Nat.reduceEqDiff, Nat.reduceAdd, Nat.reduceMul, eq_self, List.length_replicate, Int.reduceToNat, Int.reduceAdd, Int.reduceSub, Int.reduceMul, Int.reduceNeg, Int.reduceLT, Int.reduceLE, rowD, rowI, rowsD, ivD, rowG, rowIG, rowsG, ivG, bne_self_eq_false, beq_self_eq_true, List.length_map, List.getD_cons_zero, List.getD_cons_succ, List.drop_succ_cons, List.drop_zero, List.take_succ_cons, List.take_zero, List.take_nil, List.getElem?_cons_zero, List.getElem?_cons_succ, List.length_cons, List.length_nil, List.length_set, List.set_cons_zero, List.set_cons_succ, List.all_cons, List.all_nil, Nat.reduceLT, Nat.reduceLeDiff, ne_eq, Option.some.injEq, fillV, partsV, V.okPart, gt_iff_lt, ge_iff_le]
  have hm := l6_Make_ac n 1 ns hns
  have m1 := Int.emod_nonneg n (by decide : (5 : Int) ≠ 0)
  have m2 := Int.emod_lt_of_pos n (by decide : (0 : Int) < 5)
  have em : makeM n ns 1 = mkM ns ((n % 5).toNat + 1) ((n % 5).toNat + 1) := by
    unfold makeM
    rw [if_neg (by decide)]
  rw [em] at hm
  have hk1 : 0 < (n % 5).toNat + 1 := by omega
  have hk5 : (n % 5).toNat + 1 ≤ 5 := by omega
  generalize (n % 5).toNat + 1 = k at *
  refine callG_ac hm ?_
  have hsq := mkM_sq ns k
  generalize hM : mkM ns k k = M at *
  simp -implicitDefEqProofs only [xC_skip, evS, decide_true, decide_false, decide_eq_true_eq, sides, Inst.places, List.zip_cons_cons, List.zip_nil_right, List.zip_nil_left, List.mem_cons, List.not_mem_nil, forall_eq_or_imp, forall_eq, false_implies, implies_true, Apart, xeff, xhv, hv, effC, xev, look, argSl, atL, drops, keep, inBlockT, pickX, callX, callCX, callee, List.map_cons, List.map_nil, List.append_nil, List.nil_append, List.cons_append, reduceCtorEq, ↓reduceIte, Nat.reduceEqDiff, Nat.reduceAdd, Nat.reduceMul, eq_self, List.length_replicate, Int.reduceToNat, Int.reduceAdd, Int.reduceSub, Int.reduceMul, Int.reduceNeg, Int.reduceLT, Int.reduceLE, rowD, rowI, rowsD, ivD, rowG, rowIG, rowsG, ivG, bne_self_eq_false, beq_self_eq_true, List.length_map, List.getD_cons_zero, List.getD_cons_succ, List.drop_succ_cons, List.drop_zero, List.take_succ_cons, List.take_zero, List.take_nil, List.getElem?_cons_zero, List.getElem?_cons_succ, List.length_cons, List.length_nil, List.length_set, List.set_cons_zero, List.set_cons_succ, List.all_cons, List.all_nil, Nat.reduceLT, Nat.reduceLeDiff, ne_eq, Option.some.injEq, fillV, partsV, V.okPart, gt_iff_lt, ge_iff_le, mkH0]
  refine upper_L0 _ (fun _ h => h) M xs k hsq (by omega) hxs _ fun v w => ?_
  simp -implicitDefEqProofs only [xC_skip, evS, decide_true, decide_false, decide_eq_true_eq, sides, Inst.places, List.zip_cons_cons, List.zip_nil_right, List.zip_nil_left, List.mem_cons, List.not_mem_nil, forall_eq_or_imp, forall_eq, false_implies, implies_true, Apart, xeff, xhv, hv, effC, xev, look, argSl, atL, drops, keep, inBlockT, pickX, callX, callCX, callee, List.map_cons, List.map_nil, List.append_nil, List.nil_append, List.cons_append, reduceCtorEq, ↓reduceIte, Nat.reduceEqDiff, Nat.reduceAdd, Nat.reduceMul, eq_self, List.length_replicate, Int.reduceToNat, Int.reduceAdd, Int.reduceSub, Int.reduceMul, Int.reduceNeg, Int.reduceLT, Int.reduceLE, rowD, rowI, rowsD, ivD, rowG, rowIG, rowsG, ivG, bne_self_eq_false, beq_self_eq_true, List.length_map, List.getD_cons_zero, List.getD_cons_succ, List.drop_succ_cons, List.drop_zero, List.take_succ_cons, List.take_zero, List.take_nil, List.getElem?_cons_zero, List.getElem?_cons_succ, List.length_cons, List.length_nil, List.length_set, List.set_cons_zero, List.set_cons_succ, List.all_cons, List.all_nil, Nat.reduceLT, Nat.reduceLeDiff, ne_eq, Option.some.injEq, fillV, partsV, V.okPart, gt_iff_lt, ge_iff_le]
  refine upper_L2 _ (fun _ h => h) (upI M k) (rowX xs k) k (upI_sq _ _ hsq k) (rowX_len _ _) (by omega) _ fun v w => ?_
  simp -implicitDefEqProofs only [xC_skip, evS, decide_true, decide_false, decide_eq_true_eq, sides, Inst.places, List.zip_cons_cons, List.zip_nil_right, List.zip_nil_left, List.mem_cons, List.not_mem_nil, forall_eq_or_imp, forall_eq, false_implies, implies_true, Apart, xeff, xhv, hv, effC, xev, look, argSl, atL, drops, keep, inBlockT, pickX, callX, callCX, callee, List.map_cons, List.map_nil, List.append_nil, List.nil_append, List.cons_append, reduceCtorEq, ↓reduceIte, Nat.reduceEqDiff, Nat.reduceAdd, Nat.reduceMul, eq_self, List.length_replicate, Int.reduceToNat, Int.reduceAdd, Int.reduceSub, Int.reduceMul, Int.reduceNeg, Int.reduceLT, Int.reduceLE, rowD, rowI, rowsD, ivD, rowG, rowIG, rowsG, ivG, bne_self_eq_false, beq_self_eq_true, List.length_map, List.getD_cons_zero, List.getD_cons_succ, List.drop_succ_cons, List.drop_zero, List.take_succ_cons, List.take_zero, List.take_nil, List.getElem?_cons_zero, List.getElem?_cons_succ, List.length_cons, List.length_nil, List.length_set, List.set_cons_zero, List.set_cons_succ, List.all_cons, List.all_nil, Nat.reduceLT, Nat.reduceLeDiff, ne_eq, Option.some.injEq, fillV, partsV, V.okPart, gt_iff_lt, ge_iff_le, uppB, uppH]
  obtain ⟨hp, hx⟩ := upp_law ns xs k hk5
  rw [hM] at hp hx
  have hU := upI_sq M k hsq k
  have hpm := partP_pm _ _ _ (Nat.le_refl _) _ _ hp
  have hXl := rowX_len xs k
  have hbl := rowB_len (upI M k) (rowX xs k) k k
  generalize rowB (upI M k) (rowX xs k) k k = b at hbl hx
  generalize upI M k = U at *
  generalize rowX xs k = X at *
  have hUl := hU.1
  refine part_named 1000 (by simp [Heap.next]) hU (by omega) (X := 200) (o := 0) (by simp [get_cons]) (fun r hr => ?_) hp _ ?_
  · simp only [get_cons, Nat.reduceEqDiff, if_false, if_true, Nat.add_zero]
    exact getE U r (by omega)
  simp -implicitDefEqProofs only [xC_skip, evS, decide_true, decide_false, decide_eq_true_eq, sides, Inst.places, List.zip_cons_cons, List.zip_nil_right, List.zip_nil_left, List.mem_cons, List.not_mem_nil, forall_eq_or_imp, forall_eq, false_implies, implies_true, Apart, xeff, xhv, hv, effC, xev, look, argSl, atL, drops, keep, inBlockT, pickX, callX, callCX, callee, List.map_cons, List.map_nil, List.append_nil, List.nil_append, List.cons_append, reduceCtorEq, ↓reduceIte, Nat.reduceEqDiff, Nat.reduceAdd, Nat.reduceMul, eq_self, List.length_replicate, Int.reduceToNat, Int.reduceAdd, Int.reduceSub, Int.reduceMul, Int.reduceNeg, Int.reduceLT, Int.reduceLE, rowD, rowI, rowsD, ivD, rowG, rowIG, rowsG, ivG, bne_self_eq_false, beq_self_eq_true, List.length_map, List.getD_cons_zero, List.getD_cons_succ, List.drop_succ_cons, List.drop_zero, List.take_succ_cons, List.take_zero, List.take_nil, List.getElem?_cons_zero, List.getElem?_cons_succ, List.length_cons, List.length_nil, List.length_set, List.set_cons_zero, List.set_cons_succ, List.all_cons, List.all_nil, Nat.reduceLT, Nat.reduceLeDiff, ne_eq, Option.some.injEq, fillV, partsV, V.okPart, gt_iff_lt, ge_iff_le]
  have hUr : ∀ r, r < k → (U.map rowV)[r]? = some (rowV (U.getD r [])) := fun r hr => getE U r (by omega)
  refine callG_snap (us := [.d (rowsD U), .d (rowsD U)]) (r1_Tables_con U (by omega) (fun i hi => by have := hU.2 i (by omega); omega)) rfl (fun j hj => ?_) (.bool _) ?_
  · rcases j with _ | _ | j
    · refine snp_rows (X := 1002) (o := 1) (by simp [get_cons]) (fun r hr => ⟨?_, hU.2 r hr⟩) hUl rfl
      simp only [get_cons, Nat.reduceEqDiff, if_false, if_true, List.getElem?_cons_succ]
      exact hUr r hr
    · refine snp_rows (X := 200) (o := 0) (by simp [get_cons]) (fun r hr => ⟨?_, hU.2 r hr⟩) hUl rfl
      simp only [get_cons, Nat.reduceEqDiff, if_false, if_true, Nat.add_zero]
      exact hUr r hr
    · simp at hj; omega
  have hll : ((List.range k).map fun (i : Nat) => (i : Int)).length = k := by simp
  simp -implicitDefEqProofs only [xC_skip, evS, decide_true, decide_false, decide_eq_true_eq, sides, Inst.places, List.zip_cons_cons, List.zip_nil_right, List.zip_nil_left, List.mem_cons, List.not_mem_nil, forall_eq_or_imp, forall_eq, false_implies, implies_true, Apart, xeff, xhv, hv, effC, xev, look, argSl, atL, drops, keep, inBlockT, pickX, callX, callCX, callee, List.map_cons, List.map_nil, List.append_nil, List.nil_append, List.cons_append, reduceCtorEq, ↓reduceIte, Nat.reduceEqDiff, Nat.reduceAdd, Nat.reduceMul, eq_self, List.length_replicate, Int.reduceToNat, Int.reduceAdd, Int.reduceSub, Int.reduceMul, Int.reduceNeg, Int.reduceLT, Int.reduceLE, rowD, rowI, rowsD, ivD, rowG, rowIG, rowsG, ivG, bne_self_eq_false, beq_self_eq_true, List.length_map, List.getD_cons_zero, List.getD_cons_succ, List.drop_succ_cons, List.drop_zero, List.take_succ_cons, List.take_zero, List.take_nil, List.getElem?_cons_zero, List.getElem?_cons_succ, List.length_cons, List.length_nil, List.length_set, List.set_cons_zero, List.set_cons_succ, List.all_cons, List.all_nil, Nat.reduceLT, Nat.reduceLeDiff, ne_eq, Option.some.injEq, fillV, partsV, V.okPart, gt_iff_lt, ge_iff_le, bne_self_eq_false]
  (repeat (with_reducible refine And.intro (by omega) ?_))
  refine upper_L4 _ k 406 _ _ _ (by omega) (by simp [get_cons]) (by simp [get_cons]) _ fun v w => ?_
  simp -implicitDefEqProofs only [xC_skip, evS, decide_true, decide_false, decide_eq_true_eq, sides, Inst.places, List.zip_cons_cons, List.zip_nil_right, List.zip_nil_left, List.mem_cons, List.not_mem_nil, forall_eq_or_imp, forall_eq, false_implies, implies_true, Apart, xeff, xhv, hv, effC, xev, look, argSl, atL, drops, keep, inBlockT, pickX, callX, callCX, callee, List.map_cons, List.map_nil, List.append_nil, List.nil_append, List.cons_append, reduceCtorEq, ↓reduceIte, Nat.reduceEqDiff, Nat.reduceAdd, Nat.reduceMul, eq_self, List.length_replicate, Int.reduceToNat, Int.reduceAdd, Int.reduceSub, Int.reduceMul, Int.reduceNeg, Int.reduceLT, Int.reduceLE, rowD, rowI, rowsD, ivD, rowG, rowIG, rowsG, ivG, bne_self_eq_false, beq_self_eq_true, List.length_map, List.getD_cons_zero, List.getD_cons_succ, List.drop_succ_cons, List.drop_zero, List.take_succ_cons, List.take_zero, List.take_nil, List.getElem?_cons_zero, List.getElem?_cons_succ, List.length_cons, List.length_nil, List.length_set, List.set_cons_zero, List.set_cons_succ, List.all_cons, List.all_nil, Nat.reduceLT, Nat.reduceLeDiff, ne_eq, Option.some.injEq, fillV, partsV, V.okPart, gt_iff_lt, ge_iff_le]
  (repeat (with_reducible refine And.intro (by omega) ?_))
  refine solve_named 2000 (by simp [Heap.next]) hU (by omega) (X := 1002) (o := 1) (by simp [get_cons]) (fun r hr => ?_) (by simp [get_cons]) hpm hbl (snp_row (by simp [get_cons]) hbl rfl) _ ?_
  · simp only [get_cons, Nat.reduceEqDiff, if_false, if_true, List.getElem?_cons_succ]
    exact hUr r hr
  have hsl : (solveP U ((List.range k).map fun (i : Nat) => (i : Int)) b k).length = k := by simp [solveP, bckI_len, fwdI_len]
  generalize solveP U ((List.range k).map fun (i : Nat) => (i : Int)) b k = y at hx hsl
  simp -implicitDefEqProofs only [xC_skip, evS, decide_true, decide_false, decide_eq_true_eq, sides, Inst.places, List.zip_cons_cons, List.zip_nil_right, List.zip_nil_left, List.mem_cons, List.not_mem_nil, forall_eq_or_imp, forall_eq, false_implies, implies_true, Apart, xeff, xhv, hv, effC, xev, look, argSl, atL, drops, keep, inBlockT, pickX, callX, callCX, callee, List.map_cons, List.map_nil, List.append_nil, List.nil_append, List.cons_append, reduceCtorEq, ↓reduceIte, Nat.reduceEqDiff, Nat.reduceAdd, Nat.reduceMul, eq_self, List.length_replicate, Int.reduceToNat, Int.reduceAdd, Int.reduceSub, Int.reduceMul, Int.reduceNeg, Int.reduceLT, Int.reduceLE, rowD, rowI, rowsD, ivD, rowG, rowIG, rowsG, ivG, bne_self_eq_false, beq_self_eq_true, List.length_map, List.getD_cons_zero, List.getD_cons_succ, List.drop_succ_cons, List.drop_zero, List.take_succ_cons, List.take_zero, List.take_nil, List.getElem?_cons_zero, List.getElem?_cons_succ, List.length_cons, List.length_nil, List.length_set, List.set_cons_zero, List.set_cons_succ, List.all_cons, List.all_nil, Nat.reduceLT, Nat.reduceLeDiff, ne_eq, Option.some.injEq, fillV, partsV, V.okPart, gt_iff_lt, ge_iff_le]
  refine callG_snap (us := [.d (rowD y), .d (rowD X)]) (r1_Rows_gen y X (by omega) (by omega) (fun i hi => hx i (by omega))) rfl (fun j hj => ?_) (.bool _) ?_
  · rcases j with _ | _ | j
    · exact snp_row (by simp [get_cons]) hsl rfl
    · exact snp_row (by simp [get_cons]) hXl rfl
    · simp at hj; omega
  simp -implicitDefEqProofs only [xC_skip, evS, decide_true, decide_false, decide_eq_true_eq, sides, Inst.places, List.zip_cons_cons, List.zip_nil_right, List.zip_nil_left, List.mem_cons, List.not_mem_nil, forall_eq_or_imp, forall_eq, false_implies, implies_true, Apart, xeff, xhv, hv, effC, xev, look, argSl, atL, drops, keep, inBlockT, pickX, callX, callCX, callee, List.map_cons, List.map_nil, List.append_nil, List.nil_append, List.cons_append, reduceCtorEq, ↓reduceIte, Nat.reduceEqDiff, Nat.reduceAdd, Nat.reduceMul, eq_self, List.length_replicate, Int.reduceToNat, Int.reduceAdd, Int.reduceSub, Int.reduceMul, Int.reduceNeg, Int.reduceLT, Int.reduceLE, rowD, rowI, rowsD, ivD, rowG, rowIG, rowsG, ivG, bne_self_eq_false, beq_self_eq_true, List.length_map, List.getD_cons_zero, List.getD_cons_succ, List.drop_succ_cons, List.drop_zero, List.take_succ_cons, List.take_zero, List.take_nil, List.getElem?_cons_zero, List.getElem?_cons_succ, List.length_cons, List.length_nil, List.length_set, List.set_cons_zero, List.set_cons_succ, List.all_cons, List.all_nil, Nat.reduceLT, Nat.reduceLeDiff, ne_eq, Option.some.injEq, fillV, partsV, V.okPart, gt_iff_lt, ge_iff_le]
  exact endsT_rett rfl (by decide) (by simp [look])
end Go.Ab
