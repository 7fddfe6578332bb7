/- Part 16: SK, MA, SM, SN, SO, SP, SR, ST, SU, BT, BW, BX. -/
import Derived.Test.YtloimimehbehoaaGreatGO
namespace Go.Ab
set_option linter.unusedSimpArgs false
set_option linter.unusedVariables false
open Nat renaming reduceEqDiff → n1_, reduceAdd → n2_, reduceMul → n3_, reduceLT → n4_, reduceLeDiff → n5_
open Int renaming reduceToNat → i1_, reduceAdd → i2_, reduceSub → i3_, reduceMul → i4_, reduceNeg → i5_, reduceLT → i6_, reduceLE → i7_
open Go Go.Proofs
def A_r10_Try : CA := (.seq (.reg [i_X 0 2 (.box (.t 0) 13 33), i_X 1 3 (.box (.t 1) 8 39), i_X 2 4 (.alloc [(.d (.int .i64 0)), (.d (.int .i64 0)), (.d (.int .i64 0)), (.d (.int .i64 0)), .nil, (.d (.int .i64 0)), (.d (.int .i64 0)), (.d (.int .i64 0)), (.d (.int .i64 0)), (.d (.int .i64 0)), (.d (.int .i64 0)), (.d (.int .i64 0)), .nil, (.d (.bool false)), (.d (.flt 0)), (.d (.int .i64 0))] 43)] [2, 3, 4]) (.seq (.reg [i_P 0 11 3 0, i_P 1 12 11 4, i_L 2 13 12 1, i_X 3 14 (.callA (kF 27) [(.t 13)]), i_M 4 5 14] [2, 3, 4, 5]) (.seq (.reg [i_P 0 16 3 0, i_P 1 17 16 3, i_L 2 18 17 1, i_P 3 19 3 0, i_P 4 20 19 2, i_L 5 21 20 1, i_X 6 22 (.callA (kF 28) [(.t 18), (.t 21)]), i_M 7 15 22, i_X 8 23 (.h (.ext (.t 15) 0)), i_X 9 24 (.h (.ext (.t 15) 1)), i_M 10 6 23, i_M 11 7 24] [2, 3, 4, 5, 6]) (.seq (.reg [i_P 0 25 3 0, i_P 1 26 25 4, i_L 2 27 26 1, i_X 3 28 (.h (.idx (.t 27) (kI 0) 1)), i_L 4 29 28 1, i_P 5 30 2 8, i_L 6 31 30 1, i_P 7 32 2 9, i_L 8 33 32 1, i_X 9 34 (.callA (kF 29) [(.t 29), (.t 31), (.t 33)]), i_M 10 8 34] [2, 3, 4, 5, 6, 8]) (.seq (.reg [i_P 0 35 2 0, i_A 1 36 35 3, i_M 2 37 5, i_M 3 38 6, i_P 4 39 3 0, i_P 5 40 39 1, i_L 6 41 40 1, i_P 7 42 3 0, i_P 8 43 42 3, i_L 9 44 43 1, i_M 10 45 8, i_X 11 46 (.callA (kF 30) [(.t 36), (.t 37), (.t 38), (.t 41), (.t 44), (.t 45)]), i_X 12 9 (.alloc [.nil, (.d (.int .i64 0)), (.d (.int .i64 0))] 74), i_S 13 9 46 3] [2, 3, 4, 5, 6, 8, 9]) (.seq (.seq (.reg [i_P 0 47 9 2, i_L 1 48 47 1, i_B 2 49 .neq 48 0] [2, 3, 4, 5, 6, 8, 9, 49]) (.cond (.t 49) (.seq (.reg [i_A 0 50 2 13, i_A 1 51 3 8, i_P 2 52 9 2, i_L 3 53 52 1, i_X 4 54 (.callA (kF 31) [(.t 50), (.t 51), (.t 53), (.k (.d (.flt 0)))]), i_S 5 4 54 16] [4]) .ret) .skip)) (.seq (.reg [i_P 0 55 9 0, i_L 1 56 55 1, i_M 2 57 8, i_X 3 58 (.callS 0 (kF 32) [(.t 56), (.t 57)]), i_P 4 59 3 0, i_P 5 60 59 2, i_L 6 61 60 1, i_B 7 62 .add 61 1, i_X 8 63 (.h (.i2f (.t 62))), i_F 9 64 .div 58 63, i_M 10 10 64] [2, 3, 4, 5, 6, 9, 10]) (.seq (.seq (.reg [i_M 0 65 10, i_X 1 66 (.h (.fcmp .le (.t 65) (.k (.d (.flt 4607182418800017408)))))] [2, 3, 4, 5, 6, 9, 10, 66]) (.cond (.t 66) (.seq (.reg [i_A 0 67 2 13, i_A 1 68 3 8, i_M 2 69 5, i_M 3 70 6, i_P 4 71 9 0, i_L 5 72 71 1, i_M 6 73 10, i_X 7 74 (.callA (kF 33) [(.t 67), (.t 68), (.t 69), (.t 70), (.t 72), (.t 73)]), i_S 8 4 74 16] [4]) .ret) .skip)) (.seq (.reg [i_A 0 75 2 13, i_A 1 76 3 8, i_M 2 77 10, i_X 3 78 (.callA (kF 31) [(.t 75), (.t 76), (kI 0), (.t 77)]), i_S 4 4 78 16] [4]) .ret)))))))))
theorem A_r10_Try_comp : compF Tryz.prog 16 = some ⟨79, [(4, (some (16, true)))], A_r10_Try.strip⟩ := by kernel_rfl
theorem le_sum (Lr : Heap) (n k : Nat) (g : List Nat) (e : Int) (h : Lr.get 0 0 = some (rowV g)) (hg : g.length = n) : LeV Lr [] (fun X r => (X, r)) (.agg [.sl 0 0 0 n 1 n, fI k, fI e]) (sumV (g, k, e)) :=
  Fz_agg _ _ ⟨Fz_row h hg rfl (get_nil _ _), Fz_d _, Fz_d _, trivial⟩
theorem le_sumN (Lr : Heap) (k : Nat) (e : Int) : LeV Lr [] (fun X r => (X, r)) (.agg [.nil, fI k, fI e]) (sumV ([], k, e)) :=
  Fz_agg _ _ ⟨.d (.nil _), Fz_d _, Fz_d _, trivial⟩
theorem r9_Solve_con (t : Tp) (z : List (List Nat)) (l : List Nat) (h : Nat) (w : List Nat) (step : Int) (m : Int) (hn0 : 0 < t.n) (ok : Sok t z l w (List.replicate t.n 0)) (hh : fop .div (FloatKind.nearest .f64 step) 4742290407621132288 = h) :
    Con Tryz.prog 30 [tapeV t, .d (rowsD z), .d (rowD l), fI step, fI m, .d (rowD w)] (sumV (solG t z l h w m)) := by
  rcases solG_form t z l h w m with ⟨g, k, hg, he⟩ | ⟨k, e, hne, he⟩
  · rw [he]; exact Con_of_AC (r9_SolveG_ok t z l h w step m hn0 ok hh g k he) (le_sum _ _ _ _ _ rfl hg)
  · rw [he]; exact Con_of_AC (r9_SolveG_no t z l h w step m hn0 ok hh k e hne he) (le_sumN _ _ _)
theorem hW_div (j : Nat) : fop .div (FloatKind.nearest .f64 ((2 ^ j : Nat) : Int)) 4742290407621132288 = hW (2 ^ j) := by
  unfold hW; rw [show FloatKind.nearest .f64 1073741824 = 4742290407621132288 by kernel_rfl]
set_option maxRecDepth 16000 in
theorem r10_Try_con (p : Pb) (s : Sta) (hp : Pok p) (hs : s.ok p.t) : Con Tryz.prog 16 [pbV p, staV s] (trdV (tryP p s)) := by
  have hs' := hs
  obtain ⟨hn, hg, hf, hsl⟩ := hs
  obtain ⟨hm, ⟨j, hj, hst⟩, hk, hc, hpos⟩ := hn
  obtain ⟨⟨pos, st, o, m, z⟩, g, f, sl⟩ := s
  simp only at hm hst hk hc hpos hg hf hsl
  have hsr := pow_range j hj
  obtain ⟨q, rfl⟩ : ∃ q : Nat, o = q := ⟨o.toNat, by omega⟩
  rw [Int.toNat_natCast] at hk
  have hm' : (m = 0 ∧ 1 ≤ q ∧ q ≤ 5) ∨ (m = 1 ∧ 1 ≤ q ∧ q ≤ 4) := by omega
  have hpn := hp.t.n
  have hq9 : q < 1000 := by omega
  have hn40 : p.t.n < 2 ^ 40 := by omega
  have hZ := predP_rk hk q
  have hpred := r8_Predict_con z q p.t.n hk hq9 hn40
  obtain ⟨hof, hofl⟩ := r7_Of_ok m q hm'
  have hz0 := hk.2 0 (by omega)
  have hzl := hk.1
  have hwt := r9_Weights_con (z.getD 0 []) p.atol p.rtol (by omega)
  have hwl : (wtP (z.getD 0 []) p.atol p.rtol).length = p.t.n := by rw [wtP_len]; exact hz0
  have ok : Sok p.t (predP z p.t.n q) (ofL m q) (wtP (z.getD 0 []) p.atol p.rtol) (List.replicate p.t.n 0) := ⟨hp.t, by have := hZ.1; omega, fun i hi => hZ.2 i (by omega), by omega, hwl, by simp⟩
  have hsol := r9_Solve_con p.t (predP z p.t.n q) (ofL m q) (hW (2 ^ j)) (wtP (z.getD 0 []) p.atol p.rtol) ((2 ^ j : Nat) : Int) m hp.n ok (hW_div j)
  rw [← hst] at hsol
  have htry : tryP p ⟨⟨pos, st, q, m, z⟩, g, f, sl⟩ = (let c := solG p.t (predP z p.t.n q) (ofL m q) (hW (2 ^ j)) (wtP (z.getD 0 []) p.atol p.rtol) m
    if c.2.2 ≠ 0 then failP p ⟨⟨pos, st, q, m, z⟩, g, f, sl⟩ c.2.2 0 else
      let err := fop .div (szP c.1 (wtP (z.getD 0 []) p.atol p.rtol)) (FloatKind.nearest .f64 ((q : Int) + 1))
      if fcmp .le err 4607182418800017408 = true then takeP p ⟨⟨pos, st, q, m, z⟩, g, f, sl⟩ (predP z p.t.n q) (ofL m q) c.1 err else failP p ⟨⟨pos, st, q, m, z⟩, g, f, sl⟩ 0 err) := by
    unfold tryP
    simp only [Int.toNat_natCast, hst]
  rw [htry]
  have htake := fun d err hd => r10_taken_con p ⟨⟨pos, st, q, m, z⟩, g, f, sl⟩ (predP z p.t.n q) (ofL m q) d err hp hs' (by rw [Int.toNat_natCast]; exact hZ) (predP_cw hc _ _) (by rw [Int.toNat_natCast]; exact hofl) hd
  have hfail := fun e err => r10_failed_con p ⟨⟨pos, st, q, m, z⟩, g, f, sl⟩ e err hp hs'
  have hform := solG_form p.t (predP z p.t.n q) (ofL m q) (hW (2 ^ j)) (wtP (z.getD 0 []) p.atol p.rtol) m
  generalize solG p.t (predP z p.t.n q) (ofL m q) (hW (2 ^ j)) (wtP (z.getD 0 []) p.atol p.rtol) m = c at hsol hform
  generalize predP z p.t.n q = Z at hpred htake hZ hsol
  generalize ofL m q = l at hof hofl htake hsol
  generalize wtP (z.getD 0 []) p.atol p.rtol = w at hwt hwl hsol
  clear htry ok
  refine Con_introA A_r10_Try_comp rfl mixed ?_
  refine evx @A_r10_Try.eq_1 ?_
  refine callG_con (hpred) rfl ?_
  refine ev ?_
  refine callG_con (hof) rfl ?_
  refine ev ?_
  (repeat (with_reducible refine And.intro (by omega) ?_))
  refine callG_con (hwt) rfl ?_
  refine ev ?_
  refine callG_con (hsol) rfl ?_
  refine ev ?_
  rcases hform with ⟨g', k', hgl, rfl⟩ | ⟨k', e', hne, rfl⟩
  · simp only [ne_eq, not_true_eq_false, if_false, ↓reduceIte]
    have hsz := r9_Size_con g' w (by omega) (by omega)
    have w3 : IntKind.i64.wrap ((q : Int) + 1) = (q : Int) + 1 := wrapI (by omega) (by omega)
    refine ev ?_
    refine callSG_con (hsz) rfl ?_
    refine evx w3 ?_
    generalize fop .div (szP g' w) (FloatKind.nearest .f64 ((q : Int) + 1)) = err
    refine condC_intro (fun he => ?_) (fun he => ?_)
    · rw [if_pos he]
      refine ev ?_
      refine callG_con (htake g' err hgl) rfl ?_
      refine ev ?_
      exact endsT_retm rfl (by decide) rfl rfl rfl (by simp) rfl
    · rw [if_neg (by rw [he]; decide)]
      refine ev ?_
      refine callG_con (hfail 0 err) rfl ?_
      refine ev ?_
      exact endsT_retm rfl (by decide) rfl rfl rfl (by simp) rfl
  · have hne' : ¬ (e' = 0) := hne
    simp only [ne_eq, hne', not_false_eq_true, if_true]
    have hd : (e' != 0) = true := by simp [hne']
    simp -implicitDefEqProofs only [evI, hv, effC, reduceCtorEq, ↓reduceIte, n1_, n2_, n3_, n4_, n5_, i1_, i2_, i3_, i4_, i5_, i6_, i7_, hd]
    refine callG_con (hfail e' 0) rfl ?_
    refine ev ?_
    exact endsT_retm rfl (by decide) rfl rfl rfl (by simp) rfl
end Go.Ab
namespace Go.Ab
set_option linter.unusedSimpArgs false
set_option linter.unusedVariables false
open Go Go.Proofs
def A_l3_within : CA := (.seq (.reg [i_K 0 4 0] [0, 1]) (.seq (.reg [i_M 0 6 0, i_M 1 7 1, i_N 2 8 .rem 6 7, i_M 3 5 8] [1, 5]) (.seq (.seq (.reg [i_M 0 9 5, i_B 1 10 .lss 9 0] [1, 5, 10]) (.cond (.t 10) (.reg [i_M 0 11 5, i_M 1 12 1, i_N 2 13 .add 11 12, i_M 3 5 13] [5]) .skip)) (.seq (.reg [i_M 0 14 5, i_M 1 4 14] [4]) .ret))))
theorem A_l3_within_comp : compF Tryz.prog 59 = some ⟨15, [(4, none)], A_l3_within.strip⟩ := by kernel_rfl
def A_l3_Make_L0 : CA := (.seq (.seq (.reg [i_M 0 18 8, i_P 1 19 7 0, i_L 2 20 19 1, i_N 3 21 .lss 18 20] [0, 1, 2, 6, 7, 8, 21]) (.cond (.t 21) .skip (.exit 0))) (.seq (.block 1 (.reg [i_P 0 24 7 1, i_L 1 25 24 1, i_M 2 26 8, i_X 3 27 (.h (.build [(.d (.int .i64 0)), (.d (.int .i64 0)), (.d (.int .i64 0)), (.d (.flt 0))] [(0, (1, (kI 1))), (1, (1, (.t 26)))])), i_X 4 28 (.bslice [(.d (.int .i64 0)), (.d (.int .i64 0)), (.d (.int .i64 0)), (.d (.flt 0))] 1 4 [(0, (4, (.t 27)))] 62), i_X 5 29 (.app (.t 25) (.t 28) 4 32), i_P 6 30 7 1, i_S 7 30 29 1] [0, 1, 2, 6, 7, 8])) (.reg [i_M 0 22 8, i_B 1 23 .add 22 1, i_M 2 8 23] [0, 1, 2, 6, 7, 8])))
def A_l3_Make_L1 : CA := (.seq (.seq (.reg [i_M 0 42 9, i_M 1 43 1, i_X 2 44 (.h (.len (.t 43))), i_N 3 45 .lss 42 44, i_M 4 46 45, ⟨5, (some 47), (some (46, true)), [], [], (.h (.mov (.t 9)))⟩, ⟨6, (some 48), (some (46, true)), [], [], (.h (.ibin .lss (.t 47) (kI 8)))⟩, i_X 7 49 (.h (.pick (.t 46) (.t 48) (.k (.d (.bool false)))))] [0, 1, 2, 6, 7, 9, 49]) (.cond (.t 49) .skip (.exit 2))) (.seq (.block 3 (.seq (.reg [i_M 0 52 1, i_M 1 53 9, i_I 2 54 52 53 1, i_L 3 55 54 1, i_M 4 10 55] [0, 1, 2, 6, 7, 9, 10]) (.seq (.reg [i_P 0 56 7 1, i_L 1 57 56 1, i_X 2 58 (.h (.len (.t 57))), i_M 3 11 58] [0, 1, 2, 6, 7, 9, 10, 11]) (.seq (.reg [i_M 0 59 10, i_X 1 60 (.callA (kF 59) [(.t 59), (kI 3)]), i_X 2 61 (.h (.ibin .add (kI 2) (.t 60))), i_M 3 62 10, i_B 4 63 .quo 62 4, i_M 5 64 11, i_X 6 65 (.callA (kF 59) [(.t 63), (.t 64)]), i_M 7 66 10, i_B 8 67 .quo 66 40, i_M 9 68 11, i_X 10 69 (.callA (kF 59) [(.t 67), (.t 68)]), i_X 11 70 (.h (.build [(.d (.int .i64 0)), (.d (.int .i64 0)), (.d (.int .i64 0)), (.d (.flt 0))] [(0, (1, (.t 61))), (1, (1, (.t 65))), (2, (1, (.t 69)))])), i_X 12 12 (.alloc [(.d (.int .i64 0)), (.d (.int .i64 0)), (.d (.int .i64 0)), (.d (.flt 0))] 62), i_S 13 12 70 4] [0, 1, 2, 6, 7, 9, 10, 12]) (.seq (.seq (.reg [i_M 0 71 2, i_M 1 72 71, ⟨2, (some 73), (some (72, true)), [], [], (.h (.mov (.t 10)))⟩, ⟨3, (some 74), (some (72, true)), [], [], (.callA (kF 59) [(.t 73), (kI 7)])⟩, ⟨4, (some 75), (some (72, true)), [], [], (.h (.ibin .eql (.t 74) (kI 0)))⟩, i_X 5 76 (.h (.pick (.t 72) (.t 75) (.k (.d (.bool false)))))] [0, 1, 2, 6, 7, 9, 10, 12, 76]) (.cond (.t 76) (.reg [i_P 0 77 12 0, ⟨1, none, none, [], [], (.store (.t 77) (kI 5) 1)⟩] [0, 1, 2, 6, 7, 9, 10, 12]) .skip)) (.seq (.seq (.reg [i_M 0 78 10, i_X 1 79 (.callA (kF 59) [(.t 78), (kI 11)]), i_B 2 80 .eql 79 0] [0, 1, 2, 6, 7, 9, 10, 12, 80]) (.cond (.t 80) (.reg [i_M 0 81 10, i_B 1 82 .quo 81 11, i_X 2 83 (.callA (kF 59) [(.t 82), (kI 33)]), i_B 3 84 .sub 83 16, i_X 4 85 (.h (.i2f (.t 84))), i_X 5 86 (.h (.fbin .div (.t 85) (.k (.d (.flt 4620693217682128896))))), i_X 6 87 (.h (.build [(.d (.int .i64 0)), (.d (.int .i64 0)), (.d (.int .i64 0)), (.d (.flt 0))] [(0, (1, (kI 0))), (3, (1, (.t 86)))])), i_S 7 12 87 4] [0, 1, 2, 6, 7, 9, 12]) .skip)) (.reg [i_P 0 88 7 1, i_L 1 89 88 1, i_A 2 90 12 4, i_X 3 91 (.bslice [(.d (.int .i64 0)), (.d (.int .i64 0)), (.d (.int .i64 0)), (.d (.flt 0))] 1 4 [(0, (4, (.t 90)))] 62), i_X 4 92 (.app (.t 89) (.t 91) 4 32), i_P 5 93 7 1, i_S 6 93 92 1] [0, 1, 2, 6, 7, 9]))))))) (.reg [i_M 0 50 9, i_B 1 51 .add 50 1, i_M 2 9 51] [0, 1, 2, 6, 7, 9])))
def A_l3_Make_L2 : CA := (.seq (.seq (.reg [i_M 0 94 13, i_P 1 95 7 0, i_L 2 96 95 1, i_N 3 97 .lss 94 96] [0, 6, 7, 13, 97]) (.cond (.t 97) .skip (.exit 4))) (.seq (.block 5 (.reg [i_P 0 100 7 2, i_L 1 101 100 1, i_P 2 102 7 1, i_L 3 103 102 1, i_X 4 104 (.h (.len (.t 103))), i_B 5 105 .sub 104 1, i_M 6 106 0, i_B 7 107 .quo 106 3, i_M 8 108 13, i_N 9 109 .add 107 108, i_P 10 110 7 1, i_L 11 111 110 1, i_X 12 112 (.h (.len (.t 111))), i_X 13 113 (.h (.mm false (kI 3) (.t 112))), i_X 14 114 (.callS 14 (kF 59) [(.t 109), (.t 113)]), i_N 15 115 .sub 105 114, i_X 16 116 (.bslice [(.d (.int .i64 0))] 1 1 [(0, (1, (.t 115)))] 3), i_X 17 117 (.app (.t 101) (.t 116) 1 8), i_P 18 118 7 2, i_S 19 118 117 1] [0, 6, 7, 13])) (.reg [i_M 0 98 13, i_B 1 99 .add 98 1, i_M 2 13 99] [0, 6, 7, 13])))
def A_l3_Make : CA := (.seq (.reg [i_X 0 6 (.alloc [(.d (.int .i64 0)), .nil, .nil] 28)] [0, 1, 2, 6]) (.seq (.reg [i_M 0 14 0, i_X 1 15 (.callA (kF 59) [(.t 14), (kI 3)]), i_X 2 16 (.h (.ibin .add (kI 1) (.t 15))), i_X 3 17 (.h (.build [(.d (.int .i64 0)), .nil, .nil] [(0, (1, (.t 16)))])), i_X 4 7 (.alloc [(.d (.int .i64 0)), .nil, .nil] 28), i_S 5 7 17 3] [0, 1, 2, 6, 7]) (.seq (.seq (.reg [i_K 0 8 0] [0, 1, 2, 6, 7, 8]) (.block 0 (.loop A_l3_Make_L0))) (.seq (.reg [i_P 0 31 7 1, i_L 1 32 31 1, i_M 2 33 0, i_X 3 34 (.callS 3 (kF 59) [(.t 33), (kI 17)]), i_B 4 35 .sub 34 8, i_X 5 36 (.h (.i2f (.t 35))), i_X 6 37 (.h (.fbin .div (.t 36) (.k (.d (.flt 4616189618054758400))))), i_X 7 38 (.h (.build [(.d (.int .i64 0)), (.d (.int .i64 0)), (.d (.int .i64 0)), (.d (.flt 0))] [(0, (1, (kI 0))), (3, (1, (.t 37)))])), i_X 8 39 (.bslice [(.d (.int .i64 0)), (.d (.int .i64 0)), (.d (.int .i64 0)), (.d (.flt 0))] 1 4 [(0, (4, (.t 38)))] 62), i_X 9 40 (.app (.t 32) (.t 39) 4 32), i_P 10 41 7 1, i_S 11 41 40 1] [0, 1, 2, 6, 7]) (.seq (.seq (.reg [i_K 0 9 0] [0, 1, 2, 6, 7, 9]) (.block 2 (.loop A_l3_Make_L1))) (.seq (.seq (.reg [i_K 0 13 0] [0, 6, 7, 13]) (.block 4 (.loop A_l3_Make_L2))) (.seq (.reg [i_A 0 119 7 3, i_S 1 6 119 3] [6]) .ret)))))))
theorem A_l3_Make_comp : compF Tryz.prog 23 = some ⟨120, [(6, (some (3, true)))], A_l3_Make.strip⟩ := by kernel_rfl
theorem l3_within_con (a n : Int) (hn : 0 < n) (hn2 : n < 2 ^ 62) : Con Tryz.prog 59 [fI a, fI n] (fI (a % n)) := by
  rw [← tmod_fix a n hn]
  refine Con_introA A_l3_within_comp rfl mixed ?_
  refine evx @A_l3_within.eq_1 ?_
  refine ⟨by omega, ?_⟩
  have h1 := Int.tmod_lt_of_pos a hn
  have h6 := Int.lt_tmod_of_pos a hn
  refine condC_intro (fun h => ?_) (fun h => ?_)
  · refine ev ?_
    replace h := of_decide_eq_true h
    rw [wrapI (by omega) (by omega), if_pos h]
    exact endsT_rett rfl (by decide) (by simp [look])
  · replace h := of_decide_eq_false h
    refine ev ?_
    rw [if_neg h]
    exact endsT_rett rfl (by decide) (by simp [look])
def mkOp (ns : List Int) (div : Bool) (at' : Nat) (i : Nat) : OpN :=
  let k := ns.getD i 0
  if k % 11 = 0 then ⟨0, 0, 0, fop .div (FloatKind.nearest .f64 (IntKind.i64.wrap (k.tdiv 11) % 33 - 16)) 4620693217682128896⟩
  else ⟨if div = true ∧ k % 7 = 0 then 5 else 2 + k % 3, IntKind.i64.wrap (k.tdiv 4) % at', IntKind.i64.wrap (k.tdiv 40) % at', 0⟩
def varOps (N : Nat) : List OpN := (List.range N).map fun (i : Nat) => ⟨1, i, 0, 0⟩
def baseOps (n : Int) (N : Nat) : List OpN := varOps N ++ [⟨0, 0, 0, fop .div (FloatKind.nearest .f64 (n % 17 - 8)) 4616189618054758400⟩]
def mkOps (n : Int) (ns : List Int) (div : Bool) (N : Nat) : Nat → List OpN
  | 0 => baseOps n N
  | i + 1 => mkOps n ns div N i ++ [mkOp ns div (N + 1 + i) i]
def mkOut (n : Int) (L : Nat) (i : Nat) : Int := (L : Int) - 1 - (IntKind.i64.wrap (IntKind.i64.wrap (n.tdiv 3) + i)) % (min 3 L : Nat)
def mkT (n : Int) (ns : List Int) (div : Bool) : Tp :=
  let N := (n % 3).toNat + 1
  let m := min ns.length 8
  ⟨N, mkOps n ns div N m, (List.range N).map fun i => mkOut n (N + 1 + m) i⟩
theorem mkOps_len (n : Int) (ns : List Int) (div : Bool) (N i : Nat) : (mkOps n ns div N i).length = N + 1 + i := by
  induction i with
  | zero => simp [mkOps, baseOps, varOps]
  | succ i ih => simp [mkOps, ih]; omega
def Oko' (o : OpN) (i n : Nat) : Prop := o.k = 0 ∨ (o.k = 1 ∧ 0 ≤ o.a ∧ o.a < n) ∨ ((o.k = 2 ∨ o.k = 3 ∨ o.k = 4 ∨ o.k = 5) ∧ (0 ≤ o.a ∧ o.a < i) ∧ 0 ≤ o.b ∧ o.b < i)
theorem opc_succ (xs : List OpN) (o : OpN) (i : Nat) (h : xs.length = i) : dcells i (opG xs) ++ [fI o.k, fI o.a, fI o.b, fl o.c] = dcells (i + 1) (opG (xs ++ [o])) := by
  rw [dcells_succ]
  have e : dcells i (opG (xs ++ [o])) = dcells i (opG xs) := by
    unfold dcells
    rw [dcB_congr fun j hj => ?_]
    have : (xs ++ [o]).getD j ⟨0, 0, 0, 0⟩ = xs.getD j ⟨0, 0, 0, 0⟩ := by rw [List.getD_eq_getElem?_getD, List.getElem?_append_left (by omega), ← List.getD_eq_getElem?_getD]
    simp only [opG, this]
  have e2 : (xs ++ [o]).getD i ⟨0, 0, 0, 0⟩ = o := by rw [List.getD_eq_getElem?_getD, List.getElem?_append_right (by omega), h, Nat.sub_self]; rfl
  rw [e]
  congr 1
  simp only [opG, e2, List.map_cons, List.map_nil]
theorem opc_len (xs : List OpN) (i : Nat) : (dcells i (opG xs)).length = i * 4 := dcells_len i fun _ _ => rfl
theorem varOps_succ (i : Nat) : varOps (i + 1) = varOps i ++ [⟨1, i, 0, 0⟩] := by simp [varOps, List.range_succ]
theorem varOps_len (i : Nat) : (varOps i).length = i := by simp [varOps]
abbrev m0S (n : Int) (ns : List Int) (div : Bool) (i : Nat) : Sl := [(0, fI n), (1, .d (rowI ns)), (2, fB div), (6, .ptr 0 0 0 3), (7, .ptr 5 0 0 3), (8, fI i)]
abbrev m1S (n : Int) (ns : List Int) (div : Bool) (i : Nat) : Sl := [(0, fI n), (1, .d (rowI ns)), (2, fB div), (6, .ptr 0 0 0 3), (7, .ptr 5 0 0 3), (9, fI i)]
abbrev mTop : List V := [fI 0, .nil, .nil]
set_option maxRecDepth 8000 in
theorem make3_L0 (n : Int) (ns : List Int) (div : Bool) (N : Nat) (hN : 0 < N ∧ N ≤ 3) (Q : Ex → T → Prop)
    (hQ : ∀ w, Q (.exit 0) ⟨m0S n ns div N ++ [w], [(11, [dcells N (opG (varOps N))]), (5, [[fI N, .sl 11 0 0 N 4 (N * 4), .nil]]), (0, [mTop])]⟩) :
    WA Tryz.prog (fun _ => False) 120 (.loop A_l3_Make_L0) Q ⟨m0S n ns div 0, [(5, [[fI N, .nil, .nil]]), (0, [mTop])]⟩ := by
  refine WA_forW (n := N) (fun c s => ∃ i, c + i = N ∧ ((i = 0 ∧ s = ⟨m0S n ns div 0, [(5, [[fI N, .nil, .nil]]), (0, [mTop])]⟩) ∨ (0 < i ∧ s = ⟨m0S n ns div i, [(11, [dcells i (opG (varOps i))]), (5, [[fI N, .sl 11 0 0 i 4 (i * 4), .nil]]), (0, [mTop])]⟩))) (Le.refl _) ⟨0, rfl, .inl ⟨rfl, rfl⟩⟩ ?_
  rintro c s ⟨i, hc, ⟨rfl, rfl⟩ | ⟨hi, rfl⟩⟩
  · refine evx @A_l3_Make_L0.eq_1 ?_
    have h0 : decide ((0 : Int) < (N : Int)) = true := by simp; omega
    refine evx h0 ?_
    rw [show IntKind.i64.wrap 1 = ((0 + 1 : Nat) : Int) from by decide]
    exact ⟨c - 1, _, by omega, LeT.only (L' := [(11, [dcells (0 + 1) (opG (varOps (0 + 1)))]), (5, [[fI N, .sl 11 0 0 (0 + 1) 4 ((0 + 1) * 4), .nil]]), (0, [mTop])]) (fun X => X != 10) (fun _ h => h) rfl (by simp [kpS]) (by simp [kpS]), 0 + 1, by omega, .inr ⟨by omega, rfl⟩⟩
  · have hl := opc_len (varOps i) i
    refine evx @A_l3_Make_L0.eq_1 ?_
    refine condC_intro (fun h => ?_) (fun h => ?_)
    · replace h := of_decide_eq_true h
      refine ev ?_
      (repeat (with_reducible refine And.intro (by omega) ?_))
      have e := opc_succ (varOps i) ⟨1, i, 0, 0⟩ i (varOps_len i)
      rw [← varOps_succ] at e
      have e4 : i * 4 + 4 = (i + 1) * 4 := by omega
      rw [wrapI (by omega) (by omega), e4]
      simp only [] at e
      rw [e]
      exact ⟨c - 1, _, by omega, LeT.only (fun X => decide (X ≤ 11)) (fun _ h => h) rfl (by simp [kpS]) (by simp [kpS]), i + 1, by omega, .inr ⟨by omega, rfl⟩⟩
    · replace h := of_decide_eq_false h
      have e : i = N := by omega
      subst e
      refine ev ?_
      exact hQ _
abbrev m1T (n : Int) (ns : List Int) (div : Bool) (N i : Nat) : T := ⟨m1S n ns div i, [(11, [dcells (N + 1 + i) (opG (mkOps n ns div N i))]), (5, [[fI N, .sl 11 0 0 (N + 1 + i) 4 ((N + 1 + i) * 4), .nil]]), (0, [mTop])]⟩
set_option maxRecDepth 8000 in
theorem make3_L1 (n : Int) (ns : List Int) (div : Bool) (N : Nat) (hN : 0 < N ∧ N ≤ 3) (hns : ns.length < 2 ^ 62) (Q : Ex → T → Prop)
    (hQ : ∀ w, Q (.exit 2) ⟨m1S n ns div (min ns.length 8) ++ [w], (m1T n ns div N (min ns.length 8)).L⟩) :
    WA Tryz.prog (fun _ => False) 120 (.loop A_l3_Make_L1) Q (m1T n ns div N 0) := by
  refine WA_forW (n := min ns.length 8) (fun c s => ∃ i, c + i = min ns.length 8 ∧ s = m1T n ns div N i) (Le.refl _) ⟨0, by omega, rfl⟩ ?_
  rintro c s ⟨i, hc, rfl⟩
  have hl := mkOps_len n ns div N i
  have hcl := opc_len (mkOps n ns div N i) (N + 1 + i)
  have hnx : mkOps n ns div N (i + 1) = mkOps n ns div N i ++ [mkOp ns div (N + 1 + i) i] := rfl
  refine evx @A_l3_Make_L1.eq_1 ?_
  by_cases h1 : i < ns.length
  · have h1' : decide (i < ns.length) = true := decide_eq_true h1
    by_cases h2 : i < 8
    · have h2' : decide ((i : Int) < 8) = true := by simp; omega
      refine evx (And.intro h1' h2') ?_
      (repeat (with_reducible refine And.intro (by omega) ?_))
      generalize hk : ns.getD i 0 = k
      have ho : mkOp ns div (N + 1 + i) i = if k % 11 = 0 then ⟨0, 0, 0, fop .div (FloatKind.nearest .f64 (IntKind.i64.wrap (k.tdiv 11) % 33 - 16)) 4620693217682128896⟩ else ⟨if div = true ∧ k % 7 = 0 then 5 else 2 + k % 3, IntKind.i64.wrap (k.tdiv 4) % (N + 1 + i : Nat), IntKind.i64.wrap (k.tdiv 40) % (N + 1 + i : Nat), 0⟩ := by unfold mkOp; rw [hk]
      generalize mkOp ns div (N + 1 + i) i = o at ho hnx
      refine callG_con (l3_within_con k 3 (by decide) (by decide)) rfl ?_
      have q1 := Int.emod_nonneg k (by decide : (3 : Int) ≠ 0)
      have q2 := Int.emod_lt_of_pos k (by decide : (0 : Int) < 3)
      have w2 : IntKind.i64.wrap (2 + k % 3) = 2 + k % 3 := wrapI (by omega) (by omega)
      refine evx w2 ?_
      refine ⟨by decide, ?_⟩
      refine callG_con (l3_within_con (IntKind.i64.wrap (k.tdiv 4)) (N + 1 + i : Nat) (by omega) (by omega)) rfl ?_
      refine ev ?_
      refine ⟨by decide, ?_⟩
      refine callG_con (l3_within_con (IntKind.i64.wrap (k.tdiv 40)) (N + 1 + i : Nat) (by omega) (by omega)) rfl ?_
      refine ev ?_
      cases div
      · rw [if_neg (by simp : ¬ (false = true ∧ k % 7 = 0))] at ho
        refine evx hcl ?_
        refine callG_con (l3_within_con k 11 (by decide) (by decide)) rfl ?_
        by_cases h11 : k % 11 = 0
        · rw [if_pos h11] at ho
          have h11' : (k % 11 == 0) = true := by simpa using h11
          refine evx h11' ?_
          refine ⟨by decide, ?_⟩
          refine callG_con (l3_within_con (IntKind.i64.wrap (k.tdiv 11)) 33 (by decide) (by decide)) rfl ?_
          have v1 := Int.emod_nonneg (IntKind.i64.wrap (k.tdiv 11)) (by decide : (33 : Int) ≠ 0)
          have v2 := Int.emod_lt_of_pos (IntKind.i64.wrap (k.tdiv 11)) (by decide : (0 : Int) < 33)
          have v3 : IntKind.i64.wrap (IntKind.i64.wrap (k.tdiv 11) % 33 - 16) = IntKind.i64.wrap (k.tdiv 11) % 33 - 16 := wrapI (by omega) (by omega)
          refine evx v3 ?_
          have e := opc_succ (mkOps n ns _ N i) o (N + 1 + i) hl
          rw [← hnx, ho] at e
          simp only [] at e
          have e4 : (N + 1 + i) * 4 + 4 = (N + 1 + (i + 1)) * 4 := by omega
          have e5 : N + 1 + i + 1 = N + 1 + (i + 1) := by omega
          (repeat (with_reducible refine And.intro (by omega) ?_))
          rw [wrapI (by omega) (by omega), e4, e, e5]
          exact ⟨c - 1, _, by omega, LeT.only (fun X => X == 11 || X == 5 || X == 0) (fun _ h => h) rfl (by simp [kpS]) (by simp [kpS]), i + 1, by omega, rfl⟩
        · rw [if_neg h11] at ho
          have h11' : (k % 11 == 0) = false := by simpa using h11
          refine evx h11' ?_
          have e := opc_succ (mkOps n ns _ N i) o (N + 1 + i) hl
          rw [← hnx, ho] at e
          simp only [] at e
          have e4 : (N + 1 + i) * 4 + 4 = (N + 1 + (i + 1)) * 4 := by omega
          have e5 : N + 1 + i + 1 = N + 1 + (i + 1) := by omega
          (repeat (with_reducible refine And.intro (by omega) ?_))
          rw [wrapI (by omega) (by omega), e4, e, e5]
          exact ⟨c - 1, _, by omega, LeT.only (fun X => X == 11 || X == 5 || X == 0) (fun _ h => h) rfl (by simp [kpS]) (by simp [kpS]), i + 1, by omega, rfl⟩
      · by_cases h7 : k % 7 = 0
        · have hd : (true = true ∧ k % 7 = 0) := ⟨rfl, h7⟩
          rw [if_pos hd] at ho
          have h7' : (k % 7 == 0) = true := by simpa using h7
          refine ev ?_
          refine callG_con (l3_within_con k 7 (by decide) (by decide)) rfl ?_
          refine evx h7' ?_
          refine callG_con (l3_within_con k 11 (by decide) (by decide)) rfl ?_
          by_cases h11 : k % 11 = 0
          · rw [if_pos h11] at ho
            have h11' : (k % 11 == 0) = true := by simpa using h11
            refine evx h11' ?_
            refine ⟨by decide, ?_⟩
            refine callG_con (l3_within_con (IntKind.i64.wrap (k.tdiv 11)) 33 (by decide) (by decide)) rfl ?_
            have v1 := Int.emod_nonneg (IntKind.i64.wrap (k.tdiv 11)) (by decide : (33 : Int) ≠ 0)
            have v2 := Int.emod_lt_of_pos (IntKind.i64.wrap (k.tdiv 11)) (by decide : (0 : Int) < 33)
            have v3 : IntKind.i64.wrap (IntKind.i64.wrap (k.tdiv 11) % 33 - 16) = IntKind.i64.wrap (k.tdiv 11) % 33 - 16 := wrapI (by omega) (by omega)
            refine evx v3 ?_
            have e := opc_succ (mkOps n ns _ N i) o (N + 1 + i) hl
            rw [← hnx, ho] at e
            simp only [] at e
            have e4 : (N + 1 + i) * 4 + 4 = (N + 1 + (i + 1)) * 4 := by omega
            have e5 : N + 1 + i + 1 = N + 1 + (i + 1) := by omega
            (repeat (with_reducible refine And.intro (by omega) ?_))
            rw [wrapI (by omega) (by omega), e4, e, e5]
            exact ⟨c - 1, _, by omega, LeT.only (fun X => X == 11 || X == 5 || X == 0) (fun _ h => h) rfl (by simp [kpS]) (by simp [kpS]), i + 1, by omega, rfl⟩
          · rw [if_neg h11] at ho
            have h11' : (k % 11 == 0) = false := by simpa using h11
            refine evx h11' ?_
            have e := opc_succ (mkOps n ns _ N i) o (N + 1 + i) hl
            rw [← hnx, ho] at e
            simp only [] at e
            have e4 : (N + 1 + i) * 4 + 4 = (N + 1 + (i + 1)) * 4 := by omega
            have e5 : N + 1 + i + 1 = N + 1 + (i + 1) := by omega
            (repeat (with_reducible refine And.intro (by omega) ?_))
            rw [wrapI (by omega) (by omega), e4, e, e5]
            exact ⟨c - 1, _, by omega, LeT.only (fun X => X == 11 || X == 5 || X == 0) (fun _ h => h) rfl (by simp [kpS]) (by simp [kpS]), i + 1, by omega, rfl⟩
        · have hd : ¬ (true = true ∧ k % 7 = 0) := fun h => h7 h.2
          rw [if_neg hd] at ho
          have h7' : (k % 7 == 0) = false := by simpa using h7
          refine ev ?_
          refine callG_con (l3_within_con k 7 (by decide) (by decide)) rfl ?_
          refine evx h7' ?_
          refine callG_con (l3_within_con k 11 (by decide) (by decide)) rfl ?_
          by_cases h11 : k % 11 = 0
          · rw [if_pos h11] at ho
            have h11' : (k % 11 == 0) = true := by simpa using h11
            refine evx h11' ?_
            refine ⟨by decide, ?_⟩
            refine callG_con (l3_within_con (IntKind.i64.wrap (k.tdiv 11)) 33 (by decide) (by decide)) rfl ?_
            have v1 := Int.emod_nonneg (IntKind.i64.wrap (k.tdiv 11)) (by decide : (33 : Int) ≠ 0)
            have v2 := Int.emod_lt_of_pos (IntKind.i64.wrap (k.tdiv 11)) (by decide : (0 : Int) < 33)
            have v3 : IntKind.i64.wrap (IntKind.i64.wrap (k.tdiv 11) % 33 - 16) = IntKind.i64.wrap (k.tdiv 11) % 33 - 16 := wrapI (by omega) (by omega)
            refine evx v3 ?_
            have e := opc_succ (mkOps n ns _ N i) o (N + 1 + i) hl
            rw [← hnx, ho] at e
            simp only [] at e
            have e4 : (N + 1 + i) * 4 + 4 = (N + 1 + (i + 1)) * 4 := by omega
            have e5 : N + 1 + i + 1 = N + 1 + (i + 1) := by omega
            (repeat (with_reducible refine And.intro (by omega) ?_))
            rw [wrapI (by omega) (by omega), e4, e, e5]
            exact ⟨c - 1, _, by omega, LeT.only (fun X => X == 11 || X == 5 || X == 0) (fun _ h => h) rfl (by simp [kpS]) (by simp [kpS]), i + 1, by omega, rfl⟩
          · rw [if_neg h11] at ho
            have h11' : (k % 11 == 0) = false := by simpa using h11
            refine evx h11' ?_
            have e := opc_succ (mkOps n ns _ N i) o (N + 1 + i) hl
            rw [← hnx, ho] at e
            simp only [] at e
            have e4 : (N + 1 + i) * 4 + 4 = (N + 1 + (i + 1)) * 4 := by omega
            have e5 : N + 1 + i + 1 = N + 1 + (i + 1) := by omega
            (repeat (with_reducible refine And.intro (by omega) ?_))
            rw [wrapI (by omega) (by omega), e4, e, e5]
            exact ⟨c - 1, _, by omega, LeT.only (fun X => X == 11 || X == 5 || X == 0) (fun _ h => h) rfl (by simp [kpS]) (by simp [kpS]), i + 1, by omega, rfl⟩
    · have h2' : decide ((i : Int) < 8) = false := by simp; omega
      have e : i = min ns.length 8 := by omega
      refine evx (And.intro h1' h2') ?_
      rw [e]
      exact hQ _
  · have h1' : decide (i < ns.length) = false := decide_eq_false h1
    have e : i = min ns.length 8 := by omega
    refine evx h1' ?_
    rw [e]
    exact hQ _
def mkOutL (n : Int) (L i : Nat) : List Int := (List.range i).map fun j => mkOut n L j
theorem mkOutL_succ (n : Int) (L i : Nat) : rowIV (mkOutL n L i) ++ [fI (mkOut n L i)] = rowIV (mkOutL n L (i + 1)) := by simp [mkOutL, rowIV, List.range_succ]
theorem mkOutL_len (n : Int) (L i : Nat) : (mkOutL n L i).length = i := by simp [mkOutL]
abbrev m2S (n : Int) (i : Nat) : Sl := [(0, fI n), (6, .ptr 0 0 0 3), (7, .ptr 5 0 0 3), (13, fI i)]
set_option maxRecDepth 8000 in
theorem make3_L2 (n : Int) (N M : Nat) (ops : List OpN) (hM : ops.length = M) (hN : 0 < N ∧ N ≤ 3) (hM2 : 2 ≤ M ∧ M ≤ 100) (Q : Ex → T → Prop)
    (hQ : ∀ w, Q (.exit 4) ⟨m2S n N ++ [w], [(29, [rowIV (mkOutL n M N)]), (11, [dcells M (opG ops)]), (5, [[fI N, .sl 11 0 0 M 4 (M * 4), .sl 29 0 0 N 1 N]]), (0, [mTop])]⟩) :
    WA Tryz.prog (fun _ => False) 120 (.loop A_l3_Make_L2) Q ⟨m2S n 0, [(11, [dcells M (opG ops)]), (5, [[fI N, .sl 11 0 0 M 4 (M * 4), .nil]]), (0, [mTop])]⟩ := by
  have hcl := opc_len ops M
  refine WA_forW (n := N) (fun c s => ∃ i, c + i = N ∧ ((i = 0 ∧ s = ⟨m2S n 0, [(11, [dcells M (opG ops)]), (5, [[fI N, .sl 11 0 0 M 4 (M * 4), .nil]]), (0, [mTop])]⟩) ∨ (0 < i ∧ s = ⟨m2S n i, [(29, [rowIV (mkOutL n M i)]), (11, [dcells M (opG ops)]), (5, [[fI N, .sl 11 0 0 M 4 (M * 4), .sl 29 0 0 i 1 i]]), (0, [mTop])]⟩))) (Le.refl _) ⟨0, rfl, .inl ⟨rfl, rfl⟩⟩ ?_
  have hmm : (if (M : Int) < 3 then (M : Int) else 3) = ((min 3 M : Nat) : Int) := by split <;> omega
  have wM : IntKind.i64.wrap ((M : Int) - 1) = (M : Int) - 1 := wrapI (by omega) (by omega)
  rintro c s ⟨i, hc, ⟨rfl, rfl⟩ | ⟨hi, rfl⟩⟩
  · refine evx @A_l3_Make_L2.eq_1 ?_
    have h0 : decide ((0 : Int) < (N : Int)) = true := by simp; omega
    refine evx (And.intro h0 (And.intro wM hmm)) ?_
    refine ⟨by decide, ?_⟩
    refine callSG_con (l3_within_con (IntKind.i64.wrap (IntKind.i64.wrap (n.tdiv 3) + 0)) (min 3 M : Nat) (by omega) (by omega)) rfl ?_
    have u1 := Int.emod_nonneg (IntKind.i64.wrap (IntKind.i64.wrap (n.tdiv 3) + 0)) (by omega : ((min 3 M : Nat) : Int) ≠ 0)
    have u2 := Int.emod_lt_of_pos (IntKind.i64.wrap (IntKind.i64.wrap (n.tdiv 3) + 0)) (by omega : (0 : Int) < ((min 3 M : Nat) : Int))
    have hmo : mkOut n M 0 = (M : Int) - 1 - IntKind.i64.wrap (IntKind.i64.wrap (n.tdiv 3) + 0) % ((min 3 M : Nat) : Int) := rfl
    have wu : IntKind.i64.wrap ((M : Int) - 1 - IntKind.i64.wrap (IntKind.i64.wrap (n.tdiv 3) + 0) % ((min 3 M : Nat) : Int)) = mkOut n M 0 := by rw [hmo]; exact wrapI (by omega) (by omega)
    refine evx wu ?_
    rw [show IntKind.i64.wrap 1 = ((0 + 1 : Nat) : Int) from by decide]
    exact ⟨c - 1, _, by omega, LeT.only (L' := [(29, [rowIV (mkOutL n M (0 + 1))]), (11, [dcells M (opG ops)]), (5, [[fI N, .sl 11 0 0 M 4 (M * 4), .sl 29 0 0 (0 + 1) 1 (0 + 1)]]), (0, [mTop])]) (fun X => X != 28) (fun _ h => h) rfl (by simp [kpS]) (by simp [kpS]), 0 + 1, by omega, .inr ⟨by omega, rfl⟩⟩
  · have hol := mkOutL_len n M i
    refine evx @A_l3_Make_L2.eq_1 ?_
    refine condC_intro (fun h => ?_) (fun h => ?_)
    · replace h := of_decide_eq_true h
      refine evx (And.intro wM hmm) ?_
      refine ⟨by decide, ?_⟩
      refine callSG_con (l3_within_con (IntKind.i64.wrap (IntKind.i64.wrap (n.tdiv 3) + (i : Int))) (min 3 M : Nat) (by omega) (by omega)) rfl ?_
      have u1 := Int.emod_nonneg (IntKind.i64.wrap (IntKind.i64.wrap (n.tdiv 3) + (i : Int))) (by omega : ((min 3 M : Nat) : Int) ≠ 0)
      have u2 := Int.emod_lt_of_pos (IntKind.i64.wrap (IntKind.i64.wrap (n.tdiv 3) + (i : Int))) (by omega : (0 : Int) < ((min 3 M : Nat) : Int))
      have hmo : mkOut n M i = (M : Int) - 1 - IntKind.i64.wrap (IntKind.i64.wrap (n.tdiv 3) + (i : Int)) % ((min 3 M : Nat) : Int) := rfl
      have wu : IntKind.i64.wrap ((M : Int) - 1 - IntKind.i64.wrap (IntKind.i64.wrap (n.tdiv 3) + (i : Int)) % ((min 3 M : Nat) : Int)) = mkOut n M i := by rw [hmo]; exact wrapI (by omega) (by omega)
      refine evx wu ?_
      (repeat (with_reducible refine And.intro (by omega) ?_))
      have e1 := mkOutL_succ n M i
      rw [wrapI (by omega) (by omega), e1]
      exact ⟨c - 1, _, by omega, LeT.only (fun X => decide (X ≤ 29)) (fun _ h => h) rfl (by simp [kpS]) (by simp [kpS]), i + 1, by omega, .inr ⟨by omega, rfl⟩⟩
    · replace h := of_decide_eq_false h
      have e : i = N := by omega
      subst e
      refine ev ?_
      exact hQ _
set_option maxRecDepth 8000 in
theorem l3_Make_con (n : Int) (ns : List Int) (div : Bool) (hns : ns.length < 2 ^ 62) : Con Tryz.prog 23 [fI n, .d (rowI ns), fB div] (tapeV (mkT n ns div)) := by
  have m1 := Int.emod_nonneg n (by decide : (3 : Int) ≠ 0)
  have m2 := Int.emod_lt_of_pos n (by decide : (0 : Int) < 3)
  refine Con_introA A_l3_Make_comp rfl mixed ?_
  refine evx @A_l3_Make.eq_1 ?_
  refine callG_con (l3_within_con n 3 (by decide) (by decide)) rfl ?_
  obtain ⟨N, hN⟩ : ∃ N : Nat, N = (n % 3).toNat + 1 := ⟨_, rfl⟩
  have w1 : IntKind.i64.wrap (1 + n % 3) = (N : Int) := by rw [wrapI (by omega) (by omega)]; omega
  refine evx w1 ?_
  refine make3_L0 n ns div N (by omega) _ fun w => ?_
  have hl := opc_len (varOps N) N
  refine ev ?_
  refine callSG_con (l3_within_con n 17 (by decide) (by decide)) rfl ?_
  have r1 := Int.emod_nonneg n (by decide : (17 : Int) ≠ 0)
  have r2 := Int.emod_lt_of_pos n (by decide : (0 : Int) < 17)
  have w2 : IntKind.i64.wrap (n % 17 - 8) = n % 17 - 8 := wrapI (by omega) (by omega)
  refine evx w2 ?_
  (repeat (with_reducible refine And.intro (by omega) ?_))
  have e := opc_succ (varOps N) ⟨0, 0, 0, fop .div (FloatKind.nearest .f64 (n % 17 - 8)) 4616189618054758400⟩ N (varOps_len N)
  simp only [] at e
  rw [e]
  have e4 : N * 4 + 4 = (N + 1 + 0) * 4 := by omega
  rw [e4]
  refine WA_le (s' := m1T n ns div N 0) (LeT.only (fun X => X == 11 || X == 5 || X == 0) (fun _ h => h) rfl (by simp [kpS]) (by simp [kpS])) ?_
  refine make3_L1 n ns div N (by omega) hns _ fun w => ?_
  obtain ⟨M, hM⟩ : ∃ M, M = N + 1 + min ns.length 8 := ⟨_, rfl⟩
  have hol := mkOps_len n ns div N (min ns.length 8)
  rw [← hM] at hol
  simp only [← hM]
  have hT : mkT n ns div = ⟨N, mkOps n ns div N (min ns.length 8), mkOutL n M N⟩ := by unfold mkT mkOutL; rw [← hN, hM]
  rw [hT]
  generalize mkOps n ns div N (min ns.length 8) = ops at hol
  refine ev ?_
  refine make3_L2 n N M ops hol (by omega) (by omega) _ fun w => ?_
  have hul := mkOutL_len n M N
  refine ev ?_
  refine endsT_le (.agg [fI N, .sl 11 0 0 M 4 (M * 4), .sl 29 0 0 N 1 N]) (fun _ h => h) (resV_cellI (by decide) rfl rfl rfl (by simp) rfl) (LeV.agg3 (.d (.d _)) (.d ?_) (.d ?_))
  · unfold opsD
    rw [hol]
    exact snapF_data (esz := 4) (fun Y q h => by simp [get_nil] at h) (by simp [get_cons]) (fun _ _ => rfl) rfl
  · exact snap_rowI (fun Y q h => by simp [get_nil] at h) (by simp [get_cons]) hul rfl
theorem mkT_n (n : Int) (ns : List Int) (div : Bool) : (mkT n ns div).n = (n % 3).toNat + 1 := rfl
theorem mkOps_ok (n : Int) (ns : List Int) (div : Bool) (N i : Nat) : ∀ j, j < N + 1 + i → Oko' ((mkOps n ns div N i).getD j ⟨0, 0, 0, 0⟩) j N := by
  induction i with
  | zero =>
    intro j hj
    have hl := varOps_len N
    unfold mkOps baseOps
    by_cases h : j < N
    · rw [List.getD_eq_getElem?_getD, List.getElem?_append_left (by omega)]
      have : (varOps N)[j]? = some ⟨1, j, 0, 0⟩ := by simp [varOps, h]
      rw [this]
      exact .inr (.inl ⟨rfl, by simp, by simpa using h⟩)
    · obtain rfl : j = N := by omega
      rw [List.getD_eq_getElem?_getD, List.getElem?_append_right (by omega), hl, Nat.sub_self]
      exact .inl rfl
  | succ i ih =>
    intro j hj
    have hl := mkOps_len n ns div N i
    unfold mkOps
    by_cases h : j < N + 1 + i
    · have := ih j h
      rw [List.getD_eq_getElem?_getD] at this ⊢
      rwa [List.getElem?_append_left (by omega)]
    · obtain rfl : j = N + 1 + i := by omega
      rw [List.getD_eq_getElem?_getD, List.getElem?_append_right (by omega), hl, Nat.sub_self]
      show Oko' (mkOp ns div (N + 1 + i) i) (N + 1 + i) N
      unfold mkOp
      simp only
      split
      · exact .inl rfl
      · have a1 := Int.emod_nonneg (IntKind.i64.wrap ((ns.getD i 0).tdiv 4)) (by omega : ((N + 1 + i : Nat) : Int) ≠ 0)
        have a2 := Int.emod_lt_of_pos (IntKind.i64.wrap ((ns.getD i 0).tdiv 4)) (by omega : (0 : Int) < ((N + 1 + i : Nat) : Int))
        have b1 := Int.emod_nonneg (IntKind.i64.wrap ((ns.getD i 0).tdiv 40)) (by omega : ((N + 1 + i : Nat) : Int) ≠ 0)
        have b2 := Int.emod_lt_of_pos (IntKind.i64.wrap ((ns.getD i 0).tdiv 40)) (by omega : (0 : Int) < ((N + 1 + i : Nat) : Int))
        have c1 := Int.emod_nonneg (ns.getD i 0) (by decide : (3 : Int) ≠ 0)
        have c2 := Int.emod_lt_of_pos (ns.getD i 0) (by decide : (0 : Int) < 3)
        refine .inr (.inr ⟨?_, ⟨a1, a2⟩, b1, b2⟩)
        simp only
        split <;> omega
theorem mkT_ok (n : Int) (ns : List Int) (div : Bool) : Tok (mkT n ns div) := by
  have m1 := Int.emod_nonneg n (by decide : (3 : Int) ≠ 0)
  have m2 := Int.emod_lt_of_pos n (by decide : (0 : Int) < 3)
  have hl := mkOps_len n ns div ((n % 3).toNat + 1) (min ns.length 8)
  refine ⟨?_, ?_, ?_, ?_, ?_⟩
  · rw [mkT_n]; omega
  · show (mkOps n ns div ((n % 3).toNat + 1) (min ns.length 8)).length < 2 ^ 40
    omega
  · intro i hi
    have hi' : i < (mkOps n ns div ((n % 3).toNat + 1) (min ns.length 8)).length := hi
    exact mkOps_ok n ns div ((n % 3).toNat + 1) (min ns.length 8) i (by omega)
  · simp [mkT]
  · intro i hi
    rw [mkT_n] at hi
    have hx : (mkT n ns div).out.getD i 0 = mkOut n ((n % 3).toNat + 1 + 1 + min ns.length 8) i := by
      unfold mkT
      simp only
      rw [List.getD_eq_getElem?_getD, List.getElem?_map, List.getElem?_range hi]; rfl
    rw [hx]
    show _ ∧ _ < ((mkOps n ns div ((n % 3).toNat + 1) (min ns.length 8)).length : Int)
    rw [hl]
    have hM : 2 ≤ (n % 3).toNat + 1 + 1 + min ns.length 8 := by omega
    generalize (n % 3).toNat + 1 + 1 + min ns.length 8 = M at hM
    have u1 := Int.emod_nonneg (IntKind.i64.wrap (IntKind.i64.wrap (n.tdiv 3) + (i : Int))) (by omega : ((min 3 M : Nat) : Int) ≠ 0)
    have u2 := Int.emod_lt_of_pos (IntKind.i64.wrap (IntKind.i64.wrap (n.tdiv 3) + (i : Int))) (by omega : (0 : Int) < ((min 3 M : Nat) : Int))
    unfold mkOut
    omega
def A_l10_within : CA := (.seq (.reg [i_K 0 4 0] [0, 1]) (.seq (.reg [i_M 0 6 0, i_M 1 7 1, i_N 2 8 .rem 6 7, i_M 3 5 8] [1, 5]) (.seq (.seq (.reg [i_M 0 9 5, i_B 1 10 .lss 9 0] [1, 5, 10]) (.cond (.t 10) (.reg [i_M 0 11 5, i_M 1 12 1, i_N 2 13 .add 11 12, i_M 3 5 13] [5]) .skip)) (.seq (.reg [i_M 0 14 5, i_M 1 4 14] [4]) .ret))))
theorem A_l10_within_comp : compF Tryz.prog 25 = some ⟨15, [(4, none)], A_l10_within.strip⟩ := by kernel_rfl
def A_l10_Begin : CA := (.seq (.reg [i_X 0 1 (.box (.t 0) 13 33), i_X 1 2 (.alloc [(.d (.int .i64 0)), (.d (.int .i64 0)), (.d (.int .i64 0)), (.d (.int .i64 0)), .nil, (.d (.int .i64 0)), (.d (.int .i64 0)), (.d (.int .i64 0))] 39)] [1, 2]) (.seq (.reg [i_P 0 3 1 0, i_A 1 4 3 3, i_P 2 5 1 4, i_L 3 6 5 1, i_P 4 7 1 6, i_L 5 8 7 1, i_X 6 9 (.callA (kF 26) [(.t 4), (.t 6), (.t 8)]), i_X 7 10 (.h (.build [(.d (.int .i64 0)), (.d (.int .i64 0)), (.d (.int .i64 0)), (.d (.int .i64 0)), .nil, (.d (.int .i64 0)), (.d (.int .i64 0)), (.d (.int .i64 0))] [(0, (5, (.t 9)))])), i_S 8 2 10 8] [2]) .ret))
theorem A_l10_Begin_comp : compF Tryz.prog 14 = some ⟨11, [(2, (some (8, true)))], A_l10_Begin.strip⟩ := by kernel_rfl
def A_l10_Shape_Few : CA := (.seq (.reg [i_X 0 1 (.box (.t 0) 9 24), i_X 1 2 (.h (.mov (.k (.d (.bool false)))))] [1]) (.seq (.reg [i_P 0 3 1 5, i_L 1 4 3 1, i_X 2 5 (.h (.len (.t 4))), i_B 3 6 .leq 5 60, i_M 4 7 6, ⟨5, (some 8), (some (7, true)), [], [], (.h (.padd (.t 1) 6))⟩, ⟨6, (some 9), (some (7, true)), [], [], (.load (.t 8) 1 false)⟩, ⟨7, (some 10), (some (7, true)), [], [], (.h (.len (.t 9)))⟩, ⟨8, (some 11), (some (7, true)), [], [], (.h (.ibin .leq (.t 10) (kI 60)))⟩, i_X 9 12 (.h (.pick (.t 7) (.t 11) (.k (.d (.bool false))))), i_M 10 13 12, ⟨11, (some 14), (some (13, true)), [], [], (.h (.padd (.t 1) 7))⟩, ⟨12, (some 15), (some (13, true)), [], [], (.load (.t 14) 1 false)⟩, ⟨13, (some 16), (some (13, true)), [], [], (.h (.len (.t 15)))⟩, ⟨14, (some 17), (some (13, true)), [], [], (.h (.ibin .leq (.t 16) (kI 60)))⟩, i_X 15 18 (.h (.pick (.t 13) (.t 17) (.k (.d (.bool false))))), i_M 16 2 18] [2]) .ret))
theorem A_l10_Shape_Few_comp : compF Tryz.prog 12 = some ⟨19, [(2, none)], A_l10_Shape_Few.strip⟩ := by kernel_rfl
def A_l3_Values_L0 : CA := (.seq (.seq (.reg [i_M 0 8 6, i_M 1 9 0, i_N 2 10 .lss 8 9] [0, 1, 5, 6, 10]) (.cond (.t 10) .skip (.exit 0))) (.seq (.block 1 (.seq (.reg [i_M 0 13 6, i_M 1 7 13] [0, 1, 5, 6, 7]) (.seq (.seq (.reg [i_M 0 14 6, i_M 1 15 1, i_X 2 16 (.h (.len (.t 15))), i_N 3 17 .lss 14 16] [0, 1, 5, 6, 7, 17]) (.cond (.t 17) (.reg [i_M 0 18 1, i_M 1 19 6, i_I 2 20 18 19 1, i_L 3 21 20 1, i_M 4 7 21] [0, 1, 5, 6, 7]) .skip)) (.reg [i_M 0 22 5, i_M 1 23 7, i_X 2 24 (.callA (kF 59) [(.t 23), (kI 65)]), i_B 3 25 .sub 24 32, i_X 4 26 (.h (.i2f (.t 25))), i_X 5 27 (.h (.fbin .div (.t 26) (.k (.d (.flt 4620693217682128896))))), i_X 6 28 (.bslice [(.d (.flt 0))] 1 1 [(0, (1, (.t 27)))] 31), i_X 7 29 (.app (.t 22) (.t 28) 1 8), i_M 8 5 29] [0, 1, 5, 6])))) (.reg [i_M 0 11 6, i_B 1 12 .add 11 1, i_M 2 6 12] [0, 1, 5, 6])))
def A_l3_Values : CA := (.seq (.reg [i_X 0 4 (.h (.mov (.k .nil)))] [0, 1]) (.seq (.reg [i_X 0 5 (.h (.mov (.k .nil)))] [0, 1, 5]) (.seq (.seq (.reg [i_K 0 6 0] [0, 1, 5, 6]) (.block 0 (.loop A_l3_Values_L0))) (.seq (.reg [i_M 0 30 5, i_M 1 4 30] [4]) .ret))))
theorem A_l3_Values_comp : compF Tryz.prog 24 = some ⟨31, [(4, none)], A_l3_Values.strip⟩ := by kernel_rfl
theorem l10_within_con (a n : Int) (hn : 0 < n) (hn2 : n < 2 ^ 62) : Con Tryz.prog 25 [fI a, fI n] (fI (a % n)) := by
  rw [← tmod_fix a n hn]
  refine Con_introA A_l10_within_comp rfl mixed ?_
  refine evx @A_l10_within.eq_1 ?_
  refine ⟨by omega, ?_⟩
  have h1 := Int.tmod_lt_of_pos a hn
  have h6 := Int.lt_tmod_of_pos a hn
  refine condC_intro (fun h => ?_) (fun h => ?_)
  · refine ev ?_
    replace h := of_decide_eq_true h
    rw [wrapI (by omega) (by omega), if_pos h]
    exact endsT_rett rfl (by decide) (by simp [look])
  · replace h := of_decide_eq_false h
    refine ev ?_
    rw [if_neg h]
    exact endsT_rett rfl (by decide) (by simp [look])
set_option maxRecDepth 8000 in
theorem l10_Begin_con (p : Pb) (hp : Pok p) (j : Nat) (hj : j < 60) (hf : p.first = (2 ^ j : Nat)) (hy : p.y.length = p.t.n) : Con Tryz.prog 14 [pbV p] (staV ⟨⟨0, p.first, 1, 0, startZ p.t p.y (hW (2 ^ j))⟩, 0, 0, 0⟩) := by
  refine Con_introA A_l10_Begin_comp rfl mixed ?_
  refine evx @A_l10_Begin.eq_1 ?_
  rw [hf]
  refine callG_con (r8_Start_con p.t p.y j hp.t hy hj) rfl ?_
  refine ev ?_
  exact endsT_retm rfl (by decide) rfl rfl rfl (by simp) rfl
abbrev shC (n first least tol fin : Int) (ns ms outs : List Int) (dv : Bool) : List V := [fI n, fI first, fI least, fI tol, fI fin, .d (rowI ns), .d (rowI ms), .d (rowI outs), fB dv]
set_option maxRecDepth 8000 in
theorem l10_Few_con (n first least tol fin : Int) (ns ms outs : List Int) (dv : Bool) : Con Tryz.prog 12 [.agg (shC n first least tol fin ns ms outs dv)] (fB (decide (ns.length ≤ 60 ∧ ms.length ≤ 60 ∧ outs.length ≤ 60))) := by
  refine Con_introA A_l10_Shape_Few_comp rfl mixed ?_
  refine evx @A_l10_Shape_Few.eq_1 ?_
  by_cases h1 : ns.length ≤ 60
  · by_cases h2 : ms.length ≤ 60
    · by_cases h3 : outs.length ≤ 60
      · have k1 : decide ((ns.length : Int) ≤ 60) = true := decide_eq_true (by omega)
        have k2 : decide ((ms.length : Int) ≤ 60) = true := decide_eq_true (by omega)
        have k3 : decide ((outs.length : Int) ≤ 60) = true := decide_eq_true (by omega)
        refine evx (And.intro k1 (And.intro k2 k3)) ?_
        rw [decide_eq_true ⟨h1, h2, h3⟩]
        exact endsT_rett rfl (by decide) (by simp [look])
      · have k1 : decide ((ns.length : Int) ≤ 60) = true := decide_eq_true (by omega)
        have k2 : decide ((ms.length : Int) ≤ 60) = true := decide_eq_true (by omega)
        have k3 : decide ((outs.length : Int) ≤ 60) = false := decide_eq_false (by omega)
        refine evx (And.intro k1 (And.intro k2 k3)) ?_
        rw [decide_eq_false (fun h => h3 h.2.2)]
        exact endsT_rett rfl (by decide) (by simp [look])
    · have k1 : decide ((ns.length : Int) ≤ 60) = true := decide_eq_true (by omega)
      have k2 : decide ((ms.length : Int) ≤ 60) = false := decide_eq_false (by omega)
      refine evx (And.intro k1 k2) ?_
      rw [decide_eq_false (fun h => h2 h.2.1)]
      exact endsT_rett rfl (by decide) (by simp [look])
  · have k1 : decide ((ns.length : Int) ≤ 60) = false := decide_eq_false (by omega)
    refine evx k1 ?_
    rw [decide_eq_false (fun h => h1 h.1)]
    exact endsT_rett rfl (by decide) (by simp [look])
def valN (k : Int) : Nat := fop .div (FloatKind.nearest .f64 (k % 65 - 32)) 4620693217682128896
def valsL (n : Nat) (ms : List Int) : List Nat := tabR (fun i => valN (if i < ms.length then ms.getD i 0 else i)) n
set_option maxRecDepth 8000 in
theorem l3_Values_con (n : Nat) (ms : List Int) (hn : n < 1000) (hms : ms.length < 2 ^ 62) : Con Tryz.prog 24 [fI n, .d (rowI ms)] (.d (rowD (valsL n ms))) := by
  have numw : ∀ k : Int, IntKind.i64.wrap (k % 65 - 32) = k % 65 - 32 := by
    intro k
    have h1 := Int.emod_nonneg k (by decide : (65 : Int) ≠ 0)
    have h2 := Int.emod_lt_of_pos k (by decide : (0 : Int) < 65)
    exact wrapI (by omega) (by omega)
  refine Con_of_row (X := 100) (n := n) ?_ (tabR_len _ _)
  refine AC_introA A_l3_Values_comp rfl mixed (fun _ => False) (by simp [get_nil]) ?_
  refine evx @A_l3_Values.eq_1 ?_
  unfold valsL
  refine WA_forW (n := n) (fun c s => ∃ i, c + i = n ∧ s = ⟨[(0, fI n), (1, .d (rowI ms)), (5, .sl 100 0 0 i 1 i), (6, fI i)], [(100, [rowV (tabR (fun i => valN (if i < ms.length then ms.getD i 0 else i)) i)])]⟩)
    (s0 := ⟨_, _⟩) (LeT.nilrow (X := 100) (esz := 1) (as' := [(0, fI n), (1, .d (rowI ms)), (5, .sl 100 0 0 0 1 0), (6, fI 0)]) rfl (fun h => h) fun i => ?_) ⟨0, by omega, rfl⟩ ?_
  · simp only [look]
    repeat' split
    all_goals simp [rowI]
  rintro c s ⟨i, hc, rfl⟩
  have hl := tabR_len (fun i => valN (if i < ms.length then ms.getD i 0 else i)) i
  refine evx @A_l3_Values_L0.eq_1 ?_
  refine condC_intro (fun h => ?_) (fun h => ?_)
  · replace h := of_decide_eq_true h
    refine ev ?_
    have e := tabR_succ (fun i => valN (if i < ms.length then ms.getD i 0 else i)) i
    refine condC_intro (fun h3 => ?_) (fun h3 => ?_)
    · replace h3 := of_decide_eq_true h3
      refine ev ?_
      (repeat (with_reducible refine And.intro (by omega) ?_))
      refine callG_con (l3_within_con (ms.getD i 0) 65 (by decide) (by decide)) rfl ?_
      refine evx numw ?_
      (repeat (with_reducible refine And.intro (by omega) ?_))
      have e2 : V.d (.flt (fop .div (FloatKind.nearest .f64 (ms.getD i 0 % 65 - 32)) 4620693217682128896)) = fl (valN (if i < ms.length then ms.getD i 0 else i)) := by rw [if_pos h3]; rfl
      rw [wrapI (by omega) (by omega), e2, ← e]
      exact ⟨c - 1, _, by omega, LeT.only (fun X => decide (X ≤ 100)) (fun _ h => h) rfl (by simp [kpS]) (by simp [kpS]), i + 1, by omega, rfl⟩
    · replace h3 := of_decide_eq_false h3
      refine ev ?_
      refine callG_con (l3_within_con i 65 (by decide) (by decide)) rfl ?_
      refine evx numw ?_
      (repeat (with_reducible refine And.intro (by omega) ?_))
      have e2 : V.d (.flt (fop .div (FloatKind.nearest .f64 ((i : Int) % 65 - 32)) 4620693217682128896)) = fl (valN (if i < ms.length then ms.getD i 0 else i)) := by rw [if_neg (by omega)]; rfl
      rw [wrapI (by omega) (by omega), e2, ← e]
      exact ⟨c - 1, _, by omega, LeT.only (fun X => decide (X ≤ 100)) (fun _ h => h) rfl (by simp [kpS]) (by simp [kpS]), i + 1, by omega, rfl⟩
  · replace h := of_decide_eq_false h
    have e : i = n := by omega
    subst e
    refine ev ?_
    exact endsT_row (fun _ h => h) (resV_tmpI (t := 4) (by decide) rfl) rfl
end Go.Ab
namespace Go.Ab
set_option linter.unusedSimpArgs false
set_option linter.unusedVariables false
open Nat renaming reduceEqDiff → n1_, reduceAdd → n2_, reduceMul → n3_, reduceLT → n4_, reduceLeDiff → n5_
open Int renaming reduceToNat → i1_, reduceAdd → i2_, reduceSub → i3_, reduceMul → i4_, reduceNeg → i5_, reduceLT → i6_, reduceLE → i7_
open Go Go.Proofs
def A_l10_Shape_Make_L0 : CA := (.seq (.seq (.reg [i_M 0 22 4, i_P 1 23 3 0, i_P 2 24 23 0, i_L 3 25 24 1, i_N 4 26 .lss 22 25] [1, 2, 3, 4, 26]) (.cond (.t 26) .skip (.exit 0))) (.seq (.block 1 (.reg [i_P 0 29 3 3, i_L 1 30 29 1, i_P 2 31 3 4, i_L 3 32 31 1, i_M 4 33 4, i_I 5 34 32 33 1, i_L 6 35 34 1, i_X 7 36 (.h (.fbin .sub (.t 35) (.k (.d (.flt 4625196817309499392))))), i_P 8 37 3 4, i_L 9 38 37 1, i_M 10 39 4, i_I 11 40 38 39 1, i_L 12 41 40 1, i_X 13 42 (.h (.fbin .add (.t 41) (.k (.d (.flt 4625196817309499392))))), i_X 14 43 (.h (.build [(.d (.flt 0)), (.d (.flt 0))] [(0, (1, (.t 36))), (1, (1, (.t 42)))])), i_X 15 44 (.bslice [(.d (.flt 0)), (.d (.flt 0))] 1 2 [(0, (2, (.t 43)))] 58), i_X 16 45 (.app (.t 30) (.t 44) 2 16), i_P 17 46 3 3, i_S 18 46 45 1] [1, 2, 3, 4])) (.reg [i_M 0 27 4, i_B 1 28 .add 27 1, i_M 2 4 28] [1, 2, 3, 4])))
def A_l10_Shape_Make_L1 : CA := (.seq (.seq (.reg [i_M 0 92 5, i_P 1 93 1 7, i_L 2 94 93 1, i_X 3 95 (.h (.len (.t 94))), i_N 4 96 .lss 92 95, i_M 5 97 96, ⟨6, (some 98), (some (97, true)), [], [], (.h (.mov (.t 5)))⟩, ⟨7, (some 99), (some (97, true)), [], [], (.h (.ibin .lss (.t 98) (kI 8)))⟩, i_X 8 100 (.h (.pick (.t 97) (.t 99) (.k (.d (.bool false)))))] [1, 2, 3, 5, 100]) (.cond (.t 100) .skip (.exit 2))) (.seq (.block 3 (.reg [i_P 0 103 3 12, i_L 1 104 103 1, i_P 2 105 1 7, i_L 3 106 105 1, i_M 4 107 5, i_I 5 108 106 107 1, i_L 6 109 108 1, i_P 7 110 3 5, i_L 8 111 110 1, i_B 9 112 .add 111 1, i_X 10 113 (.callS 10 (kF 25) [(.t 109), (.t 112)]), i_X 11 114 (.bslice [(.d (.int .i64 0))] 1 1 [(0, (1, (.t 113)))] 3), i_X 12 115 (.app (.t 104) (.t 114) 1 8), i_P 13 116 3 12, i_S 14 116 115 1] [1, 2, 3, 5])) (.reg [i_M 0 101 5, i_B 1 102 .add 101 1, i_M 2 5 102] [1, 2, 3, 5])))
def A_l10_Shape_Make_L2 : CA := (.seq (.seq (.reg [i_M 0 117 6, i_P 1 118 3 12, i_L 2 119 118 1, i_X 3 120 (.h (.len (.t 119))), i_N 4 121 .lss 117 120] [2, 3, 6, 121]) (.cond (.t 121) .skip (.exit 4))) (.seq (.block 5 (.reg [i_P 0 124 3 12, i_L 1 125 124 1, i_M 2 126 6, i_P 3 127 3 12, i_L 4 128 127 1, i_M 5 129 6, i_I 6 130 128 129 1, i_L 7 131 130 1, i_P 8 132 3 12, i_L 9 133 132 1, i_M 10 134 6, i_B 11 135 .sub 134 1, i_I 12 136 133 135 1, i_L 13 137 136 1, i_X 14 138 (.h (.mm true (.t 131) (.t 137))), i_I 15 139 125 126 1, i_S 16 139 138 1] [2, 3, 6])) (.reg [i_M 0 122 6, i_B 1 123 .add 122 1, i_M 2 6 123] [2, 3, 6])))
def A_l10_Shape_Make : CA := (.seq (.reg [i_X 0 1 (.box (.t 0) 9 24), i_X 1 2 (.alloc [(.d (.int .i64 0)), .nil, .nil, .nil, .nil, (.d (.int .i64 0)), (.d (.int .i64 0)), (.d (.int .i64 0)), (.d (.flt 0)), (.d (.flt 0)), (.d (.flt 0)), (.d (.int .i64 0)), .nil] 33)] [1, 2]) (.seq (.reg [i_P 0 7 1 0, i_L 1 8 7 1, i_P 2 9 1 5, i_L 3 10 9 1, i_P 4 11 1 8, i_L 5 12 11 1, i_X 6 13 (.callA (kF 23) [(.t 8), (.t 10), (.t 12)]), i_X 7 14 (.h (.build [(.d (.int .i64 0)), .nil, .nil, .nil, .nil, (.d (.int .i64 0)), (.d (.int .i64 0)), (.d (.int .i64 0)), (.d (.flt 0)), (.d (.flt 0)), (.d (.flt 0)), (.d (.int .i64 0)), .nil] [(0, (3, (.t 13)))])), i_X 8 3 (.alloc [(.d (.int .i64 0)), .nil, .nil, .nil, .nil, (.d (.int .i64 0)), (.d (.int .i64 0)), (.d (.int .i64 0)), (.d (.flt 0)), (.d (.flt 0)), (.d (.flt 0)), (.d (.int .i64 0)), .nil] 33), i_S 9 3 14 13] [1, 2, 3]) (.seq (.reg [i_P 0 15 3 0, i_P 1 16 15 0, i_L 2 17 16 1, i_P 3 18 1 6, i_L 4 19 18 1, i_X 5 20 (.callA (kF 24) [(.t 17), (.t 19)]), i_P 6 21 3 4, i_S 7 21 20 1] [1, 2, 3]) (.seq (.seq (.reg [i_K 0 4 0] [1, 2, 3, 4]) (.block 0 (.loop A_l10_Shape_Make_L0))) (.seq (.reg [i_P 0 47 1 1, i_L 1 48 47 1, i_X 2 49 (.callA (kF 25) [(.t 48), (kI 13)]), i_X 3 50 (.h (.ibin .add (kI 16) (.t 49))), i_X 4 51 (.h (.icv .u64 (.t 50))), i_X 5 52 (.h (.ibin .shl (kI 1) (.t 51))), i_P 6 53 3 6, i_S 7 53 52 1] [1, 2, 3]) (.seq (.reg [i_P 0 54 3 6, i_L 1 55 54 1, i_P 2 56 1 2, i_L 3 57 56 1, i_X 4 58 (.callS 4 (kF 25) [(.t 57), (kI 10)]), i_X 5 59 (.h (.icv .u64 (.t 58))), i_N 6 60 .shr 55 59, i_P 7 61 3 7, i_S 8 61 60 1] [1, 2, 3]) (.seq (.reg [i_P 0 62 1 4, i_L 1 63 62 1, i_X 2 64 (.callA (kF 25) [(.t 63), (kI 536870912)]), i_X 3 65 (.h (.ibin .add (kI 1) (.t 64))), i_P 4 66 3 5, i_S 5 66 65 1] [1, 2, 3]) (.seq (.seq (.reg [i_P 0 67 1 4, i_L 1 68 67 1, i_X 2 69 (.callA (kF 25) [(.t 68), (kI 4)]), i_B 3 70 .eql 69 0] [1, 2, 3, 70]) (.cond (.t 70) (.reg [i_P 0 71 3 6, i_L 1 72 71 1, i_X 2 73 (.h (.ibin .mul (kI 4) (.t 72))), i_P 3 74 3 5, i_S 4 74 73 1] [1, 2, 3]) .skip)) (.seq (.reg [i_P 0 75 1 3, i_L 1 76 75 1, i_X 2 77 (.callA (kF 25) [(.t 76), (kI 24)]), i_X 3 78 (.h (.icv .u64 (.t 77))), i_X 4 79 (.h (.ibin .shl (kI 1) (.t 78))), i_X 5 80 (.h (.i2f (.t 79))), i_X 6 81 (.h (.fbin .div (.k (.d (.flt 4607182418800017408))) (.t 80))), i_P 7 82 3 8, i_S 8 82 81 1] [1, 2, 3]) (.seq (.reg [i_P 0 83 1 3, i_L 1 84 83 1, i_B 2 85 .quo 84 24, i_X 3 86 (.callA (kF 25) [(.t 85), (kI 3)]), i_X 4 87 (.h (.i2f (.t 86))), i_X 5 88 (.h (.fbin .div (.t 87) (.k (.d (.flt 4652218415073722368))))), i_P 6 89 3 9, i_S 7 89 88 1] [1, 2, 3]) (.seq (.reg [i_P 0 90 3 10, ⟨1, none, none, [], [], (.store (.t 90) (.k (.d (.flt 4616189618054758400))) 1)⟩] [1, 2, 3]) (.seq (.reg [i_P 0 91 3 11, ⟨1, none, none, [], [], (.store (.t 91) (kI 24) 1)⟩] [1, 2, 3]) (.seq (.seq (.reg [i_K 0 5 0] [1, 2, 3, 5]) (.block 2 (.loop A_l10_Shape_Make_L1))) (.seq (.seq (.reg [i_K 0 6 1] [2, 3, 6]) (.block 4 (.loop A_l10_Shape_Make_L2))) (.seq (.reg [i_A 0 140 3 13, i_S 1 2 140 13] [2]) .ret)))))))))))))))
theorem A_l10_Shape_Make_comp : compF Tryz.prog 13 = some ⟨141, [(2, (some (13, true)))], A_l10_Shape_Make.strip⟩ := by kernel_rfl
theorem shl_pow' (m : Nat) (h : m < 62) : IntKind.i64.wrap (1 * 2 ^ min (IntKind.u64.wrap (m : Int)).toNat IntKind.i64.bits) = ((2 ^ m : Nat) : Int) := by
  rw [wrapU (by omega) (by omega)]
  have e : min ((m : Int).toNat) IntKind.i64.bits = m := by
    have : IntKind.i64.bits = 64 := rfl
    rw [this]; omega
  rw [e, Int.one_mul]
  have h1 : (2 : Nat) ^ m ≤ 2 ^ 61 := Nat.pow_le_pow_right (by decide) (by omega)
  have h2 : (2 : Int) ^ m = ((2 ^ m : Nat) : Int) := by simp
  rw [h2]
  generalize (2 : Nat) ^ m = x at h1
  exact wrapI (by omega) (by omega)
theorem shr_pow (a b : Nat) (hb : b ≤ a) (h : b < 62) : (((2 ^ a : Nat) : Int)).fdiv (2 ^ min (IntKind.u64.wrap (b : Int)).toNat IntKind.i64.bits) = ((2 ^ (a - b) : Nat) : Int) := by
  rw [wrapU (by omega) (by omega)]
  have e : min ((b : Int).toNat) IntKind.i64.bits = b := by
    have : IntKind.i64.bits = 64 := rfl
    rw [this]; omega
  rw [e]
  have h3 : ((2 : Int) ^ b) = ((2 ^ b : Nat) : Int) := by push_cast; rfl
  rw [h3, Int.fdiv_eq_ediv_of_nonneg _ (Int.natCast_nonneg _)]
  have h4 : 2 ^ a = 2 ^ (a - b) * 2 ^ b := by rw [← Nat.pow_add]; congr 1; omega
  rw [h4]
  have h5 : 0 < 2 ^ b := Nat.pow_pos (by decide)
  rw [← Int.natCast_ediv, Nat.mul_div_cancel _ h5]
theorem KpA_ivC (L : Heap) (ps : List (Nat × Nat)) : KpA L (ivC ps) := by
  induction ps with
  | nil => exact KpA_nil
  | cons p ps ih =>
    show KpA L (fl p.1 :: fl p.2 :: ivC ps)
    rw [KpA_cons, KpA_cons]
    exact ⟨Kp_d _, Kp_d _, ih⟩
def boxE (y : List Nat) (j : Nat) : Nat × Nat := (fop .sub (y.getD j 0) 4625196817309499392, fop .add (y.getD j 0) 4625196817309499392)
def boxL (y : List Nat) (i : Nat) : List (Nat × Nat) := (List.range i).map (boxE y)
theorem boxL_succ (y : List Nat) (i : Nat) : ivC (boxL y i) ++ [fl (boxE y i).1, fl (boxE y i).2] = ivC (boxL y (i + 1)) := by simp [boxL, ivC, List.range_succ]
theorem boxL_len (y : List Nat) (i : Nat) : (boxL y i).length = i := by simp [boxL]
abbrev mkC (t : Tp) (b : V) (y : List Nat) (fin first least : Int) (atol rtol cap : Nat) (most : Int) (o : V) : List V := [fI t.n, .d (opsD t.ops), .d (rowI t.out), b, .d (rowD y), fI fin, fI first, fI least, fl atol, fl rtol, fl cap, fI most, o]
abbrev mkZ : List V := [fI 0, .nil, .nil, .nil, .nil, fI 0, fI 0, fI 0, fl 0, fl 0, fl 0, fI 0, .nil]
abbrev mkS0 (i : Nat) : Sl := [(1, .ptr 0 0 0 9), (2, .ptr 1 0 0 13), (3, .ptr 10 0 0 13), (4, fI i)]
set_option maxRecDepth 8000 in
theorem make10_L0 (sh : List V) (t : Tp) (y : List Nat) (hy : y.length = t.n) (hN : 0 < t.n ∧ t.n ≤ 3) (hsh : ∀ L, KpA L sh) (Q : Ex → T → Prop)
    (hQ : ∀ w, Q (.exit 0) ⟨mkS0 t.n ++ [w], [(27, [ivC (boxL y t.n)]), (10, [mkC t (.sl 27 0 0 t.n 2 (t.n * 2)) y 0 0 0 0 0 0 0 .nil]), (1, [mkZ]), (0, [sh])]⟩) :
    WA Tryz.prog (fun _ => False) 141 (.loop A_l10_Shape_Make_L0) Q ⟨mkS0 0, [(10, [mkC t .nil y 0 0 0 0 0 0 0 .nil]), (1, [mkZ]), (0, [sh])]⟩ := by
  refine WA_forW (n := t.n) (fun c s => ∃ i, c + i = t.n ∧ ((i = 0 ∧ s = ⟨mkS0 0, [(10, [mkC t .nil y 0 0 0 0 0 0 0 .nil]), (1, [mkZ]), (0, [sh])]⟩) ∨ (0 < i ∧ s = ⟨mkS0 i, [(27, [ivC (boxL y i)]), (10, [mkC t (.sl 27 0 0 i 2 (i * 2)) y 0 0 0 0 0 0 0 .nil]), (1, [mkZ]), (0, [sh])]⟩))) (Le.refl _) ⟨0, by omega, .inl ⟨rfl, rfl⟩⟩ ?_
  rintro c s ⟨i, hc, ⟨rfl, rfl⟩ | ⟨hi, rfl⟩⟩
  · refine evx @A_l10_Shape_Make_L0.eq_1 ?_
    have h0 : decide ((0 : Int) < (t.n : Int)) = true := by simp; omega
    refine evx h0 ?_
    refine ⟨by omega, by omega, ?_⟩
    rw [show IntKind.i64.wrap 1 = ((0 + 1 : Nat) : Int) from by decide]
    exact ⟨c - 1, _, by omega, LeT.only (L' := [(27, [ivC (boxL y (0 + 1))]), (10, [mkC t (.sl 27 0 0 (0 + 1) 2 ((0 + 1) * 2)) y 0 0 0 0 0 0 0 .nil]), (1, [mkZ]), (0, [sh])]) (fun X => X != 26) (fun _ h => h) rfl (by simp (maxDischargeDepth := 6) [kpS, fam_cons, fam_nil, KpA_ivC, hsh]) (by simp (maxDischargeDepth := 6) [kpS, fam_cons, fam_nil, KpA_ivC, hsh]), 0 + 1, by omega, .inr ⟨by omega, rfl⟩⟩
  · have hl : (ivC (boxL y i)).length = i * 2 := by rw [ivC_length, boxL_len]
    refine evx @A_l10_Shape_Make_L0.eq_1 ?_
    refine condC_intro (fun h => ?_) (fun h => ?_)
    · replace h := of_decide_eq_true h
      refine ev ?_
      (repeat (with_reducible refine And.intro (by omega) ?_))
      have e := boxL_succ y i
      unfold boxE at e
      simp only [] at e
      have e2 : (boxL y i).length * 2 = i * 2 ∧ (i + 1) * 16 ≤ 140737488355328 := by rw [boxL_len]; exact ⟨rfl, by omega⟩
      refine ⟨e2, ?_⟩
      rw [wrapI (by omega) (by omega), e, show i * 2 + 2 = (i + 1) * 2 by omega]
      exact ⟨c - 1, _, by omega, LeT.only (fun X => decide (X ≤ 27)) (fun _ h => h) rfl (by simp (maxDischargeDepth := 6) [kpS, fam_cons, fam_nil, KpA_ivC, hsh]) (by simp (maxDischargeDepth := 6) [kpS, fam_cons, fam_nil, KpA_ivC, hsh]), i + 1, by omega, .inr ⟨by omega, rfl⟩⟩
    · replace h := of_decide_eq_false h
      have e : i = t.n := by omega
      subst e
      refine ev ?_
      exact hQ _
def outE (outs : List Int) (E : Int) (j : Nat) : Int := outs.getD j 0 % (E + 1)
def outsA (outs : List Int) (E : Int) (i : Nat) : List Int := (List.range i).map (outE outs E)
theorem outsA_succ (outs : List Int) (E : Int) (i : Nat) : rowIV (outsA outs E i) ++ [fI (outE outs E i)] = rowIV (outsA outs E (i + 1)) := by simp [outsA, rowIV, List.range_succ]
theorem outsA_len (outs : List Int) (E : Int) (i : Nat) : (outsA outs E i).length = i := by simp [outsA]
abbrev mkS1 (i : Nat) : Sl := [(1, .ptr 0 0 0 9), (2, .ptr 1 0 0 13), (3, .ptr 10 0 0 13), (5, fI i)]
abbrev mkH (t : Tp) (box : List (Nat × Nat)) (y : List Nat) (E : Int) (c : List V) (sh : List V) : Heap := [(27, [ivC box]), (10, [[fI t.n, .d (opsD t.ops), .d (rowI t.out), .sl 27 0 0 t.n 2 (t.n * 2), .d (rowD y), fI E] ++ c]), (1, [mkZ]), (0, [sh])]
set_option maxRecDepth 8000 in
theorem make10_L1 (n first least tol fin : Int) (ns ms outs : List Int) (dv : Bool) (t : Tp) (box : List (Nat × Nat)) (y : List Nat) (E : Int) (hE : 0 ≤ E ∧ E < 2 ^ 40) (F B : Int) (ra rb rc : Nat) (hmo : Int) (ho : outs.length ≤ 60) (Q : Ex → T → Prop)
    (hQ0 : outs.length = 0 → ∀ w, Q (.exit 2) ⟨mkS1 0 ++ [w], mkH t box y E [fI F, fI B, fl ra, fl rb, fl rc, fI hmo, .nil] (shC n first least tol fin ns ms outs dv)⟩)
    (hQ : 0 < outs.length → ∀ w, Q (.exit 2) ⟨mkS1 (min outs.length 8) ++ [w], (40, [rowIV (outsA outs E (min outs.length 8))]) :: mkH t box y E [fI F, fI B, fl ra, fl rb, fl rc, fI hmo, .sl 40 0 0 (min outs.length 8) 1 (min outs.length 8)] (shC n first least tol fin ns ms outs dv)⟩) :
    WA Tryz.prog (fun _ => False) 141 (.loop A_l10_Shape_Make_L1) Q ⟨mkS1 0, mkH t box y E [fI F, fI B, fl ra, fl rb, fl rc, fI hmo, .nil] (shC n first least tol fin ns ms outs dv)⟩ := by
  refine WA_forW (n := min outs.length 8) (fun c s => ∃ i, c + i = min outs.length 8 ∧ ((i = 0 ∧ s = ⟨mkS1 0, mkH t box y E [fI F, fI B, fl ra, fl rb, fl rc, fI hmo, .nil] (shC n first least tol fin ns ms outs dv)⟩) ∨ (0 < i ∧ s = ⟨mkS1 i, (40, [rowIV (outsA outs E i)]) :: mkH t box y E [fI F, fI B, fl ra, fl rb, fl rc, fI hmo, .sl 40 0 0 i 1 i] (shC n first least tol fin ns ms outs dv)⟩))) (Le.refl _) ⟨0, by omega, .inl ⟨rfl, rfl⟩⟩ ?_
  have wE : IntKind.i64.wrap (E + 1) = E + 1 := wrapI (by omega) (by omega)
  rintro c s ⟨i, hc, ⟨rfl, rfl⟩ | ⟨hi, rfl⟩⟩
  · refine evx @A_l10_Shape_Make_L1.eq_1 ?_
    by_cases h0 : 0 < outs.length
    · have h0' : decide ((0 : Int) < (outs.length : Int)) = true := decide_eq_true (by omega)
      refine evx (And.intro h0' wE) ?_
      refine ⟨by omega, ?_⟩
      refine callSG_con (l10_within_con (outs.getD 0 0) (E + 1) (by omega) (by omega)) rfl ?_
      refine ev ?_
      rw [show IntKind.i64.wrap 1 = ((0 + 1 : Nat) : Int) from by decide]
      exact ⟨c - 1, _, by omega, LeT.only (L' := (40, [rowIV (outsA outs E (0 + 1))]) :: mkH t box y E [fI F, fI B, fl ra, fl rb, fl rc, fI hmo, .sl 40 0 0 (0 + 1) 1 (0 + 1)] (shC n first least tol fin ns ms outs dv)) (fun X => X != 39) (fun _ h => h) rfl (by simp (maxDischargeDepth := 6) [kpS, fam_cons, fam_nil, KpA_ivC]) (by simp (maxDischargeDepth := 6) [kpS, fam_cons, fam_nil, KpA_ivC]), 0 + 1, by omega, .inr ⟨by omega, rfl⟩⟩
    · have h0' : decide ((0 : Int) < (outs.length : Int)) = false := decide_eq_false (by omega)
      refine evx h0' ?_
      exact hQ0 (by omega) _
  · have hol := outsA_len outs E i
    refine evx @A_l10_Shape_Make_L1.eq_1 ?_
    by_cases h1 : i < outs.length
    · have h1' : decide (i < outs.length) = true := decide_eq_true h1
      by_cases h2 : i < 8
      · have h2' : decide ((i : Int) < 8) = true := by simp; omega
        refine evx (And.intro h1' (And.intro h2' wE)) ?_
        (repeat (with_reducible refine And.intro (by omega) ?_))
        refine callSG_con (l10_within_con (outs.getD i 0) (E + 1) (by omega) (by omega)) rfl ?_
        refine ev ?_
        have e1 := outsA_succ outs E i
        unfold outE at e1
        have e2 : (outsA outs E i).length = i ∧ (i + 1) * 8 ≤ 140737488355328 := ⟨hol, by omega⟩
        refine ⟨e2, ?_⟩
        rw [wrapI (by omega) (by omega), e1]
        exact ⟨c - 1, _, by omega, LeT.only (fun X => decide (X ≤ 40)) (fun _ h => h) rfl (by simp (maxDischargeDepth := 6) [kpS, fam_cons, fam_nil, KpA_ivC]) (by simp (maxDischargeDepth := 6) [kpS, fam_cons, fam_nil, KpA_ivC]), i + 1, by omega, .inr ⟨by omega, rfl⟩⟩
      · have h2' : decide ((i : Int) < 8) = false := by simp; omega
        have e : i = min outs.length 8 := by omega
        refine evx (And.intro h1' h2') ?_
        rw [e]
        exact hQ (by omega) _
    · have h1' : decide (i < outs.length) = false := decide_eq_false h1
      have e : i = min outs.length 8 := by omega
      refine evx h1' ?_
      rw [e]
      exact hQ (by omega) _
theorem rowIV_getD {A : List Int} {i : Nat} (h : i < A.length) : (rowIV A).getD i .any = fI (A.getD i 0) := by
  simp [rowIV, List.getD_eq_getElem?_getD, List.getElem?_eq_getElem h]
def maxL (A : List Int) : Nat → List Int
  | 0 => A
  | i + 1 => (maxL A i).set (i + 1) (if (maxL A i).getD (i + 1) 0 < (maxL A i).getD i 0 then (maxL A i).getD i 0 else (maxL A i).getD (i + 1) 0)
theorem maxL_len (A : List Int) (i : Nat) : (maxL A i).length = A.length := by
  induction i with
  | zero => rfl
  | succ i ih => simp [maxL, ih]
abbrev mkS2 (i : Nat) : Sl := [(2, .ptr 1 0 0 13), (3, .ptr 10 0 0 13), (6, fI i)]
set_option maxRecDepth 8000 in
theorem make10_L2 (A : List Int) (m : Nat) (hA : A.length = m) (hm : 0 < m ∧ m ≤ 8) (t : Tp) (box : List (Nat × Nat)) (y : List Nat) (E : Int) (F B : Int) (ra rb rc : Nat) (hmo : Int) (sh : List V) (hsh : ∀ L, KpA L sh) (Q : Ex → T → Prop)
    (hQ : ∀ w, Q (.exit 4) ⟨mkS2 m ++ [w], (40, [rowIV (maxL A (m - 1))]) :: mkH t box y E [fI F, fI B, fl ra, fl rb, fl rc, fI hmo, .sl 40 0 0 m 1 m] sh⟩) :
    WA Tryz.prog (fun _ => False) 141 (.loop A_l10_Shape_Make_L2) Q ⟨mkS2 1, (40, [rowIV A]) :: mkH t box y E [fI F, fI B, fl ra, fl rb, fl rc, fI hmo, .sl 40 0 0 m 1 m] sh⟩ := by
  refine WA_forW (n := m - 1) (fun c s => ∃ i, c + i = m - 1 ∧ s = ⟨mkS2 (i + 1), (40, [rowIV (maxL A i)]) :: mkH t box y E [fI F, fI B, fl ra, fl rb, fl rc, fI hmo, .sl 40 0 0 m 1 m] sh⟩) (Le.refl _) ⟨0, by omega, rfl⟩ ?_
  rintro c s ⟨i, hc, rfl⟩
  have hl := maxL_len A i
  rw [hA] at hl
  refine evx @A_l10_Shape_Make_L2.eq_1 ?_
  refine condC_intro (fun h => ?_) (fun h => ?_)
  · replace h := of_decide_eq_true h
    have wi : IntKind.i64.wrap (((i + 1 : Nat) : Int) - 1) = (i : Int) := by rw [wrapI (by omega) (by omega)]; omega
    have g1 : (rowIV (maxL A i)).getD (i + 1) .any = fI ((maxL A i).getD (i + 1) 0) := rowIV_getD (by omega)
    have g2 : (rowIV (maxL A i)).getD i .any = fI ((maxL A i).getD i 0) := rowIV_getD (by omega)
    refine evx (And.intro wi (And.intro g1 g2)) ?_
    refine ⟨h, ⟨hl, by omega⟩, by omega, ⟨hl, by omega⟩, h, ⟨hl, by omega⟩, ?_⟩
    rw [wrapI (by omega) (by omega)]
    exact ⟨c - 1, _, by omega, Le.refl _, i + 1, by omega, rfl⟩
  · replace h := of_decide_eq_false h
    have e : i = m - 1 := by omega
    refine ev ?_
    rw [show i + 1 = m by omega, show i = m - 1 by omega]
    exact hQ _
theorem Fz_iv {L L' : Heap} {X n : Nat} {ps : List (Nat × Nat)} (h : L.get X 0 = some (ivC ps)) (hn : ps.length = n) (h2 : L'.get X 0 = none) : LeV L L' (fun X r => (X, r)) (.sl X 0 0 n 2 (n * 2)) (.d (ivD ps)) :=
  .d (snap_iv (fun Z q hZ e => by cases e; exact hZ h2) h hn rfl)
theorem Fz_ints {L L' : Heap} {X n : Nat} {xs : List Int} (h : L.get X 0 = some (rowIV xs)) (hn : xs.length = n) (h2 : L'.get X 0 = none) : LeV L L' (fun X r => (X, r)) (.sl X 0 0 n 1 n) (.d (rowI xs)) :=
  .d (snap_rowI (fun Z q hZ e => by cases e; exact hZ h2) h hn rfl)
def mkE (fin : Int) (F : Nat) : Int := if fin % 4 = 0 then 4 * (F : Int) else 1 + fin % 536870912
def mkA (first : Int) : Nat := (16 + first % 13).toNat
def mkB (least : Int) : Nat := (least % 10).toNat
def mkAt (tol : Int) : Nat := fop .div 4607182418800017408 (FloatKind.nearest .f64 ((2 ^ (tol % 24).toNat : Nat) : Int))
def mkRt (tol : Int) : Nat := fop .div (FloatKind.nearest .f64 (IntKind.i64.wrap (tol.tdiv 24) % 3)) 4652218415073722368
def mkO (outs : List Int) (E : Int) : List Int := maxL (outsA outs E (min outs.length 8)) (min outs.length 8 - 1)
def mkPb (n first least tol fin : Int) (ns ms outs : List Int) (dv : Bool) : Pb :=
  ⟨mkT n ns dv, boxL (valsL (mkT n ns dv).n ms) (mkT n ns dv).n, valsL (mkT n ns dv).n ms, mkE fin (2 ^ mkA first), ((2 ^ mkA first : Nat) : Int), ((2 ^ (mkA first - mkB least) : Nat) : Int),
    mkAt tol, mkRt tol, 4616189618054758400, 24, mkO outs (mkE fin (2 ^ mkA first))⟩
theorem mkO_nil (outs : List Int) (E : Int) (h : outs.length = 0) : mkO outs E = [] := by
  unfold mkO; rw [h]; rfl
theorem mkO_len (outs : List Int) (E : Int) : (mkO outs E).length = min outs.length 8 := by
  unfold mkO; rw [maxL_len, outsA_len]
set_option maxRecDepth 8000 in
theorem l10_Make_con (n first least tol fin : Int) (ns ms outs : List Int) (dv : Bool) (h1 : ns.length ≤ 60) (h2 : ms.length ≤ 60) (h3 : outs.length ≤ 60) : Con Tryz.prog 13 [.agg (shC n first least tol fin ns ms outs dv)] (pbV (mkPb n first least tol fin ns ms outs dv)) := by
  unfold mkPb
  refine Con_introA A_l10_Shape_Make_comp rfl mixed ?_
  refine evx @A_l10_Shape_Make.eq_1 ?_
  refine callG_con (l3_Make_con n ns dv (by omega)) rfl ?_
  have hT := mkT_n n ns dv
  generalize mkT n ns dv = t at hT
  refine ev ?_
  refine callG_con (l3_Values_con t.n ms (by omega) (by omega)) rfl ?_
  have hy : (valsL t.n ms).length = t.n := tabR_len _ _
  generalize valsL t.n ms = y at hy
  refine ev ?_
  refine make10_L0 _ t y hy (by omega) (fun L => ?_) _ fun w => ?_
  · simp only [KpA_cons]; exact ⟨Kp_d _, Kp_d _, Kp_d _, Kp_d _, Kp_d _, Kp_d _, Kp_d _, Kp_d _, Kp_d _, KpA_nil⟩
  have hbl : (boxL y t.n).length = t.n := boxL_len _ _
  generalize boxL y t.n = box at hbl
  refine ev ?_
  refine callG_con (l10_within_con first 13 (by decide) (by decide)) rfl ?_
  have f1 := Int.emod_nonneg first (by decide : (13 : Int) ≠ 0)
  have f2 := Int.emod_lt_of_pos first (by decide : (0 : Int) < 13)
  obtain ⟨a, ha⟩ : ∃ a : Nat, 16 + first % 13 = a := ⟨(16 + first % 13).toNat, by omega⟩
  have haA : mkA first = a := by unfold mkA; rw [ha]; rfl
  rw [haA]
  have wa : IntKind.i64.wrap (16 + first % 13) = (a : Int) := by rw [ha]; exact wrapI (by omega) (by omega)
  have wu : 0 ≤ IntKind.u64.wrap (a : Int) := by rw [wrapU (by omega) (by omega)]; omega
  simp -implicitDefEqProofs only [evI, hv, effC, reduceCtorEq, ↓reduceIte, n1_, n2_, n3_, n4_, n5_, i1_, i2_, i3_, i4_, i5_, i6_, i7_, wa, shl_pow' a (by omega)]
  refine ⟨wu, ?_⟩
  refine callSG_con (l10_within_con least 10 (by decide) (by decide)) rfl ?_
  have g1 := Int.emod_nonneg least (by decide : (10 : Int) ≠ 0)
  have g2 := Int.emod_lt_of_pos least (by decide : (0 : Int) < 10)
  obtain ⟨b, hb⟩ : ∃ b : Nat, least % 10 = b := ⟨(least % 10).toNat, by omega⟩
  have hbB : mkB least = b := by unfold mkB; rw [hb]; rfl
  rw [hb, hbB]
  have wu2 : 0 ≤ IntKind.u64.wrap (b : Int) := by rw [wrapU (by omega) (by omega)]; omega
  simp -implicitDefEqProofs only [evI, hv, effC, reduceCtorEq, ↓reduceIte, n1_, n2_, n3_, n4_, n5_, i1_, i2_, i3_, i4_, i5_, i6_, i7_, shr_pow a b (by omega) (by omega)]
  refine ⟨wu2, ?_⟩
  refine callG_con (l10_within_con fin 536870912 (by decide) (by decide)) rfl ?_
  have e1 := Int.emod_nonneg fin (by decide : (536870912 : Int) ≠ 0)
  have e2 := Int.emod_lt_of_pos fin (by decide : (0 : Int) < 536870912)
  have we : IntKind.i64.wrap (1 + fin % 536870912) = 1 + fin % 536870912 := wrapI (by omega) (by omega)
  refine evx we ?_
  refine callG_con (l10_within_con fin 4 (by decide) (by decide)) rfl ?_
  obtain ⟨F, hF⟩ : ∃ F : Nat, 2 ^ a = F := ⟨_, rfl⟩
  rw [hF]
  have w4 : IntKind.i64.wrap (4 * (F : Int)) = 4 * (F : Int) := by
    have : 2 ^ a ≤ 2 ^ 28 := Nat.pow_le_pow_right (by decide) (by omega)
    exact wrapI (by omega) (by omega)
  obtain ⟨E, hE⟩ : ∃ E : Int, E = mkE fin F := ⟨_, rfl⟩
  have hFb : 0 < F ∧ F ≤ 2 ^ 28 := by rw [← hF]; exact ⟨Nat.pow_pos (by decide), Nat.pow_le_pow_right (by decide) (by omega)⟩
  have hEb : 0 ≤ E ∧ E < 2 ^ 40 := by rw [hE]; unfold mkE; split <;> omega
  rw [← hE]
  unfold mkE at hE
  by_cases c1 : fin % 4 = 0
  case' pos =>
    have c1' : (fin % 4 == 0) = true := by simpa using c1
    refine evx (And.intro c1' w4) ?_
    rw [if_pos c1] at hE
    rw [← hE]
  case' neg =>
    have c1' : (fin % 4 == 0) = false := by simpa using c1
    refine evx c1' ?_
    rw [if_neg c1] at hE
    rw [← hE]
  all_goals
    refine callG_con (l10_within_con tol 24 (by decide) (by decide)) rfl ?_
    have t1 := Int.emod_nonneg tol (by decide : (24 : Int) ≠ 0)
    have t2 := Int.emod_lt_of_pos tol (by decide : (0 : Int) < 24)
    obtain ⟨k, hk⟩ : ∃ k : Nat, tol % 24 = k := ⟨(tol % 24).toNat, by omega⟩
    have hkA : mkAt tol = fop .div 4607182418800017408 (FloatKind.nearest .f64 ((2 ^ k : Nat) : Int)) := by unfold mkAt; rw [hk]; rfl
    rw [hk, hkA]
    have wu3 : 0 ≤ IntKind.u64.wrap (k : Int) := by rw [wrapU (by omega) (by omega)]; omega
    simp -implicitDefEqProofs only [evI, hv, effC, reduceCtorEq, ↓reduceIte, n1_, n2_, n3_, n4_, n5_, i1_, i2_, i3_, i4_, i5_, i6_, i7_, shl_pow' k (by omega)]
    refine ⟨wu3, by decide, ?_⟩
    refine callG_con (l10_within_con (IntKind.i64.wrap (tol.tdiv 24)) 3 (by decide) (by decide)) rfl ?_
    refine ev ?_
    refine make10_L1 n first least tol fin ns ms outs dv t box y E hEb F ((2 ^ (a - b) : Nat) : Int) _ _ _ 24 h3 _ (fun h w => ?_) (fun h w => ?_)
    · refine ev ?_
      refine WA_for (n := 0) (fun c s => s = ⟨_, _⟩) rfl ?_
      rintro c s rfl
      refine evx @A_l10_Shape_Make_L2.eq_1 ?_
      rw [mkO_nil _ _ h]
      exact endsT_le (.agg [fI t.n, .d (opsD t.ops), .d (rowI t.out), .sl 27 0 0 t.n 2 (t.n * 2), .d (rowD y), fI E, fI F, fI ((2 ^ (a - b) : Nat) : Int), fl _, fl _, fl _, fI 24, .nil]) (fun _ h => h) (resV_cellI (by decide) rfl rfl rfl (by simp) rfl)
        (Fz_agg _ _ ⟨Fz_d _, Fz_d _, Fz_d _, Fz_iv rfl hbl (get_nil _ _), Fz_d _, Fz_d _, Fz_d _, Fz_d _, Fz_d _, Fz_d _, Fz_d _, Fz_d _, .d (.nil _), trivial⟩)
    · refine ev ?_
      refine make10_L2 _ _ (outsA_len _ _ _) (by omega) t box y E F ((2 ^ (a - b) : Nat) : Int) _ _ _ 24 _ ?_ _ fun w => ?_
      · intro L; simp only [KpA_cons]; exact ⟨Kp_d _, Kp_d _, Kp_d _, Kp_d _, Kp_d _, Kp_d _, Kp_d _, Kp_d _, Kp_d _, KpA_nil⟩
      refine ev ?_
      exact endsT_le (.agg [fI t.n, .d (opsD t.ops), .d (rowI t.out), .sl 27 0 0 t.n 2 (t.n * 2), .d (rowD y), fI E, fI F, fI ((2 ^ (a - b) : Nat) : Int), fl _, fl _, fl _, fI 24, .sl 40 0 0 (min outs.length 8) 1 (min outs.length 8)]) (fun _ h => h) (resV_cellI (by decide) rfl rfl rfl (by simp) rfl)
        (Fz_agg _ _ ⟨Fz_d _, Fz_d _, Fz_d _, Fz_iv rfl hbl (get_nil _ _), Fz_d _, Fz_d _, Fz_d _, Fz_d _, Fz_d _, Fz_d _, Fz_d _, Fz_d _, Fz_ints rfl (mkO_len _ _) (get_nil _ _), trivial⟩)
end Go.Ab
namespace Go.Ab
set_option linter.unusedSimpArgs false
set_option linter.unusedVariables false
open Go Go.Proofs
theorem scale_row0 {Z : List (List Nat)} {m n : Nat} (h : Rk m n Z) (hm : 0 < m) (hc : Cw Z) (k : Int) : (scaleP Z k m n).getD 0 [] = Z.getD 0 [] := by
  have hs := scaleP_rk h k m n
  have l1 := hs.2 0 hm
  have l2 := h.2 0 hm
  refine List.ext_getElem (by omega) fun i h1 h2 => ?_
  have e := mapJ_at (fun j _ x => scl x (j * k)) h m (Nat.le_refl _) 0 i
  rw [if_pos ⟨hm, by omega⟩] at e
  have e2 : at2 (scaleP Z k m n) 0 i = at2 Z 0 i := by
    show at2 (mapJ _ Z n m) 0 i = _
    rw [e]
    show scl _ ((0 : Nat) * k) = _
    rw [show (((0 : Nat) : Int) * k) = 0 by simp]
    exact scl_zero (hc 0 i)
  unfold at2 at e2
  rw [List.getD_eq_getElem?_getD (i := i), List.getD_eq_getElem?_getD (i := i), List.getElem?_eq_getElem h1, List.getElem?_eq_getElem h2] at e2
  exact e2
theorem nextR_len (l d : List Nat) (q : Nat) : (nextR l d q).length = d.length := tabR_len _ _
theorem Rk_app {Z : List (List Nat)} {m n : Nat} (h : Rk m n Z) (x : List Nat) (hx : x.length = n) : Rk (m + 1) n (Z ++ [x]) := by
  refine ⟨by simp [h.1], fun i hi => ?_⟩
  by_cases hi2 : i < m
  · rw [List.getD_eq_getElem?_getD, List.getElem?_append_left (by rw [h.1]; exact hi2), ← List.getD_eq_getElem?_getD]
    exact h.2 i hi2
  · obtain rfl : i = m := by omega
    rw [List.getD_eq_getElem?_getD, List.getElem?_append_right (by rw [h.1]; exact Nat.le_refl _), h.1, Nat.sub_self]
    exact hx
theorem Cw_app {Z : List (List Nat)} (h : Cw Z) (x : List Nat) (hx : ∀ i, cw (x.getD i 0)) : Cw (Z ++ [x]) := fun r i => by
  unfold at2
  by_cases hr : r < Z.length
  · rw [List.getD_eq_getElem?_getD (l := Z ++ [x]), List.getElem?_append_left hr, ← List.getD_eq_getElem?_getD]
    exact h r i
  · rw [List.getD_eq_getElem?_getD (l := Z ++ [x]), List.getElem?_append_right (by omega)]
    by_cases hr2 : r - Z.length = 0
    · rw [hr2]; exact hx i
    · rw [show ([x] : List (List Nat))[r - Z.length]? = none from List.getElem?_eq_none (by simp; omega)]
      exact cw_zero
theorem tabR_cw (f : Nat → Nat) (n : Nat) (h : ∀ i, cw (f i)) (i : Nat) : cw ((tabR f n).getD i 0) := by
  by_cases hi : i < n
  · rw [tabR_getD _ _ _ hi]; exact h i
  · rw [List.getD_eq_getElem?_getD, List.getElem?_eq_none (by rw [tabR_len]; omega)]
    exact cw_zero
theorem startZ_rk (t : Tp) (y : List Nat) (h : Nat) (hy : y.length = t.n) : Rk 2 t.n (startZ t y h) := by
  refine ⟨rfl, fun i hi => ?_⟩
  rcases i with _ | _ | i
  · exact hy
  · exact tabR_len _ _
  · omega
theorem startZ_cw (t : Tp) (y : List Nat) (h : Nat) (hy : ∀ i, cw (y.getD i 0)) : Cw (startZ t y h) := fun r i => by
  rcases r with _ | _ | r
  · exact hy i
  · exact tabR_cw _ _ (fun i => fop_cw _ _ _) i
  · exact cw_zero
structure Pk (p : Pb) : Prop where
  ok : Pok p
  fst : ∃ a, a ≤ 28 ∧ p.first = (2 ^ a : Nat)
  lst : ∃ b, b ≤ 28 ∧ p.least = (2 ^ b : Nat)
  le : p.least ≤ p.first
  fin : 0 ≤ p.fin ∧ p.fin ≤ 2147483648
  yl : p.y.length = p.t.n
  yc : ∀ i, cw (p.y.getD i 0)
structure Inv (p : Pb) (k : Nat) (s : Sta) : Prop where
  ok : s.ok p.t
  pos : s.n.pos ≤ k * 4294967296
  good : s.good ≤ k
  fails : s.fails ≤ 2
  slow : s.slow ≤ 1
  lo : p.least ≤ s.n.step
  hi : s.n.step ≤ 2 * p.fin ∨ s.n.step ≤ 2 * p.first
def beginS (p : Pb) : Sta := ⟨⟨0, p.first, 1, 0, startZ p.t p.y (hW p.first.toNat)⟩, 0, 0, 0⟩
theorem begin_inv {p : Pb} (h : Pk p) : Inv p 0 (beginS p) := by
  obtain ⟨a, ha, hfa⟩ := h.fst
  have hl := h.ok.least
  have hle := h.le
  refine ⟨⟨⟨.inl ⟨rfl, Int.le_refl _, by show (1 : Int) ≤ 5; decide⟩, ⟨a, by omega, hfa⟩, startZ_rk _ _ _ h.yl, startZ_cw _ _ _ h.yc, ⟨Int.le_refl _, by show (0 : Int) < _; decide⟩⟩, ⟨Int.le_refl _, by show (0 : Int) < _; decide⟩, ⟨Int.le_refl _, by show (0 : Int) < _; decide⟩, ⟨Int.le_refl _, by show (0 : Int) < _; decide⟩⟩, by show (0 : Int) ≤ _; decide, by show (0 : Int) ≤ _; decide, by show (0 : Int) ≤ _; decide, by show (0 : Int) ≤ _; decide, hle, .inr ?_⟩
  show p.first ≤ 2 * p.first
  omega
theorem pow_step {a b : Nat} (h : 2 ^ a < 2 ^ b) : a + 1 ≤ b := by
  rcases Nat.lt_or_ge a b with h1 | h1
  · exact h1
  · exact absurd (Nat.pow_le_pow_right (by decide : 0 < 2) h1) (by omega)
theorem fresh_ok {p : Pb} {n : Nd} (hp : Pk p) (hm : n.method = 0 ∨ n.method = 1) (hst : ∃ j : Nat, j < 60 ∧ n.step = (2 ^ j : Nat)) (hr : (n.z.getD 0 []).length = p.t.n) (hc : ∀ i, cw ((n.z.getD 0 []).getD i 0)) (hpos : 0 ≤ n.pos ∧ n.pos < 2305843009213693952) : Nok p.t (freshP p n) := by
  refine ⟨?_, hst, startZ_rk _ _ _ hr, startZ_cw _ _ _ hc, hpos⟩
  show (n.method = 0 ∧ (1 : Int) ≤ 1 ∧ (1 : Int) ≤ 5) ∨ (n.method = 1 ∧ (1 : Int) ≤ 1 ∧ (1 : Int) ≤ 4)
  omega
theorem take_inv {p : Pb} {k : Nat} {s : Sta} (hp : Pk p) (h : Inv p k s) (hk : k < 100000) (z : List (List Nat)) (l d : List Nat) (err : Nat) (hz : Rk (s.n.order.toNat + 1) p.t.n z) (hzc : Cw z) (hd : d.length = p.t.n) : Inv p (k + 1) (takeP p s z l d err).s := by
  obtain ⟨⟨⟨hm, ⟨j, hj, hst⟩, hr, hc, hpos⟩, hg, hf, hsl⟩, hps, hgd, hfl, hsw, hlo, hhi⟩ := h
  obtain ⟨a, ha, hfa⟩ := hp.fst
  have hfin := hp.fin
  have pa : 2 ^ a ≤ 2 ^ 28 := Nat.pow_le_pow_right (by decide) ha
  have hl1 := hp.ok.least
  obtain ⟨⟨pos, st, o, m, z0⟩, g, f, sl⟩ := s
  simp only at *
  have hst2 : st ≤ 4294967296 := by omega
  have hr' := corrP_rk hz l d (o.toNat + 1) p.t.n
  have hc' := corrP_cw hzc l d (o.toNat + 1) p.t.n
  have hpos' : 0 ≤ pos + st ∧ pos + st < 2305843009213693952 := by omega
  have hps' : pos + st ≤ ((k + 1 : Nat) : Int) * 4294967296 := by omega
  unfold takeP
  simp only
  split
  · exact ⟨⟨⟨hm, ⟨j, hj, hst⟩, hr', hc', hpos'⟩, by simp only; omega, by simp only; omega, by simp only; omega⟩, hps', by simp only; omega, by simp only; omega, by simp only; omega, hlo, hhi⟩
  · split
    · rename_i h2
      have hj2 : j + 1 < 60 := by
        have : 2 ^ j < 2 ^ 40 := by omega
        have := pow_step this
        omega
      refine ⟨⟨⟨hm, ⟨j + 1, hj2, ?_⟩, scaleP_rk hr' 1 _ _, scaleP_cw hc' 1 _ _, hpos'⟩, by simp only; omega, by simp only; omega, by simp only; omega⟩, hps', by simp only; omega, by simp only; omega, by simp only; omega, by simp only; omega, .inl (by simp only; omega)⟩
      show 2 * st = _
      rw [hst, Nat.pow_succ]; omega
    · split
      · rename_i h3
        have hmo : mostO m = if m = 0 then 5 else 4 := rfl
        have h4 := h3.2
        rw [hmo] at h4
        have ho1 : (o + 1).toNat + 1 = o.toNat + 1 + 1 := by omega
        refine ⟨⟨⟨?_, ⟨j, hj, hst⟩, ?_, Cw_app hc' _ (tabR_cw _ _ fun i => fop_cw _ _ _), hpos'⟩, by simp only; omega, by simp only; omega, by simp only; omega⟩, hps', by simp only; omega, by simp only; omega, by simp only; omega, hlo, hhi⟩
        · simp only
          split at h4 <;> omega
        · simp only
          rw [ho1]
          exact Rk_app hr' _ (by rw [nextR_len]; exact hd)
      · exact ⟨⟨⟨hm, ⟨j, hj, hst⟩, hr', hc', hpos'⟩, by simp only; omega, by simp only; omega, by simp only; omega⟩, hps', by simp only; omega, by simp only; omega, by simp only; omega, hlo, hhi⟩
theorem fail_inv {p : Pb} {k : Nat} {s : Sta} (hp : Pk p) (h : Inv p k s) (hk : k < 100000) (e : Int) (err : Nat) : Inv p (k + 1) (failP p s e err).s := by
  obtain ⟨⟨⟨hm, ⟨j, hj, hst⟩, hr, hc, hpos⟩, hg, hf, hsl⟩, hps, hgd, hfl, hsw, hlo, hhi⟩ := h
  obtain ⟨b, hb, hlb⟩ := hp.lst
  have hl1 := hp.ok.least
  obtain ⟨⟨pos, st, o, m, z0⟩, g, f, sl⟩ := s
  simp only at *
  have hps' : pos ≤ ((k + 1 : Nat) : Int) * 4294967296 := by omega
  unfold failP
  simp only
  split
  · exact ⟨⟨⟨hm, ⟨j, hj, hst⟩, hr, hc, hpos⟩, hg, hf, hsl⟩, hps', by simp only; omega, hfl, hsw, hlo, hhi⟩
  · rename_i h1
    have hbj : 2 ^ b < 2 ^ j := by omega
    have hbj2 := pow_step hbj
    obtain ⟨i, rfl⟩ : ∃ i, j = i + 1 := ⟨j - 1, by omega⟩
    have hst' : st / 2 = ((2 ^ i : Nat) : Int) := by rw [hst, Nat.pow_succ]; omega
    have hlo' : p.least ≤ st / 2 := by
      rw [hst', hlb]
      have : 2 ^ b ≤ 2 ^ i := Nat.pow_le_pow_right (by decide) (by omega)
      omega
    have hhi' : st / 2 ≤ 2 * p.fin ∨ st / 2 ≤ 2 * p.first := by
      have : 0 ≤ st := by omega
      omega
    have hr' := scaleP_rk hr (-1) (o.toNat + 1) p.t.n
    have hc' := scaleP_cw hc (-1) (o.toNat + 1) p.t.n
    have hsl' : 0 ≤ (if e = 6 ∧ m = 0 then sl + 1 else sl) ∧ (if e = 6 ∧ m = 0 then sl + 1 else sl) ≤ 2 := by split <;> omega
    generalize (if e = 6 ∧ m = 0 then sl + 1 else sl) = sl' at hsl'
    split
    · exact ⟨⟨fresh_ok hp (.inr rfl) ⟨i, by omega, hst'⟩ (hr'.2 0 (by omega)) (fun c => hc' 0 c) hpos, by simp only; omega, by simp only; omega, by simp only; omega⟩, hps', by simp only; omega, by simp only; omega, by simp only; omega, hlo', hhi'⟩
    · split
      · exact ⟨⟨⟨hm, ⟨i, by omega, hst'⟩, hr', hc', hpos⟩, by simp only; omega, by simp only; omega, by simp only; omega⟩, hps', by simp only; omega, by simp only; omega, by simp only; omega, hlo', hhi'⟩
      · exact ⟨⟨fresh_ok hp (by simp only; omega) ⟨i, by omega, hst'⟩ (hr'.2 0 (by omega)) (fun c => hc' 0 c) hpos, by simp only; omega, by simp only; omega, by simp only; omega⟩, hps', by simp only; omega, by simp only; omega, by simp only; omega, hlo', hhi'⟩
theorem tryP_cases {p : Pb} {k : Nat} {s : Sta} (hp : Pk p) (h : Inv p k s) :
    (∃ d kk err, solG p.t (predP s.n.z p.t.n s.n.order.toNat) (ofL s.n.method s.n.order.toNat) (hW s.n.step.toNat) (wtP (s.n.z.getD 0 []) p.atol p.rtol) s.n.method = (d, kk, 0) ∧ d.length = p.t.n ∧ fcmp .le err 4607182418800017408 = true ∧ tryP p s = takeP p s (predP s.n.z p.t.n s.n.order.toNat) (ofL s.n.method s.n.order.toNat) d err) ∨ ∃ e err, tryP p s = failP p s e err := by
  unfold tryP
  rcases solG_form p.t (predP s.n.z p.t.n s.n.order.toNat) (ofL s.n.method s.n.order.toNat) (hW s.n.step.toNat) (wtP (s.n.z.getD 0 []) p.atol p.rtol) s.n.method with ⟨g, kk, hg, he⟩ | ⟨kk, e, hne, he⟩
  · simp only [he, ne_eq, not_true_eq_false, if_false]
    split
    · rename_i h1
      exact .inl ⟨g, kk, _, rfl, hg, h1, rfl⟩
    · exact .inr ⟨_, _, rfl⟩
  · simp only [he, ne_eq, hne, not_false_eq_true, if_true]
    exact .inr ⟨_, _, rfl⟩
theorem tryP_inv {p : Pb} {k : Nat} {s : Sta} (hp : Pk p) (h : Inv p k s) (hk : k < 100000) : Inv p (k + 1) (tryP p s).s := by
  rcases tryP_cases hp h with ⟨d, kk, err, _, hd, _, e⟩ | ⟨e', err, e⟩
  · rw [e]
    exact take_inv hp h hk _ _ _ _ (predP_rk h.ok.n.rk _) (predP_cw h.ok.n.cw _ _) hd
  · rw [e]
    exact fail_inv hp h hk _ _
theorem mkPb_ok (n first least tol fin : Int) (ns ms outs : List Int) (dv : Bool) : Pk (mkPb n first least tol fin ns ms outs dv) := by
  have m1 := Int.emod_nonneg n (by decide : (3 : Int) ≠ 0)
  have f1 := Int.emod_nonneg first (by decide : (13 : Int) ≠ 0)
  have f2 := Int.emod_lt_of_pos first (by decide : (0 : Int) < 13)
  have g1 := Int.emod_nonneg least (by decide : (10 : Int) ≠ 0)
  have g2 := Int.emod_lt_of_pos least (by decide : (0 : Int) < 10)
  have e1 := Int.emod_nonneg fin (by decide : (536870912 : Int) ≠ 0)
  have e2 := Int.emod_lt_of_pos fin (by decide : (0 : Int) < 536870912)
  have ha : mkA first ≤ 28 := by unfold mkA; omega
  have hl : (2 : Nat) ^ (mkA first - mkB least) ≤ 2 ^ mkA first := Nat.pow_le_pow_right (by decide) (Nat.sub_le _ _)
  have hpos : 0 < (2 : Nat) ^ (mkA first - mkB least) := Nat.pow_pos (by decide)
  have hp28 : (2 : Nat) ^ mkA first ≤ 2 ^ 28 := Nat.pow_le_pow_right (by decide) ha
  refine ⟨⟨mkT_ok n ns dv, ?_, ?_⟩, ⟨mkA first, ha, rfl⟩, ⟨mkA first - mkB least, by omega, rfl⟩, ?_, ?_, tabR_len _ _, tabR_cw _ _ fun i => fop_cw _ _ _⟩
  · show 0 < (mkT n ns dv).n
    rw [mkT_n]; omega
  · show (1 : Int) ≤ ((2 ^ (mkA first - mkB least) : Nat) : Int)
    omega
  · show ((2 ^ (mkA first - mkB least) : Nat) : Int) ≤ ((2 ^ mkA first : Nat) : Int)
    omega
  · show 0 ≤ mkE fin (2 ^ mkA first) ∧ mkE fin (2 ^ mkA first) ≤ 2147483648
    generalize 2 ^ mkA first = F at hp28
    unfold mkE
    split <;> omega
def kp10 : Pb := ⟨⟨1, [⟨0, 0, 0, 0⟩], [0]⟩, [(13844628204490326016, 4621256167635550208)], [4607182418800017408], 1073741824, 1048576, 1, 4607182418800017408, 0, 4607182418800017408, 9, []⟩
def ks10 : Sta := ⟨⟨0, 1048576, 1, 0, [[4607182418800017408], [0]]⟩, 0, 0, 0⟩
theorem kp10_ok : Pok kp10 := ⟨⟨by decide, by decide, fun i hi => by
    have hi : i < 1 := hi
    obtain rfl : i = 0 := by omega
    exact .inl rfl, rfl, fun i hi => by
    have hi : i < 1 := hi
    obtain rfl : i = 0 := by omega
    decide⟩, by decide, by decide⟩
theorem cw_one : cw 4607182418800017408 := .inr (.inr (.inr ⟨false, 4607182418800017408, by decide, by decide⟩))
theorem ks10_ok : ks10.ok kp10.t := ⟨⟨.inl ⟨rfl, by decide, by decide⟩, ⟨20, by decide, rfl⟩, ⟨rfl, fun r hr => by
    have hr : r < 2 := hr
    rcases r with _ | _ | r
    · rfl
    · rfl
    · omega⟩, fun r i => by
    rcases r with _ | _ | r
    · rcases i with _ | i
      · exact cw_one
      · exact cw_zero
    · rcases i with _ | i
      · exact cw_zero
      · exact cw_zero
    · exact cw_zero, by decide⟩, by decide, by decide, by decide⟩
theorem snap_two' {L : Heap} {X A B : Nat} {a b : Nat} (h : L.get X 0 = some [.sl A 0 0 1 1 1, .sl B 0 0 1 1 1]) (hA : L.get A 0 = some (rowV [a])) (hB : L.get B 0 = some (rowV [b])) : Snap L (.sl X 0 0 2 1 2) (.d (rowsD [[a], [b]])) := by
  refine .sl h rfl (by simp) (fun i hi => rfl) fun i j hi hj => ?_
  obtain rfl : j = 0 := by omega
  have hi : i < 2 := hi
  rcases i with _ | _ | i
  · exact snp_row hA rfl rfl
  · exact snp_row hB rfl rfl
  · omega
theorem begin_con (p : Pb) (hp : Pk p) : Con Tryz.prog 14 [pbV p] (staV (beginS p)) := by
  obtain ⟨a, ha, hfa⟩ := hp.fst
  have h := l10_Begin_con p hp.ok a (by omega) hfa hp.yl
  have e : hW p.first.toNat = hW (2 ^ a) := by rw [hfa, Int.toNat_natCast]
  unfold beginS
  rw [e]
  exact h
structure SpecT (p : Pb) (x : Sta) (r : Trd) : Prop where
  err : fcmp .le r.err 4607182418800017408 = true
  e : r.e = 0
  npos : r.n.pos = x.n.pos + x.n.step
  nord : r.n.order = x.n.order
  nmet : r.n.method = x.n.method
  nstep : r.n.step = x.n.step
  pos : r.s.n.pos = x.n.pos + x.n.step
  fails : r.s.fails = 0
  step : (r.s.n.step = x.n.step ∧ (r.s.n.order = x.n.order ∨ r.s.n.order = x.n.order + 1)) ∨ (r.s.n.step = 2 * x.n.step ∧ r.s.n.order = x.n.order)
  met : r.s.n.method = x.n.method
  len : r.n.z.length = x.n.order.toNat + 1
  row : r.s.n.z.getD 0 [] = r.n.z.getD 0 []
  sol : ∃ d k, d.length = p.t.n ∧ solG p.t (predP x.n.z p.t.n x.n.order.toNat) (ofL x.n.method x.n.order.toNat) (hW x.n.step.toNat) (wtP (x.n.z.getD 0 []) p.atol p.rtol) x.n.method = (d, k, 0) ∧ r.n.z = corrP (predP x.n.z p.t.n x.n.order.toNat) (ofL x.n.method x.n.order.toNat) d (x.n.order.toNat + 1) p.t.n
structure SpecF (p : Pb) (x : Sta) (r : Trd) : Prop where
  nz : r.n.z = []
  pos : r.s.n.pos = x.n.pos
  half : r.e = 0 → 2 * r.s.n.step = x.n.step
  stay : r.e ≠ 0 → r.s = x ∧ x.n.step ≤ p.least ∧ (r.e = 5 ∨ r.e = 4 ∨ r.e = 2)
  anew : r.e = 0 → r.s.fails = 0 → r.s.n.order = 1
  ord : r.s.n.order = x.n.order ∨ r.s.n.order = 1
  met : x.n.method ≤ r.s.n.method
  row : r.s.n.z.getD 0 [] = x.n.z.getD 0 []
theorem take_row {Z : List (List Nat)} {m n : Nat} (h : Rk m n Z) (hm : 0 < m) (x : List Nat) : (Z ++ [x]).getD 0 [] = Z.getD 0 [] := by
  rw [List.getD_eq_getElem?_getD, List.getElem?_append_left (by rw [h.1]; exact hm), ← List.getD_eq_getElem?_getD]
theorem try_spec {p : Pb} {k : Nat} {x : Sta} (hp : Pk p) (h : Inv p k x) : ((tryP p x).taken = true ∧ SpecT p x (tryP p x)) ∨ ((tryP p x).taken = false ∧ SpecF p x (tryP p x)) := by
  rcases tryP_cases hp h with ⟨d, kk, err, hsg, hd, hle, e⟩ | ⟨e', err, e⟩
  · left
    rw [e]
    have hz := corrP_rk (predP_rk h.ok.n.rk x.n.order.toNat) (ofL x.n.method x.n.order.toNat) d (x.n.order.toNat + 1) p.t.n
    have hc := corrP_cw (predP_cw h.ok.n.cw p.t.n x.n.order.toNat) (ofL x.n.method x.n.order.toNat) d (x.n.order.toNat + 1) p.t.n
    unfold takeP
    simp only
    split
    · exact ⟨trivial, hle, rfl, rfl, rfl, rfl, rfl, rfl, rfl, .inl ⟨rfl, .inl rfl⟩, rfl, hz.1, rfl, d, kk, hd, hsg, rfl⟩
    · split
      · exact ⟨trivial, hle, rfl, rfl, rfl, rfl, rfl, rfl, rfl, .inr ⟨rfl, rfl⟩, rfl, hz.1, scale_row0 hz (by omega) hc _, d, kk, hd, hsg, rfl⟩
      · split
        · exact ⟨trivial, hle, rfl, rfl, rfl, rfl, rfl, rfl, rfl, .inl ⟨rfl, .inr rfl⟩, rfl, hz.1, take_row hz (by omega) _, d, kk, hd, hsg, rfl⟩
        · exact ⟨trivial, hle, rfl, rfl, rfl, rfl, rfl, rfl, rfl, .inl ⟨rfl, .inl rfl⟩, rfl, hz.1, rfl, d, kk, hd, hsg, rfl⟩
  · right
    rw [e]
    obtain ⟨⟨hm, ⟨j, hj, hst⟩, hr, hc, hpos⟩, hg, hf, hsl⟩ := h.ok
    obtain ⟨b, hb, hlb⟩ := hp.lst
    have hl1 := hp.ok.least
    unfold failP
    simp only
    split
    · rename_i h1
      refine ⟨rfl, rfl, rfl, fun h2 => ?_, fun _ => ⟨rfl, h1, ?_⟩, fun h2 => ?_, .inl rfl, Int.le_refl _, rfl⟩
      · replace h2 : (if e' = 4 ∨ e' = 2 then e' else 5) = 0 := h2
        split at h2 <;> omega
      · show (if e' = 4 ∨ e' = 2 then e' else 5) = 5 ∨ (if e' = 4 ∨ e' = 2 then e' else 5) = 4 ∨ (if e' = 4 ∨ e' = 2 then e' else 5) = 2
        split <;> omega
      · replace h2 : (if e' = 4 ∨ e' = 2 then e' else 5) = 0 := h2
        split at h2 <;> omega
    · rename_i h1
      have hhalf : 2 * (x.n.step / 2) = x.n.step := by
        obtain ⟨i, rfl⟩ : ∃ i, j = i + 1 := ⟨j - 1, by
          rcases j with _ | j
          · simp at hst; omega
          · omega⟩
        rw [hst, Nat.pow_succ]; omega
      have hrow := scale_row0 hr (by omega) hc (-1)
      generalize (if e' = 6 ∧ x.n.method = 0 then x.slow + 1 else x.slow) = sl'
      split
      · refine ⟨rfl, rfl, rfl, fun _ => hhalf, fun h2 => absurd rfl h2, fun _ _ => rfl, .inr rfl, ?_, hrow⟩
        show x.n.method ≤ 1
        omega
      · split
        · refine ⟨rfl, rfl, rfl, fun _ => hhalf, fun h2 => absurd rfl h2, fun _ h2 => ?_, .inl rfl, Int.le_refl _, hrow⟩
          have h2 : x.fails + 1 = 0 := h2
          omega
        · exact ⟨rfl, rfl, rfl, fun _ => hhalf, fun h2 => absurd rfl h2, fun _ _ => rfl, .inr rfl, Int.le_refl _, hrow⟩
def A_l11_known : CA := (.seq (.reg [i_X 0 0 (.h (.mov (.k (.d (.bool false)))))] []) (.seq (.reg [i_X 0 5 (.h (.build [(.d (.int .i64 0)), (.d (.int .i64 0)), (.d (.int .i64 0)), (.d (.flt 0))] [])), i_X 1 6 (.bslice [(.d (.int .i64 0)), (.d (.int .i64 0)), (.d (.int .i64 0)), (.d (.flt 0))] 1 4 [(0, (4, (.t 5)))] 62), i_X 2 7 (.bslice [(.d (.int .i64 0))] 1 1 [(0, (1, (kI 0)))] 3), i_X 3 8 (.h (.build [(.d (.int .i64 0)), .nil, .nil] [(0, (1, (kI 1))), (1, (1, (.t 6))), (2, (1, (.t 7)))])), i_X 4 1 (.alloc [(.d (.int .i64 0)), .nil, .nil] 28), i_S 5 1 8 3] [1]) (.seq (.reg [i_A 0 9 1 3, i_X 1 10 (.h (.build [(.d (.flt 0)), (.d (.flt 0))] [(0, (1, (.k (.d (.flt 13844628204490326016))))), (1, (1, (.k (.d (.flt 4621256167635550208)))))])), i_X 2 11 (.bslice [(.d (.flt 0)), (.d (.flt 0))] 1 2 [(0, (2, (.t 10)))] 58), i_X 3 12 (.bslice [(.d (.flt 0))] 1 1 [(0, (1, (.k (.d (.flt 4607182418800017408)))))] 31), i_X 4 13 (.h (.build [(.d (.int .i64 0)), .nil, .nil, .nil, .nil, (.d (.int .i64 0)), (.d (.int .i64 0)), (.d (.int .i64 0)), (.d (.flt 0)), (.d (.flt 0)), (.d (.flt 0)), (.d (.int .i64 0)), .nil] [(0, (3, (.t 9))), (3, (1, (.t 11))), (4, (1, (.t 12))), (5, (1, (kI 1073741824))), (6, (1, (kI 1048576))), (7, (1, (kI 1))), (8, (1, (.k (.d (.flt 4607182418800017408))))), (10, (1, (.k (.d (.flt 4607182418800017408))))), (11, (1, (kI 9)))])), i_X 5 2 (.alloc [(.d (.int .i64 0)), .nil, .nil, .nil, .nil, (.d (.int .i64 0)), (.d (.int .i64 0)), (.d (.int .i64 0)), (.d (.flt 0)), (.d (.flt 0)), (.d (.flt 0)), (.d (.int .i64 0)), .nil] 33), i_S 6 2 13 13] [2]) (.seq (.reg [i_A 0 15 2 13, i_X 1 16 (.bslice [(.d (.flt 0))] 1 1 [(0, (1, (.k (.d (.flt 4607182418800017408)))))] 31), i_X 2 17 (.bslice [(.d (.flt 0))] 1 1 [(0, (1, (.k (.d (.flt 0)))))] 31), i_X 3 18 (.bslice [.nil, .nil] 2 1 [(0, (1, (.t 16))), (1, (1, (.t 17)))] 30), i_X 4 19 (.h (.build [(.d (.int .i64 0)), (.d (.int .i64 0)), (.d (.int .i64 0)), (.d (.int .i64 0)), .nil] [(0, (1, (kI 1048576))), (1, (1, (kI 1048576))), (2, (1, (kI 1))), (4, (1, (.t 18)))])), i_X 5 20 (.bslice [(.d (.flt 0))] 1 1 [(0, (1, (.k (.d (.flt 4607182418800017408)))))] 31), i_X 6 21 (.callA (kF 17) [(.t 15), (.t 19), (.t 20), (.k (.d (.flt 0)))]), i_M 7 14 21, i_X 8 22 (.h (.ext (.t 14) 0)), i_X 9 23 (.h (.ext (.t 14) 1)), i_X 10 3 (.alloc z_5 46), i_S 11 3 22 5, i_M 12 4 23] [3, 4]) (.seq (.reg [i_M 0 24 4, i_B 1 25 .eql 24 0, i_M 2 26 25, ⟨3, (some 27), (some (26, true)), [], [], (.h (.padd (.t 3) 4))⟩, ⟨4, (some 28), (some (26, true)), [], [], (.load (.t 27) 1 false)⟩, ⟨5, (some 29), (some (26, true)), [], [], (.h (.fcmp .ge (.t 28) (.k (.d (.flt 0)))))⟩, i_X 6 30 (.h (.pick (.t 26) (.t 29) (.k (.d (.bool false))))), i_M 7 31 30, ⟨8, (some 32), (some (31, true)), [], [], (.h (.padd (.t 3) 4))⟩, ⟨9, (some 33), (some (31, true)), [], [], (.load (.t 32) 1 false)⟩, ⟨10, (some 34), (some (31, true)), [], [], (.h (.fcmp .lt (.t 33) (.k (.d (.flt 4472406533629990549)))))⟩, i_X 11 35 (.h (.pick (.t 31) (.t 34) (.k (.d (.bool false))))), i_M 12 36 35, ⟨13, (some 37), (some (36, true)), [], [], (.h (.padd (.t 3) 3))⟩, ⟨14, (some 38), (some (36, true)), [], [], (.load (.t 37) 1 false)⟩, ⟨15, (some 39), (some (36, true)), [], [], (.h (.fcmp .ge (.t 38) (.k (.d (.flt 4607182418800017408)))))⟩, i_X 16 40 (.h (.pick (.t 36) (.t 39) (.k (.d (.bool false))))), i_M 17 0 40] [0]) .ret)))))
theorem A_l11_known_comp : compF Tryz.prog 11 = some ⟨41, [(0, none)], A_l11_known.strip⟩ := by kernel_rfl
def A_l11_within : CA := (.seq (.reg [i_K 0 4 0] [0, 1]) (.seq (.reg [i_M 0 6 0, i_M 1 7 1, i_N 2 8 .rem 6 7, i_M 3 5 8] [1, 5]) (.seq (.seq (.reg [i_M 0 9 5, i_B 1 10 .lss 9 0] [1, 5, 10]) (.cond (.t 10) (.reg [i_M 0 11 5, i_M 1 12 1, i_N 2 13 .add 11 12, i_M 3 5 13] [5]) .skip)) (.seq (.reg [i_M 0 14 5, i_M 1 4 14] [4]) .ret))))
theorem A_l11_within_comp : compF Tryz.prog 15 = some ⟨15, [(4, none)], A_l11_within.strip⟩ := by kernel_rfl
theorem l11_within_con (a n : Int) (hn : 0 < n) (hn2 : n < 2 ^ 62) : Con Tryz.prog 15 [fI a, fI n] (fI (a % n)) := by
  rw [← tmod_fix a n hn]
  refine Con_introA A_l11_within_comp rfl mixed ?_
  refine evx @A_l11_within.eq_1 ?_
  refine ⟨by omega, ?_⟩
  have h1 := Int.tmod_lt_of_pos a hn
  have h2 : -n < a.tmod n := Int.lt_tmod_of_pos a hn
  refine condC_intro (fun h => ?_) (fun h => ?_)
  · have h := of_decide_eq_true h
    rw [if_pos h]
    refine ev ?_
    rw [wrapI (by omega) (by omega)]
    exact endsT_rett rfl (by decide) (by simp [look])
  · have h := of_decide_eq_false h
    rw [if_neg h]
    refine ev ?_
    exact endsT_rett rfl (by decide) (by simp [look])
structure Pk2 (p : Pb) : Prop where
  pk : Pk p
  len : p.t.ops.length < 2 ^ 39
  box : p.box.length = p.t.n
  n : p.t.n ≤ 3
theorem mkPb_ok2 (n first least tol fin : Int) (ns ms outs : List Int) (dv : Bool) : Pk2 (mkPb n first least tol fin ns ms outs dv) := by
  have m1 := Int.emod_nonneg n (by decide : (3 : Int) ≠ 0)
  have m2 := Int.emod_lt_of_pos n (by decide : (0 : Int) < 3)
  have hl := mkOps_len n ns dv ((n % 3).toNat + 1) (min ns.length 8)
  refine ⟨mkPb_ok _ _ _ _ _ _ _ _ _, ?_, boxL_len _ _, ?_⟩
  · show (mkOps n ns dv ((n % 3).toNat + 1) (min ns.length 8)).length < 2 ^ 39
    omega
  · show (mkT n ns dv).n ≤ 3
    rw [mkT_n]; omega
theorem taken_bok {p : Pb} {k : Nat} {x : Sta} (hp : Pk2 p) (hi : Inv p k x) (ht : (tryP p x).taken = true) (y : List Nat) (w : Nat) (hy : y.length = p.t.n) (hw : Pw w) : Bok p (tryP p x).n y w := by
  rcases try_spec hp.pk hi with ⟨_, sp⟩ | ⟨h, _⟩
  · obtain ⟨d, kk, hd, hs, hz⟩ := sp.sol
    have hm := hi.ok.n.m
    refine ⟨hp.pk.ok.t, hp.pk.ok.n, hp.len, ?_, ?_, ?_, hy, hw, hp.box⟩
    · rw [sp.nord, hz]; exact corrP_rk (predP_rk hi.ok.n.rk _) _ _ _ _
    · rw [sp.nord]; omega
    · rw [sp.nstep]; exact hi.ok.n.step
  · rw [h] at ht; cases ht
def wB (b : Int) : Nat := fop .div (FloatKind.nearest .f64 (b % 50)) 4661225614328463360
theorem wB_chk : ((List.range 50).all fun i => decide (fop .div (FloatKind.nearest .f64 (i : Int)) 4661225614328463360 ≤ 9218868437227405312)) = true := by kernel_rfl
theorem wB_Pw (b : Int) : Pw (wB b) := by
  have h1 := Int.emod_nonneg b (by decide : (50 : Int) ≠ 0)
  have h2 := Int.emod_lt_of_pos b (by decide : (0 : Int) < 50)
  obtain ⟨i, hi⟩ : ∃ i : Nat, b % 50 = i := ⟨(b % 50).toNat, by omega⟩
  have := List.all_eq_true.1 wB_chk i (by simp; omega)
  unfold wB
  rw [hi]
  have h3 : fop .div (FloatKind.nearest .f64 (i : Int)) 4661225614328463360 ≤ 9218868437227405312 := of_decide_eq_true this
  exact h3
theorem kb_ok : Bok kp10 ⟨1048576, 1048576, 1, 0, [[4607182418800017408], [0]]⟩ [4607182418800017408] 0 := by
  refine ⟨kp10_ok.t, by decide, by decide, ⟨rfl, fun r hr => ?_⟩, by decide, ⟨20, by decide, rfl⟩, rfl, Nat.zero_le _, rfl⟩
  have hr : r < 2 := hr
  rcases r with _ | _ | r
  · rfl
  · rfl
  · omega
theorem kb_val : (fun R : Bnd × Int => R.2 == 0 && fcmp .ge R.1.bound 0 && fcmp .lt R.1.bound 4472406533629990549 && fcmp .ge R.1.growth 4607182418800017408) (bndP kp10.t kp10.box [[4607182418800017408], [0]] (hW 1048576) [4607182418800017408] 0) = true := by kernel_rfl
theorem scalar_bd (R : Bnd × Int) : Scalar (.tup [bdV R.1, fI R.2]) := by
  refine .tup fun j hj => ?_
  rcases j with _ | _ | j
  · refine .agg fun i hi => ?_
    rcases i with _ | _ | _ | _ | _ | i
    · exact .flt _
    · exact .flt _
    · exact .flt _
    · exact .flt _
    · exact .flt _
    · have hi : i + 5 < 5 := hi
      omega
  · exact .int ..
  · have hj : j + 2 < 2 := hj
    omega
set_option maxRecDepth 8000 in
theorem l11_known_con : Con Tryz.prog 11 [] (fB true) := by
  have hb := bound_Step_conO kp10 .nils ⟨1048576, 1048576, 1, 0, [[4607182418800017408], [0]]⟩ [4607182418800017408] 0 kb_ok
  have hvv := kb_val
  simp only [Bool.and_eq_true, beq_iff_eq] at hvv
  have e1 : ((1048576 : Int)).toNat = 1048576 := rfl
  simp only [e1] at hb
  generalize bndP kp10.t kp10.box [[4607182418800017408], [0]] (hW 1048576) [4607182418800017408] 0 = R at hb hvv
  obtain ⟨⟨⟨v1, v2⟩, v3⟩, v4⟩ := hvv
  refine Con_introA A_l11_known_comp rfl mixed ?_
  refine evx @A_l11_known.eq_1 ?_
  refine callG_snaps [pbVo kp10 .nils, ndV ⟨1048576, 1048576, 1, 0, [[4607182418800017408], [0]]⟩, .d (rowD [4607182418800017408]), fl 0] hb ⟨.aggs ⟨.bare _, snp_data rfl (fun _ _ => rfl) rfl, snp_data rfl (fun _ _ => rfl) rfl, snp_data rfl (fun _ _ => rfl) rfl, snp_row rfl rfl rfl, .bare _, .bare _, .bare _, .bare _, .bare _, .bare _, .bare _, .nil, trivial⟩, .aggs ⟨.bare _, .bare _, .bare _, .bare _, snap_two' rfl rfl rfl, trivial⟩, snp_row rfl rfl rfl, .bare _, trivial⟩ (scalar_bd R) ?_
  refine evx (And.intro v1 (And.intro v2 (And.intro v3 v4))) ?_
  exact endsT_rett rfl (by decide) (by simp [look])
end Go.Ab
namespace Go.Ab
set_option linter.unusedSimpArgs false
set_option linter.unusedVariables false
open Go
theorem near_gen (s : Bool) (m : Nat) (i : Int) : ∃ A, Ieee.double.nearest s m i = Ieee.double.word s (min A 9218868437227405312) ∧ (∀ x, rv x ≤ (m : Rat) * pw i → x ≤ A) ∧ (∀ x, (m : Rat) * pw i ≤ rv x → A ≤ x) := by
  by_cases h0 : m = 0
  · subst h0
    have h00 : ((0 : Nat) : Rat) * pw i = 0 := by simp
    refine ⟨0, by simp [Ieee.Format.nearest], fun x hx => ?_, fun x _ => Nat.zero_le _⟩
    by_cases h : x = 0
    · omega
    · have := rv_lt (show 0 < x by omega)
      rw [rv_zero] at this
      rw [h00] at hx
      grind
  have q1 : Ieee.double.fractionBits = 52 := rfl
  have q2 : Ieee.double.leastPlace = -1074 := rfl
  have q3 : Ieee.double.binade = 4503599627370496 := rfl
  have q4 : Ieee.double.infRung = 9218868437227405312 := rfl
  have e0 : Ieee.double.nearest s m i = Ieee.double.word s (min (((max (i + (m.log2 : Int) - (52 : Nat)) (-1074)) - (-1074)).toNat * 4503599627370496 +
      Ieee.Toward.even.cut s (m <<< (i - max (i + (m.log2 : Int) - (52 : Nat)) (-1074)).toNat) (max (i + (m.log2 : Int) - (52 : Nat)) (-1074) - i).toNat) 9218868437227405312) := by
    unfold Ieee.Format.nearest
    rw [if_neg h0, q1, q2, q3, q4]
  have hl1 : 2 ^ m.log2 ≤ m := Nat.log2_self_le h0
  have hl2 : m < 2 ^ (m.log2 + 1) := Nat.lt_log2_self
  generalize m.log2 = L at e0 hl1 hl2
  generalize hlast : max (i + (L : Int) - (52 : Nat)) (-1074) = last at e0
  generalize hkept : Ieee.Toward.even.cut s (m <<< (i - last).toNat) (last - i).toNat = kept at e0
  have hP := pw_pos last
  -- v between powers
  have b1 : pw (i + L) ≤ (m : Rat) * pw i := by
    rw [pw_up]
    exact Rat.mul_le_mul_of_nonneg_right (by exact_mod_cast Rat.natCast_le_natCast.2 hl1) (Rat.le_of_lt (pw_pos i))
  have b2 : (m : Rat) * pw i < pw (i + L + 1) := by
    rw [Int.add_assoc, show (L : Int) + 1 = ((L + 1 : Nat) : Int) from by omega, pw_up]
    exact Rat.mul_lt_mul_of_pos_right (by exact_mod_cast Rat.natCast_lt_natCast.2 hl2) (pw_pos i)
  -- kept
  have hk : 2 * ((kept : Rat) * pw last) ≤ 2 * ((m : Rat) * pw i) + pw last ∧ 2 * ((m : Rat) * pw i) ≤ 2 * ((kept : Rat) * pw last) + pw last := by
    by_cases h : last ≤ i
    · have e1 : (last - i).toNat = 0 := by omega
      rw [e1, cut_zero] at hkept
      have e2 : pw i = ((2 ^ (i - last).toNat : Nat) : Rat) * pw last := by
        have h7 : i = last + ((i - last).toNat : Nat) := by omega
        exact (congrArg pw h7).trans (pw_up _ _)
      have e3 : (kept : Rat) * pw last = (m : Rat) * pw i := by
        rw [← hkept, Nat.shiftLeft_eq, Rat.natCast_mul, e2]; grind
      grind
    · have e1 : (i - last).toNat = 0 := by omega
      rw [e1, Nat.shiftLeft_zero] at hkept
      have hc := cut_spec s m (last - i).toNat
      rw [hkept] at hc
      have e2 : pw last = ((2 ^ (last - i).toNat : Nat) : Rat) * pw i := by
        have h7 : last = i + ((last - i).toNat : Nat) := by omega
        exact (congrArg pw h7).trans (pw_up _ _)
      rw [e2]
      generalize 2 ^ (last - i).toNat = g at hc
      have h1 : (2 : Rat) * ((kept : Rat) * g) ≤ 2 * m + g := by exact_mod_cast Rat.natCast_le_natCast.2 hc.1
      have h2 : (2 : Rat) * m ≤ 2 * ((kept : Rat) * g) + g := by exact_mod_cast Rat.natCast_le_natCast.2 hc.2
      have hi := Rat.le_of_lt (pw_pos i)
      have h3 := Rat.mul_le_mul_of_nonneg_right h1 hi
      have h4 := Rat.mul_le_mul_of_nonneg_right h2 hi
      grind
  have hlow : -1074 ≤ last := by omega
  have hll : i + L ≤ last + 52 := by omega
  have cast_le : ∀ a b : Nat, (a : Rat) ≤ (b : Rat) → a ≤ b := fun a b h => Rat.natCast_le_natCast.1 h
  have cast_lt : ∀ a b : Nat, (a : Rat) < (b : Rat) → a < b := fun a b h => Rat.natCast_lt_natCast.1 h
  have k1 : kept ≤ 9007199254740992 := by
    have h1 := pw_mono (show i + L + 1 ≤ last + 53 by omega)
    rw [pw53] at h1
    have h2 : (kept : Rat) * pw last < 9007199254740993 * pw last := by grind
    have h3 := Rat.lt_of_mul_lt_mul_right h2 (Rat.le_of_lt hP)
    have := cast_lt kept 9007199254740993 (by exact_mod_cast h3)
    omega
  have k2 : last = -1074 ∨ (i + L = last + 52 ∧ 4503599627370496 ≤ kept) := by
    by_cases e : last = -1074
    · exact .inl e
    · refine .inr ⟨by omega, ?_⟩
      have h1 : i + L = last + 52 := by omega
      rw [h1, pw52] at b1
      have h2 : (4503599627370495 : Rat) * pw last < kept * pw last := by grind
      have h3 := Rat.lt_of_mul_lt_mul_right h2 (Rat.le_of_lt hP)
      have := cast_lt 4503599627370495 kept (by exact_mod_cast h3)
      omega
  obtain ⟨E, hE⟩ : ∃ E : Nat, last = -1074 + E := ⟨(last + 1074).toNat, by omega⟩
  have hEk : E = 0 ∨ 4503599627370496 ≤ kept := by omega
  have e1 : (last - -1074).toNat = E := by omega
  have hrv := rv_norm E kept k1 hEk
  rw [← hE] at hrv
  rw [e1] at e0
  have hhi : (m : Rat) * pw i < rv (E * 4503599627370496 + kept + 1) := by
    by_cases h5 : kept < 9007199254740992
    · have e3 := rv_succ E kept h5 hEk
      rw [e3, hrv, ← hE]; grind
    · have hk5 : kept = 9007199254740992 := by omega
      subst hk5
      have e3 := rv_norm (E + 1) 4503599627370497 (by omega) (by omega)
      rw [show E * 4503599627370496 + 9007199254740992 + 1 = (E + 1) * 4503599627370496 + 4503599627370497 from by omega, e3]
      have e4 : (-1074 : Int) + ((E + 1 : Nat) : Int) = last + 1 := by omega
      have e5 := pw_succ last
      rw [e4, e5]
      have h6 : ((9007199254740992 : Nat) : Rat) = 9007199254740992 := rfl
      have h7 : ((4503599627370497 : Nat) : Rat) = 4503599627370497 := rfl
      rw [h6] at hk
      rw [h7]
      grind
  refine ⟨_, e0, fun x hx => ?_, fun x hx => ?_⟩
  · by_cases h : x ≤ E * 4503599627370496 + kept
    · exact h
    · have h2 := rv_mono (show E * 4503599627370496 + kept + 1 ≤ x by omega)
      grind
  · by_cases h : E * 4503599627370496 + kept ≤ x
    · exact h
    · exfalso
      have hlt : x ≤ E * 4503599627370496 + kept - 1 := by omega
      have hx2 := rv_mono hlt
      by_cases h5 : E = 0 ∨ 4503599627370497 ≤ kept
      · obtain ⟨q, rfl⟩ : ∃ q, kept = q + 1 := ⟨kept - 1, by omega⟩
        have e3 := rv_norm E q (by omega) (by omega)
        rw [show E * 4503599627370496 + (q + 1) - 1 = E * 4503599627370496 + q from by omega, e3, ← hE] at hx2
        rw [Rat.natCast_add] at hk
        grind
      · have hk5 : kept = 4503599627370496 := by omega
        subst hk5
        obtain ⟨F, rfl⟩ : ∃ F, E = F + 1 := ⟨E - 1, by omega⟩
        have e3 := rv_norm F 9007199254740991 (by omega) (by omega)
        rw [show (F + 1) * 4503599627370496 + 4503599627370496 - 1 = F * 4503599627370496 + 9007199254740991 from by omega, e3] at hx2
        have e4 : (-1074 : Int) + F = last - 1 := by omega
        have e5 := pw_pred last
        rw [e4] at hx2
        have h6 : ((9007199254740991 : Nat) : Rat) = 9007199254740991 := rfl
        rw [h6] at hx2
        have e6 : i + L = last + 52 := by omega
        rw [e6, pw52] at b1
        have := pw_pos (last - 1)
        grind
end Go.Ab
namespace Go.Ab
set_option linter.unusedSimpArgs false
set_option linter.unusedVariables false
open Go Go.Proofs
theorem sum_val (m n : Nat) (i j : Int) : ∃ a b, Ieee.Datum.sum (.number false m i) (.number false n j) = some (.number false a b) ∧ (a : Rat) * pw b = (m : Rat) * pw i + (n : Rat) * pw j := by
  have hs := signed_val false m i (min i j) (by omega)
  have ht := signed_val false n j (min i j) (by omega)
  simp only [Bool.false_eq_true, if_false] at hs ht
  simp only [Ieee.Datum.sum]
  have n1 : 0 ≤ Ieee.signed false m (i - min i j).toNat := by simp only [Ieee.signed, Bool.false_eq_true, if_false]; exact Int.natCast_nonneg _
  have n2 : 0 ≤ Ieee.signed false n (j - min i j).toNat := by simp only [Ieee.signed, Bool.false_eq_true, if_false]; exact Int.natCast_nonneg _
  generalize Ieee.signed false m (i - min i j).toNat = a at hs n1
  generalize Ieee.signed false n (j - min i j).toNat = b at ht n2
  have q1 : decide (a + b < 0) = false := decide_eq_false (by omega)
  refine ⟨(a + b).natAbs, min i j, ?_, ?_⟩
  · rw [q1]; simp
  · rw [← hs, ← ht]
    have e : (((a + b).natAbs : Nat) : Rat) = (a : Rat) + (b : Rat) := by
      rw [← Rat.intCast_add, ← Rat.intCast_natCast]
      exact congrArg (fun z : Int => (z : Rat)) (by omega)
    rw [e]; grind
theorem cf_min (A : Nat) : cf (Ieee.double.word false (min A 9218868437227405312)) = min A 9218868437227405312 := by
  rw [word_false]
  exact cf_not (Pw_nan (Nat.min_le_right _ _))
theorem Pw_write {m : Nat} {i : Int} {x : Nat} (hx : Pw x) (h : rv x ≤ (m : Rat) * pw i) : x ≤ cf (Ieee.double.write (.number false m i)) := by
  obtain ⟨A, e, h1, h2⟩ := near_gen false m i
  have : Ieee.double.write (.number false m i) = Ieee.double.nearest false m i := rfl
  rw [this, e, cf_min]
  have := h1 x h
  unfold Pw at hx
  omega
theorem num_lt {x m : Nat} {i : Int} (hx : Pw x) (h : Ieee.double.read x = .number false m i) : x < 9218868437227405312 ∧ rv x = (m : Rat) * pw i := by
  have hne : x ≠ 9218868437227405312 := by rintro rfl; rw [read_inf] at h; cases h
  have hlt : x < 9218868437227405312 := by unfold Pw at hx; omega
  have := val_eq h
  rw [Pw_val hlt] at this
  exact ⟨hlt, by simpa using this⟩
theorem Pw_add_ge {x y : Nat} (hx : Pw x) (hy : Pw y) : x ≤ fop .add x y ∧ y ≤ fop .add x y := by
  have h9 : cf (Ieee.double.write (.infinity false)) = 9218868437227405312 := by decide
  unfold fop Ieee.Format.add
  simp only
  rcases Pw_read hx with ⟨m, i, h1⟩ | rfl <;> rcases Pw_read hy with ⟨n, j, h2⟩ | rfl
  · obtain ⟨l1, v1⟩ := num_lt hx h1
    obtain ⟨l2, v2⟩ := num_lt hy h2
    have p1 := rv_nonneg x
    have p2 := rv_nonneg y
    rw [h1, h2]
    obtain ⟨a, b, e, hv⟩ := sum_val m n i j
    rw [e]
    exact ⟨Pw_write hx (by rw [hv, ← v1, ← v2]; grind), Pw_write hy (by rw [hv, ← v1, ← v2]; grind)⟩
  · rw [h1, read_inf, show Ieee.Datum.sum (.number false m i) (.infinity false) = some (.infinity false) from rfl]
    simp only [Option.map_some, Option.getD_some, h9]
    exact ⟨hx, Nat.le_refl _⟩
  · rw [h2, read_inf, show Ieee.Datum.sum (.infinity false) (.number false n j) = some (.infinity false) from rfl]
    simp only [Option.map_some, Option.getD_some, h9]
    exact ⟨Nat.le_refl _, hy⟩
  · rw [read_inf, show Ieee.Datum.sum (.infinity false) (.infinity false) = some (.infinity false) from rfl]
    simp only [Option.map_some, Option.getD_some, h9]
    exact ⟨Nat.le_refl _, Nat.le_refl _⟩
theorem Pw_mul_ge {g y : Nat} (hg : Pw g) (h1 : oneW ≤ g) (hy : Pw y) (h0 : 0 < y) : y ≤ fop .mul g y := by
  have h9 : cf (Ieee.double.write (.infinity false)) = 9218868437227405312 := by decide
  have o1 : (0 : Nat) < oneW := by decide
  unfold fop Ieee.Format.mul
  simp only
  rcases Pw_read hg with ⟨m, i, r1⟩ | rfl <;> rcases Pw_read hy with ⟨n, j, r2⟩ | rfl
  · obtain ⟨l1, v1⟩ := num_lt hg r1
    obtain ⟨l2, v2⟩ := num_lt hy r2
    have p2 := rv_nonneg y
    have p1 := rv_mono h1
    have e1 : rv oneW = 1 := by rw [← Pw_val (by decide : oneW < _)]; exact v1W
    rw [e1] at p1
    rw [r1, r2, show Ieee.Datum.product (.number false m i) (.number false n j) = some (.number false (m * n) (i + j)) from rfl]
    refine Pw_write hy ?_
    rw [pw_add, Rat.natCast_mul]
    have := Rat.mul_le_mul_of_nonneg_right p1 p2
    have e : (m : Rat) * n * (pw i * pw j) = (m * pw i) * (n * pw j) := by grind
    rw [e, ← v1, ← v2]
    grind
  · rw [r1, read_inf]
    obtain ⟨l1, v1⟩ := num_lt hg r1
    have hm : m ≠ 0 := by
      rintro rfl
      have := rv_lt (show 0 < g by omega)
      rw [rv_zero, v1] at this
      simp at this
    have e : Ieee.Datum.product (.number false m i) (.infinity false) = some (.infinity false) := by simp only [Ieee.Datum.product, hm, if_false, Bool.xor_self]
    rw [e]
    simp only [Option.map_some, Option.getD_some, h9]
    exact Nat.le_refl _
  · rw [r2, read_inf]
    obtain ⟨l2, v2⟩ := num_lt hy r2
    have hm : n ≠ 0 := by
      rintro rfl
      have := rv_lt h0
      rw [rv_zero, v2] at this
      simp at this
    have e : Ieee.Datum.product (.infinity false) (.number false n j) = some (.infinity false) := by simp only [Ieee.Datum.product, hm, if_false, Bool.xor_self]
    rw [e]
    simp only [Option.map_some, Option.getD_some, h9]
    exact hy
  · rw [read_inf, show Ieee.Datum.product (.infinity false) (.infinity false) = some (.infinity false) from rfl]
    simp only [Option.map_some, Option.getD_some, h9]
    exact Nat.le_refl _
theorem up_ge {x : Nat} (h : Pw x) : x ≤ up x := by
  by_cases e : x = 9218868437227405312
  · subst e; rw [up_inf]; exact Nat.le_refl _
  · unfold Pw at h; rw [up_Pw (by omega)]; omega
theorem Pw_order {x y : Nat} (hx : Pw x) (hy : Pw y) : Ieee.double.order x y = some (compare x y) := by
  by_cases e1 : x = 9218868437227405312
  · subst e1
    by_cases e2 : y = 9218868437227405312
    · subst e2; decide
    · unfold Pw at hy
      obtain ⟨s, m, i, hd⟩ := Pw_fin (x := y) (by omega)
      have : compare (9218868437227405312 : Nat) y = .gt := Nat.compare_eq_gt.2 (by omega)
      rw [this]
      simp [Ieee.Format.order, hd, read_inf, Ieee.Datum.order]
  · by_cases e2 : y = 9218868437227405312
    · subst e2
      unfold Pw at hx
      obtain ⟨s, m, i, hd⟩ := Pw_fin (x := x) (by omega)
      have : compare x (9218868437227405312 : Nat) = .lt := Nat.compare_eq_lt.2 (by omega)
      rw [this]
      simp [Ieee.Format.order, hd, read_inf, Ieee.Datum.order]
    · unfold Pw at hx hy
      have l1 : x < 9218868437227405312 := by omega
      have l2 : y < 9218868437227405312 := by omega
      have o := order_fin (Pw_fin l1) (Pw_fin l2)
      rw [Pw_val l1, Pw_val l2] at o
      rcases Nat.lt_trichotomy x y with h | h | h
      · have := rv_lt h
        rw [Nat.compare_eq_lt.2 h]
        rcases o with ⟨_, o⟩ | ⟨o, _⟩ | ⟨o, _⟩
        · exact o
        · grind
        · grind
      · subst h
        rw [Nat.compare_eq_eq.2 rfl]
        rcases o with ⟨o, _⟩ | ⟨_, o⟩ | ⟨o, _⟩
        · grind
        · exact o
        · grind
      · have := rv_lt h
        rw [Nat.compare_eq_gt.2 h]
        rcases o with ⟨o, _⟩ | ⟨o, _⟩ | ⟨_, o⟩
        · grind
        · grind
        · exact o
theorem Pw_ge {x y : Nat} (hx : Pw x) (hy : Pw y) : fcmp .ge x y = true ↔ y ≤ x := by
  simp only [fcmp, Pw_order hx hy]
  rcases Nat.lt_trichotomy x y with h | h | h
  · rw [Nat.compare_eq_lt.2 h]; simp; omega
  · subst h; rw [Nat.compare_eq_eq.2 rfl]; simp
  · rw [Nat.compare_eq_gt.2 h]; simp; omega
theorem Pw_lt {x y : Nat} (hx : Pw x) (hy : Pw y) : fcmp .lt x y = true ↔ x < y := by
  simp only [fcmp, Pw_order hx hy]
  rcases Nat.lt_trichotomy x y with h | h | h
  · rw [Nat.compare_eq_lt.2 h]; simp; omega
  · subst h; rw [Nat.compare_eq_eq.2 rfl]; simp
  · rw [Nat.compare_eq_gt.2 h]; simp; omega
theorem Pw_gt {x y : Nat} (hx : Pw x) (hy : Pw y) : fcmp .gt x y = true ↔ y < x := by
  simp only [fcmp, Pw_order hx hy]
  rcases Nat.lt_trichotomy x y with h | h | h
  · rw [Nat.compare_eq_lt.2 h]; simp; omega
  · subst h; rw [Nat.compare_eq_eq.2 rfl]; simp
  · rw [Nat.compare_eq_gt.2 h]; simp; omega
theorem growF_one (h m : Nat) : oneW ≤ growF h m := by
  unfold growF
  split
  · exact Nat.le_refl _
  · split
    · rename_i h2
      have hp := (cw_gt1 (ivExp_cw _) h2).1
      have := (Pw_gt hp (by unfold Pw; decide : Pw oneW)).1 h2
      omega
    · exact Nat.le_refl _
end Go.Ab
