/- Part 15: SJ, LE, LG, NA, CI, LH, NB. -/
import Derived.Test.YtloimimehbehoaaGreatGN
namespace Go.Ab
set_option linter.unusedSimpArgs false
set_option linter.unusedVariables false
open Nat renaming reduceEqDiff → n1_, reduceAdd → n2_, reduceMul → n3_, reduceLT → n4_, reduceLeDiff → n5_
open Int renaming reduceToNat → i1_, reduceAdd → i2_, reduceSub → i3_, reduceMul → i4_, reduceNeg → i5_, reduceLT → i6_, reduceLE → i7_
open Go Go.Proofs
def A_r10_failed : CA := (.seq (.reg [i_X 0 4 (.box (.t 0) 13 33), i_X 1 5 (.box (.t 1) 8 39), i_X 2 8 (.alloc [(.d (.int .i64 0)), (.d (.int .i64 0)), (.d (.int .i64 0)), (.d (.int .i64 0)), .nil, (.d (.int .i64 0)), (.d (.int .i64 0)), (.d (.int .i64 0)), (.d (.int .i64 0)), (.d (.int .i64 0)), (.d (.int .i64 0)), (.d (.int .i64 0)), .nil, (.d (.bool false)), (.d (.flt 0)), (.d (.int .i64 0))] 43)] [2, 3, 4, 5, 8]) (.seq (.reg [i_A 0 10 5 8, i_M 1 11 3, i_X 2 12 (.h (.build [(.d (.int .i64 0)), (.d (.int .i64 0)), (.d (.int .i64 0)), (.d (.int .i64 0)), .nil, (.d (.int .i64 0)), (.d (.int .i64 0)), (.d (.int .i64 0)), (.d (.int .i64 0)), (.d (.int .i64 0)), (.d (.int .i64 0)), (.d (.int .i64 0)), .nil, (.d (.bool false)), (.d (.flt 0)), (.d (.int .i64 0))] [(0, (8, (.t 10))), (14, (1, (.t 11)))])), i_X 3 9 (.alloc [(.d (.int .i64 0)), (.d (.int .i64 0)), (.d (.int .i64 0)), (.d (.int .i64 0)), .nil, (.d (.int .i64 0)), (.d (.int .i64 0)), (.d (.int .i64 0)), (.d (.int .i64 0)), (.d (.int .i64 0)), (.d (.int .i64 0)), (.d (.int .i64 0)), .nil, (.d (.bool false)), (.d (.flt 0)), (.d (.int .i64 0))] 43), i_S 4 9 12 16] [2, 4, 5, 8, 9]) (.seq (.seq (.reg [i_P 0 13 5 0, i_P 1 14 13 1, i_L 2 15 14 1, i_P 3 16 4 7, i_L 4 17 16 1, i_N 5 18 .leq 15 17] [2, 4, 5, 8, 9, 18]) (.cond (.t 18) (.seq (.reg [i_P 0 19 9 15, ⟨1, none, none, [], [], (.store (.t 19) (kI 5) 1)⟩] [2, 8, 9]) (.seq (.seq (.reg [i_M 0 20 2, i_B 1 21 .eql 20 4, i_M 2 22 21, ⟨3, (some 23), (some (22, false)), [], [], (.h (.mov (.t 2)))⟩, ⟨4, (some 24), (some (22, false)), [], [], (.h (.ibin .eql (.t 23) (kI 2)))⟩, i_X 5 25 (.h (.pick (.t 22) (.k (.d (.bool true))) (.t 24)))] [2, 8, 9, 25]) (.cond (.t 25) (.reg [i_M 0 26 2, i_P 1 27 9 15, i_S 2 27 26 1] [8, 9]) .skip)) (.seq (.reg [i_A 0 28 9 16, i_S 1 8 28 16] [8]) .ret))) .skip)) (.seq (.reg [i_P 0 29 5 6, i_L 1 30 29 1, i_B 2 31 .add 30 1, i_P 3 32 9 0, i_P 4 33 32 6, i_S 5 33 31 1, i_P 6 34 9 0, i_P 7 35 34 5, ⟨8, none, none, [], [], (.store (.t 35) (kI 0) 1)⟩] [2, 4, 5, 8, 9]) (.seq (.seq (.reg [i_M 0 36 2, i_B 1 37 .eql 36 6, i_M 2 38 37, ⟨3, (some 39), (some (38, true)), [], [], (.h (.padd (.t 5) 0))⟩, ⟨4, (some 40), (some (38, true)), [], [], (.h (.padd (.t 39) 3))⟩, ⟨5, (some 41), (some (38, true)), [], [], (.load (.t 40) 1 false)⟩, ⟨6, (some 42), (some (38, true)), [], [], (.h (.ibin .eql (.t 41) (kI 0)))⟩, i_X 7 43 (.h (.pick (.t 38) (.t 42) (.k (.d (.bool false)))))] [4, 5, 8, 9, 43]) (.cond (.t 43) (.reg [i_P 0 44 5 7, i_L 1 45 44 1, i_B 2 46 .add 45 1, i_P 3 47 9 0, i_P 4 48 47 7, i_S 5 48 46 1] [4, 5, 8, 9]) .skip)) (.seq (.reg [i_P 0 49 5 0, i_P 1 50 49 1, i_L 2 51 50 1, i_B 3 52 .quo 51 2, i_P 4 53 9 0, i_P 5 54 53 0, i_P 6 55 54 1, i_S 7 55 52 1] [4, 5, 8, 9]) (.seq (.reg [i_P 0 56 5 0, i_P 1 57 56 4, i_L 2 58 57 1, i_X 3 59 (.callA (kF 69) [(.t 58), (.k (.d (.int .i64 (-1))))]), i_P 4 60 9 0, i_P 5 61 60 0, i_P 6 62 61 4, i_S 7 62 59 1] [4, 8, 9]) (.seq (.seq (.reg [i_P 0 63 9 0, i_P 1 64 63 7, i_L 2 65 64 1, i_B 3 66 .geq 65 2] [4, 8, 9, 66]) (.cond (.t 66) (.seq (.reg [i_P 0 67 9 0, i_P 1 68 67 0, i_P 2 69 68 3, ⟨3, none, none, [], [], (.store (.t 69) (kI 1) 1)⟩, i_P 4 70 9 0, i_P 5 71 70 7, ⟨6, none, none, [], [], (.store (.t 71) (kI 0) 1)⟩] [4, 8, 9]) (.reg [i_A 0 72 4 13, i_P 1 73 9 0, i_A 2 74 73 8, i_X 3 75 (.callA (kF 70) [(.t 72), (.t 74)]), i_P 4 76 9 0, i_S 5 76 75 8] [8, 9])) (.seq (.reg [i_P 0 77 9 0, i_P 1 78 77 6, i_L 2 79 78 1, i_B 3 80 .geq 79 3] [4, 8, 9, 80]) (.cond (.t 80) (.reg [i_A 0 81 4 13, i_P 1 82 9 0, i_A 2 83 82 8, i_X 3 84 (.callA (kF 70) [(.t 81), (.t 83)]), i_P 4 85 9 0, i_S 5 85 84 8] [8, 9]) .skip)))) (.seq (.reg [i_A 0 86 9 16, i_S 1 8 86 16] [8]) .ret)))))))))
theorem A_r10_failed_comp : compF Tryz.prog 31 = some ⟨87, [(8, (some (16, true)))], A_r10_failed.strip⟩ := by kernel_rfl
def A_r10_taken_L0 : CA := (.seq (.seq (.reg [i_M 0 92 16, i_M 1 93 4, i_X 2 94 (.h (.len (.t 93))), i_N 3 95 .lss 92 94] [3, 4, 12, 13, 14, 15, 16, 95]) (.cond (.t 95) .skip (.exit 0))) (.seq (.block 1 (.seq (.reg [i_M 0 98 3, i_P 1 99 13 2, i_L 2 100 99 1, i_I 3 101 98 100 1, i_L 4 102 101 1, i_M 5 103 4, i_M 6 104 16, i_I 7 105 103 104 1, i_L 8 106 105 1, i_F 9 107 .mul 102 106, i_M 10 17 107] [3, 4, 12, 13, 14, 15, 16, 17]) (.reg [i_M 0 108 15, i_M 1 109 17, i_P 2 110 13 2, i_L 3 111 110 1, i_B 4 112 .add 111 1, i_X 5 113 (.h (.i2f (.t 112))), i_F 6 114 .div 109 113, i_X 7 115 (.bslice [(.d (.flt 0))] 1 1 [(0, (1, (.t 114)))] 31), i_X 8 116 (.app (.t 108) (.t 115) 1 8), i_M 9 15 116] [3, 4, 12, 13, 14, 15, 16]))) (.reg [i_M 0 96 16, i_B 1 97 .add 96 1, i_M 2 16 97] [3, 4, 12, 13, 14, 15, 16])))
def A_r10_taken : CA := (.seq (.reg [i_X 0 6 (.box (.t 0) 13 33), i_X 1 7 (.box (.t 1) 8 39), i_X 2 12 (.alloc [(.d (.int .i64 0)), (.d (.int .i64 0)), (.d (.int .i64 0)), (.d (.int .i64 0)), .nil, (.d (.int .i64 0)), (.d (.int .i64 0)), (.d (.int .i64 0)), (.d (.int .i64 0)), (.d (.int .i64 0)), (.d (.int .i64 0)), (.d (.int .i64 0)), .nil, (.d (.bool false)), (.d (.flt 0)), (.d (.int .i64 0))] 43)] [2, 3, 4, 5, 6, 7, 12]) (.seq (.reg [i_P 0 18 7 0, i_A 1 19 18 5, i_X 2 13 (.alloc [(.d (.int .i64 0)), (.d (.int .i64 0)), (.d (.int .i64 0)), (.d (.int .i64 0)), .nil] 37), i_S 3 13 19 5] [2, 3, 4, 5, 6, 7, 12, 13]) (.seq (.reg [i_M 0 20 2, i_M 1 21 3, i_M 2 22 4, i_X 3 23 (.callA (kF 72) [(.t 20), (.t 21), (.t 22)]), i_P 4 24 13 4, i_S 5 24 23 1] [3, 4, 5, 6, 7, 12, 13]) (.seq (.reg [i_P 0 25 13 0, i_L 1 26 25 1, i_P 2 27 13 1, i_L 3 28 27 1, i_N 4 29 .add 26 28, i_P 5 30 13 0, i_S 6 30 29 1] [3, 4, 5, 6, 7, 12, 13]) (.seq (.reg [i_A 0 31 13 5, i_M 1 32 5, i_A 2 33 13 5, i_P 3 34 7 5, i_L 4 35 34 1, i_B 5 36 .add 35 1, i_P 6 37 7 7, i_L 7 38 37 1, i_X 8 39 (.h (.build [(.d (.int .i64 0)), (.d (.int .i64 0)), (.d (.int .i64 0)), (.d (.int .i64 0)), .nil, (.d (.int .i64 0)), (.d (.int .i64 0)), (.d (.int .i64 0))] [(0, (5, (.t 33))), (5, (1, (.t 36))), (7, (1, (.t 38)))])), i_X 9 40 (.h (.build [(.d (.int .i64 0)), (.d (.int .i64 0)), (.d (.int .i64 0)), (.d (.int .i64 0)), .nil, (.d (.int .i64 0)), (.d (.int .i64 0)), (.d (.int .i64 0)), (.d (.int .i64 0)), (.d (.int .i64 0)), (.d (.int .i64 0)), (.d (.int .i64 0)), .nil, (.d (.bool false)), (.d (.flt 0)), (.d (.int .i64 0))] [(8, (5, (.t 31))), (13, (1, (.k (.d (.bool true))))), (14, (1, (.t 32))), (0, (8, (.t 39)))])), i_X 10 14 (.alloc [(.d (.int .i64 0)), (.d (.int .i64 0)), (.d (.int .i64 0)), (.d (.int .i64 0)), .nil, (.d (.int .i64 0)), (.d (.int .i64 0)), (.d (.int .i64 0)), (.d (.int .i64 0)), (.d (.int .i64 0)), (.d (.int .i64 0)), (.d (.int .i64 0)), .nil, (.d (.bool false)), (.d (.flt 0)), (.d (.int .i64 0))] 43), i_S 11 14 40 16] [3, 4, 5, 6, 12, 13, 14]) (.seq (.reg [i_P 0 41 13 4, i_L 1 42 41 1, i_X 2 43 (.callA (kF 69) [(.t 42), (kI 0)]), i_P 3 44 14 0, i_P 4 45 44 0, i_P 5 46 45 4, i_S 6 46 43 1] [3, 4, 5, 6, 12, 13, 14]) (.seq (.seq (.reg [i_P 0 47 14 0, i_P 1 48 47 5, i_L 2 49 48 1, i_P 3 50 13 2, i_L 4 51 50 1, i_B 5 52 .add 51 1, i_N 6 53 .leq 49 52] [3, 4, 5, 6, 12, 13, 14, 53]) (.cond (.t 53) (.seq (.reg [i_A 0 54 14 16, i_S 1 12 54 16] [12]) .ret) .skip)) (.seq (.seq (.reg [i_M 0 55 5, i_P 1 56 13 2, i_L 2 57 56 1, i_B 3 58 .add 57 3, i_X 4 59 (.callA (kF 73) [(.t 58)]), i_X 5 60 (.h (.fcmp .le (.t 55) (.t 59))), i_M 6 61 60, ⟨7, (some 62), (some (61, true)), [], [], (.h (.padd (.t 13) 1))⟩, ⟨8, (some 63), (some (61, true)), [], [], (.load (.t 62) 1 false)⟩, ⟨9, (some 64), (some (61, true)), [], [], (.h (.padd (.t 6) 5))⟩, ⟨10, (some 65), (some (61, true)), [], [], (.load (.t 64) 1 false)⟩, ⟨11, (some 66), (some (61, true)), [], [], (.h (.ibin .leq (.t 63) (.t 65)))⟩, i_X 12 67 (.h (.pick (.t 61) (.t 66) (.k (.d (.bool false)))))] [3, 4, 5, 12, 13, 14, 67]) (.cond (.t 67) (.seq (.reg [i_P 0 68 13 1, i_L 1 69 68 1, i_X 2 70 (.h (.ibin .mul (kI 2) (.t 69))), i_P 3 71 14 0, i_P 4 72 71 0, i_P 5 73 72 1, i_S 6 73 70 1, i_P 7 74 14 0, i_P 8 75 74 5, ⟨9, none, none, [], [], (.store (.t 75) (kI 0) 1)⟩] [12, 13, 14]) (.reg [i_P 0 76 13 4, i_L 1 77 76 1, i_X 2 78 (.callA (kF 69) [(.t 77), (kI 1)]), i_P 3 79 14 0, i_P 4 80 79 0, i_P 5 81 80 4, i_S 6 81 78 1] [12, 14])) (.seq (.reg [i_M 0 82 5, i_X 1 83 (.h (.fcmp .le (.t 82) (.k (.d (.flt 4598175219545276416))))), i_M 2 84 83, ⟨3, (some 85), (some (84, true)), [], [], (.h (.padd (.t 13) 2))⟩, ⟨4, (some 86), (some (84, true)), [], [], (.load (.t 85) 1 false)⟩, ⟨5, (some 87), (some (84, true)), [], [], (.h (.padd (.t 13) 3))⟩, ⟨6, (some 88), (some (84, true)), [], [], (.load (.t 87) 1 false)⟩, ⟨7, (some 89), (some (84, true)), [], [], (.callS 7 (kF 74) [(.t 88)])⟩, ⟨8, (some 90), (some (84, true)), [], [], (.h (.ibin .lss (.t 86) (.t 89)))⟩, i_X 9 91 (.h (.pick (.t 84) (.t 90) (.k (.d (.bool false)))))] [3, 4, 12, 13, 14, 91]) (.cond (.t 91) (.seq (.reg [i_X 0 15 (.h (.mov (.k .nil)))] [3, 4, 12, 13, 14, 15]) (.seq (.seq (.reg [i_K 0 16 0] [3, 4, 12, 13, 14, 15, 16]) (.block 0 (.loop A_r10_taken_L0))) (.seq (.reg [i_P 0 117 14 0, i_P 1 118 117 0, i_P 2 119 118 4, i_L 3 120 119 1, i_M 4 121 15, i_X 5 122 (.bslice [.nil] 1 1 [(0, (1, (.t 121)))] 30), i_X 6 123 (.app (.t 120) (.t 122) 1 24), i_P 7 124 14 0, i_P 8 125 124 0, i_P 9 126 125 4, i_S 10 126 123 1] [12, 13, 14]) (.reg [i_P 0 127 13 2, i_L 1 128 127 1, i_B 2 129 .add 128 1, i_P 3 130 14 0, i_P 4 131 130 0, i_P 5 132 131 2, i_S 6 132 129 1, i_P 7 133 14 0, i_P 8 134 133 5, ⟨9, none, none, [], [], (.store (.t 134) (kI 0) 1)⟩] [12, 14])))) .skip)))) (.seq (.reg [i_A 0 135 14 16, i_S 1 12 135 16] [12]) .ret)))))))))
theorem A_r10_taken_comp : compF Tryz.prog 33 = some ⟨136, [(12, (some (16, true)))], A_r10_taken.strip⟩ := by kernel_rfl
abbrev tjS (l d : List Nat) (i : Nat) : Sl := [(3, .d (rowD l)), (4, .d (rowD d)), (12, .ptr 2 0 0 16), (13, .ptr 5 0 0 5), (14, .ptr 16 0 0 16), (15, .sl 300 0 0 i 1 i), (16, fI i)]
abbrev tjL (q n : Nat) (m g sl pos st : Int) (err : Nat) (C : List (List Nat)) : Heap := [(240, C.map rowV), (140, [hdo 240 0 (q + 1) n]),
  (16, [[fI (pos + st), fI st, fI q, fI m, .sl 140 0 0 (q + 1) 1 (q + 1), fI (g + 1), fI 0, fI sl, fI (pos + st), fI st, fI q, fI m, .d (rowsD C), fB true, fl err, fI 0]]), (5, [[fI (pos + st), fI st, fI q, fI m, .d (rowsD C)]]),
  (2, [[fI 0, fI 0, fI 0, fI 0, .nil, fI 0, fI 0, fI 0, fI 0, fI 0, fI 0, fI 0, .nil, fB false, fl 0, fI 0]])]
set_option maxRecDepth 16000 in
theorem taken10_L0 (p1 p0 : List V) (q : Nat) (m g sl pos st : Int) (err : Nat) (C : List (List Nat)) (l d : List Nat) (n : Nat) (gg : Nat → Nat) (hl : l.length = q + 1) (hd : d.length = n) (hn : n < 2 ^ 40) (w2 : IntKind.i64.wrap ((q : Int) + 1) = (q : Int) + 1)
    (hz : Rk (q + 1) n C) (hgg : ∀ i, fop .div (fop .mul (l.getD q 0) (d.getD i 0)) (FloatKind.nearest .f64 ((q : Int) + 1)) = gg i) (Q : Ex → T → Prop)
    (hQ : ∀ w, Q (.exit 0) ⟨tjS l d n ++ [w], (300, [rowV (tabR gg n)]) :: tjL q n m g sl pos st err C⟩) :
    WA Tryz.prog (fun _ => False) 136 (.loop A_r10_taken_L0) Q ⟨[(3, .d (rowD l)), (4, .d (rowD d)), (12, .ptr 2 0 0 16), (13, .ptr 5 0 0 5), (14, .ptr 16 0 0 16), (15, .nil), (16, fI 0)], tjL q n m g sl pos st err C ++ [(1, [p1]), (0, [p0])]⟩ := by
  have hk1 : ∀ L : Heap, L.fam 240 = some (C.map rowV) → KpA L (hdo 240 0 (q + 1) n) := fun L hL => KpA_hdoF hL (by have := hz.1; omega)
  refine WA_forW (n := n) (fun c s => ∃ i, c + i = n ∧ s = ⟨tjS l d i, (300, [rowV (tabR gg i)]) :: tjL q n m g sl pos st err C⟩)
    (s0 := ⟨_, _⟩) (Le.trans (LeT.nilrow (X := 300) (esz := 1) (as' := tjS l d 0) (by simp [fam_cons, fam_nil]) (fun h => h) fun i => ?_)
      (LeT.only (L' := (300, [rowV (tabR gg 0)]) :: tjL q n m g sl pos st err C) (fun X => X != 0 && X != 1) (fun _ h => h) rfl (by simp (maxDischargeDepth := 6) [kpS, fam_cons, fam_nil]) (by simp (maxDischargeDepth := 6) [kpS, fam_cons, fam_nil, hk1]))) ⟨0, by omega, rfl⟩ ?_
  · simp only [look]
    repeat' split
    all_goals simp [rowD, hd]
  rintro c s ⟨i, hc3, rfl⟩
  have hgl := tabR_len gg i
  refine evx @A_r10_taken_L0.eq_1 ?_
  refine condC_intro (fun hi => ?_) (fun hi => ?_)
  · replace hi := of_decide_eq_true hi
    refine evx (And.intro w2 hgg) ?_
    (repeat (with_reducible refine And.intro (by omega) ?_))
    have e2 : rowV (tabR gg i) ++ [fl (gg i)] = rowV (tabR gg (i + 1)) := (tabR_succ _ _).symm
    rw [wrapI (by omega) (by omega), e2]
    exact ⟨c - 1, _, by omega, LeT.only (L' := (300, [rowV (tabR gg (i + 1))]) :: tjL q n m g sl pos st err C) (fun X => X != 308) (fun _ h => h) rfl (by simp (maxDischargeDepth := 6) [kpS, fam_cons, fam_nil]) (by simp (maxDischargeDepth := 6) [kpS, fam_cons, fam_nil, hk1]), i + 1, by omega, rfl⟩
  · replace hi := of_decide_eq_false hi
    have e : i = n := by omega
    subst e
    refine ev ?_
    exact hQ _
set_option maxRecDepth 16000 in
theorem r10_taken_con (p : Pb) (s : Sta) (z : List (List Nat)) (l d : List Nat) (err : Nat) (hp : Pok p) (hs : s.ok p.t) (hz : Rk (s.n.order.toNat + 1) p.t.n z) (hzc : Cw z) (hl : l.length = s.n.order.toNat + 1) (hd : d.length = p.t.n) :
    Con Tryz.prog 33 [pbV p, staV s, .d (rowsD z), .d (rowD l), .d (rowD d), fl err] (trdV (takeP p s z l d err)) := by
  obtain ⟨hn, hg, hf, hsl⟩ := hs
  obtain ⟨hm, ⟨j, hj, hst⟩, hk, hc, hpos⟩ := hn
  obtain ⟨⟨pos, st, o, m, z0⟩, g, f, sl⟩ := s
  simp only at *
  have hsr := pow_range j hj
  rw [← hst] at hsr
  clear hst
  obtain ⟨q, rfl⟩ : ∃ q : Nat, o = q := ⟨o.toNat, by omega⟩
  rw [Int.toNat_natCast] at hk hz hl
  have hz' := corrP_rk hz l d (q + 1) p.t.n
  have hzc' := corrP_cw hzc l d (q + 1) p.t.n
  have hpn := hp.t.n
  have hq9 : q + 1 < 1000 := by omega
  have hn8 : p.t.n * 8 ≤ 140737488355328 := by omega
  have hq8 : (q + 1 + 1) * 24 ≤ 140737488355328 := by omega
  have hn40 : p.t.n < 2 ^ 40 := by omega
  have hq12 : q + 3 < 12 := by omega
  have hq10 : q + 3 < 1000 := by omega
  have hcor := r8_Correct_con z (q + 1) p.t.n hz hq9 hn40 l d hl hd
  have hre0 := r8_Rescale_ac (corrP z l d (q + 1) p.t.n) (q + 1) p.t.n hz' hq9 hn40 0 (by decide)
  rw [scale_zero hz' hzc'] at hre0
  have hre1 := r8_Rescale_con (corrP z l d (q + 1) p.t.n) (q + 1) p.t.n hz' hq9 hn40 1 (by decide)
  have w1 : IntKind.i64.wrap (g + 1) = g + 1 := wrapI (by omega) (by omega)
  have w2 : IntKind.i64.wrap ((q : Int) + 1) = (q : Int) + 1 := wrapI (by omega) (by omega)
  have w3 : IntKind.i64.wrap ((q : Int) + 3) = ((q + 3 : Nat) : Int) := by rw [wrapI (by omega) (by omega)]; omega
  have w5 : IntKind.i64.wrap (2 * st) = 2 * st := wrapI (by omega) (by omega)
  have w6 : IntKind.i64.wrap (pos + st) = pos + st := wrapI (by omega) (by omega)
  have hless := r10_less_con (q + 3) hq10
  rw [less_ok _ hq12] at hless
  unfold takeP
  simp only [Int.toNat_natCast]
  generalize hC : corrP z l d (q + 1) p.t.n = C at hz' hzc' hcor hre0 hre1
  refine Con_introA A_r10_taken_comp rfl mixed ?_
  refine evx @A_r10_taken.eq_1 ?_
  refine callG_con (hcor) rfl ?_
  refine evx w6 ?_
  refine callG_rows 40 [.d (rowsD C), fI 0] (by simp [Heap.next]) hre0 ⟨.bare _, .bare _, trivial⟩ ?_
  refine evx (And.intro w1 w2) ?_
  by_cases c1 : g + 1 ≤ (q : Int) + 1
  · rw [if_pos c1]
    have c1' : decide (g + 1 ≤ (q : Int) + 1) = true := decide_eq_true c1
    refine evx c1' ?_
    exact endsT_le (.agg [fI (pos + st), fI st, fI q, fI m, .sl 140 0 0 (q + 1) 1 (q + 1), fI (g + 1), fI 0, fI sl, fI (pos + st), fI st, fI q, fI m, .d (rowsD C), fB true, fl err, fI 0]) (fun _ h => h) (resV_cellI (by decide) rfl rfl rfl (by simp) rfl)
      (Fz_agg _ _ ⟨Fz_d _, Fz_d _, Fz_d _, Fz_d _, Fz_rk (X := 240) hz' rfl rfl rfl rfl, Fz_d _, Fz_d _, Fz_d _, Fz_d _, Fz_d _, Fz_d _, Fz_d _, Fz_d _, Fz_d _, Fz_d _, Fz_d _, trivial⟩)
  · rw [if_neg c1]
    have c1' : decide (g + 1 ≤ (q : Int) + 1) = false := decide_eq_false c1
    refine evx (And.intro c1' w3) ?_
    refine callG_con (hless) rfl ?_
    generalize lessW (q + 3) = lw
    refine ev ?_
    by_cases c2 : fcmp .le err lw = true ∧ st ≤ p.fin
    · rw [if_pos c2]
      have c3 : decide (st ≤ p.fin) = true := decide_eq_true c2.2
      refine evx (And.intro c2.1 (And.intro c3 w5)) ?_
      generalize scaleP C 1 (q + 1) p.t.n = S at hre1
      refine callG_con (hre1) rfl ?_
      refine ev ?_
      exact endsT_le (.agg [fI (pos + st), fI (2 * st), fI q, fI m, .d (rowsD S), fI 0, fI 0, fI sl, fI (pos + st), fI st, fI q, fI m, .d (rowsD C), fB true, fl err, fI 0]) (fun _ h => h) (resV_cellI (by decide) rfl rfl rfl (by simp) rfl)
        (Fz_agg _ _ ⟨Fz_d _, Fz_d _, Fz_d _, Fz_d _, Fz_d _, Fz_d _, Fz_d _, Fz_d _, Fz_d _, Fz_d _, Fz_d _, Fz_d _, Fz_d _, Fz_d _, Fz_d _, Fz_d _, trivial⟩)
    · rw [if_neg c2]
      have c4 : (fcmp .le err lw = false) ∨ (fcmp .le err lw = true ∧ decide (st ≤ p.fin) = false) := by
        cases h1 : fcmp .le err lw with
        | false => exact .inl rfl
        | true => exact .inr ⟨rfl, decide_eq_false fun h2 => c2 ⟨h1, h2⟩⟩
      have fin : ∀ (Lr : Heap), Lr.get 140 0 = some (hdo 240 0 (q + 1) p.t.n) → Lr.fam 240 = some (C.map rowV) → LeV Lr [] (fun X r => (X, r)) (.agg [fI (pos + st), fI st, fI q, fI m, .sl 140 0 0 (q + 1) 1 (q + 1), fI (g + 1), fI 0, fI sl, fI (pos + st), fI st, fI q, fI m, .d (rowsD C), fB true, fl err, fI 0])
          (trdV ⟨⟨⟨pos + st, st, q, m, C⟩, g + 1, 0, sl⟩, ⟨pos + st, st, q, m, C⟩, true, err, 0⟩) := fun Lr e1 e2 =>
        Fz_agg _ _ ⟨Fz_d _, Fz_d _, Fz_d _, Fz_d _, Fz_rk (X := 240) hz' e1 e2 rfl rfl, Fz_d _, Fz_d _, Fz_d _, Fz_d _, Fz_d _, Fz_d _, Fz_d _, Fz_d _, Fz_d _, Fz_d _, Fz_d _, trivial⟩
      rcases c4 with c4 | ⟨c4, c5⟩
      case' inl => simp -implicitDefEqProofs only [evI, hv, effC, reduceCtorEq, ↓reduceIte, n1_, n2_, n3_, n4_, n5_, i1_, i2_, i3_, i4_, i5_, i6_, i7_, c4]
      case' inr => simp -implicitDefEqProofs only [evI, hv, effC, reduceCtorEq, ↓reduceIte, n1_, n2_, n3_, n4_, n5_, i1_, i2_, i3_, i4_, i5_, i6_, i7_, c4, c5]
      all_goals
        cases c8 : fcmp .le err 4598175219545276416 with
        | false =>
          rw [if_neg (by simp)]
          refine ev ?_
          exact endsT_le (.agg [fI (pos + st), fI st, fI q, fI m, .sl 140 0 0 (q + 1) 1 (q + 1), fI (g + 1), fI 0, fI sl, fI (pos + st), fI st, fI q, fI m, .d (rowsD C), fB true, fl err, fI 0]) (fun _ h => h) (resV_cellI (by decide) rfl rfl rfl (by simp) rfl) (fin _ rfl rfl)
        | true =>
          refine ev ?_
          refine callSG_con (r10_most_con m) rfl ?_
          refine ev ?_
          by_cases c9 : (q : Int) < mostO m
          · have c9' : decide ((q : Int) < mostO m) = true := decide_eq_true c9
            rw [if_pos c9]
            refine evx c9' ?_
            obtain ⟨gg, hgg⟩ : ∃ gg, gg = (fun i => fop .div (fop .mul (l.getD q 0) (d.getD i 0)) (FloatKind.nearest .f64 ((q : Int) + 1))) := ⟨_, rfl⟩
            have hgg' : ∀ i, fop .div (fop .mul (l.getD q 0) (d.getD i 0)) (FloatKind.nearest .f64 ((q : Int) + 1)) = gg i := fun i => by rw [hgg]
            have hnr : nextR l d q = tabR gg p.t.n := by unfold nextR; rw [hd, hgg]
            rw [hnr]
            refine taken10_L0 _ (pbC p) q m g sl pos st err C l d p.t.n gg hl hd hn40 w2 hz' hgg' _ fun w => ?_
            have hgl := tabR_len gg p.t.n
            generalize tabR gg p.t.n = G at hgl
            have hgl' : p.t.n ≤ G.length := Nat.le_of_eq hgl.symm
            refine evx w2 ?_
            refine ⟨hq8, ?_⟩
            exact endsT_le (.agg [fI (pos + st), fI st, fI (q + 1), fI m, .sl 140 0 0 (q + 1 + 1) 1 (q + 1 + 1), fI 0, fI 0, fI sl, fI (pos + st), fI st, fI q, fI m, .d (rowsD C), fB true, fl err, fI 0]) (fun _ h => h) (resV_cellI (by decide) rfl rfl rfl (by simp) rfl)
              (Fz_agg _ _ ⟨Fz_d _, Fz_d _, Fz_d _, Fz_d _, Fz_rk_app (X := 240) (R := 300) hz' rfl rfl rfl hgl rfl rfl rfl, Fz_d _, Fz_d _, Fz_d _, Fz_d _, Fz_d _, Fz_d _, Fz_d _, Fz_d _, Fz_d _, Fz_d _, Fz_d _, trivial⟩)
          · have c9' : decide ((q : Int) < mostO m) = false := decide_eq_false c9
            rw [if_neg c9]
            refine evx c9' ?_
            exact endsT_le (.agg [fI (pos + st), fI st, fI q, fI m, .sl 140 0 0 (q + 1) 1 (q + 1), fI (g + 1), fI 0, fI sl, fI (pos + st), fI st, fI q, fI m, .d (rowsD C), fB true, fl err, fI 0]) (fun _ h => h) (resV_cellI (by decide) rfl rfl rfl (by simp) rfl) (fin _ rfl rfl)
theorem le_failed (Lr : Heap) (s : Sta) (err : Nat) (e : Int) : LeV Lr [] (fun X r => (X, r)) (.agg [fI s.n.pos, fI s.n.step, fI s.n.order, fI s.n.method, .d (rowsD s.n.z), fI s.good, fI s.fails, fI s.slow, fI 0, fI 0, fI 0, fI 0, .nil, fB false, fl err, fI e])
    (trdV ⟨s, ⟨0, 0, 0, 0, []⟩, false, err, e⟩) :=
  Fz_agg _ _ ⟨Fz_d _, Fz_d _, Fz_d _, Fz_d _, Fz_d _, Fz_d _, Fz_d _, Fz_d _, Fz_d _, Fz_d _, Fz_d _, Fz_d _, .d (.nil _), Fz_d _, Fz_d _, Fz_d _, trivial⟩
set_option maxRecDepth 16000 in
theorem r10_failed_con (p : Pb) (s : Sta) (e : Int) (err : Nat) (hp : Pok p) (hs : s.ok p.t) : Con Tryz.prog 31 [pbV p, staV s, fI e, fl err] (trdV (failP p s e err)) := by
  obtain ⟨hn, hg, hf, hsl⟩ := hs
  have hn' := hn
  obtain ⟨hm, ⟨j, hj, hst⟩, hk, hc, hpos⟩ := hn
  obtain ⟨⟨pos, st, o, m, z⟩, g, f, sl⟩ := s
  simp only at *
  have hsr := pow_range j hj
  rw [← hst] at hsr
  obtain ⟨q, rfl⟩ : ∃ q : Nat, o = q := ⟨o.toNat, by omega⟩
  rw [Int.toNat_natCast] at hk
  have hpn := hp.t.n
  have hq9 : q + 1 < 1000 := by omega
  have hn40 : p.t.n < 2 ^ 40 := by omega
  have hre := r8_Rescale_con z (q + 1) p.t.n hk hq9 hn40 (-1) (by decide)
  have w1 : IntKind.i64.wrap (f + 1) = f + 1 := wrapI (by omega) (by omega)
  have w2 : IntKind.i64.wrap (sl + 1) = sl + 1 := wrapI (by omega) (by omega)
  have w5 : IntKind.i64.wrap (st.tdiv 2) = st / 2 := by rw [Int.tdiv_eq_ediv_of_nonneg (by omega)]; exact wrapI (by omega) (by omega)
  unfold failP
  simp only [Int.toNat_natCast]
  refine Con_introA A_r10_failed_comp rfl mixed ?_
  refine evx @A_r10_failed.eq_1 ?_
  by_cases c1 : st ≤ p.least
  · rw [if_pos c1]
    have c1' : decide (st ≤ p.least) = true := decide_eq_true c1
    refine evx c1' ?_
    by_cases e4 : e = 4
    · subst e4
      refine evb ?_
      exact endsT_le _ (fun _ h => h) (resV_cellI (by decide) rfl rfl rfl (by simp) rfl) (le_failed _ ⟨⟨pos, st, q, m, z⟩, g, f, sl⟩ err 4)
    · have e4' : (e == 4) = false := by simpa using e4
      by_cases e2 : e = 2
      · subst e2
        refine evb ?_
        exact endsT_le _ (fun _ h => h) (resV_cellI (by decide) rfl rfl rfl (by simp) rfl) (le_failed _ ⟨⟨pos, st, q, m, z⟩, g, f, sl⟩ err 2)
      · have e2' : (e == 2) = false := by simpa using e2
        rw [if_neg (by simp [e4, e2])]
        refine evx (And.intro e4' e2') ?_
        exact endsT_le _ (fun _ h => h) (resV_cellI (by decide) rfl rfl rfl (by simp) rfl) (le_failed _ ⟨⟨pos, st, q, m, z⟩, g, f, sl⟩ err 5)
  · rw [if_neg c1]
    have c1' : decide (st ≤ p.least) = false := decide_eq_false c1
    obtain ⟨S, hS⟩ : ∃ S, S = scaleP z (-1) (q + 1) p.t.n := ⟨_, rfl⟩
    have hhalf : ∃ j' : Nat, j' < 60 ∧ st / 2 = (2 ^ j' : Nat) := by
      have hl := hp.least
      obtain ⟨i, rfl⟩ : ∃ i, j = i + 1 := ⟨j - 1, by
        rcases j with _ | j
        · simp at hst; omega
        · omega⟩
      refine ⟨i, by omega, ?_⟩
      rw [hst, Nat.pow_succ]; omega
    have hrkS := scaleP_rk hk (-1) (q + 1) p.t.n
    rw [← hS] at hre hrkS ⊢
    refine evx (And.intro c1' (And.intro w1 w2)) ?_
    have c2 : (e = 6 ∧ m = 0) ∨ e ≠ 6 ∨ (e = 6 ∧ m ≠ 0) := by omega
    obtain ⟨sl', hsl'⟩ : ∃ sl', sl' = if e = 6 ∧ m = 0 then sl + 1 else sl := ⟨_, rfl⟩
    have hslr : 0 ≤ sl' ∧ sl' < 2000000000 := by rw [hsl']; split <;> omega
    rw [← hsl']
    have d2 : ¬ (2 : Int) = 0 := by decide
    rcases c2 with c2 | c2 | c2
    case' inl =>
      rw [if_pos c2] at hsl'
      have m0 : (m == 0) = true := by rw [c2.2]; rfl
      have e6 : (e == 6) = true := by rw [c2.1]; rfl
      refine evx (And.intro e6 (And.intro m0 (And.intro w2 w5))) ?_
      refine ⟨d2, ?_⟩
      refine callG_con (hre) rfl ?_
      rw [← hsl']
      refine ev ?_
    case' inr.inl =>
      rw [if_neg (fun h => c2 h.1)] at hsl'
      have e6 : (e == 6) = false := by simpa using c2
      refine evx (And.intro e6 (And.intro w2 w5)) ?_
      refine ⟨d2, ?_⟩
      refine callG_con (hre) rfl ?_
      rw [← hsl']
      refine ev ?_
    case' inr.inr =>
      rw [if_neg (fun h => c2.2 h.2)] at hsl'
      have m0 : (m == 0) = false := by simpa using c2.2
      have e6 : (e == 6) = true := by rw [c2.1]; rfl
      refine evx (And.intro e6 (And.intro m0 (And.intro w2 w5))) ?_
      refine ⟨d2, ?_⟩
      refine callG_con (hre) rfl ?_
      rw [← hsl']
      refine ev ?_
    all_goals
      by_cases c3 : 2 ≤ sl'
      · have c3' : decide (2 ≤ sl') = true := decide_eq_true c3
        rw [if_pos c3]
        refine evx c3' ?_
        refine callG_con (r10_anew_con p ⟨⟨pos, st / 2, q, 1, S⟩, 0, f + 1, 0⟩ hp hhalf hrkS) rfl ?_
        refine ev ?_
        exact endsT_le _ (fun _ h => h) (resV_cellI (by decide) rfl rfl rfl (by simp) rfl) (le_failed _ ⟨freshP p ⟨pos, st / 2, q, 1, S⟩, 0, 0, 0⟩ err 0)
      · have c3' : decide (2 ≤ sl') = false := decide_eq_false c3
        rw [if_neg c3]
        refine evx c3' ?_
        by_cases c4 : f + 1 < 3
        · have c4' : decide (3 ≤ f + 1) = false := decide_eq_false (by omega)
          rw [if_pos c4]
          refine evx c4' ?_
          exact endsT_le _ (fun _ h => h) (resV_cellI (by decide) rfl rfl rfl (by simp) rfl) (le_failed _ ⟨⟨pos, st / 2, q, m, S⟩, 0, f + 1, sl'⟩ err 0)
        · have c4' : decide (3 ≤ f + 1) = true := decide_eq_true (by omega)
          rw [if_neg c4]
          refine evx c4' ?_
          refine callG_con (r10_anew_con p ⟨⟨pos, st / 2, q, m, S⟩, 0, f + 1, sl'⟩ hp hhalf hrkS) rfl ?_
          refine ev ?_
          exact endsT_le _ (fun _ h => h) (resV_cellI (by decide) rfl rfl rfl (by simp) rfl) (le_failed _ ⟨freshP p ⟨pos, st / 2, q, m, S⟩, 0, 0, sl'⟩ err 0)
end Go.Ab
namespace Go.Ab
set_option linter.unusedSimpArgs false
set_option linter.unusedVariables false
open Go Go.Proofs
theorem hdo_absorb (Y X i len : Nat) (h : Y ≠ X) : (hdo X 0 i len ++ [V.sl Y 0 0 len 1 len]).map (V.ren (absF Y X i)) = hdo X 0 (i + 1) len := by
  have e : hdo X 0 (i + 1) len = hdo X 0 i len ++ [.sl X i 0 len 1 len] := by
    simp [hdo, List.range_succ]
  rw [e, List.map_append]
  congr 1
  · refine hdo_ren _ X 0 i len X 0 fun j hj => ?_
    have : ¬ (X = Y ∧ j + 0 = 0) := fun e => h e.1.symm
    simp only [absF, if_neg this]
  · simp [V.ren, absF]
set_option maxRecDepth 8000 in
theorem r6_copied_ac (A : List (List Nat)) (n : Nat) (hA : Sq n A) (hn : n < 2 ^ 40) :
    AC Tryz.prog 152 [.d (rowsD A)] [] [(200, A.map rowV), (100, [hdo 200 0 n n])] (.sl 100 0 0 n 1 n) := by
  obtain ⟨hl, hr⟩ := hA
  refine AC_introA A_r6_copied_comp rfl mixed (fun _ => False) (by simp [get_nil]) ?_
  refine evx @A_r6_copied.eq_1 ?_
  refine WA_forW (n := n) (fun c s => ∃ i, c + i = n ∧ s = ⟨[(0, .d (rowsD A)), (3, .sl 100 0 0 i 1 i), (4, fI i)], [(200, (A.take i).map rowV), (100, [hdo 200 0 i n])]⟩)
    (s0 := ⟨_, _⟩) (Le.trans (LeT.nilrow (X := 100) (esz := 1) (as' := [(0, .d (rowsD A)), (3, .sl 100 0 0 0 1 0), (4, fI 0)]) rfl (fun h => h) fun i => ?_) (LeT.empty (X := 200) (L1 := []) (by simp [fam_cons, fam_nil]))) ⟨0, rfl, rfl⟩ ?_
  · simp only [look]
    repeat' split
    all_goals simp [rowsD]
  rintro c s ⟨i, hc, rfl⟩
  refine evx @A_r6_copied_L0.eq_1 ?_
  refine condC_intro (fun h => ?_) (fun h => ?_)
  · replace h := of_decide_eq_true h
    have hin : i < n := by omega
    have g1 := hr i hin
    refine evx (And.intro @Nat.zero_mul @Nat.zero_le) ?_
    (repeat (with_reducible refine And.intro (by omega) ?_))
    rw [wrapI (by omega) (by omega), g1]
    have hd1 : ∀ X r c, Heap.get [(202, [rowV (A.getD i [])]), (200, (A.take i).map rowV), (100, [hdo 200 0 i n ++ [V.sl 202 0 0 n 1 n]])] X r = some c → ∀ v ∈ c,
        LeV [(208, [[V.sl 202 0 0 n 1 n]]), (202, [rowV (A.getD i [])]), (200, (A.take i).map rowV), (100, [hdo 200 0 i n ++ [V.sl 202 0 0 n 1 n]])]
          [(202, [rowV (A.getD i [])]), (200, (A.take i).map rowV), (100, [hdo 200 0 i n ++ [V.sl 202 0 0 n 1 n]])] (fun X q => (X, q)) v v := by
      intro X r c hX v hv'
      rw [get_cons, get_cons, get_cons, get_nil] at hX
      split at hX
      · rcases r with _ | r <;> simp at hX; subst hX; exact mem_rowV hv' _ _ _
      · split at hX
        · rw [List.getElem?_map] at hX
          obtain ⟨xs, h1, rfl⟩ := Option.map_eq_some_iff.1 hX
          exact mem_rowV hv' _ _ _
        · split at hX
          · rcases r with _ | r <;> simp only [List.getElem?_cons_zero, List.getElem?_cons_succ, List.getElem?_nil, Option.some.injEq, reduceCtorEq] at hX
            subst hX
            rcases List.mem_append.1 hv' with hv' | hv'
            · obtain ⟨j, hj, rfl⟩ := List.mem_map.1 hv'
              refine .sl ?_ rfl
              have : j < i := by simpa using hj
              simp [get_cons]; omega
            · obtain rfl : v = V.sl 202 0 0 n 1 n := by simpa using hv'
              exact .sl (by simp [get_cons]) rfl
          · cases hX
    refine ⟨c - 1, ⟨[(0, .d (rowsD A)), (3, .sl 100 0 0 (i + 1) 1 (i + 1)), (4, fI (i + 1 : Nat))], [(200, (A.take (i + 1)).map rowV), (100, [hdo 200 0 (i + 1) n])]⟩, by omega, Le.trans (LeT.drop (fun _ h => h) (L' := [(202, [rowV (A.getD i [])]), (200, (A.take i).map rowV), (100, [hdo 200 0 i n ++ [V.sl 202 0 0 n 1 n]])]) (fun p hp => ?_) (fun X r c hX => ⟨?_, hd1 X r c hX⟩)) ?_, i + 1, by omega, rfl⟩
    · simp only [List.mem_cons, List.not_mem_nil, or_false] at hp
      rcases hp with rfl | rfl | rfl
      all_goals first | exact .d (.d _) | exact .sl (by simp [get_cons]) rfl
    · rw [get_cons, get_cons, get_cons, get_nil] at hX
      rw [get_cons, get_cons, get_cons, get_cons, get_nil]
      split at hX
      · rename_i e; subst e; simpa using hX
      · rename_i e1
        split at hX
        · rename_i e; subst e; simpa using hX
        · rename_i e2
          split at hX
          · rename_i e; subst e; simpa using hX
          · cases hX
    · have := LeT.absorb (N := fun _ => False) (nt := 21) (Y := 202) (X := 200) (cells := rowV (A.getD i [])) (fam := (A.take i).map rowV) (L := [(100, [hdo 200 0 i n ++ [V.sl 202 0 0 n 1 n]])]) (sls := [(0, .d (rowsD A)), (3, .sl 100 0 0 (i + 1) 1 (i + 1)), (4, fI (i + 1 : Nat))]) (by decide) (by simp [fam_cons, fam_nil]) (by simp [fam_cons, fam_nil]) (fun h => h)
      have e2 : ((A.take i).map rowV).length = i := by simp; omega
      rw [e2, ren_fam, ren_rowV, take_fam A i h] at this
      simp only [renS, Heap.renH, ren_absF_sl _ _ _ _ _ _ _ _ _ (by decide : (100 : Nat) ≠ 202), ren_d, List.map_cons, List.map_nil, hdo_absorb 202 200 _ _ (by decide)] at this
      exact this
  · replace h := of_decide_eq_false h
    refine ev ?_
    obtain rfl : n = i := by omega
    have e : A.take n = A := List.take_of_length_le (by omega)
    rw [e]
    refine endsT_keep (fun _ h => h) (resV_tmpI (t := 2) (by decide) rfl) rfl (.sl (by simp [get_cons]) rfl) (keep_cells fun X q cells hX v hv' => ?_)
    rw [get_cons, get_cons, get_nil] at hX
    split at hX
    · rw [List.getElem?_map] at hX
      obtain ⟨xs, h1, rfl⟩ := Option.map_eq_some_iff.1 hX
      exact mem_rowV hv' _ _ _
    · split at hX
      · rcases q with _ | q <;> simp at hX; subst hX
        exact mem_hdo hv' fun r hr' => by simp [get_cons]; omega
      · cases hX
end Go.Ab
namespace Go.Ab
set_option linter.unusedSimpArgs false
set_option linter.unusedVariables false
open Nat renaming reduceEqDiff → n1_, reduceAdd → n2_, reduceMul → n3_, reduceLT → n4_, reduceLeDiff → n5_
open Int renaming reduceToNat → i1_, reduceAdd → i2_, reduceSub → i3_, reduceMul → i4_, reduceNeg → i5_, reduceLT → i6_, reduceLE → i7_
open Go Go.Proofs
def A_r6_Part_L0 : CA := (.seq (.seq (.reg [i_M 0 18 6, i_M 1 19 5, i_N 2 20 .lss 18 19] [2, 4, 5, 6, 20]) (.cond (.t 20) .skip (.exit 0))) (.seq (.block 1 (.reg [i_P 0 23 4 1, i_L 1 24 23 1, i_M 2 25 6, i_X 3 26 (.bslice [(.d (.int .i64 0))] 1 1 [(0, (1, (.t 25)))] 3), i_X 4 27 (.app (.t 24) (.t 26) 1 8), i_P 5 28 4 1, i_S 6 28 27 1] [2, 4, 5, 6])) (.reg [i_M 0 21 6, i_B 1 22 .add 21 1, i_M 2 6 22] [2, 4, 5, 6])))
def A_r6_Part_L2 : CA := (.seq (.seq (.reg [i_M 0 37 9, i_M 1 38 5, i_N 2 39 .lss 37 38] [2, 4, 5, 7, 8, 9, 39]) (.cond (.t 39) .skip (.exit 4))) (.seq (.block 5 (.seq (.reg [i_P 0 42 4 0, i_L 1 43 42 1, i_M 2 44 9, i_I 3 45 43 44 1, i_L 4 46 45 1, i_M 5 47 7, i_I 6 48 46 47 1, i_L 7 49 48 1, i_X 8 50 (.callS 0 (kF 63) [(.t 49)]), i_P 9 51 4 0, i_L 10 52 51 1, i_M 11 53 8, i_I 12 54 52 53 1, i_L 13 55 54 1, i_M 14 56 7, i_I 15 57 55 56 1, i_L 16 58 57 1, i_X 17 59 (.callA (kF 63) [(.t 58)]), i_X 18 60 (.h (.fcmp .gt (.t 50) (.t 59)))] [2, 4, 5, 7, 8, 9, 60]) (.cond (.t 60) (.reg [i_M 0 61 9, i_M 1 8 61] [2, 4, 5, 7, 8, 9]) .skip))) (.reg [i_M 0 40 9, i_B 1 41 .add 40 1, i_M 2 9 41] [2, 4, 5, 7, 8, 9])))
def A_r6_Part_L4 : CA := (.seq (.seq (.reg [i_M 0 153 11, i_M 1 154 5, i_N 2 155 .lss 153 154] [2, 4, 5, 7, 10, 11, 155]) (.cond (.t 155) .skip (.exit 8))) (.seq (.block 9 (.seq (.reg [i_P 0 158 4 0, i_L 1 159 158 1, i_M 2 160 10, i_I 3 161 159 160 1, i_L 4 162 161 1, i_M 5 163 7, i_I 6 164 162 163 1, i_L 7 165 164 1, i_P 8 166 4 0, i_L 9 167 166 1, i_M 10 168 7, i_I 11 169 167 168 1, i_L 12 170 169 1, i_M 13 171 11, i_I 14 172 170 171 1, i_L 15 173 172 1, i_F 16 174 .mul 165 173, i_M 17 12 174] [2, 4, 5, 7, 10, 11, 12]) (.reg [i_P 0 175 4 0, i_L 1 176 175 1, i_M 2 177 10, i_I 3 178 176 177 1, i_L 4 179 178 1, i_M 5 180 11, i_P 6 181 4 0, i_L 7 182 181 1, i_M 8 183 10, i_I 9 184 182 183 1, i_L 10 185 184 1, i_M 11 186 11, i_I 12 187 185 186 1, i_L 13 188 187 1, i_M 14 189 12, i_F 15 190 .sub 188 189, i_I 16 191 179 180 1, i_S 17 191 190 1] [2, 4, 5, 7, 10, 11]))) (.reg [i_M 0 156 11, i_B 1 157 .add 156 1, i_M 2 11 157] [2, 4, 5, 7, 10, 11])))
def A_r6_Part_L3 : CA := (.seq (.seq (.reg [i_M 0 122 10, i_M 1 123 5, i_N 2 124 .lss 122 123] [2, 4, 5, 7, 10, 124]) (.cond (.t 124) .skip (.exit 6))) (.seq (.block 7 (.seq (.reg [i_P 0 127 4 0, i_L 1 128 127 1, i_M 2 129 10, i_I 3 130 128 129 1, i_L 4 131 130 1, i_M 5 132 7, i_P 6 133 4 0, i_L 7 134 133 1, i_M 8 135 10, i_I 9 136 134 135 1, i_L 10 137 136 1, i_M 11 138 7, i_I 12 139 137 138 1, i_L 13 140 139 1, i_P 14 141 4 0, i_L 15 142 141 1, i_M 16 143 7, i_I 17 144 142 143 1, i_L 18 145 144 1, i_M 19 146 7, i_I 20 147 145 146 1, i_L 21 148 147 1, i_F 22 149 .div 140 148, i_I 23 150 131 132 1, i_S 24 150 149 1] [2, 4, 5, 7, 10]) (.seq (.reg [i_M 0 151 7, i_B 1 152 .add 151 1, i_M 2 11 152] [2, 4, 5, 7, 10, 11]) (.block 8 (.loop A_r6_Part_L4))))) (.reg [i_M 0 125 10, i_B 1 126 .add 125 1, i_M 2 10 126] [2, 4, 5, 7, 10])))
def A_r6_Part_L1 : CA := (.seq (.seq (.reg [i_M 0 29 7, i_M 1 30 5, i_N 2 31 .lss 29 30] [2, 4, 5, 7, 31]) (.cond (.t 31) .skip (.exit 2))) (.seq (.block 3 (.seq (.reg [i_M 0 34 7, i_M 1 8 34] [2, 4, 5, 7, 8]) (.seq (.seq (.reg [i_M 0 35 7, i_B 1 36 .add 35 1, i_M 2 9 36] [2, 4, 5, 7, 8, 9]) (.block 4 (.loop A_r6_Part_L2))) (.seq (.seq (.reg [i_P 0 62 4 0, i_L 1 63 62 1, i_M 2 64 8, i_I 3 65 63 64 1, i_L 4 66 65 1, i_M 5 67 7, i_I 6 68 66 67 1, i_L 7 69 68 1, i_X 8 70 (.h (.fcmp .eq (.t 69) (.k (.d (.flt 0))))), i_M 9 71 70, ⟨10, (some 72), (some (71, false)), [], [], (.h (.padd (.t 4) 0))⟩, ⟨11, (some 73), (some (71, false)), [], [], (.load (.t 72) 1 false)⟩, ⟨12, (some 74), (some (71, false)), [], [], (.h (.mov (.t 8)))⟩, ⟨13, (some 75), (some (71, false)), [], [], (.h (.idx (.t 73) (.t 74) 1))⟩, ⟨14, (some 76), (some (71, false)), [], [], (.load (.t 75) 1 false)⟩, ⟨15, (some 77), (some (71, false)), [], [], (.h (.mov (.t 7)))⟩, ⟨16, (some 78), (some (71, false)), [], [], (.h (.idx (.t 76) (.t 77) 1))⟩, ⟨17, (some 79), (some (71, false)), [], [], (.load (.t 78) 1 false)⟩, ⟨18, (some 80), (some (71, false)), [], [], (.callA (kF 20) [(.t 79)])⟩, ⟨19, (some 81), (some (71, false)), [], [], (.h (.un .not (.t 80)))⟩, i_X 20 82 (.h (.pick (.t 71) (.k (.d (.bool true))) (.t 81)))] [2, 4, 5, 7, 8, 82]) (.cond (.t 82) (.seq (.reg [i_X 0 83 (.h (.build [.nil, .nil] [])), i_S 1 2 83 2, i_X 2 3 (.h (.mov (.k (.d (.bool false)))))] [2, 3]) .ret) .skip)) (.seq (.reg [i_P 0 84 4 0, i_L 1 85 84 1, i_M 2 86 7, i_P 3 87 4 0, ⟨4, (some 88), none, [(.t 4)], [], (.load (.t 87) 1 false)⟩, i_M 5 89 8, i_P 6 90 4 0, i_L 7 91 90 1, i_M 8 92 8, i_I 9 93 91 92 1, i_L 10 94 93 1, i_P 11 95 4 0, i_L 12 96 95 1, i_M 13 97 7, i_I 14 98 96 97 1, i_L 15 99 98 1, i_I 16 100 85 86 1, ⟨17, none, none, [], [(.t 4)], (.store (.t 100) (.t 94) 1)⟩, i_I 18 101 88 89 1, i_S 19 101 99 1] [2, 4, 5, 7, 8]) (.seq (.reg [i_P 0 102 4 1, i_L 1 103 102 1, i_M 2 104 7, i_P 3 105 4 1, ⟨4, (some 106), none, [(.t 4)], [], (.load (.t 105) 1 false)⟩, i_M 5 107 8, i_P 6 108 4 1, i_L 7 109 108 1, i_M 8 110 8, i_I 9 111 109 110 1, i_L 10 112 111 1, i_P 11 113 4 1, i_L 12 114 113 1, i_M 13 115 7, i_I 14 116 114 115 1, i_L 15 117 116 1, i_I 16 118 103 104 1, ⟨17, none, none, [], [(.t 4)], (.store (.t 118) (.t 112) 1)⟩, i_I 18 119 106 107 1, i_S 19 119 117 1] [2, 4, 5, 7]) (.seq (.reg [i_M 0 120 7, i_B 1 121 .add 120 1, i_M 2 10 121] [2, 4, 5, 7, 10]) (.block 6 (.loop A_r6_Part_L3))))))))) (.reg [i_M 0 32 7, i_B 1 33 .add 32 1, i_M 2 7 33] [2, 4, 5, 7])))
def A_r6_Part : CA := (.seq (.reg [i_X 0 2 (.alloc [.nil, .nil] 114), i_X 1 3 (.h (.mov (.k (.d (.bool false)))))] [0, 2]) (.seq (.reg [i_M 0 13 0, i_X 1 14 (.callA (kF 152) [(.t 13)]), i_X 2 15 (.h (.build [.nil, .nil] [(0, (1, (.t 14)))])), i_X 3 4 (.alloc [.nil, .nil] 114), i_S 4 4 15 2] [0, 2, 4]) (.seq (.reg [i_M 0 16 0, i_X 1 17 (.h (.len (.t 16))), i_M 2 5 17] [2, 4, 5]) (.seq (.seq (.reg [i_K 0 6 0] [2, 4, 5, 6]) (.block 0 (.loop A_r6_Part_L0))) (.seq (.seq (.reg [i_K 0 7 0] [2, 4, 5, 7]) (.block 2 (.loop A_r6_Part_L1))) (.seq (.reg [i_A 0 192 4 2, i_S 1 2 192 2, i_X 2 3 (.h (.mov (.k (.d (.bool true)))))] [2, 3]) .ret))))))
theorem A_r6_Part_comp : compF Tryz.prog 120 = some ⟨193, [(2, (some (2, true))), (3, none)], A_r6_Part.strip⟩ := by kernel_rfl
theorem r6_copied_fresh (A : List (List Nat)) (n : Nat) (hA : Sq n A) (hn : n < 2 ^ 40) :
    AC Tryz.prog 152 [.d (rowsD A)] [] [(0, hdo 0 1 n n :: A.map rowV)] (.sl 0 0 0 n 1 n) := by
  have hl := hA.1
  refine AC_le (r6_copied_ac A n hA hn) (Le.ren (sl := [.sl 100 0 0 n 1 n]) (fun X r => if X = 200 then (0, r + 1) else (0, 0)) (fun _ r => if r = 0 then (100, 0) else (200, r - 1)) ?_ ?_ (fun _ _ h => h.elim))
  · intro X r c h
    rw [get_cons, get_cons, get_nil] at h
    split at h
    · rename_i e; subst e
      rw [List.getElem?_map] at h
      obtain ⟨xs, h1, rfl⟩ := Option.map_eq_some_iff.1 h
      simp [get_cons, h1, ren_rowV, V.ren]
    · split at h
      · rename_i e e2
        rcases r with _ | r
        · simp at h; subst h
          simp only [e, if_false, get_cons, if_true, List.getElem?_cons_zero]
          refine ⟨?_, by simp [e2]⟩
          rw [hdo_ren _ 200 0 n n 0 1 (fun j hj => by simp)]
        · simp at h
      · cases h
  · intro X r c h
    rw [get_cons, get_nil] at h
    split at h
    · rename_i e; subst e
      rcases r with _ | r
      · simp [get_cons]
      · simp only [List.getElem?_cons_succ, List.getElem?_map] at h
        obtain ⟨xs, h1, rfl⟩ := Option.map_eq_some_iff.1 h
        simp [get_cons, h1]
    · cases h
theorem up_own (k n len : Nat) (A : List (List Nat)) : Heap.up k [(0, hdo 0 1 n len :: A.map rowV)] = [(k, hdo k 1 n len :: A.map rowV)] := by
  have := ren_fam (upF k) A
  simp only [Heap.up, List.map_cons, Nat.zero_add]
  rw [hdo_ren _ 0 1 n len k 1 (fun j hj => by simp [upF]), this]
def r6H (B : List (List Nat)) (π : List Int) (n : Nat) : Heap :=
  [(9, [rowIV π]), (4, [[.sl 1 0 0 n 1 n, .sl 9 0 0 n 1 n]]), (1, hdo 1 1 n n :: B.map rowV), (0, [[.nil, .nil]])]
set_option maxRecDepth 8000 in
theorem r6part_L4 (N : Nat → Prop) (n k i : Nat) (D : List (List Nat)) (σ : List Int) (hn : n < 2 ^ 40) (hD : Sq n D) (hk : k < i) (hi : i < n) (Q : Ex → T → Prop)
    (hQ : ∀ v w, Q (.exit 8) ⟨[(2, .ptr 0 0 0 2), (4, .ptr 4 0 0 2), (5, fI n), (7, fI k), (10, fI i), (11, v), (155, w)], r6H (elimJ D i k (n - 1 - k)) σ n⟩) :
    WA Tryz.prog N 193 (.loop A_r6_Part_L4) Q ⟨[(2, .ptr 0 0 0 2), (4, .ptr 4 0 0 2), (5, fI n), (7, fI k), (10, fI i), (11, fI (k + 1 : Nat))], r6H D σ n⟩ := by
  refine WA_for (n := n) (fun c3 s => ∃ q, c3 + q = n ∧ k + 1 + q ≤ n ∧ s = ⟨[(2, .ptr 0 0 0 2), (4, .ptr 4 0 0 2), (5, fI n), (7, fI k), (10, fI i), (11, fI (k + 1 + q : Nat))],
    r6H (elimJ D i k q) σ n⟩) ⟨0, rfl, by omega, rfl⟩ ?_
  rintro c3 s ⟨q, hc3, hq, rfl⟩
  obtain ⟨hEl, hEr⟩ := elimJ_sq _ n i k hD q
  generalize hE : elimJ D i k q = E at hEl hEr
  refine evx (And.intro @A_r6_Part_L4.eq_1 @r6H.eq_1) ?_
  refine condC_intro (fun h6 => ?_) (fun h6 => ?_)
  · replace h6 := of_decide_eq_true h6
    have hj : k + 1 + q < n := by omega
    have hkn : k < n := by omega
    have g1 := hEr i hi
    have g2 := hEr k hkn
    have e7 : k + 1 + q < (E.getD i []).length := by omega
    have e8 : k + 1 + q < (E.getD k []).length := by omega
    have e9 : k < (E.getD i []).length := by omega
    have hEk : k < E.length := by omega
    have hEi : i < E.length := by omega
    simp -implicitDefEqProofs only [evI, hv, effC, reduceCtorEq, ↓reduceIte, n1_, n2_, n3_, n4_, n5_, i1_, i2_, i3_, i4_, i5_, i6_, i7_, hdo_getD _ _ _ _ _ hi, hdo_getD _ _ _ _ _ hkn, getE E _ hEk, getE E _ hEi, getD_map_fl _ _ e7, getD_map_fl _ _ e8, getD_map_fl _ _ e9, setE]
    (repeat (with_reducible refine And.intro (by omega) ?_))
    rw [wrapI (by omega) (by omega)]
    refine ⟨c3 - 1, by omega, q + 1, by omega, by omega, ?_⟩
    simp only [elimJ, hE]
    rfl
  · replace h6 := of_decide_eq_false h6
    refine ev ?_
    have : n - 1 - k = q := by omega
    subst this
    rw [hE] at hQ
    exact hQ _ _
set_option maxRecDepth 8000 in
theorem r6part_L3 (N : Nat → Prop) (n k : Nat) (C : List (List Nat)) (σ : List Int) (hn : n < 2 ^ 40) (hC : Sq n C) (hk : k < n) (Q : Ex → T → Prop)
    (hQ : ∀ v w, Q (.exit 6) ⟨[(2, .ptr 0 0 0 2), (4, .ptr 4 0 0 2), (5, fI n), (7, fI k), (10, v), (124, w)], r6H (elimI C n k (n - 1 - k)) σ n⟩) :
    WA Tryz.prog N 193 (.loop A_r6_Part_L3) Q ⟨[(2, .ptr 0 0 0 2), (4, .ptr 4 0 0 2), (5, fI n), (7, fI k), (10, fI (k + 1 : Nat))], r6H C σ n⟩ := by
  refine WA_for (n := n) (fun c2 s => ∃ m, c2 + m = n ∧ k + 1 + m ≤ n ∧ s = ⟨[(2, .ptr 0 0 0 2), (4, .ptr 4 0 0 2), (5, fI n), (7, fI k), (10, fI (k + 1 + m : Nat))], r6H (elimI C n k m) σ n⟩) ⟨0, rfl, by omega, rfl⟩ ?_
  rintro c2 s ⟨m, hc2, hm, rfl⟩
  have hDs := elimI_sq C n k hC m
  have ⟨hDl, hDr⟩ := hDs
  generalize hD : elimI C n k m = D at hDs hDl hDr
  refine evx (And.intro @A_r6_Part_L3.eq_1 @r6H.eq_1) ?_
  refine condC_intro (fun h5 => ?_) (fun h5 => ?_)
  · replace h5 := of_decide_eq_true h5
    have hi : k + 1 + m < n := by omega
    have f1 := hDr (k + 1 + m) hi
    have f2 := hDr k hk
    have e5 : k < (D.getD k []).length := by omega
    have e6 : k < (D.getD (k + 1 + m) []).length := by omega
    have hDk : k < D.length := by omega
    have hDi : k + 1 + m < D.length := by omega
    simp -implicitDefEqProofs only [evI, hv, effC, reduceCtorEq, ↓reduceIte, n1_, n2_, n3_, n4_, n5_, i1_, i2_, i3_, i4_, i5_, i6_, i7_, hdo_getD _ _ _ _ _ hi, hdo_getD _ _ _ _ _ hk, getE D _ hDk, getE D _ hDi, getD_map_fl _ _ e5, getD_map_fl _ _ e6, setE]
    (repeat (with_reducible refine And.intro (by omega) ?_))
    rw [wrapI (by omega) (by omega)]
    refine r6part_L4 N n k (k + 1 + m) (up2 D (k + 1 + m) k (fop .div (at2 D (k + 1 + m) k) (at2 D k k))) σ hn (up2_sq D n _ k _ hDs) (by omega) hi _ fun v w => ?_
    refine ev ?_
    rw [wrapI (by omega) (by omega)]
    refine ⟨c2 - 1, by omega, m + 1, by omega, by omega, ?_⟩
    simp only [elimI, elimRow, hD]
    rfl
  · replace h5 := of_decide_eq_false h5
    refine ev ?_
    have : n - 1 - k = m := by omega
    subst this
    rw [hD] at hQ
    exact hQ _ _
set_option maxRecDepth 8000 in
theorem r6part_L2 (N : Nat → Prop) (n k : Nat) (B : List (List Nat)) (σ : List Int) (hn : n < 2 ^ 40) (hB : Sq n B) (hk : k < n) (Q : Ex → T → Prop)
    (hQ : ∀ v w, Q (.exit 4) ⟨[(2, .ptr 0 0 0 2), (4, .ptr 4 0 0 2), (5, fI n), (7, fI k), (8, fI (pvP B k (n - 1 - k))), (9, v), (39, w)], r6H B σ n⟩) :
    WA Tryz.prog N 193 (.loop A_r6_Part_L2) Q ⟨[(2, .ptr 0 0 0 2), (4, .ptr 4 0 0 2), (5, fI n), (7, fI k), (8, fI k), (9, fI (k + 1 : Nat))], r6H B σ n⟩ := by
  obtain ⟨hl, hr⟩ := hB
  refine WA_for (n := n) (fun c s => ∃ m, c + m = n ∧ k + 1 + m ≤ n ∧ s = ⟨[(2, .ptr 0 0 0 2), (4, .ptr 4 0 0 2), (5, fI n), (7, fI k), (8, fI (pvP B k m)), (9, fI (k + 1 + m : Nat))], r6H B σ n⟩) ⟨0, rfl, by omega, rfl⟩ ?_
  rintro c s ⟨m, hc, hm, rfl⟩
  have hp := pvP_lt B k m
  refine evx (And.intro @A_r6_Part_L2.eq_1 @r6H.eq_1) ?_
  refine condC_intro (fun h => ?_) (fun h => ?_)
  · replace h := of_decide_eq_true h
    have hi : k + 1 + m < n := by omega
    have hpn : pvP B k m < n := by omega
    have e1 := hr (k + 1 + m) hi
    have e2 := hr (pvP B k m) hpn
    have e5 : k < (B.getD (pvP B k m) []).length := by omega
    have e6 : k < (B.getD (k + 1 + m) []).length := by omega
    have hBp : pvP B k m < B.length := by omega
    have hBi : k + 1 + m < B.length := by omega
    simp -implicitDefEqProofs only [evI, hv, effC, reduceCtorEq, ↓reduceIte, n1_, n2_, n3_, n4_, n5_, i1_, i2_, i3_, i4_, i5_, i6_, i7_, hdo_getD _ _ _ _ _ hi, hdo_getD _ _ _ _ _ hpn, getE B _ hBp, getE B _ hBi, getD_map_fl _ _ e5, getD_map_fl _ _ e6]
    (repeat (with_reducible refine And.intro (by omega) ?_))
    refine callSG_con (r1_Abs_con (at2 B (k + 1 + m) k)) rfl ?_
    simp -implicitDefEqProofs only [evI, hv, effC, reduceCtorEq, ↓reduceIte, n1_, n2_, n3_, n4_, n5_, i1_, i2_, i3_, i4_, i5_, i6_, i7_, hdo_getD _ _ _ _ _ hi, hdo_getD _ _ _ _ _ hpn, getE B _ hBp, getE B _ hBi, getD_map_fl _ _ e5, getD_map_fl _ _ e6]
    (repeat (with_reducible refine And.intro (by omega) ?_))
    refine callG_con (r1_Abs_con (at2 B (pvP B k m) k)) rfl ?_
    refine ev ?_
    refine condC_intro (fun h2 => ?_) (fun h2 => ?_)
    · refine ev ?_
      rw [wrapI (by omega) (by omega)]
      refine ⟨c - 1, by omega, m + 1, by omega, by omega, ?_⟩
      simp only [pvP, h2, if_true]; rfl
    · refine ev ?_
      rw [wrapI (by omega) (by omega)]
      refine ⟨c - 1, by omega, m + 1, by omega, by omega, ?_⟩
      simp only [pvP, h2, if_false, Bool.false_eq_true]; rfl
  · replace h := of_decide_eq_false h
    refine ev ?_
    have : n - 1 - k = m := by omega
    subst this
    exact hQ _ _
theorem r6_swap (N : Nat → Prop) (hN : ∀ Y, ¬ N Y) (nt n k p : Nat) (B : List (List Nat)) (π : List Int) (sls : Sl) (hl : B.length = n) (hk : k < n) (hp : p < n) (has : renS (swF 1 (k + 1) (p + 1)) sls = sls) :
    Le N (T.s nt ⟨sls, [(9, [rowIV π]), (4, [[.sl 1 0 0 n 1 n, .sl 9 0 0 n 1 n]]), (1, ((hdo 1 1 n n).set k (.sl 1 (p + 1) 0 n 1 n)).set p (.sl 1 (k + 1) 0 n 1 n) :: B.map rowV), (0, [[.nil, .nil]])]⟩)
      (T.s nt ⟨sls, r6H (swapL [] B k p) π n⟩) := by
  have : Le N (T.s nt ⟨sls, [(9, [rowIV π]), (4, [[.sl 1 0 0 n 1 n, .sl 9 0 0 n 1 n]]), (1, ((hdo 1 1 n n).set k (.sl 1 (p + 1) 0 n 1 n)).set p (.sl 1 (k + 1) 0 n 1 n) :: B.map rowV), (0, [[.nil, .nil]])]⟩) _ :=
    LeT.swap (X := 1) (a := k + 1) (b := p + 1)
      (fam := ((hdo 1 1 n n).set k (.sl 1 (p + 1) 0 n 1 n)).set p (.sl 1 (k + 1) 0 n 1 n) :: B.map rowV) (ca := rowV (B.getD k [])) (cb := rowV (B.getD p []))
      (by simp [fam_cons]) (by rw [List.getElem?_cons_succ]; exact getE B k (by omega)) (by rw [List.getElem?_cons_succ]; exact getE B p (by omega)) hN
  rw [has] at this
  refine (Eq.subst (motive := fun H => Le N _ (T.s nt ⟨sls, H⟩)) ?_ this)
  have e := hdo_swap 1 n n k p hk hp
  simp only [setFam, Heap.renH, List.map_cons, List.map_nil, List.set_cons_succ, setE, r6H, swapL, ren_rowIV, ren_fam, Nat.reduceEqDiff, ↓reduceIte, e]
  simp [V.ren, swF]
set_option maxRecDepth 8000 in
set_option maxHeartbeats 1000000 in
theorem r6part_L1 (N : Nat → Prop) (hN : ∀ Y, ¬ N Y) (n : Nat) (A : List (List Nat)) (hA : Sq n A) (hn : n < 2 ^ 40) (Q : Ex → T → Prop)
    (h1 : ∀ B π v w, partP A n n = some (B, π) → Sq n B → π.length = n → Q (.exit 2) ⟨[(2, .ptr 0 0 0 2), (4, .ptr 4 0 0 2), (5, fI n), (7, v), (31, w)], r6H B π n⟩)
    (h2 : ∀ s : T, partP A n n = none → s.sl = [(2, .ptr 0 0 0 2), (3, fB false)] → s.L.get 0 0 = some [.nil, .nil] → Q .ret s) :
    WA Tryz.prog N 193 (.loop A_r6_Part_L1) Q ⟨[(2, .ptr 0 0 0 2), (4, .ptr 4 0 0 2), (5, fI n), (7, fI 0)], r6H A ((List.range n).map fun (j : Nat) => (j : Int)) n⟩ := by
  have hr := hA.2
  have hn' := hA.1
  refine WA_for (n := n) (fun c s => ∃ k B π, c + k = n ∧ partP A n k = some (B, π) ∧ s = ⟨[(2, .ptr 0 0 0 2), (4, .ptr 4 0 0 2), (5, fI n), (7, fI k)], r6H B π n⟩) ⟨0, A, _, rfl, rfl, rfl⟩ ?_
  rintro c s ⟨k, B, π, hc, hp, rfl⟩
  obtain ⟨⟨hBl, hBr⟩, hπ⟩ := partP_sq A n ⟨hn', hr⟩ k (by omega) B π hp
  refine evx (And.intro @A_r6_Part_L1.eq_1 @r6H.eq_1) ?_
  refine condC_intro (fun h => ?_) (fun h => ?_)
  · replace h := of_decide_eq_true h
    refine ev ?_
    (repeat (with_reducible refine And.intro (by omega) ?_))
    have h : k < n := by omega
    rw [wrapI (by omega) (by omega)]
    refine r6part_L2 N n k B π hn ⟨hBl, hBr⟩ h _ fun v w => ?_
    have hpv := pvP_lt B k (n - 1 - k)
    generalize hpp : pvP B k (n - 1 - k) = p at hpv
    have e1 := hBr p (by omega)
    have hpn : p < n := by omega
    have e2 : k < (B.getD p []).length := by omega
    have hBp : p < B.length := by omega
    simp -implicitDefEqProofs only [evI, hv, effC, reduceCtorEq, ↓reduceIte, n1_, n2_, n3_, n4_, n5_, i1_, i2_, i3_, i4_, i5_, i6_, i7_, r6H, hdo_getD _ _ _ _ _ hpn, getE B _ hBp, getD_map_fl _ _ e2]
    (repeat (with_reducible refine And.intro (by omega) ?_))
    have none_of : (fcmp .eq (at2 B p k) 0 = true ∨ finite (at2 B p k) = false) → partP A n n = none := by
      intro hd
      have e : partP A n (k + 1) = none := by
        simp only [partP, hp, Option.bind_some, stepP, hpp]
        rw [if_pos hd]
      have := partP_none A n (k + 1) e (n - (k + 1))
      rwa [show k + 1 + (n - (k + 1)) = n from by omega] at this
    cases hz : fcmp .eq ((B.getD p []).getD k 0) 0
    case true =>
      refine ev ?_
      exact h2 _ (none_of (.inl hz)) rfl (by simp [get_cons])
    case false =>
      simp -implicitDefEqProofs only [evI, hv, effC, reduceCtorEq, ↓reduceIte, n1_, n2_, n3_, n4_, n5_, i1_, i2_, i3_, i4_, i5_, i6_, i7_, hdo_getD _ _ _ _ _ hpn, getE B _ hBp, getD_map_fl _ _ e2]
      (repeat (with_reducible refine And.intro (by omega) ?_))
      refine callG_con (r1_Finite_con (at2 B p k)) rfl ?_
      rw [finite_sub]
      refine ev ?_
      cases hf : finite (at2 B p k)
      · refine ev ?_
        exact h2 _ (none_of (.inr hf)) rfl (by simp [get_cons])
      · have e3 : k < π.length := by omega
        have e4 : p < π.length := by omega
        have hBk : k < B.length := by omega
        simp -implicitDefEqProofs only [evI, hv, effC, reduceCtorEq, ↓reduceIte, n1_, n2_, n3_, n4_, n5_, i1_, i2_, i3_, i4_, i5_, i6_, i7_, hdo_getD _ _ _ _ _ hpn, hdo_getD _ _ _ _ _ h, getD_rowIV _ _ e3, getD_rowIV _ _ e4]
        (repeat (with_reducible refine And.intro (by omega) ?_))
        generalize hσ : swapL 0 π k p = σ
        have hσ' : (π.set k (π.getD p 0)).set p (π.getD k 0) = σ := hσ
        rw [hσ', wrapI (by omega) (by omega)]
        have hσl : σ.length = n := by rw [← hσ]; simp [swapL, hπ]
        have hCs := swapL_sq B n k p ⟨hBl, hBr⟩ h hpn
        have hstep : partP A n (k + 1) = some (elimI (swapL [] B k p) n k (n - 1 - k), σ) := by
          simp only [partP, hp, Option.bind_some, stepP, hpp, hσ]
          rw [if_neg]
          rintro (e | e)
          · exact absurd (hz.symm.trans e) (by simp)
          · exact absurd (hf.symm.trans e) (by simp)
        refine WA_le (r6_swap N hN 193 n k p B σ _ hBl h hpn (by simp [renS, V.ren, swF])) ?_
        generalize swapL [] B k p = C at hCs hstep
        refine r6part_L3 N n k C σ hn hCs h _ fun v w => ?_
        refine ev ?_
        rw [wrapI (by omega) (by omega)]
        exact ⟨c - 1, by omega, k + 1, _, σ, by omega, hstep, rfl⟩
  · replace h := of_decide_eq_false h
    obtain rfl : n = k := by omega
    refine ev ?_
    exact h1 B π _ _ hp ⟨hBl, hBr⟩ hπ
theorem le_cell2 {L L' : Heap} {a b : V} (ha : LeV L L' (fun X q => (X, q)) a a) (hb : LeV L L' (fun X q => (X, q)) b b) : ∀ v ∈ [a, b], LeV L L' (fun X q => (X, q)) v v := by
  intro v hv
  rcases List.mem_cons.1 hv with rfl | hv
  · exact ha
  · rcases List.mem_cons.1 hv with rfl | hv
    · exact hb
    · cases hv
theorem r6_cells (L : Heap) (ρs : List Int) (n i : Nat) (A : List (List Nat)) (c0 c4 : List V) (hA : A.length = n) (L' : Heap) (hL' : L' = [(9, [rowIV ρs]), (4, [c4]), (1, hdo 1 1 n n :: A.map rowV), (0, [c0])])
    (h4 : ∀ v ∈ c4, LeV L L' (fun X q => (X, q)) v v) (h0 : ∀ v ∈ c0, LeV L L' (fun X q => (X, q)) v v) :
    ∀ X q c, Heap.get L' X q = some c → ∀ v ∈ c, LeV L L' (fun X q => (X, q)) v v := by
  subst hL'
  intro X q c hX v hv'
  simp only [get_cons, get_nil] at hX
  split at hX
  · rcases q with _ | q <;> simp at hX; subst hX; exact mem_rowIV hv' _ _ _
  · split at hX
    · rcases q with _ | q <;> simp at hX; subst hX; exact h4 v hv'
    · split at hX
      · rcases q with _ | q
        · simp at hX; subst hX
          obtain ⟨j, hj, rfl⟩ := List.mem_map.1 hv'
          refine .sl ?_ rfl
          have : j < n := by simpa using hj
          simp [get_cons]; omega
        · simp only [List.getElem?_cons_succ, List.getElem?_map] at hX
          obtain ⟨xs, _, rfl⟩ := Option.map_eq_some_iff.1 hX
          exact mem_rowV hv' _ _ _
      · split at hX
        · rcases q with _ | q <;> simp at hX; subst hX; exact h0 v hv'
        · cases hX
def r6P (A : List (List Nat)) (n i : Nat) : Heap :=
  if i = 0 then [(4, [[.sl 1 0 0 n 1 n, .nil]]), (1, hdo 1 1 n n :: A.map rowV), (0, [[.nil, .nil]])]
  else [(9, [rowIV ((List.range i).map fun (j : Nat) => (j : Int))]), (4, [[.sl 1 0 0 n 1 n, .sl 9 0 0 i 1 i]]), (1, hdo 1 1 n n :: A.map rowV), (0, [[.nil, .nil]])]
set_option maxRecDepth 8000 in
theorem r6_Part_walk (A : List (List Nat)) (n : Nat) (hA : Sq n A) (h0 : 0 < n) (hn : n < 2 ^ 40) (Q : Ex → T → Prop)
    (h1 : ∀ B π, partP A n n = some (B, π) → Sq n B → π.length = n → Q .ret ⟨[(2, .ptr 0 0 0 2), (3, fB true)], [(9, [rowIV π]), (4, [[.sl 1 0 0 n 1 n, .sl 9 0 0 n 1 n]]), (1, hdo 1 1 n n :: B.map rowV), (0, [[.sl 1 0 0 n 1 n, .sl 9 0 0 n 1 n]])]⟩)
    (h2 : ∀ s : T, partP A n n = none → s.sl = [(2, .ptr 0 0 0 2), (3, fB false)] → s.L.get 0 0 = some [.nil, .nil] → Q .ret s) :
    xC Tryz.prog (fun _ => False) 193 A_r6_Part Q ⟨argSl 0 [.d (rowsD A)], []⟩ := by
  obtain ⟨hl, hr⟩ := hA
  refine evx @A_r6_Part.eq_1 ?_
  refine callG_ac (AC_frame (r6_copied_fresh A n ⟨hl, hr⟩ hn) rfl (.inl ⟨rfl, fun j hj => ?_⟩)) ?_
  · obtain rfl : j = 0 := by simpa using hj
    exact .d _
  rw [up_own]
  simp -implicitDefEqProofs only [evI, hv, effC, reduceCtorEq, ↓reduceIte, n1_, n2_, n3_, n4_, n5_, i1_, i2_, i3_, i4_, i5_, i6_, i7_, V.ren, hl]
  refine WA_forW (n := n) (fun c s => ∃ i, c + i = n ∧ s = ⟨[(2, .ptr 0 0 0 2), (4, .ptr 4 0 0 2), (5, fI n), (6, fI i)], r6P A n i⟩) (s0 := ⟨_, _⟩) (.refl _) ⟨0, rfl, rfl⟩ ?_
  rintro c s ⟨i, hc, rfl⟩
  by_cases hi0 : i = 0
  · subst hi0
    simp only [r6P, if_true]
    refine evx @A_r6_Part_L0.eq_1 ?_
    refine condC_intro (fun h => ?_) (fun h => ?_)
    · refine ev ?_
      rw [wrapI (by omega) (by omega)]
      refine ⟨c - 1, ⟨[(2, .ptr 0 0 0 2), (4, .ptr 4 0 0 2), (5, fI n), (6, fI (0 + 1 : Nat))], [(9, [rowIV [0]]), (4, [[.sl 1 0 0 n 1 n, .sl 9 0 0 1 1 1]]), (1, hdo 1 1 n n :: A.map rowV), (0, [[.nil, .nil]])]⟩, by omega, ?_, 1, by omega, rfl⟩
      refine LeT.drop (fun _ h => h) (fun p hp => ?_) (fun X r c hX => ⟨?_, r6_cells _ [0] n 1 A [.nil, .nil] [.sl 1 0 0 n 1 n, .sl 9 0 0 1 1 1] hl _ rfl (le_cell2 (.sl (by simp [get_cons]) rfl) (.sl (by simp [get_cons]) rfl)) (le_cell2 .nil .nil) X r c hX⟩)
      · simp only [List.mem_cons, List.not_mem_nil, or_false] at hp
        rcases hp with rfl | rfl | rfl | rfl
        all_goals first | exact .d (.d _) | exact .ptr (by simp [get_cons]) rfl
      · rw [get_cons] at hX
        rw [get_cons, get_cons]
        split at hX
        · rename_i e; subst e; exact hX
        · rename_i e1
          rw [if_neg e1, if_neg (fun e => by subst e; simp [get_cons, get_nil] at hX)]; exact hX
    · replace h := of_decide_eq_false h
      omega
  · simp only [r6P, if_neg hi0]
    refine evx @A_r6_Part_L0.eq_1 ?_
    refine condC_intro (fun h => ?_) (fun h => ?_)
    · replace h := of_decide_eq_true h
      refine ev ?_
      have hlr : (List.range i).length = i := by simp
      (repeat (with_reducible refine And.intro (by omega) ?_))
      rw [wrapI (by omega) (by omega)]
      refine ⟨c - 1, ⟨[(2, .ptr 0 0 0 2), (4, .ptr 4 0 0 2), (5, fI n), (6, fI (i + 1 : Nat))], [(9, [rowIV ((List.range (i + 1)).map fun (j : Nat) => (j : Int))]), (4, [[.sl 1 0 0 n 1 n, .sl 9 0 0 (i + 1) 1 (i + 1)]]), (1, hdo 1 1 n n :: A.map rowV), (0, [[.nil, .nil]])]⟩, by omega, ?_, i + 1, by omega, by rw [if_neg (by omega)]⟩
      have er : rowIV ((List.range (i + 1)).map fun (j : Nat) => (j : Int)) = rowIV ((List.range i).map fun (j : Nat) => (j : Int)) ++ [fI i] := by
        simp [List.range_succ]
      rw [er]
      refine LeT.drop (fun _ h => h) (fun p hp => ?_) (fun X r c hX => ⟨?_, ?_⟩)
      · simp only [List.mem_cons, List.not_mem_nil, or_false] at hp
        rcases hp with rfl | rfl | rfl | rfl
        all_goals first | exact .d (.d _) | exact .ptr (by simp [get_cons]) rfl
      · rw [get_cons]
        rw [if_neg (fun e => by subst e; simp [get_cons, get_nil] at hX)]; exact hX
      · rw [← er] at hX ⊢
        exact r6_cells _ _ n (i + 1) A [.nil, .nil] [.sl 1 0 0 n 1 n, .sl 9 0 0 (i + 1) 1 (i + 1)] hl _ rfl (le_cell2 (.sl (by simp [get_cons]) rfl) (.sl (by simp [get_cons]) rfl)) (le_cell2 .nil .nil) X r c hX
    · replace h := of_decide_eq_false h
      obtain rfl : n = i := by omega
      refine ev ?_
      refine r6part_L1 _ (fun _ h => h) n A ⟨hl, hr⟩ hn _ (fun B π v w hp hB hπ => ?_) (fun s hs e1 e2 => ?_)
      · refine evx @r6H.eq_1 ?_
        exact h1 B π hp hB hπ
      · refine ev ?_
        exact h2 s hs e1 e2
abbrev r6V (n : Nat) : V := .agg [.sl 1 0 0 n 1 n, .sl 9 0 0 n 1 n]
theorem r6_Part_none (A : List (List Nat)) (n : Nat) (hA : Sq n A) (h0 : 0 < n) (hn : n < 2 ^ 40) (h : partP A n n = none) :
    Con Tryz.prog 120 [.d (rowsD A)] (.tup [.agg [.d (rowsD []), .d (rowI [])], fB false]) := by
  refine AC_introA A_r6_Part_comp rfl mixed (fun _ => False) (by simp [get_nil]) (r6_Part_walk A n hA h0 hn _ (fun B' π' h' hB hπ => ?_) (fun s h' e1 e2 => ?_))
  · rw [h] at h'; cases h'
  · refine ⟨.tup [.agg [.nil, .nil], fB false], fun X r => (X, r), ⟨.agg [.nil, .nil], fB false, resV_cell (by decide) (by rw [e1]; rfl) e2 rfl (by simp) (by simp [ldv]), resV_tmpI (t := 3) (by decide) (by rw [e1]; rfl), rfl⟩, .fin (.tup rfl fun j hj => ?_)⟩
    rcases j with _ | _ | j
    · refine .agg rfl fun j hj => ?_
      rcases j with _ | _ | j
      · exact .d (.nil _)
      · exact .d (.nil _)
      · simp at hj; omega
    · exact .d (.d _)
    · simp at hj; omega
theorem r6_Part_data (A : List (List Nat)) (n : Nat) (hA : Sq n A) (h0 : 0 < n) (hn : n < 2 ^ 40) (B : List (List Nat)) (π : List Int) (h : partP A n n = some (B, π)) :
    Con Tryz.prog 120 [.d (rowsD A)] (.tup [.agg [.d (rowsD B), .d (rowI π)], fB true]) := by
  refine AC_introA A_r6_Part_comp rfl mixed (fun _ => False) (by simp [get_nil]) (r6_Part_walk A n hA h0 hn _ (fun B' π' h' hB hπ => ?_) (fun s h' e1 e2 => ?_))
  · obtain ⟨rfl, rfl⟩ : B = B' ∧ π = π' := by rw [h] at h'; simpa using h'
    refine ⟨.tup [r6V n, fB true], fun X r => (X, r), ⟨r6V n, fB true, resV_cell (by decide) rfl (cells := [.sl 1 0 0 n 1 n, .sl 9 0 0 n 1 n]) (by simp [get_cons]) rfl (by simp) (by simp [ldv]), resV_tmpI (t := 3) (by decide) rfl, rfl⟩, .fin (.tup rfl fun j hj => ?_)⟩
    rcases j with _ | _ | j
    · refine .agg rfl fun j hj => ?_
      rcases j with _ | _ | j
      · refine .d (snapF_rows (X := 1) (o := 1) (fun Y q h => by simp [get_nil] at h) (fun r hr Y q h => by simp [get_nil] at h) (by simp [get_cons]) (fun r hr' => ⟨?_, hB.2 r hr'⟩) hB.1 rfl)
        have := hB.1
        simp [get_cons, getE B r (by omega)]
      · exact .d (snap_rowI (fun Y q h => by simp [get_nil] at h) (by simp [get_cons]) hπ rfl)
      · simp at hj; omega
    · exact .d (.d _)
    · simp at hj; omega
  · rw [h] at h'; cases h'
def A_r9_newton_L1 : CA := (.seq (.seq (.reg [i_M 0 30 13, i_M 1 31 10, i_X 2 32 (.h (.len (.t 31))), i_N 3 33 .lss 30 32] [8, 10, 11, 12, 13, 33]) (.cond (.t 33) .skip (.exit 2))) (.seq (.block 3 (.seq (.reg [i_X 0 14 (.h (.mov (.k (.d (.flt 0)))))] [8, 10, 11, 12, 13, 14]) (.seq (.seq (.reg [i_M 0 36 12, i_M 1 37 13, i_N 2 38 .eql 36 37] [8, 10, 11, 12, 13, 14, 38]) (.cond (.t 38) (.reg [i_X 0 14 (.h (.mov (.k (.d (.flt 4607182418800017408)))))] [8, 10, 11, 12, 13, 14]) .skip)) (.seq (.reg [i_M 0 39 11, i_M 1 40 10, i_M 2 41 12, i_I 3 42 40 41 1, i_L 4 43 42 1, i_M 5 44 13, i_I 6 45 43 44 1, i_L 7 46 45 1, i_F 8 47 .mul 39 46, i_M 9 15 47] [8, 10, 11, 12, 13, 14, 15]) (.reg [i_M 0 48 10, i_M 1 49 12, i_I 2 50 48 49 1, i_L 3 51 50 1, i_M 4 52 13, i_M 5 53 14, i_M 6 54 15, i_F 7 55 .sub 53 54, i_I 8 56 51 52 1, i_S 9 56 55 1] [8, 10, 11, 12, 13]))))) (.reg [i_M 0 34 13, i_B 1 35 .add 34 1, i_M 2 13 35] [8, 10, 11, 12, 13])))
def A_r9_newton_L0 : CA := (.seq (.seq (.reg [i_M 0 24 12, i_M 1 25 10, i_X 2 26 (.h (.len (.t 25))), i_N 3 27 .lss 24 26] [8, 10, 11, 12, 27]) (.cond (.t 27) .skip (.exit 0))) (.seq (.block 1 (.seq (.reg [i_K 0 13 0] [8, 10, 11, 12, 13]) (.block 2 (.loop A_r9_newton_L1)))) (.reg [i_M 0 28 12, i_B 1 29 .add 28 1, i_M 2 12 29] [8, 10, 11, 12])))
def A_r9_newton : CA := (.seq (.reg [i_X 0 4 (.box (.t 0) 3 28), i_X 1 8 (.alloc [.nil, .nil] 114), i_X 2 9 (.h (.mov (.k (.d (.bool false)))))] [1, 2, 3, 4, 8]) (.seq (.reg [i_A 0 16 4 3, i_M 1 17 1, i_X 2 18 (.h (.idx (.t 17) (kI 0) 1)), i_L 3 19 18 1, i_X 4 20 (.callA (kF 119) [(.t 16), (.t 19)]), i_M 5 10 20] [2, 3, 8, 10]) (.seq (.reg [i_M 0 21 3, i_M 1 22 2, i_F 2 23 .mul 21 22, i_M 3 11 23] [8, 10, 11]) (.seq (.seq (.reg [i_K 0 12 0] [8, 10, 11, 12]) (.block 0 (.loop A_r9_newton_L0))) (.seq (.reg [i_M 0 57 10, i_X 1 58 (.callA (kF 120) [(.t 57)]), i_X 2 59 (.h (.ext (.t 58) 0)), i_X 3 60 (.h (.ext (.t 58) 1)), i_S 4 8 59 2, i_M 5 9 60] [8, 9]) .ret)))))
theorem A_r9_newton_comp : compF Tryz.prog 64 = some ⟨61, [(8, (some (2, true))), (9, none)], A_r9_newton.strip⟩ := by kernel_rfl
theorem nw_up2 (A : List (List Nat)) (n i j v r c : Nat) (hA : Sq n A) (hi : i < n) (hj : j < n) : ((up2 A i j v).getD r []).getD c 0 = if r = i ∧ c = j then v else (A.getD r []).getD c 0 := by
  have h1 := hA.1
  have h2 := hA.2 i hi
  simp only [up2, List.getD_eq_getElem?_getD, List.getElem?_set]
  rw [List.getD_eq_getElem?_getD] at h2
  by_cases e : i = r
  · subst e
    simp only [h1, hi, ↓reduceIte, Option.getD_some, true_and]
    rw [List.getElem?_set]
    by_cases e2 : j = c
    · subst e2
      simp [h2, hj]
    · rw [if_neg e2, if_neg (fun h => e2 h.symm)]
  · rw [if_neg e, if_neg (fun h => e h.1.symm)]
def Nw (t : Tp) (z : List (List Nat)) (l : List Nat) (h i k : Nat) (Z : List (List Nat)) : Prop :=
  Sq t.n Z ∧ ∀ r c, r < t.n → c < t.n → (Z.getD r []).getD c 0 = if r < i ∨ (r = i ∧ c < k) then matE t z l h r c else ((jacT t (z.getD 0 [])).getD r []).getD c 0
theorem jacT_sq (t : Tp) (x : List Nat) (ht : Tok t) : Sq t.n (jacT t x) := ⟨by simp [jacT], fun i hi => jacT_row t x ht i hi⟩
theorem Nw_zero (t : Tp) (z : List (List Nat)) (l : List Nat) (h : Nat) (ht : Tok t) : Nw t z l h 0 0 (jacT t (z.getD 0 [])) := ⟨jacT_sq t _ ht, fun r c _ _ => by rw [if_neg (by omega)]⟩
theorem Nw_row {t : Tp} {z : List (List Nat)} {l : List Nat} {h i : Nat} {Z : List (List Nat)} (hN : Nw t z l h i t.n Z) : Nw t z l h (i + 1) 0 Z := by
  refine ⟨hN.1, fun r c hr hc => ?_⟩
  rw [hN.2 r c hr hc]
  by_cases e : r < i ∨ (r = i ∧ c < t.n)
  · rw [if_pos e, if_pos (by omega)]
  · rw [if_neg e, if_neg (by omega)]
theorem Nw_up {t : Tp} {z : List (List Nat)} {l : List Nat} {h i k : Nat} {Z : List (List Nat)} (hN : Nw t z l h i k Z) (hi : i < t.n) (hk : k < t.n) : Nw t z l h i (k + 1) (up2 Z i k (matE t z l h i k)) := by
  refine ⟨up2_sq _ _ _ _ _ hN.1, fun r c hr hc => ?_⟩
  rw [nw_up2 _ _ _ _ _ _ _ hN.1 hi hk]
  by_cases e : r = i ∧ c = k
  · rw [if_pos e, if_pos (by omega), e.1, e.2]
  · rw [if_neg e, hN.2 r c hr hc]
    by_cases e2 : r < i ∨ (r = i ∧ c < k)
    · rw [if_pos e2, if_pos (by omega)]
    · rw [if_neg e2, if_neg (by omega)]
theorem Nw_all {t : Tp} {z : List (List Nat)} {l : List Nat} {h : Nat} {Z : List (List Nat)} (hN : Nw t z l h t.n 0 Z) : Z = matT t z l h := by
  have hM := matT_sq t z l h
  refine List.ext_getElem (hN.1.1.trans hM.1.symm) fun r h1 h2 => ?_
  have hr : r < t.n := by have := hN.1.1; omega
  have e1 := hN.1.2 r hr
  have e2 := hM.2 r hr
  have g1 : Z.getD r [] = Z[r] := by simp [List.getD_eq_getElem?_getD, h1]
  have g2 : (matT t z l h).getD r [] = (matT t z l h)[r] := by simp [List.getD_eq_getElem?_getD, h2]
  rw [g1] at e1
  rw [g2] at e2
  refine List.ext_getElem (e1.trans e2.symm) fun c h3 h4 => ?_
  have hc : c < t.n := by omega
  have k1 := hN.2 r c hr hc
  rw [if_pos (by omega), g1] at k1
  have k2 : ((matT t z l h).getD r []).getD c 0 = matE t z l h r c := by rw [matT_row _ _ _ _ _ hr, tabR_getD _ _ _ hc]
  rw [g2] at k2
  rw [← k2] at k1
  simpa [List.getD_eq_getElem?_getD, h3, h4] using k1
set_option maxRecDepth 8000 in
theorem r9_newton_gen (t : Tp) (z : List (List Nat)) (l : List Nat) (h : Nat) (ht : Tok t) (hn0 : 0 < t.n) (hz : 2 ≤ z.length) (hz0 : (z.getD 0 []).length = t.n) (A C : D) (b : Bool) (hr : Con Tryz.prog 120 [.d (rowsD (matT t z l h))] (.tup [.agg [.d A, .d C], fB b])) : Con Tryz.prog 64 [tapeV t, .d (rowsD z), fl (l.getD 0 0), fl h] (.tup [.agg [.d A, .d C], fB b]) := by
  have hn := ht.n
  refine Con_introA A_r9_newton_comp rfl mixed ?_
  refine evx @A_r9_newton.eq_1 ?_
  (repeat (with_reducible refine And.intro (by omega) ?_))
  refine callG_rows 100 [tapeV t, .d (rowD (z.getD 0 []))] (by simp [Heap.next]) (r4_Jac_ac t (z.getD 0 []) ht hz0) ⟨.aggs ⟨.bare _, .bare _, .bare _, trivial⟩, .bare _, trivial⟩ ?_
  refine ev ?_
  generalize hw : fop .mul h (l.getD 0 0) = w
  refine WA_forW (n := t.n) (fun c s => ∃ i Z, c + i = t.n ∧ Nw t z l h i 0 Z ∧ ((i < t.n ∧ s = ⟨[(8, .ptr 1 0 0 2), (10, .sl 120 0 0 t.n 1 t.n), (11, fl w), (12, fI i)], [(121, Z.map rowV), (120, [hdo 121 0 t.n t.n]), (1, [[.nil, .nil]]), (0, [jtT t])]⟩) ∨
    (i = t.n ∧ s = ⟨[(8, .ptr 1 0 0 2), (10, .d (rowsD Z)), (11, fl w), (12, fI i)], [(1, [[.nil, .nil]])]⟩))) (Le.refl _) ⟨0, _, by omega, Nw_zero t z l h ht, .inl ⟨hn0, rfl⟩⟩ ?_
  rintro c s ⟨i, Z, hc, hZ, ⟨hi, rfl⟩ | ⟨rfl, rfl⟩⟩
  · have hid : decide (i < t.n) = true := by simpa using hi
    refine evx (And.intro @A_r9_newton_L0.eq_1 hid) ?_
    refine WA_for (n := t.n) (fun c s => ∃ k Z, c + k = t.n ∧ Nw t z l h i k Z ∧ s = ⟨[(8, .ptr 1 0 0 2), (10, .sl 120 0 0 t.n 1 t.n), (11, fl w), (12, fI i), (13, fI k)], [(121, Z.map rowV), (120, [hdo 121 0 t.n t.n]), (1, [[.nil, .nil]]), (0, [jtT t])]⟩) ⟨0, Z, by omega, hZ, rfl⟩ ?_
    rintro c' s ⟨k, Z', hc', hZ', rfl⟩
    have hzl' := hZ'.1.1
    have hzj := hZ'.1.2 i hi
    refine evx (And.intro @A_r9_newton_L1.eq_1 (hdo_getD 121 0 t.n t.n i hi)) ?_
    have up : ∀ v, v = matE t z l h i k → k < t.n → Nw t z l h i (k + 1) (up2 Z' i k v) := fun v e hk => by rw [e]; exact Nw_up hZ' hi hk
    have hme : matE t z l h i k = fop .sub (if i = k then oneW else 0) (fop .mul w (((jacT t (z.getD 0 [])).getD i []).getD k 0)) := by rw [← hw]; rfl
    refine condC_intro (fun hk => ?_) (fun hk => ?_)
    · replace hk := of_decide_eq_true hk
      have hjk := hZ'.2 i k hi hk
      rw [if_neg (by omega)] at hjk
      have gk := getD_map_fl (Z'.getD i []) k (by omega)
      by_cases e : i = k
      · subst e
        rw [if_pos rfl] at hme
        simp -implicitDefEqProofs only [evI, hv, effC, reduceCtorEq, ↓reduceIte, n1_, n2_, n3_, n4_, n5_, i1_, i2_, i3_, i4_, i5_, i6_, i7_, hdo_getD 121 0 t.n t.n i hi, getE Z' i (by omega), gk, setE, beq_self_eq_true]
        (repeat (with_reducible refine And.intro (by omega) ?_))
        rw [hjk, wrapI (by omega) (by omega)]
        exact ⟨c' - 1, by omega, i + 1, _, by omega, up _ hme.symm hk, rfl⟩
      · have e' : ((i : Int) == (k : Int)) = false := by simp; omega
        rw [if_neg e] at hme
        simp -implicitDefEqProofs only [evI, hv, effC, reduceCtorEq, ↓reduceIte, n1_, n2_, n3_, n4_, n5_, i1_, i2_, i3_, i4_, i5_, i6_, i7_, hdo_getD 121 0 t.n t.n i hi, getE Z' i (by omega), gk, setE, e']
        (repeat (with_reducible refine And.intro (by omega) ?_))
        rw [hjk, wrapI (by omega) (by omega)]
        exact ⟨c' - 1, by omega, k + 1, _, by omega, up _ hme.symm hk, rfl⟩
    · replace hk := of_decide_eq_false hk
      have e : k = t.n := by omega
      subst e
      have hZ3 := Nw_row hZ'
      refine ev ?_
      rw [wrapI (by omega) (by omega)]
      by_cases hl : i + 1 = t.n
      · refine ⟨c - 1, _, by omega, ?_, i + 1, Z', by omega, hZ3, .inr ⟨hl, rfl⟩⟩
        have hz : ∀ L L' : Heap, L.get 120 0 = some (hdo 121 0 t.n t.n) → L.fam 121 = some (Z'.map rowV) → L'.fam 120 = none → L'.fam 121 = none → Fz L L' (.sl 120 0 0 t.n 1 t.n) (.d (.bor Z'.length (rowsG Z'))) := fun L L' a b c d =>
          Fz_rows (X := 121) (o := 0) (len := t.n) a (fun r hr => ⟨by
            unfold Heap.get
            rw [b, Nat.add_zero]
            have : r < Z'.length := by omega
            simp [List.getD_eq_getElem?_getD, this], hZ'.1.2 r hr⟩) hzl' rfl c d
        exact LeT.weak (fun _ h => h) (by simp (maxDischargeDepth := 6) [fzS, hz]) (by simp (maxDischargeDepth := 6) [fzS])
      · exact ⟨c - 1, _, by omega, Le.refl _, i + 1, Z', by omega, hZ3, .inl ⟨by omega, rfl⟩⟩
  · have hid : decide (t.n < Z.length) = false := by rw [hZ.1.1]; simp
    rw [← Nw_all hZ] at hr
    refine evx (And.intro @A_r9_newton_L0.eq_1 hid) ?_
    refine callG_con (hr) rfl ?_
    refine ev ?_
    exact endsT_only (fun _ => false) (fun _ h => h) ⟨.agg [.d A, .d C], fB b, resV_cell (by decide) rfl rfl rfl (by simp) rfl, resV_tmpI (t := 9) (by decide) rfl, rfl⟩ rfl (by simp [kpS]) (by simp [kpS])
theorem r9_newton_some (t : Tp) (z : List (List Nat)) (l : List Nat) (h : Nat) (ht : Tok t) (hn0 : 0 < t.n) (hz : 2 ≤ z.length) (hz0 : (z.getD 0 []).length = t.n) (B : List (List Nat)) (π : List Int) (hp : partP (matT t z l h) t.n t.n = some (B, π)) :
    Con Tryz.prog 64 [tapeV t, .d (rowsD z), fl (l.getD 0 0), fl h] (.tup [.agg [.d (rowsD B), .d (rowI π)], fB true]) :=
  r9_newton_gen t z l h ht hn0 hz hz0 _ _ _ (r6_Part_data _ t.n (matT_sq t z l h) hn0 (by have := ht.n; omega) B π hp)
theorem r9_newton_none (t : Tp) (z : List (List Nat)) (l : List Nat) (h : Nat) (ht : Tok t) (hn0 : 0 < t.n) (hz : 2 ≤ z.length) (hz0 : (z.getD 0 []).length = t.n) (hp : partP (matT t z l h) t.n t.n = none) :
    Con Tryz.prog 64 [tapeV t, .d (rowsD z), fl (l.getD 0 0), fl h] (.tup [.agg [.d (rowsD []), .d (rowI [])], fB false]) :=
  r9_newton_gen t z l h ht hn0 hz hz0 _ _ _ (r6_Part_none _ t.n (matT_sq t z l h) hn0 (by have := ht.n; omega) hp)
end Go.Ab
namespace Go.Ab
set_option linter.unusedSimpArgs false
set_option linter.unusedVariables false
open Go Go.Proofs
def A_r9_Solve_L1 : CA := (.seq (.seq (.reg [i_M 0 73 22, i_M 1 74 14, i_X 2 75 (.h (.len (.t 74))), i_N 3 76 .lss 73 75] [1, 2, 4, 5, 6, 12, 13, 14, 15, 18, 20, 22, 76]) (.cond (.t 76) .skip (.exit 2))) (.seq (.block 3 (.seq (.reg [i_M 0 79 14, i_M 1 80 22, i_I 2 81 79 80 1, i_L 3 82 81 1, i_X 4 83 (.callA (kF 20) [(.t 82)]), i_X 5 84 (.h (.un .not (.t 83)))] [1, 2, 4, 5, 6, 12, 13, 14, 15, 18, 20, 22, 84]) (.cond (.t 84) (.seq (.reg [i_M 0 85 18, i_X 1 86 (.h (.build [.nil, (.d (.int .i64 0)), (.d (.int .i64 0))] [(1, (1, (.t 85))), (2, (1, (kI 2)))])), i_S 2 12 86 3] [12]) .ret) .skip))) (.reg [i_M 0 77 22, i_B 1 78 .add 77 1, i_M 2 22 78] [1, 2, 4, 5, 6, 12, 13, 14, 15, 18, 20, 22])))
def A_r9_Solve_L0 : CA := (.seq (.block 1 (.seq (.reg [i_A 0 46 6 3, i_M 1 47 1, i_M 2 48 2, i_X 3 49 (.h (.idx (.t 48) (kI 0) 1)), i_L 4 50 49 1, i_M 5 51 13, i_M 6 52 14, i_X 7 53 (.callA (kF 65) [(.t 46), (.t 47), (.t 50), (.t 51), (.t 52)]), i_M 8 19 53] [1, 2, 4, 5, 6, 12, 13, 14, 15, 18, 19]) (.seq (.reg [i_X 0 20 (.h (.mov (.k (.d (.flt 0)))))] [1, 2, 4, 5, 6, 12, 13, 14, 15, 18, 19]) (.seq (.seq (.reg [i_M 0 54 4, i_B 1 55 .eql 54 1] [1, 2, 4, 5, 6, 12, 13, 14, 15, 18, 19, 55]) (.cond (.t 55) (.seq (.reg [i_A 0 56 15 2, i_M 1 57 19, i_M 2 58 14, i_X 3 59 (.callS 3 (kF 67) [(.t 57), (.t 58)]), i_X 4 60 (.callA (kF 66) [(.t 56), (.t 59)]), i_M 5 21 60] [1, 2, 4, 5, 6, 12, 13, 14, 15, 18, 21]) (.seq (.reg [i_M 0 61 14, i_M 1 62 21, i_X 2 63 (.callA (kF 68) [(.t 61), (.t 62)]), i_M 3 14 63] [1, 2, 4, 5, 6, 12, 13, 14, 15, 18, 21]) (.reg [i_M 0 64 21, i_M 1 65 5, i_X 2 66 (.callA (kF 32) [(.t 64), (.t 65)]), i_M 3 20 66] [1, 2, 4, 5, 6, 12, 13, 14, 15, 18, 20]))) (.seq (.reg [i_M 0 67 19, i_M 1 68 14, i_X 2 69 (.callA (kF 67) [(.t 67), (.t 68)]), i_M 3 70 5, i_X 4 71 (.callA (kF 32) [(.t 69), (.t 70)]), i_M 5 20 71] [1, 2, 4, 5, 6, 12, 13, 15, 18, 19, 20]) (.reg [i_M 0 72 19, i_M 1 14 72] [1, 2, 4, 5, 6, 12, 13, 14, 15, 18, 20])))) (.seq (.seq (.reg [i_K 0 22 0] [1, 2, 4, 5, 6, 12, 13, 14, 15, 18, 20, 22]) (.block 2 (.loop A_r9_Solve_L1))) (.seq (.seq (.reg [i_M 0 87 20, i_X 1 88 (.h (.fcmp .le (.t 87) (.k (.d (.flt 4562146422526312448)))))] [1, 2, 4, 5, 6, 12, 13, 14, 15, 18, 88]) (.cond (.t 88) (.seq (.reg [i_M 0 89 14, i_M 1 90 18, i_X 2 91 (.h (.build [.nil, (.d (.int .i64 0)), (.d (.int .i64 0))] [(0, (1, (.t 89))), (1, (1, (.t 90)))])), i_S 3 12 91 3] [12]) .ret) .skip)) (.seq (.reg [i_M 0 92 18, i_B 1 93 .eql 92 4] [1, 2, 4, 5, 6, 12, 13, 14, 15, 18, 93]) (.cond (.t 93) (.seq (.reg [i_M 0 94 18, i_X 1 95 (.h (.build [.nil, (.d (.int .i64 0)), (.d (.int .i64 0))] [(1, (1, (.t 94))), (2, (1, (kI 6)))])), i_S 2 12 95 3] [12]) .ret) .skip)))))))) (.reg [i_M 0 44 18, i_B 1 45 .add 44 1, i_M 2 18 45] [1, 2, 4, 5, 6, 12, 13, 14, 15, 18]))
def A_r9_Solve : CA := (.seq (.reg [i_X 0 6 (.box (.t 0) 3 28), i_X 1 12 (.alloc [.nil, (.d (.int .i64 0)), (.d (.int .i64 0))] 74)] [1, 2, 3, 4, 5, 6, 12]) (.seq (.reg [i_M 0 23 3, i_X 1 24 (.callA (kF 49) [(.t 23)]), i_M 2 13 24] [1, 2, 4, 5, 6, 12, 13]) (.seq (.reg [i_P 0 25 6 0, i_L 1 26 25 1, i_X 2 27 (.mksl [(.d (.flt 0))] 1 8 (.t 26) (.t 26) 31), i_M 3 14 27] [1, 2, 4, 5, 6, 12, 13, 14]) (.seq (.reg [i_X 0 15 (.alloc [.nil, .nil] 114)] [1, 2, 4, 5, 6, 12, 13, 14, 15]) (.seq (.seq (.reg [i_M 0 28 4, i_B 1 29 .eql 28 1] [1, 2, 4, 5, 6, 12, 13, 14, 15, 29]) (.cond (.t 29) (.seq (.reg [i_A 0 31 6 3, i_M 1 32 1, i_M 2 33 2, i_X 3 34 (.h (.idx (.t 33) (kI 0) 1)), i_L 4 35 34 1, i_M 5 36 13, i_X 6 37 (.callS 0 (kF 64) [(.t 31), (.t 32), (.t 35), (.t 36)]), i_M 7 30 37, i_X 8 38 (.h (.ext (.t 30) 0)), i_X 9 39 (.h (.ext (.t 30) 1)), i_X 10 16 (.alloc [.nil, .nil] 114), i_S 11 16 38 2, i_M 12 17 39] [1, 2, 4, 5, 6, 12, 13, 14, 15, 16, 17]) (.seq (.seq (.reg [i_M 0 40 17, i_X 1 41 (.h (.un .not (.t 40)))] [1, 2, 4, 5, 6, 12, 13, 14, 15, 16, 41]) (.cond (.t 41) (.seq (.reg [i_X 0 42 (.h (.build [.nil, (.d (.int .i64 0)), (.d (.int .i64 0))] [(2, (1, (kI 4)))])), i_S 1 12 42 3] [12]) .ret) .skip)) (.reg [i_A 0 43 16 2, i_S 1 15 43 2] [1, 2, 4, 5, 6, 12, 13, 14, 15]))) .skip)) (.seq (.reg [i_K 0 18 1] [1, 2, 4, 5, 6, 12, 13, 14, 15, 18]) (.block 0 (.loop A_r9_Solve_L0))))))))
theorem A_r9_Solve_comp : compF Tryz.prog 30 = some ⟨96, [(12, (some (3, true)))], A_r9_Solve.strip⟩ := by kernel_rfl
abbrev s9 (z : List (List Nat)) (l w : List Nat) (m : Int) (h X n k : Nat) : Sl := [(1, .d (rowsD z)), (2, .d (rowD l)), (4, fI m), (5, .d (rowD w)), (6, .ptr 0 0 0 3), (12, .ptr 1 0 0 3), (13, fl h), (14, .sl X 0 0 n 1 n), (15, .ptr 5 0 0 2), (18, fI k)]
theorem r9_next (t : Tp) (z : List (List Nat)) (l : List Nat) (h : Nat) (w d g j : List Nat) (m : Int) (k : Nat) : Le (fun _ => False) (T.s 96 ⟨s9 z l w m h 100 t.n k,
    [(110, [rowV j]), (100, [rowV g]), (5, [[.nil, .nil]]), (4, [rowV d]), (1, [[.nil, fI 0, fI 0]]), (0, [[fI t.n, .d (opsD t.ops), .d (rowI t.out)]])]⟩) (T.s 96 ⟨s9 z l w m h 4 t.n k,
    [(5, [[.nil, .nil]]), (4, [rowV g]), (1, [[.nil, fI 0, fI 0]]), (0, [[fI t.n, .d (opsD t.ops), .d (rowI t.out)]])]⟩) := by
  refine Le.trans (LeT.only (L' := [(100, [rowV g]), (5, [[.nil, .nil]]), (1, [[.nil, fI 0, fI 0]]), (0, [[fI t.n, .d (opsD t.ops), .d (rowI t.out)]])]) (fun X => X != 4 && X != 110) (fun _ h => h) rfl (by simp [kpS]) (by simp [kpS])) ?_
  refine Le.trans (LeT.move 4 (by decide) (by simp [fam_cons, fam_nil]) (by simp [fam_cons, fam_nil]) (fun h => h)) ?_
  have e : renS (absF 100 4 0) (s9 z l w m h 100 t.n k) = s9 z l w m h 4 t.n k := by
    simp [s9, renS, V.ren, V.renL, absF]
  have e2 : Heap.renH (absF 100 4 0) [(5, [[.nil, .nil]]), (1, [[.nil, fI 0, fI 0]]), (0, [[fI t.n, .d (opsD t.ops), .d (rowI t.out)]])] = [(5, [[.nil, .nil]]), (1, [[.nil, fI 0, fI 0]]), (0, [[fI t.n, .d (opsD t.ops), .d (rowI t.out)]])] := by
    simp [Heap.renH, V.ren, absF]
  rw [e, e2, ren_rowV]
  exact LeT.perm (fun _ h => h) (fun X => .inr (by simp only [fam_cons, fam_nil]; grind)) (by simp [kpS]) (by simp [kpS])
set_option maxRecDepth 8000 in
theorem r9_sol_gen (L' : Heap) (r : V) (t : Tp) (z : List (List Nat)) (l : List Nat) (w : List Nat) (step m : Int) (hm : m ≠ 1) (h : Nat) (hh : fop .div (FloatKind.nearest .f64 step) 4742290407621132288 = h)
    (h1 : ∀ k g, g.length = t.n → solA t z l h w = (g, k, 0) → r = .agg [.sl 100 0 0 t.n 1 t.n, fI k, fI 0] ∧ L' = [(100, [rowV g])])
    (h2 : ∀ k e, solA t z l h w = ([], k, e) → e ≠ 0 → r = .agg [.nil, fI k, fI e] ∧ L' = []) (ok : Sok t z l w (List.replicate t.n 0)) :
    AC Tryz.prog 30 [tapeV t, .d (rowsD z), .d (rowD l), fI step, fI m, .d (rowD w)] [] L' r := by
  obtain ⟨ht, hz, hzl, hl, hw, hd⟩ := ok
  have hn := ht.n
  have hm1 : (m == 1) = false := by simpa using hm
  refine AC_introA A_r9_Solve_comp rfl mixed (fun _ => False) (by simp [get_nil]) ?_
  refine evx @A_r9_Solve.eq_1 ?_
  refine callG_con (r8_H_con step) rfl ?_
  refine evx hm1 ?_
  (repeat (with_reducible refine And.intro (by omega) ?_))
  rw [hh]
  refine WA_forW (n := 4) (fun c s => ∃ (k : Nat) (d : List Nat), c + k = 5 ∧ (1 ≤ k ∧ k ≤ 4) ∧ d.length = t.n ∧ seek (tryA t z l h w) c k d = solA t z l h w ∧ s = ⟨[(1, .d (rowsD z)), (2, .d (rowD l)), (4, fI m), (5, .d (rowD w)), (6, .ptr 0 0 0 3), (12, .ptr 1 0 0 3), (13, fl h), (14, .sl 4 0 0 t.n 1 t.n), (15, .ptr 5 0 0 2), (18, fI k)],
    [(5, [[.nil, .nil]]), (4, [rowV d]), (1, [[.nil, fI 0, fI 0]]), (0, [[fI t.n, .d (opsD t.ops), .d (rowI t.out)]])]⟩) (Le.refl _) ⟨1, _, by omega, by omega, hd, rfl, rfl⟩ ?_
  rintro c s ⟨k, d, hc, hk, hdl, he, rfl⟩
  obtain ⟨f, rfl⟩ : ∃ f, c = f + 1 := ⟨c - 1, by omega⟩
  rw [seekA_succ] at he
  refine evx (And.intro @A_r9_Solve_L0.eq_1 hm1) ?_
  (repeat (with_reducible refine And.intro (by omega) ?_))
  have okd : Sok t z l w d := ⟨ht, hz, hzl, hl, hw, hdl⟩
  have hgl : (gS t z l h d).length = t.n := tabR_len _ _
  refine callG_row 100 [tapeV t, .d (rowsD z), fl (l.getD 0 0), fl h, .d (rowD d)] (by simp [Heap.next]) (r9_left_ac t z l h w d okd) ⟨.aggs ⟨.bare _, .bare _, .bare _, trivial⟩, .bare _, .bare _, .bare _, snp_row rfl hdl rfl, trivial⟩ ?_
  refine evx hm1 ?_
  refine callG_row 110 [.d (rowD (gS t z l h d)), .d (rowD d)] (by simp [Heap.next]) (r9_minus_ac _ _ t.n hgl hdl (by omega)) ⟨snp_row rfl hgl rfl, snp_row rfl hdl rfl, trivial⟩ ?_
  refine ev ?_
  refine callG_snaps [.d (rowD (tabR (fun i => fop .sub ((gS t z l h d).getD i 0) (d.getD i 0)) t.n)), .d (rowD w)] (r9_Size_con _ w (by rw [tabR_len]; exact hw) (by rw [tabR_len]; omega)) ⟨snp_row rfl (tabR_len _ _) rfl, .bare _, trivial⟩ (.flt _) ?_
  refine ev ?_
  rw [show szP (tabR (fun i => fop .sub ((gS t z l h d).getD i 0) (d.getD i 0)) t.n) w = goneA t z l h w d from rfl]
  refine WA_for (n := t.n) (fun c' s => ∃ i, c' + i = t.n ∧ (∀ j, j < i → finite ((gS t z l h d).getD j 0) = true) ∧ s = ⟨[(1, .d (rowsD z)), (2, .d (rowD l)), (4, fI m), (5, .d (rowD w)), (6, .ptr 0 0 0 3), (12, .ptr 1 0 0 3), (13, fl h), (14, .sl 100 0 0 t.n 1 t.n), (15, .ptr 5 0 0 2), (18, fI k), (20, fl (goneA t z l h w d)), (22, fI i)], [(110, [rowV (tabR (fun i => fop .sub ((gS t z l h d).getD i 0) (d.getD i 0)) t.n)]), (100, [rowV (gS t z l h d)]), (5, [[.nil, .nil]]), (4, [rowV d]), (1, [[.nil, fI 0, fI 0]]), (0, [[fI t.n, .d (opsD t.ops), .d (rowI t.out)]])]⟩) ⟨0, by omega, fun j hj => by omega, rfl⟩ ?_
  rintro c' s ⟨i, hc', hf, rfl⟩
  refine evx @A_r9_Solve_L1.eq_1 ?_
  refine condC_intro (fun hi => ?_) (fun hi => ?_)
  · replace hi := of_decide_eq_true hi
    have ga : (rowV (gS t z l h d)).getD i .any = fl ((gS t z l h d).getD i 0) := getD_map_fl _ _ (by omega)
    refine evx ga ?_
    (repeat (with_reducible refine And.intro (by omega) ?_))
    refine callG_con (r1_Finite_con ((gS t z l h d).getD i 0)) rfl ?_
    refine evx @finite_sub ?_
    cases hfi : finite ((gS t z l h d).getD i 0)
    · have hna := fin_not i (by omega) hfi
      rw [if_pos hna] at he
      refine evx @Bool.not_false ?_
      obtain ⟨rfl, rfl⟩ := h2 k 2 he.symm (by decide)
      exact endsT_only (fun _ => false) (fun _ h => h) (resV_cellI (by decide) rfl rfl rfl (by simp) rfl) rfl (by simp [kpS]) (by simp [kpS])
    · refine evx @Bool.not_true ?_
      rw [wrapI (by omega) (by omega)]
      exact ⟨c' - 1, by omega, i + 1, by omega, fun j hj => by rcases Nat.lt_succ_iff_lt_or_eq.1 hj with h1 | rfl; exact hf j h1; exact hfi, rfl⟩
  · replace hi := of_decide_eq_false hi
    have hfa := fin_of (d := gS t z l h d) fun j hj => hf j (by omega)
    rw [if_neg (by rw [hfa]; decide)] at he
    refine ev ?_
    cases hle : fcmp .le (goneA t z l h w d) 4562146422526312448
    · rw [if_neg (by rw [hle]; decide)] at he
      refine ev ?_
      by_cases h4 : 4 ≤ k
      · rw [if_pos h4] at he
        have hk4 : k = 4 := by omega
        subst hk4
        refine ev ?_
        obtain ⟨rfl, rfl⟩ := h2 4 6 he.symm (by decide)
        exact endsT_only (fun _ => false) (fun _ h => h) (resV_cellI (by decide) rfl rfl rfl (by simp) rfl) rfl (by simp [kpS]) (by simp [kpS])
      · rw [if_neg h4] at he
        have h4' : ((k : Int) == 4) = false := by simp; omega
        refine evx h4' ?_
        rw [wrapI (by omega) (by omega)]
        exact ⟨f, _, by omega, r9_next t z l h w d (gS t z l h d) _ m (k + 1), k + 1, _, by omega, by omega, hgl, he, rfl⟩
    · rw [if_pos hle] at he
      refine ev ?_
      obtain ⟨rfl, rfl⟩ := h1 k _ hgl he.symm
      exact endsT_only (fun X => X == 100) (fun _ h => h) (resV_cellI (by decide) rfl rfl rfl (by simp) rfl) rfl (by simp [kpS]) (by simp [kpS])
end Go.Ab
namespace Go.Ab
set_option linter.unusedSimpArgs false
set_option linter.unusedVariables false
open Nat renaming reduceEqDiff → n1_, reduceAdd → n2_, reduceMul → n3_, reduceLT → n4_, reduceLeDiff → n5_
open Int renaming reduceToNat → i1_, reduceAdd → i2_, reduceSub → i3_, reduceMul → i4_, reduceNeg → i5_, reduceLT → i6_, reduceLE → i7_
open Go Go.Proofs
def A_r6_Solve_L0 : CA := (.seq (.seq (.reg [i_M 0 18 7, i_M 1 19 5, i_N 2 20 .lss 18 19] [1, 2, 5, 6, 7, 20]) (.cond (.t 20) .skip (.exit 0))) (.seq (.block 1 (.reg [i_M 0 23 6, i_M 1 24 7, i_M 2 25 1, i_P 3 26 2 1, i_L 4 27 26 1, i_M 5 28 7, i_I 6 29 27 28 1, i_L 7 30 29 1, i_I 8 31 25 30 1, i_L 9 32 31 1, i_I 10 33 23 24 1, i_S 11 33 32 1] [1, 2, 5, 6, 7])) (.reg [i_M 0 21 7, i_B 1 22 .add 21 1, i_M 2 7 22] [1, 2, 5, 6, 7])))
def A_r6_Solve_L2 : CA := (.seq (.seq (.reg [i_M 0 39 9, i_M 1 40 8, i_N 2 41 .lss 39 40] [2, 5, 6, 8, 9, 41]) (.cond (.t 41) .skip (.exit 4))) (.seq (.block 5 (.seq (.reg [i_P 0 44 2 0, i_L 1 45 44 1, i_M 2 46 8, i_I 3 47 45 46 1, i_L 4 48 47 1, i_M 5 49 9, i_I 6 50 48 49 1, i_L 7 51 50 1, i_M 8 52 6, i_M 9 53 9, i_I 10 54 52 53 1, i_L 11 55 54 1, i_F 12 56 .mul 51 55, i_M 13 10 56] [2, 5, 6, 8, 9, 10]) (.reg [i_M 0 57 6, i_M 1 58 8, i_M 2 59 6, i_M 3 60 8, i_I 4 61 59 60 1, i_L 5 62 61 1, i_M 6 63 10, i_F 7 64 .sub 62 63, i_I 8 65 57 58 1, i_S 9 65 64 1] [2, 5, 6, 8, 9]))) (.reg [i_M 0 42 9, i_B 1 43 .add 42 1, i_M 2 9 43] [2, 5, 6, 8, 9])))
def A_r6_Solve_L1 : CA := (.seq (.seq (.reg [i_M 0 34 8, i_M 1 35 5, i_N 2 36 .lss 34 35] [2, 5, 6, 8, 36]) (.cond (.t 36) .skip (.exit 2))) (.seq (.block 3 (.seq (.reg [i_K 0 9 0] [2, 5, 6, 8, 9]) (.block 4 (.loop A_r6_Solve_L2)))) (.reg [i_M 0 37 8, i_B 1 38 .add 37 1, i_M 2 8 38] [2, 5, 6, 8])))
def A_r6_Solve_L4 : CA := (.seq (.seq (.reg [i_M 0 72 12, i_M 1 73 5, i_N 2 74 .lss 72 73] [2, 5, 6, 11, 12, 74]) (.cond (.t 74) .skip (.exit 8))) (.seq (.block 9 (.seq (.reg [i_P 0 77 2 0, i_L 1 78 77 1, i_M 2 79 11, i_B 3 80 .sub 79 1, i_I 4 81 78 80 1, i_L 5 82 81 1, i_M 6 83 12, i_I 7 84 82 83 1, i_L 8 85 84 1, i_M 9 86 6, i_M 10 87 12, i_I 11 88 86 87 1, i_L 12 89 88 1, i_F 13 90 .mul 85 89, i_M 14 13 90] [2, 5, 6, 11, 12, 13]) (.reg [i_M 0 91 6, i_M 1 92 11, i_B 2 93 .sub 92 1, i_M 3 94 6, i_M 4 95 11, i_B 5 96 .sub 95 1, i_I 6 97 94 96 1, i_L 7 98 97 1, i_M 8 99 13, i_F 9 100 .sub 98 99, i_I 10 101 91 93 1, i_S 11 101 100 1] [2, 5, 6, 11, 12]))) (.reg [i_M 0 75 12, i_B 1 76 .add 75 1, i_M 2 12 76] [2, 5, 6, 11, 12])))
def A_r6_Solve_L3 : CA := (.seq (.seq (.reg [i_M 0 67 11, i_B 1 68 .gtr 67 0] [2, 5, 6, 11, 68]) (.cond (.t 68) .skip (.exit 6))) (.seq (.block 7 (.seq (.seq (.reg [i_M 0 71 11, i_M 1 12 71] [2, 5, 6, 11, 12]) (.block 8 (.loop A_r6_Solve_L4))) (.reg [i_M 0 102 6, i_M 1 103 11, i_B 2 104 .sub 103 1, i_M 3 105 6, i_M 4 106 11, i_B 5 107 .sub 106 1, i_I 6 108 105 107 1, i_L 7 109 108 1, i_P 8 110 2 0, i_L 9 111 110 1, i_M 10 112 11, i_B 11 113 .sub 112 1, i_I 12 114 111 113 1, i_L 13 115 114 1, i_M 14 116 11, i_B 15 117 .sub 116 1, i_I 16 118 115 117 1, i_L 17 119 118 1, i_F 18 120 .div 109 119, i_I 19 121 102 104 1, i_S 20 121 120 1] [2, 5, 6, 11]))) (.reg [i_M 0 69 11, i_B 1 70 .sub 69 1, i_M 2 11 70] [2, 5, 6, 11])))
def A_r6_Solve : CA := (.seq (.reg [i_X 0 2 (.box (.t 0) 2 114), i_X 1 4 (.h (.mov (.k .nil)))] [1, 2]) (.seq (.reg [i_M 0 14 1, i_X 1 15 (.h (.len (.t 14))), i_M 2 5 15] [1, 2, 5]) (.seq (.reg [i_M 0 16 5, i_X 1 17 (.mksl [(.d (.flt 0))] 1 8 (.t 16) (.t 16) 31), i_M 2 6 17] [1, 2, 5, 6]) (.seq (.seq (.reg [i_K 0 7 0] [1, 2, 5, 6, 7]) (.block 0 (.loop A_r6_Solve_L0))) (.seq (.seq (.reg [i_K 0 8 0] [2, 5, 6, 8]) (.block 2 (.loop A_r6_Solve_L1))) (.seq (.seq (.reg [i_M 0 66 5, i_M 1 11 66] [2, 5, 6, 11]) (.block 6 (.loop A_r6_Solve_L3))) (.seq (.reg [i_M 0 122 6, i_M 1 4 122] [4]) .ret)))))))
theorem A_r6_Solve_comp : compF Tryz.prog 66 = some ⟨123, [(4, none)], A_r6_Solve.strip⟩ := by kernel_rfl
def gI (π : List Int) (b : List Nat) (n : Nat) : Nat → List Nat
  | 0 => List.replicate n 0
  | m + 1 => (gI π b n m).set m (b.getD (π.getD m 0).toNat 0)
def fwdR (A : List (List Nat)) (x : List Nat) : Nat → List Nat
  | 0 => x
  | m + 1 => fJ A m (fwdR A x m) m
theorem gI_len (π : List Int) (b : List Nat) (n : Nat) : ∀ m, (gI π b n m).length = n := by
  intro m; induction m with
  | zero => simp [gI]
  | succ m ih => simp [gI, ih]
theorem fwdR_len (A : List (List Nat)) (x : List Nat) : ∀ m, (fwdR A x m).length = x.length := by
  intro m; induction m with
  | zero => rfl
  | succ m ih => simp [fwdR, fJ_len, ih]
theorem gI_getD (π : List Int) (b : List Nat) (n : Nat) : ∀ m j, m ≤ n → j < m → (gI π b n m).getD j 0 = b.getD (π.getD j 0).toNat 0 := by
  intro m; induction m with
  | zero => intro j _ h; omega
  | succ m ih =>
    intro j hm hj
    have hlen := gI_len π b n m
    simp only [gI, List.getD_eq_getElem?_getD, List.getElem?_set]
    by_cases e : m = j
    · subst e; simp [hlen, show m < n from by omega]
    · have := ih j (by omega) (by omega)
      simp only [List.getD_eq_getElem?_getD] at this
      rw [if_neg e]; exact this
theorem fJ_agree (A : List (List Nat)) (i : Nat) (x y : List Nat) (hl : x.length = y.length) (h : ∀ j, j ≤ i → x.getD j 0 = y.getD j 0) : ∀ m, m ≤ i → ∀ j, j ≤ i → (fJ A i x m).getD j 0 = (fJ A i y m).getD j 0 := by
  intro m; induction m with
  | zero => intro _ j hj; exact h j hj
  | succ m ih =>
    intro hm j hj
    have ih := ih (by omega)
    have h1 := fJ_len A i x m
    have h2 := fJ_len A i y m
    simp only [fJ, ih i (Nat.le_refl _), ih m (by omega), List.getD_eq_getElem?_getD, List.getElem?_set]
    have := ih j hj
    simp only [List.getD_eq_getElem?_getD] at this
    by_cases e : i = j
    · subst e; simp [h1, h2, hl]
    · rw [if_neg e, if_neg e]; exact this
theorem fJ_above (A : List (List Nat)) (i : Nat) (x : List Nat) : ∀ m j, j ≠ i → (fJ A i x m).getD j 0 = x.getD j 0 := by
  intro m; induction m with
  | zero => intro j _; rfl
  | succ m ih =>
    intro j hj
    have := ih j hj
    simp only [List.getD_eq_getElem?_getD] at this
    simp only [fJ, List.getD_eq_getElem?_getD, List.getElem?_set]
    rw [if_neg (fun e => hj e.symm)]; exact this
theorem fwd_agree (A : List (List Nat)) (π : List Int) (b : List Nat) (n : Nat) : ∀ m, m ≤ n → (∀ j, j < m → (fwdI A π b n m).getD j 0 = (fwdR A (gI π b n n) m).getD j 0) ∧ (∀ j, m ≤ j → (fwdR A (gI π b n n) m).getD j 0 = (gI π b n n).getD j 0) := by
  intro m; induction m with
  | zero => intro _; exact ⟨fun j h => by omega, fun j _ => rfl⟩
  | succ m ih =>
    intro hm
    obtain ⟨h1, h2⟩ := ih (by omega)
    have hl1 := fwdI_len A π b n m
    have hl2 : (fwdR A (gI π b n n) m).length = n := by rw [fwdR_len, gI_len]
    refine ⟨fun j hj => ?_, fun j hj => ?_⟩
    · simp only [fwdI, fwdR]
      refine fJ_agree A m _ _ (by simp [hl1, hl2]) (fun j hj => ?_) m (Nat.le_refl _) j (by omega)
      by_cases e : m = j
      · subst e
        rw [h2 m (Nat.le_refl _), gI_getD π b n n m (Nat.le_refl _) (by omega)]
        simp [List.getD_eq_getElem?_getD, hl1, show m < n from by omega]
      · have := h1 j (by omega)
        simp only [List.getD_eq_getElem?_getD] at this
        simp only [List.getD_eq_getElem?_getD, List.getElem?_set]
        rw [if_neg e]; exact this
    · simp only [fwdR]
      rw [fJ_above A m _ m j (by omega)]
      exact h2 j (by omega)
theorem fwd_eq (A : List (List Nat)) (π : List Int) (b : List Nat) (n : Nat) : fwdI A π b n n = fwdR A (gI π b n n) n := by
  obtain ⟨h, _⟩ := fwd_agree A π b n n (Nat.le_refl _)
  have hl1 := fwdI_len A π b n n
  have hl2 : (fwdR A (gI π b n n) n).length = n := by rw [fwdR_len, gI_len]
  refine List.ext_getElem (by rw [hl1, hl2]) fun j h1 h2 => ?_
  have := h j (by omega)
  simpa [List.getD_eq_getElem?_getD, h1, h2] using this
set_option maxRecDepth 8000 in
theorem r6solve_L2 (N : Nat → Prop) (A : List (List Nat)) (π : List Int) (n i : Nat) (x : List Nat) (hA : Sq n A) (hx : x.length = n) (hi : i < n) (hn : n < 2 ^ 40) (Q : Ex → T → Prop)
    (hQ : ∀ v w, Q (.exit 4) ⟨[(2, .ptr 0 0 0 2), (5, fI n), (6, .sl 2 0 0 n 1 n), (8, fI i), (9, v), (41, w)], solveH A π (fJ A i x i)⟩) :
    WA Tryz.prog N 123 (.loop A_r6_Solve_L2) Q ⟨[(2, .ptr 0 0 0 2), (5, fI n), (6, .sl 2 0 0 n 1 n), (8, fI i), (9, fI 0)], solveH A π x⟩ := by
  obtain ⟨hl, hr⟩ := hA
  refine WA_for (n := i) (fun c s => ∃ m, c + m = i ∧ s = ⟨[(2, .ptr 0 0 0 2), (5, fI n), (6, .sl 2 0 0 n 1 n), (8, fI i), (9, fI m)], solveH A π (fJ A i x m)⟩) ⟨0, rfl, rfl⟩ ?_
  rintro c s ⟨m, hc, rfl⟩
  have hy := fJ_len A i x m
  generalize hY : fJ A i x m = y at hy
  have g1 := hr i hi
  refine evx (And.intro @A_r6_Solve_L2.eq_1 @solveH.eq_1) ?_
  refine condC_intro (fun h => ?_) (fun h => ?_)
  · replace h := of_decide_eq_true h
    have e1 : i < y.length := by omega
    have e2 : m < y.length := by omega
    simp -implicitDefEqProofs only [evI, hv, effC, reduceCtorEq, ↓reduceIte, n1_, n2_, n3_, n4_, n5_, i1_, i2_, i3_, i4_, i5_, i6_, i7_, getD_map_fl _ _ e1, getD_map_fl _ _ e2]
    (repeat (with_reducible refine And.intro (by omega) ?_))
    rw [wrapI (by omega) (by omega)]
    refine ⟨c - 1, by omega, m + 1, by omega, ?_⟩
    simp only [fJ, hY]; rfl
  · replace h := of_decide_eq_false h
    refine ev ?_
    obtain rfl : i = m := by omega
    rw [hY] at hQ
    exact hQ _ _
set_option maxRecDepth 8000 in
theorem r6solve_L4 (N : Nat → Prop) (A : List (List Nat)) (π : List Int) (n i : Nat) (z : Int) (x : List Nat) (hA : Sq n A) (hx : x.length = n) (hi : i < n) (hz : z = (i : Int) + 1) (hn : n < 2 ^ 40) (Q : Ex → T → Prop)
    (hQ : ∀ v w, Q (.exit 8) ⟨[(2, .ptr 0 0 0 2), (5, fI n), (6, .sl 2 0 0 n 1 n), (11, fI z), (12, v), (74, w)], solveH A π (bJ A i x (n - 1 - i))⟩) :
    WA Tryz.prog N 123 (.loop A_r6_Solve_L4) Q ⟨[(2, .ptr 0 0 0 2), (5, fI n), (6, .sl 2 0 0 n 1 n), (11, fI z), (12, fI (i + 1 : Nat))], solveH A π x⟩ := by
  obtain ⟨hl, hr⟩ := hA
  have hw : IntKind.i64.wrap (z - 1) = (i : Int) := by rw [wrapI (by omega) (by omega)]; omega
  refine WA_for (n := n) (fun c s => ∃ m, c + m = n ∧ i + 1 + m ≤ n ∧ s = ⟨[(2, .ptr 0 0 0 2), (5, fI n), (6, .sl 2 0 0 n 1 n), (11, fI z), (12, fI (i + 1 + m : Nat))], solveH A π (bJ A i x m)⟩) ⟨0, rfl, by omega, rfl⟩ ?_
  rintro c s ⟨m, hc, hm, rfl⟩
  have hy := bJ_len A i x m
  generalize hY : bJ A i x m = y at hy
  have g1 := hr i hi
  refine evx (And.intro @A_r6_Solve_L4.eq_1 @solveH.eq_1) ?_
  refine condC_intro (fun h => ?_) (fun h => ?_)
  · replace h := of_decide_eq_true h
    have e1 : i < y.length := by omega
    have e2 : i + 1 + m < y.length := by omega
    simp -implicitDefEqProofs only [evI, hv, effC, reduceCtorEq, ↓reduceIte, n1_, n2_, n3_, n4_, n5_, i1_, i2_, i3_, i4_, i5_, i6_, i7_, getD_map_fl _ _ e1, getD_map_fl _ _ e2, hw]
    (repeat (with_reducible refine And.intro (by omega) ?_))
    rw [wrapI (by omega) (by omega)]
    refine ⟨c - 1, by omega, m + 1, by omega, by omega, ?_⟩
    simp only [bJ, hY]; rfl
  · replace h := of_decide_eq_false h
    refine ev ?_
    obtain rfl : n - 1 - i = m := by omega
    rw [hY] at hQ
    exact hQ _ _
set_option maxRecDepth 8000 in
theorem r6_Solve_ac (A : List (List Nat)) (π : List Int) (b : List Nat) (n : Nat) (hA : Sq n A) (hπ : Pm n π) (hb : b.length = n) (hn : n < 2 ^ 40) :
    AC Tryz.prog 66 [.agg [.d (rowsD A), .d (rowI π)], .d (rowD b)] [] (solveH A π (solveP A π b n)) (.sl 2 0 0 n 1 n) := by
  obtain ⟨hl, hr⟩ := hA
  obtain ⟨hp1, hp2⟩ := hπ
  generalize hR : solveP A π b n = R
  refine AC_introA A_r6_Solve_comp rfl mixed (fun _ => False) (by simp [get_nil]) ?_
  refine evx @A_r6_Solve.eq_1 ?_
  (repeat (with_reducible refine And.intro (by omega) ?_))
  refine WA_for (n := n) (fun c s => ∃ m, c + m = n ∧ s = ⟨[(1, .d (rowD b)), (2, .ptr 0 0 0 2), (5, fI n), (6, .sl 2 0 0 n 1 n), (7, fI m)], solveH A π (gI π b n m)⟩) ⟨0, rfl, ?_⟩ ?_
  · simp only [solveH, gI, rowD, hb]; rfl
  rintro c s ⟨m, hc, rfl⟩
  have hy := gI_len π b n m
  generalize hY : gI π b n m = y at hy
  refine evx (And.intro @A_r6_Solve_L0.eq_1 @solveH.eq_1) ?_
  refine condC_intro (fun h => ?_) (fun h => ?_)
  · replace h := of_decide_eq_true h
    obtain ⟨q1, q2⟩ := hp2 m h
    refine ev ?_
    (repeat (with_reducible refine And.intro (by omega) ?_))
    rw [wrapI (by omega) (by omega)]
    refine ⟨c - 1, by omega, m + 1, by omega, ?_⟩
    simp only [gI, hY]; rfl
  · replace h := of_decide_eq_false h
    obtain rfl : n = m := by omega
    refine ev ?_
    refine WA_for (n := n) (fun c s => ∃ m, c + m = n ∧ s = ⟨[(2, .ptr 0 0 0 2), (5, fI n), (6, .sl 2 0 0 n 1 n), (8, fI m)], solveH A π (fwdR A y m)⟩) ⟨0, rfl, rfl⟩ ?_
    rintro c s ⟨m, hc, rfl⟩
    have hf := fwdR_len A y m
    generalize hF : fwdR A y m = u at hf
    refine evx (And.intro @A_r6_Solve_L1.eq_1 @solveH.eq_1) ?_
    refine condC_intro (fun h2 => ?_) (fun h2 => ?_)
    · replace h2 := of_decide_eq_true h2
      refine ev ?_
      refine r6solve_L2 _ A π n m u ⟨hl, hr⟩ (by omega) h2 hn _ fun v w => ?_
      refine ev ?_
      rw [wrapI (by omega) (by omega)]
      refine ⟨c - 1, by omega, m + 1, by omega, ?_⟩
      simp only [fwdR, hF]; rfl
    · replace h2 := of_decide_eq_false h2
      obtain rfl : n = m := by omega
      refine ev ?_
      have hu : u = fwdI A π b n n := by rw [fwd_eq, ← hF, hY]
      refine WA_for (n := n) (fun c s => ∃ m, ∃ z : Int, c + m = n ∧ z = (n : Int) - m ∧ s = ⟨[(2, .ptr 0 0 0 2), (5, fI n), (6, .sl 2 0 0 n 1 n), (11, fI z)], solveH A π (bckI A n u m)⟩) ⟨0, _, rfl, rfl, ?_⟩ ?_
      · simp only [Int.natCast_zero, Int.sub_zero]; rfl
      rintro c s ⟨m, z, hc, hz, rfl⟩
      have hb2 := bckI_len A n u m
      generalize hU : bckI A n u m = t at hb2
      refine evx (And.intro @A_r6_Solve_L3.eq_1 @solveH.eq_1) ?_
      refine condC_intro (fun h3 => ?_) (fun h3 => ?_)
      · replace h3 := of_decide_eq_true h3
        obtain ⟨i, hzi⟩ : ∃ i : Nat, z = (i : Int) + 1 := ⟨n - 1 - m, by omega⟩
        have hi : i < n := by omega
        have hw : IntKind.i64.wrap (z - 1) = (i : Int) := by rw [wrapI (by omega) (by omega)]; omega
        refine ev ?_
        have hz12 : fI z = fI (i + 1 : Nat) := by rw [hzi]; rfl
        rw [show ([(2, V.ptr 0 0 0 2), (5, fI n), (6, V.sl 2 0 0 n 1 n), (11, fI z), (12, fI z)] : Sl) = [(2, V.ptr 0 0 0 2), (5, fI n), (6, V.sl 2 0 0 n 1 n), (11, fI z), (12, fI (i + 1 : Nat))] from by rw [← hz12]]
        refine r6solve_L4 _ A π n i z t ⟨hl, hr⟩ (by omega) hi hzi hn _ fun v w => ?_
        have hbl := bJ_len A i t (n - 1 - i)
        have e1 : i < (bJ A i t (n - 1 - i)).length := by omega
        have g1 := hr i hi
        simp -implicitDefEqProofs only [evI, hv, effC, reduceCtorEq, ↓reduceIte, n1_, n2_, n3_, n4_, n5_, i1_, i2_, i3_, i4_, i5_, i6_, i7_, solveH, getD_map_fl _ _ e1, hw]
        (repeat (with_reducible refine And.intro (by omega) ?_))
        refine ⟨c - 1, by omega, m + 1, (i : Int), by omega, by omega, ?_⟩
        have e : n - 1 - m = i := by omega
        simp only [bckI, hU, bStep, e]; rfl
      · replace h3 := of_decide_eq_false h3
        refine ev ?_
        obtain rfl : n = m := by omega
        have e0 : t = R := by rw [← hR, solveP, ← hu, hU]
        subst e0
        refine endsT_keep (fun _ h => h) (resV_tmpI (t := 4) (by decide) rfl) (by simp only [solveH]) (.sl (by simp [get_cons]) rfl) (keep_cells fun X q cells hX v hv' => ?_)
        simp only [solveH, get_cons, get_nil] at hX
        split at hX
        · rcases q with _ | q <;> simp at hX; subst hX; exact mem_rowV hv' _ _ _
        · split at hX
          · rcases q with _ | q <;> simp at hX; subst hX
            rcases List.mem_cons.1 hv' with rfl | hv'
            · exact .d (.d _)
            · rcases List.mem_cons.1 hv' with rfl | hv'
              · exact .d (.d _)
              · cases hv'
          · cases hX
theorem r6_Solve_row (A : List (List Nat)) (π : List Int) (b : List Nat) (n : Nat) (hA : Sq n A) (hπ : Pm n π) (hb : b.length = n) (hn : n < 2 ^ 40) :
    AC Tryz.prog 66 [.agg [.d (rowsD A), .d (rowI π)], .d (rowD b)] [] [(2, [rowV (solveP A π b n)])] (.sl 2 0 0 n 1 n) := by
  refine AC_le (r6_Solve_ac A π b n hA hπ hb hn) (Le.of_wk (fun X q => (X, q)) ⟨rfl, fun i hi => ?_, fun X q c hX => ?_, fun X r Y q _ _ e => by simpa using e, fun X r h => h.elim⟩)
  · obtain rfl : i = 0 := by simpa using hi
    exact .sl (by simp [get_cons]) rfl
  · rw [get_cons, get_nil] at hX
    split at hX
    · rename_i e; subst e
      rcases q with _ | q <;> simp at hX; subst hX
      refine ⟨_, by simp [solveH, get_cons], rfl, fun j hj => ?_⟩
      rw [List.getD_eq_getElem?_getD, List.getElem?_eq_getElem hj]
      exact mem_rowV (List.getElem_mem hj) _ _ _
    · cases hX
end Go.Ab
namespace Go.Ab
set_option linter.unusedSimpArgs false
set_option linter.unusedVariables false
open Go Go.Proofs
abbrev sB9 (z : List (List Nat)) (l w : List Nat) (h X n k : Nat) : Sl := [(1, .d (rowsD z)), (2, .d (rowD l)), (4, fI 1), (5, .d (rowD w)), (6, .ptr 0 0 0 3), (12, .ptr 1 0 0 3), (13, fl h), (14, .sl X 0 0 n 1 n), (15, .ptr 5 0 0 2), (18, fI k)]
abbrev lB9 (B : List (List Nat)) (π : List Int) (t : Tp) (R : Heap) : Heap := (5, [[.d (rowsD B), .d (rowI π)]]) :: R ++ [(1, [[.nil, fI 0, fI 0]]), (0, [[fI t.n, .d (opsD t.ops), .d (rowI t.out)]])]
theorem r9B_next (t : Tp) (z : List (List Nat)) (l : List Nat) (h : Nat) (w : List Nat) (B : List (List Nat)) (π : List Int) (g a b d x : List Nat) (k : Nat) : Le (fun _ => False) (T.s 96 ⟨sB9 z l w h 120 t.n k, (120, [rowV x]) :: (110, [rowV g]) :: (104, [rowV a]) :: (100, [rowV b]) :: lB9 B π t [(4, [rowV d])]⟩) (T.s 96 ⟨sB9 z l w h 4 t.n k, lB9 B π t [(4, [rowV x])]⟩) := by
  refine Le.trans (LeT.only (L' := (120, [rowV x]) :: lB9 B π t []) (fun X => X == 120 || X == 5 || X == 1 || X == 0) (fun _ h => h) rfl (by simp [kpS]) (by simp [kpS])) ?_
  refine Le.trans (LeT.move 4 (by decide) (by simp [fam_cons, fam_nil]) (by simp [fam_cons, fam_nil]) (fun h => h)) ?_
  have e : renS (absF 120 4 0) (sB9 z l w h 120 t.n k) = sB9 z l w h 4 t.n k := by
    simp [renS, V.ren, V.renL, absF]
  have e2 : Heap.renH (absF 120 4 0) (lB9 B π t []) = lB9 B π t [] := by
    simp [Heap.renH, V.ren, absF]
  rw [e, e2, ren_rowV]
  exact LeT.perm (fun _ h => h) (fun X => .inr (by simp only [fam_cons, fam_nil, List.cons_append, List.nil_append]; grind)) (by simp [kpS]) (by simp [kpS])
set_option maxRecDepth 8000 in
theorem r9B_gen (L' : Heap) (r : V) (t : Tp) (z : List (List Nat)) (l : List Nat) (w : List Nat) (step : Int) (h : Nat) (hh : fop .div (FloatKind.nearest .f64 step) 4742290407621132288 = h)
    (h1 : ∀ k g, g.length = t.n → solB t z l h w = (g, k, 0) → r = .agg [.sl 120 0 0 t.n 1 t.n, fI k, fI 0] ∧ L' = [(120, [rowV g])])
    (h2 : ∀ k e, solB t z l h w = ([], k, e) → e ≠ 0 → r = .agg [.nil, fI k, fI e] ∧ L' = []) (hn0 : 0 < t.n) (ok : Sok t z l w (List.replicate t.n 0)) :
    AC Tryz.prog 30 [tapeV t, .d (rowsD z), .d (rowD l), fI step, fI 1, .d (rowD w)] [] L' r := by
  obtain ⟨ht, hz, hzl, hl, hw, hd⟩ := ok
  have hn := ht.n
  have hsq := matT_sq t z l h
  refine AC_introA A_r9_Solve_comp rfl mixed (fun _ => False) (by simp [get_nil]) ?_
  refine evx @A_r9_Solve.eq_1 ?_
  refine callG_con (r8_H_con step) rfl ?_
  refine ev ?_
  (repeat (with_reducible refine And.intro (by omega) ?_))
  rw [hh]
  obtain hp | ⟨⟨B, π⟩, hp⟩ : partP (matT t z l h) t.n t.n = none ∨ ∃ s, partP (matT t z l h) t.n t.n = some s := by cases partP (matT t z l h) t.n t.n <;> simp
  · have he : solB t z l h w = ([], 0, 4) := by unfold solB; rw [hp]
    obtain ⟨rfl, rfl⟩ := h2 0 4 he (by decide)
    refine callSG_con (r9_newton_none t z l h ht hn0 hz (hzl 0 (by omega)) hp) rfl ?_
    refine evx @Bool.not_false ?_
    exact endsT_only (fun _ => false) (fun _ h => h) (resV_cellI (by decide) rfl rfl rfl (by simp) rfl) rfl (by simp [kpS]) (by simp [kpS])
  · obtain ⟨hB, hπl⟩ := partP_sq _ _ hsq t.n (Nat.le_refl _) B π hp
    have hπ := partP_pmB _ _ t.n (Nat.le_refl _) B π hp
    have he : solB t z l h w = seek (tryB t z l h w B π) 4 1 (List.replicate t.n 0) := by unfold solB; rw [hp]
    refine callSG_con (r9_newton_some t z l h ht hn0 hz (hzl 0 (by omega)) B π hp) rfl ?_
    refine evx @Bool.not_true ?_
    rw [he] at h1 h2
    clear he
    generalize List.replicate t.n 0 = d0 at h1 h2 hd
    refine WA_forW (n := 4) (fun c s => ∃ (k : Nat) (d : List Nat), c + k = 5 ∧ (1 ≤ k ∧ k ≤ 4) ∧ d.length = t.n ∧ seek (tryB t z l h w B π) c k d = seek (tryB t z l h w B π) 4 1 d0 ∧ s = ⟨sB9 z l w h 4 t.n k, lB9 B π t [(4, [rowV d])]⟩) (LeT.only (fun X => decide (X ≤ 5)) (fun _ h => h) rfl (by simp [kpS]) (by simp [kpS])) ⟨1, _, by omega, by omega, hd, rfl, rfl⟩ ?_
    rintro c s ⟨k, d, hc, hk, hdl, he, rfl⟩
    obtain ⟨f, rfl⟩ : ∃ f, c = f + 1 := ⟨c - 1, by omega⟩
    rw [seekB_succ] at he
    refine evx @A_r9_Solve_L0.eq_1 ?_
    (repeat (with_reducible refine And.intro (by omega) ?_))
    have okd : Sok t z l w d := ⟨ht, hz, hzl, hl, hw, hdl⟩
    have hgl : (gS t z l h d).length = t.n := tabR_len _ _
    refine callG_row 100 [tapeV t, .d (rowsD z), fl (l.getD 0 0), fl h, .d (rowD d)] (by simp [Heap.next]) (r9_left_ac t z l h w d okd) ⟨.aggs ⟨.bare _, .bare _, .bare _, trivial⟩, .bare _, .bare _, .bare _, snp_row rfl hdl rfl, trivial⟩ ?_
    refine ev ?_
    have hml : (gdS t z l h d).length = t.n := tabR_len _ _
    have hxl : (xB t z l h B π d).length = t.n := solveP_len _ _ _ _
    have hbl : (dB t z l h B π d).length = t.n := tabR_len _ _
    refine callS_row _ (r9_minus_ac _ _ t.n hgl hdl (by omega)) ⟨snp_row rfl hgl rfl, snp_row rfl hdl rfl, trivial⟩ rfl ?_
    refine ev ?_
    rw [show tabR (fun i => fop .sub ((gS t z l h d).getD i 0) (d.getD i 0)) t.n = gdS t z l h d from rfl]
    refine callG_row 110 [.agg [.d (rowsD B), .d (rowI π)], .d (rowD (gdS t z l h d))] (by simp [Heap.next]) (AC_row0 (r6_Solve_row B π (gdS t z l h d) t.n hB hπ hml (by omega))) ⟨.aggs ⟨.bare _, .bare _, trivial⟩, snp_row rfl hml rfl, trivial⟩ ?_
    rw [show solveP B π (gdS t z l h d) t.n = xB t z l h B π d from rfl]
    refine ev ?_
    refine callG_row 120 [.d (rowD d), .d (rowD (xB t z l h B π d))] (by simp [Heap.next]) (r9_plus_ac d _ t.n hdl hxl (by omega)) ⟨snp_row rfl hdl rfl, snp_row rfl hxl rfl, trivial⟩ ?_
    rw [show tabR (fun i => fop .add (d.getD i 0) ((xB t z l h B π d).getD i 0)) t.n = dB t z l h B π d from rfl]
    refine ev ?_
    refine callG_snaps [.d (rowD (xB t z l h B π d)), .d (rowD w)] (r9_Size_con _ w (by omega) (by omega)) ⟨snp_row rfl hxl rfl, .bare _, trivial⟩ (.flt _) ?_
    refine ev ?_
    generalize hsz : szP (xB t z l h B π d) w = q at he ⊢
    refine WA_for (n := t.n) (fun c' s => ∃ i, c' + i = t.n ∧ (∀ j, j < i → finite ((dB t z l h B π d).getD j 0) = true) ∧ s = ⟨sB9 z l w h 120 t.n k ++ [(20, fl q), (22, fI i)], (120, [rowV (dB t z l h B π d)]) :: (110, [rowV (xB t z l h B π d)]) :: (104, [rowV (gdS t z l h d)]) :: (100, [rowV (gS t z l h d)]) :: lB9 B π t [(4, [rowV d])]⟩) ⟨0, by omega, fun j hj => by omega, rfl⟩ ?_
    rintro c' s ⟨i, hc', hf, rfl⟩
    refine evx @A_r9_Solve_L1.eq_1 ?_
    refine condC_intro (fun hi => ?_) (fun hi => ?_)
    · replace hi := of_decide_eq_true hi
      have ga : (rowV (dB t z l h B π d)).getD i .any = fl ((dB t z l h B π d).getD i 0) := getD_map_fl _ _ (by omega)
      refine evx ga ?_
      (repeat (with_reducible refine And.intro (by omega) ?_))
      refine callG_con (r1_Finite_con ((dB t z l h B π d).getD i 0)) rfl ?_
      refine evx @finite_sub ?_
      cases hfi : finite ((dB t z l h B π d).getD i 0)
      · have hna := fin_not i (by omega) hfi
        rw [if_pos hna] at he
        refine evx @Bool.not_false ?_
        obtain ⟨rfl, rfl⟩ := h2 k 2 he.symm (by decide)
        exact endsT_only (fun _ => false) (fun _ h => h) (resV_cellI (by decide) rfl rfl rfl (by simp) rfl) rfl (by simp [kpS]) (by simp [kpS])
      · refine evx @Bool.not_true ?_
        rw [wrapI (by omega) (by omega)]
        exact ⟨c' - 1, by omega, i + 1, by omega, fun j hj => by rcases Nat.lt_succ_iff_lt_or_eq.1 hj with h1 | rfl; exact hf j h1; exact hfi, rfl⟩
    · replace hi := of_decide_eq_false hi
      have hfa := fin_of (d := dB t z l h B π d) fun j hj => hf j (by omega)
      rw [if_neg (by rw [hfa]; decide)] at he
      refine ev ?_
      cases hle : fcmp .le q 4562146422526312448
      · rw [if_neg (by rw [hle]; decide)] at he
        refine ev ?_
        by_cases h4 : 4 ≤ k
        · rw [if_pos h4] at he
          have hk4 : k = 4 := by omega
          subst hk4
          refine ev ?_
          obtain ⟨rfl, rfl⟩ := h2 4 6 he.symm (by decide)
          exact endsT_only (fun _ => false) (fun _ h => h) (resV_cellI (by decide) rfl rfl rfl (by simp) rfl) rfl (by simp [kpS]) (by simp [kpS])
        · rw [if_neg h4] at he
          have h4' : ((k : Int) == 4) = false := by simp; omega
          refine evx h4' ?_
          rw [wrapI (by omega) (by omega)]
          exact ⟨f, _, by omega, r9B_next t z l h w B π _ _ _ d _ (k + 1), k + 1, _, by omega, by omega, hbl, he, rfl⟩
      · rw [if_pos hle] at he
        refine ev ?_
        obtain ⟨rfl, rfl⟩ := h1 k _ hbl he.symm
        exact endsT_only (fun X => X == 120) (fun _ h => h) (resV_cellI (by decide) rfl rfl rfl (by simp) rfl) rfl (by simp [kpS]) (by simp [kpS])
theorem r9_SolveG_ok (t : Tp) (z : List (List Nat)) (l : List Nat) (h : Nat) (w : List Nat) (step : Int) (m : Int) (hn0 : 0 < t.n) (ok : Sok t z l w (List.replicate t.n 0)) (hh : fop .div (FloatKind.nearest .f64 step) 4742290407621132288 = h)
    (g : List Nat) (k : Nat) (hg : solG t z l h w m = (g, k, 0)) : AC Tryz.prog 30 [tapeV t, .d (rowsD z), .d (rowD l), fI step, fI m, .d (rowD w)] [] [(0, [rowV g])] (.agg [.sl 0 0 0 t.n 1 t.n, fI k, fI 0]) := by
  unfold solG at hg
  split at hg
  · rename_i e
    subst e
    refine AC_sum0 (X := 120) (r9B_gen _ _ t z l w step h hh (fun k' g' _ he => ?_) (fun k' e he hne => ?_) hn0 ok)
    · rw [hg] at he
      simp only [Prod.mk.injEq] at he
      obtain ⟨rfl, rfl, _⟩ := he
      exact ⟨rfl, rfl⟩
    · rw [hg] at he
      simp only [Prod.mk.injEq] at he
      exact absurd he.2.2.symm hne
  · rename_i e
    refine AC_sum0 (X := 100) (r9_sol_gen _ _ t z l w step m e h hh (fun k' g' _ he => ?_) (fun k' e he hne => ?_) ok)
    · rw [hg] at he
      simp only [Prod.mk.injEq] at he
      obtain ⟨rfl, rfl, _⟩ := he
      exact ⟨rfl, rfl⟩
    · rw [hg] at he
      simp only [Prod.mk.injEq] at he
      exact absurd he.2.2.symm hne
theorem r9_SolveG_no (t : Tp) (z : List (List Nat)) (l : List Nat) (h : Nat) (w : List Nat) (step : Int) (m : Int) (hn0 : 0 < t.n) (ok : Sok t z l w (List.replicate t.n 0)) (hh : fop .div (FloatKind.nearest .f64 step) 4742290407621132288 = h)
    (k : Nat) (e : Int) (hne : e ≠ 0) (hg : solG t z l h w m = ([], k, e)) : AC Tryz.prog 30 [tapeV t, .d (rowsD z), .d (rowD l), fI step, fI m, .d (rowD w)] [] [] (.agg [.nil, fI k, fI e]) := by
  unfold solG at hg
  split at hg
  · rename_i e
    subst e
    refine r9B_gen _ _ t z l w step h hh (fun k' g' _ he => ?_) (fun k' e' he hne' => ?_) hn0 ok
    · rw [hg] at he
      simp only [Prod.mk.injEq] at he
      exact absurd he.2.2 hne
    · rw [hg] at he
      simp only [Prod.mk.injEq] at he
      obtain ⟨_, rfl, rfl⟩ := he
      exact ⟨rfl, rfl⟩
  · rename_i e'
    refine r9_sol_gen _ _ t z l w step m e' h hh (fun k' g' _ he => ?_) (fun k' e' he hne' => ?_) ok
    · rw [hg] at he
      simp only [Prod.mk.injEq] at he
      exact absurd he.2.2 hne
    · rw [hg] at he
      simp only [Prod.mk.injEq] at he
      obtain ⟨_, rfl, rfl⟩ := he
      exact ⟨rfl, rfl⟩
end Go.Ab
