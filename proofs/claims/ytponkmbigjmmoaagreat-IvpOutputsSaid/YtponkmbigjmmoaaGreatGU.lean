import Derived.Test.YtponkmbigjmmoaaGreatGT
set_option maxRecDepth 8000
namespace Go.Ab
set_option linter.unusedSimpArgs false
set_option linter.unusedVariables false
open Nat renaming reduceEqDiff -> n1_, reduceAdd -> n2_, reduceMul -> n3_, reduceLT -> n4_, reduceLeDiff -> n5_
open Int renaming reduceToNat -> i1_, reduceAdd -> i2_, reduceSub -> i3_, reduceMul -> i4_, reduceNeg -> i5_, reduceLT -> i6_, reduceLE -> i7_
open Go Go.Proofs
def B9 : CA := (.seq (.seq (.reg [i_M 0 25 7, i_M 1 26 1, i_X 2 27 (.h (.len (.t 26))), i_N 3 28 .lss 25 27, i_M 4 29 28, g_T 5 30 29 (.h (.mov (.t 7))), g_T 6 31 29 (.h (.ibin .lss (.t 30) (kI 6))), i_X 7 32 (.h (.pick (.t 29) (.t 31) (.k (.d (.bool false)))))] [1, 5, 6, 7, 32]) (.cond (.t 32) .skip (.exit 0))) (.seq (.block 1 (.reg [i_P 0 35 6 12, i_L 1 36 35 1, i_M 2 37 1, i_M 3 38 7, i_I 4 39 37 38 1, i_L 5 40 39 1, i_P 6 41 6 5, i_L 7 42 41 1, i_B 8 43 .add 42 1, i_X 9 44 (.callS 9 (kF 28) [(.t 40), (.t 43)]), i_X 10 45 (.bslice [fI 0] 1 1 [(0, (1, (.t 44)))] 3), i_X 11 46 (.app (.t 36) (.t 45) 1 8), i_P 12 47 6 12, i_S 13 47 46 1] [1, 5, 6, 7])) (.reg [i_M 0 33 7, i_B 1 34 .add 33 1, i_M 2 7 34] [1, 5, 6, 7])))
def B8 : CA := (.seq (.seq (.reg [i_M 0 48 8, i_P 1 49 6 12, i_L 2 50 49 1, i_X 3 51 (.h (.len (.t 50))), i_N 4 52 .lss 48 51] [5, 6, 8, 52]) (.cond (.t 52) .skip (.exit 2))) (.seq (.block 3 (.reg [i_P 0 55 6 12, i_L 1 56 55 1, i_M 2 57 8, i_P 3 58 6 12, i_L 4 59 58 1, i_M 5 60 8, i_I 6 61 59 60 1, i_L 7 62 61 1, i_P 8 63 6 12, i_L 9 64 63 1, i_M 10 65 8, i_B 11 66 .sub 65 1, i_I 12 67 64 66 1, i_L 13 68 67 1, i_X 14 69 (.h (.mm true (.t 62) (.t 68))), i_I 15 70 56 57 1, i_S 16 70 69 1] [5, 6, 8])) (.reg [i_M 0 53 8, i_B 1 54 .add 53 1, i_M 2 8 54] [5, 6, 8])))
def H4 : CA := (.seq (.seq (.reg [i_M 0 135 14, i_P 1 136 10 0, i_L 2 137 136 1, i_X 3 138 (.h (.len (.t 137))), i_N 4 139 .lss 135 138] [9, 10, 13, 14, 139]) (.cond (.t 139) .skip (.exit 6))) (.seq (.block 7 (.seq (.reg [i_P 0 142 9 0, i_L 1 143 142 1, i_M 2 144 13, i_I 3 145 143 144 3, i_P 4 146 145 0, i_L 5 147 146 1, i_P 6 148 10 0, i_L 7 149 148 1, i_M 8 150 14, i_I 9 151 149 150 3, i_P 10 152 151 0, i_L 11 153 152 1, i_N 12 154 .eql 147 153, i_M 13 155 154, g_T 14 156 155 (.h (.padd (.t 9) 0)), g_T 15 157 155 (.load (.t 156) 1 false), g_T 16 158 155 (.h (.mov (.t 13))), g_T 17 159 155 (.h (.mov (.t 13))), g_T 18 160 155 (.h (.ibin .add (.t 159) (kI 1))), g_T 19 161 155 (.h (.slc (.t 157) (some (.t 158)) (some (.t 160)) none 3)), g_T 20 162 155 (.h (.padd (.t 10) 0)), g_T 21 163 155 (.load (.t 162) 1 false), g_T 22 164 155 (.h (.mov (.t 14))), g_T 23 165 155 (.h (.mov (.t 14))), g_T 24 166 155 (.h (.ibin .add (.t 165) (kI 1))), g_T 25 167 155 (.h (.slc (.t 163) (some (.t 164)) (some (.t 166)) none 3)), g_T 26 168 155 (.callA (kF 29) [(.t 161), (.t 167)]), g_T 27 169 155 (.h (.un .not (.t 168))), i_X 28 170 (.h (.pick (.t 155) (.t 169) (.k (.d (.bool false)))))] [9, 10, 13, 14, 170]) (.cond (.t 170) (.seq (.reg [i_X 0 4 (.h (.mov (.k (.d (.bool false)))))] [4]) .ret) .skip))) (.reg [i_M 0 140 14, i_B 1 141 .add 140 1, i_M 2 14 141] [9, 10, 13, 14])))
def H5 : CA := (.seq (.seq (.reg [i_M 0 128 13, i_P 1 129 9 0, i_L 2 130 129 1, i_X 3 131 (.h (.len (.t 130))), i_N 4 132 .lss 128 131] [9, 10, 13, 132]) (.cond (.t 132) .skip (.exit 4))) (.seq (.block 5 (.seq (.reg [i_K 0 14 0] [9, 10, 13, 14]) (.block 6 (.loop H4)))) (.reg [i_M 0 133 13, i_B 1 134 .add 133 1, i_M 2 13 134] [9, 10, 13])))
def G6 : CA := (.seq (.reg [i_X 0 2 (.box (.t 0) 9 24), i_X 1 4 (.h (.mov (.k (.d (.bool false)))))] [1, 2]) (.seq (.seq (.reg [i_X 0 15 (.callA (kF 15) []), i_X 1 16 (.h (.un .not (.t 15)))] [1, 2, 16]) (.cond (.t 16) (.seq (.reg [i_X 0 4 (.h (.mov (.k (.d (.bool false)))))] [4]) .ret) .skip)) (.seq (.seq (.reg [i_A 0 17 2 9, i_X 1 18 (.callA (kF 16) [(.t 17)]), i_X 2 19 (.h (.un .not (.t 18)))] [1, 2, 19]) (.cond (.t 19) (.seq (.reg [i_X 0 4 (.h (.mov (.k (.d (.bool true)))))] [4]) .ret) .skip)) (.seq (.reg [i_A 0 20 2 9, i_X 1 21 (.callS 0 (kF 17) [(.t 20)]), i_A 2 22 2 9, i_X 3 23 (.callS 0 (kF 17) [(.t 22)]), i_X 4 5 (.alloc [fI 0, .nil, .nil, .nil, .nil, fI 0, fI 0, fI 0, fl 0, fl 0, fl 0, fI 0, .nil] 33), i_X 5 6 (.alloc [fI 0, .nil, .nil, .nil, .nil, fI 0, fI 0, fI 0, fl 0, fl 0, fl 0, fI 0, .nil] 33), i_S 6 5 21 13, i_S 7 6 23 13] [1, 5, 6]) (.seq (.reg [i_P 0 24 6 12, ⟨1, none, none, [], [], (.store (.t 24) (.k .nil) 1)⟩] [1, 5, 6]) (.seq (.seq (.reg [i_K 0 7 0] [1, 5, 6, 7]) (.block 0 (.loop B9))) (.seq (.seq (.reg [i_K 0 8 1] [5, 6, 8]) (.block 2 (.loop B8))) (.seq (.seq (.reg [i_P 0 71 5 12, i_L 1 72 71 1, i_X 2 73 (.h (.len (.t 72))), i_B 3 74 .gtr 73 0, i_M 4 75 74, g_T 5 76 75 (.h (.padd (.t 6) 12)), g_T 6 77 75 (.load (.t 76) 1 false), g_T 7 78 75 (.h (.len (.t 77))), g_T 8 79 75 (.h (.ibin .gtr (.t 78) (kI 0))), i_X 9 80 (.h (.pick (.t 75) (.t 79) (.k (.d (.bool false)))))] [5, 6, 80]) (.cond (.t 80) (.reg [i_P 0 81 6 12, i_L 1 82 81 1, i_P 2 83 6 12, i_L 3 84 83 1, i_X 4 85 (.h (.len (.t 84))), i_B 5 86 .sub 85 1, i_P 6 87 6 12, i_L 7 88 87 1, i_P 8 89 6 12, i_L 9 90 89 1, i_X 10 91 (.h (.len (.t 90))), i_B 11 92 .sub 91 1, i_I 12 93 88 92 1, i_L 13 94 93 1, i_P 14 95 5 12, i_L 15 96 95 1, i_P 16 97 5 12, i_L 17 98 97 1, i_X 18 99 (.h (.len (.t 98))), i_B 19 100 .sub 99 1, i_I 20 101 96 100 1, i_L 21 102 101 1, i_X 22 103 (.h (.mm true (.t 94) (.t 102))), i_I 23 104 82 86 1, i_S 24 104 103 1] [5, 6]) .skip)) (.seq (.reg [i_A 0 105 5 13, i_X 1 106 (.callS 0 (kF 21) [(.t 105)]), i_A 2 107 6 13, i_X 3 108 (.callS 0 (kF 21) [(.t 107)]), i_X 4 9 (.alloc [.nil, fI 0, fI 0, fI 0, fI 0, fI 0, .nil, fI 0, fI 0, fI 0, .nil, fl 0, fI 0, fI 0] 53), i_X 5 10 (.alloc [.nil, fI 0, fI 0, fI 0, fI 0, fI 0, .nil, fI 0, fI 0, fI 0, .nil, fl 0, fI 0, fI 0] 53), i_S 6 9 106 14, i_S 7 10 108 14] [9, 10]) (.seq (.reg [i_P 0 109 9 2, i_A 1 110 109 12, i_X 2 111 (.callS 0 (kF 31) [(.t 110)]), i_P 3 112 10 2, i_A 4 113 112 12, i_X 5 114 (.callS 0 (kF 31) [(.t 113)]), i_X 6 11 (.alloc [fI 0, fI 0, fI 0, fI 0, .nil, fI 0, fI 0, fI 0, .nil, fl 0, fI 0, fI 0] 44), i_X 7 12 (.alloc [fI 0, fI 0, fI 0, fI 0, .nil, fI 0, fI 0, fI 0, .nil, fl 0, fI 0, fI 0] 44), i_S 8 11 111 12, i_S 9 12 114 12] [9, 10, 11, 12]) (.seq (.reg [i_P 0 115 11 11, ⟨1, none, none, [], [], (.store (.t 115) (kI 0) 1)⟩, i_P 2 116 12 11, ⟨3, none, none, [], [], (.store (.t 116) (kI 0) 1)⟩] [9, 10, 11, 12]) (.seq (.seq (.reg [i_P 0 117 9 1, i_L 1 118 117 1, i_P 2 119 10 1, i_L 3 120 119 1, i_N 4 121 .neq 118 120, i_M 5 122 121, g_F 6 123 122 (.load (.t 11) 12 true), g_F 7 124 122 (.load (.t 12) 12 true), g_F 8 125 122 (.callA (kF 30) [(.t 123), (.t 124)]), g_F 9 126 122 (.h (.un .not (.t 125))), i_X 10 127 (.h (.pick (.t 122) (.k (.d (.bool true))) (.t 126)))] [9, 10, 127]) (.cond (.t 127) (.seq (.reg [i_X 0 4 (.h (.mov (.k (.d (.bool false)))))] [4]) .ret) .skip)) (.seq (.seq (.reg [i_K 0 13 0] [9, 10, 13]) (.block 4 (.loop H5))) (.seq (.reg [i_X 0 4 (.h (.mov (.k (.d (.bool true)))))] [4]) .ret))))))))))))))
theorem a3j : f7 Tryz.prog 6 = some ⟨171, [(4, none)], G6.strip⟩ := by kernel_rfl
abbrev pbCw (p : Pb) (v : V) : List V := [fI p.t.n, .d (opsD p.t.ops), .d (rowI p.t.out), .d (ivD p.box), .d (rowD p.y), fI p.fin, fI p.first, fI p.least, fl p.atol, fl p.rtol, fl p.cap, fI p.most, v]
abbrev oS1 (ks : List Int) (i : Nat) : Sl := [(1, .d (rowI ks)), (5, .ptr 5 0 0 13), (6, .ptr 6 0 0 13), (7, fI i)]
abbrev oH (p : Pb) (v : V) (sh : List V) : Heap := [(6, [pbCw p v]), (5, [pbC p]), (0, [sh])]
theorem c0r (p : Pb) (ks : List Int) (sh : List V) (hsh : ∀ L, KpA L sh) (hE : 1 <= p.fin /\ p.fin <= 1099511627776) (Q : Ex -> T -> Prop)
  (hQ0 : ks.length = 0 -> ∀ w, Q (.exit 0) ⟨oS1 ks 0 ++ [w], oH p .nil sh⟩)
  (hQ : 0 < ks.length -> ∀ w, Q (.exit 0) ⟨oS1 ks (min ks.length 6) ++ [w], (18, [k7 (H0 ks p.fin (min ks.length 6))]) :: oH p (.sl 18 0 0 (min ks.length 6) 1 (min ks.length 6)) sh⟩) :
  WA Tryz.prog (λ_ => False) 171 (.loop B9) Q ⟨oS1 ks 0, oH p .nil sh⟩ := by
 refine j5 (n := min ks.length 6) (λc s => ∃ i, c + i = min ks.length 6 /\ ((i = 0 /\ s = ⟨oS1 ks 0, oH p .nil sh⟩) \/ (0 < i /\ s = ⟨oS1 ks i, (18, [k7 (H0 ks p.fin i)]) :: oH p (.sl 18 0 0 i 1 i) sh⟩))) (Le.refl _) ⟨0, by omega, .inl ⟨rfl, rfl⟩⟩ ?_
 have wE : IntKind.i64.wrap (p.fin + 1) = p.fin + 1 := f0 (by omega) (by omega)
 rintro c s ⟨i, hc, ⟨rfl, rfl⟩ | ⟨hi, rfl⟩⟩
 ·refine evx @B9.eq_1 ?_
  by_cases h0 : 0 < ks.length
  ·have h0' : decide ((0 : Int) < (ks.length : Int)) = true := decide_eq_true (by omega)
   refine evx (And.intro h0' wE) ?_
   refine ⟨by omega, ?_⟩
   refine d5 (a4b (ks.getD 0 0) (p.fin + 1) (by omega) (by omega)) rfl ?_
   refine ev ?_
   rw [show IntKind.i64.wrap 1 = ((0 + 1 : Nat) : Int) from by decide]
   exact ⟨c - 1, _, by omega, LeT.only (L' := (18, [k7 (H0 ks p.fin (0 + 1))]) :: oH p (.sl 18 0 0 (0 + 1) 1 (0 + 1)) sh) (λX => X == 18 || X == 6 || X == 5 || X == 0) (λ_ h => h) rfl (by simp (maxDischargeDepth := 6) [kpS, d6, d9, hsh]) (by simp (maxDischargeDepth := 6) [kpS, d6, d9, hsh]), 0 + 1, by omega, .inr ⟨by omega, rfl⟩⟩
  ·have h0' : decide ((0 : Int) < (ks.length : Int)) = false := decide_eq_false (by omega)
   refine evx h0' ?_
   exact hQ0 (by omega) _
 ·have hol := Q1 ks p.fin i
  refine evx @B9.eq_1 ?_
  by_cases h1 : i < ks.length
  ·have h1' : decide (i < ks.length) = true := decide_eq_true h1
   by_cases h2 : i < 6
   ·have h2' : decide ((i : Int) < 6) = true := by simp; omega
    refine evx (And.intro h1' (And.intro h2' wE)) ?_
    repeat with_reducible refine andO ?_
    refine d5 (a4b (ks.getD i 0) (p.fin + 1) (by omega) (by omega)) rfl ?_
    refine ev ?_
    have e1 := b2w ks p.fin i
    unfold outE at e1
    refine ⟨⟨hol, by omega⟩, ?_⟩
    rw [f0 (by omega) (by omega), e1]
    exact ⟨c - 1, _, by omega, LeT.only (λX => X == 18 || X == 6 || X == 5 || X == 0) (λ_ h => h) rfl (by simp (maxDischargeDepth := 6) [kpS, d6, d9, hsh]) (by simp (maxDischargeDepth := 6) [kpS, d6, d9, hsh]), i + 1, by omega, .inr ⟨by omega, rfl⟩⟩
   ·have h2' : decide ((i : Int) < 6) = false := by simp; omega
    have e : i = min ks.length 6 := by omega
    refine evx (And.intro h1' h2') ?_
    rw [e]
    exact hQ (by omega) _
  ·have h1' : decide (i < ks.length) = false := decide_eq_false h1
   have e : i = min ks.length 6 := by omega
   refine evx h1' ?_
   rw [e]
   exact hQ (by omega) _
abbrev oS2 (i : Nat) : Sl := [(5, .ptr 5 0 0 13), (6, .ptr 6 0 0 13), (8, fI i)]
theorem c0q (A : List Int) (m : Nat) (hA : A.length = m) (hm : 0 < m /\ m <= 8) (p : Pb) (sh : List V) (Q : Ex -> T -> Prop)
  (hQ : ∀ w, Q (.exit 2) ⟨oS2 m ++ [w], (18, [k7 (maxL A (m - 1))]) :: oH p (.sl 18 0 0 m 1 m) sh⟩) :
  WA Tryz.prog (λ_ => False) 171 (.loop B8) Q ⟨oS2 1, (18, [k7 A]) :: oH p (.sl 18 0 0 m 1 m) sh⟩ := by
 refine j5 (n := m - 1) (λc s => ∃ i, c + i = m - 1 /\ s = ⟨oS2 (i + 1), (18, [k7 (maxL A i)]) :: oH p (.sl 18 0 0 m 1 m) sh⟩) (Le.refl _) ⟨0, by omega, rfl⟩ ?_
 rintro c s ⟨i, hc, rfl⟩
 have hl := a3J A i
 rw [hA] at hl
 refine evx @B8.eq_1 ?_
 refine b9 (λh => ?_) (λh => ?_)
 ·replace h := d2b h
  have wi : IntKind.i64.wrap (((i + 1 : Nat) : Int) - 1) = (i : Int) := by rw [f0 (by omega) (by omega)]; omega
  have g1 : (k7 (maxL A i)).getD (i + 1) .any = fI ((maxL A i).getD (i + 1) 0) := a0Q (by omega)
  have g2 : (k7 (maxL A i)).getD i .any = fI ((maxL A i).getD i 0) := a0Q (by omega)
  refine evx (And.intro wi (And.intro g1 g2)) ?_
  refine ⟨h, ⟨hl, by omega⟩, by omega, ⟨hl, by omega⟩, h, ⟨hl, by omega⟩, ?_⟩
  rw [f0 (by omega) (by omega)]
  exact ⟨c - 1, _, by omega, Le.refl _, i + 1, by omega, rfl⟩
 ·replace h := d2c h
  have e : i = m - 1 := by omega
  refine ev ?_
  rw [show i + 1 = m by omega, show i = m - 1 by omega]
  exact hQ _
def a8N (M : List Int) (x : Int) : List Int := M.set (M.length - 1) (if M.getD (M.length - 1) 0 < x then x else M.getD (M.length - 1) 0)
theorem c5D {p : Pb} (h : Pst p) (ks : List Int) (m : Nat) (h0 : 0 < m) : ∀ i, i < m -> 0 <= (maxL (H0 ks p.fin m) (m - 1)).getD i 0 /\ (maxL (H0 ks p.fin m) (m - 1)).getD i 0 <= p.fin /\ (i = 0 \/ (maxL (H0 ks p.fin m) (m - 1)).getD (i - 1) 0 <= (maxL (H0 ks p.fin m) (m - 1)).getD i 0) := by
 intro i hi
 have hf := h.v.fin
 have hal := Q1 ks p.fin m
 have hA : ∀ i, i < (H0 ks p.fin m).length -> 0 <= (H0 ks p.fin m).getD i 0 /\ (H0 ks p.fin m).getD i 0 <= p.fin := λi hi => by
  rw [hal] at hi
  have e : (H0 ks p.fin m).getD i 0 = outE ks p.fin i := by
   unfold H0
   rw [d2d, List.getElem?_map, List.getElem?_range hi]; rfl
  rw [e]
  unfold outE
  have a1 := d2m (ks.getD i 0) (by omega : p.fin + 1 ≠ 0)
  have a2 := d2k (ks.getD i 0) (by omega : (0 : Int) < p.fin + 1)
  omega
 obtain ⟨r, s⟩ := b8V (H0 ks p.fin m) p.fin hA (m - 1) (by omega)
 obtain ⟨r1, r2⟩ := r i (by omega)
 refine ⟨r1, r2, ?_⟩
 by_cases h : i = 0
 ·exact .inl h
 ·exact .inr (s i (by omega) (by omega))
theorem c5Y (M : List Int) (x E : Int) (hx : 0 <= x /\ x <= E) (hM : ∀ i, i < M.length -> 0 <= M.getD i 0 /\ M.getD i 0 <= E /\ (i = 0 \/ M.getD (i - 1) 0 <= M.getD i 0)) : ∀ i, i < M.length -> 0 <= (a8N M x).getD i 0 /\ (a8N M x).getD i 0 <= E /\ (i = 0 \/ (a8N M x).getD (i - 1) 0 <= (a8N M x).getD i 0) := by
 intro i hi
 have at' : ∀ j, j < M.length -> (a8N M x).getD j 0 = if j = M.length - 1 then (if M.getD (M.length - 1) 0 < x then x else M.getD (M.length - 1) 0) else M.getD j 0 := λj hj => by
  unfold a8N
  rw [d2d, List.getElem?_set]
  by_cases h : M.length - 1 = j
  ·rw [if_pos h, if_pos h.symm, if_pos (by omega)]; rfl
  ·rw [if_neg h, if_neg (λe => h e.symm), <- d2d]
 obtain ⟨m1, m2, m3⟩ := hM i hi
 have q := hM (M.length - 1) (by omega)
 rw [at' i hi]
 by_cases h : i = M.length - 1
 ·subst h
  rw [if_pos rfl]
  refine ⟨by split <;> omega, by split <;> omega, ?_⟩
  rcases m3 with m3 | m3
  ·exact .inl m3
  ·by_cases h2 : M.length - 1 = 0
   ·exact .inl h2
   ·right
    rw [at' _ (by omega), if_neg (by omega)]
    split <;> omega
 ·rw [if_neg h]
  refine ⟨m1, m2, ?_⟩
  rcases m3 with m3 | m3
  ·exact .inl m3
  ·right
   rw [at' _ (by omega), if_neg (by omega)]
   exact m3
theorem a91 (M : List Int) (x : Int) : (a8N M x).length = M.length := by unfold a8N; rw [List.length_set]
theorem b3G (l : List Ou) (f g : Nat -> List D) (hf : ∀ i, i < l.length -> f i = ousG l i) (hg : ∀ i, i < l.length -> g i = ousG l i) (h : ∀ i, i < l.length -> (l.getD i ⟨0, [], 0⟩).y.length < 2 ^ 62) (hl : l.length < 2 ^ 62) : Con Tryz.prog 29 [.d (.bor l.length f), .d (.bor l.length g)] (fB true) := by
 refine b7 b0P rfl f5 ?_
 refine evx @b25.eq_1 ?_
 refine r5 (n := l.length) (λc t => ∃ i : Nat, c + i = l.length /\ t = ⟨[(0, .d (.bor l.length f)), (1, .d (.bor l.length g)), (5, fI i)], []⟩) ⟨0, by omega, rfl⟩ ?_
 rintro c t ⟨i, hc, rfl⟩
 refine evx @a6y.eq_1 ?_
 refine b9 (λhi => ?_) (λhi => ?_)
 ·replace hi := d2b hi
  have hh := h i (by omega)
  have gi := hg i (by omega)
  have fi := hf i (by omega)
  refine evx (And.intro fi (And.intro gi @ousG.eq_1)) ?_
  repeat with_reducible refine andO ?_
  refine a0 (a4P (l.getD i ⟨0, [], 0⟩).y hh) rfl ?_
  refine evx (And.intro fi (And.intro gi @ousG.eq_1)) ?_
  repeat with_reducible refine andO ?_
  refine a0 (a4N (l.getD i ⟨0, [], 0⟩).bound (l.getD i ⟨0, [], 0⟩).bound) rfl ?_
  rw [a63]
  refine ev ?_
  rw [f0 (by omega) (by omega)]
  exact ⟨c - 1, by omega, i + 1, by omega, rfl⟩
 ·refine ev ?_
  exact g9
abbrev oL (a b : Rn × List Ou × Int) (f20 f19 : List (List V)) (Lr : Heap) : Heap := (20, f20) :: (19, f19) :: (12, [edC b]) :: (11, [edC a]) :: Lr
theorem c0n (a b : Rn × List Ou × Int) (f20 f19 : List (List V)) (Lr : Heap) (i : Nat) (hi : i < a.2.1.length) (hla : a.2.1.length <= 1000) (hlb : b.2.1.length <= 1000) (hy : ∀ i, i < a.2.1.length -> (a.2.1.getD i ⟨0, [], 0⟩).y.length < 2 ^ 62)
  (he : ∀ j, j < b.2.1.length -> (a.2.1.getD i ⟨0, [], 0⟩).pos = (b.2.1.getD j ⟨0, [], 0⟩).pos -> a.2.1.getD i ⟨0, [], 0⟩ = b.2.1.getD j ⟨0, [], 0⟩) (Q : Ex -> T -> Prop)
  (hQ : ∀ (k : Nat) (w : V), Q (.exit 6) ⟨[(9, .ptr 11 0 0 14), (10, .ptr 12 0 0 14), (13, fI i), (14, fI k), (139, w)], oL a b f20 f19 Lr⟩) :
  WA Tryz.prog (λ_ => False) 171 (.loop H4) Q ⟨[(9, .ptr 11 0 0 14), (10, .ptr 12 0 0 14), (13, fI i), (14, fI 0)], oL a b f20 f19 Lr⟩ := by
 refine r5 (n := b.2.1.length) (λc t => ∃ k : Nat, c + k = b.2.1.length /\ t = ⟨[(9, .ptr 11 0 0 14), (10, .ptr 12 0 0 14), (13, fI i), (14, fI k)], oL a b f20 f19 Lr⟩) ⟨0, by omega, rfl⟩ ?_
 rintro c t ⟨k, hc, rfl⟩
 refine evx @H4.eq_1 ?_
 refine b9 (λhk => ?_) (λhk => ?_)
 ·replace hk := d2b hk
  have hk' : k < b.2.1.length := by omega
  have w1 : IntKind.i64.wrap ((i : Int) + 1) = ((i + 1 : Nat) : Int) := by rw [f0 (by omega) (by omega)]; omega
  have w2 : IntKind.i64.wrap ((k : Int) + 1) = ((k + 1 : Nat) : Int) := by rw [f0 (by omega) (by omega)]; omega
  refine evx (And.intro @ousG.eq_1 (And.intro w1 w2)) ?_
  repeat with_reducible refine andO ?_
  cases hp : (a.2.1.getD i ⟨0, [], 0⟩).pos == (b.2.1.getD k ⟨0, [], 0⟩).pos with
  | false =>
   refine evx (And.intro w1 w2) ?_
   exact ⟨c - 1, by omega, k + 1, by omega, rfl⟩
  | true =>
   have e := he k hk' (by simpa using hp)
   refine evx (And.intro w1 w2) ?_
   refine ⟨i, i + 1, ⟨_, rfl⟩, ⟨_, rfl⟩, by omega, by omega, rfl, λ_ => rfl, k, k + 1, ⟨_, rfl⟩, ⟨_, rfl⟩, by omega, by omega, rfl, λ_ => rfl, ?_⟩
   rw [show i + 1 - i = 1 by omega, show k + 1 - k = 1 by omega]
   have f1 : ∀ j, j < [a.2.1.getD i ⟨0, [], 0⟩].length -> ousG a.2.1 (i + j) = ousG [a.2.1.getD i ⟨0, [], 0⟩] j := λj hj => by
    have : j = 0 := by simpa using hj
    subst this; rfl
   have f2 : ∀ j, j < [a.2.1.getD i ⟨0, [], 0⟩].length -> ousG b.2.1 (k + j) = ousG [a.2.1.getD i ⟨0, [], 0⟩] j := λj hj => by
    have : j = 0 := by simpa using hj
    subst this
    rw [e]; rfl
   have f3 : ∀ j, j < [a.2.1.getD i ⟨0, [], 0⟩].length -> ([a.2.1.getD i ⟨0, [], 0⟩].getD j ⟨0, [], 0⟩).y.length < 2 ^ 62 := λj hj => by
    have : j = 0 := by simpa using hj
    subst this
    exact hy i hi
   have f4 : [a.2.1.getD i ⟨0, [], 0⟩].length < 2 ^ 62 := by show 1 < 2 ^ 62; decide
   refine a0 (b3G [a.2.1.getD i ⟨0, [], 0⟩] _ _ f1 f2 f3 f4) rfl ?_
   refine evx w2 ?_
   exact ⟨c - 1, by omega, k + 1, by omega, rfl⟩
 ·refine ev ?_
  exact hQ _ _
theorem c0p (a b : Rn × List Ou × Int) (f20 f19 : List (List V)) (Lr : Heap) (hla : a.2.1.length <= 1000) (hlb : b.2.1.length <= 1000) (hy : ∀ i, i < a.2.1.length -> (a.2.1.getD i ⟨0, [], 0⟩).y.length < 2 ^ 62)
  (he : ∀ i j, i < a.2.1.length -> j < b.2.1.length -> (a.2.1.getD i ⟨0, [], 0⟩).pos = (b.2.1.getD j ⟨0, [], 0⟩).pos -> a.2.1.getD i ⟨0, [], 0⟩ = b.2.1.getD j ⟨0, [], 0⟩) (Q : Ex -> T -> Prop)
  (hQ : ∀ (k : Nat) (w : V), Q (.exit 4) ⟨[(9, .ptr 11 0 0 14), (10, .ptr 12 0 0 14), (13, fI k), (132, w)], oL a b f20 f19 Lr⟩) :
  WA Tryz.prog (λ_ => False) 171 (.loop H5) Q ⟨[(9, .ptr 11 0 0 14), (10, .ptr 12 0 0 14), (13, fI 0)], oL a b f20 f19 Lr⟩ := by
 refine r5 (n := a.2.1.length) (λc t => ∃ i : Nat, c + i = a.2.1.length /\ t = ⟨[(9, .ptr 11 0 0 14), (10, .ptr 12 0 0 14), (13, fI i)], oL a b f20 f19 Lr⟩) ⟨0, by omega, rfl⟩ ?_
 rintro c t ⟨i, hc, rfl⟩
 refine evx @H5.eq_1 ?_
 refine b9 (λhi => ?_) (λhi => ?_)
 ·replace hi := d2b hi
  have w1 : IntKind.i64.wrap ((i : Int) + 1) = ((i + 1 : Nat) : Int) := by rw [f0 (by omega) (by omega)]; omega
  refine ev ?_
  refine c0n a b f20 f19 Lr i (by omega) hla hlb hy (λj hj => he i j (by omega) hj) _ λk w => ?_
  refine evx w1 ?_
  exact ⟨c - 1, by omega, i + 1, by omega, rfl⟩
 ·refine ev ?_
  exact hQ _ _
def outR : CA := cR (cR (cR (cR (cR (cR (cR (cR G6)))))))
theorem a2s {p : Pb} {o : List Int} (hst : Pst p) (hst2 : Pst (po p o)) (sh : List V) (w : Sl) :
  WA Tryz.prog (λ_ => False) 171 outR (M4 (λ_ => False) 171 [(4, none)] (fB true) []) ⟨[(5, .ptr 5 0 0 13), (6, .ptr 6 0 0 13)] ++ w, [(6, [pbCo p (rowI o)]), (5, [pbC p]), (0, [sh])]⟩ := by
 refine a1K _ _ _ ?_
 simp -implicitDefEqProofs only [evI, hv, effC, reduceCtorEq, ↓reduceIte, n1_, n2_, n3_, n4_, n5_, i1_, i2_, i3_, i4_, i5_, i6_, i7_, outR, cR, G6, List.cons_append]
 refine d5 (a1C p hst.k2 hst.v) rfl ?_
 refine ev ?_
 refine d5 (a1C (po p o) hst2.k2 hst2.v) rfl ?_
 have tw := b7x hst hst2
 have sa := c14 hst
 have sb := c14 hst2
 generalize a1W p = a at tw sa
 generalize a1W (po p o) = b at tw sb
 obtain ⟨ra, la, ea⟩ := a
 obtain ⟨rb, lb, eb⟩ := b
 obtain ⟨⟨nb, t1⟩, t2, _, _, t5⟩ := tw
 have t1 : rb = wn ra nb := t1
 have t2 : eb = ea := t2
 subst t1
 subst t2
 simp only at t5
 refine ev ?_
 refine d5 (a92 ra) rfl ?_
 refine ev ?_
 refine d5 (a92 (wn ra nb)) rfl ?_
 refine ev ?_
 refine a0 (b5A (wn ra 0) ⟨sa.l.z, sa.l.last⟩) rfl ?_
 refine ev ?_
 have hoa := hst.v.outsl
 have hob := hst2.v.outsl
 have s1 : la.length <= p.outs.length := sa.len
 have s2 : lb.length <= (po p o).outs.length := sb.len
 have hy : ∀ i, i < la.length -> (la.getD i ⟨0, [], 0⟩).y.length < 2 ^ 62 := λi hi => by
  have q1 : (la.getD i ⟨0, [], 0⟩).y.length = p.t.n := (sa.ou i hi).y
  have q2 := hst.k2.n
  omega
 refine c0p (ra, la, eb) (wn ra nb, lb, eb) _ _ _ (by show la.length <= 1000; omega) (by show lb.length <= 1000; omega) hy t5 _ λk w => ?_
 refine ev ?_
 exact g9
theorem l12_IvpOutputs_con (n first least tol fin : Int) (ns ms outs : List Int) (dv : Bool) (ks : List Int) (_hks : ks.length < 2 ^ 62) : Con Tryz.prog 6 [.agg (shC n first least tol fin ns ms outs dv), .d (rowI ks)] (fB true) := by
 refine b2W a3j rfl f5 ?_
 unfold G6
 refine a6m ?_
 refine ev ?_
 refine a6m ?_
 refine ev ?_
 refine a0 (b35) rfl ?_
 refine ev ?_
 refine a6m ?_
 refine ev ?_
 refine a0 (b7L n first least tol fin ns ms outs dv) rfl ?_
 by_cases hfew : ns.length <= 60 /\ ms.length <= 60 /\ outs.length <= 60
 ·rw [decide_eq_true hfew]
  refine ev ?_
  refine a6m ?_
  refine ev ?_
  refine d5 (a7V n first least tol fin ns ms outs dv hfew.1 hfew.2.1 hfew.2.2) rfl ?_
  refine ev ?_
  refine d5 (a7V n first least tol fin ns ms outs dv hfew.1 hfew.2.1 hfew.2.2) rfl ?_
  have hst := c8p n first least tol fin ns ms outs dv
  generalize mkPb n first least tol fin ns ms outs dv = p at hst
  refine ev ?_
  refine a6m ?_
  refine ev ?_
  refine a6m ?_
  refine ev ?_
  have hsh : ∀ L, KpA L (shC n first least tol fin ns ms outs dv) := (λL => by simp only [G5]; exact ⟨Kp_d _, Kp_d _, Kp_d _, Kp_d _, Kp_d _, Kp_d _, Kp_d _, Kp_d _, Kp_d _, a0x⟩)
  refine c0r p ks _ hsh hst.v.fin _ (λh w => ?_) (λh w => ?_)
  ·refine ev ?_
   refine a6m ?_
   refine ev ?_
   refine r5 (n := 0) (λc s => s = ⟨_, _⟩) rfl ?_
   rintro c s rfl
   refine evx @B8.eq_1 ?_
   refine c4E ?_
   refine evx @H2 ?_
   have key : ∃ t', Le (λ_ => False) (T.s 171 ⟨[(5, .ptr 5 0 0 13), (6, .ptr 6 0 0 13), (80, fB false)], oH p .nil (shC n first least tol fin ns ms outs dv)⟩) (T.s 171 t') /\ WA Tryz.prog (λ_ => False) 171 outR (M4 (λ_ => False) 171 [(4, none)] (fB true) []) t' := by
    refine ⟨⟨[(5, .ptr 5 0 0 13), (6, .ptr 6 0 0 13), (80, fB false)], [(6, [pbCo p (rowI [])]), (5, [pbC p]), (0, [shC n first least tol fin ns ms outs dv])]⟩, ?_, a2s hst (c77 hst [] (by simp) λi hi => by simp at hi) _ [(80, fB false)]⟩
    have hz : ∀ L L' : Heap, Fz L L' .nil (.d (rowI [])) := λL L' => .d (.nil _)
    exact LeT.weak (λ_ h => h) (by simp (maxDischargeDepth := 6) [fzS]) (by simp (maxDischargeDepth := 6) [fzS, hz])
   by_cases hp0 : 0 < p.outs.length
   ·have hp0' : decide ((0 : Int) < (p.outs.length : Int)) = true := decide_eq_true (by omega)
    rw [hp0']
    refine evx @H2 ?_
    exact key
   ·have hp0' : decide ((0 : Int) < (p.outs.length : Int)) = false := decide_eq_false (by omega)
    rw [hp0']
    refine evx @H2 ?_
    exact key
  ·refine ev ?_
   refine a6m ?_
   refine ev ?_
   refine c0q _ _ (Q1 _ _ _) (by omega) p _ _ λw => ?_
   refine ev ?_
   refine c4E ?_
   refine evx @H2 ?_
   have mo := c5D hst ks (min ks.length 6) (by omega)
   have ml : (maxL (H0 ks p.fin (min ks.length 6)) (min ks.length 6 - 1)).length = min ks.length 6 := by rw [a3J, Q1]
   generalize maxL (H0 ks p.fin (min ks.length 6)) (min ks.length 6 - 1) = M at mo ml
   obtain ⟨m, hm⟩ : ∃ m, m = min ks.length 6 := ⟨_, rfl⟩
   rw [<- hm] at mo ml ⊢
   have hm0 : 0 < m /\ m <= 6 := by omega
   have hz : ∀ (o : List Int), o.length = m -> ∀ L L' : Heap, L.get 18 0 = some (k7 o) -> L'.get 18 0 = none -> Fz L L' (.sl 18 0 0 m 1 m) (.d (rowI o)) := λo ho L L' a b => c4J a ho b
   by_cases hp0 : 0 < p.outs.length
   ·have hp0' : decide ((0 : Int) < (p.outs.length : Int)) = true := decide_eq_true (by omega)
    have hm0' : decide ((0 : Int) < (m : Int)) = true := decide_eq_true (by omega)
    have hol := hst.v.outsl
    have wm : IntKind.i64.wrap ((m : Int) - 1) = ((m - 1 : Nat) : Int) := by rw [f0 (by omega) (by omega)]; omega
    have wp : IntKind.i64.wrap ((p.outs.length : Int) - 1) = ((p.outs.length - 1 : Nat) : Int) := by rw [f0 (by omega) (by omega)]; omega
    have g1 : (k7 M).getD (m - 1) .any = fI (M.getD (m - 1) 0) := a0Q (by omega)
    rw [hp0']
    refine evx (And.intro @H2 (And.intro hm0' (And.intro wm (And.intro wp g1)))) ?_
    refine ⟨by omega, ⟨ml, by omega⟩, by omega, by omega, ⟨ml, by omega⟩, ?_⟩
    subst ml
    obtain ⟨x, hx⟩ : ∃ x, x = p.outs.getD (p.outs.length - 1) 0 := ⟨_, rfl⟩
    rw [<- hx]
    have hxo := hst.v.outs (p.outs.length - 1) (by omega)
    rw [<- hx] at hxo
    have hz1 := hz (a8N M x) (a91 M x)
    have key : ∃ t', Le (λ_ => False) (T.s 171 ⟨[(5, .ptr 5 0 0 13), (6, .ptr 6 0 0 13)], (18, [k7 (a8N M x)]) :: oH p (.sl 18 0 0 M.length 1 M.length) (shC n first least tol fin ns ms outs dv)⟩) (T.s 171 t') /\ WA Tryz.prog (λ_ => False) 171 outR (M4 (λ_ => False) 171 [(4, none)] (fB true) []) t' := by
     refine ⟨⟨[(5, .ptr 5 0 0 13), (6, .ptr 6 0 0 13)], [(6, [pbCo p (rowI (a8N M x))]), (5, [pbC p]), (0, [shC n first least tol fin ns ms outs dv])]⟩, ?_, a2s hst (c77 hst (a8N M x) (by rw [a91]; omega) (by rw [a91]; exact c5Y M x p.fin ⟨hxo.1, hxo.2.1⟩ mo)) _ []⟩
     exact LeT.weak (λ_ h => h) (by simp (maxDischargeDepth := 6) [fzS]) (by simp (maxDischargeDepth := 6) [fzS, hz1])
    exact key
   ·have hp0' : decide ((0 : Int) < (p.outs.length : Int)) = false := decide_eq_false (by omega)
    rw [hp0']
    refine evx @H2 ?_
    have hz1 := hz M ml
    have key : ∃ t', Le (λ_ => False) (T.s 171 ⟨[(5, .ptr 5 0 0 13), (6, .ptr 6 0 0 13), (80, fB false)], (18, [k7 M]) :: oH p (.sl 18 0 0 m 1 m) (shC n first least tol fin ns ms outs dv)⟩) (T.s 171 t') /\ WA Tryz.prog (λ_ => False) 171 outR (M4 (λ_ => False) 171 [(4, none)] (fB true) []) t' := by
     refine ⟨⟨[(5, .ptr 5 0 0 13), (6, .ptr 6 0 0 13), (80, fB false)], [(6, [pbCo p (rowI M)]), (5, [pbC p]), (0, [shC n first least tol fin ns ms outs dv])]⟩, ?_, a2s hst (c77 hst M (by omega) (by rw [ml]; exact mo)) _ [(80, fB false)]⟩
     exact LeT.weak (λ_ h => h) (by simp (maxDischargeDepth := 6) [fzS]) (by simp (maxDischargeDepth := 6) [fzS, hz1])
    exact key
 ·rw [decide_eq_false hfew]
  refine ev ?_
  exact g9
end Go.Ab
