import Derived.Test.YtponkmbigjmmoaaGreatGQ
set_option linter.unusedSimpArgs false
set_option linter.unusedVariables false
set_option maxRecDepth 16000
namespace Go.Ab
open Nat renaming reduceEqDiff -> n1_, reduceAdd -> n2_, reduceMul -> n3_, reduceLT -> n4_, reduceLeDiff -> n5_
open Int renaming reduceToNat -> i1_, reduceAdd -> i2_, reduceSub -> i3_, reduceMul -> i4_, reduceNeg -> i5_, reduceLT -> i6_, reduceLE -> i7_
open Go Go.Proofs
theorem b5d (p : Pb) (s : Sta) (hp : Pok p) (hs : s.ok p.t) : Con Tryz.prog 93 [pbV p, staV s] (trdV (tryP p s)) := by
 have hs' := hs
 obtain ⟨hn, hg, hf, hsl⟩ := hs
 obtain ⟨hm, ⟨j, hj, hst⟩, hk, hc, hpos⟩ := hn
 obtain ⟨⟨pos, st, o, m, z⟩, g, f, sl⟩ := s
 simp only at hm hst hk hc hpos hg hf hsl
 have hsr := a5J j hj
 obtain ⟨q, rfl⟩ : ∃ q : Nat, o = q := ⟨o.toNat, by omega⟩
 rw [Int.toNat_natCast] at hk
 have hm' : (m = 0 /\ 1 <= q /\ q <= 5) \/ (m = 1 /\ 1 <= q /\ q <= 4) := by omega
 have hpn := hp.t.n
 have hq9 : q < 1000 := by omega
 have hq10 : q + 1 < 1000 := by omega
 have hn40 : p.t.n < 2 ^ 40 := by omega
 have hZ := a9r hk q
 have hpred := a8J z q p.t.n hk hq9 hn40
 have hof := c1a m q hm'
 have hofl : (ofL m q).length = q + 1 := (c5t m q hm').2
 have hz0 := hk.2 0 (by omega)
 have hzl := hk.1
 have hwt := a8Q (z.getD 0 []) p.atol p.rtol (by omega)
 have hwl : (wtP (z.getD 0 []) p.atol p.rtol).length = p.t.n := by rw [c1y]; exact hz0
 have ok : Sok p.t (a16 z p.t.n q) (ofL m q) (wtP (z.getD 0 []) p.atol p.rtol) (List.replicate p.t.n 0) := ⟨hp.t, by have := hZ.1; omega, λi hi => hZ.2 i (by omega), by omega, hwl, by simp⟩
 have hsol := b1P p.t (a16 z p.t.n q) (ofL m q) (hW (2 ^ j)) (wtP (z.getD 0 []) p.atol p.rtol) ((2 ^ j : Nat) : Int) m hp.n ok (a0Z j hj)
 rw [<- hst] at hsol
 have htry : tryP p ⟨⟨pos, st, q, m, z⟩, g, f, sl⟩ = (let c := solG p.t (a16 z p.t.n q) (ofL m q) (hW (2 ^ j)) (wtP (z.getD 0 []) p.atol p.rtol) m
  if c.2.2 ≠ 0 then a66 p ⟨⟨pos, st, q, m, z⟩, g, f, sl⟩ c.2.2 0 else
   let err := fop .div (szP c.1 (wtP (z.getD 0 []) p.atol p.rtol)) (FloatKind.nearest .f64 ((q : Int) + 1))
   if fcmp .le err 4607182418800017408 = true then a4G p ⟨⟨pos, st, q, m, z⟩, g, f, sl⟩ (a16 z p.t.n q) (ofL m q) c.1 err else a66 p ⟨⟨pos, st, q, m, z⟩, g, f, sl⟩ 0 err) := by
  unfold tryP
  simp only [Int.toNat_natCast, hst]
 rw [htry]
 have htake := λd err hd => b3H p ⟨⟨pos, st, q, m, z⟩, g, f, sl⟩ (a16 z p.t.n q) (ofL m q) d err hp hs' (by rw [Int.toNat_natCast]; exact hZ) (a5H hc _ _) (by rw [Int.toNat_natCast]; exact hofl) hd
 have hfail := λe err => b1z p ⟨⟨pos, st, q, m, z⟩, g, f, sl⟩ e err hp hs'
 have hform := a9C p.t (a16 z p.t.n q) (ofL m q) (hW (2 ^ j)) (wtP (z.getD 0 []) p.atol p.rtol) m
 generalize solG p.t (a16 z p.t.n q) (ofL m q) (hW (2 ^ j)) (wtP (z.getD 0 []) p.atol p.rtol) m = c at hsol hform
 have hZc := a5H hc p.t.n q
 generalize a16 z p.t.n q = Z at hpred htake hZ hsol hZc
 generalize ofL m q = l at hof hofl htake hsol
 generalize wtP (z.getD 0 []) p.atol p.rtol = w at hwt hwl hsol
 clear htry ok
 have w3 : IntKind.i64.wrap ((q : Int) + 1) = (q : Int) + 1 := f0 (by omega) (by omega)
 have hsz' : ∀ g' : List Nat, g'.length = p.t.n -> Con Tryz.prog 139 [.d (rowD g'), .d (rowD w)] (fl (szP g' w)) := λg' h => a1E g' w (by omega) (by omega)
 have hhalf : ∃ j' : Nat, j' < 60 /\ st / 2 = (2 ^ j' : Nat) \/ st <= p.least := by
  by_cases c1 : st <= p.least
  ·exact ⟨0, .inr c1⟩
  ·have hl := hp.least
   obtain ⟨i, rfl⟩ : ∃ i, j = i + 1 := ⟨j - 1, by
    rcases j with _ | j
    ·simp at hst; omega
    ·omega⟩
   refine ⟨i, .inl ⟨by omega, ?_⟩⟩
   rw [hst, Nat.pow_succ]; omega
 refine b7 b0F rfl f5 ?_
 refine evx @b2Y.eq_1 ?_
 first | refine a0 (hpred) rfl ?_ | refine d7 (hpred) rfl ?_ | refine d5 (hpred) rfl ?_
 refine ev ?_
 first | refine a0 (hof) rfl ?_ | refine d7 (hof) rfl ?_ | refine d5 (hof) rfl ?_
 refine ev ?_
 repeat with_reducible refine andO ?_
 first | refine a0 (hwt) rfl ?_ | refine d7 (hwt) rfl ?_ | refine d5 (hwt) rfl ?_
 refine ev ?_
 have w1 : IntKind.i64.wrap (f + 1) = f + 1 := f0 (by omega) (by omega)
 have w2 : IntKind.i64.wrap (sl + 1) = sl + 1 := f0 (by omega) (by omega)
 have w4 : IntKind.i64.wrap (pos + st) = pos + st := f0 (by omega) (by omega)
 have w5 : IntKind.i64.wrap (st.tdiv 2) = st / 2 := by rw [Int.tdiv_eq_ediv_of_nonneg (by omega)]; exact f0 (by omega) (by omega)
 have hown := b5c z (q + 1) p.t.n hk hc hq10 hn40
 have hre := R9 z (q + 1) p.t.n hk hq10 hn40 (-1) (by decide)
 have d2 : ¬ (2 : Int) = 0 := by decide
 rcases hform with ⟨g', k', hgl, rfl⟩ | ⟨k', e, hne, rfl⟩
 case' inl =>
  simp only [ne_eq, not_true_eq_false, if_false, ↓reduceIte]
  have hsz := hsz' g' hgl
  obtain ⟨e, he0⟩ : ∃ e : Int, e = 0 := ⟨_, rfl⟩
  have hd : (e != 0) = false := by simp [he0]
  rw [<- he0] at hsol
  first | refine a0 (hsol) rfl ?_ | refine d7 (hsol) rfl ?_ | refine d5 (hsol) rfl ?_
  simp -implicitDefEqProofs only [evI, hv, effC, reduceCtorEq, ↓reduceIte, n1_, n2_, n3_, n4_, n5_, i1_, i2_, i3_, i4_, i5_, i6_, i7_, hd]
  first | refine a0 (hsz) rfl ?_ | refine d7 (hsz) rfl ?_ | refine d5 (hsz) rfl ?_
  refine evx w3 ?_
  generalize fop .div (szP g' w) (FloatKind.nearest .f64 ((q : Int) + 1)) = err
  cases he : fcmp .le err 4607182418800017408 with
  | true =>
   simp only [if_true]
   have hcor := a8K Z (q + 1) p.t.n hZ hq10 hn40 l g' hofl hgl
   have htk := b1t p ⟨⟨pos, st, q, m, z⟩, g, f, sl⟩ Z l g' err hp hs' (by rw [Int.toNat_natCast]; exact hZ) hZc (by rw [Int.toNat_natCast]; exact hofl) hgl
   have hnn : (a4G p ⟨⟨pos, st, q, m, z⟩, g, f, sl⟩ Z l g' err) = ⟨(a4G p ⟨⟨pos, st, q, m, z⟩, g, f, sl⟩ Z l g' err).s, ⟨pos + st, st, q, m, a44 Z l g' (q + 1) p.t.n⟩, true, err, 0⟩ := rfl
   rw [hnn]
   rw [show (a4G p ⟨⟨pos, st, q, m, z⟩, g, f, sl⟩ Z l g' err).n = ⟨pos + st, st, q, m, a44 Z l g' (q + 1) p.t.n⟩ from rfl] at htk
   clear hnn
   generalize (a4G p ⟨⟨pos, st, q, m, z⟩, g, f, sl⟩ Z l g' err).s = S1 at htk
   generalize a44 Z l g' (q + 1) p.t.n = C at htk hcor
   refine evx w4 ?_
   first | refine a0 (hcor) rfl ?_ | refine d7 (hcor) rfl ?_ | refine d5 (hcor) rfl ?_
   refine ev ?_
   first | refine a0 (htk) rfl ?_ | refine d7 (htk) rfl ?_ | refine d5 (htk) rfl ?_
   refine ev ?_
   exact f9 rfl (by decide) rfl rfl rfl (by simp) rfl
  | false => ?_
  simp only [Bool.false_eq_true, if_false]
  rw [show a66 p ⟨⟨pos, st, q, m, z⟩, g, f, sl⟩ 0 err = a66 p ⟨⟨pos, st, q, m, z⟩, g, f, sl⟩ e err by rw [he0]]
  refine ev ?_
  refine evx @a1L.eq_1 ?_
 case' inr =>
  have hne' : ¬ (e = 0) := hne
  simp only [ne_eq, hne', not_false_eq_true, if_true]
  have hd : (e != 0) = true := by simp [hne']
  first | refine a0 (hsol) rfl ?_ | refine d7 (hsol) rfl ?_ | refine d5 (hsol) rfl ?_
  simp -implicitDefEqProofs only [evI, hv, effC, reduceCtorEq, ↓reduceIte, n1_, n2_, n3_, n4_, n5_, i1_, i2_, i3_, i4_, i5_, i6_, i7_, hd]
  refine evx @a1L.eq_1 ?_
 all_goals
  first | refine a0 (hown) rfl ?_ | refine d7 (hown) rfl ?_ | refine d5 (hown) rfl ?_
  unfold a66
  simp only [Int.toNat_natCast]
  by_cases c1 : st <= p.least
  ·rw [if_pos c1]
   have c1' : decide (st <= p.least) = true := decide_eq_true c1
   refine evx c1' ?_
   by_cases e4 : e = 4
   ·have e4' : (e == 4) = true := by simpa using e4
    rw [if_pos (.inl e4)]
    refine evx e4' ?_
    exact j6 _ (λ_ h => h) (g8 (by decide) rfl rfl rfl (by simp) rfl) (C6 _ ⟨⟨pos, st, q, m, z⟩, g, f, sl⟩ _ e)
   ·have e4' : (e == 4) = false := by simpa using e4
    by_cases e2 : e = 2
    ·have e2' : (e == 2) = true := by simpa using e2
     rw [if_pos (.inr e2)]
     refine evx (And.intro e4' e2') ?_
     exact j6 _ (λ_ h => h) (g8 (by decide) rfl rfl rfl (by simp) rfl) (C6 _ ⟨⟨pos, st, q, m, z⟩, g, f, sl⟩ _ e)
    ·have e2' : (e == 2) = false := by simpa using e2
     rw [if_neg (by simp [e4, e2])]
     refine evx (And.intro e4' e2') ?_
     exact j6 _ (λ_ h => h) (g8 (by decide) rfl rfl rfl (by simp) rfl) (C6 _ ⟨⟨pos, st, q, m, z⟩, g, f, sl⟩ _ 5)
  ·rw [if_neg c1]
   have c1' : decide (st <= p.least) = false := decide_eq_false c1
   obtain ⟨S, hS⟩ : ∃ S, S = J9 z (-1) (q + 1) p.t.n := ⟨_, rfl⟩
   replace hhalf : ∃ j' : Nat, j' < 60 /\ st / 2 = (2 ^ j' : Nat) := by
    obtain ⟨j', h | h⟩ := hhalf
    ·exact ⟨j', h⟩
    ·exact absurd h c1
   have hrkS := J8 hk (-1) (q + 1) p.t.n
   rw [<- hS] at hre hrkS ⊢
   refine evx (And.intro c1' (And.intro w1 w2)) ?_
   have c2 : (e = 6 /\ m = 0) \/ e ≠ 6 \/ (e = 6 /\ m ≠ 0) := by omega
   obtain ⟨sl', hsl'⟩ : ∃ sl', sl' = if e = 6 /\ m = 0 then sl + 1 else sl := ⟨_, rfl⟩
   have hslr : 0 <= sl' /\ sl' < 2000000000 := by rw [hsl']; split <;> omega
   rw [<- hsl']
   rcases c2 with c2 | c2 | c2
   case' inl =>
    rw [if_pos c2] at hsl'
    have m0 : (m == 0) = true := by rw [c2.2]; rfl
    have e6 : (e == 6) = true := by rw [c2.1]; rfl
    refine evx (And.intro e6 (And.intro m0 (And.intro w2 w5))) ?_
    refine ⟨d2, ?_⟩
    first | refine a0 (hre) rfl ?_ | refine d7 (hre) rfl ?_ | refine d5 (hre) rfl ?_
    rw [<- hsl']
    refine ev ?_
   case' inr.inl =>
    rw [if_neg (λh => c2 h.1)] at hsl'
    have e6 : (e == 6) = false := by simpa using c2
    refine evx (And.intro e6 (And.intro w2 w5)) ?_
    refine ⟨d2, ?_⟩
    first | refine a0 (hre) rfl ?_ | refine d7 (hre) rfl ?_ | refine d5 (hre) rfl ?_
    rw [<- hsl']
    refine ev ?_
   case' inr.inr =>
    rw [if_neg (λh => c2.2 h.2)] at hsl'
    have m0 : (m == 0) = false := by simpa using c2.2
    have e6 : (e == 6) = true := by rw [c2.1]; rfl
    refine evx (And.intro e6 (And.intro m0 (And.intro w2 w5))) ?_
    refine ⟨d2, ?_⟩
    first | refine a0 (hre) rfl ?_ | refine d7 (hre) rfl ?_ | refine d5 (hre) rfl ?_
    rw [<- hsl']
    refine ev ?_
   all_goals
    by_cases c3 : 2 <= sl'
    ·have c3' : decide (2 <= sl') = true := decide_eq_true c3
     rw [if_pos c3]
     refine evx c3' ?_
     first | refine a0 (D0 p ⟨pos, st / 2, q, 1, S⟩ hp hhalf hrkS) rfl ?_ | refine d7 (D0 p ⟨pos, st / 2, q, 1, S⟩ hp hhalf hrkS) rfl ?_ | refine d5 (D0 p ⟨pos, st / 2, q, 1, S⟩ hp hhalf hrkS) rfl ?_
     refine ev ?_
     exact j6 _ (λ_ h => h) (g8 (by decide) rfl rfl rfl (by simp) rfl) (C6 _ ⟨a53 p ⟨pos, st / 2, q, 1, S⟩, 0, 0, 0⟩ _ 0)
    ·have c3' : decide (2 <= sl') = false := decide_eq_false c3
     rw [if_neg c3]
     refine evx c3' ?_
     by_cases c4 : f + 1 < 3
     ·have c4' : decide (f + 1 < 3) = true := decide_eq_true (by omega)
      rw [if_pos c4]
      refine evx c4' ?_
      exact j6 _ (λ_ h => h) (g8 (by decide) rfl rfl rfl (by simp) rfl) (C6 _ ⟨⟨pos, st / 2, q, m, S⟩, 0, f + 1, sl'⟩ _ 0)
     ·have c4' : decide (f + 1 < 3) = false := decide_eq_false (by omega)
      rw [if_neg c4]
      refine evx c4' ?_
      first | refine a0 (D0 p ⟨pos, st / 2, q, m, S⟩ hp hhalf hrkS) rfl ?_ | refine d7 (D0 p ⟨pos, st / 2, q, m, S⟩ hp hhalf hrkS) rfl ?_ | refine d5 (D0 p ⟨pos, st / 2, q, m, S⟩ hp hhalf hrkS) rfl ?_
      refine ev ?_
      exact j6 _ (λ_ h => h) (g8 (by decide) rfl rfl rfl (by simp) rfl) (C6 _ ⟨a53 p ⟨pos, st / 2, q, m, S⟩, 0, 0, sl'⟩ _ 0)
def b03 : CA := (.seq (.reg [i_K 0 4 0] [0, 1]) (.seq (.reg [i_M 0 6 0, i_M 1 7 1, i_N 2 8 .rem 6 7, i_M 3 5 8] [1, 5]) (.seq (.seq (.reg [i_M 0 9 5, i_B 1 10 .lss 9 0] [1, 5, 10]) (.cond (.t 10) (.reg [i_M 0 11 5, i_M 1 12 1, i_N 2 13 .add 11 12, i_M 3 5 13] [5]) .skip)) (.seq (.reg [i_M 0 14 5, i_M 1 4 14] [4]) .ret))))
theorem a86 : f7 Tryz.prog 79 = some ⟨15, [(4, none)], b03.strip⟩ := by kernel_rfl
def a0j : CA := (.seq (.seq (.reg [i_M 0 18 8, i_P 1 19 7 0, i_L 2 20 19 1, i_N 3 21 .lss 18 20] [0, 1, 2, 6, 7, 8, 21]) (.cond (.t 21) .skip (.exit 0))) (.seq (.block 1 (.reg [i_P 0 24 7 1, i_L 1 25 24 1, i_M 2 26 8, i_X 3 27 (.h (.build [fI 0, fI 0, fI 0, fl 0] [(0, (1, (kI 1))), (1, (1, (.t 26)))])), i_X 4 28 (.bslice [fI 0, fI 0, fI 0, fl 0] 1 4 [(0, (4, (.t 27)))] 81), i_X 5 29 (.app (.t 25) (.t 28) 4 32), i_P 6 30 7 1, i_S 7 30 29 1] [0, 1, 2, 6, 7, 8])) (.reg [i_M 0 22 8, i_B 1 23 .add 22 1, i_M 2 8 23] [0, 1, 2, 6, 7, 8])))
def a3g : CA := (.seq (.seq (.reg [i_M 0 42 9, i_M 1 43 1, i_X 2 44 (.h (.len (.t 43))), i_N 3 45 .lss 42 44, i_M 4 46 45, g_T 5 47 46 (.h (.mov (.t 9))), g_T 6 48 46 (.h (.ibin .lss (.t 47) (kI 8))), i_X 7 49 (.h (.pick (.t 46) (.t 48) (.k (.d (.bool false)))))] [0, 1, 2, 6, 7, 9, 49]) (.cond (.t 49) .skip (.exit 2))) (.seq (.block 3 (.seq (.reg [i_M 0 52 1, i_M 1 53 9, i_I 2 54 52 53 1, i_L 3 55 54 1, i_M 4 10 55] [0, 1, 2, 6, 7, 9, 10]) (.seq (.reg [i_P 0 56 7 1, i_L 1 57 56 1, i_X 2 58 (.h (.len (.t 57))), i_M 3 11 58] [0, 1, 2, 6, 7, 9, 10, 11]) (.seq (.reg [i_M 0 59 10, i_X 1 60 (.callA (kF 79) [(.t 59), (kI 3)]), i_X 2 61 (.h (.ibin .add (kI 2) (.t 60))), i_M 3 62 10, i_B 4 63 .quo 62 4, i_M 5 64 11, i_X 6 65 (.callA (kF 79) [(.t 63), (.t 64)]), i_M 7 66 10, i_B 8 67 .quo 66 40, i_M 9 68 11, i_X 10 69 (.callA (kF 79) [(.t 67), (.t 68)]), i_X 11 70 (.h (.build [fI 0, fI 0, fI 0, fl 0] [(0, (1, (.t 61))), (1, (1, (.t 65))), (2, (1, (.t 69)))])), i_X 12 12 (.alloc [fI 0, fI 0, fI 0, fl 0] 81), i_S 13 12 70 4] [0, 1, 2, 6, 7, 9, 10, 12]) (.seq (.seq (.reg [i_M 0 71 2, i_M 1 72 71, g_T 2 73 72 (.h (.mov (.t 10))), g_T 3 74 72 (.callA (kF 79) [(.t 73), (kI 7)]), g_T 4 75 72 (.h (.ibin .eql (.t 74) (kI 0))), i_X 5 76 (.h (.pick (.t 72) (.t 75) (.k (.d (.bool false)))))] [0, 1, 2, 6, 7, 9, 10, 12, 76]) (.cond (.t 76) (.reg [i_P 0 77 12 0, ⟨1, none, none, [], [], (.store (.t 77) (kI 5) 1)⟩] [0, 1, 2, 6, 7, 9, 10, 12]) .skip)) (.seq (.seq (.reg [i_M 0 78 10, i_X 1 79 (.callA (kF 79) [(.t 78), (kI 11)]), i_B 2 80 .eql 79 0] [0, 1, 2, 6, 7, 9, 10, 12, 80]) (.cond (.t 80) (.reg [i_M 0 81 10, i_B 1 82 .quo 81 11, i_X 2 83 (.callA (kF 79) [(.t 82), (kI 33)]), i_B 3 84 .sub 83 16, i_X 4 85 (.h (.i2f (.t 84))), i_X 5 86 (.h (.fbin .div (.t 85) (.k (.d (.flt 4620693217682128896))))), i_X 6 87 (.h (.build [fI 0, fI 0, fI 0, fl 0] [(0, (1, (kI 0))), (3, (1, (.t 86)))])), i_S 7 12 87 4] [0, 1, 2, 6, 7, 9, 12]) .skip)) (.reg [i_P 0 88 7 1, i_L 1 89 88 1, i_A 2 90 12 4, i_X 3 91 (.bslice [fI 0, fI 0, fI 0, fl 0] 1 4 [(0, (4, (.t 90)))] 81), i_X 4 92 (.app (.t 89) (.t 91) 4 32), i_P 5 93 7 1, i_S 6 93 92 1] [0, 1, 2, 6, 7, 9]))))))) (.reg [i_M 0 50 9, i_B 1 51 .add 50 1, i_M 2 9 51] [0, 1, 2, 6, 7, 9])))
def a0g : CA := (.seq (.seq (.reg [i_M 0 94 13, i_P 1 95 7 0, i_L 2 96 95 1, i_N 3 97 .lss 94 96] [0, 6, 7, 13, 97]) (.cond (.t 97) .skip (.exit 4))) (.seq (.block 5 (.reg [i_P 0 100 7 2, i_L 1 101 100 1, i_P 2 102 7 1, i_L 3 103 102 1, i_X 4 104 (.h (.len (.t 103))), i_B 5 105 .sub 104 1, i_M 6 106 0, i_B 7 107 .quo 106 3, i_M 8 108 13, i_N 9 109 .add 107 108, i_P 10 110 7 1, i_L 11 111 110 1, i_X 12 112 (.h (.len (.t 111))), i_X 13 113 (.h (.mm false (kI 3) (.t 112))), i_X 14 114 (.callS 14 (kF 79) [(.t 109), (.t 113)]), i_N 15 115 .sub 105 114, i_X 16 116 (.bslice [fI 0] 1 1 [(0, (1, (.t 115)))] 3), i_X 17 117 (.app (.t 101) (.t 116) 1 8), i_P 18 118 7 2, i_S 19 118 117 1] [0, 6, 7, 13])) (.reg [i_M 0 98 13, i_B 1 99 .add 98 1, i_M 2 13 99] [0, 6, 7, 13])))
def b6J : CA := (.seq (.reg [i_X 0 6 (.alloc [fI 0, .nil, .nil] 28)] [0, 1, 2, 6]) (.seq (.reg [i_M 0 14 0, i_X 1 15 (.callA (kF 79) [(.t 14), (kI 3)]), i_X 2 16 (.h (.ibin .add (kI 1) (.t 15))), i_X 3 17 (.h (.build [fI 0, .nil, .nil] [(0, (1, (.t 16)))])), i_X 4 7 (.alloc [fI 0, .nil, .nil] 28), i_S 5 7 17 3] [0, 1, 2, 6, 7]) (.seq (.seq (.reg [i_K 0 8 0] [0, 1, 2, 6, 7, 8]) (.block 0 (.loop a0j))) (.seq (.reg [i_P 0 31 7 1, i_L 1 32 31 1, i_M 2 33 0, i_X 3 34 (.callS 3 (kF 79) [(.t 33), (kI 17)]), i_B 4 35 .sub 34 8, i_X 5 36 (.h (.i2f (.t 35))), i_X 6 37 (.h (.fbin .div (.t 36) (.k (.d (.flt 4616189618054758400))))), i_X 7 38 (.h (.build [fI 0, fI 0, fI 0, fl 0] [(0, (1, (kI 0))), (3, (1, (.t 37)))])), i_X 8 39 (.bslice [fI 0, fI 0, fI 0, fl 0] 1 4 [(0, (4, (.t 38)))] 81), i_X 9 40 (.app (.t 32) (.t 39) 4 32), i_P 10 41 7 1, i_S 11 41 40 1] [0, 1, 2, 6, 7]) (.seq (.seq (.reg [i_K 0 9 0] [0, 1, 2, 6, 7, 9]) (.block 2 (.loop a3g))) (.seq (.seq (.reg [i_K 0 13 0] [0, 6, 7, 13]) (.block 4 (.loop a0g))) (.seq (.reg [i_A 0 119 7 3, i_S 1 6 119 3] [6]) .ret)))))))
theorem b14 : f7 Tryz.prog 36 = some ⟨120, [(6, (some (3, true)))], b6J.strip⟩ := by kernel_rfl
theorem n7 (a n : Int) (hn : 0 < n) (hn2 : n < 2 ^ 62) : Con Tryz.prog 79 [fI a, fI n] (fI (a % n)) := by
 rw [<- b3r a n hn]
 refine b7 a86 rfl f5 ?_
 refine evx @b03.eq_1 ?_
 refine ⟨by omega, ?_⟩
 have h1 := Int.tmod_lt_of_pos a hn
 have h6 := Int.lt_tmod_of_pos a hn
 refine b9 (λh => ?_) (λh => ?_)
 ·refine ev ?_
  replace h := d2b h
  rw [f0 (by omega) (by omega), if_pos h]
  exact g9
 ·replace h := d2c h
  refine ev ?_
  rw [if_neg h]
  exact g9
def mkOp (ns : List Int) (div : Bool) (at' : Nat) (i : Nat) : OpN :=
 let k := ns.getD i 0
 if k % 11 = 0 then ⟨0, 0, 0, fop .div (FloatKind.nearest .f64 (IntKind.i64.wrap (k.tdiv 11) % 33 - 16)) 4620693217682128896⟩
 else ⟨if div = true /\ k % 7 = 0 then 5 else 2 + k % 3, IntKind.i64.wrap (k.tdiv 4) % at', IntKind.i64.wrap (k.tdiv 40) % at', 0⟩
def M6 (N : Nat) : List OpN := (List.range N).map λ(i : Nat) => ⟨1, i, 0, 0⟩
def b4D (n : Int) (N : Nat) : List OpN := M6 N ++ [⟨0, 0, 0, fop .div (FloatKind.nearest .f64 (n % 17 - 8)) 4616189618054758400⟩]
def K5 (n : Int) (ns : List Int) (div : Bool) (N : Nat) : Nat -> List OpN
 | 0 => b4D n N
 | i + 1 => K5 n ns div N i ++ [mkOp ns div (N + 1 + i) i]
def b3W (n : Int) (L : Nat) (i : Nat) : Int := (L : Int) - 1 - (IntKind.i64.wrap (IntKind.i64.wrap (n.tdiv 3) + i)) % (min 3 L : Nat)
def mkT (n : Int) (ns : List Int) (div : Bool) : Tp :=
 let N := (n % 3).toNat + 1
 let m := min ns.length 8
 ⟨N, K5 n ns div N m, (List.range N).map λi => b3W n (N + 1 + m) i⟩
theorem W6 (n : Int) (ns : List Int) (div : Bool) (N i : Nat) : (K5 n ns div N i).length = N + 1 + i := by
 induction i with
 | zero => simp [K5, b4D, M6]
 | succ i ih => simp [K5, ih]; omega
def Oko' (o : OpN) (i n : Nat) : Prop := o.k = 0 \/ (o.k = 1 /\ 0 <= o.a /\ o.a < n) \/ ((o.k = 2 \/ o.k = 3 \/ o.k = 4 \/ o.k = 5) /\ (0 <= o.a /\ o.a < i) /\ 0 <= o.b /\ o.b < i)
theorem Z8 (xs : List OpN) (o : OpN) (i : Nat) (h : xs.length = i) : g7 i (opG xs) ++ [fI o.k, fI o.a, fI o.b, fl o.c] = g7 (i + 1) (opG (xs ++ [o])) := by
 rw [E1]
 have e : g7 i (opG (xs ++ [o])) = g7 i (opG xs) := by
  unfold g7
  rw [a2E λj hj => ?_]
  have : (xs ++ [o]).getD j ⟨0, 0, 0, 0⟩ = xs.getD j ⟨0, 0, 0, 0⟩ := by rw [d2d, d2g (by omega), <- d2d]
  simp only [opG, this]
 have e2 : (xs ++ [o]).getD i ⟨0, 0, 0, 0⟩ = o := by rw [d2d, d2j (by omega), h, Nat.sub_self]; rfl
 rw [e]
 congr 1
 simp only [opG, e2, List.map_cons, List.map_nil]
theorem b3T (xs : List OpN) (i : Nat) : (g7 i (opG xs)).length = i * 4 := u9 i λ_ _ => rfl
theorem b6Z (i : Nat) : M6 (i + 1) = M6 i ++ [⟨1, i, 0, 0⟩] := by simp [M6, List.range_succ]
theorem a3B (i : Nat) : (M6 i).length = i := by simp [M6]
abbrev m0S (n : Int) (ns : List Int) (div : Bool) (i : Nat) : Sl := [(0, fI n), (1, .d (rowI ns)), (2, fB div), (6, .ptr 0 0 0 3), (7, .ptr 5 0 0 3), (8, fI i)]
abbrev m1S (n : Int) (ns : List Int) (div : Bool) (i : Nat) : Sl := [(0, fI n), (1, .d (rowI ns)), (2, fB div), (6, .ptr 0 0 0 3), (7, .ptr 5 0 0 3), (9, fI i)]
abbrev mTop : List V := [fI 0, .nil, .nil]
theorem c5W (n : Int) (ns : List Int) (div : Bool) (N : Nat) (hN : 0 < N /\ N <= 3) (Q : Ex -> T -> Prop)
  (hQ : ∀ w, Q (.exit 0) ⟨m0S n ns div N ++ [w], [(11, [g7 N (opG (M6 N))]), (5, [[fI N, .sl 11 0 0 N 4 (N * 4), .nil]]), (0, [mTop])]⟩) :
  WA Tryz.prog (λ_ => False) 120 (.loop a0j) Q ⟨m0S n ns div 0, [(5, [[fI N, .nil, .nil]]), (0, [mTop])]⟩ := by
 refine j5 (n := N) (λc s => ∃ i, c + i = N /\ ((i = 0 /\ s = ⟨m0S n ns div 0, [(5, [[fI N, .nil, .nil]]), (0, [mTop])]⟩) \/ (0 < i /\ s = ⟨m0S n ns div i, [(11, [g7 i (opG (M6 i))]), (5, [[fI N, .sl 11 0 0 i 4 (i * 4), .nil]]), (0, [mTop])]⟩))) (Le.refl _) ⟨0, rfl, .inl ⟨rfl, rfl⟩⟩ ?_
 rintro c s ⟨i, hc, ⟨rfl, rfl⟩ | ⟨hi, rfl⟩⟩
 ·refine evx @a0j.eq_1 ?_
  have h0 : decide ((0 : Int) < (N : Int)) = true := by simp; omega
  refine evx h0 ?_
  rw [show IntKind.i64.wrap 1 = ((0 + 1 : Nat) : Int) from by decide]
  exact ⟨c - 1, _, by omega, LeT.only (L' := [(11, [g7 (0 + 1) (opG (M6 (0 + 1)))]), (5, [[fI N, .sl 11 0 0 (0 + 1) 4 ((0 + 1) * 4), .nil]]), (0, [mTop])]) (λX => X != 10) (λ_ h => h) rfl (by simp [kpS]) (by simp [kpS]), 0 + 1, by omega, .inr ⟨by omega, rfl⟩⟩
 ·have hl := b3T (M6 i) i
  refine evx @a0j.eq_1 ?_
  refine b9 (λh => ?_) (λh => ?_)
  ·replace h := d2b h
   refine ev ?_
   repeat with_reducible refine andO ?_
   have e := Z8 (M6 i) ⟨1, i, 0, 0⟩ i (a3B i)
   rw [<- b6Z] at e
   have e4 : i * 4 + 4 = (i + 1) * 4 := by omega
   rw [f0 (by omega) (by omega), e4]
   simp only [] at e
   rw [e]
   exact ⟨c - 1, _, by omega, LeT.only (λX => decide (X <= 11)) (λ_ h => h) rfl (by simp [kpS]) (by simp [kpS]), i + 1, by omega, .inr ⟨by omega, rfl⟩⟩
  ·replace h := d2c h
   have e : i = N := by omega
   subst e
   refine ev ?_
   exact hQ _
abbrev m1T (n : Int) (ns : List Int) (div : Bool) (N i : Nat) : T := ⟨m1S n ns div i, [(11, [g7 (N + 1 + i) (opG (K5 n ns div N i))]), (5, [[fI N, .sl 11 0 0 (N + 1 + i) 4 ((N + 1 + i) * 4), .nil]]), (0, [mTop])]⟩
theorem c5V (n : Int) (ns : List Int) (div : Bool) (N : Nat) (hN : 0 < N /\ N <= 3) (hns : ns.length < 2 ^ 62) (Q : Ex -> T -> Prop)
  (hQ : ∀ w, Q (.exit 2) ⟨m1S n ns div (min ns.length 8) ++ [w], (m1T n ns div N (min ns.length 8)).L⟩) :
  WA Tryz.prog (λ_ => False) 120 (.loop a3g) Q (m1T n ns div N 0) := by
 refine j5 (n := min ns.length 8) (λc s => ∃ i, c + i = min ns.length 8 /\ s = m1T n ns div N i) (Le.refl _) ⟨0, by omega, rfl⟩ ?_
 rintro c s ⟨i, hc, rfl⟩
 have hl := W6 n ns div N i
 have hcl := b3T (K5 n ns div N i) (N + 1 + i)
 have hnx : K5 n ns div N (i + 1) = K5 n ns div N i ++ [mkOp ns div (N + 1 + i) i] := rfl
 refine evx @a3g.eq_1 ?_
 by_cases h1 : i < ns.length
 ·have h1' : decide (i < ns.length) = true := decide_eq_true h1
  by_cases h2 : i < 8
  ·have h2' : decide ((i : Int) < 8) = true := by simp; omega
   refine evx (And.intro h1' h2') ?_
   repeat with_reducible refine andO ?_
   generalize hk : ns.getD i 0 = k
   have ho : mkOp ns div (N + 1 + i) i = if k % 11 = 0 then ⟨0, 0, 0, fop .div (FloatKind.nearest .f64 (IntKind.i64.wrap (k.tdiv 11) % 33 - 16)) 4620693217682128896⟩ else ⟨if div = true /\ k % 7 = 0 then 5 else 2 + k % 3, IntKind.i64.wrap (k.tdiv 4) % (N + 1 + i : Nat), IntKind.i64.wrap (k.tdiv 40) % (N + 1 + i : Nat), 0⟩ := by unfold mkOp; rw [hk]
   generalize mkOp ns div (N + 1 + i) i = o at ho hnx
   refine a0 (n7 k 3 (by decide) (by decide)) rfl ?_
   have q1 := d2m k (by decide : (3 : Int) ≠ 0)
   have q2 := d2k k (by decide : (0 : Int) < 3)
   have w2 : IntKind.i64.wrap (2 + k % 3) = 2 + k % 3 := f0 (by omega) (by omega)
   refine evx w2 ?_
   refine ⟨by decide, ?_⟩
   refine a0 (n7 (IntKind.i64.wrap (k.tdiv 4)) (N + 1 + i : Nat) (by omega) (by omega)) rfl ?_
   refine ev ?_
   refine ⟨by decide, ?_⟩
   refine a0 (n7 (IntKind.i64.wrap (k.tdiv 40)) (N + 1 + i : Nat) (by omega) (by omega)) rfl ?_
   refine ev ?_
   cases div
   ·rw [if_neg (by simp : ¬ (false = true /\ k % 7 = 0))] at ho
    refine evx hcl ?_
    refine a0 (n7 k 11 (by decide) (by decide)) rfl ?_
    by_cases h11 : k % 11 = 0
    ·rw [if_pos h11] at ho
     have h11' : (k % 11 == 0) = true := by simpa using h11
     refine evx h11' ?_
     refine ⟨by decide, ?_⟩
     refine a0 (n7 (IntKind.i64.wrap (k.tdiv 11)) 33 (by decide) (by decide)) rfl ?_
     have v1 := d2m (IntKind.i64.wrap (k.tdiv 11)) (by decide : (33 : Int) ≠ 0)
     have v2 := d2k (IntKind.i64.wrap (k.tdiv 11)) (by decide : (0 : Int) < 33)
     have v3 : IntKind.i64.wrap (IntKind.i64.wrap (k.tdiv 11) % 33 - 16) = IntKind.i64.wrap (k.tdiv 11) % 33 - 16 := f0 (by omega) (by omega)
     refine evx v3 ?_
     have e := Z8 (K5 n ns _ N i) o (N + 1 + i) hl
     rw [<- hnx, ho] at e
     simp only [] at e
     have e4 : (N + 1 + i) * 4 + 4 = (N + 1 + (i + 1)) * 4 := by omega
     have e5 : N + 1 + i + 1 = N + 1 + (i + 1) := by omega
     repeat with_reducible refine andO ?_
     rw [f0 (by omega) (by omega), e4, e, e5]
     exact ⟨c - 1, _, by omega, LeT.only (λX => X == 11 || X == 5 || X == 0) (λ_ h => h) rfl (by simp [kpS]) (by simp [kpS]), i + 1, by omega, rfl⟩
    ·rw [if_neg h11] at ho
     have h11' : (k % 11 == 0) = false := by simpa using h11
     refine evx h11' ?_
     have e := Z8 (K5 n ns _ N i) o (N + 1 + i) hl
     rw [<- hnx, ho] at e
     simp only [] at e
     have e4 : (N + 1 + i) * 4 + 4 = (N + 1 + (i + 1)) * 4 := by omega
     have e5 : N + 1 + i + 1 = N + 1 + (i + 1) := by omega
     repeat with_reducible refine andO ?_
     rw [f0 (by omega) (by omega), e4, e, e5]
     exact ⟨c - 1, _, by omega, LeT.only (λX => X == 11 || X == 5 || X == 0) (λ_ h => h) rfl (by simp [kpS]) (by simp [kpS]), i + 1, by omega, rfl⟩
   ·by_cases h7 : k % 7 = 0
    ·have hd : (true = true /\ k % 7 = 0) := ⟨rfl, h7⟩
     rw [if_pos hd] at ho
     have h7' : (k % 7 == 0) = true := by simpa using h7
     refine ev ?_
     refine a0 (n7 k 7 (by decide) (by decide)) rfl ?_
     refine evx h7' ?_
     refine a0 (n7 k 11 (by decide) (by decide)) rfl ?_
     by_cases h11 : k % 11 = 0
     ·rw [if_pos h11] at ho
      have h11' : (k % 11 == 0) = true := by simpa using h11
      refine evx h11' ?_
      refine ⟨by decide, ?_⟩
      refine a0 (n7 (IntKind.i64.wrap (k.tdiv 11)) 33 (by decide) (by decide)) rfl ?_
      have v1 := d2m (IntKind.i64.wrap (k.tdiv 11)) (by decide : (33 : Int) ≠ 0)
      have v2 := d2k (IntKind.i64.wrap (k.tdiv 11)) (by decide : (0 : Int) < 33)
      have v3 : IntKind.i64.wrap (IntKind.i64.wrap (k.tdiv 11) % 33 - 16) = IntKind.i64.wrap (k.tdiv 11) % 33 - 16 := f0 (by omega) (by omega)
      refine evx v3 ?_
      have e := Z8 (K5 n ns _ N i) o (N + 1 + i) hl
      rw [<- hnx, ho] at e
      simp only [] at e
      have e4 : (N + 1 + i) * 4 + 4 = (N + 1 + (i + 1)) * 4 := by omega
      have e5 : N + 1 + i + 1 = N + 1 + (i + 1) := by omega
      repeat with_reducible refine andO ?_
      rw [f0 (by omega) (by omega), e4, e, e5]
      exact ⟨c - 1, _, by omega, LeT.only (λX => X == 11 || X == 5 || X == 0) (λ_ h => h) rfl (by simp [kpS]) (by simp [kpS]), i + 1, by omega, rfl⟩
     ·rw [if_neg h11] at ho
      have h11' : (k % 11 == 0) = false := by simpa using h11
      refine evx h11' ?_
      have e := Z8 (K5 n ns _ N i) o (N + 1 + i) hl
      rw [<- hnx, ho] at e
      simp only [] at e
      have e4 : (N + 1 + i) * 4 + 4 = (N + 1 + (i + 1)) * 4 := by omega
      have e5 : N + 1 + i + 1 = N + 1 + (i + 1) := by omega
      repeat with_reducible refine andO ?_
      rw [f0 (by omega) (by omega), e4, e, e5]
      exact ⟨c - 1, _, by omega, LeT.only (λX => X == 11 || X == 5 || X == 0) (λ_ h => h) rfl (by simp [kpS]) (by simp [kpS]), i + 1, by omega, rfl⟩
    ·have hd : ¬ (true = true /\ k % 7 = 0) := λh => h7 h.2
     rw [if_neg hd] at ho
     have h7' : (k % 7 == 0) = false := by simpa using h7
     refine ev ?_
     refine a0 (n7 k 7 (by decide) (by decide)) rfl ?_
     refine evx h7' ?_
     refine a0 (n7 k 11 (by decide) (by decide)) rfl ?_
     by_cases h11 : k % 11 = 0
     ·rw [if_pos h11] at ho
      have h11' : (k % 11 == 0) = true := by simpa using h11
      refine evx h11' ?_
      refine ⟨by decide, ?_⟩
      refine a0 (n7 (IntKind.i64.wrap (k.tdiv 11)) 33 (by decide) (by decide)) rfl ?_
      have v1 := d2m (IntKind.i64.wrap (k.tdiv 11)) (by decide : (33 : Int) ≠ 0)
      have v2 := d2k (IntKind.i64.wrap (k.tdiv 11)) (by decide : (0 : Int) < 33)
      have v3 : IntKind.i64.wrap (IntKind.i64.wrap (k.tdiv 11) % 33 - 16) = IntKind.i64.wrap (k.tdiv 11) % 33 - 16 := f0 (by omega) (by omega)
      refine evx v3 ?_
      have e := Z8 (K5 n ns _ N i) o (N + 1 + i) hl
      rw [<- hnx, ho] at e
      simp only [] at e
      have e4 : (N + 1 + i) * 4 + 4 = (N + 1 + (i + 1)) * 4 := by omega
      have e5 : N + 1 + i + 1 = N + 1 + (i + 1) := by omega
      repeat with_reducible refine andO ?_
      rw [f0 (by omega) (by omega), e4, e, e5]
      exact ⟨c - 1, _, by omega, LeT.only (λX => X == 11 || X == 5 || X == 0) (λ_ h => h) rfl (by simp [kpS]) (by simp [kpS]), i + 1, by omega, rfl⟩
     ·rw [if_neg h11] at ho
      have h11' : (k % 11 == 0) = false := by simpa using h11
      refine evx h11' ?_
      have e := Z8 (K5 n ns _ N i) o (N + 1 + i) hl
      rw [<- hnx, ho] at e
      simp only [] at e
      have e4 : (N + 1 + i) * 4 + 4 = (N + 1 + (i + 1)) * 4 := by omega
      have e5 : N + 1 + i + 1 = N + 1 + (i + 1) := by omega
      repeat with_reducible refine andO ?_
      rw [f0 (by omega) (by omega), e4, e, e5]
      exact ⟨c - 1, _, by omega, LeT.only (λX => X == 11 || X == 5 || X == 0) (λ_ h => h) rfl (by simp [kpS]) (by simp [kpS]), i + 1, by omega, rfl⟩
  ·have h2' : decide ((i : Int) < 8) = false := by simp; omega
   have e : i = min ns.length 8 := by omega
   refine evx (And.intro h1' h2') ?_
   rw [e]
   exact hQ _
 ·have h1' : decide (i < ns.length) = false := decide_eq_false h1
  have e : i = min ns.length 8 := by omega
  refine evx h1' ?_
  rw [e]
  exact hQ _
def a38 (n : Int) (L i : Nat) : List Int := (List.range i).map λj => b3W n L j
theorem b7D (n : Int) (L i : Nat) : k7 (a38 n L i) ++ [fI (b3W n L i)] = k7 (a38 n L (i + 1)) := by simp [a38, k7, List.range_succ]
theorem b2C (n : Int) (L i : Nat) : (a38 n L i).length = i := by simp [a38]
abbrev m2S (n : Int) (i : Nat) : Sl := [(0, fI n), (6, .ptr 0 0 0 3), (7, .ptr 5 0 0 3), (13, fI i)]
theorem c5U (n : Int) (N M : Nat) (ops : List OpN) (hM : ops.length = M) (hN : 0 < N /\ N <= 3) (hM2 : 2 <= M /\ M <= 100) (Q : Ex -> T -> Prop)
  (hQ : ∀ w, Q (.exit 4) ⟨m2S n N ++ [w], [(29, [k7 (a38 n M N)]), (11, [g7 M (opG ops)]), (5, [[fI N, .sl 11 0 0 M 4 (M * 4), .sl 29 0 0 N 1 N]]), (0, [mTop])]⟩) :
  WA Tryz.prog (λ_ => False) 120 (.loop a0g) Q ⟨m2S n 0, [(11, [g7 M (opG ops)]), (5, [[fI N, .sl 11 0 0 M 4 (M * 4), .nil]]), (0, [mTop])]⟩ := by
 have hcl := b3T ops M
 refine j5 (n := N) (λc s => ∃ i, c + i = N /\ ((i = 0 /\ s = ⟨m2S n 0, [(11, [g7 M (opG ops)]), (5, [[fI N, .sl 11 0 0 M 4 (M * 4), .nil]]), (0, [mTop])]⟩) \/ (0 < i /\ s = ⟨m2S n i, [(29, [k7 (a38 n M i)]), (11, [g7 M (opG ops)]), (5, [[fI N, .sl 11 0 0 M 4 (M * 4), .sl 29 0 0 i 1 i]]), (0, [mTop])]⟩))) (Le.refl _) ⟨0, rfl, .inl ⟨rfl, rfl⟩⟩ ?_
 have hmm : (if (M : Int) < 3 then (M : Int) else 3) = ((min 3 M : Nat) : Int) := by split <;> omega
 have wM : IntKind.i64.wrap ((M : Int) - 1) = (M : Int) - 1 := f0 (by omega) (by omega)
 rintro c s ⟨i, hc, ⟨rfl, rfl⟩ | ⟨hi, rfl⟩⟩
 ·refine evx @a0g.eq_1 ?_
  have h0 : decide ((0 : Int) < (N : Int)) = true := by simp; omega
  refine evx (And.intro h0 (And.intro wM hmm)) ?_
  refine ⟨by decide, ?_⟩
  refine d5 (n7 (IntKind.i64.wrap (IntKind.i64.wrap (n.tdiv 3) + 0)) (min 3 M : Nat) (by omega) (by omega)) rfl ?_
  have u1 := d2m (IntKind.i64.wrap (IntKind.i64.wrap (n.tdiv 3) + 0)) (by omega : ((min 3 M : Nat) : Int) ≠ 0)
  have u2 := d2k (IntKind.i64.wrap (IntKind.i64.wrap (n.tdiv 3) + 0)) (by omega : (0 : Int) < ((min 3 M : Nat) : Int))
  have hmo : b3W n M 0 = (M : Int) - 1 - IntKind.i64.wrap (IntKind.i64.wrap (n.tdiv 3) + 0) % ((min 3 M : Nat) : Int) := rfl
  have wu : IntKind.i64.wrap ((M : Int) - 1 - IntKind.i64.wrap (IntKind.i64.wrap (n.tdiv 3) + 0) % ((min 3 M : Nat) : Int)) = b3W n M 0 := by rw [hmo]; exact f0 (by omega) (by omega)
  refine evx wu ?_
  rw [show IntKind.i64.wrap 1 = ((0 + 1 : Nat) : Int) from by decide]
  exact ⟨c - 1, _, by omega, LeT.only (L' := [(29, [k7 (a38 n M (0 + 1))]), (11, [g7 M (opG ops)]), (5, [[fI N, .sl 11 0 0 M 4 (M * 4), .sl 29 0 0 (0 + 1) 1 (0 + 1)]]), (0, [mTop])]) (λX => X != 28) (λ_ h => h) rfl (by simp [kpS]) (by simp [kpS]), 0 + 1, by omega, .inr ⟨by omega, rfl⟩⟩
 ·have hol := b2C n M i
  refine evx @a0g.eq_1 ?_
  refine b9 (λh => ?_) (λh => ?_)
  ·replace h := d2b h
   refine evx (And.intro wM hmm) ?_
   refine ⟨by decide, ?_⟩
   refine d5 (n7 (IntKind.i64.wrap (IntKind.i64.wrap (n.tdiv 3) + (i : Int))) (min 3 M : Nat) (by omega) (by omega)) rfl ?_
   have u1 := d2m (IntKind.i64.wrap (IntKind.i64.wrap (n.tdiv 3) + (i : Int))) (by omega : ((min 3 M : Nat) : Int) ≠ 0)
   have u2 := d2k (IntKind.i64.wrap (IntKind.i64.wrap (n.tdiv 3) + (i : Int))) (by omega : (0 : Int) < ((min 3 M : Nat) : Int))
   have hmo : b3W n M i = (M : Int) - 1 - IntKind.i64.wrap (IntKind.i64.wrap (n.tdiv 3) + (i : Int)) % ((min 3 M : Nat) : Int) := rfl
   have wu : IntKind.i64.wrap ((M : Int) - 1 - IntKind.i64.wrap (IntKind.i64.wrap (n.tdiv 3) + (i : Int)) % ((min 3 M : Nat) : Int)) = b3W n M i := by rw [hmo]; exact f0 (by omega) (by omega)
   refine evx wu ?_
   repeat with_reducible refine andO ?_
   have e1 := b7D n M i
   rw [f0 (by omega) (by omega), e1]
   exact ⟨c - 1, _, by omega, LeT.only (λX => decide (X <= 29)) (λ_ h => h) rfl (by simp [kpS]) (by simp [kpS]), i + 1, by omega, .inr ⟨by omega, rfl⟩⟩
  ·replace h := d2c h
   have e : i = N := by omega
   subst e
   refine ev ?_
   exact hQ _
theorem b7K (n : Int) (ns : List Int) (div : Bool) (hns : ns.length < 2 ^ 62) : Con Tryz.prog 36 [fI n, .d (rowI ns), fB div] (R7 (mkT n ns div)) := by
 have m1 := d2m n (by decide : (3 : Int) ≠ 0)
 have m2 := d2k n (by decide : (0 : Int) < 3)
 refine b7 b14 rfl f5 ?_
 refine evx @b6J.eq_1 ?_
 refine a0 (n7 n 3 (by decide) (by decide)) rfl ?_
 obtain ⟨N, hN⟩ : ∃ N : Nat, N = (n % 3).toNat + 1 := ⟨_, rfl⟩
 have w1 : IntKind.i64.wrap (1 + n % 3) = (N : Int) := by rw [f0 (by omega) (by omega)]; omega
 refine evx w1 ?_
 refine c5W n ns div N (by omega) _ λw => ?_
 have hl := b3T (M6 N) N
 refine ev ?_
 refine d5 (n7 n 17 (by decide) (by decide)) rfl ?_
 have r1 := d2m n (by decide : (17 : Int) ≠ 0)
 have r2 := d2k n (by decide : (0 : Int) < 17)
 have w2 : IntKind.i64.wrap (n % 17 - 8) = n % 17 - 8 := f0 (by omega) (by omega)
 refine evx w2 ?_
 repeat with_reducible refine andO ?_
 have e := Z8 (M6 N) ⟨0, 0, 0, fop .div (FloatKind.nearest .f64 (n % 17 - 8)) 4616189618054758400⟩ N (a3B N)
 simp only [] at e
 rw [e]
 have e4 : N * 4 + 4 = (N + 1 + 0) * 4 := by omega
 rw [e4]
 refine c6M (s' := m1T n ns div N 0) (LeT.only (λX => X == 11 || X == 5 || X == 0) (λ_ h => h) rfl (by simp [kpS]) (by simp [kpS])) ?_
 refine c5V n ns div N (by omega) hns _ λw => ?_
 obtain ⟨M, hM⟩ : ∃ M, M = N + 1 + min ns.length 8 := ⟨_, rfl⟩
 have hol := W6 n ns div N (min ns.length 8)
 rw [<- hM] at hol
 simp only [<- hM]
 have hT : mkT n ns div = ⟨N, K5 n ns div N (min ns.length 8), a38 n M N⟩ := by unfold mkT a38; rw [<- hN, hM]
 rw [hT]
 generalize K5 n ns div N (min ns.length 8) = ops at hol
 refine ev ?_
 refine c5U n N M ops hol (by omega) (by omega) _ λw => ?_
 have hul := b2C n M N
 refine ev ?_
 refine j6 (.agg [fI N, .sl 11 0 0 M 4 (M * 4), .sl 29 0 0 N 1 N]) (λ_ h => h) (g8 (by decide) rfl rfl rfl (by simp) rfl) (LeV.agg3 (.d (.d _)) (.d ?_) (.d ?_))
 ·unfold opsD
  rw [hol]
  exact y6 (esz := 4) (λY q h => by simp [g5] at h) (by simp [d8]) (λ_ _ => rfl) rfl
 ·exact a5C (λY q h => by simp [g5] at h) (by simp [d8]) hul rfl
theorem c0y (n : Int) (ns : List Int) (div : Bool) : (mkT n ns div).n = (n % 3).toNat + 1 := rfl
theorem c5P (n : Int) (ns : List Int) (div : Bool) (N i : Nat) : ∀ j, j < N + 1 + i -> Oko' ((K5 n ns div N i).getD j ⟨0, 0, 0, 0⟩) j N := by
 induction i with
 | zero =>
  intro j hj
  have hl := a3B N
  unfold K5 b4D
  by_cases h : j < N
  ·rw [d2d, d2g (by omega)]
   have : (M6 N)[j]? = some ⟨1, j, 0, 0⟩ := by simp [M6, h]
   rw [this]
   exact .inr (.inl ⟨rfl, by simp, by simpa using h⟩)
  ·obtain rfl : j = N := by omega
   rw [d2d, d2j (by omega), hl, Nat.sub_self]
   exact .inl rfl
 | succ i ih =>
  intro j hj
  have hl := W6 n ns div N i
  unfold K5
  by_cases h : j < N + 1 + i
  ·have := ih j h
   rw [d2d] at this ⊢
   rwa [d2g (by omega)]
  ·obtain rfl : j = N + 1 + i := by omega
   rw [d2d, d2j (by omega), hl, Nat.sub_self]
   show Oko' (mkOp ns div (N + 1 + i) i) (N + 1 + i) N
   unfold mkOp
   simp only
   split
   ·exact .inl rfl
   ·have a1 := d2m (IntKind.i64.wrap ((ns.getD i 0).tdiv 4)) (by omega : ((N + 1 + i : Nat) : Int) ≠ 0)
    have a2 := d2k (IntKind.i64.wrap ((ns.getD i 0).tdiv 4)) (by omega : (0 : Int) < ((N + 1 + i : Nat) : Int))
    have b1 := d2m (IntKind.i64.wrap ((ns.getD i 0).tdiv 40)) (by omega : ((N + 1 + i : Nat) : Int) ≠ 0)
    have b2 := d2k (IntKind.i64.wrap ((ns.getD i 0).tdiv 40)) (by omega : (0 : Int) < ((N + 1 + i : Nat) : Int))
    have c1 := d2m (ns.getD i 0) (by decide : (3 : Int) ≠ 0)
    have c2 := d2k (ns.getD i 0) (by decide : (0 : Int) < 3)
    refine .inr (.inr ⟨?_, ⟨a1, a2⟩, b1, b2⟩)
    simp only
    split <;> omega
theorem c7c (n : Int) (ns : List Int) (div : Bool) : Tok (mkT n ns div) := by
 have m1 := d2m n (by decide : (3 : Int) ≠ 0)
 have m2 := d2k n (by decide : (0 : Int) < 3)
 have hl := W6 n ns div ((n % 3).toNat + 1) (min ns.length 8)
 refine ⟨?_, ?_, ?_, ?_, ?_⟩
 ·rw [c0y]; omega
 ·show (K5 n ns div ((n % 3).toNat + 1) (min ns.length 8)).length < 2 ^ 40
  omega
 ·intro i hi
  have hi' : i < (K5 n ns div ((n % 3).toNat + 1) (min ns.length 8)).length := hi
  exact c5P n ns div ((n % 3).toNat + 1) (min ns.length 8) i (by omega)
 ·simp [mkT]
 ·intro i hi
  rw [c0y] at hi
  have hx : (mkT n ns div).out.getD i 0 = b3W n ((n % 3).toNat + 1 + 1 + min ns.length 8) i := by
   unfold mkT
   simp only
   rw [d2d, List.getElem?_map, List.getElem?_range hi]; rfl
  rw [hx]
  show _ /\ _ < ((K5 n ns div ((n % 3).toNat + 1) (min ns.length 8)).length : Int)
  rw [hl]
  have hM : 2 <= (n % 3).toNat + 1 + 1 + min ns.length 8 := by omega
  generalize (n % 3).toNat + 1 + 1 + min ns.length 8 = M at hM
  have u1 := d2m (IntKind.i64.wrap (IntKind.i64.wrap (n.tdiv 3) + (i : Int))) (by omega : ((min 3 M : Nat) : Int) ≠ 0)
  have u2 := d2k (IntKind.i64.wrap (IntKind.i64.wrap (n.tdiv 3) + (i : Int))) (by omega : (0 : Int) < ((min 3 M : Nat) : Int))
  unfold b3W
  omega
def a8t : CA := (.seq (.reg [i_K 0 4 0] [0, 1]) (.seq (.reg [i_M 0 6 0, i_M 1 7 1, i_N 2 8 .rem 6 7, i_M 3 5 8] [1, 5]) (.seq (.seq (.reg [i_M 0 9 5, i_B 1 10 .lss 9 0] [1, 5, 10]) (.cond (.t 10) (.reg [i_M 0 11 5, i_M 1 12 1, i_N 2 13 .add 11 12, i_M 3 5 13] [5]) .skip)) (.seq (.reg [i_M 0 14 5, i_M 1 4 14] [4]) .ret))))
theorem a7B : f7 Tryz.prog 38 = some ⟨15, [(4, none)], a8t.strip⟩ := by kernel_rfl
def a3m : CA := (.seq (.reg [i_X 0 1 (.box (.t 0) 9 24), i_X 1 2 (.h (.mov (.k (.d (.bool false)))))] [1]) (.seq (.reg [i_P 0 3 1 5, i_L 1 4 3 1, i_X 2 5 (.h (.len (.t 4))), i_B 3 6 .leq 5 60, i_M 4 7 6, g_T 5 8 7 (.h (.padd (.t 1) 6)), g_T 6 9 7 (.load (.t 8) 1 false), g_T 7 10 7 (.h (.len (.t 9))), g_T 8 11 7 (.h (.ibin .leq (.t 10) (kI 60))), i_X 9 12 (.h (.pick (.t 7) (.t 11) (.k (.d (.bool false))))), i_M 10 13 12, g_T 11 14 13 (.h (.padd (.t 1) 7)), g_T 12 15 13 (.load (.t 14) 1 false), g_T 13 16 13 (.h (.len (.t 15))), g_T 14 17 13 (.h (.ibin .leq (.t 16) (kI 60))), i_X 15 18 (.h (.pick (.t 13) (.t 17) (.k (.d (.bool false))))), i_M 16 2 18] [2]) .ret))
theorem a30 : f7 Tryz.prog 16 = some ⟨19, [(2, none)], a3m.strip⟩ := by kernel_rfl
def a4t : CA := (.seq (.seq (.reg [i_M 0 8 6, i_M 1 9 0, i_N 2 10 .lss 8 9] [0, 1, 5, 6, 10]) (.cond (.t 10) .skip (.exit 0))) (.seq (.block 1 (.seq (.reg [i_M 0 13 6, i_M 1 7 13] [0, 1, 5, 6, 7]) (.seq (.seq (.reg [i_M 0 14 6, i_M 1 15 1, i_X 2 16 (.h (.len (.t 15))), i_N 3 17 .lss 14 16] [0, 1, 5, 6, 7, 17]) (.cond (.t 17) (.reg [i_M 0 18 1, i_M 1 19 6, i_I 2 20 18 19 1, i_L 3 21 20 1, i_M 4 7 21] [0, 1, 5, 6, 7]) .skip)) (.reg [i_M 0 22 5, i_M 1 23 7, i_X 2 24 (.callA (kF 79) [(.t 23), (kI 65)]), i_B 3 25 .sub 24 32, i_X 4 26 (.h (.i2f (.t 25))), i_X 5 27 (.h (.fbin .div (.t 26) (.k (.d (.flt 4620693217682128896))))), i_X 6 28 (.bslice [fl 0] 1 1 [(0, (1, (.t 27)))] 31), i_X 7 29 (.app (.t 22) (.t 28) 1 8), i_M 8 5 29] [0, 1, 5, 6])))) (.reg [i_M 0 11 6, i_B 1 12 .add 11 1, i_M 2 6 12] [0, 1, 5, 6])))
def b04 : CA := (.seq (.reg [i_X 0 4 (.h (.mov (.k .nil)))] [0, 1]) (.seq (.reg [i_X 0 5 (.h (.mov (.k .nil)))] [0, 1, 5]) (.seq (.seq (.reg [i_K 0 6 0] [0, 1, 5, 6]) (.block 0 (.loop a4t))) (.seq (.reg [i_M 0 30 5, i_M 1 4 30] [4]) .ret))))
theorem a87 : f7 Tryz.prog 37 = some ⟨31, [(4, none)], b04.strip⟩ := by kernel_rfl
theorem y4 (a n : Int) (hn : 0 < n) (hn2 : n < 2 ^ 62) : Con Tryz.prog 38 [fI a, fI n] (fI (a % n)) := by
 rw [<- b3r a n hn]
 refine b7 a7B rfl f5 ?_
 refine evx @a8t.eq_1 ?_
 refine ⟨by omega, ?_⟩
 have h1 := Int.tmod_lt_of_pos a hn
 have h6 := Int.lt_tmod_of_pos a hn
 refine b9 (λh => ?_) (λh => ?_)
 ·refine ev ?_
  replace h := d2b h
  rw [f0 (by omega) (by omega), if_pos h]
  exact g9
 ·replace h := d2c h
  refine ev ?_
  rw [if_neg h]
  exact g9
def Zl (z : List (List Nat)) : Prop := z.length < 2 ^ 62 /\ ∀ i, i < z.length -> (z.getD i []).length < 2 ^ 62
theorem d1Y {m n : Nat} {z : List (List Nat)} (h : Rk m n z) (hm : m < 1000) (hn : n < 2 ^ 40) : Zl z :=
 ⟨by have := h.1; omega, λi hi => by have := h.2 i (by have := h.1; omega); omega⟩
theorem b5D (s : Sta) (h : Zl s.n.z) : Con Tryz.prog 60 [staV s, staV s] (fB true) := by
 obtain ⟨n, g, f, sl⟩ := s
 refine b7 b0V rfl f5 ?_
 refine evx @b29.eq_1 ?_
 first | refine a0 (a4M n h.1 h.2) rfl ?_ | refine d7 (a4M n h.1 h.2) rfl ?_ | refine d5 (a4M n h.1 h.2) rfl ?_
 refine ev ?_
 exact g9
abbrev shC (n first least tol fin : Int) (ns ms outs : List Int) (dv : Bool) : List V := [fI n, fI first, fI least, fI tol, fI fin, .d (rowI ns), .d (rowI ms), .d (rowI outs), fB dv]
theorem b7L (n first least tol fin : Int) (ns ms outs : List Int) (dv : Bool) : Con Tryz.prog 16 [.agg (shC n first least tol fin ns ms outs dv)] (fB (decide (ns.length <= 60 /\ ms.length <= 60 /\ outs.length <= 60))) := by
 refine b7 a30 rfl f5 ?_
 refine evx @a3m.eq_1 ?_
 by_cases h1 : ns.length <= 60
 ·by_cases h2 : ms.length <= 60
  ·by_cases h3 : outs.length <= 60
   ·have k1 : decide ((ns.length : Int) <= 60) = true := decide_eq_true (by omega)
    have k2 : decide ((ms.length : Int) <= 60) = true := decide_eq_true (by omega)
    have k3 : decide ((outs.length : Int) <= 60) = true := decide_eq_true (by omega)
    refine evx (And.intro k1 (And.intro k2 k3)) ?_
    rw [decide_eq_true ⟨h1, h2, h3⟩]
    exact g9
   ·have k1 : decide ((ns.length : Int) <= 60) = true := decide_eq_true (by omega)
    have k2 : decide ((ms.length : Int) <= 60) = true := decide_eq_true (by omega)
    have k3 : decide ((outs.length : Int) <= 60) = false := decide_eq_false (by omega)
    refine evx (And.intro k1 (And.intro k2 k3)) ?_
    rw [decide_eq_false (λh => h3 h.2.2)]
    exact g9
  ·have k1 : decide ((ns.length : Int) <= 60) = true := decide_eq_true (by omega)
   have k2 : decide ((ms.length : Int) <= 60) = false := decide_eq_false (by omega)
   refine evx (And.intro k1 k2) ?_
   rw [decide_eq_false (λh => h2 h.2.1)]
   exact g9
 ·have k1 : decide ((ns.length : Int) <= 60) = false := decide_eq_false (by omega)
  refine evx k1 ?_
  rw [decide_eq_false (λh => h1 h.1)]
  exact g9
def valN (k : Int) : Nat := fop .div (FloatKind.nearest .f64 (k % 65 - 32)) 4620693217682128896
def a9y (n : Nat) (ms : List Int) : List Nat := tabR (λi => valN (if i < ms.length then ms.getD i 0 else i)) n
theorem b34 (n : Nat) (ms : List Int) (hn : n < 1000) (hms : ms.length < 2 ^ 62) : Con Tryz.prog 37 [fI n, .d (rowI ms)] (.d (rowD (a9y n ms))) := by
 have numw : ∀ k : Int, IntKind.i64.wrap (k % 65 - 32) = k % 65 - 32 := by
  intro k
  have h1 := d2m k (by decide : (65 : Int) ≠ 0)
  have h2 := d2k k (by decide : (0 : Int) < 65)
  exact f0 (by omega) (by omega)
 refine b2V (X := 100) (n := n) ?_ (k8 _ _)
 refine k9 a87 rfl f5 (λ_ => False) (by simp [g5]) ?_
 refine evx @b04.eq_1 ?_
 unfold a9y
 refine j5 (n := n) (λc s => ∃ i, c + i = n /\ s = ⟨[(0, fI n), (1, .d (rowI ms)), (5, .sl 100 0 0 i 1 i), (6, fI i)], [(100, [rowV (tabR (λi => valN (if i < ms.length then ms.getD i 0 else i)) i)])]⟩)
  (s0 := ⟨_, _⟩) (LeT.nilrow (X := 100) (esz := 1) (as' := [(0, fI n), (1, .d (rowI ms)), (5, .sl 100 0 0 0 1 0), (6, fI 0)]) rfl (λh => h) λi => ?_) ⟨0, by omega, rfl⟩ ?_
 ·simp only [look]
  repeat' split
  all_goals simp [rowI]
 rintro c s ⟨i, hc, rfl⟩
 have hl := k8 (λi => valN (if i < ms.length then ms.getD i 0 else i)) i
 refine evx @a4t.eq_1 ?_
 refine b9 (λh => ?_) (λh => ?_)
 ·replace h := d2b h
  refine ev ?_
  have e := J6 (λi => valN (if i < ms.length then ms.getD i 0 else i)) i
  refine b9 (λh3 => ?_) (λh3 => ?_)
  ·replace h3 := d2b h3
   refine ev ?_
   repeat with_reducible refine andO ?_
   refine a0 (n7 (ms.getD i 0) 65 (by decide) (by decide)) rfl ?_
   refine evx numw ?_
   repeat with_reducible refine andO ?_
   have e2 : V.d (.flt (fop .div (FloatKind.nearest .f64 (ms.getD i 0 % 65 - 32)) 4620693217682128896)) = fl (valN (if i < ms.length then ms.getD i 0 else i)) := by rw [if_pos h3]; rfl
   rw [f0 (by omega) (by omega), e2, <- e]
   exact ⟨c - 1, _, by omega, LeT.only (λX => decide (X <= 100)) (λ_ h => h) rfl (by simp [kpS]) (by simp [kpS]), i + 1, by omega, rfl⟩
  ·replace h3 := d2c h3
   refine ev ?_
   refine a0 (n7 i 65 (by decide) (by decide)) rfl ?_
   refine evx numw ?_
   repeat with_reducible refine andO ?_
   have e2 : V.d (.flt (fop .div (FloatKind.nearest .f64 ((i : Int) % 65 - 32)) 4620693217682128896)) = fl (valN (if i < ms.length then ms.getD i 0 else i)) := by rw [if_neg (by omega)]; rfl
   rw [f0 (by omega) (by omega), e2, <- e]
   exact ⟨c - 1, _, by omega, LeT.only (λX => decide (X <= 100)) (λ_ h => h) rfl (by simp [kpS]) (by simp [kpS]), i + 1, by omega, rfl⟩
 ·replace h := d2c h
  have e : i = n := by omega
  subst e
  refine ev ?_
  exact b6d (λ_ h => h) (f8 (t := 4) (by decide) rfl) rfl
end Go.Ab
namespace Go.Ab
open Nat renaming reduceEqDiff -> n1_, reduceAdd -> n2_, reduceMul -> n3_, reduceLT -> n4_, reduceLeDiff -> n5_
open Int renaming reduceToNat -> i1_, reduceAdd -> i2_, reduceSub -> i3_, reduceMul -> i4_, reduceNeg -> i5_, reduceLT -> i6_, reduceLE -> i7_
open Go Go.Proofs
def C4 : CA := (.seq (.seq (.reg [i_M 0 22 4, i_P 1 23 3 0, i_P 2 24 23 0, i_L 3 25 24 1, i_N 4 26 .lss 22 25] [1, 2, 3, 4, 26]) (.cond (.t 26) .skip (.exit 0))) (.seq (.block 1 (.reg [i_P 0 29 3 3, i_L 1 30 29 1, i_P 2 31 3 4, i_L 3 32 31 1, i_M 4 33 4, i_I 5 34 32 33 1, i_L 6 35 34 1, i_X 7 36 (.h (.fbin .sub (.t 35) (.k (.d (.flt 4625196817309499392))))), i_P 8 37 3 4, i_L 9 38 37 1, i_M 10 39 4, i_I 11 40 38 39 1, i_L 12 41 40 1, i_X 13 42 (.h (.fbin .add (.t 41) (.k (.d (.flt 4625196817309499392))))), i_X 14 43 (.h (.build [fl 0, fl 0] [(0, (1, (.t 36))), (1, (1, (.t 42)))])), i_X 15 44 (.bslice [fl 0, fl 0] 1 2 [(0, (2, (.t 43)))] 83), i_X 16 45 (.app (.t 30) (.t 44) 2 16), i_P 17 46 3 3, i_S 18 46 45 1] [1, 2, 3, 4])) (.reg [i_M 0 27 4, i_B 1 28 .add 27 1, i_M 2 4 28] [1, 2, 3, 4])))
def C3 : CA := (.seq (.seq (.reg [i_M 0 92 5, i_P 1 93 1 7, i_L 2 94 93 1, i_X 3 95 (.h (.len (.t 94))), i_N 4 96 .lss 92 95, i_M 5 97 96, g_T 6 98 97 (.h (.mov (.t 5))), g_T 7 99 97 (.h (.ibin .lss (.t 98) (kI 8))), i_X 8 100 (.h (.pick (.t 97) (.t 99) (.k (.d (.bool false)))))] [1, 2, 3, 5, 100]) (.cond (.t 100) .skip (.exit 2))) (.seq (.block 3 (.reg [i_P 0 103 3 12, i_L 1 104 103 1, i_P 2 105 1 7, i_L 3 106 105 1, i_M 4 107 5, i_I 5 108 106 107 1, i_L 6 109 108 1, i_P 7 110 3 5, i_L 8 111 110 1, i_B 9 112 .add 111 1, i_X 10 113 (.callS 10 (kF 38) [(.t 109), (.t 112)]), i_X 11 114 (.bslice [fI 0] 1 1 [(0, (1, (.t 113)))] 3), i_X 12 115 (.app (.t 104) (.t 114) 1 8), i_P 13 116 3 12, i_S 14 116 115 1] [1, 2, 3, 5])) (.reg [i_M 0 101 5, i_B 1 102 .add 101 1, i_M 2 5 102] [1, 2, 3, 5])))
def C0 : CA := (.seq (.seq (.reg [i_M 0 117 6, i_P 1 118 3 12, i_L 2 119 118 1, i_X 3 120 (.h (.len (.t 119))), i_N 4 121 .lss 117 120] [2, 3, 6, 121]) (.cond (.t 121) .skip (.exit 4))) (.seq (.block 5 (.reg [i_P 0 124 3 12, i_L 1 125 124 1, i_M 2 126 6, i_P 3 127 3 12, i_L 4 128 127 1, i_M 5 129 6, i_I 6 130 128 129 1, i_L 7 131 130 1, i_P 8 132 3 12, i_L 9 133 132 1, i_M 10 134 6, i_B 11 135 .sub 134 1, i_I 12 136 133 135 1, i_L 13 137 136 1, i_X 14 138 (.h (.mm true (.t 131) (.t 137))), i_I 15 139 125 126 1, i_S 16 139 138 1] [2, 3, 6])) (.reg [i_M 0 122 6, i_B 1 123 .add 122 1, i_M 2 6 123] [2, 3, 6])))
def a11 : CA := (.seq (.reg [i_X 0 1 (.box (.t 0) 9 24), i_X 1 2 (.alloc [fI 0, .nil, .nil, .nil, .nil, fI 0, fI 0, fI 0, fl 0, fl 0, fl 0, fI 0, .nil] 33)] [1, 2]) (.seq (.reg [i_P 0 7 1 0, i_L 1 8 7 1, i_P 2 9 1 5, i_L 3 10 9 1, i_P 4 11 1 8, i_L 5 12 11 1, i_X 6 13 (.callA (kF 36) [(.t 8), (.t 10), (.t 12)]), i_X 7 14 (.h (.build [fI 0, .nil, .nil, .nil, .nil, fI 0, fI 0, fI 0, fl 0, fl 0, fl 0, fI 0, .nil] [(0, (3, (.t 13)))])), i_X 8 3 (.alloc [fI 0, .nil, .nil, .nil, .nil, fI 0, fI 0, fI 0, fl 0, fl 0, fl 0, fI 0, .nil] 33), i_S 9 3 14 13] [1, 2, 3]) (.seq (.reg [i_P 0 15 3 0, i_P 1 16 15 0, i_L 2 17 16 1, i_P 3 18 1 6, i_L 4 19 18 1, i_X 5 20 (.callA (kF 37) [(.t 17), (.t 19)]), i_P 6 21 3 4, i_S 7 21 20 1] [1, 2, 3]) (.seq (.seq (.reg [i_K 0 4 0] [1, 2, 3, 4]) (.block 0 (.loop C4))) (.seq (.reg [i_P 0 47 1 1, i_L 1 48 47 1, i_X 2 49 (.callA (kF 38) [(.t 48), (kI 13)]), i_X 3 50 (.h (.ibin .add (kI 16) (.t 49))), i_X 4 51 (.h (.icv .u64 (.t 50))), i_X 5 52 (.h (.ibin .shl (kI 1) (.t 51))), i_P 6 53 3 6, i_S 7 53 52 1] [1, 2, 3]) (.seq (.reg [i_P 0 54 3 6, i_L 1 55 54 1, i_P 2 56 1 2, i_L 3 57 56 1, i_X 4 58 (.callS 4 (kF 38) [(.t 57), (kI 10)]), i_X 5 59 (.h (.icv .u64 (.t 58))), i_N 6 60 .shr 55 59, i_P 7 61 3 7, i_S 8 61 60 1] [1, 2, 3]) (.seq (.reg [i_P 0 62 1 4, i_L 1 63 62 1, i_X 2 64 (.callA (kF 38) [(.t 63), (kI 536870912)]), i_X 3 65 (.h (.ibin .add (kI 1) (.t 64))), i_P 4 66 3 5, i_S 5 66 65 1] [1, 2, 3]) (.seq (.seq (.reg [i_P 0 67 1 4, i_L 1 68 67 1, i_X 2 69 (.callA (kF 38) [(.t 68), (kI 4)]), i_B 3 70 .eql 69 0] [1, 2, 3, 70]) (.cond (.t 70) (.reg [i_P 0 71 3 6, i_L 1 72 71 1, i_X 2 73 (.h (.ibin .mul (kI 4) (.t 72))), i_P 3 74 3 5, i_S 4 74 73 1] [1, 2, 3]) .skip)) (.seq (.reg [i_P 0 75 1 3, i_L 1 76 75 1, i_X 2 77 (.callA (kF 38) [(.t 76), (kI 24)]), i_X 3 78 (.h (.icv .u64 (.t 77))), i_X 4 79 (.h (.ibin .shl (kI 1) (.t 78))), i_X 5 80 (.h (.i2f (.t 79))), i_X 6 81 (.h (.fbin .div (.k (.d (.flt 4607182418800017408))) (.t 80))), i_P 7 82 3 8, i_S 8 82 81 1] [1, 2, 3]) (.seq (.reg [i_P 0 83 1 3, i_L 1 84 83 1, i_B 2 85 .quo 84 24, i_X 3 86 (.callA (kF 38) [(.t 85), (kI 3)]), i_X 4 87 (.h (.i2f (.t 86))), i_X 5 88 (.h (.fbin .div (.t 87) (.k (.d (.flt 4652218415073722368))))), i_P 6 89 3 9, i_S 7 89 88 1] [1, 2, 3]) (.seq (.reg [i_P 0 90 3 10, ⟨1, none, none, [], [], (.store (.t 90) (.k (.d (.flt 4616189618054758400))) 1)⟩] [1, 2, 3]) (.seq (.reg [i_P 0 91 3 11, ⟨1, none, none, [], [], (.store (.t 91) (kI 24) 1)⟩] [1, 2, 3]) (.seq (.seq (.reg [i_K 0 5 0] [1, 2, 3, 5]) (.block 2 (.loop C3))) (.seq (.seq (.reg [i_K 0 6 1] [2, 3, 6]) (.block 4 (.loop C0))) (.seq (.reg [i_A 0 140 3 13, i_S 1 2 140 13] [2]) .ret)))))))))))))))
theorem a3k : f7 Tryz.prog 17 = some ⟨141, [(2, (some (13, true)))], a11.strip⟩ := by kernel_rfl
theorem b8A (m : Nat) (h : m < 62) : IntKind.i64.wrap (1 * 2 ^ min (IntKind.u64.wrap (m : Int)).toNat IntKind.i64.bits) = ((2 ^ m : Nat) : Int) := by
 rw [a1r (by omega) (by omega)]
 have e : min ((m : Int).toNat) IntKind.i64.bits = m := by
  have : IntKind.i64.bits = 64 := rfl
  rw [this]; omega
 rw [e, Int.one_mul]
 have h1 : (2 : Nat) ^ m <= 2 ^ 61 := d2v (by decide) (by omega)
 have h2 : (2 : Int) ^ m = ((2 ^ m : Nat) : Int) := by simp
 rw [h2]
 generalize (2 : Nat) ^ m = x at h1
 exact f0 (by omega) (by omega)
theorem c73 (a b : Nat) (hb : b <= a) (h : b < 62) : (((2 ^ a : Nat) : Int)).fdiv (2 ^ min (IntKind.u64.wrap (b : Int)).toNat IntKind.i64.bits) = ((2 ^ (a - b) : Nat) : Int) := by
 rw [a1r (by omega) (by omega)]
 have e : min ((b : Int).toNat) IntKind.i64.bits = b := by
  have : IntKind.i64.bits = 64 := rfl
  rw [this]; omega
 rw [e]
 have h3 : ((2 : Int) ^ b) = ((2 ^ b : Nat) : Int) := by push_cast; rfl
 rw [h3, Int.fdiv_eq_ediv_of_nonneg _ (Int.natCast_nonneg _)]
 have h4 : 2 ^ a = 2 ^ (a - b) * 2 ^ b := by rw [<- Nat.pow_add]; congr 1; omega
 rw [h4]
 have h5 : 0 < 2 ^ b := Nat.pow_pos (by decide)
 rw [<- Int.natCast_ediv, Nat.mul_div_cancel _ h5]
theorem a2L (L : Heap) (ps : List (Nat × Nat)) : KpA L (ivC ps) := by
 induction ps with
 | nil => exact a0x
 | cons p ps ih =>
  show KpA L (fl p.1 :: fl p.2 :: ivC ps)
  rw [G5, G5]
  exact ⟨Kp_d _, Kp_d _, ih⟩
def boxE (y : List Nat) (j : Nat) : Nat × Nat := (fop .sub (y.getD j 0) 4625196817309499392, fop .add (y.getD j 0) 4625196817309499392)
def boxL (y : List Nat) (i : Nat) : List (Nat × Nat) := (List.range i).map (boxE y)
theorem c4q (y : List Nat) (i : Nat) : ivC (boxL y i) ++ [fl (boxE y i).1, fl (boxE y i).2] = ivC (boxL y (i + 1)) := by simp [boxL, ivC, List.range_succ]
theorem a6g (y : List Nat) (i : Nat) : (boxL y i).length = i := by simp [boxL]
abbrev mkC (t : Tp) (b : V) (y : List Nat) (fin first least : Int) (atol rtol cap : Nat) (most : Int) (o : V) : List V := [fI t.n, .d (opsD t.ops), .d (rowI t.out), b, .d (rowD y), fI fin, fI first, fI least, fl atol, fl rtol, fl cap, fI most, o]
abbrev mkZ : List V := [fI 0, .nil, .nil, .nil, .nil, fI 0, fI 0, fI 0, fl 0, fl 0, fl 0, fI 0, .nil]
abbrev mkS0 (i : Nat) : Sl := [(1, .ptr 0 0 0 9), (2, .ptr 1 0 0 13), (3, .ptr 10 0 0 13), (4, fI i)]
theorem c3d (sh : List V) (t : Tp) (y : List Nat) (hy : y.length = t.n) (hN : 0 < t.n /\ t.n <= 3) (hsh : ∀ L, KpA L sh) (Q : Ex -> T -> Prop)
  (hQ : ∀ w, Q (.exit 0) ⟨mkS0 t.n ++ [w], [(27, [ivC (boxL y t.n)]), (10, [mkC t (.sl 27 0 0 t.n 2 (t.n * 2)) y 0 0 0 0 0 0 0 .nil]), (1, [mkZ]), (0, [sh])]⟩) :
  WA Tryz.prog (λ_ => False) 141 (.loop C4) Q ⟨mkS0 0, [(10, [mkC t .nil y 0 0 0 0 0 0 0 .nil]), (1, [mkZ]), (0, [sh])]⟩ := by
 refine j5 (n := t.n) (λc s => ∃ i, c + i = t.n /\ ((i = 0 /\ s = ⟨mkS0 0, [(10, [mkC t .nil y 0 0 0 0 0 0 0 .nil]), (1, [mkZ]), (0, [sh])]⟩) \/ (0 < i /\ s = ⟨mkS0 i, [(27, [ivC (boxL y i)]), (10, [mkC t (.sl 27 0 0 i 2 (i * 2)) y 0 0 0 0 0 0 0 .nil]), (1, [mkZ]), (0, [sh])]⟩))) (Le.refl _) ⟨0, by omega, .inl ⟨rfl, rfl⟩⟩ ?_
 rintro c s ⟨i, hc, ⟨rfl, rfl⟩ | ⟨hi, rfl⟩⟩
 ·refine evx @C4.eq_1 ?_
  have h0 : decide ((0 : Int) < (t.n : Int)) = true := by simp; omega
  refine evx h0 ?_
  refine ⟨by omega, by omega, ?_⟩
  rw [show IntKind.i64.wrap 1 = ((0 + 1 : Nat) : Int) from by decide]
  exact ⟨c - 1, _, by omega, LeT.only (L' := [(27, [ivC (boxL y (0 + 1))]), (10, [mkC t (.sl 27 0 0 (0 + 1) 2 ((0 + 1) * 2)) y 0 0 0 0 0 0 0 .nil]), (1, [mkZ]), (0, [sh])]) (λX => X != 26) (λ_ h => h) rfl (by simp (maxDischargeDepth := 6) [kpS, d6, d9, a2L, hsh]) (by simp (maxDischargeDepth := 6) [kpS, d6, d9, a2L, hsh]), 0 + 1, by omega, .inr ⟨by omega, rfl⟩⟩
 ·have hl : (ivC (boxL y i)).length = i * 2 := by rw [j9, a6g]
  refine evx @C4.eq_1 ?_
  refine b9 (λh => ?_) (λh => ?_)
  ·replace h := d2b h
   refine ev ?_
   repeat with_reducible refine andO ?_
   have e := c4q y i
   unfold boxE at e
   simp only [] at e
   have e2 : (boxL y i).length * 2 = i * 2 /\ (i + 1) * 16 <= 140737488355328 := by rw [a6g]; exact ⟨rfl, by omega⟩
   refine ⟨e2, ?_⟩
   rw [f0 (by omega) (by omega), e, show i * 2 + 2 = (i + 1) * 2 by omega]
   exact ⟨c - 1, _, by omega, LeT.only (λX => decide (X <= 27)) (λ_ h => h) rfl (by simp (maxDischargeDepth := 6) [kpS, d6, d9, a2L, hsh]) (by simp (maxDischargeDepth := 6) [kpS, d6, d9, a2L, hsh]), i + 1, by omega, .inr ⟨by omega, rfl⟩⟩
  ·replace h := d2c h
   have e : i = t.n := by omega
   subst e
   refine ev ?_
   exact hQ _
def outE (outs : List Int) (E : Int) (j : Nat) : Int := outs.getD j 0 % (E + 1)
def H0 (outs : List Int) (E : Int) (i : Nat) : List Int := (List.range i).map (outE outs E)
theorem b2w (outs : List Int) (E : Int) (i : Nat) : k7 (H0 outs E i) ++ [fI (outE outs E i)] = k7 (H0 outs E (i + 1)) := by simp [H0, k7, List.range_succ]
theorem Q1 (outs : List Int) (E : Int) (i : Nat) : (H0 outs E i).length = i := by simp [H0]
abbrev mkS1 (i : Nat) : Sl := [(1, .ptr 0 0 0 9), (2, .ptr 1 0 0 13), (3, .ptr 10 0 0 13), (5, fI i)]
abbrev mkH (t : Tp) (box : List (Nat × Nat)) (y : List Nat) (E : Int) (c : List V) (sh : List V) : Heap := [(27, [ivC box]), (10, [[fI t.n, .d (opsD t.ops), .d (rowI t.out), .sl 27 0 0 t.n 2 (t.n * 2), .d (rowD y), fI E] ++ c]), (1, [mkZ]), (0, [sh])]
theorem c3c (n first least tol fin : Int) (ns ms outs : List Int) (dv : Bool) (t : Tp) (box : List (Nat × Nat)) (y : List Nat) (E : Int) (hE : 0 <= E /\ E < 2 ^ 40) (F B : Int) (ra rb rc : Nat) (hmo : Int) (ho : outs.length <= 60) (Q : Ex -> T -> Prop)
  (hQ0 : outs.length = 0 -> ∀ w, Q (.exit 2) ⟨mkS1 0 ++ [w], mkH t box y E [fI F, fI B, fl ra, fl rb, fl rc, fI hmo, .nil] (shC n first least tol fin ns ms outs dv)⟩)
  (hQ : 0 < outs.length -> ∀ w, Q (.exit 2) ⟨mkS1 (min outs.length 8) ++ [w], (40, [k7 (H0 outs E (min outs.length 8))]) :: mkH t box y E [fI F, fI B, fl ra, fl rb, fl rc, fI hmo, .sl 40 0 0 (min outs.length 8) 1 (min outs.length 8)] (shC n first least tol fin ns ms outs dv)⟩) :
  WA Tryz.prog (λ_ => False) 141 (.loop C3) Q ⟨mkS1 0, mkH t box y E [fI F, fI B, fl ra, fl rb, fl rc, fI hmo, .nil] (shC n first least tol fin ns ms outs dv)⟩ := by
 refine j5 (n := min outs.length 8) (λc s => ∃ i, c + i = min outs.length 8 /\ ((i = 0 /\ s = ⟨mkS1 0, mkH t box y E [fI F, fI B, fl ra, fl rb, fl rc, fI hmo, .nil] (shC n first least tol fin ns ms outs dv)⟩) \/ (0 < i /\ s = ⟨mkS1 i, (40, [k7 (H0 outs E i)]) :: mkH t box y E [fI F, fI B, fl ra, fl rb, fl rc, fI hmo, .sl 40 0 0 i 1 i] (shC n first least tol fin ns ms outs dv)⟩))) (Le.refl _) ⟨0, by omega, .inl ⟨rfl, rfl⟩⟩ ?_
 have wE : IntKind.i64.wrap (E + 1) = E + 1 := f0 (by omega) (by omega)
 rintro c s ⟨i, hc, ⟨rfl, rfl⟩ | ⟨hi, rfl⟩⟩
 ·refine evx @C3.eq_1 ?_
  by_cases h0 : 0 < outs.length
  ·have h0' : decide ((0 : Int) < (outs.length : Int)) = true := decide_eq_true (by omega)
   refine evx (And.intro h0' wE) ?_
   refine ⟨by omega, ?_⟩
   refine d5 (y4 (outs.getD 0 0) (E + 1) (by omega) (by omega)) rfl ?_
   refine ev ?_
   rw [show IntKind.i64.wrap 1 = ((0 + 1 : Nat) : Int) from by decide]
   exact ⟨c - 1, _, by omega, LeT.only (L' := (40, [k7 (H0 outs E (0 + 1))]) :: mkH t box y E [fI F, fI B, fl ra, fl rb, fl rc, fI hmo, .sl 40 0 0 (0 + 1) 1 (0 + 1)] (shC n first least tol fin ns ms outs dv)) (λX => X != 39) (λ_ h => h) rfl (by simp (maxDischargeDepth := 6) [kpS, d6, d9, a2L]) (by simp (maxDischargeDepth := 6) [kpS, d6, d9, a2L]), 0 + 1, by omega, .inr ⟨by omega, rfl⟩⟩
  ·have h0' : decide ((0 : Int) < (outs.length : Int)) = false := decide_eq_false (by omega)
   refine evx h0' ?_
   exact hQ0 (by omega) _
 ·have hol := Q1 outs E i
  refine evx @C3.eq_1 ?_
  by_cases h1 : i < outs.length
  ·have h1' : decide (i < outs.length) = true := decide_eq_true h1
   by_cases h2 : i < 8
   ·have h2' : decide ((i : Int) < 8) = true := by simp; omega
    refine evx (And.intro h1' (And.intro h2' wE)) ?_
    repeat with_reducible refine andO ?_
    refine d5 (y4 (outs.getD i 0) (E + 1) (by omega) (by omega)) rfl ?_
    refine ev ?_
    have e1 := b2w outs E i
    unfold outE at e1
    have e2 : (H0 outs E i).length = i /\ (i + 1) * 8 <= 140737488355328 := ⟨hol, by omega⟩
    refine ⟨e2, ?_⟩
    rw [f0 (by omega) (by omega), e1]
    exact ⟨c - 1, _, by omega, LeT.only (λX => decide (X <= 40)) (λ_ h => h) rfl (by simp (maxDischargeDepth := 6) [kpS, d6, d9, a2L]) (by simp (maxDischargeDepth := 6) [kpS, d6, d9, a2L]), i + 1, by omega, .inr ⟨by omega, rfl⟩⟩
   ·have h2' : decide ((i : Int) < 8) = false := by simp; omega
    have e : i = min outs.length 8 := by omega
    refine evx (And.intro h1' h2') ?_
    rw [e]
    exact hQ (by omega) _
  ·have h1' : decide (i < outs.length) = false := decide_eq_false h1
   have e : i = min outs.length 8 := by omega
   refine evx h1' ?_
   rw [e]
   exact hQ (by omega) _
theorem a0Q {A : List Int} {i : Nat} (h : i < A.length) : (k7 A).getD i .any = fI (A.getD i 0) := by
 simp [k7, d2d, d2f h]
def maxL (A : List Int) : Nat -> List Int
 | 0 => A
 | i + 1 => (maxL A i).set (i + 1) (if (maxL A i).getD (i + 1) 0 < (maxL A i).getD i 0 then (maxL A i).getD i 0 else (maxL A i).getD (i + 1) 0)
theorem a3J (A : List Int) (i : Nat) : (maxL A i).length = A.length := by
 induction i with
 | zero => rfl
 | succ i ih => simp [maxL, ih]
abbrev mkS2 (i : Nat) : Sl := [(2, .ptr 1 0 0 13), (3, .ptr 10 0 0 13), (6, fI i)]
theorem c3a (A : List Int) (m : Nat) (hA : A.length = m) (hm : 0 < m /\ m <= 8) (t : Tp) (box : List (Nat × Nat)) (y : List Nat) (E : Int) (F B : Int) (ra rb rc : Nat) (hmo : Int) (sh : List V) (hsh : ∀ L, KpA L sh) (Q : Ex -> T -> Prop)
  (hQ : ∀ w, Q (.exit 4) ⟨mkS2 m ++ [w], (40, [k7 (maxL A (m - 1))]) :: mkH t box y E [fI F, fI B, fl ra, fl rb, fl rc, fI hmo, .sl 40 0 0 m 1 m] sh⟩) :
  WA Tryz.prog (λ_ => False) 141 (.loop C0) Q ⟨mkS2 1, (40, [k7 A]) :: mkH t box y E [fI F, fI B, fl ra, fl rb, fl rc, fI hmo, .sl 40 0 0 m 1 m] sh⟩ := by
 refine j5 (n := m - 1) (λc s => ∃ i, c + i = m - 1 /\ s = ⟨mkS2 (i + 1), (40, [k7 (maxL A i)]) :: mkH t box y E [fI F, fI B, fl ra, fl rb, fl rc, fI hmo, .sl 40 0 0 m 1 m] sh⟩) (Le.refl _) ⟨0, by omega, rfl⟩ ?_
 rintro c s ⟨i, hc, rfl⟩
 have hl := a3J A i
 rw [hA] at hl
 refine evx @C0.eq_1 ?_
 refine b9 (λh => ?_) (λh => ?_)
 ·replace h := d2b h
  have wi : IntKind.i64.wrap (((i + 1 : Nat) : Int) - 1) = (i : Int) := by rw [f0 (by omega) (by omega)]; omega
  have g1 : (k7 (maxL A i)).getD (i + 1) .any = fI ((maxL A i).getD (i + 1) 0) := a0Q (by omega)
  have g2 : (k7 (maxL A i)).getD i .any = fI ((maxL A i).getD i 0) := a0Q (by omega)
  refine evx (And.intro wi (And.intro g1 g2)) ?_
  refine ⟨h, ⟨hl, by omega⟩, by omega, ⟨hl, by omega⟩, h, ⟨hl, by omega⟩, ?_⟩
  rw [f0 (by omega) (by omega)]
  exact ⟨c - 1, _, by omega, Le.refl _, i + 1, by omega, rfl⟩
 ·replace h := d2c h
  have e : i = m - 1 := by omega
  refine ev ?_
  rw [show i + 1 = m by omega, show i = m - 1 by omega]
  exact hQ _
theorem d1k {L L' : Heap} {X n : Nat} {ps : List (Nat × Nat)} (h : L.get X 0 = some (ivC ps)) (hn : ps.length = n) (h2 : L'.get X 0 = none) : LeV L L' (λX r => (X, r)) (.sl X 0 0 n 2 (n * 2)) (.d (ivD ps)) :=
 .d (b7g (λZ q hZ e => by cases e; exact hZ h2) h hn rfl)
theorem c4J {L L' : Heap} {X n : Nat} {xs : List Int} (h : L.get X 0 = some (k7 xs)) (hn : xs.length = n) (h2 : L'.get X 0 = none) : LeV L L' (λX r => (X, r)) (.sl X 0 0 n 1 n) (.d (rowI xs)) :=
 .d (a5C (λZ q hZ e => by cases e; exact hZ h2) h hn rfl)
def mkE (fin : Int) (F : Nat) : Int := if fin % 4 = 0 then 4 * (F : Int) else 1 + fin % 536870912
def mkA (first : Int) : Nat := (16 + first % 13).toNat
def mkB (least : Int) : Nat := (least % 10).toNat
def mkAt (tol : Int) : Nat := fop .div 4607182418800017408 (FloatKind.nearest .f64 ((2 ^ (tol % 24).toNat : Nat) : Int))
def mkRt (tol : Int) : Nat := fop .div (FloatKind.nearest .f64 (IntKind.i64.wrap (tol.tdiv 24) % 3)) 4652218415073722368
def mkO (outs : List Int) (E : Int) : List Int := maxL (H0 outs E (min outs.length 8)) (min outs.length 8 - 1)
def mkPb (n first least tol fin : Int) (ns ms outs : List Int) (dv : Bool) : Pb :=
 ⟨mkT n ns dv, boxL (a9y (mkT n ns dv).n ms) (mkT n ns dv).n, a9y (mkT n ns dv).n ms, mkE fin (2 ^ mkA first), ((2 ^ mkA first : Nat) : Int), ((2 ^ (mkA first - mkB least) : Nat) : Int),
  mkAt tol, mkRt tol, 4616189618054758400, 24, mkO outs (mkE fin (2 ^ mkA first))⟩
theorem c8r (outs : List Int) (E : Int) (h : outs.length = 0) : mkO outs E = [] := by
 unfold mkO; rw [h]; rfl
theorem b7E (outs : List Int) (E : Int) : (mkO outs E).length = min outs.length 8 := by
 unfold mkO; rw [a3J, Q1]
theorem a7V (n first least tol fin : Int) (ns ms outs : List Int) (dv : Bool) (h1 : ns.length <= 60) (h2 : ms.length <= 60) (h3 : outs.length <= 60) : Con Tryz.prog 17 [.agg (shC n first least tol fin ns ms outs dv)] (pbV (mkPb n first least tol fin ns ms outs dv)) := by
 unfold mkPb
 refine b7 a3k rfl f5 ?_
 refine evx @a11.eq_1 ?_
 refine a0 (b7K n ns dv (by omega)) rfl ?_
 have hT := c0y n ns dv
 generalize mkT n ns dv = t at hT
 refine ev ?_
 refine a0 (b34 t.n ms (by omega) (by omega)) rfl ?_
 have hy : (a9y t.n ms).length = t.n := k8 _ _
 generalize a9y t.n ms = y at hy
 refine ev ?_
 refine c3d _ t y hy (by omega) (λL => ?_) _ λw => ?_
 ·simp only [G5]; exact ⟨Kp_d _, Kp_d _, Kp_d _, Kp_d _, Kp_d _, Kp_d _, Kp_d _, Kp_d _, Kp_d _, a0x⟩
 have hbl : (boxL y t.n).length = t.n := a6g _ _
 generalize boxL y t.n = box at hbl
 refine ev ?_
 refine a0 (y4 first 13 (by decide) (by decide)) rfl ?_
 have f1 := d2m first (by decide : (13 : Int) ≠ 0)
 have f2 := d2k first (by decide : (0 : Int) < 13)
 obtain ⟨a, ha⟩ : ∃ a : Nat, 16 + first % 13 = a := ⟨(16 + first % 13).toNat, by omega⟩
 have haA : mkA first = a := by unfold mkA; rw [ha]; rfl
 rw [haA]
 have wa : IntKind.i64.wrap (16 + first % 13) = (a : Int) := by rw [ha]; exact f0 (by omega) (by omega)
 have wu : 0 <= IntKind.u64.wrap (a : Int) := by rw [a1r (by omega) (by omega)]; omega
 simp -implicitDefEqProofs only [evI, hv, effC, reduceCtorEq, ↓reduceIte, n1_, n2_, n3_, n4_, n5_, i1_, i2_, i3_, i4_, i5_, i6_, i7_, wa, b8A a (by omega)]
 refine ⟨wu, ?_⟩
 refine d5 (y4 least 10 (by decide) (by decide)) rfl ?_
 have g1 := d2m least (by decide : (10 : Int) ≠ 0)
 have g2 := d2k least (by decide : (0 : Int) < 10)
 obtain ⟨b, hb⟩ : ∃ b : Nat, least % 10 = b := ⟨(least % 10).toNat, by omega⟩
 have hbB : mkB least = b := by unfold mkB; rw [hb]; rfl
 rw [hb, hbB]
 have wu2 : 0 <= IntKind.u64.wrap (b : Int) := by rw [a1r (by omega) (by omega)]; omega
 simp -implicitDefEqProofs only [evI, hv, effC, reduceCtorEq, ↓reduceIte, n1_, n2_, n3_, n4_, n5_, i1_, i2_, i3_, i4_, i5_, i6_, i7_, c73 a b (by omega) (by omega)]
 refine ⟨wu2, ?_⟩
 refine a0 (y4 fin 536870912 (by decide) (by decide)) rfl ?_
 have e1 := d2m fin (by decide : (536870912 : Int) ≠ 0)
 have e2 := d2k fin (by decide : (0 : Int) < 536870912)
 have we : IntKind.i64.wrap (1 + fin % 536870912) = 1 + fin % 536870912 := f0 (by omega) (by omega)
 refine evx we ?_
 refine a0 (y4 fin 4 (by decide) (by decide)) rfl ?_
 obtain ⟨F, hF⟩ : ∃ F : Nat, 2 ^ a = F := ⟨_, rfl⟩
 rw [hF]
 have w4 : IntKind.i64.wrap (4 * (F : Int)) = 4 * (F : Int) := by
  have : 2 ^ a <= 2 ^ 28 := d2v (by decide) (by omega)
  exact f0 (by omega) (by omega)
 obtain ⟨E, hE⟩ : ∃ E : Int, E = mkE fin F := ⟨_, rfl⟩
 have hFb : 0 < F /\ F <= 2 ^ 28 := by rw [<- hF]; exact ⟨Nat.pow_pos (by decide), d2v (by decide) (by omega)⟩
 have hEb : 0 <= E /\ E < 2 ^ 40 := by rw [hE]; unfold mkE; split <;> omega
 rw [<- hE]
 unfold mkE at hE
 by_cases c1 : fin % 4 = 0
 case' pos =>
  have c1' : (fin % 4 == 0) = true := by simpa using c1
  refine evx (And.intro c1' w4) ?_
  rw [if_pos c1] at hE
  rw [<- hE]
 case' neg =>
  have c1' : (fin % 4 == 0) = false := by simpa using c1
  refine evx c1' ?_
  rw [if_neg c1] at hE
  rw [<- hE]
 all_goals
  refine a0 (y4 tol 24 (by decide) (by decide)) rfl ?_
  have t1 := d2m tol (by decide : (24 : Int) ≠ 0)
  have t2 := d2k tol (by decide : (0 : Int) < 24)
  obtain ⟨k, hk⟩ : ∃ k : Nat, tol % 24 = k := ⟨(tol % 24).toNat, by omega⟩
  have hkA : mkAt tol = fop .div 4607182418800017408 (FloatKind.nearest .f64 ((2 ^ k : Nat) : Int)) := by unfold mkAt; rw [hk]; rfl
  rw [hk, hkA]
  have wu3 : 0 <= IntKind.u64.wrap (k : Int) := by rw [a1r (by omega) (by omega)]; omega
  simp -implicitDefEqProofs only [evI, hv, effC, reduceCtorEq, ↓reduceIte, n1_, n2_, n3_, n4_, n5_, i1_, i2_, i3_, i4_, i5_, i6_, i7_, b8A k (by omega)]
  refine ⟨wu3, by decide, ?_⟩
  refine a0 (y4 (IntKind.i64.wrap (tol.tdiv 24)) 3 (by decide) (by decide)) rfl ?_
  refine ev ?_
  refine c3c n first least tol fin ns ms outs dv t box y E hEb F ((2 ^ (a - b) : Nat) : Int) _ _ _ 24 h3 _ (λh w => ?_) (λh w => ?_)
  ·refine ev ?_
   refine r5 (n := 0) (λc s => s = ⟨_, _⟩) rfl ?_
   rintro c s rfl
   refine evx @C0.eq_1 ?_
   rw [c8r _ _ h]
   exact j6 (.agg [fI t.n, .d (opsD t.ops), .d (rowI t.out), .sl 27 0 0 t.n 2 (t.n * 2), .d (rowD y), fI E, fI F, fI ((2 ^ (a - b) : Nat) : Int), fl _, fl _, fl _, fI 24, .nil]) (λ_ h => h) (g8 (by decide) rfl rfl rfl (by simp) rfl)
    (D5 _ _ ⟨Fz_d _, Fz_d _, Fz_d _, d1k rfl hbl (g5 _ _), Fz_d _, Fz_d _, Fz_d _, Fz_d _, Fz_d _, Fz_d _, Fz_d _, Fz_d _, .d (.nil _), trivial⟩)
  ·refine ev ?_
   refine c3a _ _ (Q1 _ _ _) (by omega) t box y E F ((2 ^ (a - b) : Nat) : Int) _ _ _ 24 _ ?_ _ λw => ?_
   ·intro L; simp only [G5]; exact ⟨Kp_d _, Kp_d _, Kp_d _, Kp_d _, Kp_d _, Kp_d _, Kp_d _, Kp_d _, Kp_d _, a0x⟩
   refine ev ?_
   exact j6 (.agg [fI t.n, .d (opsD t.ops), .d (rowI t.out), .sl 27 0 0 t.n 2 (t.n * 2), .d (rowD y), fI E, fI F, fI ((2 ^ (a - b) : Nat) : Int), fl _, fl _, fl _, fI 24, .sl 40 0 0 (min outs.length 8) 1 (min outs.length 8)]) (λ_ h => h) (g8 (by decide) rfl rfl rfl (by simp) rfl)
    (D5 _ _ ⟨Fz_d _, Fz_d _, Fz_d _, d1k rfl hbl (g5 _ _), Fz_d _, Fz_d _, Fz_d _, Fz_d _, Fz_d _, Fz_d _, Fz_d _, Fz_d _, c4J rfl (b7E _ _) (g5 _ _), trivial⟩)
theorem b2r {Z : List (List Nat)} {m n : Nat} (h : Rk m n Z) (hm : 0 < m) (hc : Cw Z) (k : Int) : (J9 Z k m n).getD 0 [] = Z.getD 0 [] := by
 have hs := J8 h k m n
 have l1 := hs.2 0 hm
 have l2 := h.2 0 hm
 refine List.ext_getElem (by omega) λi h1 h2 => ?_
 have e := c28 (λj _ x => scl x (j * k)) h m (d2t _) 0 i
 rw [if_pos ⟨hm, by omega⟩] at e
 have e2 : at2 (J9 Z k m n) 0 i = at2 Z 0 i := by
  show at2 (mapJ _ Z n m) 0 i = _
  rw [e]
  show scl _ ((0 : Nat) * k) = _
  rw [show (((0 : Nat) : Int) * k) = 0 by simp]
  exact b8B (hc 0 i)
 unfold at2 at e2
 rw [d2d (i := i), d2d (i := i), d2f h1, d2f h2] at e2
 exact e2
theorem c2Z (l d : List Nat) (q : Nat) : (c0u l d q).length = d.length := k8 _ _
theorem d08 {Z : List (List Nat)} {m n : Nat} (h : Rk m n Z) (x : List Nat) (hx : x.length = n) : Rk (m + 1) n (Z ++ [x]) := by
 refine ⟨by simp [h.1], λi hi => ?_⟩
 by_cases hi2 : i < m
 ·rw [d2d, d2g (by rw [h.1]; exact hi2), <- d2d]
  exact h.2 i hi2
 ·obtain rfl : i = m := by omega
  rw [d2d, d2j (by rw [h.1]; exact d2t _), h.1, Nat.sub_self]
  exact hx
theorem d1r {Z : List (List Nat)} (h : Cw Z) (x : List Nat) (hx : ∀ i, cw (x.getD i 0)) : Cw (Z ++ [x]) := λr i => by
 unfold at2
 by_cases hr : r < Z.length
 ·rw [d2d (l := Z ++ [x]), d2g hr, <- d2d]
  exact h r i
 ·rw [d2d (l := Z ++ [x]), d2j (by omega)]
  by_cases hr2 : r - Z.length = 0
  ·rw [hr2]; exact hx i
  ·rw [show ([x] : List (List Nat))[r - Z.length]? = none from d2n (by simp; omega)]
   exact L4
theorem b65 (f : Nat -> Nat) (n : Nat) (h : ∀ i, cw (f i)) (i : Nat) : cw ((tabR f n).getD i 0) := by
 by_cases hi : i < n
 ·rw [a5x _ _ _ hi]; exact h i
 ·rw [d2d, d2n (by rw [k8]; omega)]
  exact L4
theorem b5f (t : Tp) (y : List Nat) (h : Nat) (hy : y.length = t.n) : Rk 2 t.n (a5z t y h) := by
 refine ⟨rfl, λi hi => ?_⟩
 rcases i with _ | _ | i
 ·exact hy
 ·exact k8 _ _
 ·omega
theorem b5g (t : Tp) (y : List Nat) (h : Nat) (hy : ∀ i, cw (y.getD i 0)) : Cw (a5z t y h) := λr i => by
 rcases r with _ | _ | r
 ·exact hy i
 ·exact b65 _ _ (λi => A9 _ _ _) i
 ·exact L4
structure Pk (p : Pb) : Prop where
 ok : Pok p
 fst : ∃ a, a <= 28 /\ p.first = (2 ^ a : Nat)
 lst : ∃ b, b <= 28 /\ p.least = (2 ^ b : Nat)
 le : p.least <= p.first
 fin : 0 <= p.fin /\ p.fin <= 2147483648
 yl : p.y.length = p.t.n
 yc : ∀ i, cw (p.y.getD i 0)
structure Inv (p : Pb) (k : Nat) (s : Sta) : Prop where
 ok : s.ok p.t
 pos : s.n.pos <= k * 4294967296
 good : s.good <= k
 fails : s.fails <= 2
 slow : s.slow <= 1
 lo : p.least <= s.n.step
 hi : s.n.step <= 2 * p.fin \/ s.n.step <= 2 * p.first
def a70 (p : Pb) : Sta := ⟨⟨0, p.first, 1, 0, a5z p.t p.y (hW p.first.toNat)⟩, 0, 0, 0⟩
theorem c4s {p : Pb} (h : Pk p) : Inv p 0 (a70 p) := by
 obtain ⟨a, ha, hfa⟩ := h.fst
 have hl := h.ok.least
 have hle := h.le
 refine ⟨⟨⟨.inl ⟨rfl, Int.le_refl _, by show (1 : Int) <= 5; decide⟩, ⟨a, by omega, hfa⟩, b5f _ _ _ h.yl, b5g _ _ _ h.yc, ⟨Int.le_refl _, by show (0 : Int) < _; decide⟩⟩, ⟨Int.le_refl _, by show (0 : Int) < _; decide⟩, ⟨Int.le_refl _, by show (0 : Int) < _; decide⟩, ⟨Int.le_refl _, by show (0 : Int) < _; decide⟩⟩, by show (0 : Int) <= _; decide, by show (0 : Int) <= _; decide, by show (0 : Int) <= _; decide, by show (0 : Int) <= _; decide, hle, .inr ?_⟩
 show p.first <= 2 * p.first
 omega
theorem b8K {a b : Nat} (h : 2 ^ a < 2 ^ b) : a + 1 <= b := by
 rcases Nat.lt_or_ge a b with h1 | h1
 ·exact h1
 ·exact absurd (d2v (by decide : 0 < 2) h1) (by omega)
theorem b89 {p : Pb} {n : Nd} (hp : Pk p) (hm : n.method = 0 \/ n.method = 1) (hst : ∃ j : Nat, j < 60 /\ n.step = (2 ^ j : Nat)) (hr : (n.z.getD 0 []).length = p.t.n) (hc : ∀ i, cw ((n.z.getD 0 []).getD i 0)) (hpos : 0 <= n.pos /\ n.pos < 2305843009213693952) : Nok p.t (a53 p n) := by
 refine ⟨?_, hst, b5f _ _ _ hr, b5g _ _ _ hc, hpos⟩
 show (n.method = 0 /\ (1 : Int) <= 1 /\ (1 : Int) <= 5) \/ (n.method = 1 /\ (1 : Int) <= 1 /\ (1 : Int) <= 4)
 omega
theorem c47 {p : Pb} {k : Nat} {s : Sta} (hp : Pk p) (h : Inv p k s) (hk : k < 100000) (z : List (List Nat)) (l d : List Nat) (err : Nat) (hz : Rk (s.n.order.toNat + 1) p.t.n z) (hzc : Cw z) (hd : d.length = p.t.n) : Inv p (k + 1) (a4G p s z l d err).s := by
 obtain ⟨⟨⟨hm, ⟨j, hj, hst⟩, hr, hc, hpos⟩, hg, hf, hsl⟩, hps, hgd, hfl, hsw, hlo, hhi⟩ := h
 obtain ⟨a, ha, hfa⟩ := hp.fst
 have hfin := hp.fin
 have pa : 2 ^ a <= 2 ^ 28 := d2v (by decide) ha
 have hl1 := hp.ok.least
 obtain ⟨⟨pos, st, o, m, z0⟩, g, f, sl⟩ := s
 simp only at *
 have hst2 : st <= 4294967296 := by omega
 have hr' := a3R hz l d (o.toNat + 1) p.t.n
 have hc' := a6b hzc l d (o.toNat + 1) p.t.n
 have hpos' : 0 <= pos + st /\ pos + st < 2305843009213693952 := by omega
 have hps' : pos + st <= ((k + 1 : Nat) : Int) * 4294967296 := by omega
 unfold a4G
 simp only
 split
 ·exact ⟨⟨⟨hm, ⟨j, hj, hst⟩, hr', hc', hpos'⟩, by simp only; omega, by simp only; omega, by simp only; omega⟩, hps', by simp only; omega, by simp only; omega, by simp only; omega, hlo, hhi⟩
 ·split
  ·rename_i h2
   have hj2 : j + 1 < 60 := by
    have : 2 ^ j < 2 ^ 40 := by omega
    have := b8K this
    omega
   refine ⟨⟨⟨hm, ⟨j + 1, hj2, ?_⟩, J8 hr' 1 _ _, b5r hc' 1 _ _, hpos'⟩, by simp only; omega, by simp only; omega, by simp only; omega⟩, hps', by simp only; omega, by simp only; omega, by simp only; omega, by simp only; omega, .inl (by simp only; omega)⟩
   show 2 * st = _
   rw [hst, Nat.pow_succ]; omega
  ·split
   ·rename_i h3
    have hmo : a9X m = if m = 0 then 5 else 4 := rfl
    have h4 := h3.2
    rw [hmo] at h4
    have ho1 : (o + 1).toNat + 1 = o.toNat + 1 + 1 := by omega
    refine ⟨⟨⟨?_, ⟨j, hj, hst⟩, ?_, d1r hc' _ (b65 _ _ λi => A9 _ _ _), hpos'⟩, by simp only; omega, by simp only; omega, by simp only; omega⟩, hps', by simp only; omega, by simp only; omega, by simp only; omega, hlo, hhi⟩
    ·simp only
     split at h4 <;> omega
    ·simp only
     rw [ho1]
     exact d08 hr' _ (by rw [c2Z]; exact hd)
   ·exact ⟨⟨⟨hm, ⟨j, hj, hst⟩, hr', hc', hpos'⟩, by simp only; omega, by simp only; omega, by simp only; omega⟩, hps', by simp only; omega, by simp only; omega, by simp only; omega, hlo, hhi⟩
theorem c6s {p : Pb} {k : Nat} {s : Sta} (hp : Pk p) (h : Inv p k s) (hk : k < 100000) (e : Int) (err : Nat) : Inv p (k + 1) (a66 p s e err).s := by
 obtain ⟨⟨⟨hm, ⟨j, hj, hst⟩, hr, hc, hpos⟩, hg, hf, hsl⟩, hps, hgd, hfl, hsw, hlo, hhi⟩ := h
 obtain ⟨b, hb, hlb⟩ := hp.lst
 have hl1 := hp.ok.least
 obtain ⟨⟨pos, st, o, m, z0⟩, g, f, sl⟩ := s
 simp only at *
 have hps' : pos <= ((k + 1 : Nat) : Int) * 4294967296 := by omega
 unfold a66
 simp only
 split
 ·exact ⟨⟨⟨hm, ⟨j, hj, hst⟩, hr, hc, hpos⟩, hg, hf, hsl⟩, hps', by simp only; omega, hfl, hsw, hlo, hhi⟩
 ·rename_i h1
  have hbj : 2 ^ b < 2 ^ j := by omega
  have hbj2 := b8K hbj
  obtain ⟨i, rfl⟩ : ∃ i, j = i + 1 := ⟨j - 1, by omega⟩
  have hst' : st / 2 = ((2 ^ i : Nat) : Int) := by rw [hst, Nat.pow_succ]; omega
  have hlo' : p.least <= st / 2 := by
   rw [hst', hlb]
   have : 2 ^ b <= 2 ^ i := d2v (by decide) (by omega)
   omega
  have hhi' : st / 2 <= 2 * p.fin \/ st / 2 <= 2 * p.first := by
   have : 0 <= st := by omega
   omega
  have hr' := J8 hr (-1) (o.toNat + 1) p.t.n
  have hc' := b5r hc (-1) (o.toNat + 1) p.t.n
  have hsl' : 0 <= (if e = 6 /\ m = 0 then sl + 1 else sl) /\ (if e = 6 /\ m = 0 then sl + 1 else sl) <= 2 := by split <;> omega
  generalize (if e = 6 /\ m = 0 then sl + 1 else sl) = sl' at hsl'
  split
  ·exact ⟨⟨b89 hp (.inr rfl) ⟨i, by omega, hst'⟩ (hr'.2 0 (by omega)) (λc => hc' 0 c) hpos, by simp only; omega, by simp only; omega, by simp only; omega⟩, hps', by simp only; omega, by simp only; omega, by simp only; omega, hlo', hhi'⟩
  ·split
   ·exact ⟨⟨⟨hm, ⟨i, by omega, hst'⟩, hr', hc', hpos⟩, by simp only; omega, by simp only; omega, by simp only; omega⟩, hps', by simp only; omega, by simp only; omega, by simp only; omega, hlo', hhi'⟩
   ·exact ⟨⟨b89 hp (by simp only; omega) ⟨i, by omega, hst'⟩ (hr'.2 0 (by omega)) (λc => hc' 0 c) hpos, by simp only; omega, by simp only; omega, by simp only; omega⟩, hps', by simp only; omega, by simp only; omega, by simp only; omega, hlo', hhi'⟩
theorem b2j {p : Pb} {k : Nat} {s : Sta} (hp : Pk p) (h : Inv p k s) :
  (∃ d kk err, solG p.t (a16 s.n.z p.t.n s.n.order.toNat) (ofL s.n.method s.n.order.toNat) (hW s.n.step.toNat) (wtP (s.n.z.getD 0 []) p.atol p.rtol) s.n.method = (d, kk, 0) /\ d.length = p.t.n /\ fcmp .le err 4607182418800017408 = true /\ tryP p s = a4G p s (a16 s.n.z p.t.n s.n.order.toNat) (ofL s.n.method s.n.order.toNat) d err) \/ ∃ e err, tryP p s = a66 p s e err := by
 unfold tryP
 rcases a9C p.t (a16 s.n.z p.t.n s.n.order.toNat) (ofL s.n.method s.n.order.toNat) (hW s.n.step.toNat) (wtP (s.n.z.getD 0 []) p.atol p.rtol) s.n.method with ⟨g, kk, hg, he⟩ | ⟨kk, e, hne, he⟩
 ·simp only [he, ne_eq, not_true_eq_false, if_false]
  split
  ·rename_i h1
   exact .inl ⟨g, kk, _, rfl, hg, h1, rfl⟩
  ·exact .inr ⟨_, _, rfl⟩
 ·simp only [he, ne_eq, hne, not_false_eq_true, if_true]
  exact .inr ⟨_, _, rfl⟩
theorem b3q {p : Pb} {k : Nat} {s : Sta} (hp : Pk p) (h : Inv p k s) (hk : k < 100000) : Inv p (k + 1) (tryP p s).s := by
 rcases b2j hp h with ⟨d, kk, err, _, hd, _, e⟩ | ⟨e', err, e⟩
 ·rw [e]
  exact c47 hp h hk _ _ _ _ (a9r h.ok.n.rk _) (a5H h.ok.n.cw _ _) hd
 ·rw [e]
  exact c6s hp h hk _ _
theorem c24 (n first least tol fin : Int) (ns ms outs : List Int) (dv : Bool) : Pk (mkPb n first least tol fin ns ms outs dv) := by
 have m1 := d2m n (by decide : (3 : Int) ≠ 0)
 have f1 := d2m first (by decide : (13 : Int) ≠ 0)
 have f2 := d2k first (by decide : (0 : Int) < 13)
 have g1 := d2m least (by decide : (10 : Int) ≠ 0)
 have g2 := d2k least (by decide : (0 : Int) < 10)
 have e1 := d2m fin (by decide : (536870912 : Int) ≠ 0)
 have e2 := d2k fin (by decide : (0 : Int) < 536870912)
 have ha : mkA first <= 28 := by unfold mkA; omega
 have hl : (2 : Nat) ^ (mkA first - mkB least) <= 2 ^ mkA first := d2v (by decide) (Nat.sub_le _ _)
 have hpos : 0 < (2 : Nat) ^ (mkA first - mkB least) := Nat.pow_pos (by decide)
 have hp28 : (2 : Nat) ^ mkA first <= 2 ^ 28 := d2v (by decide) ha
 refine ⟨⟨c7c n ns dv, ?_, ?_⟩, ⟨mkA first, ha, rfl⟩, ⟨mkA first - mkB least, by omega, rfl⟩, ?_, ?_, k8 _ _, b65 _ _ λi => A9 _ _ _⟩
 ·show 0 < (mkT n ns dv).n
  rw [c0y]; omega
 ·show (1 : Int) <= ((2 ^ (mkA first - mkB least) : Nat) : Int)
  omega
 ·show ((2 ^ (mkA first - mkB least) : Nat) : Int) <= ((2 ^ mkA first : Nat) : Int)
  omega
 ·show 0 <= mkE fin (2 ^ mkA first) /\ mkE fin (2 ^ mkA first) <= 2147483648
  generalize 2 ^ mkA first = F at hp28
  unfold mkE
  split <;> omega
structure SpecT (p : Pb) (x : Sta) (r : Trd) : Prop where
 err : fcmp .le r.err 4607182418800017408 = true
 e : r.e = 0
 npos : r.n.pos = x.n.pos + x.n.step
 nord : r.n.order = x.n.order
 nmet : r.n.method = x.n.method
 nstep : r.n.step = x.n.step
 pos : r.s.n.pos = x.n.pos + x.n.step
 fails : r.s.fails = 0
 step : (r.s.n.step = x.n.step /\ (r.s.n.order = x.n.order \/ r.s.n.order = x.n.order + 1)) \/ (r.s.n.step = 2 * x.n.step /\ r.s.n.order = x.n.order)
 met : r.s.n.method = x.n.method
 len : r.n.z.length = x.n.order.toNat + 1
 row : r.s.n.z.getD 0 [] = r.n.z.getD 0 []
 sol : ∃ d k, d.length = p.t.n /\ solG p.t (a16 x.n.z p.t.n x.n.order.toNat) (ofL x.n.method x.n.order.toNat) (hW x.n.step.toNat) (wtP (x.n.z.getD 0 []) p.atol p.rtol) x.n.method = (d, k, 0) /\ r.n.z = a44 (a16 x.n.z p.t.n x.n.order.toNat) (ofL x.n.method x.n.order.toNat) d (x.n.order.toNat + 1) p.t.n
structure SpecF (p : Pb) (x : Sta) (r : Trd) : Prop where
 nz : r.n.z = []
 pos : r.s.n.pos = x.n.pos
 half : r.e = 0 -> 2 * r.s.n.step = x.n.step
 stay : r.e ≠ 0 -> r.s = x /\ x.n.step <= p.least /\ (r.e = 5 \/ r.e = 4 \/ r.e = 2)
 anew : r.e = 0 -> r.s.fails = 0 -> r.s.n.order = 1
 ord : r.s.n.order = x.n.order \/ r.s.n.order = 1
 met : x.n.method <= r.s.n.method
 row : r.s.n.z.getD 0 [] = x.n.z.getD 0 []
theorem c46 {Z : List (List Nat)} {m n : Nat} (h : Rk m n Z) (hm : 0 < m) (x : List Nat) : (Z ++ [x]).getD 0 [] = Z.getD 0 [] := by
 rw [d2d, d2g (by rw [h.1]; exact hm), <- d2d]
theorem a3C {p : Pb} {k : Nat} {x : Sta} (hp : Pk p) (h : Inv p k x) : ((tryP p x).taken = true /\ SpecT p x (tryP p x)) \/ ((tryP p x).taken = false /\ SpecF p x (tryP p x)) := by
 rcases b2j hp h with ⟨d, kk, err, hsg, hd, hle, e⟩ | ⟨e', err, e⟩
 ·left
  rw [e]
  have hz := a3R (a9r h.ok.n.rk x.n.order.toNat) (ofL x.n.method x.n.order.toNat) d (x.n.order.toNat + 1) p.t.n
  have hc := a6b (a5H h.ok.n.cw p.t.n x.n.order.toNat) (ofL x.n.method x.n.order.toNat) d (x.n.order.toNat + 1) p.t.n
  unfold a4G
  simp only
  split
  ·exact ⟨trivial, hle, rfl, rfl, rfl, rfl, rfl, rfl, rfl, .inl ⟨rfl, .inl rfl⟩, rfl, hz.1, rfl, d, kk, hd, hsg, rfl⟩
  ·split
   ·exact ⟨trivial, hle, rfl, rfl, rfl, rfl, rfl, rfl, rfl, .inr ⟨rfl, rfl⟩, rfl, hz.1, b2r hz (by omega) hc _, d, kk, hd, hsg, rfl⟩
   ·split
    ·exact ⟨trivial, hle, rfl, rfl, rfl, rfl, rfl, rfl, rfl, .inl ⟨rfl, .inr rfl⟩, rfl, hz.1, c46 hz (by omega) _, d, kk, hd, hsg, rfl⟩
    ·exact ⟨trivial, hle, rfl, rfl, rfl, rfl, rfl, rfl, rfl, .inl ⟨rfl, .inl rfl⟩, rfl, hz.1, rfl, d, kk, hd, hsg, rfl⟩
 ·right
  rw [e]
  obtain ⟨⟨hm, ⟨j, hj, hst⟩, hr, hc, hpos⟩, hg, hf, hsl⟩ := h.ok
  obtain ⟨b, hb, hlb⟩ := hp.lst
  have hl1 := hp.ok.least
  unfold a66
  simp only
  split
  ·rename_i h1
   refine ⟨rfl, rfl, rfl, λh2 => ?_, λ_ => ⟨rfl, h1, ?_⟩, λh2 => ?_, .inl rfl, Int.le_refl _, rfl⟩
   ·replace h2 : (if e' = 4 \/ e' = 2 then e' else 5) = 0 := h2
    split at h2 <;> omega
   ·show (if e' = 4 \/ e' = 2 then e' else 5) = 5 \/ (if e' = 4 \/ e' = 2 then e' else 5) = 4 \/ (if e' = 4 \/ e' = 2 then e' else 5) = 2
    split <;> omega
   ·replace h2 : (if e' = 4 \/ e' = 2 then e' else 5) = 0 := h2
    split at h2 <;> omega
  ·rename_i h1
   have hhalf : 2 * (x.n.step / 2) = x.n.step := by
    obtain ⟨i, rfl⟩ : ∃ i, j = i + 1 := ⟨j - 1, by
     rcases j with _ | j
     ·simp at hst; omega
     ·omega⟩
    rw [hst, Nat.pow_succ]; omega
   have hrow := b2r hr (by omega) hc (-1)
   generalize (if e' = 6 /\ x.n.method = 0 then x.slow + 1 else x.slow) = sl'
   split
   ·refine ⟨rfl, rfl, rfl, λ_ => hhalf, λh2 => absurd rfl h2, λ_ _ => rfl, .inr rfl, ?_, hrow⟩
    show x.n.method <= 1
    omega
   ·split
    ·refine ⟨rfl, rfl, rfl, λ_ => hhalf, λh2 => absurd rfl h2, λ_ h2 => ?_, .inl rfl, Int.le_refl _, hrow⟩
     have h2 : x.fails + 1 = 0 := h2
     omega
    ·exact ⟨rfl, rfl, rfl, λ_ => hhalf, λh2 => absurd rfl h2, λ_ _ => rfl, .inr rfl, Int.le_refl _, hrow⟩
def d1s (R : Bnd × Int) : Prop := (R.2 = 0 /\ j7 R.1.jump = false /\ j7 R.1.defect = false /\ j7 R.1.norm = false /\ j7 R.1.growth = false /\ j7 R.1.bound = false) \/ (R.1 = ⟨0, 0, 0, 0, 0⟩ /\ (R.2 = 3 \/ R.2 = 7))
theorem c2U (J : List (List Iv)) (i : Nat) : ∀ b, a6W J i = some b -> j7 b = false := by
 induction i with
 | zero => intro b h; simp [a6W] at h; subst h; decide
 | succ i ih =>
  intro b h
  rw [a6W] at h
  split at h
  ·cases h
  ·rename_i b0 hb
   simp only at h
   split at h
   ·cases h
   ·rename_i hn
    simp only [Option.some.injEq] at h
    split at h
    ·subst h; simpa using hn
    ·subst h; exact ih _ hb
theorem c2V (J : List (List Iv)) : j7 (a6X J) = false := by
 unfold a6X
 cases h : a6W J J.length with
 | none => decide
 | some b => exact c2U J _ b h
theorem d0g {x y : Nat} (h : fcmp .lt x y = true) : j7 x = false := by
 cases hn : j7 x with
 | false => rfl
 | true =>
  unfold fcmp at h
  rw [a2u hn] at h
  simp at h
theorem b2L {x : Nat} (h : p9 x = true) : j7 x = false := by
 unfold p9 at h
 simp only [Bool.and_eq_true, Bool.not_eq_true'] at h
 exact h.1
theorem c85 (t : Tp) (box : List Iv) (q : List Md) (h e j d : Nat) (hj : j7 j = false) (hd : j7 d = false) : ∀ k r, d1s (bndK t box q h e j d k r) := by
 intro k
 induction k with
 | zero => intro r; exact .inr ⟨rfl, .inr rfl⟩
 | succ k ih =>
  intro r
  rw [bndK]
  split
  ·exact .inr ⟨rfl, .inl rfl⟩
  ·simp only
   split
   ·rename_i hlt
    exact .inl ⟨rfl, hj, hd, c2V _, b9z (a51 _ _).1, d0g hlt⟩
   ·split
    ·exact .inr ⟨rfl, .inr rfl⟩
    ·exact ih _
theorem c84 (t : Tp) (box : List Iv) (z : List (List Nat)) (h : Nat) (y : List Nat) (w : Nat) : d1s (bndP t box z h y w) := by
 unfold bndP
 simp only
 split
 ·exact .inr ⟨rfl, .inr rfl⟩
 ·rename_i hf
  have hf2 : p9 (A5 (jmpI z y) (t.n - 1)) = true /\ p9 (A5 (dftI t z (D7 z t.n) h) (t.n - 1)) = true := by
   simpa using hf
  exact c85 _ _ _ _ _ _ _ (b2L hf2.1) (b2L hf2.2) _ _
structure Pk2 (p : Pb) : Prop where
 pk : Pk p
 len : p.t.ops.length < 2 ^ 39
 box : p.box.length = p.t.n
 n : p.t.n <= 3
theorem c5N (n first least tol fin : Int) (ns ms outs : List Int) (dv : Bool) : Pk2 (mkPb n first least tol fin ns ms outs dv) := by
 have m1 := d2m n (by decide : (3 : Int) ≠ 0)
 have m2 := d2k n (by decide : (0 : Int) < 3)
 have hl := W6 n ns dv ((n % 3).toNat + 1) (min ns.length 8)
 refine ⟨c24 _ _ _ _ _ _ _ _ _, ?_, a6g _ _, ?_⟩
 ·show (K5 n ns dv ((n % 3).toNat + 1) (min ns.length 8)).length < 2 ^ 39
  omega
 ·show (mkT n ns dv).n <= 3
  rw [c0y]; omega
theorem a9z {p : Pb} {k : Nat} {x : Sta} (hp : Pk2 p) (hi : Inv p k x) (ht : (tryP p x).taken = true) (y : List Nat) (w : Nat) (hy : y.length = p.t.n) (hw : Pw w) : Bok p (tryP p x).n y w := by
 rcases a3C hp.pk hi with ⟨_, sp⟩ | ⟨h, _⟩
 ·obtain ⟨d, kk, hd, hs, hz⟩ := sp.sol
  have hm := hi.ok.n.m
  refine ⟨hp.pk.ok.t, hp.pk.ok.n, hp.len, ?_, ?_, ?_, hy, hw, hp.box⟩
  ·rw [sp.nord, hz]; exact a3R (a9r hi.ok.n.rk _) _ _ _ _
  ·rw [sp.nord]; omega
  ·rw [sp.nstep]; exact hi.ok.n.step
 ·rw [h] at ht; cases ht
theorem c1A {p b : Iv} (hp : Wf p) (hb : Fi b) (h : a2j p b = true) : Fi p /\ val b.1 <= val p.1 /\ val p.2 <= val b.2 := by
 unfold a2j at h
 simp only [Bool.and_eq_true] at h
 obtain ⟨h1, h2⟩ := h
 have n1 : p.1 ≠ qnan := λe => by rw [e] at h1; unfold fcmp at h1; rw [a2t (by decide)] at h1; simp at h1
 have n2 : p.2 ≠ qnan := λe => by rw [e] at h2; unfold fcmp at h2; rw [a2u (by decide)] at h2; simp at h2
 have b2cw : ∀ x, fin x -> fcmp .le finf x = false := λx ⟨s, m, i, hd⟩ => by simp [fcmp, Ieee.Format.order, hd, P8, Ieee.Datum.order]
 have b1cw : ∀ x, fin x -> fcmp .le x s8 = false := λx ⟨s, m, i, hd⟩ => by simp [fcmp, Ieee.Format.order, hd, P9, Ieee.Datum.order]
 have m2 : p.2 ≠ finf := λe => by rw [e, b2cw _ hb.2] at h2; cases h2
 have m1 : p.1 ≠ s8 := λe => by rw [e, b1cw _ hb.1] at h1; cases h1
 have m3 : p.1 ≠ finf := λe => m2 (hp.i1 e)
 have m4 : p.2 ≠ s8 := λe => m1 (hp.i2 e)
 have f1 : fin p.1 := b1M hp.c1 (by rintro (e | e | e) <;> contradiction)
 have f2 : fin p.2 := b1M hp.c2 (by rintro (e | e | e) <;> contradiction)
 exact ⟨⟨f1, f2⟩, (a2D hb.1 f1).1 h1, (a2D f2 hb.2).1 h2⟩
theorem d00 {p q : Iv} (h : Fi (y7 p q)) : val (y7 p q).1 <= val (y7 p q).2 := by
 obtain ⟨_, _, e, h4⟩ := a4T h
 unfold y7
 rw [e]; exact h4
theorem c9W {m : Md} (h : Fi (rngM m)) : val (rngM m).1 <= val (rngM m).2 := by
 unfold rngM at h ⊢; exact d00 h
theorem c5L {r : Nat} (h : Pw r) (h0 : 0 < r) : fop .sub 0 r = Ieee.double.word true r := by
 have h1 : Ieee.double.signWeight = 9223372036854775808 := rfl
 rw [(c20 h h0).1]; simp [Ieee.Format.word, h1]
theorem d1w {r : Nat} (h : Pw r) (h0 : 0 < r) : Wf (fop .sub 0 r, r) := by
 have hc : cw r := by
  by_cases e : r = 9218868437227405312
  ·subst e; exact .inr (.inl rfl)
  ·unfold Pw at h; exact .inr (.inr (.inr ⟨false, r, by omega, (E7 r).symm⟩))
 refine ⟨(show cw (fop .sub 0 r) from A9 _ _ _), hc, λe => ?_, λe => ?_⟩
 ·simp only at e
  rw [(c20 h h0).1] at e
  have e2 : finf = 9218868437227405312 := rfl
  rw [e2] at e; omega
 ·simp only at e
  have e2 : s8 = 18442240474082181120 := rfl
  unfold Pw at h
  omega
theorem c1D {q : List Md} {r i n : Nat} {box : List Iv} (hr : Pw r) (h0 : 0 < r) (hins : insK q box r n = true) (hi : i < n) (hb : Fi (mG box i)) : fin r /\ 0 < val r /\ Fi (rngM (q.getD i [])) /\ val (rngM (q.getD i [])).1 <= val (rngM (q.getD i [])).2 /\ ∀ u, Enc (rngM (q.getD i [])) u -> val (mG box i).1 <= u - val r /\ u + val r <= val (mG box i).2 := by
 unfold insK at hins
 rw [List.all_eq_true] at hins
 have hw := hins i (by simpa using hi)
 obtain ⟨hF, w1, w2⟩ := c1A (b9x _ _) hb hw
 obtain ⟨g1, g2⟩ := b6a (b9x _ _) (d1w hr h0) hF
 have hr1 : fin r := g2.2
 have hlt : r < 9218868437227405312 := by
  by_cases e : r = 9218868437227405312
  ·subst e; exact absurd hr1 P4
  ·unfold Pw at hr; omega
 have hv := (a6n hlt h0).2
 have hneg : val (fop .sub 0 r) = -val r := by
  rw [c5L hr h0, k6 true r hlt, Q6 hlt]; rfl
 refine ⟨hr1, hv, g1, c9W g1, λu hu => ?_⟩
 have e1 : Enc (fop .sub 0 r, r) (val r) := ⟨g2.1, g2.2, by show val (fop .sub 0 r) <= _; rw [hneg]; grind, by show val r <= val r; exact Rat.le_refl⟩
 have e2 : Enc (fop .sub 0 r, r) (-val r) := ⟨g2.1, g2.2, by show val (fop .sub 0 r) <= -val r; rw [hneg]; exact Rat.le_refl, by show -val r <= val r; grind⟩
 have a1 := (b4n (p := rngM (q.getD i [])) (q := (fop .sub 0 r, r)) hu e1 hF).hi
 have a2 := (b4n (p := rngM (q.getD i [])) (q := (fop .sub 0 r, r)) hu e2 hF).lo
 exact ⟨by grind, by grind⟩
theorem c9J {q : List Md} {r i n : Nat} {box : List Iv} (hr : Pw r) (h0 : 0 < r) (hins : insK q box r n = true) (hi : i < n) (hb : Fi (mG box i)) : fin r /\ 0 < val r /\ val r + val r <= val (mG box i).2 - val (mG box i).1 := by
 obtain ⟨h1, h2, h3, h4, h5⟩ := c1D hr h0 hins hi hb
 have := h5 _ ⟨h3.1, h3.2, Rat.le_refl, h4⟩
 exact ⟨h1, h2, by grind⟩
structure Pbx (p : Pb) : Prop where
 y : ∀ i, i < p.t.n -> ∃ k : Int, Ix (-3) (p.y.getD i 0) k /\ k.natAbs <= 400
 box : ∀ i, i < p.t.n -> Fi (mG p.box i) /\ val (mG p.box i).1 = val (p.y.getD i 0) - 16 /\ val (mG p.box i).2 = val (p.y.getD i 0) + 16
theorem d0k : Ix (-3) 4625196817309499392 128 := by
 have r : Ieee.double.read 4625196817309499392 = .number false 4503599627370496 (-48) := by decide
 refine ⟨⟨_, _, _, r⟩, ?_⟩
 rw [B3 r]
 have h7 : (-3 : Int) = -48 + (45 : Nat) := by decide
 have := (congrArg pw h7).trans (Q0 _ _)
 rw [this]; simp; grind
theorem ix_8 : Ix 3 4620693217682128896 1 := by
 have r : Ieee.double.read 4620693217682128896 = .number false 4503599627370496 (-49) := by decide
 refine ⟨⟨_, _, _, r⟩, ?_⟩
 rw [B3 r]
 have h7 : (3 : Int) = -49 + (52 : Nat) := by decide
 have := (congrArg pw h7).trans (Q0 _ _)
 rw [this]; simp
theorem c7Q (k : Int) : Ix (-3) (valN k) (k % 65 - 32) := by
 have h1 := d2m k (by decide : (65 : Int) ≠ 0)
 have h2 := d2k k (by decide : (0 : Int) < 65)
 exact Ix.div (Ix.ofInt _ (by omega)) ix_8 (by decide) (by decide) (by omega) (by omega) (by decide) (by decide)
theorem b8U (n first least tol fin : Int) (ns ms outs : List Int) (dv : Bool) : Pbx (mkPb n first least tol fin ns ms outs dv) := by
 have hy : ∀ i, i < (mkT n ns dv).n -> ∃ k : Int, Ix (-3) ((a9y (mkT n ns dv).n ms).getD i 0) k /\ k.natAbs <= 32 := λi hi => by
  unfold a9y
  rw [a5x _ _ _ hi]
  generalize (if i < ms.length then ms.getD i 0 else (i : Int)) = w
  have h1 := d2m w (by decide : (65 : Int) ≠ 0)
  have h2 := d2k w (by decide : (0 : Int) < 65)
  exact ⟨_, c7Q w, by omega⟩
 refine ⟨λi hi => ?_, λi hi => ?_⟩
 ·obtain ⟨k, h1, h2⟩ := hy i hi
  exact ⟨k, h1, by omega⟩
 ·obtain ⟨k, h1, h2⟩ := hy i hi
  have e : mG (mkPb n first least tol fin ns ms outs dv).box i = boxE (a9y (mkT n ns dv).n ms) i := by
   show (boxL _ _).getD i _ = _
   unfold boxL
   rw [d2d, List.getElem?_map, List.getElem?_range (show i < (mkT n ns dv).n from hi)]; rfl
  rw [e]
  have a := h1.sub d0k (by omega) (by decide) (by decide)
  have b := h1.add d0k (by omega) (by decide) (by decide)
  have p16 : (128 : Rat) * pw (-3) = 16 := by
   have := Q0 (-3) 3
   rw [show (-3 : Int) + (3 : Nat) = 0 from rfl, D4] at this
   have e : ((2 ^ 3 : Nat) : Rat) = 8 := rfl
   grind
  refine ⟨⟨a.fin, b.fin⟩, ?_, ?_⟩
  ·show val (fop .sub _ _) = val ((a9y (mkT n ns dv).n ms).getD i 0) - 16
   rw [a.val, h1.val, Rat.intCast_sub]
   have : ((128 : Int) : Rat) = 128 := rfl
   grind
  ·show val (fop .add _ _) = val ((a9y (mkT n ns dv).n ms).getD i 0) + 16
   rw [b.val, h1.val, Rat.intCast_add]
   have : ((128 : Int) : Rat) = 128 := rfl
   grind
def c9 : Nat := 4472406533629990549
theorem c7R {c : List Nat} (hc : ∀ i, cw (c.getD i 0)) (s : Nat) : ∀ m, Wf (valK c s m) /\ (Fi (valK c s m) -> val (valK c s m).1 <= val (valK c s m).2) := by
 intro m
 cases m with
 | zero => exact ⟨b5G (hc _), λ_ => Rat.le_refl⟩
 | succ m => exact ⟨b9x _ _, λh => by
   obtain ⟨_, _, e, h4⟩ := a4T h
   have ee : valK c s (m + 1) = (_, _) := e
   rw [ee]; exact h4⟩
theorem c7x {z : List (List Nat)} (h : Cw z) (i k : Nat) : cw ((colT z i).getD k 0) := by
 by_cases hk : k < z.length
 ·rw [a7a _ _ _ hk]; exact h k i
 ·rw [d2d, d2n (by rw [V0]; omega)]
  exact L4
theorem a0Y {a b : Nat} (fb : fin b) (hb : Pw b) (hab : a <= b) : a < 9218868437227405312 /\ b < 9218868437227405312 /\ val a <= val b /\ 0 <= val a := by
 have h : b < 9218868437227405312 := by
  by_cases e : b = 9218868437227405312
  ·subst e; exact absurd fb P4
  ·unfold Pw at hb; omega
 exact ⟨by omega, h, by rw [Q6 (by omega), Q6 h]; exact D8 hab, by rw [Q6 (by omega)]; exact s6 _⟩
theorem c22 {e : Nat} (he : Pw e) (h0 : 0 < e) : fop .mul 9218868437227405312 e = 9218868437227405312 := by
 have h9 : cf (Ieee.double.write (.infinity false)) = 9218868437227405312 := by decide
 unfold fop Ieee.Format.mul
 simp only
 rcases a0w he with ⟨n, j, r2⟩ | rfl
 ·rw [r2, x7]
  obtain ⟨l2, v2⟩ := a9R he r2
  have hm : n ≠ 0 := by
   rintro rfl
   have := Y5 h0
   rw [u5, v2] at this
   simp at this
  have e : Ieee.Datum.product (.infinity false) (.number false n j) = some (.infinity false) := by simp only [Ieee.Datum.product, hm, if_false, Bool.xor_self]
  rw [e]
  simp only [Option.map_some, Option.getD_some, h9]
 ·rw [x7]
  have e : Ieee.Datum.product (.infinity false) (.infinity false) = some (.infinity false) := by simp only [Ieee.Datum.product, Bool.xor_self]
  rw [e]
  simp only [Option.map_some, Option.getD_some, h9]
structure BVal (B : Bnd) (w X e : Nat) : Prop where
 ef : fin e
 e16 : val e <= 16
 wl : w < 9218868437227405312
 jl : B.jump < 9218868437227405312
 xl : X < 9218868437227405312
 w0 : 0 <= val w
 j0 : 0 <= val B.jump
 x0 : 0 <= val X
 lo : val w + val B.jump + val X <= val e
 hi : val e <= val w + val B.jump + val X + (eps + eps)
 bf : fin B.bound
 bl : B.bound < 9218868437227405312
 b16 : val B.bound <= 16
 gf : fin B.growth
 g1 : 1 <= val B.growth
 be : val e <= val B.bound
 bg : val B.bound <= val B.growth * val e + eps
theorem c7a {t : Tp} {box : List Iv} {z : List (List Nat)} {h w e r i : Nat} {y : List Nat} {R : Bnd × Int} (hb16 : Fi (mG box i) /\ val (mG box i).2 - val (mG box i).1 <= 32) (hn : i < t.n) (hw : Pw w) (hs : PSpec t box z h y w e r R) (h0 : 0 < h /\ h < 9218868437227405312) :
  BVal R.1 w (up (fop .mul h R.1.defect)) e := by
 obtain ⟨b1, b2⟩ := hb16
 have hr0 : 0 < r := by have := hs.b.er; have := hs.e0; omega
 obtain ⟨f, v0, v1⟩ := c9J hs.b.hr hr0 hs.b.ins hn b1
 obtain ⟨e1, e2, e3, e4⟩ := a0Y f hs.b.hr hs.b.er
 obtain ⟨c1, c2, c3, c4⟩ := a0Y f hs.b.hr (Nat.le_of_lt hs.b.lt)
 have ef := L6 e1
 obtain ⟨f2, v⟩ := a6n h0.2 h0.1
 have a1 := b0B hw hs.j
 have a2 := b0A f2 (by unfold Pw; omega) v hs.d
 have a3 := (Z3 a1).1
 have a4 := (Z3 a2).1
 have w1 := a6q hw hs.j
 have w2 := b3p a1
 have w3 := a6q a3 a4
 have w4 := b3p (b0B a3 a4)
 have he := hs.he
 have le1 : w <= e := by omega
 have le2 : R.1.jump <= e := by omega
 have le3 : up (fop .mul h R.1.defect) <= e := by omega
 have le4 : up (fop .add w R.1.jump) <= e := by omega
 obtain ⟨l1, _, l3, l4⟩ := a0Y ef hs.ep le1
 obtain ⟨m1, _, m3, m4⟩ := a0Y ef hs.ep le2
 obtain ⟨n1, _, n3, n4⟩ := a0Y ef hs.ep le3
 obtain ⟨o1, _, o3, o4⟩ := a0Y ef hs.ep le4
 have ep := a67
 have s1 := (a2z (L6 l1) (L6 m1) (A0 (r7 (by grind) (by grind)))).small (show rabs (val w + val R.1.jump) <= 4000 from r7 (by grind) (by grind))
 have s2 := (a2z (L6 o1) (L6 n1) (A0 (r7 (by grind) (by grind)))).small (show rabs (val (up (fop .add w R.1.jump)) + val (up (fop .mul h R.1.defect))) <= 4000 from r7 (by grind) (by grind))
 have ev : val e = val (up (fop .add (up (fop .add w R.1.jump)) (up (fop .mul h R.1.defect)))) := by rw [<- he]
 -- the bound
 have hg := a51 h R.1.norm
 have hg1 := b0a h R.1.norm
 rw [<- hs.b.growth] at hg hg1
 have hm := b4G hg.1 hg.2 hs.ep hs.e0
 have hbd := hs.b.bound
 have ml : fop .mul R.1.growth e < 9218868437227405312 := by
  by_cases e : fop .mul R.1.growth e = 9218868437227405312
  ·rw [e, c1C] at hbd; omega
  ·unfold Pw at hm; omega
 have gl : R.1.growth < 9218868437227405312 := by
  by_cases e : R.1.growth = 9218868437227405312
  ·rw [e, c22 hs.ep hs.e0] at ml; omega
  ·have := hg.1; unfold Pw at this; omega
 have gf := L6 gl
 have g1 : 1 <= val R.1.growth := by
  have := D8 hg1
  rw [<- Q6 (by decide : oneW < _), <- Q6 gl] at this
  rwa [v1W] at this
 have hwd := (a5M gf ef).hi (by rw [<- hbd]; exact L6 c1)
 rw [<- hbd] at hwd
 have hp0 : 0 <= val R.1.growth * val e := Rat.mul_nonneg (by grind) e4
 have s3 := (b0g gf ef (A0 (r7 (by grind) (by grind)))).small (show rabs (val R.1.growth * val e) <= 4000 from r7 (by grind) (by grind))
 rw [<- hbd] at s3
 have hge := d2p g1 e4
 exact ⟨ef, by grind, l1, m1, n1, l4, m4, n4, by grind, by grind, L6 c1, c1, by grind, gf, g1, by grind, by grind⟩
def ps (f : Nat -> Rat) (s : Rat) : Nat -> Nat -> Rat
 | _, 0 => 0
 | i, k + 1 => f i + s * ps f s (i + 1) k
def rp (s : Rat) : Nat -> Rat
 | 0 => 1
 | k + 1 => s * rp s k
theorem c9V {s : Rat} (h1 : -1 <= s) (h2 : s <= 0) : ∀ k, (k % 2 = 0 -> 0 <= rp s k /\ rp s k <= 1) /\ (k % 2 = 1 -> -1 <= rp s k /\ rp s k <= 0) := by
 intro k
 induction k with
 | zero => exact ⟨λ_ => ⟨by rw [rp]; decide, by rw [rp]; decide⟩, λh => by omega⟩
 | succ k ih =>
  refine ⟨λh => ?_, λh => ?_⟩
  ·obtain ⟨a, b⟩ := ih.2 (by omega)
   have p1 := Rat.mul_nonneg (show 0 <= -s by grind) (show 0 <= -rp s k by grind)
   have p2 := Rat.mul_nonneg (show 0 <= -s by grind) (show 0 <= 1 + rp s k by grind)
   rw [rp]
   exact ⟨by grind, by grind⟩
  ·obtain ⟨a, b⟩ := ih.1 (by omega)
   have p1 := Rat.mul_nonneg (show 0 <= -s by grind) a
   have p2 := Rat.mul_nonneg (show 0 <= -s by grind) (show 0 <= 1 - rp s k by grind)
   rw [rp]
   exact ⟨by grind, by grind⟩
theorem d1L : fin negW := ⟨true, 4503599627370496, -52, by decide +kernel⟩
theorem d1t : val negW = -1 := by
 have r : Ieee.double.read negW = .number true 4503599627370496 (-52) := by decide +kernel
 rw [B3 r]
 have h6 := pw52 (-52)
 rw [show (-52 : Int) + 52 = 0 from rfl, D4] at h6
 have : ((4503599627370496 : Nat) : Rat) = 4503599627370496 := rfl
 rw [this]
 simp only [if_true]
 grind
theorem c8Z : cw negW := .inr (.inr (.inr ⟨true, 4607182418800017408, by decide, by decide⟩))
def Pwr (k : Nat) (t : Rat) : Prop := (k % 2 = 0 -> 0 <= t /\ t <= 1) /\ (k % 2 = 1 -> -1 <= t /\ t <= 0)
theorem c68 {k : Nat} {t : Rat} (r : Pwr k t) : Enc (pwI k) t /\ Wf (pwI k) := by
 unfold pwI
 by_cases h : k % 2 = 0
 ·rw [if_pos h]
  obtain ⟨a, b⟩ := r.1 h
  exact ⟨⟨t8, f1W, by rw [r9]; exact a, by rw [v1W]; exact b⟩, ⟨L4, b74, λe => by exact absurd e (by decide), λe => by exact absurd e (by decide)⟩⟩
 ·rw [if_neg h]
  obtain ⟨a, b⟩ := r.2 (by omega)
  exact ⟨⟨d1L, t8, by rw [d1t]; exact a, by rw [r9]; exact b⟩, ⟨c8Z, L4, λe => by exact absurd e (by decide), λe => by exact absurd e (by decide)⟩⟩
def sumT (f t : Nat -> Rat) : Nat -> Rat
 | 0 => f 0
 | k + 1 => sumT f t k + f (k + 1) * t (k + 1)
theorem a9Q (c : List Nat) (i : Nat) (h : i < 9) : mG (ofM c) i = pt (c.getD i 0) := by
 unfold ofM mG
 rw [d2d, List.getElem?_map, List.getElem?_range (by omega)]
 simp only [Option.map_some, Option.getD_some]
 by_cases hc : i < c.length
 ·rw [if_pos ⟨hc, h⟩]
 ·rw [if_neg (λe => hc e.1), d2d, d2n (by omega)]; rfl
theorem b8R (c : List Nat) : mG (ofM c) 9 = (0, 0) := by
 unfold ofM mG
 rw [d2d, List.getElem?_map, List.getElem?_range (by omega)]
 simp
abbrev cf9 (c : List Nat) (j : Nat) : Rat := val (c.getD j 0)
theorem b3M {c : List Nat} (hc : ∀ i, cw (c.getD i 0)) (k : Nat) : Wf (Y7 (ofM c) k) := by
 cases k with
 | zero => show Wf (mG (ofM c) 0); rw [a9Q c 0 (by omega)]; exact b5G (hc _)
 | succ k => exact b9x _ _
theorem b9m {x : Nat} (h : fin x) : Enc (pt x) (val x) := ⟨h, h, Rat.le_refl, Rat.le_refl⟩
theorem c5A {c : List Nat} (hc : ∀ i, cw (c.getD i 0)) {u : Nat -> Rat} (hu : ∀ k, Pwr k (u k)) : ∀ k, k < 9 -> Fi (Y7 (ofM c) k) -> Enc (Y7 (ofM c) k) (sumT (cf9 c) u k) := by
 intro k
 induction k with
 | zero =>
  intro hk h
  unfold Y7 at h ⊢
  rw [a9Q c 0 (by omega)] at h ⊢
  exact b9m h.1
 | succ k ih =>
  intro hk h
  unfold Y7 at h ⊢
  rw [a9Q c (k + 1) hk] at h ⊢
  obtain ⟨g1, g2⟩ := b6a (b3M hc k) (c7b _ _) h
  obtain ⟨p1, p2⟩ := c68 (hu (k + 1))
  obtain ⟨g3, g4⟩ := c7r (b5G (hc _)) p2 g2
  have m := c33 (b9m g3.1) p1 (b5G (hc _)) p2 g2
  exact b4n (ih (by omega) g1) m h
theorem b8E {c : List Nat} (hc : ∀ i, cw (c.getD i 0)) {u : Nat -> Rat} (hu : ∀ k, Pwr k (u k)) (h : Fi (rngM (ofM c))) : Enc (rngM (ofM c)) (sumT (cf9 c) u 8) := by
 unfold rngM c0g at h ⊢
 rw [b8R] at h ⊢
 have w0 : Wf ((0, 0) : Iv) := b5G L4
 obtain ⟨g1, g2⟩ := b6a (b3M hc 8) w0 h
 have := b4n (c5A hc hu 8 (by omega) g1) (b9m t8) h
 rw [r9] at this
 have e : sumT (cf9 c) u 8 + 0 = sumT (cf9 c) u 8 := by grind
 rwa [e] at this
theorem c4j (z : List (List Nat)) (n i : Nat) (h : i < n) : (D7 z n).getD i [] = ofM (colT z i) := by
 unfold D7
 rw [d2d, List.getElem?_map, List.getElem?_range h]; rfl
end Go.Ab
