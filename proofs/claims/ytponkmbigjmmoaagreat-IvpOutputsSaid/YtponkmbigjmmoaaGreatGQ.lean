import Derived.Test.YtponkmbigjmmoaaGreatGP
set_option linter.unusedSimpArgs false
set_option linter.unusedVariables false
set_option maxRecDepth 16000
namespace Go.Ab
open Nat renaming reduceEqDiff -> n1_, reduceAdd -> n2_, reduceMul -> n3_, reduceLT -> n4_, reduceLeDiff -> n5_
open Int renaming reduceToNat -> i1_, reduceAdd -> i2_, reduceSub -> i3_, reduceMul -> i4_, reduceNeg -> i5_, reduceLT -> i6_, reduceLE -> i7_
open Go Go.Proofs
def M3 : CA := (.seq (.reg [i_N 0 30 .lss 29 28] [2, 3, 4, 8, 10, 11, 12, 27, 28, 29, 30]) (.seq (.cond (.t 30) .skip (.exit 0)) (.seq (.block 1 (.seq (.reg [i_I 0 31 27 29 2, i_A 1 32 31 2, i_X 2 14 (.alloc [.nil, fI 0] 191), i_S 3 14 32 2] [2, 3, 4, 8, 10, 11, 12, 14, 27, 28, 29]) (.reg [i_M 0 33 12, i_A 1 34 14 2, i_X 2 35 (.callA (kF 145) [(.t 34)]), i_X 3 36 (.bslice z_20 1 20 [(0, (20, (.t 35)))] 123), i_X 4 37 (.app (.t 33) (.t 36) 20 160), i_M 5 12 37] [2, 3, 4, 8, 10, 11, 12, 27, 28, 29]))) (.reg [i_B 0 38 .add 29 1, i_M 1 29 38] [2, 3, 4, 8, 10, 11, 12, 27, 28, 29]))))
def Y3 : CA := (.seq (.reg [i_B 0 77 .lss 76 3] [4, 8, 10, 12, 15, 17, 18, 76, 77]) (.seq (.cond (.t 77) .skip (.exit 2)) (.seq (.block 3 (.seq (.reg [i_M 0 78 12, i_M 1 79 18, i_X 2 80 (.callA (kF 149) [(.t 78), (.t 79)]), i_M 3 19 80] [4, 8, 10, 12, 15, 17, 18, 19, 76]) (.seq (.seq (.reg [i_M 0 81 19, i_P 1 82 4 3, i_L 2 83 82 1, i_X 3 84 (.callA (kF 150) [(.t 81), (.t 83)]), i_X 4 85 (.h (.un .not (.t 84)))] [4, 8, 10, 12, 15, 17, 18, 19, 76, 85]) (.cond (.t 85) (.seq (.reg [i_X 0 86 (.h (.build z_5 [])), i_S 1 8 86 5, i_K 2 9 3] [8, 9]) .ret) .skip)) (.seq (.reg [i_P 0 87 4 0, i_A 1 88 87 3, i_M 2 89 19, i_X 3 90 (.callA (kF 152) [(.t 88), (.t 89)]), i_X 4 91 (.callA (kF 151) [(.t 90)]), i_P 5 92 15 2, i_S 6 92 91 1] [4, 8, 10, 12, 15, 17, 18, 76]) (.seq (.reg [i_M 0 93 10, i_P 1 94 15 2, i_L 2 95 94 1, i_X 3 96 (.callA (kF 153) [(.t 93), (.t 95)]), i_P 4 97 15 3, i_S 5 97 96 1] [4, 8, 10, 12, 15, 17, 18, 76]) (.seq (.reg [i_P 0 98 15 3, i_L 1 99 98 1, i_M 2 100 17, i_F 3 101 .mul 99 100, i_X 4 102 (.callA (kF 148) [(.t 101)]), i_M 5 20 102] [4, 8, 10, 12, 15, 17, 18, 20, 76]) (.seq (.seq (.reg [i_M 0 103 20, i_M 1 104 18, i_X 2 105 (.h (.fcmp .lt (.t 103) (.t 104)))] [4, 8, 10, 12, 15, 17, 20, 76, 105]) (.cond (.t 105) (.seq (.reg [i_M 0 106 20, i_P 1 107 15 4, i_S 2 107 106 1] [8, 15]) (.seq (.reg [i_A 0 108 15 5, i_S 1 8 108 5, i_K 2 9 0] [8, 9]) .ret)) .skip)) (.seq (.seq (.reg [i_M 0 109 20, i_X 1 110 (.callA (kF 83) [(.t 109)]), i_X 2 111 (.h (.un .not (.t 110)))] [4, 8, 10, 12, 15, 17, 20, 76, 111]) (.cond (.t 111) (.exit 2) .skip)) (.reg [i_M 0 112 20, i_X 1 113 (.h (.fbin .mul (.k (.d (.flt 4616189618054758400))) (.t 112))), i_X 2 114 (.callA (kF 148) [(.t 113)]), i_M 3 18 114] [4, 8, 10, 12, 15, 17, 18, 76]))))))))) (.reg [i_B 0 115 .add 76 1, i_M 1 76 115] [4, 8, 10, 12, 15, 17, 18, 76]))))
def a8F : CA := (.seq (.reg [i_X 0 4 (.box (.t 0) 13 33), i_X 1 5 (.box (.t 1) 5 40), i_X 2 8 (.alloc z_5 143), i_K 3 9 0] [2, 3, 4, 5, 8]) (.seq (.reg [i_P 0 21 5 1, i_L 1 22 21 1, i_X 2 23 (.h (.i2f (.t 22))), i_X 3 24 (.callA (kF 96) [(.t 23), (.k (.d (.int .i64 (-30))))]), i_M 4 10 24] [2, 3, 4, 5, 8, 10]) (.seq (.reg [i_A 0 25 5 5, i_X 1 26 (.callA (kF 144) [(.t 25)]), i_M 2 11 26] [2, 3, 4, 8, 10, 11]) (.seq (.reg [i_X 0 12 (.h (.mov (.k .nil)))] [2, 3, 4, 8, 10, 11, 12]) (.seq (.seq (.reg [i_M 0 27 11, i_X 1 28 (.h (.len (.t 27))), i_K 2 29 0] [2, 3, 4, 8, 10, 11, 12, 27, 28, 29]) (.block 0 (.loop M3))) (.seq (.reg [i_M 0 39 11, i_M 1 40 2, i_X 2 41 (.callS 0 (kF 146) [(.t 39), (.t 40)]), i_P 3 42 4 0, i_A 4 43 42 3, i_M 5 44 11, i_M 6 45 12, i_M 7 46 10, i_X 8 47 (.callS 0 (kF 147) [(.t 43), (.t 44), (.t 45), (.t 46)]), i_X 9 48 (.h (.build z_5 [(0, (1, (.t 41))), (1, (1, (.t 47)))])), i_X 10 15 (.alloc z_5 143), i_S 11 15 48 5] [3, 4, 8, 10, 12, 15]) (.seq (.seq (.reg [i_P 0 49 15 0, i_L 1 50 49 1, i_X 2 51 (.callA (kF 83) [(.t 50)]), i_X 3 52 (.h (.un .not (.t 51))), i_M 4 53 52, g_F 5 54 53 (.h (.padd (.t 15) 1)), g_F 6 55 53 (.load (.t 54) 1 false), g_F 7 56 53 (.callA (kF 83) [(.t 55)]), g_F 8 57 53 (.h (.un .not (.t 56))), i_X 9 58 (.h (.pick (.t 53) (.k (.d (.bool true))) (.t 57)))] [3, 4, 8, 10, 12, 15, 58]) (.cond (.t 58) (.seq (.reg [i_X 0 59 (.h (.build z_5 [])), i_S 1 8 59 5, i_K 2 9 7] [8, 9]) .ret) .skip)) (.seq (.reg [i_M 0 60 3, i_P 1 61 15 0, i_L 2 62 61 1, i_F 3 63 .add 60 62, i_X 4 64 (.callA (kF 148) [(.t 63)]), i_M 5 16 64] [4, 8, 10, 12, 15, 16]) (.seq (.reg [i_M 0 65 16, i_M 1 66 10, i_P 2 67 15 1, i_L 3 68 67 1, i_F 4 69 .mul 66 68, i_X 5 70 (.callA (kF 148) [(.t 69)]), i_F 6 71 .add 65 70, i_X 7 72 (.callA (kF 148) [(.t 71)]), i_M 8 17 72] [4, 8, 10, 12, 15, 17]) (.seq (.reg [i_M 0 73 17, i_X 1 74 (.h (.fbin .mul (.k (.d (.flt 4616189618054758400))) (.t 73))), i_X 2 75 (.callA (kF 148) [(.t 74)]), i_M 3 18 75] [4, 8, 10, 12, 15, 17, 18]) (.seq (.seq (.reg [i_K 0 76 0] [4, 8, 10, 12, 15, 17, 18, 76]) (.block 2 (.loop Y3))) (.seq (.reg [i_X 0 116 (.h (.build z_5 [])), i_S 1 8 116 5, i_K 2 9 7] [8, 9]) .ret))))))))))))
theorem a7L : f7 Tryz.prog 94 = some ⟨117, [(8, (some (5, true))), (9, none)], a8F.strip⟩ := by kernel_rfl
abbrev bdV (b : Bnd) : V := .agg [fl b.jump, fl b.defect, fl b.norm, fl b.growth, fl b.bound]
theorem b6q (z : List (List Nat)) (n i : Nat) (h : i < n) : (D7 z n).getD i [] = ofM (colT z i) := by
 simp [D7, d2d, h]
theorem b2P (z : List (List Nat)) (n i : Nat) (h : i < n) : ((D7 z n).getD i []).length = 10 := by rw [b6q z n i h]; exact a1y _
structure Bok (p : Pb) (v : Nd) (y : List Nat) (w : Nat) : Prop where
 t : Tok p.t
 n : 0 < p.t.n
 len : p.t.ops.length < 2 ^ 39
 rk : Rk (v.order.toNat + 1) p.t.n v.z
 ord : v.order.toNat < 9
 step : ∃ j : Nat, j < 60 /\ v.step = (2 ^ j : Nat)
 y : y.length = p.t.n
 w : Pw w
 box : p.box.length = p.t.n
theorem d17 {L L' : Heap} {Y r n : Nat} {q : List Md} (h : L.get Y r = some (g7 n (mdG q))) (hn : q.length = n) (hr : ∀ i, i < n -> (q.getD i []).length = 10) (h' : L'.get Y r = none) : Fz L L' (.sl Y r 0 n 20 (n * 20)) (.d (mdD q)) := by
 unfold mdD
 rw [hn]
 exact .d (y6 (esz := 20) (λZ q hZ e => by cases e; exact hZ h') h (λj hj => a4Q _ _ (hr j hj)) rfl)
def NilTo (v : V) : Sl -> Sl -> Prop
 | [], [] => True
 | (i, a) :: s, (j, b) :: s' => i = j /\ (b = a \/ (a = .nil /\ b = v)) /\ NilTo v s s'
 | _, _ => False
theorem NilTo.look {v : V} {s s' : Sl} (h : NilTo v s s') (i : Nat) : look s' i = look s i \/ (look s i = .nil /\ look s' i = v) := by
 induction s generalizing s' with
 | nil => cases s' with
  | nil => exact .inl rfl
  | cons u us => exact h.elim
 | cons p s ih => cases s' with
  | nil => exact h.elim
  | cons q s' =>
   obtain ⟨k, a⟩ := p
   obtain ⟨k', b⟩ := q
   obtain ⟨rfl, hv, h2⟩ := h
   simp only [Ab.look]
   split
   ·exact hv
   ·exact ih h2
abbrev bsS0 (y : List Nat) (w H : Nat) (Z : List (List Nat)) (n : Nat) (v : V) (k : Nat) : Sl := [(2, .d (rowD y)), (3, fl w), (4, .ptr 0 0 0 13), (8, .ptr 2 0 0 5), (10, fl H), (11, .d (ptD Z n)), (12, v), (27, .d (ptD Z n)), (28, fI n), (29, fI k)]
abbrev bsH (nd pb : List V) : Heap := [(2, [[fl 0, fl 0, fl 0, fl 0, fl 0]]), (1, [nd]), (0, [pb])]
theorem c6E (nd pb : List V) (hnd : ∀ L, KpA L nd) (hpb : ∀ L, KpA L pb) (hndF : ∀ L L', FzA L L' nd nd) (hpbF : ∀ L L', FzA L L' pb pb) (y : List Nat) (w H : Nat) (Z : List (List Nat)) (n m : Nat) (hk : Rk (m + 1) n Z) (hn : 0 < n /\ n < 2 ^ 20) (ho : m < 9) (Q : Ex -> T -> Prop)
  (hQ : ∀ a, Q (.exit 0) ⟨bsS0 y w H Z n (.d (mdD (D7 Z n))) n ++ [(30, a)], bsH nd pb⟩) :
  WA Tryz.prog (λ_ => False) 117 (.loop M3) Q ⟨bsS0 y w H Z n .nil 0, bsH nd pb⟩ := by
 have hqr := b2P Z n
 have hql := b6r Z n
 have hrow := b6q Z n
 refine j5 (n := n) (λc s => ∃ k, c + k = n /\ ((k < n /\ s = ⟨bsS0 y w H Z n (.sl 100 0 0 k 20 (k * 20)) k, (100, [g7 k (mdG (D7 Z n))]) :: bsH nd pb⟩) \/ (k = n /\ s = ⟨bsS0 y w H Z n (.d (mdD (D7 Z n))) k, bsH nd pb⟩))) (s0 := ⟨_, _⟩)
  (LeT.nilrow (X := 100) (esz := 20) (as' := bsS0 y w H Z n (.sl 100 0 0 0 20 0) 0) (by simp [d6, d9]) (λh => h) (NilTo.look ?_)) ⟨0, by omega, .inl ⟨by omega, rfl⟩⟩ ?_
 ·repeat (first | exact trivial | refine ⟨rfl, .inl rfl, ?_⟩ | refine ⟨rfl, .inr ⟨rfl, rfl⟩, ?_⟩)
 rintro c s ⟨k, hc, ⟨hkn, rfl⟩ | ⟨hkn, rfl⟩⟩
 ·have hcl : (g7 k (mdG (D7 Z n))).length = k * 20 := u9 k λj hj => a4Q _ _ (hqr j (by omega))
  have hpo := a1y (colT Z k)
  refine evx (And.intro @M3.eq_1 @ptD.eq_1) ?_
  have h2 : decide (k < n) = true := decide_eq_true (by omega)
  refine evx (And.intro h2 @ptG.eq_1) ?_
  repeat with_reducible refine andO ?_
  refine a0 (b1E Z m n k hk hkn (by omega)) rfl ?_
  simp -implicitDefEqProofs only [evI, hv, effC, reduceCtorEq, ↓reduceIte, n1_, n2_, n3_, n4_, n5_, i1_, i2_, i3_, i4_, i5_, i6_, i7_, K7 _ hpo, H7 _ hpo, C7 _ hpo]
  repeat with_reducible refine andO ?_
  have e : g7 k (mdG (D7 Z n)) ++ ivC (ofM (colT Z k)) = g7 (k + 1) (mdG (D7 Z n)) := by rw [E1, P5, mdG, hrow k hkn]
  rw [e, f0 (by omega) (by omega), show k * 20 + 20 = (k + 1) * 20 by omega]
  by_cases hlast : k + 1 = n
  ·have hz : ∀ L : Heap, L.get 100 0 = some (g7 (k + 1) (mdG (D7 Z n))) -> Fz L (bsH nd pb) (.sl 100 0 0 (k + 1) 20 ((k + 1) * 20)) (.d (mdD (D7 Z n))) := λL a => d17 a (by omega) (λi hi => hqr i (by omega)) (by simp [d8, g5])
   have hpt : ∀ L L' : Heap, Fz L L' (.d (.bor n (ptG Z))) (.d (ptD Z n)) := λL L' => .d (.d _)
   refine ⟨c - 1, _, by omega, ?_, k + 1, by omega, .inr ⟨hlast, rfl⟩⟩
   have hz2 := hz ((107, [ivC (ofM (colT Z k))]) :: (103, [[.d (.bor Z.length (a1w Z)), .d (.int .i64 (k : Int))]]) :: (100, [g7 (k + 1) (mdG (D7 Z n))]) :: bsH nd pb) (by simp [d8])
   exact LeT.weak (λ_ h => h) (by simp (maxDischargeDepth := 6) [fzS, hpt, hz2]) (by simp (maxDischargeDepth := 6) [fzS, hpt, hndF, hpbF])
  ·refine ⟨c - 1, _, by omega, LeT.only (λX => decide (X <= 100)) (λ_ h => h) rfl (by simp (maxDischargeDepth := 6) [kpS, d6, d9, hnd, hpb]) (by simp (maxDischargeDepth := 6) [kpS, d6, d9, hnd, hpb]), k + 1, by omega, .inl ⟨by omega, rfl⟩⟩
 ·subst hkn
  refine evx (And.intro @M3.eq_1 (And.intro @ptD.eq_1 @Nat.lt_irrefl)) ?_
  exact hQ _
abbrev bsS1 (h e r : Nat) (q : List Md) (k : Nat) : Sl := [(4, .ptr 0 0 0 13), (8, .ptr 2 0 0 5), (10, fl h), (12, .d (mdD q)), (15, .ptr 13 0 0 5), (17, fl e), (18, fl r), (76, fI k)]
abbrev bsH1 (nd : List V) (p : Pb) (od : D) (o : List Nat) : Heap := [(13, [rowV o]), (2, [[fl 0, fl 0, fl 0, fl 0, fl 0]]), (1, [nd]), (0, [pbCo p od])]
theorem c6D (nd : List V) (p : Pb) (od : D) (q : List Md) (h e j d : Nat) (ht : Tok p.t) (hn : 0 < p.t.n) (hb : p.box.length = p.t.n) (hq : q.length = p.t.n) (hqr : ∀ i, i < p.t.n -> (q.getD i []).length = 10) (he : Pw e /\ 0 < e) (r0 : Nat) (hr0 : Pw r0 /\ 0 < r0) (Q : Ex -> T -> Prop) (R : Bnd × Int) (hR : bndK p.t p.box q h e j d 3 r0 = R)
  (hQ1 : ∀ o : List Nat, o.length = 5 -> Q .ret ⟨[(8, .ptr 2 0 0 5), (9, fI R.2)], [(13, [rowV o]), (2, [[fl R.1.jump, fl R.1.defect, fl R.1.norm, fl R.1.growth, fl R.1.bound]]), (1, [nd]), (0, [pbCo p od])]⟩)
  (hQ2 : R = (⟨0, 0, 0, 0, 0⟩, 7) -> ∀ (o : List Nat) r k a, Q (.exit 2) ⟨bsS1 h e r q k ++ [(77, a)], bsH1 nd p od o⟩)
  (hQ3 : R = (⟨0, 0, 0, 0, 0⟩, 7) -> ∀ (o : List Nat) b k a, Q (.exit 2) ⟨[(4, .ptr 0 0 0 13), (8, .ptr 2 0 0 5), (10, fl h), (12, .d (mdD q)), (15, .ptr 13 0 0 5), (17, fl e), (20, fl b), (76, k), (111, a)], bsH1 nd p od o⟩) :
  WA Tryz.prog (λ_ => False) 117 (.loop Y3) Q ⟨bsS1 h e r0 q 0, bsH1 nd p od [j, d, 0, 0, 0]⟩ := by
 have hn20 := ht.n
 refine r5 (n := 3) (λc s => ∃ k r a b, c + k = 3 /\ Pw r /\ 0 < r /\ bndK p.t p.box q h e j d c r = R /\ s = ⟨bsS1 h e r q k, bsH1 nd p od [j, d, a, b, 0]⟩) ⟨0, r0, 0, 0, by omega, hr0.1, hr0.2, hR, rfl⟩ ?_
 rintro c s ⟨k, r, a, b, hc, hr, hrp, hR, rfl⟩
 refine evx @Y3.eq_1 ?_
 refine b9 (λh2 => ?_) (λh2 => ?_)
 ·replace h2 := d2b h2
  obtain ⟨c', rfl⟩ : ∃ c', c = c' + 1 := ⟨c - 1, by omega⟩
  have htl := a1s (tubI q r) p.t.n
  have hjl := b83 p.t (tabI (tubI q r) p.t.n)
  have hjr := λi hi => c3w p.t (tabI (tubI q r) p.t.n) ht i hi
  have hcw := c8L p.t (tabI (tubI q r) p.t.n)
  rw [bndK, c8Q] at hR
  refine ev ?_
  refine a0 (b1V q r p.t.n hq hqr (by omega) hr hrp) rfl ?_
  refine ev ?_
  refine a0 (a8R (tabI (tubI q r) p.t.n) p.box p.t.n htl (by omega) (by omega)) rfl ?_
  cases hin : insL (tabI (tubI q r) p.t.n) p.box p.t.n
  ·rw [hin, if_pos rfl] at hR
   subst hR
   refine ev ?_
   exact hQ1 [j, d, a, b, 0] rfl
  ·rw [hin, if_neg (by decide)] at hR
   simp only at hR
   refine ev ?_
   refine a0 (c4G p.t (tabI (tubI q r) p.t.n) ht htl hn) rfl ?_
   refine ev ?_
   refine a0 (b5X (jacI p.t (tabI (tubI q r) p.t.n)) p.t.n hjl hjr (by omega) hcw) rfl ?_
   generalize a6X (jacI p.t (tabI (tubI q r) p.t.n)) = nm at hR ⊢
   refine ev ?_
   refine a0 (a8T h nm) rfl ?_
   obtain ⟨g1, g2⟩ := a51 h nm
   generalize a8P h nm = g at hR g1 g2 ⊢
   refine ev ?_
   refine a0 (F6 (fop .mul g e)) rfl ?_
   have hb1 := Z3 (b4G g1 g2 he.1 he.2)
   generalize up (fop .mul g e) = b2 at hR hb1 ⊢
   refine ev ?_
   refine b9 (λh3 => ?_) (λh3 => ?_)
   ·rw [if_pos h3] at hR
    subst hR
    refine ev ?_
    exact hQ1 [j, d, nm, g, b2] rfl
   ·rw [if_neg (by simp [h3])] at hR
    refine ev ?_
    refine a0 (q6 b2) rfl ?_
    cases hf : p9 b2
    ·rw [hf, if_pos rfl] at hR
     refine ev ?_
     exact hQ3 hR.symm [j, d, nm, g, 0] _ _ _
    ·rw [hf, if_neg (by decide)] at hR
     obtain ⟨f1, f2⟩ := a64 hb1.1
     refine ev ?_
     refine a0 (F6 (fop .mul 4616189618054758400 b2)) rfl ?_
     refine ev ?_
     rw [f0 (by omega) (by omega)]
     exact ⟨c', by omega, k + 1, _, nm, g, by omega, f1, f2, hR, rfl⟩
 ·replace h2 := d2c h2
  obtain rfl : c = 0 := by omega
  rw [bndK] at hR
  refine ev ?_
  exact hQ2 hR.symm [j, d, a, b, 0] _ _ _
theorem a58 {s : T} {R : Bnd × Int} (h1 : look s.sl 8 = .ptr 2 0 0 5) (h2 : look s.sl 9 = fI R.2) (h3 : s.L.get 2 0 = some [fl R.1.jump, fl R.1.defect, fl R.1.norm, fl R.1.growth, fl R.1.bound]) : M4 (λ_ => False) 117 [(8, some (5, true)), (9, none)] (.tup [bdV R.1, fI R.2]) [] .ret s :=
 a0W rfl ⟨_, _, K1 (by decide) h1 h3 rfl (by simp) (by simp [ldv]), by rw [<- h2]; exact f8 (by decide) rfl, rfl⟩
theorem b0v (p : Pb) (od : D) (v : Nd) (y : List Nat) (w : Nat) (h : Bok p v y w) : Con Tryz.prog 94 [pbVo p od, ndV v, .d (rowD y), fl w] (.tup [bdV (bndP p.t p.box v.z (hW v.step.toNat) y w).1, fI (bndP p.t p.box v.z (hW v.step.toNat) y w).2]) := by
 obtain ⟨ht, hn, hlen, hk, ho, ⟨j, hj, hst⟩, hy, hw, hb⟩ := h
 have hn20 := ht.n
 have hp := b0u v p.t.n (by have := hk.1; omega) (hk.2 0 (by omega)) (by omega)
 refine b7 a7L rfl f5 ?_
 refine evx @a8F.eq_1 ?_
 rw [hst]
 refine a0 (a0Z j hj) rfl ?_
 refine ev ?_
 refine a0 (hp) rfl ?_
 have hH := c8T j hj
 generalize hW (2 ^ j) = H at hH ⊢
 obtain ⟨pos, st, o, mt, Z⟩ := v
 simp only at hst hk ho hp ⊢
 obtain ⟨m, hm⟩ : ∃ m, o.toNat = m := ⟨_, rfl⟩
 rw [hm] at hk ho
 have hqr := b2P Z p.t.n
 have hql := b6r Z p.t.n
 refine evx @ptD.eq_1 ?_
 refine c6E (ndC ⟨pos, st, o, mt, Z⟩) (pbCo p od) (λL => by simp [G5, a0x, Kp_d]) (λL => by simp [G5, a0x, Kp_d]) (λL L' => by simp [b4L, b8p, Fz_d]) (λL L' => by simp [b4L, b8p, Fz_d]) y w H Z p.t.n m hk ⟨hn, hn20⟩ (by omega) _ λa => ?_
 have hj1 := b1W Z y m p.t.n hk hy ⟨hn, by omega⟩ (by omega)
 have hd1 := a8U p.t Z (D7 Z p.t.n) H m p.t.n ht rfl hlen hk hql hqr ⟨hn, by omega⟩ (by omega)
 obtain ⟨ji, _, jE⟩ := a1H (jmpI Z y) (p.t.n - 1)
 obtain ⟨di, _, dE⟩ := a1H (dftI p.t Z (D7 Z p.t.n) H) (p.t.n - 1)
 have hjP : p9 (A5 (jmpI Z y) (p.t.n - 1)) = true -> Pw (A5 (jmpI Z y) (p.t.n - 1)) := λhf => by rw [jE] at hf ⊢; exact a90 hf
 have hdP : p9 (A5 (dftI p.t Z (D7 Z p.t.n) H) (p.t.n - 1)) = true -> Pw (A5 (dftI p.t Z (D7 Z p.t.n) H) (p.t.n - 1)) := λhf => by rw [dE] at hf ⊢; exact a90 hf
 unfold bndP
 simp only
 clear jE dE
 refine ev ?_
 refine d5 (hj1) rfl ?_
 refine ev ?_
 refine d5 (hd1) rfl ?_
 generalize A5 (jmpI Z y) (p.t.n - 1) = jj at hjP ⊢
 generalize A5 (dftI p.t Z (D7 Z p.t.n) H) (p.t.n - 1) = dd at hdP ⊢
 refine ev ?_
 refine a0 (q6 jj) rfl ?_
 generalize hR : (if (p9 jj && p9 dd) = false then ((⟨0, 0, 0, 0, 0⟩, 7) : Bnd × Int) else bndK p.t p.box (D7 Z p.t.n) H (up (fop .add (up (fop .add w jj)) (up (fop .mul H dd)))) jj dd 3 (up (fop .mul 4616189618054758400 (up (fop .add (up (fop .add w jj)) (up (fop .mul H dd))))))) = R
 cases h1 : p9 jj
 ·rw [h1, Bool.false_and, if_pos rfl] at hR
  subst hR
  refine ev ?_
  exact a58 (R := (⟨0, 0, 0, 0, 0⟩, 7)) rfl rfl rfl
 ·refine ev ?_
  refine a0 (q6 dd) rfl ?_
  cases h2 : p9 dd
  ·rw [h1, h2, Bool.and_false, if_pos rfl] at hR
   subst hR
   refine ev ?_
   exact a58 (R := (⟨0, 0, 0, 0, 0⟩, 7)) rfl rfl rfl
  ·rw [h1, h2, Bool.and_self, if_neg (by decide)] at hR
   have hb1 := b0w hw (hjP h1) (hdP h2) hH
   refine ev ?_
   refine a0 (F6 (fop .add w jj)) rfl ?_
   refine ev ?_
   refine a0 (F6 (fop .mul H dd)) rfl ?_
   refine ev ?_
   refine a0 (F6 (fop .add (up (fop .add w jj)) (up (fop .mul H dd)))) rfl ?_
   generalize up (fop .add (up (fop .add w jj)) (up (fop .mul H dd))) = e at hb1 hR ⊢
   have hr1 := a64 hb1.1
   refine ev ?_
   refine a0 (F6 (fop .mul 4616189618054758400 e)) rfl ?_
   generalize up (fop .mul 4616189618054758400 e) = r at hr1 hR ⊢
   refine ev ?_
   refine c6D _ p od (D7 Z p.t.n) H e jj dd ht hn hb hql hqr hb1 r hr1 _ R hR ?_ ?_ ?_
   ·intro ov ho5
    refine ev ?_
    exact a58 rfl rfl rfl
   ·rintro rfl ov r' k' a'
    refine ev ?_
    exact a58 (R := (⟨0, 0, 0, 0, 0⟩, 7)) rfl rfl rfl
   ·rintro rfl ov b' k' a'
    refine ev ?_
    exact a58 (R := (⟨0, 0, 0, 0, 0⟩, 7)) rfl rfl rfl
theorem b1X (p : Pb) (v : Nd) (y : List Nat) (w : Nat) (h : Bok p v y w) : Con Tryz.prog 94 [pbV p, ndV v, .d (rowD y), fl w] (.tup [bdV (bndP p.t p.box v.z (hW v.step.toNat) y w).1, fI (bndP p.t p.box v.z (hW v.step.toNat) y w).2]) := b0v p (rowI p.outs) v y w h
def a3r : CA := (.seq (.reg [i_K 0 2 0] [0]) (.seq (.seq (.reg [i_M 0 3 0, i_B 1 4 .lss 3 0] [0, 4]) (.cond (.t 4) (.seq (.reg [i_M 0 5 0, i_X 1 6 (.h (.un .neg (.t 5))), i_M 2 2 6] [2]) .ret) .skip)) (.seq (.reg [i_M 0 7 0, i_M 1 2 7] [2]) .ret)))
theorem a31 : f7 Tryz.prog 274 = some ⟨8, [(2, none)], a3r.strip⟩ := by kernel_rfl
def U7 : CA := (.seq (.seq (.reg [i_M 0 5 1, i_B 1 6 .neq 5 0] [0, 1, 6]) (.cond (.t 6) .skip (.exit 0))) (.block 1 (.reg [i_M 0 7 1, i_M 1 8 0, i_M 2 9 1, i_N 3 10 .rem 8 9, i_M 4 0 7, i_M 5 1 10] [0, 1])))
def a1n : CA := (.seq (.reg [i_K 0 4 0] [0, 1]) (.seq (.block 0 (.loop U7)) (.seq (.reg [i_M 0 11 0, i_X 1 12 (.callA (kF 274) [(.t 11)]), i_M 2 4 12] [4]) .ret)))
theorem a2f : f7 Tryz.prog 266 = some ⟨13, [(4, none)], a1n.strip⟩ := by kernel_rfl
def a3q : CA := (.seq (.reg [i_N 0 15 .lss 14 13] [1, 5, 12, 13, 14, 15]) (.seq (.cond (.t 15) .skip (.exit 0)) (.seq (.block 1 (.seq (.reg [i_M 0 16 14, i_I 1 17 12 14 1, i_L 2 18 17 1, i_M 3 6 16, i_M 4 7 18] [1, 5, 6, 7, 12, 13, 14]) (.seq (.reg [i_M 0 19 5, i_M 1 20 6, i_I 2 21 19 20 1, i_L 3 22 21 1, i_M 4 23 1, i_M 5 24 7, i_N 6 25 .mul 23 24, i_N 7 26 .add 22 25, i_I 8 27 19 20 1, i_S 9 27 26 1] [1, 5, 6, 7, 12, 13, 14]) (.reg [i_M 0 28 5, i_M 1 29 6, i_B 2 30 .add 29 1, i_I 3 31 28 30 1, i_L 4 32 31 1, i_M 5 33 7, i_N 6 34 .add 32 33, i_I 7 35 28 30 1, i_S 8 35 34 1] [1, 5, 12, 13, 14])))) (.reg [i_B 0 36 .add 14 1, i_M 1 14 36] [1, 5, 12, 13, 14]))))
def a8z : CA := (.seq (.reg [i_X 0 4 (.h (.mov (.k .nil)))] [0, 1]) (.seq (.reg [i_M 0 8 0, i_X 1 9 (.h (.len (.t 8))), i_B 2 10 .add 9 1, i_X 3 11 (.mksl [fI 0] 1 8 (.t 10) (.t 10) 3), i_M 4 5 11] [0, 1, 5]) (.seq (.seq (.reg [i_M 0 12 0, i_X 1 13 (.h (.len (.t 12))), i_K 2 14 0] [1, 5, 12, 13, 14]) (.block 0 (.loop a3q))) (.seq (.reg [i_M 0 37 5, i_M 1 4 37] [4]) .ret))))
theorem a7F : f7 Tryz.prog 265 = some ⟨38, [(4, none)], a8z.strip⟩ := by kernel_rfl
def a1m : CA := (.seq (.reg [i_N 0 8 .lss 7 6] [3, 6, 7, 8]) (.seq (.cond (.t 8) .skip (.exit 0)) (.seq (.block 1 (.seq (.reg [i_M 0 9 7, i_M 1 4 9] [3, 4, 6, 7]) (.reg [i_M 0 10 3, i_M 1 11 4, i_B 2 12 .add 11 1, i_X 3 13 (.callA (kF 265) [(.t 10), (.t 12)]), i_M 4 3 13] [3, 6, 7]))) (.reg [i_B 0 14 .add 7 1, i_M 1 7 14] [3, 6, 7]))))
def a4C : CA := (.seq (.reg [i_X 0 2 (.h (.mov (.k .nil)))] [0]) (.seq (.reg [i_X 0 5 (.bslice [fI 0] 1 1 [(0, (1, (kI 1)))] 3), i_M 1 3 5] [0, 3]) (.seq (.seq (.reg [i_M 0 6 0, i_K 1 7 0] [3, 6, 7]) (.block 0 (.loop a1m))) (.seq (.reg [i_M 0 15 3, i_M 1 2 15] [2]) .ret))))
theorem a5r : f7 Tryz.prog 255 = some ⟨16, [(2, none)], a4C.strip⟩ := by kernel_rfl
def a0P : CA := (.seq (.seq (.reg [i_M 0 7 2, i_B 1 8 .lss 7 0] [0, 1, 2, 8]) (.cond (.t 8) (.reg [i_M 0 9 1, i_X 1 10 (.h (.un .neg (.t 9))), i_M 2 11 2, i_X 3 12 (.h (.un .neg (.t 11))), i_M 4 1 10, i_M 5 2 12] [0, 1, 2]) .skip)) (.seq (.reg [i_M 0 13 1, i_M 1 14 2, i_X 2 15 (.callA (kF 266) [(.t 13), (.t 14)]), i_M 3 6 15] [0, 1, 2, 6]) (.reg [i_M 0 16 0, i_M 1 17 0, i_M 2 18 0, i_X 3 19 (.h (.nilck (.t 18))), i_P 4 20 19 0, i_L 5 21 20 1, i_M 6 22 1, i_M 7 23 6, i_N 8 24 .quo 22 23, i_X 9 25 (.bslice [fI 0] 1 1 [(0, (1, (.t 24)))] 3), ⟨10, (some 26), none, [], [(.t 0)], (.app (.t 21) (.t 25) 1 8)⟩, i_M 11 27 0, i_X 12 28 (.h (.nilck (.t 27))), i_P 13 29 28 1, ⟨14, (some 30), none, [(.t 0)], [], (.load (.t 29) 1 false)⟩, i_M 15 31 2, i_M 16 32 6, i_N 17 33 .quo 31 32, i_X 18 34 (.bslice [fI 0] 1 1 [(0, (1, (.t 33)))] 3), i_X 19 35 (.app (.t 30) (.t 34) 1 8), i_X 20 36 (.h (.nilck (.t 16))), i_P 21 37 36 0, i_S 22 37 26 1, i_X 23 38 (.h (.nilck (.t 17))), i_P 24 39 38 1, i_S 25 39 35 1] [])))
theorem Y2 : f7 Tryz.prog 256 = some ⟨40, [], a0P.strip⟩ := by kernel_rfl
def a3u : CA := (.seq (.reg [i_N 0 18 .lss 17 16] [2, 3, 4, 16, 17, 18]) (.seq (.cond (.t 18) .skip (.exit 0)) (.seq (.block 1 (.seq (.reg [i_M 0 19 17, i_M 1 5 19] [2, 3, 4, 5, 16, 17]) (.reg [i_M 0 20 4, i_M 1 21 5, i_X 2 22 (.h (.mm true (.t 21) (kI 1))), i_N 3 23 .mul 20 22, i_M 4 4 23] [2, 3, 4, 16, 17]))) (.reg [i_B 0 24 .add 17 1, i_M 1 17 24] [2, 3, 4, 16, 17]))))
def a3t : CA := (.seq (.reg [i_N 0 28 .lss 27 26] [2, 3, 4, 6, 7, 25, 26, 27, 28]) (.seq (.cond (.t 28) .skip (.exit 2)) (.seq (.block 3 (.seq (.reg [i_M 0 29 27, i_I 1 30 25 27 1, i_L 2 31 30 1, i_M 3 8 29, i_M 4 9 31] [2, 3, 4, 6, 7, 8, 9, 25, 26, 27]) (.seq (.reg [i_M 0 32 6, i_M 1 33 7, i_M 2 34 9, i_N 3 35 .mul 33 34, i_M 4 36 8, i_B 5 37 .add 36 1, i_X 6 38 (.h (.ibin .quo (kI 60) (.t 37))), i_N 7 39 .mul 35 38, i_N 8 40 .add 32 39, i_M 9 6 40] [2, 3, 4, 6, 7, 25, 26, 27]) (.reg [i_M 0 41 7, i_X 1 42 (.h (.un .neg (.t 41))), i_M 2 7 42] [2, 3, 4, 6, 7, 25, 26, 27])))) (.reg [i_B 0 43 .add 27 1, i_M 1 27 43] [2, 3, 4, 6, 7, 25, 26, 27]))))
def a3s : CA := (.seq (.reg [i_N 0 52 .lss 51 50] [2, 4, 10, 49, 50, 51, 52]) (.seq (.cond (.t 52) .skip (.exit 4)) (.seq (.block 5 (.seq (.reg [i_M 0 53 51, i_I 1 54 49 51 1, i_L 2 55 54 1, i_M 3 11 53, i_M 4 12 55] [2, 4, 10, 11, 12, 49, 50, 51]) (.reg [i_M 0 56 12, i_M 1 57 4, i_M 2 58 11, i_B 3 59 .add 58 1, i_N 4 60 .mul 57 59, i_X 5 61 (.callA (kF 256) [(.t 10), (.t 56), (.t 60)])] [2, 4, 10, 49, 50, 51]))) (.reg [i_B 0 62 .add 51 1, i_M 1 51 62] [2, 4, 10, 49, 50, 51]))))
def a8A : CA := (.seq (.reg [i_X 0 2 (.alloc [.nil, .nil] 214)] [0, 2]) (.seq (.reg [i_M 0 13 0, i_B 1 14 .sub 13 1, i_X 2 15 (.callA (kF 255) [(.t 14)]), i_M 3 3 15] [0, 2, 3]) (.seq (.reg [i_K 0 4 1] [0, 2, 3, 4]) (.seq (.seq (.reg [i_M 0 16 0, i_K 1 17 0] [2, 3, 4, 16, 17]) (.block 0 (.loop a3u))) (.seq (.reg [i_K 0 6 0, i_X 1 7 (.h (.mov (.k (.d (.int .i64 (-1))))))] [2, 3, 4, 6, 7]) (.seq (.seq (.reg [i_M 0 25 3, i_X 1 26 (.h (.len (.t 25))), i_K 2 27 0] [2, 3, 4, 6, 7, 25, 26, 27]) (.block 2 (.loop a3t))) (.seq (.reg [i_X 0 10 (.alloc [.nil, .nil] 214)] [2, 3, 4, 6, 10]) (.seq (.reg [i_M 0 44 6, i_X 1 45 (.h (.un .neg (.t 44))), i_M 2 46 4, i_X 3 47 (.h (.ibin .mul (kI 60) (.t 46))), i_X 4 48 (.callA (kF 256) [(.t 10), (.t 45), (.t 47)])] [2, 3, 4, 10]) (.seq (.seq (.reg [i_M 0 49 3, i_X 1 50 (.h (.len (.t 49))), i_K 2 51 0] [2, 4, 10, 49, 50, 51]) (.block 4 (.loop a3s))) (.seq (.reg [i_A 0 63 10 2, i_S 1 2 63 2] [2]) .ret))))))))))
theorem a7G : f7 Tryz.prog 224 = some ⟨64, [(2, (some (2, true)))], a8A.strip⟩ := by kernel_rfl
def a1T : CA := (.seq (.reg [i_N 0 12 .lss 11 10] [2, 3, 4, 9, 10, 11, 12]) (.seq (.cond (.t 12) .skip (.exit 0)) (.seq (.block 1 (.seq (.reg [i_I 0 13 9 11 1, i_L 1 14 13 1, i_M 2 6 14] [2, 3, 4, 6, 9, 10, 11]) (.reg [i_M 0 15 6, i_M 1 16 3, i_X 2 17 (.h (.idx (.t 16) (kI 1) 1)), i_L 3 18 17 1, i_X 4 19 (.callA (kF 256) [(.t 4), (.t 15), (.t 18)])] [2, 3, 4, 9, 10, 11]))) (.reg [i_B 0 20 .add 11 1, i_M 1 11 20] [2, 3, 4, 9, 10, 11]))))
def b3k : CA := (.seq (.reg [i_X 0 2 (.alloc [.nil, .nil] 214)] [0, 2]) (.seq (.reg [i_M 0 7 0, i_X 1 8 (.callA (kF 255) [(.t 7)]), i_M 2 3 8] [2, 3]) (.seq (.reg [i_X 0 4 (.alloc [.nil, .nil] 214)] [2, 3, 4]) (.seq (.seq (.reg [i_M 0 9 3, i_X 1 10 (.h (.len (.t 9))), i_K 2 11 0] [2, 3, 4, 9, 10, 11]) (.block 0 (.loop a1T))) (.seq (.reg [i_A 0 21 4 2, i_S 1 2 21 2] [2]) .ret)))))
theorem b1p : f7 Tryz.prog 225 = some ⟨22, [(2, (some (2, true)))], b3k.strip⟩ := by kernel_rfl
def a8C : CA := (.seq (.reg [i_X 0 4 (.alloc [.nil, .nil] 214), i_X 1 5 (.h (.mov (.k (.d (.bool false)))))] [0, 1, 4]) (.seq (.reg [i_X 0 6 (.alloc [.nil, .nil] 214)] [0, 1, 4, 6]) (.seq (.block 0 (.seq (.reg [i_M 0 9 0, i_B 1 10 .eql 9 0, i_M 2 11 10, g_T 3 12 11 (.h (.mov (.t 1))), g_T 4 13 11 (.h (.ibin .geq (.t 12) (kI 1))), i_X 5 14 (.h (.pick (.t 11) (.t 13) (.k (.d (.bool false))))), i_M 6 15 14, g_T 7 16 15 (.h (.mov (.t 1))), g_T 8 17 15 (.h (.ibin .leq (.t 16) (kI 5))), i_X 9 18 (.h (.pick (.t 15) (.t 17) (.k (.d (.bool false))))), i_M 10 8 18] [0, 1, 4, 6, 8]) (.cond (.t 8) (.reg [i_M 0 19 1, i_X 1 20 (.callA (kF 224) [(.t 19)]), i_S 2 6 20 2] [4, 6]) (.seq (.reg [i_M 0 22 0, i_B 1 23 .eql 22 1, i_M 2 24 23, g_T 3 25 24 (.h (.mov (.t 1))), g_T 4 26 24 (.h (.ibin .geq (.t 25) (kI 1))), i_X 5 27 (.h (.pick (.t 24) (.t 26) (.k (.d (.bool false))))), i_M 6 28 27, g_T 7 29 28 (.h (.mov (.t 1))), g_T 8 30 28 (.h (.ibin .leq (.t 29) (kI 4))), i_X 9 31 (.h (.pick (.t 28) (.t 30) (.k (.d (.bool false))))), i_M 10 21 31] [1, 4, 6, 21]) (.cond (.t 21) (.reg [i_M 0 32 1, i_X 1 33 (.callA (kF 225) [(.t 32)]), i_S 2 6 33 2] [4, 6]) (.seq (.reg [i_X 0 7 (.h (.build [.nil, .nil] [])), i_S 1 4 7 2, i_X 2 5 (.h (.mov (.k (.d (.bool false)))))] [4, 5]) .ret)))))) (.seq (.reg [i_P 0 34 6 0, i_L 1 35 34 1, ⟨2, (some 36), none, [], [(.t 6)], (.app (.k .nil) (.t 35) 1 8)⟩, i_P 3 37 6 1, ⟨4, (some 38), none, [(.t 6)], [], (.load (.t 37) 1 false)⟩, i_X 5 39 (.app (.k .nil) (.t 38) 1 8), i_X 6 40 (.h (.build [.nil, .nil] [(0, (1, (.t 36))), (1, (1, (.t 39)))])), i_S 7 4 40 2, i_X 8 5 (.h (.mov (.k (.d (.bool true)))))] [4, 5]) .ret))))
theorem a7H : f7 Tryz.prog 179 = some ⟨41, [(4, (some (2, true))), (5, none)], a8C.strip⟩ := by kernel_rfl
def a8B : CA := (.seq (.reg [i_N 0 26 .lss 25 24] [6, 8, 24, 25, 26]) (.seq (.cond (.t 26) .skip (.exit 0)) (.seq (.block 1 (.seq (.reg [i_M 0 27 25, i_M 1 9 27] [6, 8, 9, 24, 25]) (.reg [i_M 0 28 8, i_M 1 29 9, i_P 2 30 6 0, i_L 3 31 30 1, i_M 4 32 9, i_I 5 33 31 32 1, i_L 6 34 33 1, i_X 7 35 (.h (.i2f (.t 34))), i_P 8 36 6 1, i_L 9 37 36 1, i_M 10 38 9, i_I 11 39 37 38 1, i_L 12 40 39 1, i_X 13 41 (.h (.i2f (.t 40))), i_F 14 42 .div 35 41, i_I 15 43 28 29 1, i_S 16 43 42 1] [6, 8, 24, 25]))) (.reg [i_B 0 44 .add 25 1, i_M 1 25 44] [6, 8, 24, 25]))))
def b6W : CA := (.seq (.reg [i_X 0 4 (.h (.mov (.k .nil))), i_X 1 5 (.h (.mov (.k (.d (.bool false)))))] [0, 1]) (.seq (.reg [i_M 0 11 0, i_M 1 12 1, i_X 2 13 (.callA (kF 179) [(.t 11), (.t 12)]), i_M 3 10 13, i_X 4 14 (.h (.ext (.t 10) 0)), i_X 5 15 (.h (.ext (.t 10) 1)), i_X 6 6 (.alloc [.nil, .nil] 214), i_S 7 6 14 2, i_M 8 7 15] [6, 7]) (.seq (.seq (.reg [i_M 0 16 7, i_X 1 17 (.h (.un .not (.t 16)))] [6, 17]) (.cond (.t 17) (.seq (.reg [i_X 0 4 (.h (.mov (.k .nil))), i_X 1 5 (.h (.mov (.k (.d (.bool false)))))] [4, 5]) .ret) .skip)) (.seq (.reg [i_P 0 18 6 0, i_L 1 19 18 1, i_X 2 20 (.h (.len (.t 19))), i_X 3 21 (.mksl [fl 0] 1 8 (.t 20) (.t 20) 31), i_M 4 8 21] [6, 8]) (.seq (.seq (.reg [i_P 0 22 6 0, i_L 1 23 22 1, i_X 2 24 (.h (.len (.t 23))), i_K 3 25 0] [6, 8, 24, 25]) (.block 0 (.loop a8B))) (.seq (.reg [i_M 0 45 8, i_M 1 4 45, i_X 2 5 (.h (.mov (.k (.d (.bool true)))))] [4, 5]) .ret))))))
theorem b2f : f7 Tryz.prog 136 = some ⟨46, [(4, none), (5, none)], b6W.strip⟩ := by kernel_rfl
def absI (x : Int) : Int := if x < 0 then w64 (0 - x) else x
theorem a1F (x : Int) : Con Tryz.prog 274 [fI x] (fI (absI x)) := by
 refine b7 a31 rfl f5 ?_
 refine evx @a3r.eq_1 ?_
 unfold absI
 refine b9 (λh => ?_) (λh => ?_)
 ·replace h := d2b h
  rw [if_pos h]
  refine ev ?_
  exact g9
 ·replace h := d2c h
  rw [if_neg h]
  refine ev ?_
  exact g9
theorem q9 (a b r : Int) (f : Nat) (h : gcdF f a b = some r) : Con Tryz.prog 266 [fI a, fI b] (fI (absI r)) := by
 refine b7 a2f rfl f5 ?_
 refine evx @a1n.eq_1 ?_
 refine r5 (n := f) (λc s => ∃ a b, gcdF c a b = some r /\ s = ⟨[(0, fI a), (1, fI b)], []⟩) ⟨a, b, h, rfl⟩ ?_
 rintro c s ⟨a, b, hg, rfl⟩
 cases c with
 | zero => cases hg
 | succ c =>
  simp only [gcdF] at hg
  refine evx @U7.eq_1 ?_
  by_cases hb : b = 0
  ·subst hb
   rw [if_pos rfl] at hg
   obtain rfl := Option.some.inj hg
   refine ev ?_
   first | refine a0 (a1F a) rfl ?_ | refine d7 (a1F a) rfl ?_ | refine d5 (a1F a) rfl ?_
   refine ev ?_
   exact g9
  ·rw [if_neg hb] at hg
   have h' : (b != 0) = true := by simpa using hb
   refine evx h' ?_
   exact ⟨hb, c, by omega, b, _, hg, rfl⟩
theorem a0t (p : List Int) (i : Int) (hp : p.length < 2 ^ 20) : Con Tryz.prog 265 [.d (rowI p), fI i] (.d (rowI (a2r i p p.length))) := by
 refine b7 a7F rfl f5 ?_
 refine evx @a8z.eq_1 ?_
 have w1 : IntKind.i64.wrap ((p.length : Int) + 1) = ((p.length + 1 : Nat) : Int) := by rw [f0 (by omega) (by omega)]; omega
 refine evx w1 ?_
 repeat with_reducible refine andO ?_
 have e0 : k7 (List.replicate (p.length + 1) 0) = k7 (a2r i p 0) := rfl
 rw [e0]
 refine r5 (n := p.length) (λc s => ∃ j, c + j = p.length /\ s = ⟨[(1, fI i), (5, .sl 3 0 0 (p.length + 1) 1 (p.length + 1)), (12, .d (rowI p)), (13, fI p.length), (14, fI j)], [(3, [k7 (a2r i p j)])]⟩) ⟨0, by omega, rfl⟩ ?_
 rintro c s ⟨j, hc, rfl⟩
 have hjl := a9J i p j
 refine evx @a3q.eq_1 ?_
 refine b9 (λhj => ?_) (λhj => ?_)
 ·replace hj := d2b hj
  have w2 : IntKind.i64.wrap ((j : Int) + 1) = ((j + 1 : Nat) : Int) := by rw [f0 (by omega) (by omega)]; omega
  generalize hq : a2r i p j = q at hjl
  have g3 : (k7 (q.set j (IntKind.i64.wrap (q.getD j 0 + IntKind.i64.wrap (i * p.getD j 0))))).getD (j + 1) .any = fI ((q.set j (w64 (q.getD j 0 + w64 (i * p.getD j 0)))).getD (j + 1) 0) := W7 _ _ (by rw [List.length_set]; omega)
  have hx : a2r i p (j + 1) = (q.set j (w64 (q.getD j 0 + w64 (i * p.getD j 0)))).set (j + 1) (w64 ((q.set j (w64 (q.getD j 0 + w64 (i * p.getD j 0)))).getD (j + 1) 0 + p.getD j 0)) := by rw [<- hq]; rfl
  simp -implicitDefEqProofs only [evI, hv, effC, reduceCtorEq, ↓reduceIte, n1_, n2_, n3_, n4_, n5_, i1_, i2_, i3_, i4_, i5_, i6_, i7_, w2, W7 q j (by omega), g3]
  repeat with_reducible refine andO ?_
  refine ⟨c - 1, by omega, j + 1, by omega, ?_⟩
  rw [hx]
 ·replace hj := d2c hj
  have e : j = p.length := by omega
  subst e
  refine ev ?_
  exact j6 (.sl 3 0 0 (p.length + 1) 1 (p.length + 1)) (λ_ h => h) (f8 (t := 4) (by decide) rfl) (H3 (by simp [d8]) hjl rfl (by simp [d9]))
theorem z9 (z : Int) (k : Nat) (hz : z = k) (hk : k < 2 ^ 10) : Con Tryz.prog 255 [fI z] (.d (rowI (G9 k))) := by
 subst hz
 refine b7 a5r rfl f5 ?_
 refine evx @a4C.eq_1 ?_
 have e0 : ([fI 1] : List V) = k7 (G9 0) := rfl
 rw [e0]
 refine j5 (n := k) (λc s => ∃ i, c + i = k /\ s = ⟨[(3, .d (rowI (G9 i))), (6, fI k), (7, fI i)], []⟩) (s0 := ⟨_, _⟩) ?_ ⟨0, by omega, rfl⟩ ?_
 ·have hz : ∀ L L' : Heap, L.get 0 0 = some (k7 (G9 0)) -> L'.fam 0 = none -> Fz L L' (.sl 0 0 0 1 1 1) (.d (rowI (G9 0))) := λL L' a b => H3 a rfl rfl b
  exact LeT.weak (λ_ h => h) (by simp (maxDischargeDepth := 6) [fzS, hz]) (by simp (maxDischargeDepth := 6) [fzS])
 rintro c s ⟨i, hc, rfl⟩
 have hl := W2 i
 refine evx @a1m.eq_1 ?_
 refine b9 (λh => ?_) (λh => ?_)
 ·replace h := d2b h
  have w1 : IntKind.i64.wrap ((i : Int) + 1) = ((i + 1 : Nat) : Int) := by rw [f0 (by omega) (by omega)]; omega
  refine evx w1 ?_
  first | refine a0 (a0t (G9 i) ((i + 1 : Nat) : Int) (by omega)) rfl ?_ | refine d7 (a0t (G9 i) ((i + 1 : Nat) : Int) (by omega)) rfl ?_ | refine d5 (a0t (G9 i) ((i + 1 : Nat) : Int) (by omega)) rfl ?_
  refine evx w1 ?_
  exact ⟨c - 1, _, by omega, Le.refl _, i + 1, by omega, rfl⟩
 ·replace h := d2c h
  have e : i = k := by omega
  subst e
  refine ev ?_
  exact g9
def lowC (f : Nat) (n d : Int) : Option (Int × Int) :=
 let n' := if d < 0 then w64 (0 - n) else n
 let d' := if d < 0 then w64 (0 - d) else d
 (gcdF f n' d').bind λg => if absI g = 0 then none else some (w64 (n'.tdiv (absI g)), w64 (d'.tdiv (absI g)))
theorem a7X (n d x y : Int) (f : Nat) (h : lowC f n d = some (x, y)) : AC Tryz.prog 256 [.ptr 1 0 0 2, fI n, fI d] [(1, [[.nil, .nil]]), (0, [[.nil, .nil]])]
  [(21, [k7 [y]]), (12, [k7 [x]]), (1, [[.sl 12 0 0 1 1 1, .sl 21 0 0 1 1 1]]), (0, [[.nil, .nil]])] (.tup []) := by
 unfold lowC at h
 obtain ⟨g, hg, h2⟩ := Option.bind_eq_some_iff.1 h
 split at h2
 ·cases h2
 rename_i hg0
 simp only [Option.some.injEq, Prod.mk.injEq] at h2
 obtain ⟨rfl, rfl⟩ := h2
 refine k9 Y2 rfl f5 (λX => X <= 1) ?_ ?_
 ·intro X q
  simp only [d8, g5]
  grind
 refine evx @a0P.eq_1 ?_
 refine b9 (λhd => ?_) (λhd => ?_)
 ·replace hd := d2b hd
  rw [if_pos hd, if_pos hd] at hg
  rw [if_pos hd, if_pos hd]
  refine ev ?_
  first | refine a0 (q9 _ _ _ _ hg) rfl ?_ | refine d7 (q9 _ _ _ _ hg) rfl ?_ | refine d5 (q9 _ _ _ _ hg) rfl ?_
  refine ev ?_
  refine ⟨hg0, hg0, ?_⟩
  show M4 _ _ _ _ _ .ret _
  exact m7 (λX => X == 21 || X == 12 || X == 1 || X == 0) (λX h => by simp; omega) rfl rfl (by simp [kpS]) (by simp [kpS])
 ·replace hd := d2c hd
  rw [if_neg hd, if_neg hd] at hg
  rw [if_neg hd, if_neg hd]
  refine ev ?_
  first | refine a0 (q9 _ _ _ _ hg) rfl ?_ | refine d7 (q9 _ _ _ _ hg) rfl ?_ | refine d5 (q9 _ _ _ _ hg) rfl ?_
  refine ev ?_
  refine ⟨hg0, hg0, ?_⟩
  show M4 _ _ _ _ _ .ret _
  exact m7 (λX => X == 21 || X == 12 || X == 1 || X == 0) (λX h => by simp; omega) rfl rfl (by simp [kpS]) (by simp [kpS])
theorem a6d (k : Nat) (hk : 0 < k /\ k < 100) (N E : List Int) (hN : N.length = k) (hE : E.length = k) (n d x y : Int) (f : Nat) (h : lowC f n d = some (x, y)) :
  AC Tryz.prog 256 [.ptr 1 0 0 2, fI n, fI d] [(21, [k7 E]), (12, [k7 N]), (1, [[.sl 12 0 0 k 1 k, .sl 21 0 0 k 1 k]]), (0, [[.nil, .nil]])]
  [(21, [k7 (E ++ [y])]), (12, [k7 (N ++ [x])]), (1, [[.sl 12 0 0 (k + 1) 1 (k + 1), .sl 21 0 0 (k + 1) 1 (k + 1)]]), (0, [[.nil, .nil]])] (.tup []) := by
 unfold lowC at h
 obtain ⟨g, hg, h2⟩ := Option.bind_eq_some_iff.1 h
 split at h2
 ·cases h2
 rename_i hg0
 simp only [Option.some.injEq, Prod.mk.injEq] at h2
 obtain ⟨rfl, rfl⟩ := h2
 have e1 : ∀ a : Int, k7 N ++ [fI a] = k7 (N ++ [a]) := λa => by simp [k7]
 have e2 : ∀ a : Int, k7 E ++ [fI a] = k7 (E ++ [a]) := λa => by simp [k7]
 have l1 : (k7 N).length = k := by simp [k7, hN]
 have l2 : (k7 E).length = k := by simp [k7, hE]
 refine k9 Y2 rfl f5 (λX => X = 21 \/ X = 12 \/ X = 1 \/ X = 0) ?_ ?_
 ·intro X q
  simp only [d8, g5]
  grind
 refine evx @a0P.eq_1 ?_
 refine b9 (λhd => ?_) (λhd => ?_)
 ·replace hd := d2b hd
  rw [if_pos hd, if_pos hd] at hg
  rw [if_pos hd, if_pos hd]
  refine ev ?_
  first | refine a0 (q9 _ _ _ _ hg) rfl ?_ | refine d7 (q9 _ _ _ _ hg) rfl ?_ | refine d5 (q9 _ _ _ _ hg) rfl ?_
  refine ev ?_
  refine ⟨hg0, ⟨hN, by omega⟩, hg0, ⟨hE, by omega⟩, ?_⟩
  rw [e1, e2]
  show M4 _ _ _ _ _ .ret _
  exact m7 (λX => X == 21 || X == 12 || X == 1 || X == 0) (λX h => by simp; omega) rfl rfl (by simp [kpS]) (by simp [kpS])
 ·replace hd := d2c hd
  rw [if_neg hd, if_neg hd] at hg
  rw [if_neg hd, if_neg hd]
  refine ev ?_
  first | refine a0 (q9 _ _ _ _ hg) rfl ?_ | refine d7 (q9 _ _ _ _ hg) rfl ?_ | refine d5 (q9 _ _ _ _ hg) rfl ?_
  refine ev ?_
  refine ⟨hg0, ⟨hN, by omega⟩, hg0, ⟨hE, by omega⟩, ?_⟩
  rw [e1, e2]
  show M4 _ _ _ _ _ .ret _
  exact m7 (λX => X == 21 || X == 12 || X == 1 || X == 0) (λX h => by simp; omega) rfl rfl (by simp [kpS]) (by simp [kpS])
def facC : Nat -> Int
 | 0 => 1
 | i + 1 => w64 (facC i * (if (1 : Int) > (i : Int) then 1 else (i : Int)))
def sumC (p : List Int) : Nat -> Int × Int
 | 0 => (0, -1)
 | k + 1 => let s := sumC p k; (w64 (s.1 + w64 (w64 (s.2 * p.getD k 0) * w64 ((60 : Int).tdiv (w64 ((k : Int) + 1))))), w64 (0 - s.2))
def rowC (first : Option (List Int × List Int)) (p : List Int) (den : Nat -> Int) : Nat -> Option (List Int × List Int)
 | 0 => first
 | k + 1 => (rowC first p den k).bind λs => (lowC 64 (p.getD k 0) (den k)).map λab => (s.1 ++ [ab.1], s.2 ++ [ab.2])
theorem a5E (first : Option (List Int × List Int)) (p : List Int) (den : Nat -> Int) (k : Nat) : ∀ d s, rowC first p den (k + d) = some s -> ∃ s', rowC first p den k = some s'
 | 0, s, h => ⟨s, h⟩
 | d + 1, s, h => by
  obtain ⟨s1, h1, _⟩ := Option.bind_eq_some_iff.1 (show (rowC first p den (k + d)).bind _ = some s from h)
  exact a5E first p den k d s1 h1
theorem b5u {first : Option (List Int × List Int)} {p : List Int} {den : Nat -> Int} {k m : Nat} {N E N' E' : List Int} (h : rowC first p den m = some (N', E')) (hk : k < m) (hs : rowC first p den k = some (N, E)) :
  ∃ x y, lowC 64 (p.getD k 0) (den k) = some (x, y) /\ rowC first p den (k + 1) = some (N ++ [x], E ++ [y]) := by
 obtain ⟨s2, h2⟩ := a5E first p den (k + 1) (m - (k + 1)) _ (by rw [show k + 1 + (m - (k + 1)) = m by omega]; exact h)
 have h3 : (rowC first p den k).bind (λs => (lowC 64 (p.getD k 0) (den k)).map λab => (s.1 ++ [ab.1], s.2 ++ [ab.2])) = some s2 := h2
 rw [hs, Option.bind_some] at h3
 obtain ⟨⟨x, y⟩, h4, rfl⟩ := Option.map_eq_some_iff.1 h3
 exact ⟨x, y, h4, h2⟩
theorem b8D (first : Option (List Int × List Int)) (f : Nat) (hf : ∀ s, first = some s -> s.1.length = f /\ s.2.length = f) (p : List Int) (den : Nat -> Int) (k : Nat) : ∀ s, rowC first p den k = some s -> s.1.length = f + k /\ s.2.length = f + k := by
 induction k with
 | zero => intro s h; exact hf s h
 | succ k ih =>
  intro s h
  obtain ⟨s1, h1, h2⟩ := Option.bind_eq_some_iff.1 (show (rowC first p den k).bind _ = some s from h)
  obtain ⟨a, b⟩ := ih s1 h1
  obtain ⟨ab, _, rfl⟩ := Option.map_eq_some_iff.1 h2
  exact ⟨by simp [a]; omega, by simp [b]; omega⟩
def adC (o : Nat) : Option (List Int × List Int) :=
 let p := G9 o
 let at' := facC (o + 1)
 rowC ((lowC 64 (w64 (0 - (sumC p (o + 1)).1)) (w64 (60 * at'))).map λab => ([ab.1], [ab.2])) p (λk => w64 (at' * w64 ((k : Int) + 1))) (o + 1)
theorem a0u (z : Int) (o : Nat) (hz : z = (o + 1 : Nat)) (ho : o < 20) (N E : List Int) (h : adC o = some (N, E)) :
  Con Tryz.prog 224 [fI z] (.agg [.d (rowI N), .d (rowI E)]) := by
 subst hz
 refine b7 a7G rfl f5 ?_
 refine evx @a8A.eq_1 ?_
 have w1 : IntKind.i64.wrap (((o + 1 : Nat) : Int) - 1) = (o : Int) := by rw [f0 (by omega) (by omega)]; omega
 refine evx w1 ?_
 first | refine a0 (z9 (o : Int) o rfl (by omega)) rfl ?_ | refine d7 (z9 (o : Int) o rfl (by omega)) rfl ?_ | refine d5 (z9 (o : Int) o rfl (by omega)) rfl ?_
 have hp := W2 o
 unfold adC at h
 dsimp only at h
 generalize G9 o = p at hp h
 refine ev ?_
 refine r5 (n := o + 1) (λc s => ∃ i, c + i = o + 1 /\ s = ⟨[(2, .ptr 0 0 0 2), (3, .d (rowI p)), (4, fI (facC i)), (16, fI (o + 1 : Nat)), (17, fI i)], [(0, [[.nil, .nil]])]⟩) ⟨0, by omega, rfl⟩ ?_
 rintro c s ⟨i, hc, rfl⟩
 refine evx @a3u.eq_1 ?_
 refine b9 (λhi => ?_) (λhi => ?_)
 ·replace hi := d2b hi
  refine ev ?_
  rw [f0 (a := (i : Int) + 1) (by omega) (by omega)]
  exact ⟨c - 1, by omega, i + 1, by omega, rfl⟩
 ·replace hi := d2c hi
  have e : i = o + 1 := by omega
  subst e
  refine ev ?_
  generalize facC (o + 1) = F at h
  refine r5 (n := o + 1) (λc s => ∃ i, c + i = o + 1 /\ s = ⟨[(2, .ptr 0 0 0 2), (3, .d (rowI p)), (4, fI F), (6, fI (sumC p i).1), (7, fI (sumC p i).2), (25, .d (rowI p)), (26, fI p.length), (27, fI i)], [(0, [[.nil, .nil]])]⟩) ⟨0, by omega, rfl⟩ ?_
  rintro c s ⟨i, hc, rfl⟩
  refine evx @a3t.eq_1 ?_
  refine b9 (λhi => ?_) (λhi => ?_)
  ·replace hi := d2b hi
   refine ev ?_
   repeat with_reducible refine andO ?_
   have hne : IntKind.i64.wrap ((i : Int) + 1) ≠ 0 := by rw [f0 (by omega) (by omega)]; omega
   refine ⟨hne, ?_⟩
   have hs : sumC p (i + 1) = (w64 ((sumC p i).1 + w64 (w64 ((sumC p i).2 * p.getD i 0) * w64 ((60 : Int).tdiv (w64 ((i : Int) + 1))))), w64 (0 - (sumC p i).2)) := rfl
   refine ⟨c - 1, by omega, i + 1, by omega, ?_⟩
   have e6 : w64 ((i : Int) + 1) = (i : Int) + 1 := f0 (by omega) (by omega)
   have e7 : IntKind.i64.wrap ((i : Int) + 1) = (i : Int) + 1 := e6
   rw [e6] at hs
   rw [hs, e7]
   rfl
  ·replace hi := d2c hi
   have e : i = o + 1 := by omega
   subst e
   refine ev ?_
   rw [hp]
   generalize (sumC p (o + 1)).1 = S at h
   obtain ⟨s0, h0⟩ := a5E _ p _ 0 (o + 1) _ (by rw [Nat.zero_add]; exact h)
   obtain ⟨⟨x, y⟩, h1, e0⟩ := Option.map_eq_some_iff.1 (show Option.map (λab : Int × Int => ([ab.1], [ab.2])) (lowC 64 (w64 (0 - S)) (w64 (60 * F))) = some s0 from h0)
   refine B7 (a7X _ _ x y 64 h1) ?_
   refine ev ?_
   have e0' : rowC (Option.map (λab : Int × Int => ([ab.1], [ab.2])) (lowC 64 (w64 (0 - S)) (w64 (60 * F)))) p (λk => w64 (F * w64 ((k : Int) + 1))) 0 = some ([x], [y]) := by rw [h0, <- e0]
   clear h0 e0
   generalize hfirst : Option.map (λab : Int × Int => ([ab.1], [ab.2])) (lowC 64 (w64 (0 - S)) (w64 (60 * F))) = first at h e0'
   have hfl : ∀ s, first = some s -> s.1.length = 1 /\ s.2.length = 1 := λs hs => by
    have : first = some ([x], [y]) := e0'
    rw [this] at hs
    cases hs
    exact ⟨rfl, rfl⟩
   refine r5 (n := o + 1) (λc s => ∃ i N' E', c + i = o + 1 /\ rowC first p (λk => w64 (F * w64 ((k : Int) + 1))) i = some (N', E') /\ s = ⟨[(2, .ptr 0 0 0 2), (4, fI F), (10, .ptr 1 0 0 2), (49, .d (rowI p)), (50, fI (o + 1 : Nat)), (51, fI i)], [(21, [k7 E']), (12, [k7 N']), (1, [[.sl 12 0 0 (i + 1) 1 (i + 1), .sl 21 0 0 (i + 1) 1 (i + 1)]]), (0, [[.nil, .nil]])]⟩) ⟨0, _, _, by omega, e0', by rw [<- hp]; rfl⟩ ?_
   rintro c s ⟨i, N', E', hc, hs, rfl⟩
   obtain ⟨l1, l2⟩ := b8D _ 1 hfl p _ i _ hs
   simp only at l1 l2
   refine evx @a3s.eq_1 ?_
   refine b9 (λhi => ?_) (λhi => ?_)
   ·replace hi := d2b hi
    obtain ⟨x2, y2, h2, h3⟩ := b5u h hi hs
    refine ev ?_
    repeat with_reducible refine andO ?_
    refine B7 (a6d (i + 1) (by omega) N' E' (by omega) (by omega) _ _ x2 y2 64 h2) ?_
    refine ev ?_
    rw [f0 (a := (i : Int) + 1) (by omega) (by omega)]
    exact ⟨c - 1, by omega, i + 1, _, _, by omega, h3, rfl⟩
   ·replace hi := d2c hi
    have e : i = o + 1 := by omega
    subst e
    rw [h] at hs
    cases hs
    refine ev ?_
    exact j6 (.agg [.sl 12 0 0 (o + 1 + 1) 1 (o + 1 + 1), .sl 21 0 0 (o + 1 + 1) 1 (o + 1 + 1)]) (λ_ h => h) (g8 (by decide) rfl rfl rfl (by simp) rfl)
     (D5 _ _ ⟨H3 (by simp [d8]) (by omega) rfl (by simp [d9]), H3 (by simp [d8]) (by omega) rfl (by simp [d9]), trivial⟩)
def bdC (o : Nat) : Option (List Int × List Int) :=
 let p := G9 (o + 1)
 rowC ((lowC 64 (p.getD 0 0) (p.getD 1 0)).map λab => ([ab.1], [ab.2])) (p.drop 1) (λ_ => p.getD 1 0) (o + 1)
theorem c0Y (p : List Int) (i : Nat) : (p.drop 1).getD i 0 = p.getD (i + 1) 0 := by
 rw [d2d, List.getElem?_drop, d2d, Nat.add_comm]
theorem a2G (z : Int) (o : Nat) (hz : z = (o + 1 : Nat)) (ho : o < 20) (N E : List Int) (h : bdC o = some (N, E)) :
  Con Tryz.prog 225 [fI z] (.agg [.d (rowI N), .d (rowI E)]) := by
 subst hz
 refine b7 b1p rfl f5 ?_
 refine evx @b3k.eq_1 ?_
 first | refine a0 (z9 ((o + 1 : Nat) : Int) (o + 1) rfl (by omega)) rfl ?_ | refine d7 (z9 ((o + 1 : Nat) : Int) (o + 1) rfl (by omega)) rfl ?_ | refine d5 (z9 ((o + 1 : Nat) : Int) (o + 1) rfl (by omega)) rfl ?_
 have hp := W2 (o + 1)
 unfold bdC at h
 dsimp only at h
 generalize G9 (o + 1) = p at hp h
 obtain ⟨s0, h0⟩ := a5E _ (p.drop 1) _ 0 (o + 1) _ (by rw [Nat.zero_add]; exact h)
 obtain ⟨⟨x, y⟩, h1, e0⟩ := Option.map_eq_some_iff.1 (show Option.map (λab : Int × Int => ([ab.1], [ab.2])) (lowC 64 (p.getD 0 0) (p.getD 1 0)) = some s0 from h0)
 have e0' : rowC (Option.map (λab : Int × Int => ([ab.1], [ab.2])) (lowC 64 (p.getD 0 0) (p.getD 1 0))) (p.drop 1) (λ_ => p.getD 1 0) 0 = some ([x], [y]) := by rw [h0, <- e0]
 clear h0 e0
 generalize hfirst : Option.map (λab : Int × Int => ([ab.1], [ab.2])) (lowC 64 (p.getD 0 0) (p.getD 1 0)) = first at h e0'
 have hfl : ∀ s, first = some s -> s.1.length = 1 /\ s.2.length = 1 := λs hs => by
  have : first = some ([x], [y]) := e0'
  rw [this] at hs
  cases hs
  exact ⟨rfl, rfl⟩
 refine ev ?_
 refine r5 (n := o + 2) (λc s => (c = o + 2 /\ s = ⟨[(2, .ptr 0 0 0 2), (3, .d (rowI p)), (4, .ptr 1 0 0 2), (9, .d (rowI p)), (10, fI p.length), (11, fI 0)], [(1, [[.nil, .nil]]), (0, [[.nil, .nil]])]⟩) \/
  ∃ i N' E', c + (i + 1) = o + 2 /\ rowC first (p.drop 1) (λ_ => p.getD 1 0) i = some (N', E') /\ s = ⟨[(2, .ptr 0 0 0 2), (3, .d (rowI p)), (4, .ptr 1 0 0 2), (9, .d (rowI p)), (10, fI p.length), (11, fI (i + 1 : Nat))], [(21, [k7 E']), (12, [k7 N']), (1, [[.sl 12 0 0 (i + 1) 1 (i + 1), .sl 21 0 0 (i + 1) 1 (i + 1)]]), (0, [[.nil, .nil]])]⟩) (.inl ⟨rfl, rfl⟩) ?_
 rintro c s (⟨hc, rfl⟩ | ⟨i, N', E', hc, hs, rfl⟩)
 ·refine evx @a1T.eq_1 ?_
  have hi : decide ((0 : Int) < (p.length : Int)) = true := by simp; omega
  refine evx hi ?_
  repeat with_reducible refine andO ?_
  refine B7 (a7X _ _ x y 64 h1) ?_
  refine ev ?_
  rw [show IntKind.i64.wrap 1 = ((0 + 1 : Nat) : Int) from by decide]
  exact ⟨c - 1, by omega, .inr ⟨0, _, _, by omega, e0', rfl⟩⟩
 ·obtain ⟨l1, l2⟩ := b8D _ 1 hfl (p.drop 1) _ i _ hs
  simp only at l1 l2
  refine evx @a1T.eq_1 ?_
  refine b9 (λhi => ?_) (λhi => ?_)
  ·replace hi := d2b hi
   obtain ⟨x2, y2, h2, h3⟩ := b5u h (show i < o + 1 by omega) hs
   rw [c0Y] at h2
   refine ev ?_
   repeat with_reducible refine andO ?_
   refine B7 (a6d (i + 1) (by omega) N' E' (by omega) (by omega) _ _ x2 y2 64 h2) ?_
   refine ev ?_
   rw [f0 (by omega) (by omega)]
   exact ⟨c - 1, by omega, .inr ⟨i + 1, _, _, by omega, h3, rfl⟩⟩
  ·replace hi := d2c hi
   have e : i = o + 1 := by omega
   subst e
   rw [h] at hs
   cases hs
   refine ev ?_
   exact j6 (.agg [.sl 12 0 0 (o + 1 + 1) 1 (o + 1 + 1), .sl 21 0 0 (o + 1 + 1) 1 (o + 1 + 1)]) (λ_ h => h) (g8 (by decide) rfl rfl rfl (by simp) rfl)
    (D5 _ _ ⟨H3 (by simp [d8]) (by omega) rfl (by simp [d9]), H3 (by simp [d8]) (by omega) rfl (by simp [d9]), trivial⟩)
def exC (m : Int) (q : Nat) : Option (List Int × List Int) := if m = 0 then adC (q - 1) else bdC (q - 1)
theorem a5A (L : Heap) (xs : List Int) : s7 L 1 (.d (.bor xs.length (a6T xs))) = some (k7 xs) := by
 have e : ∀ n, n <= xs.length -> List.flatMap (a6T xs) (List.range n) = (xs.take n).map λn => D.int .i64 n := by
  intro n
  induction n with
  | zero => intro _; rfl
  | succ n ih =>
   intro h
   rw [List.range_succ, List.flatMap_append, ih (by omega), List.take_succ_eq_append_getElem (by omega), List.map_append]
   simp [a6T, d2d, show n < xs.length by omega]
 have e2 := e _ (d2t _)
 rw [List.take_length] at e2
 simp only [s7, z8, e2, List.map_map]
 rfl
theorem a0v (m : Int) (q : Nat) (hm : (m = 0 /\ 1 <= q /\ q <= 5) \/ (m = 1 /\ 1 <= q /\ q <= 4)) (N E : List Int) (hl : N.length = q + 1 /\ E.length = q + 1) (h : exC m q = some (N, E)) :
  Con Tryz.prog 179 [fI m, fI q] (.tup [.agg [.d (rowI N), .d (rowI E)], fB true]) := by
 obtain ⟨o, rfl⟩ : ∃ o, q = o + 1 := ⟨q - 1, by omega⟩
 refine b7 a7H rfl f5 ?_
 refine evx @a8C.eq_1 ?_
 rcases hm with ⟨rfl, a, b⟩ | ⟨rfl, a, b⟩
 ·have k1 : decide ((1 : Int) <= ((o + 1 : Nat) : Int)) = true := by simp; omega
  have k2 : decide (((o + 1 : Nat) : Int) <= 5) = true := by simp; omega
  have h' : adC o = some (N, E) := h
  refine evbx (And.intro k1 k2) ?_
  first | refine a0 (a0u ((o + 1 : Nat) : Int) o rfl (by omega) N E h') rfl ?_ | refine d7 (a0u ((o + 1 : Nat) : Int) o rfl (by omega) N E h') rfl ?_ | refine d5 (a0u ((o + 1 : Nat) : Int) o rfl (by omega) N E h') rfl ?_
  refine evx @a5A ?_
  refine ⟨by omega, by omega, ?_⟩
  have e1 : D.bor N.length (a6T N) = rowI N := rfl
  have e2 : D.bor E.length (a6T E) = rowI E := rfl
  exact j6 (.tup [.agg [.sl 4 0 0 N.length 1 N.length, .sl 7 0 0 E.length 1 E.length], fB true]) (λ_ h => h) ⟨_, _, K1 (by decide) rfl (cells := [_, _]) (by simp [d8]) rfl (by simp) rfl, f8 (t := 5) (by decide) rfl, rfl⟩
   (.tup rfl λj hj => by
    rcases j with _ | _ | j
    ·exact D5 _ _ ⟨H3 (by simp [d8]) rfl rfl (by simp [d9]), H3 (by simp [d8]) rfl rfl (by simp [d9]), trivial⟩
    ·exact Fz_d _
    ·simp at hj; omega)
 ·have k1 : decide ((1 : Int) <= ((o + 1 : Nat) : Int)) = true := by simp; omega
  have k2 : decide (((o + 1 : Nat) : Int) <= 4) = true := by simp; omega
  have h' : bdC o = some (N, E) := h
  refine evbx (And.intro k1 k2) ?_
  first | refine a0 (a2G ((o + 1 : Nat) : Int) o rfl (by omega) N E h') rfl ?_ | refine d7 (a2G ((o + 1 : Nat) : Int) o rfl (by omega) N E h') rfl ?_ | refine d5 (a2G ((o + 1 : Nat) : Int) o rfl (by omega) N E h') rfl ?_
  refine evx @a5A ?_
  refine ⟨by omega, by omega, ?_⟩
  have e1 : D.bor N.length (a6T N) = rowI N := rfl
  have e2 : D.bor E.length (a6T E) = rowI E := rfl
  exact j6 (.tup [.agg [.sl 4 0 0 N.length 1 N.length, .sl 7 0 0 E.length 1 E.length], fB true]) (λ_ h => h) ⟨_, _, K1 (by decide) rfl (cells := [_, _]) (by simp [d8]) rfl (by simp) rfl, f8 (t := 5) (by decide) rfl, rfl⟩
   (.tup rfl λj hj => by
    rcases j with _ | _ | j
    ·exact D5 _ _ ⟨H3 (by simp [d8]) rfl rfl (by simp [d9]), H3 (by simp [d8]) rfl rfl (by simp [d9]), trivial⟩
    ·exact Fz_d _
    ·simp at hj; omega)
theorem b7Y (m : Int) (q : Nat) (hm : (m = 0 /\ 1 <= q /\ q <= 5) \/ (m = 1 /\ 1 <= q /\ q <= 4)) : exC m q = exS m q := by
 have h0 : ((List.range 5).all λi => decide (exC 0 (i + 1) = exS 0 (i + 1))) = true := by kernel_rfl
 have h1 : ((List.range 4).all λi => decide (exC 1 (i + 1) = exS 1 (i + 1))) = true := by kernel_rfl
 obtain ⟨o, rfl⟩ : ∃ o, q = o + 1 := ⟨q - 1, by omega⟩
 rcases hm with ⟨rfl, a, b⟩ | ⟨rfl, a, b⟩
 ·exact d2b (List.all_eq_true.1 h0 o (by simp; omega))
 ·exact d2b (List.all_eq_true.1 h1 o (by simp; omega))
theorem c1a (m : Int) (q : Nat) (hm : (m = 0 /\ 1 <= q /\ q <= 5) \/ (m = 1 /\ 1 <= q /\ q <= 4)) : Con Tryz.prog 136 [fI m, fI q] (.tup [.d (rowD (ofL m q)), fB true]) := by
 obtain ⟨N, E, h⟩ := b9g m q hm
 obtain ⟨l1, l2⟩ := b7X m q (by omega) N E h
 have e : ofL m q = ofP N E := by unfold ofL; rw [h]
 rw [e]
 refine b7 b2f rfl f5 ?_
 refine evx @b6W.eq_1 ?_
 first | refine a0 (a0v m q hm N E ⟨l1, l2⟩ ((b7Y m q hm).trans h)) rfl ?_ | refine d7 (a0v m q hm N E ⟨l1, l2⟩ ((b7Y m q hm).trans h)) rfl ?_ | refine d5 (a0v m q hm N E ⟨l1, l2⟩ ((b7Y m q hm).trans h)) rfl ?_
 refine evx @Bool.not_true ?_
 repeat with_reducible refine andO ?_
 obtain ⟨g, hg⟩ : ∃ g, g = λi => fop .div (FloatKind.nearest .f64 (N.getD i 0)) (FloatKind.nearest .f64 (E.getD i 0)) := ⟨_, rfl⟩
 have hg' : ∀ i, g i = fop .div (FloatKind.nearest .f64 (N.getD i 0)) (FloatKind.nearest .f64 (E.getD i 0)) := λi => by rw [hg]
 have ho : ofP N E = tabR g N.length := by unfold ofP; rw [hg]
 rw [ho]
 rw [<- a3P g]
 refine r5 (n := N.length) (λc s => ∃ i, c + i = N.length /\ s = ⟨[(6, .ptr 6 0 0 2), (8, .sl 10 0 0 N.length 1 N.length), (24, fI N.length), (25, fI i)], [(10, [rowV (a42 g N.length i)]), (6, [[.d (rowI N), .d (rowI E)]])]⟩) ⟨0, by omega, rfl⟩ ?_
 rintro c s ⟨i, hc, rfl⟩
 have hfl := a55 g N.length i
 refine evx @a8B.eq_1 ?_
 refine b9 (λhi => ?_) (λhi => ?_)
 ·replace hi := d2b hi
  have hs := a54 g N.length i hi
  simp -implicitDefEqProofs only [evI, hv, effC, reduceCtorEq, ↓reduceIte, n1_, n2_, n3_, n4_, n5_, i1_, i2_, i3_, i4_, i5_, i6_, i7_, <- hg']
  repeat with_reducible refine andO ?_
  rw [f0 (by omega) (by omega)]
  refine ⟨c - 1, by omega, i + 1, by omega, ?_⟩
  rw [<- hs]; rfl
 ·replace hi := d2c hi
  have e2 : i = N.length := by omega
  subst e2
  rw [a56]
  have hgl := k8 g N.length
  generalize tabR g N.length = G at hgl
  refine ev ?_
  refine j6 (.tup [.sl 10 0 0 N.length 1 N.length, fB true]) (λ_ h => h) ⟨_, _, f8 (t := 4) (by decide) rfl, f8 (t := 5) (by decide) rfl, rfl⟩ (.tup rfl λj hj => ?_)
  rcases j with _ | _ | j
  ·exact b0C (by simp [d8]) hgl rfl (by simp [g5])
  ·exact Fz_d _
  ·simp at hj; omega
def a4f : CA := (.seq (.reg [i_X 0 0 (.alloc [fI 0, fI 0] 226)] [0]) (.seq (.reg [i_X 0 1 (.h (.build [fI 0, fI 0] [(0, (1, (kI 5))), (1, (1, (kI 4)))])), i_S 1 0 1 2] [0]) .ret))
theorem a46 : f7 Tryz.prog 186 = some ⟨2, [(0, (some (2, true)))], a4f.strip⟩ := by kernel_rfl
def b2X : CA := (.seq (.reg [i_X 0 2 (.h (.mov (.k .nil)))] [0]) (.seq (.reg [i_M 0 3 0, i_X 1 4 (.callA (kF 92) [(.t 3), (kI 0)]), i_M 2 2 4] [2]) .ret))
theorem b0E : f7 Tryz.prog 142 = some ⟨5, [(2, none)], b2X.strip⟩ := by kernel_rfl
def a74 : CA := (.seq (.reg [i_X 0 2 (.box (.t 0) 13 33), i_X 1 3 (.box (.t 1) 5 40), i_X 2 4 (.alloc [fI 0, fI 0, fI 0, fI 0, .nil] 40)] [2, 3, 4]) (.seq (.reg [i_P 0 6 2 0, i_A 1 7 6 3, i_P 2 8 3 4, i_L 3 9 8 1, i_X 4 10 (.h (.idx (.t 9) (kI 0) 1)), i_L 5 11 10 1, i_P 6 12 3 1, i_L 7 13 12 1, i_X 8 14 (.callS 0 (kF 56) [(.t 7), (.t 11), (.t 13)]), i_X 9 5 (.alloc [fI 0, fI 0, fI 0, fI 0, .nil] 40), i_S 10 5 14 5] [3, 4, 5]) (.seq (.reg [i_P 0 15 3 0, i_L 1 16 15 1, i_P 2 17 3 3, ⟨3, (some 18), none, [(.t 3)], [], (.load (.t 17) 1 false)⟩, i_P 4 19 5 0, ⟨5, none, none, [], [(.t 3)], (.store (.t 19) (.t 16) 1)⟩, i_P 6 20 5 3, i_S 7 20 18 1] [4, 5]) (.seq (.reg [i_A 0 21 5 5, i_S 1 4 21 5] [4]) .ret))))
theorem a7f : f7 Tryz.prog 143 = some ⟨22, [(4, (some (5, true)))], a74.strip⟩ := by kernel_rfl
def W9 : CA := (.seq (.reg [i_N 0 75 .lss 74 73] [3, 7, 8, 12, 13, 72, 73, 74, 75]) (.seq (.cond (.t 75) .skip (.exit 0)) (.seq (.block 1 (.seq (.reg [i_I 0 76 72 74 1, i_L 1 77 76 1, i_M 2 15 77] [3, 7, 8, 12, 13, 15, 72, 73, 74]) (.reg [i_M 0 78 13, i_M 1 79 3, i_P 2 80 8 2, i_L 3 81 80 1, i_I 4 82 79 81 1, i_L 5 83 82 1, i_M 6 84 15, i_F 7 85 .mul 83 84, i_P 8 86 8 2, i_L 9 87 86 1, i_B 10 88 .add 87 1, i_X 11 89 (.h (.i2f (.t 88))), i_F 12 90 .div 85 89, i_X 13 91 (.bslice [fl 0] 1 1 [(0, (1, (.t 90)))] 31), i_X 14 92 (.app (.t 78) (.t 91) 1 8), i_M 15 13 92] [3, 7, 8, 12, 13, 72, 73, 74]))) (.reg [i_B 0 93 .add 74 1, i_M 1 74 93] [3, 7, 8, 12, 13, 72, 73, 74]))))
def a73 : CA := (.seq (.reg [i_X 0 6 (.box (.t 0) 13 33), i_X 1 7 (.box (.t 1) 8 49), i_X 2 8 (.box (.t 2) 5 40), i_X 3 12 (.alloc [fI 0, fI 0, fI 0, fI 0, .nil, fI 0, fI 0, fI 0] 49)] [3, 4, 5, 6, 7, 8, 12]) (.seq (.reg [i_A 0 16 8 5, i_P 1 17 7 5, i_L 2 18 17 1, i_B 3 19 .add 18 1, i_P 4 20 7 0, i_S 5 20 16 5, i_P 6 21 7 5, i_S 7 21 19 1, i_P 8 22 7 6, ⟨9, none, none, [], [], (.store (.t 22) (kI 0) 1)⟩] [3, 4, 5, 6, 7, 8, 12]) (.seq (.reg [i_P 0 23 8 4, i_L 1 24 23 1, i_X 2 25 (.callA (kF 142) [(.t 24)]), i_P 3 26 7 0, i_P 4 27 26 4, i_S 5 27 25 1] [3, 4, 5, 6, 7, 8, 12]) (.seq (.seq (.reg [i_P 0 28 7 5, i_L 1 29 28 1, i_P 2 30 8 2, i_L 3 31 30 1, i_B 4 32 .add 31 1, i_N 5 33 .leq 29 32] [3, 4, 5, 6, 7, 8, 12, 33]) (.cond (.t 33) (.seq (.reg [i_A 0 34 7 8, i_S 1 12 34 8] [12]) .ret) .skip)) (.seq (.seq (.reg [i_M 0 35 5, i_P 1 36 8 2, i_L 2 37 36 1, i_B 3 38 .add 37 3, i_X 4 39 (.h (.un .neg (.t 38))), i_X 5 40 (.callA (kF 96) [(.k (.d (.flt 4607182418800017408))), (.t 39)]), i_X 6 41 (.h (.fcmp .le (.t 35) (.t 40))), i_M 7 42 41, g_T 8 43 42 (.h (.padd (.t 8) 1)), g_T 9 44 42 (.load (.t 43) 1 false), g_T 10 45 42 (.h (.padd (.t 6) 5)), g_T 11 46 42 (.load (.t 45) 1 false), g_T 12 47 42 (.h (.ibin .leq (.t 44) (.t 46))), i_X 13 48 (.h (.pick (.t 42) (.t 47) (.k (.d (.bool false)))))] [3, 4, 5, 7, 8, 12, 48]) (.cond (.t 48) (.seq (.reg [i_P 0 49 8 1, i_L 1 50 49 1, i_X 2 51 (.h (.ibin .mul (kI 2) (.t 50))), i_P 3 52 8 4, i_L 4 53 52 1, i_X 5 54 (.callS 5 (kF 92) [(.t 53), (kI 1)]), i_P 6 55 7 0, i_P 7 56 55 1, i_S 8 56 51 1, i_P 9 57 7 0, i_P 10 58 57 4, i_S 11 58 54 1, i_P 12 59 7 5, ⟨13, none, none, [], [], (.store (.t 59) (kI 0) 1)⟩] [7, 12]) (.seq (.reg [i_A 0 60 7 8, i_S 1 12 60 8] [12]) .ret)) .skip)) (.seq (.seq (.reg [i_M 0 61 5, i_X 1 62 (.h (.fcmp .le (.t 61) (.k (.d (.flt 4598175219545276416))))), i_M 2 63 62, g_T 3 64 63 (.h (.padd (.t 8) 2)), g_T 4 65 63 (.load (.t 64) 1 false), g_T 5 66 63 (.callS 5 (kF 186) []), g_T 6 67 63 (.h (.padd (.t 8) 3)), g_T 7 68 63 (.load (.t 67) 1 false), g_T 8 69 63 (.h (.idxv (.t 66) (.t 68) 2 1 false)), g_T 9 70 63 (.h (.ibin .lss (.t 65) (.t 69))), i_X 10 71 (.h (.pick (.t 63) (.t 70) (.k (.d (.bool false)))))] [3, 4, 7, 8, 12, 71]) (.cond (.t 71) (.seq (.reg [i_X 0 13 (.h (.mov (.k .nil)))] [3, 4, 7, 8, 12, 13]) (.seq (.seq (.reg [i_M 0 72 4, i_X 1 73 (.h (.len (.t 72))), i_K 2 74 0] [3, 7, 8, 12, 13, 72, 73, 74]) (.block 0 (.loop W9))) (.seq (.reg [i_P 0 94 8 2, i_L 1 95 94 1, i_B 2 96 .add 95 1, i_P 3 97 7 0, i_P 4 98 97 2, i_S 5 98 96 1, i_P 6 99 7 5, ⟨7, none, none, [], [], (.store (.t 99) (kI 0) 1)⟩] [7, 12, 13]) (.reg [i_P 0 100 7 0, i_P 1 101 100 4, ⟨2, (some 102), none, [(.t 7)], [], (.load (.t 101) 1 false)⟩, i_M 3 103 13, ⟨4, (some 104), none, [], [(.t 7)], (.app (.k .nil) (.t 103) 1 8)⟩, i_X 5 105 (.bslice [.nil] 1 1 [(0, (1, (.t 104)))] 30), i_X 6 106 (.app (.t 102) (.t 105) 1 24), i_P 7 107 7 0, i_P 8 108 107 4, i_S 9 108 106 1] [7, 12])))) .skip)) (.seq (.reg [i_A 0 109 7 8, i_S 1 12 109 8] [12]) .ret)))))))
theorem a7d : f7 Tryz.prog 141 = some ⟨110, [(12, (some (8, true)))], a73.strip⟩ := by kernel_rfl
def a6z : CA := (.seq (.seq (.reg [i_M 0 5 4, i_M 1 6 0, i_N 2 7 .lss 5 6] [0, 3, 4, 7]) (.cond (.t 7) .skip (.exit 0))) (.seq (.block 1 (.reg [i_M 0 10 3, i_X 1 11 (.h (.fbin .div (.t 10) (.k (.d (.flt 4611686018427387904))))), i_M 2 3 11] [0, 3, 4])) (.reg [i_M 0 8 4, i_B 1 9 .add 8 1, i_M 2 4 9] [0, 3, 4])))
def b27 : CA := (.seq (.reg [i_X 0 2 (.h (.mov (.k (.d (.flt 0)))))] [0]) (.seq (.reg [i_X 0 3 (.h (.mov (.k (.d (.flt 4607182418800017408)))))] [0, 3]) (.seq (.seq (.reg [i_K 0 4 0] [0, 3, 4]) (.block 0 (.loop a6z))) (.seq (.reg [i_M 0 12 3, i_M 1 2 12] [2]) .ret))))
theorem b0T : f7 Tryz.prog 111 = some ⟨13, [(2, none)], b27.strip⟩ := by kernel_rfl
def b26 : CA := (.seq (.reg [i_K 0 2 0] [0]) (.seq (.seq (.reg [i_M 0 3 0, i_B 1 4 .eql 3 0] [4]) (.cond (.t 4) (.seq (.reg [i_K 0 2 5] [2]) .ret) .skip)) (.seq (.reg [i_K 0 2 4] [2]) .ret)))
theorem b0R : f7 Tryz.prog 112 = some ⟨5, [(2, none)], b26.strip⟩ := by kernel_rfl
def b28 : CA := (.seq (.reg [i_X 0 2 (.box (.t 0) 13 33), i_X 1 3 (.box (.t 1) 8 42), i_X 2 4 (.alloc [fI 0, fI 0, fI 0, fI 0, .nil, fI 0, fI 0, fI 0] 42)] [2, 3, 4]) (.seq (.reg [i_P 0 6 2 0, i_A 1 7 6 3, i_P 2 8 3 0, i_P 3 9 8 4, i_L 4 10 9 1, i_X 5 11 (.h (.idx (.t 10) (kI 0) 1)), i_L 6 12 11 1, i_P 7 13 3 0, i_P 8 14 13 1, i_L 9 15 14 1, i_X 10 16 (.callS 0 (kF 77) [(.t 7), (.t 12), (.t 15)]), i_X 11 5 (.alloc [fI 0, fI 0, fI 0, fI 0, .nil] 40), i_S 12 5 16 5] [3, 4, 5]) (.seq (.reg [i_P 0 17 3 0, i_P 1 18 17 0, i_L 2 19 18 1, i_P 3 20 3 0, i_P 4 21 20 3, ⟨5, (some 22), none, [(.t 3)], [], (.load (.t 21) 1 false)⟩, i_P 6 23 5 0, ⟨7, none, none, [], [(.t 3)], (.store (.t 23) (.t 19) 1)⟩, i_P 8 24 5 3, i_S 9 24 22 1] [3, 4, 5]) (.seq (.reg [i_A 0 25 5 5, i_P 1 26 3 0, i_S 2 26 25 5, i_P 3 27 3 6, ⟨4, none, none, [], [], (.store (.t 27) (kI 0) 1)⟩] [3, 4]) (.seq (.reg [i_A 0 28 3 8, i_S 1 4 28 8] [4]) .ret)))))
theorem b0U : f7 Tryz.prog 108 = some ⟨29, [(4, (some (8, true)))], b28.strip⟩ := by kernel_rfl
theorem R8 : Con Tryz.prog 186 [] (.agg [fI 5, fI 4]) := by
 refine b7 a46 rfl f5 ?_
 refine evx @a4f.eq_1 ?_
 exact f9 rfl (by decide) rfl rfl rfl (by simp) (by simp [ldv])
theorem a9A (A : List (List Nat)) (m n : Nat) (hA : Rk m n A) (hc : Cw A) (hm : m < 1000) (hn : n < 2 ^ 40) : AC Tryz.prog 142 [.d (g6 A)] [] [(101, A.map rowV), (3, [hdo 101 0 m n])] (.sl 3 0 0 m 1 m) := by
 refine k9 b0E rfl f5 (λ_ => False) (by simp [g5]) ?_
 have h := W5 A m n hA hm hn 0 (by decide)
 rw [a6R hA hc] at h
 refine evx @b2X.eq_1 ?_
 refine B0 0 [.d (g6 A), fI 0] (by simp [Heap.next]) h ⟨.bare _, .bare _, trivial⟩ ?_
 have hk1 : ∀ L : Heap, L.fam 101 = some (A.map rowV) -> KpA L (hdo 101 0 m n) := λL hL => L7 hL (by have := hA.1; omega)
 refine ev ?_
 exact m5 (λX => X == 101 || X == 3) (λ_ h => h) (f8 (t := 2) (by decide) rfl) rfl (by simp (maxDischargeDepth := 6) [kpS, d6, d9]) (by simp (maxDischargeDepth := 6) [kpS, d6, d9, hk1])
theorem b5c (A : List (List Nat)) (m n : Nat) (hA : Rk m n A) (hc : Cw A) (hm : m < 1000) (hn : n < 2 ^ 40) : Con Tryz.prog 142 [.d (g6 A)] (.d (g6 A)) :=
 a45 (a9A A m n hA hc hm hn) hA (by decide)
theorem b5C (k : Nat) (hk : k < 1000) : Con Tryz.prog 111 [fI k] (fl (((List.range k).foldl (λx _ => fop .div x 4611686018427387904) 4607182418800017408))) := by
 refine b7 b0T rfl f5 ?_
 refine evx @b27.eq_1 ?_
 refine r5 (n := k) (λc s => ∃ i, c + i = k /\ s = ⟨[(0, fI k), (3, fl ((List.range i).foldl (λx _ => fop .div x 4611686018427387904) 4607182418800017408)), (4, fI i)], []⟩) ⟨0, by omega, rfl⟩ ?_
 rintro c s ⟨i, hc, rfl⟩
 refine evx @a6z.eq_1 ?_
 refine b9 (λh => ?_) (λh => ?_)
 ·replace h := d2b h
  refine ev ?_
  rw [f0 (by omega) (by omega)]
  refine ⟨c - 1, by omega, i + 1, by omega, ?_⟩
  rw [List.range_succ, List.foldl_append]
  rfl
 ·replace h := d2c h
  have e : i = k := by omega
  subst e
  refine ev ?_
  exact g9
theorem c8A (k : Nat) (hk : k < 12) : ((List.range k).foldl (λx _ => fop .div x 4611686018427387904) 4607182418800017408) = c0D k := by
 have h : ((List.range 12).all λk => ((List.range k).foldl (λx _ => fop .div x 4611686018427387904) 4607182418800017408) == c0D k) = true := by kernel_rfl
 exact eq_of_beq (List.all_eq_true.1 h k (by simpa using hk))
theorem b5B (m : Int) : Con Tryz.prog 112 [fI m] (fI (a9X m)) := by
 refine b7 b0R rfl f5 ?_
 refine evx @b26.eq_1 ?_
 unfold a9X
 by_cases h : m = 0
 ·subst h
  refine evb ?_
  exact g9
 ·have h' : (m == 0) = false := by simpa using h
  rw [if_neg h]
  refine evx h' ?_
  exact g9
theorem D0 (p : Pb) (n : Nd) (hp : Pok p) (hns : ∃ j : Nat, j < 60 /\ n.step = (2 ^ j : Nat)) (hnr : Rk (n.order.toNat + 1) p.t.n n.z) : Con Tryz.prog 143 [pbV p, ndV n] (ndV (a53 p n)) := by
 obtain ⟨j, hj, hst⟩ := hns
 obtain ⟨r1, r2⟩ := hnr
 obtain ⟨pos, st, o, m, z⟩ := n
 simp only at hst r1 r2
 subst hst
 refine b7 a7f rfl f5 ?_
 refine evx @a74.eq_1 ?_
 repeat with_reducible refine andO ?_
 first | refine a0 (P3 p.t (z.getD 0 []) j hp.t (r2 0 (by omega)) hj) rfl ?_ | refine d7 (P3 p.t (z.getD 0 []) j hp.t (r2 0 (by omega)) hj) rfl ?_ | refine d5 (P3 p.t (z.getD 0 []) j hp.t (r2 0 (by omega)) hj) rfl ?_
 refine ev ?_
 exact f9 rfl (by decide) rfl rfl rfl (by simp) rfl
theorem a7Q (p : Pb) (s : Sta) (hp : Pok p) (hns : ∃ j : Nat, j < 60 /\ s.n.step = (2 ^ j : Nat)) (hnr : Rk (s.n.order.toNat + 1) p.t.n s.n.z) : Con Tryz.prog 108 [pbV p, staV s] (staV ⟨a53 p s.n, s.good, 0, s.slow⟩) := by
 obtain ⟨j, hj, hst⟩ := hns
 obtain ⟨r1, r2⟩ := hnr
 obtain ⟨⟨pos, st, o, m, z⟩, g, f, sl⟩ := s
 simp only at hst r1 r2
 subst hst
 refine b7 b0U rfl f5 ?_
 refine evx @b28.eq_1 ?_
 repeat with_reducible refine andO ?_
 refine d5 (b5w p.t (z.getD 0 []) j hp.t (r2 0 (by omega)) hj) rfl ?_
 refine ev ?_
 exact f9 rfl (by decide) rfl rfl rfl (by simp) rfl
theorem a5J (j : Nat) (hj : j < 60) : (0 : Int) < ((2 ^ j : Nat) : Int) /\ ((2 ^ j : Nat) : Int) < 1152921504606846976 := by
 have h1 : 2 ^ j < 2 ^ 60 := Nat.pow_lt_pow_right (by decide) hj
 have h2 : 0 < 2 ^ j := Nat.pow_pos (by decide)
 generalize 2 ^ j = w at h1 h2
 have h3 : w < 1152921504606846976 := h1
 omega
abbrev tkS (l d : List Nat) (n i : Nat) : Sl := [(3, .d (rowD l)), (7, .ptr 1 0 0 8), (8, .ptr 2 0 0 5), (12, .ptr 3 0 0 8), (13, .sl 200 0 0 i 1 i), (72, .d (rowD d)), (73, fI n), (74, fI i)]
abbrev tkL (q n : Nat) (m g sl pos st : Int) (C : List (List Nat)) : Heap := [(121, C.map rowV), (23, [hdo 121 0 (q + 1) n]), (3, [[fI 0, fI 0, fI 0, fI 0, .nil, fI 0, fI 0, fI 0]]), (2, [[fI (pos + st), fI st, fI q, fI m, .d (g6 C)]]),
 (1, [[fI (pos + st), fI st, fI q, fI m, .sl 23 0 0 (q + 1) 1 (q + 1), fI (g + 1), fI 0, fI sl]])]
theorem c45 (pc : List V) (q : Nat) (m g sl pos st : Int) (C : List (List Nat)) (l d : List Nat) (n : Nat) (gg : Nat -> Nat) (hl : l.length = q + 1) (hd : d.length = n) (hn : n < 2 ^ 40) (w2 : IntKind.i64.wrap ((q : Int) + 1) = (q : Int) + 1)
  (hz : Rk (q + 1) n C) (hgg : ∀ i, fop .div (fop .mul (l.getD q 0) (d.getD i 0)) (FloatKind.nearest .f64 ((q : Int) + 1)) = gg i) (Q : Ex -> T -> Prop)
  (hQ : ∀ w, Q (.exit 0) ⟨tkS l d n n ++ [w], (200, [rowV (tabR gg n)]) :: tkL q n m g sl pos st C⟩) :
  WA Tryz.prog (λ_ => False) 110 (.loop W9) Q ⟨[(3, .d (rowD l)), (7, .ptr 1 0 0 8), (8, .ptr 2 0 0 5), (12, .ptr 3 0 0 8), (13, .nil), (72, .d (rowD d)), (73, fI d.length), (74, fI 0)], tkL q n m g sl pos st C ++ [(0, [pc])]⟩ := by
 have hk1 : ∀ L : Heap, L.fam 121 = some (C.map rowV) -> KpA L (hdo 121 0 (q + 1) n) := λL hL => L7 hL (by have := hz.1; omega)
 refine j5 (n := n) (λc s => ∃ i, c + i = n /\ s = ⟨tkS l d n i, (200, [rowV (tabR gg i)]) :: tkL q n m g sl pos st C⟩)
  (s0 := ⟨_, _⟩) (Le.trans (LeT.nilrow (X := 200) (esz := 1) (as' := tkS l d n 0) (by simp [d6, d9]) (λh => h) λi => ?_)
   (LeT.only (L' := (200, [rowV (tabR gg 0)]) :: tkL q n m g sl pos st C) (λX => X != 0) (λ_ h => h) rfl (by simp (maxDischargeDepth := 6) [kpS, d6, d9]) (by simp (maxDischargeDepth := 6) [kpS, d6, d9, hk1]))) ⟨0, by omega, rfl⟩ ?_
 ·simp only [look]
  repeat' split
  all_goals simp [rowD, hd]
 rintro c s ⟨i, hc3, rfl⟩
 have hgl := k8 gg i
 refine evx @W9.eq_1 ?_
 refine b9 (λhi => ?_) (λhi => ?_)
 ·replace hi := d2b hi
  refine evx (And.intro w2 hgg) ?_
  repeat with_reducible refine andO ?_
  have e2 : rowV (tabR gg i) ++ [fl (gg i)] = rowV (tabR gg (i + 1)) := (J6 _ _).symm
  rw [f0 (by omega) (by omega), e2]
  exact ⟨c - 1, _, by omega, LeT.only (L' := (200, [rowV (tabR gg (i + 1))]) :: tkL q n m g sl pos st C) (λX => X != 214) (λ_ h => h) rfl (by simp (maxDischargeDepth := 6) [kpS, d6, d9]) (by simp (maxDischargeDepth := 6) [kpS, d6, d9, hk1]), i + 1, by omega, rfl⟩
 ·replace hi := d2c hi
  have e : i = n := by omega
  subst e
  refine ev ?_
  exact hQ _
theorem b1t (p : Pb) (s : Sta) (z : List (List Nat)) (l d : List Nat) (err : Nat) (hp : Pok p) (hs : s.ok p.t) (hz : Rk (s.n.order.toNat + 1) p.t.n z) (hzc : Cw z) (hl : l.length = s.n.order.toNat + 1) (hd : d.length = p.t.n) :
  Con Tryz.prog 141 [pbV p, staV s, ndV (a4G p s z l d err).n, .d (rowD l), .d (rowD d), fl err] (staV (a4G p s z l d err).s) := by
 obtain ⟨hn, hg, hf, hsl⟩ := hs
 obtain ⟨hm, ⟨j, hj, hst⟩, hk, hc, hpos⟩ := hn
 obtain ⟨⟨pos, st, o, m, z0⟩, g, f, sl⟩ := s
 simp only at *
 have hsr := a5J j hj
 rw [<- hst] at hsr
 clear hst
 obtain ⟨q, rfl⟩ : ∃ q : Nat, o = q := ⟨o.toNat, by omega⟩
 rw [Int.toNat_natCast] at hk hz hl
 have hz' := a3R hz l d (q + 1) p.t.n
 have hzc' := a6b hzc l d (q + 1) p.t.n
 have hpn := hp.t.n
 have hq9 : q + 1 < 1000 := by omega
 have hn8 : p.t.n * 8 <= 140737488355328 := by omega
 have hq8 : (q + 1 + 1) * 24 <= 140737488355328 := by omega
 have hmo : [fI 5, fI 4].getD m.toNat .any = fI (a9X m) := by
  rcases hm with ⟨rfl, _⟩ | ⟨rfl, _⟩ <;> rfl
 have hm01 : 0 <= m /\ m < 2 := by omega
 have hm02 : m.toNat <= 1 := by omega
 have hn40 : p.t.n < 2 ^ 40 := by omega
 have hqs : -1000000 < -((q + 3 : Nat) : Int) /\ -((q + 3 : Nat) : Int) < 1000000 := by omega
 have hown := a9A (a44 z l d (q + 1) p.t.n) (q + 1) p.t.n hz' hzc' (by omega) (by omega)
 unfold a4G
 simp only [Int.toNat_natCast]
 generalize hC : a44 z l d (q + 1) p.t.n = C at hz' hzc' hown
 refine b7 a7d rfl f5 ?_
 refine evx @a73.eq_1 ?_
 refine B0 20 [.d (g6 C)] (by simp [Heap.next]) hown ⟨.bare _, trivial⟩ ?_
 have w1 : IntKind.i64.wrap (g + 1) = g + 1 := f0 (by omega) (by omega)
 have w2 : IntKind.i64.wrap ((q : Int) + 1) = (q : Int) + 1 := f0 (by omega) (by omega)
 refine evx (And.intro w1 w2) ?_
 by_cases c1 : g + 1 <= (q : Int) + 1
 ·rw [if_pos c1]
  have c1' : decide (g + 1 <= (q : Int) + 1) = true := decide_eq_true c1
  refine evx c1' ?_
  exact j6 (.agg [fI (pos + st), fI st, fI q, fI m, .sl 23 0 0 (q + 1) 1 (q + 1), fI (g + 1), fI 0, fI sl]) (λ_ h => h) (g8 (by decide) rfl rfl rfl (by simp) rfl)
   (D5 _ _ ⟨Fz_d _, Fz_d _, Fz_d _, Fz_d _, b6A (X := 121) hz' rfl rfl rfl rfl, Fz_d _, Fz_d _, Fz_d _, trivial⟩)
 ·rw [if_neg c1]
  have c1' : decide (g + 1 <= (q : Int) + 1) = false := decide_eq_false c1
  have w3 : IntKind.i64.wrap ((q : Int) + 3) = (q : Int) + 3 := f0 (by omega) (by omega)
  have w4 : IntKind.i64.wrap (0 - ((q : Int) + 3)) = -((q + 3 : Nat) : Int) := by rw [f0 (by omega) (by omega)]; omega
  have hlw : Con Tryz.prog 96 [fl 4607182418800017408, fI (-((q + 3 : Nat) : Int))] (fl (c0D (q + 3))) := Q5 _ _ hqs
  refine evx (And.intro c1' (And.intro w3 w4)) ?_
  first | refine a0 (hlw) rfl ?_ | refine d7 (hlw) rfl ?_ | refine d5 (hlw) rfl ?_
  generalize c0D (q + 3) = lw
  have w5 : IntKind.i64.wrap (2 * st) = 2 * st := f0 (by omega) (by omega)
  have hre := W5 C (q + 1) p.t.n hz' hq9 hn40 1 (by decide)
  have hrk := J8 hz' 1 (q + 1) p.t.n
  by_cases c2 : fcmp .le err lw = true /\ st <= p.fin
  ·rw [if_pos c2]
   have c3 : decide (st <= p.fin) = true := decide_eq_true c2.2
   refine evx (And.intro c2.1 (And.intro c3 w5)) ?_
   have hreC := R9 C (q + 1) p.t.n hz' hq9 hn40 1 (by decide)
   generalize J9 C 1 (q + 1) p.t.n = S at hre hrk hreC
   first | refine a0 (hreC) rfl ?_ | refine d7 (hreC) rfl ?_ | refine d5 (hreC) rfl ?_
   refine ev ?_
   exact j6 (.agg [fI (pos + st), fI (2 * st), fI q, fI m, .d (g6 S), fI 0, fI 0, fI sl]) (λ_ h => h) (g8 (by decide) rfl rfl rfl (by simp) rfl)
    (D5 _ _ ⟨Fz_d _, Fz_d _, Fz_d _, Fz_d _, Fz_d _, Fz_d _, Fz_d _, Fz_d _, trivial⟩)
  ·rw [if_neg c2]
   have c4 : (fcmp .le err lw = false) \/ (fcmp .le err lw = true /\ decide (st <= p.fin) = false) := by
    cases h1 : fcmp .le err lw with
    | false => exact .inl rfl
    | true => exact .inr ⟨rfl, decide_eq_false λh2 => c2 ⟨h1, h2⟩⟩
   have fin : ∀ (Lr : Heap), Lr.get 23 0 = some (hdo 121 0 (q + 1) p.t.n) -> Lr.fam 121 = some (C.map rowV) -> LeV Lr [] (λX r => (X, r)) (.agg [fI (pos + st), fI st, fI q, fI m, .sl 23 0 0 (q + 1) 1 (q + 1), fI (g + 1), fI 0, fI sl]) (staV ⟨⟨pos + st, st, q, m, C⟩, g + 1, 0, sl⟩) := λLr e1 e2 =>
    D5 _ _ ⟨Fz_d _, Fz_d _, Fz_d _, Fz_d _, b6A (X := 121) hz' e1 e2 rfl rfl, Fz_d _, Fz_d _, Fz_d _, trivial⟩
   rcases c4 with c4 | ⟨c4, c5⟩
   case' inl => simp -implicitDefEqProofs only [evI, hv, effC, reduceCtorEq, ↓reduceIte, n1_, n2_, n3_, n4_, n5_, i1_, i2_, i3_, i4_, i5_, i6_, i7_, c4]
   case' inr => simp -implicitDefEqProofs only [evI, hv, effC, reduceCtorEq, ↓reduceIte, n1_, n2_, n3_, n4_, n5_, i1_, i2_, i3_, i4_, i5_, i6_, i7_, c4, c5]
   all_goals
    cases c8 : fcmp .le err 4598175219545276416 with
    | false =>
     rw [if_neg (by simp)]
     refine ev ?_
     exact j6 (.agg [fI (pos + st), fI st, fI q, fI m, .sl 23 0 0 (q + 1) 1 (q + 1), fI (g + 1), fI 0, fI sl]) (λ_ h => h) (g8 (by decide) rfl rfl rfl (by simp) rfl) (fin _ rfl rfl)
    | true =>
     refine ev ?_
     first | refine a0 (R8) rfl ?_ | refine d7 (R8) rfl ?_ | refine d5 (R8) rfl ?_
     refine evx hmo ?_
     refine ⟨hm01, hm02, ?_⟩
     by_cases c9 : (q : Int) < a9X m
     ·have c9' : decide ((q : Int) < a9X m) = true := decide_eq_true c9
      rw [if_pos c9]
      refine evx c9' ?_
      obtain ⟨gg, hgg⟩ : ∃ gg, gg = (λi => fop .div (fop .mul (l.getD q 0) (d.getD i 0)) (FloatKind.nearest .f64 ((q : Int) + 1))) := ⟨_, rfl⟩
      have hgg' : ∀ i, fop .div (fop .mul (l.getD q 0) (d.getD i 0)) (FloatKind.nearest .f64 ((q : Int) + 1)) = gg i := λi => by rw [hgg]
      have hnr : c0u l d q = tabR gg p.t.n := by unfold c0u; rw [hd, hgg]
      rw [hnr]
      refine c45 (pbC p) q m g sl pos st C l d p.t.n gg hl hd hn40 w2 hz' hgg' _ λw => ?_
      have hgl := k8 gg p.t.n
      generalize tabR gg p.t.n = G at hgl
      have hgl' : p.t.n <= G.length := Nat.le_of_eq hgl.symm
      refine evx w2 ?_
      have hta : List.take p.t.n (rowV G) = rowV G := d2r (by simp [hgl])
      rw [if_pos ⟨hgl, hgl'⟩, hta]
      simp only []
      refine ⟨⟨hn8, by simp [hgl], by simp [rowV, V.isCell]⟩, hq8, ?_⟩
      exact j6 (.agg [fI (pos + st), fI st, fI (q + 1), fI m, .sl 23 0 0 (q + 1 + 1) 1 (q + 1 + 1), fI 0, fI 0, fI sl]) (λ_ h => h) (g8 (by decide) rfl rfl rfl (by simp) rfl)
       (D5 _ _ ⟨Fz_d _, Fz_d _, Fz_d _, Fz_d _, b6z (X := 121) (R := 205) hz' rfl rfl rfl hgl rfl rfl rfl, Fz_d _, Fz_d _, Fz_d _, trivial⟩)
     ·have c9' : decide ((q : Int) < a9X m) = false := decide_eq_false c9
      rw [if_neg c9]
      refine evx c9' ?_
      exact j6 (.agg [fI (pos + st), fI st, fI q, fI m, .sl 23 0 0 (q + 1) 1 (q + 1), fI (g + 1), fI 0, fI sl]) (λ_ h => h) (g8 (by decide) rfl rfl rfl (by simp) rfl) (fin _ rfl rfl)
def a8b : CA := (.seq (.reg [i_X 0 4 (.box (.t 0) 13 33), i_X 1 5 (.box (.t 1) 8 42), i_X 2 8 (.alloc [fI 0, fI 0, fI 0, fI 0, .nil, fI 0, fI 0, fI 0, fI 0, fI 0, fI 0, fI 0, .nil, (.d (.bool false)), fl 0, fI 0] 70)] [2, 3, 4, 5, 8]) (.seq (.reg [i_A 0 10 5 8, i_M 1 11 3, i_X 2 12 (.h (.build [fI 0, fI 0, fI 0, fI 0, .nil, fI 0, fI 0, fI 0, fI 0, fI 0, fI 0, fI 0, .nil, (.d (.bool false)), fl 0, fI 0] [(0, (8, (.t 10))), (14, (1, (.t 11)))])), i_X 3 9 (.alloc [fI 0, fI 0, fI 0, fI 0, .nil, fI 0, fI 0, fI 0, fI 0, fI 0, fI 0, fI 0, .nil, (.d (.bool false)), fl 0, fI 0] 70), i_S 4 9 12 16] [2, 4, 5, 8, 9]) (.seq (.seq (.reg [i_P 0 13 5 0, i_P 1 14 13 1, i_L 2 15 14 1, i_P 3 16 4 7, i_L 4 17 16 1, i_N 5 18 .leq 15 17] [2, 4, 5, 8, 9, 18]) (.cond (.t 18) (.seq (.reg [i_P 0 19 9 15, ⟨1, none, none, [], [], (.store (.t 19) (kI 5) 1)⟩] [2, 8, 9]) (.seq (.seq (.reg [i_M 0 20 2, i_B 1 21 .eql 20 4, i_M 2 22 21, g_F 3 23 22 (.h (.mov (.t 2))), g_F 4 24 22 (.h (.ibin .eql (.t 23) (kI 2))), i_X 5 25 (.h (.pick (.t 22) (.k (.d (.bool true))) (.t 24)))] [2, 8, 9, 25]) (.cond (.t 25) (.reg [i_M 0 26 2, i_P 1 27 9 15, i_S 2 27 26 1] [8, 9]) .skip)) (.seq (.reg [i_A 0 28 9 16, i_S 1 8 28 16] [8]) .ret))) .skip)) (.seq (.reg [i_P 0 29 5 6, i_L 1 30 29 1, i_B 2 31 .add 30 1, i_P 3 32 9 0, i_P 4 33 32 6, i_S 5 33 31 1, i_P 6 34 9 0, i_P 7 35 34 5, ⟨8, none, none, [], [], (.store (.t 35) (kI 0) 1)⟩] [2, 4, 5, 8, 9]) (.seq (.seq (.reg [i_M 0 36 2, i_B 1 37 .eql 36 6, i_M 2 38 37, g_T 3 39 38 (.h (.padd (.t 5) 0)), g_T 4 40 38 (.h (.padd (.t 39) 3)), g_T 5 41 38 (.load (.t 40) 1 false), g_T 6 42 38 (.h (.ibin .eql (.t 41) (kI 0))), i_X 7 43 (.h (.pick (.t 38) (.t 42) (.k (.d (.bool false)))))] [4, 5, 8, 9, 43]) (.cond (.t 43) (.reg [i_P 0 44 5 7, i_L 1 45 44 1, i_B 2 46 .add 45 1, i_P 3 47 9 0, i_P 4 48 47 7, i_S 5 48 46 1] [4, 5, 8, 9]) .skip)) (.seq (.reg [i_P 0 49 5 0, i_P 1 50 49 1, i_L 2 51 50 1, i_B 3 52 .quo 51 2, i_P 4 53 9 0, i_P 5 54 53 0, i_P 6 55 54 1, i_S 7 55 52 1] [4, 5, 8, 9]) (.seq (.reg [i_P 0 56 5 0, i_P 1 57 56 4, i_L 2 58 57 1, i_X 3 59 (.callA (kF 107) [(.t 58), (.k (.d (.int .i64 (-1))))]), i_P 4 60 9 0, i_P 5 61 60 0, i_P 6 62 61 4, i_S 7 62 59 1] [4, 8, 9]) (.seq (.seq (.reg [i_P 0 63 9 0, i_P 1 64 63 7, i_L 2 65 64 1, i_B 3 66 .geq 65 2] [4, 8, 9, 66]) (.cond (.t 66) (.seq (.reg [i_P 0 67 9 0, i_P 1 68 67 0, i_P 2 69 68 3, ⟨3, none, none, [], [], (.store (.t 69) (kI 1) 1)⟩, i_P 4 70 9 0, i_P 5 71 70 7, ⟨6, none, none, [], [], (.store (.t 71) (kI 0) 1)⟩] [4, 8, 9]) (.reg [i_A 0 72 4 13, i_P 1 73 9 0, i_A 2 74 73 8, i_X 3 75 (.callA (kF 108) [(.t 72), (.t 74)]), i_P 4 76 9 0, i_S 5 76 75 8] [8, 9])) (.seq (.reg [i_P 0 77 9 0, i_P 1 78 77 6, i_L 2 79 78 1, i_B 3 80 .geq 79 3] [4, 8, 9, 80]) (.cond (.t 80) (.reg [i_A 0 81 4 13, i_P 1 82 9 0, i_A 2 83 82 8, i_X 3 84 (.callA (kF 108) [(.t 81), (.t 83)]), i_P 4 85 9 0, i_S 5 85 84 8] [8, 9]) .skip)))) (.seq (.reg [i_A 0 86 9 16, i_S 1 8 86 16] [8]) .ret)))))))))
theorem a7m : f7 Tryz.prog 65 = some ⟨87, [(8, (some (16, true)))], a8b.strip⟩ := by kernel_rfl
def a0y : CA := (.seq (.seq (.reg [i_M 0 92 16, i_M 1 93 4, i_X 2 94 (.h (.len (.t 93))), i_N 3 95 .lss 92 94] [3, 4, 12, 13, 14, 15, 16, 95]) (.cond (.t 95) .skip (.exit 0))) (.seq (.block 1 (.seq (.reg [i_M 0 98 3, i_P 1 99 13 2, i_L 2 100 99 1, i_I 3 101 98 100 1, i_L 4 102 101 1, i_M 5 103 4, i_M 6 104 16, i_I 7 105 103 104 1, i_L 8 106 105 1, i_F 9 107 .mul 102 106, i_M 10 17 107] [3, 4, 12, 13, 14, 15, 16, 17]) (.reg [i_M 0 108 15, i_M 1 109 17, i_P 2 110 13 2, i_L 3 111 110 1, i_B 4 112 .add 111 1, i_X 5 113 (.h (.i2f (.t 112))), i_F 6 114 .div 109 113, i_X 7 115 (.bslice [fl 0] 1 1 [(0, (1, (.t 114)))] 31), i_X 8 116 (.app (.t 108) (.t 115) 1 8), i_M 9 15 116] [3, 4, 12, 13, 14, 15, 16]))) (.reg [i_M 0 96 16, i_B 1 97 .add 96 1, i_M 2 16 97] [3, 4, 12, 13, 14, 15, 16])))
def b0Q : CA := (.seq (.reg [i_X 0 6 (.box (.t 0) 13 33), i_X 1 7 (.box (.t 1) 8 42), i_X 2 12 (.alloc [fI 0, fI 0, fI 0, fI 0, .nil, fI 0, fI 0, fI 0, fI 0, fI 0, fI 0, fI 0, .nil, (.d (.bool false)), fl 0, fI 0] 70)] [2, 3, 4, 5, 6, 7, 12]) (.seq (.reg [i_P 0 18 7 0, i_A 1 19 18 5, i_X 2 13 (.alloc [fI 0, fI 0, fI 0, fI 0, .nil] 40), i_S 3 13 19 5] [2, 3, 4, 5, 6, 7, 12, 13]) (.seq (.reg [i_M 0 20 2, i_M 1 21 3, i_M 2 22 4, i_X 3 23 (.callA (kF 110) [(.t 20), (.t 21), (.t 22)]), i_P 4 24 13 4, i_S 5 24 23 1] [3, 4, 5, 6, 7, 12, 13]) (.seq (.reg [i_P 0 25 13 0, i_L 1 26 25 1, i_P 2 27 13 1, i_L 3 28 27 1, i_N 4 29 .add 26 28, i_P 5 30 13 0, i_S 6 30 29 1] [3, 4, 5, 6, 7, 12, 13]) (.seq (.reg [i_A 0 31 13 5, i_M 1 32 5, i_A 2 33 13 5, i_P 3 34 7 5, i_L 4 35 34 1, i_B 5 36 .add 35 1, i_P 6 37 7 7, i_L 7 38 37 1, i_X 8 39 (.h (.build [fI 0, fI 0, fI 0, fI 0, .nil, fI 0, fI 0, fI 0] [(0, (5, (.t 33))), (5, (1, (.t 36))), (7, (1, (.t 38)))])), i_X 9 40 (.h (.build [fI 0, fI 0, fI 0, fI 0, .nil, fI 0, fI 0, fI 0, fI 0, fI 0, fI 0, fI 0, .nil, (.d (.bool false)), fl 0, fI 0] [(8, (5, (.t 31))), (13, (1, (.k (.d (.bool true))))), (14, (1, (.t 32))), (0, (8, (.t 39)))])), i_X 10 14 (.alloc [fI 0, fI 0, fI 0, fI 0, .nil, fI 0, fI 0, fI 0, fI 0, fI 0, fI 0, fI 0, .nil, (.d (.bool false)), fl 0, fI 0] 70), i_S 11 14 40 16] [3, 4, 5, 6, 12, 13, 14]) (.seq (.reg [i_P 0 41 13 4, i_L 1 42 41 1, i_X 2 43 (.callA (kF 107) [(.t 42), (kI 0)]), i_P 3 44 14 0, i_P 4 45 44 0, i_P 5 46 45 4, i_S 6 46 43 1] [3, 4, 5, 6, 12, 13, 14]) (.seq (.seq (.reg [i_P 0 47 14 0, i_P 1 48 47 5, i_L 2 49 48 1, i_P 3 50 13 2, i_L 4 51 50 1, i_B 5 52 .add 51 1, i_N 6 53 .leq 49 52] [3, 4, 5, 6, 12, 13, 14, 53]) (.cond (.t 53) (.seq (.reg [i_A 0 54 14 16, i_S 1 12 54 16] [12]) .ret) .skip)) (.seq (.seq (.reg [i_M 0 55 5, i_P 1 56 13 2, i_L 2 57 56 1, i_B 3 58 .add 57 3, i_X 4 59 (.callA (kF 111) [(.t 58)]), i_X 5 60 (.h (.fcmp .le (.t 55) (.t 59))), i_M 6 61 60, g_T 7 62 61 (.h (.padd (.t 13) 1)), g_T 8 63 61 (.load (.t 62) 1 false), g_T 9 64 61 (.h (.padd (.t 6) 5)), g_T 10 65 61 (.load (.t 64) 1 false), g_T 11 66 61 (.h (.ibin .leq (.t 63) (.t 65))), i_X 12 67 (.h (.pick (.t 61) (.t 66) (.k (.d (.bool false)))))] [3, 4, 5, 12, 13, 14, 67]) (.cond (.t 67) (.seq (.reg [i_P 0 68 13 1, i_L 1 69 68 1, i_X 2 70 (.h (.ibin .mul (kI 2) (.t 69))), i_P 3 71 14 0, i_P 4 72 71 0, i_P 5 73 72 1, i_S 6 73 70 1, i_P 7 74 14 0, i_P 8 75 74 5, ⟨9, none, none, [], [], (.store (.t 75) (kI 0) 1)⟩] [12, 13, 14]) (.reg [i_P 0 76 13 4, i_L 1 77 76 1, i_X 2 78 (.callA (kF 107) [(.t 77), (kI 1)]), i_P 3 79 14 0, i_P 4 80 79 0, i_P 5 81 80 4, i_S 6 81 78 1] [12, 14])) (.seq (.reg [i_M 0 82 5, i_X 1 83 (.h (.fcmp .le (.t 82) (.k (.d (.flt 4598175219545276416))))), i_M 2 84 83, g_T 3 85 84 (.h (.padd (.t 13) 2)), g_T 4 86 84 (.load (.t 85) 1 false), g_T 5 87 84 (.h (.padd (.t 13) 3)), g_T 6 88 84 (.load (.t 87) 1 false), g_T 7 89 84 (.callS 7 (kF 112) [(.t 88)]), g_T 8 90 84 (.h (.ibin .lss (.t 86) (.t 89))), i_X 9 91 (.h (.pick (.t 84) (.t 90) (.k (.d (.bool false)))))] [3, 4, 12, 13, 14, 91]) (.cond (.t 91) (.seq (.reg [i_X 0 15 (.h (.mov (.k .nil)))] [3, 4, 12, 13, 14, 15]) (.seq (.seq (.reg [i_K 0 16 0] [3, 4, 12, 13, 14, 15, 16]) (.block 0 (.loop a0y))) (.seq (.reg [i_P 0 117 14 0, i_P 1 118 117 0, i_P 2 119 118 4, i_L 3 120 119 1, i_M 4 121 15, i_X 5 122 (.bslice [.nil] 1 1 [(0, (1, (.t 121)))] 30), i_X 6 123 (.app (.t 120) (.t 122) 1 24), i_P 7 124 14 0, i_P 8 125 124 0, i_P 9 126 125 4, i_S 10 126 123 1] [12, 13, 14]) (.reg [i_P 0 127 13 2, i_L 1 128 127 1, i_B 2 129 .add 128 1, i_P 3 130 14 0, i_P 4 131 130 0, i_P 5 132 131 2, i_S 6 132 129 1, i_P 7 133 14 0, i_P 8 134 133 5, ⟨9, none, none, [], [], (.store (.t 134) (kI 0) 1)⟩] [12, 14])))) .skip)))) (.seq (.reg [i_A 0 135 14 16, i_S 1 12 135 16] [12]) .ret)))))))))
theorem a8Z : f7 Tryz.prog 67 = some ⟨136, [(12, (some (16, true)))], b0Q.strip⟩ := by kernel_rfl
def b29 : CA := (.seq (.reg [i_X 0 2 (.box (.t 0) 8 42), i_X 1 3 (.box (.t 1) 8 42), i_X 2 4 (.h (.mov (.k (.d (.bool false)))))] [2, 3]) (.seq (.reg [i_P 0 5 2 0, i_A 1 6 5 5, i_P 2 7 3 0, i_A 3 8 7 5, i_X 4 9 (.callA (kF 98) [(.t 6), (.t 8)]), i_M 5 10 9, g_T 6 11 10 (.h (.padd (.t 2) 5)), g_T 7 12 10 (.load (.t 11) 1 false), g_T 8 13 10 (.h (.padd (.t 3) 5)), g_T 9 14 10 (.load (.t 13) 1 false), g_T 10 15 10 (.h (.ibin .eql (.t 12) (.t 14))), i_X 11 16 (.h (.pick (.t 10) (.t 15) (.k (.d (.bool false))))), i_M 12 17 16, g_T 13 18 17 (.h (.padd (.t 2) 6)), g_T 14 19 17 (.load (.t 18) 1 false), g_T 15 20 17 (.h (.padd (.t 3) 6)), g_T 16 21 17 (.load (.t 20) 1 false), g_T 17 22 17 (.h (.ibin .eql (.t 19) (.t 21))), i_X 18 23 (.h (.pick (.t 17) (.t 22) (.k (.d (.bool false))))), i_M 19 24 23, g_T 20 25 24 (.h (.padd (.t 2) 7)), g_T 21 26 24 (.load (.t 25) 1 false), g_T 22 27 24 (.h (.padd (.t 3) 7)), g_T 23 28 24 (.load (.t 27) 1 false), g_T 24 29 24 (.h (.ibin .eql (.t 26) (.t 28))), i_X 25 30 (.h (.pick (.t 24) (.t 29) (.k (.d (.bool false))))), i_M 26 4 30] [4]) .ret))
theorem b0V : f7 Tryz.prog 60 = some ⟨31, [(4, none)], b29.strip⟩ := by kernel_rfl
abbrev tjS (l d : List Nat) (i : Nat) : Sl := [(3, .d (rowD l)), (4, .d (rowD d)), (12, .ptr 2 0 0 16), (13, .ptr 5 0 0 5), (14, .ptr 16 0 0 16), (15, .sl 300 0 0 i 1 i), (16, fI i)]
abbrev tjL (q n : Nat) (m g sl pos st : Int) (err : Nat) (C : List (List Nat)) : Heap := [(240, C.map rowV), (140, [hdo 240 0 (q + 1) n]),
 (16, [[fI (pos + st), fI st, fI q, fI m, .sl 140 0 0 (q + 1) 1 (q + 1), fI (g + 1), fI 0, fI sl, fI (pos + st), fI st, fI q, fI m, .d (g6 C), fB true, fl err, fI 0]]), (5, [[fI (pos + st), fI st, fI q, fI m, .d (g6 C)]]),
 (2, [[fI 0, fI 0, fI 0, fI 0, .nil, fI 0, fI 0, fI 0, fI 0, fI 0, fI 0, fI 0, .nil, fB false, fl 0, fI 0]])]
theorem b9X (p1 p0 : List V) (q : Nat) (m g sl pos st : Int) (err : Nat) (C : List (List Nat)) (l d : List Nat) (n : Nat) (gg : Nat -> Nat) (hl : l.length = q + 1) (hd : d.length = n) (hn : n < 2 ^ 40) (w2 : IntKind.i64.wrap ((q : Int) + 1) = (q : Int) + 1)
  (hz : Rk (q + 1) n C) (hgg : ∀ i, fop .div (fop .mul (l.getD q 0) (d.getD i 0)) (FloatKind.nearest .f64 ((q : Int) + 1)) = gg i) (Q : Ex -> T -> Prop)
  (hQ : ∀ w, Q (.exit 0) ⟨tjS l d n ++ [w], (300, [rowV (tabR gg n)]) :: tjL q n m g sl pos st err C⟩) :
  WA Tryz.prog (λ_ => False) 136 (.loop a0y) Q ⟨[(3, .d (rowD l)), (4, .d (rowD d)), (12, .ptr 2 0 0 16), (13, .ptr 5 0 0 5), (14, .ptr 16 0 0 16), (15, .nil), (16, fI 0)], tjL q n m g sl pos st err C ++ [(1, [p1]), (0, [p0])]⟩ := by
 have hk1 : ∀ L : Heap, L.fam 240 = some (C.map rowV) -> KpA L (hdo 240 0 (q + 1) n) := λL hL => L7 hL (by have := hz.1; omega)
 refine j5 (n := n) (λc s => ∃ i, c + i = n /\ s = ⟨tjS l d i, (300, [rowV (tabR gg i)]) :: tjL q n m g sl pos st err C⟩)
  (s0 := ⟨_, _⟩) (Le.trans (LeT.nilrow (X := 300) (esz := 1) (as' := tjS l d 0) (by simp [d6, d9]) (λh => h) λi => ?_)
   (LeT.only (L' := (300, [rowV (tabR gg 0)]) :: tjL q n m g sl pos st err C) (λX => X != 0 && X != 1) (λ_ h => h) rfl (by simp (maxDischargeDepth := 6) [kpS, d6, d9]) (by simp (maxDischargeDepth := 6) [kpS, d6, d9, hk1]))) ⟨0, by omega, rfl⟩ ?_
 ·simp only [look]
  repeat' split
  all_goals simp [rowD, hd]
 rintro c s ⟨i, hc3, rfl⟩
 have hgl := k8 gg i
 refine evx @a0y.eq_1 ?_
 refine b9 (λhi => ?_) (λhi => ?_)
 ·replace hi := d2b hi
  refine evx (And.intro w2 hgg) ?_
  repeat with_reducible refine andO ?_
  have e2 : rowV (tabR gg i) ++ [fl (gg i)] = rowV (tabR gg (i + 1)) := (J6 _ _).symm
  rw [f0 (by omega) (by omega), e2]
  exact ⟨c - 1, _, by omega, LeT.only (L' := (300, [rowV (tabR gg (i + 1))]) :: tjL q n m g sl pos st err C) (λX => X != 308) (λ_ h => h) rfl (by simp (maxDischargeDepth := 6) [kpS, d6, d9]) (by simp (maxDischargeDepth := 6) [kpS, d6, d9, hk1]), i + 1, by omega, rfl⟩
 ·replace hi := d2c hi
  have e : i = n := by omega
  subst e
  refine ev ?_
  exact hQ _
theorem b3H (p : Pb) (s : Sta) (z : List (List Nat)) (l d : List Nat) (err : Nat) (hp : Pok p) (hs : s.ok p.t) (hz : Rk (s.n.order.toNat + 1) p.t.n z) (hzc : Cw z) (hl : l.length = s.n.order.toNat + 1) (hd : d.length = p.t.n) :
  Con Tryz.prog 67 [pbV p, staV s, .d (g6 z), .d (rowD l), .d (rowD d), fl err] (trdV (a4G p s z l d err)) := by
 obtain ⟨hn, hg, hf, hsl⟩ := hs
 obtain ⟨hm, ⟨j, hj, hst⟩, hk, hc, hpos⟩ := hn
 obtain ⟨⟨pos, st, o, m, z0⟩, g, f, sl⟩ := s
 simp only at *
 have hsr := a5J j hj
 rw [<- hst] at hsr
 clear hst
 obtain ⟨q, rfl⟩ : ∃ q : Nat, o = q := ⟨o.toNat, by omega⟩
 rw [Int.toNat_natCast] at hk hz hl
 have hz' := a3R hz l d (q + 1) p.t.n
 have hzc' := a6b hzc l d (q + 1) p.t.n
 have hpn := hp.t.n
 have hq9 : q + 1 < 1000 := by omega
 have hn8 : p.t.n * 8 <= 140737488355328 := by omega
 have hq8 : (q + 1 + 1) * 24 <= 140737488355328 := by omega
 have hn40 : p.t.n < 2 ^ 40 := by omega
 have hq12 : q + 3 < 12 := by omega
 have hq10 : q + 3 < 1000 := by omega
 have hcor := b1y z (q + 1) p.t.n hz hq9 hn40 l d hl hd
 have hre0 := a5G (a44 z l d (q + 1) p.t.n) (q + 1) p.t.n hz' hq9 hn40 0 (by decide)
 rw [a6R hz' hzc'] at hre0
 have hre1 := a36 (a44 z l d (q + 1) p.t.n) (q + 1) p.t.n hz' hq9 hn40 1 (by decide)
 have w1 : IntKind.i64.wrap (g + 1) = g + 1 := f0 (by omega) (by omega)
 have w2 : IntKind.i64.wrap ((q : Int) + 1) = (q : Int) + 1 := f0 (by omega) (by omega)
 have w3 : IntKind.i64.wrap ((q : Int) + 3) = ((q + 3 : Nat) : Int) := by rw [f0 (by omega) (by omega)]; omega
 have w5 : IntKind.i64.wrap (2 * st) = 2 * st := f0 (by omega) (by omega)
 have w6 : IntKind.i64.wrap (pos + st) = pos + st := f0 (by omega) (by omega)
 have hless := b5C (q + 3) hq10
 rw [c8A _ hq12] at hless
 unfold a4G
 simp only [Int.toNat_natCast]
 generalize hC : a44 z l d (q + 1) p.t.n = C at hz' hzc' hcor hre0 hre1
 refine b7 a8Z rfl f5 ?_
 refine evx @b0Q.eq_1 ?_
 refine a0 (hcor) rfl ?_
 refine evx w6 ?_
 refine B0 40 [.d (g6 C), fI 0] (by simp [Heap.next]) hre0 ⟨.bare _, .bare _, trivial⟩ ?_
 refine evx (And.intro w1 w2) ?_
 by_cases c1 : g + 1 <= (q : Int) + 1
 ·rw [if_pos c1]
  have c1' : decide (g + 1 <= (q : Int) + 1) = true := decide_eq_true c1
  refine evx c1' ?_
  exact j6 (.agg [fI (pos + st), fI st, fI q, fI m, .sl 140 0 0 (q + 1) 1 (q + 1), fI (g + 1), fI 0, fI sl, fI (pos + st), fI st, fI q, fI m, .d (g6 C), fB true, fl err, fI 0]) (λ_ h => h) (g8 (by decide) rfl rfl rfl (by simp) rfl)
   (D5 _ _ ⟨Fz_d _, Fz_d _, Fz_d _, Fz_d _, b6A (X := 240) hz' rfl rfl rfl rfl, Fz_d _, Fz_d _, Fz_d _, Fz_d _, Fz_d _, Fz_d _, Fz_d _, Fz_d _, Fz_d _, Fz_d _, Fz_d _, trivial⟩)
 ·rw [if_neg c1]
  have c1' : decide (g + 1 <= (q : Int) + 1) = false := decide_eq_false c1
  refine evx (And.intro c1' w3) ?_
  refine a0 (hless) rfl ?_
  generalize c0D (q + 3) = lw
  refine ev ?_
  by_cases c2 : fcmp .le err lw = true /\ st <= p.fin
  ·rw [if_pos c2]
   have c3 : decide (st <= p.fin) = true := decide_eq_true c2.2
   refine evx (And.intro c2.1 (And.intro c3 w5)) ?_
   generalize J9 C 1 (q + 1) p.t.n = S at hre1
   refine a0 (hre1) rfl ?_
   refine ev ?_
   exact j6 (.agg [fI (pos + st), fI (2 * st), fI q, fI m, .d (g6 S), fI 0, fI 0, fI sl, fI (pos + st), fI st, fI q, fI m, .d (g6 C), fB true, fl err, fI 0]) (λ_ h => h) (g8 (by decide) rfl rfl rfl (by simp) rfl)
    (D5 _ _ ⟨Fz_d _, Fz_d _, Fz_d _, Fz_d _, Fz_d _, Fz_d _, Fz_d _, Fz_d _, Fz_d _, Fz_d _, Fz_d _, Fz_d _, Fz_d _, Fz_d _, Fz_d _, Fz_d _, trivial⟩)
  ·rw [if_neg c2]
   have c4 : (fcmp .le err lw = false) \/ (fcmp .le err lw = true /\ decide (st <= p.fin) = false) := by
    cases h1 : fcmp .le err lw with
    | false => exact .inl rfl
    | true => exact .inr ⟨rfl, decide_eq_false λh2 => c2 ⟨h1, h2⟩⟩
   have fin : ∀ (Lr : Heap), Lr.get 140 0 = some (hdo 240 0 (q + 1) p.t.n) -> Lr.fam 240 = some (C.map rowV) -> LeV Lr [] (λX r => (X, r)) (.agg [fI (pos + st), fI st, fI q, fI m, .sl 140 0 0 (q + 1) 1 (q + 1), fI (g + 1), fI 0, fI sl, fI (pos + st), fI st, fI q, fI m, .d (g6 C), fB true, fl err, fI 0])
     (trdV ⟨⟨⟨pos + st, st, q, m, C⟩, g + 1, 0, sl⟩, ⟨pos + st, st, q, m, C⟩, true, err, 0⟩) := λLr e1 e2 =>
    D5 _ _ ⟨Fz_d _, Fz_d _, Fz_d _, Fz_d _, b6A (X := 240) hz' e1 e2 rfl rfl, Fz_d _, Fz_d _, Fz_d _, Fz_d _, Fz_d _, Fz_d _, Fz_d _, Fz_d _, Fz_d _, Fz_d _, Fz_d _, trivial⟩
   rcases c4 with c4 | ⟨c4, c5⟩
   case' inl => simp -implicitDefEqProofs only [evI, hv, effC, reduceCtorEq, ↓reduceIte, n1_, n2_, n3_, n4_, n5_, i1_, i2_, i3_, i4_, i5_, i6_, i7_, c4]
   case' inr => simp -implicitDefEqProofs only [evI, hv, effC, reduceCtorEq, ↓reduceIte, n1_, n2_, n3_, n4_, n5_, i1_, i2_, i3_, i4_, i5_, i6_, i7_, c4, c5]
   all_goals
    cases c8 : fcmp .le err 4598175219545276416 with
    | false =>
     rw [if_neg (by simp)]
     refine ev ?_
     exact j6 (.agg [fI (pos + st), fI st, fI q, fI m, .sl 140 0 0 (q + 1) 1 (q + 1), fI (g + 1), fI 0, fI sl, fI (pos + st), fI st, fI q, fI m, .d (g6 C), fB true, fl err, fI 0]) (λ_ h => h) (g8 (by decide) rfl rfl rfl (by simp) rfl) (fin _ rfl rfl)
    | true =>
     refine ev ?_
     refine d5 (b5B m) rfl ?_
     refine ev ?_
     by_cases c9 : (q : Int) < a9X m
     ·have c9' : decide ((q : Int) < a9X m) = true := decide_eq_true c9
      rw [if_pos c9]
      refine evx c9' ?_
      obtain ⟨gg, hgg⟩ : ∃ gg, gg = (λi => fop .div (fop .mul (l.getD q 0) (d.getD i 0)) (FloatKind.nearest .f64 ((q : Int) + 1))) := ⟨_, rfl⟩
      have hgg' : ∀ i, fop .div (fop .mul (l.getD q 0) (d.getD i 0)) (FloatKind.nearest .f64 ((q : Int) + 1)) = gg i := λi => by rw [hgg]
      have hnr : c0u l d q = tabR gg p.t.n := by unfold c0u; rw [hd, hgg]
      rw [hnr]
      refine b9X _ (pbC p) q m g sl pos st err C l d p.t.n gg hl hd hn40 w2 hz' hgg' _ λw => ?_
      have hgl := k8 gg p.t.n
      generalize tabR gg p.t.n = G at hgl
      have hgl' : p.t.n <= G.length := Nat.le_of_eq hgl.symm
      refine evx w2 ?_
      refine ⟨hq8, ?_⟩
      exact j6 (.agg [fI (pos + st), fI st, fI (q + 1), fI m, .sl 140 0 0 (q + 1 + 1) 1 (q + 1 + 1), fI 0, fI 0, fI sl, fI (pos + st), fI st, fI q, fI m, .d (g6 C), fB true, fl err, fI 0]) (λ_ h => h) (g8 (by decide) rfl rfl rfl (by simp) rfl)
       (D5 _ _ ⟨Fz_d _, Fz_d _, Fz_d _, Fz_d _, b6z (X := 240) (R := 300) hz' rfl rfl rfl hgl rfl rfl rfl, Fz_d _, Fz_d _, Fz_d _, Fz_d _, Fz_d _, Fz_d _, Fz_d _, Fz_d _, Fz_d _, Fz_d _, Fz_d _, trivial⟩)
     ·have c9' : decide ((q : Int) < a9X m) = false := decide_eq_false c9
      rw [if_neg c9]
      refine evx c9' ?_
      exact j6 (.agg [fI (pos + st), fI st, fI q, fI m, .sl 140 0 0 (q + 1) 1 (q + 1), fI (g + 1), fI 0, fI sl, fI (pos + st), fI st, fI q, fI m, .d (g6 C), fB true, fl err, fI 0]) (λ_ h => h) (g8 (by decide) rfl rfl rfl (by simp) rfl) (fin _ rfl rfl)
theorem C6 (Lr : Heap) (s : Sta) (err : Nat) (e : Int) : LeV Lr [] (λX r => (X, r)) (.agg [fI s.n.pos, fI s.n.step, fI s.n.order, fI s.n.method, .d (g6 s.n.z), fI s.good, fI s.fails, fI s.slow, fI 0, fI 0, fI 0, fI 0, .nil, fB false, fl err, fI e])
  (trdV ⟨s, ⟨0, 0, 0, 0, []⟩, false, err, e⟩) :=
 D5 _ _ ⟨Fz_d _, Fz_d _, Fz_d _, Fz_d _, Fz_d _, Fz_d _, Fz_d _, Fz_d _, Fz_d _, Fz_d _, Fz_d _, Fz_d _, .d (.nil _), Fz_d _, Fz_d _, Fz_d _, trivial⟩
theorem b1z (p : Pb) (s : Sta) (e : Int) (err : Nat) (hp : Pok p) (hs : s.ok p.t) : Con Tryz.prog 65 [pbV p, staV s, fI e, fl err] (trdV (a66 p s e err)) := by
 obtain ⟨hn, hg, hf, hsl⟩ := hs
 have hn' := hn
 obtain ⟨hm, ⟨j, hj, hst⟩, hk, hc, hpos⟩ := hn
 obtain ⟨⟨pos, st, o, m, z⟩, g, f, sl⟩ := s
 simp only at *
 have hsr := a5J j hj
 rw [<- hst] at hsr
 obtain ⟨q, rfl⟩ : ∃ q : Nat, o = q := ⟨o.toNat, by omega⟩
 rw [Int.toNat_natCast] at hk
 have hpn := hp.t.n
 have hq9 : q + 1 < 1000 := by omega
 have hn40 : p.t.n < 2 ^ 40 := by omega
 have hre := a36 z (q + 1) p.t.n hk hq9 hn40 (-1) (by decide)
 have w1 : IntKind.i64.wrap (f + 1) = f + 1 := f0 (by omega) (by omega)
 have w2 : IntKind.i64.wrap (sl + 1) = sl + 1 := f0 (by omega) (by omega)
 have w5 : IntKind.i64.wrap (st.tdiv 2) = st / 2 := by rw [Int.tdiv_eq_ediv_of_nonneg (by omega)]; exact f0 (by omega) (by omega)
 unfold a66
 simp only [Int.toNat_natCast]
 refine b7 a7m rfl f5 ?_
 refine evx @a8b.eq_1 ?_
 by_cases c1 : st <= p.least
 ·rw [if_pos c1]
  have c1' : decide (st <= p.least) = true := decide_eq_true c1
  refine evx c1' ?_
  by_cases e4 : e = 4
  ·subst e4
   refine evb ?_
   exact j6 _ (λ_ h => h) (g8 (by decide) rfl rfl rfl (by simp) rfl) (C6 _ ⟨⟨pos, st, q, m, z⟩, g, f, sl⟩ err 4)
  ·have e4' : (e == 4) = false := by simpa using e4
   by_cases e2 : e = 2
   ·subst e2
    refine evb ?_
    exact j6 _ (λ_ h => h) (g8 (by decide) rfl rfl rfl (by simp) rfl) (C6 _ ⟨⟨pos, st, q, m, z⟩, g, f, sl⟩ err 2)
   ·have e2' : (e == 2) = false := by simpa using e2
    rw [if_neg (by simp [e4, e2])]
    refine evx (And.intro e4' e2') ?_
    exact j6 _ (λ_ h => h) (g8 (by decide) rfl rfl rfl (by simp) rfl) (C6 _ ⟨⟨pos, st, q, m, z⟩, g, f, sl⟩ err 5)
 ·rw [if_neg c1]
  have c1' : decide (st <= p.least) = false := decide_eq_false c1
  obtain ⟨S, hS⟩ : ∃ S, S = J9 z (-1) (q + 1) p.t.n := ⟨_, rfl⟩
  have hhalf : ∃ j' : Nat, j' < 60 /\ st / 2 = (2 ^ j' : Nat) := by
   have hl := hp.least
   obtain ⟨i, rfl⟩ : ∃ i, j = i + 1 := ⟨j - 1, by
    rcases j with _ | j
    ·simp at hst; omega
    ·omega⟩
   refine ⟨i, by omega, ?_⟩
   rw [hst, Nat.pow_succ]; omega
  have hrkS := J8 hk (-1) (q + 1) p.t.n
  rw [<- hS] at hre hrkS ⊢
  refine evx (And.intro c1' (And.intro w1 w2)) ?_
  have c2 : (e = 6 /\ m = 0) \/ e ≠ 6 \/ (e = 6 /\ m ≠ 0) := by omega
  obtain ⟨sl', hsl'⟩ : ∃ sl', sl' = if e = 6 /\ m = 0 then sl + 1 else sl := ⟨_, rfl⟩
  have hslr : 0 <= sl' /\ sl' < 2000000000 := by rw [hsl']; split <;> omega
  rw [<- hsl']
  have d2 : ¬ (2 : Int) = 0 := by decide
  rcases c2 with c2 | c2 | c2
  case' inl =>
   rw [if_pos c2] at hsl'
   have m0 : (m == 0) = true := by rw [c2.2]; rfl
   have e6 : (e == 6) = true := by rw [c2.1]; rfl
   refine evx (And.intro e6 (And.intro m0 (And.intro w2 w5))) ?_
   refine ⟨d2, ?_⟩
   refine a0 (hre) rfl ?_
   rw [<- hsl']
   refine ev ?_
  case' inr.inl =>
   rw [if_neg (λh => c2 h.1)] at hsl'
   have e6 : (e == 6) = false := by simpa using c2
   refine evx (And.intro e6 (And.intro w2 w5)) ?_
   refine ⟨d2, ?_⟩
   refine a0 (hre) rfl ?_
   rw [<- hsl']
   refine ev ?_
  case' inr.inr =>
   rw [if_neg (λh => c2.2 h.2)] at hsl'
   have m0 : (m == 0) = false := by simpa using c2.2
   have e6 : (e == 6) = true := by rw [c2.1]; rfl
   refine evx (And.intro e6 (And.intro m0 (And.intro w2 w5))) ?_
   refine ⟨d2, ?_⟩
   refine a0 (hre) rfl ?_
   rw [<- hsl']
   refine ev ?_
  all_goals
   by_cases c3 : 2 <= sl'
   ·have c3' : decide (2 <= sl') = true := decide_eq_true c3
    rw [if_pos c3]
    refine evx c3' ?_
    refine a0 (a7Q p ⟨⟨pos, st / 2, q, 1, S⟩, 0, f + 1, 0⟩ hp hhalf hrkS) rfl ?_
    refine ev ?_
    exact j6 _ (λ_ h => h) (g8 (by decide) rfl rfl rfl (by simp) rfl) (C6 _ ⟨a53 p ⟨pos, st / 2, q, 1, S⟩, 0, 0, 0⟩ err 0)
   ·have c3' : decide (2 <= sl') = false := decide_eq_false c3
    rw [if_neg c3]
    refine evx c3' ?_
    by_cases c4 : f + 1 < 3
    ·have c4' : decide (3 <= f + 1) = false := decide_eq_false (by omega)
     rw [if_pos c4]
     refine evx c4' ?_
     exact j6 _ (λ_ h => h) (g8 (by decide) rfl rfl rfl (by simp) rfl) (C6 _ ⟨⟨pos, st / 2, q, m, S⟩, 0, f + 1, sl'⟩ err 0)
    ·have c4' : decide (3 <= f + 1) = true := decide_eq_true (by omega)
     rw [if_neg c4]
     refine evx c4' ?_
     refine a0 (a7Q p ⟨⟨pos, st / 2, q, m, S⟩, 0, f + 1, sl'⟩ hp hhalf hrkS) rfl ?_
     refine ev ?_
     exact j6 _ (λ_ h => h) (g8 (by decide) rfl rfl rfl (by simp) rfl) (C6 _ ⟨a53 p ⟨pos, st / 2, q, m, S⟩, 0, 0, sl'⟩ err 0)
def a1L : CA := (.seq .skip (.seq (.reg [i_A 0 92 3 8, i_P 1 93 6 0, i_S 2 93 92 8] [2, 3, 4, 5, 6, 11]) (.seq (.reg [i_P 0 94 5 4, i_L 1 95 94 1, i_X 2 96 (.callA (kF 142) [(.t 95)]), i_P 3 97 6 0, i_P 4 98 97 0, i_P 5 99 98 4, i_S 6 99 96 1] [2, 3, 4, 5, 6, 11]) (.seq (.seq (.reg [i_P 0 100 5 1, i_L 1 101 100 1, i_P 2 102 2 7, i_L 3 103 102 1, i_N 4 104 .leq 101 103] [2, 3, 4, 5, 6, 11, 104]) (.cond (.t 104) (.seq (.reg [i_P 0 105 6 15, ⟨1, none, none, [], [], (.store (.t 105) (kI 5) 1)⟩] [4, 6, 11]) (.seq (.seq (.reg [i_P 0 106 11 2, i_L 1 107 106 1, i_B 2 108 .eql 107 4, i_M 3 109 108, g_F 4 110 109 (.h (.padd (.t 11) 2)), g_F 5 111 109 (.load (.t 110) 1 false), g_F 6 112 109 (.h (.ibin .eql (.t 111) (kI 2))), i_X 7 113 (.h (.pick (.t 109) (.k (.d (.bool true))) (.t 112)))] [4, 6, 11, 113]) (.cond (.t 113) (.reg [i_P 0 114 11 2, i_L 1 115 114 1, i_P 2 116 6 15, i_S 3 116 115 1] [4, 6]) .skip)) (.seq (.reg [i_A 0 117 6 16, i_S 1 4 117 16] [4]) .ret))) .skip)) (.seq (.reg [i_P 0 118 3 6, i_L 1 119 118 1, i_B 2 120 .add 119 1, i_P 3 121 6 0, i_P 4 122 121 6, i_S 5 122 120 1, i_P 6 123 6 0, i_P 7 124 123 5, ⟨8, none, none, [], [], (.store (.t 124) (kI 0) 1)⟩] [2, 4, 5, 6, 11]) (.seq (.seq (.reg [i_P 0 125 11 2, i_L 1 126 125 1, i_B 2 127 .eql 126 6, i_M 3 128 127, g_T 4 129 128 (.h (.padd (.t 5) 3)), g_T 5 130 128 (.load (.t 129) 1 false), g_T 6 131 128 (.h (.ibin .eql (.t 130) (kI 0))), i_X 7 132 (.h (.pick (.t 128) (.t 131) (.k (.d (.bool false)))))] [2, 4, 5, 6, 132]) (.cond (.t 132) (.reg [i_P 0 133 6 0, i_P 1 134 133 7, i_L 2 135 134 1, i_B 3 136 .add 135 1, i_P 4 137 6 0, i_P 5 138 137 7, i_S 6 138 136 1] [2, 4, 5, 6]) .skip)) (.seq (.reg [i_P 0 139 5 1, i_L 1 140 139 1, i_B 2 141 .quo 140 2, i_P 3 142 5 4, i_L 4 143 142 1, i_X 5 144 (.callS 5 (kF 92) [(.t 143), (.k (.d (.int .i64 (-1))))]), i_P 6 145 6 0, i_P 7 146 145 0, i_P 8 147 146 1, i_S 9 147 141 1, i_P 10 148 6 0, i_P 11 149 148 0, i_P 12 150 149 4, i_S 13 150 144 1] [2, 4, 6]) (.seq (.block 0 (.seq (.reg [i_P 0 152 6 0, i_P 1 153 152 7, i_L 2 154 153 1, i_B 3 155 .geq 154 2, i_M 4 151 155] [2, 4, 6, 151]) (.cond (.t 151) (.reg [i_P 0 156 6 0, i_P 1 157 156 0, i_P 2 158 157 3, ⟨3, none, none, [], [], (.store (.t 158) (kI 1) 1)⟩, i_P 4 159 6 0, i_P 5 160 159 7, ⟨6, none, none, [], [], (.store (.t 160) (kI 0) 1)⟩] [2, 4, 6]) (.seq (.reg [i_P 0 162 6 0, i_P 1 163 162 6, i_L 2 164 163 1, i_B 3 165 .lss 164 3, i_M 4 161 165] [2, 4, 6, 161]) (.cond (.t 161) (.seq (.reg [i_A 0 166 6 16, i_S 1 4 166 16] [4]) .ret) .skip))))) (.seq (.reg [i_A 0 167 2 13, i_P 1 168 6 0, i_P 2 169 168 0, i_A 3 170 169 5, i_X 4 171 (.callA (kF 143) [(.t 167), (.t 170)]), i_P 5 172 6 0, i_P 6 173 172 0, i_S 7 173 171 5, i_P 8 174 6 0, i_P 9 175 174 6, ⟨10, none, none, [], [], (.store (.t 175) (kI 0) 1)⟩] [4, 6]) (.seq (.reg [i_A 0 176 6 16, i_S 1 4 176 16] [4]) .ret))))))))))
def b2Y : CA := (.seq (.reg [i_X 0 2 (.box (.t 0) 13 33), i_X 1 3 (.box (.t 1) 8 49), i_X 2 4 (.alloc [fI 0, fI 0, fI 0, fI 0, .nil, fI 0, fI 0, fI 0, fI 0, fI 0, fI 0, fI 0, .nil, (.d (.bool false)), fl 0, fI 0] 141)] [2, 3, 4]) (.scope 1000000 (.seq (.reg [i_P 0 12 3 0, i_A 1 13 12 5, i_X 2 5 (.alloc [fI 0, fI 0, fI 0, fI 0, .nil] 40), i_S 3 5 13 5] [2, 3, 4, 5]) (.seq (.reg [i_X 0 6 (.alloc [fI 0, fI 0, fI 0, fI 0, .nil, fI 0, fI 0, fI 0, fI 0, fI 0, fI 0, fI 0, .nil, (.d (.bool false)), fl 0, fI 0] 141)] [2, 3, 4, 5, 6]) (.seq (.reg [i_P 0 14 5 4, i_L 1 15 14 1, i_X 2 16 (.callA (kF 135) [(.t 15)]), i_M 3 7 16] [2, 3, 4, 5, 6, 7]) (.seq (.reg [i_P 0 18 5 3, i_L 1 19 18 1, i_P 2 20 5 2, i_L 3 21 20 1, i_X 4 22 (.callA (kF 136) [(.t 19), (.t 21)]), i_M 5 17 22, i_X 6 23 (.h (.ext (.t 17) 0)), i_X 7 24 (.h (.ext (.t 17) 1)), i_M 8 8 23, i_M 9 9 24] [2, 3, 4, 5, 6, 7, 8]) (.seq (.reg [i_P 0 25 5 4, i_L 1 26 25 1, i_X 2 27 (.h (.idx (.t 26) (kI 0) 1)), i_L 3 28 27 1, i_P 4 29 2 8, i_L 5 30 29 1, i_P 6 31 2 9, i_L 7 32 31 1, i_X 8 33 (.callA (kF 137) [(.t 28), (.t 30), (.t 32)]), i_M 9 10 33] [2, 3, 4, 5, 6, 7, 8, 10]) (.seq (.reg [i_P 0 34 2 0, i_A 1 35 34 3, i_M 2 36 7, i_M 3 37 8, i_P 4 38 5 1, i_L 5 39 38 1, i_P 6 40 5 3, i_L 7 41 40 1, i_M 8 42 10, i_X 9 43 (.callA (kF 138) [(.t 35), (.t 36), (.t 37), (.t 39), (.t 41), (.t 42)]), i_X 10 11 (.alloc [.nil, fI 0, fI 0] 184), i_S 11 11 43 3] [2, 3, 4, 5, 6, 7, 8, 10, 11]) (.seq (.seq (.reg [i_P 0 44 11 2, i_L 1 45 44 1, i_B 2 46 .neq 45 0] [2, 3, 4, 5, 6, 7, 8, 10, 11, 46]) (.cond (.t 46) (.exit 1000000) .skip)) (.seq (.reg [i_P 0 47 11 0, i_L 1 48 47 1, i_M 2 49 10, i_X 3 50 (.callS 0 (kF 139) [(.t 48), (.t 49)]), i_P 4 51 5 2, i_L 5 52 51 1, i_B 6 53 .add 52 1, i_X 7 54 (.h (.i2f (.t 53))), i_F 8 55 .div 50 54, i_P 9 56 6 14, i_S 10 56 55 1] [2, 3, 4, 5, 6, 7, 8, 11]) (.seq (.seq (.reg [i_P 0 57 6 14, i_L 1 58 57 1, i_X 2 59 (.h (.fcmp .le (.t 58) (.k (.d (.flt 4607182418800017408))))), i_X 3 60 (.h (.un .not (.t 59)))] [2, 3, 4, 5, 6, 7, 8, 11, 60]) (.cond (.t 60) (.exit 1000000) .skip)) (.seq (.reg [i_P 0 61 6 13, ⟨1, none, none, [], [], (.store (.t 61) (.k (.d (.bool true))) 1)⟩] [2, 3, 4, 5, 6, 7, 8, 11]) (.seq (.reg [i_P 0 62 5 0, i_L 1 63 62 1, i_P 2 64 5 1, i_L 3 65 64 1, i_N 4 66 .add 63 65, i_P 5 67 5 1, i_L 6 68 67 1, i_P 7 69 5 2, i_L 8 70 69 1, i_P 9 71 5 3, i_L 10 72 71 1, i_M 11 73 7, i_M 12 74 8, i_P 13 75 11 0, i_L 14 76 75 1, i_X 15 77 (.callS 15 (kF 140) [(.t 73), (.t 74), (.t 76)]), i_X 16 78 (.h (.build [fI 0, fI 0, fI 0, fI 0, .nil] [(0, (1, (.t 66))), (1, (1, (.t 68))), (2, (1, (.t 70))), (3, (1, (.t 72))), (4, (1, (.t 77)))])), i_P 17 79 6 8, i_S 18 79 78 5] [2, 3, 4, 6, 8, 11]) (.seq (.reg [i_A 0 80 2 13, i_A 1 81 3 8, i_P 2 82 6 8, i_A 3 83 82 5, i_M 4 84 8, i_P 5 85 11 0, i_L 6 86 85 1, i_P 7 87 6 14, i_L 8 88 87 1, i_X 9 89 (.callA (kF 141) [(.t 80), (.t 81), (.t 83), (.t 84), (.t 86), (.t 88)]), i_P 10 90 6 0, i_S 11 90 89 8] [4, 6]) (.seq (.seq (.reg [i_A 0 91 6 16, i_S 1 4 91 16] [4]) .ret) (.seq (.lab 0) (.seq (.reg [i_A 0 92 3 8, i_P 1 93 6 0, i_S 2 93 92 8] [2, 3, 4, 5, 6, 11]) (.seq (.reg [i_P 0 94 5 4, i_L 1 95 94 1, i_X 2 96 (.callA (kF 142) [(.t 95)]), i_P 3 97 6 0, i_P 4 98 97 0, i_P 5 99 98 4, i_S 6 99 96 1] [2, 3, 4, 5, 6, 11]) (.seq (.seq (.reg [i_P 0 100 5 1, i_L 1 101 100 1, i_P 2 102 2 7, i_L 3 103 102 1, i_N 4 104 .leq 101 103] [2, 3, 4, 5, 6, 11, 104]) (.cond (.t 104) (.seq (.reg [i_P 0 105 6 15, ⟨1, none, none, [], [], (.store (.t 105) (kI 5) 1)⟩] [4, 6, 11]) (.seq (.seq (.reg [i_P 0 106 11 2, i_L 1 107 106 1, i_B 2 108 .eql 107 4, i_M 3 109 108, g_F 4 110 109 (.h (.padd (.t 11) 2)), g_F 5 111 109 (.load (.t 110) 1 false), g_F 6 112 109 (.h (.ibin .eql (.t 111) (kI 2))), i_X 7 113 (.h (.pick (.t 109) (.k (.d (.bool true))) (.t 112)))] [4, 6, 11, 113]) (.cond (.t 113) (.reg [i_P 0 114 11 2, i_L 1 115 114 1, i_P 2 116 6 15, i_S 3 116 115 1] [4, 6]) .skip)) (.seq (.reg [i_A 0 117 6 16, i_S 1 4 117 16] [4]) .ret))) .skip)) (.seq (.reg [i_P 0 118 3 6, i_L 1 119 118 1, i_B 2 120 .add 119 1, i_P 3 121 6 0, i_P 4 122 121 6, i_S 5 122 120 1, i_P 6 123 6 0, i_P 7 124 123 5, ⟨8, none, none, [], [], (.store (.t 124) (kI 0) 1)⟩] [2, 4, 5, 6, 11]) (.seq (.seq (.reg [i_P 0 125 11 2, i_L 1 126 125 1, i_B 2 127 .eql 126 6, i_M 3 128 127, g_T 4 129 128 (.h (.padd (.t 5) 3)), g_T 5 130 128 (.load (.t 129) 1 false), g_T 6 131 128 (.h (.ibin .eql (.t 130) (kI 0))), i_X 7 132 (.h (.pick (.t 128) (.t 131) (.k (.d (.bool false)))))] [2, 4, 5, 6, 132]) (.cond (.t 132) (.reg [i_P 0 133 6 0, i_P 1 134 133 7, i_L 2 135 134 1, i_B 3 136 .add 135 1, i_P 4 137 6 0, i_P 5 138 137 7, i_S 6 138 136 1] [2, 4, 5, 6]) .skip)) (.seq (.reg [i_P 0 139 5 1, i_L 1 140 139 1, i_B 2 141 .quo 140 2, i_P 3 142 5 4, i_L 4 143 142 1, i_X 5 144 (.callS 5 (kF 92) [(.t 143), (.k (.d (.int .i64 (-1))))]), i_P 6 145 6 0, i_P 7 146 145 0, i_P 8 147 146 1, i_S 9 147 141 1, i_P 10 148 6 0, i_P 11 149 148 0, i_P 12 150 149 4, i_S 13 150 144 1] [2, 4, 6]) (.seq (.block 0 (.seq (.reg [i_P 0 152 6 0, i_P 1 153 152 7, i_L 2 154 153 1, i_B 3 155 .geq 154 2, i_M 4 151 155] [2, 4, 6, 151]) (.cond (.t 151) (.reg [i_P 0 156 6 0, i_P 1 157 156 0, i_P 2 158 157 3, ⟨3, none, none, [], [], (.store (.t 158) (kI 1) 1)⟩, i_P 4 159 6 0, i_P 5 160 159 7, ⟨6, none, none, [], [], (.store (.t 160) (kI 0) 1)⟩] [2, 4, 6]) (.seq (.reg [i_P 0 162 6 0, i_P 1 163 162 6, i_L 2 164 163 1, i_B 3 165 .lss 164 3, i_M 4 161 165] [2, 4, 6, 161]) (.cond (.t 161) (.seq (.reg [i_A 0 166 6 16, i_S 1 4 166 16] [4]) .ret) .skip))))) (.seq (.reg [i_A 0 167 2 13, i_P 1 168 6 0, i_P 2 169 168 0, i_A 3 170 169 5, i_X 4 171 (.callA (kF 143) [(.t 167), (.t 170)]), i_P 5 172 6 0, i_P 6 173 172 0, i_S 7 173 171 5, i_P 8 174 6 0, i_P 9 175 174 6, ⟨10, none, none, [], [], (.store (.t 175) (kI 0) 1)⟩] [4, 6]) (.seq (.reg [i_A 0 176 6 16, i_S 1 4 176 16] [4]) .ret))))))))))))))))))))))) a1L))
theorem b0F : f7 Tryz.prog 93 = some ⟨177, [(4, (some (16, true)))], b2Y.strip⟩ := by kernel_rfl
theorem d0j (Lr : Heap) (n k : Nat) (g : List Nat) (e : Int) (h : Lr.get 0 0 = some (rowV g)) (hg : g.length = n) : LeV Lr [] (λX r => (X, r)) (.agg [.sl 0 0 0 n 1 n, fI k, fI e]) (sumV (g, k, e)) :=
 D5 _ _ ⟨b0C h hg rfl (g5 _ _), Fz_d _, Fz_d _, trivial⟩
theorem c8B (Lr : Heap) (k : Nat) (e : Int) : LeV Lr [] (λX r => (X, r)) (.agg [.nil, fI k, fI e]) (sumV ([], k, e)) :=
 D5 _ _ ⟨.d (.nil _), Fz_d _, Fz_d _, trivial⟩
theorem b1P (t : Tp) (z : List (List Nat)) (l : List Nat) (h : Nat) (w : List Nat) (step : Int) (m : Int) (hn0 : 0 < t.n) (ok : Sok t z l w (List.replicate t.n 0)) (hs : Con Tryz.prog 96 [fl (FloatKind.nearest .f64 step), fI (-30)] (fl h)) :
  Con Tryz.prog 138 [R7 t, .d (g6 z), .d (rowD l), fI step, fI m, .d (rowD w)] (sumV (solG t z l h w m)) := by
 rcases a9C t z l h w m with ⟨g, k, hg, he⟩ | ⟨k, e, hne, he⟩
 ·rw [he]; exact a00 (b1Q t z l h w step m hn0 ok hs g k he) (d0j _ _ _ _ _ rfl hg)
 ·rw [he]; exact a00 (b1R t z l h w step m hn0 ok hs k e hne he) (c8B _ _ _)
end Go.Ab
