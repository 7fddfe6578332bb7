import Derived.Test.YtponkmbigjmmoaaGreatGN
set_option linter.unusedSimpArgs false
set_option linter.unusedVariables false
set_option maxRecDepth 8000
namespace Go.Ab
open Go Go.Proofs
abbrev AdT := List Int × List Int × Int × Int
def b0y (p : List Int) (k : Nat) (s : AdT) : Option AdT :=
 (lowF 64 (p.getD k 0) (w64 (p.getD 0 0 * ((k + 1 : Nat) : Int)))).bind λab =>
  (lowF 64 (w64 (w64 (s.2.2.1 * ab.2) + w64 (w64 ((if (k + 1) % 2 = 1 then -1 else 1) * ab.1) * s.2.2.2))) (w64 (s.2.2.2 * ab.2))).map λnd => (s.1 ++ [ab.1], s.2.1 ++ [ab.2], nd.1, nd.2)
def adS (p : List Int) : Nat -> Option AdT
 | 0 => some ([0], [1], 0, 1)
 | k + 1 => (adS p k).bind (b0y p k)
theorem b9y (p : List Int) (k : Nat) : ∀ d s, adS p (k + d) = some s -> ∃ s', adS p k = some s'
 | 0, s, h => ⟨s, h⟩
 | d + 1, s, h => by
  obtain ⟨s1, h1, _⟩ := Option.bind_eq_some_iff.1 (show (adS p (k + d)).bind (b0y p (k + d)) = some s from h)
  exact b9y p k d s1 h1
theorem c4C (p : List Int) (k : Nat) : ∀ s, adS p k = some s -> s.1.length = k + 1 /\ s.2.1.length = k + 1 := by
 induction k with
 | zero => intro s h; simp only [adS, Option.some.injEq] at h; subst h; exact ⟨rfl, rfl⟩
 | succ k ih =>
  intro s h
  obtain ⟨s1, h1, h2⟩ := Option.bind_eq_some_iff.1 (show (adS p k).bind (b0y p k) = some s from h)
  obtain ⟨a, b⟩ := ih s1 h1
  simp only [b0y, Option.bind_eq_some_iff, Option.map_eq_some_iff] at h2
  obtain ⟨ab, _, nd, _, rfl⟩ := h2
  exact ⟨by simp [a], by simp [b]⟩
theorem c9K (n : Nat) : ((n : Nat) : Int).tmod 2 = ((n % 2 : Nat) : Int) := rfl
theorem b5x (z : Int) (o : Nat) (hz : z = (o + 1 : Nat)) (ho : o < 2 ^ 20) (N E : List Int) (n d x y : Int) (h : adS (G9 o) (o + 1) = some (N, E, n, d)) (hl : lowF 64 (w64 (0 - n)) d = some (x, y)) :
  Con Tryz.prog 160 [fI z] (.agg [.d (rowI (N.set 0 x)), .d (rowI (E.set 0 y))]) := by
 subst hz
 refine b7 b0J rfl f5 ?_
 refine evx @b20.eq_1 ?_
 have w1 : IntKind.i64.wrap (((o + 1 : Nat) : Int) - 1) = (o : Int) := by rw [f0 (by omega) (by omega)]; omega
 refine evx w1 ?_
 refine a0 (a37 (o : Int) o rfl (by omega)) rfl ?_
 have hp := W2 o
 generalize G9 o = p at hp h
 refine ev ?_
 refine j5 (n := o + 1) (λc s => ∃ k N' E' n' d', c + k = o + 1 /\ adS p k = some (N', E', n', d') /\ s = ⟨[(0, fI (o + 1 : Nat)), (2, .ptr 0 0 0 2), (3, .d (rowI p)), (4, .ptr 1 0 0 2), (5, fI n'), (6, fI d'), (7, fI (k + 1 : Nat))],
   [(9, [k7 E']), (5, [k7 N']), (1, [[.sl 5 0 0 (k + 1) 1 (k + 1), .sl 9 0 0 (k + 1) 1 (k + 1)]]), (0, [[.nil, .nil]])]⟩) (s0 := ⟨_, _⟩) (LeT.only (λX => X != 8 && X != 4) (λ_ h => h) rfl (by simp [kpS]) (by simp [kpS])) ⟨0, _, _, _, _, by omega, rfl, rfl⟩ ?_
 rintro c s ⟨k, N', E', n', d', hc, hs, rfl⟩
 obtain ⟨l1, l2⟩ := c4C p k _ hs
 simp only at l1 l2
 refine evx @a6x.eq_1 ?_
 refine b9 (λhk => ?_) (λhk => ?_)
 ·replace hk := d2b hk
  obtain ⟨⟨N2, E2, n2, d2⟩, hs2⟩ := b9y p (k + 1) (o - k) _ (by rw [show k + 1 + (o - k) = o + 1 by omega]; exact h)
  have hst : b0y p k (N', E', n', d') = some (N2, E2, n2, d2) := by
   have : (adS p k).bind (b0y p k) = some (N2, E2, n2, d2) := hs2
   rw [hs] at this; exact this
  simp only [b0y, Option.bind_eq_some_iff, Option.map_eq_some_iff] at hst
  obtain ⟨⟨a, b⟩, hab, ⟨n3, d3⟩, hnd, e⟩ := hst
  simp only [Prod.mk.injEq] at e
  obtain ⟨rfl, rfl, rfl, rfl⟩ := e
  have w2 : IntKind.i64.wrap (((k + 1 : Nat) : Int) - 1) = (k : Int) := by rw [f0 (by omega) (by omega)]; omega
  refine evx w2 ?_
  repeat with_reducible refine andO ?_
  refine a0 (V6 (p.getD k 0) (w64 (p.getD 0 0 * ((k + 1 : Nat) : Int))) a b 64 hab) rfl ?_
  refine ev ?_
  repeat with_reducible refine andO ?_
  simp only [] at hnd
  have e1 : k7 N' ++ [fI a] = k7 (N' ++ [a]) := by simp [k7]
  have e2 : k7 E' ++ [fI b] = k7 (E' ++ [b]) := by simp [k7]
  by_cases h2 : (k + 1) % 2 = 1
  ·have h' : (((k + 1 : Nat) : Int).tmod 2 == 1) = true := by rw [c9K]; simp; omega
   rw [if_pos h2] at hnd
   refine evx h' ?_
   refine a0 (V6 (w64 (w64 (n' * b) + w64 (w64 (-1 * a) * d'))) (w64 (d' * b)) n3 d3 64 hnd) rfl ?_
   refine ev ?_
   rw [f0 (by omega) (by omega)]
   rw [e1, e2]
   exact ⟨c - 1, _, by omega, LeT.only (λX => decide (X <= 5) || X == 9) (λ_ h => h) rfl (by simp [kpS]) (by simp [kpS]), k + 1, _, _, _, _, by omega, hs2, rfl⟩
  ·have h' : (((k + 1 : Nat) : Int).tmod 2 == 1) = false := by rw [c9K]; simp; omega
   rw [if_neg h2] at hnd
   refine evx h' ?_
   refine a0 (V6 (w64 (w64 (n' * b) + w64 (w64 (1 * a) * d'))) (w64 (d' * b)) n3 d3 64 hnd) rfl ?_
   refine ev ?_
   rw [f0 (by omega) (by omega)]
   rw [e1, e2]
   exact ⟨c - 1, _, by omega, LeT.only (λX => decide (X <= 5) || X == 9) (λ_ h => h) rfl (by simp [kpS]) (by simp [kpS]), k + 1, _, _, _, _, by omega, hs2, rfl⟩
 ·replace hk := d2c hk
  have e : k = o + 1 := by omega
  subst e
  rw [h] at hs
  simp only [Option.some.injEq, Prod.mk.injEq] at hs
  obtain ⟨rfl, rfl, rfl, rfl⟩ := hs
  refine ev ?_
  refine d5 (V6 (w64 (0 - n)) d x y 64 hl) rfl ?_
  refine ev ?_
  repeat with_reducible refine andO ?_
  have hz1 : ∀ L L' : Heap, L.get 5 0 = some (k7 (N.set 0 x)) -> L'.fam 5 = none -> Fz L L' (.sl 5 0 0 (o + 1 + 1) 1 (o + 1 + 1)) (.d (rowI (N.set 0 x))) := λL L' a b => H3 a (by rw [List.length_set]; exact l1) rfl b
  have hz2 : ∀ L L' : Heap, L.get 9 0 = some (k7 (E.set 0 y)) -> L'.fam 9 = none -> Fz L L' (.sl 9 0 0 (o + 1 + 1) 1 (o + 1 + 1)) (.d (rowI (E.set 0 y))) := λL L' a b => H3 a (by rw [List.length_set]; exact l2) rfl b
  have e3 : D.bor N.length (a6T (N.set 0 x)) = rowI (N.set 0 x) := by unfold rowI; rw [List.length_set]
  have e4 : D.bor E.length (a6T (E.set 0 y)) = rowI (E.set 0 y) := by unfold rowI; rw [List.length_set]
  rw [e3, e4]
  exact j6 (.agg [.sl 5 0 0 (o + 1 + 1) 1 (o + 1 + 1), .sl 9 0 0 (o + 1 + 1) 1 (o + 1 + 1)]) (λ_ h => h) (g8 (by decide) rfl rfl rfl (by simp) rfl) (D5 _ _ ⟨hz1 _ _ (by simp [d8]) (by simp [d9]), hz2 _ _ (by simp [d8]) (by simp [d9]), trivial⟩)
def bdS (p : List Int) : Nat -> Option (List Int × List Int)
 | 0 => some ([], [])
 | k + 1 => (bdS p k).bind λs => (lowF 64 (p.getD k 0) (p.getD 1 0)).map λab => (s.1 ++ [ab.1], s.2 ++ [ab.2])
theorem b4C (p : List Int) (k : Nat) : ∀ d s, bdS p (k + d) = some s -> ∃ s', bdS p k = some s'
 | 0, s, h => ⟨s, h⟩
 | d + 1, s, h => by
  obtain ⟨s1, h1, _⟩ := Option.bind_eq_some_iff.1 (show (bdS p (k + d)).bind _ = some s from h)
  exact b4C p k d s1 h1
theorem c4t (p : List Int) (k : Nat) : ∀ s, bdS p k = some s -> s.1.length = k /\ s.2.length = k := by
 induction k with
 | zero => intro s h; simp only [bdS, Option.some.injEq] at h; subst h; exact ⟨rfl, rfl⟩
 | succ k ih =>
  intro s h
  obtain ⟨s1, h1, h2⟩ := Option.bind_eq_some_iff.1 (show (bdS p k).bind _ = some s from h)
  obtain ⟨a, b⟩ := ih s1 h1
  obtain ⟨ab, _, rfl⟩ := Option.map_eq_some_iff.1 h2
  exact ⟨by simp [a], by simp [b]⟩
theorem c0b (z : Int) (o : Nat) (hz : z = (o + 1 : Nat)) (ho1 : o + 1 < 2 ^ 20) (N E : List Int) (h : bdS (G9 (o + 1)) (o + 2) = some (N, E)) :
  Con Tryz.prog 161 [fI z] (.agg [.d (rowI N), .d (rowI E)]) := by
 subst hz
 refine b7 b4Q rfl f5 ?_
 refine evx @b9G.eq_1 ?_
 refine a0 (a37 ((o + 1 : Nat) : Int) (o + 1) rfl ho1) rfl ?_
 have hp := W2 (o + 1)
 generalize G9 (o + 1) = p at hp h
 refine ev ?_
 refine j5 (n := o + 2) (λc s => ∃ k N' E', c + k = o + 2 /\ bdS p k = some (N', E') /\ ((k = 0 /\ s = ⟨[(0, fI (o + 1 : Nat)), (2, .ptr 0 0 0 2), (3, .d (rowI p)), (4, .ptr 1 0 0 2), (5, fI k)], [(1, [[.nil, .nil]]), (0, [[.nil, .nil]])]⟩) \/
   (0 < k /\ s = ⟨[(0, fI (o + 1 : Nat)), (2, .ptr 0 0 0 2), (3, .d (rowI p)), (4, .ptr 1 0 0 2), (5, fI k)], [(11, [k7 E']), (6, [k7 N']), (1, [[.sl 6 0 0 k 1 k, .sl 11 0 0 k 1 k]]), (0, [[.nil, .nil]])]⟩))) (Le.refl _) ⟨0, [], [], rfl, rfl, .inl ⟨rfl, rfl⟩⟩ ?_
 rintro c s ⟨k, N', E', hc, hs, ⟨rfl, rfl⟩ | ⟨hk0, rfl⟩⟩
 ·refine evx @a48.eq_1 ?_
  obtain ⟨⟨N2, E2⟩, hs2⟩ := b4C p (0 + 1) (o + 2 - (0 + 1)) _ (by rw [show 0 + 1 + (o + 2 - (0 + 1)) = o + 2 by omega]; exact h)
  have hst := hs2
  rw [show bdS p (0 + 1) = (bdS p 0).bind λs => (lowF 64 (p.getD 0 0) (p.getD 1 0)).map λab => (s.1 ++ [ab.1], s.2 ++ [ab.2]) from rfl, hs] at hst
  simp only [Option.bind_some, Option.map_eq_some_iff] at hst
  obtain ⟨⟨a, b⟩, hab, e⟩ := hst
  simp only [Prod.mk.injEq] at e
  obtain ⟨rfl, rfl⟩ := e
  repeat with_reducible refine andO ?_
  refine a0 (V6 (p.getD 0 0) (p.getD 1 0) a b 64 hab) rfl ?_
  refine ev ?_
  obtain ⟨rfl, rfl⟩ : [] = N' /\ [] = E' := by simpa [bdS] using hs
  rw [show IntKind.i64.wrap 1 = ((0 + 1 : Nat) : Int) from by decide]
  exact ⟨c - 1, _, by omega, LeT.only (λX => X != 10 && X != 5) (λ_ h => h) rfl (by simp [kpS]) (by simp [kpS]), 0 + 1, _, _, by omega, hs2, .inr ⟨by omega, rfl⟩⟩
 ·obtain ⟨l1, l2⟩ := c4t p k _ hs
  simp only at l1 l2
  refine evx @a48.eq_1 ?_
  refine b9 (λhk => ?_) (λhk => ?_)
  ·replace hk := d2b hk
   refine ev ?_
   obtain ⟨⟨N2, E2⟩, hs2⟩ := b4C p (k + 1) (o + 2 - (k + 1)) _ (by rw [show k + 1 + (o + 2 - (k + 1)) = o + 2 by omega]; exact h)
   have hst := hs2
   rw [show bdS p (k + 1) = (bdS p k).bind λs => (lowF 64 (p.getD k 0) (p.getD 1 0)).map λab => (s.1 ++ [ab.1], s.2 ++ [ab.2]) from rfl, hs] at hst
   simp only [Option.bind_some, Option.map_eq_some_iff] at hst
   obtain ⟨⟨a, b⟩, hab, e⟩ := hst
   simp only [Prod.mk.injEq] at e
   obtain ⟨rfl, rfl⟩ := e
   repeat with_reducible refine andO ?_
   refine a0 (V6 (p.getD k 0) (p.getD 1 0) a b 64 hab) rfl ?_
   refine ev ?_
   repeat with_reducible refine andO ?_
   have e1 : k7 N' ++ [fI a] = k7 (N' ++ [a]) := by simp [k7]
   have e2 : k7 E' ++ [fI b] = k7 (E' ++ [b]) := by simp [k7]
   rw [f0 (by omega) (by omega), e1, e2]
   exact ⟨c - 1, _, by omega, LeT.only (λX => decide (X <= 6) || X == 11) (λ_ h => h) rfl (by simp [kpS]) (by simp [kpS]), k + 1, _, _, by omega, hs2, .inr ⟨by omega, rfl⟩⟩
  ·replace hk := d2c hk
   have e : k = o + 2 := by omega
   subst e
   rw [h] at hs
   simp only [Option.some.injEq, Prod.mk.injEq] at hs
   obtain ⟨rfl, rfl⟩ := hs
   refine ev ?_
   have hz1 : ∀ L L' : Heap, L.get 6 0 = some (k7 N) -> L'.fam 6 = none -> Fz L L' (.sl 6 0 0 (o + 2) 1 (o + 2)) (.d (rowI N)) := λL L' a b => H3 a l1 rfl b
   have hz2 : ∀ L L' : Heap, L.get 11 0 = some (k7 E) -> L'.fam 11 = none -> Fz L L' (.sl 11 0 0 (o + 2) 1 (o + 2)) (.d (rowI E)) := λL L' a b => H3 a l2 rfl b
   exact j6 (.agg [.sl 6 0 0 (o + 2) 1 (o + 2), .sl 11 0 0 (o + 2) 1 (o + 2)]) (λ_ h => h) (g8 (by decide) rfl rfl rfl (by simp) rfl) (D5 _ _ ⟨hz1 _ _ (by simp [d8]) (by simp [d9]), hz2 _ _ (by simp [d8]) (by simp [d9]), trivial⟩)
def exS (m : Int) (q : Nat) : Option (List Int × List Int) :=
 if m = 0 then (adS (G9 (q - 1)) q).bind λs => (lowF 64 (w64 (0 - s.2.2.1)) s.2.2.2).map λxy => (s.1.set 0 xy.1, s.2.1.set 0 xy.2)
 else bdS (G9 q) (q + 1)
theorem b5y (m : Int) (q : Nat) (hm : (m = 0 /\ 1 <= q /\ q <= 5) \/ (m = 1 /\ 1 <= q /\ q <= 4)) (N E : List Int) (h : exS m q = some (N, E)) :
  Con Tryz.prog 100 [fI m, fI q] (.tup [.agg [.d (rowI N), .d (rowI E)], fB true]) := by
 refine b7 b0K rfl f5 ?_
 refine evx @b22.eq_1 ?_
 obtain ⟨o, rfl⟩ : ∃ o, q = o + 1 := ⟨q - 1, by omega⟩
 rcases hm with ⟨rfl, h1, h2⟩ | ⟨rfl, h1, h2⟩
 ·have g1 : decide ((1 : Int) <= ((o + 1 : Nat) : Int)) = true := by simp; omega
  have g2 : decide (((o + 1 : Nat) : Int) <= 5) = true := by simp; omega
  unfold exS at h
  rw [if_pos rfl] at h
  obtain ⟨⟨N', E', n, d⟩, hs, h3⟩ := Option.bind_eq_some_iff.1 h
  obtain ⟨⟨x, y⟩, hl, e⟩ := Option.map_eq_some_iff.1 h3
  simp only [Prod.mk.injEq] at e
  obtain ⟨rfl, rfl⟩ := e
  refine evx (And.intro g1 g2) ?_
  refine a0 (b5x ((o + 1 : Nat) : Int) o rfl (by omega) N' E' n d x y hs hl) rfl ?_
  refine ev ?_
  exact m5 (λ_ => false) (λ_ h => h) ⟨_, _, K1 (by decide) rfl (cells := [_, _]) (by simp [d8]) rfl (by simp) rfl, f8 (t := 5) (by decide) rfl, rfl⟩ rfl (by simp [kpS]) (by simp [kpS])
 ·have g1 : decide ((1 : Int) <= ((o + 1 : Nat) : Int)) = true := by simp; omega
  have g2 : decide (((o + 1 : Nat) : Int) <= 4) = true := by simp; omega
  unfold exS at h
  rw [if_neg (by decide)] at h
  refine evbx (And.intro g1 g2) ?_
  refine a0 (c0b ((o + 1 : Nat) : Int) o rfl (by omega) N E h) rfl ?_
  refine ev ?_
  exact m5 (λ_ => false) (λ_ h => h) ⟨_, _, K1 (by decide) rfl (cells := [_, _]) (by simp [d8]) rfl (by simp) rfl, f8 (t := 5) (by decide) rfl, rfl⟩ rfl (by simp [kpS]) (by simp [kpS])
def ofP (N E : List Int) : List Nat := tabR (λi => fop .div (FloatKind.nearest .f64 (N.getD i 0)) (FloatKind.nearest .f64 (E.getD i 0))) N.length
theorem b7X (m : Int) (q : Nat) (hq : 1 <= q) (N E : List Int) (h : exS m q = some (N, E)) : N.length = q + 1 /\ E.length = q + 1 := by
 unfold exS at h
 split at h
 ·obtain ⟨⟨N', E', n, d⟩, hs, h3⟩ := Option.bind_eq_some_iff.1 h
  obtain ⟨⟨x, y⟩, hl, e⟩ := Option.map_eq_some_iff.1 h3
  simp only [Prod.mk.injEq] at e
  obtain ⟨rfl, rfl⟩ := e
  obtain ⟨a, b⟩ := c4C _ _ _ hs
  exact ⟨by simpa using a, by simpa using b⟩
 ·exact c4t _ _ _ h
theorem c2u (m : Int) (q : Nat) (hm : (m = 0 /\ 1 <= q /\ q <= 5) \/ (m = 1 /\ 1 <= q /\ q <= 4)) (N E : List Int) (h : exS m q = some (N, E)) :
  Con Tryz.prog 62 [fI m, fI q] (.tup [.d (rowD (ofP N E)), fB true]) := by
 obtain ⟨l1, l2⟩ := b7X m q (by omega) N E h
 refine b7 b6D rfl f5 ?_
 refine evx @c4K.eq_1 ?_
 refine a0 (b5y m q hm N E h) rfl ?_
 refine evx @Bool.not_true ?_
 refine j5 (n := q + 1) (λc s => ∃ i, c + i = q + 1 /\ s = ⟨[(6, .ptr 6 0 0 2), (8, .sl 20 0 0 i 1 i), (9, fI i)], [(20, [rowV (tabR (λi => fop .div (FloatKind.nearest .f64 (N.getD i 0)) (FloatKind.nearest .f64 (E.getD i 0))) i)]), (6, [[.d (rowI N), .d (rowI E)]])]⟩) (s0 := ⟨_, _⟩)
  (LeT.nilrow (X := 20) (esz := 1) (as' := [(6, .ptr 6 0 0 2), (8, .sl 20 0 0 0 1 0), (9, fI 0)]) (by simp [d6, d9]) (λh => h) λi => ?_) ⟨0, by omega, rfl⟩ ?_
 ·simp only [look]
  repeat' split
  all_goals simp
 rintro c s ⟨i, hc, rfl⟩
 have hl := k8 (λi => fop .div (FloatKind.nearest .f64 (N.getD i 0)) (FloatKind.nearest .f64 (E.getD i 0))) i
 have hsc := J6 (λi => fop .div (FloatKind.nearest .f64 (N.getD i 0)) (FloatKind.nearest .f64 (E.getD i 0))) i
 refine evx @b21.eq_1 ?_
 refine b9 (λhi => ?_) (λhi => ?_)
 ·replace hi := d2b hi
  refine ev ?_
  repeat with_reducible refine andO ?_
  rw [f0 (by omega) (by omega)]
  have e : rowV (tabR (λi => fop .div (FloatKind.nearest .f64 (N.getD i 0)) (FloatKind.nearest .f64 (E.getD i 0))) i) ++ [fl (fop .div (FloatKind.nearest .f64 (N.getD i 0)) (FloatKind.nearest .f64 (E.getD i 0)))] = rowV (tabR (λi => fop .div (FloatKind.nearest .f64 (N.getD i 0)) (FloatKind.nearest .f64 (E.getD i 0))) (i + 1)) := hsc.symm
  rw [e]
  exact ⟨c - 1, _, by omega, LeT.only (λX => decide (X <= 20)) (λ_ h => h) rfl (by simp [kpS]) (by simp [kpS]), i + 1, by omega, rfl⟩
 ·replace hi := d2c hi
  have e : i = q + 1 := by omega
  subst e
  refine ev ?_
  have ho : ofP N E = tabR (λi => fop .div (FloatKind.nearest .f64 (N.getD i 0)) (FloatKind.nearest .f64 (E.getD i 0))) (q + 1) := by unfold ofP; rw [l1]
  rw [<- ho]
  rw [<- ho] at hl
  have hz : Fz [(20, [rowV (ofP N E)]), (6, [[.d (rowI N), .d (rowI E)]])] [] (.sl 20 0 0 (q + 1) 1 (q + 1)) (.d (rowD (ofP N E))) := b0C (by simp [d8]) hl rfl (by simp [g5])
  refine j6 (.tup [.sl 20 0 0 (q + 1) 1 (q + 1), fB true]) (λ_ h => h) ⟨_, _, f8 (t := 4) (by decide) rfl, f8 (t := 5) (by decide) rfl, rfl⟩ (.tup rfl λj hj => ?_)
  rcases j with _ | _ | j
  ·exact hz
  ·exact Fz_d _
  ·simp at hj; omega
theorem b9g (m : Int) (q : Nat) (hm : (m = 0 /\ 1 <= q /\ q <= 5) \/ (m = 1 /\ 1 <= q /\ q <= 4)) : ∃ N E, exS m q = some (N, E) := by
 have h0 : ((List.range 5).all λi => (exS 0 (i + 1)).isSome) = true := by kernel_rfl
 have h1 : ((List.range 4).all λi => (exS 1 (i + 1)).isSome) = true := by kernel_rfl
 have : (exS m q).isSome = true := by
  obtain ⟨o, rfl⟩ : ∃ o, q = o + 1 := ⟨q - 1, by omega⟩
  rcases hm with ⟨rfl, a, b⟩ | ⟨rfl, a, b⟩
  ·exact List.all_eq_true.1 h0 o (by simp; omega)
  ·exact List.all_eq_true.1 h1 o (by simp; omega)
 obtain ⟨⟨N, E⟩, h⟩ := Option.isSome_iff_exists.1 this
 exact ⟨N, E, h⟩
def ofL (m : Int) (q : Nat) : List Nat := match exS m q with
 | some s => ofP s.1 s.2
 | none => []
theorem c5t (m : Int) (q : Nat) (hm : (m = 0 /\ 1 <= q /\ q <= 5) \/ (m = 1 /\ 1 <= q /\ q <= 4)) : Con Tryz.prog 62 [fI m, fI q] (.tup [.d (rowD (ofL m q)), fB true]) /\ (ofL m q).length = q + 1 := by
 obtain ⟨N, E, h⟩ := b9g m q hm
 obtain ⟨l1, l2⟩ := b7X m q (by omega) N E h
 have e : ofL m q = ofP N E := by unfold ofL; rw [h]
 rw [e]
 exact ⟨c2u m q hm N E h, by unfold ofP; rw [k8]; exact l1⟩
structure Pb where
 t : Tp
 box : List (Nat × Nat)
 y : List Nat
 fin : Int
 first : Int
 least : Int
 atol : Nat
 rtol : Nat
 cap : Nat
 most : Int
 outs : List Int
abbrev pbC (p : Pb) : List V := [fI p.t.n, .d (opsD p.t.ops), .d (rowI p.t.out), .d (ivD p.box), .d (rowD p.y), fI p.fin, fI p.first, fI p.least, fl p.atol, fl p.rtol, fl p.cap, fI p.most, .d (rowI p.outs)]
abbrev pbV (p : Pb) : V := .agg (pbC p)
abbrev pbCo (p : Pb) (od : D) : List V := [fI p.t.n, .d (opsD p.t.ops), .d (rowI p.t.out), .d (ivD p.box), .d (rowD p.y), fI p.fin, fI p.first, fI p.least, fl p.atol, fl p.rtol, fl p.cap, fI p.most, .d od]
abbrev pbVo (p : Pb) (od : D) : V := .agg (pbCo p od)
structure Nd where
 pos : Int
 step : Int
 order : Int
 method : Int
 z : List (List Nat)
abbrev ndC (n : Nd) : List V := [fI n.pos, fI n.step, fI n.order, fI n.method, .d (g6 n.z)]
abbrev ndV (n : Nd) : V := .agg (ndC n)
structure Sta where
 n : Nd
 good : Int
 fails : Int
 slow : Int
abbrev staC (s : Sta) : List V := [fI s.n.pos, fI s.n.step, fI s.n.order, fI s.n.method, .d (g6 s.n.z), fI s.good, fI s.fails, fI s.slow]
abbrev staV (s : Sta) : V := .agg (staC s)
structure Trd where
 s : Sta
 n : Nd
 taken : Bool
 err : Nat
 e : Int
abbrev trdC (r : Trd) : List V := [fI r.s.n.pos, fI r.s.n.step, fI r.s.n.order, fI r.s.n.method, .d (g6 r.s.n.z), fI r.s.good, fI r.s.fails, fI r.s.slow,
 fI r.n.pos, fI r.n.step, fI r.n.order, fI r.n.method, .d (g6 r.n.z), fB r.taken, fl r.err, fI r.e]
abbrev trdV (r : Trd) : V := .agg (trdC r)
def a53 (p : Pb) (n : Nd) : Nd := ⟨n.pos, n.step, 1, n.method, a5z p.t (n.z.getD 0 []) (hW n.step.toNat)⟩
def c0D (k : Nat) : Nat := scl 4607182418800017408 (-(k : Int))
def a9X (m : Int) : Int := if m = 0 then 5 else 4
def c0u (l d : List Nat) (q : Nat) : List Nat := tabR (λi => fop .div (fop .mul (l.getD q 0) (d.getD i 0)) (FloatKind.nearest .f64 ((q : Int) + 1))) d.length
def a4G (p : Pb) (s : Sta) (z : List (List Nat)) (l d : List Nat) (err : Nat) : Trd :=
 let q := s.n.order.toNat
 let n : Nd := { s.n with pos := s.n.pos + s.n.step, z := a44 z l d (q + 1) p.t.n }
 let s' : Sta :=
  if s.good + 1 <= s.n.order + 1 then ⟨n, s.good + 1, 0, s.slow⟩
  else if fcmp .le err (c0D (q + 3)) = true /\ s.n.step <= p.fin then ⟨{ n with step := 2 * s.n.step, z := J9 n.z 1 (q + 1) p.t.n }, 0, 0, s.slow⟩
  else if fcmp .le err 4598175219545276416 = true /\ s.n.order < a9X s.n.method then ⟨{ n with order := s.n.order + 1, z := n.z ++ [c0u l d q] }, 0, 0, s.slow⟩
  else ⟨n, s.good + 1, 0, s.slow⟩
 ⟨s', n, true, err, 0⟩
def a66 (p : Pb) (s : Sta) (e : Int) (err : Nat) : Trd :=
 let q := s.n.order.toNat
 if s.n.step <= p.least then ⟨s, ⟨0, 0, 0, 0, []⟩, false, err, if e = 4 \/ e = 2 then e else 5⟩
 else
  let slow := if e = 6 /\ s.n.method = 0 then s.slow + 1 else s.slow
  let n : Nd := { s.n with step := s.n.step / 2, z := J9 s.n.z (-1) (q + 1) p.t.n }
  let s' : Sta :=
   if 2 <= slow then ⟨a53 p { n with method := 1 }, 0, 0, 0⟩
   else if s.fails + 1 < 3 then ⟨n, 0, s.fails + 1, slow⟩
   else ⟨a53 p n, 0, 0, slow⟩
  ⟨s', ⟨0, 0, 0, 0, []⟩, false, err, 0⟩
def tryP (p : Pb) (s : Sta) : Trd :=
 let q := s.n.order.toNat
 let z := a16 s.n.z p.t.n q
 let l := ofL s.n.method q
 let w := wtP (s.n.z.getD 0 []) p.atol p.rtol
 let c := solG p.t z l (hW s.n.step.toNat) w s.n.method
 if c.2.2 ≠ 0 then a66 p s c.2.2 0
 else
  let err := fop .div (szP c.1 w) (FloatKind.nearest .f64 (s.n.order + 1))
  if fcmp .le err 4607182418800017408 = true then a4G p s z l c.1 err else a66 p s 0 err
structure Pok (p : Pb) : Prop where
 t : Tok p.t
 n : 0 < p.t.n
 least : 1 <= p.least
structure Nok (t : Tp) (n : Nd) : Prop where
 m : (n.method = 0 /\ 1 <= n.order /\ n.order <= 5) \/ (n.method = 1 /\ 1 <= n.order /\ n.order <= 4)
 step : ∃ j : Nat, j < 60 /\ n.step = (2 ^ j : Nat)
 rk : Rk (n.order.toNat + 1) t.n n.z
 cw : Cw n.z
 pos : 0 <= n.pos /\ n.pos < 2305843009213693952
structure Sta.ok (t : Tp) (s : Sta) : Prop where
 n : Nok t s.n
 good : 0 <= s.good /\ s.good < 1000000000
 fails : 0 <= s.fails /\ s.fails < 1000000000
 slow : 0 <= s.slow /\ s.slow < 1000000000
end Go.Ab
namespace Go.Ab
open Nat renaming reduceEqDiff -> n1_, reduceAdd -> n2_, reduceMul -> n3_, reduceLT -> n4_, reduceLeDiff -> n5_
open Int renaming reduceToNat -> i1_, reduceAdd -> i2_, reduceSub -> i3_, reduceMul -> i4_, reduceNeg -> i5_, reduceLT -> i6_, reduceLE -> i7_
open Go Go.Proofs
def F3 : CA := (.seq (.reg [i_N 0 12 .lss 11 10] [3, 9, 10, 11, 12]) (.seq (.cond (.t 12) .skip (.exit 0)) (.seq (.block 1 (.seq (.reg [i_M 0 13 11, i_I 1 14 9 11 1, i_L 2 15 14 1, i_M 3 4 13, i_M 4 5 15] [3, 4, 5, 9, 10, 11]) (.seq (.reg [i_M 0 16 3, i_M 1 17 4, i_M 2 18 5, i_X 3 19 (.app (.k .nil) (.t 18) 1 8), i_I 4 20 16 17 1, i_S 5 20 19 1] [3, 4, 5, 9, 10, 11]) (.reg [i_M 0 21 3, i_M 1 22 4, i_M 2 23 3, i_M 3 24 4, i_I 4 25 23 24 1, i_L 5 26 25 1, i_M 6 27 5, i_X 7 28 (.h (.len (.t 27))), i_M 8 29 5, i_X 9 30 (.h (.len (.t 29))), i_X 10 31 (.h (.slc (.t 26) none (some (.t 28)) (some (.t 30)) 1)), i_I 11 32 21 22 1, i_S 12 32 31 1] [3, 9, 10, 11])))) (.reg [i_B 0 33 .add 11 1, i_M 1 11 33] [3, 9, 10, 11]))))
def L9 : CA := (.seq (.reg [i_X 0 2 (.h (.mov (.k .nil)))] [0]) (.seq (.reg [i_M 0 6 0, i_X 1 7 (.h (.len (.t 6))), i_X 2 8 (.mksl [.nil] 1 24 (.t 7) (.t 7) 30), i_M 3 3 8] [0, 3]) (.seq (.seq (.reg [i_M 0 9 0, i_X 1 10 (.h (.len (.t 9))), i_K 2 11 0] [3, 9, 10, 11]) (.block 0 (.loop F3))) (.seq (.reg [i_M 0 34 3, i_M 1 2 34] [2]) .ret))))
theorem V2 : f7 Tryz.prog 178 = some ⟨35, [(2, none)], L9.strip⟩ := by kernel_rfl
def E4 : CA := (.seq (.reg [i_N 0 22 .lss 21 20] [1, 5, 6, 12, 13, 19, 20, 21, 22]) (.seq (.cond (.t 22) .skip (.exit 2)) (.seq (.block 3 (.seq (.reg [i_M 0 23 21, i_I 1 24 19 21 1, i_L 2 25 24 1, i_M 3 7 23, i_M 4 8 25] [1, 5, 6, 7, 8, 12, 13, 19, 20, 21]) (.reg [i_M 0 26 5, i_M 1 27 6, i_I 2 28 26 27 1, i_L 3 29 28 1, i_M 4 30 7, i_M 5 31 1, i_M 6 32 6, i_M 7 33 7, i_M 8 34 8, i_X 9 35 (.callS 9 (.t 31) [(.t 32), (.t 33), (.t 34)]), i_I 10 36 29 30 1, i_S 11 36 35 1] [1, 5, 6, 12, 13, 19, 20, 21]))) (.reg [i_B 0 37 .add 21 1, i_M 1 21 37] [1, 5, 6, 12, 13, 19, 20, 21]))))
def E5 : CA := (.seq (.reg [i_N 0 14 .lss 13 12] [1, 5, 12, 13, 14]) (.seq (.cond (.t 14) .skip (.exit 0)) (.seq (.block 1 (.seq (.reg [i_M 0 15 13, i_M 1 6 15] [1, 5, 6, 12, 13]) (.seq (.reg [i_M 0 16 5, i_M 1 17 6, i_I 2 18 16 17 1, i_L 3 19 18 1, i_X 4 20 (.h (.len (.t 19))), i_K 5 21 0] [1, 5, 6, 12, 13, 19, 20, 21]) (.block 2 (.loop E4))))) (.reg [i_B 0 38 .add 13 1, i_M 1 13 38] [1, 5, 12, 13]))))
def J1 : CA := (.seq (.reg [i_X 0 4 (.h (.mov (.k .nil)))] [0, 1]) (.seq (.reg [i_M 0 9 0, i_X 1 10 (.callA (kF 178) [(.t 9)]), i_M 2 5 10] [1, 5]) (.seq (.seq (.reg [i_M 0 11 5, i_X 1 12 (.h (.len (.t 11))), i_K 2 13 0] [1, 5, 12, 13]) (.block 0 (.loop E5))) (.seq (.reg [i_M 0 39 5, i_M 1 4 39] [4]) .ret))))
theorem T5 : f7 Tryz.prog 133 = some ⟨40, [(4, none)], J1.strip⟩ := by kernel_rfl
def a02 : CA := (.seq (.reg [i_N 0 32 .lss 31 30] [3, 4, 5, 6, 30, 31, 32]) (.seq (.cond (.t 32) .skip (.exit 4)) (.seq (.block 5 (.seq (.reg [i_M 0 33 31, i_M 1 7 33] [3, 4, 5, 6, 7, 30, 31]) (.reg [i_M 0 34 3, i_M 1 35 6, i_I 2 36 34 35 1, i_L 3 37 36 1, i_M 4 38 7, i_M 5 39 3, i_M 6 40 6, i_I 7 41 39 40 1, i_L 8 42 41 1, i_M 9 43 7, i_I 10 44 42 43 1, i_L 11 45 44 1, i_M 12 46 3, i_M 13 47 6, i_B 14 48 .add 47 1, i_I 15 49 46 48 1, i_L 16 50 49 1, i_M 17 51 7, i_I 18 52 50 51 1, i_L 19 53 52 1, i_F 20 54 .add 45 53, i_I 21 55 37 38 1, i_S 22 55 54 1] [3, 4, 5, 6, 30, 31]))) (.reg [i_B 0 56 .add 31 1, i_M 1 31 56] [3, 4, 5, 6, 30, 31]))))
def a03 : CA := (.seq (.seq (.reg [i_M 0 20 6, i_M 1 21 5, i_B 2 22 .sub 21 1, i_N 3 23 .geq 20 22] [3, 4, 5, 6, 23]) (.cond (.t 23) .skip (.exit 2))) (.seq (.block 3 (.seq (.reg [i_M 0 26 3, i_M 1 27 6, i_I 2 28 26 27 1, i_L 3 29 28 1, i_X 4 30 (.h (.len (.t 29))), i_K 5 31 0] [3, 4, 5, 6, 30, 31]) (.block 4 (.loop a02)))) (.reg [i_M 0 24 6, i_B 1 25 .sub 24 1, i_M 2 6 25] [3, 4, 5, 6])))
def a04 : CA := (.seq (.seq (.reg [i_M 0 13 5, i_M 1 14 4, i_N 2 15 .leq 13 14] [3, 4, 5, 15]) (.cond (.t 15) .skip (.exit 0))) (.seq (.block 1 (.seq (.reg [i_M 0 18 4, i_B 1 19 .sub 18 1, i_M 2 6 19] [3, 4, 5, 6]) (.block 2 (.loop a03)))) (.reg [i_M 0 16 5, i_B 1 17 .add 16 1, i_M 2 5 17] [3, 4, 5])))
def a4m : CA := (.seq (.reg [i_X 0 2 (.h (.mov (.k .nil)))] [0]) (.seq (.reg [i_M 0 8 0, i_X 1 9 (.callA (kF 178) [(.t 8)]), i_M 2 3 9] [3]) (.seq (.reg [i_M 0 10 3, i_X 1 11 (.h (.len (.t 10))), i_B 2 12 .sub 11 1, i_M 3 4 12] [3, 4]) (.seq (.seq (.reg [i_K 0 5 1] [3, 4, 5]) (.block 0 (.loop a04))) (.seq (.reg [i_M 0 57 3, i_M 1 2 57] [2]) .ret)))))
theorem a5a : f7 Tryz.prog 135 = some ⟨58, [(2, none)], a4m.strip⟩ := by kernel_rfl
def a1Z : CA := (.seq (.reg [i_X 0 8 (.h (.mov (.k (.d (.flt 0)))))] [0, 1, 2, 3, 4]) (.seq (.reg [i_M 0 9 2, i_L 1 10 3 1, i_M 2 11 0, i_I 3 12 10 11 1, i_L 4 13 12 1, i_L 5 14 4 1, i_M 6 15 1, i_I 7 16 14 15 1, i_L 8 17 16 1, i_F 9 18 .mul 13 17, i_F 10 19 .add 9 18, i_M 11 8 19] [8]) .ret))
theorem a24 : f7 Tryz.prog 185 = some ⟨20, [(8, none)], a1Z.strip⟩ := by kernel_rfl
def a4n : CA := (.seq (.reg [i_X 0 4 (.box (.t 1) 1 30), i_X 1 5 (.box (.t 2) 1 30), i_X 2 6 (.h (.mov (.k .nil)))] [0, 4, 5]) (.seq (.reg [i_M 0 7 0, i_X 1 8 (.h (.mkfn 185 [] [(.t 4), (.t 5)])), i_X 2 9 (.callA (kF 133) [(.t 7), (.t 8)]), i_M 3 6 9] [6]) .ret))
theorem a5b : f7 Tryz.prog 140 = some ⟨10, [(6, none)], a4n.strip⟩ := by kernel_rfl
def a1Y : CA := (.seq (.reg [i_X 0 7 (.h (.mov (.k (.d (.flt 0)))))] [0, 2, 3]) (.seq (.reg [i_M 0 8 2, i_M 1 9 0, i_L 2 10 3 1, i_N 3 11 .mul 9 10, i_X 4 12 (.callA (kF 96) [(.t 8), (.t 11)]), i_M 5 7 12] [7]) .ret))
theorem a23 : f7 Tryz.prog 134 = some ⟨13, [(7, none)], a1Y.strip⟩ := by kernel_rfl
def a4k : CA := (.seq (.reg [i_X 0 3 (.box (.t 1) 1 3), i_X 1 4 (.h (.mov (.k .nil)))] [0, 3]) (.seq (.reg [i_M 0 5 0, i_X 1 6 (.h (.mkfn 134 [] [(.t 3)])), i_X 2 7 (.callA (kF 133) [(.t 5), (.t 6)]), i_M 3 4 7] [4]) .ret))
theorem a49 : f7 Tryz.prog 92 = some ⟨8, [(4, none)], a4k.strip⟩ := by kernel_rfl
def a22 : CA := (.seq (.reg [i_N 0 22 .lss 21 20] [1, 2, 6, 7, 8, 19, 20, 21, 22]) (.seq (.cond (.t 22) .skip (.exit 0)) (.seq (.block 1 (.seq (.reg [i_I 0 23 19 21 1, i_L 1 24 23 1, i_M 2 10 24] [1, 2, 6, 7, 8, 10, 19, 20, 21]) (.reg [i_M 0 25 8, i_M 1 26 7, i_M 2 27 10, i_F 3 28 .mul 26 27, i_X 4 29 (.bslice [fl 0] 1 1 [(0, (1, (.t 28)))] 31), i_X 5 30 (.app (.t 25) (.t 29) 1 8), i_M 6 8 30] [1, 2, 6, 7, 8, 19, 20, 21]))) (.reg [i_B 0 31 .add 21 1, i_M 1 21 31] [1, 2, 6, 7, 8, 19, 20, 21]))))
def a8c : CA := (.seq (.reg [i_X 0 3 (.box (.t 0) 3 28), i_X 1 6 (.alloc [fI 0, fI 0, fI 0, fI 0, .nil] 40)] [1, 2, 3, 6]) (.seq (.reg [i_M 0 11 2, i_X 1 12 (.h (.i2f (.t 11))), i_X 2 13 (.callA (kF 96) [(.t 12), (.k (.d (.int .i64 (-30))))]), i_M 3 7 13] [1, 2, 3, 6, 7]) (.seq (.reg [i_M 0 14 1, i_X 1 15 (.h (.len (.t 14))), i_X 2 16 (.mksl [fl 0] 1 8 (kI 0) (.t 15) 31), i_M 3 8 16] [1, 2, 3, 6, 7, 8]) (.seq (.seq (.reg [i_A 0 17 3 3, i_M 1 18 1, i_X 2 19 (.callA (kF 97) [(.t 17), (.t 18)]), i_X 3 20 (.h (.len (.t 19))), i_K 4 21 0] [1, 2, 6, 7, 8, 19, 20, 21]) (.block 0 (.loop a22))) (.seq (.reg [i_M 0 32 2, i_M 1 33 1, i_X 2 34 (.app (.k .nil) (.t 33) 1 8), i_M 3 35 8, i_X 4 36 (.app (.k .nil) (.t 35) 1 8), i_X 5 37 (.bslice [.nil, .nil] 2 1 [(0, (1, (.t 34))), (1, (1, (.t 36)))] 30), i_X 6 38 (.h (.build [fI 0, fI 0, fI 0, fI 0, .nil] [(1, (1, (.t 32))), (2, (1, (kI 1))), (3, (1, (kI 0))), (4, (1, (.t 37)))])), i_S 7 6 38 5] [6]) .ret)))))
theorem a7n : f7 Tryz.prog 56 = some ⟨39, [(6, (some (5, true)))], a8c.strip⟩ := by kernel_rfl
def a4g : CA := (.seq (.seq (.reg [i_M 0 5 4, i_M 1 6 0, i_X 2 7 (.h (.len (.t 6))), i_N 3 8 .lss 5 7] [0, 3, 4, 8]) (.cond (.t 8) .skip (.exit 0))) (.seq (.block 1 (.reg [i_M 0 11 3, i_X 1 12 (.bslice [] 0 1 [] 31), i_M 2 13 0, i_M 3 14 4, i_I 4 15 13 14 1, i_L 5 16 15 1, i_X 6 17 (.app (.t 12) (.t 16) 1 8), i_X 7 18 (.bslice [.nil] 1 1 [(0, (1, (.t 17)))] 30), i_X 8 19 (.app (.t 11) (.t 18) 1 24), i_M 9 3 19] [0, 3, 4])) (.reg [i_M 0 9 4, i_B 1 10 .add 9 1, i_M 2 4 10] [0, 3, 4])))
def b0G : CA := (.seq (.reg [i_X 0 2 (.h (.mov (.k .nil)))] [0]) (.seq (.reg [i_X 0 3 (.h (.mov (.k .nil)))] [0, 3]) (.seq (.seq (.reg [i_K 0 4 0] [0, 3, 4]) (.block 0 (.loop a4g))) (.seq (.reg [i_M 0 20 3, i_M 1 2 20] [2]) .ret))))
theorem a8X : f7 Tryz.prog 99 = some ⟨21, [(2, none)], b0G.strip⟩ := by kernel_rfl
def a2Y : CA := (.seq (.seq (.reg [i_M 0 19 9, i_M 1 20 2, i_X 2 21 (.h (.len (.t 20))), i_N 3 22 .lss 19 21] [1, 2, 7, 8, 9, 22]) (.cond (.t 22) .skip (.exit 2))) (.seq (.block 3 (.seq (.reg [i_M 0 25 1, i_M 1 26 8, i_I 2 27 25 26 1, i_L 3 28 27 1, i_M 4 29 2, i_M 5 30 9, i_I 6 31 29 30 1, i_L 7 32 31 1, i_F 8 33 .mul 28 32, i_M 9 10 33] [1, 2, 7, 8, 9, 10]) (.reg [i_M 0 34 7, i_M 1 35 8, i_I 2 36 34 35 1, i_L 3 37 36 1, i_M 4 38 9, i_M 5 39 7, i_M 6 40 8, i_I 7 41 39 40 1, i_L 8 42 41 1, i_M 9 43 9, i_I 10 44 42 43 1, i_L 11 45 44 1, i_M 12 46 10, i_F 13 47 .add 45 46, i_I 14 48 37 38 1, i_S 15 48 47 1] [1, 2, 7, 8, 9]))) (.reg [i_M 0 23 9, i_B 1 24 .add 23 1, i_M 2 9 24] [1, 2, 7, 8, 9])))
def a2Z : CA := (.seq (.seq (.reg [i_M 0 13 8, i_M 1 14 7, i_X 2 15 (.h (.len (.t 14))), i_N 3 16 .lss 13 15] [1, 2, 7, 8, 16]) (.cond (.t 16) .skip (.exit 0))) (.seq (.block 1 (.seq (.reg [i_K 0 9 0] [1, 2, 7, 8, 9]) (.block 2 (.loop a2Y)))) (.reg [i_M 0 17 8, i_B 1 18 .add 17 1, i_M 2 8 18] [1, 2, 7, 8])))
def a76 : CA := (.seq (.reg [i_X 0 6 (.h (.mov (.k .nil)))] [0, 1, 2]) (.seq (.reg [i_M 0 11 0, i_X 1 12 (.callA (kF 99) [(.t 11)]), i_M 2 7 12] [1, 2, 7]) (.seq (.seq (.reg [i_K 0 8 0] [1, 2, 7, 8]) (.block 0 (.loop a2Z))) (.seq (.reg [i_M 0 49 7, i_M 1 6 49] [6]) .ret))))
theorem a7j : f7 Tryz.prog 110 = some ⟨50, [(6, none)], a76.strip⟩ := by kernel_rfl
def a2W : CA := (.seq (.seq (.reg [i_M 0 16 7, i_M 1 17 5, i_M 2 18 6, i_I 3 19 17 18 1, i_L 4 20 19 1, i_X 5 21 (.h (.len (.t 20))), i_N 6 22 .lss 16 21] [1, 5, 6, 7, 22]) (.cond (.t 22) .skip (.exit 2))) (.seq (.block 3 (.reg [i_M 0 25 5, i_M 1 26 6, i_I 2 27 25 26 1, i_L 3 28 27 1, i_M 4 29 7, i_M 5 30 5, i_M 6 31 6, i_I 7 32 30 31 1, i_L 8 33 32 1, i_M 9 34 7, i_I 10 35 33 34 1, i_L 11 36 35 1, i_M 12 37 6, i_M 13 38 1, i_N 14 39 .mul 37 38, i_X 15 40 (.callS 15 (kF 165) [(.t 36), (.t 39)]), i_I 16 41 28 29 1, i_S 17 41 40 1] [1, 5, 6, 7])) (.reg [i_M 0 23 7, i_B 1 24 .add 23 1, i_M 2 7 24] [1, 5, 6, 7])))
def a2X : CA := (.seq (.seq (.reg [i_M 0 10 6, i_M 1 11 5, i_X 2 12 (.h (.len (.t 11))), i_N 3 13 .lss 10 12] [1, 5, 6, 13]) (.cond (.t 13) .skip (.exit 0))) (.seq (.block 1 (.seq (.reg [i_K 0 7 0] [1, 5, 6, 7]) (.block 2 (.loop a2W)))) (.reg [i_M 0 14 6, i_B 1 15 .add 14 1, i_M 2 6 15] [1, 5, 6])))
def a75 : CA := (.seq (.reg [i_X 0 4 (.h (.mov (.k .nil)))] [0, 1]) (.seq (.reg [i_M 0 8 0, i_X 1 9 (.callA (kF 99) [(.t 8)]), i_M 2 5 9] [1, 5]) (.seq (.seq (.reg [i_K 0 6 0] [1, 5, 6]) (.block 0 (.loop a2X))) (.seq (.reg [i_M 0 42 5, i_M 1 4 42] [4]) .ret))))
theorem a7g : f7 Tryz.prog 107 = some ⟨43, [(4, none)], a75.strip⟩ := by kernel_rfl
def a6w : CA := (.seq (.seq (.reg [i_M 0 13 9, i_M 1 14 7, i_X 2 15 (.h (.len (.t 14))), i_N 3 16 .lss 13 15] [1, 2, 6, 7, 8, 9, 16]) (.cond (.t 16) .skip (.exit 0))) (.seq (.block 1 (.reg [i_M 0 19 8, i_M 1 20 2, i_X 2 21 (.callS 0 (kF 71) [(.t 20)]), i_M 3 22 7, i_M 4 23 9, i_I 5 24 22 23 1, i_L 6 25 24 1, i_F 7 26 .mul 21 25, i_X 8 27 (.bslice [fl 0] 1 1 [(0, (1, (.t 26)))] 31), i_X 9 28 (.app (.t 19) (.t 27) 1 8), i_M 10 8 28] [1, 2, 6, 7, 8, 9])) (.reg [i_M 0 17 9, i_B 1 18 .add 17 1, i_M 2 9 18] [1, 2, 6, 7, 8, 9])))
def b2Z : CA := (.seq (.reg [i_X 0 3 (.box (.t 0) 3 28), i_X 1 6 (.alloc [fI 0, fI 0, fI 0, fI 0, .nil] 40)] [1, 2, 3, 6]) (.seq (.reg [i_A 0 10 3 3, i_M 1 11 1, i_X 2 12 (.callA (kF 128) [(.t 10), (.t 11)]), i_M 3 7 12] [1, 2, 6, 7]) (.seq (.reg [i_X 0 8 (.h (.mov (.k .nil)))] [1, 2, 6, 7, 8]) (.seq (.seq (.reg [i_K 0 9 0] [1, 2, 6, 7, 8, 9]) (.block 0 (.loop a6w))) (.seq (.reg [i_M 0 29 2, i_X 1 30 (.bslice [] 0 1 [] 31), i_M 2 31 1, i_X 3 32 (.app (.t 30) (.t 31) 1 8), i_M 4 33 8, i_X 5 34 (.bslice [.nil, .nil] 2 1 [(0, (1, (.t 32))), (1, (1, (.t 33)))] 30), i_X 6 35 (.h (.build [fI 0, fI 0, fI 0, fI 0, .nil] [(1, (1, (.t 29))), (2, (1, (kI 1))), (4, (1, (.t 34)))])), i_S 7 6 35 5] [6]) .ret)))))
theorem b0H : f7 Tryz.prog 77 = some ⟨36, [(6, (some (5, true)))], b2Z.strip⟩ := by kernel_rfl
def b6C : CA := (.seq (.reg [i_X 0 2 (.box (.t 0) 5 40), i_X 1 3 (.box (.t 1) 5 40), i_X 2 4 (.h (.mov (.k (.d (.bool false)))))] [2, 3]) (.seq (.reg [i_P 0 5 2 0, i_L 1 6 5 1, i_P 2 7 3 0, i_L 3 8 7 1, i_N 4 9 .eql 6 8, i_M 5 10 9, g_T 6 11 10 (.h (.padd (.t 2) 1)), g_T 7 12 10 (.load (.t 11) 1 false), g_T 8 13 10 (.h (.padd (.t 3) 1)), g_T 9 14 10 (.load (.t 13) 1 false), g_T 10 15 10 (.h (.ibin .eql (.t 12) (.t 14))), i_X 11 16 (.h (.pick (.t 10) (.t 15) (.k (.d (.bool false))))), i_M 12 17 16, g_T 13 18 17 (.h (.padd (.t 2) 2)), g_T 14 19 17 (.load (.t 18) 1 false), g_T 15 20 17 (.h (.padd (.t 3) 2)), g_T 16 21 17 (.load (.t 20) 1 false), g_T 17 22 17 (.h (.ibin .eql (.t 19) (.t 21))), i_X 18 23 (.h (.pick (.t 17) (.t 22) (.k (.d (.bool false))))), i_M 19 24 23, g_T 20 25 24 (.h (.padd (.t 2) 3)), g_T 21 26 24 (.load (.t 25) 1 false), g_T 22 27 24 (.h (.padd (.t 3) 3)), g_T 23 28 24 (.load (.t 27) 1 false), g_T 24 29 24 (.h (.ibin .eql (.t 26) (.t 28))), i_X 25 30 (.h (.pick (.t 24) (.t 29) (.k (.d (.bool false))))), i_M 26 31 30, g_T 27 32 31 (.h (.padd (.t 2) 4)), g_T 28 33 31 (.load (.t 32) 1 false), g_T 29 34 31 (.h (.padd (.t 3) 4)), g_T 30 35 31 (.load (.t 34) 1 false), g_T 31 36 31 (.callA (kF 159) [(.t 33), (.t 35)]), i_X 32 37 (.h (.pick (.t 31) (.t 36) (.k (.d (.bool false))))), i_M 33 4 37] [4]) .ret))
theorem b1Z : f7 Tryz.prog 98 = some ⟨38, [(4, none)], b6C.strip⟩ := by kernel_rfl
def b23 : CA := (.seq (.reg [i_X 0 4 (.h (.mov (.k (.d (.flt 0)))))] [0, 1]) (.seq (.reg [i_M 0 5 0, i_M 1 6 1, i_X 2 7 (.callA (kF 156) [(.t 5), (.t 6)]), i_M 3 4 7] [4]) .ret))
theorem b0M : f7 Tryz.prog 165 = some ⟨8, [(4, none)], b23.strip⟩ := by kernel_rfl
theorem a9T (A : List (List Nat)) (m n : Nat) (hA : Rk m n A) (hm : m < 2 ^ 30) (hn : n < 2 ^ 40) :
  AC Tryz.prog 178 [.d (g6 A)] [] [(100, A.map rowV), (2, [hdo 100 0 m n])] (.sl 2 0 0 m 1 m) := by
 obtain ⟨hl, hr⟩ := hA
 subst hl
 refine k9 V2 rfl f5 (λ_ => False) (by simp [g5]) ?_
 refine evx @L9.eq_1 ?_
 repeat with_reducible refine andO ?_
 refine j5 (n := A.length) (λc s => ∃ i, c + i = A.length /\ s = ⟨[(3, .sl 2 0 0 A.length 1 A.length), (9, .d (g6 A)), (10, fI A.length), (11, fI i)], [(100, (A.take i).map rowV), (2, [hd 100 A.length i n])]⟩) (s0 := ⟨_, _⟩) ?_ ⟨0, rfl, rfl⟩ ?_
 ·rw [b7U]
  exact LeT.empty (L1 := []) (by simp [d6, d9])
 rintro c s ⟨i, hc, rfl⟩
 refine evx @F3.eq_1 ?_
 refine b9 (λh => ?_) (λh => ?_)
 ·replace h := d2b h
  have e1 := hr i h
  simp -implicitDefEqProofs only [evI, hv, effC, reduceCtorEq, ↓reduceIte, n1_, n2_, n3_, n4_, n5_, i1_, i2_, i3_, i4_, i5_, i6_, i7_, P6, V4, b2H _ _ _ _ _ h]
  repeat with_reducible refine andO ?_
  refine ⟨0, (A.getD i []).length, (A.getD i []).length, rfl, ⟨_, rfl⟩, ⟨_, rfl⟩, by omega, by omega, by omega, ?_⟩
  repeat with_reducible refine andO ?_
  rw [f0 (by omega) (by omega)]
  refine ⟨c - 1, _, by omega, LeT.absorb (by decide) rfl rfl (λh => h), i + 1, by omega, ?_⟩
  have e2 : ((A.take i).map rowV).length = i := by simp; omega
  rw [e2, a2n, Z5, a9k A i h]
  simp only [renS, Heap.renH, a4L _ _ _ _ _ _ _ _ _ (by decide : (2 : Nat) ≠ 104), c75, List.map_cons, List.map_nil, e1, Nat.sub_zero, List.set_set, a98 104 100 _ _ _ (by decide) h]
  rfl
 ·replace h := d2c h
  obtain rfl : i = A.length := by omega
  refine ev ?_
  rw [List.take_length, c7j]
  have hk1 : ∀ L : Heap, L.fam 100 = some (A.map rowV) -> KpA L (hdo 100 0 A.length n) := λL hL => L7 hL (d2t _)
  exact m5 (λX => decide (X <= 100)) (λ_ h => h) (f8 (t := 2) (by decide) rfl) rfl (by simp (maxDischargeDepth := 6) [kpS, d6, d9]) (by simp (maxDischargeDepth := 6) [kpS, d6, d9, hk1])
theorem c7A {m n : Nat} {A : List (List Nat)} (hA : Rk m n A) {L : Heap} {X : Nat} (h : L.fam X = some (A.map rowV)) (r : Nat) (hr : r < m) : L.get X (r + 0) = some (rowV (A.getD r [])) /\ (A.getD r []).length = n := by
 refine ⟨?_, hA.2 r hr⟩
 unfold Heap.get
 have : r < A.length := by rw [hA.1]; exact hr
 rw [h, Nat.add_zero]
 simp [d2d, this]
theorem b6A {L L' : Heap} {H X m n : Nat} {A : List (List Nat)} (hA : Rk m n A) (h : L.get H 0 = some (hdo X 0 m n)) (hX : L.fam X = some (A.map rowV)) (h1 : L'.fam H = none) (h2 : L'.fam X = none) : Fz L L' (.sl H 0 0 m 1 m) (.d (g6 A)) :=
 c4H (o := 0) (len := n) h (λr hr => c7A hA hX r hr) hA.1 rfl h1 h2
theorem a45 {P : Program} {f : FuncId} {vs : List V} {X Y m n : Nat} {A : List (List Nat)} (h : AC P f vs [] [(X, A.map rowV), (Y, [hdo X 0 m n])] (.sl Y 0 0 m 1 m)) (hA : Rk m n A) (hXY : X ≠ Y) : Con P f vs (.d (g6 A)) :=
 a00 h (b6A hA (by rw [d8, d8, if_neg (Ne.symm hXY), if_pos rfl]; rfl) (by rw [d6, if_pos rfl]) (d9 _) (d9 _))
theorem b6z {L L' : Heap} {H X R m n : Nat} {A : List (List Nat)} {xs : List Nat} (hA : Rk m n A) (h : L.get H 0 = some (hdo X 0 m n ++ [.sl R 0 0 n 1 n])) (hX : L.fam X = some (A.map rowV)) (hR : L.get R 0 = some (rowV xs)) (hxs : xs.length = n)
  (h1 : L'.fam H = none) (h2 : L'.fam X = none) (h3 : L'.fam R = none) : Fz L L' (.sl H 0 0 (m + 1) 1 (m + 1)) (.d (g6 (A ++ [xs]))) := by
 have nf : ∀ X, L'.fam X = none -> ∀ r, ∀ Y q, L'.get Y q ≠ none -> (Y, q) ≠ (X, r) := λX hX r Y q hY e => by cases e; exact hY (D9 hX _)
 have hl : (A ++ [xs]).length = m + 1 := by simp [hA.1]
 have e : g6 (A ++ [xs]) = .bor (m + 1) (a1w (A ++ [xs])) := by unfold g6; rw [hl]
 rw [e]
 refine .d (.sl (λ_ Y q hY => nf H h1 0 Y q hY) h (by simp [y8]) (by simp [y8]) (λi hi => rfl) λi j hi hj => ?_)
 obtain rfl : j = 0 := by omega
 rw [show 0 + i * 1 + 0 = i by omega, d2d]
 by_cases hi2 : i < m
 ·rw [d2g (by rw [y8]; exact hi2), <- d2d, u6 _ _ _ _ _ hi2]
  have hg := c7A hA hX i hi2
  have e2 : (a1w (A ++ [xs]) i).getD 0 default = rowD (A.getD i []) := by
   show rowD ((A ++ [xs]).getD i []) = _
   rw [d2d, d2g (by rw [hA.1]; exact hi2), <- d2d]
  rw [e2]
  exact Z4 (λY q hY => nf X h2 _ Y q hY) hg.1 hg.2 rfl
 ·obtain rfl : i = m := by omega
  rw [d2j (by rw [y8]; omega), y8, Nat.sub_self]
  have e2 : (a1w (A ++ [xs]) i).getD 0 default = rowD xs := by
   show rowD ((A ++ [xs]).getD i []) = _
   rw [d2d, d2j (by rw [hA.1]; omega), hA.1, Nat.sub_self]
   rfl
  rw [e2]
  exact Z4 (λY q hY => nf R h3 0 Y q hY) hR hxs rfl
theorem c4v (cap : List D) : (cap.map V.d).all V.bareB = true := by
 rw [List.all_map, List.all_eq_true]
 intro x _
 rfl
theorem a7R (f : FuncId) (cap : List D) (g : Nat -> Nat -> Nat -> Nat) (A : List (List Nat)) (m n : Nat) (hA : Rk m n A) (hm : m < 2 ^ 30) (hn : n < 2 ^ 40) (hf : ∀ j i x : Nat, j < m -> i < n -> Con Tryz.prog f (fI j :: fI i :: fl x :: cap.map .d) (fl (g j i x))) :
  AC Tryz.prog 133 [.d (g6 A), .d (.fn f [] cap)] [] [(100, (mapJ g A n m).map rowV), (2, [hdo 100 0 m n])] (.sl 2 0 0 m 1 m) := by
 refine k9 T5 rfl f5 (λ_ => False) (by simp [g5]) ?_
 refine evx @J1.eq_1 ?_
 refine B0 0 [.d (g6 A)] (by simp [Heap.next]) (a9T A m n hA hm hn) ⟨.bare _, trivial⟩ ?_
 refine ev ?_
 refine r5 (n := m) (λc s => ∃ j, c + j = m /\ s = ⟨[(1, .d (.fn f [] cap)), (5, .sl 2 0 0 m 1 m), (12, fI m), (13, fI j)], [(100, (mapJ g A n j).map rowV), (2, [hdo 100 0 m n])]⟩) ⟨0, by omega, rfl⟩ ?_
 rintro c s ⟨j, hc, rfl⟩
 have hZ := a4R g hA n j
 refine evx @E5.eq_1 ?_
 refine b9 (λhj => ?_) (λhj => ?_)
 ·replace hj := d2b hj
  refine evx (u6 100 0 m n j hj) ?_
  repeat with_reducible refine andO ?_
  refine r5 (n := n) (λc s => ∃ i, c + i = n /\ s = ⟨[(1, .d (.fn f [] cap)), (5, .sl 2 0 0 m 1 m), (6, fI j), (12, fI m), (13, fI j), (19, .sl 100 j 0 n 1 n), (20, fI n), (21, fI i)], [(100, (mapI g (mapJ g A n j) j i).map rowV), (2, [hdo 100 0 m n])]⟩) ⟨0, by omega, rfl⟩ ?_
  rintro c' s ⟨i, hc', rfl⟩
  have hZ2 := a9Z g hZ j i
  have hnx : mapI g (mapJ g A n j) j (i + 1) = up2 (mapI g (mapJ g A n j) j i) j i (g j i (at2 (mapI g (mapJ g A n j) j i) j i)) := rfl
  generalize hZe : mapI g (mapJ g A n j) j i = Z at hZ2 hnx
  have hzl := hZ2.1
  have hzj := hZ2.2 j hj
  refine evx (And.intro @E4.eq_1 (u6 100 0 m n j hj)) ?_
  refine b9 (λhi => ?_) (λhi => ?_)
  ·replace hi := d2b hi
   have gk := j8 (Z.getD j []) i (by omega)
   simp -implicitDefEqProofs only [evI, hv, effC, reduceCtorEq, ↓reduceIte, n1_, n2_, n3_, n4_, n5_, i1_, i2_, i3_, i4_, i5_, i6_, i7_, u6 100 0 m n j hj, getE Z j (by omega), gk]
   repeat with_reducible refine andO ?_
   refine d5 (hf j i _ hj hi) (by show (true && (true && (true && (cap.map V.d).all V.bareB))) = true; rw [c4v]; rfl) ?_
   simp -implicitDefEqProofs only [evI, hv, effC, reduceCtorEq, ↓reduceIte, n1_, n2_, n3_, n4_, n5_, i1_, i2_, i3_, i4_, i5_, i6_, i7_, u6 100 0 m n j hj, getE Z j (by omega), setE]
   repeat with_reducible refine andO ?_
   rw [f0 (by omega) (by omega)]
   refine ⟨c' - 1, by omega, i + 1, by omega, ?_⟩
   rw [hnx]
   rfl
  ·replace hi := d2c hi
   have e : i = n := by omega
   subst e
   refine ev ?_
   rw [f0 (by omega) (by omega), <- hZe]
   exact ⟨c - 1, by omega, j + 1, by omega, rfl⟩
 ·replace hj := d2c hj
  have e : j = m := by omega
  subst e
  refine ev ?_
  have hk1 : ∀ L : Heap, L.fam 100 = some ((mapJ g A n j).map rowV) -> KpA L (hdo 100 0 j n) := λL hL => L7 hL (by have := hZ.1; omega)
  exact m5 (λX => decide (X <= 100)) (λ_ h => h) (f8 (t := 4) (by decide) rfl) rfl (by simp (maxDischargeDepth := 6) [kpS, d6, d9]) (by simp (maxDischargeDepth := 6) [kpS, d6, d9, hk1])
theorem a6Z (l d : List Nat) (k i x : Nat) (hk : k < l.length) (hi : i < d.length) (hl : l.length < 2 ^ 40) (hd : d.length < 2 ^ 40) :
  Con Tryz.prog 185 [fI k, fI i, fl x, .d (.bptr [rowD l]), .d (.bptr [rowD d])] (fl (fop .add x (fop .mul (l.getD k 0) (d.getD i 0)))) := by
 refine b7 a24 rfl f5 ?_
 refine evx @a1Z.eq_1 ?_
 repeat with_reducible refine andO ?_
 exact g9
theorem a6Y (k : Int) (hk : -10 <= k /\ k <= 10) (j i x : Nat) (hj : j < 1000) : Con Tryz.prog 134 [fI j, fI i, fl x, .d (.bptr [.int .i64 k])] (fl (scl x (j * k))) := by
 refine b7 a23 rfl f5 ?_
 refine evx @a1Y.eq_1 ?_
 have hjk : -10000 <= (j : Int) * k /\ (j : Int) * k <= 10000 := by
  constructor
  ·have := Int.mul_le_mul_of_nonneg_left hk.1 (show (0 : Int) <= (j : Int) by omega)
   omega
  ·have := Int.mul_le_mul_of_nonneg_left hk.2 (show (0 : Int) <= (j : Int) by omega)
   omega
 rw [f0 (by omega) (by omega)]
 first | refine a0 (Q5 x ((j : Int) * k) (by omega)) rfl ?_ | refine d7 (Q5 x ((j : Int) * k) (by omega)) rfl ?_ | refine d5 (Q5 x ((j : Int) * k) (by omega)) rfl ?_
 refine ev ?_
 exact g9
theorem W5 (A : List (List Nat)) (m n : Nat) (hA : Rk m n A) (hm : m < 1000) (hn : n < 2 ^ 40) (k : Int) (hk : -10 <= k /\ k <= 10) :
  AC Tryz.prog 92 [.d (g6 A), fI k] [] [(101, (J9 A k m n).map rowV), (3, [hdo 101 0 m n])] (.sl 3 0 0 m 1 m) := by
 refine k9 a49 rfl f5 (λ_ => False) (by simp [g5]) ?_
 refine evx (And.intro @a4k.eq_1 @b9a) ?_
 refine B0 1 [.d (g6 A), .d (.fn 134 [] [.bptr [.int .i64 k]])] (by simp [Heap.next]) (a7R 134 [.bptr [.int .i64 k]] (λj _ x => scl x (j * k)) A m n hA (by omega) hn (λj i x hj hi => a6Y k hk j i x (by omega)))
  ⟨.bare _, .fun1 (a9m rfl), trivial⟩ ?_
 have hZ := J8 hA k m n
 have hk1 : ∀ L : Heap, L.fam 101 = some ((J9 A k m n).map rowV) -> KpA L (hdo 101 0 m n) := λL hL => L7 hL (by have := hZ.1; omega)
 have he : mapJ (λ(j _ x : Nat) => scl x ((j : Int) * k)) A n m = J9 A k m n := rfl
 rw [he]
 refine ev ?_
 exact m5 (λX => X == 101 || X == 3) (λ_ h => h) (f8 (t := 4) (by decide) rfl) rfl (by simp (maxDischargeDepth := 6) [kpS, d6, d9]) (by simp (maxDischargeDepth := 6) [kpS, d6, d9, hk1])
theorem R9 (A : List (List Nat)) (m n : Nat) (hA : Rk m n A) (hm : m < 1000) (hn : n < 2 ^ 40) (k : Int) (hk : -10 <= k /\ k <= 10) :
  Con Tryz.prog 92 [.d (g6 A), fI k] (.d (g6 (J9 A k m n))) :=
 a45 (W5 A m n hA hm hn k hk) (J8 hA k m n) (by decide)
theorem a8K (A : List (List Nat)) (m n : Nat) (hA : Rk m n A) (hm : m < 1000) (hn : n < 2 ^ 40) (l d : List Nat) (hl : l.length = m) (hd : d.length = n) :
  Con Tryz.prog 140 [.d (g6 A), .d (rowD l), .d (rowD d)] (.d (g6 (a44 A l d m n))) := by
 refine b7 a5b rfl f5 ?_
 refine evx @a4n.eq_1 ?_
 refine evx @a2A ?_
 refine B0 2 [.d (g6 A), .d (.fn 185 [] [.bptr [rowD l], .bptr [rowD d]])] (by simp [Heap.next]) (a7R 185 [.bptr [rowD l], .bptr [rowD d]] (λk i x => fop .add x (fop .mul (l.getD k 0) (d.getD i 0))) A m n hA (by omega) hn (λj i x hj hi => a6Z l d j i x (by omega) (by omega) (by omega) (by omega)))
  ⟨.bare _, .fun2 (a9m rfl) (a9m rfl), trivial⟩ ?_
 refine ev ?_
 exact j6 (.sl 4 0 0 m 1 m) (λ_ h => h) (f8 (t := 6) (by decide) rfl) (b6A (X := 102) (a3R hA l d m n) rfl rfl rfl rfl)
theorem a8J (A : List (List Nat)) (q n : Nat) (hA : Rk (q + 1) n A) (hm : q < 1000) (hn : n < 2 ^ 40) : Con Tryz.prog 135 [.d (g6 A)] (.d (g6 (a16 A n q))) := by
 refine b7 a5a rfl f5 ?_
 refine evx @a4m.eq_1 ?_
 refine B0 0 [.d (g6 A)] (by simp [Heap.next]) (a9T A (q + 1) n hA (by omega) hn) ⟨.bare _, trivial⟩ ?_
 have w1 : IntKind.i64.wrap (((q + 1 : Nat) : Int) - 1) = (q : Int) := by rw [f0 (by omega) (by omega)]; omega
 refine evx w1 ?_
 refine r5 (n := q + 1) (λc s => ∃ j, c + j = q + 1 /\ j <= q /\ s = ⟨[(3, .sl 2 0 0 (q + 1) 1 (q + 1)), (4, fI q), (5, fI (j + 1 : Nat))], [(100, (b5H A n q j).map rowV), (2, [hdo 100 0 (q + 1) n])]⟩) ⟨0, by omega, by omega, rfl⟩ ?_
 rintro c s ⟨j, hc, hjq, rfl⟩
 have hZ := b8J hA q j
 have hnx : b5H A n q (j + 1) = b1C (b5H A n q j) n (q - 1) (q - j) := rfl
 generalize hJ : b5H A n q j = Z at hZ hnx
 refine evx @a04.eq_1 ?_
 refine b9 (λhj => ?_) (λhj => ?_)
 ·replace hj := d2b hj
  have w2 : IntKind.i64.wrap ((q : Int) - 1) = (q : Int) - 1 := f0 (by omega) (by omega)
  have w3 : IntKind.i64.wrap (((j + 1 : Nat) : Int) - 1) = (j : Int) := by rw [f0 (by omega) (by omega)]; omega
  refine evx w2 ?_
  refine r5 (n := q - j + 1) (λc s => ∃ k, c + k = q - j + 1 /\ k <= q - j /\ s = ⟨[(3, .sl 2 0 0 (q + 1) 1 (q + 1)), (4, fI q), (5, fI (j + 1 : Nat)), (6, fI ((q : Int) - 1 - k))], [(100, (b1C Z n (q - 1) k).map rowV), (2, [hdo 100 0 (q + 1) n])]⟩) ⟨0, by omega, by omega, by simp [b1C]⟩ ?_
  rintro c' s ⟨k, hc', hkq, rfl⟩
  have hZk := b8H hZ (q - 1) k
  have hnk : b1C Z n (q - 1) (k + 1) = addI (b1C Z n (q - 1) k) (q - 1 - k) n := rfl
  generalize hK : b1C Z n (q - 1) k = Y at hZk hnk
  refine evx (And.intro @a03.eq_1 w3) ?_
  refine b9 (λhk => ?_) (λhk => ?_)
  ·replace hk := d2b hk
   obtain ⟨r, hr⟩ : ∃ r : Nat, (q : Int) - 1 - k = r := ⟨((q : Int) - 1 - k).toNat, by omega⟩
   have hrq : r < q + 1 := by omega
   have hr1 : r + 1 < q + 1 := by omega
   have hrk : q - 1 - k = r := by omega
   rw [hrk] at hnk
   rw [hr]
   have w4 : IntKind.i64.wrap ((r : Int) + 1) = ((r + 1 : Nat) : Int) := by rw [f0 (by omega) (by omega)]; omega
   refine evx (u6 100 0 (q + 1) n r hrq) ?_
   repeat with_reducible refine andO ?_
   refine r5 (n := n) (λc s => ∃ i, c + i = n /\ s = ⟨[(3, .sl 2 0 0 (q + 1) 1 (q + 1)), (4, fI q), (5, fI (j + 1 : Nat)), (6, fI r), (30, fI n), (31, fI i)], [(100, (addI Y r i).map rowV), (2, [hdo 100 0 (q + 1) n])]⟩) ⟨0, by omega, rfl⟩ ?_
   rintro c2 s ⟨i, hc2, rfl⟩
   have hZi := c4B hZk r i
   have hni : addI Y r (i + 1) = up2 (addI Y r i) r i (fop .add (at2 (addI Y r i) r i) (at2 (addI Y r i) (r + 1) i)) := rfl
   generalize hI : addI Y r i = X at hZi hni
   have l0 := hZi.1
   have l1 := hZi.2 r hrq
   have l2 := hZi.2 (r + 1) hr1
   refine evx @a02.eq_1 ?_
   refine b9 (λhi => ?_) (λhi => ?_)
   ·replace hi := d2b hi
    have g1 := j8 (X.getD r []) i (by omega)
    have g2 := j8 (X.getD (r + 1) []) i (by omega)
    simp -implicitDefEqProofs only [evI, hv, effC, reduceCtorEq, ↓reduceIte, n1_, n2_, n3_, n4_, n5_, i1_, i2_, i3_, i4_, i5_, i6_, i7_, u6 100 0 (q + 1) n r hrq, u6 100 0 (q + 1) n (r + 1) hr1, w4, getE X r (by omega), getE X (r + 1) (by omega), g1, g2, setE]
    repeat with_reducible refine andO ?_
    rw [f0 (by omega) (by omega)]
    refine ⟨c2 - 1, by omega, i + 1, by omega, ?_⟩
    rw [hni]
    rfl
   ·replace hi := d2c hi
    have e : i = n := by omega
    subst e
    refine ev ?_
    rw [f0 (by omega) (by omega)]
    refine ⟨c' - 1, by omega, k + 1, by omega, by omega, ?_⟩
    rw [hnk, hI]
    have e2 : (r : Int) - 1 = (q : Int) - 1 - ((k + 1 : Nat) : Int) := by omega
    rw [e2]
  ·replace hk := d2c hk
   have e : k = q - j := by omega
   subst e
   refine ev ?_
   rw [f0 (by omega) (by omega)]
   refine ⟨c - 1, by omega, j + 1, by omega, by omega, ?_⟩
   rw [hnx, hK]
   rfl
 ·replace hj := d2c hj
  have e : j = q := by omega
  subst e
  refine ev ?_
  have hp : a16 A n j = Z := hJ
  rw [hp]
  exact j6 (.sl 2 0 0 (j + 1) 1 (j + 1)) (λ_ h => h) (f8 (t := 2) (by decide) rfl) (b6A (X := 100) hZ rfl rfl rfl rfl)
def c7G : CA := (.seq (.reg [i_X 0 2 (.h (.mov (.k (.d (.flt 0)))))] [0]) (.seq (.reg [i_M 0 3 0, i_X 1 4 (.h (.i2f (.t 3))), i_X 2 5 (.h (.fbin .div (.t 4) (.k (.d (.flt 4742290407621132288))))), i_M 3 2 5] [2]) .ret))
theorem b8s : f7 Tryz.prog 71 = some ⟨6, [(2, none)], c7G.strip⟩ := by kernel_rfl
theorem c5s (step : Int) : Con Tryz.prog 71 [fI step] (fl (fop .div (FloatKind.nearest .f64 step) 4742290407621132288)) := by
 refine b7 b8s rfl f5 ?_
 refine evx @c7G.eq_1 ?_
 exact g9
theorem c0c (k : Int) (x y : Nat) (hk : k = 2 \/ k = 3 \/ k = 4 \/ k = 5) : Con Tryz.prog 175 [fI k, fl x, fl y] (fl (if k = 2 then fop .add x y else if k = 3 then fop .sub x y else if k = 4 then fop .mul x y else fop .div x y)) := by
 refine b7 b4R rfl f5 ?_
 refine evx @b9H.eq_1 ?_
 rcases hk with rfl | rfl | rfl | rfl
 ·refine evb ?_
  exact g9
 ·refine evb ?_
  exact g9
 ·refine evb ?_
  exact g9
 ·refine evb ?_
  exact g9
def padR (t : Tp) (x : List Nat) (i : Nat) : List Nat := regs t x i ++ List.replicate (t.ops.length - i) 0
theorem c5C (t : Tp) (x : List Nat) (i : Nat) (hi : i <= t.ops.length) : (padR t x i).length = t.ops.length := by simp [padR, Z7]; omega
theorem c5B (t : Tp) (x : List Nat) (i : Nat) (hi : i < t.ops.length) : (padR t x i).set i (opV (t.ops.getD i ⟨0, 0, 0, 0⟩) x (regs t x i)) = padR t x (i + 1) := by
 have hl := Z7 t x i
 unfold padR
 rw [List.set_append_right _ _ (by omega), hl, Nat.sub_self]
 obtain ⟨m, hm⟩ : ∃ m, t.ops.length - i = m + 1 := ⟨t.ops.length - i - 1, by omega⟩
 rw [hm, show t.ops.length - (i + 1) = m from by omega, List.replicate_succ, List.set_cons_zero]
 simp [regs]
theorem c2J (t : Tp) (x : List Nat) (i j : Nat) (hj : j < i) : (padR t x i).getD j 0 = (regs t x i).getD j 0 := by
 have hl := Z7 t x i
 unfold padR
 rw [d2d, d2d, d2g (by omega)]
theorem c0d (t : Tp) (x : List Nat) (ht : Tok t) (hx : x.length = t.n) : AC Tryz.prog 128 [R7 t, .d (rowD x)] [] [(0, [rowV (b4m t x)])] (.sl 0 0 0 t.n 1 t.n) := by
 refine a5v (X := 100) ?_
 refine k9 b10 rfl f5 (λ_ => False) (by simp [g5]) ?_
 have hlen := ht.len
 refine evx (And.intro @b6E.eq_1 @opsD.eq_1) ?_
 repeat with_reducible refine andO ?_
 have hp0 : List.replicate t.ops.length 0 = padR t x 0 := by simp [padR, regs]
 rw [hp0]
 refine j5 (n := t.ops.length) (λc s => ∃ i, c + i = t.ops.length /\ s = ⟨[(1, .d (rowD x)), (2, .ptr 0 0 0 3), (5, .sl 4 0 0 t.ops.length 1 t.ops.length), (6, fI i)],
   [(4, [rowV (padR t x i)]), (0, [[fI t.n, .d (opsD t.ops), .d (rowI t.out)]])]⟩) (Le.refl _) ⟨0, by omega, rfl⟩ ?_
 rintro c s ⟨i, hc, rfl⟩
 have hl := c5C t x i (by omega)
 refine evx (And.intro @a79.eq_1 @opsD.eq_1) ?_
 refine b9 (λh => ?_) (λh => ?_)
 ·replace h := d2b h
  have hop := ht.op i h
  have hset := c5B t x i h
  generalize ho : t.ops.getD i ⟨0, 0, 0, 0⟩ = o at hop hset
  refine evx (And.intro @opG.eq_1 ho) ?_
  repeat with_reducible refine andO ?_
  rcases hop with hk | ⟨hk, ha⟩ | ⟨hk, ha, hb⟩
  ·have hvv : opV o x (regs t x i) = o.c := by simp [opV, hk]
   rw [hvv] at hset
   refine evbx hk ?_
   repeat with_reducible refine andO ?_
   rw [f0 (by omega) (by omega), hset]
   rw [show List.map fl (padR t x (i + 1)) = rowV (padR t x (i + 1)) from rfl]
   exact ⟨c - 1, _, by omega, LeT.only (λX => decide (X <= 4)) (λ_ h => h) rfl (by simp [kpS]) (by simp [kpS]), i + 1, by omega, rfl⟩
  ·have hvv : opV o x (regs t x i) = x.getD o.a.toNat 0 := by simp [opV, hk]
   rw [hvv] at hset
   refine evbx hk ?_
   repeat with_reducible refine andO ?_
   rw [f0 (by omega) (by omega), hset]
   rw [show List.map fl (padR t x (i + 1)) = rowV (padR t x (i + 1)) from rfl]
   exact ⟨c - 1, _, by omega, LeT.only (λX => decide (X <= 4)) (λ_ h => h) rfl (by simp [kpS]) (by simp [kpS]), i + 1, by omega, rfl⟩
  ·have k0 : (o.k == 0) = false := by simp; omega
   have k1 : (o.k == 1) = false := by simp; omega
   have ga : (rowV (padR t x i)).getD o.a.toNat .any = fl ((regs t x i).getD o.a.toNat 0) := by
    rw [<- c2J t x i _ (by omega)]; exact j8 _ _ (by omega)
   have gb : (rowV (padR t x i)).getD o.b.toNat .any = fl ((regs t x i).getD o.b.toNat 0) := by
    rw [<- c2J t x i _ (by omega)]; exact j8 _ _ (by omega)
   have hvv : opV o x (regs t x i) = (if o.k = 2 then fop .add ((regs t x i).getD o.a.toNat 0) ((regs t x i).getD o.b.toNat 0) else if o.k = 3 then fop .sub ((regs t x i).getD o.a.toNat 0) ((regs t x i).getD o.b.toNat 0) else if o.k = 4 then fop .mul ((regs t x i).getD o.a.toNat 0) ((regs t x i).getD o.b.toNat 0) else fop .div ((regs t x i).getD o.a.toNat 0) ((regs t x i).getD o.b.toNat 0)) := by
    unfold opV; rw [if_neg (by omega), if_neg (by omega)]
   have hone := c0c o.k ((regs t x i).getD o.a.toNat 0) ((regs t x i).getD o.b.toNat 0) hk
   rw [<- hvv] at hone
   refine evx (And.intro k0 (And.intro k1 (And.intro ga gb))) ?_
   repeat with_reducible refine andO ?_
   refine a0 (hone) rfl ?_
   refine ev ?_
   repeat with_reducible refine andO ?_
   rw [f0 (by omega) (by omega), hset]
   rw [show List.map fl (padR t x (i + 1)) = rowV (padR t x (i + 1)) from rfl]
   exact ⟨c - 1, _, by omega, LeT.only (λX => decide (X <= 4)) (λ_ h => h) rfl (by simp [kpS]) (by simp [kpS]), i + 1, by omega, rfl⟩
 ·replace h := d2c h
  have e : i = t.ops.length := by omega
  subst e
  have hfull : padR t x t.ops.length = regs t x t.ops.length := by simp [padR]
  rw [hfull] at hl ⊢
  have hn := ht.n
  refine ev ?_
  refine j5 (n := t.n) (λc s => ∃ i, c + i = t.n /\ s = ⟨[(2, .ptr 0 0 0 3), (5, .sl 4 0 0 t.ops.length 1 t.ops.length), (8, .sl 100 0 0 i 1 i), (9, fI i)],
   [(100, [rowV (tabR (λi => (regs t x t.ops.length).getD (t.out.getD i 0).toNat 0) i)]), (4, [rowV (regs t x t.ops.length)]), (0, [[fI t.n, .d (opsD t.ops), .d (rowI t.out)]])]⟩)
   (s0 := ⟨_, _⟩) (LeT.nilrow (X := 100) (esz := 1) (as' := [(2, .ptr 0 0 0 3), (5, .sl 4 0 0 t.ops.length 1 t.ops.length), (8, .sl 100 0 0 0 1 0), (9, fI 0)]) (by simp [d6, d9]) (λh => h) λi => ?_) ⟨0, by omega, rfl⟩ ?_
  ·simp only [look]
   repeat' split
   all_goals simp
  rintro c s ⟨i, hc, rfl⟩
  have hl2 := k8 (λi => (regs t x t.ops.length).getD (t.out.getD i 0).toNat 0) i
  refine evx @a78.eq_1 ?_
  refine b9 (λh2 => ?_) (λh2 => ?_)
  ·replace h2 := d2b h2
   have ho := ht.out i h2
   have hol := ht.outl
   have ga : (rowV (regs t x t.ops.length)).getD (t.out.getD i 0).toNat .any = fl ((regs t x t.ops.length).getD (t.out.getD i 0).toNat 0) := j8 _ _ (by omega)
   refine evx ga ?_
   repeat with_reducible refine andO ?_
   have e2 : rowV (tabR (λi => (regs t x t.ops.length).getD (t.out.getD i 0).toNat 0) i) ++ [fl ((regs t x t.ops.length).getD (t.out.getD i 0).toNat 0)] = rowV (tabR (λi => (regs t x t.ops.length).getD (t.out.getD i 0).toNat 0) (i + 1)) := (J6 _ _).symm
   rw [f0 (by omega) (by omega), e2]
   exact ⟨c - 1, _, by omega, LeT.only (λX => decide (X <= 100)) (λ_ h => h) rfl (by simp [kpS]) (by simp [kpS]), i + 1, by omega, rfl⟩
  ·replace h2 := d2c h2
   have e : i = t.n := by omega
   subst e
   refine ev ?_
   exact m5 (λX => X == 100) (λ_ h => h) (f8 (t := 4) (by decide) rfl) rfl (by simp [kpS]) (by simp [kpS])
end Go.Ab
namespace Go.Ab
open Nat renaming reduceEqDiff -> n1_, reduceAdd -> n2_, reduceMul -> n3_, reduceLT -> n4_, reduceLeDiff -> n5_
open Int renaming reduceToNat -> i1_, reduceAdd -> i2_, reduceSub -> i3_, reduceMul -> i4_, reduceNeg -> i5_, reduceLT -> i6_, reduceLE -> i7_
open Go Go.Proofs
theorem a7P (A : List (List Nat)) (m n : Nat) (hA : Rk m n A) (hm : m < 2 ^ 30) (hn : n < 2 ^ 40) :
  AC Tryz.prog 99 [.d (g6 A)] [] [(200, A.map rowV), (100, [hdo 200 0 m n])] (.sl 100 0 0 m 1 m) := by
 obtain ⟨hl, hr⟩ := hA
 refine k9 a8X rfl f5 (λ_ => False) (by simp [g5]) ?_
 refine evx @b0G.eq_1 ?_
 refine j5 (n := m) (λc s => ∃ i, c + i = m /\ s = ⟨[(0, .d (g6 A)), (3, .sl 100 0 0 i 1 i), (4, fI i)], [(200, (A.take i).map rowV), (100, [hdo 200 0 i n])]⟩)
  (s0 := ⟨_, _⟩) (Le.trans (LeT.nilrow (X := 100) (esz := 1) (as' := [(0, .d (g6 A)), (3, .sl 100 0 0 0 1 0), (4, fI 0)]) rfl (λh => h) λi => ?_) (LeT.empty (X := 200) (L1 := []) (by simp [d6, d9]))) ⟨0, by omega, rfl⟩ ?_
 ·simp only [look]
  repeat' split
  all_goals simp [g6]
 rintro c s ⟨i, hc, rfl⟩
 refine evx @a4g.eq_1 ?_
 refine b9 (λh => ?_) (λh => ?_)
 ·replace h := d2b h
  have hin : i < m := by omega
  have g1 := hr i hin
  refine evx (And.intro @Nat.zero_mul @Nat.zero_le) ?_
  repeat with_reducible refine andO ?_
  rw [f0 (by omega) (by omega), g1]
  have hk1 : ∀ L : Heap, L.fam 200 = some ((A.take i).map rowV) -> KpA L (hdo 200 0 i n) := λL hL => L7 hL (by simp; omega)
  have htk := a9k A i h
  refine ⟨c - 1, _, by omega, ?_, i + 1, by omega, rfl⟩
  rw [<- htk]
  generalize hB : A.take i = B at hk1
  have e2 : (B.map rowV).length = i := by rw [<- hB]; simp; omega
  generalize hxs : A.getD i [] = xs
  refine Le.trans (LeT.only (L' := [(202, [rowV xs]), (200, B.map rowV), (100, [hdo 200 0 i n ++ [.sl 202 0 0 n 1 n]])]) (λX => X != 208) (λ_ h => h) rfl (by simp (maxDischargeDepth := 6) [kpS, d6, d9]) (by simp (maxDischargeDepth := 6) [kpS, d6, d9, hk1])) ?_
  have := LeT.absorb (N := λ_ => False) (nt := 21) (Y := 202) (X := 200) (cells := rowV xs) (fam := B.map rowV) (L := [(100, [hdo 200 0 i n ++ [.sl 202 0 0 n 1 n]])])
   (sls := [(0, .d (g6 A)), (3, .sl 100 0 0 (i + 1) 1 (i + 1)), (4, fI ((i : Int) + 1))]) (by decide) (by simp [d6, d9]) (by simp [d6, d9]) (λh => h)
  have e3 : Heap.renH (absF 202 200 i) [(100, [hdo 200 0 i n ++ [.sl 202 0 0 n 1 n]])] = [(100, [hdo 200 0 (i + 1) n])] := by
   simp only [Heap.renH, List.map_cons, List.map_nil, b7T 202 200 _ _ (by decide)]
  rw [e2, a2n, Z5, e3] at this
  exact this
 ·replace h := d2c h
  refine ev ?_
  obtain rfl : m = i := by omega
  have e : A.take m = A := d2r (by omega)
  rw [e]
  have hk1 : ∀ L : Heap, L.fam 200 = some (A.map rowV) -> KpA L (hdo 200 0 m n) := λL hL => L7 hL (by omega)
  exact m5 (λX => decide (X <= 200)) (λ_ h => h) (f8 (t := 2) (by decide) rfl) rfl (by simp (maxDischargeDepth := 6) [kpS, d6, d9]) (by simp (maxDischargeDepth := 6) [kpS, d6, d9, hk1])
theorem b5z (x : Nat) (k : Int) (hk : -1000000 < k /\ k < 1000000) : Con Tryz.prog 165 [fl x, fI k] (fl (scl x k)) := by
 refine b7 b0M rfl f5 ?_
 refine evx @b23.eq_1 ?_
 refine a0 (a39 x k hk) rfl ?_
 refine ev ?_
 exact g9
theorem b1y (A : List (List Nat)) (m n : Nat) (hA : Rk m n A) (hm : m < 1000) (hn : n < 2 ^ 40) (l d : List Nat) (hl : l.length = m) (hd : d.length = n) :
  Con Tryz.prog 110 [.d (g6 A), .d (rowD l), .d (rowD d)] (.d (g6 (a44 A l d m n))) := by
 refine b7 a7j rfl f5 ?_
 refine evx @a76.eq_1 ?_
 refine B0 0 [.d (g6 A)] (by simp [Heap.next]) (a7P A m n hA (by omega) hn) ⟨.bare _, trivial⟩ ?_
 refine ev ?_
 unfold a44
 generalize hg : (λk i x => fop .add x (fop .mul (l.getD k 0) (d.getD i 0))) = g
 have hg' : ∀ k i x, fop .add x (fop .mul (l.getD k 0) (d.getD i 0)) = g k i x := λk i x => by rw [<- hg]
 refine r5 (n := m) (λc s => ∃ j, c + j = m /\ s = ⟨[(1, .d (rowD l)), (2, .d (rowD d)), (7, .sl 100 0 0 m 1 m), (8, fI j)], [(200, (mapJ g A n j).map rowV), (100, [hdo 200 0 m n])]⟩) ⟨0, by omega, rfl⟩ ?_
 rintro c s ⟨j, hc, rfl⟩
 have hZ := a4R g hA n j
 refine evx @a2Z.eq_1 ?_
 refine b9 (λhj => ?_) (λhj => ?_)
 ·replace hj := d2b hj
  refine ev ?_
  refine r5 (n := n) (λc s => ∃ i, c + i = n /\ s = ⟨[(1, .d (rowD l)), (2, .d (rowD d)), (7, .sl 100 0 0 m 1 m), (8, fI j), (9, fI i)], [(200, (mapI g (mapJ g A n j) j i).map rowV), (100, [hdo 200 0 m n])]⟩) ⟨0, by omega, rfl⟩ ?_
  rintro c' s ⟨i, hc', rfl⟩
  have hZ2 := a9Z g hZ j i
  have hnx : mapI g (mapJ g A n j) j (i + 1) = up2 (mapI g (mapJ g A n j) j i) j i (g j i (at2 (mapI g (mapJ g A n j) j i) j i)) := rfl
  generalize hZe : mapI g (mapJ g A n j) j i = Z at hZ2 hnx
  have hzl := hZ2.1
  have hzj := hZ2.2 j hj
  refine evx @a2Y.eq_1 ?_
  refine b9 (λhi => ?_) (λhi => ?_)
  ·replace hi := d2b hi
   have gk := j8 (Z.getD j []) i (by omega)
   simp -implicitDefEqProofs only [evI, hv, effC, reduceCtorEq, ↓reduceIte, n1_, n2_, n3_, n4_, n5_, i1_, i2_, i3_, i4_, i5_, i6_, i7_, u6 200 0 m n j hj, getE Z j (by omega), gk, setE, hg']
   repeat with_reducible refine andO ?_
   rw [f0 (by omega) (by omega)]
   refine ⟨c' - 1, by omega, i + 1, by omega, ?_⟩
   rw [hnx]
   rfl
  ·replace hi := d2c hi
   have e : i = n := by omega
   subst e
   refine ev ?_
   rw [f0 (by omega) (by omega), <- hZe]
   exact ⟨c - 1, by omega, j + 1, by omega, rfl⟩
 ·replace hj := d2c hj
  have e : j = m := by omega
  subst e
  refine ev ?_
  exact j6 (.sl 100 0 0 j 1 j) (λ_ h => h) (f8 (t := 6) (by decide) rfl) (b6A (X := 200) hZ rfl rfl rfl rfl)
theorem a5G (A : List (List Nat)) (m n : Nat) (hA : Rk m n A) (hm : m < 1000) (hn : n < 2 ^ 40) (k : Int) (hk : -10 <= k /\ k <= 10) :
  AC Tryz.prog 107 [.d (g6 A), fI k] [] [(200, (J9 A k m n).map rowV), (100, [hdo 200 0 m n])] (.sl 100 0 0 m 1 m) := by
 refine k9 a7g rfl f5 (λ_ => False) (by simp [g5]) ?_
 refine evx @a75.eq_1 ?_
 refine B0 0 [.d (g6 A)] (by simp [Heap.next]) (a7P A m n hA (by omega) hn) ⟨.bare _, trivial⟩ ?_
 refine ev ?_
 unfold J9
 generalize hg : (λ(j : Nat) (_ : Nat) x => scl x ((j : Int) * k)) = g
 have hg' : ∀ (j i : Nat) x, scl x ((j : Int) * k) = g j i x := λj i x => by rw [<- hg]
 refine r5 (n := m) (λc s => ∃ j, c + j = m /\ s = ⟨[(1, fI k), (5, .sl 100 0 0 m 1 m), (6, fI j)], [(200, (mapJ g A n j).map rowV), (100, [hdo 200 0 m n])]⟩) ⟨0, by omega, rfl⟩ ?_
 rintro c s ⟨j, hc, rfl⟩
 have hZ := a4R g hA n j
 refine evx @a2X.eq_1 ?_
 refine b9 (λhj => ?_) (λhj => ?_)
 ·replace hj := d2b hj
  have hjk : -10000 <= (j : Int) * k /\ (j : Int) * k <= 10000 := by
   constructor
   ·have := Int.mul_le_mul_of_nonneg_left hk.1 (show (0 : Int) <= (j : Int) by omega)
    omega
   ·have := Int.mul_le_mul_of_nonneg_left hk.2 (show (0 : Int) <= (j : Int) by omega)
    omega
  have w1 : IntKind.i64.wrap ((j : Int) * k) = (j : Int) * k := f0 (by omega) (by omega)
  refine ev ?_
  refine r5 (n := n) (λc s => ∃ i, c + i = n /\ s = ⟨[(1, fI k), (5, .sl 100 0 0 m 1 m), (6, fI j), (7, fI i)], [(200, (mapI g (mapJ g A n j) j i).map rowV), (100, [hdo 200 0 m n])]⟩) ⟨0, by omega, rfl⟩ ?_
  rintro c' s ⟨i, hc', rfl⟩
  have hZ2 := a9Z g hZ j i
  have hnx : mapI g (mapJ g A n j) j (i + 1) = up2 (mapI g (mapJ g A n j) j i) j i (g j i (at2 (mapI g (mapJ g A n j) j i) j i)) := rfl
  generalize hZe : mapI g (mapJ g A n j) j i = Z at hZ2 hnx
  have hzl := hZ2.1
  have hzj := hZ2.2 j hj
  refine evx (And.intro @a2W.eq_1 (u6 200 0 m n j hj)) ?_
  repeat with_reducible refine andO ?_
  refine b9 (λhi => ?_) (λhi => ?_)
  ·replace hi := d2b hi
   have gk := j8 (Z.getD j []) i (by omega)
   simp -implicitDefEqProofs only [evI, hv, effC, reduceCtorEq, ↓reduceIte, n1_, n2_, n3_, n4_, n5_, i1_, i2_, i3_, i4_, i5_, i6_, i7_, u6 200 0 m n j hj, getE Z j (by omega), gk, setE, w1]
   repeat with_reducible refine andO ?_
   refine d5 (b5z ((Z.getD j []).getD i 0) ((j : Int) * k) (by omega)) rfl ?_
   simp -implicitDefEqProofs only [evI, hv, effC, reduceCtorEq, ↓reduceIte, n1_, n2_, n3_, n4_, n5_, i1_, i2_, i3_, i4_, i5_, i6_, i7_, u6 200 0 m n j hj, getE Z j (by omega), setE, hg' j i]
   repeat with_reducible refine andO ?_
   rw [f0 (by omega) (by omega)]
   refine ⟨c' - 1, by omega, i + 1, by omega, ?_⟩
   rw [hnx]
   rfl
  ·replace hi := d2c hi
   have e : i = n := by omega
   subst e
   refine ev ?_
   rw [f0 (by omega) (by omega), <- hZe]
   exact ⟨c - 1, by omega, j + 1, by omega, rfl⟩
 ·replace hj := d2c hj
  have e : j = m := by omega
  subst e
  refine ev ?_
  have hk1 : ∀ L : Heap, L.fam 200 = some ((mapJ g A n j).map rowV) -> KpA L (hdo 200 0 j n) := λL hL => L7 hL (by have := hZ.1; omega)
  exact m5 (λX => X == 200 || X == 100) (λ_ h => h) (f8 (t := 4) (by decide) rfl) rfl (by simp (maxDischargeDepth := 6) [kpS, d6, d9]) (by simp (maxDischargeDepth := 6) [kpS, d6, d9, hk1])
theorem a36 (A : List (List Nat)) (m n : Nat) (hA : Rk m n A) (hm : m < 1000) (hn : n < 2 ^ 40) (k : Int) (hk : -10 <= k /\ k <= 10) :
  Con Tryz.prog 107 [.d (g6 A), fI k] (.d (g6 (J9 A k m n))) :=
 a45 (a5G A m n hA hm hn k hk) (J8 hA k m n) (by decide)
theorem c7C {L L' : Heap} {H A B n m : Nat} {xs ys : List Nat} (h : L.get H 0 = some [.sl A 0 0 n 1 n, .sl B 0 0 m 1 m]) (hA : L.get A 0 = some (rowV xs)) (hB : L.get B 0 = some (rowV ys)) (ha : xs.length = n) (hb : ys.length = m)
  (h1 : L'.fam H = none) (h2 : L'.fam A = none) (h3 : L'.fam B = none) : Fz L L' (.sl H 0 0 2 1 2) (.d (g6 [xs, ys])) := by
 have nf : ∀ X, L'.fam X = none -> ∀ r, ∀ Y q, L'.get Y q ≠ none -> (Y, q) ≠ (X, r) := λX hX r Y q hY e => by cases e; exact hY (D9 hX _)
 refine .d (.sl (λ_ Y q hY => nf H h1 0 Y q hY) h rfl (by simp) (λi hi => rfl) λi j hi hj => ?_)
 obtain rfl : j = 0 := by omega
 have hi : i < 2 := hi
 rcases i with _ | _ | i
 ·exact Z4 (λY q hY => nf A h2 0 Y q hY) hA ha rfl
 ·exact Z4 (λY q hY => nf B h3 0 Y q hY) hB hb rfl
 ·omega
theorem d0B : ((List.range 60).all λj => scl (FloatKind.nearest .f64 ((2 ^ j : Nat) : Int)) (-30) == hW (2 ^ j)) = true := by kernel_rfl
theorem a0Z (j : Nat) (hj : j < 60) : Con Tryz.prog 96 [fl (FloatKind.nearest .f64 ((2 ^ j : Nat) : Int)), fI (-30)] (fl (hW (2 ^ j))) := by
 have h := List.all_eq_true.1 d0B j (by simpa using hj)
 rw [<- eq_of_beq h]
 exact Q5 _ _ (by decide)
theorem c2t (j : Nat) : Con Tryz.prog 71 [fI ((2 ^ j : Nat) : Int)] (fl (hW (2 ^ j))) := by
 have h := c5s ((2 ^ j : Nat) : Int)
 have e : fop .div (FloatKind.nearest .f64 ((2 ^ j : Nat) : Int)) 4742290407621132288 = hW (2 ^ j) := by
  unfold hW; rw [show FloatKind.nearest .f64 1073741824 = 4742290407621132288 by kernel_rfl]
 rwa [e] at h
theorem P3 (t : Tp) (y : List Nat) (j : Nat) (ht : Tok t) (hy : y.length = t.n) (hj : j < 60) :
  Con Tryz.prog 56 [R7 t, .d (rowD y), fI ((2 ^ j : Nat) : Int)] (ndV ⟨0, ((2 ^ j : Nat) : Int), 1, 0, a5z t y (hW (2 ^ j))⟩) := by
 have hn := ht.n
 refine b7 a7n rfl f5 ?_
 refine evx @a8c.eq_1 ?_
 first | refine a0 (a0Z j hj) rfl ?_ | refine d7 (a0Z j hj) rfl ?_ | refine d5 (a0Z j hj) rfl ?_
 generalize hW (2 ^ j) = h
 generalize ((2 ^ j : Nat) : Int) = st
 refine ev ?_
 repeat with_reducible refine andO ?_
 refine F7 100 [R7 t, .d (rowD y)] (by simp [Heap.next]) (a7M t y ht hy) ⟨.aggs ⟨.bare _, .bare _, .bare _, trivial⟩, .bare _, trivial⟩ ?_
 have hfl := a57 t y
 unfold a5z
 generalize b4m t y = f at hfl
 generalize hg : (λi => fop .mul h (f.getD i 0)) = g
 have hg' : ∀ i, fop .mul h (f.getD i 0) = g i := λi => by rw [<- hg]
 refine ev ?_
 refine j5 (n := t.n) (λc s => ∃ i, c + i = t.n /\ s = ⟨[(1, .d (rowD y)), (2, fI st), (6, .ptr 1 0 0 5), (7, fl h), (8, .sl 4 0 0 i 1 i), (19, .sl 100 0 0 t.n 1 t.n), (20, fI t.n), (21, fI i)],
  [(100, [rowV f]), (4, [rowV (tabR g i)]), (1, [[fI 0, fI 0, fI 0, fI 0, .nil]])]⟩) (s0 := ⟨_, _⟩) (LeT.only (L' := [(100, [rowV f]), (4, [rowV (tabR g 0)]), (1, [[fI 0, fI 0, fI 0, fI 0, .nil]])]) (λX => X != 0) (λ_ h => h) rfl (by simp [kpS]) (by simp [kpS])) ⟨0, by omega, rfl⟩ ?_
 rintro c s ⟨i, hc, rfl⟩
 have hl := k8 g i
 refine evx @a22.eq_1 ?_
 refine b9 (λhi => ?_) (λhi => ?_)
 ·replace hi := d2b hi
  have gk := j8 f i (by omega)
  refine evx (And.intro gk hg') ?_
  repeat with_reducible refine andO ?_
  have e2 : rowV (tabR g i) ++ [fl (g i)] = rowV (tabR g (i + 1)) := (J6 _ _).symm
  rw [f0 (by omega) (by omega), e2]
  exact ⟨c - 1, _, by omega, LeT.only (λX => X == 100 || X == 4 || X == 1) (λ_ h => h) rfl (by simp [kpS]) (by simp [kpS]), i + 1, by omega, rfl⟩
 ·replace hi := d2c hi
  have e : i = t.n := by omega
  subst e
  refine evx (And.intro @P6 @V4) ?_
  repeat with_reducible refine andO ?_
  rw [if_pos ⟨hl, by omega⟩]
  have hta : List.take t.n (rowV (tabR g t.n)) = rowV (tabR g t.n) := d2r (by simp [hl])
  rw [hta]
  simp only []
  refine ⟨⟨by omega, by simp [hl], by simp [rowV, V.isCell]⟩, ?_⟩
  exact j6 (.agg [fI 0, fI st, fI 1, fI 0, .sl 106 0 0 2 1 2]) (λ_ h => h) (g8 (by decide) rfl rfl rfl (by simp) rfl)
   (D5 _ _ ⟨Fz_d _, Fz_d _, Fz_d _, Fz_d _, c7C (A := 103) (B := 105) rfl rfl rfl rfl hl rfl rfl rfl, trivial⟩)
theorem b5w (t : Tp) (y : List Nat) (j : Nat) (ht : Tok t) (hy : y.length = t.n) (hj : j < 60) :
  Con Tryz.prog 77 [R7 t, .d (rowD y), fI ((2 ^ j : Nat) : Int)] (ndV ⟨0, ((2 ^ j : Nat) : Int), 1, 0, a5z t y (hW (2 ^ j))⟩) := by
 have hn := ht.n
 have hH := c2t j
 refine b7 b0H rfl f5 ?_
 refine evx @b2Z.eq_1 ?_
 generalize hW (2 ^ j) = h at hH
 generalize ((2 ^ j : Nat) : Int) = st at hH
 refine F7 100 [R7 t, .d (rowD y)] (by simp [Heap.next]) (c0d t y ht hy) ⟨.aggs ⟨.bare _, .bare _, .bare _, trivial⟩, .bare _, trivial⟩ ?_
 have hfl := a57 t y
 unfold a5z
 generalize b4m t y = f at hfl
 generalize hg : (λi => fop .mul h (f.getD i 0)) = g
 have hg' : ∀ i, fop .mul h (f.getD i 0) = g i := λi => by rw [<- hg]
 refine ev ?_
 refine j5 (n := t.n) (λc s => ∃ i, c + i = t.n /\ s = ⟨[(1, .d (rowD y)), (2, fI st), (6, .ptr 1 0 0 5), (7, .sl 100 0 0 t.n 1 t.n), (8, .sl 101 0 0 i 1 i), (9, fI i)],
  [(101, [rowV (tabR g i)]), (100, [rowV f]), (1, [[fI 0, fI 0, fI 0, fI 0, .nil]])]⟩) (s0 := ⟨_, _⟩) (Le.trans (LeT.nilrow (X := 101) (esz := 1) (as' := [(1, .d (rowD y)), (2, fI st), (6, .ptr 1 0 0 5), (7, .sl 100 0 0 t.n 1 t.n), (8, .sl 101 0 0 0 1 0), (9, fI 0)]) (by simp [d6, d9]) (λh => h) λi => ?_)
   (LeT.only (L' := [(101, [rowV (tabR g 0)]), (100, [rowV f]), (1, [[fI 0, fI 0, fI 0, fI 0, .nil]])]) (λX => X != 0) (λ_ h => h) rfl (by simp [kpS]) (by simp [kpS]))) ⟨0, by omega, rfl⟩ ?_
 ·simp only [look]
  repeat' split
  all_goals simp [rowD]
 rintro c s ⟨i, hc, rfl⟩
 have hl := k8 g i
 refine evx @a6w.eq_1 ?_
 refine b9 (λhi => ?_) (λhi => ?_)
 ·replace hi := d2b hi
  have gk := j8 f i (by omega)
  refine evx gk ?_
  refine d5 (hH) rfl ?_
  refine evx (And.intro gk hg') ?_
  repeat with_reducible refine andO ?_
  have e2 : rowV (tabR g i) ++ [fl (g i)] = rowV (tabR g (i + 1)) := (J6 _ _).symm
  rw [f0 (by omega) (by omega), e2]
  exact ⟨c - 1, _, by omega, LeT.only (λX => X == 101 || X == 100 || X == 1) (λ_ h => h) rfl (by simp [kpS]) (by simp [kpS]), i + 1, by omega, rfl⟩
 ·replace hi := d2c hi
  have e : i = t.n := by omega
  subst e
  refine evx (And.intro @P6 @V4) ?_
  repeat with_reducible refine andO ?_
  exact j6 (.agg [fI 0, fI st, fI 1, fI 0, .sl 107 0 0 2 1 2]) (λ_ h => h) (g8 (by decide) rfl rfl rfl (by simp) rfl)
   (D5 _ _ ⟨Fz_d _, Fz_d _, Fz_d _, Fz_d _, c7C (A := 103) (B := 101) rfl rfl rfl rfl hl rfl rfl rfl, trivial⟩)
theorem a4M (n : Nd) (h1 : n.z.length < 2 ^ 62) (h2 : ∀ i, i < n.z.length -> (n.z.getD i []).length < 2 ^ 62) : Con Tryz.prog 98 [ndV n, ndV n] (fB true) := by
 obtain ⟨a, b, c, d, z⟩ := n
 simp only at h1 h2
 refine b7 b1Z rfl f5 ?_
 refine evx @b6C.eq_1 ?_
 first | refine a0 (a1x z h1 h2) rfl ?_ | refine d7 (a1x z h1 h2) rfl ?_ | refine d5 (a1x z h1 h2) rfl ?_
 refine ev ?_
 exact g9
end Go.Ab
