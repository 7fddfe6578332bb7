/- The methods' numbers, by the reference: Adams, Bdf. -/
import Derived.Test.YtdckmpaakheppaaOA
namespace Go.Ab
set_option linter.unusedSimpArgs false
set_option linter.unusedVariables false
open Go Go.Proofs
abbrev AdT := List Int × List Int × Int × Int
def adStep (p : List Int) (k : Nat) (s : AdT) : Option AdT :=
  (lowF 64 (p.getD k 0) (w64 (p.getD 0 0 * ((k + 1 : Nat) : Int)))).bind fun ab =>
    (lowF 64 (w64 (w64 (s.2.2.1 * ab.2) + w64 (w64 ((if (k + 1) % 2 = 1 then -1 else 1) * ab.1) * s.2.2.2))) (w64 (s.2.2.2 * ab.2))).map fun nd => (s.1 ++ [ab.1], s.2.1 ++ [ab.2], nd.1, nd.2)
def adS (p : List Int) : Nat → Option AdT
  | 0 => some ([0], [1], 0, 1)
  | k + 1 => (adS p k).bind (adStep p k)
theorem adS_prev (p : List Int) (k : Nat) : ∀ d s, adS p (k + d) = some s → ∃ s', adS p k = some s'
  | 0, s, h => ⟨s, h⟩
  | d + 1, s, h => by
    obtain ⟨s1, h1, _⟩ := Option.bind_eq_some_iff.1 (show (adS p (k + d)).bind (adStep p (k + d)) = some s from h)
    exact adS_prev p k d s1 h1
theorem adS_len (p : List Int) (k : Nat) : ∀ s, adS p k = some s → s.1.length = k + 1 ∧ s.2.1.length = k + 1 := by
  induction k with
  | zero => intro s h; simp only [adS, Option.some.injEq] at h; subst h; exact ⟨rfl, rfl⟩
  | succ k ih =>
    intro s h
    obtain ⟨s1, h1, h2⟩ := Option.bind_eq_some_iff.1 (show (adS p k).bind (adStep p k) = some s from h)
    obtain ⟨a, b⟩ := ih s1 h1
    simp only [adStep, Option.bind_eq_some_iff, Option.map_eq_some_iff] at h2
    obtain ⟨ab, _, nd, _, rfl⟩ := h2
    exact ⟨by simp [a], by simp [b]⟩
theorem tmod2 (n : Nat) : ((n : Nat) : Int).tmod 2 = ((n % 2 : Nat) : Int) := rfl
set_option maxRecDepth 8000 in
theorem r7_adams_con (z : Int) (o : Nat) (hz : z = (o + 1 : Nat)) (ho : o < 2 ^ 20) (N E : List Int) (n d x y : Int) (h : adS (prodP o) (o + 1) = some (N, E, n, d)) (hl : lowF 64 (w64 (0 - n)) d = some (x, y)) :
    Con Try.prog 56 [fI z] (.agg [.d (rowI (N.set 0 x)), .d (rowI (E.set 0 y))]) := by
  subst hz
  refine Con_introA A_r7_adams_comp rfl mixed ?_
  simp -implicitDefEqProofs only [xC_skip, evS, evT, evU, hv, effC, reduceCtorEq, ↓reduceIte, Nat.reduceEqDiff, Nat.reduceAdd, Nat.reduceMul, Int.reduceToNat, Int.reduceAdd, Int.reduceSub, Int.reduceMul, Int.reduceNeg, Int.reduceLT, Int.reduceLE, Nat.reduceLT, Nat.reduceLeDiff, A_r7_adams]
  have w1 : IntKind.i64.wrap (((o + 1 : Nat) : Int) - 1) = (o : Int) := by rw [wrapI (by omega) (by omega)]; omega
  simp -implicitDefEqProofs only [xC_skip, evS, evT, evU, hv, effC, reduceCtorEq, ↓reduceIte, Nat.reduceEqDiff, Nat.reduceAdd, Nat.reduceMul, Int.reduceToNat, Int.reduceAdd, Int.reduceSub, Int.reduceMul, Int.reduceNeg, Int.reduceLT, Int.reduceLE, Nat.reduceLT, Nat.reduceLeDiff, w1]
  first | refine callG_con (r7_product_con (o : Int) o rfl (by omega)) rfl ?_ | refine callCG_con (r7_product_con (o : Int) o rfl (by omega)) rfl ?_ | refine callSG_con (r7_product_con (o : Int) o rfl (by omega)) rfl ?_
  have hp := prodP_len o
  generalize prodP o = p at hp h
  simp -implicitDefEqProofs only [xC_skip, evS, evT, evU, hv, effC, reduceCtorEq, ↓reduceIte, Nat.reduceEqDiff, Nat.reduceAdd, Nat.reduceMul, Int.reduceToNat, Int.reduceAdd, Int.reduceSub, Int.reduceMul, Int.reduceNeg, Int.reduceLT, Int.reduceLE, Nat.reduceLT, Nat.reduceLeDiff]
  refine WA_forW (n := o + 1) (fun c s => ∃ k N' E' n' d', c + k = o + 1 ∧ adS p k = some (N', E', n', d') ∧ s = ⟨[(0, fI (o + 1 : Nat)), (2, .ptr 0 0 0 2), (3, .d (rowI p)), (4, .ptr 1 0 0 2), (5, fI n'), (6, fI d'), (7, fI (k + 1 : Nat))],
      [(9, [rowIV E']), (5, [rowIV N']), (1, [[.sl 5 0 0 (k + 1) 1 (k + 1), .sl 9 0 0 (k + 1) 1 (k + 1)]]), (0, [[.nil, .nil]])]⟩) (s0 := ⟨_, _⟩) (LeT.only (fun X => X != 8 && X != 4) (fun _ h => h) rfl (by simp [KpS_cons, KpS_nil, KpH_cons, KpH_nil, KpF_cons, KpF_nil, KpF_rows, KpA_cons, KpA_nil, KpA_app, KpA_rowV, KpA_rowIV, KpA_dcells, KpA_outC, Kp_any, Kp_nilv, Kp_d, Kp_ptr, Kp_sl, Kp_agg, Kp_tup, Kp_fn, get_cons, get_nil]) (by simp [KpS_cons, KpS_nil, KpH_cons, KpH_nil, KpF_cons, KpF_nil, KpF_rows, KpA_cons, KpA_nil, KpA_app, KpA_rowV, KpA_rowIV, KpA_dcells, KpA_outC, Kp_any, Kp_nilv, Kp_d, Kp_ptr, Kp_sl, Kp_agg, Kp_tup, Kp_fn, get_cons, get_nil])) ⟨0, _, _, _, _, by omega, rfl, rfl⟩ ?_
  rintro c s ⟨k, N', E', n', d', hc, hs, rfl⟩
  obtain ⟨l1, l2⟩ := adS_len p k _ hs
  simp only at l1 l2
  simp -implicitDefEqProofs only [xC_skip, evS, evT, evU, hv, effC, reduceCtorEq, ↓reduceIte, Nat.reduceEqDiff, Nat.reduceAdd, Nat.reduceMul, Int.reduceToNat, Int.reduceAdd, Int.reduceSub, Int.reduceMul, Int.reduceNeg, Int.reduceLT, Int.reduceLE, Nat.reduceLT, Nat.reduceLeDiff, A_r7_adams_L0]
  refine condC_intro (fun hk => ?_) (fun hk => ?_)
  · replace hk := of_decide_eq_true hk
    obtain ⟨⟨N2, E2, n2, d2⟩, hs2⟩ := adS_prev p (k + 1) (o - k) _ (by rw [show k + 1 + (o - k) = o + 1 by omega]; exact h)
    have hst : adStep p k (N', E', n', d') = some (N2, E2, n2, d2) := by
      have : (adS p k).bind (adStep p k) = some (N2, E2, n2, d2) := hs2
      rw [hs] at this; exact this
    simp only [adStep, Option.bind_eq_some_iff, Option.map_eq_some_iff] at hst
    obtain ⟨⟨a, b⟩, hab, ⟨n3, d3⟩, hnd, e⟩ := hst
    simp only [Prod.mk.injEq] at e
    obtain ⟨rfl, rfl, rfl, rfl⟩ := e
    have w2 : IntKind.i64.wrap (((k + 1 : Nat) : Int) - 1) = (k : Int) := by rw [wrapI (by omega) (by omega)]; omega
    simp -implicitDefEqProofs only [xC_skip, evS, evT, evU, hv, effC, reduceCtorEq, ↓reduceIte, Nat.reduceEqDiff, Nat.reduceAdd, Nat.reduceMul, Int.reduceToNat, Int.reduceAdd, Int.reduceSub, Int.reduceMul, Int.reduceNeg, Int.reduceLT, Int.reduceLE, Nat.reduceLT, Nat.reduceLeDiff, w2]
    (repeat (with_reducible refine And.intro (by omega) ?_))
    first | refine callG_con (r7_low_con (p.getD k 0) (w64 (p.getD 0 0 * ((k + 1 : Nat) : Int))) a b 64 hab) rfl ?_ | refine callCG_con (r7_low_con (p.getD k 0) (w64 (p.getD 0 0 * ((k + 1 : Nat) : Int))) a b 64 hab) rfl ?_ | refine callSG_con (r7_low_con (p.getD k 0) (w64 (p.getD 0 0 * ((k + 1 : Nat) : Int))) a b 64 hab) rfl ?_
    simp -implicitDefEqProofs only [xC_skip, evS, evT, evU, hv, effC, reduceCtorEq, ↓reduceIte, Nat.reduceEqDiff, Nat.reduceAdd, Nat.reduceMul, Int.reduceToNat, Int.reduceAdd, Int.reduceSub, Int.reduceMul, Int.reduceNeg, Int.reduceLT, Int.reduceLE, Nat.reduceLT, Nat.reduceLeDiff]
    (repeat (with_reducible refine And.intro (by omega) ?_))
    simp only [] at hnd
    have e1 : rowIV N' ++ [fI a] = rowIV (N' ++ [a]) := by simp [rowIV]
    have e2 : rowIV E' ++ [fI b] = rowIV (E' ++ [b]) := by simp [rowIV]
    by_cases h2 : (k + 1) % 2 = 1
    · have h' : (((k + 1 : Nat) : Int).tmod 2 == 1) = true := by rw [tmod2]; simp; omega
      rw [if_pos h2] at hnd
      simp -implicitDefEqProofs only [xC_skip, evS, evT, evU, hv, effC, reduceCtorEq, ↓reduceIte, Nat.reduceEqDiff, Nat.reduceAdd, Nat.reduceMul, Int.reduceToNat, Int.reduceAdd, Int.reduceSub, Int.reduceMul, Int.reduceNeg, Int.reduceLT, Int.reduceLE, Nat.reduceLT, Nat.reduceLeDiff, h']
      first | refine callG_con (r7_low_con (w64 (w64 (n' * b) + w64 (w64 (-1 * a) * d'))) (w64 (d' * b)) n3 d3 64 hnd) rfl ?_ | refine callCG_con (r7_low_con (w64 (w64 (n' * b) + w64 (w64 (-1 * a) * d'))) (w64 (d' * b)) n3 d3 64 hnd) rfl ?_ | refine callSG_con (r7_low_con (w64 (w64 (n' * b) + w64 (w64 (-1 * a) * d'))) (w64 (d' * b)) n3 d3 64 hnd) rfl ?_
      simp -implicitDefEqProofs only [xC_skip, evS, evT, evU, hv, effC, reduceCtorEq, ↓reduceIte, Nat.reduceEqDiff, Nat.reduceAdd, Nat.reduceMul, Int.reduceToNat, Int.reduceAdd, Int.reduceSub, Int.reduceMul, Int.reduceNeg, Int.reduceLT, Int.reduceLE, Nat.reduceLT, Nat.reduceLeDiff]
      rw [wrapI (by omega) (by omega)]
      rw [e1, e2]
      exact ⟨c - 1, _, by omega, LeT.only (fun X => decide (X ≤ 5) || X == 9) (fun _ h => h) rfl (by simp [KpS_cons, KpS_nil, KpH_cons, KpH_nil, KpF_cons, KpF_nil, KpF_rows, KpA_cons, KpA_nil, KpA_app, KpA_rowV, KpA_rowIV, KpA_dcells, KpA_outC, Kp_any, Kp_nilv, Kp_d, Kp_ptr, Kp_sl, Kp_agg, Kp_tup, Kp_fn, get_cons, get_nil]) (by simp [KpS_cons, KpS_nil, KpH_cons, KpH_nil, KpF_cons, KpF_nil, KpF_rows, KpA_cons, KpA_nil, KpA_app, KpA_rowV, KpA_rowIV, KpA_dcells, KpA_outC, Kp_any, Kp_nilv, Kp_d, Kp_ptr, Kp_sl, Kp_agg, Kp_tup, Kp_fn, get_cons, get_nil]), k + 1, _, _, _, _, by omega, hs2, rfl⟩
    · have h' : (((k + 1 : Nat) : Int).tmod 2 == 1) = false := by rw [tmod2]; simp; omega
      rw [if_neg h2] at hnd
      simp -implicitDefEqProofs only [xC_skip, evS, evT, evU, hv, effC, reduceCtorEq, ↓reduceIte, Nat.reduceEqDiff, Nat.reduceAdd, Nat.reduceMul, Int.reduceToNat, Int.reduceAdd, Int.reduceSub, Int.reduceMul, Int.reduceNeg, Int.reduceLT, Int.reduceLE, Nat.reduceLT, Nat.reduceLeDiff, h']
      first | refine callG_con (r7_low_con (w64 (w64 (n' * b) + w64 (w64 (1 * a) * d'))) (w64 (d' * b)) n3 d3 64 hnd) rfl ?_ | refine callCG_con (r7_low_con (w64 (w64 (n' * b) + w64 (w64 (1 * a) * d'))) (w64 (d' * b)) n3 d3 64 hnd) rfl ?_ | refine callSG_con (r7_low_con (w64 (w64 (n' * b) + w64 (w64 (1 * a) * d'))) (w64 (d' * b)) n3 d3 64 hnd) rfl ?_
      simp -implicitDefEqProofs only [xC_skip, evS, evT, evU, hv, effC, reduceCtorEq, ↓reduceIte, Nat.reduceEqDiff, Nat.reduceAdd, Nat.reduceMul, Int.reduceToNat, Int.reduceAdd, Int.reduceSub, Int.reduceMul, Int.reduceNeg, Int.reduceLT, Int.reduceLE, Nat.reduceLT, Nat.reduceLeDiff]
      rw [wrapI (by omega) (by omega)]
      rw [e1, e2]
      exact ⟨c - 1, _, by omega, LeT.only (fun X => decide (X ≤ 5) || X == 9) (fun _ h => h) rfl (by simp [KpS_cons, KpS_nil, KpH_cons, KpH_nil, KpF_cons, KpF_nil, KpF_rows, KpA_cons, KpA_nil, KpA_app, KpA_rowV, KpA_rowIV, KpA_dcells, KpA_outC, Kp_any, Kp_nilv, Kp_d, Kp_ptr, Kp_sl, Kp_agg, Kp_tup, Kp_fn, get_cons, get_nil]) (by simp [KpS_cons, KpS_nil, KpH_cons, KpH_nil, KpF_cons, KpF_nil, KpF_rows, KpA_cons, KpA_nil, KpA_app, KpA_rowV, KpA_rowIV, KpA_dcells, KpA_outC, Kp_any, Kp_nilv, Kp_d, Kp_ptr, Kp_sl, Kp_agg, Kp_tup, Kp_fn, get_cons, get_nil]), k + 1, _, _, _, _, by omega, hs2, rfl⟩
  · replace hk := of_decide_eq_false hk
    have e : k = o + 1 := by omega
    subst e
    rw [h] at hs
    simp only [Option.some.injEq, Prod.mk.injEq] at hs
    obtain ⟨rfl, rfl, rfl, rfl⟩ := hs
    simp -implicitDefEqProofs only [xC_skip, evS, evT, evU, hv, effC, reduceCtorEq, ↓reduceIte, Nat.reduceEqDiff, Nat.reduceAdd, Nat.reduceMul, Int.reduceToNat, Int.reduceAdd, Int.reduceSub, Int.reduceMul, Int.reduceNeg, Int.reduceLT, Int.reduceLE, Nat.reduceLT, Nat.reduceLeDiff]
    first | refine callG_con (r7_low_con (w64 (0 - n)) d x y 64 hl) rfl ?_ | refine callCG_con (r7_low_con (w64 (0 - n)) d x y 64 hl) rfl ?_ | refine callSG_con (r7_low_con (w64 (0 - n)) d x y 64 hl) rfl ?_
    simp -implicitDefEqProofs only [xC_skip, evS, evT, evU, hv, effC, reduceCtorEq, ↓reduceIte, Nat.reduceEqDiff, Nat.reduceAdd, Nat.reduceMul, Int.reduceToNat, Int.reduceAdd, Int.reduceSub, Int.reduceMul, Int.reduceNeg, Int.reduceLT, Int.reduceLE, Nat.reduceLT, Nat.reduceLeDiff]
    (repeat (with_reducible refine And.intro (by omega) ?_))
    have hz1 : ∀ L L' : Heap, L.get 5 0 = some (rowIV (N.set 0 x)) → L'.fam 5 = none → Fz L L' (.sl 5 0 0 (o + 1 + 1) 1 (o + 1 + 1)) (.d (rowI (N.set 0 x))) := fun L L' a b => Fz_rowN a (by rw [List.length_set]; exact l1) rfl b
    have hz2 : ∀ L L' : Heap, L.get 9 0 = some (rowIV (E.set 0 y)) → L'.fam 9 = none → Fz L L' (.sl 9 0 0 (o + 1 + 1) 1 (o + 1 + 1)) (.d (rowI (E.set 0 y))) := fun L L' a b => Fz_rowN a (by rw [List.length_set]; exact l2) rfl b
    have e3 : D.bor N.length (rowIG (N.set 0 x)) = rowI (N.set 0 x) := by unfold rowI; rw [List.length_set]
    have e4 : D.bor E.length (rowIG (E.set 0 y)) = rowI (E.set 0 y) := by unfold rowI; rw [List.length_set]
    rw [e3, e4]
    exact endsT_le (.agg [.sl 5 0 0 (o + 1 + 1) 1 (o + 1 + 1), .sl 9 0 0 (o + 1 + 1) 1 (o + 1 + 1)]) (fun _ h => h) (resV_cellI (by decide) rfl rfl rfl (by simp) rfl) (Fz_agg _ _ ⟨hz1 _ _ (by simp [get_cons]) (by simp [fam_nil]), hz2 _ _ (by simp [get_cons]) (by simp [fam_nil]), trivial⟩)
/-- Bdf's. -/
def bdS (p : List Int) : Nat → Option (List Int × List Int)
  | 0 => some ([], [])
  | k + 1 => (bdS p k).bind fun s => (lowF 64 (p.getD k 0) (p.getD 1 0)).map fun ab => (s.1 ++ [ab.1], s.2 ++ [ab.2])
theorem bdS_prev (p : List Int) (k : Nat) : ∀ d s, bdS p (k + d) = some s → ∃ s', bdS p k = some s'
  | 0, s, h => ⟨s, h⟩
  | d + 1, s, h => by
    obtain ⟨s1, h1, _⟩ := Option.bind_eq_some_iff.1 (show (bdS p (k + d)).bind _ = some s from h)
    exact bdS_prev p k d s1 h1
theorem bdS_len (p : List Int) (k : Nat) : ∀ s, bdS p k = some s → s.1.length = k ∧ s.2.length = k := by
  induction k with
  | zero => intro s h; simp only [bdS, Option.some.injEq] at h; subst h; exact ⟨rfl, rfl⟩
  | succ k ih =>
    intro s h
    obtain ⟨s1, h1, h2⟩ := Option.bind_eq_some_iff.1 (show (bdS p k).bind _ = some s from h)
    obtain ⟨a, b⟩ := ih s1 h1
    obtain ⟨ab, _, rfl⟩ := Option.map_eq_some_iff.1 h2
    exact ⟨by simp [a], by simp [b]⟩
set_option maxRecDepth 8000 in
theorem r7_bdf_con (z : Int) (o : Nat) (hz : z = (o + 1 : Nat)) (ho1 : o + 1 < 2 ^ 20) (N E : List Int) (h : bdS (prodP (o + 1)) (o + 2) = some (N, E)) :
    Con Try.prog 57 [fI z] (.agg [.d (rowI N), .d (rowI E)]) := by
  subst hz
  refine Con_introA A_r7_bdf_comp rfl mixed ?_
  simp -implicitDefEqProofs only [xC_skip, evS, evT, evU, hv, effC, reduceCtorEq, ↓reduceIte, Nat.reduceEqDiff, Nat.reduceAdd, Nat.reduceMul, Int.reduceToNat, Int.reduceAdd, Int.reduceSub, Int.reduceMul, Int.reduceNeg, Int.reduceLT, Int.reduceLE, Nat.reduceLT, Nat.reduceLeDiff, A_r7_bdf]
  first | refine callG_con (r7_product_con ((o + 1 : Nat) : Int) (o + 1) rfl ho1) rfl ?_ | refine callCG_con (r7_product_con ((o + 1 : Nat) : Int) (o + 1) rfl ho1) rfl ?_ | refine callSG_con (r7_product_con ((o + 1 : Nat) : Int) (o + 1) rfl ho1) rfl ?_
  have hp := prodP_len (o + 1)
  generalize prodP (o + 1) = p at hp h
  simp -implicitDefEqProofs only [xC_skip, evS, evT, evU, hv, effC, reduceCtorEq, ↓reduceIte, Nat.reduceEqDiff, Nat.reduceAdd, Nat.reduceMul, Int.reduceToNat, Int.reduceAdd, Int.reduceSub, Int.reduceMul, Int.reduceNeg, Int.reduceLT, Int.reduceLE, Nat.reduceLT, Nat.reduceLeDiff]
  refine WA_forW (n := o + 2) (fun c s => ∃ k N' E', c + k = o + 2 ∧ bdS p k = some (N', E') ∧ ((k = 0 ∧ s = ⟨[(0, fI (o + 1 : Nat)), (2, .ptr 0 0 0 2), (3, .d (rowI p)), (4, .ptr 1 0 0 2), (5, fI k)], [(1, [[.nil, .nil]]), (0, [[.nil, .nil]])]⟩) ∨
      (0 < k ∧ s = ⟨[(0, fI (o + 1 : Nat)), (2, .ptr 0 0 0 2), (3, .d (rowI p)), (4, .ptr 1 0 0 2), (5, fI k)], [(11, [rowIV E']), (6, [rowIV N']), (1, [[.sl 6 0 0 k 1 k, .sl 11 0 0 k 1 k]]), (0, [[.nil, .nil]])]⟩))) (Le.refl _) ⟨0, [], [], rfl, rfl, .inl ⟨rfl, rfl⟩⟩ ?_
  rintro c s ⟨k, N', E', hc, hs, ⟨rfl, rfl⟩ | ⟨hk0, rfl⟩⟩
  · simp -implicitDefEqProofs only [xC_skip, evS, evT, evU, hv, effC, reduceCtorEq, ↓reduceIte, Nat.reduceEqDiff, Nat.reduceAdd, Nat.reduceMul, Int.reduceToNat, Int.reduceAdd, Int.reduceSub, Int.reduceMul, Int.reduceNeg, Int.reduceLT, Int.reduceLE, Nat.reduceLT, Nat.reduceLeDiff, A_r7_bdf_L0]
    obtain ⟨⟨N2, E2⟩, hs2⟩ := bdS_prev p (0 + 1) (o + 2 - (0 + 1)) _ (by rw [show 0 + 1 + (o + 2 - (0 + 1)) = o + 2 by omega]; exact h)
    have hst := hs2
    rw [show bdS p (0 + 1) = (bdS p 0).bind fun s => (lowF 64 (p.getD 0 0) (p.getD 1 0)).map fun ab => (s.1 ++ [ab.1], s.2 ++ [ab.2]) from rfl, hs] at hst
    simp only [Option.bind_some, Option.map_eq_some_iff] at hst
    obtain ⟨⟨a, b⟩, hab, e⟩ := hst
    simp only [Prod.mk.injEq] at e
    obtain ⟨rfl, rfl⟩ := e
    (repeat (with_reducible refine And.intro (by omega) ?_))
    first | refine callG_con (r7_low_con (p.getD 0 0) (p.getD 1 0) a b 64 hab) rfl ?_ | refine callCG_con (r7_low_con (p.getD 0 0) (p.getD 1 0) a b 64 hab) rfl ?_ | refine callSG_con (r7_low_con (p.getD 0 0) (p.getD 1 0) a b 64 hab) rfl ?_
    simp -implicitDefEqProofs only [xC_skip, evS, evT, evU, hv, effC, reduceCtorEq, ↓reduceIte, Nat.reduceEqDiff, Nat.reduceAdd, Nat.reduceMul, Int.reduceToNat, Int.reduceAdd, Int.reduceSub, Int.reduceMul, Int.reduceNeg, Int.reduceLT, Int.reduceLE, Nat.reduceLT, Nat.reduceLeDiff]
    obtain ⟨rfl, rfl⟩ : [] = N' ∧ [] = E' := by simpa [bdS] using hs
    rw [show IntKind.i64.wrap 1 = ((0 + 1 : Nat) : Int) from by decide]
    exact ⟨c - 1, _, by omega, LeT.only (fun X => X != 10 && X != 5) (fun _ h => h) rfl (by simp [KpS_cons, KpS_nil, KpH_cons, KpH_nil, KpF_cons, KpF_nil, KpF_rows, KpA_cons, KpA_nil, KpA_app, KpA_rowV, KpA_rowIV, KpA_dcells, KpA_outC, Kp_any, Kp_nilv, Kp_d, Kp_ptr, Kp_sl, Kp_agg, Kp_tup, Kp_fn, get_cons, get_nil]) (by simp [KpS_cons, KpS_nil, KpH_cons, KpH_nil, KpF_cons, KpF_nil, KpF_rows, KpA_cons, KpA_nil, KpA_app, KpA_rowV, KpA_rowIV, KpA_dcells, KpA_outC, Kp_any, Kp_nilv, Kp_d, Kp_ptr, Kp_sl, Kp_agg, Kp_tup, Kp_fn, get_cons, get_nil]), 0 + 1, _, _, by omega, hs2, .inr ⟨by omega, rfl⟩⟩
  · obtain ⟨l1, l2⟩ := bdS_len p k _ hs
    simp only at l1 l2
    simp -implicitDefEqProofs only [xC_skip, evS, evT, evU, hv, effC, reduceCtorEq, ↓reduceIte, Nat.reduceEqDiff, Nat.reduceAdd, Nat.reduceMul, Int.reduceToNat, Int.reduceAdd, Int.reduceSub, Int.reduceMul, Int.reduceNeg, Int.reduceLT, Int.reduceLE, Nat.reduceLT, Nat.reduceLeDiff, A_r7_bdf_L0]
    refine condC_intro (fun hk => ?_) (fun hk => ?_)
    · replace hk := of_decide_eq_true hk
      simp -implicitDefEqProofs only [xC_skip, evS, evT, evU, hv, effC, reduceCtorEq, ↓reduceIte, Nat.reduceEqDiff, Nat.reduceAdd, Nat.reduceMul, Int.reduceToNat, Int.reduceAdd, Int.reduceSub, Int.reduceMul, Int.reduceNeg, Int.reduceLT, Int.reduceLE, Nat.reduceLT, Nat.reduceLeDiff]
      obtain ⟨⟨N2, E2⟩, hs2⟩ := bdS_prev p (k + 1) (o + 2 - (k + 1)) _ (by rw [show k + 1 + (o + 2 - (k + 1)) = o + 2 by omega]; exact h)
      have hst := hs2
      rw [show bdS p (k + 1) = (bdS p k).bind fun s => (lowF 64 (p.getD k 0) (p.getD 1 0)).map fun ab => (s.1 ++ [ab.1], s.2 ++ [ab.2]) from rfl, hs] at hst
      simp only [Option.bind_some, Option.map_eq_some_iff] at hst
      obtain ⟨⟨a, b⟩, hab, e⟩ := hst
      simp only [Prod.mk.injEq] at e
      obtain ⟨rfl, rfl⟩ := e
      (repeat (with_reducible refine And.intro (by omega) ?_))
      first | refine callG_con (r7_low_con (p.getD k 0) (p.getD 1 0) a b 64 hab) rfl ?_ | refine callCG_con (r7_low_con (p.getD k 0) (p.getD 1 0) a b 64 hab) rfl ?_ | refine callSG_con (r7_low_con (p.getD k 0) (p.getD 1 0) a b 64 hab) rfl ?_
      simp -implicitDefEqProofs only [xC_skip, evS, evT, evU, hv, effC, reduceCtorEq, ↓reduceIte, Nat.reduceEqDiff, Nat.reduceAdd, Nat.reduceMul, Int.reduceToNat, Int.reduceAdd, Int.reduceSub, Int.reduceMul, Int.reduceNeg, Int.reduceLT, Int.reduceLE, Nat.reduceLT, Nat.reduceLeDiff]
      (repeat (with_reducible refine And.intro (by omega) ?_))
      have e1 : rowIV N' ++ [fI a] = rowIV (N' ++ [a]) := by simp [rowIV]
      have e2 : rowIV E' ++ [fI b] = rowIV (E' ++ [b]) := by simp [rowIV]
      rw [wrapI (by omega) (by omega), e1, e2]
      exact ⟨c - 1, _, by omega, LeT.only (fun X => decide (X ≤ 6) || X == 11) (fun _ h => h) rfl (by simp [KpS_cons, KpS_nil, KpH_cons, KpH_nil, KpF_cons, KpF_nil, KpF_rows, KpA_cons, KpA_nil, KpA_app, KpA_rowV, KpA_rowIV, KpA_dcells, KpA_outC, Kp_any, Kp_nilv, Kp_d, Kp_ptr, Kp_sl, Kp_agg, Kp_tup, Kp_fn, get_cons, get_nil]) (by simp [KpS_cons, KpS_nil, KpH_cons, KpH_nil, KpF_cons, KpF_nil, KpF_rows, KpA_cons, KpA_nil, KpA_app, KpA_rowV, KpA_rowIV, KpA_dcells, KpA_outC, Kp_any, Kp_nilv, Kp_d, Kp_ptr, Kp_sl, Kp_agg, Kp_tup, Kp_fn, get_cons, get_nil]), k + 1, _, _, by omega, hs2, .inr ⟨by omega, rfl⟩⟩
    · replace hk := of_decide_eq_false hk
      have e : k = o + 2 := by omega
      subst e
      rw [h] at hs
      simp only [Option.some.injEq, Prod.mk.injEq] at hs
      obtain ⟨rfl, rfl⟩ := hs
      simp -implicitDefEqProofs only [xC_skip, evS, evT, evU, hv, effC, reduceCtorEq, ↓reduceIte, Nat.reduceEqDiff, Nat.reduceAdd, Nat.reduceMul, Int.reduceToNat, Int.reduceAdd, Int.reduceSub, Int.reduceMul, Int.reduceNeg, Int.reduceLT, Int.reduceLE, Nat.reduceLT, Nat.reduceLeDiff]
      have hz1 : ∀ L L' : Heap, L.get 6 0 = some (rowIV N) → L'.fam 6 = none → Fz L L' (.sl 6 0 0 (o + 2) 1 (o + 2)) (.d (rowI N)) := fun L L' a b => Fz_rowN a l1 rfl b
      have hz2 : ∀ L L' : Heap, L.get 11 0 = some (rowIV E) → L'.fam 11 = none → Fz L L' (.sl 11 0 0 (o + 2) 1 (o + 2)) (.d (rowI E)) := fun L L' a b => Fz_rowN a l2 rfl b
      exact endsT_le (.agg [.sl 6 0 0 (o + 2) 1 (o + 2), .sl 11 0 0 (o + 2) 1 (o + 2)]) (fun _ h => h) (resV_cellI (by decide) rfl rfl rfl (by simp) rfl) (Fz_agg _ _ ⟨hz1 _ _ (by simp [get_cons]) (by simp [fam_nil]), hz2 _ _ (by simp [get_cons]) (by simp [fam_nil]), trivial⟩)
/-- The row of a method and an order, as fractions. -/
def exS (m : Int) (q : Nat) : Option (List Int × List Int) :=
  if m = 0 then (adS (prodP (q - 1)) q).bind fun s => (lowF 64 (w64 (0 - s.2.2.1)) s.2.2.2).map fun xy => (s.1.set 0 xy.1, s.2.1.set 0 xy.2)
  else bdS (prodP q) (q + 1)
set_option maxRecDepth 8000 in
theorem r7_Exact_con (m : Int) (q : Nat) (hm : (m = 0 ∧ 1 ≤ q ∧ q ≤ 5) ∨ (m = 1 ∧ 1 ≤ q ∧ q ≤ 4)) (N E : List Int) (h : exS m q = some (N, E)) :
    Con Try.prog 35 [fI m, fI q] (.tup [.agg [.d (rowI N), .d (rowI E)], fB true]) := by
  refine Con_introA A_r7_Exact_comp rfl mixed ?_
  simp -implicitDefEqProofs only [xC_skip, evS, evT, evU, hv, effC, reduceCtorEq, ↓reduceIte, Nat.reduceEqDiff, Nat.reduceAdd, Nat.reduceMul, Int.reduceToNat, Int.reduceAdd, Int.reduceSub, Int.reduceMul, Int.reduceNeg, Int.reduceLT, Int.reduceLE, Nat.reduceLT, Nat.reduceLeDiff, A_r7_Exact]
  obtain ⟨o, rfl⟩ : ∃ o, q = o + 1 := ⟨q - 1, by omega⟩
  rcases hm with ⟨rfl, h1, h2⟩ | ⟨rfl, h1, h2⟩
  · have g1 : decide ((1 : Int) ≤ ((o + 1 : Nat) : Int)) = true := by simp; omega
    have g2 : decide (((o + 1 : Nat) : Int) ≤ 5) = true := by simp; omega
    unfold exS at h
    rw [if_pos rfl] at h
    obtain ⟨⟨N', E', n, d⟩, hs, h3⟩ := Option.bind_eq_some_iff.1 h
    obtain ⟨⟨x, y⟩, hl, e⟩ := Option.map_eq_some_iff.1 h3
    simp only [Prod.mk.injEq] at e
    obtain ⟨rfl, rfl⟩ := e
    simp -implicitDefEqProofs only [xC_skip, evS, evT, evU, hv, effC, reduceCtorEq, ↓reduceIte, Nat.reduceEqDiff, Nat.reduceAdd, Nat.reduceMul, Int.reduceToNat, Int.reduceAdd, Int.reduceSub, Int.reduceMul, Int.reduceNeg, Int.reduceLT, Int.reduceLE, Nat.reduceLT, Nat.reduceLeDiff, g1, g2]
    first | refine callG_con (r7_adams_con ((o + 1 : Nat) : Int) o rfl (by omega) N' E' n d x y hs hl) rfl ?_ | refine callCG_con (r7_adams_con ((o + 1 : Nat) : Int) o rfl (by omega) N' E' n d x y hs hl) rfl ?_ | refine callSG_con (r7_adams_con ((o + 1 : Nat) : Int) o rfl (by omega) N' E' n d x y hs hl) rfl ?_
    simp -implicitDefEqProofs only [xC_skip, evS, evT, evU, hv, effC, reduceCtorEq, ↓reduceIte, Nat.reduceEqDiff, Nat.reduceAdd, Nat.reduceMul, Int.reduceToNat, Int.reduceAdd, Int.reduceSub, Int.reduceMul, Int.reduceNeg, Int.reduceLT, Int.reduceLE, Nat.reduceLT, Nat.reduceLeDiff]
    exact endsT_only (fun _ => false) (fun _ h => h) ⟨_, _, resV_cell (by decide) rfl (cells := [_, _]) (by simp [get_cons]) rfl (by simp) rfl, resV_tmpI (t := 5) (by decide) rfl, rfl⟩ rfl (by simp [KpS_cons, KpS_nil, KpH_cons, KpH_nil, KpF_cons, KpF_nil, KpF_rows, KpA_cons, KpA_nil, KpA_app, KpA_rowV, KpA_rowIV, KpA_dcells, KpA_outC, Kp_any, Kp_nilv, Kp_d, Kp_ptr, Kp_sl, Kp_agg, Kp_tup, Kp_fn, get_cons, get_nil]) (by simp [KpS_cons, KpS_nil, KpH_cons, KpH_nil, KpF_cons, KpF_nil, KpF_rows, KpA_cons, KpA_nil, KpA_app, KpA_rowV, KpA_rowIV, KpA_dcells, KpA_outC, Kp_any, Kp_nilv, Kp_d, Kp_ptr, Kp_sl, Kp_agg, Kp_tup, Kp_fn, get_cons, get_nil])
  · have g1 : decide ((1 : Int) ≤ ((o + 1 : Nat) : Int)) = true := by simp; omega
    have g2 : decide (((o + 1 : Nat) : Int) ≤ 4) = true := by simp; omega
    unfold exS at h
    rw [if_neg (by decide)] at h
    simp -implicitDefEqProofs only [xC_skip, evS, evT, evU, hv, effC, reduceCtorEq, ↓reduceIte, Nat.reduceEqDiff, Nat.reduceAdd, Nat.reduceMul, Int.reduceToNat, Int.reduceAdd, Int.reduceSub, Int.reduceMul, Int.reduceNeg, Int.reduceLT, Int.reduceLE, Nat.reduceLT, Nat.reduceLeDiff, g1, g2, Int.reduceBEq]
    first | refine callG_con (r7_bdf_con ((o + 1 : Nat) : Int) o rfl (by omega) N E h) rfl ?_ | refine callCG_con (r7_bdf_con ((o + 1 : Nat) : Int) o rfl (by omega) N E h) rfl ?_ | refine callSG_con (r7_bdf_con ((o + 1 : Nat) : Int) o rfl (by omega) N E h) rfl ?_
    simp -implicitDefEqProofs only [xC_skip, evS, evT, evU, hv, effC, reduceCtorEq, ↓reduceIte, Nat.reduceEqDiff, Nat.reduceAdd, Nat.reduceMul, Int.reduceToNat, Int.reduceAdd, Int.reduceSub, Int.reduceMul, Int.reduceNeg, Int.reduceLT, Int.reduceLE, Nat.reduceLT, Nat.reduceLeDiff]
    exact endsT_only (fun _ => false) (fun _ h => h) ⟨_, _, resV_cell (by decide) rfl (cells := [_, _]) (by simp [get_cons]) rfl (by simp) rfl, resV_tmpI (t := 5) (by decide) rfl, rfl⟩ rfl (by simp [KpS_cons, KpS_nil, KpH_cons, KpH_nil, KpF_cons, KpF_nil, KpF_rows, KpA_cons, KpA_nil, KpA_app, KpA_rowV, KpA_rowIV, KpA_dcells, KpA_outC, Kp_any, Kp_nilv, Kp_d, Kp_ptr, Kp_sl, Kp_agg, Kp_tup, Kp_fn, get_cons, get_nil]) (by simp [KpS_cons, KpS_nil, KpH_cons, KpH_nil, KpF_cons, KpF_nil, KpF_rows, KpA_cons, KpA_nil, KpA_app, KpA_rowV, KpA_rowIV, KpA_dcells, KpA_outC, Kp_any, Kp_nilv, Kp_d, Kp_ptr, Kp_sl, Kp_agg, Kp_tup, Kp_fn, get_cons, get_nil])
def ofP (N E : List Int) : List Nat := tabR (fun i => fop .div (FloatKind.nearest .f64 (N.getD i 0)) (FloatKind.nearest .f64 (E.getD i 0))) N.length
theorem exS_len (m : Int) (q : Nat) (hq : 1 ≤ q) (N E : List Int) (h : exS m q = some (N, E)) : N.length = q + 1 ∧ E.length = q + 1 := by
  unfold exS at h
  split at h
  · obtain ⟨⟨N', E', n, d⟩, hs, h3⟩ := Option.bind_eq_some_iff.1 h
    obtain ⟨⟨x, y⟩, hl, e⟩ := Option.map_eq_some_iff.1 h3
    simp only [Prod.mk.injEq] at e
    obtain ⟨rfl, rfl⟩ := e
    obtain ⟨a, b⟩ := adS_len _ _ _ hs
    exact ⟨by simpa using a, by simpa using b⟩
  · exact bdS_len _ _ _ h
set_option maxRecDepth 8000 in
theorem r7_Of_con (m : Int) (q : Nat) (hm : (m = 0 ∧ 1 ≤ q ∧ q ≤ 5) ∨ (m = 1 ∧ 1 ≤ q ∧ q ≤ 4)) (N E : List Int) (h : exS m q = some (N, E)) :
    Con Try.prog 18 [fI m, fI q] (.tup [.d (rowD (ofP N E)), fB true]) := by
  obtain ⟨l1, l2⟩ := exS_len m q (by omega) N E h
  refine Con_introA A_r7_Of_comp rfl mixed ?_
  simp -implicitDefEqProofs only [xC_skip, evS, evT, evU, hv, effC, reduceCtorEq, ↓reduceIte, Nat.reduceEqDiff, Nat.reduceAdd, Nat.reduceMul, Int.reduceToNat, Int.reduceAdd, Int.reduceSub, Int.reduceMul, Int.reduceNeg, Int.reduceLT, Int.reduceLE, Nat.reduceLT, Nat.reduceLeDiff, A_r7_Of]
  first | refine callG_con (r7_Exact_con m q hm N E h) rfl ?_ | refine callCG_con (r7_Exact_con m q hm N E h) rfl ?_ | refine callSG_con (r7_Exact_con m q hm N E h) rfl ?_
  simp -implicitDefEqProofs only [xC_skip, evS, evT, evU, hv, effC, reduceCtorEq, ↓reduceIte, Nat.reduceEqDiff, Nat.reduceAdd, Nat.reduceMul, Int.reduceToNat, Int.reduceAdd, Int.reduceSub, Int.reduceMul, Int.reduceNeg, Int.reduceLT, Int.reduceLE, Nat.reduceLT, Nat.reduceLeDiff, Bool.not_true]
  refine WA_forW (n := q + 1) (fun c s => ∃ i, c + i = q + 1 ∧ s = ⟨[(6, .ptr 6 0 0 2), (8, .sl 20 0 0 i 1 i), (9, fI i)], [(20, [rowV (tabR (fun i => fop .div (FloatKind.nearest .f64 (N.getD i 0)) (FloatKind.nearest .f64 (E.getD i 0))) i)]), (6, [[.d (rowI N), .d (rowI E)]])]⟩) (s0 := ⟨_, _⟩)
    (LeT.nilrow (X := 20) (esz := 1) (as' := [(6, .ptr 6 0 0 2), (8, .sl 20 0 0 0 1 0), (9, fI 0)]) (by simp [fam_cons, fam_nil]) (fun h => h) fun i => ?_) ⟨0, by omega, rfl⟩ ?_
  · simp only [look]
    repeat' split
    all_goals simp
  rintro c s ⟨i, hc, rfl⟩
  have hl := tabR_len (fun i => fop .div (FloatKind.nearest .f64 (N.getD i 0)) (FloatKind.nearest .f64 (E.getD i 0))) i
  have hsc := tabR_succ (fun i => fop .div (FloatKind.nearest .f64 (N.getD i 0)) (FloatKind.nearest .f64 (E.getD i 0))) i
  simp -implicitDefEqProofs only [xC_skip, evS, evT, evU, hv, effC, reduceCtorEq, ↓reduceIte, Nat.reduceEqDiff, Nat.reduceAdd, Nat.reduceMul, Int.reduceToNat, Int.reduceAdd, Int.reduceSub, Int.reduceMul, Int.reduceNeg, Int.reduceLT, Int.reduceLE, Nat.reduceLT, Nat.reduceLeDiff, A_r7_Of_L0]
  refine condC_intro (fun hi => ?_) (fun hi => ?_)
  · replace hi := of_decide_eq_true hi
    simp -implicitDefEqProofs only [xC_skip, evS, evT, evU, hv, effC, reduceCtorEq, ↓reduceIte, Nat.reduceEqDiff, Nat.reduceAdd, Nat.reduceMul, Int.reduceToNat, Int.reduceAdd, Int.reduceSub, Int.reduceMul, Int.reduceNeg, Int.reduceLT, Int.reduceLE, Nat.reduceLT, Nat.reduceLeDiff]
    (repeat (with_reducible refine And.intro (by omega) ?_))
    rw [wrapI (by omega) (by omega)]
    have e : rowV (tabR (fun i => fop .div (FloatKind.nearest .f64 (N.getD i 0)) (FloatKind.nearest .f64 (E.getD i 0))) i) ++ [fl (fop .div (FloatKind.nearest .f64 (N.getD i 0)) (FloatKind.nearest .f64 (E.getD i 0)))] = rowV (tabR (fun i => fop .div (FloatKind.nearest .f64 (N.getD i 0)) (FloatKind.nearest .f64 (E.getD i 0))) (i + 1)) := hsc.symm
    rw [e]
    exact ⟨c - 1, _, by omega, LeT.only (fun X => decide (X ≤ 20)) (fun _ h => h) rfl (by simp [KpS_cons, KpS_nil, KpH_cons, KpH_nil, KpF_cons, KpF_nil, KpF_rows, KpA_cons, KpA_nil, KpA_app, KpA_rowV, KpA_rowIV, KpA_dcells, KpA_outC, Kp_any, Kp_nilv, Kp_d, Kp_ptr, Kp_sl, Kp_agg, Kp_tup, Kp_fn, get_cons, get_nil]) (by simp [KpS_cons, KpS_nil, KpH_cons, KpH_nil, KpF_cons, KpF_nil, KpF_rows, KpA_cons, KpA_nil, KpA_app, KpA_rowV, KpA_rowIV, KpA_dcells, KpA_outC, Kp_any, Kp_nilv, Kp_d, Kp_ptr, Kp_sl, Kp_agg, Kp_tup, Kp_fn, get_cons, get_nil]), i + 1, by omega, rfl⟩
  · replace hi := of_decide_eq_false hi
    have e : i = q + 1 := by omega
    subst e
    simp -implicitDefEqProofs only [xC_skip, evS, evT, evU, hv, effC, reduceCtorEq, ↓reduceIte, Nat.reduceEqDiff, Nat.reduceAdd, Nat.reduceMul, Int.reduceToNat, Int.reduceAdd, Int.reduceSub, Int.reduceMul, Int.reduceNeg, Int.reduceLT, Int.reduceLE, Nat.reduceLT, Nat.reduceLeDiff]
    have ho : ofP N E = tabR (fun i => fop .div (FloatKind.nearest .f64 (N.getD i 0)) (FloatKind.nearest .f64 (E.getD i 0))) (q + 1) := by unfold ofP; rw [l1]
    rw [← ho]
    rw [← ho] at hl
    have hz : Fz [(20, [rowV (ofP N E)]), (6, [[.d (rowI N), .d (rowI E)]])] [] (.sl 20 0 0 (q + 1) 1 (q + 1)) (.d (rowD (ofP N E))) := Fz_row (by simp [get_cons]) hl rfl (by simp [get_nil])
    refine endsT_le (.tup [.sl 20 0 0 (q + 1) 1 (q + 1), fB true]) (fun _ h => h) ⟨_, _, resV_tmpI (t := 4) (by decide) rfl, resV_tmpI (t := 5) (by decide) rfl, rfl⟩ (.tup rfl fun j hj => ?_)
    rcases j with _ | _ | j
    · exact hz
    · exact Fz_d _
    · simp at hj; omega
theorem exS_some (m : Int) (q : Nat) (hm : (m = 0 ∧ 1 ≤ q ∧ q ≤ 5) ∨ (m = 1 ∧ 1 ≤ q ∧ q ≤ 4)) : ∃ N E, exS m q = some (N, E) := by
  have h0 : ((List.range 5).all fun i => (exS 0 (i + 1)).isSome) = true := by kernel_rfl
  have h1 : ((List.range 4).all fun i => (exS 1 (i + 1)).isSome) = true := by kernel_rfl
  have : (exS m q).isSome = true := by
    obtain ⟨o, rfl⟩ : ∃ o, q = o + 1 := ⟨q - 1, by omega⟩
    rcases hm with ⟨rfl, a, b⟩ | ⟨rfl, a, b⟩
    · exact List.all_eq_true.1 h0 o (by simp; omega)
    · exact List.all_eq_true.1 h1 o (by simp; omega)
  obtain ⟨⟨N, E⟩, h⟩ := Option.isSome_iff_exists.1 this
  exact ⟨N, E, h⟩
/-- The numbers of a method and an order. -/
def ofL (m : Int) (q : Nat) : List Nat := match exS m q with
  | some s => ofP s.1 s.2
  | none => []
theorem r7_Of_ok (m : Int) (q : Nat) (hm : (m = 0 ∧ 1 ≤ q ∧ q ≤ 5) ∨ (m = 1 ∧ 1 ≤ q ∧ q ≤ 4)) : Con Try.prog 18 [fI m, fI q] (.tup [.d (rowD (ofL m q)), fB true]) ∧ (ofL m q).length = q + 1 := by
  obtain ⟨N, E, h⟩ := exS_some m q hm
  obtain ⟨l1, l2⟩ := exS_len m q (by omega) N E h
  have e : ofL m q = ofP N E := by unfold ofL; rw [h]
  rw [e]
  exact ⟨r7_Of_con m q hm N E h, by unfold ofP; rw [tabR_len]; exact l1⟩
end Go.Ab
