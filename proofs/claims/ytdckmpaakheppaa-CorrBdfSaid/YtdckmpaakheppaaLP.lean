/- Parting rows that are named. -/
import Derived.Test.YtdckmpaakheppaaLD
import Derived.Test.YtdckmpaakheppaaGD
namespace Go.Ab
set_option linter.unusedSimpArgs false
set_option linter.unusedVariables false
open Go Go.Proofs
theorem partP_pmB (A : List (List Nat)) (n : Nat) : ∀ m, m ≤ n → ∀ B π, partP A n m = some (B, π) → Pm n π := by
  intro m
  induction m with
  | zero =>
    intro _ B π h
    simp only [partP, Option.some.injEq, Prod.mk.injEq] at h
    obtain ⟨_, rfl⟩ := h
    exact ⟨by simp, fun i hi => by simp [List.getD_eq_getElem?_getD, hi]⟩
  | succ m ih =>
    intro hm B π h
    simp only [partP, Option.bind_eq_some_iff] at h
    obtain ⟨⟨C, σ⟩, h1, h2⟩ := h
    obtain ⟨h3, h4⟩ := ih (by omega) C σ h1
    simp only [stepP] at h2
    split at h2
    · cases h2
    · simp only [Option.some.injEq, Prod.mk.injEq] at h2
      obtain ⟨_, rfl⟩ := h2
      have hp := pvP_lt C m (n - 1 - m)
      generalize pvP C m (n - 1 - m) = p at hp
      refine ⟨by simp [swapL, h3], fun i hi => ?_⟩
      have a := h4 m (by omega)
      have b := h4 p (by omega)
      have c := h4 i hi
      simp only [List.getD_eq_getElem?_getD] at a b c
      simp only [swapL, List.getD_eq_getElem?_getD, List.getElem?_set, List.length_set]
      by_cases e : p = i
      · subst e; simpa [h3, hi] using a
      · rw [if_neg e]
        by_cases e2 : m = i
        · subst e2; simpa [h3, hi] using b
        · rw [if_neg e2]; exact c
theorem pure_luVB (n : Nat) (b : Bool) : PureV (.tup [luV n, fB b]) := by
  refine .tup fun j hj => ?_
  rcases j with _ | _ | j
  · refine .agg fun j hj => ?_
    rcases j with _ | _ | j
    · exact .sl ..
    · exact .sl ..
    · simp at hj; omega
  · exact .bool _
  · simp at hj; omega
theorem pure_rowVB (xs : List Nat) : ∀ j, j < (rowV xs).length → PureV ((rowV xs).getD j .any) := by
  intro j hj
  have : j < xs.length := by simpa using hj
  rw [getD_map_fl _ _ this]; exact .flt _
theorem pure_luB (B : List (List Nat)) (π : List Int) (n : Nat) : ∀ X q cells, Heap.get (luH B π n) X q = some cells → ∀ j, j < cells.length → PureV (cells.getD j .any) := by
  have two : ∀ j, j < 2 → PureV ([V.sl 2 0 0 n 1 n, V.sl 5 0 0 n 1 n].getD j .any) := by
    intro j hj
    rcases j with _ | _ | j
    · exact .sl ..
    · exact .sl ..
    · omega
  intro X q cells hX j hj
  simp only [luH, get_cons, get_nil] at hX
  split at hX
  · rcases q with _ | q <;> simp at hX; subst hX; exact two j (by simpa using hj)
  · split at hX
    · rcases q with _ | q <;> simp at hX; subst hX
      have hj' : j < π.length := by simpa using hj
      have := getD_rowIV π j hj'
      rw [this]; exact .int _ _
    · split at hX
      · rcases q with _ | q
        · simp at hX; subst hX
          have hj' : j < n := by simpa [hdo_length] using hj
          rw [hdo_getD _ _ _ _ _ hj']; exact .sl ..
        · simp only [List.getElem?_cons_succ, List.getElem?_map] at hX
          obtain ⟨xs, _, rfl⟩ := Option.map_eq_some_iff.1 hX
          exact pure_rowVB xs j hj
      · split at hX
        · rcases q with _ | q <;> simp at hX; subst hX; exact two j (by simpa using hj)
        · cases hX
theorem part_namedB {L : Heap} {H r0 X o n : Nat} {A B : List (List Nat)} {π : List Int} (k : Nat) (hk : L.next ≤ k) (hA : Sq n A) (hn : n < 2 ^ 40) (hH : L.get H r0 = some (hdo X o n n)) (hX : ∀ r, r < n → L.get X (r + o) = some (rowV (A.getD r [])))
    (hp : partP A n n = some (B, π)) (K : V → Heap → Prop)
    (h : K (.tup [.agg [.sl (2 + k) 0 0 n 1 n, .sl (5 + k) 0 0 n 1 n], fB true]) ((7 + k, [[.sl (2 + k) 0 0 n 1 n, .sl (5 + k) 0 0 n 1 n]]) :: (5 + k, [rowIV π]) :: (2 + k, hdo (2 + k) 1 n n :: B.map rowV) :: (0 + k, [[.sl (2 + k) 0 0 n 1 n, .sl (5 + k) 0 0 n 1 n]]) :: L)) :
    callG Try.prog 38 [.sl H r0 0 n 1 n] L K := by
  refine callG_ac (AC_frameK k hk (us := [.d (rowsD A)]) (lin_Part_some A n hA hn B π hp) rfl (.inr ⟨fun j hj => ?_, pure_luVB n true, pure_luB B π n⟩)) ?_
  · obtain rfl : j = 0 := by simpa using hj
    exact snp_rows hH (fun r hr => ⟨hX r hr, hA.2 r hr⟩) hA.1 rfl
  have hh : (hdo 2 1 n n).map (V.ren (upF k)) = hdo (2 + k) 1 n n := hdo_ren _ 2 1 n n (2 + k) 1 (fun j _ => rfl)
  have hf : (B.map rowV).map (fun c => c.map (V.ren (upF k))) = B.map rowV := ren_fam _ B
  have hi' : (rowIV π).map (V.ren (upF k)) = rowIV π := ren_rowIV _ _
  simpa only [Heap.up, luH, luV, V.ren, V.renL, hh, hf, hi', upF, List.map_cons, List.map_nil, List.cons_append, List.nil_append] using h
theorem part_nil_namedB {L : Heap} {H r0 X o n : Nat} {A : List (List Nat)} (hA : Sq n A) (hn : n < 2 ^ 40) (hH : L.get H r0 = some (hdo X o n n)) (hX : ∀ r, r < n → L.get X (r + o) = some (rowV (A.getD r [])))
    (hp : partP A n n = none) (K : V → Heap → Prop) (h : K (.tup [.agg [.nil, .nil], fB false]) L) : callG Try.prog 38 [.sl H r0 0 n 1 n] L K := by
  refine callG_ac (AC_frame (us := [.d (rowsD A)]) (lin_Part_nil A n hA hn hp) rfl (.inr ⟨fun j hj => ?_, .tup fun j hj => ?_, fun X q cells h => by simp [get_nil] at h⟩)) ?_
  · obtain rfl : j = 0 := by simpa using hj
    exact snp_rows hH (fun r hr => ⟨hX r hr, hA.2 r hr⟩) hA.1 rfl
  · rcases j with _ | _ | j
    · refine .agg fun j hj => ?_
      rcases j with _ | _ | j
      · exact .nil
      · exact .nil
      · simp at hj; omega
    · exact .bool _
    · simp at hj; omega
  · simpa [Heap.up, V.ren, V.renL] using h
end Go.Ab
