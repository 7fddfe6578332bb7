/- What is left over: lin.Left, the document's Left. -/
import Derived.Test.YtdckmpaakheppaaLD
namespace Go.Ab
set_option linter.unusedSimpArgs false
set_option linter.unusedVariables false
open Go Go.Proofs
def leftJ (A : List (List Nat)) (x b : List Nat) (i : Nat) : Nat → Nat × Nat
  | 0 => (b.getD i 0, b.getD i 0)
  | m + 1 => ivSub (leftJ A x b i m) (ivMul (at2 A i m, at2 A i m) (x.getD m 0, x.getD m 0))
def leftP (A : List (List Nat)) (x b : List Nat) (n : Nat) : List (Nat × Nat) := (List.range n).map fun i => leftJ A x b i n

theorem leftP_len (A : List (List Nat)) (x b : List Nat) (n : Nat) : (leftP A x b n).length = n := by simp [leftP]
theorem hdo_absorb (Y X i len : Nat) (h : Y ≠ X) : (hdo X 0 i len ++ [V.sl Y 0 0 len 1 len]).map (V.ren (absF Y X i)) = hdo X 0 (i + 1) len := by
  have e : hdo X 0 (i + 1) len = hdo X 0 i len ++ [.sl X i 0 len 1 len] := by
    simp [hdo, List.range_succ]
  rw [e, List.map_append]
  congr 1
  · refine hdo_ren _ X 0 i len X 0 fun j hj => ?_
    have : ¬ (X = Y ∧ j + 0 = 0) := fun e => h e.1.symm
    simp only [absF, if_neg this]
  · simp [V.ren, absF]
set_option maxRecDepth 8000 in
theorem r6_copied_ac (A : List (List Nat)) (n : Nat) (hA : Sq n A) (hn : n < 2 ^ 40) :
    AC Try.prog 85 [.d (rowsD A)] [] [(200, A.map rowV), (100, [hdo 200 0 n n])] (.sl 100 0 0 n 1 n) := by
  obtain ⟨hl, hr⟩ := hA
  refine AC_introA A_r6_copied_comp rfl mixed (fun _ => False) (by simp [get_nil]) ?_
  simp -implicitDefEqProofs only [xC_skip, evS, evT, evU, hv, effC, reduceCtorEq, ↓reduceIte, Nat.reduceEqDiff, Nat.reduceAdd, Nat.reduceMul, Int.reduceToNat, Int.reduceAdd, Int.reduceSub, Int.reduceMul, Int.reduceNeg, Int.reduceLT, Int.reduceLE, Nat.reduceLT, Nat.reduceLeDiff, A_r6_copied]
  refine WA_forW (n := n) (fun c s => ∃ i, c + i = n ∧ s = ⟨[(0, .d (rowsD A)), (3, .sl 100 0 0 i 1 i), (4, fI i)], [(200, (A.take i).map rowV), (100, [hdo 200 0 i n])]⟩)
    (s0 := ⟨_, _⟩) (Le.trans (LeT.nilrow (X := 100) (esz := 1) (as' := [(0, .d (rowsD A)), (3, .sl 100 0 0 0 1 0), (4, fI 0)]) rfl (fun h => h) fun i => ?_) (LeT.empty (X := 200) (L1 := []) (by simp [fam_cons, fam_nil]))) ⟨0, rfl, rfl⟩ ?_
  · simp only [look]
    repeat' split
    all_goals simp [rowsD]
  rintro c s ⟨i, hc, rfl⟩
  simp -implicitDefEqProofs only [xC_skip, evS, evT, evU, hv, effC, reduceCtorEq, ↓reduceIte, Nat.reduceEqDiff, Nat.reduceAdd, Nat.reduceMul, Int.reduceToNat, Int.reduceAdd, Int.reduceSub, Int.reduceMul, Int.reduceNeg, Int.reduceLT, Int.reduceLE, Nat.reduceLT, Nat.reduceLeDiff, A_r6_copied_L0]
  refine condC_intro (fun h => ?_) (fun h => ?_)
  · replace h := of_decide_eq_true h
    have hin : i < n := by omega
    have g1 := hr i hin
    simp -implicitDefEqProofs only [xC_skip, evS, evT, evU, hv, effC, reduceCtorEq, ↓reduceIte, Nat.reduceEqDiff, Nat.reduceAdd, Nat.reduceMul, Int.reduceToNat, Int.reduceAdd, Int.reduceSub, Int.reduceMul, Int.reduceNeg, Int.reduceLT, Int.reduceLE, Nat.reduceLT, Nat.reduceLeDiff, Nat.zero_mul, Nat.zero_le]
    (repeat (with_reducible refine And.intro (by omega) ?_))
    rw [wrapI (by omega) (by omega), g1]
    have hd1 : ∀ X r c, Heap.get [(202, [rowV (A.getD i [])]), (200, (A.take i).map rowV), (100, [hdo 200 0 i n ++ [V.sl 202 0 0 n 1 n]])] X r = some c → ∀ v ∈ c,
        LeV [(208, [[V.sl 202 0 0 n 1 n]]), (202, [rowV (A.getD i [])]), (200, (A.take i).map rowV), (100, [hdo 200 0 i n ++ [V.sl 202 0 0 n 1 n]])]
          [(202, [rowV (A.getD i [])]), (200, (A.take i).map rowV), (100, [hdo 200 0 i n ++ [V.sl 202 0 0 n 1 n]])] (fun X q => (X, q)) v v := by
      intro X r c hX v hv'
      rw [get_cons, get_cons, get_cons, get_nil] at hX
      split at hX
      · rcases r with _ | r <;> simp at hX; subst hX; exact mem_rowV hv' _ _ _
      · split at hX
        · rw [List.getElem?_map] at hX
          obtain ⟨xs, h1, rfl⟩ := Option.map_eq_some_iff.1 hX
          exact mem_rowV hv' _ _ _
        · split at hX
          · rcases r with _ | r <;> simp only [List.getElem?_cons_zero, List.getElem?_cons_succ, List.getElem?_nil, Option.some.injEq, reduceCtorEq] at hX
            subst hX
            rcases List.mem_append.1 hv' with hv' | hv'
            · obtain ⟨j, hj, rfl⟩ := List.mem_map.1 hv'
              refine .sl ?_ rfl
              have : j < i := by simpa using hj
              simp [get_cons]; omega
            · obtain rfl : v = V.sl 202 0 0 n 1 n := by simpa using hv'
              exact .sl (by simp [get_cons]) rfl
          · cases hX
    refine ⟨c - 1, ⟨[(0, .d (rowsD A)), (3, .sl 100 0 0 (i + 1) 1 (i + 1)), (4, fI (i + 1 : Nat))], [(200, (A.take (i + 1)).map rowV), (100, [hdo 200 0 (i + 1) n])]⟩, by omega, Le.trans (LeT.drop (fun _ h => h) (L' := [(202, [rowV (A.getD i [])]), (200, (A.take i).map rowV), (100, [hdo 200 0 i n ++ [V.sl 202 0 0 n 1 n]])]) (fun p hp => ?_) (fun X r c hX => ⟨?_, hd1 X r c hX⟩)) ?_, i + 1, by omega, rfl⟩
    · simp only [List.mem_cons, List.not_mem_nil, or_false] at hp
      rcases hp with rfl | rfl | rfl
      all_goals first | exact .d (.d _) | exact .sl (by simp [get_cons]) rfl
    · rw [get_cons, get_cons, get_cons, get_nil] at hX
      rw [get_cons, get_cons, get_cons, get_cons, get_nil]
      split at hX
      · rename_i e; subst e; simpa using hX
      · rename_i e1
        split at hX
        · rename_i e; subst e; simpa using hX
        · rename_i e2
          split at hX
          · rename_i e; subst e; simpa using hX
          · cases hX
    · have := LeT.absorb (N := fun _ => False) (nt := 21) (Y := 202) (X := 200) (cells := rowV (A.getD i [])) (fam := (A.take i).map rowV) (L := [(100, [hdo 200 0 i n ++ [V.sl 202 0 0 n 1 n]])]) (sls := [(0, .d (rowsD A)), (3, .sl 100 0 0 (i + 1) 1 (i + 1)), (4, fI (i + 1 : Nat))]) (by decide) (by simp [fam_cons, fam_nil]) (by simp [fam_cons, fam_nil]) (fun h => h)
      have e2 : ((A.take i).map rowV).length = i := by simp; omega
      rw [e2, ren_fam, ren_rowV, take_fam A i h] at this
      simp only [renS, Heap.renH, ren_absF_sl _ _ _ _ _ _ _ _ _ (by decide : (100 : Nat) ≠ 202), ren_d, List.map_cons, List.map_nil, hdo_absorb 202 200 _ _ (by decide)] at this
      exact this
  · replace h := of_decide_eq_false h
    simp -implicitDefEqProofs only [xC_skip, evS, evT, evU, hv, effC, reduceCtorEq, ↓reduceIte, Nat.reduceEqDiff, Nat.reduceAdd, Nat.reduceMul, Int.reduceToNat, Int.reduceAdd, Int.reduceSub, Int.reduceMul, Int.reduceNeg, Int.reduceLT, Int.reduceLE, Nat.reduceLT, Nat.reduceLeDiff]
    obtain rfl : n = i := by omega
    have e : A.take n = A := List.take_of_length_le (by omega)
    rw [e]
    refine endsT_keep (fun _ h => h) (resV_tmpI (t := 2) (by decide) rfl) rfl (.sl (by simp [get_cons]) rfl) (keep_cells fun X q cells hX v hv' => ?_)
    rw [get_cons, get_cons, get_nil] at hX
    split at hX
    · rw [List.getElem?_map] at hX
      obtain ⟨xs, h1, rfl⟩ := Option.map_eq_some_iff.1 hX
      exact mem_rowV hv' _ _ _
    · split at hX
      · rcases q with _ | q <;> simp at hX; subst hX
        exact mem_hdo hv' fun r hr' => by simp [get_cons]; omega
      · cases hX
end Go.Ab
