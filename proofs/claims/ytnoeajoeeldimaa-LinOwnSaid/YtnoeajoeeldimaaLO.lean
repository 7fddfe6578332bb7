/- Parting and solving, told place by place. -/
import Derived.Test.YtnoeajoeeldimaaLM
namespace Go.Ab
set_option linter.unusedSimpArgs false
set_option linter.unusedVariables false
open Go Go.Proofs
theorem at2_elimJ (A : List (List Nat)) (n i k : Nat) (hA : Sq n A) (hi : i < n) (hki : k ≠ i) : ∀ d, k + 1 + d ≤ n → ∀ r c, at2 (elimJ A i k d) r c = if r = i ∧ k < c ∧ c < k + 1 + d then fop .sub (at2 A i c) (fop .mul (at2 A i k) (at2 A k c)) else at2 A r c := by
  intro d
  induction d with
  | zero => intro _ r c; rw [if_neg (by omega)]; rfl
  | succ d ih =>
    intro hd r c
    have ih := ih (by omega)
    have hs := elimJ_sq A n i k hA d
    simp only [elimJ]
    have e1 := ih i (k + 1 + d)
    have e2 := ih i k
    have e3 := ih k (k + 1 + d)
    rw [if_neg (by omega)] at e1 e2 e3
    rw [at2_up2 _ n i (k + 1 + d) _ r c hs hi (by omega), e1, e2, e3, ih r c]
    by_cases e : r = i ∧ c = k + 1 + d
    · rw [if_pos e, if_pos (by omega)]; rw [e.2]
    · rw [if_neg e]
      by_cases e2 : r = i ∧ k < c ∧ c < k + 1 + d
      · rw [if_pos e2, if_pos (by omega)]
      · rw [if_neg e2, if_neg (by omega)]
def multP (A : List (List Nat)) (k r : Nat) : Nat := fop .div (at2 A r k) (at2 A k k)
/-- A step's row r, place c. -/
def stepAt (A : List (List Nat)) (k r c : Nat) : Nat :=
  if r ≤ k ∨ c < k then at2 A r c else if c = k then multP A k r else fop .sub (at2 A r c) (fop .mul (multP A k r) (at2 A k c))
theorem at2_elimRow (A : List (List Nat)) (n i k : Nat) (hA : Sq n A) (hi : i < n) (hk : k < n) (hki : k < i) (r c : Nat) (hc : c < n) :
    at2 (elimRow A n i k) r c = if r = i then stepAt A k i c else at2 A r c := by
  unfold elimRow
  have hs := up2_sq A n i k (fop .div (at2 A i k) (at2 A k k)) hA
  rw [at2_elimJ _ n i k hs hi (by omega) _ (by omega)]
  have e := fun r c => at2_up2 A n i k (fop .div (at2 A i k) (at2 A k k)) r c hA hi hk
  rw [e i c, e i k, e k c, e r c]
  by_cases h : r = i
  · subst h
    rw [if_pos (⟨rfl, rfl⟩ : r = r ∧ k = k), if_neg (by omega : ¬ (k = r ∧ c = k)), if_pos rfl]
    unfold stepAt multP
    by_cases h1 : c < k
    · rw [if_neg (by omega), if_neg (by omega), if_pos (.inr h1)]
    · by_cases h2 : c = k
      · rw [if_neg (by omega), if_pos ⟨rfl, h2⟩, if_neg (by omega), if_pos h2]
      · rw [if_pos (by omega), if_neg (by omega), if_neg (by omega), if_neg h2]
  · rw [if_neg (by omega), if_neg (by omega), if_neg h]
theorem at2_elimI (A : List (List Nat)) (n k : Nat) (hA : Sq n A) (hk : k < n) : ∀ d, k + 1 + d ≤ n → ∀ r c, c < n → at2 (elimI A n k d) r c = if k < r ∧ r < k + 1 + d then stepAt A k r c else at2 A r c := by
  intro d
  induction d with
  | zero => intro _ r c _; rw [if_neg (by omega)]; rfl
  | succ d ih =>
    intro hd r c hc
    have ih := ih (by omega)
    have hs := elimI_sq A n k hA d
    simp only [elimI]
    rw [at2_elimRow _ n (k + 1 + d) k hs (by omega) hk (by omega) r c hc]
    have es : stepAt (elimI A n k d) k (k + 1 + d) c = stepAt A k (k + 1 + d) c := by
      have e1 := ih (k + 1 + d) c hc
      have e2 := ih k c hc
      have e3 := ih k k hk
      have e4 := ih (k + 1 + d) k hk
      rw [if_neg (by omega)] at e1 e2 e3 e4
      unfold stepAt multP
      rw [e1, e2, e3, e4]
    rw [es, ih r c hc]
    by_cases e : r = k + 1 + d
    · rw [if_pos e, if_pos (by omega), e]
    · rw [if_neg e]
      by_cases e2 : k < r ∧ r < k + 1 + d
      · rw [if_pos e2, if_pos (by omega)]
      · rw [if_neg e2, if_neg (by omega)]
theorem elim_at (A : List (List Nat)) (n k : Nat) (hA : Sq n A) (hk : k < n) (r c : Nat) (hr : r < n) (hc : c < n) : at2 (elimI A n k (n - 1 - k)) r c = stepAt A k r c := by
  rw [at2_elimI A n k hA hk _ (by omega) r c hc]
  split
  · rfl
  · unfold stepAt
    rw [if_pos (.inl (by omega))]
def sw (k p i : Nat) : Nat := if i = k then p else if i = p then k else i
theorem getD_swapL {α : Type} (d : α) (l : List α) (k p i : Nat) (hk : k < l.length) (hp : p < l.length) : (swapL d l k p).getD i d = l.getD (sw k p i) d := by
  simp only [swapL, sw, List.getD_eq_getElem?_getD, List.getElem?_set, List.length_set]
  by_cases h1 : p = i
  · subst h1
    rw [if_pos rfl, if_pos hp]
    by_cases h2 : p = k
    · rw [h2]; simp
    · rw [if_neg h2]; simp
  · rw [if_neg h1]
    by_cases h2 : k = i
    · subst h2
      rw [if_pos rfl, if_pos hk]; simp
    · rw [if_neg h2, if_neg (fun e => h2 e.symm), if_neg (fun e => h1 e.symm)]
theorem at2_swapL (A : List (List Nat)) (n k p r c : Nat) (hA : Sq n A) (hk : k < n) (hp : p < n) : at2 (swapL [] A k p) r c = at2 A (sw k p r) c := by
  unfold at2
  rw [getD_swapL [] A k p r (by have := hA.1; omega) (by have := hA.1; omega)]
theorem sw_lt {n k p i : Nat} (hk : k < n) (hp : p < n) (hi : i < n) : sw k p i < n := by unfold sw; split <;> (try split) <;> omega
theorem sw_sw (k p i : Nat) : sw k p (sw k p i) = i := by unfold sw; split <;> split <;> (try split) <;> omega
theorem sw_inj {k p i j : Nat} (h : sw k p i = sw k p j) : i = j := by rw [← sw_sw k p i, h, sw_sw]
theorem sw_below {k p i : Nat} (hp : k ≤ p) (hi : i < k) : sw k p i = i := by unfold sw; rw [if_neg (by omega), if_neg (by omega)]
theorem sw_from {k p i : Nat} (hp : k ≤ p) (hi : k ≤ i) : k ≤ sw k p i := by unfold sw; split <;> (try split) <;> omega
theorem pvP_from (A : List (List Nat)) (k : Nat) : ∀ d, k ≤ pvP A k d := by
  intro d
  induction d with
  | zero => exact Nat.le_refl _
  | succ d ih => simp only [pvP]; split <;> omega

/-- A row, less others one by one. -/
def seqS (v : Nat) (f : Nat → Nat) : Nat → Nat
  | 0 => v
  | m + 1 => fop .sub (seqS v f m) (f m)
theorem seqS_congr {v : Nat} {f g : Nat → Nat} : ∀ {m : Nat}, (∀ j, j < m → f j = g j) → seqS v f m = seqS v g m := by
  intro m
  induction m with
  | zero => intro _; rfl
  | succ m ih => intro h; simp only [seqS]; rw [ih (fun j hj => h j (by omega)), h m (by omega)]
theorem getD_set (l : List Nat) (i j v : Nat) (hi : i < l.length) : (l.set i v).getD j 0 = if j = i then v else l.getD j 0 := by
  simp only [List.getD_eq_getElem?_getD, List.getElem?_set]
  by_cases e : i = j
  · subst e; simp [hi]
  · rw [if_neg e, if_neg (fun h => e h.symm)]
theorem fJ_at (A : List (List Nat)) (i : Nat) (x : List Nat) (hi : i < x.length) : ∀ m, m ≤ i → ∀ j, (fJ A i x m).getD j 0 = if j = i then seqS (x.getD i 0) (fun j => fop .mul (at2 A i j) (x.getD j 0)) m else x.getD j 0 := by
  intro m
  induction m with
  | zero => intro _ j; simp only [fJ, seqS]; split <;> simp_all
  | succ m ih =>
    intro hm j
    have ih := ih (by omega)
    have hl := fJ_len A i x m
    simp only [fJ, seqS]
    have e1 := ih i
    have e2 := ih m
    rw [if_pos rfl] at e1
    rw [if_neg (by omega)] at e2
    rw [getD_set _ _ _ _ (by omega), e1, e2, ih j]
    split <;> simp_all
theorem bJ_at (A : List (List Nat)) (n i : Nat) (x : List Nat) (hi : i < x.length) : ∀ m j, (bJ A i x m).getD j 0 = if j = i then seqS (x.getD i 0) (fun j => fop .mul (at2 A i (i + 1 + j)) (x.getD (i + 1 + j) 0)) m else x.getD j 0 := by
  intro m
  induction m with
  | zero => intro j; simp only [bJ, seqS]; split <;> simp_all
  | succ m ih =>
    intro j
    have hl := bJ_len A i x m
    simp only [bJ, seqS]
    have e1 := ih i
    have e2 := ih (i + 1 + m)
    rw [if_pos rfl] at e1
    rw [if_neg (by omega)] at e2
    rw [getD_set _ _ _ _ (by omega), e1, e2, ih j]
    split <;> simp_all
theorem solve_spec (A : List (List Nat)) (π : List Int) (b : List Nat) (n : Nat) : ∃ y : Nat → Nat,
    (∀ i, i < n → y i = seqS (b.getD (π.getD i 0).toNat 0) (fun j => fop .mul (at2 A i j) (y j)) i) ∧
    (∀ i, i < n → (solveP A π b n).getD i 0 = fop .div (seqS (y i) (fun j => fop .mul (at2 A i (i + 1 + j)) ((solveP A π b n).getD (i + 1 + j) 0)) (n - 1 - i)) (at2 A i i)) := by
  refine ⟨fun i => (fwdI A π b n n).getD i 0, ?_, ?_⟩
  · have step : ∀ m, m < n → ∀ j, (fwdI A π b n (m + 1)).getD j 0 = if j = m then seqS (b.getD (π.getD m 0).toNat 0) (fun j => fop .mul (at2 A m j) ((fwdI A π b n m).getD j 0)) m else (fwdI A π b n m).getD j 0 := by
      intro m hm j
      have hl := fwdI_len A π b n m
      simp only [fwdI]
      rw [fJ_at _ _ _ (by simp; omega) _ (Nat.le_refl m), getD_set _ _ _ _ (by omega), getD_set _ _ _ _ (by omega)]
      by_cases e : j = m
      · rw [if_pos e, if_pos e, if_pos rfl]
        exact seqS_congr fun j hj => by rw [getD_set _ _ _ _ (by omega), if_neg (by omega)]
      · rw [if_neg e, if_neg e, if_neg e]
    have stay : ∀ m j, j < m → m ≤ n → (fwdI A π b n m).getD j 0 = (fwdI A π b n (j + 1)).getD j 0 := by
      intro m
      induction m with
      | zero => intro j hj; omega
      | succ m ih =>
        intro j hj hm
        by_cases e : j = m
        · rw [e]
        · rw [step m (by omega) j, if_neg e]; exact ih j (by omega) (by omega)
    intro i hi
    show (fwdI A π b n n).getD i 0 = _
    rw [stay n i hi (Nat.le_refl n), step i hi i, if_pos rfl]
    refine seqS_congr fun j hj => ?_
    show fop .mul _ _ = fop .mul _ ((fwdI A π b n n).getD j 0)
    rw [stay n j (by omega) (Nat.le_refl n), stay i j hj (by omega)]
  · unfold solveP
    have hul := fwdI_len A π b n n
    generalize fwdI A π b n n = u at hul
    have step : ∀ m, m < n → ∀ j, (bckI A n u (m + 1)).getD j 0 = if j = n - 1 - m then fop .div (seqS ((bckI A n u m).getD (n - 1 - m) 0) (fun j => fop .mul (at2 A (n - 1 - m) (n - 1 - m + 1 + j)) ((bckI A n u m).getD (n - 1 - m + 1 + j) 0)) m) (at2 A (n - 1 - m) (n - 1 - m)) else (bckI A n u m).getD j 0 := by
      intro m hm j
      have hl := bckI_len A n u m
      simp only [bckI, bStep]
      have hbl := bJ_len A (n - 1 - m) (bckI A n u m) (n - 1 - (n - 1 - m))
      rw [getD_set _ _ _ _ (by omega), bJ_at A n _ _ (by omega), bJ_at A n _ _ (by omega), if_pos rfl]
      have : n - 1 - (n - 1 - m) = m := by omega
      rw [this]
      split <;> rfl
    have stay : ∀ m j, n - m ≤ j → m ≤ n → j < n → (bckI A n u m).getD j 0 = (bckI A n u (n - j)).getD j 0 := by
      intro m
      induction m with
      | zero => intro j hj; omega
      | succ m ih =>
        intro j hj hm hjn
        by_cases e : j = n - 1 - m
        · rw [show n - j = m + 1 from by omega]
        · rw [step m (by omega) j, if_neg e]; exact ih j (by omega) (by omega) hjn
    have first : ∀ m j, m ≤ n → j < n - m → (bckI A n u m).getD j 0 = u.getD j 0 := by
      intro m
      induction m with
      | zero => intro j _ _; rfl
      | succ m ih => intro j hm hj; rw [step m (by omega) j, if_neg (by omega)]; exact ih j (by omega) (by omega)
    intro i hi
    have e : n - i = (n - 1 - i) + 1 := by omega
    have e2 : n - 1 - (n - 1 - i) = i := by omega
    rw [stay n i (by omega) (Nat.le_refl n) hi, e, step (n - 1 - i) (by omega) i, e2, if_pos rfl, first (n - 1 - i) i (by omega) (by omega)]
    congr 1
    refine seqS_congr fun j hj => ?_
    rw [stay n (i + 1 + j) (by omega) (Nat.le_refl n) (by omega), stay (n - 1 - i) (i + 1 + j) (by omega) (by omega) (by omega)]
theorem part_named {L : Heap} {H r0 X o n : Nat} {A B : List (List Nat)} {π : List Int} (k : Nat) (hk : L.next ≤ k) (hA : Sq n A) (hn : n < 2 ^ 40) (hH : L.get H r0 = some (hdo X o n n)) (hX : ∀ r, r < n → L.get X (r + o) = some (rowV (A.getD r [])))
    (hp : partP A n n = some (B, π)) (K : V → Heap → Prop)
    (h : K (.tup [.agg [.sl (2 + k) 0 0 n 1 n, .sl (5 + k) 0 0 n 1 n], fB true]) ((7 + k, [[.sl (2 + k) 0 0 n 1 n, .sl (5 + k) 0 0 n 1 n]]) :: (5 + k, [rowIV π]) :: (2 + k, hdo (2 + k) 1 n n :: B.map rowV) :: (0 + k, [[.sl (2 + k) 0 0 n 1 n, .sl (5 + k) 0 0 n 1 n]]) :: L)) :
    callG Try.prog 16 [.sl H r0 0 n 1 n] L K := by
  refine callG_ac (AC_frameK k hk (us := [.d (rowsD A)]) (lin_Part_some A n hA hn B π hp) rfl (.inr ⟨fun j hj => ?_, pure_luV n true, pure_lu B π n⟩)) ?_
  · obtain rfl : j = 0 := by simpa using hj
    exact snp_rows hH (fun r hr => ⟨hX r hr, hA.2 r hr⟩) hA.1 rfl
  have hh : (hdo 2 1 n n).map (V.ren (upF k)) = hdo (2 + k) 1 n n := hdo_ren _ 2 1 n n (2 + k) 1 (fun j _ => rfl)
  have hf : (B.map rowV).map (fun c => c.map (V.ren (upF k))) = B.map rowV := ren_fam _ B
  have hi' : (rowIV π).map (V.ren (upF k)) = rowIV π := ren_rowIV _ _
  simpa only [Heap.up, luH, luV, V.ren, V.renL, hh, hf, hi', upF, List.map_cons, List.map_nil, List.cons_append, List.nil_append] using h
theorem solve_named {L : Heap} {H r0 X o n Y y0 : Nat} {vb : V} {B : List (List Nat)} {π : List Int} {b : List Nat} (k : Nat) (hk : L.next ≤ k) (hB : Sq n B) (hn : n < 2 ^ 40) (hH : L.get H r0 = some (hdo X o n n)) (hX : ∀ r, r < n → L.get X (r + o) = some (rowV (B.getD r [])))
    (hπ : L.get Y y0 = some (rowIV π)) (hpm : Pm n π) (hb : b.length = n) (hvb : Snap L vb (.d (rowD b))) (K : V → Heap → Prop)
    (h : K (.sl (2 + k) 0 0 n 1 n) ((2 + k, [rowV (solveP B π b n)]) :: L)) :
    callG Try.prog 24 [.agg [.sl H r0 0 n 1 n, .sl Y y0 0 n 1 n], vb] L K := by
  refine callG_ac (AC_frameK k hk (us := [.agg [.d (rowsD B), .d (rowI π)], .d (rowD b)]) (lin_Solve_row B π b n hB hpm hb hn) rfl (.inr ⟨fun j hj => ?_, .sl .., fun X q cells hX j hj => ?_⟩)) ?_
  · rcases j with _ | _ | j
    · refine .agg rfl fun j hj => ?_
      rcases j with _ | _ | j
      · exact snp_rows hH (fun r hr => ⟨hX r hr, hB.2 r hr⟩) hB.1 rfl
      · exact snp_rowI hπ hpm.1 rfl
      · simp at hj; omega
    · exact hvb
    · simp at hj; omega
  · rw [get_cons, get_nil] at hX
    split at hX
    · rcases q with _ | q <;> simp at hX; subst hX; exact pure_rowV _ j hj
    · cases hX
  have hfx : (rowV (solveP B π b n)).map (V.ren (upF k)) = rowV (solveP B π b n) := ren_rowV _ _
  simpa only [Heap.up, V.ren, hfx, upF, List.map_cons, List.map_nil, List.cons_append, List.nil_append] using h
/-- The first family is let go. -/
theorem LeT.dropHd {N : Nat → Prop} {nt : Nat} {sls : Sl} {L : Heap} {Y : Nat} {g : List (List V)} (hN : ∀ Y, ¬ N Y) (hY : L.fam Y = none) (hs : ∀ p ∈ sls, LeV ((Y, g) :: L) L (fun X q => (X, q)) p.2 p.2)
    (hc : ∀ X q c, L.get X q = some c → ∀ v ∈ c, LeV ((Y, g) :: L) L (fun X q => (X, q)) v v) : Le N (T.s nt ⟨sls, (Y, g) :: L⟩) (T.s nt ⟨sls, L⟩) := by
  refine LeT.drop hN hs fun X r c h => ⟨?_, hc X r c h⟩
  rw [get_cons, if_neg]
  · exact h
  · rintro rfl
    unfold Heap.get at h
    rw [hY] at h; cases h
theorem r1_Rows_gen (a b : List Nat) (hl : b.length = a.length) (ha : a.length < 2 ^ 62) (hs : ∀ i, i < a.length → fsame (a.getD i 0) (b.getD i 0) = true) : Con Try.prog 23 [.d (rowD a), .d (rowD b)] (fB true) := by
  refine Con_introA A_r1_Rows_comp rfl mixed ?_
  simp -implicitDefEqProofs only [xC_skip, evS, decide_true, decide_false, decide_eq_true_eq, sides, Inst.places, List.zip_cons_cons, List.zip_nil_right, List.zip_nil_left, List.mem_cons, List.not_mem_nil, forall_eq_or_imp, forall_eq, false_implies, implies_true, Apart, xeff, xhv, hv, effC, xev, look, argSl, atL, drops, keep, inBlockT, pickX, callX, callCX, callSX, callee, List.map_cons, List.map_nil, List.append_nil, List.nil_append, List.cons_append, reduceCtorEq, ↓reduceIte, Nat.reduceEqDiff, Nat.reduceAdd, Nat.reduceMul, eq_self, List.length_replicate, Int.reduceToNat, Int.reduceAdd, Int.reduceSub, Int.reduceMul, Int.reduceNeg, Int.reduceLT, Int.reduceLE, rowD, rowI, rowsD, ivD, rowG, rowIG, rowsG, ivG, bne_self_eq_false, beq_self_eq_true, List.length_map, List.getD_cons_zero, List.getD_cons_succ, List.drop_succ_cons, List.drop_zero, List.take_succ_cons, List.take_zero, List.take_nil, List.getElem?_cons_zero, List.getElem?_cons_succ, List.length_cons, List.length_nil, List.length_set, List.set_cons_zero, List.set_cons_succ, List.all_cons, List.all_nil, Nat.reduceLT, Nat.reduceLeDiff, ne_eq, Option.some.injEq, fillV, partsV, V.okPart, gt_iff_lt, ge_iff_le, A_r1_Rows, hl]
  refine WA_for (n := a.length) (fun n s => ∃ i, n + i = a.length ∧ s = ⟨[(0, .d (rowD a)), (1, .d (.bor a.length (rowG b))), (5, fI i)], []⟩) ⟨0, rfl, rfl⟩ ?_
  rintro n s ⟨i, hn, rfl⟩
  simp -implicitDefEqProofs only [xC_skip, evS, decide_true, decide_false, decide_eq_true_eq, sides, Inst.places, List.zip_cons_cons, List.zip_nil_right, List.zip_nil_left, List.mem_cons, List.not_mem_nil, forall_eq_or_imp, forall_eq, false_implies, implies_true, Apart, xeff, xhv, hv, effC, xev, look, argSl, atL, drops, keep, inBlockT, pickX, callX, callCX, callSX, callee, List.map_cons, List.map_nil, List.append_nil, List.nil_append, List.cons_append, reduceCtorEq, ↓reduceIte, Nat.reduceEqDiff, Nat.reduceAdd, Nat.reduceMul, eq_self, List.length_replicate, Int.reduceToNat, Int.reduceAdd, Int.reduceSub, Int.reduceMul, Int.reduceNeg, Int.reduceLT, Int.reduceLE, rowD, rowI, rowsD, ivD, rowG, rowIG, rowsG, ivG, bne_self_eq_false, beq_self_eq_true, List.length_map, List.getD_cons_zero, List.getD_cons_succ, List.drop_succ_cons, List.drop_zero, List.take_succ_cons, List.take_zero, List.take_nil, List.getElem?_cons_zero, List.getElem?_cons_succ, List.length_cons, List.length_nil, List.length_set, List.set_cons_zero, List.set_cons_succ, List.all_cons, List.all_nil, Nat.reduceLT, Nat.reduceLeDiff, ne_eq, Option.some.injEq, fillV, partsV, V.okPart, gt_iff_lt, ge_iff_le, A_r1_Rows_L0]
  refine condC_intro (fun h => ?_) (fun h => ?_)
  · replace h := of_decide_eq_true h
    simp -implicitDefEqProofs only [xC_skip, evS, decide_true, decide_false, decide_eq_true_eq, sides, Inst.places, List.zip_cons_cons, List.zip_nil_right, List.zip_nil_left, List.mem_cons, List.not_mem_nil, forall_eq_or_imp, forall_eq, false_implies, implies_true, Apart, xeff, xhv, hv, effC, xev, look, argSl, atL, drops, keep, inBlockT, pickX, callX, callCX, callSX, callee, List.map_cons, List.map_nil, List.append_nil, List.nil_append, List.cons_append, reduceCtorEq, ↓reduceIte, Nat.reduceEqDiff, Nat.reduceAdd, Nat.reduceMul, eq_self, List.length_replicate, Int.reduceToNat, Int.reduceAdd, Int.reduceSub, Int.reduceMul, Int.reduceNeg, Int.reduceLT, Int.reduceLE, rowD, rowI, rowsD, ivD, rowG, rowIG, rowsG, ivG, bne_self_eq_false, beq_self_eq_true, List.length_map, List.getD_cons_zero, List.getD_cons_succ, List.drop_succ_cons, List.drop_zero, List.take_succ_cons, List.take_zero, List.take_nil, List.getElem?_cons_zero, List.getElem?_cons_succ, List.length_cons, List.length_nil, List.length_set, List.set_cons_zero, List.set_cons_succ, List.all_cons, List.all_nil, Nat.reduceLT, Nat.reduceLeDiff, ne_eq, Option.some.injEq, fillV, partsV, V.okPart, gt_iff_lt, ge_iff_le]
    (repeat (with_reducible refine And.intro (by omega) ?_))
    first | refine callG_con (r1_Same_con (a.getD i 0) (b.getD i 0)) rfl ?_ | refine callCG_con (r1_Same_con (a.getD i 0) (b.getD i 0)) rfl ?_ | refine callSG_con (r1_Same_con (a.getD i 0) (b.getD i 0)) rfl ?_
    rw [hs i h]
    simp -implicitDefEqProofs only [xC_skip, evS, decide_true, decide_false, decide_eq_true_eq, sides, Inst.places, List.zip_cons_cons, List.zip_nil_right, List.zip_nil_left, List.mem_cons, List.not_mem_nil, forall_eq_or_imp, forall_eq, false_implies, implies_true, Apart, xeff, xhv, hv, effC, xev, look, argSl, atL, drops, keep, inBlockT, pickX, callX, callCX, callSX, callee, List.map_cons, List.map_nil, List.append_nil, List.nil_append, List.cons_append, reduceCtorEq, ↓reduceIte, Nat.reduceEqDiff, Nat.reduceAdd, Nat.reduceMul, eq_self, List.length_replicate, Int.reduceToNat, Int.reduceAdd, Int.reduceSub, Int.reduceMul, Int.reduceNeg, Int.reduceLT, Int.reduceLE, rowD, rowI, rowsD, ivD, rowG, rowIG, rowsG, ivG, bne_self_eq_false, beq_self_eq_true, List.length_map, List.getD_cons_zero, List.getD_cons_succ, List.drop_succ_cons, List.drop_zero, List.take_succ_cons, List.take_zero, List.take_nil, List.getElem?_cons_zero, List.getElem?_cons_succ, List.length_cons, List.length_nil, List.length_set, List.set_cons_zero, List.set_cons_succ, List.all_cons, List.all_nil, Nat.reduceLT, Nat.reduceLeDiff, ne_eq, Option.some.injEq, fillV, partsV, V.okPart, gt_iff_lt, ge_iff_le]
    rw [wrapI (by omega) (by omega)]
    exact ⟨n - 1, by omega, i + 1, by omega, rfl⟩
  · simp -implicitDefEqProofs only [xC_skip, evS, decide_true, decide_false, decide_eq_true_eq, sides, Inst.places, List.zip_cons_cons, List.zip_nil_right, List.zip_nil_left, List.mem_cons, List.not_mem_nil, forall_eq_or_imp, forall_eq, false_implies, implies_true, Apart, xeff, xhv, hv, effC, xev, look, argSl, atL, drops, keep, inBlockT, pickX, callX, callCX, callSX, callee, List.map_cons, List.map_nil, List.append_nil, List.nil_append, List.cons_append, reduceCtorEq, ↓reduceIte, Nat.reduceEqDiff, Nat.reduceAdd, Nat.reduceMul, eq_self, List.length_replicate, Int.reduceToNat, Int.reduceAdd, Int.reduceSub, Int.reduceMul, Int.reduceNeg, Int.reduceLT, Int.reduceLE, rowD, rowI, rowsD, ivD, rowG, rowIG, rowsG, ivG, bne_self_eq_false, beq_self_eq_true, List.length_map, List.getD_cons_zero, List.getD_cons_succ, List.drop_succ_cons, List.drop_zero, List.take_succ_cons, List.take_zero, List.take_nil, List.getElem?_cons_zero, List.getElem?_cons_succ, List.length_cons, List.length_nil, List.length_set, List.set_cons_zero, List.set_cons_succ, List.all_cons, List.all_nil, Nat.reduceLT, Nat.reduceLeDiff, ne_eq, Option.some.injEq, fillV, partsV, V.okPart, gt_iff_lt, ge_iff_le]
    exact endsT_rett rfl (by decide) (by simp [look])
theorem fam_app (L1 L2 : Heap) (X : Nat) : (L1 ++ L2).fam X = match L1.fam X with | some f => some f | none => L2.fam X := by
  induction L1 with
  | nil => simp [fam_nil]
  | cons p L1 ih =>
    obtain ⟨Y, g⟩ := p
    simp only [List.cons_append, fam_cons]
    by_cases h : X = Y
    · rw [if_pos h, if_pos h]
    · rw [if_neg h, if_neg h]; exact ih
/-- A family among others is let go. -/
theorem LeT.dropAt {N : Nat → Prop} {nt : Nat} {sls : Sl} {L1 L2 : Heap} {Y : Nat} {g : List (List V)} (hN : ∀ Y, ¬ N Y) (hY : (L1 ++ L2).fam Y = none) (hs : ∀ p ∈ sls, LeV (L1 ++ (Y, g) :: L2) (L1 ++ L2) (fun X q => (X, q)) p.2 p.2)
    (hc : ∀ X q c, (L1 ++ L2).get X q = some c → ∀ v ∈ c, LeV (L1 ++ (Y, g) :: L2) (L1 ++ L2) (fun X q => (X, q)) v v) : Le N (T.s nt ⟨sls, L1 ++ (Y, g) :: L2⟩) (T.s nt ⟨sls, L1 ++ L2⟩) := by
  refine LeT.drop hN hs fun X r c h => ⟨?_, hc X r c h⟩
  have hX : X ≠ Y := by
    rintro rfl
    unfold Heap.get at h
    rw [hY] at h; cases h
  unfold Heap.get at h ⊢
  rw [fam_app] at h ⊢
  rw [fam_cons, if_neg hX]
  exact h
/-- A row gets another name. -/
theorem LeT.move {N : Nat → Prop} {nt : Nat} {sls : Sl} {L : Heap} {Y : Nat} {cells : List V} (X : Nat) (hYX : Y ≠ X) (hY : L.fam Y = none) (hX : L.fam X = none) (hN : ¬ N Y) :
    Le N (T.s nt ⟨sls, (Y, [cells]) :: L⟩) (T.s nt ⟨renS (absF Y X 0) sls, (X, [cells.map (V.ren (absF Y X 0))]) :: Heap.renH (absF Y X 0) L⟩) :=
  (LeT.empty (X := X) (L1 := [(Y, [cells])]) (L2 := L) (by simp [fam_cons, hX, hYX.symm])).trans (LeT.absorb (fam := []) hYX hY hX hN)
theorem hd_all (X n len : Nat) : hd X n n len = hdo X 0 n len := by
  have := hd_ren (fun X r => (X, r)) X X 0 n len (fun j _ => rfl)
  rw [← this]
  refine List.ext_getElem? fun j => ?_
  simp only [hd, List.getElem?_map]
  by_cases hj : j < n
  · have h3 : (List.range n)[j]? = some j := by simp [hj]
    simp [h3, hj, V.ren]
  · have h3 : (List.range n)[j]? = none := by simp; omega
    simp [h3]
theorem pure_ivC (ps : List (Nat × Nat)) (j : Nat) : PureV ((ivC ps).getD j .any) := by
  induction ps generalizing j with
  | nil => exact .any
  | cons p ps ih =>
    rcases j with _ | _ | j
    · exact .flt _
    · exact .flt _
    · exact ih j
theorem ren_ivC (f : Nat → Nat → Nat × Nat) (ps : List (Nat × Nat)) : (ivC ps).map (V.ren f) = ivC ps := by
  induction ps with
  | nil => rfl
  | cons p ps ih => simp only [ivC, List.flatMap_cons, List.map_append] at ih ⊢; rw [ih]; simp [V.ren]
theorem left_named {L : Heap} {H r0 X o n : Nat} {vx vb : V} {A : List (List Nat)} {x b : List Nat} (k : Nat) (hk : L.next ≤ k) (hA : Sq n A) (hn : n < 2 ^ 40) (hH : L.get H r0 = some (hdo X o n n)) (hX : ∀ r, r < n → L.get X (r + o) = some (rowV (A.getD r [])))
    (hx : x.length = n) (hvx : Snap L vx (.d (rowD x))) (hb : b.length = n) (hvb : Snap L vb (.d (rowD b))) (K : V → Heap → Prop)
    (h : K (.sl (2 + k) 0 0 n 2 (n * 2)) ((2 + k, [ivC (leftP A x b n)]) :: L)) :
    callG Try.prog 21 [.sl H r0 0 n 1 n, vx, vb] L K := by
  refine callG_ac (AC_frameK k hk (us := [.d (rowsD A), .d (rowD x), .d (rowD b)]) (lin_Left_ac A x b n hA hx hb hn) rfl (.inr ⟨fun j hj => ?_, .sl .., fun X q cells hX j hj => ?_⟩)) ?_
  · rcases j with _ | _ | _ | j
    · exact snp_rows hH (fun r hr => ⟨hX r hr, hA.2 r hr⟩) hA.1 rfl
    · exact hvx
    · exact hvb
    · simp at hj; omega
  · rw [get_cons, get_nil] at hX
    split at hX
    · rcases q with _ | q <;> simp at hX; subst hX; exact pure_ivC _ j
    · cases hX
  have hfx : (ivC (leftP A x b n)).map (V.ren (upF k)) = ivC (leftP A x b n) := ren_ivC _ _
  simpa only [Heap.up, V.ren, hfx, upF, List.map_cons, List.map_nil, List.cons_append, List.nil_append] using h
def rangeI (m : Nat) : List Int := (List.range m).map fun (i : Nat) => (i : Int)
theorem rangeI_len (m : Nat) : (rangeI m).length = m := by simp [rangeI]
/-- Places: each from 0 to m - 1. -/
def Pl (m : Nat) (t : List Int) : Prop := t.length = m ∧ ∀ i, i < m → ∃ y : Nat, t.getD i 0 = y ∧ y < m
/-- Places in another order. -/
structure Pr (m : Nat) (t : List Int) : Prop where
  pl : Pl m t
  inj : ∀ i j, i < m → j < m → t.getD i 0 = t.getD j 0 → i = j
  sur : ∀ c, c < m → ∃ i, i < m ∧ t.getD i 0 = (c : Int)
theorem rangeI_getD (m i : Nat) (h : i < m) : (rangeI m).getD i 0 = (i : Int) := by simp [rangeI, List.getD_eq_getElem?_getD, h]
theorem Pr.range (m : Nat) : Pr m (rangeI m) := by
  refine ⟨⟨rangeI_len m, fun i hi => ⟨i, rangeI_getD m i hi, hi⟩⟩, fun i j hi hj e => ?_, fun c hc => ⟨c, hc, rangeI_getD m c hc⟩⟩
  rw [rangeI_getD m i hi, rangeI_getD m j hj] at e
  omega
theorem Pr.swap {m : Nat} {t : List Int} (h : Pr m t) {a b : Nat} (ha : a < m) (hb : b < m) : Pr m (swapL 0 t a b) := by
  have hl := h.pl.1
  have e := fun i => getD_swapL (0 : Int) t a b i (by omega) (by omega)
  refine ⟨⟨by simp [swapL, hl], fun i hi => ?_⟩, fun i j hi hj he => ?_, fun c hc => ?_⟩
  · rw [e i]; exact h.pl.2 _ (sw_lt ha hb hi)
  · rw [e i, e j] at he
    exact sw_inj (h.inj _ _ (sw_lt ha hb hi) (sw_lt ha hb hj) he)
  · obtain ⟨i, hi, he⟩ := h.sur c hc
    exact ⟨sw a b i, sw_lt ha hb hi, by rw [e, sw_sw, he]⟩
def plN (t : List Int) (i : Nat) : Nat := (t.getD i 0).toNat
theorem Pr.lt {m : Nat} {t : List Int} (h : Pr m t) {i : Nat} (hi : i < m) : plN t i < m := by
  obtain ⟨y, hy, hy2⟩ := h.pl.2 i hi
  unfold plN; rw [hy]; exact hy2
theorem Pr.eq {m : Nat} {t : List Int} (h : Pr m t) {i : Nat} (hi : i < m) : t.getD i 0 = (plN t i : Int) := by
  obtain ⟨y, hy, hy2⟩ := h.pl.2 i hi
  unfold plN; rw [hy]; rfl
theorem Pr.injN {m : Nat} {t : List Int} (h : Pr m t) {i j : Nat} (hi : i < m) (hj : j < m) (e : plN t i = plN t j) : i = j :=
  h.inj i j hi hj (by rw [h.eq hi, h.eq hj, e])
theorem Pr.surN {m : Nat} {t : List Int} (h : Pr m t) {c : Nat} (hc : c < m) : ∃ i, i < m ∧ plN t i = c := by
  obtain ⟨i, hi, e⟩ := h.sur c hc
  exact ⟨i, hi, by unfold plN; rw [e]; rfl⟩
theorem plN_swap {m : Nat} {t : List Int} (h : Pr m t) {a b : Nat} (ha : a < m) (hb : b < m) (i : Nat) : plN (swapL 0 t a b) i = plN t (sw a b i) := by
  unfold plN; rw [getD_swapL (0 : Int) t a b i (by have := h.pl.1; omega) (by have := h.pl.1; omega)]
/-- Rows of the same numbers are the same. -/
theorem sq_ext {A B : List (List Nat)} {n : Nat} (hA : Sq n A) (hB : Sq n B) (h : ∀ r c, r < n → c < n → at2 A r c = at2 B r c) : A = B := by
  refine List.ext_getElem (hA.1.trans hB.1.symm) fun r h1 h2 => ?_
  have hr : r < n := by have := hA.1; omega
  have e1 := hA.2 r hr
  have e2 := hB.2 r hr
  have h := h r
  unfold at2 at h
  have g1 : A.getD r [] = A[r] := by rw [List.getD_eq_getElem?_getD, List.getElem?_eq_getElem h1]; rfl
  have g2 : B.getD r [] = B[r] := by rw [List.getD_eq_getElem?_getD, List.getElem?_eq_getElem h2]; rfl
  rw [g1] at e1
  rw [g2] at e2
  rw [g1, g2] at h
  refine List.ext_getElem (e1.trans e2.symm) fun c h3 h4 => ?_
  have := h c hr (by omega)
  rwa [List.getD_eq_getElem?_getD, List.getD_eq_getElem?_getD, List.getElem?_eq_getElem h3, List.getElem?_eq_getElem h4] at this
theorem get_old (b : Nat) (L : Heap) (X r : Nat) : (L.old b).get X r = if X < b then L.get X r else none := by
  unfold Heap.get
  rw [old_fam]
  split <;> rfl
theorem lin_Solve_fresh (A : List (List Nat)) (π : List Int) (b : List Nat) (n : Nat) (hA : Sq n A) (hπ : Pm n π) (hb : b.length = n) (hn : n < 2 ^ 40) :
    AC Try.prog 24 [.agg [.d (rowsD A), .d (rowI π)], .d (rowD b)] [] [(0, [rowV (solveP A π b n)])] (.sl 0 0 0 n 1 n) := by
  refine AC_le (lin_Solve_row A π b n hA hπ hb hn) (Le.ren (sl := [.sl 2 0 0 n 1 n]) (fun _ r => (0, r)) (fun _ r => (2, r)) ?_ ?_ (fun _ _ h => h.elim))
  · intro X r c h
    rw [get_cons, get_nil] at h
    split at h
    · rename_i e; subst e
      rcases r with _ | r
      · simp at h; subst h; simp [get_cons, V.ren]
      · simp at h
    · cases h
  · intro X r c h
    rw [get_cons, get_nil] at h
    split at h
    · rename_i e; subst e
      rcases r with _ | r
      · simp [get_cons]
      · simp at h
    · cases h
/-- The same in a region that draws. -/
theorem solve_namedS {L : Heap} {nm kk H r0 X o n Y y0 : Nat} {vb : V} {B : List (List Nat)} {π : List Int} {b : List Nat} (hB : Sq n B) (hn : n < 2 ^ 40) (hH : L.get H r0 = some (hdo X o n n)) (hX : ∀ r, r < n → L.get X (r + o) = some (rowV (B.getD r [])))
    (hπ : L.get Y y0 = some (rowIV π)) (hpm : Pm n π) (hb : b.length = n) (hvb : Snap (L.old (nm - kk)) vb (.d (rowD b))) (h1 : H < nm - kk) (h2 : X < nm - kk) (h3 : Y < nm - kk) (hf : L.fam nm = none) (K : V → Heap → Prop)
    (h : K (.sl nm 0 0 n 1 n) (L.ins nm [rowV (solveP B π b n)])) :
    CallS Try.prog nm kk 24 [.agg [.sl H r0 0 n 1 n, .sl Y y0 0 n 1 n], vb] L K := by
  refine callSG_rows (us := [.agg [.d (rowsD B), .d (rowI π)], .d (rowD b)]) (lin_Solve_fresh B π b n hB hpm hb hn) rfl (fun j hj => ?_) (.sl ..) (fun q cells hq j hj => ?_) hf ?_
  · rcases j with _ | _ | j
    · refine .agg rfl fun j hj => ?_
      rcases j with _ | _ | j
      · exact snp_rows (by rw [get_old, if_pos h1]; exact hH) (fun r hr => ⟨by rw [get_old, if_pos h2]; exact hX r hr, hB.2 r hr⟩) hB.1 rfl
      · exact snp_rowI (by rw [get_old, if_pos h3]; exact hπ) hpm.1 rfl
      · simp at hj; omega
    · exact hvb
    · simp at hj; omega
  · rcases q with _ | q <;> simp at hq
    subst hq; exact pure_rowV _ j hj
  have hfx : (rowV (solveP B π b n)).map (V.ren (toF nm)) = rowV (solveP B π b n) := ren_rowV _ _
  simpa only [V.ren, toF, famUp, List.map_cons, List.map_nil, hfx] using h
end Go.Ab
