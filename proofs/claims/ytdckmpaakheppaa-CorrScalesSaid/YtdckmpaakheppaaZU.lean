/- Rows that are named are kept, the others let go: one word. -/
import Derived.Test.YtdckmpaakheppaaZT
namespace Go.Ab
set_option linter.unusedSimpArgs false
set_option linter.unusedVariables false
open Go
/-- A value names only rows that are there. -/
def Kp (L : Heap) (v : V) : Prop := ∀ L0, LeV L0 L (fun X q => (X, q)) v v
def KpA (L : Heap) (c : List V) : Prop := ∀ v ∈ c, Kp L v
def KpF (L : Heap) (f : List (List V)) : Prop := ∀ c ∈ f, KpA L c
def KpH (L : Heap) (H : Heap) : Prop := ∀ p ∈ H, KpF L p.2
def KpS (L : Heap) (s : Sl) : Prop := ∀ p ∈ s, Kp L p.2
section
variable {L : Heap}
theorem Kp_any : Kp L .any := fun _ => .any _
theorem Kp_nilv : Kp L .nil := fun _ => .nil
theorem Kp_d (x : D) : Kp L (.d x) := fun _ => .d (.d _)
theorem Kp_ptr (X r off ver : Nat) (h : L.get X r ≠ none) : Kp L (.ptr X r off ver) := fun _ => .ptr h rfl
theorem Kp_sl (X r off n esz ver : Nat) (h : L.get X r ≠ none) : Kp L (.sl X r off n esz ver) := fun _ => .sl h rfl
theorem KpA.at {xs : List V} (h : KpA L xs) (L0 : Heap) (j : Nat) : LeV L0 L (fun X q => (X, q)) (xs.getD j .any) (xs.getD j .any) := by
  by_cases hj : j < xs.length
  · rw [List.getD_eq_getElem?_getD, List.getElem?_eq_getElem hj]; exact h _ (List.getElem_mem hj) L0
  · rw [List.getD_eq_getElem?_getD, List.getElem?_eq_none (by omega)]; exact .any _
theorem Kp_agg (xs : List V) (h : KpA L xs) : Kp L (.agg xs) := fun _ => .agg rfl fun j _ => h.at _ j
theorem Kp_tup (xs : List V) (h : KpA L xs) : Kp L (.tup xs) := fun _ => .tup rfl fun j _ => h.at _ j
theorem Kp_fn (g : FuncId) (a b : List V) (h : KpA L a) (h2 : KpA L b) : Kp L (.fn g a b) := fun _ => .fn rfl rfl (fun j _ => h.at _ j) (fun j _ => h2.at _ j)
theorem KpA_nil : KpA L [] := fun _ h => by cases h
theorem KpA_cons (v : V) (c : List V) : KpA L (v :: c) ↔ Kp L v ∧ KpA L c := by simp [KpA]
theorem KpA_app (a b : List V) : KpA L (a ++ b) ↔ KpA L a ∧ KpA L b := by
  simp only [KpA, List.mem_append]
  exact ⟨fun h => ⟨fun v hv => h v (.inl hv), fun v hv => h v (.inr hv)⟩, fun h v hv => hv.elim (h.1 v) (h.2 v)⟩
theorem KpA_rowV (xs : List Nat) : KpA L (rowV xs) := fun v hv L0 => mem_rowV hv _ _ _
theorem KpA_rowIV (xs : List Int) : KpA L (rowIV xs) := fun v hv L0 => mem_rowIV hv _ _ _
theorem KpA_hd (X n i len : Nat) (h : ∀ j, j < i → j < n → L.get X j ≠ none) : KpA L (hd X n i len) := fun v hv L0 => by
  obtain ⟨j, hj, rfl⟩ := List.mem_map.1 hv
  split
  · rename_i h1; exact .sl (h j h1 (by simpa using hj)) rfl
  · exact .nil
theorem KpA_hdo (X o n len : Nat) (h : ∀ r, r < n → L.get X (r + o) ≠ none) : KpA L (hdo X o n len) := fun v hv L0 => by
  obtain ⟨j, hj, rfl⟩ := List.mem_map.1 hv
  exact .sl (h j (by simpa using hj)) rfl
theorem KpA_set (c : List V) (i : Nat) (v : V) (h : KpA L c) (hv : Kp L v) : KpA L (c.set i v) := fun w hw => by
  rcases List.mem_or_eq_of_mem_set hw with h1 | rfl
  · exact h _ h1
  · exact hv
theorem KpF_nil : KpF L [] := fun _ h => by cases h
theorem KpF_cons (c : List V) (f : List (List V)) : KpF L (c :: f) ↔ KpA L c ∧ KpF L f := by simp [KpF]
theorem KpF_rows (A : List (List Nat)) : KpF L (A.map rowV) := fun c hc => by
  obtain ⟨x, _, rfl⟩ := List.mem_map.1 hc
  exact KpA_rowV x
theorem KpH_nil : KpH L [] := fun _ h => by cases h
theorem KpH_cons (p : Nat × List (List V)) (H : Heap) : KpH L (p :: H) ↔ KpF L p.2 ∧ KpH L H := by simp [KpH]
theorem KpS_nil : KpS L [] := fun _ h => by cases h
theorem KpS_cons (p : Nat × V) (s : Sl) : KpS L (p :: s) ↔ Kp L p.2 ∧ KpS L s := by simp [KpS]
end
theorem fam_filter (k : Nat → Bool) (L : Heap) (X : Nat) : Heap.fam (L.filter fun p => k p.1) X = if k X = true then L.fam X else none := by
  induction L with
  | nil => simp [fam_nil]
  | cons p L ih =>
    rw [List.filter_cons]
    by_cases hk : k p.1 = true
    · rw [if_pos hk, fam_cons, fam_cons, ih]
      by_cases h : X = p.1
      · subst h; simp [hk]
      · simp [h]
    · rw [if_neg hk, ih, fam_cons]
      by_cases h : X = p.1
      · subst h; simp [hk]
      · simp [h]
theorem mem_of_get {L : Heap} {X r : Nat} {c : List V} (h : L.get X r = some c) : ∃ p ∈ L, c ∈ p.2 := by
  induction L with
  | nil => simp [get_nil] at h
  | cons p L ih =>
    rw [get_cons] at h
    split at h
    · exact ⟨p, by simp, List.mem_of_getElem? h⟩
    · obtain ⟨q, hq, hc⟩ := ih h
      exact ⟨q, by simp [hq], hc⟩
/-- The rows of these names stay; nobody names the others. -/
theorem LeT.only {N : Nat → Prop} {nt : Nat} (k : Nat → Bool) {sls : Sl} {L L' : Heap} (hN : ∀ Y, ¬ N Y) (hL : (L.filter fun p => k p.1) = L') (hs : KpS L' sls) (hc : KpH L' L') : Le N (T.s nt ⟨sls, L⟩) (T.s nt ⟨sls, L'⟩) := by
  refine LeT.drop hN (fun p hp => hs p hp L) fun X r c h => ⟨?_, fun v hv => ?_⟩
  · subst hL
    unfold Heap.get at h ⊢
    rw [fam_filter] at h
    split at h
    · exact h
    · cases h
  · obtain ⟨p, hp, hcp⟩ := mem_of_get h
    exact hc p hp c hcp v hv L
/-- A function's end: the rows of these names stay. -/
theorem endsT_only {N : Nat → Prop} {nt : Nat} (k : Nat → Bool) {res : List (Nat × Option (Nat × Bool))} {s : T} {r : V} {L' : Heap} (hN : ∀ X, ¬ N X) (h : ResV (s.s nt) res r) (hL : (s.L.filter fun p => k p.1) = L') (hr : Kp L' r) (hc : KpH L' L') : EndsT N nt res r L' .ret s := by
  refine ⟨r, fun X q => (X, q), h, ⟨rfl, fun i hi => ?_, fun X q c hX => ⟨c, ?_, rfl, fun j hj => ?_⟩, fun X q Y p _ _ e => by simpa using e, fun X q h => absurd h (hN X)⟩⟩
  · obtain rfl : i = 0 := by simpa using hi
    exact hr _
  · subst hL
    unfold Heap.get at hX ⊢
    rw [fam_filter] at hX
    split at hX
    · exact hX
    · cases hX
  · obtain ⟨p, hp, hcp⟩ := mem_of_get hX
    exact KpA.at (hc p hp c hcp) _ j
/-- Values and their snapshots, one by one. -/
def Snaps (L : Heap) : List V → List V → Prop
  | [], [] => True
  | a :: as, b :: bs => Snap L a b ∧ Snaps L as bs
  | _, _ => False
theorem Snaps.at {L : Heap} {vs us : List V} (h : Snaps L vs us) : us.length = vs.length ∧ ∀ j, j < us.length → Snap L (vs.getD j .any) (us.getD j .any) := by
  induction vs generalizing us with
  | nil => cases us with
    | nil => exact ⟨rfl, fun j hj => by simp at hj⟩
    | cons u us => exact h.elim
  | cons v vs ih => cases us with
    | nil => exact h.elim
    | cons u us =>
      obtain ⟨h1, h2⟩ := ih h.2
      refine ⟨by simp [h1], fun j hj => ?_⟩
      cases j with
      | zero => exact h.1
      | succ j => exact h2 j (by simpa using hj)
theorem Snap.aggs {L : Heap} {vs us : List V} (h : Snaps L vs us) : Snap L (.agg vs) (.agg us) := .agg h.at.1 fun j hj => h.at.2 j (by rw [h.at.1]; exact hj)
theorem Snap.bare {L : Heap} (x : D) : Snap L (.d x) (.d x) := .d x
theorem Snap.box {L : Heap} {X : Nat} {v : V} {x : D} (h : L.get X 0 = some [v]) (hv : Snap L v (.d x)) : Snap L (.ptr X 0 0 1) (.d (.bptr [x])) :=
  .ptr h rfl (by simp) (by simp) fun j hj => by
    obtain rfl : j = 0 := by simpa using hj
    exact hv
theorem Snap.fun1 {L : Heap} {f : FuncId} {v : V} {x : D} (hv : Snap L v (.d x)) : Snap L (.fn f [] [v]) (.d (.fn f [] [x])) :=
  .fn rfl rfl (fun j hj => by simp at hj) fun j hj => by
    obtain rfl : j = 0 := by simpa using hj
    exact hv
theorem Snap.fun2 {L : Heap} {f : FuncId} {v v2 : V} {x x2 : D} (hv : Snap L v (.d x)) (hv2 : Snap L v2 (.d x2)) : Snap L (.fn f [] [v, v2]) (.d (.fn f [] [x, x2])) :=
  .fn rfl rfl (fun j hj => by simp at hj) fun j hj => by
    rcases j with _ | j
    · exact hv
    · obtain rfl : j = 0 := by simp at hj; omega
      exact hv2
/-- A call of rows that nobody writes, that answers a row of its own. -/
theorem callG_row {P : Program} {g : FuncId} {vs : List V} {L : Heap} {K : V → Heap → Prop} {n : Nat} {xs : List Nat} (k : Nat) (us : List V) (hk : L.next ≤ k) (h : AC P g us [] [(0, [rowV xs])] (.sl 0 0 0 n 1 n))
    (hs : Snaps L vs us) (hK : K (.sl k 0 0 n 1 n) ((k, [rowV xs]) :: L)) : callG P g vs L K := by
  refine callG_ac (AC_frameK k hk (us := us) h hs.at.1 (.inr ⟨hs.at.2, .sl .., fun X q cells hX j hj => ?_⟩)) ?_
  · obtain ⟨_, _, rfl⟩ := one_row (L := []) hX
    rw [List.getD_eq_getElem?_getD, List.getElem?_map]
    cases xs[j]? with
    | none => exact .any
    | some x => exact .flt x
  · have e : Heap.up k [(0, [rowV xs])] = [(k, [rowV xs])] := by
      simp [Heap.up, rowV, V.ren]
    rw [e]
    simpa [V.ren, upF] using hK
/-- A call of rows that nobody writes, that answers a scalar. -/
theorem callG_snaps {P : Program} {g : FuncId} {vs : List V} {L : Heap} {K : V → Heap → Prop} {r : V} (us : List V) (h : Con P g us r) (hs : Snaps L vs us) (hr : Scalar r) (hK : K r L) : callG P g vs L K :=
  callG_snap (us := us) h hs.at.1 hs.at.2 hr hK
/-- A call in a region that draws its order. -/
theorem callS_row {P : Program} {g : FuncId} {vs : List V} {L : Heap} {K : V → Heap → Prop} {n nm k : Nat} {xs : List Nat} (us : List V) (h : AC P g us [] [(0, [rowV xs])] (.sl 0 0 0 n 1 n))
    (hs : Snaps (L.old (nm - k)) vs us) (hf : L.fam nm = none) (hK : K (.sl nm 0 0 n 1 n) (L.ins nm [rowV xs])) : CallS P nm k g vs L K := by
  refine callSG_rows (us := us) h hs.at.1 hs.at.2 (.sl ..) ?_ hf ?_
  · intro q cells hc j hj
    rcases q with _ | q
    case succ => simp at hc
    obtain rfl : rowV xs = cells := by simpa using hc
    rw [List.getD_eq_getElem?_getD, List.getElem?_map]
    cases xs[j]? with
    | none => exact .any
    | some x => exact .flt x
  · have e : famUp nm [rowV xs] = [rowV xs] := by
      simp [famUp, rowV, V.ren]
    rw [e]
    simpa [V.ren, toF] using hK
theorem fnOf_ptr (f : FuncId) (X r off ver : Nat) : fnOf f [] [.ptr X r off ver] = .fn f [] [.ptr X r off ver] := rfl
theorem fnOf_ptr2 (f : FuncId) (X r off ver Y q o ve : Nat) : fnOf f [] [.ptr X r off ver, .ptr Y q o ve] = .fn f [] [.ptr X r off ver, .ptr Y q o ve] := rfl
theorem fnOf_first (f : FuncId) (X r off ver : Nat) : fnOf f [.ptr X r off ver] [] = .fn f [.ptr X r off ver] [] := rfl
/-- A function's end: the rows of these names stay, and all that were handed in. -/
theorem endsT_onlyN {N : Nat → Prop} {nt : Nat} (k : Nat → Bool) {res : List (Nat × Option (Nat × Bool))} {s : T} {r : V} {L' : Heap} (hN : ∀ X, N X → k X = true) (h : ResV (s.s nt) res r) (hL : (s.L.filter fun p => k p.1) = L') (hr : Kp L' r) (hc : KpH L' L') : EndsT N nt res r L' .ret s := by
  have hg : ∀ X r, k X = true → L'.get X r = s.L.get X r := by
    intro X r hk
    subst hL
    unfold Heap.get
    rw [fam_filter, if_pos hk]
  refine ⟨r, fun X q => (X, q), h, ⟨rfl, fun i hi => ?_, fun X q c hX => ⟨c, ?_, rfl, fun j hj => ?_⟩, fun X q Y p _ _ e => by simpa using e, fun X q h hx => ⟨rfl, by rw [hg X q (hN X h)]; exact hx⟩⟩⟩
  · obtain rfl : i = 0 := by simpa using hi
    exact hr _
  · subst hL
    unfold Heap.get at hX ⊢
    rw [fam_filter] at hX
    split at hX
    · exact hX
    · cases hX
  · obtain ⟨p, hp, hcp⟩ := mem_of_get hX
    exact KpA.at (hc p hp c hcp) _ j
/-- A function's end: the result, frozen. -/
theorem endsT_le {N : Nat → Prop} {nt : Nat} {res : List (Nat × Option (Nat × Bool))} {s : T} {d : V} (r : V) (hN : ∀ X, ¬ N X) (h : ResV (s.s nt) res r) (hr : LeV s.L [] (fun X r => (X, r)) r d) : EndsT N nt res d [] .ret s := by
  refine ⟨r, fun X r => (X, r), h, ⟨rfl, fun i hi => ?_, fun X q c hX => by simp [get_nil] at hX, fun X q Y p hX => by simp [get_nil] at hX, fun X q h => absurd h (hN X)⟩⟩
  obtain rfl : i = 0 := by simpa using hi
  exact hr
theorem LeV.agg3 {L L' : Heap} {ρ : Nat → Nat → Nat × Nat} {a b c a' b' c' : V} (h1 : LeV L L' ρ a a') (h2 : LeV L L' ρ b b') (h3 : LeV L L' ρ c c') : LeV L L' ρ (.agg [a, b, c]) (.agg [a', b', c']) := by
  refine .agg rfl fun j hj => ?_
  have hj : j < 3 := by simpa using hj
  rcases j with _ | _ | _ | j
  · exact h1
  · exact h2
  · exact h3
  · omega
theorem resV_cellI {nt t n : Nat} {g : Bool} {s : T} {r : V} {X row off ver : Nat} {cells : List V} (ht : t < nt) (h1 : look s.sl t = .ptr X row off ver) (h2 : s.L.get X row = some cells) (h3 : cells.length = ver) (h4 : off + n ≤ cells.length)
    (h5 : r = ldv g n off cells) : ResV (s.s nt) [(t, some (n, g))] r := resV_cell ht h1 h2 h3 h4 h5
/-- Rows in another order, some of them let go. -/
theorem LeT.perm {N : Nat → Prop} {nt : Nat} {sls : Sl} {L L' : Heap} (hN : ∀ Y, ¬ N Y) (hL : ∀ X, L'.fam X = none ∨ L'.fam X = L.fam X) (hs : KpS L' sls) (hc : KpH L' L') : Le N (T.s nt ⟨sls, L⟩) (T.s nt ⟨sls, L'⟩) := by
  refine LeT.drop hN (fun p hp => hs p hp L) fun X r c h => ⟨?_, fun v hv => ?_⟩
  · unfold Heap.get at h ⊢
    rcases hL X with h1 | h1
    · rw [h1] at h; cases h
    · rw [← h1]; exact h
  · obtain ⟨p, hp, hcp⟩ := mem_of_get h
    exact hc p hp c hcp v hv L
end Go.Ab
