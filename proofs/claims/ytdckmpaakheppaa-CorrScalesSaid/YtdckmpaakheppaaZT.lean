/- Rows that are filled place by place, or made longer one by one. -/
import Derived.Test.YtdckmpaakheppaaZK
import Derived.Test.YtdckmpaakheppaaZJ
namespace Go.Ab
set_option linter.unusedSimpArgs false
set_option linter.unusedVariables false
open Go
/-- A row of n numbers. -/
def tabR (g : Nat → Nat) (n : Nat) : List Nat := (List.range n).map g
def fillR (g : Nat → Nat) (n i : Nat) : List Nat := (List.range n).map fun r => if r < i then g r else 0
theorem tabR_len (g : Nat → Nat) (n : Nat) : (tabR g n).length = n := by simp [tabR]
theorem fillR_len (g : Nat → Nat) (n i : Nat) : (fillR g n i).length = n := by simp [fillR]
theorem tabR_getD (g : Nat → Nat) (n i : Nat) (h : i < n) : (tabR g n).getD i 0 = g i := by simp [tabR, List.getD_eq_getElem?_getD, h]
theorem fillR_zero (g : Nat → Nat) (n : Nat) : fillR g n 0 = List.replicate n 0 := by
  refine List.ext_getElem? fun j => ?_
  by_cases h : j < n <;> simp [fillR, h]
theorem fillR_all (g : Nat → Nat) (n : Nat) : fillR g n n = tabR g n := by
  refine List.map_congr_left fun j hj => ?_
  rw [if_pos (by simpa using hj)]
theorem fillR_set (g : Nat → Nat) (n i : Nat) (hi : i < n) : (fillR g n i).set i (g i) = fillR g n (i + 1) := by
  refine List.ext_getElem? fun j => ?_
  simp only [fillR, List.getElem?_set, List.length_map, List.length_range, List.getElem?_map]
  by_cases h1 : i = j
  · subst h1; simp [hi]
  · by_cases h2 : j < n
    · have h3 : (List.range n)[j]? = some j := by simp [h2]
      rw [h3, if_neg h1]
      simp only [Option.map_some]
      by_cases h4 : j < i
      · rw [if_pos h4, if_pos (by omega)]
      · rw [if_neg h4, if_neg (by omega)]
    · have h3 : (List.range n)[j]? = none := by simp; omega
      rw [h3, if_neg h1]; rfl
theorem tabR_succ (g : Nat → Nat) (n : Nat) : rowV (tabR g (n + 1)) = rowV (tabR g n) ++ [fl (g n)] := by simp [tabR, List.range_succ]
theorem tabR_congr {g f : Nat → Nat} {n : Nat} (h : ∀ i, i < n → g i = f i) : tabR g n = tabR f n := List.map_congr_left fun i hi => h i (by simpa using hi)
theorem fam_app (L1 L2 : Heap) (X : Nat) : (L1 ++ L2).fam X = match L1.fam X with | some f => some f | none => L2.fam X := by
  induction L1 with
  | nil => simp [fam_nil]
  | cons p L1 ih =>
    obtain ⟨Y, g⟩ := p
    simp only [List.cons_append, fam_cons]
    by_cases h : X = Y
    · rw [if_pos h, if_pos h]
    · rw [if_neg h, if_neg h]; exact ih
/-- The first family is let go. -/
theorem LeT.dropHd {N : Nat → Prop} {nt : Nat} {sls : Sl} {L : Heap} {Y : Nat} {g : List (List V)} (hN : ∀ Y, ¬ N Y) (hY : L.fam Y = none) (hs : ∀ p ∈ sls, LeV ((Y, g) :: L) L (fun X q => (X, q)) p.2 p.2)
    (hc : ∀ X q c, L.get X q = some c → ∀ v ∈ c, LeV ((Y, g) :: L) L (fun X q => (X, q)) v v) : Le N (T.s nt ⟨sls, (Y, g) :: L⟩) (T.s nt ⟨sls, L⟩) := by
  refine LeT.drop hN hs fun X r c h => ⟨?_, hc X r c h⟩
  rw [get_cons, if_neg]
  · exact h
  · rintro rfl
    unfold Heap.get at h
    rw [hY] at h; cases h
/-- A family among others is let go. -/
theorem LeT.dropAt {N : Nat → Prop} {nt : Nat} {sls : Sl} {L1 L2 : Heap} {Y : Nat} {g : List (List V)} (hN : ∀ Y, ¬ N Y) (hY : (L1 ++ L2).fam Y = none) (hs : ∀ p ∈ sls, LeV (L1 ++ (Y, g) :: L2) (L1 ++ L2) (fun X q => (X, q)) p.2 p.2)
    (hc : ∀ X q c, (L1 ++ L2).get X q = some c → ∀ v ∈ c, LeV (L1 ++ (Y, g) :: L2) (L1 ++ L2) (fun X q => (X, q)) v v) : Le N (T.s nt ⟨sls, L1 ++ (Y, g) :: L2⟩) (T.s nt ⟨sls, L1 ++ L2⟩) := by
  refine LeT.drop hN hs fun X r c h => ⟨?_, hc X r c h⟩
  have hX : X ≠ Y := by
    rintro rfl
    unfold Heap.get at h
    rw [hY] at h; cases h
  unfold Heap.get at h ⊢
  rw [fam_app] at h ⊢
  rw [fam_cons, if_neg hX]
  exact h
/-- A row gets another name. -/
theorem LeT.move {N : Nat → Prop} {nt : Nat} {sls : Sl} {L : Heap} {Y : Nat} {cells : List V} (X : Nat) (hYX : Y ≠ X) (hY : L.fam Y = none) (hX : L.fam X = none) (hN : ¬ N Y) :
    Le N (T.s nt ⟨sls, (Y, [cells]) :: L⟩) (T.s nt ⟨renS (absF Y X 0) sls, (X, [cells.map (V.ren (absF Y X 0))]) :: Heap.renH (absF Y X 0) L⟩) :=
  (LeT.empty (X := X) (L1 := [(Y, [cells])]) (L2 := L) (by simp [fam_cons, hX, hYX.symm])).trans (LeT.absorb (fam := []) hYX hY hX hN)
theorem get_old (b : Nat) (L : Heap) (X r : Nat) : (L.old b).get X r = if X < b then L.get X r else none := by
  unfold Heap.get
  rw [old_fam]
  split <;> rfl
/-- One row alone: all that leads to it. -/
theorem one_row {L : Heap} {X Z q : Nat} {xs : List Nat} {c : List V} (h : Heap.get [(X, [rowV xs])] Z q = some c) : Z = X ∧ q = 0 ∧ c = rowV xs := by
  rw [get_cons, get_nil] at h
  split at h
  · rename_i e; subst e
    rcases q with _ | q <;> simp at h
    exact ⟨rfl, rfl, h.symm⟩
  · cases h
theorem endsT_row {N : Nat → Prop} {nt : Nat} {res : List (Nat × Option (Nat × Bool))} {X n : Nat} {xs : List Nat} {s : T} (hN : ∀ X, ¬ N X) (hr : ResV (s.s nt) res (.sl X 0 0 n 1 n)) (hL : s.L = [(X, [rowV xs])]) : EndsT N nt res (.sl X 0 0 n 1 n) [(X, [rowV xs])] .ret s := by
  refine endsT_keep hN hr hL (.sl (by simp [get_cons]) rfl) (keep_cells fun Z q cells hX v hv' => ?_)
  obtain ⟨_, _, rfl⟩ := one_row (L := []) hX
  exact mem_rowV hv' _ _ _
/-- A row that is made anew, as data; under the name 0. -/
theorem Con_of_row {P : Program} {f : FuncId} {vs : List V} {X n : Nat} {xs : List Nat} (h : AC P f vs [] [(X, [rowV xs])] (.sl X 0 0 n 1 n)) (hn : xs.length = n) : Con P f vs (.d (rowD xs)) :=
  Con_of_AC h (.d (snap_row (fun Y q h => by simp [get_nil] at h) (by simp [get_cons]) hn rfl))
theorem AC_row0 {P : Program} {f : FuncId} {vs : List V} {X n : Nat} {xs : List Nat} (h : AC P f vs [] [(X, [rowV xs])] (.sl X 0 0 n 1 n)) : AC P f vs [] [(0, [rowV xs])] (.sl 0 0 0 n 1 n) := by
  refine AC_le h (Le.ren (sl := [.sl X 0 0 n 1 n]) (fun _ r => (0, r)) (fun _ r => (X, r)) ?_ ?_ (fun _ _ h => h.elim))
  · intro Z r c h
    obtain ⟨rfl, rfl, rfl⟩ := one_row (L := []) h
    simp [get_cons, V.ren]
  · intro Z r c h
    obtain ⟨rfl, rfl, rfl⟩ := one_row (L := []) h
    simp [get_cons]
/-- One row stays, the one ahead of it goes. -/
theorem LeT.dropRow {N : Nat → Prop} {nt : Nat} {sls : Sl} {Y X : Nat} {g : List (List V)} {xs : List Nat} (hN : ∀ Y, ¬ N Y) (hYX : Y ≠ X) (hs : ∀ p ∈ sls, LeV [(Y, g), (X, [rowV xs])] [(X, [rowV xs])] (fun X q => (X, q)) p.2 p.2) :
    Le N (T.s nt ⟨sls, [(Y, g), (X, [rowV xs])]⟩) (T.s nt ⟨sls, [(X, [rowV xs])]⟩) :=
  LeT.dropHd hN (by simp [fam_cons, fam_nil, hYX]) hs fun Z q c hX v hv => by
    obtain ⟨_, _, rfl⟩ := one_row (L := []) hX
    exact mem_rowV hv _ _ _
end Go.Ab
