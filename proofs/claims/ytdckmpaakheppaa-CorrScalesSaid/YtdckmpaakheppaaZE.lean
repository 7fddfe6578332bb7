/- Rows of rows of a run's own: headers, rows as a family; a new row joins its family; rows laid down as data. -/
import Derived.Test.YtdckmpaakheppaaZD
namespace Go.Ab
set_option linter.unusedSimpArgs false
set_option linter.unusedVariables false
open Go

/-- A row of floats, of whole numbers, as cells. -/
abbrev rowV (xs : List Nat) : List V := xs.map fl
abbrev rowIV (xs : List Int) : List V := xs.map fI
/-- Headers: the first i lead to the rows of X, the others are nil. -/
def hd (X n i : Nat) (len : Nat) : List V := (List.range n).map fun j => if j < i then .sl X j 0 len 1 len else .nil

theorem hd_length (X n i len : Nat) : (hd X n i len).length = n := by simp [hd]
theorem hd_getD (X n i len j : Nat) (h : j < i) (h2 : i ≤ n) : (hd X n i len).getD j .any = .sl X j 0 len 1 len := by
  have : j < n := by omega
  simp [hd, List.getD_eq_getElem?_getD, this, h]
theorem hd_zero (X n len : Nat) : hd X n 0 len = repl n [.nil] := by
  refine List.ext_getElem? fun j => ?_
  have : ∀ n, repl n [V.nil] = List.replicate n V.nil := by
    intro n
    unfold repl
    induction n with
    | zero => rfl
    | succ n ih => simp [List.replicate_succ, ih]
  rw [this]
  by_cases h : j < n <;> simp [hd, h]
theorem hd_set (X n i len : Nat) (h : i < n) : (hd X n i len).set i (.sl X i 0 len 1 len) = hd X n (i + 1) len := by
  refine List.ext_getElem? fun j => ?_
  simp only [hd, List.getElem?_set, List.length_map, List.length_range, List.getElem?_map]
  by_cases h1 : i = j
  · subst h1; simp [h]
  · by_cases h2 : j < n
    · have h3 : (List.range n)[j]? = some j := by simp [h2]
      rw [h3]
      simp only [if_neg h1, Option.map_some]
      by_cases h4 : j < i
      · rw [if_pos h4, if_pos (by omega)]
      · rw [if_neg h4, if_neg (by omega)]
    · have h3 : (List.range n)[j]? = none := by simp; omega
      rw [h3]; simp [h1]
theorem hd_cells (X n i len : Nat) : (hd X n i len).all V.isCell = true := by
  simp only [hd, List.all_map, List.all_eq_true]
  intro j _
  simp only [Function.comp]
  split <;> rfl

theorem getE (A : List (List Nat)) (i : Nat) (h : i < A.length) : (A.map rowV)[i]? = some (rowV (A.getD i [])) := by
  simp [h, List.getD_eq_getElem?_getD]
theorem setE (A : List (List Nat)) (i : Nat) (xs : List Nat) : (A.map rowV).set i (rowV xs) = (A.set i xs).map rowV := by
  rw [List.map_set]
theorem repl_zero (n : Nat) : repl n [fl 0] = rowV (List.replicate n 0) := by
  unfold repl
  induction n with
  | zero => rfl
  | succ n ih => simp only [List.replicate_succ, List.flatten_cons, ih]; rfl
theorem repl_zeroI (n : Nat) : repl n [fI 0] = rowIV (List.replicate n 0) := by
  unfold repl
  induction n with
  | zero => rfl
  | succ n ih => simp only [List.replicate_succ, List.flatten_cons, ih]; rfl
theorem getD_rowIV (xs : List Int) (i : Nat) (h : i < xs.length) : (rowIV xs).getD i .any = fI (xs.getD i 0) := by
  simp [List.getD_eq_getElem?_getD, h]
theorem set_rowIV (xs : List Int) (i : Nat) (v : Int) : (rowIV xs).set i (fI v) = rowIV (xs.set i v) := by
  unfold rowIV; rw [List.map_set]
theorem all_rowIV (xs : List Int) : (rowIV xs).all V.isCell = true := by simp [V.isCell]
theorem ren_rowV (f : Nat → Nat → Nat × Nat) (xs : List Nat) : (rowV xs).map (V.ren f) = rowV xs := by
  simp [V.ren]
theorem ren_rowIV (f : Nat → Nat → Nat × Nat) (xs : List Int) : (rowIV xs).map (V.ren f) = rowIV xs := by
  simp [V.ren]
theorem ren_fam (f : Nat → Nat → Nat × Nat) (A : List (List Nat)) : (A.map rowV).map (fun c => c.map (V.ren f)) = A.map rowV := by
  rw [List.map_map]
  exact List.map_congr_left fun xs _ => ren_rowV f xs

section
variable {P : Program} {N : Nat → Prop} {nt : Nat} {Q : Ex → T → Prop} {L : Heap}

def renS (f : Nat → Nat → Nat × Nat) : Sl → Sl
  | [] => []
  | (k, v) :: r => (k, v.ren f) :: renS f r
theorem look_ren (f : Nat → Nat → Nat × Nat) : ∀ (as : Sl) (i : Nat), look (renS f as) i = (look as i).ren f := by
  intro as
  induction as with
  | nil => intro i; simp [renS, look, V.ren]
  | cons p as ih =>
    obtain ⟨k, v⟩ := p
    intro i
    simp only [renS, look, ih]
    split <;> rfl
theorem build_ren (f : Nat → Nat → Nat × Nat) (as : Sl) : (build nt as).map (V.ren f) = build nt (renS f as) := by
  simp only [build, List.map_map]
  exact List.map_congr_left fun i _ => by simp [look_ren]

def Heap.renH (f : Nat → Nat → Nat × Nat) : Heap → Heap
  | [] => []
  | (X, fam) :: L => (X, fam.map fun cells => cells.map (V.ren f)) :: Heap.renH f L
theorem get_renH (f : Nat → Nat → Nat × Nat) : ∀ (L : Heap) (X r : Nat), Heap.get (Heap.renH f L) X r = (L.get X r).map (·.map (V.ren f)) := by
  intro L
  induction L with
  | nil => intro X r; simp [Heap.renH, get_nil]
  | cons p L ih =>
    obtain ⟨Y, fam⟩ := p
    intro X r
    simp only [Heap.renH, get_cons, ih]
    split
    · simp
    · rfl

/-- Row 0 of Y is row k of X. -/
def absF (Y X k : Nat) (a r : Nat) : Nat × Nat := if a = Y ∧ r = 0 then (X, k) else (a, r)

theorem LeT.absorb {sls : Sl} {Y X : Nat} {cells : List V} {fam : List (List V)} (hYX : Y ≠ X) (hY : L.fam Y = none) (hX : L.fam X = none) (hN : ¬ N Y) :
    Le N (T.s nt ⟨sls, (Y, [cells]) :: (X, fam) :: L⟩) (T.s nt ⟨renS (absF Y X fam.length) sls, (X, fam.map (fun c => c.map (V.ren (absF Y X fam.length))) ++ [cells.map (V.ren (absF Y X fam.length))]) :: Heap.renH (absF Y X fam.length) L⟩) := by
  have hYn : ∀ r, L.get Y r = none := by intro r; unfold Heap.get; rw [hY]; rfl
  have hXn : ∀ r, L.get X r = none := by intro r; unfold Heap.get; rw [hX]; rfl
  have := Le.ren (N := N) (sl := build nt sls) (L := (Y, [cells]) :: (X, fam) :: L)
    (L2 := (X, fam.map (fun c => c.map (V.ren (absF Y X fam.length))) ++ [cells.map (V.ren (absF Y X fam.length))]) :: Heap.renH (absF Y X fam.length) L)
    (absF Y X fam.length) (fun a r => if a = X ∧ r = fam.length then (Y, 0) else (a, r)) ?_ ?_ ?_
  · simp only [T.s, ← build_ren]; exact this
  · intro a r c h
    rw [get_cons, get_cons] at h
    unfold absF
    split at h
    · rename_i e; subst e
      cases r with
      | zero => simp at h; subst h; simp [get_cons]
      | succ r => simp at h
    · rename_i e
      split at h
      · rename_i e2; subst e2
        have hr : r < fam.length := (List.getElem?_eq_some_iff.1 h).1
        have h1 : ¬ (a = Y ∧ r = 0) := fun h => e h.1
        have h2 : ¬ r = fam.length := by omega
        simp only [if_neg h1, get_cons, if_true]
        refine ⟨?_, by simp [h2]⟩
        rw [List.getElem?_append_left (by simpa using hr), List.getElem?_map, h]; rfl
      · rename_i e2
        have h1 : ¬ (a = Y ∧ r = 0) := fun h => e h.1
        simp only [if_neg h1, get_cons, if_neg e2, get_renH, h]
        exact ⟨rfl, by simp [e2]⟩
  · intro a r c h
    rw [get_cons] at h
    split at h
    · rename_i e; subst e
      have hr : r < fam.length + 1 := by have := (List.getElem?_eq_some_iff.1 h).1; simpa using this
      by_cases h2 : r = fam.length
      · subst h2; simp [get_cons, absF]
      · have h3 : r < fam.length := by omega
        have h4 : ¬ (a = Y ∧ r = 0) := fun h => hYX h.1.symm
        have h5 : ¬ a = Y := fun h => hYX h.symm
        simp [h2, get_cons, h5, h3, absF]
    · rename_i e
      rw [get_renH] at h
      obtain ⟨c0, h1, h2⟩ := Option.map_eq_some_iff.1 h
      have h3 : ¬ a = Y := fun e => by rw [e, hYn] at h1; cases h1
      simp [e, get_cons, h3, h1, absF]
  · intro a r ha _
    unfold absF
    have : ¬ (a = Y ∧ r = 0) := fun h => hN (h.1 ▸ ha)
    rw [if_neg this]

/-- A loop, its rounds' ends weakened. -/
def nextW (N : Nat → Prop) (nt : Nat) (I : Nat → T → Prop) (n : Nat) (t : T) : Prop := ∃ k t', k < n ∧ Le N (t.s nt) (t'.s nt) ∧ I k t'
def thenW (N : Nat → Prop) (nt : Nat) (I : Nat → T → Prop) (n : Nat) (Q : Ex → T → Prop) (e : Ex) (s : T) : Prop := thenT (nextW N nt I n) Q e s
theorem thenW_normal (I : Nat → T → Prop) (n : Nat) (s : T) : thenW N nt I n Q .normal s = nextW N nt I n s := rfl
theorem thenW_exit (I : Nat → T → Prop) (n i : Nat) (s : T) : thenW N nt I n Q (.exit i) s = Q (.exit i) s := rfl
theorem thenW_ret (I : Nat → T → Prop) (n : Nat) (s : T) : thenW N nt I n Q .ret s = Q .ret s := rfl
theorem WA_forW {c : CA} {s : T} (I : Nat → T → Prop) {n : Nat} {s0 : T} (hle : Le N (s.s nt) (s0.s nt)) (h0 : I n s0) (round : ∀ n s, I n s → xC P N nt c (thenW N nt I n Q) s) : WA P N nt (.loop c) Q s := by
  refine WA_le hle (WA_loop (fun n t => I n t) h0 fun n s hI => WA.mono (WA_of_xC _ _ _ (round n s hI)) fun e t ht => ?_)
  cases e with
  | normal => obtain ⟨k, t', hk, hle, hI'⟩ := ht; exact ⟨t', hle, k, hk, hI'⟩
  | exit i => exact ⟨t, .refl _, ht⟩
  | ret => exact ⟨t, .refl _, ht⟩

/-- An empty family, out of nothing. -/
theorem LeT.empty {as : Sl} {X : Nat} {L1 L2 : Heap} (hX : (L1 ++ L2).fam X = none) : Le N (T.s nt ⟨as, L1 ++ L2⟩) (T.s nt ⟨as, L1 ++ (X, []) :: L2⟩) := by
  have hg : ∀ a r, Heap.get (L1 ++ (X, []) :: L2) a r = Heap.get (L1 ++ L2) a r := by
    intro a r
    induction L1 with
    | nil =>
      simp only [List.nil_append, get_cons]
      split
      · rename_i e; subst e
        unfold Heap.get; rw [show Heap.fam L2 a = none from hX]; simp
      · rfl
    | cons p L1 ih =>
      obtain ⟨Y, fam⟩ := p
      simp only [List.cons_append, get_cons] at *
      rw [fam_cons] at hX
      split
      · rfl
      · split at hX
        · cases hX
        · exact ih hX
  refine ⟨rfl, fun E hN St m w cs hl ho hE hs => ?_⟩
  have ho : Objs St m (L1 ++ L2) w := ho
  have hE : Since E St m (L1 ++ L2) w := hE
  have hx : Ext St St m m (L1 ++ L2) (L1 ++ (X, []) :: L2) w w := ⟨fun _ h => h, fun _ _ => rfl, fun a r c h => ⟨c, by rw [hg]; exact h, Nat.le_refl _, fun _ => rfl⟩⟩
  refine ⟨St, m, ⟨ho.st, fun a r c h => ho.nil a r c (by rw [← hg]; exact h), fun a r c b C h hm => ?_, fun a r b q x C C' h1 h2 => ho.inj a r b q x C C' (by rw [← hg]; exact h1) (by rw [← hg]; exact h2)⟩, ?_, fun i hi => (hs i hi).mono hx⟩
  · obtain ⟨p1, p2, arr, el, p3, p4, p5, p6⟩ := ho.obj a r c b C (by rw [← hg]; exact h) hm
    exact ⟨p1, p2, arr, el, p3, p4, p5, fun j hj => (p6 j hj).mono hx⟩
  · exact ⟨hE.frame, hE.ext.trans hx, hE.st, fun a r b C h1 h2 => hE.src a r b C (by rw [← hg]; exact h1) h2⟩

/-- A function's end that keeps its rows. -/
theorem endsT_keep {res : List (Nat × Option (Nat × Bool))} {s : T} {r : V} {L' : Heap} (hN : ∀ X, ¬ N X) (h : ResV (s.s nt) res r) (hL : s.L = L') (hr : LeV s.L L' (fun X q => (X, q)) r r)
    (hc : ∀ X q cells, L'.get X q = some cells → ∀ j, j < cells.length → LeV L' L' (fun X q => (X, q)) (cells.getD j .any) (cells.getD j .any)) : EndsT N nt res r L' .ret s := by
  subst hL
  refine ⟨r, fun X q => (X, q), h, ⟨rfl, fun i hi => ?_, fun X q c hX => ⟨c, hX, rfl, fun j hj => hc X q c hX j hj⟩, fun X q Y p _ _ e => by simpa using e, fun X q h => absurd h (hN X)⟩⟩
  obtain rfl : i = 0 := by simpa using hi
  exact hr

theorem LeV.flt' {L L' : Heap} {ρ : Nat → Nat → Nat × Nat} (x : D) : LeV L L' ρ (.d x) (.d x) := .d (.d x)
theorem le_rowV (L : Heap) (ρ : Nat → Nat → Nat × Nat) (xs : List Nat) (j : Nat) : LeV L L ρ ((rowV xs).getD j .any) ((rowV xs).getD j .any) := by
  rw [List.getD_eq_getElem?_getD, List.getElem?_map]
  cases xs[j]? with
  | none => exact .any _
  | some x => exact .d (.d _)
theorem le_rowIV (L : Heap) (ρ : Nat → Nat → Nat × Nat) (xs : List Int) (j : Nat) : LeV L L ρ ((rowIV xs).getD j .any) ((rowIV xs).getD j .any) := by
  rw [List.getD_eq_getElem?_getD, List.getElem?_map]
  cases xs[j]? with
  | none => exact .any _
  | some x => exact .d (.d _)
theorem le_hd (L : Heap) (X n len : Nat) (h : ∀ r, r < n → L.get X r ≠ none) (j : Nat) : LeV L L (fun X q => (X, q)) ((hd X n n len).getD j .any) ((hd X n n len).getD j .any) := by
  by_cases hj : j < n
  · rw [hd_getD X n n len j hj (Nat.le_refl _)]; exact .sl (h j hj) rfl
  · rw [List.getD_eq_getElem?_getD, List.getElem?_eq_none (by rw [hd_length]; omega)]; exact .any _

/-- A row as data; rows as data. -/
theorem snap_row {L : Heap} {f : Nat → Nat → Prop} {X r n ver : Nat} {xs : List Nat} (hf : f X r) (h : L.get X r = some (rowV xs)) (hn : xs.length = n) (hv : n = ver) : SnapF L f (.sl X r 0 n 1 ver) (rowD xs) := by
  subst hn
  refine .sl (fun _ => hf) h (by simpa using hv) (by simp) (fun i hi => rfl) fun i j hi hj => ?_
  obtain rfl : j = 0 := by omega
  rw [show 0 + i * 1 + 0 = i from by omega, getD_map_fl _ _ hi]
  exact .d _
theorem snap_rowI {L : Heap} {f : Nat → Nat → Prop} {X r n ver : Nat} {xs : List Int} (hf : f X r) (h : L.get X r = some (rowIV xs)) (hn : xs.length = n) (hv : n = ver) : SnapF L f (.sl X r 0 n 1 ver) (rowI xs) := by
  subst hn
  refine .sl (fun _ => hf) h (by simpa using hv) (by simp) (fun i hi => rfl) fun i j hi hj => ?_
  obtain rfl : j = 0 := by omega
  rw [show 0 + i * 1 + 0 = i from by omega, getD_rowIV _ _ hi]
  exact .d _
theorem snap_rows {L : Heap} {f : Nat → Nat → Prop} {X H n len ver : Nat} {A : List (List Nat)} (hf : f H 0) (hfx : ∀ r, r < n → f X r) (h : L.get H 0 = some (hd X n n len)) (hA : ∀ r, r < n → L.get X r = some (rowV (A.getD r [])) ∧ (A.getD r []).length = len)
    (hn : A.length = n) (hv : n = ver) : SnapF L f (.sl H 0 0 n 1 ver) (rowsD A) := by
  subst hn
  refine .sl (fun _ => hf) h (by rw [hd_length]; exact hv) (by simp [hd_length]) (fun i hi => rfl) fun i j hi hj => ?_
  obtain rfl : j = 0 := by omega
  rw [show 0 + i * 1 + 0 = i from by omega, hd_getD _ _ _ _ _ hi (Nat.le_refl _)]
  exact snap_row (hfx i hi) (hA i hi).1 (hA i hi).2 rfl
end
section
variable {N : Nat → Prop} {nt : Nat} {L : Heap}
theorem srcCells_row (L : Heap) (esz : Nat) (xs : List Nat) : srcCells L esz (.d (.bor xs.length (rowG xs))) = some (rowV xs) := by
  simp only [srcCells, bcells]
  congr 1
  refine List.ext_getElem? fun i => ?_
  have : (List.range xs.length).flatMap (rowG xs) = (List.range xs.length).map fun i => D.flt (xs.getD i 0) := by
    rw [List.flatMap_def]
    have : ∀ l : List Nat, (l.map (rowG xs)).flatten = l.map fun i => D.flt (xs.getD i 0) := by
      intro l
      induction l with
      | nil => rfl
      | cons x l ih => simp only [List.map_cons, List.flatten_cons, ih, rowG, List.singleton_append]
    exact this _
  rw [this]
  by_cases h : i < xs.length
  · simp [h, List.getD_eq_getElem?_getD]
  · simp [h]
theorem srcLen_bor (n : Nat) (g : Nat → List D) : srcLen (.d (.bor n g)) = n := by simp [srcLen]
theorem hd_set_get (X n i len : Nat) (v : V) (h : i < n) : ((hd X n i len).set i v).getD i .any = v := by
  simp [List.getD_eq_getElem?_getD, hd, h]
theorem splice_app : ∀ (new pre suf : List V), splice (pre ++ suf) pre.length new = pre ++ (new.take suf.length ++ suf.drop new.length) := by
  intro new
  induction new with
  | nil => intro pre suf; simp [splice]
  | cons v new ih =>
    intro pre suf
    simp only [splice]
    cases suf with
    | nil =>
      have e : (pre ++ []).set pre.length v = pre ++ [] := by simp [List.set_eq_of_length_le]
      rw [e]
      have : ∀ (l : List V) (off : Nat) (cells : List V), cells.length ≤ off → splice cells off l = cells := by
        intro l
        induction l with
        | nil => intro off cells _; rfl
        | cons v l ih => intro off cells h; simp only [splice]; rw [List.set_eq_of_length_le h]; exact ih _ _ (by omega)
      rw [this _ _ _ (by simp)]; simp
    | cons x suf =>
      have e : (pre ++ x :: suf).set pre.length v = (pre ++ [v]) ++ suf := by simp [List.set_append]
      rw [e]
      have := ih (pre ++ [v]) suf
      simp only [List.length_append, List.length_cons, List.length_nil, Nat.zero_add] at this
      rw [this]; simp
theorem splice_all (cells new : List V) (h : new.length = cells.length) : splice cells 0 new = new := by
  have := splice_app new [] cells
  simp only [List.nil_append, List.length_nil] at this
  rw [this, List.take_of_length_le (by omega), List.drop_eq_nil_of_le (by omega)]; simp
theorem hd_absorb (Y X n i len : Nat) (h : Y ≠ X) (hi : i < n) : ((hd X n i len).set i (.sl Y 0 0 len 1 len)).map (V.ren (absF Y X i)) = hd X n (i + 1) len := by
  rw [← hd_set X n i len hi]
  refine List.ext_getElem? fun j => ?_
  simp only [List.getElem?_map, List.getElem?_set, hd_length]
  by_cases e : i = j
  · subst e; simp [hi, V.ren, absF]
  · rw [if_neg e, if_neg e]
    by_cases hj : j < n
    · have h3 : (List.range n)[j]? = some j := by simp [hj]
      simp only [hd, List.getElem?_map, h3, Option.map_some]
      congr 1
      split
      · have : ¬ (X = Y ∧ j = 0) := fun e => h e.1.symm
        simp [V.ren, absF, this]
      · rfl
    · have h3 : (List.range n)[j]? = none := by simp; omega
      simp only [hd, List.getElem?_map, h3, Option.map_none]
theorem take_fam (A : List (List Nat)) (i : Nat) (h : i < A.length) : (A.take i).map rowV ++ [rowV (A.getD i [])] = (A.take (i + 1)).map rowV := by
  have e : A.take (i + 1) = A.take i ++ [A.getD i []] := by
    rw [List.take_add_one]; simp [h, List.getD_eq_getElem?_getD]
  rw [e, List.map_append]; rfl
theorem ren_absF_sl (Y X k Z r off n esz ver : Nat) (h : Z ≠ Y) : V.ren (absF Y X k) (.sl Z r off n esz ver) = .sl Z r off n esz ver := by
  simp [V.ren, absF, h]
theorem ren_absF_ptr (Y X k Z r off ver : Nat) (h : Z ≠ Y) : V.ren (absF Y X k) (.ptr Z r off ver) = .ptr Z r off ver := by
  simp [V.ren, absF, h]
theorem ren_d (f : Nat → Nat → Nat × Nat) (x : D) : V.ren f (.d x) = .d x := by simp [V.ren]
theorem AC_le {P : Program} {f : FuncId} {vs : List V} {r r2 : V} {L' L2 : Heap} (hc : AC P f vs [] L' r) (hle : Le (fun _ => False) ⟨[r], L'⟩ ⟨[r2], L2⟩) : AC P f vs [] L2 r2 := by
  refine ⟨hc.1, fun St m w cargs ho hsz hargs => (hc.2 St m w cargs ho hsz hargs).mono ?_⟩
  rintro e w' ⟨v, St', m', rfl, h1, h2, h3, h4, h5, h6⟩
  obtain ⟨St'', m'', k1, k2, k3⟩ := hle.2 ⟨St, m, [], w⟩ (fun X q hX => by simp [Heap.get, Heap.fam] at hX) St' m' w' [v] rfl h1 ⟨h3, h4, h5, h6⟩ (fun i hi => by
    have : i = 0 := by simpa using hi
    subst this; exact h2)
  exact ⟨v, St'', m'', rfl, k1, k3 0 (by simp), k2.frame, k2.ext, k2.st, k2.src⟩

/-- Headers of all rows, which lie behind o others of the same name. -/
def hdo (X o n len : Nat) : List V := (List.range n).map fun j => .sl X (j + o) 0 len 1 len
theorem hdo_length (X o n len : Nat) : (hdo X o n len).length = n := by simp [hdo]
theorem hdo_getD (X o n len j : Nat) (h : j < n) : (hdo X o n len).getD j .any = .sl X (j + o) 0 len 1 len := by
  simp [hdo, List.getD_eq_getElem?_getD, h]
theorem hdo_cells (X o n len : Nat) : (hdo X o n len).all V.isCell = true := by
  simp [hdo, V.isCell]
theorem hd_ren (f : Nat → Nat → Nat × Nat) (X Y o n len : Nat) (h : ∀ j, j < n → f X j = (Y, j + o)) : (hd X n n len).map (V.ren f) = hdo Y o n len := by
  refine List.ext_getElem? fun j => ?_
  simp only [hd, hdo, List.getElem?_map]
  by_cases hj : j < n
  · have h3 : (List.range n)[j]? = some j := by simp [hj]
    simp [h3, hj, V.ren, h j hj]
  · have h3 : (List.range n)[j]? = none := by simp; omega
    simp [h3]
theorem hdo_ren (f : Nat → Nat → Nat × Nat) (X o n len Y o' : Nat) (h : ∀ j, j < n → f X (j + o) = (Y, j + o')) : (hdo X o n len).map (V.ren f) = hdo Y o' n len := by
  simp only [hdo, List.map_map]
  refine List.map_congr_left fun j hj => ?_
  have := h j (by simpa using hj)
  simp [V.ren, this]
/-- A call of a snapshot that answers a scalar. -/
theorem callG_snap {P : Program} {g : FuncId} {vs us : List V} {r : V} {K : V → Heap → Prop} (h : Con P g us r) (hl : us.length = vs.length) (hs : ∀ j, j < us.length → Snap L (vs.getD j .any) (us.getD j .any)) (hr : Scalar r) (hk : K r L) : callG P g vs L K :=
  ⟨L, r, AC_of_CallC (.inr ⟨us, hl, hs, hr, h⟩), hk⟩
theorem snp_row {X r n ver : Nat} {xs : List Nat} (h : L.get X r = some (rowV xs)) (hn : xs.length = n) (hv : n = ver) : Snap L (.sl X r 0 n 1 ver) (.d (rowD xs)) := by
  subst hn
  refine .sl h (by simpa using hv) (by simp) (fun i hi => rfl) fun i j hi hj => ?_
  obtain rfl : j = 0 := by omega
  rw [show 0 + i * 1 + 0 = i from by omega, getD_map_fl _ _ hi]
  exact .d _
theorem snp_rows {X o H r0 n len ver : Nat} {A : List (List Nat)} (h : L.get H r0 = some (hdo X o n len)) (hA : ∀ r, r < n → L.get X (r + o) = some (rowV (A.getD r [])) ∧ (A.getD r []).length = len)
    (hn : A.length = n) (hv : n = ver) : Snap L (.sl H r0 0 n 1 ver) (.d (rowsD A)) := by
  subst hn
  refine .sl h (by rw [hdo_length]; exact hv) (by simp [hdo_length]) (fun i hi => rfl) fun i j hi hj => ?_
  obtain rfl : j = 0 := by omega
  rw [show 0 + i * 1 + 0 = i from by omega, hdo_getD _ _ _ _ _ hi]
  exact snp_row (hA i hi).1 (hA i hi).2 rfl
theorem snapF_rows {f : Nat → Nat → Prop} {X o H r0 n len ver : Nat} {A : List (List Nat)} (hf : f H r0) (hfx : ∀ r, r < n → f X (r + o)) (h : L.get H r0 = some (hdo X o n len)) (hA : ∀ r, r < n → L.get X (r + o) = some (rowV (A.getD r [])) ∧ (A.getD r []).length = len)
    (hn : A.length = n) (hv : n = ver) : SnapF L f (.sl H r0 0 n 1 ver) (rowsD A) := by
  subst hn
  refine .sl (fun _ => hf) h (by rw [hdo_length]; exact hv) (by simp [hdo_length]) (fun i hi => rfl) fun i j hi hj => ?_
  obtain rfl : j = 0 := by omega
  rw [show 0 + i * 1 + 0 = i from by omega, hdo_getD _ _ _ _ _ hi]
  exact snap_row (hfx i hi) (hA i hi).1 (hA i hi).2 rfl

/-- Two rows of one name change names. -/
def swF (X a b Y r : Nat) : Nat × Nat := if Y = X then (X, if r = a then b else if r = b then a else r) else (Y, r)
def setFam (X : Nat) (fam' : List (List V)) : Heap → Heap
  | [] => []
  | (Y, g) :: L => if X = Y then (Y, fam') :: L else (Y, g) :: setFam X fam' L
theorem get_setFam (X : Nat) (fam' : List (List V)) : ∀ (L : Heap) (Y r : Nat), L.fam X ≠ none → Heap.get (setFam X fam' L) Y r = if Y = X then fam'[r]? else L.get Y r := by
  intro L
  induction L with
  | nil => intro Y r h; exact absurd (fam_nil X) h
  | cons p L ih =>
    obtain ⟨Z, g⟩ := p
    intro Y r h
    simp only [setFam]
    rw [fam_cons] at h
    by_cases e : X = Z
    · subst e; rw [if_pos rfl, get_cons, get_cons]; split <;> rfl
    · rw [if_neg e] at h ⊢
      rw [get_cons, get_cons, ih Y r h]
      by_cases e2 : Y = Z
      · subst e2; rw [if_pos rfl, if_pos rfl, if_neg (fun h => e h.symm)]
      · rw [if_neg e2, if_neg e2]
theorem LeT.swap {as : Sl} {X a b : Nat} {fam : List (List V)} {ca cb : List V} (hX : L.fam X = some fam) (ha : fam[a]? = some ca) (hb : fam[b]? = some cb) (hN : ∀ Y, ¬ N Y) :
    Le N (T.s nt ⟨as, L⟩) (T.s nt ⟨renS (swF X a b) as, Heap.renH (swF X a b) (setFam X ((fam.set a cb).set b ca) L)⟩) := by
  have hgX : ∀ r, L.get X r = fam[r]? := fun r => by unfold Heap.get; rw [hX]; rfl
  have hla : a < fam.length := (List.getElem?_eq_some_iff.1 ha).1
  have hlb : b < fam.length := (List.getElem?_eq_some_iff.1 hb).1
  have hsw : ∀ r, ((fam.set a cb).set b ca)[if r = a then b else if r = b then a else r]? = fam[r]? := by
    intro r
    simp only [List.getElem?_set, List.length_set]
    by_cases h1 : r = a
    · subst h1; simp [hlb, ha]
    · by_cases h2 : r = b
      · subst h2
        simp only [if_neg h1, if_true]
        rw [if_pos hla, hb]
      · rw [if_neg h1, if_neg h2, if_neg (fun e => h2 e.symm), if_neg (fun e => h1 e.symm)]
  have hinv : ∀ r, (if (if r = a then b else if r = b then a else r) = a then b else if (if r = a then b else if r = b then a else r) = b then a else (if r = a then b else if r = b then a else r)) = r := by
    intro r; split <;> split <;> (try split) <;> omega
  have := Le.ren (N := N) (sl := build nt as) (L := L) (L2 := Heap.renH (swF X a b) (setFam X ((fam.set a cb).set b ca) L)) (swF X a b) (swF X a b) ?_ ?_ (fun Y r h => absurd h (hN Y))
  · simp only [T.s, ← build_ren]; exact this
  · intro Y r c h
    unfold swF
    by_cases e : Y = X
    · subst e
      rw [hgX] at h
      simp only [if_true]
      refine ⟨?_, Prod.ext rfl (hinv r)⟩
      rw [get_renH, get_setFam _ _ _ _ _ (by rw [hX]; simp), if_pos rfl, hsw, h]; rfl
    · simp only [if_neg e]
      refine ⟨?_, trivial⟩
      rw [get_renH, get_setFam _ _ _ _ _ (by rw [hX]; simp), if_neg e, h]; rfl
  · intro Y r c h
    rw [get_renH, get_setFam _ _ _ _ _ (by rw [hX]; simp)] at h
    unfold swF
    by_cases e : Y = X
    · subst e
      rw [if_pos rfl] at h
      simp only [if_true]
      refine ⟨?_, Prod.ext rfl (hinv r)⟩
      obtain ⟨c0, h1, _⟩ := Option.map_eq_some_iff.1 h
      rw [hgX, ← hsw, hinv]
      rw [h1]; simp
    · rw [if_neg e] at h
      simp only [if_neg e]
      obtain ⟨c0, h1, _⟩ := Option.map_eq_some_iff.1 h
      rw [h1]; simp
theorem resV_tmpI {t : Nat} {s : T} {v : V} (ht : t < nt) (h : v = look s.sl t) : resV (s.s nt) (t, none) v := by
  rw [resV_tmp ht]; exact h
/-- A heap whose rows are kept as they are: each cell is a number, or leads to a row that is there. -/
theorem keep_cells {L : Heap} (h : ∀ X q cells, L.get X q = some cells → ∀ v ∈ cells, LeV L L (fun X q => (X, q)) v v) :
    ∀ X q cells, L.get X q = some cells → ∀ j, j < cells.length → LeV L L (fun X q => (X, q)) (cells.getD j .any) (cells.getD j .any) := by
  intro X q cells hc j hj
  rw [List.getD_eq_getElem?_getD, List.getElem?_eq_getElem hj]
  exact h X q cells hc _ (List.getElem_mem hj)
theorem mem_rowV {xs : List Nat} {v : V} (h : v ∈ rowV xs) (L L' : Heap) (ρ : Nat → Nat → Nat × Nat) : LeV L L' ρ v v := by
  obtain ⟨x, _, rfl⟩ := List.mem_map.1 h
  exact .d (.d _)
theorem mem_rowIV {xs : List Int} {v : V} (h : v ∈ rowIV xs) (L L' : Heap) (ρ : Nat → Nat → Nat × Nat) : LeV L L' ρ v v := by
  obtain ⟨x, _, rfl⟩ := List.mem_map.1 h
  exact .d (.d _)
theorem mem_hdo {X o n len : Nat} {v : V} {L : Heap} (h : v ∈ hdo X o n len) (hL : ∀ r, r < n → L.get X (r + o) ≠ none) : LeV L L (fun X q => (X, q)) v v := by
  obtain ⟨j, hj, rfl⟩ := List.mem_map.1 h
  exact .sl (hL j (by simpa using hj)) rfl
/-- Rows that nobody names are let go. -/
theorem LeT.drop {as : Sl} {L' : Heap} (hN : ∀ Y, ¬ N Y) (hs : ∀ p ∈ as, LeV L L' (fun X q => (X, q)) p.2 p.2)
    (hr : ∀ X r c, L'.get X r = some c → L.get X r = some c ∧ ∀ v ∈ c, LeV L L' (fun X q => (X, q)) v v) : Le N (T.s nt ⟨as, L⟩) (T.s nt ⟨as, L'⟩) := by
  have hlook : ∀ i, LeV L L' (fun X q => (X, q)) (look as i) (look as i) := by
    intro i
    induction as with
    | nil => exact .any _
    | cons p as ih =>
      obtain ⟨k, v⟩ := p
      simp only [look]
      split
      · exact hs (k, v) (by simp)
      · exact ih fun p hp => hs p (by simp [hp])
  refine Le.of_wk (fun X q => (X, q)) ⟨rfl, fun i hi => ?_, fun X r c hc => ?_, fun X r Y q _ _ e => by simpa using e, fun X r h => absurd h (hN X)⟩
  · simp only [T.s] at hi ⊢
    rw [build_len] at hi
    rw [build_get _ hi]
    exact hlook i
  · obtain ⟨h1, h2⟩ := hr X r c hc
    refine ⟨c, h1, rfl, fun j hj => ?_⟩
    rw [List.getD_eq_getElem?_getD, List.getElem?_eq_getElem hj]
    exact h2 _ (List.getElem_mem hj)
/-- Pairs as cells. -/
def ivC (ps : List (Nat × Nat)) : List V := ps.flatMap fun p => [fl p.1, fl p.2]
theorem ivC_length (ps : List (Nat × Nat)) : (ivC ps).length = ps.length * 2 := by
  induction ps with
  | nil => rfl
  | cons p ps ih => simp only [ivC, List.flatMap_cons, List.length_append, List.length_cons, List.length_nil] at *; omega
theorem ivC_cells (ps : List (Nat × Nat)) : (ivC ps).all V.isCell = true := by
  induction ps with
  | nil => rfl
  | cons p ps ih => simp only [ivC, List.flatMap_cons, List.all_append, Bool.and_eq_true] at *; exact ⟨rfl, ih⟩
theorem ivC_repl (n : Nat) : repl n [fl 0, fl 0] = ivC (List.replicate n (0, 0)) := by
  unfold repl
  induction n with
  | zero => rfl
  | succ n ih => simp only [List.replicate_succ, List.flatten_cons, ih]; rfl
theorem ivC_set (ps : List (Nat × Nat)) (i a b : Nat) (h : i < ps.length) : ((ivC ps).set (i * 2) (fl a)).set (i * 2 + 1) (fl b) = ivC (ps.set i (a, b)) := by
  induction ps generalizing i with
  | nil => simp at h
  | cons p ps ih =>
    cases i with
    | zero => rfl
    | succ i =>
      have := ih i (by simpa using h)
      have e : (i + 1) * 2 = i * 2 + 1 + 1 := by omega
      simp only [ivC, List.flatMap_cons, List.set_cons_succ, e, List.cons_append, List.nil_append] at *
      rw [this]
theorem ivC_app (ps : List (Nat × Nat)) (a b : Nat) : ivC ps ++ [fl a, fl b] = ivC (ps ++ [(a, b)]) := by
  simp [ivC]
theorem mem_ivC {ps : List (Nat × Nat)} {v : V} (h : v ∈ ivC ps) (L L' : Heap) (ρ : Nat → Nat → Nat × Nat) : LeV L L' ρ v v := by
  simp only [ivC, List.mem_flatMap, List.mem_cons, List.not_mem_nil, or_false] at h
  obtain ⟨p, _, rfl | rfl⟩ := h <;> exact .d (.d _)
theorem ivC_getD (ps : List (Nat × Nat)) (i j : Nat) (h : i < ps.length) (hj : j < 2) : (ivC ps).getD (i * 2 + j) .any = .d ((ivG ps i).getD j default) := by
  induction ps generalizing i with
  | nil => simp at h
  | cons p ps ih =>
    cases i with
    | zero =>
      rcases j with _ | _ | j
      · rfl
      · rfl
      · omega
    | succ i =>
      have := ih i (by simpa using h)
      have e : (i + 1) * 2 + j = (i * 2 + j) + 1 + 1 := by omega
      rw [e]
      simpa [ivC, ivG] using this
theorem snap_iv {f : Nat → Nat → Prop} {X r n ver : Nat} {ps : List (Nat × Nat)} (hf : f X r) (h : L.get X r = some (ivC ps)) (hn : ps.length = n) (hv : n * 2 = ver) : SnapF L f (.sl X r 0 n 2 ver) (ivD ps) := by
  subst hn
  refine .sl (fun _ => hf) h (by rw [ivC_length]; exact hv) (by rw [ivC_length]; omega) (fun i hi => rfl) fun i j hi hj => ?_
  rw [show 0 + i * 2 + j = i * 2 + j from by omega, ivC_getD _ _ _ hi hj]
  exact .d _
theorem LeT.nilrow {as as' : Sl} {X esz : Nat} (hX : L.fam X = none) (hN : ¬ N X)
    (h : ∀ i, look as' i = look as i ∨ (look as i = .nil ∧ look as' i = .sl X 0 0 0 esz 0)) : Le N (T.s nt ⟨as, L⟩) (T.s nt ⟨as', (X, [[]]) :: L⟩) := by
  refine Le.nilrow (esz := esz) hX hN (by simp [build_len]) fun i hi => ?_
  rw [build_len] at hi
  rw [build_get _ hi, build_get _ hi]
  exact h i
def srcRow (o : Option (List V)) (ver off m : Nat) : Option (List V) := match o with
  | some cells => if cells.length = ver ∧ off + m ≤ cells.length then some ((cells.drop off).take m) else none
  | none => none
theorem srcCells_sl (L : Heap) (esz X r off k e ver : Nat) : srcCells L esz (.sl X r off k e ver) = srcRow (L.get X r) ver off (k * esz) := by
  simp only [srcCells, srcRow]; cases L.get X r <;> rfl
theorem srcRow_some (cells : List V) (ver off m : Nat) : srcRow (some cells) ver off m = if cells.length = ver ∧ off + m ≤ cells.length then some ((cells.drop off).take m) else none := rfl
theorem srcCells_nil (L : Heap) (esz : Nat) : srcCells L esz .nil = some [] := by rw [srcCells]
theorem srcLen_sl (X r off k e ver : Nat) : srcLen (.sl X r off k e ver) = k := by rw [srcLen]
theorem srcLen_nil : srcLen .nil = 0 := by simp [srcLen]
end
end Go.Ab
