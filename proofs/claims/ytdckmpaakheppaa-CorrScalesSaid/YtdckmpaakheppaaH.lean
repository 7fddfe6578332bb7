/- How rows of a run's own are made, changed, grown. -/
import Derived.Test.YtdckmpaakheppaaG
namespace Go.Ab
set_option linter.unusedSimpArgs false
set_option linter.unusedVariables false
open Go

theorem fam_ins (X : Nat) (f : List (List V)) (L : Heap) (h : L.fam X = none) (Y : Nat) : (L.ins X f).fam Y = if Y = X then some f else L.fam Y := by
  induction L with
  | nil =>
    simp only [Heap.ins, Heap.fam, List.lookup_cons, List.lookup_nil]
    by_cases e : Y = X
    · simp [e]
    · simp only [beq_eq_false_iff_ne.2 e, if_neg e]
  | cons p L ih =>
    obtain ⟨Z, g⟩ := p
    simp only [Heap.fam, List.lookup_cons] at h
    have hXZ : X ≠ Z := by intro e; simp [e] at h
    have hb : (X == Z) = false := by simpa using hXZ
    simp only [hb] at h
    simp only [Heap.ins]
    split
    · simp only [Heap.fam, List.lookup_cons]
      by_cases e : Y = X
      · simp [e]
      · simp only [beq_eq_false_iff_ne.2 e, if_neg e]
    · have ih := ih h
      simp only [Heap.fam, List.lookup_cons] at ih ⊢
      by_cases e : Y = Z
      · subst e; simp [Ne.symm hXZ]
      · have : (Y == Z) = false := by simpa using e
        simp only [this]; exact ih

theorem get_ins_self {X : Nat} {cells : List V} {L : Heap} (h : L.fam X = none) : (L.ins X [cells]).get X 0 = some cells := by
  simp [Heap.get, fam_ins X [cells] L h]

theorem get_ins {X : Nat} {cells : List V} {L : Heap} (h : L.fam X = none) (Y r : Nat) : (L.ins X [cells]).get Y r = if Y = X then (if r = 0 then some cells else none) else L.get Y r := by
  simp only [Heap.get, fam_ins X [cells] L h]
  by_cases e : Y = X
  · subst e; cases r <;> simp
  · simp [e]

theorem get_insF {X : Nat} {f : List (List V)} {L : Heap} (h : L.fam X = none) (Y r : Nat) : (L.ins X f).get Y r = if Y = X then f[r]? else L.get Y r := by
  simp only [Heap.get, fam_ins X f L h]
  by_cases e : Y = X
  · subst e; simp
  · simp [e]

theorem get_none_of_fam {X r : Nat} {L : Heap} (h : L.fam X = none) : L.get X r = none := by simp [Heap.get, h]

theorem get_put (X r : Nat) (cs : List V) (L : Heap) (old : List V) (h : L.get X r = some old) (Y q : Nat) : (L.put X r cs).get Y q = if Y = X ∧ q = r then some cs else L.get Y q := by
  induction L with
  | nil => simp [Heap.get, Heap.fam] at h
  | cons p L ih =>
    obtain ⟨Z, g⟩ := p
    simp only [Heap.put]
    by_cases e : X = Z
    · subst e
      simp only [if_true]
      simp only [Heap.get, Heap.fam, List.lookup_cons] at h ⊢
      simp at h
      by_cases e2 : Y = X
      · subst e2
        simp only [beq_self_eq_true, Option.bind_some, true_and]
        by_cases e3 : q = r
        · subst e3
          have : q < g.length := by
            rcases Nat.lt_or_ge q g.length with h' | h'
            · exact h'
            · rw [List.getElem?_eq_none h'] at h; cases h
          simp [this]
        · simp [e3, Ne.symm e3]
      · have : (Y == X) = false := by simpa using e2
        simp [this, e2]
    · simp only [if_neg e]
      have hb : (X == Z) = false := by simpa using e
      have h' : Heap.get L X r = some old := by simpa [Heap.get, Heap.fam, List.lookup_cons, hb] using h
      have ih := ih h'
      simp only [Heap.get, Heap.fam, List.lookup_cons] at ih ⊢
      by_cases e2 : Y = Z
      · subst e2; simp [Ne.symm e]
      · have : (Y == Z) = false := by simpa using e2
        simp only [this]; exact ih

theorem fam_of_get {X r : Nat} {L : Heap} {c : List V} (h : L.get X r = some c) : L.fam X ≠ none := by
  intro h'; simp [Heap.get, h'] at h

/-- The same world, but for one block's cells. -/
structure Wrote (w w' : World) (b : Nat) (arr : Array Value) (el : TypeId) : Prop where
  size : w'.heap.size = w.heap.size
  self : w'.heap[b]? = some (.cells arr el (0, 0))
  other : ∀ x, x ≠ b → w'.heap[x]? = w.heap[x]?
  os : w'.os = w.os
  tape : w'.tape = w.tape
  output : w'.output = w.output

/-- What a step leaves. -/
def Post (St : Nat → Prop) (m : Map) (L : Heap) (w : World) (v : V) (L' : Heap) (c : Value) (w' : World) : Prop :=
  ∃ St' m', Objs St' m' L' w' ∧ VRel St' m' L' w' v c ∧ Frame' (Named m L) w w' ∧ Ext St St' m m' L L' w w' ∧ (∀ b, St' b → St b ∨ w.heap.size ≤ b) ∧ Src m L m' L' w

def PRel (St : Nat → Prop) (m : Map) (L : Heap) (w : World) (xs : List V) (cs : Array Value) : Prop :=
  xs.length ≤ cs.size ∧ ∀ j, j < xs.length → VRel St m L w (xs.getD j .any) (cs.getD j undef)

section
variable {P : Program} {St : Nat → Prop} {m : Map} {L : Heap} {w w' : World}

theorem LRel.pre {xs : List V} {cs : Array Value} (h : LRel St m L w xs cs) : PRel St m L w xs cs := ⟨by rw [h.1]; exact Nat.le_refl _, h.2⟩
theorem LRel.mono {St' m' L'} (e : Ext St St' m m' L L' w w') {xs : List V} {cs : Array Value} (h : LRel St m L w xs cs) : LRel St' m' L' w' xs cs := ⟨h.1, fun j hj => (h.2 j hj).mono e⟩
theorem PRel.mono {St' m' L'} (e : Ext St St' m m' L L' w w') {xs : List V} {cs : Array Value} (h : PRel St m L w xs cs) : PRel St' m' L' w' xs cs := ⟨h.1, fun j hj => (h.2 j hj).mono e⟩

theorem Same.post {v : V} {c : Value} (h : Same w w') (ho : Objs St m L w) (hv : VRel St m L w' v c) : Post St m L w v L c w' :=
  ⟨St, m, h.objs ho, hv, h.frame, h.ext, fun _ h => .inl h, .refl _ _ _⟩

def Map.add (m : Map) (X b C : Nat) : Map := fun Y r => if Y = X ∧ r = 0 then some (b, C) else m Y r
def Map.set (m : Map) (X r b C : Nat) : Map := fun Y q => if Y = X ∧ q = r then some (b, C) else m Y q

/-- A new block, given a new name. -/
theorem Objs.made (ho : Objs St m L w) {X : Nat} (hX : L.fam X = none) {cells : List V} {arr : Array Value} {el : TypeId}
    (hw : w'.heap = w.heap.push (.cells arr el (0, 0))) (ho' : w'.os = w.os) (ht : w'.tape = w.tape) (hout : w'.output = w.output)
    (hc : PRel St m L w cells arr) :
    Objs St (m.set X 0 w.heap.size arr.size) (L.ins X [cells]) w' ∧ Ext St St m (m.set X 0 w.heap.size arr.size) L (L.ins X [cells]) w w' ∧ Frame' (Named m L) w w' ∧
      Src m L (m.set X 0 w.heap.size arr.size) (L.ins X [cells]) w := by
  have hext : Ext St St m (m.set X 0 w.heap.size arr.size) L (L.ins X [cells]) w w' := by
    refine ⟨fun _ h => h, fun b hb => ?_, fun Y r c hYr => ⟨c, ?_, Nat.le_refl _, fun _ => ?_⟩⟩
    · rw [hw, Array.getElem?_push, if_neg (by have := ho.st b hb; omega)]
    · rw [get_ins hX]
      have : Y ≠ X := by intro e; subst e; rw [get_none_of_fam hX] at hYr; cases hYr
      rw [if_neg this]; exact hYr
    · have : Y ≠ X := by intro e; subst e; rw [get_none_of_fam hX] at hYr; cases hYr
      simp [Map.set, this]
  have hsz : w'.heap.size = w.heap.size + 1 := by rw [hw]; simp
  refine ⟨⟨fun b hb => by have := ho.st b hb; omega, fun Y r c hYr hm => ?_, fun Y r c b C hYr hm => ?_, fun Y r Z q b C C' h1 h2 h3 h4 => ?_⟩, hext, ⟨ho', ht, hout, by omega, fun b hb _ => ?_⟩, fun Y r b C h1 h2 => ?_⟩
  · rw [get_ins hX] at hYr
    by_cases e : Y = X
    · subst e
      simp only [if_true] at hYr
      split at hYr
      · rename_i h0; subst h0; simp [Map.set] at hm
      · cases hYr
    · rw [if_neg e] at hYr
      simp [Map.set, e] at hm
      exact ho.nil Y r c hYr hm
  · rw [get_ins hX] at hYr
    by_cases e : Y = X
    · subst e
      simp only [if_true] at hYr
      split at hYr
      · rename_i h0; subst h0; cases hYr
        simp [Map.set] at hm
        obtain ⟨rfl, rfl⟩ := hm
        refine ⟨by omega, fun hs => by have := ho.st _ hs; omega, arr, el, by rw [hw]; simp, rfl, hc.1, fun j hj => (hc.2 j hj).mono hext⟩
      · cases hYr
    · rw [if_neg e] at hYr
      simp [Map.set, e] at hm
      obtain ⟨h1, h2, arr', el', h3, h4, h5, h6⟩ := ho.obj Y r c b C hYr hm
      refine ⟨by omega, h2, arr', el', ?_, h4, h5, fun j hj => (h6 j hj).mono hext⟩
      rw [hw, Array.getElem?_push, if_neg (by omega)]; exact h3
  · have old : ∀ Y r b C, (L.ins X [cells]).get Y r ≠ none → Y ≠ X → (m.set X 0 w.heap.size arr.size) Y r = some (b, C) → L.get Y r ≠ none ∧ m Y r = some (b, C) ∧ b < w.heap.size := by
      intro Y r b C h1 hne h2
      rw [get_ins hX, if_neg hne] at h1
      simp [Map.set, hne] at h2
      obtain ⟨c, hc⟩ := Option.ne_none_iff_exists'.1 h1
      exact ⟨h1, h2, (ho.obj Y r c b C hc h2).1⟩
    have new : ∀ r b C, (L.ins X [cells]).get X r ≠ none → (m.set X 0 w.heap.size arr.size) X r = some (b, C) → r = 0 ∧ b = w.heap.size := by
      intro r b C h1 h2
      rw [get_ins hX] at h1
      simp only [if_true] at h1
      split at h1
      · rename_i h0; subst h0; simp [Map.set] at h2; exact ⟨rfl, h2.1.symm⟩
      · exact absurd rfl h1
    by_cases e1 : Y = X <;> by_cases e2 : Z = X
    · subst e1 e2
      obtain ⟨rfl, _⟩ := new _ _ _ h1 h3
      obtain ⟨rfl, _⟩ := new _ _ _ h2 h4
      exact ⟨rfl, rfl⟩
    · subst e1
      obtain ⟨_, rfl⟩ := new _ _ _ h1 h3
      have := (old _ _ _ _ h2 e2 h4).2.2; omega
    · subst e2
      obtain ⟨_, rfl⟩ := new _ _ _ h2 h4
      have := (old _ _ _ _ h1 e1 h3).2.2; omega
    · obtain ⟨a1, a2, _⟩ := old _ _ _ _ h1 e1 h3
      obtain ⟨b1, b2, _⟩ := old _ _ _ _ h2 e2 h4
      exact ho.inj _ _ _ _ _ _ _ a1 b1 a2 b2
  · rw [hw, Array.getElem?_push, if_neg (by omega)]
  · rw [get_ins hX] at h1
    by_cases e : Y = X
    · subst e
      simp only [if_true] at h1
      split at h1
      · rename_i h0; subst h0; simp [Map.set] at h2; right; omega
      · exact absurd rfl h1
    · rw [if_neg e] at h1
      simp [Map.set, e] at h2
      exact .inl ⟨h1, h2⟩

/-- A block of the run's own, written. -/
theorem Objs.wrote (ho : Objs St m L w) {X r b C : Nat} {old cells : List V} {arr : Array Value} {el : TypeId} (hg : L.get X r = some old) (hm : m X r = some (b, C)) (hlen : old.length ≤ cells.length)
    (hw : Wrote w w' b arr el) (hC : arr.size = C) (hc : PRel St m L w cells arr) :
    Objs St m (L.put X r cells) w' ∧ Ext St St m m L (L.put X r cells) w w' ∧ Frame' (Named m L) w w' ∧ Src m L m (L.put X r cells) w := by
  obtain ⟨hb1, hb2, _⟩ := ho.obj X r old b C hg hm
  have hne : ∀ Y q, (L.put X r cells).get Y q ≠ none → L.get Y q ≠ none := by
    intro Y q h; rw [get_put X r cells L old hg] at h
    split at h
    · rename_i e; obtain ⟨rfl, rfl⟩ := e; rw [hg]; simp
    · exact h
  have hext : Ext St St m m L (L.put X r cells) w w' := by
    refine ⟨fun _ h => h, fun b' hb' => hw.other _ (fun e => hb2 (e ▸ hb')), fun Y q c hYq => ?_⟩
    rw [get_put X r cells L old hg]
    split
    · rename_i e; obtain ⟨rfl, rfl⟩ := e
      rw [hg] at hYq; cases hYq
      exact ⟨cells, rfl, by omega, fun _ => rfl⟩
    · exact ⟨c, hYq, Nat.le_refl _, fun _ => rfl⟩
  refine ⟨⟨fun b' hb' => by rw [hw.size]; exact ho.st b' hb', fun Y q c hYq hm' => ?_, fun Y q c b' C' hYq hm' => ?_, fun Y q Z p b' C1 C2 h1 h2 h3 h4 => ho.inj _ _ _ _ _ _ _ (hne _ _ h1) (hne _ _ h2) h3 h4⟩, hext,
    ⟨hw.os, hw.tape, hw.output, by rw [hw.size]; exact Nat.le_refl _, fun b' hb' hn => hw.other _ (fun e => hn (e ▸ ⟨X, r, C, by rw [hg]; simp, hm⟩))⟩, fun Y q b' C' h1 h2 => .inl ⟨hne _ _ h1, h2⟩⟩
  · rw [get_put X r cells L old hg] at hYq
    split at hYq
    · rename_i e; obtain ⟨rfl, rfl⟩ := e; rw [hm] at hm'; cases hm'
    · exact ho.nil Y q c hYq hm'
  · rw [get_put X r cells L old hg] at hYq
    split at hYq
    · rename_i e; obtain ⟨rfl, rfl⟩ := e
      cases hYq; rw [hm] at hm'; cases hm'
      exact ⟨by rw [hw.size]; exact hb1, hb2, arr, el, hw.self, hC, by rw [← hC]; exact hc.1, fun j hj => (hc.2 j hj).mono hext⟩
    · rename_i hn
      obtain ⟨h1, h2, arr', el', h3, h4, h5, h6⟩ := ho.obj Y q c b' C' hYq hm'
      have hne' : b' ≠ b := by
        rintro rfl
        exact hn (ho.inj Y q X r _ _ _ (by rw [hYq]; simp) (by rw [hg]; simp) hm' hm)
      exact ⟨by rw [hw.size]; exact h1, h2, arr', el', by rw [hw.other _ hne']; exact h3, h4, h5, fun j hj => (h6 j hj).mono hext⟩

end
end Go.Ab
