/- How a row moves to a new block as it grows; loads and stores. -/
import Derived.Test.YtdckmpaakheppaaH
namespace Go.Ab
set_option linter.unusedSimpArgs false
set_option linter.unusedVariables false
open Go

section
variable {P : Program} {St : Nat → Prop} {m : Map} {L : Heap} {w w' : World}

/-- A row that has grown, in a new block. -/
theorem Objs.grown (ho : Objs St m L w) {X r : Nat} {old cells : List V} {arr : Array Value} {el : TypeId} (hg : L.get X r = some old) (hlen : old.length < cells.length)
    (hw : w'.heap = w.heap.push (.cells arr el (0, 0))) (ho' : w'.os = w.os) (ht : w'.tape = w.tape) (hout : w'.output = w.output) (hc : PRel St m L w cells arr) :
    Objs St (m.set X r w.heap.size arr.size) (L.put X r cells) w' ∧ Ext St St m (m.set X r w.heap.size arr.size) L (L.put X r cells) w w' ∧ Frame' (Named m L) w w' ∧
      Src m L (m.set X r w.heap.size arr.size) (L.put X r cells) w := by
  have hsz : w'.heap.size = w.heap.size + 1 := by rw [hw]; simp
  have hne : ∀ Y q, (L.put X r cells).get Y q ≠ none → L.get Y q ≠ none := by
    intro Y q h; rw [get_put X r cells L old hg] at h
    split at h
    · rename_i e; obtain ⟨rfl, rfl⟩ := e; rw [hg]; simp
    · exact h
  have hext : Ext St St m (m.set X r w.heap.size arr.size) L (L.put X r cells) w w' := by
    refine ⟨fun _ h => h, fun b' hb' => ?_, fun Y q c hYq => ?_⟩
    · rw [hw, Array.getElem?_push, if_neg (by have := ho.st b' hb'; omega)]
    rw [get_put X r cells L old hg]
    split
    · rename_i e; obtain ⟨rfl, rfl⟩ := e
      rw [hg] at hYq; cases hYq
      exact ⟨cells, rfl, by omega, fun h => absurd h (by omega)⟩
    · rename_i e
      exact ⟨c, hYq, Nat.le_refl _, fun _ => by simp only [Map.set, if_neg e]⟩
  have set_ne : ∀ Y q, ¬(Y = X ∧ q = r) → (m.set X r w.heap.size arr.size) Y q = m Y q := fun Y q e => by simp only [Map.set, if_neg e]
  have set_eq : (m.set X r w.heap.size arr.size) X r = some (w.heap.size, arr.size) := by simp [Map.set]
  refine ⟨⟨fun b hb => by have := ho.st b hb; omega, fun Y q c hYq hm' => ?_, fun Y q c b' C' hYq hm' => ?_, fun Y q Z p b' C1 C2 h1 h2 h3 h4 => ?_⟩, hext,
    ⟨ho', ht, hout, by omega, fun b' hb' _ => by rw [hw, Array.getElem?_push, if_neg (by omega)]⟩, fun Y q b' C' h1 h2 => ?_⟩
  · rw [get_put X r cells L old hg] at hYq
    split at hYq
    · rename_i e; obtain ⟨rfl, rfl⟩ := e; rw [set_eq] at hm'; cases hm'
    · rename_i e; rw [set_ne _ _ e] at hm'; exact ho.nil Y q c hYq hm'
  · rw [get_put X r cells L old hg] at hYq
    split at hYq
    · rename_i e; obtain ⟨rfl, rfl⟩ := e
      cases hYq; rw [set_eq] at hm'; cases hm'
      exact ⟨by omega, fun hs => by have := ho.st _ hs; omega, arr, el, by rw [hw]; simp, rfl, hc.1, fun j hj => (hc.2 j hj).mono hext⟩
    · rename_i e; rw [set_ne _ _ e] at hm'
      obtain ⟨h1, h2, arr', el', h3, h4, h5, h6⟩ := ho.obj Y q c b' C' hYq hm'
      exact ⟨by omega, h2, arr', el', by rw [hw, Array.getElem?_push, if_neg (by omega)]; exact h3, h4, h5, fun j hj => (h6 j hj).mono hext⟩
  · have old' : ∀ Y q b C, L.get Y q ≠ none → m Y q = some (b, C) → b < w.heap.size := by
      intro Y q b C h1 h2
      obtain ⟨c, hc⟩ := Option.ne_none_iff_exists'.1 h1
      exact (ho.obj Y q c b C hc h2).1
    by_cases e1 : Y = X ∧ q = r <;> by_cases e2 : Z = X ∧ p = r
    · exact ⟨e1.1.trans e2.1.symm, e1.2.trans e2.2.symm⟩
    · obtain ⟨rfl, rfl⟩ := e1
      rw [set_eq] at h3; cases h3
      rw [set_ne _ _ e2] at h4
      have := old' _ _ _ _ (hne _ _ h2) h4; omega
    · obtain ⟨rfl, rfl⟩ := e2
      rw [set_eq] at h4; cases h4
      rw [set_ne _ _ e1] at h3
      have := old' _ _ _ _ (hne _ _ h1) h3; omega
    · rw [set_ne _ _ e1] at h3; rw [set_ne _ _ e2] at h4
      exact ho.inj _ _ _ _ _ _ _ (hne _ _ h1) (hne _ _ h2) h3 h4
  · by_cases e : Y = X ∧ q = r
    · obtain ⟨rfl, rfl⟩ := e; rw [set_eq] at h2; cases h2; exact .inr (Nat.le_refl _)
    · rw [set_ne _ _ e] at h2; exact .inl ⟨hne _ _ h1, h2⟩

theorem run_loadCells' (b off n : Nat) (cell : Nat → Value) (h : ∀ j, j < n → w.cell? ⟨b, off + j, none⟩ = some (cell j)) :
    ∃ cs : Array Value, (loadCells ⟨b, off, none⟩ n).run P w = .ok cs w ∧ cs.size = n ∧ ∀ j, j < n → cs.getD j undef = cell j := by
  have := run_loadCells (P := P) (w := w) ⟨b, off, none⟩ n cell (fun j hj => by rw [add_none]; exact h j hj)
  refine ⟨_, this, by simp, fun j hj => ?_⟩
  simp [hj]

theorem run_loadVar {t n : Nat} {g : Bool} (hg : aggT P t = some g) (hn : szT P t = some n) (h1 : g = true ∨ n = 1) (h0 : 0 < n) (b off : Nat) (cell : Nat → Value)
    (h : ∀ j, j < n → w.cell? ⟨b, off + j, none⟩ = some (cell j)) :
    ∃ c, (loadVar t ⟨b, off, none⟩).run P w = .ok c w ∧ ((g = true ∧ ∃ cs : Array Value, c = .agg cs ∧ cs.size = n ∧ ∀ j, j < n → cs.getD j undef = cell j) ∨ (g = false ∧ n = 1 ∧ c = cell 0)) := by
  cases g with
  | true =>
    obtain ⟨cs, hr, hs, hc⟩ := run_loadCells' (P := P) b off n cell h
    exact ⟨.agg cs, by simp [loadVar, run_aggT hg, run_szT hn, hr], .inl ⟨rfl, cs, rfl, hs, hc⟩⟩
  | false =>
    obtain rfl : n = 1 := by simpa using h1
    have := h 0 (by omega)
    rw [Nat.add_zero] at this
    exact ⟨cell 0, by simp [loadVar, run_aggT hg, this], .inr ⟨rfl, rfl, rfl⟩⟩

theorem cell_of_block {b off : Nat} {arr : Array Value} {el : TypeId} {fz : Nat × Nat} (h : w.heap[b]? = some (.cells arr el fz)) (hj : off < arr.size) : w.cell? ⟨b, off, none⟩ = some (arr.getD off undef) := by
  simp [World.cell?, h, hj, Array.getD_eq_getD_getElem?]

theorem LRel.ldv {g : Bool} {n off : Nat} {xs : List V} {c : Value} {cell : Nat → Value} (hl : off + n ≤ xs.length) (hrel : ∀ j, j < n → VRel St m L w (xs.getD (off + j) .any) (cell j))
    (hc : (g = true ∧ ∃ cs : Array Value, c = .agg cs ∧ cs.size = n ∧ ∀ j, j < n → cs.getD j undef = cell j) ∨ (g = false ∧ n = 1 ∧ c = cell 0)) : VRel St m L w (ldv g n off xs) c := by
  rcases hc with ⟨rfl, cs, rfl, hs, hcs⟩ | ⟨rfl, rfl, rfl⟩
  · refine .agg (by simp; omega) fun j hj => ?_
    have hj' : j < n := by simp at hj; omega
    have e1 : ((xs.drop off).take n).getD j .any = xs.getD (off + j) .any := by simp [List.getD_eq_getElem?_getD, hj']
    rw [e1, hcs j hj']; exact hrel j hj'
  · have := hrel 0 (by omega)
    simpa [Ab.ldv] using this

theorem load_sound {o : Oper} {a : Act} {s : S} {K : V → Heap → Prop} (nm : Nat) (t : TypeId) (x : Operand) (n : Nat) (g : Bool) (hn : szT P t = some n) (hg : aggT P t = some g) (h1 : g = true ∨ n = 1)
    (hop : o.op = .load t x) (hs : SimS St m s a w) (hk : eff P nm (.load (Opd.of x) n g) s K) : ∃ v L' c w', (execOp a.eval o).run P w = .ok (.value c) w' ∧ K v L' ∧ Post St m s.L w v L' c w' := by
  have hx := ev_rel hs x
  simp only [eff, effC] at hk
  have fin : ∀ b off v c, a.eval x = .pointer (some ⟨b, off, none⟩) → (loadVar t ⟨b, off, none⟩).run P w = .ok c w → K v s.L → VRel St m s.L w v c → ∃ v L' c w', (execOp a.eval o).run P w = .ok (.value c) w' ∧ K v L' ∧ Post St m s.L w v L' c w' := by
    intro b off v c hc hr hk hv
    refine ⟨v, s.L, c, w, ?_, hk, (Same.refl w).post hs.objs hv⟩
    simp only [execOp, hop, hc]
    simp [Instr.loadAt, Instr.sureAddr, hr]
  split at hk
  · rename_i cells h; rw [h] at hx
    obtain ⟨blk, off, cell, hc, hst, q1, q2⟩ := hx.bptr
    obtain ⟨⟨hle, h0⟩, hk⟩ := hk
    obtain ⟨c, hr, hcc⟩ := run_loadVar (P := P) (w := w) hg hn h1 h0 blk off cell (fun j hj => q1 j (by omega))
    refine fin _ _ _ c hc hr hk (LRel.ldv (by simp; omega) (fun j hj => ?_) hcc)
    have := q2 j (by omega)
    have e : (cells.map V.d).getD (0 + j) .any = .d (cells.getD j default) := by
      have : j < cells.length := by omega
      simp [List.getD_eq_getElem?_getD, this]
    rw [e]; exact .d this
  · rename_i X r off ver h; rw [h] at hx
    split at hk
    case h_2 => exact hk.elim
    rename_i cells hL
    obtain ⟨cells', ad, hL', hver, hc, hf⟩ := hx.ptr'
    rw [hL] at hL'; cases hL'
    obtain ⟨⟨he, hle, h0⟩, hk⟩ := hk
    obtain ⟨b, C, hm, rfl⟩ := hf he
    obtain ⟨p1, p2, arr, el, p3, p4, p5, p6⟩ := hs.objs.obj X r cells b C hL hm
    obtain ⟨c, hr, hcc⟩ := run_loadVar (P := P) (w := w) hg hn h1 h0 b off (fun j => arr.getD (off + j) undef) (fun j hj => cell_of_block p3 (by omega))
    exact fin _ _ _ c hc hr hk (LRel.ldv hle (fun j hj => p6 _ (by omega)) hcc)
  · exact hk.elim

end
end Go.Ab
