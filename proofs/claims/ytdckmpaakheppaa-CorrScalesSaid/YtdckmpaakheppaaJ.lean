/- Stores, new blocks. -/
import Derived.Test.YtdckmpaakheppaaI
namespace Go.Ab
set_option linter.unusedSimpArgs false
set_option linter.unusedVariables false
open Go

section
variable {P : Program} {St : Nat → Prop} {m : Map} {L : Heap} {w w' : World}

theorem isCell_one {v : V} {c : Value} (h : VRel St m L w v c) (hv : v.isCell = true) : c.oneCell' = true := by
  cases h with
  | d h => cases h <;> rfl
  | ptr _ _ _ hc _ => subst hc; rfl
  | sl _ _ _ _ hc _ _ _ => subst hc; rfl
  | nil => rfl
  | fn _ _ _ _ => rfl
  | any c => simp [V.isCell] at hv
  | agg _ _ => simp [V.isCell] at hv
  | tup _ _ => simp [V.isCell] at hv

theorem setCell_wrote {b off : Nat} {arr : Array Value} {el : TypeId} (h : w.heap[b]? = some (.cells arr el (0, 0))) (c : Value) :
    Wrote w (w.setCell ⟨b, off, none⟩ c) b (arr.setIfInBounds off c) el := by
  have hb : b < w.heap.size := by
    rcases Nat.lt_or_ge b w.heap.size with h' | h'
    · exact h'
    · rw [Array.getElem?_eq_none h'] at h; cases h
  refine ⟨by simp [World.setCell], ?_, fun x hx => ?_, rfl, rfl, rfl⟩
  · simp only [World.setCell, Array.getElem?_modify, if_true, h]; simp
  · simp only [World.setCell, Array.getElem?_modify]; rw [if_neg (Ne.symm hx)]

theorem Wrote.trans {w1 w2 w3 : World} {b : Nat} {a1 a2 : Array Value} {e1 e2 : TypeId} (h : Wrote w1 w2 b a1 e1) (k : Wrote w2 w3 b a2 e2) : Wrote w1 w3 b a2 e2 :=
  ⟨k.size.trans h.size, k.self, fun x hx => (k.other x hx).trans (h.other x hx), k.os.trans h.os, k.tape.trans h.tape, k.output.trans h.output⟩

theorem frozen_of {b off : Nat} {arr : Array Value} {el : TypeId} (h : w.heap[b]? = some (.cells arr el (0, 0))) : w.frozen? ⟨b, off, none⟩ = false := by
  simp [World.frozen?, h]

/-- Cells stored one by one. -/
def spliceA (cs : Array Value) (off : Nat) : List Value → Array Value
  | [] => cs
  | v :: vs => spliceA (cs.setIfInBounds off v) (off + 1) vs

theorem spliceA_size (vs : List Value) : ∀ (cs : Array Value) (off : Nat), (spliceA cs off vs).size = cs.size := by
  induction vs with
  | nil => intro cs off; rfl
  | cons v vs ih => intro cs off; simp [spliceA, ih]

theorem run_storeCells (b off : Nat) (el : TypeId) : ∀ (vs : List Value) (i : Nat) (w : World) (arr : Array Value), w.heap[b]? = some (.cells arr el (0, 0)) → off + i + vs.length ≤ arr.size → (∀ v ∈ vs, v.oneCell' = true) →
    ∃ w', (storeCells ⟨b, off, none⟩ vs i).run P w = .ok () w' ∧ Wrote w w' b (spliceA arr (off + i) vs) el := by
  intro vs
  induction vs with
  | nil =>
    intro i w arr h _ _
    exact ⟨w, rfl, rfl, h, fun _ _ => rfl, rfl, rfl, rfl⟩
  | cons v vs ih =>
    intro i w arr h hlen hone
    simp only [List.length_cons] at hlen
    have h1 := setCell_wrote (off := off + i) h v
    obtain ⟨w', hr, hw⟩ := ih (i + 1) _ _ h1.self (by simp; omega) (fun u hu => hone u (by simp [hu]))
    have hst : (store (Addr.add ⟨b, off, none⟩ i) v).run P w = .ok () (w.setCell ⟨b, off + i, none⟩ v) := by
      rw [add_none, run_store P w _ v .plain (hone v (by simp))]
      have hc := cell_of_block (w := w) (off := off + i) h (by omega)
      simp [hc, frozen_of h]
    refine ⟨w', ?_, h1.trans hw⟩
    simp only [storeCells, Sem.run_bind, hst, Result.andThen]
    exact hr

theorem PRel.set {xs : List V} {cs : Array Value} (h : PRel St m L w xs cs) {v : V} {c : Value} (hv : VRel St m L w v c) (i : Nat) : PRel St m L w (xs.set i v) (cs.setIfInBounds i c) := by
  refine ⟨by simpa using h.1, fun j hj => ?_⟩
  have hj' : j < xs.length := by simpa using hj
  have hj2 : j < cs.size := Nat.lt_of_lt_of_le hj' h.1
  by_cases e : i = j
  · subst e
    have h1 : (xs.set i v).getD i .any = v := by simp [List.getD_eq_getElem?_getD, hj']
    have h2 : (cs.setIfInBounds i c).getD i undef = c := by simp [Array.getD_eq_getD_getElem?, hj2]
    rw [h1, h2]; exact hv
  · have h1 : (xs.set i v).getD j .any = xs.getD j .any := by simp [List.getD_eq_getElem?_getD, e]
    have h2 : (cs.setIfInBounds i c).getD j undef = cs.getD j undef := by simp [Array.getD_eq_getD_getElem?, e]
    rw [h1, h2]; exact h.2 j hj'

theorem splice_pre : ∀ (vs : List Value) (ys : List V) (off : Nat) (xs : List V) (cs : Array Value), PRel St m L w xs cs → LRel St m L w ys vs.toArray → PRel St m L w (splice xs off ys) (spliceA cs off vs) := by
  intro vs
  induction vs with
  | nil =>
    intro ys off xs cs h hy
    have : ys = [] := by simpa using hy.1.symm
    subst this; exact h
  | cons c vs ih =>
    intro ys off xs cs h hy
    cases ys with
    | nil => have := hy.1; simp at this
    | cons v ys =>
      obtain ⟨hv, hys⟩ := hy.cons
      exact ih ys (off + 1) _ _ (h.set hv _) hys

theorem splice_length : ∀ (ys : List V) (xs : List V) (off : Nat), (splice xs off ys).length = xs.length := by
  intro ys
  induction ys with
  | nil => intro xs off; rfl
  | cons y ys ih => intro xs off; simp [splice, ih]

theorem all_one {ys : List V} {cs : Array Value} (h : LRel St m L w ys cs) (hc : ys.all V.isCell = true) : ∀ v ∈ cs.toList, v.oneCell' = true := by
  intro v hv
  obtain ⟨j, hj, rfl⟩ := List.mem_iff_getElem.1 hv
  have hj1 : j < cs.size := by simpa using hj
  have hj2 : j < ys.length := by rw [← h.1]; exact hj1
  have h1 := h.2 j hj2
  have h2 : (ys.getD j .any).isCell = true := by
    rw [List.getD_eq_getElem?_getD, List.getElem?_eq_getElem hj2]
    exact List.all_eq_true.1 hc _ (List.getElem_mem hj2)
  have := isCell_one h1 h2
  simpa [Array.getD_eq_getD_getElem?, hj1] using this

theorem cells_okPart {v : V} (h : (cellsOf v).all V.isCell = true) : v.okPart = true := by
  cases v <;> simp_all [cellsOf, V.isCell, V.okPart]

theorem store_sound {o : Oper} {a : Act} {s : S} {K : V → Heap → Prop} (nm : Nat) (t : TypeId) (p x : Operand) (n : Nat) (hn : szT P t = some n)
    (hop : o.op = .store t p x) (hs : SimS St m s a w) (hk : eff P nm (.store (Opd.of p) (Opd.of x) n) s K) : ∃ v L' w', (execOp a.eval o).run P w = .ok .skip w' ∧ K v L' ∧ Post St m s.L w v L' undef w' := by
  have hp := ev_rel hs p
  have hx := ev_rel hs x
  simp only [eff, effC] at hk
  split at hk
  case h_2 => exact hk.elim
  rename_i X r off ver h; rw [h] at hp
  split at hk
  case h_2 => exact hk.elim
  rename_i cells hL
  obtain ⟨cells', ad, hL', hver, hc, hf⟩ := hp.ptr'
  rw [hL] at hL'; cases hL'
  obtain ⟨⟨he, hle, hlen, hcell⟩, hk⟩ := hk
  obtain ⟨b, C, hm, rfl⟩ := hf he
  obtain ⟨p1, p2, arr, el, p3, p4, p5, p6⟩ := hs.objs.obj X r cells b C hL hm
  have hxc := okPart_cells hx (cells_okPart hcell)
  have hsz : (a.eval x).cells.size = n := by rw [hxc.1, hlen]
  obtain ⟨w', hr, hw⟩ := run_storeCells (P := P) b off el (a.eval x).cells.toList 0 w arr p3 (by simp [hsz]; omega) (all_one hxc hcell)
  refine ⟨_, _, w', ?_, hk, ?_⟩
  · simp only [execOp, hop, hc]
    simp [Instr.storeAt, Instr.sureAddr, storeVar, run_szT hn, hsz, hr]
  · have hpre : PRel St m s.L w (splice cells off (cellsOf (s.ev (Opd.of x)))) (spliceA arr (off + 0) (a.eval x).cells.toList) := splice_pre _ _ _ _ _ ⟨by omega, p6⟩ (by simpa using hxc)
    obtain ⟨h1, h2, h3, h4⟩ := hs.objs.wrote hL hm (by rw [splice_length]; exact Nat.le_refl _) hw (by rw [spliceA_size]; exact p4) hpre
    exact ⟨St, m, h1, .any _, h3, h2, fun _ h => .inl h, h4⟩

/-- A new block. -/
theorem made_post (ho : Objs St m L w) {X : Nat} (hX : L.fam X = none) {cells : List V} {arr : Array Value} {el : TypeId} (hc : PRel St m L w cells arr) (v : V) (c : Value)
    (hv : VRel St (m.set X 0 w.heap.size arr.size) (L.ins X [cells]) { w with heap := w.heap.push (.cells arr el (0, 0)) } v c) : Post St m L w v (L.ins X [cells]) c { w with heap := w.heap.push (.cells arr el (0, 0)) } := by
  obtain ⟨h1, h2, h3, h4⟩ := ho.made (w' := { w with heap := w.heap.push (.cells arr el (0, 0)) }) hX rfl rfl rfl rfl hc
  exact ⟨St, _, h1, hv, h3, h2, fun _ h => .inl h, h4⟩

theorem alloc_sound {o : Oper} {a : Act} {s : S} {K : V → Heap → Prop} (nm : Nat) (t : TypeId) (it : TypeInfo) (z : Value) (hi : P.info? t = some it) (hz : it.zero = some z)
    (hop : o.op = .alloc t) (hs : SimS St m s a w) (hk : eff P nm (.alloc (z.cells.toList.map Value.toV) t) s K) : ∃ v L' c w', (execOp a.eval o).run P w = .ok (.value c) w' ∧ K v L' ∧ Post St m s.L w v L' c w' := by
  simp only [eff, effC] at hk
  obtain ⟨hX, _, hk⟩ := hk
  have hc : LRel St m s.L w (z.cells.toList.map Value.toV) z.cells := toVs_rel z.cells
  refine ⟨_, _, .pointer (some ⟨w.heap.size, 0, none⟩), { w with heap := w.heap.push (.cells z.cells t (0, 0)) }, ?_, hk, made_post hs.objs hX hc.pre _ _ (.ptr (get_ins_self hX) (by simp) _ rfl fun _ => ⟨w.heap.size, z.cells.size, by simp [Map.set], rfl⟩)⟩
  simp only [execOp, hop]
  simp [Instr.alloc, zeroValue, typeInfo, hi, hz, newVar, newRow]

theorem box_sound {o : Oper} {a : Act} {s : S} {K : V → Heap → Prop} (nm : Nat) (t : TypeId) (x : Operand) (n : Nat)
    (hop : o.op = .box t x) (hs : SimS St m s a w) (hk : eff P nm (.box (Opd.of x) n t) s K) : ∃ v L' c w', (execOp a.eval o).run P w = .ok (.value c) w' ∧ K v L' ∧ Post St m s.L w v L' c w' := by
  have hx := ev_rel hs x
  simp only [eff, effC] at hk
  obtain ⟨hX, ⟨hlen, hcell, h0⟩, hk⟩ := hk
  have hxc := okPart_cells hx (cells_okPart hcell)
  refine ⟨_, _, .pointer (some ⟨w.heap.size, 0, none⟩), { w with heap := w.heap.push (.cells (a.eval x).cells t (0, 0)) }, ?_, hk, made_post hs.objs hX hxc.pre _ _ (.ptr (get_ins_self hX) (by omega) _ rfl fun _ => ⟨w.heap.size, (a.eval x).cells.size, by simp [Map.set], rfl⟩)⟩
  simp only [execOp, hop]
  simp [Instr.box, newVar, newRow]

end
end Go.Ab
