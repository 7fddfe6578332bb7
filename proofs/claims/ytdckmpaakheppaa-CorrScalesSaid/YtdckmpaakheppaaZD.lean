/- Names turned; a call among rows of which it knows nothing; a nil slice as an empty row; a result laid down as data. -/
import Derived.Test.YtdckmpaakheppaaZC
namespace Go.Ab
set_option linter.unusedSimpArgs false
set_option linter.unusedVariables false
open Go

section
variable {P : Program} {N : Nat → Prop} {St St' : Nat → Prop} {m m' m2 : Map} {L L' L2 : Heap} {w w' : World}

/-- Names turned: f tells the new name, g the old one. -/
theorem Le.ren {sl : List V} (f g : Nat → Nat → Nat × Nat)
    (h1 : ∀ X r cells, L.get X r = some cells → L2.get (f X r).1 (f X r).2 = some (cells.map (V.ren f)) ∧ g (f X r).1 (f X r).2 = (X, r))
    (h2 : ∀ X r cells, L2.get X r = some cells → L.get (g X r).1 (g X r).2 ≠ none ∧ f (g X r).1 (g X r).2 = (X, r))
    (h3 : ∀ X r, N X → L.get X r ≠ none → f X r = (X, r)) : Le N ⟨sl, L⟩ ⟨sl.map (V.ren f), L2⟩ := by
  refine ⟨by simp, fun E hN St m w cs hl ho hE hs => ?_⟩
  have key : ∀ X r cells, L.get X r = some cells → L2.get (f X r).1 (f X r).2 = some (cells.map (V.ren f)) ∧ (fun X r => m (g X r).1 (g X r).2) (f X r).1 (f X r).2 = m X r := by
    intro X r cells h
    obtain ⟨a, b⟩ := h1 X r cells h
    exact ⟨a, by simp only [b]⟩
  have back : ∀ X r cells, L2.get X r = some cells → ∃ cells0, L.get (g X r).1 (g X r).2 = some cells0 ∧ cells = cells0.map (V.ren f) := by
    intro X r cells h
    obtain ⟨a, b⟩ := h2 X r cells h
    obtain ⟨c0, hc0⟩ := Option.ne_none_iff_exists'.1 a
    have := (h1 _ _ _ hc0).1
    rw [b] at this
    rw [h] at this
    exact ⟨c0, hc0, by simpa using this⟩
  refine ⟨St, fun X r => m (g X r).1 (g X r).2, ⟨ho.st, fun X r cells hX hm => ?_, fun X r cells b C hX hm => ?_, fun X r Y q b C C' hX hY hb hb' => ?_⟩, ⟨hE.frame, ⟨hE.ext.st, hE.ext.keep, fun X r cells hX => ?_⟩, hE.st, fun X r b C hX hm => ?_⟩, fun i hi => ?_⟩
  · obtain ⟨c0, h4, h5⟩ := back X r cells hX
    rw [ho.nil _ _ _ h4 hm] at h5; simpa using h5
  · obtain ⟨c0, h4, h5⟩ := back X r cells hX
    obtain ⟨p1, p2, arr, el, p3, p4, p5, p6⟩ := ho.obj _ _ _ b C h4 hm
    refine ⟨p1, p2, arr, el, p3, p4, by rw [h5]; simpa using p5, fun j hj => ?_⟩
    rw [h5, ren_getD]
    exact VRel.ren f key (p6 j (by rw [h5] at hj; simpa using hj))
  · obtain ⟨a, b1⟩ : L.get (g X r).1 (g X r).2 ≠ none ∧ f (g X r).1 (g X r).2 = (X, r) := by
      obtain ⟨c, hc⟩ := Option.ne_none_iff_exists'.1 hX; exact h2 X r c hc
    obtain ⟨a', b2⟩ : L.get (g Y q).1 (g Y q).2 ≠ none ∧ f (g Y q).1 (g Y q).2 = (Y, q) := by
      obtain ⟨c, hc⟩ := Option.ne_none_iff_exists'.1 hY; exact h2 Y q c hc
    obtain ⟨e1, e2⟩ := ho.inj _ _ _ _ b C C' a a' hb hb'
    rw [e1, e2] at b1
    have := b1.symm.trans b2
    simpa using this
  · obtain ⟨c', h4, h5, h6⟩ := hE.ext.own X r cells hX
    have hf3 := h3 X r (hN X r (by rw [hX]; simp)) (by rw [h4]; simp)
    obtain ⟨a, b1⟩ := h1 X r c' h4
    rw [hf3] at a b1
    exact ⟨_, a, by simpa using h5, fun e => by
      show m (g X r).1 (g X r).2 = _
      rw [b1]; exact h6 (by simpa using e)⟩
  · obtain ⟨a, b1⟩ : L.get (g X r).1 (g X r).2 ≠ none ∧ f (g X r).1 (g X r).2 = (X, r) := by
      obtain ⟨c, hc⟩ := Option.ne_none_iff_exists'.1 hX; exact h2 X r c hc
    rcases hE.src _ _ b C a hm with ⟨h4, h5⟩ | h4
    · have hf3 := h3 _ _ (hN _ _ h4) a
      rw [b1] at hf3
      have e : g X r = (X, r) := by rw [hf3]
      simp only [e] at h4 h5
      exact .inl ⟨h4, h5⟩
    · exact .inr h4
  · have hi' : i < sl.length := by simpa using hi
    show VRel St _ L2 w ((sl.map (V.ren f)).getD i .any) _
    rw [ren_getD]
    exact VRel.ren f key (hs i hi')

/-- A nil slice is a slice of an empty row that nobody has laid. -/
theorem Le.nilrow {sl sl' : List V} {X esz : Nat} (hX : L.fam X = none) (hN : ¬ N X) (hl : sl'.length = sl.length)
    (h : ∀ i, i < sl.length → sl'.getD i .any = sl.getD i .any ∨ (sl.getD i .any = .nil ∧ sl'.getD i .any = .sl X 0 0 0 esz 0)) : Le N ⟨sl, L⟩ ⟨sl', (X, [[]]) :: L⟩ := by
  have hg : ∀ Y r, Heap.get ((X, [[]]) :: L) Y r = if Y = X then (if r = 0 then some [] else none) else L.get Y r := by
    intro Y r
    rw [get_cons]
    split
    · cases r <;> simp
    · rfl
  have hno : ∀ r, L.get X r = none := by intro r; unfold Heap.get; rw [hX]; rfl
  refine ⟨hl, fun E hE' St m w cs hlen ho hE hs => ?_⟩
  have hx : ∀ w, Ext St St m (fun Y r => if Y = X then none else m Y r) L ((X, [[]]) :: L) w w := fun w => ⟨fun _ h => h, fun _ _ => rfl, fun Y r cells hY => by
    have : Y ≠ X := fun e => by rw [e, hno] at hY; cases hY
    exact ⟨cells, by rw [hg, if_neg this]; exact hY, Nat.le_refl _, fun _ => by simp only [if_neg this]⟩⟩
  refine ⟨St, fun Y r => if Y = X then none else m Y r, ⟨ho.st, fun Y r cells hY hm => ?_, fun Y r cells b C hY hm => ?_, fun Y r Z q b C C' hY hZ hm hm' => ?_⟩, ⟨hE.frame, ?_, hE.st, fun Y r b C hY hm => ?_⟩, fun i hi => ?_⟩
  · rw [hg] at hY
    split at hY
    · split at hY <;> simp_all
    · rename_i e; simp only [if_neg e] at hm; exact ho.nil Y r cells hY hm
  · rw [hg] at hY
    split at hY
    · rename_i e; simp [if_pos e] at hm
    · rename_i e; simp only [if_neg e] at hm
      obtain ⟨p1, p2, arr, el, p3, p4, p5, p6⟩ := ho.obj Y r cells b C hY hm
      exact ⟨p1, p2, arr, el, p3, p4, p5, fun j hj => (p6 j hj).mono (hx w)⟩
  · skip
    split at hm
    · cases hm
    split at hm'
    · cases hm'
    rename_i e1 e2
    rw [hg, if_neg e1] at hY
    rw [hg, if_neg e2] at hZ
    exact ho.inj Y r Z q b C C' hY hZ hm hm'
  · exact hE.ext.trans (hx w)
  · skip
    split at hm
    · cases hm
    rename_i e1
    rw [hg, if_neg e1] at hY
    exact hE.src Y r b C hY hm
  · rcases h i (by rw [← hl]; exact hi) with e | ⟨e1, e2⟩
    · simp only [e]; exact (hs i (by rw [← hl]; exact hi)).mono (hx w)
    · have := hs i (by rw [← hl]; exact hi)
      simp only [e1] at this
      simp only [e2]
      rw [this.nil']
      exact .sl (cells := []) (by rw [hg]; simp) (by simp) none 0 rfl (by simp) (by simp) fun _ => .inl rfl

/-- Names moved up. -/
abbrev upF (k : Nat) (X r : Nat) : Nat × Nat := (X + k, r)
def Heap.up (k : Nat) : Heap → Heap
  | [] => []
  | (X, fam) :: L => (X + k, fam.map fun cells => cells.map (V.ren (upF k))) :: Heap.up k L

theorem next_above : ∀ (L : Heap) (X : Nat), L.next ≤ X → L.fam X = none := by
  intro L
  induction L with
  | nil => intro X _; exact fam_nil X
  | cons p L ih =>
    obtain ⟨Y, f⟩ := p
    intro X h
    rw [next_cons] at h
    rw [fam_cons]
    split at h
    · rw [if_neg (by omega)]; exact ih X (by omega)
    · rw [if_neg (by omega)]; exact ih X h

theorem get_up_app (k : Nat) (L : Heap) : ∀ (L' : Heap) (X r : Nat), (∀ Y, k ≤ Y → L.fam Y = none) →
    Heap.get (Heap.up k L' ++ L) X r = if k ≤ X then (L'.get (X - k) r).map (·.map (V.ren (upF k))) else L.get X r := by
  intro L'
  induction L' with
  | nil =>
    intro X r h
    simp only [Heap.up, List.nil_append, get_nil, Option.map_none]
    split
    · unfold Heap.get; rw [h X (by assumption)]; rfl
    · rfl
  | cons p L' ih =>
    obtain ⟨Y, fam⟩ := p
    intro X r h
    simp only [Heap.up, List.cons_append]
    rw [get_cons, get_cons, ih X r h]
    by_cases h1 : k ≤ X
    · simp only [h1, if_true]
      by_cases h2 : X = Y + k
      · have : X - k = Y := by omega
        simp [h2]
      · have : ¬ X - k = Y := by omega
        simp [h2, this]
    · have : ¬ X = Y + k := by omega
      simp [h1, this]

theorem get_lt_next {X r : Nat} {c : List V} (h : L.get X r = some c) : X < L.next := by
  by_cases hlt : X < L.next
  · exact hlt
  · have := next_above L X (by omega)
    exact absurd this (fam_of_get h)

/-- A call among rows of which it knows nothing. -/
theorem AC_frameK (K : Nat) (hK : L.next ≤ K) {f : FuncId} {vs us : List V} {r : V} (hc : AC P f us [] L' r) (hlen : us.length = vs.length)
    (hr : (us = vs ∧ ∀ j, j < vs.length → Bare (vs.getD j .any)) ∨ ((∀ j, j < us.length → Snap L (vs.getD j .any) (us.getD j .any)) ∧ PureV r ∧ ∀ X q cells, L'.get X q = some cells → ∀ j, j < cells.length → PureV (cells.getD j .any))) :
    AC P f vs L (Heap.up K L' ++ L) (r.ren (upF K)) := by
  refine ⟨hc.1, fun St m w cargs ho hsz hargs => ?_⟩
  have core : ∀ (w' : World) (St'' : Nat → Prop) (m' : Map) (v : Value), (∀ b, b < w.heap.size → w'.heap[b]? = w.heap[b]?) → w.heap.size ≤ w'.heap.size → w'.os = w.os → w'.tape = w.tape → w'.output = w.output →
      (∀ b, St b → St'' b) → (∀ b, St'' b → St b ∨ w.heap.size ≤ b) → Objs St'' m' L' w' → (∀ X q b C, L'.get X q ≠ none → m' X q = some (b, C) → w.heap.size ≤ b) → VRel St'' m' L' w' r v →
      ∃ v' St' m'', Ending.returned v = .returned v' ∧ Objs St' m'' (Heap.up K L' ++ L) w' ∧ VRel St' m'' (Heap.up K L' ++ L) w' (r.ren (upF K)) v' ∧ Frame' (Named m L) w w' ∧
        Ext St St' m m'' L (Heap.up K L' ++ L) w w' ∧ (∀ b, St' b → St b ∨ w.heap.size ≤ b) ∧ Src m L m'' (Heap.up K L' ++ L) w := by
    intro w' St'' m' v hkeep hsize hos htape hout hst1 hst2 ho' hnew hv
    have hg : ∀ X q, Heap.get (Heap.up K L' ++ L) X q = if K ≤ X then (L'.get (X - K) q).map (·.map (V.ren (upF K))) else L.get X q :=
      fun X q => get_up_app K L L' X q (fun Y hY => next_above L Y (Nat.le_trans hK hY))
    let m'' : Map := fun X q => if K ≤ X then m' (X - K) q else m X q
    have hren : ∀ X q cells, L'.get X q = some cells → Heap.get (Heap.up K L' ++ L) (upF K X q).1 (upF K X q).2 = some (cells.map (V.ren (upF K))) ∧ m'' (upF K X q).1 (upF K X q).2 = m' X q := by
      intro X q cells h
      rw [hg]
      simp [m'', h]
    have hx : Ext St St'' m m'' L (Heap.up K L' ++ L) w w' := by
      refine ⟨hst1, fun b hb => hkeep b (ho.st b hb), fun X q cells hX => ⟨cells, ?_, Nat.le_refl _, fun _ => ?_⟩⟩
      · have := get_lt_next hX
        rw [hg, if_neg (by omega)]; exact hX
      · have := get_lt_next hX
        simp only [m'']; rw [if_neg (by omega)]
    refine ⟨v, St'', m'', rfl, ⟨ho'.st, fun X q cells hX hm => ?_, fun X q cells b C hX hm => ?_, fun X q Y p b C C' hX hY hm hm' => ?_⟩, hv.ren (upF K) hren, ⟨hos, htape, hout, hsize, fun b hb _ => hkeep b hb⟩, hx, hst2, fun X q b C hX hm => ?_⟩
    · rw [hg] at hX
      simp only [m''] at hm
      split at hX
      · rename_i e
        rw [if_pos e] at hm
        obtain ⟨c0, h1, h2⟩ := Option.map_eq_some_iff.1 hX
        rw [ho'.nil _ _ _ h1 hm] at h2; simpa using h2.symm
      · rename_i e; rw [if_neg e] at hm; exact ho.nil _ _ _ hX hm
    · rw [hg] at hX
      simp only [m''] at hm
      split at hX
      · rename_i e
        rw [if_pos e] at hm
        obtain ⟨c0, h1, h2⟩ := Option.map_eq_some_iff.1 hX
        obtain ⟨p1, p2, arr, el, p3, p4, p5, p6⟩ := ho'.obj _ _ _ b C h1 hm
        refine ⟨p1, p2, arr, el, p3, p4, by rw [← h2]; simpa using p5, fun j hj => ?_⟩
        rw [← h2, ren_getD]
        exact (p6 j (by rw [← h2] at hj; simpa using hj)).ren (upF K) hren
      · rename_i e
        rw [if_neg e] at hm
        obtain ⟨p1, p2, arr, el, p3, p4, p5, p6⟩ := ho.obj _ _ _ b C hX hm
        refine ⟨by omega, fun hs => ?_, arr, el, by rw [hkeep b p1]; exact p3, p4, p5, fun j hj => (p6 j hj).mono hx⟩
        rcases hst2 b hs with h | h
        · exact p2 h
        · omega
    · rw [hg] at hX hY
      simp only [m''] at hm hm'
      split at hX <;> rename_i e1 <;> split at hY <;> rename_i e2
      · rw [if_pos e1] at hm; rw [if_pos e2] at hm'
        have hX' : L'.get (X - K) q ≠ none := by intro h; rw [h] at hX; exact hX rfl
        have hY' : L'.get (Y - K) p ≠ none := by intro h; rw [h] at hY; exact hY rfl
        obtain ⟨k1, k2⟩ := ho'.inj _ _ _ _ b C C' hX' hY' hm hm'
        exact ⟨by omega, k2⟩
      · rw [if_pos e1] at hm; rw [if_neg e2] at hm'
        have hX' : L'.get (X - K) q ≠ none := by intro h; rw [h] at hX; exact hX rfl
        obtain ⟨c, hc⟩ := Option.ne_none_iff_exists'.1 hY
        have := (ho.obj _ _ _ b C' hc hm').1
        have := hnew _ _ b C hX' hm
        omega
      · rw [if_neg e1] at hm; rw [if_pos e2] at hm'
        have hY' : L'.get (Y - K) p ≠ none := by intro h; rw [h] at hY; exact hY rfl
        obtain ⟨c, hc⟩ := Option.ne_none_iff_exists'.1 hX
        have := (ho.obj _ _ _ b C hc hm).1
        have := hnew _ _ b C' hY' hm'
        omega
      · rw [if_neg e1] at hm; rw [if_neg e2] at hm'
        exact ho.inj _ _ _ _ b C C' hX hY hm hm'
    · rw [hg] at hX
      simp only [m''] at hm
      split at hX <;> rename_i e1
      · rw [if_pos e1] at hm
        have hX' : L'.get (X - K) q ≠ none := by intro h; rw [h] at hX; exact hX rfl
        exact .inr (hnew _ _ b C hX' hm)
      · rw [if_neg e1] at hm
        exact .inl ⟨hX, hm⟩
  rcases hr with ⟨rfl, hbare⟩ | ⟨hsn, hpr, hpc⟩
  · refine (hc.2 St (fun _ _ => Option.none) w cargs (Objs.none St ho.st) hsz fun j hj => (hbare j hj).strip (hargs j hj)).mono ?_
    rintro e w' ⟨v, St', m', rfl, ho', hv, hfr, hext, hst, hsrc⟩
    have hkeep : ∀ b, b < w.heap.size → w'.heap[b]? = w.heap[b]? := fun b hb => hfr.block b hb fun ⟨X, r, C, h, _⟩ => by simp [Heap.get, Heap.fam] at h
    exact core w' St' m' v hkeep hfr.size hfr.os hfr.tape hfr.output hext.st hst ho' (fun X q b C h1 h2 => by
      rcases hsrc X q b C h1 h2 with ⟨h3, _⟩ | h3
      · simp [Heap.get, Heap.fam] at h3
      · exact h3) hv
  · refine (hc.2 (fun b => b < w.heap.size) (fun _ _ => Option.none) w cargs (Objs.none _ fun _ h => h) (by omega) fun j hj => Snap.rel ho (hsn j hj) (hargs j (by omega))).mono ?_
    rintro e w' ⟨v, St', m', rfl, ho', hv, hfr, hext, hst, hsrc⟩
    have hkeep : ∀ b, b < w.heap.size → w'.heap[b]? = w.heap[b]? := fun b hb => hfr.block b hb fun ⟨X, r, C, h, _⟩ => by simp [Heap.get, Heap.fam] at h
    have hnew : ∀ X q b C, L'.get X q ≠ none → m' X q = some (b, C) → w.heap.size ≤ b := fun X q b C h1 h2 => by
      rcases hsrc X q b C h1 h2 with ⟨h3, _⟩ | h3
      · simp [Heap.get, Heap.fam] at h3
      · exact h3
    refine core w' St m' v hkeep hfr.size hfr.os hfr.tape hfr.output (fun _ h => h) (fun _ h => .inl h) ⟨fun b hb => Nat.lt_of_lt_of_le (ho.st b hb) hfr.size, ho'.nil, fun X q cells b C h1 h2 => ?_, ho'.inj⟩ hnew (hpr.rel hv)
    obtain ⟨p1, p2, arr, el, p3, p4, p5, p6⟩ := ho'.obj X q cells b C h1 h2
    exact ⟨p1, fun hs => by have := hnew X q b C (by rw [h1]; simp) h2; have := ho.st b hs; omega, arr, el, p3, p4, p5, fun j hj => (hpc X q cells h1 j hj).rel (p6 j hj)⟩

theorem AC_frame {f : FuncId} {vs us : List V} {r : V} (hc : AC P f us [] L' r) (hlen : us.length = vs.length)
    (hr : (us = vs ∧ ∀ j, j < vs.length → Bare (vs.getD j .any)) ∨ ((∀ j, j < us.length → Snap L (vs.getD j .any) (us.getD j .any)) ∧ PureV r ∧ ∀ X q cells, L'.get X q = some cells → ∀ j, j < cells.length → PureV (cells.getD j .any))) :
    AC P f vs L (Heap.up L.next L' ++ L) (r.ren (upF L.next)) := AC_frameK L.next (Nat.le_refl _) hc hlen hr

/-- A call's result, laid down as data. -/
theorem Con_of_AC {f : FuncId} {vs : List V} {r d : V} (hc : AC P f vs [] L' r) (h : LeV L' [] (fun X r => (X, r)) r d) : Con P f vs d := by
  refine ⟨hc.1, fun St m w cargs ho hsz hargs => (hc.2 St m w cargs ho hsz hargs).mono ?_⟩
  rintro e w' ⟨v, St', m', rfl, h1, h2, h3, h4, h5, h6⟩
  obtain ⟨St'', m'', k1, k2, k3⟩ := (Wk.fin h).rel (E := ⟨St, m, [], w⟩) (fun X q hX => by simp [Heap.get, Heap.fam] at hX) h1 ⟨h3, h4, h5, h6⟩ (cs := [v]) rfl (fun i hi => by
    have : i = 0 := by simpa using hi
    subst this; exact h2)
  exact ⟨v, St'', m'', rfl, k1, k3 0 (by simp), k2.frame, k2.ext, k2.st, k2.src⟩
end
end Go.Ab
