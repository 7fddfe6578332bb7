/- Regions, code. -/
import Derived.Test.YtdckmpaakheppaaR
namespace Go.Ab
set_option linter.unusedSimpArgs false
set_option linter.unusedVariables false
open Go

/-- Where a piece of a run began: what was stable, what was named, the rows, the world. -/
structure Env where
  St : Nat → Prop
  m : Map
  L : Heap
  w : World

/-- From where it began to now. -/
structure Since (E : Env) (St : Nat → Prop) (m : Map) (L : Heap) (w : World) : Prop where
  frame : Frame' (Named E.m E.L) E.w w
  ext : Ext E.St St E.m m E.L L E.w w
  st : ∀ b, St b → E.St b ∨ E.w.heap.size ≤ b
  src : Src E.m E.L m L E.w

theorem Since.step {E : Env} {St St' : Nat → Prop} {m m' : Map} {L L' : Heap} {w w' : World} (h : Since E St m L w) (hf : Frame' (Named m L) w w') (he : Ext St St' m m' L L' w w')
    (hst : ∀ b, St' b → St b ∨ w.heap.size ≤ b) (hs : Src m L m' L' w) : Since E St' m' L' w' := by
  refine ⟨h.frame.trans hf fun x hx hlt => ?_, h.ext.trans he, fun b hb => ?_, h.src.trans hs h.frame.size⟩
  · rcases h.src.named x hx with h' | h'
    · exact h'
    · omega
  · rcases hst b hb with h' | h'
    · exact h.st b h'
    · exact .inr (Nat.le_trans h.frame.size h')

theorem Since.draw {E : Env} {St : Nat → Prop} {m : Map} {L : Heap} {w w' : World} (h : Since E St m L w) (hs : Same w w') : Since E St m L w' :=
  h.step hs.frame hs.ext (fun _ h => .inl h) (.refl _ _ _)

theorem SimS.draw {St : Nat → Prop} {m : Map} {s : S} {a : Act} {w w' : World} (h : SimS St m s a w) (hs : Same w w') : SimS St m s a w' :=
  ⟨hs.objs h.objs, h.size, fun i hi => hs.vrel (h.slots i hi), h.calm⟩

theorem SimS.put {St St' : Nat → Prop} {m m' : Map} {s : S} {a : Act} {w w' : World} {L' : Heap} {v : V} {c : Value} (h : SimS St m s a w) (ho : Objs St' m' L' w') (he : Ext St St' m m' s.L L' w w')
    (hv : VRel St' m' L' w' v c) (dst : Option Nat) : SimS St' m' ⟨putSl s.sl dst v, L'⟩ (a.put dst c) w' := by
  cases dst with
  | none => exact ⟨ho, h.size, fun i hi => (h.slots i hi).mono he, h.calm⟩
  | some d =>
    have := LRel.set (St := St') (m := m') (L := L') (w := w') (xs := s.sl) (cs := a.tmps) ⟨h.size, fun i hi => (h.slots i hi).mono he⟩ hv d
    exact ⟨ho, this.1, this.2, h.calm⟩

def compII (P : Program) (ops : List Oper) (pure : Nat) (bs ind : List Opd) (k : Nat) (o : Oper) : Option II :=
  match compI P pure o.op with
  | none => none
  | some i => match o.guard with
    | none => some ⟨k, o.dst, none, bs, ind, i⟩
    | some (j, b) => match (ops[j]?).bind (·.dst) with
      | some d => some ⟨k, o.dst, some (d, b), bs, ind, i⟩
      | none => none

section
variable {P : Program} {base : Nat} {E : Env}

/-- One operation of a region. -/
theorem op_sound {ops : Array Oper} {pure : Nat} {bs ind : List Opd} {k : Nat} {o : Oper} {ii : II} (hc : compII P ops.toList pure bs ind k o = some ii) (ho : ops[k]? = some o) {St : Nat → Prop} {m : Map} {s : S} {a : Act} {w : World}
    (hs : SimS St m s a w) (hE : Since E St m s.L w) {K : S → Prop} (hk : step P base ii s K) {next : Act → World → Prop} {Q : Exit → Act → World → Prop}
    (hn : ∀ t St' m' a' w', K t → SimS St' m' t a' w' → Since E St' m' t.L w' → next a' w') : wpOp P ops Q k next a w := by
  unfold wpOp
  simp only [ho]
  unfold compII at hc
  split at hc
  · cases hc
  rename_i i hi
  have main : ∀ K' : V → Heap → Prop, (∀ v L, K' v L → K ⟨putSl s.sl o.dst v, L⟩) → eff P (base + k) i s K' → o.wp P a w next Q := by
    intro K' hK he
    refine eff_sound pure (base + k) i hi hs he fun v L' c w' hkv hp => ?_
    obtain ⟨St', m', h1, h2, h3, h4, h5, h6⟩ := hp
    exact hn _ St' m' _ _ (hK v L' hkv) (hs.put h1 h4 h2 o.dst) (hE.step h3 h4 h5 h6)
  split at hc
  · rename_i hg
    cases hc
    have : Region.wanted o (yielded ops a.tmps) = true := by simp [Region.wanted, hg]
    simp only [this, if_true]
    simp only [step] at hk
    exact .inl (main _ (fun v L h => h) hk.2)
  · rename_i j b hg
    split at hc
    case h_2 => cases hc
    rename_i d hd
    cases hc
    simp only [step] at hk
    split at hk
    case h_3 => exact hk.elim
    case h_2 =>
      rename_i hq
      have hw : Region.wanted o (yielded ops a.tmps) = false := by
        have hy : yielded ops a.tmps j = none := by
          unfold yielded
          have hd' : (ops[j]?).bind (·.dst) = some d := by simpa using hd
          rw [hd']
          simp only [Option.bind_some]
          by_cases hlt : d < s.sl.length
          · have h1 := hs.slots d hlt
            rw [hq] at h1
            obtain ⟨cs, h2, h3, _⟩ := h1.tup'
            have hlt' : d < a.tmps.size := by rw [hs.size]; exact hlt
            rw [Array.getD_eq_getD_getElem?, Array.getElem?_eq_getElem hlt'] at h2
            simp only [Option.getD_some] at h2
            rw [Array.getElem?_eq_getElem hlt', h2]
          · rw [List.getD_eq_getElem?_getD, List.getElem?_eq_none (Nat.not_lt.1 hlt)] at hq; simp at hq
        simp [Region.wanted, hg, hy]
      rw [hw]
      simp only [Bool.false_eq_true, if_false]
      exact hn _ St m _ _ hk (hs.put hs.objs (.refl _ _ _ _) (.tup (cs := #[]) rfl fun j hj => by simp at hj) o.dst) hE
    rename_i q hq
    have hq' : a.tmps[d]? = some (.bool q) := by
      by_cases hlt : d < s.sl.length
      · have := hs.slots d hlt
        rw [hq] at this
        have := this.bool
        have hlt' : d < a.tmps.size := by rw [hs.size]; exact hlt
        rw [Array.getD_eq_getD_getElem?, Array.getElem?_eq_getElem hlt'] at this
        rw [Array.getElem?_eq_getElem hlt']
        simpa using this
      · rw [List.getD_eq_getElem?_getD, List.getElem?_eq_none (Nat.not_lt.1 hlt)] at hq; simp at hq
    have hy : yielded ops a.tmps j = some q := by
      unfold yielded
      have : (ops[j]?).bind (·.dst) = some d := by simpa using hd
      rw [this]
      simp [hq']
    have hw : Region.wanted o (yielded ops a.tmps) = (q == b) := by
      simp only [Region.wanted, hg, hy]
      cases q <;> cases b <;> rfl
    rw [hw]
    split at hk
    · rename_i e; subst e
      simp only [beq_self_eq_true, if_true]
      exact .inl (main _ (fun v L h => h) hk.2)
    · rename_i e
      have : (q == b) = false := by simpa using e
      simp only [this, Bool.false_eq_true, if_false]
      exact hn _ St m _ _ hk (hs.put hs.objs (.refl _ _ _ _) (.tup (cs := #[]) rfl fun j hj => by simp at hj) o.dst) hE

/-- Pieces one behind the other. -/
theorem seq_sound {ops : Array Oper} {Q : Exit → Act → World → Prop} {K : S → Prop} : ∀ (l : List Nat) (iis : List II), iis.length = l.length →
    (∀ j (h1 : j < l.length) (h2 : j < iis.length), ∃ o pure bs ind, ops[l[j]]? = some o ∧ compII P ops.toList pure bs ind l[j] o = some iis[j]) →
    ∀ (St : Nat → Prop) (m : Map) (s : S) (a : Act) (w : World), SimS St m s a w → Since E St m s.L w → wpI P base iis K s →
    (∀ t St' m' a' w', K t → SimS St' m' t a' w' → Since E St' m' t.L w' → Q .normal a' w') → wpOps P ops Q l a w := by
  intro l
  induction l with
  | nil =>
    intro iis hl _ St m s a w hs hE hk hQ
    obtain rfl : iis = [] := by simpa using hl
    exact hQ s St m a w hk hs hE
  | cons i l ih =>
    intro iis hl hc St m s a w hs hE hk hQ
    cases iis with
    | nil => simp at hl
    | cons ii iis =>
      obtain ⟨o, pure, bs, ind, ho, hcomp⟩ := hc 0 (by simp) (by simp)
      rw [wpOps_cons]
      refine op_sound hcomp ho hs hE hk fun t St' m' a' w' ht hs' hE' => ?_
      exact ih iis (by simpa using hl) (fun j h1 h2 => hc (j + 1) (Nat.succ_lt_succ h1) (Nat.succ_lt_succ h2)) St' m' t a' w' hs' hE' ht hQ

/-- Ahead of: by an edge, or by several. -/
inductive Reach (ops : List Oper) : Nat → Nat → Prop
  | edge {k : Nat} {o : Oper} {e : Edge} (ho : ops[k]? = some o) (he : e ∈ o.after) (hb : Region.binds .any e = true) : Reach ops e.on k
  | trans {a k : Nat} {o : Oper} {e : Edge} (h : Reach ops a e.on) (ho : ops[k]? = some o) (he : e ∈ o.after) (hb : Region.binds .any e = true) : Reach ops a k

theorem Reach.listed {ops : Array Oper} {listed : Array Bool} (hd : ∀ k o e, listed.getD k false = true → ops[k]? = some o → e ∈ o.after → Region.binds .any e = true → listed.getD e.on false = true)
    {a k : Nat} (h : Reach ops.toList a k) : ∀ o, ops[k]? = some o → (∀ e ∈ o.after, Region.binds .any e = true → listed.getD e.on false = true) → listed.getD a false = true := by
  have key : ∀ {a k : Nat}, Reach ops.toList a k → listed.getD k false = true → listed.getD a false = true := by
    intro a k h
    induction h with
    | edge ho he hb => intro hk; exact hd _ _ _ hk (by simpa using ho) he hb
    | trans h ho he hb ih => intro hk; exact ih (hd _ _ _ hk (by simpa using ho) he hb)
  intro o ho hall
  cases h with
  | edge ho' he hb => rw [show ops[k]? = some _ from by simpa using ho'] at ho; cases ho; exact hall _ he hb
  | trans h ho' he hb => rw [show ops[k]? = some _ from by simpa using ho'] at ho; cases ho; exact key h (hall _ he hb)

/-- Of each operation those that it comes behind, as bits. -/
def maskOf (acc : List Nat) (o : Oper) : Nat :=
  (o.after.toList.filter (Region.binds .any)).foldl (fun m e => m ||| (2 ^ e.on ||| acc.getD e.on 0)) 0

def masks : List Oper → List Nat → List Nat
  | [], acc => acc
  | o :: r, acc => masks r (acc ++ [maskOf acc o])

theorem maskOf_spec {ops : List Oper} {acc : List Nat} {k : Nat} {o : Oper} (ho : ops[k]? = some o) (hacc : ∀ j, j < acc.length → ∀ a, (acc.getD j 0).testBit a = true → Reach ops a j) (a : Nat)
    (h : (maskOf acc o).testBit a = true) : Reach ops a k := by
  unfold maskOf at h
  have key : ∀ (l : List Edge) (m : Nat), (∀ e ∈ l, e ∈ o.after ∧ Region.binds .any e = true) → (m.testBit a = true → Reach ops a k) → (l.foldl (fun m e => m ||| (2 ^ e.on ||| acc.getD e.on 0)) m).testBit a = true → Reach ops a k := by
    intro l
    induction l with
    | nil => intro m _ hm h; exact hm h
    | cons e l ih =>
      intro m hl hm h
      refine ih _ (fun e' he' => hl e' (by simp [he'])) (fun hb => ?_) h
      rw [Nat.testBit_or, Nat.testBit_or, Bool.or_eq_true, Bool.or_eq_true] at hb
      obtain ⟨he, hbd⟩ := hl e (by simp)
      rcases hb with hb | hb | hb
      · exact hm hb
      · rw [Nat.testBit_two_pow] at hb
        have : e.on = a := by simpa using hb
        subst this
        exact .edge ho he hbd
      · by_cases hlt : e.on < acc.length
        · exact .trans (hacc _ hlt a hb) ho he hbd
        · rw [List.getD_eq_getElem?_getD, List.getElem?_eq_none (Nat.not_lt.1 hlt)] at hb
          simp at hb
  refine key _ 0 (fun e he => ?_) (by simp) h
  rw [List.mem_filter] at he
  exact ⟨by simpa using he.1, he.2⟩

theorem masks_spec {ops : List Oper} : ∀ (r : List Oper) (acc : List Nat), (∀ j, j < r.length → ops[acc.length + j]? = r[j]?) → (∀ j, j < acc.length → ∀ a, (acc.getD j 0).testBit a = true → Reach ops a j) →
    ∀ j a, ((masks r acc).getD j 0).testBit a = true → Reach ops a j := by
  intro r
  induction r with
  | nil =>
    intro acc _ hacc j a h
    by_cases hj : j < acc.length
    · exact hacc j hj a h
    · simp only [masks] at h
      rw [List.getD_eq_getElem?_getD, List.getElem?_eq_none (Nat.not_lt.1 hj)] at h
      simp at h
  | cons o r ih =>
    intro acc hr hacc j a h
    refine ih (acc ++ [maskOf acc o]) (fun j hj => ?_) (fun j hj a ha => ?_) j a h
    · have := hr (j + 1) (by simpa using hj)
      simp only [List.length_append, List.length_singleton]
      rw [show acc.length + 1 + j = acc.length + (j + 1) from by omega, this]
      simp
    · simp only [List.length_append, List.length_singleton] at hj
      by_cases hlt : j < acc.length
      · rw [List.getD_eq_getElem?_getD, List.getElem?_append_left hlt, ← List.getD_eq_getElem?_getD] at ha
        exact hacc j hlt a ha
      · obtain rfl : j = acc.length := by omega
        rw [List.getD_eq_getElem?_getD, List.getElem?_append_right (Nat.le_refl _)] at ha
        simp at ha
        have := hr 0 (by simp)
        exact maskOf_spec (by simpa using this) hacc a ha

end
end Go.Ab
