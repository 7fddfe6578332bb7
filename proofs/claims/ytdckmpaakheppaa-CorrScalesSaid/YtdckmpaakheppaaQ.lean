/- Two pieces, the other way round. -/
import Derived.Test.YtdckmpaakheppaaP
namespace Go.Ab
set_option linter.unusedSimpArgs false
set_option linter.unusedVariables false
open Go

inductive Kind where | H | R | A | S | W | X
  deriving DecidableEq

def Inst.kind : Inst → Kind
  | .h _ => .H
  | .load _ _ _ => .R
  | .alloc _ _ | .box _ _ _ | .bslice _ _ _ _ _ | .mksl _ _ _ _ _ _ | .callC _ _ => .A
  | .store _ _ _ | .app _ _ _ _ | .cpy _ _ _ => .W
  | .callA _ _ => .X
  | .callS _ _ _ => .S
/-- The names that a call may lean on are below this. -/
def Inst.below (nm : Nat) : Inst → Nat
  | .callS k _ _ => nm - k
  | _ => 0

theorem nm0 : V.name .nil = none := rfl
theorem nm1 (x : D) : V.name (.d x) = none := rfl
theorem nm2 (X r off ver : Nat) : V.name (.ptr X r off ver) = some (X, r) := rfl
theorem nm3 (X r off n esz ver : Nat) : V.name (.sl X r off n esz ver) = some (X, r) := rfl

/-- What a piece makes of the rows. -/
inductive Delta where
  | nop
  | ins (fam : List (List V))
  | put (X r : Nat) (cells : List V)

def Delta.on (nm : Nat) (L : Heap) : Delta → Heap
  | .nop => L
  | .ins fam => L.ins nm fam
  | .put X r cells => L.put X r cells

/-- A piece from rows L to rows L'. -/
abbrev Rel (P : Program) (nm : Nat) (i : Inst) (ev : Opd → V) (L : Heap) (v : V) (L' : Heap) : Prop := effC P nm i ev L fun u N => u = v ∧ N = L'

theorem fam_put (X r : Nat) (c : List V) (L : Heap) (Y : Nat) : (L.put X r c).fam Y = none ↔ L.fam Y = none := by
  induction L with
  | nil => rfl
  | cons p L ih =>
    obtain ⟨Z, g⟩ := p
    simp only [Heap.put]
    split
    · simp only [Heap.fam, List.lookup_cons]
      by_cases e : Y = Z
      · simp [e]
      · simp only [beq_eq_false_iff_ne.2 e]
    · simp only [Heap.fam, List.lookup_cons] at ih ⊢
      by_cases e : Y = Z
      · simp [e]
      · simp only [beq_eq_false_iff_ne.2 e]; exact ih

theorem ins_comm (X Y : Nat) (f g : List (List V)) (h : X ≠ Y) (L : Heap) : (L.ins X f).ins Y g = (L.ins Y g).ins X f := by
  induction L with
  | nil =>
    simp only [Heap.ins]
    rcases Nat.lt_or_gt_of_ne h with h | h
    · rw [if_pos h, if_neg (by omega)]
    · rw [if_neg (by omega), if_pos h]
  | cons p L ih =>
    obtain ⟨Z, k⟩ := p
    simp only [Heap.ins]
    by_cases hx : Z < X <;> by_cases hy : Z < Y
    · rw [if_pos hx, if_pos hy]
      simp only [Heap.ins]
      rcases Nat.lt_or_gt_of_ne h with h | h
      · rw [if_pos h, if_neg (by omega), if_pos hx]
      · rw [if_neg (by omega), if_pos hy, if_pos h]
    · rw [if_pos hx, if_neg hy]
      simp only [Heap.ins]
      rw [if_neg (by omega), if_neg hy, if_pos hx]
    · rw [if_neg hx, if_pos hy]
      simp only [Heap.ins]
      rw [if_pos hy, if_neg (by omega), if_neg hx]
    · rw [if_neg hx, if_neg hy]
      simp only [Heap.ins]
      rw [if_neg hy, if_neg hx, ih]

theorem ins_put (X : Nat) (f : List (List V)) (Y r : Nat) (c : List V) (h : X ≠ Y) (L : Heap) : (L.ins X f).put Y r c = (L.put Y r c).ins X f := by
  induction L with
  | nil => simp only [Heap.ins, Heap.put]; rw [if_neg (Ne.symm h)]
  | cons p L ih =>
    obtain ⟨Z, k⟩ := p
    simp only [Heap.ins, Heap.put]
    by_cases hx : Z < X <;> by_cases hy : Y = Z
    · rw [if_pos hx, if_pos hy]
      simp only [Heap.put, Heap.ins]
      rw [if_neg (Ne.symm h), if_pos hy, if_pos hx]
    · rw [if_pos hx, if_neg hy]
      simp only [Heap.put, Heap.ins]
      rw [if_neg (Ne.symm h), if_neg hy, if_pos hx]
    · rw [if_neg hx, if_pos hy]
      simp only [Heap.put, Heap.ins]
      rw [if_pos hy, if_neg hx]
    · rw [if_neg hx, if_neg hy]
      simp only [Heap.put, Heap.ins]
      rw [if_neg hy, if_neg hx, ih]

theorem put_comm (X r : Nat) (c : List V) (Y q : Nat) (d : List V) (h : (X, r) ≠ (Y, q)) (L : Heap) : (L.put X r c).put Y q d = (L.put Y q d).put X r c := by
  induction L with
  | nil => rfl
  | cons p L ih =>
    obtain ⟨Z, k⟩ := p
    simp only [Heap.put]
    by_cases hx : X = Z <;> by_cases hy : Y = Z
    · rw [if_pos hx, if_pos hy]
      simp only [Heap.put]
      rw [if_pos hx, if_pos hy]
      subst hx hy
      have : r ≠ q := fun e => h (by rw [e])
      rw [List.set_comm _ _ this]
    · rw [if_pos hx, if_neg hy]; simp only [Heap.put]; rw [if_neg hy, if_pos hx]
    · rw [if_neg hx, if_pos hy]; simp only [Heap.put]; rw [if_pos hy, if_neg hx]
    · rw [if_neg hx, if_neg hy]; simp only [Heap.put]; rw [if_neg hy, if_neg hx, ih]

/-- The names that a piece reads. -/
def readsOf (ev : Opd → V) (i : Inst) : List (Nat × Nat) := i.places.filterMap fun p => (ev p).name

section
variable {P : Program} {nm : Nat} {ev ev' : Opd → V} {L L' : Heap}

theorem src_get {esz : Nat} {x : V} {new : List V} (h : srcCells L esz x = some new) : (∀ n, x.name = some n → L.get n.1 n.2 ≠ none) ∧ ∀ M : Heap, (∀ n, x.name = some n → M.get n.1 n.2 = L.get n.1 n.2) → srcCells M esz x = some new := by
  cases x with
  | sl X r off k e ver =>
    constructor
    · rintro n hn hg
      cases hn
      simp only [srcCells, hg, reduceCtorEq] at h
    · intro M hM
      have := hM (X, r) rfl
      simp only at this
      simp only [srcCells, this]
      exact h
  | d y => exact ⟨fun n hn => (by cases hn), fun M _ => (by cases y <;> exact h)⟩
  | nil => exact ⟨fun n hn => (by cases hn), fun M _ => h⟩
  | ptr X r off ver => simp [srcCells] at h
  | agg xs => simp [srcCells] at h
  | fn f a b => simp [srcCells] at h
  | tup xs => simp [srcCells] at h
  | any => simp [srcCells] at h

/-- What a piece hangs on, what it makes: of every piece but a call that may change rows. -/
theorem delta (i : Inst) (hk : i.kind ≠ .X) (v : V) (h : Rel P nm i ev L v L') : ∃ δ : Delta, L' = δ.on nm L ∧ (∀ n ∈ readsOf ev i, L.get n.1 n.2 ≠ none) ∧
    (∀ cells, δ = .ins cells → L.fam nm = none) ∧ (∀ X r cells, δ = .put X r cells → (X, r) ∈ readsOf ev i) ∧
    (i.kind = .H ∨ i.kind = .R → δ = .nop) ∧ (i.kind = .A ∨ i.kind = .S → ∀ X r cells, δ ≠ .put X r cells) ∧
    ∀ M : Heap, (∀ n ∈ readsOf ev i, M.get n.1 n.2 = L.get n.1 n.2) → (∀ cells, δ = .ins cells → M.fam nm = none) → (∀ X, X < i.below nm → M.fam X = L.fam X) → Rel P nm i ev M v (δ.on nm M) := by
  cases i with
  | callA f args => exact absurd rfl hk
  | h hi =>
    obtain ⟨u, h1, rfl, rfl⟩ := (hv_iff hi (fun u => u = v ∧ L = L')).1 h
    exact ⟨.nop, rfl, by simp [readsOf, Inst.places], by simp, by simp, by simp, by simp, fun M _ _ _ => (hv_iff hi (fun u' => u' = u ∧ M = M)).2 ⟨_, h1, rfl, rfl⟩⟩
  | callC f args =>
    simp only [Rel, effC] at h
    split at h
    · rename_i hc
      obtain ⟨hb, ⟨r, hcon, rfl, rfl⟩ | ⟨fam, r, hac, hf, rfl, rfl⟩⟩ := h
      · refine ⟨.nop, rfl, by simp [readsOf, Inst.places], by simp, by simp, by simp, by simp, fun M _ _ _ => ?_⟩
        simp only [Rel, effC, hc]; exact ⟨hb, .inl ⟨_, hcon, rfl, rfl⟩⟩
      · refine ⟨.ins (famUp nm fam), rfl, by simp [readsOf, Inst.places], fun _ _ => hf, by simp, by simp [Inst.kind], by simp, fun M _ hM _ => ?_⟩
        simp only [Rel, effC, hc]; exact ⟨hb, .inr ⟨fam, r, hac, hM _ rfl, rfl, rfl⟩⟩
    · exact h.elim
  | callS k f args =>
    simp only [Rel, effC] at h
    split at h
    · rename_i g first cap hc
      have tr : ∀ {M : Heap} {vs us : List V} {A : Prop}, (∀ X, X < nm - k → M.fam X = L.fam X) → SArgs (L.old (nm - k)) vs us A → SArgs (M.old (nm - k)) vs us A := by
        intro M vs us A hM h
        rcases h with h | ⟨h1, h2, h3⟩
        · exact .inl h
        · refine .inr ⟨h1, fun j hj => (h2 j hj).mono fun X r c hX => ?_, h3⟩
          unfold Heap.get at hX ⊢
          rw [old_fam] at hX ⊢
          split at hX
          · rename_i e; rw [if_pos e, hM X e]; exact hX
          · cases hX
      rcases h with ⟨us, r, hsa, hcon, rfl, rfl⟩ | ⟨us, fam, r, hsa, hac, hf, rfl, rfl⟩
      · refine ⟨.nop, rfl, by simp [readsOf, Inst.places], by simp, by simp, by simp, by simp, fun M _ _ hM => ?_⟩
        simp only [Rel, effC, hc]
        exact .inl ⟨us, _, tr hM hsa, hcon, rfl, rfl⟩
      · refine ⟨.ins (famUp nm fam), rfl, by simp [readsOf, Inst.places], fun _ _ => hf, by simp, by simp [Inst.kind], by simp, fun M _ hM2 hM => ?_⟩
        simp only [Rel, effC, hc]
        exact .inr ⟨us, fam, r, tr hM hsa, hac, hM2 _ rfl, rfl, rfl⟩
    · exact h.elim
  | load x n agg =>
    simp only [Rel, effC] at h
    split at h
    · rename_i cells hx
      obtain ⟨hc, rfl, rfl⟩ := h
      refine ⟨.nop, rfl, by simp [readsOf, Inst.places, hx, nm0, nm1, nm2, nm3], by simp, by simp, by simp, by simp, fun M _ _ _ => ?_⟩
      simp only [Rel, effC, hx]; exact ⟨hc, by first | trivial | exact ⟨rfl, rfl⟩ | simp⟩
    · rename_i X r off ver hx
      split at h
      · rename_i cells hg
        obtain ⟨hc, rfl, rfl⟩ := h
        refine ⟨.nop, rfl, by simp [readsOf, Inst.places, hx, nm0, nm1, nm2, nm3, hg], by simp, by simp, by simp, by simp, fun M hM _ _ => ?_⟩
        have := hM (X, r) (by simp [readsOf, Inst.places, hx, nm0, nm1, nm2, nm3])
        simp only [Rel, effC, hx]
        simp only at this
        rw [this, hg]; exact ⟨hc, by first | trivial | exact ⟨rfl, rfl⟩ | simp⟩
      · exact h.elim
    · exact h.elim
  | alloc z el =>
    simp only [Rel, effC] at h
    obtain ⟨hf, hc, rfl, rfl⟩ := h
    exact ⟨.ins [z], rfl, by simp [readsOf, Inst.places], fun _ _ => hf, by simp, by simp [Inst.kind], by simp, fun M _ hM _ => ⟨hM _ rfl, hc, rfl, rfl⟩⟩
  | box x n el =>
    simp only [Rel, effC] at h
    obtain ⟨hf, hc, rfl, rfl⟩ := h
    exact ⟨.ins [cellsOf (ev x)], rfl, by simp [readsOf, Inst.places], fun _ _ => hf, by simp, by simp [Inst.kind], by simp, fun M _ hM _ => ⟨hM _ rfl, hc, rfl, rfl⟩⟩
  | bslice z n esz ps el =>
    simp only [Rel, effC] at h
    split at h
    · rename_i cells hfill
      obtain ⟨hf, hc, rfl, rfl⟩ := h
      refine ⟨.ins [cells], rfl, by simp [readsOf, Inst.places], fun _ _ => hf, by simp, by simp [Inst.kind], by simp, fun M _ hM _ => ?_⟩
      simp only [Rel, effC, hfill]; exact ⟨hM _ rfl, hc, by first | trivial | exact ⟨rfl, rfl⟩ | simp⟩
    · exact h.elim
  | mksl z esz by' n c el =>
    simp only [Rel, effC] at h
    split at h
    · rename_i k p k' q h1 h2
      obtain ⟨hf, hc, rfl, rfl⟩ := h
      refine ⟨.ins [repl p.toNat z], rfl, by simp [readsOf, Inst.places], fun _ _ => hf, by simp, by simp [Inst.kind], by simp, fun M _ hM _ => ?_⟩
      simp only [Rel, effC, h1, h2]; exact ⟨hM _ rfl, hc, by first | trivial | exact ⟨rfl, rfl⟩ | simp⟩
    · exact h.elim
  | store p x n =>
    simp only [Rel, effC] at h
    split at h
    · rename_i X r off ver hx
      split at h
      · rename_i cells hg
        obtain ⟨hc, rfl, rfl⟩ := h
        refine ⟨.put X r (splice cells off (cellsOf (ev x))), rfl, by simp [readsOf, Inst.places, hx, nm0, nm1, nm2, nm3, hg], by simp, ?_, by simp [Inst.kind], by simp [Inst.kind], fun M hM _ _ => ?_⟩
        · rintro _ _ _ ⟨⟩; simp [readsOf, Inst.places, hx, nm0, nm1, nm2, nm3]
        · have := hM (X, r) (by simp [readsOf, Inst.places, hx, nm0, nm1, nm2, nm3])
          simp only [Rel, effC, hx]
          simp only at this
          rw [this, hg]; exact ⟨hc, by first | trivial | exact ⟨rfl, rfl⟩ | simp⟩
      · exact h.elim
    · exact h.elim
  | app t x esz by' =>
    simp only [Rel, effC] at h
    split at h
    · rename_i new hsrc
      obtain ⟨s1, s2⟩ := src_get hsrc
      split at h
      · rename_i ht
        obtain ⟨hf, hc, rfl, rfl⟩ := h
        refine ⟨.ins [new], rfl, ?_, fun _ _ => hf, by simp, by simp [Inst.kind], by simp, fun M hM hM2 _ => ?_⟩
        · intro n hn
          simp [readsOf, Inst.places, ht, nm0, nm1, nm2, nm3] at hn
          exact s1 n hn
        · simp only [Rel, effC]
          rw [s2 M fun n hn => hM n (by simp [readsOf, Inst.places, ht, nm0, nm1, nm2, nm3, hn])]
          simp only [ht]; exact ⟨hM2 _ rfl, hc, by first | trivial | exact ⟨rfl, rfl⟩ | simp⟩
      · rename_i X r off n esz' ver ht
        split at h
        · rename_i cells hg
          obtain ⟨hc, rfl, rfl⟩ := h
          refine ⟨.put X r (cells ++ new), rfl, ?_, by simp, ?_, by simp [Inst.kind], by simp [Inst.kind], fun M hM _ _ => ?_⟩
          · intro n' hn
            simp only [readsOf, Inst.places, List.filterMap_cons, ht, nm0, nm1, nm2, nm3, List.filterMap_nil] at hn
            rcases List.mem_cons.1 hn with rfl | hn
            · simp [hg]
            · cases hxn : (ev x).name with
              | none => rw [hxn] at hn; simp at hn
              | some n'' => rw [hxn] at hn; simp at hn; subst hn; exact s1 _ hxn
          · rintro _ _ _ ⟨⟩; simp [readsOf, Inst.places, ht, nm0, nm1, nm2, nm3]
          · simp only [Rel, effC]
            rw [s2 M fun n hn => hM n (by simp [readsOf, Inst.places, ht, nm0, nm1, nm2, nm3, hn])]
            have := hM (X, r) (by simp [readsOf, Inst.places, ht, nm0, nm1, nm2, nm3])
            simp only at this
            simp only [ht]
            rw [this, hg]; exact ⟨hc, by first | trivial | exact ⟨rfl, rfl⟩ | simp⟩
        · exact h.elim
      · exact h.elim
    · exact h.elim
  | cpy t x esz =>
    simp only [Rel, effC] at h
    split at h
    · rename_i new hsrc
      obtain ⟨s1, s2⟩ := src_get hsrc
      split at h
      · rename_i X r off n esz' ver ht
        split at h
        · rename_i cells hg
          obtain ⟨hc, rfl, rfl⟩ := h
          refine ⟨.put X r (splice cells off (new.take (n * esz))), rfl, ?_, by simp, ?_, by simp [Inst.kind], by simp [Inst.kind], fun M hM _ _ => ?_⟩
          · intro n' hn
            simp only [readsOf, Inst.places, List.filterMap_cons, ht, nm0, nm1, nm2, nm3, List.filterMap_nil] at hn
            rcases List.mem_cons.1 hn with rfl | hn
            · simp [hg]
            · cases hxn : (ev x).name with
              | none => rw [hxn] at hn; simp at hn
              | some n'' => rw [hxn] at hn; simp at hn; subst hn; exact s1 _ hxn
          · rintro _ _ _ ⟨⟩; simp [readsOf, Inst.places, ht, nm0, nm1, nm2, nm3]
          · simp only [Rel, effC]
            rw [s2 M fun n hn => hM n (by simp [readsOf, Inst.places, ht, nm0, nm1, nm2, nm3, hn])]
            have := hM (X, r) (by simp [readsOf, Inst.places, ht, nm0, nm1, nm2, nm3])
            simp only at this
            simp only [ht]
            rw [this, hg]; exact ⟨hc, by first | trivial | exact ⟨rfl, rfl⟩ | simp⟩
        · exact h.elim
      · exact h.elim
    · exact h.elim

/-- May two pieces change places, of which the first one comes first? -/
def kindOk (x y : Kind) : Bool :=
  match x, y with
  | .H, _ | _, .H => true
  | .R, .R | .A, .A | .A, .R | .R, .A | .A, .W | .W, .A => true
  | .S, .S | .S, .A | .A, .S | .S, .R | .R, .S => true
  | _, _ => false

/-- Those that may where they work at places apart. -/
def kindApart (x y : Kind) : Bool :=
  match x, y with
  | .R, .W | .W, .R | .W, .W => true
  | _, _ => false

theorem get_on (δ : Delta) (n : Nat × Nat) (hL : ∀ X r c, δ = .put X r c → L.get X r ≠ none ∧ n ≠ (X, r)) (hi : ∀ c, δ = .ins c → L.fam nm = none ∧ L.get n.1 n.2 ≠ none) : (δ.on nm L).get n.1 n.2 = L.get n.1 n.2 := by
  cases δ with
  | nop => rfl
  | ins c =>
    obtain ⟨h1, h2⟩ := hi c rfl
    simp only [Delta.on, get_insF h1]
    have : n.1 ≠ nm := by rintro e; exact h2 (by rw [e]; exact get_none_of_fam h1)
    rw [if_neg this]
  | put X r c =>
    obtain ⟨h1, h2⟩ := hL X r c rfl
    obtain ⟨old, ho⟩ := Option.ne_none_iff_exists'.1 h1
    simp only [Delta.on, get_put X r c L old ho]
    rw [if_neg]
    rintro ⟨e1, e2⟩
    exact h2 (Prod.ext e1 e2)

theorem reads_none (i : Inst) (h : i.kind = .H ∨ i.kind = .A ∨ i.kind = .S) : readsOf ev i = [] := by
  cases i <;> simp [Inst.kind] at h <;> rfl

theorem kindOk_W {k : Kind} (h : kindOk .W k = true) (h2 : k ≠ .H) : k = .A := by cases k <;> simp_all [kindOk]
theorem kindOk_W' {k : Kind} (h : kindOk k .W = true) (h2 : k ≠ .H) : k = .A := by cases k <;> simp_all [kindOk]
theorem kind_X1 {k : Kind} (h : kindOk .X k = true) : k = .H := by cases k <;> simp_all [kindOk]
theorem kind_X2 {k : Kind} (h : kindOk k .X = true) : k = .H := by cases k <;> simp_all [kindOk]
theorem kind_X3 {k : Kind} (h : kindApart .X k = true) : False := by cases k <;> simp_all [kindApart]
theorem kind_X4 {k : Kind} (h : kindApart k .X = true) : False := by cases k <;> simp_all [kindApart]

theorem swap {nx ny : Nat} (x y : Inst) (hn : nx ≠ ny) (hbx : y.below ny ≤ nx) (hby : x.below nx ≤ ny) (hok : kindOk x.kind y.kind = true ∨ (kindApart x.kind y.kind = true ∧ ∀ n ∈ readsOf ev x, ∀ k ∈ readsOf ev y, n ≠ k))
    (hlive : ∀ n ∈ readsOf ev y, L.get n.1 n.2 ≠ none) {vx vy : V} {L1 L2 : Heap} (h1 : Rel P nx x ev L vx L1) (h2 : Rel P ny y ev L1 vy L2) :
    ∃ M, Rel P ny y ev L vy M ∧ Rel P nx x ev M vx L2 := by
  by_cases hx : x.kind = .H
  · obtain ⟨δ, rfl, _, _, _, hd, _, hall⟩ := delta x (by simp [hx]) vx h1
    obtain rfl := hd (.inl hx)
    exact ⟨L2, h2, hall L2 (by rw [reads_none x (.inl hx)]; simp) (by simp) (fun X hX => by cases x <;> simp [Inst.kind] at hx; simp [Inst.below] at hX)⟩
  by_cases hy : y.kind = .H
  · obtain ⟨δ, rfl, _, _, _, hd, _, hall⟩ := delta y (by simp [hy]) vy h2
    obtain rfl := hd (.inl hy)
    exact ⟨L, hall L (by rw [reads_none y (.inl hy)]; simp) (by simp) (fun X hX => by cases y <;> simp [Inst.kind] at hy; simp [Inst.below] at hX), h1⟩
  have hxX : x.kind ≠ .X := by
    intro e; rcases hok with h | ⟨h, _⟩
    · rw [e] at h; exact hy (kind_X1 h)
    · rw [e] at h; exact kind_X3 h
  have hyX : y.kind ≠ .X := by
    intro e; rcases hok with h | ⟨h, _⟩
    · rw [e] at h; exact hx (kind_X2 h)
    · rw [e] at h; exact kind_X4 h
  obtain ⟨δ, rfl, hl1, hi1, hp1, hr1, ha1, all1⟩ := delta x hxX vx h1
  obtain ⟨γ, rfl, hl2, hi2, hp2, hr2, ha2, all2⟩ := delta y hyX vy h2
  -- a row that one of both writes is none that the other one reads
  have apart1 : ∀ X r c, δ = .put X r c → ∀ k ∈ readsOf ev y, k ≠ (X, r) := by
    intro X r c e k hk
    rcases hok with h | ⟨_, h⟩
    · have hw : x.kind = .W := by
        cases hkx : x.kind with
        | H => exact absurd hkx hx
        | R => have := hr1 (.inr hkx); rw [this] at e; cases e
        | A => exact absurd e (ha1 (.inl hkx) X r c)
        | S => exact absurd e (ha1 (.inr hkx) X r c)
        | W => rfl
        | X => exact absurd hkx hxX
      rw [hw] at h
      rw [reads_none y (.inr (.inl (kindOk_W h hy)))] at hk
      cases hk
    · exact (h _ (hp1 X r c e) k hk).symm
  have apart2 : ∀ X r c, γ = .put X r c → ∀ k ∈ readsOf ev x, k ≠ (X, r) := by
    intro X r c e k hk
    rcases hok with h | ⟨_, h⟩
    · have hw : y.kind = .W := by
        cases hky : y.kind with
        | H => exact absurd hky hy
        | R => have := hr2 (.inr hky); rw [this] at e; cases e
        | A => exact absurd e (ha2 (.inl hky) X r c)
        | S => exact absurd e (ha2 (.inr hky) X r c)
        | W => rfl
        | X => exact absurd hky hyX
      rw [hw] at h
      rw [reads_none x (.inr (.inl (kindOk_W' h hx)))] at hk
      cases hk
    · exact h k hk _ (hp2 X r c e)
  have keep1 : ∀ n ∈ readsOf ev y, (δ.on nx L).get n.1 n.2 = L.get n.1 n.2 := fun n hn' =>
    get_on δ n (fun X r c e => ⟨hl1 _ (hp1 X r c e), apart1 X r c e n hn'⟩) fun c e => ⟨hi1 c e, hlive n hn'⟩
  have famL : ∀ c, γ = .ins c → L.fam ny = none := by
    intro c e
    have := hi2 c e
    cases δ with
    | nop => exact this
    | ins d => simp only [Delta.on] at this; rw [fam_ins nx d L (hi1 d rfl)] at this; split at this <;> simp_all
    | put X r d => exact (fam_put X r d L ny).1 this
  -- a call that leans on rows of old: nothing of them is turned
  have oldL : ∀ X, X < y.below ny → L.fam X = (δ.on nx L).fam X := by
    intro X hX
    have hky : y.kind = .S := by cases y <;> simp [Inst.below] at hX; rfl
    cases δ with
    | nop => rfl
    | ins d => simp only [Delta.on]; rw [fam_ins nx d L (hi1 d rfl), if_neg (by omega)]
    | put X' r d =>
      exfalso
      have hkx : x.kind = .W := by
        cases hkx : x.kind with
        | H => exact absurd hkx hx
        | R => have := hr1 (.inr hkx); cases this
        | A => exact absurd rfl (ha1 (.inl hkx) X' r d)
        | S => exact absurd rfl (ha1 (.inr hkx) X' r d)
        | W => rfl
        | X => exact absurd hkx hxX
      rcases hok with h | ⟨h, _⟩ <;> rw [hkx, hky] at h <;> cases h
  refine ⟨γ.on ny L, all2 L (fun n hn' => (keep1 n hn').symm) famL oldL, ?_⟩
  have famM : ∀ c, δ = .ins c → (γ.on ny L).fam nx = none := by
    intro c e
    have h0 := hi1 c e
    cases γ with
    | nop => exact h0
    | ins d => simp only [Delta.on]; rw [fam_ins ny d L (famL d rfl), if_neg hn]; exact h0
    | put X r d => exact (fam_put X r d L nx).2 h0
  have keep2 : ∀ n ∈ readsOf ev x, (γ.on ny L).get n.1 n.2 = L.get n.1 n.2 := fun n hn' =>
    get_on γ n (fun X r c e => ⟨hlive _ (hp2 X r c e), apart2 X r c e n hn'⟩) fun c e => ⟨famL c e, hl1 n hn'⟩
  have oldM : ∀ X, X < x.below nx → (γ.on ny L).fam X = L.fam X := by
    intro X hX
    have hkx : x.kind = .S := by cases x <;> simp [Inst.below] at hX; rfl
    cases γ with
    | nop => rfl
    | ins d => simp only [Delta.on]; rw [fam_ins ny d L (famL d rfl), if_neg (by omega)]
    | put X' r d =>
      exfalso
      have hky : y.kind = .W := by
        cases hky : y.kind with
        | H => exact absurd hky hy
        | R => have := hr2 (.inr hky); cases this
        | A => exact absurd rfl (ha2 (.inl hky) X' r d)
        | S => exact absurd rfl (ha2 (.inr hky) X' r d)
        | W => rfl
        | X => exact absurd hky hyX
      rcases hok with h | ⟨h, _⟩ <;> rw [hkx, hky] at h <;> cases h
  have := all1 (γ.on ny L) keep2 famM oldM
  have comm : δ.on nx (γ.on ny L) = γ.on ny (δ.on nx L) := by
    cases δ with
    | nop => rfl
    | ins c =>
      cases γ with
      | nop => rfl
      | ins d => exact ins_comm ny nx d c (Ne.symm hn) L
      | put X r d =>
        simp only [Delta.on]
        have hne : nx ≠ X := by
          rintro rfl
          have h0 := hlive _ (hp2 nx r d rfl)
          exact h0 (get_none_of_fam (hi1 c rfl))
        exact (ins_put nx c X r d hne L).symm
    | put X r c =>
      cases γ with
      | nop => rfl
      | ins d =>
        simp only [Delta.on]
        have hne : ny ≠ X := by
          rintro rfl
          exact hl1 _ (hp1 ny r c rfl) (get_none_of_fam (famL d rfl))
        exact ins_put ny d X r c hne L
      | put Y q d =>
        simp only [Delta.on]
        exact put_comm Y q d X r c (apart1 X r c rfl _ (hp2 Y q d rfl)) L
  rw [comm] at this
  exact this

end
end Go.Ab
