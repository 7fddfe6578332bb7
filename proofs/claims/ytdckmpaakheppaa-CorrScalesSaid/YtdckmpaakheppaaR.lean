/- A region's pieces, in whatever order. -/
import Derived.Test.YtdckmpaakheppaaQ
namespace Go.Ab
set_option linter.unusedSimpArgs false
set_option linter.unusedVariables false
open Go

def Opd.slot : Opd → List Nat
  | .t i => [i]
  | .k _ => []

def II.reads (x : II) : List Nat := x.i.opds.flatMap Opd.slot ++ x.g.toList.map (·.1) ++ (x.bs ++ x.ind).flatMap Opd.slot

/-- Does the guard let it run? -/
def II.runs (x : II) (s : S) : Option Bool :=
  match x.g with
  | none => some true
  | some (j, want) => match s.sl.getD j .any with
    | .d (.bool b) => some (b == want)
    | .tup [] => some false
    | _ => none

section
variable {P : Program} {base : Nat}

/-- A piece from a state to a state. -/
def StepRel (P : Program) (base : Nat) (x : II) (s t : S) : Prop :=
  (x.runs s = some true ∧ ((∀ q ∈ x.bs.zip x.i.places, (s.ev q.1).name = (s.ev q.2).name) ∧ ∀ o ∈ x.ind, ∀ p ∈ x.i.places, Apart (s.ev o) (s.ev p)) ∧ ∃ v, Rel P (base + x.k) x.i s.ev s.L v t.L ∧ t.sl = putSl s.sl x.dst v) ∨
  (x.runs s = some false ∧ t = ⟨putSl s.sl x.dst .und, s.L⟩)

theorem step_iff (x : II) (s : S) (K : S → Prop) : step P base x s K ↔ ∃ t, StepRel P base x s t ∧ K t := by
  have run : x.runs s = some true → ((((∀ q ∈ x.bs.zip x.i.places, (s.ev q.1).name = (s.ev q.2).name) ∧ ∀ o ∈ x.ind, ∀ p ∈ x.i.places, Apart (s.ev o) (s.ev p)) ∧ eff P (base + x.k) x.i s fun v L => K ⟨putSl s.sl x.dst v, L⟩) ↔ ∃ t, StepRel P base x s t ∧ K t) := by
    intro hr
    constructor
    · rintro ⟨ha, he⟩
      obtain ⟨v, L', h1, h2⟩ := (eff_iff x.i _).1 he
      exact ⟨⟨putSl s.sl x.dst v, L'⟩, .inl ⟨hr, ha, v, h1, rfl⟩, h2⟩
    · rintro ⟨t, h | h, hk⟩
      · obtain ⟨_, ha, v, h1, h2⟩ := h
        refine ⟨ha, (eff_iff x.i _).2 ⟨v, t.L, h1, ?_⟩⟩
        rw [← h2]; exact hk
      · rw [hr] at h; exact absurd h.1 (by simp)
  have skip : x.runs s = some false → (K ⟨putSl s.sl x.dst .und, s.L⟩ ↔ ∃ t, StepRel P base x s t ∧ K t) := by
    intro hr
    constructor
    · intro hk; exact ⟨_, .inr ⟨hr, rfl⟩, hk⟩
    · rintro ⟨t, h | h, hk⟩
      · rw [hr] at h; exact absurd h.1 (by simp)
      · rw [h.2] at hk; exact hk
  unfold step
  split
  · rename_i hg; exact run (by simp [II.runs, hg])
  · rename_i j want hg
    split
    · rename_i b hb
      split
      · rename_i e; subst e; exact run (by simp only [II.runs, hg, hb]; simp)
      · rename_i e; exact skip (by simp only [II.runs, hg, hb]; simp [e])
    · rename_i hb; exact skip (by simp only [II.runs, hg, hb])
    · rename_i hb
      have hr : x.runs s = none := by
        simp only [II.runs, hg]
      constructor
      · exact False.elim
      · rintro ⟨t, h | h, _⟩ <;> rw [hr] at h <;> exact absurd h.1 (by simp)

def slotsOk (x y : II) : Bool :=
  (match x.dst with
    | some d => !y.reads.contains d && y.dst != some d
    | none => true) &&
  (match y.dst with
    | some d => !x.reads.contains d
    | none => true)

def Opd.isSlot : Opd → Nat → Bool
  | .t i, j => i == j
  | .k _, _ => false

/-- A call's own number. -/
def II.kOk (x : II) : Bool := match x.i with
  | .callS k _ _ => k == x.k
  | _ => true
theorem II.below_base {base : Nat} (x : II) (h : x.kOk = true) : x.i.below (base + x.k) ≤ base := by
  unfold II.kOk at h
  unfold Inst.below
  split
  · rename_i k f args e
    rw [e] at h
    have : k = x.k := by simpa using h
    omega
  · omega
/-- Where x works is known by slots that y is apart from. -/
def asideB (x y : II) : Bool :=
  x.bs.length == x.i.places.length && x.bs.all fun p => match p with
      | .t i => y.ind.any (·.isSlot i)
      | .k v => v.isD
/-- y may come ahead of x. -/
def commB (x y : II) : Bool :=
  x.k != y.k && slotsOk x y && (x.kOk && y.kOk) && (kindOk x.i.kind y.i.kind ||
    (kindApart x.i.kind y.i.kind && (asideB x y || asideB y x)))

theorem ev_put {sl : List V} {L M : Heap} {dst : Option Nat} {v : V} {o : Opd} (h : ∀ d, dst = some d → d ∉ o.slot) : S.ev ⟨putSl sl dst v, M⟩ o = S.ev ⟨sl, L⟩ o := by
  cases o with
  | k c => rfl
  | t i =>
    simp only [S.ev]
    cases dst with
    | none => rfl
    | some d =>
      have : d ≠ i := by intro e; exact h d rfl (by simp [Opd.slot, e])
      simp [putSl, List.getD_eq_getElem?_getD, this]

theorem mem_reads_opd {x : II} {o : Opd} (h : o ∈ x.i.opds) {d : Nat} (hd : d ∈ o.slot) : d ∈ x.reads := by
  simp only [II.reads, List.mem_append, List.mem_flatMap]; exact .inl (.inl ⟨o, h, hd⟩)
theorem mem_reads_ind {x : II} {o : Opd} (h : o ∈ x.bs ++ x.ind) {d : Nat} (hd : d ∈ o.slot) : d ∈ x.reads := by
  simp only [II.reads, List.mem_append, List.mem_flatMap]; exact .inr ⟨o, List.mem_append.1 h, hd⟩
theorem places_opds {i : Inst} {p : Opd} (h : p ∈ i.places) : p ∈ i.opds := by
  cases i <;> simp [Inst.places, Inst.opds] at h ⊢ <;> simp_all

/-- What a piece reads is not turned by a write to a slot that it does not read. -/
theorem evs_put {y : II} {s t : S} {dst : Option Nat} {v : V} (ht : t.sl = putSl s.sl dst v) (h : ∀ d, dst = some d → d ∉ y.reads) :
    y.runs t = y.runs s ∧ (∀ o ∈ y.i.opds, t.ev o = s.ev o) ∧ ∀ o ∈ y.bs ++ y.ind, t.ev o = s.ev o := by
  obtain ⟨tsl, tL⟩ := t
  simp only at ht
  subst ht
  refine ⟨?_, fun o ho => ev_put (L := s.L) fun d hd hm => h d hd (mem_reads_opd ho hm), fun o ho => ev_put (L := s.L) fun d hd hm => h d hd (mem_reads_ind ho hm)⟩
  unfold II.runs
  cases hg : y.g with
  | none => rfl
  | some p =>
    obtain ⟨j, want⟩ := p
    have hj : ∀ d, dst = some d → d ≠ j := by
      intro d hd e
      subst e
      exact h d hd (by simp [II.reads, hg])
    have e : (putSl s.sl dst v).getD j .any = s.sl.getD j .any := by
      cases dst with
      | none => rfl
      | some d => have := hj d rfl; simp [putSl, List.getD_eq_getElem?_getD, this]
    simp only [e]

/-- What y reads of rows is there. -/
def Live (s : S) (y : II) : Prop := y.runs s = some true → ∀ n ∈ readsOf s.ev y.i, s.L.get n.1 n.2 ≠ none

theorem reads_congr {ev ev' : Opd → V} {i : Inst} (h : ∀ o ∈ i.opds, ev o = ev' o) : readsOf ev i = readsOf ev' i := by
  unfold readsOf
  have : ∀ l : List Opd, (∀ p ∈ l, ev p = ev' p) → l.filterMap (fun p => (ev p).name) = l.filterMap fun p => (ev' p).name := by
    intro l
    induction l with
    | nil => intro _; rfl
    | cons p l ih => intro hl; rw [List.filterMap_cons, List.filterMap_cons, hl p (by simp), ih fun q hq => hl q (by simp [hq])]
  exact this _ fun p hp => h p (places_opds hp)

theorem apart_name {v u : V} (h : Apart v u) {n k : Nat × Nat} (hn : v.name = some n) (hk : u.name = some k) : n ≠ k := by
  rintro rfl
  cases v <;> simp [V.name] at hn <;> cases u <;> simp [V.name] at hk <;> simp [Apart] at h <;> (obtain ⟨rfl⟩ := hn; simp at hk; simp_all)

theorem aside_apart {x y : II} {s : S} (h : asideB x y = true) (h1 : ∀ q ∈ x.bs.zip x.i.places, (s.ev q.1).name = (s.ev q.2).name) (h2 : ∀ o ∈ y.ind, ∀ p ∈ y.i.places, Apart (s.ev o) (s.ev p)) {n k : Nat × Nat}
    (hn : n ∈ readsOf s.ev x.i) (hk' : k ∈ readsOf s.ev y.i) : n ≠ k := by
  unfold asideB at h
  rw [Bool.and_eq_true] at h
  obtain ⟨hlen, h4⟩ := h
  simp only [readsOf, List.mem_filterMap] at hn hk'
  obtain ⟨p0, hp0, hpn0⟩ := hn
  obtain ⟨q, hq, hqk⟩ := hk'
  obtain ⟨j, hj, rfl⟩ := List.mem_iff_getElem.1 hp0
  have hjb : j < x.bs.length := by have : x.bs.length = x.i.places.length := by simpa using hlen
                                   omega
  have hz : (x.bs[j], x.i.places[j]) ∈ x.bs.zip x.i.places := by
    rw [List.mem_iff_getElem]
    exact ⟨j, by simp; omega, by simp⟩
  have hpn : (s.ev x.bs[j]).name = some n := by rw [h1 _ hz]; exact hpn0
  have hp : x.bs[j] ∈ x.bs := List.getElem_mem hjb
  generalize x.bs[j] = p at hpn hp
  have hp' := List.all_eq_true.1 h4 p hp
  cases p with
  | k c =>
    simp only [S.ev] at hpn
    cases c <;> simp [V.name] at hpn <;> simp [V.isD] at hp'
  | t i =>
    simp only [List.any_eq_true] at hp'
    obtain ⟨o, ho, hoi⟩ := hp'
    cases o with
    | k c => simp [Opd.isSlot] at hoi
    | t j =>
      have : j = i := by simpa [Opd.isSlot] using hoi
      subst this
      exact apart_name (h2 _ ho q hq) hpn hqk

theorem putSl_comm {sl : List V} {a b : Option Nat} (h : ∀ d, a = some d → b ≠ some d) (u v : V) : putSl (putSl sl a u) b v = putSl (putSl sl b v) a u := by
  cases a with
  | none => rfl
  | some d =>
    cases b with
    | none => rfl
    | some e =>
      have : d ≠ e := by rintro rfl; exact h d rfl rfl
      simp only [putSl]; exact List.set_comm _ _ this

theorem swapStep {x y : II} {s t u : S} (hc : commB x y = true) (hl : Live s y) (h1 : StepRel P base x s t) (h2 : StepRel P base y t u) :
    ∃ t', StepRel P base y s t' ∧ StepRel P base x t' u := by
  simp only [commB, Bool.and_eq_true, bne_iff_ne, ne_eq] at hc
  obtain ⟨⟨⟨hk, hs⟩, hxk, hyk⟩, hkind⟩ := hc
  simp only [slotsOk, Bool.and_eq_true] at hs
  have hxy : ∀ d, x.dst = some d → d ∉ y.reads ∧ y.dst ≠ some d := by
    intro d hd
    have := hs.1
    rw [hd] at this
    simp at this
    exact this
  have hyx : ∀ d, y.dst = some d → d ∉ x.reads := by
    intro d hd
    have := hs.2
    rw [hd] at this
    simpa using this
  obtain ⟨vx, ht⟩ : ∃ v, t.sl = putSl s.sl x.dst v := by
    rcases h1 with ⟨_, _, v, _, h⟩ | ⟨_, h⟩
    · exact ⟨v, h⟩
    · exact ⟨.und, by rw [h]⟩
  obtain ⟨r1, r2, r3⟩ := evs_put (y := y) ht fun d hd => (hxy d hd).1
  -- what y does at t, it does at s
  have back : ∀ (v : V) (M : Heap), x.runs (⟨putSl s.sl y.dst v, M⟩ : S) = x.runs s ∧ (∀ o ∈ x.i.opds, S.ev ⟨putSl s.sl y.dst v, M⟩ o = s.ev o) ∧ ∀ o ∈ x.bs ++ x.ind, S.ev ⟨putSl s.sl y.dst v, M⟩ o = s.ev o :=
    fun v M => evs_put (t := ⟨putSl s.sl y.dst v, M⟩) rfl hyx
  rcases h2 with ⟨hr2, ha2, vy, he2, hu⟩ | ⟨hr2, rfl⟩
  · have he2' : Rel P (base + y.k) y.i s.ev t.L vy u.L := by
      have := eff_congr (P := P) (nm := base + y.k) (L := t.L) y.i (fun a N => a = vy ∧ N = u.L) r2
      unfold Rel at he2 ⊢; rw [← this]; exact he2
    have ha2' : (∀ q ∈ y.bs.zip y.i.places, (s.ev q.1).name = (s.ev q.2).name) ∧ ∀ o ∈ y.ind, ∀ p ∈ y.i.places, Apart (s.ev o) (s.ev p) := by
      refine ⟨fun q hq => ?_, fun o ho p hp => ?_⟩
      · have := ha2.1 q hq
        have hm := List.of_mem_zip (a := q.1) (b := q.2) hq
        rwa [r3 q.1 (by simp [hm.1]), r2 q.2 (places_opds hm.2)] at this
      · have := ha2.2 o ho p hp
        rwa [r3 o (by simp [ho]), r2 p (places_opds hp)] at this
    rcases h1 with ⟨hr1, ha1, vx', he1, ht'⟩ | ⟨hr1, htt⟩
    · have hok : kindOk x.i.kind y.i.kind = true ∨ (kindApart x.i.kind y.i.kind = true ∧ ∀ n ∈ readsOf s.ev x.i, ∀ k ∈ readsOf s.ev y.i, n ≠ k) := by
        rcases Bool.or_eq_true _ _ ▸ hkind with h | h
        · exact .inl h
        · rw [Bool.and_eq_true] at h
          obtain ⟨h3, h4⟩ := h
          refine .inr ⟨h3, fun n hn k hk' => ?_⟩
          rcases Bool.or_eq_true _ _ ▸ h4 with h4 | h4
          · exact aside_apart h4 ha1.1 ha2'.2 hn hk'
          · exact (aside_apart h4 ha2'.1 ha1.2 hk' hn).symm
      obtain ⟨M, m1, m2⟩ := swap (nx := base + x.k) (ny := base + y.k) x.i y.i (by omega) (by have := y.below_base (base := base) hyk; omega) (by have := x.below_base (base := base) hxk; omega) hok (hl (by rw [← r1]; exact hr2)) he1 he2'
      obtain ⟨b1, b2, b3⟩ := back vy M
      refine ⟨⟨putSl s.sl y.dst vy, M⟩, .inl ⟨by rw [← r1]; exact hr2, ha2', vy, m1, rfl⟩, .inl ⟨by rw [b1]; exact hr1, ⟨fun q hq => ?_, fun o ho p hp => ?_⟩, vx', ?_, ?_⟩⟩
      · have hmz := List.of_mem_zip (a := q.1) (b := q.2) hq
        rw [b3 q.1 (by simp [hmz.1]), b2 q.2 (places_opds hmz.2)]; exact ha1.1 q hq
      · rw [b3 o (by simp [ho]), b2 p (places_opds hp)]; exact ha1.2 o ho p hp
      · have := eff_congr (P := P) (nm := base + x.k) (L := M) x.i (fun a N => a = vx' ∧ N = u.L) b2
        unfold Rel at m2 ⊢; rw [this]; exact m2
      · rw [hu, ht']; exact putSl_comm (fun d hd => (hxy d hd).2) _ _
    · have htL : t.L = s.L := by rw [htt]
      obtain ⟨b1, b2, b3⟩ := back vy u.L
      refine ⟨⟨putSl s.sl y.dst vy, u.L⟩, .inl ⟨by rw [← r1]; exact hr2, ha2', vy, by rw [htL] at he2'; exact he2', rfl⟩, .inr ⟨by rw [b1]; exact hr1, ?_⟩⟩
      obtain ⟨usl, uL⟩ := u
      simp only at hu ⊢
      rw [hu, htt]
      congr 1
      exact putSl_comm (fun d hd => (hxy d hd).2) _ _
  · rcases h1 with ⟨hr1, ha1, vx', he1, ht'⟩ | ⟨hr1, rfl⟩
    · obtain ⟨b1, b2, b3⟩ := back .und s.L
      refine ⟨⟨putSl s.sl y.dst .und, s.L⟩, .inr ⟨by rw [← r1]; exact hr2, rfl⟩, .inl ⟨by rw [b1]; exact hr1, ⟨fun q hq => ?_, fun o ho p hp => ?_⟩, vx', ?_, ?_⟩⟩
      · have hmz := List.of_mem_zip (a := q.1) (b := q.2) hq
        rw [b3 q.1 (by simp [hmz.1]), b2 q.2 (places_opds hmz.2)]; exact ha1.1 q hq
      · rw [b3 o (by simp [ho]), b2 p (places_opds hp)]; exact ha1.2 o ho p hp
      · have := eff_congr (P := P) (nm := base + x.k) (L := s.L) x.i (fun a N => a = vx' ∧ N = t.L) b2
        unfold Rel at he1 ⊢; rw [this]; exact he1
      · simp only; rw [ht']; exact putSl_comm (fun d hd => (hxy d hd).2) _ _
    · obtain ⟨b1, b2, b3⟩ := back .und s.L
      refine ⟨⟨putSl s.sl y.dst .und, s.L⟩, .inr ⟨by rw [← r1]; exact hr2, rfl⟩, .inr ⟨by rw [b1]; exact hr1, ?_⟩⟩
      congr 1
      exact putSl_comm (fun d hd => (hxy d hd).2) _ _

theorem live_step {x y : II} {s t : S} (hc : commB x y = true) (hl : Live s y) (h : StepRel P base x s t) : Live t y := by
  intro hr n hn
  have hc' := hc
  simp only [commB, Bool.and_eq_true, bne_iff_ne, ne_eq] at hc
  obtain ⟨⟨⟨hk, hs⟩, hxk, hyk⟩, hkind⟩ := hc
  simp only [slotsOk, Bool.and_eq_true] at hs
  have hxy : ∀ d, x.dst = some d → d ∉ y.reads := by
    intro d hd
    have := hs.1
    rw [hd] at this
    simp at this
    exact this.1
  obtain ⟨vx, ht⟩ : ∃ v, t.sl = putSl s.sl x.dst v := by
    rcases h with ⟨_, _, v, _, h⟩ | ⟨_, h⟩
    · exact ⟨v, h⟩
    · exact ⟨.und, by rw [h]⟩
  obtain ⟨r1, r2, r3⟩ := evs_put (y := y) ht hxy
  rw [reads_congr r2] at hn
  rw [r1] at hr
  have h0 := hl hr n hn
  rcases h with ⟨_, _, v, he, _⟩ | ⟨_, h⟩
  · by_cases hX : x.i.kind = .X
    · have hy : y.i.kind = .H := by
        rcases Bool.or_eq_true _ _ ▸ hkind with h | h
        · rw [hX] at h; exact kind_X1 h
        · rw [Bool.and_eq_true, hX] at h; exact (kind_X3 h.1).elim
      rw [reads_none _ (.inl hy)] at hn; cases hn
    · obtain ⟨δ, hL, hd1, hd2, hd3, _⟩ := delta x.i hX v he
      rw [hL]
      cases δ with
      | nop => exact h0
      | ins c =>
        simp only [Delta.on, get_insF (hd2 c rfl)]
        have : n.1 ≠ base + x.k := by rintro e; exact h0 (by rw [e]; exact get_none_of_fam (hd2 c rfl))
        rw [if_neg this]; exact h0
      | put X r c =>
        obtain ⟨old, ho⟩ := Option.ne_none_iff_exists'.1 (hd1 _ (hd3 X r c rfl))
        simp only [Delta.on, get_put X r c s.L old ho]
        split
        · simp
        · exact h0
  · rw [h]; exact h0

theorem wpI_mono {K K' : S → Prop} (h : ∀ s, K s → K' s) : ∀ (l : List II) (s : S), wpI P base l K s → wpI P base l K' s := by
  intro l
  induction l with
  | nil => intro s hs; exact h s hs
  | cons x l ih =>
    intro s hs
    simp only [wpI, step_iff] at hs ⊢
    obtain ⟨t, h1, h2⟩ := hs
    exact ⟨t, h1, ih t h2⟩

/-- A piece that may come ahead of all that stand ahead of it may come first. -/
theorem bubble {K : S → Prop} (y : II) (β : List II) : ∀ (α : List II) (s : S), (∀ x ∈ α, commB x y = true) → Live s y → wpI P base (α ++ y :: β) K s → step P base y s fun t => wpI P base (α ++ β) K t := by
  intro α
  induction α with
  | nil => intro s _ _ h; exact h
  | cons x α ih =>
    intro s hc hl h
    simp only [List.cons_append, wpI] at h
    obtain ⟨t, h1, h2⟩ := (step_iff x s _).1 h
    have hxy := hc x (by simp)
    have h3 := ih t (fun x' hx' => hc x' (by simp [hx'])) (live_step hxy hl h1) h2
    obtain ⟨u, h4, h5⟩ := (step_iff y t _).1 h3
    obtain ⟨t', h6, h7⟩ := swapStep hxy hl h1 h4
    refine (step_iff y s _).2 ⟨t', h6, ?_⟩
    simp only [List.cons_append, wpI]
    exact (step_iff x t' _).2 ⟨u, h7, h5⟩

end
end Go.Ab
