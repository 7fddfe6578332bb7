/- Code with what is known of its slots: a short list; what is no longer used is let go at each region's end. -/
import Derived.Test.YtdckmpaakheppaaY
namespace Go.Ab
set_option linter.unusedSimpArgs false
set_option linter.unusedVariables false
open Go

/-- What is known of the slots. -/
abbrev Sl := List (Nat × V)
def look : Sl → Nat → V
  | [], _ => .any
  | (j, v) :: r, i => if i = j then v else look r i
def build (nt : Nat) (as : Sl) : List V := (List.range nt).map (look as)

structure T where
  sl : Sl
  L : Heap

def xev (as : Sl) : Opd → V
  | .t i => look as i
  | .k v => v

/-- Code, live slots told at each region's end. -/
inductive CA where
  | skip
  | reg (l : List II) (live : List Nat)
  | seq (a b : CA)
  | cond (o : Opd) (a b : CA)
  | block (id : Nat) (c : CA)
  | loop (c : CA)
  | exit (id : Nat)
  | ret

def CA.strip : CA → C
  | .skip => .skip
  | .reg l _ => .reg l
  | .seq a b => .seq a.strip b.strip
  | .cond o a b => .cond o a.strip b.strip
  | .block id c => .block id c.strip
  | .loop c => .loop c.strip
  | .exit id => .exit id
  | .ret => .ret

def putT (dst : Option Nat) (as : Sl) (Q : T → Prop) (v : V) (L : Heap) : Prop :=
  match dst with
  | some d => Q ⟨(d, v) :: as, L⟩
  | none => Q ⟨as, L⟩

def atL (K : V → Heap → Prop) (L : Heap) (v : V) : Prop := K v L

def callG (P : Program) (g : FuncId) (vs : List V) (L : Heap) (K : V → Heap → Prop) : Prop := ∃ L' r, AC P g vs L L' r ∧ K r L'
def callCG (P : Program) (nm : Nat) (g : FuncId) (vs : List V) (L : Heap) (K : V → Heap → Prop) : Prop := vs.all V.bareB = true ∧ ((∃ r, Con P g vs r ∧ K r L) ∨
  ∃ fam r, AC P g vs [] [(0, fam)] r ∧ L.fam nm = none ∧ K (r.ren (toF nm)) (L.ins nm (famUp nm fam)))

def callX (P : Program) (c : Option (FuncId × List V × List V)) (args : List V) (L : Heap) (K : V → Heap → Prop) : Prop :=
  match c with
  | some (g, first, cap) => callG P g (first ++ args ++ cap) L K
  | none => False
def callCX (P : Program) (nm : Nat) (c : Option (FuncId × List V × List V)) (args : List V) (L : Heap) (K : V → Heap → Prop) : Prop :=
  match c with
  | some (g, first, cap) => callCG P nm g (first ++ args ++ cap) L K
  | none => False

def callSX (P : Program) (nm k : Nat) (c : Option (FuncId × List V × List V)) (args : List V) (L : Heap) (K : V → Heap → Prop) : Prop :=
  match c with
  | some (g, first, cap) => CallS P nm k g (first ++ args ++ cap) L K
  | none => False

def condG (b : Bool) (A B : T → Prop) (s : T) : Prop := (b = true → A s) ∧ (b = false → B s)
def pickG (b : Bool) (K : V → Prop) (x y : V) : Prop := (b = true → K x) ∧ (b = false → K y)

def pickX (c : V) (K : V → Prop) (x y : V) : Prop :=
  match c with
  | .d (.bool t) => pickG t K x y
  | _ => False

def xhv (i : HI) (ev : Opd → V) (K : V → Prop) : Prop :=
  match i with
  | .pick c a b => pickX (ev c) K (ev a) (ev b)
  | i => hv i ev K

def xeff (P : Program) (nm : Nat) (i : Inst) (as : Sl) (L : Heap) (K : V → Heap → Prop) : Prop :=
  match i with
  | .h i => xhv i (xev as) (atL K L)
  | .callC f args => callCX P nm (callee (xev as f)) (args.map (xev as)) L K
  | .callS k f args => callSX P nm k (callee (xev as f)) (args.map (xev as)) L K
  | .callA f args => callX P (callee (xev as f)) (args.map (xev as)) L K
  | i => effC P nm i (xev as) L K

def sides (as : Sl) (bs ind : List Opd) (pl : List Opd) : Prop :=
  (∀ q ∈ bs.zip pl, (xev as q.1).name = (xev as q.2).name) ∧ ∀ o ∈ ind, ∀ p ∈ pl, Apart (xev as o) (xev as p)

def sideG (as : Sl) (bs ind : List Opd) (i : Inst) (A : Prop) : Prop :=
  match bs, ind with
  | [], [] => A
  | _, _ => sides as bs ind i.places ∧ A

def guardX (c : V) (want : Bool) (A : Prop) (B : Prop) : Prop :=
  match c with
  | .d (.bool b) => if b = want then A else B
  | .tup [] => B
  | _ => False

def xstep (P : Program) (base : Nat) (ii : II) (s : T) (Q : T → Prop) : Prop :=
  match ii.g with
  | none => sideG s.sl ii.bs ii.ind ii.i (xeff P (base + ii.k) ii.i s.sl s.L (putT ii.dst s.sl Q))
  | some (j, want) => guardX (look s.sl j) want (sideG s.sl ii.bs ii.ind ii.i (xeff P (base + ii.k) ii.i s.sl s.L (putT ii.dst s.sl Q))) (putT ii.dst s.sl Q .und s.L)

def xI (P : Program) (base : Nat) : List II → (T → Prop) → T → Prop
  | [], Q, s => Q s
  | ii :: r, Q, s => xstep P base ii s (xI P base r Q)

def keep (as : Sl) (live : List Nat) : Sl := live.map fun i => (i, look as i)

def drops (live : List Nat) (Q : T → Prop) (s : T) : Prop := Q ⟨keep s.sl live, s.L⟩

def thenT (next : T → Prop) (Q : Ex → T → Prop) : Ex → T → Prop
  | .normal, s => next s
  | e, s => Q e s

def inBlockT (id : Nat) (Q : Ex → T → Prop) : Ex → T → Prop
  | .exit i, s => if i = id then Q .normal s else Q (.exit i) s
  | e, s => Q e s

def condX (c : V) (A B : T → Prop) (s : T) : Prop :=
  match c with
  | .d (.bool t) => condG t A B s
  | _ => False

/-- Are all slots below nt? -/
def Opd.ok (nt : Nat) : Opd → Bool
  | .t i => decide (i < nt)
  | .k _ => true
def oks (nt : Nat) (l : List Opd) : Bool := l.all (Opd.ok nt)
def II.ok (nt : Nat) (ii : II) : Bool := oks nt ii.i.opds && oks nt ii.bs && oks nt ii.ind && oks nt ii.i.places &&
  (match ii.g with | none => true | some (j, _) => decide (j < nt)) && (match ii.dst with | none => true | some j => decide (j < nt))
def CA.ok (nt : Nat) : CA → Bool
  | .skip | .exit _ | .ret => true
  | .reg l live => l.all (II.ok nt)
  | .seq a b => a.ok nt && b.ok nt
  | .cond o a b => o.ok nt && a.ok nt && b.ok nt
  | .block _ c | .loop c => c.ok nt

section
variable {P : Program} {N : Nat → Prop} {nt : Nat} {Q : Ex → T → Prop}

theorem build_len (as : Sl) : (build nt as).length = nt := by simp [build]
theorem build_get (as : Sl) {i : Nat} (h : i < nt) : (build nt as).getD i .any = look as i := by simp [build, List.getD_eq_getElem?_getD, h]
theorem build_set (as : Sl) {d : Nat} (h : d < nt) (v : V) : (build nt as).set d v = build nt ((d, v) :: as) := by
  refine List.ext_getElem (by simp [build]) fun i h1 h2 => ?_
  simp only [build, List.length_set, List.length_map, List.length_range] at h1
  simp only [build, List.getElem_set, List.getElem_map, List.getElem_range, look]
  by_cases e : d = i
  · simp [e]
  · have : i ≠ d := fun h => e h.symm
    simp [e, this]

theorem ev_build (as : Sl) (L : Heap) {o : Opd} (h : o.ok nt = true) : (⟨build nt as, L⟩ : S).ev o = xev as o := by
  cases o with
  | t i => exact build_get as (by simpa [Opd.ok] using h)
  | k v => rfl

theorem xeff_eq (nm : Nat) (i : Inst) (as : Sl) (L : Heap) (K : V → Heap → Prop) : xeff P nm i as L K → effC P nm i (xev as) L K := by
  intro h
  unfold xeff at h
  split at h
  · rename_i i
    unfold xhv at h
    split at h
    · simp only [effC, hv]
      unfold pickX at h
      split at h
      · rename_i e; rw [e]; exact h
      · exact h.elim
    · exact h
  · simp only [effC]
    unfold callCX at h
    split at h
    · rename_i e; rw [e]; exact h
    · exact h.elim
  · simp only [effC]
    unfold callSX at h
    split at h
    · rename_i e; rw [e]; exact h
    · exact h.elim
  · simp only [effC]
    unfold callX at h
    split at h
    · rename_i e; rw [e]; exact h
    · exact h.elim
  · exact h

theorem eff_mono (nm : Nat) (i : Inst) {ev : Opd → V} {L : Heap} {K K' : V → Heap → Prop} (hk : ∀ v L', K v L' → K' v L') (h : effC P nm i ev L K) : effC P nm i ev L K' := by
  obtain ⟨v, L', h1, h2⟩ := (eff_iff i K).1 h
  exact (eff_iff i K').2 ⟨v, L', h1, hk _ _ h2⟩

theorem oks_ev {as : Sl} {L : Heap} {l : List Opd} (h : oks nt l = true) : ∀ o ∈ l, xev as o = (⟨build nt as, L⟩ : S).ev o :=
  fun o ho => (ev_build as L (List.all_eq_true.1 h o ho)).symm

theorem sideG_iff {as : Sl} {bs ind : List Opd} {i : Inst} {A : Prop} (h : sideG as bs ind i A) : sides as bs ind i.places ∧ A := by
  unfold sideG at h
  split at h
  · exact ⟨⟨by simp, by simp⟩, h⟩
  · exact h

theorem putT_put {dst : Option Nat} {as : Sl} {Q : T → Prop} {v : V} {L : Heap} (hd : (match dst with | none => true | some j => decide (j < nt)) = true) (h : putT dst as Q v L) :
    ∃ t : T, Q t ∧ (⟨putSl (build nt as) dst v, L⟩ : S) = ⟨build nt t.sl, t.L⟩ := by
  cases dst with
  | none => exact ⟨_, h, rfl⟩
  | some d => exact ⟨_, h, by simp only [putSl]; rw [build_set as (by simpa using hd)]⟩

theorem xstep_sound {base : Nat} {ii : II} (hok : ii.ok nt = true) {s : T} {Q : T → Prop} (h : xstep P base ii s Q) : step P base ii ⟨build nt s.sl, s.L⟩ fun t => ∃ s' : T, Q s' ∧ t = ⟨build nt s'.sl, s'.L⟩ := by
  unfold II.ok at hok
  simp only [Bool.and_eq_true] at hok
  obtain ⟨⟨⟨⟨⟨o1, o2⟩, o3⟩, o4⟩, o5⟩, o6⟩ := hok
  have run : sideG s.sl ii.bs ii.ind ii.i (xeff P (base + ii.k) ii.i s.sl s.L (putT ii.dst s.sl Q)) →
      ((∀ q ∈ ii.bs.zip ii.i.places, ((⟨build nt s.sl, s.L⟩ : S).ev q.1).name = ((⟨build nt s.sl, s.L⟩ : S).ev q.2).name) ∧ ∀ o ∈ ii.ind, ∀ p ∈ ii.i.places, Apart ((⟨build nt s.sl, s.L⟩ : S).ev o) ((⟨build nt s.sl, s.L⟩ : S).ev p)) ∧
        eff P (base + ii.k) ii.i ⟨build nt s.sl, s.L⟩ fun v L => ∃ s' : T, Q s' ∧ (⟨putSl (build nt s.sl) ii.dst v, L⟩ : S) = ⟨build nt s'.sl, s'.L⟩ := by
    intro hs
    obtain ⟨⟨h1, h2⟩, h3⟩ := sideG_iff hs
    refine ⟨⟨fun q hq => ?_, fun o ho p hp => ?_⟩, ?_⟩
    · rw [← oks_ev o2 q.1 (List.of_mem_zip hq).1, ← oks_ev o4 q.2 (List.of_mem_zip hq).2]; exact h1 q hq
    · rw [← oks_ev o3 o ho, ← oks_ev o4 p hp]; exact h2 o ho p hp
    · have := xeff_eq _ _ _ _ _ h3
      rw [eff_congr ii.i _ (ev' := (⟨build nt s.sl, s.L⟩ : S).ev) (oks_ev o1)] at this
      exact eff_mono _ _ (fun v L' hv => putT_put o6 hv) this
  unfold xstep at h
  unfold step
  split at h
  · rename_i hg; simp only [hg]; exact run h
  · rename_i j want hg
    simp only [hg] at o5 ⊢
    rw [build_get _ (by simpa using o5)]
    unfold guardX at h
    split at h
    · rename_i b hb
      simp only [hb]
      split at h
      · rename_i e; rw [if_pos e]; exact run h
      · rename_i e; rw [if_neg e]; exact putT_put o6 h
    · rename_i hb
      simp only [hb]
      exact putT_put o6 h
    · exact h.elim

theorem xI_sound {base : Nat} {Q : T → Prop} : ∀ (l : List II) (s : T), l.all (II.ok nt) = true → xI P base l Q s → wpI P base l (fun t => ∃ s' : T, Q s' ∧ t = ⟨build nt s'.sl, s'.L⟩) ⟨build nt s.sl, s.L⟩ := by
  intro l
  induction l with
  | nil => intro s _ h; exact ⟨s, h, rfl⟩
  | cons ii l ih =>
    intro s hok h
    simp only [List.all_cons, Bool.and_eq_true] at hok
    simp only [xI] at h
    simp only [wpI]
    have := xstep_sound hok.1 h
    obtain ⟨t, h1, s', h2, h3⟩ := (step_iff ii _ _).1 this
    refine (step_iff ii _ _).2 ⟨t, h1, ?_⟩
    rw [h3]; exact ih s' hok.2 h2

/-- A state that says no more: whatever is as the first says is as the second says. -/
def Le (N : Nat → Prop) (s s' : S) : Prop := s'.sl.length = s.sl.length ∧ ∀ E : Env, (∀ X r, E.L.get X r ≠ none → N X) → ∀ (St : Nat → Prop) (m : Map) (w : World) (cs : List Value),
  cs.length = s.sl.length → Objs St m s.L w → Since E St m s.L w → (∀ i, i < s.sl.length → VRel St m s.L w (s.sl.getD i .any) (cs.getD i undef)) →
  ∃ St' m', Objs St' m' s'.L w ∧ Since E St' m' s'.L w ∧ ∀ i, i < s'.sl.length → VRel St' m' s'.L w (s'.sl.getD i .any) (cs.getD i undef)

theorem Le.refl (s : S) : Le N s s := ⟨rfl, fun E hN St m w cs hl ho hE hs => ⟨St, m, ho, hE, hs⟩⟩
theorem Le.trans {a b c : S} (h : Le N a b) (k : Le N b c) : Le N a c := by
  refine ⟨k.1.trans h.1, fun E hN St m w cs hl ho hE hs => ?_⟩
  obtain ⟨St1, m1, h1, h2, h3⟩ := h.2 E hN St m w cs hl ho hE hs
  exact k.2 E hN St1 m1 w cs (hl.trans h.1.symm) h1 h2 h3
theorem Le.of_wk {s s' : S} (ρ : Nat → Nat → Nat × Nat) (h : Wk N s.sl s.L s'.sl s'.L ρ) : Le N s s' :=
  ⟨h.len, fun E hN St m w cs hl ho hE hs => h.rel hN ho hE hl hs⟩
theorem Le.lose {sl sl' : List V} {L : Heap} (hl : sl'.length = sl.length) (h : ∀ i, i < sl.length → sl'.getD i .any = sl.getD i .any ∨ sl'.getD i .any = .any) : Le N ⟨sl, L⟩ ⟨sl', L⟩ := by
  refine ⟨hl, fun E hN St m w cs hlen ho hE hs => ⟨St, m, ho, hE, fun i hi => ?_⟩⟩
  rcases h i (by simpa [hl] using hi) with e | e
  · simp only [e]; exact hs i (by simpa [hl] using hi)
  · simp only [e]; exact .any _

theorem W_le {c : C} {Q : Ex → S → Prop} {s s' : S} (h : Le N s s') (hw : W P N c Q s') : W P N c Q s := by
  intro hm code hc E hN St m a w hs hE
  obtain ⟨St', m', h1, h2, h3⟩ := h.2 E hN St m w a.tmps.toList (by simp [hs.size]) hs.objs hE (fun i hi => by
    have := hs.slots i hi
    rw [Array.getD_eq_getD_getElem?] at this
    rw [List.getD_eq_getElem?_getD (l := a.tmps.toList)]; simpa using this)
  refine hw hm code hc E hN St' m' a w ⟨h1, by rw [hs.size, h.1], fun i hi => ?_, hs.calm⟩ h2
  have := h3 i hi
  rw [List.getD_eq_getElem?_getD (l := a.tmps.toList)] at this
  rw [Array.getD_eq_getD_getElem?]; simpa using this

theorem W_post_le {c : C} {s : S} {Q Q' : Ex → S → Prop} (h : W P N c Q s) (hq : ∀ e t, Q e t → ∃ t', Le N t t' ∧ Q' e t') : W P N c Q' s := by
  intro hm code hc E hN St m a w hs hE
  have go : ∀ (e : Ex) (a' : Act) (w' : World), (∃ s St m, Q e s ∧ SimS St m s a' w' ∧ Since E St m s.L w') → ∃ s St m, Q' e s ∧ SimS St m s a' w' ∧ Since E St m s.L w' := by
    rintro e a' w' ⟨t, St1, m1, ht, hs1, hE1⟩
    obtain ⟨t', hwk, ht'⟩ := hq e t ht
    obtain ⟨St', m', h1, h2, h3⟩ := hwk.2 E hN St1 m1 w' a'.tmps.toList (by simp [hs1.size]) hs1.objs hE1 (fun i hi => by
      have := hs1.slots i hi
      rw [Array.getD_eq_getD_getElem?] at this
      rw [List.getD_eq_getElem?_getD (l := a'.tmps.toList)]; simpa using this)
    refine ⟨t', St', m', ht', ⟨h1, by rw [hs1.size, hwk.1], fun i hi => ?_, hs1.calm⟩, h2⟩
    have := h3 i hi
    rw [List.getD_eq_getElem?_getD (l := a'.tmps.toList)] at this
    rw [Array.getD_eq_getD_getElem?]; simpa using this
  refine wp_mono (h hm code hc E hN St m a w hs hE) fun e a' w' hp => ?_
  cases e with
  | normal => exact go .normal a' w' hp
  | exit id => exact go (.exit id) a' w' hp
  | ret => exact go .ret a' w' hp
  | _ => exact hp

/-- What is known after: weakened as one likes. -/
def T.s (nt : Nat) (t : T) : S := ⟨build nt t.sl, t.L⟩
def Cl (N : Nat → Prop) (nt : Nat) (Q : Ex → T → Prop) (e : Ex) (t : S) : Prop := ∃ s : T, Le N t (s.s nt) ∧ Q e s
def WA (P : Program) (N : Nat → Prop) (nt : Nat) (c : CA) (Q : Ex → T → Prop) (s : T) : Prop := c.ok nt = true → W P N c.strip (Cl N nt Q) (s.s nt)

theorem look_keep (as : Sl) : ∀ (live : List Nat) (i : Nat), look (keep as live) i = look as i ∨ look (keep as live) i = .any := by
  intro live
  induction live with
  | nil => intro i; exact .inr rfl
  | cons j live ih =>
    intro i
    simp only [keep, List.map_cons, look]
    split
    · rename_i e; subst e; exact .inl rfl
    · exact ih i

theorem Le.keep (t : T) (live : List Nat) : Le N (t.s nt) (T.s nt ⟨Ab.keep t.sl live, t.L⟩) := by
  refine Le.lose (by simp [build_len]) fun i hi => ?_
  rw [build_len] at hi
  rw [build_get _ hi, build_get _ hi]
  exact look_keep _ _ _

theorem WA_le {c : CA} {s s' : T} (h : Le N (s.s nt) (s'.s nt)) (hw : WA P N nt c Q s') : WA P N nt c Q s := fun hok => W_le h (hw hok)
theorem WA.mono {c : CA} {s : T} {Q' : Ex → T → Prop} (h : WA P N nt c Q s) (hq : ∀ e t, Q e t → ∃ t', Le N (t.s nt) (t'.s nt) ∧ Q' e t') : WA P N nt c Q' s :=
  fun hok => (h hok).mono fun e t ⟨s', h1, h2⟩ => by
    obtain ⟨t', h3, h4⟩ := hq e s' h2
    exact ⟨t', h1.trans h3, h4⟩

theorem WA_loop {c : CA} {s : T} (I : Nat → T → Prop) {n : Nat} (h0 : I n s) (round : ∀ n s, I n s → WA P N nt c (thenT (fun t => ∃ k, k < n ∧ I k t) Q) s) : WA P N nt (.loop c) Q s := by
  intro hok
  simp only [CA.ok] at hok
  refine W_loop (fun n t => ∃ s : T, Le N t (s.s nt) ∧ I n s) ⟨s, .refl _, h0⟩ fun n t ⟨s', hle, hI⟩ => ?_
  refine W_le hle ((round n s' hI hok).mono fun e t ⟨u, h1, h2⟩ => ?_)
  cases e with
  | normal => obtain ⟨k, hk, hI'⟩ := h2; exact ⟨k, hk, u, h1, hI'⟩
  | _ => exact ⟨u, h1, h2⟩

def xC (P : Program) (N : Nat → Prop) (nt : Nat) : CA → (Ex → T → Prop) → T → Prop
  | .skip, Q, s => Q .normal s
  | .reg l live, Q, s => xI P s.L.next l (drops live (Q .normal)) s
  | .seq a b, Q, s => xC P N nt a (thenT (xC P N nt b Q) Q) s
  | .cond o a b, Q, s => condX (xev s.sl o) (xC P N nt a Q) (xC P N nt b Q) s
  | .block id c, Q, s => xC P N nt c (inBlockT id Q) s
  | .loop c, Q, s => WA P N nt (.loop c) Q s
  | .exit id, Q, s => Q (.exit id) s
  | .ret, Q, s => Q .ret s

theorem WA_of_xC : ∀ (c : CA) (Q : Ex → T → Prop) (s : T), xC P N nt c Q s → WA P N nt c Q s := by
  intro c
  induction c with
  | skip => intro Q s h _; exact W_skip ⟨s, .refl _, h⟩
  | reg l live =>
    intro Q s h hok
    refine W_reg s.L.next (wpI_mono ?_ _ _ (xI_sound l s hok h))
    rintro t ⟨s', h1, rfl⟩
    exact ⟨_, .keep s' live, h1⟩
  | seq a b iha ihb =>
    intro Q s h hok
    simp only [CA.ok, Bool.and_eq_true] at hok
    refine W_seq ((iha _ s h hok.1).mono fun e t ⟨s', h1, h2⟩ => ?_)
    cases e with
    | normal => exact W_le h1 (ihb Q s' h2 hok.2)
    | _ => exact ⟨s', h1, h2⟩
  | cond o a b iha ihb =>
    intro Q s h hok
    simp only [CA.ok, Bool.and_eq_true] at hok
    simp only [xC, condX] at h
    split at h
    · rename_i t ht
      exact W_cond (by rw [T.s, ev_build _ _ hok.1.1]; exact ht) (fun e => iha Q s (h.1 e) hok.1.2) fun e => ihb Q s (h.2 e) hok.2
    · exact h.elim
  | block id c ih =>
    intro Q s h hok
    refine W_block ((ih _ s h hok).mono fun e t ⟨s', h1, h2⟩ => ?_)
    cases e with
    | exit i =>
      simp only [Ex.inBlock]
      simp only [inBlockT] at h2
      split
      · rename_i e; simp only [e, if_true] at h2; exact ⟨s', h1, h2⟩
      · rename_i e; simp only [e, if_false] at h2; exact ⟨s', h1, h2⟩
    | _ => exact ⟨s', h1, h2⟩
  | loop c _ => intro Q s h; exact h
  | exit id => intro Q s h _; exact W_exit ⟨s, .refl _, h⟩
  | ret => intro Q s h _; exact W_ret ⟨s, .refl _, h⟩

/-- Arguments as slots. -/
def argSl : Nat → List V → Sl
  | _, [] => []
  | k, v :: r => (k, v) :: argSl (k + 1) r
theorem look_arg : ∀ (vs : List V) (k i : Nat), look (argSl k vs) i = if k ≤ i then vs.getD (i - k) .any else .any := by
  intro vs
  induction vs with
  | nil => intro k i; simp [argSl, look]
  | cons v vs ih =>
    intro k i
    simp only [argSl, look, ih]
    by_cases e : i = k
    · subst e; simp
    · rw [if_neg e]
      by_cases h : k ≤ i
      · have h2 : k + 1 ≤ i := by omega
        have h3 : i - k = (i - (k + 1)) + 1 := by omega
        simp [h, h2, h3]
      · have h2 : ¬ k + 1 ≤ i := by omega
        simp [h, h2]

/-- What a function's end is to give. -/
def EndsT (N : Nat → Prop) (nt : Nat) (res : List (Nat × Option (Nat × Bool))) (r : V) (L' : Heap) : Ex → T → Prop
  | .normal, s | .ret, s => ∃ v ρ, ResV (s.s nt) res v ∧ Wk N [v] s.L [r] L' ρ
  | _, _ => False

theorem AC_introA {f : FuncId} {nt : Nat} {res : List (Nat × Option (Nat × Bool))} {c : CA} {L L' : Heap} {r : V} {vs : List V} (hF : compF P f = some ⟨nt, res, c.strip⟩) (hok : (c.ok nt && decide (vs.length ≤ nt)) = true) (hm : P.follows .mixedOrders = true) (N : Nat → Prop) (hN : ∀ X q, L.get X q ≠ none → N X)
    (h : xC P N nt c (EndsT N nt res r L') ⟨argSl 0 vs, L⟩) : AC P f vs L L' r := by
  simp only [Bool.and_eq_true, decide_eq_true_eq] at hok
  have e : enter ⟨nt, res, c.strip⟩ vs L = T.s nt ⟨argSl 0 vs, L⟩ := by
    simp only [enter, T.s, S.mk.injEq, and_true]
    refine List.ext_getElem? fun i => ?_
    by_cases h : i < nt
    · have h1 : (build nt (argSl 0 vs)).getD i .any = _ := build_get _ h
      rw [look_arg] at h1
      simp only [Nat.zero_le, if_true, Nat.sub_zero] at h1
      rw [List.getD_eq_getElem?_getD, List.getElem?_eq_getElem (by rw [build_len]; exact h)] at h1
      rw [List.getElem?_eq_getElem (l := build nt _) (by rw [build_len]; exact h)]
      simp only [Option.getD_some] at h1
      rw [h1, List.getElem?_append]
      split
      · rename_i h2; simp [List.getD_eq_getElem?_getD, h2]
      · rename_i h2
        rw [List.getElem?_replicate]
        simp only [List.getD_eq_getElem?_getD]
        rw [List.getElem?_eq_none (by omega)]
        rw [if_pos (by omega)]; rfl
    · rw [List.getElem?_eq_none (by simp; omega), List.getElem?_eq_none (by rw [build_len]; omega)]
  refine AC_intro hF hm N hN ?_
  rw [e]
  refine W_post_le (WA_of_xC _ _ _ h hok.1) fun e t ⟨s', h1, h2⟩ => ⟨s'.s nt, h1, ?_⟩
  cases e <;> first | exact h2 | exact h2.elim

theorem Con_introA {f : FuncId} {nt : Nat} {res : List (Nat × Option (Nat × Bool))} {c : CA} {r : V} {vs : List V} (hF : compF P f = some ⟨nt, res, c.strip⟩) (hok : (c.ok nt && decide (vs.length ≤ nt)) = true) (hm : P.follows .mixedOrders = true)
    (h : xC P (fun _ => False) nt c (EndsT (fun _ => False) nt res r []) ⟨argSl 0 vs, []⟩) : Con P f vs r :=
  AC_introA hF hok hm (fun _ => False) (fun X q hX => by simp [Heap.get, Heap.fam] at hX) h

theorem endsT_ret {res : List (Nat × Option (Nat × Bool))} {s : T} {r : V} (hb : r.bareB = true) (h : ResV (s.s nt) res r) : EndsT (fun _ => False) nt res r [] .ret s :=
  ⟨r, fun X r => (X, r), h, .fin ((bareB_bare hb).le _ _ _)⟩

end
end Go.Ab
