import Derived.Test.YtponkmbigjmmoaaGreatGF
set_option linter.unusedSimpArgs false
set_option linter.unusedVariables false
namespace Go.Ab
open Go
def Opd.slot : Opd -> List Nat
 | .t i => [i]
 | .k _ => []
def II.reads (x : II) : List Nat := x.i.opds.flatMap Opd.slot ++ x.g.toList.map (·.1) ++ (x.bs ++ x.ind).flatMap Opd.slot
def II.runs (x : II) (s : S) : Option Bool :=
 match x.g with
 | none => some true
 | some (j, want) => match s.sl.getD j .any with
  | .d (.bool b) => some (b == want)
  | .tup [] => some false
  | _ => none
section
variable {P : Program} {base : Nat}
def a2J (P : Program) (base : Nat) (x : II) (s t : S) : Prop :=
 (x.runs s = some true /\ (((∀ q ∈ x.bs.zip x.i.places, (s.ev q.1).name = (s.ev q.2).name) /\ ∀ o ∈ x.ind, ∀ p ∈ x.i.places, Apart (s.ev o) (s.ev p)) /\ offs s.ev x.bs x.i.places) /\ ∃ v, Rel P (base + x.k) x.i s.ev s.L v t.L /\ t.sl = E8 s.sl x.dst v) \/
 (x.runs s = some false /\ t = ⟨E8 s.sl x.dst .und, s.L⟩)
theorem a1t (x : II) (s : S) (K : S -> Prop) : step P base x s K ↔ ∃ t, a2J P base x s t /\ K t := by
 have run : x.runs s = some true -> (((((∀ q ∈ x.bs.zip x.i.places, (s.ev q.1).name = (s.ev q.2).name) /\ ∀ o ∈ x.ind, ∀ p ∈ x.i.places, Apart (s.ev o) (s.ev p)) /\ offs s.ev x.bs x.i.places) /\ eff P (base + x.k) x.i s λv L => K ⟨E8 s.sl x.dst v, L⟩) ↔ ∃ t, a2J P base x s t /\ K t) := by
  intro hr
  constructor
  ·rintro ⟨ha, he⟩
   obtain ⟨v, L', h1, h2⟩ := (b4q x.i _).1 he
   exact ⟨⟨E8 s.sl x.dst v, L'⟩, .inl ⟨hr, ha, v, h1, rfl⟩, h2⟩
  ·rintro ⟨t, h | h, hk⟩
   ·obtain ⟨_, ha, v, h1, h2⟩ := h
    refine ⟨ha, (b4q x.i _).2 ⟨v, t.L, h1, ?_⟩⟩
    rw [<- h2]; exact hk
   ·rw [hr] at h; exact absurd h.1 (by simp)
 have skip : x.runs s = some false -> (K ⟨E8 s.sl x.dst .und, s.L⟩ ↔ ∃ t, a2J P base x s t /\ K t) := by
  intro hr
  constructor
  ·intro hk; exact ⟨_, .inr ⟨hr, rfl⟩, hk⟩
  ·rintro ⟨t, h | h, hk⟩
   ·rw [hr] at h; exact absurd h.1 (by simp)
   ·rw [h.2] at hk; exact hk
 unfold step
 split
 ·rename_i hg; exact run (by simp [II.runs, hg])
 ·rename_i j want hg
  split
  ·rename_i b hb
   split
   ·rename_i e; subst e; exact run (by simp only [II.runs, hg, hb]; simp)
   ·rename_i e; exact skip (by simp only [II.runs, hg, hb]; simp [e])
  ·rename_i hb; exact skip (by simp only [II.runs, hg, hb])
  ·rename_i hb
   have hr : x.runs s = none := by
    simp only [II.runs, hg]
   constructor
   ·exact False.elim
   ·rintro ⟨t, h | h, _⟩ <;> rw [hr] at h <;> exact absurd h.1 (by simp)
def b7j (x y : II) : Bool :=
 (match x.dst with
  | some d => !y.reads.contains d && y.dst != some d
  | none => true) &&
 (match y.dst with
  | some d => !x.reads.contains d
  | none => true)
def Opd.isSlot : Opd -> Nat -> Bool
 | .t i, j => i == j
 | .k _, _ => false
def b80 (x y : II) : Bool := match y.i with
 | .callS k _ _ => decide (x.i.kind = .H) || (decide (k <= y.k) && decide (y.k - k <= x.k))
 | _ => true
theorem Z9 {base : Nat} {x y : II} (h : b80 x y = true) : x.i.kind = .H \/ y.i.below (base + y.k) <= base + x.k := by
 unfold b80 at h
 unfold Inst.below
 split
 ·rename_i k f args e
  rw [e] at h
  simp only [Bool.or_eq_true, decide_eq_true_eq, Bool.and_eq_true] at h
  rcases h with h | h
  ·exact .inl h
  ·right; omega
 ·right; omega
def b9v (x y : II) : Bool :=
 (x.bs.take x.i.places.length).length == x.i.places.length && (x.bs.take x.i.places.length).all λp => match p with
   | .t i => y.ind.any (·.isSlot i)
   | .k v => v.isD
def sepB (x y : II) : Bool :=
 match x.bs, y.bs, x.i.span, y.i.span with
 | [.t a, .k (.d (.int _ m))], [.t b, .k (.d (.int _ n))], some (_, p), some (_, q) => a == b && (decide (m.toNat + p <= n.toNat) || decide (n.toNat + q <= m.toNat))
 | _, _, _, _ => false
def b1T (x y : II) : Bool :=
 x.k != y.k && b7j x y && (b80 x y && b80 y x) && (a4c x.i.kind y.i.kind ||
  (Q3 x.i.kind y.i.kind && (b9v x y || b9v y x || sepB x y)))
theorem c7t {sl : List V} {L M : Heap} {dst : Option Nat} {v : V} {o : Opd} (h : ∀ d, dst = some d -> d ∉ o.slot) : S.ev ⟨E8 sl dst v, M⟩ o = S.ev ⟨sl, L⟩ o := by
 cases o with
 | k c => rfl
 | t i =>
  simp only [S.ev]
  cases dst with
  | none => rfl
  | some d =>
   have : d ≠ i := by intro e; exact h d rfl (by simp [Opd.slot, e])
   simp [E8, d2d, this]
theorem b3X {x : II} {o : Opd} (h : o ∈ x.i.opds) {d : Nat} (hd : d ∈ o.slot) : d ∈ x.reads := by
 simp only [II.reads, List.mem_append, List.mem_flatMap]; exact .inl (.inl ⟨o, h, hd⟩)
theorem b3Y {x : II} {o : Opd} (h : o ∈ x.bs ++ x.ind) {d : Nat} (hd : d ∈ o.slot) : d ∈ x.reads := by
 simp only [II.reads, List.mem_append, List.mem_flatMap]; exact .inr ⟨o, List.mem_append.1 h, hd⟩
theorem A4 {i : Inst} {p : Opd} (h : p ∈ i.places) : p ∈ i.opds := by
 cases i <;> simp [Inst.places, Inst.opds] at h ⊢ <;> simp_all
theorem b7Z {y : II} {s t : S} {dst : Option Nat} {v : V} (ht : t.sl = E8 s.sl dst v) (h : ∀ d, dst = some d -> d ∉ y.reads) :
  y.runs t = y.runs s /\ (∀ o ∈ y.i.opds, t.ev o = s.ev o) /\ ∀ o ∈ y.bs ++ y.ind, t.ev o = s.ev o := by
 obtain ⟨tsl, tL⟩ := t
 simp only at ht
 subst ht
 refine ⟨?_, λo ho => c7t (L := s.L) λd hd hm => h d hd (b3X ho hm), λo ho => c7t (L := s.L) λd hd hm => h d hd (b3Y ho hm)⟩
 unfold II.runs
 cases hg : y.g with
 | none => rfl
 | some p =>
  obtain ⟨j, want⟩ := p
  have hj : ∀ d, dst = some d -> d ≠ j := by
   intro d hd e
   subst e
   exact h d hd (by simp [II.reads, hg])
  have e : (E8 s.sl dst v).getD j .any = s.sl.getD j .any := by
   cases dst with
   | none => rfl
   | some d => have := hj d rfl; simp [E8, d2d, this]
  simp only [e]
def Live (s : S) (y : II) : Prop := y.runs s = some true -> ∀ n ∈ n6 s.ev y.i, s.L.get n.1 n.2 ≠ none
theorem b7s {ev ev' : Opd -> V} {i : Inst} (h : ∀ o ∈ i.opds, ev o = ev' o) : n6 ev i = n6 ev' i := by
 unfold n6
 have : ∀ l : List Opd, (∀ p ∈ l, ev p = ev' p) -> l.filterMap (λp => (ev p).name) = l.filterMap λp => (ev' p).name := by
  intro l
  induction l with
  | nil => intro _; rfl
  | cons p l ih => intro hl; rw [List.filterMap_cons, List.filterMap_cons, hl p (by simp), ih λq hq => hl q (by simp [hq])]
 exact this _ λp hp => h p (A4 hp)
theorem c1m {v u : V} (h : Apart v u) {n k : Nat × Nat} (hn : v.name = some n) (hk : u.name = some k) : n ≠ k := by
 rintro rfl
 cases v <;> simp [V.name] at hn <;> cases u <;> simp [V.name] at hk <;> simp [Apart] at h <;> (obtain ⟨rfl⟩ := hn; simp at hk; simp_all)
theorem b0x {x y : II} {s : S} (h : b9v x y = true) (h1 : ∀ q ∈ x.bs.zip x.i.places, (s.ev q.1).name = (s.ev q.2).name) (h2 : ∀ o ∈ y.ind, ∀ p ∈ y.i.places, Apart (s.ev o) (s.ev p)) {n k : Nat × Nat}
  (hn : n ∈ n6 s.ev x.i) (hk' : k ∈ n6 s.ev y.i) : n ≠ k := by
 unfold b9v at h
 rw [Bool.and_eq_true] at h
 obtain ⟨hlen, h4⟩ := h
 simp only [n6, List.mem_filterMap] at hn hk'
 obtain ⟨p0, hp0, hpn0⟩ := hn
 obtain ⟨q, hq, hqk⟩ := hk'
 obtain ⟨j, hj, rfl⟩ := List.mem_iff_getElem.1 hp0
 have hjb : j < x.bs.length := by
  have : (x.bs.take x.i.places.length).length = x.i.places.length := by simpa using hlen
  rw [List.length_take] at this
  omega
 have hz : (x.bs[j], x.i.places[j]) ∈ x.bs.zip x.i.places := by
  rw [List.mem_iff_getElem]
  exact ⟨j, by simp; omega, by simp⟩
 have hpn : (s.ev x.bs[j]).name = some n := by rw [h1 _ hz]; exact hpn0
 have hp : x.bs[j] ∈ x.bs.take x.i.places.length := by
  rw [List.mem_take_iff_getElem]
  exact ⟨j, by omega, rfl⟩
 generalize x.bs[j] = p at hpn hp
 have hp' := List.all_eq_true.1 h4 p hp
 cases p with
 | k c =>
  simp only [S.ev] at hpn
  cases c <;> simp [V.name] at hpn <;> simp [V.isD] at hp'
 | t i =>
  simp only [List.any_eq_true] at hp'
  obtain ⟨o, ho, hoi⟩ := hp'
  cases o with
  | k c => simp [Opd.isSlot] at hoi
  | t j =>
   have : j = i := by simpa [Opd.isSlot] using hoi
   subst this
   exact c1m (h2 _ ho q hq) hpn hqk
theorem a3G {ev ev' : Opd -> V} {bs pl : List Opd} (h1 : ∀ o ∈ bs, ev o = ev' o) (h2 : ∀ p ∈ pl, ev p = ev' p) : offs ev bs pl = offs ev' bs pl := by
 unfold offs
 split
 ·rw [h1 _ (by simp), h2 _ (by simp)]
 ·rfl
theorem a9B {i : Inst} {p : Opd} {n : Nat} (h : i.span = some (p, n)) : i.places = [p] := by
 cases i <;> simp [Inst.span] at h <;> simp [Inst.places, h]
theorem c5j {x y : II} {s : S} {nx ny : Nat} (h : sepB x y = true) (h1 : offs s.ev x.bs x.i.places) (h2 : offs s.ev y.bs y.i.places) {vx vy : V} {L1 L2 : Heap} (e1 : Rel P nx x.i s.ev s.L vx L1) (e2 : Rel P ny y.i s.ev L1 vy L2) :
  ∃ M, Rel P ny y.i s.ev s.L vy M /\ Rel P nx x.i s.ev M vx L2 := by
 unfold sepB at h
 split at h
 ·rename_i a k m b k' n px p py q hbx hby hsx hsy
  simp only [Bool.and_eq_true, beq_iff_eq, Bool.or_eq_true, decide_eq_true_eq] at h
  obtain ⟨rfl, hd⟩ := h
  rw [hbx, a9B hsx] at h1
  rw [hby, a9B hsy] at h2
  simp only [offs] at h1 h2
  cases hb : s.ev (.t a) with
  | ptr X r o ver =>
   rw [hb] at h1 h2
   cases hx : s.ev px with
   | ptr X1 r1 o1 v1 =>
    cases hy : s.ev py with
    | ptr X2 r2 o2 v2 =>
     rw [hx] at h1
     rw [hy] at h2
     simp only [offC] at h1 h2
     obtain ⟨rfl, rfl, rfl, rfl⟩ := h1
     obtain ⟨rfl, rfl, rfl, rfl⟩ := h2
     exact c7V x.i y.i hsx hsy hx hy (by omega) e1 e2
    | _ => rw [hy] at h2; simp [offC] at h2
   | _ => rw [hx] at h1; simp [offC] at h1
  | _ => rw [hb] at h1; simp [offC] at h1
 ·cases h
theorem a3F {sl : List V} {a b : Option Nat} (h : ∀ d, a = some d -> b ≠ some d) (u v : V) : E8 (E8 sl a u) b v = E8 (E8 sl b v) a u := by
 cases a with
 | none => rfl
 | some d =>
  cases b with
  | none => rfl
  | some e =>
   have : d ≠ e := by rintro rfl; exact h d rfl rfl
   simp only [E8]; exact List.set_comm _ _ this
theorem c49 {x y : II} {s t u : S} (hc : b1T x y = true) (hl : Live s y) (h1 : a2J P base x s t) (h2 : a2J P base y t u) :
  ∃ t', a2J P base y s t' /\ a2J P base x t' u := by
 simp only [b1T, Bool.and_eq_true, bne_iff_ne, ne_eq] at hc
 obtain ⟨⟨⟨hk, hs⟩, hxk, hyk⟩, hkind⟩ := hc
 simp only [b7j, Bool.and_eq_true] at hs
 have hxy : ∀ d, x.dst = some d -> d ∉ y.reads /\ y.dst ≠ some d := by
  intro d hd
  have := hs.1
  rw [hd] at this
  simp at this
  exact this
 have hyx : ∀ d, y.dst = some d -> d ∉ x.reads := by
  intro d hd
  have := hs.2
  rw [hd] at this
  simpa using this
 obtain ⟨vx, ht⟩ : ∃ v, t.sl = E8 s.sl x.dst v := by
  rcases h1 with ⟨_, _, v, _, h⟩ | ⟨_, h⟩
  ·exact ⟨v, h⟩
  ·exact ⟨.und, by rw [h]⟩
 obtain ⟨r1, r2, r3⟩ := b7Z (y := y) ht λd hd => (hxy d hd).1
 -- what y does at t, it does at s
 have back : ∀ (v : V) (M : Heap), x.runs (⟨E8 s.sl y.dst v, M⟩ : S) = x.runs s /\ (∀ o ∈ x.i.opds, S.ev ⟨E8 s.sl y.dst v, M⟩ o = s.ev o) /\ ∀ o ∈ x.bs ++ x.ind, S.ev ⟨E8 s.sl y.dst v, M⟩ o = s.ev o :=
  λv M => b7Z (t := ⟨E8 s.sl y.dst v, M⟩) rfl hyx
 rcases h2 with ⟨hr2, ha2, vy, he2, hu⟩ | ⟨hr2, rfl⟩
 ·have he2' : Rel P (base + y.k) y.i s.ev t.L vy u.L := by
   have := a59 (P := P) (nm := base + y.k) (L := t.L) y.i (λa N => a = vy /\ N = u.L) r2
   unfold Rel at he2 ⊢; rw [<- this]; exact he2
  have ha2' : ((∀ q ∈ y.bs.zip y.i.places, (s.ev q.1).name = (s.ev q.2).name) /\ ∀ o ∈ y.ind, ∀ p ∈ y.i.places, Apart (s.ev o) (s.ev p)) /\ offs s.ev y.bs y.i.places := by
   refine ⟨⟨λq hq => ?_, λo ho p hp => ?_⟩, ?_⟩
   ·have := ha2.1.1 q hq
    have hm := List.of_mem_zip (a := q.1) (b := q.2) hq
    rwa [r3 q.1 (by simp [hm.1]), r2 q.2 (A4 hm.2)] at this
   ·have := ha2.1.2 o ho p hp
    rwa [r3 o (by simp [ho]), r2 p (A4 hp)] at this
   ·rw [<- a3G (λo ho => r3 o (by simp [ho])) (λp hp => r2 p (A4 hp))]; exact ha2.2
  rcases h1 with ⟨hr1, ha1, vx', he1, ht'⟩ | ⟨hr1, htt⟩
  ·have hsw : ∃ M, Rel P (base + y.k) y.i s.ev s.L vy M /\ Rel P (base + x.k) x.i s.ev M vx' u.L := by
    rcases Bool.or_eq_true _ _ ▸ hkind with h | h
    ·exact swap (nx := base + x.k) (ny := base + y.k) x.i y.i (by omega) (Z9 hxk) (Z9 hyk) (.inl h) (hl (by rw [<- r1]; exact hr2)) he1 he2'
    ·rw [Bool.and_eq_true] at h
     obtain ⟨h3, h4⟩ := h
     rcases Bool.or_eq_true _ _ ▸ h4 with h4 | h4
     case inr => exact c5j h4 ha1.2 ha2'.2 he1 he2'
     refine swap (nx := base + x.k) (ny := base + y.k) x.i y.i (by omega) (Z9 hxk) (Z9 hyk) (.inr ⟨h3, λn hn k hk' => ?_⟩) (hl (by rw [<- r1]; exact hr2)) he1 he2'
     rcases Bool.or_eq_true _ _ ▸ h4 with h4 | h4
     ·exact b0x h4 ha1.1.1 ha2'.1.2 hn hk'
     ·exact (b0x h4 ha2'.1.1 ha1.1.2 hk' hn).symm
   obtain ⟨M, m1, m2⟩ := hsw
   obtain ⟨b1, b2, b3⟩ := back vy M
   refine ⟨⟨E8 s.sl y.dst vy, M⟩, .inl ⟨by rw [<- r1]; exact hr2, ha2', vy, m1, rfl⟩, .inl ⟨by rw [b1]; exact hr1, ⟨⟨λq hq => ?_, λo ho p hp => ?_⟩, ?_⟩, vx', ?_, ?_⟩⟩
   ·have hmz := List.of_mem_zip (a := q.1) (b := q.2) hq
    rw [b3 q.1 (by simp [hmz.1]), b2 q.2 (A4 hmz.2)]; exact ha1.1.1 q hq
   ·rw [b3 o (by simp [ho]), b2 p (A4 hp)]; exact ha1.1.2 o ho p hp
   ·rw [a3G (λo ho => b3 o (by simp [ho])) (λp hp => b2 p (A4 hp))]; exact ha1.2
   ·have := a59 (P := P) (nm := base + x.k) (L := M) x.i (λa N => a = vx' /\ N = u.L) b2
    unfold Rel at m2 ⊢; rw [this]; exact m2
   ·rw [hu, ht']; exact a3F (λd hd => (hxy d hd).2) _ _
  ·have htL : t.L = s.L := by rw [htt]
   obtain ⟨b1, b2, b3⟩ := back vy u.L
   refine ⟨⟨E8 s.sl y.dst vy, u.L⟩, .inl ⟨by rw [<- r1]; exact hr2, ha2', vy, by rw [htL] at he2'; exact he2', rfl⟩, .inr ⟨by rw [b1]; exact hr1, ?_⟩⟩
   obtain ⟨usl, uL⟩ := u
   simp only at hu ⊢
   rw [hu, htt]
   congr 1
   exact a3F (λd hd => (hxy d hd).2) _ _
 ·rcases h1 with ⟨hr1, ha1, vx', he1, ht'⟩ | ⟨hr1, rfl⟩
  ·obtain ⟨b1, b2, b3⟩ := back .und s.L
   refine ⟨⟨E8 s.sl y.dst .und, s.L⟩, .inr ⟨by rw [<- r1]; exact hr2, rfl⟩, .inl ⟨by rw [b1]; exact hr1, ⟨⟨λq hq => ?_, λo ho p hp => ?_⟩, ?_⟩, vx', ?_, ?_⟩⟩
   ·have hmz := List.of_mem_zip (a := q.1) (b := q.2) hq
    rw [b3 q.1 (by simp [hmz.1]), b2 q.2 (A4 hmz.2)]; exact ha1.1.1 q hq
   ·rw [b3 o (by simp [ho]), b2 p (A4 hp)]; exact ha1.1.2 o ho p hp
   ·rw [a3G (λo ho => b3 o (by simp [ho])) (λp hp => b2 p (A4 hp))]; exact ha1.2
   ·have := a59 (P := P) (nm := base + x.k) (L := s.L) x.i (λa N => a = vx' /\ N = t.L) b2
    unfold Rel at he1 ⊢; rw [this]; exact he1
   ·simp only; rw [ht']; exact a3F (λd hd => (hxy d hd).2) _ _
  ·obtain ⟨b1, b2, b3⟩ := back .und s.L
   refine ⟨⟨E8 s.sl y.dst .und, s.L⟩, .inr ⟨by rw [<- r1]; exact hr2, rfl⟩, .inr ⟨by rw [b1]; exact hr1, ?_⟩⟩
   congr 1
   exact a3F (λd hd => (hxy d hd).2) _ _
theorem c3g {x y : II} {s t : S} (hc : b1T x y = true) (hl : Live s y) (h : a2J P base x s t) : Live t y := by
 intro hr n hn
 have hc' := hc
 simp only [b1T, Bool.and_eq_true, bne_iff_ne, ne_eq] at hc
 obtain ⟨⟨⟨hk, hs⟩, hxk, hyk⟩, hkind⟩ := hc
 simp only [b7j, Bool.and_eq_true] at hs
 have hxy : ∀ d, x.dst = some d -> d ∉ y.reads := by
  intro d hd
  have := hs.1
  rw [hd] at this
  simp at this
  exact this.1
 obtain ⟨vx, ht⟩ : ∃ v, t.sl = E8 s.sl x.dst v := by
  rcases h with ⟨_, _, v, _, h⟩ | ⟨_, h⟩
  ·exact ⟨v, h⟩
  ·exact ⟨.und, by rw [h]⟩
 obtain ⟨r1, r2, r3⟩ := b7Z (y := y) ht hxy
 rw [b7s r2] at hn
 rw [r1] at hr
 have h0 := hl hr n hn
 rcases h with ⟨_, _, v, he, _⟩ | ⟨_, h⟩
 ·by_cases hX : x.i.kind = .X
  ·have hy : y.i.kind = .H := by
    rcases Bool.or_eq_true _ _ ▸ hkind with h | h
    ·rw [hX] at h; exact c3n h
    ·rw [Bool.and_eq_true, hX] at h; exact (c3m h.1).elim
   rw [a0R _ (.inl hy)] at hn; cases hn
  ·obtain ⟨δ, hL, hd1, hd2, hd3, _⟩ := c38 x.i hX v he
   rw [hL]
   cases δ with
   | nop => exact h0
   | ins c =>
    simp only [Delta.on, b4g (hd2 c rfl)]
    have : n.1 ≠ base + x.k := by rintro e; exact h0 (by rw [e]; exact x4 (hd2 c rfl))
    rw [if_neg this]; exact h0
   | put X r c =>
    obtain ⟨old, ho⟩ := Option.ne_none_iff_exists'.1 (hd1 _ (hd3 X r c rfl))
    simp only [Delta.on, K8 X r c s.L old ho]
    split
    ·simp
    ·exact h0
 ·rw [h]; exact h0
theorem c4Y {K K' : S -> Prop} (h : ∀ s, K s -> K' s) : ∀ (l : List II) (s : S), wpI P base l K s -> wpI P base l K' s := by
 intro l
 induction l with
 | nil => intro s hs; exact h s hs
 | cons x l ih =>
  intro s hs
  simp only [wpI, a1t] at hs ⊢
  obtain ⟨t, h1, h2⟩ := hs
  exact ⟨t, h1, ih t h2⟩
theorem d0W {K : S -> Prop} (y : II) (β : List II) : ∀ (α : List II) (s : S), (∀ x ∈ α, b1T x y = true) -> Live s y -> wpI P base (α ++ y :: β) K s -> step P base y s λt => wpI P base (α ++ β) K t := by
 intro α
 induction α with
 | nil => intro s _ _ h; exact h
 | cons x α ih =>
  intro s hc hl h
  simp only [List.cons_append, wpI] at h
  obtain ⟨t, h1, h2⟩ := (a1t x s _).1 h
  have hxy := hc x (by simp)
  have h3 := ih t (λx' hx' => hc x' (by simp [hx'])) (c3g hxy hl h1) h2
  obtain ⟨u, h4, h5⟩ := (a1t y t _).1 h3
  obtain ⟨t', h6, h7⟩ := c49 hxy hl h1 h4
  refine (a1t y s _).2 ⟨t', h6, ?_⟩
  simp only [List.cons_append, wpI]
  exact (a1t x t' _).2 ⟨u, h7, h5⟩
end
end Go.Ab
namespace Go.Ab
open Go
structure Env where
 St : Nat -> Prop
 m : Map
 L : Heap
 w : World
structure Since (E : Env) (St : Nat -> Prop) (m : Map) (L : Heap) (w : World) : Prop where
 frame : Frame' (a8V E.m E.L) E.w w
 ext : Ext E.St St E.m m E.L L E.w w
 st : ∀ b, St b -> E.St b \/ E.w.heap.size <= b
 src : Src E.m E.L m L E.w
theorem Since.step {E : Env} {St St' : Nat -> Prop} {m m' : Map} {L L' : Heap} {w w' : World} (h : Since E St m L w) (hf : Frame' (a8V m L) w w') (he : Ext St St' m m' L L' w w')
  (hst : ∀ b, St' b -> St b \/ w.heap.size <= b) (hs : Src m L m' L' w) : Since E St' m' L' w' := by
 refine ⟨h.frame.trans hf λx hx hlt => ?_, h.ext.trans he, λb hb => ?_, h.src.trans hs h.frame.size⟩
 ·rcases h.src.named x hx with h' | h'
  ·exact h'
  ·omega
 ·rcases hst b hb with h' | h'
  ·exact h.st b h'
  ·exact .inr (Nat.le_trans h.frame.size h')
theorem Since.draw {E : Env} {St : Nat -> Prop} {m : Map} {L : Heap} {w w' : World} (h : Since E St m L w) (hs : Same w w') : Since E St m L w' :=
 h.step hs.frame hs.ext (λ_ h => .inl h) (.refl _ _ _)
theorem SimS.draw {St : Nat -> Prop} {m : Map} {s : S} {a : Act} {w w' : World} (h : SimS St m s a w) (hs : Same w w') : SimS St m s a w' :=
 ⟨hs.objs h.objs, h.size, λi hi => hs.vrel (h.slots i hi), h.calm⟩
theorem SimS.put {St St' : Nat -> Prop} {m m' : Map} {s : S} {a : Act} {w w' : World} {L' : Heap} {v : V} {c : Value} (h : SimS St m s a w) (ho : Objs St' m' L' w') (he : Ext St St' m m' s.L L' w w')
  (hv : VRel St' m' L' w' v c) (dst : Option Nat) : SimS St' m' ⟨E8 s.sl dst v, L'⟩ (a.put dst c) w' := by
 cases dst with
 | none => exact ⟨ho, h.size, λi hi => (h.slots i hi).mono he, h.calm⟩
 | some d =>
  have := LRel.set (St := St') (m := m') (L := L') (w := w') (xs := s.sl) (cs := a.tmps) ⟨h.size, λi hi => (h.slots i hi).mono he⟩ hv d
  exact ⟨ho, this.1, this.2, h.calm⟩
def a2F (P : Program) (ops : List Oper) (pure : Nat) (bs ind : List Opd) (k : Nat) (o : Oper) : Option II :=
 match c08 P pure o.op with
 | none => none
 | some i => match o.guard with
  | none => some ⟨k, o.dst, none, bs, ind, i⟩
  | some (j, b) => match (ops[j]?).bind (·.dst) with
   | some d => some ⟨k, o.dst, some (d, b), bs, ind, i⟩
   | none => none
section
variable {P : Program} {base : Nat} {E : Env}
theorem b8Q {ops : Array Oper} {pure : Nat} {bs ind : List Opd} {k : Nat} {o : Oper} {ii : II} (hc : a2F P ops.toList pure bs ind k o = some ii) (ho : ops[k]? = some o) {St : Nat -> Prop} {m : Map} {s : S} {a : Act} {w : World}
  (hs : SimS St m s a w) (hE : Since E St m s.L w) {K : S -> Prop} (hk : step P base ii s K) {next : Act -> World -> Prop} {Q : Exit -> Act -> World -> Prop}
  (hn : ∀ t St' m' a' w', K t -> SimS St' m' t a' w' -> Since E St' m' t.L w' -> next a' w') : wpOp P ops Q k next a w := by
 unfold wpOp
 simp only [ho]
 unfold a2F at hc
 split at hc
 ·cases hc
 rename_i i hi
 have main : ∀ K' : V -> Heap -> Prop, (∀ v L, K' v L -> K ⟨E8 s.sl o.dst v, L⟩) -> eff P (base + k) i s K' -> o.wp P a w next Q := by
  intro K' hK he
  refine c35 pure (base + k) i hi hs he λv L' c w' hkv hp => ?_
  obtain ⟨St', m', h1, h2, h3, h4, h5, h6⟩ := hp
  exact hn _ St' m' _ _ (hK v L' hkv) (hs.put h1 h4 h2 o.dst) (hE.step h3 h4 h5 h6)
 split at hc
 ·rename_i hg
  cases hc
  have : Region.wanted o (yielded ops a.tmps) = true := by simp [Region.wanted, hg]
  simp only [this, if_true]
  simp only [step] at hk
  exact .inl (main _ (λv L h => h) hk.2)
 ·rename_i j b hg
  split at hc
  case h_2 => cases hc
  rename_i d hd
  cases hc
  simp only [step] at hk
  split at hk
  case h_3 => exact hk.elim
  case h_2 =>
   rename_i hq
   have hw : Region.wanted o (yielded ops a.tmps) = false := by
    have hy : yielded ops a.tmps j = none := by
     unfold yielded
     have hd' : (ops[j]?).bind (·.dst) = some d := by simpa using hd
     rw [hd']
     simp only [Option.bind_some]
     by_cases hlt : d < s.sl.length
     ·have h1 := hs.slots d hlt
      rw [hq] at h1
      obtain ⟨cs, h2, h3, _⟩ := h1.tup'
      have hlt' : d < a.tmps.size := by rw [hs.size]; exact hlt
      rw [Array.getD_eq_getD_getElem?, Array.getElem?_eq_getElem hlt'] at h2
      simp only [Option.getD_some] at h2
      rw [Array.getElem?_eq_getElem hlt', h2]
     ·rw [d2d, d2n (Nat.not_lt.1 hlt)] at hq; simp at hq
    simp [Region.wanted, hg, hy]
   rw [hw]
   simp only [Bool.false_eq_true, if_false]
   exact hn _ St m _ _ hk (hs.put hs.objs (.refl _ _ _ _) (.tup (cs := #[]) rfl λj hj => by simp at hj) o.dst) hE
  rename_i q hq
  have hq' : a.tmps[d]? = some (.bool q) := by
   by_cases hlt : d < s.sl.length
   ·have := hs.slots d hlt
    rw [hq] at this
    have := this.bool
    have hlt' : d < a.tmps.size := by rw [hs.size]; exact hlt
    rw [Array.getD_eq_getD_getElem?, Array.getElem?_eq_getElem hlt'] at this
    rw [Array.getElem?_eq_getElem hlt']
    simpa using this
   ·rw [d2d, d2n (Nat.not_lt.1 hlt)] at hq; simp at hq
  have hy : yielded ops a.tmps j = some q := by
   unfold yielded
   have : (ops[j]?).bind (·.dst) = some d := by simpa using hd
   rw [this]
   simp [hq']
  have hw : Region.wanted o (yielded ops a.tmps) = (q == b) := by
   simp only [Region.wanted, hg, hy]
   cases q <;> cases b <;> rfl
  rw [hw]
  split at hk
  ·rename_i e; subst e
   simp only [beq_self_eq_true, if_true]
   exact .inl (main _ (λv L h => h) hk.2)
  ·rename_i e
   have : (q == b) = false := by simpa using e
   simp only [this, Bool.false_eq_true, if_false]
   exact hn _ St m _ _ hk (hs.put hs.objs (.refl _ _ _ _) (.tup (cs := #[]) rfl λj hj => by simp at hj) o.dst) hE
theorem c2a {ops : Array Oper} {Q : Exit -> Act -> World -> Prop} {K : S -> Prop} : ∀ (l : List Nat) (iis : List II), iis.length = l.length ->
  (∀ j (h1 : j < l.length) (h2 : j < iis.length), ∃ o pure bs ind, ops[l[j]]? = some o /\ a2F P ops.toList pure bs ind l[j] o = some iis[j]) ->
  ∀ (St : Nat -> Prop) (m : Map) (s : S) (a : Act) (w : World), SimS St m s a w -> Since E St m s.L w -> wpI P base iis K s ->
  (∀ t St' m' a' w', K t -> SimS St' m' t a' w' -> Since E St' m' t.L w' -> Q .normal a' w') -> wpOps P ops Q l a w := by
 intro l
 induction l with
 | nil =>
  intro iis hl _ St m s a w hs hE hk hQ
  obtain rfl : iis = [] := by simpa using hl
  exact hQ s St m a w hk hs hE
 | cons i l ih =>
  intro iis hl hc St m s a w hs hE hk hQ
  cases iis with
  | nil => simp at hl
  | cons ii iis =>
   obtain ⟨o, pure, bs, ind, ho, hcomp⟩ := hc 0 (by simp) (by simp)
   rw [wpOps_cons]
   refine b8Q hcomp ho hs hE hk λt St' m' a' w' ht hs' hE' => ?_
   exact ih iis (by simpa using hl) (λj h1 h2 => hc (j + 1) (Nat.succ_lt_succ h1) (Nat.succ_lt_succ h2)) St' m' t a' w' hs' hE' ht hQ
inductive Reach (ops : List Oper) : Nat -> Nat -> Prop
 | edge {k : Nat} {o : Oper} {e : Edge} (ho : ops[k]? = some o) (he : e ∈ o.after) (hb : Region.binds .any e = true) : Reach ops e.on k
 | trans {a k : Nat} {o : Oper} {e : Edge} (h : Reach ops a e.on) (ho : ops[k]? = some o) (he : e ∈ o.after) (hb : Region.binds .any e = true) : Reach ops a k
theorem Reach.listed {ops : Array Oper} {listed : Array Bool} (hd : ∀ k o e, listed.getD k false = true -> ops[k]? = some o -> e ∈ o.after -> Region.binds .any e = true -> listed.getD e.on false = true)
  {a k : Nat} (h : Reach ops.toList a k) : ∀ o, ops[k]? = some o -> (∀ e ∈ o.after, Region.binds .any e = true -> listed.getD e.on false = true) -> listed.getD a false = true := by
 have key : ∀ {a k : Nat}, Reach ops.toList a k -> listed.getD k false = true -> listed.getD a false = true := by
  intro a k h
  induction h with
  | edge ho he hb => intro hk; exact hd _ _ _ hk (by simpa using ho) he hb
  | trans h ho he hb ih => intro hk; exact ih (hd _ _ _ hk (by simpa using ho) he hb)
 intro o ho hall
 cases h with
 | edge ho' he hb => rw [show ops[k]? = some _ from by simpa using ho'] at ho; cases ho; exact hall _ he hb
 | trans h ho' he hb => rw [show ops[k]? = some _ from by simpa using ho'] at ho; cases ho; exact key h (hall _ he hb)
def b8Y (acc : List Nat) (o : Oper) : Nat :=
 (o.after.toList.filter (Region.binds .any)).foldl (λm e => m ||| (2 ^ e.on ||| acc.getD e.on 0)) 0
def c5R : List Oper -> List Nat -> List Nat
 | [], acc => acc
 | o :: r, acc => c5R r (acc ++ [b8Y acc o])
theorem b7G {ops : List Oper} {acc : List Nat} {k : Nat} {o : Oper} (ho : ops[k]? = some o) (hacc : ∀ j, j < acc.length -> ∀ a, (acc.getD j 0).testBit a = true -> Reach ops a j) (a : Nat)
  (h : (b8Y acc o).testBit a = true) : Reach ops a k := by
 unfold b8Y at h
 have key : ∀ (l : List Edge) (m : Nat), (∀ e ∈ l, e ∈ o.after /\ Region.binds .any e = true) -> (m.testBit a = true -> Reach ops a k) -> (l.foldl (λm e => m ||| (2 ^ e.on ||| acc.getD e.on 0)) m).testBit a = true -> Reach ops a k := by
  intro l
  induction l with
  | nil => intro m _ hm h; exact hm h
  | cons e l ih =>
   intro m hl hm h
   refine ih _ (λe' he' => hl e' (by simp [he'])) (λhb => ?_) h
   rw [Nat.testBit_or, Nat.testBit_or, Bool.or_eq_true, Bool.or_eq_true] at hb
   obtain ⟨he, hbd⟩ := hl e (by simp)
   rcases hb with hb | hb | hb
   ·exact hm hb
   ·rw [Nat.testBit_two_pow] at hb
    have : e.on = a := by simpa using hb
    subst this
    exact .edge ho he hbd
   ·by_cases hlt : e.on < acc.length
    ·exact .trans (hacc _ hlt a hb) ho he hbd
    ·rw [d2d, d2n (Nat.not_lt.1 hlt)] at hb
     simp at hb
 refine key _ 0 (λe he => ?_) (by simp) h
 rw [List.mem_filter] at he
 exact ⟨by simpa using he.1, he.2⟩
theorem c0A {ops : List Oper} : ∀ (r : List Oper) (acc : List Nat), (∀ j, j < r.length -> ops[acc.length + j]? = r[j]?) -> (∀ j, j < acc.length -> ∀ a, (acc.getD j 0).testBit a = true -> Reach ops a j) ->
  ∀ j a, ((c5R r acc).getD j 0).testBit a = true -> Reach ops a j := by
 intro r
 induction r with
 | nil =>
  intro acc _ hacc j a h
  by_cases hj : j < acc.length
  ·exact hacc j hj a h
  ·simp only [c5R] at h
   rw [d2d, d2n (Nat.not_lt.1 hj)] at h
   simp at h
 | cons o r ih =>
  intro acc hr hacc j a h
  refine ih (acc ++ [b8Y acc o]) (λj hj => ?_) (λj hj a ha => ?_) j a h
  ·have := hr (j + 1) (by simpa using hj)
   simp only [List.length_append, List.length_singleton]
   rw [show acc.length + 1 + j = acc.length + (j + 1) from by omega, this]
   simp
  ·simp only [List.length_append, List.length_singleton] at hj
   by_cases hlt : j < acc.length
   ·rw [d2d, d2g hlt, <- d2d] at ha
    exact hacc j hlt a ha
   ·obtain rfl : j = acc.length := by omega
    rw [d2d, d2j (d2t _)] at ha
    simp at ha
    have := hr 0 (by simp)
    exact b7G (by simpa using this) hacc a ha
end
end Go.Ab
namespace Go.Ab
open Go
def c4g (P : Program) (ops : List Oper) : Option (List II) :=
 (List.range ops.length).mapM λk => (ops[k]?).bind λo => a2F P ops 0 [] [] k o
def d1x (n : Nat) (p : Nat -> Nat -> Bool) : Bool := (List.range n).all λj => (List.range j).all λi => p i j
def c36 (ops : List Oper) : Bool :=
 (List.range ops.length).all λk => match ops[k]? with
  | some o => o.after.toList.all λe => !Region.binds .any e || decide (e.on < k)
  | none => true
def d0L (ops : List Oper) (raw : List Inst) : Nat -> Opd -> Opd
 | 0, x => x
 | _ + 1, .k v => .k v
 | n + 1, .t i => match (ops.zip raw).find? (λp => p.1.dst == some i) with
  | some (_, .h (.padd x _)) | some (_, .h (.idx x _ _)) | some (_, .h (.idxa x _ _ _)) | some (_, .h (.mov x)) | some (_, .h (.nilck x)) => d0L ops raw n x
  | _ => .t i
def b4A (ops : List Oper) (raw : List Inst) : Nat -> Opd -> Nat -> Opd × Nat
 | 0, x, n => (x, n)
 | _ + 1, .k v, n => (.k v, n)
 | f + 1, .t i, n => match (ops.zip raw).find? (λp => p.1.dst == some i) with
  | some (_, .h (.padd x m)) => b4A ops raw f x (n + m)
  | some (_, .h (.mov x)) | some (_, .h (.nilck x)) => b4A ops raw f x n
  | _ => (.t i, n)
def a6c (P : Program) (early : Bool) (ops : List Oper) : Option (List II) :=
 let n := ops.length
 let ms := c5R ops []
 let ord := λi j => (ms.getD j 0).testBit i || (ms.getD i 0).testBit j
 match ops.mapM (λo => c08 P 0 o.op) with
 | none => none
 | some raw =>
  let kd := λk => ((raw[k]?).map Inst.kind).getD .X
  let pure := λk => if decide (kd k = .X) && (List.range n).any λi => i != k && !ord i k && decide (kd i ≠ .H) then (if (List.range n).any λi => i != k && !ord i k && decide (kd i = .W) then 1 else if (List.range k).all λi => ord i k || decide (kd i = .H) then 2 else k + 2) else 0
  let far := λk => ((raw[k]?).bind Inst.span).map λp => let q := b4A ops raw 20 p.1 0; (q.1, q.2, p.2)
  let sep := λi k => match far i, far k with
   | some (.t a, o, p), some (.t b, o', q) => a == b && (decide (o + p <= o') || decide (o' + q <= o))
   | _, _ => false
  let sepBad := λi k => !ord i k && Q3 (kd i) (kd k) && sep i k
  let isBad := λi k => !ord i k && Q3 (kd i) (kd k) && !sep i k
  let basesOf := λk => ((raw[k]?).map λi => i.places.map (d0L ops raw 20)).getD []
  -- is a place's slot made in the region itself? then it is the other piece that is apart from this one
  let own := λk => early && (basesOf k).any λp => match p with
   | .t i => ops.any (·.dst == some i)
   | .k _ => false
  let bs := λk => if (List.range n).any (λj => j != k && sepBad j k) then match far k with
    | some (b, o, _) => [b, .k (.d (.int .i64 o))]
    | none => []
   else if (List.range n).any (λj => (decide (k < j) && isBad k j && !own k) || (decide (j < k) && isBad j k && own j)) then basesOf k else []
  let ind := λk => (List.range n).flatMap λi => if (decide (i < k) && isBad i k && !own i) || (decide (k < i) && isBad k i && own k) then basesOf i else []
  match (List.range n).mapM (λk => (ops[k]?).bind λo => a2F P ops (pure k) (bs k) (ind k) k o) with
  | none => none
  | some iis =>
   if c36 ops && d1x n (λi j => (ms.getD j 0).testBit i || match iis[i]?, iis[j]? with
    | some x, some y => b1T x y
    | _, _ => false) then some iis else none
def b4z (P : Program) (ops : List Oper) : Option (List II) :=
 match a6c P false ops with
 | some l => some l
 | none => a6c P true ops
section
variable {P : Program} {base : Nat} {E : Env}
def A7 (n : Nat) (listed : Array Bool) : List Nat := (List.range n).filter λi => !listed.getD i true
theorem b59 (p : Nat -> Bool) (i : Nat) (hi : p i = true) : ∀ (l : List Nat), l.Nodup -> i ∈ l -> ∃ α β, l.filter p = α ++ i :: β /\ l.filter (λj => p j && j != i) = α ++ β /\ (∀ a ∈ α, p a = true /\ a ∈ l) := by
 intro l
 induction l with
 | nil => intro _ h; cases h
 | cons j l ih =>
  intro hnd hm
  obtain ⟨hj, hnd'⟩ := List.nodup_cons.1 hnd
  by_cases e : i = j
  ·subst e
   refine ⟨[], l.filter p, by simp [hi], ?_, by simp⟩
   rw [List.filter_cons_of_neg (by simp)]
   simp only [List.nil_append]
   refine List.filter_congr λx hx => ?_
   have : x ≠ i := λe => hj (e ▸ hx)
   simp [this]
  ·have hm' : i ∈ l := by simpa [e] using hm
   obtain ⟨α, β, h1, h2, h3⟩ := ih hnd' hm'
   by_cases hp : p j = true
   ·refine ⟨j :: α, β, by simp [hp, h1], ?_, ?_⟩
    ·have hne : (p j && j != i) = true := by simp [hp, Ne.symm e]
     rw [List.filter_cons, if_pos hne, h2]; rfl
    ·intro a ha
     rcases List.mem_cons.1 ha with rfl | ha
     ·exact ⟨hp, by simp⟩
     ·exact ⟨(h3 a ha).1, by simp [(h3 a ha).2]⟩
   ·refine ⟨α, β, by simp [hp, h1], ?_, λa ha => ⟨(h3 a ha).1, by simp [(h3 a ha).2]⟩⟩
    rw [List.filter_cons_of_neg (by simp [hp]), h2]
theorem b43 (n : Nat) (listed : Array Bool) (hsz : listed.size = n) (i : Nat) (hi : i < n) :
  A7 n (listed.setIfInBounds i true) = (List.range n).filter λj => (!listed.getD j true) && j != i := by
 unfold A7
 refine List.filter_congr λj hj => ?_
 have hj' : j < n := by simpa using hj
 by_cases e : i = j
 ·subst e
  have : i < listed.size := by omega
  simp [this]
 ·rw [getD_set_ne true e]
  have : (j != i) = true := by simpa using Ne.symm e
  rw [this, Bool.and_true]
theorem c6H {n i : Nat} {p : Nat -> Bool} {α β : List Nat} (h : (List.range n).filter p = α ++ i :: β) : ∀ a ∈ α, a < i := by
 have hs : ((List.range n).filter p).Pairwise (· < ·) := List.Pairwise.filter _ List.pairwise_lt_range
 rw [h, List.pairwise_append] at hs
 intro a ha
 exact hs.2.2 a ha i (by simp)
theorem c40 (v : Value) : (Value.toV v).name = none := by
 unfold Value.toV
 cases v <;> try rfl
 ·simp only; split <;> rfl
 ·simp only; split <;> rfl
 ·simp only; split <;> rfl
 ·rename_i fn a b; cases fn <;> simp only <;> first | rfl | (split <;> rfl)
theorem b75 (v : Value) : (b6n v).name = none := by
 unfold b6n
 split
 ·rfl
 ·exact c40 _
theorem b3U {x : Operand} {c : V} (h : Opd.of x = .k c) : c.name = none := by
 cases x <;> simp [Opd.of] at h <;> subst h
 ·exact b75 _
 ·rfl
 ·rfl
theorem c04 {ops : List Oper} {pure : Nat} {bs ind : List Opd} {k : Nat} {o : Oper} {ii : II} (hc : a2F P ops pure bs ind k o = some ii) {c : V} (hp : Opd.k c ∈ ii.i.places) : c.name = none := by
 have hi : c08 P pure o.op = some ii.i := by
  unfold a2F at hc
  split at hc
  ·cases hc
  ·rename_i i hi
   split at hc
   ·cases hc; exact hi
   ·split at hc
    ·cases hc; exact hi
    ·cases hc
 generalize ii.i = i at hi hp
 unfold c08 at hi
 split at hi
 ·cases hi; simp [Inst.places] at hp
 ·cases hop : o.op <;> simp only [hop, c81, reduceCtorEq] at hi
  case load t x =>
   split at hi
   ·split at hi
    ·cases hi; simp [Inst.places] at hp; exact b3U hp.symm
    ·cases hi
   ·cases hi
  case store t p x =>
   cases hn : szT P t <;> simp [hn] at hi
   subst hi; simp [Inst.places] at hp; exact b3U hp.symm
  case alloc t => cases hn : b40 P t <;> simp [hn] at hi; subst hi; simp [Inst.places] at hp
  case box t x => cases hn : szT P t <;> simp [hn] at hi; subst hi; simp [Inst.places] at hp
  case buildSlice t len parts =>
   split at hi
   ·split at hi
    ·split at hi
     ·cases hi; simp [Inst.places] at hp
     ·cases hi
    ·cases hi
   ·cases hi
  case makeSlice t n c' =>
   split at hi
   ·split at hi
    ·split at hi
     ·cases hi; simp [Inst.places] at hp
     ·cases hi
    ·cases hi
   ·cases hi
  case call cl =>
   split at hi
   ·split at hi
    ·split at hi
     ·split at hi
      ·split at hi
       ·split at hi
        ·cases hi; simp [Inst.places] at hp; rcases hp with hp | hp <;> exact b3U hp.symm
        ·cases hi
       ·split at hi
        ·cases hi; simp [Inst.places] at hp; rcases hp with hp | hp <;> exact b3U hp.symm
        ·cases hi
      ·cases hi
     ·cases hi
    ·cases hi
   ·split at hi <;> cases hi <;> simp [Inst.places] at hp
   ·cases hi
theorem c4z {ops : Array Oper} {iis : List II} (hlen : iis.length = ops.size)
  (hc : ∀ k, (h : k < iis.length) -> ∃ o pure bs ind, ops[k]? = some o /\ a2F P ops.toList pure bs ind k o = some iis[k])
  (hdown : ∀ k o e, ops[k]? = some o -> e ∈ o.after -> Region.binds .any e = true -> e.on < k)
  (hpair : ∀ i j, i < j -> (hj : j < iis.length) -> (hi : i < iis.length) -> Reach ops.toList i j \/ b1T iis[i] iis[j] = true)
  {Q : Exit -> Act -> World -> Prop} {K : S -> Prop} (hQ : ∀ t St' m' a' w', K t -> SimS St' m' t a' w' -> Since E St' m' t.L w' -> Q .normal a' w') :
  ∀ (fuel : Nat) (listed : Array Bool) (St : Nat -> Prop) (m : Map) (s : S) (a : Act) (w : World), listed.size = ops.size -> (A7 ops.size listed).length = fuel ->
   (∀ k o e, listed.getD k false = true -> ops[k]? = some o -> e ∈ o.after -> Region.binds .any e = true -> listed.getD e.on false = true) ->
   SimS St m s a w -> Since E St m s.L w -> wpI P base ((A7 ops.size listed).filterMap λi => iis[i]?) K s -> wpAny P .any ops Q fuel listed a w := by
 intro fuel
 induction fuel with
 | zero =>
  intro listed St m s a w hsz hcount hd hs hE hk
  have hnil : A7 ops.size listed = [] := List.eq_nil_of_length_eq_zero hcount
  rw [hnil] at hk
  refine ⟨?_, hQ s St m a w hk hs hE⟩
  unfold Region.ready
  rw [List.filter_eq_nil_iff]
  intro i hi hh
  have : i ∈ A7 ops.size listed := by
   unfold A7; rw [List.mem_filter]; exact ⟨hi, by simp only [Bool.and_eq_true] at hh; exact hh.1⟩
  rw [hnil] at this; cases this
 | succ fuel ih =>
  intro listed St m s a w hsz hcount hd hs hE hk
  refine ⟨λhr => ?_, λi hi => ?_⟩
  ·-- something is ready: the least that is not listed
   exfalso
   cases hu : A7 ops.size listed with
   | nil => rw [hu] at hcount; simp at hcount
   | cons i β =>
    have hmem : i ∈ A7 ops.size listed := by rw [hu]; simp
    unfold A7 at hmem hu
    rw [List.mem_filter] at hmem
    obtain ⟨hi1, hi2⟩ := hmem
    have hilt : i < ops.size := by simpa using hi1
    have : i ∈ Region.ready .any ops listed := by
     rw [mem_ready]
     refine ⟨by simpa using hi2, ops[i], by simp [hilt], λe he hb => ?_⟩
     have hlt := hdown i ops[i] e (by simp [hilt]) he hb
     cases hl : listed.getD e.on true with
     | true =>
      have hlt2 : e.on < listed.size := by omega
      rw [Array.getD_eq_getD_getElem?, Array.getElem?_eq_getElem hlt2] at hl ⊢
      exact hl
     | false =>
      exfalso
      have hm : e.on ∈ (List.range ops.size).filter λi => !listed.getD i true := by
       rw [List.mem_filter]; exact ⟨by simp; omega, by simp [hl]⟩
      rw [hu] at hm
      rcases List.mem_cons.1 hm with h | h
      ·omega
      ·have hsrt : ((List.range ops.size).filter λi => !listed.getD i true).Pairwise (· < ·) := List.Pairwise.filter _ List.pairwise_lt_range
       rw [hu, List.pairwise_cons] at hsrt
       have := hsrt.1 _ h; omega
    rw [hr] at this; cases this
  ·rw [mem_ready] at hi
   obtain ⟨hi0, o, ho, hall⟩ := hi
   have hilt : i < ops.size := (Array.getElem?_eq_some_iff.1 ho).1
   have hii : i < iis.length := by omega
   have hp : (!listed.getD i true) = true := by simp [hi0]
   obtain ⟨α, β, h1, h2, h3⟩ := b59 (λj => !listed.getD j true) i hp (List.range ops.size) List.nodup_range (by simpa using hilt)
   have hu : A7 ops.size listed = α ++ i :: β := h1
   have hu' : A7 ops.size (listed.setIfInBounds i true) = α ++ β := by rw [b43 _ _ hsz i hilt]; exact h2
   have hahead := c6H h1
   have hcomm : ∀ x ∈ α.filterMap (λi => iis[i]?), b1T x iis[i] = true := by
    intro x hx
    obtain ⟨j, hj, hjx⟩ := List.mem_filterMap.1 hx
    obtain ⟨hjl, rfl⟩ := List.getElem?_eq_some_iff.1 hjx
    rcases hpair j i (hahead j hj) hii hjl with hreach | hc
    ·exfalso
     have := hreach.listed (ops := ops) hd o ho hall
     have hju := (h3 j hj).1
     have hjlt : j < listed.size := by omega
     rw [Array.getD_eq_getD_getElem?, Array.getElem?_eq_getElem hjlt] at this hju
     simp at this hju
     rw [this] at hju; cases hju
    ·exact hc
   rw [hu, List.filterMap_append, List.filterMap_cons] at hk
   have hgi : iis[i]? = some iis[i] := d2f hii
   rw [hgi] at hk
   simp only at hk
   obtain ⟨o', pure, bs, ind, ho', hcomp⟩ := hc i hii
   rw [ho] at ho'; cases ho'
   -- what it reads is there
   have hlive : Live s iis[i] := by
    intro hruns n hn
    simp only [n6, List.mem_filterMap] at hn
    obtain ⟨p, hpp, hpn⟩ := hn
    cases p with
    | t j =>
     have hv : VRel St m s.L w (s.ev (.t j)) (a.eval (.tmp j)) := n9 hs (.tmp j)
     generalize s.ev (.t j) = v at hv hpn
     cases v <;> simp [V.name] at hpn
     ·obtain ⟨cells, ad, hL, _⟩ := hv.ptr'
      subst hpn; simp [hL]
     ·obtain ⟨cells, b, cap, hL, _⟩ := hv.sl'
      subst hpn; simp [hL]
    | k c =>
     exfalso
     have hcn := c04 hcomp hpp
     simp only [S.ev] at hpn
     rw [hcn] at hpn; cases hpn
   have hb := d0W iis[i] (β.filterMap λi => iis[i]?) (α.filterMap λi => iis[i]?) s hcomm hlive hk
   refine b8Q hcomp ho hs hE hb λt St' m' a' w' ht hs' hE' => ?_
   refine ih (listed.setIfInBounds i true) St' m' t a' w' (by simpa using hsz) ?_ ?_ hs' hE' ?_
   ·rw [hu'] ; rw [hu] at hcount; simp at hcount ⊢; omega
   ·intro k o' e hk' ho' he hb'
    by_cases e1 : i = k
    ·subst e1
     rw [ho] at ho'; cases ho'
     exact getD_set_true (hall e he hb')
    ·rw [getD_set_ne false e1] at hk'
     exact getD_set_true (hd k o' e hk' ho' he hb')
   ·rw [hu', List.filterMap_append]; exact ht
end
end Go.Ab
