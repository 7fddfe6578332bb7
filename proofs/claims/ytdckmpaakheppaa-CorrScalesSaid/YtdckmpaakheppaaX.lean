/- From one state to a weaker one; functions. -/
import Derived.Test.YtdckmpaakheppaaV
namespace Go.Ab
set_option linter.unusedSimpArgs false
set_option linter.unusedVariables false
open Go

/-- A snapshot through names that are let go: f tells which. -/
inductive SnapF (L : Heap) (f : Nat → Nat → Prop) : V → D → Prop
  | d (x : D) : SnapF L f (.d x) x
  | nil (get : Nat → List D) : SnapF L f .nil (.bor 0 get)
  | sl {X r off n esz ver : Nat} {cells : List V} {get : Nat → List D} (hf : 0 < n → f X r) (h : L.get X r = some cells) (hv : cells.length = ver)
      (hl : off + n * esz ≤ cells.length) (hg : ∀ i, i < n → (get i).length = esz)
      (hs : ∀ i j, i < n → j < esz → SnapF L f (cells.getD (off + i * esz + j) .any) ((get i).getD j default)) : SnapF L f (.sl X r off n esz ver) (.bor n get)
  | ptr {X r off ver : Nat} {cells : List V} {ds : List D} (hf : f X r) (h : L.get X r = some cells) (hv : cells.length = ver) (hl : off + ds.length ≤ cells.length)
      (hs : ∀ j, j < ds.length → SnapF L f (cells.getD (off + j) .any) (ds.getD j default)) : SnapF L f (.ptr X r off ver) (.bptr ds)
  | fn {g : FuncId} {first cap : List V} {first' cap' : List D} (h1 : first'.length = first.length) (h2 : cap'.length = cap.length)
      (hf : ∀ j, j < first.length → SnapF L f (first.getD j .any) (first'.getD j default))
      (hc : ∀ j, j < cap.length → SnapF L f (cap.getD j .any) (cap'.getD j default)) : SnapF L f (.fn g first cap) (.fn g first' cap')

/-- A value of rows L as one of rows L', of which ρ tells where each name was. -/
inductive LeV (L L' : Heap) (ρ : Nat → Nat → Nat × Nat) : V → V → Prop
  | any (v : V) : LeV L L' ρ v .any
  | nil : LeV L L' ρ .nil .nil
  | d {v : V} {x : D} (h : SnapF L (fun X r => ∀ Y q, L'.get Y q ≠ none → ρ Y q ≠ (X, r)) v x) : LeV L L' ρ v (.d x)
  | ptr {X r Y q off ver : Nat} (h : L'.get X r ≠ none) (hr : ρ X r = (Y, q)) : LeV L L' ρ (.ptr Y q off ver) (.ptr X r off ver)
  | sl {X r Y q off n esz ver : Nat} (h : L'.get X r ≠ none) (hr : ρ X r = (Y, q)) : LeV L L' ρ (.sl Y q off n esz ver) (.sl X r off n esz ver)
  | agg {xs ys : List V} (h1 : ys.length = xs.length) (h : ∀ j, j < xs.length → LeV L L' ρ (xs.getD j .any) (ys.getD j .any)) : LeV L L' ρ (.agg xs) (.agg ys)
  | tup {xs ys : List V} (h1 : ys.length = xs.length) (h : ∀ j, j < xs.length → LeV L L' ρ (xs.getD j .any) (ys.getD j .any)) : LeV L L' ρ (.tup xs) (.tup ys)
  | fn {g : FuncId} {a b a' b' : List V} (h1 : a'.length = a.length) (h2 : b'.length = b.length) (ha : ∀ j, j < a.length → LeV L L' ρ (a.getD j .any) (a'.getD j .any))
      (hb : ∀ j, j < b.length → LeV L L' ρ (b.getD j .any) (b'.getD j .any)) : LeV L L' ρ (.fn g a b) (.fn g a' b')

/-- From one state to a weaker one. -/
structure Wk (N : Nat → Prop) (sl : List V) (L : Heap) (sl' : List V) (L' : Heap) (ρ : Nat → Nat → Nat × Nat) : Prop where
  len : sl'.length = sl.length
  slots : ∀ i, i < sl.length → LeV L L' ρ (sl.getD i .any) (sl'.getD i .any)
  rows : ∀ X r cells', L'.get X r = some cells' → ∃ cells, L.get (ρ X r).1 (ρ X r).2 = some cells ∧ cells'.length = cells.length ∧
    ∀ j, j < cells.length → LeV L L' ρ (cells.getD j .any) (cells'.getD j .any)
  inj : ∀ X r Y q, L'.get X r ≠ none → L'.get Y q ≠ none → ρ X r = ρ Y q → X = Y ∧ r = q
  keep : ∀ X r, N X → L.get X r ≠ none → ρ X r = (X, r) ∧ L'.get X r ≠ none

section
variable {P : Program} {N : Nat → Prop} {Q : Ex → S → Prop} {s : S} {St : Nat → Prop} {m : Map} {L L' : Heap} {w : World} {ρ : Nat → Nat → Nat × Nat}

/-- Blocks of names that are let go. -/
def Gone (m : Map) (L : Heap) (f : Nat → Nat → Prop) (b : Nat) : Prop := ∃ X r C, f X r ∧ L.get X r ≠ none ∧ m X r = some (b, C)

theorem SnapF.rel {f : Nat → Nat → Prop} (ho : Objs St m L w) {v : V} {x : D} (h : SnapF L f v x) : ∀ {c : Value}, VRel St m L w v c → DRel (fun b => St b ∨ Gone m L f b) w x c := by
  induction h with
  | d x => intro c hc; cases hc with | d h => exact h.mono (fun _ h => .inl h) (fun _ _ => rfl)
  | nil get => intro c hc; rw [hc.nil']; exact .bor0 _ _ _
  | sl hf hg hver hl hlen hs ih =>
    rename_i X r off n esz ver cells get
    intro c hc
    obtain ⟨cells', a, cap, hL', hv', hc, hncap, ha, hff⟩ := hc.sl'
    rw [hg] at hL'; cases hL'
    subst hc
    by_cases h0 : 0 < n
    · rcases hff hver with hz | ⟨b, C, hm, hC, rfl⟩
      · omega
      · obtain ⟨p1, p2, arr, el, p3, p4, p5, p6⟩ := ho.obj X r cells b C hg hm
        have idx : ∀ i j, i < n → j < esz → off + i * esz + j < cells.length := by
          intro i j hi hj
          have : i * esz + esz ≤ n * esz := by rw [← Nat.succ_mul]; exact Nat.mul_le_mul_right _ hi
          omega
        refine .bor (fun i j => arr.getD (off + i * esz + j) undef) (.inr ⟨X, r, C, hf h0, by rw [hg]; simp, hm⟩) hncap hlen (fun i j hi hj => ?_) fun i j hi hj => ?_
        · exact cell_of_block p3 (by have := idx i j hi hj; omega)
        · exact ih i j hi hj (p6 _ (idx i j hi hj))
    · obtain rfl : n = 0 := by omega
      exact .bor0 _ _ _
  | ptr hf hg hver hl hs ih =>
    rename_i X r off ver cells ds
    intro c hc
    obtain ⟨cells', ad, hL', hv', hc, hff⟩ := hc.ptr'
    rw [hg] at hL'; cases hL'
    subst hc
    obtain ⟨b, C, hm, rfl⟩ := hff hver
    obtain ⟨p1, p2, arr, el, p3, p4, p5, p6⟩ := ho.obj X r cells b C hg hm
    exact .bptr (fun j => arr.getD (off + j) undef) (.inr ⟨X, r, C, hf, by rw [hg]; simp, hm⟩) (fun j hj => cell_of_block p3 (by omega)) fun j hj => ih j hj (p6 _ (by omega))
  | fn h1 h2 hf hc ihf ihc =>
    intro c hc'
    obtain ⟨fs, cs, rfl, e1, e2, r1, r2⟩ := hc'.fn'
    exact .fn (by omega) (by omega) (fun j hj => ihf j (by omega) (r1 j (by omega))) fun j hj => ihc j (by omega) (r2 j (by omega))

theorem LeV.rel (ho : Objs St m L w) (hrow : ∀ X r cells', L'.get X r = some cells' → ∃ cells, L.get (ρ X r).1 (ρ X r).2 = some cells ∧ cells'.length = cells.length) {v v' : V} (h : LeV L L' ρ v v') :
    ∀ {c : Value}, VRel St m L w v c → VRel (fun b => St b ∨ Gone m L (fun X r => ∀ Y q, L'.get Y q ≠ none → ρ Y q ≠ (X, r)) b) (fun X r => m (ρ X r).1 (ρ X r).2) L' w v' c := by
  induction h with
  | any v => intro c _; exact .any c
  | nil => intro c hc; rw [hc.nil']; exact .nil
  | d h => intro c hc; exact .d (h.rel ho hc)
  | ptr h hr =>
    intro c hc
    obtain ⟨cells, ad, hL, hv, hc, hf⟩ := hc.ptr'
    obtain ⟨cells', hL'⟩ := Option.ne_none_iff_exists'.1 h
    obtain ⟨cells2, h2, hl⟩ := hrow _ _ _ hL'
    rw [hr] at h2; rw [hL] at h2; cases h2
    refine .ptr hL' (by omega) ad hc fun e => ?_
    rw [hr]; exact hf (by omega)
  | sl h hr =>
    intro c hc
    obtain ⟨cells, a, cap, hL, hv, hc, hcap, ha, hf⟩ := hc.sl'
    obtain ⟨cells', hL'⟩ := Option.ne_none_iff_exists'.1 h
    obtain ⟨cells2, h2, hl⟩ := hrow _ _ _ hL'
    rw [hr] at h2; rw [hL] at h2; cases h2
    refine .sl hL' (by omega) a cap hc hcap ha fun e => ?_
    rw [hr]; exact hf (by omega)
  | agg h1 h ih => intro c hc; obtain ⟨cs, rfl, hsz, hr⟩ := hc.agg'; exact .agg (by omega) fun j hj => ih j (by omega) (hr j (by omega))
  | tup h1 h ih => intro c hc; obtain ⟨cs, rfl, hsz, hr⟩ := hc.tup'; exact .tup (by omega) fun j hj => ih j (by omega) (hr j (by omega))
  | fn h1 h2 ha hb iha ihb =>
    intro c hc; obtain ⟨fs, cs, rfl, e1, e2, r1, r2⟩ := hc.fn'
    exact .fn (by omega) (by omega) (fun j hj => iha j (by omega) (r1 j (by omega))) fun j hj => ihb j (by omega) (r2 j (by omega))

/-- A weaker state is as good. -/
theorem Wk.rel {sl sl' : List V} {E : Env} (hN : ∀ X r, E.L.get X r ≠ none → N X) (h : Wk N sl L sl' L' ρ) (ho : Objs St m L w) (hE : Since E St m L w) {cs : List Value}
    (hlen : cs.length = sl.length) (hs : ∀ i, i < sl.length → VRel St m L w (sl.getD i .any) (cs.getD i undef)) :
    ∃ St' m', Objs St' m' L' w ∧ Since E St' m' L' w ∧ ∀ i, i < sl'.length → VRel St' m' L' w (sl'.getD i .any) (cs.getD i undef) := by
  have hrow : ∀ X r cells', L'.get X r = some cells' → ∃ cells, L.get (ρ X r).1 (ρ X r).2 = some cells ∧ cells'.length = cells.length := by
    intro X r cells' hX
    obtain ⟨cells, h1, h2, _⟩ := h.rows X r cells' hX
    exact ⟨cells, h1, h2⟩
  have hgone : ∀ b, Gone m L (fun X r => ∀ Y q, L'.get Y q ≠ none → ρ Y q ≠ (X, r)) b → b < w.heap.size ∧ ∀ X r C, L'.get X r ≠ none → m (ρ X r).1 (ρ X r).2 ≠ some (b, C) := by
    rintro b ⟨Y, q, C, hf, hL, hm⟩
    obtain ⟨cells, hc⟩ := Option.ne_none_iff_exists'.1 hL
    refine ⟨(ho.obj Y q cells b C hc hm).1, fun X r C' hX hmX => ?_⟩
    obtain ⟨cells', hX'⟩ := Option.ne_none_iff_exists'.1 hX
    obtain ⟨cells2, h2, _⟩ := hrow X r cells' hX'
    obtain ⟨e1, e2⟩ := ho.inj _ _ _ _ _ _ _ (by rw [h2]; simp) hL hmX hm
    exact hf X r hX (Prod.ext e1 e2)
  refine ⟨fun b => St b ∨ Gone m L (fun X r => ∀ Y q, L'.get Y q ≠ none → ρ Y q ≠ (X, r)) b, fun X r => m (ρ X r).1 (ρ X r).2, ⟨fun b hb => ?_, fun X r cells' hX hm => ?_, fun X r cells' b C hX hm => ?_, fun X r Y q b C C' h1 h2 h3 h4 => ?_⟩, ⟨hE.frame, ⟨fun b hb => Or.inl (hE.ext.st b hb), hE.ext.keep, fun X r cells hX => ?_⟩, fun b hb => ?_, fun X r b C h1 h2 => ?_⟩, fun i hi => ?_⟩
  · rcases hb with hb | hb
    · exact ho.st b hb
    · exact (hgone b hb).1
  · obtain ⟨cells, h1, h2⟩ := hrow X r cells' hX
    have := ho.nil _ _ _ h1 hm
    exact List.eq_nil_of_length_eq_zero (by rw [h2, this]; rfl)
  · obtain ⟨cells, h1, h2, h3⟩ := h.rows X r cells' hX
    obtain ⟨p1, p2, arr, el, p3, p4, p5, p6⟩ := ho.obj _ _ cells b C h1 hm
    refine ⟨p1, fun hst => ?_, arr, el, p3, p4, by omega, fun j hj => (h3 j (by omega)).rel ho hrow (p6 j (by omega))⟩
    rcases hst with hst | hst
    · exact p2 hst
    · exact (hgone b hst).2 X r C (by rw [hX]; simp) hm
  · have g : ∀ X r, L'.get X r ≠ none → L.get (ρ X r).1 (ρ X r).2 ≠ none := by
      intro X r hX
      obtain ⟨cells', hX'⟩ := Option.ne_none_iff_exists'.1 hX
      obtain ⟨cells2, h2, _⟩ := hrow X r cells' hX'
      rw [h2]; simp
    obtain ⟨e1, e2⟩ := ho.inj _ _ _ _ _ _ _ (g X r h1) (g Y q h2) h3 h4
    exact h.inj X r Y q h1 h2 (Prod.ext e1 e2)
  · obtain ⟨c2, h2, hle, he⟩ := hE.ext.own X r cells hX
    obtain ⟨k1, k2⟩ := h.keep X r (hN X r (by rw [hX]; simp)) (by rw [h2]; simp)
    obtain ⟨c3, h3⟩ := Option.ne_none_iff_exists'.1 k2
    obtain ⟨c4, h4, h5⟩ := hrow X r c3 h3
    rw [k1] at h4; rw [h2] at h4; cases h4
    refine ⟨c3, h3, by omega, fun e => ?_⟩
    rw [k1]; exact he (by omega)
  · rcases hb with hb | hb
    · exact hE.st b hb
    · obtain ⟨Y, q, C, hf, hL, hm⟩ := hb
      rcases hE.src Y q b C hL hm with ⟨h1, _⟩ | h1
      · have hn := hN Y q h1
        obtain ⟨k1, k2⟩ := h.keep Y q hn hL
        exact absurd k1 (hf Y q k2)
      · exact .inr h1
  · obtain ⟨cells', hX'⟩ := Option.ne_none_iff_exists'.1 h1
    obtain ⟨cells2, hg2, _⟩ := hrow X r cells' hX'
    rcases hE.src _ _ b C (by rw [hg2]; simp) h2 with ⟨h3, h4⟩ | h3
    · have hn := hN _ _ h3
      obtain ⟨k1, k2⟩ := h.keep (ρ X r).1 (ρ X r).2 hn (by rw [hg2]; simp)
      obtain ⟨e1, e2⟩ := h.inj X r _ _ h1 k2 (by rw [k1])
      rw [← e1, ← e2] at h3 h4
      exact .inl ⟨h3, h4⟩
    · exact .inr h3
  · exact (h.slots i (by rw [← h.len]; exact hi)).rel ho hrow (hs i (by rw [← h.len]; exact hi))

/-- Code that serves a weaker state serves the state. -/
theorem W_weaken {c : C} {s s' : S} (ρ : Nat → Nat → Nat × Nat) (h : Wk N s.sl s.L s'.sl s'.L ρ) (hw : W P N c Q s') : W P N c Q s := by
  intro hm code hc E hN St m a w hs hE
  obtain ⟨St', m', h1, h2, h3⟩ := h.rel (E := E) hN hs.objs hE (cs := a.tmps.toList) (by simp [hs.size]) (fun i hi => by
    have := hs.slots i hi
    rw [Array.getD_eq_getD_getElem?] at this
    rw [List.getD_eq_getElem?_getD]; simpa using this)
  refine hw hm code hc E hN St' m' a w ⟨h1, by rw [hs.size, h.len], fun i hi => ?_, hs.calm⟩ h2
  have := h3 i hi
  rw [List.getD_eq_getElem?_getD (l := a.tmps.toList)] at this
  rw [Array.getD_eq_getD_getElem?]; simpa using this

/-- What comes of code is as good where it is weaker. -/
theorem W.post {c : C} {s : S} {Q' : Ex → S → Prop} (h : W P N c Q s) (hq : ∀ e t, Q e t → ∃ t' ρ, Wk N t.sl t.L t'.sl t'.L ρ ∧ Q' e t') : W P N c Q' s := by
  intro hm code hc E hN St m a w hs hE
  have go : ∀ (e : Ex) (a' : Act) (w' : World), (∃ s St m, Q e s ∧ SimS St m s a' w' ∧ Since E St m s.L w') → ∃ s St m, Q' e s ∧ SimS St m s a' w' ∧ Since E St m s.L w' := by
    rintro e a' w' ⟨t, St1, m1, ht, hs1, hE1⟩
    obtain ⟨t', ρ, hwk, ht'⟩ := hq e t ht
    obtain ⟨St', m', h1, h2, h3⟩ := hwk.rel (E := E) hN hs1.objs hE1 (cs := a'.tmps.toList) (by simp [hs1.size]) (fun i hi => by
      have := hs1.slots i hi
      rw [Array.getD_eq_getD_getElem?] at this
      rw [List.getD_eq_getElem?_getD]; simpa using this)
    refine ⟨t', St', m', ht', ⟨h1, by rw [hs1.size, hwk.len], fun i hi => ?_, hs1.calm⟩, h2⟩
    have := h3 i hi
    rw [List.getD_eq_getElem?_getD (l := a'.tmps.toList)] at this
    rw [Array.getD_eq_getD_getElem?]; simpa using this
  refine wp_mono (h hm code hc E hN St m a w hs hE) fun e a' w' hp => ?_
  cases e with
  | normal => exact go .normal a' w' hp
  | exit id => exact go (.exit id) a' w' hp
  | ret => exact go .ret a' w' hp
  | _ => exact hp

end
end Go.Ab
