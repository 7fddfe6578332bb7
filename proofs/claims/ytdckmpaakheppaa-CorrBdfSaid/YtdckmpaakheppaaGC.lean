/- The lib, part 3: V, X, Y, Z, ZB, ZC, ZD, ZE, ZJ, ZK, ZM. -/
import Derived.Test.YtdckmpaakheppaaGB
import Derived.Laws.BitsLemmas
import Derived.Below
import Derived.SizedLaws
import Derived.ChangeSlices
/- Code: what it promises; from one state to a weaker one. -/
namespace Go.Ab
set_option linter.unusedSimpArgs false
set_option linter.unusedVariables false
open Go

inductive C where
  | skip
  | reg (l : List II)
  | seq (a b : C)
  | cond (o : Opd) (a b : C)
  | block (id : Nat) (c : C)
  | loop (c : C)
  | exit (id : Nat)
  | ret

def compC (P : Program) : Code → Option C
  | .skip => some .skip
  | .region _ ops draw => (if draw then compDraw P ops.toList else compSeq P ops.toList).map .reg
  | .seq a b => match compC P a, compC P b with
    | some x, some y => some (.seq x y)
    | _, _ => none
  | .cond c a b => match compC P a, compC P b with
    | some x, some y => some (.cond (Opd.of c) x y)
    | _, _ => none
  | .block id b => (compC P b).map (.block id)
  | .loop b => (compC P b).map .loop
  | .exit id => some (.exit id)
  | .ret => some .ret
  | _ => none

inductive Ex where
  | normal
  | exit (id : Nat)
  | ret

def PostW (E : Env) (Q : Ex → S → Prop) : Exit → Act → World → Prop
  | .normal, a, w => ∃ s St m, Q .normal s ∧ SimS St m s a w ∧ Since E St m s.L w
  | .exit id, a, w => ∃ s St m, Q (.exit id) s ∧ SimS St m s a w ∧ Since E St m s.L w
  | .ret, a, w => ∃ s St m, Q .ret s ∧ SimS St m s a w ∧ Since E St m s.L w
  | _, _, _ => False

/-- What a piece of code promises of a state; names of N are kept. -/
def W (P : Program) (N : Nat → Prop) (c : C) (Q : Ex → S → Prop) (s : S) : Prop :=
  P.follows .mixedOrders = true → ∀ code, compC P code = some c → ∀ (E : Env), (∀ X r, E.L.get X r ≠ none → N X) → ∀ (St : Nat → Prop) (m : Map) (a : Act) (w : World),
    SimS St m s a w → Since E St m s.L w → code.wp P (PostW E Q) a w

def Ex.then (next : S → Prop) (Q : Ex → S → Prop) : Ex → S → Prop
  | .normal, s => next s
  | e, s => Q e s

def Ex.inBlock (id : Nat) (Q : Ex → S → Prop) : Ex → S → Prop
  | .exit i, s => if i = id then Q .normal s else Q (.exit i) s
  | e, s => Q e s

section
variable {P : Program} {N : Nat → Prop} {Q : Ex → S → Prop} {s : S}

theorem PostW.mono {E : Env} {Q Q' : Ex → S → Prop} (h : ∀ e s, Q e s → Q' e s) : ∀ e a w, PostW E Q e a w → PostW E Q' e a w := by
  intro e a w hp
  cases e <;> first | exact hp | (obtain ⟨s, St, m, h1, h2, h3⟩ := hp; exact ⟨s, St, m, h _ _ h1, h2, h3⟩)

theorem W.mono {c : C} {Q' : Ex → S → Prop} (h : W P N c Q s) (hq : ∀ e s, Q e s → Q' e s) : W P N c Q' s :=
  fun hm code hc E hN St m a w hs hE => wp_mono (h hm code hc E hN St m a w hs hE) (PostW.mono hq)

theorem W_skip (h : Q .normal s) : W P N .skip Q s := by
  intro hm code hc E hN St m a w hs hE
  cases code <;> simp only [compC, reduceCtorEq, Option.map_eq_some_iff, and_false, exists_false] at hc
  case skip => exact wp_skip ⟨s, St, m, h, hs, hE⟩
  all_goals first | (cases hc; done) | (split at hc <;> cases hc)

theorem W_exit {id : Nat} (h : Q (.exit id) s) : W P N (.exit id) Q s := by
  intro hm code hc E hN St m a w hs hE
  cases code <;> simp only [compC, reduceCtorEq, Option.map_eq_some_iff, and_false, exists_false] at hc
  case exit i => cases hc; exact wp_exit ⟨s, St, m, h, hs, hE⟩
  all_goals first | (cases hc; done) | (split at hc <;> cases hc)

theorem W_ret (h : Q .ret s) : W P N .ret Q s := by
  intro hm code hc E hN St m a w hs hE
  cases code <;> simp only [compC, reduceCtorEq, Option.map_eq_some_iff, and_false, exists_false] at hc
  case ret => exact wp_ret ⟨s, St, m, h, hs, hE⟩
  all_goals first | (cases hc; done) | (split at hc <;> cases hc)

theorem mapM_range {α : Type} {n : Nat} {f : Nat → Option α} {r : List α} (h : (List.range n).mapM f = some r) : r.length = n ∧ ∀ k, (hk : k < r.length) → f k = some r[k] := by
  obtain ⟨h1, h2⟩ := mapM_some f _ _ h
  refine ⟨by simpa using h1, fun k hk => ?_⟩
  have := h2 k (by simp at h1; simp; omega) hk
  simpa using this

theorem compSeq_spec {ops : List Oper} {iis : List II} (h : compSeq P ops = some iis) : iis.length = ops.length ∧ ∀ k, (hk : k < iis.length) → ∃ o, ops[k]? = some o ∧ compII P ops 0 [] [] k o = some iis[k] := by
  obtain ⟨h1, h2⟩ := mapM_range h
  refine ⟨h1, fun k hk => ?_⟩
  have := h2 k hk
  obtain ⟨o, ho, hc⟩ := Option.bind_eq_some_iff.1 this
  exact ⟨o, ho, hc⟩

theorem compDraw0_spec {early : Bool} {ops : List Oper} {iis : List II} (h : compDraw0 P early ops = some iis) : iis.length = ops.length ∧ (∀ k, (hk : k < iis.length) → ∃ o pure bs ind, ops[k]? = some o ∧ compII P ops pure bs ind k o = some iis[k]) ∧
    (∀ k o e, ops[k]? = some o → e ∈ o.after → Region.binds .any e = true → e.on < k) ∧
    (∀ i j, i < j → (hj : j < iis.length) → (hi : i < iis.length) → Reach ops i j ∨ commB iis[i] iis[j] = true) := by
  unfold compDraw0 at h
  simp only at h
  split at h
  · cases h
  rename_i raw hraw
  split at h
  · cases h
  rename_i iis' hiis
  split at h
  case isFalse => cases h
  rename_i hcheck
  cases h
  rw [Bool.and_eq_true] at hcheck
  obtain ⟨hdown, hpairs⟩ := hcheck
  obtain ⟨h1, h2⟩ := mapM_range hiis
  refine ⟨h1, fun k hk => ?_, fun k o e ho he hb => ?_, fun i j hij hj hi => ?_⟩
  · obtain ⟨o, ho, hc⟩ := Option.bind_eq_some_iff.1 (h2 k hk)
    exact ⟨o, _, _, _, ho, hc⟩
  · have hk : k < ops.length := (List.getElem?_eq_some_iff.1 ho).1
    have := List.all_eq_true.1 hdown k (by simpa using hk)
    simp only [ho] at this
    have := List.all_eq_true.1 this e (by simpa using he)
    simpa [hb] using this
  · have h3 := List.all_eq_true.1 hpairs j (by simp; omega)
    have h4 := List.all_eq_true.1 h3 i (by simpa using hij)
    simp only [List.getElem?_eq_getElem hi, List.getElem?_eq_getElem hj, Bool.or_eq_true] at h4
    rcases h4 with h4 | h4
    · exact .inl (masks_spec (ops := ops) ops [] (fun j _ => by simp) (fun j hj => by simp at hj) j i h4)
    · exact .inr h4

theorem compDraw_spec {ops : List Oper} {iis : List II} (h : compDraw P ops = some iis) : iis.length = ops.length ∧ (∀ k, (hk : k < iis.length) → ∃ o pure bs ind, ops[k]? = some o ∧ compII P ops pure bs ind k o = some iis[k]) ∧
    (∀ k o e, ops[k]? = some o → e ∈ o.after → Region.binds .any e = true → e.on < k) ∧
    (∀ i j, i < j → (hj : j < iis.length) → (hi : i < iis.length) → Reach ops i j ∨ commB iis[i] iis[j] = true) := by
  unfold compDraw at h
  split at h
  · cases h; exact compDraw0_spec (by assumption)
  · exact compDraw0_spec h

theorem W_reg (base : Nat) {iis : List II} (h : wpI P base iis (Q .normal) s) : W P N (.reg iis) Q s := by
  intro hm code hc E hN St m a w hs hE
  cases code <;> simp only [compC, reduceCtorEq, Option.map_eq_some_iff, and_false, exists_false] at hc
  case region id ops draw =>
    obtain ⟨l, hl, hcc⟩ := hc
    cases hcc
    cases draw with
    | false =>
      simp only [Bool.false_eq_true, if_false] at hl
      obtain ⟨h1, h2⟩ := compSeq_spec hl
      refine wp_region (seq_sound (E := E) (base := base) (K := Q .normal) (List.range ops.size) iis (by simpa using h1) (fun j hj1 hj2 => ?_) St m s a w hs hE h fun t St' m' a' w' ht hs' hE' => ⟨t, St', m', ht, hs', hE'⟩)
      obtain ⟨o, ho, hc⟩ := h2 j hj2
      simp only [List.getElem_range]
      exact ⟨o, 0, [], [], by simpa using ho, hc⟩
    | true =>
      simp only [if_true] at hl
      obtain ⟨h1, h2, h3, h4⟩ := compDraw_spec hl
      have hlen : iis.length = ops.size := by simpa using h1
      refine wp_region_any hm (any_sound (E := E) (base := base) (K := Q .normal) (iis := iis) hlen (fun k hk => ?_) (fun k o e ho he hb => h3 k o e (by simpa using ho) he hb) h4
        (fun t St' m' a' w' ht hs' hE' => ⟨t, St', m', ht, hs', hE'⟩) ops.size _ St m s a _ (by simp) ?_ (fun k o e hk => ?_) (hs.draw (.drew w _)) (hE.draw (.drew w _)) ?_)
      · obtain ⟨o, pure, bs, ind, ho, hc⟩ := h2 k hk
        exact ⟨o, pure, bs, ind, by simpa using ho, hc⟩
      · have : unlisted ops.size (Array.replicate ops.size false) = List.range ops.size := by
          unfold unlisted
          rw [List.filter_eq_self]
          intro i hi
          have : i < ops.size := by simpa using hi
          simp [this]
        rw [this]; simp
      · exfalso
        by_cases hlt : k < ops.size
        · simp [hlt] at hk
        · simp [hlt] at hk
      · have : unlisted ops.size (Array.replicate ops.size false) = List.range ops.size := by
          unfold unlisted
          rw [List.filter_eq_self]
          intro i hi
          have : i < ops.size := by simpa using hi
          simp [this]
        rw [this, ← hlen]
        have e : (List.range iis.length).filterMap (fun i => iis[i]?) = iis := by
          refine List.ext_getElem? fun i => ?_
          have : ∀ l : List II, (List.range l.length).filterMap (fun i => l[i]?) = l := by
            intro l
            induction l with
            | nil => rfl
            | cons x l ih =>
              rw [List.length_cons, List.range_succ_eq_map, List.filterMap_cons]
              simp only [List.getElem?_cons_zero, List.filterMap_map]
              congr 1
          rw [this]
        rw [e]; exact h
  all_goals first | (cases hc; done) | (split at hc <;> cases hc)

theorem W_seq {x y : C} (h : W P N x (Ex.then (fun t => W P N y Q t) Q) s) : W P N (.seq x y) Q s := by
  intro hm code hc E hN St m a w hs hE
  cases code <;> simp only [compC, reduceCtorEq, Option.map_eq_some_iff, and_false, exists_false] at hc
  case seq ca cb =>
    split at hc
    · rename_i x' y' h1 h2
      cases hc
      refine wp_seq (wp_mono (h hm ca h1 E hN St m a w hs hE) fun e a' w' hp => ?_)
      cases e with
      | normal => obtain ⟨t, St', m', ht, hs', hE'⟩ := hp; exact ht hm cb h2 E hN St' m' a' w' hs' hE'
      | _ => exact hp
    · cases hc
  all_goals first | (cases hc; done) | (split at hc <;> cases hc)

theorem W_cond {o : Opd} {x y : C} {t : Bool} (ho : s.ev o = .d (.bool t)) (h1 : t = true → W P N x Q s) (h2 : t = false → W P N y Q s) : W P N (.cond o x y) Q s := by
  intro hm code hc E hN St m a w hs hE
  cases code <;> simp only [compC, reduceCtorEq, Option.map_eq_some_iff, and_false, exists_false] at hc
  case cond c ca cb =>
    split at hc
    · rename_i x' y' e1 e2
      cases hc
      have hv := ev_rel hs c
      rw [ho] at hv
      exact wp_cond_split hv.bool (fun ht => h1 ht hm ca e1 E hN St m a w hs hE) fun ht => h2 ht hm cb e2 E hN St m a w hs hE
    · cases hc
  all_goals first | (cases hc; done) | (split at hc <;> cases hc)

theorem W_block {id : Nat} {c : C} (h : W P N c (Ex.inBlock id Q) s) : W P N (.block id c) Q s := by
  intro hm code hc E hN St m a w hs hE
  cases code <;> simp only [compC, reduceCtorEq, Option.map_eq_some_iff, and_false, exists_false] at hc
  case block i cb =>
    obtain ⟨c', hc', hcc⟩ := hc
    cases hcc
    refine wp_block (wp_mono (h hm cb hc' E hN St m a w hs hE) fun e a' w' hp => ?_)
    cases e with
    | exit j =>
      obtain ⟨t, St', m', ht, hs', hE'⟩ := hp
      simp only [Ex.inBlock] at ht
      simp only [Exit.inBlock]
      split
      · rename_i e; simp only [e, if_true] at ht; exact ⟨t, St', m', ht, hs', hE'⟩
      · rename_i e; simp only [e, if_false] at ht; exact ⟨t, St', m', ht, hs', hE'⟩
    | _ => exact hp
  all_goals first | (cases hc; done) | (split at hc <;> cases hc)

/-- A loop: what holds at each round's head, with a number that goes down. -/
theorem W_loop {c : C} (I : Nat → S → Prop) {n : Nat} (h0 : I n s) (round : ∀ n s, I n s → W P N c (Ex.then (fun t => ∃ k, k < n ∧ I k t) Q) s) : W P N (.loop c) Q s := by
  intro hm code hc E hN St m a w hs hE
  cases code <;> simp only [compC, reduceCtorEq, Option.map_eq_some_iff, and_false, exists_false] at hc
  case loop cb =>
    obtain ⟨c', hc', hcc⟩ := hc
    cases hcc
    have key : ∀ n a w, (∃ s St m, I n s ∧ SimS St m s a w ∧ Since E St m s.L w) → ∀ (b : Frame) (k : List Item) (cs : List Frame),
        ∃ e a' w', PostW E Q e a' w' ∧ Arrives P (lone (b.at a (.code cb :: .inLoop cb :: k)) cs w) b k cs e a' w' := by
      intro n
      induction n using Nat.strongRecOn with
      | _ n ih =>
        intro a w ⟨s, St, m, hI, hs, hE⟩ b k cs
        obtain ⟨e, a1, w1, hq, harr⟩ := round n s hI hm cb hc' E hN St m a w hs hE b (.inLoop cb :: k) cs
        cases e with
        | normal =>
          obtain ⟨t, St', m', ⟨j, hj, hIt⟩, hs', hE'⟩ := hq
          obtain ⟨e2, a2, w2, hq2, harr2⟩ := ih j hj a1 w1 ⟨t, St', m', hIt, hs', hE'⟩ b k cs
          exact ⟨e2, a2, w2, hq2, .of_steps (Steps.trans harr (.one step_inLoop)) harr2⟩
        | exit id => exact ⟨.exit id, a1, w1, hq, .pass (x := .inLoop cb) rfl (fun _ _ => .inl (by simp)) harr⟩
        | ret => exact ⟨.ret, a1, w1, hq, .pass (x := .inLoop cb) rfl (fun _ _ => .inl (by simp)) harr⟩
        | goto l => exact hq.elim
        | panic ch => exact hq.elim
        | outgrown => exact hq.elim
    intro b k cs
    obtain ⟨e, a', w', hq, harr⟩ := key n a w ⟨s, St, m, h0, hs, hE⟩ b k cs
    exact ⟨e, a', w', hq, .of_steps (.one step_loop) harr⟩
  all_goals first | (cases hc; done) | (split at hc <;> cases hc)

/-- All but loops, at once. -/
def wpC (P : Program) (N : Nat → Prop) : C → (Ex → S → Prop) → S → Prop
  | .skip, Q, s => Q .normal s
  | .reg iis, Q, s => wpI P s.L.next iis (Q .normal) s
  | .seq a b, Q, s => wpC P N a (Ex.then (fun t => wpC P N b Q t) Q) s
  | .cond o a b, Q, s => match s.ev o with
    | .d (.bool t) => (t = true → wpC P N a Q s) ∧ (t = false → wpC P N b Q s)
    | _ => False
  | .block id c, Q, s => wpC P N c (Ex.inBlock id Q) s
  | .loop c, Q, s => W P N (.loop c) Q s
  | .exit id, Q, s => Q (.exit id) s
  | .ret, Q, s => Q .ret s

theorem W_of_wpC : ∀ (c : C) (Q : Ex → S → Prop) (s : S), wpC P N c Q s → W P N c Q s := by
  intro c
  induction c with
  | skip => intro Q s h; exact W_skip h
  | reg l => intro Q s h; exact W_reg _ h
  | seq a b iha ihb =>
    intro Q s h
    refine W_seq ((iha _ s h).mono fun e t ht => ?_)
    cases e with
    | normal => exact ihb Q t ht
    | _ => exact ht
  | cond o a b iha ihb =>
    intro Q s h
    simp only [wpC] at h
    split at h
    · rename_i t ht; exact W_cond ht (fun e => iha Q s (h.1 e)) fun e => ihb Q s (h.2 e)
    · exact h.elim
  | block id c ih => intro Q s h; exact W_block (ih _ s h)
  | loop c _ => intro Q s h; exact h
  | exit id => intro Q s h; exact W_exit h
  | ret => intro Q s h; exact W_ret h

end
end Go.Ab

/- From one state to a weaker one; functions. -/
namespace Go.Ab
set_option linter.unusedSimpArgs false
set_option linter.unusedVariables false
open Go

/-- A snapshot through names that are let go: f tells which. -/
inductive SnapF (L : Heap) (f : Nat → Nat → Prop) : V → D → Prop
  | d (x : D) : SnapF L f (.d x) x
  | nil (get : Nat → List D) : SnapF L f .nil (.bor 0 get)
  | sl {X r off n esz ver : Nat} {cells : List V} {get : Nat → List D} (hf : 0 < n → f X r) (h : L.get X r = some cells) (hv : cells.length = ver)
      (hl : off + n * esz ≤ cells.length) (hg : ∀ i, i < n → (get i).length = esz)
      (hs : ∀ i j, i < n → j < esz → SnapF L f (cells.getD (off + i * esz + j) .any) ((get i).getD j default)) : SnapF L f (.sl X r off n esz ver) (.bor n get)
  | ptr {X r off ver : Nat} {cells : List V} {ds : List D} (hf : f X r) (h : L.get X r = some cells) (hv : cells.length = ver) (hl : off + ds.length ≤ cells.length)
      (hs : ∀ j, j < ds.length → SnapF L f (cells.getD (off + j) .any) (ds.getD j default)) : SnapF L f (.ptr X r off ver) (.bptr ds)
  | fn {g : FuncId} {first cap : List V} {first' cap' : List D} (h1 : first'.length = first.length) (h2 : cap'.length = cap.length)
      (hf : ∀ j, j < first.length → SnapF L f (first.getD j .any) (first'.getD j default))
      (hc : ∀ j, j < cap.length → SnapF L f (cap.getD j .any) (cap'.getD j default)) : SnapF L f (.fn g first cap) (.fn g first' cap')

/-- A value of rows L as one of rows L', of which ρ tells where each name was. -/
inductive LeV (L L' : Heap) (ρ : Nat → Nat → Nat × Nat) : V → V → Prop
  | any (v : V) : LeV L L' ρ v .any
  | nil : LeV L L' ρ .nil .nil
  | d {v : V} {x : D} (h : SnapF L (fun X r => ∀ Y q, L'.get Y q ≠ none → ρ Y q ≠ (X, r)) v x) : LeV L L' ρ v (.d x)
  | ptr {X r Y q off ver : Nat} (h : L'.get X r ≠ none) (hr : ρ X r = (Y, q)) : LeV L L' ρ (.ptr Y q off ver) (.ptr X r off ver)
  | sl {X r Y q off n esz ver : Nat} (h : L'.get X r ≠ none) (hr : ρ X r = (Y, q)) : LeV L L' ρ (.sl Y q off n esz ver) (.sl X r off n esz ver)
  | agg {xs ys : List V} (h1 : ys.length = xs.length) (h : ∀ j, j < xs.length → LeV L L' ρ (xs.getD j .any) (ys.getD j .any)) : LeV L L' ρ (.agg xs) (.agg ys)
  | tup {xs ys : List V} (h1 : ys.length = xs.length) (h : ∀ j, j < xs.length → LeV L L' ρ (xs.getD j .any) (ys.getD j .any)) : LeV L L' ρ (.tup xs) (.tup ys)
  | fn {g : FuncId} {a b a' b' : List V} (h1 : a'.length = a.length) (h2 : b'.length = b.length) (ha : ∀ j, j < a.length → LeV L L' ρ (a.getD j .any) (a'.getD j .any))
      (hb : ∀ j, j < b.length → LeV L L' ρ (b.getD j .any) (b'.getD j .any)) : LeV L L' ρ (.fn g a b) (.fn g a' b')

/-- From one state to a weaker one. -/
structure Wk (N : Nat → Prop) (sl : List V) (L : Heap) (sl' : List V) (L' : Heap) (ρ : Nat → Nat → Nat × Nat) : Prop where
  len : sl'.length = sl.length
  slots : ∀ i, i < sl.length → LeV L L' ρ (sl.getD i .any) (sl'.getD i .any)
  rows : ∀ X r cells', L'.get X r = some cells' → ∃ cells, L.get (ρ X r).1 (ρ X r).2 = some cells ∧ cells'.length = cells.length ∧
    ∀ j, j < cells.length → LeV L L' ρ (cells.getD j .any) (cells'.getD j .any)
  inj : ∀ X r Y q, L'.get X r ≠ none → L'.get Y q ≠ none → ρ X r = ρ Y q → X = Y ∧ r = q
  keep : ∀ X r, N X → L.get X r ≠ none → ρ X r = (X, r) ∧ L'.get X r ≠ none

section
variable {P : Program} {N : Nat → Prop} {Q : Ex → S → Prop} {s : S} {St : Nat → Prop} {m : Map} {L L' : Heap} {w : World} {ρ : Nat → Nat → Nat × Nat}

/-- Blocks of names that are let go. -/
def Gone (m : Map) (L : Heap) (f : Nat → Nat → Prop) (b : Nat) : Prop := ∃ X r C, f X r ∧ L.get X r ≠ none ∧ m X r = some (b, C)

theorem SnapF.rel {f : Nat → Nat → Prop} (ho : Objs St m L w) {v : V} {x : D} (h : SnapF L f v x) : ∀ {c : Value}, VRel St m L w v c → DRel (fun b => St b ∨ Gone m L f b) w x c := by
  induction h with
  | d x => intro c hc; cases hc with | d h => exact h.mono (fun _ h => .inl h) (fun _ _ => rfl)
  | nil get => intro c hc; rw [hc.nil']; exact .bor0 _ _ _
  | sl hf hg hver hl hlen hs ih =>
    rename_i X r off n esz ver cells get
    intro c hc
    obtain ⟨cells', a, cap, hL', hv', hc, hncap, ha, hff⟩ := hc.sl'
    rw [hg] at hL'; cases hL'
    subst hc
    by_cases h0 : 0 < n
    · rcases hff hver with hz | ⟨b, C, hm, hC, rfl⟩
      · omega
      · obtain ⟨p1, p2, arr, el, p3, p4, p5, p6⟩ := ho.obj X r cells b C hg hm
        have idx : ∀ i j, i < n → j < esz → off + i * esz + j < cells.length := by
          intro i j hi hj
          have : i * esz + esz ≤ n * esz := by rw [← Nat.succ_mul]; exact Nat.mul_le_mul_right _ hi
          omega
        refine .bor (fun i j => arr.getD (off + i * esz + j) undef) (.inr ⟨X, r, C, hf h0, by rw [hg]; simp, hm⟩) hncap hlen (fun i j hi hj => ?_) fun i j hi hj => ?_
        · exact cell_of_block p3 (by have := idx i j hi hj; omega)
        · exact ih i j hi hj (p6 _ (idx i j hi hj))
    · obtain rfl : n = 0 := by omega
      exact .bor0 _ _ _
  | ptr hf hg hver hl hs ih =>
    rename_i X r off ver cells ds
    intro c hc
    obtain ⟨cells', ad, hL', hv', hc, hff⟩ := hc.ptr'
    rw [hg] at hL'; cases hL'
    subst hc
    obtain ⟨b, C, hm, rfl⟩ := hff hver
    obtain ⟨p1, p2, arr, el, p3, p4, p5, p6⟩ := ho.obj X r cells b C hg hm
    exact .bptr (fun j => arr.getD (off + j) undef) (.inr ⟨X, r, C, hf, by rw [hg]; simp, hm⟩) (fun j hj => cell_of_block p3 (by omega)) fun j hj => ih j hj (p6 _ (by omega))
  | fn h1 h2 hf hc ihf ihc =>
    intro c hc'
    obtain ⟨fs, cs, rfl, e1, e2, r1, r2⟩ := hc'.fn'
    exact .fn (by omega) (by omega) (fun j hj => ihf j (by omega) (r1 j (by omega))) fun j hj => ihc j (by omega) (r2 j (by omega))

theorem LeV.rel (ho : Objs St m L w) (hrow : ∀ X r cells', L'.get X r = some cells' → ∃ cells, L.get (ρ X r).1 (ρ X r).2 = some cells ∧ cells'.length = cells.length) {v v' : V} (h : LeV L L' ρ v v') :
    ∀ {c : Value}, VRel St m L w v c → VRel (fun b => St b ∨ Gone m L (fun X r => ∀ Y q, L'.get Y q ≠ none → ρ Y q ≠ (X, r)) b) (fun X r => m (ρ X r).1 (ρ X r).2) L' w v' c := by
  induction h with
  | any v => intro c _; exact .any c
  | nil => intro c hc; rw [hc.nil']; exact .nil
  | d h => intro c hc; exact .d (h.rel ho hc)
  | ptr h hr =>
    intro c hc
    obtain ⟨cells, ad, hL, hv, hc, hf⟩ := hc.ptr'
    obtain ⟨cells', hL'⟩ := Option.ne_none_iff_exists'.1 h
    obtain ⟨cells2, h2, hl⟩ := hrow _ _ _ hL'
    rw [hr] at h2; rw [hL] at h2; cases h2
    refine .ptr hL' (by omega) ad hc fun e => ?_
    rw [hr]; exact hf (by omega)
  | sl h hr =>
    intro c hc
    obtain ⟨cells, a, cap, hL, hv, hc, hcap, ha, hf⟩ := hc.sl'
    obtain ⟨cells', hL'⟩ := Option.ne_none_iff_exists'.1 h
    obtain ⟨cells2, h2, hl⟩ := hrow _ _ _ hL'
    rw [hr] at h2; rw [hL] at h2; cases h2
    refine .sl hL' (by omega) a cap hc hcap ha fun e => ?_
    rw [hr]; exact hf (by omega)
  | agg h1 h ih => intro c hc; obtain ⟨cs, rfl, hsz, hr⟩ := hc.agg'; exact .agg (by omega) fun j hj => ih j (by omega) (hr j (by omega))
  | tup h1 h ih => intro c hc; obtain ⟨cs, rfl, hsz, hr⟩ := hc.tup'; exact .tup (by omega) fun j hj => ih j (by omega) (hr j (by omega))
  | fn h1 h2 ha hb iha ihb =>
    intro c hc; obtain ⟨fs, cs, rfl, e1, e2, r1, r2⟩ := hc.fn'
    exact .fn (by omega) (by omega) (fun j hj => iha j (by omega) (r1 j (by omega))) fun j hj => ihb j (by omega) (r2 j (by omega))

/-- A weaker state is as good. -/
theorem Wk.rel {sl sl' : List V} {E : Env} (hN : ∀ X r, E.L.get X r ≠ none → N X) (h : Wk N sl L sl' L' ρ) (ho : Objs St m L w) (hE : Since E St m L w) {cs : List Value}
    (hlen : cs.length = sl.length) (hs : ∀ i, i < sl.length → VRel St m L w (sl.getD i .any) (cs.getD i undef)) :
    ∃ St' m', Objs St' m' L' w ∧ Since E St' m' L' w ∧ ∀ i, i < sl'.length → VRel St' m' L' w (sl'.getD i .any) (cs.getD i undef) := by
  have hrow : ∀ X r cells', L'.get X r = some cells' → ∃ cells, L.get (ρ X r).1 (ρ X r).2 = some cells ∧ cells'.length = cells.length := by
    intro X r cells' hX
    obtain ⟨cells, h1, h2, _⟩ := h.rows X r cells' hX
    exact ⟨cells, h1, h2⟩
  have hgone : ∀ b, Gone m L (fun X r => ∀ Y q, L'.get Y q ≠ none → ρ Y q ≠ (X, r)) b → b < w.heap.size ∧ ∀ X r C, L'.get X r ≠ none → m (ρ X r).1 (ρ X r).2 ≠ some (b, C) := by
    rintro b ⟨Y, q, C, hf, hL, hm⟩
    obtain ⟨cells, hc⟩ := Option.ne_none_iff_exists'.1 hL
    refine ⟨(ho.obj Y q cells b C hc hm).1, fun X r C' hX hmX => ?_⟩
    obtain ⟨cells', hX'⟩ := Option.ne_none_iff_exists'.1 hX
    obtain ⟨cells2, h2, _⟩ := hrow X r cells' hX'
    obtain ⟨e1, e2⟩ := ho.inj _ _ _ _ _ _ _ (by rw [h2]; simp) hL hmX hm
    exact hf X r hX (Prod.ext e1 e2)
  refine ⟨fun b => St b ∨ Gone m L (fun X r => ∀ Y q, L'.get Y q ≠ none → ρ Y q ≠ (X, r)) b, fun X r => m (ρ X r).1 (ρ X r).2, ⟨fun b hb => ?_, fun X r cells' hX hm => ?_, fun X r cells' b C hX hm => ?_, fun X r Y q b C C' h1 h2 h3 h4 => ?_⟩, ⟨hE.frame, ⟨fun b hb => Or.inl (hE.ext.st b hb), hE.ext.keep, fun X r cells hX => ?_⟩, fun b hb => ?_, fun X r b C h1 h2 => ?_⟩, fun i hi => ?_⟩
  · rcases hb with hb | hb
    · exact ho.st b hb
    · exact (hgone b hb).1
  · obtain ⟨cells, h1, h2⟩ := hrow X r cells' hX
    have := ho.nil _ _ _ h1 hm
    exact List.eq_nil_of_length_eq_zero (by rw [h2, this]; rfl)
  · obtain ⟨cells, h1, h2, h3⟩ := h.rows X r cells' hX
    obtain ⟨p1, p2, arr, el, p3, p4, p5, p6⟩ := ho.obj _ _ cells b C h1 hm
    refine ⟨p1, fun hst => ?_, arr, el, p3, p4, by omega, fun j hj => (h3 j (by omega)).rel ho hrow (p6 j (by omega))⟩
    rcases hst with hst | hst
    · exact p2 hst
    · exact (hgone b hst).2 X r C (by rw [hX]; simp) hm
  · have g : ∀ X r, L'.get X r ≠ none → L.get (ρ X r).1 (ρ X r).2 ≠ none := by
      intro X r hX
      obtain ⟨cells', hX'⟩ := Option.ne_none_iff_exists'.1 hX
      obtain ⟨cells2, h2, _⟩ := hrow X r cells' hX'
      rw [h2]; simp
    obtain ⟨e1, e2⟩ := ho.inj _ _ _ _ _ _ _ (g X r h1) (g Y q h2) h3 h4
    exact h.inj X r Y q h1 h2 (Prod.ext e1 e2)
  · obtain ⟨c2, h2, hle, he⟩ := hE.ext.own X r cells hX
    obtain ⟨k1, k2⟩ := h.keep X r (hN X r (by rw [hX]; simp)) (by rw [h2]; simp)
    obtain ⟨c3, h3⟩ := Option.ne_none_iff_exists'.1 k2
    obtain ⟨c4, h4, h5⟩ := hrow X r c3 h3
    rw [k1] at h4; rw [h2] at h4; cases h4
    refine ⟨c3, h3, by omega, fun e => ?_⟩
    rw [k1]; exact he (by omega)
  · rcases hb with hb | hb
    · exact hE.st b hb
    · obtain ⟨Y, q, C, hf, hL, hm⟩ := hb
      rcases hE.src Y q b C hL hm with ⟨h1, _⟩ | h1
      · have hn := hN Y q h1
        obtain ⟨k1, k2⟩ := h.keep Y q hn hL
        exact absurd k1 (hf Y q k2)
      · exact .inr h1
  · obtain ⟨cells', hX'⟩ := Option.ne_none_iff_exists'.1 h1
    obtain ⟨cells2, hg2, _⟩ := hrow X r cells' hX'
    rcases hE.src _ _ b C (by rw [hg2]; simp) h2 with ⟨h3, h4⟩ | h3
    · have hn := hN _ _ h3
      obtain ⟨k1, k2⟩ := h.keep (ρ X r).1 (ρ X r).2 hn (by rw [hg2]; simp)
      obtain ⟨e1, e2⟩ := h.inj X r _ _ h1 k2 (by rw [k1])
      rw [← e1, ← e2] at h3 h4
      exact .inl ⟨h3, h4⟩
    · exact .inr h3
  · exact (h.slots i (by rw [← h.len]; exact hi)).rel ho hrow (hs i (by rw [← h.len]; exact hi))

/-- Code that serves a weaker state serves the state. -/
theorem W_weaken {c : C} {s s' : S} (ρ : Nat → Nat → Nat × Nat) (h : Wk N s.sl s.L s'.sl s'.L ρ) (hw : W P N c Q s') : W P N c Q s := by
  intro hm code hc E hN St m a w hs hE
  obtain ⟨St', m', h1, h2, h3⟩ := h.rel (E := E) hN hs.objs hE (cs := a.tmps.toList) (by simp [hs.size]) (fun i hi => by
    have := hs.slots i hi
    rw [Array.getD_eq_getD_getElem?] at this
    rw [List.getD_eq_getElem?_getD]; simpa using this)
  refine hw hm code hc E hN St' m' a w ⟨h1, by rw [hs.size, h.len], fun i hi => ?_, hs.calm⟩ h2
  have := h3 i hi
  rw [List.getD_eq_getElem?_getD (l := a.tmps.toList)] at this
  rw [Array.getD_eq_getD_getElem?]; simpa using this

/-- What comes of code is as good where it is weaker. -/
theorem W.post {c : C} {s : S} {Q' : Ex → S → Prop} (h : W P N c Q s) (hq : ∀ e t, Q e t → ∃ t' ρ, Wk N t.sl t.L t'.sl t'.L ρ ∧ Q' e t') : W P N c Q' s := by
  intro hm code hc E hN St m a w hs hE
  have go : ∀ (e : Ex) (a' : Act) (w' : World), (∃ s St m, Q e s ∧ SimS St m s a' w' ∧ Since E St m s.L w') → ∃ s St m, Q' e s ∧ SimS St m s a' w' ∧ Since E St m s.L w' := by
    rintro e a' w' ⟨t, St1, m1, ht, hs1, hE1⟩
    obtain ⟨t', ρ, hwk, ht'⟩ := hq e t ht
    obtain ⟨St', m', h1, h2, h3⟩ := hwk.rel (E := E) hN hs1.objs hE1 (cs := a'.tmps.toList) (by simp [hs1.size]) (fun i hi => by
      have := hs1.slots i hi
      rw [Array.getD_eq_getD_getElem?] at this
      rw [List.getD_eq_getElem?_getD]; simpa using this)
    refine ⟨t', St', m', ht', ⟨h1, by rw [hs1.size, hwk.len], fun i hi => ?_, hs1.calm⟩, h2⟩
    have := h3 i hi
    rw [List.getD_eq_getElem?_getD (l := a'.tmps.toList)] at this
    rw [Array.getD_eq_getD_getElem?]; simpa using this
  refine wp_mono (h hm code hc E hN St m a w hs hE) fun e a' w' hp => ?_
  cases e with
  | normal => exact go .normal a' w' hp
  | exit id => exact go (.exit id) a' w' hp
  | ret => exact go .ret a' w' hp
  | _ => exact hp

end
end Go.Ab

/- Functions: a call's contract, out of what its body promises. -/
namespace Go.Ab
set_option linter.unusedSimpArgs false
set_option linter.unusedVariables false
open Go

/-- A result: a slot; or a variable in memory (its cells, is it a struct or an array?). -/
def compRes (P : Program) : ResultVar → Option (Nat × Option (Nat × Bool))
  | .tmp t => some (t, none)
  | .cell t ty => match szT P ty, aggT P ty with
    | some n, some g => if (g = true ∨ n = 1) ∧ 0 < n then some (t, some (n, g)) else none
    | _, _ => none

def resV (s : S) : Nat × Option (Nat × Bool) → V → Prop
  | (t, none), v => v = s.sl.getD t .any
  | (t, some (n, g)), v => match s.sl.getD t .any with
    | .ptr X r off ver => match s.L.get X r with
      | some cells => cells.length = ver ∧ off + n ≤ cells.length ∧ v = ldv g n off cells
      | none => False
    | _ => False

/-- What a function hands back. -/
def ResV (s : S) : List (Nat × Option (Nat × Bool)) → V → Prop
  | [r], v => resV s r v
  | [r1, r2], v => ∃ v1 v2, resV s r1 v1 ∧ resV s r2 v2 ∧ v = .tup [v1, v2]
  | [r1, r2, r3], v => ∃ v1 v2 v3, resV s r1 v1 ∧ resV s r2 v2 ∧ resV s r3 v3 ∧ v = .tup [v1, v2, v3]
  | _, _ => False

/-- A function as pieces: slots, results, code. -/
structure Fun where
  ntmps : Nat
  res : List (Nat × Option (Nat × Bool))
  body : C

def compF (P : Program) (f : FuncId) : Option Fun :=
  match P.funcs[f]? with
  | none => none
  | some fn => if fn.name == "runtime.NumGoroutine" then none else
    match fn.body with
    | none => none
    | some c => match compC P c, fn.results.toList.mapM (compRes P) with
      | some b, some r => some ⟨fn.ntmps, r, b⟩
      | _, _ => none

section
variable {P : Program} {N : Nat → Prop} {Q : Ex → S → Prop} {s : S} {St : Nat → Prop} {m : Map} {L L' : Heap} {w : World}

theorem res_run {a : Act} (hs : SimS St m s a w) {rv : ResultVar} {r : Nat × Option (Nat × Bool)} (hc : compRes P rv = some r) {v : V} (hv : resV s r v) :
    ∃ c, (match rv with | .tmp t => pure (a.tmps.getD t undef) | .cell x t => do loadVar t (← asAddr (a.tmps.getD x undef)) : Sem Value).run P w = .ok c w ∧ VRel St m s.L w v c := by
  cases rv with
  | tmp t =>
    simp only [compRes, Option.some.injEq] at hc
    subst hc
    simp only [resV] at hv
    subst hv
    refine ⟨_, rfl, ?_⟩
    exact ev_rel hs (.tmp t)
  | cell x t =>
    simp only [compRes] at hc
    split at hc
    case h_2 => cases hc
    rename_i n g hn hg
    split at hc
    case isFalse => cases hc
    rename_i h1
    cases hc
    simp only [resV] at hv
    split at hv
    case h_2 => exact hv.elim
    rename_i X r off ver hx
    split at hv
    case h_2 => exact hv.elim
    rename_i cells hL
    obtain ⟨hver, hle, rfl⟩ := hv
    have hp := ev_rel hs (.tmp x)
    simp only [Opd.of, S.ev, hx] at hp
    obtain ⟨cells', ad, hL', hv', hc, hf⟩ := hp.ptr'
    rw [hL] at hL'; cases hL'
    obtain ⟨b, C, hm, rfl⟩ := hf hver
    obtain ⟨p1, p2, arr, el, p3, p4, p5, p6⟩ := hs.objs.obj X r cells b C hL hm
    obtain ⟨c, hr, hcc⟩ := run_loadVar (P := P) (w := w) hg hn h1.1 h1.2 b off (fun j => arr.getD (off + j) undef) (fun j hj => cell_of_block p3 (by omega))
    refine ⟨c, ?_, LRel.ldv hle (fun j hj => p6 _ (by omega)) hcc⟩
    have hc' : a.tmps.getD x undef = .pointer (some ⟨b, off, none⟩) := hc
    simp only [hc', asAddr, Sem.run_bind, Sem.run_pure, Result.andThen]
    exact hr

theorem mapM_run {α β : Type} (g : α → Sem β) : ∀ (l : List α) (cs : List β), cs.length = l.length → (∀ j (h1 : j < l.length) (h2 : j < cs.length), (g l[j]).run P w = .ok cs[j] w) → (l.mapM g).run P w = .ok cs w := by
  intro l
  induction l with
  | nil => intro cs h _; obtain rfl : cs = [] := by simpa using h
           simp
  | cons x l ih =>
    intro cs h hc
    cases cs with
    | nil => simp at h
    | cons c cs =>
      have h0 := hc 0 (by simp) (by simp)
      have h1 := ih cs (by simpa using h) fun j h1 h2 => hc (j + 1) (Nat.succ_lt_succ h1) (Nat.succ_lt_succ h2)
      simp only [List.getElem_cons_zero] at h0
      simp [List.mapM_cons, h0, h1]

theorem results_run {a : Act} {fn : Func} (hs : SimS St m s a w) {rs : List (Nat × Option (Nat × Bool))} (hc : fn.results.toList.mapM (compRes P) = some rs) {v : V} (hv : ResV s rs v) :
    ∃ c, (results fn a.tmps).run P w = .ok c w ∧ VRel St m s.L w v c := by
  obtain ⟨hl, hcs⟩ := mapM_some _ _ _ hc
  have run : ∀ cs : List Value, cs.length = fn.results.toList.length → (∀ j (h1 : j < fn.results.toList.length) (h2 : j < cs.length),
      (match fn.results.toList[j] with | .tmp t => pure (a.tmps.getD t undef) | .cell x t => do loadVar t (← asAddr (a.tmps.getD x undef)) : Sem Value).run P w = .ok cs[j] w) →
      (results fn a.tmps).run P w = .ok (if h : cs.toArray.size = 1 then cs.toArray[0] else .tuple cs.toArray) w := by
    intro cs hlen hall
    unfold results
    rw [Array.mapM_eq_mapM_toList]
    simp only [Sem.run_bind, Sem.run_map]
    rw [mapM_run _ _ cs hlen hall]
    rfl
  generalize fn.results.toList = l at hl hcs run
  match l, rs, hl, hcs, hv, run with
  | [], [], _, _, hv, _ => exact hv.elim
  | _ :: _ :: _ :: _ :: _, _ :: _ :: _ :: _ :: _, _, _, hv, _ => exact hv.elim
  | [r], [r'], _, hcs, hv, run =>
    obtain ⟨c, h1, h2⟩ := res_run hs (hcs 0 (by simp) (by simp)) hv
    exact ⟨c, run [c] rfl (fun j h1' _ => by
      have : j = 0 := by simpa using h1'
      subst this; exact h1), h2⟩
  | [r1, r2], [r1', r2'], _, hcs, hv, run =>
    obtain ⟨v1, v2, hv1, hv2, rfl⟩ := hv
    obtain ⟨c1, h1, k1⟩ := res_run hs (hcs 0 (by simp) (by simp)) hv1
    obtain ⟨c2, h2, k2⟩ := res_run hs (hcs 1 (by simp) (by simp)) hv2
    refine ⟨.tuple #[c1, c2], run [c1, c2] rfl (fun j h1' _ => ?_), .tup rfl fun j hj => ?_⟩
    · match j, h1' with
      | 0, _ => exact h1
      | 1, _ => exact h2
    · match j, hj with
      | 0, _ => exact k1
      | 1, _ => exact k2
  | [r1, r2, r3], [r1', r2', r3'], _, hcs, hv, run =>
    obtain ⟨v1, v2, v3, hv1, hv2, hv3, rfl⟩ := hv
    obtain ⟨c1, h1, k1⟩ := res_run hs (hcs 0 (by simp) (by simp)) hv1
    obtain ⟨c2, h2, k2⟩ := res_run hs (hcs 1 (by simp) (by simp)) hv2
    obtain ⟨c3, h3, k3⟩ := res_run hs (hcs 2 (by simp) (by simp)) hv3
    refine ⟨.tuple #[c1, c2, c3], run [c1, c2, c3] rfl (fun j h1' _ => ?_), .tup rfl fun j hj => ?_⟩
    · match j, h1' with
      | 0, _ => exact h1
      | 1, _ => exact h2
      | 2, _ => exact h3
    · match j, hj with
      | 0, _ => exact k1
      | 1, _ => exact k2
      | 2, _ => exact k3

/-- The state that a call begins in. -/
def enter (F : Fun) (vs : List V) (L : Heap) : S := ⟨vs ++ List.replicate (F.ntmps - vs.length) .any, L⟩

/-- What a body's end is to give: the result r, rows L', or what is stronger. -/
def Ends (N : Nat → Prop) (F : Fun) (r : V) (L' : Heap) : Ex → S → Prop
  | .normal, s | .ret, s => ∃ v ρ, ResV s F.res v ∧ Wk N [v] s.L [r] L' ρ
  | _, _ => False

theorem AC_intro {f : FuncId} {F : Fun} (hF : compF P f = some F) (hm : P.follows .mixedOrders = true) (N : Nat → Prop) {vs : List V} {r : V} (hN : ∀ X q, L.get X q ≠ none → N X)
    (h : W P N F.body (Ends N F r L') (enter F vs L)) : AC P f vs L L' r := by
  unfold compF at hF
  split at hF
  · cases hF
  rename_i fn hfn
  split at hF
  · cases hF
  rename_i hname
  split at hF
  · cases hF
  rename_i code hbody
  split at hF
  case h_2 => cases hF
  rename_i b rs hcb hrs
  cases hF
  refine ⟨⟨fn, hfn, by simp [hbody], by simpa using hname⟩, fun St m w cargs ho hsz hargs => ?_⟩
  have hs : SimS St m (enter ⟨fn.ntmps, rs, b⟩ vs L) { tmps := cargs ++ Array.replicate (fn.ntmps - cargs.size) undef, defers := [] } w := by
    refine ⟨ho, by simp [enter, hsz], fun i hi => ?_, rfl⟩
    simp only [enter] at hi ⊢
    by_cases hlt : i < vs.length
    · have e1 : (vs ++ List.replicate (fn.ntmps - vs.length) V.any).getD i .any = vs.getD i .any := by
        simp [List.getD_eq_getElem?_getD, List.getElem?_append_left hlt]
      have e2 : (cargs ++ Array.replicate (fn.ntmps - cargs.size) undef).getD i undef = cargs.getD i undef := by
        have : i < cargs.size := by omega
        simp [Array.getD_eq_getD_getElem?, Array.getElem?_append, this]
      rw [e1, e2]; exact hargs i hlt
    · have e1 : (vs ++ List.replicate (fn.ntmps - vs.length) V.any).getD i .any = .any := by
        rw [List.getD_eq_getElem?_getD, List.getElem?_append_right (Nat.not_lt.1 hlt), List.getElem?_replicate]
        split <;> rfl
      rw [e1]; exact .any _
  have hE : Since ⟨St, m, L, w⟩ St m L w := ⟨.refl _ _, .refl _ _ _ _, fun b h => .inl h, .refl _ _ _⟩
  have hw := h hm code hcb ⟨St, m, L, w⟩ hN St m _ w hs hE
  refine calls_of_wp hfn hbody (wp_mono hw fun e a' w' hp => ?_)
  have fin : ∀ (t : S) (St' : Nat → Prop) (m' : Map), SimS St' m' t a' w' → Since ⟨St, m, L, w⟩ St' m' t.L w' → (∃ v ρ, ResV t rs v ∧ Wk N [v] t.L [r] L' ρ) →
      a'.defers = [] ∧ ∃ v, (results fn a'.tmps).run P w' = .ok v w' ∧ ∃ v' St'' m'', Ending.returned v = .returned v' ∧ Objs St'' m'' L' w' ∧ VRel St'' m'' L' w' r v' ∧ Frame' (Named m L) w w' ∧
        Ext St St'' m m'' L L' w w' ∧ (∀ b, St'' b → St b ∨ w.heap.size ≤ b) ∧ Src m L m'' L' w := by
    rintro t St' m' hs' hE' ⟨v, ρ, hres, hwk⟩
    obtain ⟨c, hr, hv⟩ := results_run (P := P) hs' hrs hres
    obtain ⟨St'', m'', h1, h2, h3⟩ := hwk.rel (E := ⟨St, m, L, w⟩) hN hs'.objs hE' (cs := [c]) rfl (fun i hi => by
      have : i = 0 := by simpa using hi
      subst this; exact hv)
    exact ⟨hs'.calm, c, hr, c, St'', m'', rfl, h1, h3 0 (by simp), h2.frame, h2.ext, h2.st, h2.src⟩
  cases e with
  | normal => obtain ⟨t, St', m', ht, hs', hE'⟩ := hp; exact fin t St' m' hs' hE' ht
  | ret => obtain ⟨t, St', m', ht, hs', hE'⟩ := hp; exact fin t St' m' hs' hE' ht
  | exit id => obtain ⟨t, St', m', ht, _⟩ := hp; exact ht.elim
  | goto l => exact hp.elim
  | panic ch => exact hp.elim
  | outgrown => exact hp.elim

theorem compF_go {f : FuncId} {F : Fun} (hF : compF P f = some F) : GoFn P f := by
  unfold compF at hF
  split at hF
  · cases hF
  rename_i fn hfn
  split at hF
  · cases hF
  rename_i hname
  split at hF
  · cases hF
  rename_i code hbody
  exact ⟨fn, hfn, by simp [hbody], by simpa using hname⟩

/-- A function of a float, by all the words that the float may be. -/
theorem Con_of_raw {f : FuncId} (hg : GoFn P f) {x : Nat} {r : V} (h : ∀ b, b < 2 ^ 64 → cf b = x → Con P f [.d (.fraw b)] r) : Con P f [.d (.flt x)] r := by
  refine ⟨hg, fun St m w cargs ho hsz hargs => ?_⟩
  obtain ⟨b, hb, hcb, hc⟩ := (hargs 0 (by simp)).flt
  refine (h b hb hcb).2 St m w cargs ho hsz fun j hj => ?_
  obtain rfl : j = 0 := by simpa using hj
  rw [hc]
  exact .d (.fraw hb)

/-- A function of data. -/
theorem Con_intro {f : FuncId} {F : Fun} (hF : compF P f = some F) (hm : P.follows .mixedOrders = true) {vs : List V} {r : V}
    (h : W P (fun _ => False) F.body (Ends (fun _ => False) F r []) (enter F vs [])) : Con P f vs r :=
  AC_intro hF hm (fun _ => False) (fun X q hX => by simp [Heap.get, Heap.fam] at hX) h

theorem Bare.le {v : V} (h : Bare v) (L L' : Heap) (ρ : Nat → Nat → Nat × Nat) : LeV L L' ρ v v := by
  induction h with
  | d x => exact .d (.d x)
  | any => exact .any _
  | nil => exact .nil
  | agg h ih => exact .agg rfl ih
  | tup h ih => exact .tup rfl ih
  | fn h1 h2 ih1 ih2 => exact .fn rfl rfl ih1 ih2

theorem Wk.fin {v r : V} {L : Heap} {ρ : Nat → Nat → Nat × Nat} (h : LeV L [] ρ v r) : Wk (fun _ => False) [v] L [r] [] ρ := by
  refine ⟨rfl, fun i hi => ?_, fun X r c h => by simp [Heap.get, Heap.fam] at h, fun X r Y q h => by simp [Heap.get, Heap.fam] at h, fun X r h => h.elim⟩
  have : i = 0 := by simpa using hi
  subst this
  exact h

/-- A function's end that hands back data. -/
theorem ends_ret {F : Fun} {s : S} {r : V} (hb : r.bareB = true) (h : ResV s F.res r) : Ends (fun _ => False) F r [] .ret s :=
  ⟨r, fun X r => (X, r), h, .fin ((bareB_bare hb).le _ _ _)⟩
theorem ends_normal {F : Fun} {s : S} {r : V} (hb : r.bareB = true) (h : ResV s F.res r) : Ends (fun _ => False) F r [] .normal s :=
  ⟨r, fun X r => (X, r), h, .fin ((bareB_bare hb).le _ _ _)⟩

end
end Go.Ab

/- Code with what is known of its slots: a short list; what is no longer used is let go at each region's end. -/
namespace Go.Ab
set_option linter.unusedSimpArgs false
set_option linter.unusedVariables false
open Go

/-- What is known of the slots. -/
abbrev Sl := List (Nat × V)
def look : Sl → Nat → V
  | [], _ => .any
  | (j, v) :: r, i => if i = j then v else look r i
def build (nt : Nat) (as : Sl) : List V := (List.range nt).map (look as)

structure T where
  sl : Sl
  L : Heap

def xev (as : Sl) : Opd → V
  | .t i => look as i
  | .k v => v

/-- Code, live slots told at each region's end. -/
inductive CA where
  | skip
  | reg (l : List II) (live : List Nat)
  | seq (a b : CA)
  | cond (o : Opd) (a b : CA)
  | block (id : Nat) (c : CA)
  | loop (c : CA)
  | exit (id : Nat)
  | ret

def CA.strip : CA → C
  | .skip => .skip
  | .reg l _ => .reg l
  | .seq a b => .seq a.strip b.strip
  | .cond o a b => .cond o a.strip b.strip
  | .block id c => .block id c.strip
  | .loop c => .loop c.strip
  | .exit id => .exit id
  | .ret => .ret

def putT (dst : Option Nat) (as : Sl) (Q : T → Prop) (v : V) (L : Heap) : Prop :=
  match dst with
  | some d => Q ⟨(d, v) :: as, L⟩
  | none => Q ⟨as, L⟩

def atL (K : V → Heap → Prop) (L : Heap) (v : V) : Prop := K v L

def callG (P : Program) (g : FuncId) (vs : List V) (L : Heap) (K : V → Heap → Prop) : Prop := ∃ L' r, AC P g vs L L' r ∧ K r L'
def callCG (P : Program) (nm : Nat) (g : FuncId) (vs : List V) (L : Heap) (K : V → Heap → Prop) : Prop := vs.all V.bareB = true ∧ ((∃ r, Con P g vs r ∧ K r L) ∨
  ∃ fam r, AC P g vs [] [(0, fam)] r ∧ L.fam nm = none ∧ K (r.ren (toF nm)) (L.ins nm (famUp nm fam)))

def callX (P : Program) (c : Option (FuncId × List V × List V)) (args : List V) (L : Heap) (K : V → Heap → Prop) : Prop :=
  match c with
  | some (g, first, cap) => callG P g (first ++ args ++ cap) L K
  | none => False
def callCX (P : Program) (nm : Nat) (c : Option (FuncId × List V × List V)) (args : List V) (L : Heap) (K : V → Heap → Prop) : Prop :=
  match c with
  | some (g, first, cap) => callCG P nm g (first ++ args ++ cap) L K
  | none => False

def callSX (P : Program) (nm k : Nat) (c : Option (FuncId × List V × List V)) (args : List V) (L : Heap) (K : V → Heap → Prop) : Prop :=
  match c with
  | some (g, first, cap) => CallS P nm k g (first ++ args ++ cap) L K
  | none => False

def condG (b : Bool) (A B : T → Prop) (s : T) : Prop := (b = true → A s) ∧ (b = false → B s)
def pickG (b : Bool) (K : V → Prop) (x y : V) : Prop := (b = true → K x) ∧ (b = false → K y)

def pickX (c : V) (K : V → Prop) (x y : V) : Prop :=
  match c with
  | .d (.bool t) => pickG t K x y
  | _ => False

def xhv (i : HI) (ev : Opd → V) (K : V → Prop) : Prop :=
  match i with
  | .pick c a b => pickX (ev c) K (ev a) (ev b)
  | i => hv i ev K

def xeff (P : Program) (nm : Nat) (i : Inst) (as : Sl) (L : Heap) (K : V → Heap → Prop) : Prop :=
  match i with
  | .h i => xhv i (xev as) (atL K L)
  | .callC f args => callCX P nm (callee (xev as f)) (args.map (xev as)) L K
  | .callS k f args => callSX P nm k (callee (xev as f)) (args.map (xev as)) L K
  | .callA f args => callX P (callee (xev as f)) (args.map (xev as)) L K
  | i => effC P nm i (xev as) L K

def sides (as : Sl) (bs ind : List Opd) (pl : List Opd) : Prop :=
  (∀ q ∈ bs.zip pl, (xev as q.1).name = (xev as q.2).name) ∧ ∀ o ∈ ind, ∀ p ∈ pl, Apart (xev as o) (xev as p)

def sideG (as : Sl) (bs ind : List Opd) (i : Inst) (A : Prop) : Prop :=
  match bs, ind with
  | [], [] => A
  | _, _ => sides as bs ind i.places ∧ A

def guardX (c : V) (want : Bool) (A : Prop) (B : Prop) : Prop :=
  match c with
  | .d (.bool b) => if b = want then A else B
  | .tup [] => B
  | _ => False

def xstep (P : Program) (base : Nat) (ii : II) (s : T) (Q : T → Prop) : Prop :=
  match ii.g with
  | none => sideG s.sl ii.bs ii.ind ii.i (xeff P (base + ii.k) ii.i s.sl s.L (putT ii.dst s.sl Q))
  | some (j, want) => guardX (look s.sl j) want (sideG s.sl ii.bs ii.ind ii.i (xeff P (base + ii.k) ii.i s.sl s.L (putT ii.dst s.sl Q))) (putT ii.dst s.sl Q .und s.L)

def xI (P : Program) (base : Nat) : List II → (T → Prop) → T → Prop
  | [], Q, s => Q s
  | ii :: r, Q, s => xstep P base ii s (xI P base r Q)

def keep (as : Sl) (live : List Nat) : Sl := live.map fun i => (i, look as i)

def drops (live : List Nat) (Q : T → Prop) (s : T) : Prop := Q ⟨keep s.sl live, s.L⟩

def thenT (next : T → Prop) (Q : Ex → T → Prop) : Ex → T → Prop
  | .normal, s => next s
  | e, s => Q e s

def inBlockT (id : Nat) (Q : Ex → T → Prop) : Ex → T → Prop
  | .exit i, s => if i = id then Q .normal s else Q (.exit i) s
  | e, s => Q e s

def condX (c : V) (A B : T → Prop) (s : T) : Prop :=
  match c with
  | .d (.bool t) => condG t A B s
  | _ => False

/-- Are all slots below nt? -/
def Opd.ok (nt : Nat) : Opd → Bool
  | .t i => decide (i < nt)
  | .k _ => true
def oks (nt : Nat) (l : List Opd) : Bool := l.all (Opd.ok nt)
def II.ok (nt : Nat) (ii : II) : Bool := oks nt ii.i.opds && oks nt ii.bs && oks nt ii.ind && oks nt ii.i.places &&
  (match ii.g with | none => true | some (j, _) => decide (j < nt)) && (match ii.dst with | none => true | some j => decide (j < nt))
def CA.ok (nt : Nat) : CA → Bool
  | .skip | .exit _ | .ret => true
  | .reg l live => l.all (II.ok nt)
  | .seq a b => a.ok nt && b.ok nt
  | .cond o a b => o.ok nt && a.ok nt && b.ok nt
  | .block _ c | .loop c => c.ok nt

section
variable {P : Program} {N : Nat → Prop} {nt : Nat} {Q : Ex → T → Prop}

theorem build_len (as : Sl) : (build nt as).length = nt := by simp [build]
theorem build_get (as : Sl) {i : Nat} (h : i < nt) : (build nt as).getD i .any = look as i := by simp [build, List.getD_eq_getElem?_getD, h]
theorem build_set (as : Sl) {d : Nat} (h : d < nt) (v : V) : (build nt as).set d v = build nt ((d, v) :: as) := by
  refine List.ext_getElem (by simp [build]) fun i h1 h2 => ?_
  simp only [build, List.length_set, List.length_map, List.length_range] at h1
  simp only [build, List.getElem_set, List.getElem_map, List.getElem_range, look]
  by_cases e : d = i
  · simp [e]
  · have : i ≠ d := fun h => e h.symm
    simp [e, this]

theorem ev_build (as : Sl) (L : Heap) {o : Opd} (h : o.ok nt = true) : (⟨build nt as, L⟩ : S).ev o = xev as o := by
  cases o with
  | t i => exact build_get as (by simpa [Opd.ok] using h)
  | k v => rfl

theorem xeff_eq (nm : Nat) (i : Inst) (as : Sl) (L : Heap) (K : V → Heap → Prop) : xeff P nm i as L K → effC P nm i (xev as) L K := by
  intro h
  unfold xeff at h
  split at h
  · rename_i i
    unfold xhv at h
    split at h
    · simp only [effC, hv]
      unfold pickX at h
      split at h
      · rename_i e; rw [e]; exact h
      · exact h.elim
    · exact h
  · simp only [effC]
    unfold callCX at h
    split at h
    · rename_i e; rw [e]; exact h
    · exact h.elim
  · simp only [effC]
    unfold callSX at h
    split at h
    · rename_i e; rw [e]; exact h
    · exact h.elim
  · simp only [effC]
    unfold callX at h
    split at h
    · rename_i e; rw [e]; exact h
    · exact h.elim
  · exact h

theorem eff_mono (nm : Nat) (i : Inst) {ev : Opd → V} {L : Heap} {K K' : V → Heap → Prop} (hk : ∀ v L', K v L' → K' v L') (h : effC P nm i ev L K) : effC P nm i ev L K' := by
  obtain ⟨v, L', h1, h2⟩ := (eff_iff i K).1 h
  exact (eff_iff i K').2 ⟨v, L', h1, hk _ _ h2⟩

theorem oks_ev {as : Sl} {L : Heap} {l : List Opd} (h : oks nt l = true) : ∀ o ∈ l, xev as o = (⟨build nt as, L⟩ : S).ev o :=
  fun o ho => (ev_build as L (List.all_eq_true.1 h o ho)).symm

theorem sideG_iff {as : Sl} {bs ind : List Opd} {i : Inst} {A : Prop} (h : sideG as bs ind i A) : sides as bs ind i.places ∧ A := by
  unfold sideG at h
  split at h
  · exact ⟨⟨by simp, by simp⟩, h⟩
  · exact h

theorem putT_put {dst : Option Nat} {as : Sl} {Q : T → Prop} {v : V} {L : Heap} (hd : (match dst with | none => true | some j => decide (j < nt)) = true) (h : putT dst as Q v L) :
    ∃ t : T, Q t ∧ (⟨putSl (build nt as) dst v, L⟩ : S) = ⟨build nt t.sl, t.L⟩ := by
  cases dst with
  | none => exact ⟨_, h, rfl⟩
  | some d => exact ⟨_, h, by simp only [putSl]; rw [build_set as (by simpa using hd)]⟩

theorem xstep_sound {base : Nat} {ii : II} (hok : ii.ok nt = true) {s : T} {Q : T → Prop} (h : xstep P base ii s Q) : step P base ii ⟨build nt s.sl, s.L⟩ fun t => ∃ s' : T, Q s' ∧ t = ⟨build nt s'.sl, s'.L⟩ := by
  unfold II.ok at hok
  simp only [Bool.and_eq_true] at hok
  obtain ⟨⟨⟨⟨⟨o1, o2⟩, o3⟩, o4⟩, o5⟩, o6⟩ := hok
  have run : sideG s.sl ii.bs ii.ind ii.i (xeff P (base + ii.k) ii.i s.sl s.L (putT ii.dst s.sl Q)) →
      ((∀ q ∈ ii.bs.zip ii.i.places, ((⟨build nt s.sl, s.L⟩ : S).ev q.1).name = ((⟨build nt s.sl, s.L⟩ : S).ev q.2).name) ∧ ∀ o ∈ ii.ind, ∀ p ∈ ii.i.places, Apart ((⟨build nt s.sl, s.L⟩ : S).ev o) ((⟨build nt s.sl, s.L⟩ : S).ev p)) ∧
        eff P (base + ii.k) ii.i ⟨build nt s.sl, s.L⟩ fun v L => ∃ s' : T, Q s' ∧ (⟨putSl (build nt s.sl) ii.dst v, L⟩ : S) = ⟨build nt s'.sl, s'.L⟩ := by
    intro hs
    obtain ⟨⟨h1, h2⟩, h3⟩ := sideG_iff hs
    refine ⟨⟨fun q hq => ?_, fun o ho p hp => ?_⟩, ?_⟩
    · rw [← oks_ev o2 q.1 (List.of_mem_zip hq).1, ← oks_ev o4 q.2 (List.of_mem_zip hq).2]; exact h1 q hq
    · rw [← oks_ev o3 o ho, ← oks_ev o4 p hp]; exact h2 o ho p hp
    · have := xeff_eq _ _ _ _ _ h3
      rw [eff_congr ii.i _ (ev' := (⟨build nt s.sl, s.L⟩ : S).ev) (oks_ev o1)] at this
      exact eff_mono _ _ (fun v L' hv => putT_put o6 hv) this
  unfold xstep at h
  unfold step
  split at h
  · rename_i hg; simp only [hg]; exact run h
  · rename_i j want hg
    simp only [hg] at o5 ⊢
    rw [build_get _ (by simpa using o5)]
    unfold guardX at h
    split at h
    · rename_i b hb
      simp only [hb]
      split at h
      · rename_i e; rw [if_pos e]; exact run h
      · rename_i e; rw [if_neg e]; exact putT_put o6 h
    · rename_i hb
      simp only [hb]
      exact putT_put o6 h
    · exact h.elim

theorem xI_sound {base : Nat} {Q : T → Prop} : ∀ (l : List II) (s : T), l.all (II.ok nt) = true → xI P base l Q s → wpI P base l (fun t => ∃ s' : T, Q s' ∧ t = ⟨build nt s'.sl, s'.L⟩) ⟨build nt s.sl, s.L⟩ := by
  intro l
  induction l with
  | nil => intro s _ h; exact ⟨s, h, rfl⟩
  | cons ii l ih =>
    intro s hok h
    simp only [List.all_cons, Bool.and_eq_true] at hok
    simp only [xI] at h
    simp only [wpI]
    have := xstep_sound hok.1 h
    obtain ⟨t, h1, s', h2, h3⟩ := (step_iff ii _ _).1 this
    refine (step_iff ii _ _).2 ⟨t, h1, ?_⟩
    rw [h3]; exact ih s' hok.2 h2

/-- A state that says no more: whatever is as the first says is as the second says. -/
def Le (N : Nat → Prop) (s s' : S) : Prop := s'.sl.length = s.sl.length ∧ ∀ E : Env, (∀ X r, E.L.get X r ≠ none → N X) → ∀ (St : Nat → Prop) (m : Map) (w : World) (cs : List Value),
  cs.length = s.sl.length → Objs St m s.L w → Since E St m s.L w → (∀ i, i < s.sl.length → VRel St m s.L w (s.sl.getD i .any) (cs.getD i undef)) →
  ∃ St' m', Objs St' m' s'.L w ∧ Since E St' m' s'.L w ∧ ∀ i, i < s'.sl.length → VRel St' m' s'.L w (s'.sl.getD i .any) (cs.getD i undef)

theorem Le.refl (s : S) : Le N s s := ⟨rfl, fun E hN St m w cs hl ho hE hs => ⟨St, m, ho, hE, hs⟩⟩
theorem Le.trans {a b c : S} (h : Le N a b) (k : Le N b c) : Le N a c := by
  refine ⟨k.1.trans h.1, fun E hN St m w cs hl ho hE hs => ?_⟩
  obtain ⟨St1, m1, h1, h2, h3⟩ := h.2 E hN St m w cs hl ho hE hs
  exact k.2 E hN St1 m1 w cs (hl.trans h.1.symm) h1 h2 h3
theorem Le.of_wk {s s' : S} (ρ : Nat → Nat → Nat × Nat) (h : Wk N s.sl s.L s'.sl s'.L ρ) : Le N s s' :=
  ⟨h.len, fun E hN St m w cs hl ho hE hs => h.rel hN ho hE hl hs⟩
theorem Le.lose {sl sl' : List V} {L : Heap} (hl : sl'.length = sl.length) (h : ∀ i, i < sl.length → sl'.getD i .any = sl.getD i .any ∨ sl'.getD i .any = .any) : Le N ⟨sl, L⟩ ⟨sl', L⟩ := by
  refine ⟨hl, fun E hN St m w cs hlen ho hE hs => ⟨St, m, ho, hE, fun i hi => ?_⟩⟩
  rcases h i (by simpa [hl] using hi) with e | e
  · simp only [e]; exact hs i (by simpa [hl] using hi)
  · simp only [e]; exact .any _

theorem W_le {c : C} {Q : Ex → S → Prop} {s s' : S} (h : Le N s s') (hw : W P N c Q s') : W P N c Q s := by
  intro hm code hc E hN St m a w hs hE
  obtain ⟨St', m', h1, h2, h3⟩ := h.2 E hN St m w a.tmps.toList (by simp [hs.size]) hs.objs hE (fun i hi => by
    have := hs.slots i hi
    rw [Array.getD_eq_getD_getElem?] at this
    rw [List.getD_eq_getElem?_getD (l := a.tmps.toList)]; simpa using this)
  refine hw hm code hc E hN St' m' a w ⟨h1, by rw [hs.size, h.1], fun i hi => ?_, hs.calm⟩ h2
  have := h3 i hi
  rw [List.getD_eq_getElem?_getD (l := a.tmps.toList)] at this
  rw [Array.getD_eq_getD_getElem?]; simpa using this

theorem W_post_le {c : C} {s : S} {Q Q' : Ex → S → Prop} (h : W P N c Q s) (hq : ∀ e t, Q e t → ∃ t', Le N t t' ∧ Q' e t') : W P N c Q' s := by
  intro hm code hc E hN St m a w hs hE
  have go : ∀ (e : Ex) (a' : Act) (w' : World), (∃ s St m, Q e s ∧ SimS St m s a' w' ∧ Since E St m s.L w') → ∃ s St m, Q' e s ∧ SimS St m s a' w' ∧ Since E St m s.L w' := by
    rintro e a' w' ⟨t, St1, m1, ht, hs1, hE1⟩
    obtain ⟨t', hwk, ht'⟩ := hq e t ht
    obtain ⟨St', m', h1, h2, h3⟩ := hwk.2 E hN St1 m1 w' a'.tmps.toList (by simp [hs1.size]) hs1.objs hE1 (fun i hi => by
      have := hs1.slots i hi
      rw [Array.getD_eq_getD_getElem?] at this
      rw [List.getD_eq_getElem?_getD (l := a'.tmps.toList)]; simpa using this)
    refine ⟨t', St', m', ht', ⟨h1, by rw [hs1.size, hwk.1], fun i hi => ?_, hs1.calm⟩, h2⟩
    have := h3 i hi
    rw [List.getD_eq_getElem?_getD (l := a'.tmps.toList)] at this
    rw [Array.getD_eq_getD_getElem?]; simpa using this
  refine wp_mono (h hm code hc E hN St m a w hs hE) fun e a' w' hp => ?_
  cases e with
  | normal => exact go .normal a' w' hp
  | exit id => exact go (.exit id) a' w' hp
  | ret => exact go .ret a' w' hp
  | _ => exact hp

/-- What is known after: weakened as one likes. -/
def T.s (nt : Nat) (t : T) : S := ⟨build nt t.sl, t.L⟩
def Cl (N : Nat → Prop) (nt : Nat) (Q : Ex → T → Prop) (e : Ex) (t : S) : Prop := ∃ s : T, Le N t (s.s nt) ∧ Q e s
def WA (P : Program) (N : Nat → Prop) (nt : Nat) (c : CA) (Q : Ex → T → Prop) (s : T) : Prop := c.ok nt = true → W P N c.strip (Cl N nt Q) (s.s nt)

theorem look_keep (as : Sl) : ∀ (live : List Nat) (i : Nat), look (keep as live) i = look as i ∨ look (keep as live) i = .any := by
  intro live
  induction live with
  | nil => intro i; exact .inr rfl
  | cons j live ih =>
    intro i
    simp only [keep, List.map_cons, look]
    split
    · rename_i e; subst e; exact .inl rfl
    · exact ih i

theorem Le.keep (t : T) (live : List Nat) : Le N (t.s nt) (T.s nt ⟨Ab.keep t.sl live, t.L⟩) := by
  refine Le.lose (by simp [build_len]) fun i hi => ?_
  rw [build_len] at hi
  rw [build_get _ hi, build_get _ hi]
  exact look_keep _ _ _

theorem WA_le {c : CA} {s s' : T} (h : Le N (s.s nt) (s'.s nt)) (hw : WA P N nt c Q s') : WA P N nt c Q s := fun hok => W_le h (hw hok)
theorem WA.mono {c : CA} {s : T} {Q' : Ex → T → Prop} (h : WA P N nt c Q s) (hq : ∀ e t, Q e t → ∃ t', Le N (t.s nt) (t'.s nt) ∧ Q' e t') : WA P N nt c Q' s :=
  fun hok => (h hok).mono fun e t ⟨s', h1, h2⟩ => by
    obtain ⟨t', h3, h4⟩ := hq e s' h2
    exact ⟨t', h1.trans h3, h4⟩

theorem WA_loop {c : CA} {s : T} (I : Nat → T → Prop) {n : Nat} (h0 : I n s) (round : ∀ n s, I n s → WA P N nt c (thenT (fun t => ∃ k, k < n ∧ I k t) Q) s) : WA P N nt (.loop c) Q s := by
  intro hok
  simp only [CA.ok] at hok
  refine W_loop (fun n t => ∃ s : T, Le N t (s.s nt) ∧ I n s) ⟨s, .refl _, h0⟩ fun n t ⟨s', hle, hI⟩ => ?_
  refine W_le hle ((round n s' hI hok).mono fun e t ⟨u, h1, h2⟩ => ?_)
  cases e with
  | normal => obtain ⟨k, hk, hI'⟩ := h2; exact ⟨k, hk, u, h1, hI'⟩
  | _ => exact ⟨u, h1, h2⟩

def xC (P : Program) (N : Nat → Prop) (nt : Nat) : CA → (Ex → T → Prop) → T → Prop
  | .skip, Q, s => Q .normal s
  | .reg l live, Q, s => xI P s.L.next l (drops live (Q .normal)) s
  | .seq a b, Q, s => xC P N nt a (thenT (xC P N nt b Q) Q) s
  | .cond o a b, Q, s => condX (xev s.sl o) (xC P N nt a Q) (xC P N nt b Q) s
  | .block id c, Q, s => xC P N nt c (inBlockT id Q) s
  | .loop c, Q, s => WA P N nt (.loop c) Q s
  | .exit id, Q, s => Q (.exit id) s
  | .ret, Q, s => Q .ret s

theorem WA_of_xC : ∀ (c : CA) (Q : Ex → T → Prop) (s : T), xC P N nt c Q s → WA P N nt c Q s := by
  intro c
  induction c with
  | skip => intro Q s h _; exact W_skip ⟨s, .refl _, h⟩
  | reg l live =>
    intro Q s h hok
    refine W_reg s.L.next (wpI_mono ?_ _ _ (xI_sound l s hok h))
    rintro t ⟨s', h1, rfl⟩
    exact ⟨_, .keep s' live, h1⟩
  | seq a b iha ihb =>
    intro Q s h hok
    simp only [CA.ok, Bool.and_eq_true] at hok
    refine W_seq ((iha _ s h hok.1).mono fun e t ⟨s', h1, h2⟩ => ?_)
    cases e with
    | normal => exact W_le h1 (ihb Q s' h2 hok.2)
    | _ => exact ⟨s', h1, h2⟩
  | cond o a b iha ihb =>
    intro Q s h hok
    simp only [CA.ok, Bool.and_eq_true] at hok
    simp only [xC, condX] at h
    split at h
    · rename_i t ht
      exact W_cond (by rw [T.s, ev_build _ _ hok.1.1]; exact ht) (fun e => iha Q s (h.1 e) hok.1.2) fun e => ihb Q s (h.2 e) hok.2
    · exact h.elim
  | block id c ih =>
    intro Q s h hok
    refine W_block ((ih _ s h hok).mono fun e t ⟨s', h1, h2⟩ => ?_)
    cases e with
    | exit i =>
      simp only [Ex.inBlock]
      simp only [inBlockT] at h2
      split
      · rename_i e; simp only [e, if_true] at h2; exact ⟨s', h1, h2⟩
      · rename_i e; simp only [e, if_false] at h2; exact ⟨s', h1, h2⟩
    | _ => exact ⟨s', h1, h2⟩
  | loop c _ => intro Q s h; exact h
  | exit id => intro Q s h _; exact W_exit ⟨s, .refl _, h⟩
  | ret => intro Q s h _; exact W_ret ⟨s, .refl _, h⟩

/-- Arguments as slots. -/
def argSl : Nat → List V → Sl
  | _, [] => []
  | k, v :: r => (k, v) :: argSl (k + 1) r
theorem look_arg : ∀ (vs : List V) (k i : Nat), look (argSl k vs) i = if k ≤ i then vs.getD (i - k) .any else .any := by
  intro vs
  induction vs with
  | nil => intro k i; simp [argSl, look]
  | cons v vs ih =>
    intro k i
    simp only [argSl, look, ih]
    by_cases e : i = k
    · subst e; simp
    · rw [if_neg e]
      by_cases h : k ≤ i
      · have h2 : k + 1 ≤ i := by omega
        have h3 : i - k = (i - (k + 1)) + 1 := by omega
        simp [h, h2, h3]
      · have h2 : ¬ k + 1 ≤ i := by omega
        simp [h, h2]

/-- What a function's end is to give. -/
def EndsT (N : Nat → Prop) (nt : Nat) (res : List (Nat × Option (Nat × Bool))) (r : V) (L' : Heap) : Ex → T → Prop
  | .normal, s | .ret, s => ∃ v ρ, ResV (s.s nt) res v ∧ Wk N [v] s.L [r] L' ρ
  | _, _ => False

theorem AC_introA {f : FuncId} {nt : Nat} {res : List (Nat × Option (Nat × Bool))} {c : CA} {L L' : Heap} {r : V} {vs : List V} (hF : compF P f = some ⟨nt, res, c.strip⟩) (hok : (c.ok nt && decide (vs.length ≤ nt)) = true) (hm : P.follows .mixedOrders = true) (N : Nat → Prop) (hN : ∀ X q, L.get X q ≠ none → N X)
    (h : xC P N nt c (EndsT N nt res r L') ⟨argSl 0 vs, L⟩) : AC P f vs L L' r := by
  simp only [Bool.and_eq_true, decide_eq_true_eq] at hok
  have e : enter ⟨nt, res, c.strip⟩ vs L = T.s nt ⟨argSl 0 vs, L⟩ := by
    simp only [enter, T.s, S.mk.injEq, and_true]
    refine List.ext_getElem? fun i => ?_
    by_cases h : i < nt
    · have h1 : (build nt (argSl 0 vs)).getD i .any = _ := build_get _ h
      rw [look_arg] at h1
      simp only [Nat.zero_le, if_true, Nat.sub_zero] at h1
      rw [List.getD_eq_getElem?_getD, List.getElem?_eq_getElem (by rw [build_len]; exact h)] at h1
      rw [List.getElem?_eq_getElem (l := build nt _) (by rw [build_len]; exact h)]
      simp only [Option.getD_some] at h1
      rw [h1, List.getElem?_append]
      split
      · rename_i h2; simp [List.getD_eq_getElem?_getD, h2]
      · rename_i h2
        rw [List.getElem?_replicate]
        simp only [List.getD_eq_getElem?_getD]
        rw [List.getElem?_eq_none (by omega)]
        rw [if_pos (by omega)]; rfl
    · rw [List.getElem?_eq_none (by simp; omega), List.getElem?_eq_none (by rw [build_len]; omega)]
  refine AC_intro hF hm N hN ?_
  rw [e]
  refine W_post_le (WA_of_xC _ _ _ h hok.1) fun e t ⟨s', h1, h2⟩ => ⟨s'.s nt, h1, ?_⟩
  cases e <;> first | exact h2 | exact h2.elim

theorem Con_introA {f : FuncId} {nt : Nat} {res : List (Nat × Option (Nat × Bool))} {c : CA} {r : V} {vs : List V} (hF : compF P f = some ⟨nt, res, c.strip⟩) (hok : (c.ok nt && decide (vs.length ≤ nt)) = true) (hm : P.follows .mixedOrders = true)
    (h : xC P (fun _ => False) nt c (EndsT (fun _ => False) nt res r []) ⟨argSl 0 vs, []⟩) : Con P f vs r :=
  AC_introA hF hok hm (fun _ => False) (fun X q hX => by simp [Heap.get, Heap.fam] at hX) h

theorem endsT_ret {res : List (Nat × Option (Nat × Bool))} {s : T} {r : V} (hb : r.bareB = true) (h : ResV (s.s nt) res r) : EndsT (fun _ => False) nt res r [] .ret s :=
  ⟨r, fun X r => (X, r), h, .fin ((bareB_bare hb).le _ _ _)⟩

end
end Go.Ab

/- Words for evaluating: values, rows, calls. -/
namespace Go.Ab
set_option linter.unusedSimpArgs false
set_option linter.unusedVariables false
open Go

abbrev fl (x : Nat) : V := .d (.flt x)
abbrev fB (b : Bool) : V := .d (.bool b)
abbrev fI (n : Int) : V := .d (.int .i64 n)

/-- Rows of floats, of integers, of rows: as data. -/
def rowG (xs : List Nat) (i : Nat) : List D := [.flt (xs.getD i 0)]
def rowD (xs : List Nat) : D := .bor xs.length (rowG xs)
def rowIG (xs : List Int) (i : Nat) : List D := [.int .i64 (xs.getD i 0)]
def rowI (xs : List Int) : D := .bor xs.length (rowIG xs)
def rowsG (xss : List (List Nat)) (i : Nat) : List D := [rowD (xss.getD i [])]
def rowsD (xss : List (List Nat)) : D := .bor xss.length (rowsG xss)
def ivG (ps : List (Nat × Nat)) (i : Nat) : List D := [.flt (ps.getD i (0, 0)).1, .flt (ps.getD i (0, 0)).2]
def ivD (ps : List (Nat × Nat)) : D := .bor ps.length (ivG ps)

section
variable {P : Program} {g : FuncId} {vs : List V} {L : Heap} {K : V → Heap → Prop} {r : V}

theorem callG_con (h : Con P g vs r) (hb : vs.all V.bareB = true) (hk : K r L) : callG P g vs L K :=
  ⟨L, r, AC_of_CallC (.inl ⟨hb, h⟩), hk⟩
theorem callCG_con {nm : Nat} (h : Con P g vs r) (hb : vs.all V.bareB = true) (hk : K r L) : callCG P nm g vs L K := ⟨hb, .inl ⟨r, h, hk⟩⟩
theorem callCG_fresh {nm : Nat} {fam : List (List V)} (h : AC P g vs [] [(0, fam)] r) (hb : vs.all V.bareB = true) (hf : L.fam nm = none) (hk : K (r.ren (toF nm)) (L.ins nm (famUp nm fam))) : callCG P nm g vs L K := ⟨hb, .inr ⟨fam, r, h, hf, hk⟩⟩
theorem callSG_con {nm k : Nat} (h : Con P g vs r) (hb : vs.all V.bareB = true) (hk : K r L) : CallS P nm k g vs L K := .inl ⟨vs, r, .inl ⟨rfl, hb⟩, h, hk⟩
theorem callSG_fresh {nm k : Nat} {fam : List (List V)} (h : AC P g vs [] [(0, fam)] r) (hb : vs.all V.bareB = true) (hf : L.fam nm = none) (hk : K (r.ren (toF nm)) (L.ins nm (famUp nm fam))) : CallS P nm k g vs L K :=
  .inr ⟨vs, fam, r, .inl ⟨rfl, hb⟩, h, hf, hk⟩
/-- A call of a snapshot of old rows, that answers a scalar; that answers rows of one name. -/
theorem callSG_snap {nm k : Nat} {us : List V} (h : Con P g us r) (hl : us.length = vs.length) (hs : ∀ j, j < us.length → Snap (L.old (nm - k)) (vs.getD j .any) (us.getD j .any)) (hr : Scalar r) (hk : K r L) : CallS P nm k g vs L K :=
  .inl ⟨us, r, .inr ⟨hl, hs, hr⟩, h, hk⟩
theorem callSG_rows {nm k : Nat} {us : List V} {fam : List (List V)} (h : AC P g us [] [(0, fam)] r) (hl : us.length = vs.length) (hs : ∀ j, j < us.length → Snap (L.old (nm - k)) (vs.getD j .any) (us.getD j .any)) (hr : PureV r) (hp : PureF fam)
    (hf : L.fam nm = none) (hk : K (r.ren (toF nm)) (L.ins nm (famUp nm fam))) : CallS P nm k g vs L K :=
  .inr ⟨us, fam, r, .inr ⟨hl, hs, hr, hp⟩, h, hf, hk⟩
theorem callG_ac {L' : Heap} (h : AC P g vs L L' r) (hk : K r L') : callG P g vs L K := ⟨L', r, h, hk⟩

theorem condG_intro {b : Bool} {A B : T → Prop} {s : T} (h1 : b = true → A s) (h2 : b = false → B s) : condG b A B s := ⟨h1, h2⟩
theorem pickG_true (K : V → Prop) (x y : V) : pickG true K x y = K x := by simp [pickG]
theorem pickG_false (K : V → Prop) (x y : V) : pickG false K x y = K y := by simp [pickG]
theorem pickG_intro {b : Bool} {K : V → Prop} {x y : V} (h1 : b = true → K x) (h2 : b = false → K y) : pickG b K x y := ⟨h1, h2⟩

theorem wrapI {a : Int} (h1 : -9223372036854775808 ≤ a) (h2 : a < 9223372036854775808) : IntKind.wrap .i64 a = a := by
  rw [IntKind.wrap_i64]; omega
theorem wrapU {a : Int} (h1 : 0 ≤ a) (h2 : a < 18446744073709551616) : IntKind.wrap .u64 a = a := by
  rw [IntKind.wrap_u64]; omega
end
section
variable {P : Program} {N : Nat → Prop} {nt base : Nat} {Q : Ex → T → Prop} {s : T}
/-- The same, as words that stay closed until they are handed all. -/
def thenC (P : Program) (N : Nat → Prop) (nt : Nat) (b : CA) (Q : Ex → T → Prop) (e : Ex) (s : T) : Prop := thenT (xC P N nt b Q) Q e s
def condC (P : Program) (N : Nat → Prop) (nt : Nat) (c : V) (a b : CA) (Q : Ex → T → Prop) (s : T) : Prop := condX c (xC P N nt a Q) (xC P N nt b Q) s
def putI (P : Program) (base : Nat) (dst : Option Nat) (as : Sl) (r : List II) (Q : T → Prop) (v : V) (L : Heap) : Prop := putT dst as (xI P base r Q) v L

theorem xC_skip : xC P N nt .skip Q s = Q .normal s := rfl
theorem xC_reg (l : List II) (live : List Nat) (as : Sl) (L : Heap) : xC P N nt (.reg l live) Q ⟨as, L⟩ = xI P L.next l (drops live (Q .normal)) ⟨as, L⟩ := rfl
theorem xC_seq (a b : CA) : xC P N nt (.seq a b) Q s = xC P N nt a (thenC P N nt b Q) s := rfl
theorem xC_cond (o : Opd) (a b : CA) (as : Sl) (L : Heap) : xC P N nt (.cond o a b) Q ⟨as, L⟩ = condC P N nt (xev as o) a b Q ⟨as, L⟩ := rfl
theorem xC_block (id : Nat) (c : CA) : xC P N nt (.block id c) Q s = xC P N nt c (inBlockT id Q) s := rfl
theorem xC_loop (c : CA) : xC P N nt (.loop c) Q s = WA P N nt (.loop c) Q s := rfl
theorem xC_exit (id : Nat) : xC P N nt (.exit id) Q s = Q (.exit id) s := rfl
theorem xC_ret : xC P N nt .ret Q s = Q .ret s := rfl
theorem thenC_normal (b : CA) : thenC P N nt b Q .normal s = xC P N nt b Q s := rfl
theorem thenC_exit (b : CA) (i : Nat) : thenC P N nt b Q (.exit i) s = Q (.exit i) s := rfl
theorem thenC_ret (b : CA) : thenC P N nt b Q .ret s = Q .ret s := rfl
theorem condC_true (a b : CA) : condC P N nt (.d (.bool true)) a b Q s = xC P N nt a Q s := by simp [condC, condX, condG]
theorem condC_false (a b : CA) : condC P N nt (.d (.bool false)) a b Q s = xC P N nt b Q s := by simp [condC, condX, condG]
theorem condC_intro {t : Bool} {a b : CA} (h1 : t = true → xC P N nt a Q s) (h2 : t = false → xC P N nt b Q s) : condC P N nt (.d (.bool t)) a b Q s := ⟨h1, h2⟩
theorem xI_nil (Q : T → Prop) : xI P base [] Q s = Q s := rfl
theorem xI_cons (k : Nat) (d : Option Nat) (i : Inst) (r : List II) (Q : T → Prop) (as : Sl) (L : Heap) :
    xI P base (⟨k, d, none, [], [], i⟩ :: r) Q ⟨as, L⟩ = xeff P (base + k) i as L (putI P base d as r Q) := rfl
theorem xI_cons' (k : Nat) (d : Option Nat) (b0 : Opd) (bs ind : List Opd) (i : Inst) (r : List II) (Q : T → Prop) (as : Sl) (L : Heap) :
    xI P base (⟨k, d, none, b0 :: bs, ind, i⟩ :: r) Q ⟨as, L⟩ = (sides as (b0 :: bs) ind i.places ∧ xeff P (base + k) i as L (putI P base d as r Q)) := rfl
theorem xI_cons'' (k : Nat) (d : Option Nat) (b0 : Opd) (ind : List Opd) (i : Inst) (r : List II) (Q : T → Prop) (as : Sl) (L : Heap) :
    xI P base (⟨k, d, none, [], b0 :: ind, i⟩ :: r) Q ⟨as, L⟩ = (sides as [] (b0 :: ind) i.places ∧ xeff P (base + k) i as L (putI P base d as r Q)) := rfl
/-- A guarded piece. -/
def guardC (P : Program) (base : Nat) (c : V) (want : Bool) (ii : II) (r : List II) (Q : T → Prop) (s : T) : Prop :=
  guardX c want (sideG s.sl ii.bs ii.ind ii.i (xeff P (base + ii.k) ii.i s.sl s.L (putI P base ii.dst s.sl r Q))) (putI P base ii.dst s.sl r Q .und s.L)
theorem xI_guard (k : Nat) (d : Option Nat) (j : Nat) (w : Bool) (bs ind : List Opd) (i : Inst) (r : List II) (Q : T → Prop) (as : Sl) (L : Heap) :
    xI P base (⟨k, d, some (j, w), bs, ind, i⟩ :: r) Q ⟨as, L⟩ = guardC P base (look as j) w ⟨k, d, none, bs, ind, i⟩ r Q ⟨as, L⟩ := rfl
theorem guardC_run (w : Bool) (ii : II) (r : List II) (Q : T → Prop) (h : ii.g = none) : guardC P base (.d (.bool w)) w ii r Q s = xI P base (ii :: r) Q s := by
  simp only [guardC, guardX, if_true, xI, xstep, h]; rfl
theorem guardC_tf (ii : II) (r : List II) (Q : T → Prop) : guardC P base (.d (.bool true)) false ii r Q s = putI P base ii.dst s.sl r Q .und s.L := by simp [guardC, guardX]
theorem guardC_ft (ii : II) (r : List II) (Q : T → Prop) : guardC P base (.d (.bool false)) true ii r Q s = putI P base ii.dst s.sl r Q .und s.L := by simp [guardC, guardX]
theorem guardC_und (w : Bool) (ii : II) (r : List II) (Q : T → Prop) : guardC P base (.tup []) w ii r Q s = putI P base ii.dst s.sl r Q .und s.L := by simp [guardC, guardX]
theorem guardC_intro {b w : Bool} {ii : II} {r : List II} {Q : T → Prop} (h1 : b = w → guardC P base (.d (.bool w)) w ii r Q s) (h2 : b = !w → guardC P base (.d (.bool !w)) w ii r Q s) : guardC P base (.d (.bool b)) w ii r Q s := by
  by_cases e : b = w
  · rw [e]; exact h1 e
  · have : b = !w := by cases b <;> cases w <;> simp_all
    rw [this]; exact h2 this
theorem putI_some (d : Nat) (as : Sl) (r : List II) (Q : T → Prop) (v : V) (L : Heap) : putI P base (some d) as r Q v L = xI P base r Q ⟨(d, v) :: as, L⟩ := rfl
theorem putI_none (as : Sl) (r : List II) (Q : T → Prop) (v : V) (L : Heap) : putI P base none as r Q v L = xI P base r Q ⟨as, L⟩ := rfl
theorem resV_tmp {nt t : Nat} {s : T} {v : V} (ht : t < nt) : resV (s.s nt) (t, none) v = (v = look s.sl t) := by
  simp only [resV, T.s]; rw [build_get _ ht]
end
section
theorem get_nil (X r : Nat) : Heap.get [] X r = none := by simp [Heap.get, Heap.fam]
theorem fam_nil (X : Nat) : Heap.fam [] X = none := by simp [Heap.fam]
theorem fam_cons (X Y : Nat) (f : List (List V)) (L : Heap) : Heap.fam ((X, f) :: L) Y = if Y = X then some f else Heap.fam L Y := by
  unfold Heap.fam
  rw [List.lookup_cons]
  by_cases h : Y = X
  · subst h; simp
  · have e : (Y == X) = false := by simpa using h
    simp [h, e]
theorem get_cons (X Y r : Nat) (f : List (List V)) (L : Heap) : Heap.get ((X, f) :: L) Y r = if Y = X then f[r]? else Heap.get L Y r := by
  unfold Heap.get
  rw [fam_cons]
  split <;> rfl
theorem ins_nil (X : Nat) (f : List (List V)) : Heap.ins X f [] = [(X, f)] := by simp [Heap.ins]
theorem ins_cons (X Y : Nat) (f g : List (List V)) (L : Heap) : Heap.ins X f ((Y, g) :: L) = if Y < X then (X, f) :: (Y, g) :: L else (Y, g) :: Heap.ins X f L := by simp [Heap.ins]
theorem put_cons (X Y r : Nat) (f : List (List V)) (cs : List V) (L : Heap) : Heap.put ((Y, f) :: L) X r cs = if X = Y then (Y, f.set r cs) :: L else (Y, f) :: Heap.put L X r cs := by simp [Heap.put]
theorem next_nil : Heap.next [] = 0 := by simp [Heap.next]
theorem next_cons (X : Nat) (f : List (List V)) (L : Heap) : Heap.next ((X, f) :: L) = if Heap.next L ≤ X then X + 1 else Heap.next L := by simp [Heap.next]
theorem ldv_one (n off : Nat) (cells : List V) : ldv false n off cells = cells.getD off .any := by simp [ldv]
theorem ldv_agg (n off : Nat) (cells : List V) : ldv true n off cells = .agg ((cells.drop off).take n) := by simp [ldv]
theorem cellsOf_agg (xs : List V) : cellsOf (.agg xs) = xs := by simp [cellsOf]
theorem cellsOf_d (x : D) : cellsOf (.d x) = [.d x] := by simp [cellsOf]
theorem cellsOf_sl (X r off n esz ver : Nat) : cellsOf (.sl X r off n esz ver) = [.sl X r off n esz ver] := by simp [cellsOf]
theorem cellsOf_ptr (X r off ver : Nat) : cellsOf (.ptr X r off ver) = [.ptr X r off ver] := by simp [cellsOf]
theorem cellsOf_nil : cellsOf .nil = [.nil] := by simp [cellsOf]
theorem cellsOf_fn (f : FuncId) (a b : List V) : cellsOf (.fn f a b) = [.fn f a b] := by simp [cellsOf]
theorem isCell_d (x : D) : (V.d x).isCell = true := by simp [V.isCell]
theorem isCell_sl (X r off n esz ver : Nat) : (V.sl X r off n esz ver).isCell = true := by simp [V.isCell]
theorem isCell_ptr (X r off ver : Nat) : (V.ptr X r off ver).isCell = true := by simp [V.isCell]
theorem isCell_nil : V.nil.isCell = true := by simp [V.isCell]
theorem isCell_fn (f : FuncId) (a b : List V) : (V.fn f a b).isCell = true := by simp [V.isCell]
theorem splice_nil (cells : List V) (off : Nat) : splice cells off [] = cells := by simp [splice]
theorem splice_cons (cells : List V) (off : Nat) (v : V) (vs : List V) : splice cells off (v :: vs) = splice (cells.set off v) (off + 1) vs := by simp [splice]
theorem resV_cell {nt t n : Nat} {g : Bool} {s : T} {v : V} {X r off ver : Nat} {cells : List V} (ht : t < nt) (h1 : look s.sl t = .ptr X r off ver) (h2 : s.L.get X r = some cells) (h3 : cells.length = ver) (h4 : off + n ≤ cells.length)
    (h5 : v = ldv g n off cells) : resV (s.s nt) (t, some (n, g)) v := by
  simp only [resV, T.s]
  rw [build_get _ ht, h1]
  simp only [h2]
  exact ⟨h3, h4, h5⟩
theorem endsT_retm {nt t n : Nat} {g : Bool} {s : T} {r : V} {X row off ver : Nat} {cells : List V} (hb : r.bareB = true) (ht : t < nt) (h1 : look s.sl t = .ptr X row off ver) (h2 : s.L.get X row = some cells) (h3 : cells.length = ver) (h4 : off + n ≤ cells.length)
    (h5 : r = ldv g n off cells) : EndsT (fun _ => False) nt [(t, some (n, g))] r [] .ret s := endsT_ret hb (resV_cell ht h1 h2 h3 h4 h5)
theorem endsT_rett {nt t : Nat} {s : T} {r : V} (hb : r.bareB = true) (ht : t < nt) (h5 : r = look s.sl t) : EndsT (fun _ => False) nt [(t, none)] r [] .ret s :=
  endsT_ret hb (by simp only [ResV]; rw [resV_tmp ht]; exact h5)
end
section
variable {P : Program} {N : Nat → Prop} {nt : Nat} {Q : Ex → T → Prop}
/-- At the end of a round. -/
def nextL (I : Nat → T → Prop) (n : Nat) (t : T) : Prop := ∃ k, k < n ∧ I k t
def thenL (I : Nat → T → Prop) (n : Nat) (Q : Ex → T → Prop) (e : Ex) (s : T) : Prop := thenT (nextL I n) Q e s
theorem thenL_normal (I : Nat → T → Prop) (n : Nat) (s : T) : thenL I n Q .normal s = nextL I n s := rfl
theorem thenL_exit (I : Nat → T → Prop) (n i : Nat) (s : T) : thenL I n Q (.exit i) s = Q (.exit i) s := rfl
theorem thenL_ret (I : Nat → T → Prop) (n : Nat) (s : T) : thenL I n Q .ret s = Q .ret s := rfl
theorem WA_for {c : CA} {s : T} (I : Nat → T → Prop) {n : Nat} (h0 : I n s) (round : ∀ n s, I n s → xC P N nt c (thenL I n Q) s) : WA P N nt (.loop c) Q s :=
  WA_loop I h0 fun n s hI => WA_of_xC _ _ _ (round n s hI)
theorem und_def : V.und = V.tup [] := rfl
theorem cast0 : ((0 : Nat) : Int) = 0 := rfl
theorem cast1 : ((1 : Nat) : Int) = 1 := rfl
theorem cast2 : ((2 : Nat) : Int) = 2 := rfl
theorem cast3 : ((3 : Nat) : Int) = 3 := rfl
theorem cast4 : ((4 : Nat) : Int) = 4 := rfl
theorem cast5 : ((5 : Nat) : Int) = 5 := rfl
theorem cast6 : ((6 : Nat) : Int) = 6 := rfl
theorem cast7 : ((7 : Nat) : Int) = 7 := rfl
theorem cast8 : ((8 : Nat) : Int) = 8 := rfl
theorem cast9 : ((9 : Nat) : Int) = 9 := rfl
theorem cast10 : ((10 : Nat) : Int) = 10 := rfl
theorem cast11 : ((11 : Nat) : Int) = 11 := rfl
theorem cast12 : ((12 : Nat) : Int) = 12 := rfl
theorem cast13 : ((13 : Nat) : Int) = 13 := rfl
theorem cast14 : ((14 : Nat) : Int) = 14 := rfl
theorem cast15 : ((15 : Nat) : Int) = 15 := rfl
theorem cast16 : ((16 : Nat) : Int) = 16 := rfl
theorem toNatSucc (i : Nat) : Int.toNat ((i : Int) + 1) = i + 1 := rfl
theorem getD_map_fl (xs : List Nat) (i : Nat) (h : i < xs.length) : (xs.map fl).getD i .any = fl (xs.getD i 0) := by
  simp [List.getD_eq_getElem?_getD, h]
theorem set_map_fl (xs : List Nat) (i v : Nat) : (xs.map fl).set i (fl v) = (xs.set i v).map fl := by
  rw [List.map_set]
theorem all_map_fl (xs : List Nat) : (xs.map fl).all V.isCell = true := by
  simp [V.isCell]
end
/-- Unfolding as theorems: simp's own unfolding of a definition is checked by unfolding, which can take the kernel minutes. -/
theorem atL_do (K : V → Heap → Prop) (L : Heap) (v : V) : atL K L v = K v L := rfl
theorem drops_at (live : List Nat) (Q : T → Prop) (as' : Sl) (L : Heap) : drops live Q ⟨as', L⟩ = Q ⟨keep as' live, L⟩ := rfl
end Go.Ab

/- Floats as words: laws of comparisons and of the functions on bits. -/
namespace Go.Ab
set_option linter.unusedSimpArgs false
set_option linter.unusedVariables false
open Go

theorem order_self (x : Nat) : Ieee.double.order x x = if isNan x then none else some .eq := by
  rw [← read_nan]
  unfold Ieee.Format.order
  cases Ieee.double.read x with
  | nan s t => simp [Ieee.Datum.order, Ieee.Datum.isNaN]
  | infinity s => simp [Ieee.Datum.order, Ieee.Datum.isNaN, Nat.compare_eq_eq]
  | number s m i => simp [Ieee.Datum.order, Ieee.Datum.isNaN]
theorem fcmp_ne_self (x : Nat) : fcmp .ne x x = isNan x := by
  simp only [fcmp, order_self]; cases isNan x <;> rfl
theorem fcmp_eq_self (x : Nat) : fcmp .eq x x = !isNan x := by
  simp only [fcmp, order_self]; cases isNan x <;> rfl

theorem bitsOp_u64 (op : BinOp) (a b : Int) : 0 ≤ bitsOp op .u64 a b ∧ bitsOp op .u64 a b < 18446744073709551616 := by
  unfold bitsOp
  simp only
  rw [IntKind.wrap_u64]
  omega
theorem wrap_u64_range (a : Int) : 0 ≤ IntKind.wrap .u64 a ∧ IntKind.wrap .u64 a < 18446744073709551616 := by
  rw [IntKind.wrap_u64]; omega

/-- A word without its sign. -/
def bits0 (b : Nat) : Nat := b % 9223372036854775808
theorem andNot_sign {b : Nat} (h : b < 2 ^ 64) : bitsOp .andNot .u64 b 9223372036854775808 = (bits0 b : Nat) := by
  unfold bitsOp bits0
  have e : (BitVec.ofInt IntKind.u64.bits (b : Int) &&& ~~~ BitVec.ofInt IntKind.u64.bits 9223372036854775808).toNat = b % 9223372036854775808 := by
    show (BitVec.ofInt 64 (b : Int) &&& ~~~ BitVec.ofInt 64 9223372036854775808).toNat = b % 9223372036854775808
    have e1 : ~~~ BitVec.ofInt 64 9223372036854775808 = (9223372036854775807#64 : BitVec 64) := by decide
    rw [e1, BitVec.toNat_and]
    have e2 : (BitVec.ofInt 64 (b : Int)).toNat = b := by
      rw [BitVec.ofInt_natCast, BitVec.toNat_ofNat]; omega
    rw [e2]
    show b &&& (2 ^ 63 - 1) = b % 2 ^ 63
    exact Nat.and_two_pow_sub_one_eq_mod b 63
  simp only [e]
  exact wrapU (by omega) (by omega)

def fabs (x : Nat) : Nat := cf (bits0 x)
theorem fabs_raw {b : Nat} : cf (bits0 b) = fabs (cf b) := by
  unfold fabs
  by_cases h : isNan b = true
  · rw [cf_nan h]
    have : isNan (bits0 b) = true := by
      unfold isNan bits0 at *
      simpa using h
    rw [cf_nan this]; rfl
  · rw [cf_not (b := b) (by simpa using h)]

def csign (x y : Nat) : Nat := cf (bitsOp .or .u64 (bitsOp .andNot .u64 x 9223372036854775808) (bitsOp .and .u64 y 9223372036854775808)).toNat

def nextF (x y : Nat) : Nat :=
  if isNan x = true ∨ isNan y = true then qnan
  else if fcmp .eq x y = true then x
  else if fcmp .eq x 0 = true then csign 1 y
  else if (fcmp .gt y x == fcmp .gt x 0) = true then cf (IntKind.wrap .u64 (x + 1)).toNat
  else cf (IntKind.wrap .u64 (x - 1)).toNat

def finf : Nat := 9218868437227405312
def fninf : Nat := 18442240474082181120
abbrev up (x : Nat) : Nat := nextF x finf
abbrev down (x : Nat) : Nat := nextF x fninf
def isInf (x : Nat) : Bool := fcmp .gt (fabs x) 9218868437227405311
def finite (x : Nat) : Bool := !isNan x && !isInf x
def fsame (x y : Nat) : Bool := fcmp .eq x y || (isNan x && isNan y)

abbrev ivV (p : Nat × Nat) : V := .agg [fl p.1, fl p.2]
def ivMake (lo hi : Nat) : Nat × Nat := if fcmp .le lo hi = true then (lo, hi) else (fninf, finf)
def ivSub (a b : Nat × Nat) : Nat × Nat := ivMake (down (fop .sub a.1 b.2)) (up (fop .sub a.2 b.1))
/-- From the least to the greatest of numbers, none of them a NaN. -/
def spanF : List Nat → Nat → Nat → Nat × Nat
  | [], lo, hi => ivMake (down lo) (up hi)
  | x :: r, lo, hi => if isNan x = true then (fninf, finf) else spanF r (if fcmp .lt x lo = true then x else lo) (if fcmp .gt x hi = true then x else hi)
def ivMul (a b : Nat × Nat) : Nat × Nat :=
  spanF [fop .mul a.1 b.1, fop .mul a.1 b.2, fop .mul a.2 b.1, fop .mul a.2 b.2] (fop .mul a.1 b.1) (fop .mul a.1 b.1)

theorem read_bits0_max {x : Nat} (h : bits0 x < 9218868437227405312) : Ieee.double.order (bits0 x) 9218868437227405311 ≠ some .gt := by
  have hb : bits0 x < 9223372036854775808 := by unfold bits0; omega
  generalize bits0 x = y at h hb
  have e2 : Ieee.double.read 9218868437227405311 = .number false 9007199254740991 971 := by decide
  have h1 : Ieee.double.signWeight = 9223372036854775808 := rfl
  have h2 : Ieee.double.binade = 4503599627370496 := rfl
  have h3 : Ieee.double.infRung = 9218868437227405312 := rfl
  have h4 : Ieee.double.leastPlace = -1074 := rfl
  have key : ∀ (m : Nat) (i : Int), m ≤ 9007199254740991 → i ≤ 971 → Ieee.Datum.order (.number false m i) (.number false 9007199254740991 971) ≠ some .gt := by
    intro m i hm hi
    simp only [Ieee.Datum.order, Ieee.signed, Bool.false_eq_true, if_false]
    rw [Int.min_eq_left hi]
    simp only [Int.sub_self, Int.toNat_zero, Nat.shiftLeft_zero]
    intro hc
    have hc := Option.some.inj hc
    rw [Int.compare_eq_gt] at hc
    have : 9007199254740991 ≤ 9007199254740991 <<< (971 - i).toNat := by
      rw [Nat.shiftLeft_eq]; exact Nat.le_mul_of_pos_right _ (Nat.two_pow_pos _)
    omega
  unfold Ieee.Format.order
  rw [e2]
  unfold Ieee.Format.read
  simp only [h1, h2, h3, h4]
  have m1 : y % 9223372036854775808 = y := Nat.mod_eq_of_lt hb
  have m2 : (y / 9223372036854775808 % 2 == 1) = false := by
    rw [Nat.div_eq_of_lt hb]; rfl
  rw [m1, m2]
  split
  · exact key _ _ (by omega) (by omega)
  · refine key _ _ (by omega) ?_
    have : y / 4503599627370496 ≤ 2046 := by omega
    omega

theorem finite_sub (x : Nat) : fcmp .eq (fop .sub x x) 0 = finite x := by
  have h1 : Ieee.double.signWeight = 9223372036854775808 := rfl
  have h2 : Ieee.double.binade = 4503599627370496 := rfl
  have h3 : Ieee.double.infRung = 9218868437227405312 := rfl
  have q0 : fcmp .eq qnan 0 = false := by decide
  cases hd : Ieee.double.read x with
  | nan s t =>
    have hn : isNan x = true := by rw [← read_nan, hd]; rfl
    have : fop .sub x x = qnan := by simp [fop, Ieee.Format.sub, hd, Ieee.Datum.sum, Ieee.Datum.opposite]
    rw [this, q0]; simp [finite, hn]
  | infinity s =>
    have hn : isNan x = false := by rw [← read_nan, hd]; rfl
    have e : fop .sub x x = qnan := by
      have : ¬ s = !s := by cases s <;> simp
      simp [fop, Ieee.Format.sub, hd, Ieee.Datum.sum, Ieee.Datum.opposite, this]
    have hb : bits0 x = 9218868437227405312 := by
      unfold Ieee.Format.read at hd
      simp only [h1, h2, h3] at hd
      unfold bits0
      split at hd
      · cases hd
      · split at hd
        · cases hd
        · split at hd
          · assumption
          · cases hd
    have : isInf x = true := by unfold isInf fabs; rw [hb]; decide
    rw [e, q0]; simp [finite, this]
  | number s m i =>
    have hn : isNan x = false := by rw [← read_nan, hd]; rfl
    have hb : bits0 x < 9218868437227405312 := by
      unfold Ieee.Format.read at hd
      simp only [h1, h2, h3] at hd
      unfold bits0
      split at hd
      · omega
      · split at hd
        · assumption
        · split at hd <;> cases hd
    have e : fop .sub x x = 0 := by
      have ht : Ieee.signed s m 0 + Ieee.signed (!s) m 0 = 0 := by
        cases s <;> simp [Ieee.signed] <;> omega
      have hs : (s && !s) = false := by cases s <;> rfl
      have hw : Ieee.double.write (.number false 0 i) = 0 := by simp [Ieee.Format.write, Ieee.Format.nearest, Ieee.Format.word]
      simp [fop, Ieee.Format.sub, hd, Ieee.Datum.sum, Ieee.Datum.opposite, ht, hs, hw, cf, isNan]
    have : isInf x = false := by
      unfold isInf fabs
      have hnb : isNan (bits0 x) = false := by unfold isNan bits0 at *; simp; omega
      rw [cf_not hnb]
      have := read_bits0_max hb
      simp only [fcmp]
      cases hc : Ieee.double.order (bits0 x) 9218868437227405311 with
      | none => rfl
      | some o => cases o <;> first | rfl | exact absurd hc this
    rw [e]
    have z : fcmp .eq 0 0 = true := by decide
    rw [z]; simp [finite, hn, this]
end Go.Ab

/- Names turned; a call among rows of which it knows nothing; a nil slice as an empty row; a result laid down as data. -/
namespace Go.Ab
set_option linter.unusedSimpArgs false
set_option linter.unusedVariables false
open Go

section
variable {P : Program} {N : Nat → Prop} {St St' : Nat → Prop} {m m' m2 : Map} {L L' L2 : Heap} {w w' : World}

/-- Names turned: f tells the new name, g the old one. -/
theorem Le.ren {sl : List V} (f g : Nat → Nat → Nat × Nat)
    (h1 : ∀ X r cells, L.get X r = some cells → L2.get (f X r).1 (f X r).2 = some (cells.map (V.ren f)) ∧ g (f X r).1 (f X r).2 = (X, r))
    (h2 : ∀ X r cells, L2.get X r = some cells → L.get (g X r).1 (g X r).2 ≠ none ∧ f (g X r).1 (g X r).2 = (X, r))
    (h3 : ∀ X r, N X → L.get X r ≠ none → f X r = (X, r)) : Le N ⟨sl, L⟩ ⟨sl.map (V.ren f), L2⟩ := by
  refine ⟨by simp, fun E hN St m w cs hl ho hE hs => ?_⟩
  have key : ∀ X r cells, L.get X r = some cells → L2.get (f X r).1 (f X r).2 = some (cells.map (V.ren f)) ∧ (fun X r => m (g X r).1 (g X r).2) (f X r).1 (f X r).2 = m X r := by
    intro X r cells h
    obtain ⟨a, b⟩ := h1 X r cells h
    exact ⟨a, by simp only [b]⟩
  have back : ∀ X r cells, L2.get X r = some cells → ∃ cells0, L.get (g X r).1 (g X r).2 = some cells0 ∧ cells = cells0.map (V.ren f) := by
    intro X r cells h
    obtain ⟨a, b⟩ := h2 X r cells h
    obtain ⟨c0, hc0⟩ := Option.ne_none_iff_exists'.1 a
    have := (h1 _ _ _ hc0).1
    rw [b] at this
    rw [h] at this
    exact ⟨c0, hc0, by simpa using this⟩
  refine ⟨St, fun X r => m (g X r).1 (g X r).2, ⟨ho.st, fun X r cells hX hm => ?_, fun X r cells b C hX hm => ?_, fun X r Y q b C C' hX hY hb hb' => ?_⟩, ⟨hE.frame, ⟨hE.ext.st, hE.ext.keep, fun X r cells hX => ?_⟩, hE.st, fun X r b C hX hm => ?_⟩, fun i hi => ?_⟩
  · obtain ⟨c0, h4, h5⟩ := back X r cells hX
    rw [ho.nil _ _ _ h4 hm] at h5; simpa using h5
  · obtain ⟨c0, h4, h5⟩ := back X r cells hX
    obtain ⟨p1, p2, arr, el, p3, p4, p5, p6⟩ := ho.obj _ _ _ b C h4 hm
    refine ⟨p1, p2, arr, el, p3, p4, by rw [h5]; simpa using p5, fun j hj => ?_⟩
    rw [h5, ren_getD]
    exact VRel.ren f key (p6 j (by rw [h5] at hj; simpa using hj))
  · obtain ⟨a, b1⟩ : L.get (g X r).1 (g X r).2 ≠ none ∧ f (g X r).1 (g X r).2 = (X, r) := by
      obtain ⟨c, hc⟩ := Option.ne_none_iff_exists'.1 hX; exact h2 X r c hc
    obtain ⟨a', b2⟩ : L.get (g Y q).1 (g Y q).2 ≠ none ∧ f (g Y q).1 (g Y q).2 = (Y, q) := by
      obtain ⟨c, hc⟩ := Option.ne_none_iff_exists'.1 hY; exact h2 Y q c hc
    obtain ⟨e1, e2⟩ := ho.inj _ _ _ _ b C C' a a' hb hb'
    rw [e1, e2] at b1
    have := b1.symm.trans b2
    simpa using this
  · obtain ⟨c', h4, h5, h6⟩ := hE.ext.own X r cells hX
    have hf3 := h3 X r (hN X r (by rw [hX]; simp)) (by rw [h4]; simp)
    obtain ⟨a, b1⟩ := h1 X r c' h4
    rw [hf3] at a b1
    exact ⟨_, a, by simpa using h5, fun e => by
      show m (g X r).1 (g X r).2 = _
      rw [b1]; exact h6 (by simpa using e)⟩
  · obtain ⟨a, b1⟩ : L.get (g X r).1 (g X r).2 ≠ none ∧ f (g X r).1 (g X r).2 = (X, r) := by
      obtain ⟨c, hc⟩ := Option.ne_none_iff_exists'.1 hX; exact h2 X r c hc
    rcases hE.src _ _ b C a hm with ⟨h4, h5⟩ | h4
    · have hf3 := h3 _ _ (hN _ _ h4) a
      rw [b1] at hf3
      have e : g X r = (X, r) := by rw [hf3]
      simp only [e] at h4 h5
      exact .inl ⟨h4, h5⟩
    · exact .inr h4
  · have hi' : i < sl.length := by simpa using hi
    show VRel St _ L2 w ((sl.map (V.ren f)).getD i .any) _
    rw [ren_getD]
    exact VRel.ren f key (hs i hi')

/-- A nil slice is a slice of an empty row that nobody has laid. -/
theorem Le.nilrow {sl sl' : List V} {X esz : Nat} (hX : L.fam X = none) (hN : ¬ N X) (hl : sl'.length = sl.length)
    (h : ∀ i, i < sl.length → sl'.getD i .any = sl.getD i .any ∨ (sl.getD i .any = .nil ∧ sl'.getD i .any = .sl X 0 0 0 esz 0)) : Le N ⟨sl, L⟩ ⟨sl', (X, [[]]) :: L⟩ := by
  have hg : ∀ Y r, Heap.get ((X, [[]]) :: L) Y r = if Y = X then (if r = 0 then some [] else none) else L.get Y r := by
    intro Y r
    rw [get_cons]
    split
    · cases r <;> simp
    · rfl
  have hno : ∀ r, L.get X r = none := by intro r; unfold Heap.get; rw [hX]; rfl
  refine ⟨hl, fun E hE' St m w cs hlen ho hE hs => ?_⟩
  have hx : ∀ w, Ext St St m (fun Y r => if Y = X then none else m Y r) L ((X, [[]]) :: L) w w := fun w => ⟨fun _ h => h, fun _ _ => rfl, fun Y r cells hY => by
    have : Y ≠ X := fun e => by rw [e, hno] at hY; cases hY
    exact ⟨cells, by rw [hg, if_neg this]; exact hY, Nat.le_refl _, fun _ => by simp only [if_neg this]⟩⟩
  refine ⟨St, fun Y r => if Y = X then none else m Y r, ⟨ho.st, fun Y r cells hY hm => ?_, fun Y r cells b C hY hm => ?_, fun Y r Z q b C C' hY hZ hm hm' => ?_⟩, ⟨hE.frame, ?_, hE.st, fun Y r b C hY hm => ?_⟩, fun i hi => ?_⟩
  · rw [hg] at hY
    split at hY
    · split at hY <;> simp_all
    · rename_i e; simp only [if_neg e] at hm; exact ho.nil Y r cells hY hm
  · rw [hg] at hY
    split at hY
    · rename_i e; simp [if_pos e] at hm
    · rename_i e; simp only [if_neg e] at hm
      obtain ⟨p1, p2, arr, el, p3, p4, p5, p6⟩ := ho.obj Y r cells b C hY hm
      exact ⟨p1, p2, arr, el, p3, p4, p5, fun j hj => (p6 j hj).mono (hx w)⟩
  · skip
    split at hm
    · cases hm
    split at hm'
    · cases hm'
    rename_i e1 e2
    rw [hg, if_neg e1] at hY
    rw [hg, if_neg e2] at hZ
    exact ho.inj Y r Z q b C C' hY hZ hm hm'
  · exact hE.ext.trans (hx w)
  · skip
    split at hm
    · cases hm
    rename_i e1
    rw [hg, if_neg e1] at hY
    exact hE.src Y r b C hY hm
  · rcases h i (by rw [← hl]; exact hi) with e | ⟨e1, e2⟩
    · simp only [e]; exact (hs i (by rw [← hl]; exact hi)).mono (hx w)
    · have := hs i (by rw [← hl]; exact hi)
      simp only [e1] at this
      simp only [e2]
      rw [this.nil']
      exact .sl (cells := []) (by rw [hg]; simp) (by simp) none 0 rfl (by simp) (by simp) fun _ => .inl rfl

/-- Names moved up. -/
abbrev upF (k : Nat) (X r : Nat) : Nat × Nat := (X + k, r)
def Heap.up (k : Nat) : Heap → Heap
  | [] => []
  | (X, fam) :: L => (X + k, fam.map fun cells => cells.map (V.ren (upF k))) :: Heap.up k L

theorem next_above : ∀ (L : Heap) (X : Nat), L.next ≤ X → L.fam X = none := by
  intro L
  induction L with
  | nil => intro X _; exact fam_nil X
  | cons p L ih =>
    obtain ⟨Y, f⟩ := p
    intro X h
    rw [next_cons] at h
    rw [fam_cons]
    split at h
    · rw [if_neg (by omega)]; exact ih X (by omega)
    · rw [if_neg (by omega)]; exact ih X h

theorem get_up_app (k : Nat) (L : Heap) : ∀ (L' : Heap) (X r : Nat), (∀ Y, k ≤ Y → L.fam Y = none) →
    Heap.get (Heap.up k L' ++ L) X r = if k ≤ X then (L'.get (X - k) r).map (·.map (V.ren (upF k))) else L.get X r := by
  intro L'
  induction L' with
  | nil =>
    intro X r h
    simp only [Heap.up, List.nil_append, get_nil, Option.map_none]
    split
    · unfold Heap.get; rw [h X (by assumption)]; rfl
    · rfl
  | cons p L' ih =>
    obtain ⟨Y, fam⟩ := p
    intro X r h
    simp only [Heap.up, List.cons_append]
    rw [get_cons, get_cons, ih X r h]
    by_cases h1 : k ≤ X
    · simp only [h1, if_true]
      by_cases h2 : X = Y + k
      · have : X - k = Y := by omega
        simp [h2]
      · have : ¬ X - k = Y := by omega
        simp [h2, this]
    · have : ¬ X = Y + k := by omega
      simp [h1, this]

theorem get_lt_next {X r : Nat} {c : List V} (h : L.get X r = some c) : X < L.next := by
  by_cases hlt : X < L.next
  · exact hlt
  · have := next_above L X (by omega)
    exact absurd this (fam_of_get h)

/-- A call among rows of which it knows nothing. -/
theorem AC_frameK (K : Nat) (hK : L.next ≤ K) {f : FuncId} {vs us : List V} {r : V} (hc : AC P f us [] L' r) (hlen : us.length = vs.length)
    (hr : (us = vs ∧ ∀ j, j < vs.length → Bare (vs.getD j .any)) ∨ ((∀ j, j < us.length → Snap L (vs.getD j .any) (us.getD j .any)) ∧ PureV r ∧ ∀ X q cells, L'.get X q = some cells → ∀ j, j < cells.length → PureV (cells.getD j .any))) :
    AC P f vs L (Heap.up K L' ++ L) (r.ren (upF K)) := by
  refine ⟨hc.1, fun St m w cargs ho hsz hargs => ?_⟩
  have core : ∀ (w' : World) (St'' : Nat → Prop) (m' : Map) (v : Value), (∀ b, b < w.heap.size → w'.heap[b]? = w.heap[b]?) → w.heap.size ≤ w'.heap.size → w'.os = w.os → w'.tape = w.tape → w'.output = w.output →
      (∀ b, St b → St'' b) → (∀ b, St'' b → St b ∨ w.heap.size ≤ b) → Objs St'' m' L' w' → (∀ X q b C, L'.get X q ≠ none → m' X q = some (b, C) → w.heap.size ≤ b) → VRel St'' m' L' w' r v →
      ∃ v' St' m'', Ending.returned v = .returned v' ∧ Objs St' m'' (Heap.up K L' ++ L) w' ∧ VRel St' m'' (Heap.up K L' ++ L) w' (r.ren (upF K)) v' ∧ Frame' (Named m L) w w' ∧
        Ext St St' m m'' L (Heap.up K L' ++ L) w w' ∧ (∀ b, St' b → St b ∨ w.heap.size ≤ b) ∧ Src m L m'' (Heap.up K L' ++ L) w := by
    intro w' St'' m' v hkeep hsize hos htape hout hst1 hst2 ho' hnew hv
    have hg : ∀ X q, Heap.get (Heap.up K L' ++ L) X q = if K ≤ X then (L'.get (X - K) q).map (·.map (V.ren (upF K))) else L.get X q :=
      fun X q => get_up_app K L L' X q (fun Y hY => next_above L Y (Nat.le_trans hK hY))
    let m'' : Map := fun X q => if K ≤ X then m' (X - K) q else m X q
    have hren : ∀ X q cells, L'.get X q = some cells → Heap.get (Heap.up K L' ++ L) (upF K X q).1 (upF K X q).2 = some (cells.map (V.ren (upF K))) ∧ m'' (upF K X q).1 (upF K X q).2 = m' X q := by
      intro X q cells h
      rw [hg]
      simp [m'', h]
    have hx : Ext St St'' m m'' L (Heap.up K L' ++ L) w w' := by
      refine ⟨hst1, fun b hb => hkeep b (ho.st b hb), fun X q cells hX => ⟨cells, ?_, Nat.le_refl _, fun _ => ?_⟩⟩
      · have := get_lt_next hX
        rw [hg, if_neg (by omega)]; exact hX
      · have := get_lt_next hX
        simp only [m'']; rw [if_neg (by omega)]
    refine ⟨v, St'', m'', rfl, ⟨ho'.st, fun X q cells hX hm => ?_, fun X q cells b C hX hm => ?_, fun X q Y p b C C' hX hY hm hm' => ?_⟩, hv.ren (upF K) hren, ⟨hos, htape, hout, hsize, fun b hb _ => hkeep b hb⟩, hx, hst2, fun X q b C hX hm => ?_⟩
    · rw [hg] at hX
      simp only [m''] at hm
      split at hX
      · rename_i e
        rw [if_pos e] at hm
        obtain ⟨c0, h1, h2⟩ := Option.map_eq_some_iff.1 hX
        rw [ho'.nil _ _ _ h1 hm] at h2; simpa using h2.symm
      · rename_i e; rw [if_neg e] at hm; exact ho.nil _ _ _ hX hm
    · rw [hg] at hX
      simp only [m''] at hm
      split at hX
      · rename_i e
        rw [if_pos e] at hm
        obtain ⟨c0, h1, h2⟩ := Option.map_eq_some_iff.1 hX
        obtain ⟨p1, p2, arr, el, p3, p4, p5, p6⟩ := ho'.obj _ _ _ b C h1 hm
        refine ⟨p1, p2, arr, el, p3, p4, by rw [← h2]; simpa using p5, fun j hj => ?_⟩
        rw [← h2, ren_getD]
        exact (p6 j (by rw [← h2] at hj; simpa using hj)).ren (upF K) hren
      · rename_i e
        rw [if_neg e] at hm
        obtain ⟨p1, p2, arr, el, p3, p4, p5, p6⟩ := ho.obj _ _ _ b C hX hm
        refine ⟨by omega, fun hs => ?_, arr, el, by rw [hkeep b p1]; exact p3, p4, p5, fun j hj => (p6 j hj).mono hx⟩
        rcases hst2 b hs with h | h
        · exact p2 h
        · omega
    · rw [hg] at hX hY
      simp only [m''] at hm hm'
      split at hX <;> rename_i e1 <;> split at hY <;> rename_i e2
      · rw [if_pos e1] at hm; rw [if_pos e2] at hm'
        have hX' : L'.get (X - K) q ≠ none := by intro h; rw [h] at hX; exact hX rfl
        have hY' : L'.get (Y - K) p ≠ none := by intro h; rw [h] at hY; exact hY rfl
        obtain ⟨k1, k2⟩ := ho'.inj _ _ _ _ b C C' hX' hY' hm hm'
        exact ⟨by omega, k2⟩
      · rw [if_pos e1] at hm; rw [if_neg e2] at hm'
        have hX' : L'.get (X - K) q ≠ none := by intro h; rw [h] at hX; exact hX rfl
        obtain ⟨c, hc⟩ := Option.ne_none_iff_exists'.1 hY
        have := (ho.obj _ _ _ b C' hc hm').1
        have := hnew _ _ b C hX' hm
        omega
      · rw [if_neg e1] at hm; rw [if_pos e2] at hm'
        have hY' : L'.get (Y - K) p ≠ none := by intro h; rw [h] at hY; exact hY rfl
        obtain ⟨c, hc⟩ := Option.ne_none_iff_exists'.1 hX
        have := (ho.obj _ _ _ b C hc hm).1
        have := hnew _ _ b C' hY' hm'
        omega
      · rw [if_neg e1] at hm; rw [if_neg e2] at hm'
        exact ho.inj _ _ _ _ b C C' hX hY hm hm'
    · rw [hg] at hX
      simp only [m''] at hm
      split at hX <;> rename_i e1
      · rw [if_pos e1] at hm
        have hX' : L'.get (X - K) q ≠ none := by intro h; rw [h] at hX; exact hX rfl
        exact .inr (hnew _ _ b C hX' hm)
      · rw [if_neg e1] at hm
        exact .inl ⟨hX, hm⟩
  rcases hr with ⟨rfl, hbare⟩ | ⟨hsn, hpr, hpc⟩
  · refine (hc.2 St (fun _ _ => Option.none) w cargs (Objs.none St ho.st) hsz fun j hj => (hbare j hj).strip (hargs j hj)).mono ?_
    rintro e w' ⟨v, St', m', rfl, ho', hv, hfr, hext, hst, hsrc⟩
    have hkeep : ∀ b, b < w.heap.size → w'.heap[b]? = w.heap[b]? := fun b hb => hfr.block b hb fun ⟨X, r, C, h, _⟩ => by simp [Heap.get, Heap.fam] at h
    exact core w' St' m' v hkeep hfr.size hfr.os hfr.tape hfr.output hext.st hst ho' (fun X q b C h1 h2 => by
      rcases hsrc X q b C h1 h2 with ⟨h3, _⟩ | h3
      · simp [Heap.get, Heap.fam] at h3
      · exact h3) hv
  · refine (hc.2 (fun b => b < w.heap.size) (fun _ _ => Option.none) w cargs (Objs.none _ fun _ h => h) (by omega) fun j hj => Snap.rel ho (hsn j hj) (hargs j (by omega))).mono ?_
    rintro e w' ⟨v, St', m', rfl, ho', hv, hfr, hext, hst, hsrc⟩
    have hkeep : ∀ b, b < w.heap.size → w'.heap[b]? = w.heap[b]? := fun b hb => hfr.block b hb fun ⟨X, r, C, h, _⟩ => by simp [Heap.get, Heap.fam] at h
    have hnew : ∀ X q b C, L'.get X q ≠ none → m' X q = some (b, C) → w.heap.size ≤ b := fun X q b C h1 h2 => by
      rcases hsrc X q b C h1 h2 with ⟨h3, _⟩ | h3
      · simp [Heap.get, Heap.fam] at h3
      · exact h3
    refine core w' St m' v hkeep hfr.size hfr.os hfr.tape hfr.output (fun _ h => h) (fun _ h => .inl h) ⟨fun b hb => Nat.lt_of_lt_of_le (ho.st b hb) hfr.size, ho'.nil, fun X q cells b C h1 h2 => ?_, ho'.inj⟩ hnew (hpr.rel hv)
    obtain ⟨p1, p2, arr, el, p3, p4, p5, p6⟩ := ho'.obj X q cells b C h1 h2
    exact ⟨p1, fun hs => by have := hnew X q b C (by rw [h1]; simp) h2; have := ho.st b hs; omega, arr, el, p3, p4, p5, fun j hj => (hpc X q cells h1 j hj).rel (p6 j hj)⟩

theorem AC_frame {f : FuncId} {vs us : List V} {r : V} (hc : AC P f us [] L' r) (hlen : us.length = vs.length)
    (hr : (us = vs ∧ ∀ j, j < vs.length → Bare (vs.getD j .any)) ∨ ((∀ j, j < us.length → Snap L (vs.getD j .any) (us.getD j .any)) ∧ PureV r ∧ ∀ X q cells, L'.get X q = some cells → ∀ j, j < cells.length → PureV (cells.getD j .any))) :
    AC P f vs L (Heap.up L.next L' ++ L) (r.ren (upF L.next)) := AC_frameK L.next (Nat.le_refl _) hc hlen hr

/-- A call's result, laid down as data. -/
theorem Con_of_AC {f : FuncId} {vs : List V} {r d : V} (hc : AC P f vs [] L' r) (h : LeV L' [] (fun X r => (X, r)) r d) : Con P f vs d := by
  refine ⟨hc.1, fun St m w cargs ho hsz hargs => (hc.2 St m w cargs ho hsz hargs).mono ?_⟩
  rintro e w' ⟨v, St', m', rfl, h1, h2, h3, h4, h5, h6⟩
  obtain ⟨St'', m'', k1, k2, k3⟩ := (Wk.fin h).rel (E := ⟨St, m, [], w⟩) (fun X q hX => by simp [Heap.get, Heap.fam] at hX) h1 ⟨h3, h4, h5, h6⟩ (cs := [v]) rfl (fun i hi => by
    have : i = 0 := by simpa using hi
    subst this; exact h2)
  exact ⟨v, St'', m'', rfl, k1, k3 0 (by simp), k2.frame, k2.ext, k2.st, k2.src⟩
end
end Go.Ab

/- Rows of rows of a run's own: headers, rows as a family; a new row joins its family; rows laid down as data. -/
namespace Go.Ab
set_option linter.unusedSimpArgs false
set_option linter.unusedVariables false
open Go

/-- A row of floats, of whole numbers, as cells. -/
abbrev rowV (xs : List Nat) : List V := xs.map fl
abbrev rowIV (xs : List Int) : List V := xs.map fI
/-- Headers: the first i lead to the rows of X, the others are nil. -/
def hd (X n i : Nat) (len : Nat) : List V := (List.range n).map fun j => if j < i then .sl X j 0 len 1 len else .nil

theorem hd_length (X n i len : Nat) : (hd X n i len).length = n := by simp [hd]
theorem hd_getD (X n i len j : Nat) (h : j < i) (h2 : i ≤ n) : (hd X n i len).getD j .any = .sl X j 0 len 1 len := by
  have : j < n := by omega
  simp [hd, List.getD_eq_getElem?_getD, this, h]
theorem hd_zero (X n len : Nat) : hd X n 0 len = repl n [.nil] := by
  refine List.ext_getElem? fun j => ?_
  have : ∀ n, repl n [V.nil] = List.replicate n V.nil := by
    intro n
    unfold repl
    induction n with
    | zero => rfl
    | succ n ih => simp [List.replicate_succ, ih]
  rw [this]
  by_cases h : j < n <;> simp [hd, h]
theorem hd_set (X n i len : Nat) (h : i < n) : (hd X n i len).set i (.sl X i 0 len 1 len) = hd X n (i + 1) len := by
  refine List.ext_getElem? fun j => ?_
  simp only [hd, List.getElem?_set, List.length_map, List.length_range, List.getElem?_map]
  by_cases h1 : i = j
  · subst h1; simp [h]
  · by_cases h2 : j < n
    · have h3 : (List.range n)[j]? = some j := by simp [h2]
      rw [h3]
      simp only [if_neg h1, Option.map_some]
      by_cases h4 : j < i
      · rw [if_pos h4, if_pos (by omega)]
      · rw [if_neg h4, if_neg (by omega)]
    · have h3 : (List.range n)[j]? = none := by simp; omega
      rw [h3]; simp [h1]
theorem hd_cells (X n i len : Nat) : (hd X n i len).all V.isCell = true := by
  simp only [hd, List.all_map, List.all_eq_true]
  intro j _
  simp only [Function.comp]
  split <;> rfl

theorem getE (A : List (List Nat)) (i : Nat) (h : i < A.length) : (A.map rowV)[i]? = some (rowV (A.getD i [])) := by
  simp [h, List.getD_eq_getElem?_getD]
theorem setE (A : List (List Nat)) (i : Nat) (xs : List Nat) : (A.map rowV).set i (rowV xs) = (A.set i xs).map rowV := by
  rw [List.map_set]
theorem repl_zero (n : Nat) : repl n [fl 0] = rowV (List.replicate n 0) := by
  unfold repl
  induction n with
  | zero => rfl
  | succ n ih => simp only [List.replicate_succ, List.flatten_cons, ih]; rfl
theorem repl_zeroI (n : Nat) : repl n [fI 0] = rowIV (List.replicate n 0) := by
  unfold repl
  induction n with
  | zero => rfl
  | succ n ih => simp only [List.replicate_succ, List.flatten_cons, ih]; rfl
theorem getD_rowIV (xs : List Int) (i : Nat) (h : i < xs.length) : (rowIV xs).getD i .any = fI (xs.getD i 0) := by
  simp [List.getD_eq_getElem?_getD, h]
theorem set_rowIV (xs : List Int) (i : Nat) (v : Int) : (rowIV xs).set i (fI v) = rowIV (xs.set i v) := by
  unfold rowIV; rw [List.map_set]
theorem all_rowIV (xs : List Int) : (rowIV xs).all V.isCell = true := by simp [V.isCell]
theorem ren_rowV (f : Nat → Nat → Nat × Nat) (xs : List Nat) : (rowV xs).map (V.ren f) = rowV xs := by
  simp [V.ren]
theorem ren_rowIV (f : Nat → Nat → Nat × Nat) (xs : List Int) : (rowIV xs).map (V.ren f) = rowIV xs := by
  simp [V.ren]
theorem ren_fam (f : Nat → Nat → Nat × Nat) (A : List (List Nat)) : (A.map rowV).map (fun c => c.map (V.ren f)) = A.map rowV := by
  rw [List.map_map]
  exact List.map_congr_left fun xs _ => ren_rowV f xs

section
variable {P : Program} {N : Nat → Prop} {nt : Nat} {Q : Ex → T → Prop} {L : Heap}

def renS (f : Nat → Nat → Nat × Nat) : Sl → Sl
  | [] => []
  | (k, v) :: r => (k, v.ren f) :: renS f r
theorem look_ren (f : Nat → Nat → Nat × Nat) : ∀ (as : Sl) (i : Nat), look (renS f as) i = (look as i).ren f := by
  intro as
  induction as with
  | nil => intro i; simp [renS, look, V.ren]
  | cons p as ih =>
    obtain ⟨k, v⟩ := p
    intro i
    simp only [renS, look, ih]
    split <;> rfl
theorem build_ren (f : Nat → Nat → Nat × Nat) (as : Sl) : (build nt as).map (V.ren f) = build nt (renS f as) := by
  simp only [build, List.map_map]
  exact List.map_congr_left fun i _ => by simp [look_ren]

def Heap.renH (f : Nat → Nat → Nat × Nat) : Heap → Heap
  | [] => []
  | (X, fam) :: L => (X, fam.map fun cells => cells.map (V.ren f)) :: Heap.renH f L
theorem get_renH (f : Nat → Nat → Nat × Nat) : ∀ (L : Heap) (X r : Nat), Heap.get (Heap.renH f L) X r = (L.get X r).map (·.map (V.ren f)) := by
  intro L
  induction L with
  | nil => intro X r; simp [Heap.renH, get_nil]
  | cons p L ih =>
    obtain ⟨Y, fam⟩ := p
    intro X r
    simp only [Heap.renH, get_cons, ih]
    split
    · simp
    · rfl

/-- Row 0 of Y is row k of X. -/
def absF (Y X k : Nat) (a r : Nat) : Nat × Nat := if a = Y ∧ r = 0 then (X, k) else (a, r)

theorem LeT.absorb {sls : Sl} {Y X : Nat} {cells : List V} {fam : List (List V)} (hYX : Y ≠ X) (hY : L.fam Y = none) (hX : L.fam X = none) (hN : ¬ N Y) :
    Le N (T.s nt ⟨sls, (Y, [cells]) :: (X, fam) :: L⟩) (T.s nt ⟨renS (absF Y X fam.length) sls, (X, fam.map (fun c => c.map (V.ren (absF Y X fam.length))) ++ [cells.map (V.ren (absF Y X fam.length))]) :: Heap.renH (absF Y X fam.length) L⟩) := by
  have hYn : ∀ r, L.get Y r = none := by intro r; unfold Heap.get; rw [hY]; rfl
  have hXn : ∀ r, L.get X r = none := by intro r; unfold Heap.get; rw [hX]; rfl
  have := Le.ren (N := N) (sl := build nt sls) (L := (Y, [cells]) :: (X, fam) :: L)
    (L2 := (X, fam.map (fun c => c.map (V.ren (absF Y X fam.length))) ++ [cells.map (V.ren (absF Y X fam.length))]) :: Heap.renH (absF Y X fam.length) L)
    (absF Y X fam.length) (fun a r => if a = X ∧ r = fam.length then (Y, 0) else (a, r)) ?_ ?_ ?_
  · simp only [T.s, ← build_ren]; exact this
  · intro a r c h
    rw [get_cons, get_cons] at h
    unfold absF
    split at h
    · rename_i e; subst e
      cases r with
      | zero => simp at h; subst h; simp [get_cons]
      | succ r => simp at h
    · rename_i e
      split at h
      · rename_i e2; subst e2
        have hr : r < fam.length := (List.getElem?_eq_some_iff.1 h).1
        have h1 : ¬ (a = Y ∧ r = 0) := fun h => e h.1
        have h2 : ¬ r = fam.length := by omega
        simp only [if_neg h1, get_cons, if_true]
        refine ⟨?_, by simp [h2]⟩
        rw [List.getElem?_append_left (by simpa using hr), List.getElem?_map, h]; rfl
      · rename_i e2
        have h1 : ¬ (a = Y ∧ r = 0) := fun h => e h.1
        simp only [if_neg h1, get_cons, if_neg e2, get_renH, h]
        exact ⟨rfl, by simp [e2]⟩
  · intro a r c h
    rw [get_cons] at h
    split at h
    · rename_i e; subst e
      have hr : r < fam.length + 1 := by have := (List.getElem?_eq_some_iff.1 h).1; simpa using this
      by_cases h2 : r = fam.length
      · subst h2; simp [get_cons, absF]
      · have h3 : r < fam.length := by omega
        have h4 : ¬ (a = Y ∧ r = 0) := fun h => hYX h.1.symm
        have h5 : ¬ a = Y := fun h => hYX h.symm
        simp [h2, get_cons, h5, h3, absF]
    · rename_i e
      rw [get_renH] at h
      obtain ⟨c0, h1, h2⟩ := Option.map_eq_some_iff.1 h
      have h3 : ¬ a = Y := fun e => by rw [e, hYn] at h1; cases h1
      simp [e, get_cons, h3, h1, absF]
  · intro a r ha _
    unfold absF
    have : ¬ (a = Y ∧ r = 0) := fun h => hN (h.1 ▸ ha)
    rw [if_neg this]

/-- A loop, its rounds' ends weakened. -/
def nextW (N : Nat → Prop) (nt : Nat) (I : Nat → T → Prop) (n : Nat) (t : T) : Prop := ∃ k t', k < n ∧ Le N (t.s nt) (t'.s nt) ∧ I k t'
def thenW (N : Nat → Prop) (nt : Nat) (I : Nat → T → Prop) (n : Nat) (Q : Ex → T → Prop) (e : Ex) (s : T) : Prop := thenT (nextW N nt I n) Q e s
theorem thenW_normal (I : Nat → T → Prop) (n : Nat) (s : T) : thenW N nt I n Q .normal s = nextW N nt I n s := rfl
theorem thenW_exit (I : Nat → T → Prop) (n i : Nat) (s : T) : thenW N nt I n Q (.exit i) s = Q (.exit i) s := rfl
theorem thenW_ret (I : Nat → T → Prop) (n : Nat) (s : T) : thenW N nt I n Q .ret s = Q .ret s := rfl
theorem WA_forW {c : CA} {s : T} (I : Nat → T → Prop) {n : Nat} {s0 : T} (hle : Le N (s.s nt) (s0.s nt)) (h0 : I n s0) (round : ∀ n s, I n s → xC P N nt c (thenW N nt I n Q) s) : WA P N nt (.loop c) Q s := by
  refine WA_le hle (WA_loop (fun n t => I n t) h0 fun n s hI => WA.mono (WA_of_xC _ _ _ (round n s hI)) fun e t ht => ?_)
  cases e with
  | normal => obtain ⟨k, t', hk, hle, hI'⟩ := ht; exact ⟨t', hle, k, hk, hI'⟩
  | exit i => exact ⟨t, .refl _, ht⟩
  | ret => exact ⟨t, .refl _, ht⟩

/-- An empty family, out of nothing. -/
theorem LeT.empty {as : Sl} {X : Nat} {L1 L2 : Heap} (hX : (L1 ++ L2).fam X = none) : Le N (T.s nt ⟨as, L1 ++ L2⟩) (T.s nt ⟨as, L1 ++ (X, []) :: L2⟩) := by
  have hg : ∀ a r, Heap.get (L1 ++ (X, []) :: L2) a r = Heap.get (L1 ++ L2) a r := by
    intro a r
    induction L1 with
    | nil =>
      simp only [List.nil_append, get_cons]
      split
      · rename_i e; subst e
        unfold Heap.get; rw [show Heap.fam L2 a = none from hX]; simp
      · rfl
    | cons p L1 ih =>
      obtain ⟨Y, fam⟩ := p
      simp only [List.cons_append, get_cons] at *
      rw [fam_cons] at hX
      split
      · rfl
      · split at hX
        · cases hX
        · exact ih hX
  refine ⟨rfl, fun E hN St m w cs hl ho hE hs => ?_⟩
  have ho : Objs St m (L1 ++ L2) w := ho
  have hE : Since E St m (L1 ++ L2) w := hE
  have hx : Ext St St m m (L1 ++ L2) (L1 ++ (X, []) :: L2) w w := ⟨fun _ h => h, fun _ _ => rfl, fun a r c h => ⟨c, by rw [hg]; exact h, Nat.le_refl _, fun _ => rfl⟩⟩
  refine ⟨St, m, ⟨ho.st, fun a r c h => ho.nil a r c (by rw [← hg]; exact h), fun a r c b C h hm => ?_, fun a r b q x C C' h1 h2 => ho.inj a r b q x C C' (by rw [← hg]; exact h1) (by rw [← hg]; exact h2)⟩, ?_, fun i hi => (hs i hi).mono hx⟩
  · obtain ⟨p1, p2, arr, el, p3, p4, p5, p6⟩ := ho.obj a r c b C (by rw [← hg]; exact h) hm
    exact ⟨p1, p2, arr, el, p3, p4, p5, fun j hj => (p6 j hj).mono hx⟩
  · exact ⟨hE.frame, hE.ext.trans hx, hE.st, fun a r b C h1 h2 => hE.src a r b C (by rw [← hg]; exact h1) h2⟩

/-- A function's end that keeps its rows. -/
theorem endsT_keep {res : List (Nat × Option (Nat × Bool))} {s : T} {r : V} {L' : Heap} (hN : ∀ X, ¬ N X) (h : ResV (s.s nt) res r) (hL : s.L = L') (hr : LeV s.L L' (fun X q => (X, q)) r r)
    (hc : ∀ X q cells, L'.get X q = some cells → ∀ j, j < cells.length → LeV L' L' (fun X q => (X, q)) (cells.getD j .any) (cells.getD j .any)) : EndsT N nt res r L' .ret s := by
  subst hL
  refine ⟨r, fun X q => (X, q), h, ⟨rfl, fun i hi => ?_, fun X q c hX => ⟨c, hX, rfl, fun j hj => hc X q c hX j hj⟩, fun X q Y p _ _ e => by simpa using e, fun X q h => absurd h (hN X)⟩⟩
  obtain rfl : i = 0 := by simpa using hi
  exact hr

theorem LeV.flt' {L L' : Heap} {ρ : Nat → Nat → Nat × Nat} (x : D) : LeV L L' ρ (.d x) (.d x) := .d (.d x)
theorem le_rowV (L : Heap) (ρ : Nat → Nat → Nat × Nat) (xs : List Nat) (j : Nat) : LeV L L ρ ((rowV xs).getD j .any) ((rowV xs).getD j .any) := by
  rw [List.getD_eq_getElem?_getD, List.getElem?_map]
  cases xs[j]? with
  | none => exact .any _
  | some x => exact .d (.d _)
theorem le_rowIV (L : Heap) (ρ : Nat → Nat → Nat × Nat) (xs : List Int) (j : Nat) : LeV L L ρ ((rowIV xs).getD j .any) ((rowIV xs).getD j .any) := by
  rw [List.getD_eq_getElem?_getD, List.getElem?_map]
  cases xs[j]? with
  | none => exact .any _
  | some x => exact .d (.d _)
theorem le_hd (L : Heap) (X n len : Nat) (h : ∀ r, r < n → L.get X r ≠ none) (j : Nat) : LeV L L (fun X q => (X, q)) ((hd X n n len).getD j .any) ((hd X n n len).getD j .any) := by
  by_cases hj : j < n
  · rw [hd_getD X n n len j hj (Nat.le_refl _)]; exact .sl (h j hj) rfl
  · rw [List.getD_eq_getElem?_getD, List.getElem?_eq_none (by rw [hd_length]; omega)]; exact .any _

/-- A row as data; rows as data. -/
theorem snap_row {L : Heap} {f : Nat → Nat → Prop} {X r n ver : Nat} {xs : List Nat} (hf : f X r) (h : L.get X r = some (rowV xs)) (hn : xs.length = n) (hv : n = ver) : SnapF L f (.sl X r 0 n 1 ver) (rowD xs) := by
  subst hn
  refine .sl (fun _ => hf) h (by simpa using hv) (by simp) (fun i hi => rfl) fun i j hi hj => ?_
  obtain rfl : j = 0 := by omega
  rw [show 0 + i * 1 + 0 = i from by omega, getD_map_fl _ _ hi]
  exact .d _
theorem snap_rowI {L : Heap} {f : Nat → Nat → Prop} {X r n ver : Nat} {xs : List Int} (hf : f X r) (h : L.get X r = some (rowIV xs)) (hn : xs.length = n) (hv : n = ver) : SnapF L f (.sl X r 0 n 1 ver) (rowI xs) := by
  subst hn
  refine .sl (fun _ => hf) h (by simpa using hv) (by simp) (fun i hi => rfl) fun i j hi hj => ?_
  obtain rfl : j = 0 := by omega
  rw [show 0 + i * 1 + 0 = i from by omega, getD_rowIV _ _ hi]
  exact .d _
theorem snap_rows {L : Heap} {f : Nat → Nat → Prop} {X H n len ver : Nat} {A : List (List Nat)} (hf : f H 0) (hfx : ∀ r, r < n → f X r) (h : L.get H 0 = some (hd X n n len)) (hA : ∀ r, r < n → L.get X r = some (rowV (A.getD r [])) ∧ (A.getD r []).length = len)
    (hn : A.length = n) (hv : n = ver) : SnapF L f (.sl H 0 0 n 1 ver) (rowsD A) := by
  subst hn
  refine .sl (fun _ => hf) h (by rw [hd_length]; exact hv) (by simp [hd_length]) (fun i hi => rfl) fun i j hi hj => ?_
  obtain rfl : j = 0 := by omega
  rw [show 0 + i * 1 + 0 = i from by omega, hd_getD _ _ _ _ _ hi (Nat.le_refl _)]
  exact snap_row (hfx i hi) (hA i hi).1 (hA i hi).2 rfl
end
section
variable {N : Nat → Prop} {nt : Nat} {L : Heap}
theorem srcCells_row (L : Heap) (esz : Nat) (xs : List Nat) : srcCells L esz (.d (.bor xs.length (rowG xs))) = some (rowV xs) := by
  simp only [srcCells, bcells]
  congr 1
  refine List.ext_getElem? fun i => ?_
  have : (List.range xs.length).flatMap (rowG xs) = (List.range xs.length).map fun i => D.flt (xs.getD i 0) := by
    rw [List.flatMap_def]
    have : ∀ l : List Nat, (l.map (rowG xs)).flatten = l.map fun i => D.flt (xs.getD i 0) := by
      intro l
      induction l with
      | nil => rfl
      | cons x l ih => simp only [List.map_cons, List.flatten_cons, ih, rowG, List.singleton_append]
    exact this _
  rw [this]
  by_cases h : i < xs.length
  · simp [h, List.getD_eq_getElem?_getD]
  · simp [h]
theorem srcLen_bor (n : Nat) (g : Nat → List D) : srcLen (.d (.bor n g)) = n := by simp [srcLen]
theorem hd_set_get (X n i len : Nat) (v : V) (h : i < n) : ((hd X n i len).set i v).getD i .any = v := by
  simp [List.getD_eq_getElem?_getD, hd, h]
theorem splice_app : ∀ (new pre suf : List V), splice (pre ++ suf) pre.length new = pre ++ (new.take suf.length ++ suf.drop new.length) := by
  intro new
  induction new with
  | nil => intro pre suf; simp [splice]
  | cons v new ih =>
    intro pre suf
    simp only [splice]
    cases suf with
    | nil =>
      have e : (pre ++ []).set pre.length v = pre ++ [] := by simp [List.set_eq_of_length_le]
      rw [e]
      have : ∀ (l : List V) (off : Nat) (cells : List V), cells.length ≤ off → splice cells off l = cells := by
        intro l
        induction l with
        | nil => intro off cells _; rfl
        | cons v l ih => intro off cells h; simp only [splice]; rw [List.set_eq_of_length_le h]; exact ih _ _ (by omega)
      rw [this _ _ _ (by simp)]; simp
    | cons x suf =>
      have e : (pre ++ x :: suf).set pre.length v = (pre ++ [v]) ++ suf := by simp [List.set_append]
      rw [e]
      have := ih (pre ++ [v]) suf
      simp only [List.length_append, List.length_cons, List.length_nil, Nat.zero_add] at this
      rw [this]; simp
theorem splice_all (cells new : List V) (h : new.length = cells.length) : splice cells 0 new = new := by
  have := splice_app new [] cells
  simp only [List.nil_append, List.length_nil] at this
  rw [this, List.take_of_length_le (by omega), List.drop_eq_nil_of_le (by omega)]; simp
theorem hd_absorb (Y X n i len : Nat) (h : Y ≠ X) (hi : i < n) : ((hd X n i len).set i (.sl Y 0 0 len 1 len)).map (V.ren (absF Y X i)) = hd X n (i + 1) len := by
  rw [← hd_set X n i len hi]
  refine List.ext_getElem? fun j => ?_
  simp only [List.getElem?_map, List.getElem?_set, hd_length]
  by_cases e : i = j
  · subst e; simp [hi, V.ren, absF]
  · rw [if_neg e, if_neg e]
    by_cases hj : j < n
    · have h3 : (List.range n)[j]? = some j := by simp [hj]
      simp only [hd, List.getElem?_map, h3, Option.map_some]
      congr 1
      split
      · have : ¬ (X = Y ∧ j = 0) := fun e => h e.1.symm
        simp [V.ren, absF, this]
      · rfl
    · have h3 : (List.range n)[j]? = none := by simp; omega
      simp only [hd, List.getElem?_map, h3, Option.map_none]
theorem take_fam (A : List (List Nat)) (i : Nat) (h : i < A.length) : (A.take i).map rowV ++ [rowV (A.getD i [])] = (A.take (i + 1)).map rowV := by
  have e : A.take (i + 1) = A.take i ++ [A.getD i []] := by
    rw [List.take_add_one]; simp [h, List.getD_eq_getElem?_getD]
  rw [e, List.map_append]; rfl
theorem ren_absF_sl (Y X k Z r off n esz ver : Nat) (h : Z ≠ Y) : V.ren (absF Y X k) (.sl Z r off n esz ver) = .sl Z r off n esz ver := by
  simp [V.ren, absF, h]
theorem ren_absF_ptr (Y X k Z r off ver : Nat) (h : Z ≠ Y) : V.ren (absF Y X k) (.ptr Z r off ver) = .ptr Z r off ver := by
  simp [V.ren, absF, h]
theorem ren_d (f : Nat → Nat → Nat × Nat) (x : D) : V.ren f (.d x) = .d x := by simp [V.ren]
theorem AC_le {P : Program} {f : FuncId} {vs : List V} {r r2 : V} {L' L2 : Heap} (hc : AC P f vs [] L' r) (hle : Le (fun _ => False) ⟨[r], L'⟩ ⟨[r2], L2⟩) : AC P f vs [] L2 r2 := by
  refine ⟨hc.1, fun St m w cargs ho hsz hargs => (hc.2 St m w cargs ho hsz hargs).mono ?_⟩
  rintro e w' ⟨v, St', m', rfl, h1, h2, h3, h4, h5, h6⟩
  obtain ⟨St'', m'', k1, k2, k3⟩ := hle.2 ⟨St, m, [], w⟩ (fun X q hX => by simp [Heap.get, Heap.fam] at hX) St' m' w' [v] rfl h1 ⟨h3, h4, h5, h6⟩ (fun i hi => by
    have : i = 0 := by simpa using hi
    subst this; exact h2)
  exact ⟨v, St'', m'', rfl, k1, k3 0 (by simp), k2.frame, k2.ext, k2.st, k2.src⟩

/-- Headers of all rows, which lie behind o others of the same name. -/
def hdo (X o n len : Nat) : List V := (List.range n).map fun j => .sl X (j + o) 0 len 1 len
theorem hdo_length (X o n len : Nat) : (hdo X o n len).length = n := by simp [hdo]
theorem hdo_getD (X o n len j : Nat) (h : j < n) : (hdo X o n len).getD j .any = .sl X (j + o) 0 len 1 len := by
  simp [hdo, List.getD_eq_getElem?_getD, h]
theorem hdo_cells (X o n len : Nat) : (hdo X o n len).all V.isCell = true := by
  simp [hdo, V.isCell]
theorem hd_ren (f : Nat → Nat → Nat × Nat) (X Y o n len : Nat) (h : ∀ j, j < n → f X j = (Y, j + o)) : (hd X n n len).map (V.ren f) = hdo Y o n len := by
  refine List.ext_getElem? fun j => ?_
  simp only [hd, hdo, List.getElem?_map]
  by_cases hj : j < n
  · have h3 : (List.range n)[j]? = some j := by simp [hj]
    simp [h3, hj, V.ren, h j hj]
  · have h3 : (List.range n)[j]? = none := by simp; omega
    simp [h3]
theorem hdo_ren (f : Nat → Nat → Nat × Nat) (X o n len Y o' : Nat) (h : ∀ j, j < n → f X (j + o) = (Y, j + o')) : (hdo X o n len).map (V.ren f) = hdo Y o' n len := by
  simp only [hdo, List.map_map]
  refine List.map_congr_left fun j hj => ?_
  have := h j (by simpa using hj)
  simp [V.ren, this]
/-- A call of a snapshot that answers a scalar. -/
theorem callG_snap {P : Program} {g : FuncId} {vs us : List V} {r : V} {K : V → Heap → Prop} (h : Con P g us r) (hl : us.length = vs.length) (hs : ∀ j, j < us.length → Snap L (vs.getD j .any) (us.getD j .any)) (hr : Scalar r) (hk : K r L) : callG P g vs L K :=
  ⟨L, r, AC_of_CallC (.inr ⟨us, hl, hs, hr, h⟩), hk⟩
theorem snp_row {X r n ver : Nat} {xs : List Nat} (h : L.get X r = some (rowV xs)) (hn : xs.length = n) (hv : n = ver) : Snap L (.sl X r 0 n 1 ver) (.d (rowD xs)) := by
  subst hn
  refine .sl h (by simpa using hv) (by simp) (fun i hi => rfl) fun i j hi hj => ?_
  obtain rfl : j = 0 := by omega
  rw [show 0 + i * 1 + 0 = i from by omega, getD_map_fl _ _ hi]
  exact .d _
theorem snp_rows {X o H r0 n len ver : Nat} {A : List (List Nat)} (h : L.get H r0 = some (hdo X o n len)) (hA : ∀ r, r < n → L.get X (r + o) = some (rowV (A.getD r [])) ∧ (A.getD r []).length = len)
    (hn : A.length = n) (hv : n = ver) : Snap L (.sl H r0 0 n 1 ver) (.d (rowsD A)) := by
  subst hn
  refine .sl h (by rw [hdo_length]; exact hv) (by simp [hdo_length]) (fun i hi => rfl) fun i j hi hj => ?_
  obtain rfl : j = 0 := by omega
  rw [show 0 + i * 1 + 0 = i from by omega, hdo_getD _ _ _ _ _ hi]
  exact snp_row (hA i hi).1 (hA i hi).2 rfl
theorem snapF_rows {f : Nat → Nat → Prop} {X o H r0 n len ver : Nat} {A : List (List Nat)} (hf : f H r0) (hfx : ∀ r, r < n → f X (r + o)) (h : L.get H r0 = some (hdo X o n len)) (hA : ∀ r, r < n → L.get X (r + o) = some (rowV (A.getD r [])) ∧ (A.getD r []).length = len)
    (hn : A.length = n) (hv : n = ver) : SnapF L f (.sl H r0 0 n 1 ver) (rowsD A) := by
  subst hn
  refine .sl (fun _ => hf) h (by rw [hdo_length]; exact hv) (by simp [hdo_length]) (fun i hi => rfl) fun i j hi hj => ?_
  obtain rfl : j = 0 := by omega
  rw [show 0 + i * 1 + 0 = i from by omega, hdo_getD _ _ _ _ _ hi]
  exact snap_row (hfx i hi) (hA i hi).1 (hA i hi).2 rfl

/-- Two rows of one name change names. -/
def swF (X a b Y r : Nat) : Nat × Nat := if Y = X then (X, if r = a then b else if r = b then a else r) else (Y, r)
def setFam (X : Nat) (fam' : List (List V)) : Heap → Heap
  | [] => []
  | (Y, g) :: L => if X = Y then (Y, fam') :: L else (Y, g) :: setFam X fam' L
theorem get_setFam (X : Nat) (fam' : List (List V)) : ∀ (L : Heap) (Y r : Nat), L.fam X ≠ none → Heap.get (setFam X fam' L) Y r = if Y = X then fam'[r]? else L.get Y r := by
  intro L
  induction L with
  | nil => intro Y r h; exact absurd (fam_nil X) h
  | cons p L ih =>
    obtain ⟨Z, g⟩ := p
    intro Y r h
    simp only [setFam]
    rw [fam_cons] at h
    by_cases e : X = Z
    · subst e; rw [if_pos rfl, get_cons, get_cons]; split <;> rfl
    · rw [if_neg e] at h ⊢
      rw [get_cons, get_cons, ih Y r h]
      by_cases e2 : Y = Z
      · subst e2; rw [if_pos rfl, if_pos rfl, if_neg (fun h => e h.symm)]
      · rw [if_neg e2, if_neg e2]
theorem LeT.swap {as : Sl} {X a b : Nat} {fam : List (List V)} {ca cb : List V} (hX : L.fam X = some fam) (ha : fam[a]? = some ca) (hb : fam[b]? = some cb) (hN : ∀ Y, ¬ N Y) :
    Le N (T.s nt ⟨as, L⟩) (T.s nt ⟨renS (swF X a b) as, Heap.renH (swF X a b) (setFam X ((fam.set a cb).set b ca) L)⟩) := by
  have hgX : ∀ r, L.get X r = fam[r]? := fun r => by unfold Heap.get; rw [hX]; rfl
  have hla : a < fam.length := (List.getElem?_eq_some_iff.1 ha).1
  have hlb : b < fam.length := (List.getElem?_eq_some_iff.1 hb).1
  have hsw : ∀ r, ((fam.set a cb).set b ca)[if r = a then b else if r = b then a else r]? = fam[r]? := by
    intro r
    simp only [List.getElem?_set, List.length_set]
    by_cases h1 : r = a
    · subst h1; simp [hlb, ha]
    · by_cases h2 : r = b
      · subst h2
        simp only [if_neg h1, if_true]
        rw [if_pos hla, hb]
      · rw [if_neg h1, if_neg h2, if_neg (fun e => h2 e.symm), if_neg (fun e => h1 e.symm)]
  have hinv : ∀ r, (if (if r = a then b else if r = b then a else r) = a then b else if (if r = a then b else if r = b then a else r) = b then a else (if r = a then b else if r = b then a else r)) = r := by
    intro r; split <;> split <;> (try split) <;> omega
  have := Le.ren (N := N) (sl := build nt as) (L := L) (L2 := Heap.renH (swF X a b) (setFam X ((fam.set a cb).set b ca) L)) (swF X a b) (swF X a b) ?_ ?_ (fun Y r h => absurd h (hN Y))
  · simp only [T.s, ← build_ren]; exact this
  · intro Y r c h
    unfold swF
    by_cases e : Y = X
    · subst e
      rw [hgX] at h
      simp only [if_true]
      refine ⟨?_, Prod.ext rfl (hinv r)⟩
      rw [get_renH, get_setFam _ _ _ _ _ (by rw [hX]; simp), if_pos rfl, hsw, h]; rfl
    · simp only [if_neg e]
      refine ⟨?_, trivial⟩
      rw [get_renH, get_setFam _ _ _ _ _ (by rw [hX]; simp), if_neg e, h]; rfl
  · intro Y r c h
    rw [get_renH, get_setFam _ _ _ _ _ (by rw [hX]; simp)] at h
    unfold swF
    by_cases e : Y = X
    · subst e
      rw [if_pos rfl] at h
      simp only [if_true]
      refine ⟨?_, Prod.ext rfl (hinv r)⟩
      obtain ⟨c0, h1, _⟩ := Option.map_eq_some_iff.1 h
      rw [hgX, ← hsw, hinv]
      rw [h1]; simp
    · rw [if_neg e] at h
      simp only [if_neg e]
      obtain ⟨c0, h1, _⟩ := Option.map_eq_some_iff.1 h
      rw [h1]; simp
theorem resV_tmpI {t : Nat} {s : T} {v : V} (ht : t < nt) (h : v = look s.sl t) : resV (s.s nt) (t, none) v := by
  rw [resV_tmp ht]; exact h
/-- A heap whose rows are kept as they are: each cell is a number, or leads to a row that is there. -/
theorem keep_cells {L : Heap} (h : ∀ X q cells, L.get X q = some cells → ∀ v ∈ cells, LeV L L (fun X q => (X, q)) v v) :
    ∀ X q cells, L.get X q = some cells → ∀ j, j < cells.length → LeV L L (fun X q => (X, q)) (cells.getD j .any) (cells.getD j .any) := by
  intro X q cells hc j hj
  rw [List.getD_eq_getElem?_getD, List.getElem?_eq_getElem hj]
  exact h X q cells hc _ (List.getElem_mem hj)
theorem mem_rowV {xs : List Nat} {v : V} (h : v ∈ rowV xs) (L L' : Heap) (ρ : Nat → Nat → Nat × Nat) : LeV L L' ρ v v := by
  obtain ⟨x, _, rfl⟩ := List.mem_map.1 h
  exact .d (.d _)
theorem mem_rowIV {xs : List Int} {v : V} (h : v ∈ rowIV xs) (L L' : Heap) (ρ : Nat → Nat → Nat × Nat) : LeV L L' ρ v v := by
  obtain ⟨x, _, rfl⟩ := List.mem_map.1 h
  exact .d (.d _)
theorem mem_hdo {X o n len : Nat} {v : V} {L : Heap} (h : v ∈ hdo X o n len) (hL : ∀ r, r < n → L.get X (r + o) ≠ none) : LeV L L (fun X q => (X, q)) v v := by
  obtain ⟨j, hj, rfl⟩ := List.mem_map.1 h
  exact .sl (hL j (by simpa using hj)) rfl
/-- Rows that nobody names are let go. -/
theorem LeT.drop {as : Sl} {L' : Heap} (hN : ∀ Y, ¬ N Y) (hs : ∀ p ∈ as, LeV L L' (fun X q => (X, q)) p.2 p.2)
    (hr : ∀ X r c, L'.get X r = some c → L.get X r = some c ∧ ∀ v ∈ c, LeV L L' (fun X q => (X, q)) v v) : Le N (T.s nt ⟨as, L⟩) (T.s nt ⟨as, L'⟩) := by
  have hlook : ∀ i, LeV L L' (fun X q => (X, q)) (look as i) (look as i) := by
    intro i
    induction as with
    | nil => exact .any _
    | cons p as ih =>
      obtain ⟨k, v⟩ := p
      simp only [look]
      split
      · exact hs (k, v) (by simp)
      · exact ih fun p hp => hs p (by simp [hp])
  refine Le.of_wk (fun X q => (X, q)) ⟨rfl, fun i hi => ?_, fun X r c hc => ?_, fun X r Y q _ _ e => by simpa using e, fun X r h => absurd h (hN X)⟩
  · simp only [T.s] at hi ⊢
    rw [build_len] at hi
    rw [build_get _ hi]
    exact hlook i
  · obtain ⟨h1, h2⟩ := hr X r c hc
    refine ⟨c, h1, rfl, fun j hj => ?_⟩
    rw [List.getD_eq_getElem?_getD, List.getElem?_eq_getElem hj]
    exact h2 _ (List.getElem_mem hj)
/-- Pairs as cells. -/
def ivC (ps : List (Nat × Nat)) : List V := ps.flatMap fun p => [fl p.1, fl p.2]
theorem ivC_length (ps : List (Nat × Nat)) : (ivC ps).length = ps.length * 2 := by
  induction ps with
  | nil => rfl
  | cons p ps ih => simp only [ivC, List.flatMap_cons, List.length_append, List.length_cons, List.length_nil] at *; omega
theorem ivC_cells (ps : List (Nat × Nat)) : (ivC ps).all V.isCell = true := by
  induction ps with
  | nil => rfl
  | cons p ps ih => simp only [ivC, List.flatMap_cons, List.all_append, Bool.and_eq_true] at *; exact ⟨rfl, ih⟩
theorem ivC_repl (n : Nat) : repl n [fl 0, fl 0] = ivC (List.replicate n (0, 0)) := by
  unfold repl
  induction n with
  | zero => rfl
  | succ n ih => simp only [List.replicate_succ, List.flatten_cons, ih]; rfl
theorem ivC_set (ps : List (Nat × Nat)) (i a b : Nat) (h : i < ps.length) : ((ivC ps).set (i * 2) (fl a)).set (i * 2 + 1) (fl b) = ivC (ps.set i (a, b)) := by
  induction ps generalizing i with
  | nil => simp at h
  | cons p ps ih =>
    cases i with
    | zero => rfl
    | succ i =>
      have := ih i (by simpa using h)
      have e : (i + 1) * 2 = i * 2 + 1 + 1 := by omega
      simp only [ivC, List.flatMap_cons, List.set_cons_succ, e, List.cons_append, List.nil_append] at *
      rw [this]
theorem ivC_app (ps : List (Nat × Nat)) (a b : Nat) : ivC ps ++ [fl a, fl b] = ivC (ps ++ [(a, b)]) := by
  simp [ivC]
theorem mem_ivC {ps : List (Nat × Nat)} {v : V} (h : v ∈ ivC ps) (L L' : Heap) (ρ : Nat → Nat → Nat × Nat) : LeV L L' ρ v v := by
  simp only [ivC, List.mem_flatMap, List.mem_cons, List.not_mem_nil, or_false] at h
  obtain ⟨p, _, rfl | rfl⟩ := h <;> exact .d (.d _)
theorem ivC_getD (ps : List (Nat × Nat)) (i j : Nat) (h : i < ps.length) (hj : j < 2) : (ivC ps).getD (i * 2 + j) .any = .d ((ivG ps i).getD j default) := by
  induction ps generalizing i with
  | nil => simp at h
  | cons p ps ih =>
    cases i with
    | zero =>
      rcases j with _ | _ | j
      · rfl
      · rfl
      · omega
    | succ i =>
      have := ih i (by simpa using h)
      have e : (i + 1) * 2 + j = (i * 2 + j) + 1 + 1 := by omega
      rw [e]
      simpa [ivC, ivG] using this
theorem snap_iv {f : Nat → Nat → Prop} {X r n ver : Nat} {ps : List (Nat × Nat)} (hf : f X r) (h : L.get X r = some (ivC ps)) (hn : ps.length = n) (hv : n * 2 = ver) : SnapF L f (.sl X r 0 n 2 ver) (ivD ps) := by
  subst hn
  refine .sl (fun _ => hf) h (by rw [ivC_length]; exact hv) (by rw [ivC_length]; omega) (fun i hi => rfl) fun i j hi hj => ?_
  rw [show 0 + i * 2 + j = i * 2 + j from by omega, ivC_getD _ _ _ hi hj]
  exact .d _
theorem LeT.nilrow {as as' : Sl} {X esz : Nat} (hX : L.fam X = none) (hN : ¬ N X)
    (h : ∀ i, look as' i = look as i ∨ (look as i = .nil ∧ look as' i = .sl X 0 0 0 esz 0)) : Le N (T.s nt ⟨as, L⟩) (T.s nt ⟨as', (X, [[]]) :: L⟩) := by
  refine Le.nilrow (esz := esz) hX hN (by simp [build_len]) fun i hi => ?_
  rw [build_len] at hi
  rw [build_get _ hi, build_get _ hi]
  exact h i
def srcRow (o : Option (List V)) (ver off m : Nat) : Option (List V) := match o with
  | some cells => if cells.length = ver ∧ off + m ≤ cells.length then some ((cells.drop off).take m) else none
  | none => none
theorem srcCells_sl (L : Heap) (esz X r off k e ver : Nat) : srcCells L esz (.sl X r off k e ver) = srcRow (L.get X r) ver off (k * esz) := by
  simp only [srcCells, srcRow]; cases L.get X r <;> rfl
theorem srcRow_some (cells : List V) (ver off m : Nat) : srcRow (some cells) ver off m = if cells.length = ver ∧ off + m ≤ cells.length then some ((cells.drop off).take m) else none := rfl
theorem srcCells_nil (L : Heap) (esz : Nat) : srcCells L esz .nil = some [] := by rw [srcCells]
theorem srcLen_sl (X r off k e ver : Nat) : srcLen (.sl X r off k e ver) = k := by rw [srcLen]
theorem srcLen_nil : srcLen .nil = 0 := by simp [srcLen]
end
end Go.Ab

/- The rules that evaluate, as one. -/
namespace Go.Ab
set_option linter.unusedSimpArgs false
set_option linter.unusedVariables false
open Go
set_option linter.defProp false in
def evS := And.intro @xC_reg (And.intro @xC_seq (And.intro @xC_cond (And.intro @xC_block (And.intro @xC_loop (And.intro @xC_exit (And.intro @xC_ret (And.intro @thenC_normal (And.intro @thenC_exit (And.intro @thenC_ret (And.intro @condC_true (And.intro @condC_false (And.intro @xI_nil (And.intro @xI_cons (And.intro @xI_cons' (And.intro @xI_cons'' (And.intro @or_false (And.intro @nm0 (And.intro @nm1 (And.intro @nm2 (And.intro @nm3 (And.intro @xI_guard (And.intro @guardC_run (And.intro @guardC_tf (And.intro @guardC_ft (And.intro @guardC_und (And.intro @putI_some (And.intro @putI_none (And.intro @pickG_true (And.intro @pickG_false (And.intro @true_and (And.intro @and_true (And.intro @thenL_normal (And.intro @thenL_exit (And.intro @thenL_ret (And.intro @thenW_normal (And.intro @thenW_exit (And.intro @thenW_ret (And.intro @repl_zero (And.intro @repl_zeroI (And.intro @srcCells_sl (And.intro @srcRow_some (And.intro @srcCells_nil (And.intro @srcLen_sl (And.intro @srcLen_nil (And.intro @srcCells_row (And.intro @srcLen_bor (And.intro @Nat.one_mul (And.intro @ivC_repl (And.intro @ivC_length (And.intro @ivC_cells (And.intro @hd_length (And.intro @hd_cells (And.intro @hdo_length (And.intro @hdo_cells (And.intro @all_rowIV (And.intro @set_rowIV (And.intro @Int.toNat_natCast (And.intro @cast0 (And.intro @cast1 (And.intro @cast2 (And.intro @cast3 (And.intro @cast4 (And.intro @cast5 (And.intro @cast6 (And.intro @cast7 (And.intro @cast8 (And.intro @cast9 (And.intro @cast10 (And.intro @cast11 (And.intro @cast12 (And.intro @cast13 (And.intro @cast14 (And.intro @cast15 (And.intro @cast16 (And.intro @toNatSucc (And.intro @Int.ofNat_lt (And.intro @Int.ofNat_le (And.intro @Int.natCast_nonneg (And.intro @Int.le_refl (And.intro @set_map_fl (And.intro @all_map_fl (And.intro @Nat.zero_mul (And.intro @Nat.mul_one (And.intro @Nat.zero_add (And.intro @Nat.add_zero (And.intro @next_nil (And.intro @next_cons (And.intro @get_nil (And.intro @get_cons (And.intro @fam_nil (And.intro @fam_cons (And.intro @ins_nil (And.intro @ins_cons (And.intro @put_cons (And.intro @ldv_one (And.intro @ldv_agg (And.intro @cellsOf_agg (And.intro @cellsOf_d (And.intro @cellsOf_sl (And.intro @cellsOf_ptr (And.intro @cellsOf_nil (And.intro @cellsOf_fn (And.intro @isCell_d (And.intro @isCell_sl (And.intro @isCell_ptr (And.intro @isCell_nil (And.intro @isCell_fn (And.intro @splice_nil (And.intro @splice_cons (And.intro @Bool.and_true (And.intro @Bool.true_and (And.intro @Bool.and_false (And.intro @Bool.not_true (And.intro @Bool.not_false (And.intro @Bool.xor_false (And.intro @Nat.le_refl (And.intro @Nat.lt_add_one (And.intro @Nat.zero_le (And.intro @Nat.zero_lt_succ (And.intro @not_false_eq_true (And.intro @not_true_eq_false (And.intro @and_self (And.intro @and_false (And.intro @false_and (@Nat.not_lt_zero)))))))))))))))))))))))))))))))))))))))))))))))))))))))))))))))))))))))))))))))))))))))))))))))))))))))))))))))))))))))))))))
set_option linter.defProp false in
def evT := And.intro @List.zip_cons_cons.{0, 0} (And.intro @List.zip_nil_right.{0, 0} (And.intro @List.zip_nil_left.{0, 0} (And.intro @List.map_cons.{0, 0} (And.intro @List.map_nil.{0, 0} (And.intro @List.append_nil.{0} (And.intro @List.nil_append.{0} (And.intro @List.cons_append.{0} (And.intro @List.length_replicate.{0} (And.intro @List.length_map.{0, 0} (And.intro @List.getD_cons_zero.{0} (And.intro @List.getD_cons_succ.{0} (And.intro @List.drop_succ_cons.{0} (And.intro @List.drop_zero.{0} (And.intro @List.take_succ_cons.{0} (And.intro @List.take_zero.{0} (And.intro @List.take_nil.{0} (And.intro @List.getElem?_cons_zero.{0} (And.intro @List.getElem?_cons_succ.{0} (And.intro @List.length_cons.{0} (And.intro @List.length_nil.{0} (And.intro @List.length_set.{0} (And.intro @List.set_cons_zero.{0} (And.intro @List.set_cons_succ.{0} (And.intro @List.all_cons.{0} (@List.all_nil.{0})))))))))))))))))))))))))
set_option linter.defProp false in
def evU := And.intro @decide_true (And.intro @decide_false (And.intro @decide_eq_true_eq (And.intro @List.mem_cons.{0} (And.intro @List.not_mem_nil.{0} (And.intro @bne_self_eq_false.{0} (And.intro @beq_self_eq_true.{0} (And.intro @ne_eq.{1} (And.intro @Option.some.injEq.{0} (And.intro @gt_iff_lt.{0} (And.intro @ge_iff_le.{0} (And.intro @eq_self.{1} (And.intro @atL_do (And.intro @drops_at (And.intro @forall_eq_or_imp.{1} (And.intro @forall_eq.{1} (And.intro @false_implies (And.intro @implies_true.{0} (And.intro @implies_true.{1} (And.intro @sides.eq_1 (And.intro @Inst.places.eq_1 (And.intro @Inst.places.eq_2 (And.intro @Inst.places.eq_3 (And.intro @Inst.places.eq_4 (And.intro @Inst.places.eq_5 (And.intro @Apart.eq_1 (And.intro @Apart.eq_2 (And.intro @Apart.eq_3 (And.intro @Apart.eq_4 (And.intro @Apart.eq_5 (And.intro @Apart.eq_6 (And.intro @Apart.eq_7 (And.intro @Apart.eq_8 (And.intro @Apart.eq_9 (And.intro @xeff.eq_1 (And.intro @xeff.eq_2 (And.intro @xeff.eq_3 (And.intro @xeff.eq_4 (And.intro @xeff.eq_5 (And.intro @xhv.eq_1 (And.intro @xhv.eq_2 (And.intro @xev.eq_1 (And.intro @xev.eq_2 (And.intro @look.eq_1 (And.intro @look.eq_2 (And.intro @argSl.eq_1 (And.intro @argSl.eq_2 (And.intro @keep.eq_1 (And.intro @inBlockT.eq_1 (And.intro @inBlockT.eq_2 (And.intro @pickX.eq_1 (And.intro @pickX.eq_2 (And.intro @callX.eq_1 (And.intro @callX.eq_2 (And.intro @callCX.eq_1 (And.intro @callCX.eq_2 (And.intro @callSX.eq_1 (And.intro @callSX.eq_2 (And.intro @callee.eq_1 (And.intro @callee.eq_2 (And.intro @callee.eq_3 (And.intro @fillV.eq_1 (And.intro @fillV.eq_2 (And.intro @partsV.eq_1 (And.intro @V.okPart.eq_1 (And.intro @V.okPart.eq_2 (And.intro @rowD.eq_1 (And.intro @rowI.eq_1 (And.intro @rowsD.eq_1 (And.intro @ivD.eq_1 (And.intro @rowG.eq_1 (And.intro @rowIG.eq_1 (And.intro @rowsG.eq_1 (@ivG.eq_1)))))))))))))))))))))))))))))))))))))))))))))))))))))))))))))))))))))))))
end Go.Ab

/- From a contract of data to a law's walk: arguments as data; nothing that lay there is changed. -/
namespace Go.Ab
set_option linter.unusedSimpArgs false
set_option linter.unusedVariables false
open Go Go.ChangeShapes Go.WideShapes Go.RowKit

/-- A slice of whole numbers as it lies. -/
def IsRow (w : World) (a : Option Addr) (len cap : Nat) (zs : List Int) : Prop :=
  (a = none ∧ len = 0 ∧ cap = 0 ∧ zs = []) ∨
  ∃ x, a = some x ∧ len ≤ cap ∧ zs.length = cap ∧ ∀ i, i < zs.length → w.cell? (x.add i) = some (.int .i64 (zs.getD i 0))

theorem IsRow.rel {St : Nat → Prop} {m : Map} {L : Heap} {w : World} {a : Option Addr} {len cap : Nat} {zs : List Int} (h : IsRow w a len cap zs) (hSt : ∀ b, b < w.heap.size → St b) :
    VRel St m L w (.d (rowI (zs.take len))) (.slice a len cap) := by
  rcases h with ⟨rfl, rfl, rfl, rfl⟩ | ⟨x, rfl, hl, hz, hc⟩
  · exact .d (.bor0 _ _ _)
  · by_cases h0 : len = 0
    · subst h0
      rw [List.take_zero]; exact .d (.bor0 _ _ _)
    have hlen : (zs.take len).length = len := by simp; omega
    have hx : x.spot = none ∧ x.block < w.heap.size := by
      have := hc 0 (by omega)
      simp only [Addr.add, if_true, World.cell?] at this
      split at this
      · rename_i c _ _ hb
        split at this
        · cases this
        · rename_i hs
          refine ⟨by simpa using hs, ?_⟩
          exact (Array.getElem?_eq_some_iff.1 hb).1
      · cases this
    obtain ⟨blk, off, spot⟩ := x
    obtain ⟨rfl, hb⟩ := hx
    have cell : ∀ i, i < len → w.cell? ⟨blk, off + i, none⟩ = some (.int .i64 (zs.getD i 0)) := by
      intro i hi
      have := hc i (by omega)
      unfold Addr.add at this
      split at this
      · rename_i e; subst e; exact this
      · exact this
    unfold rowI
    rw [hlen]
    refine .d (.bor (sz := 1) (fun i _ => .int .i64 (zs.getD i 0)) (hSt _ hb) hl (fun i hi => rfl) (fun i j hi hj => ?_) fun i j hi hj => ?_)
    · obtain rfl : j = 0 := by omega
      have := cell i hi
      rwa [show off + i * 1 + 0 = off + i from by omega]
    · obtain rfl : j = 0 := by omega
      have : (zs.take len).getD i 0 = zs.getD i 0 := by
        simp only [List.getD_eq_getElem?_getD, List.getElem?_take, if_pos hi]
      simp only [rowIG, List.getD_cons_zero, this]
      exact .int _ _

theorem walk_of_con {P : Program} {f : FuncId} {vs : List V} {b : Bool} (h : Con P f vs (fB b)) {cargs : Array Value} {w : World} (hsz : cargs.size = vs.length)
    (hargs : ∀ j, j < vs.length → VRel (fun b => b < w.heap.size) (fun _ _ => none) [] w (vs.getD j .any) (cargs.getD j undef)) :
    Calls P f cargs w fun e w' => e = .returned (.bool b) ∧ Below w.heap.size w w' := by
  refine (h.2 (fun b => b < w.heap.size) (fun _ _ => none) w cargs (Objs.none _ fun _ h => h) hsz hargs).mono ?_
  rintro e w' ⟨v, St', m', rfl, h1, h2, h3, h4, h5, h6⟩
  refine ⟨by rw [h2.bool], ⟨h3.os, h3.tape, h3.output, h3.size, fun k hk => h3.block k hk ?_⟩⟩
  rintro ⟨X, r, C, hX, _⟩
  simp [Heap.get, Heap.fam] at hX

/-- A row's slice of whole numbers is no longer than its weight allows. -/
theorem sized_len {H : Type} {enc : TypeId × Value → H} {P : Program} {W : World} {base : Nat} {spare : Nat → Bool} {held : Bool} {t e : TypeId} {k : IntKind} {a : Option Addr} {len cap : Nat} {d : DataW H} {ps : List MemPlace} {ts : List TypeId} {ds : List (DataW H)} {j : Nat}
    (hsz : (DataW.weightsEach P ts ds).all (· ≤ reachBytes) = true) (ht : ts[j]? = some t) (hd : ds[j]? = some d) (hu : P.underlying t = some (.slice e)) (he : P.underlying e = some (.int k)) (hc : P.cellsOf e = 1) (hB : P.bytesOf e = 8)
    (h : DataW.Trod enc P W base spare held t (.slice a len cap) d ps) : len < 2 ^ 61 := by
  obtain ⟨fuel, hf⟩ := h
  rcases open_ints hu he hc hf with ⟨hcs, _⟩ | ⟨x, l, c, zs, hcs, _, hl, _, hz, hx, _, _⟩
  · simp [Value.cells] at hcs
    obtain ⟨rfl, rfl, rfl⟩ := hcs
    decide
  · simp [Value.cells] at hcs
    obtain ⟨rfl, rfl, rfl⟩ := hcs
    obtain ⟨hx, _⟩ := Prod.mk.inj hx
    subst hx
    have z := sized_slice hsz ht hd hu
    rw [hB] at z
    have hl2 : len ≤ zs.length := by
      rw [hz]; split
      · exact hl
      · exact Nat.le_refl _
    have h1 : (lits (H := H) k (zs.take len)).length + (lits (H := H) k (zs.drop len)).length = zs.length := by
      simp [lits]; omega
    rw [h1] at z
    have hr : reachBytes ≤ 140737488351232 := by decide
    omega
end Go.Ab

/- Zeros, and what is no number: words of which nothing comes but such. -/
namespace Go.Ab
set_option linter.unusedSimpArgs false
set_option linter.unusedVariables false
open Go

def Zx (x : Nat) : Prop := match Ieee.double.read x with
  | .number _ m _ => m = 0
  | _ => True

theorem Zx_qnan : Zx qnan := by
  have e : Ieee.double.read qnan = .nan false 2251799813685249 := by decide
  simp [Zx, e]
theorem Zx_zero (s : Bool) (i : Int) : Zx (cf (Ieee.double.write (.number s 0 i))) := by
  have e : Ieee.double.write (.number s 0 i) = Ieee.double.word s 0 := by simp [Ieee.Format.write, Ieee.Format.nearest]
  rw [e]
  cases s
  · have : cf (Ieee.double.word false 0) = 0 := by decide
    have r : Ieee.double.read 0 = .number false 0 (-1074) := by decide
    rw [this]; simp [Zx, r]
  · have : cf (Ieee.double.word true 0) = 9223372036854775808 := by decide
    have r : Ieee.double.read 9223372036854775808 = .number true 0 (-1074) := by decide
    rw [this]; simp [Zx, r]
theorem Zx_inf (s : Bool) : Zx (cf (Ieee.double.write (.infinity s))) := by
  cases s
  · have : cf (Ieee.double.write (.infinity false)) = 9218868437227405312 := by decide
    have r : Ieee.double.read 9218868437227405312 = .infinity false := by decide
    rw [this]; simp [Zx, r]
  · have : cf (Ieee.double.write (.infinity true)) = 18442240474082181120 := by decide
    have r : Ieee.double.read 18442240474082181120 = .infinity true := by decide
    rw [this]; simp [Zx, r]
def Zd : Option Ieee.Datum → Prop
  | some (.number _ m _) => m = 0
  | _ => True
theorem Zx_of {o : Option Ieee.Datum} (h : Zd o) (hn : ∀ s t, o ≠ some (.nan s t)) : Zx (((o.map Ieee.double.write).map cf).getD qnan) := by
  cases o with
  | none => exact Zx_qnan
  | some d =>
    cases d with
    | number s m i => obtain rfl : m = 0 := h; exact Zx_zero s i
    | infinity s => exact Zx_inf s
    | nan s t => exact absurd rfl (hn s t)
theorem Zx_mul {x y : Nat} (h : Zx x) : Zx (fop .mul x y) := by
  unfold fop Ieee.Format.mul
  unfold Zx at h
  simp only
  refine Zx_of ?_ ?_
  · revert h
    cases Ieee.double.read x <;> cases Ieee.double.read y <;> intro h <;> simp only [Ieee.Datum.product, Zd] <;> (try split) <;> simp_all [Zd]
  · intro s t
    cases Ieee.double.read x <;> cases Ieee.double.read y <;> simp only [Ieee.Datum.product] <;> (try split) <;> simp
theorem Zx_div {x y : Nat} (h : Zx x) : Zx (fop .div x y) := by
  unfold fop Ieee.Format.div
  unfold Zx at h
  simp only
  refine Zx_of ?_ ?_
  · revert h
    cases Ieee.double.read x <;> cases Ieee.double.read y <;> intro h <;> simp only [Ieee.Datum.quotient, Zd] <;> (try split) <;> (try split) <;> simp_all [Zd]
  · intro s t
    cases Ieee.double.read x <;> cases Ieee.double.read y <;> simp only [Ieee.Datum.quotient] <;> (try split) <;> (try split) <;> simp
theorem Zx_sub {x y : Nat} (h : Zx x) (k : Zx y) : Zx (fop .sub x y) := by
  unfold fop Ieee.Format.sub
  unfold Zx at h k
  simp only
  refine Zx_of ?_ ?_
  · revert h k
    cases Ieee.double.read x <;> cases Ieee.double.read y <;> intro h k <;> simp only [Ieee.Datum.sum, Ieee.Datum.opposite, Zd] <;> (try split) <;> simp_all [Zd, Ieee.signed]
  · intro s t
    cases Ieee.double.read x <;> cases Ieee.double.read y <;> simp only [Ieee.Datum.sum, Ieee.Datum.opposite] <;> (try split) <;> simp
theorem Zx_bad {x : Nat} (h : Zx x) : fcmp .eq x 0 = true ∨ finite x = false := by
  cases hd : Ieee.double.read x with
  | nan s t => right; have : isNan x = true := by rw [← read_nan, hd]; rfl
               simp [finite, this]
  | infinity s =>
    right
    rw [← finite_sub]
    have e : fop .sub x x = qnan := by
      have : ¬ s = !s := by cases s <;> simp
      simp [fop, Ieee.Format.sub, hd, Ieee.Datum.sum, Ieee.Datum.opposite, this]
    rw [e]; decide
  | number s m i =>
    left
    obtain rfl : m = 0 := by unfold Zx at h; rw [hd] at h; exact h
    have r : Ieee.double.read 0 = .number false 0 (-1074) := by decide
    have : Ieee.double.order x 0 = some .eq := by
      unfold Ieee.Format.order
      rw [hd, r]
      cases s <;> simp [Ieee.Datum.order, Ieee.signed]
    simp [fcmp, this]
theorem Zx_0 : Zx 0 := by
  have r : Ieee.double.read 0 = .number false 0 (-1074) := by decide
  simp [Zx, r]
end Go.Ab
