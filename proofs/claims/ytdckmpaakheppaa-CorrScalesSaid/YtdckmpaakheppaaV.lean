/- Code: what it promises; from one state to a weaker one. -/
import Derived.Test.YtdckmpaakheppaaU
namespace Go.Ab
set_option linter.unusedSimpArgs false
set_option linter.unusedVariables false
open Go

inductive C where
  | skip
  | reg (l : List II)
  | seq (a b : C)
  | cond (o : Opd) (a b : C)
  | block (id : Nat) (c : C)
  | loop (c : C)
  | exit (id : Nat)
  | ret

def compC (P : Program) : Code → Option C
  | .skip => some .skip
  | .region _ ops draw => (if draw then compDraw P ops.toList else compSeq P ops.toList).map .reg
  | .seq a b => match compC P a, compC P b with
    | some x, some y => some (.seq x y)
    | _, _ => none
  | .cond c a b => match compC P a, compC P b with
    | some x, some y => some (.cond (Opd.of c) x y)
    | _, _ => none
  | .block id b => (compC P b).map (.block id)
  | .loop b => (compC P b).map .loop
  | .exit id => some (.exit id)
  | .ret => some .ret
  | _ => none

inductive Ex where
  | normal
  | exit (id : Nat)
  | ret

def PostW (E : Env) (Q : Ex → S → Prop) : Exit → Act → World → Prop
  | .normal, a, w => ∃ s St m, Q .normal s ∧ SimS St m s a w ∧ Since E St m s.L w
  | .exit id, a, w => ∃ s St m, Q (.exit id) s ∧ SimS St m s a w ∧ Since E St m s.L w
  | .ret, a, w => ∃ s St m, Q .ret s ∧ SimS St m s a w ∧ Since E St m s.L w
  | _, _, _ => False

/-- What a piece of code promises of a state; names of N are kept. -/
def W (P : Program) (N : Nat → Prop) (c : C) (Q : Ex → S → Prop) (s : S) : Prop :=
  P.follows .mixedOrders = true → ∀ code, compC P code = some c → ∀ (E : Env), (∀ X r, E.L.get X r ≠ none → N X) → ∀ (St : Nat → Prop) (m : Map) (a : Act) (w : World),
    SimS St m s a w → Since E St m s.L w → code.wp P (PostW E Q) a w

def Ex.then (next : S → Prop) (Q : Ex → S → Prop) : Ex → S → Prop
  | .normal, s => next s
  | e, s => Q e s

def Ex.inBlock (id : Nat) (Q : Ex → S → Prop) : Ex → S → Prop
  | .exit i, s => if i = id then Q .normal s else Q (.exit i) s
  | e, s => Q e s

section
variable {P : Program} {N : Nat → Prop} {Q : Ex → S → Prop} {s : S}

theorem PostW.mono {E : Env} {Q Q' : Ex → S → Prop} (h : ∀ e s, Q e s → Q' e s) : ∀ e a w, PostW E Q e a w → PostW E Q' e a w := by
  intro e a w hp
  cases e <;> first | exact hp | (obtain ⟨s, St, m, h1, h2, h3⟩ := hp; exact ⟨s, St, m, h _ _ h1, h2, h3⟩)

theorem W.mono {c : C} {Q' : Ex → S → Prop} (h : W P N c Q s) (hq : ∀ e s, Q e s → Q' e s) : W P N c Q' s :=
  fun hm code hc E hN St m a w hs hE => wp_mono (h hm code hc E hN St m a w hs hE) (PostW.mono hq)

theorem W_skip (h : Q .normal s) : W P N .skip Q s := by
  intro hm code hc E hN St m a w hs hE
  cases code <;> simp only [compC, reduceCtorEq, Option.map_eq_some_iff, and_false, exists_false] at hc
  case skip => exact wp_skip ⟨s, St, m, h, hs, hE⟩
  all_goals first | (cases hc; done) | (split at hc <;> cases hc)

theorem W_exit {id : Nat} (h : Q (.exit id) s) : W P N (.exit id) Q s := by
  intro hm code hc E hN St m a w hs hE
  cases code <;> simp only [compC, reduceCtorEq, Option.map_eq_some_iff, and_false, exists_false] at hc
  case exit i => cases hc; exact wp_exit ⟨s, St, m, h, hs, hE⟩
  all_goals first | (cases hc; done) | (split at hc <;> cases hc)

theorem W_ret (h : Q .ret s) : W P N .ret Q s := by
  intro hm code hc E hN St m a w hs hE
  cases code <;> simp only [compC, reduceCtorEq, Option.map_eq_some_iff, and_false, exists_false] at hc
  case ret => exact wp_ret ⟨s, St, m, h, hs, hE⟩
  all_goals first | (cases hc; done) | (split at hc <;> cases hc)

theorem mapM_range {α : Type} {n : Nat} {f : Nat → Option α} {r : List α} (h : (List.range n).mapM f = some r) : r.length = n ∧ ∀ k, (hk : k < r.length) → f k = some r[k] := by
  obtain ⟨h1, h2⟩ := mapM_some f _ _ h
  refine ⟨by simpa using h1, fun k hk => ?_⟩
  have := h2 k (by simp at h1; simp; omega) hk
  simpa using this

theorem compSeq_spec {ops : List Oper} {iis : List II} (h : compSeq P ops = some iis) : iis.length = ops.length ∧ ∀ k, (hk : k < iis.length) → ∃ o, ops[k]? = some o ∧ compII P ops 0 [] [] k o = some iis[k] := by
  obtain ⟨h1, h2⟩ := mapM_range h
  refine ⟨h1, fun k hk => ?_⟩
  have := h2 k hk
  obtain ⟨o, ho, hc⟩ := Option.bind_eq_some_iff.1 this
  exact ⟨o, ho, hc⟩

theorem compDraw0_spec {early : Bool} {ops : List Oper} {iis : List II} (h : compDraw0 P early ops = some iis) : iis.length = ops.length ∧ (∀ k, (hk : k < iis.length) → ∃ o pure bs ind, ops[k]? = some o ∧ compII P ops pure bs ind k o = some iis[k]) ∧
    (∀ k o e, ops[k]? = some o → e ∈ o.after → Region.binds .any e = true → e.on < k) ∧
    (∀ i j, i < j → (hj : j < iis.length) → (hi : i < iis.length) → Reach ops i j ∨ commB iis[i] iis[j] = true) := by
  unfold compDraw0 at h
  simp only at h
  split at h
  · cases h
  rename_i raw hraw
  split at h
  · cases h
  rename_i iis' hiis
  split at h
  case isFalse => cases h
  rename_i hcheck
  cases h
  rw [Bool.and_eq_true] at hcheck
  obtain ⟨hdown, hpairs⟩ := hcheck
  obtain ⟨h1, h2⟩ := mapM_range hiis
  refine ⟨h1, fun k hk => ?_, fun k o e ho he hb => ?_, fun i j hij hj hi => ?_⟩
  · obtain ⟨o, ho, hc⟩ := Option.bind_eq_some_iff.1 (h2 k hk)
    exact ⟨o, _, _, _, ho, hc⟩
  · have hk : k < ops.length := (List.getElem?_eq_some_iff.1 ho).1
    have := List.all_eq_true.1 hdown k (by simpa using hk)
    simp only [ho] at this
    have := List.all_eq_true.1 this e (by simpa using he)
    simpa [hb] using this
  · have h3 := List.all_eq_true.1 hpairs j (by simp; omega)
    have h4 := List.all_eq_true.1 h3 i (by simpa using hij)
    simp only [List.getElem?_eq_getElem hi, List.getElem?_eq_getElem hj, Bool.or_eq_true] at h4
    rcases h4 with h4 | h4
    · exact .inl (masks_spec (ops := ops) ops [] (fun j _ => by simp) (fun j hj => by simp at hj) j i h4)
    · exact .inr h4

theorem compDraw_spec {ops : List Oper} {iis : List II} (h : compDraw P ops = some iis) : iis.length = ops.length ∧ (∀ k, (hk : k < iis.length) → ∃ o pure bs ind, ops[k]? = some o ∧ compII P ops pure bs ind k o = some iis[k]) ∧
    (∀ k o e, ops[k]? = some o → e ∈ o.after → Region.binds .any e = true → e.on < k) ∧
    (∀ i j, i < j → (hj : j < iis.length) → (hi : i < iis.length) → Reach ops i j ∨ commB iis[i] iis[j] = true) := by
  unfold compDraw at h
  split at h
  · cases h; exact compDraw0_spec (by assumption)
  · exact compDraw0_spec h

theorem W_reg (base : Nat) {iis : List II} (h : wpI P base iis (Q .normal) s) : W P N (.reg iis) Q s := by
  intro hm code hc E hN St m a w hs hE
  cases code <;> simp only [compC, reduceCtorEq, Option.map_eq_some_iff, and_false, exists_false] at hc
  case region id ops draw =>
    obtain ⟨l, hl, hcc⟩ := hc
    cases hcc
    cases draw with
    | false =>
      simp only [Bool.false_eq_true, if_false] at hl
      obtain ⟨h1, h2⟩ := compSeq_spec hl
      refine wp_region (seq_sound (E := E) (base := base) (K := Q .normal) (List.range ops.size) iis (by simpa using h1) (fun j hj1 hj2 => ?_) St m s a w hs hE h fun t St' m' a' w' ht hs' hE' => ⟨t, St', m', ht, hs', hE'⟩)
      obtain ⟨o, ho, hc⟩ := h2 j hj2
      simp only [List.getElem_range]
      exact ⟨o, 0, [], [], by simpa using ho, hc⟩
    | true =>
      simp only [if_true] at hl
      obtain ⟨h1, h2, h3, h4⟩ := compDraw_spec hl
      have hlen : iis.length = ops.size := by simpa using h1
      refine wp_region_any hm (any_sound (E := E) (base := base) (K := Q .normal) (iis := iis) hlen (fun k hk => ?_) (fun k o e ho he hb => h3 k o e (by simpa using ho) he hb) h4
        (fun t St' m' a' w' ht hs' hE' => ⟨t, St', m', ht, hs', hE'⟩) ops.size _ St m s a _ (by simp) ?_ (fun k o e hk => ?_) (hs.draw (.drew w _)) (hE.draw (.drew w _)) ?_)
      · obtain ⟨o, pure, bs, ind, ho, hc⟩ := h2 k hk
        exact ⟨o, pure, bs, ind, by simpa using ho, hc⟩
      · have : unlisted ops.size (Array.replicate ops.size false) = List.range ops.size := by
          unfold unlisted
          rw [List.filter_eq_self]
          intro i hi
          have : i < ops.size := by simpa using hi
          simp [this]
        rw [this]; simp
      · exfalso
        by_cases hlt : k < ops.size
        · simp [hlt] at hk
        · simp [hlt] at hk
      · have : unlisted ops.size (Array.replicate ops.size false) = List.range ops.size := by
          unfold unlisted
          rw [List.filter_eq_self]
          intro i hi
          have : i < ops.size := by simpa using hi
          simp [this]
        rw [this, ← hlen]
        have e : (List.range iis.length).filterMap (fun i => iis[i]?) = iis := by
          refine List.ext_getElem? fun i => ?_
          have : ∀ l : List II, (List.range l.length).filterMap (fun i => l[i]?) = l := by
            intro l
            induction l with
            | nil => rfl
            | cons x l ih =>
              rw [List.length_cons, List.range_succ_eq_map, List.filterMap_cons]
              simp only [List.getElem?_cons_zero, List.filterMap_map]
              congr 1
          rw [this]
        rw [e]; exact h
  all_goals first | (cases hc; done) | (split at hc <;> cases hc)

theorem W_seq {x y : C} (h : W P N x (Ex.then (fun t => W P N y Q t) Q) s) : W P N (.seq x y) Q s := by
  intro hm code hc E hN St m a w hs hE
  cases code <;> simp only [compC, reduceCtorEq, Option.map_eq_some_iff, and_false, exists_false] at hc
  case seq ca cb =>
    split at hc
    · rename_i x' y' h1 h2
      cases hc
      refine wp_seq (wp_mono (h hm ca h1 E hN St m a w hs hE) fun e a' w' hp => ?_)
      cases e with
      | normal => obtain ⟨t, St', m', ht, hs', hE'⟩ := hp; exact ht hm cb h2 E hN St' m' a' w' hs' hE'
      | _ => exact hp
    · cases hc
  all_goals first | (cases hc; done) | (split at hc <;> cases hc)

theorem W_cond {o : Opd} {x y : C} {t : Bool} (ho : s.ev o = .d (.bool t)) (h1 : t = true → W P N x Q s) (h2 : t = false → W P N y Q s) : W P N (.cond o x y) Q s := by
  intro hm code hc E hN St m a w hs hE
  cases code <;> simp only [compC, reduceCtorEq, Option.map_eq_some_iff, and_false, exists_false] at hc
  case cond c ca cb =>
    split at hc
    · rename_i x' y' e1 e2
      cases hc
      have hv := ev_rel hs c
      rw [ho] at hv
      exact wp_cond_split hv.bool (fun ht => h1 ht hm ca e1 E hN St m a w hs hE) fun ht => h2 ht hm cb e2 E hN St m a w hs hE
    · cases hc
  all_goals first | (cases hc; done) | (split at hc <;> cases hc)

theorem W_block {id : Nat} {c : C} (h : W P N c (Ex.inBlock id Q) s) : W P N (.block id c) Q s := by
  intro hm code hc E hN St m a w hs hE
  cases code <;> simp only [compC, reduceCtorEq, Option.map_eq_some_iff, and_false, exists_false] at hc
  case block i cb =>
    obtain ⟨c', hc', hcc⟩ := hc
    cases hcc
    refine wp_block (wp_mono (h hm cb hc' E hN St m a w hs hE) fun e a' w' hp => ?_)
    cases e with
    | exit j =>
      obtain ⟨t, St', m', ht, hs', hE'⟩ := hp
      simp only [Ex.inBlock] at ht
      simp only [Exit.inBlock]
      split
      · rename_i e; simp only [e, if_true] at ht; exact ⟨t, St', m', ht, hs', hE'⟩
      · rename_i e; simp only [e, if_false] at ht; exact ⟨t, St', m', ht, hs', hE'⟩
    | _ => exact hp
  all_goals first | (cases hc; done) | (split at hc <;> cases hc)

/-- A loop: what holds at each round's head, with a number that goes down. -/
theorem W_loop {c : C} (I : Nat → S → Prop) {n : Nat} (h0 : I n s) (round : ∀ n s, I n s → W P N c (Ex.then (fun t => ∃ k, k < n ∧ I k t) Q) s) : W P N (.loop c) Q s := by
  intro hm code hc E hN St m a w hs hE
  cases code <;> simp only [compC, reduceCtorEq, Option.map_eq_some_iff, and_false, exists_false] at hc
  case loop cb =>
    obtain ⟨c', hc', hcc⟩ := hc
    cases hcc
    have key : ∀ n a w, (∃ s St m, I n s ∧ SimS St m s a w ∧ Since E St m s.L w) → ∀ (b : Frame) (k : List Item) (cs : List Frame),
        ∃ e a' w', PostW E Q e a' w' ∧ Arrives P (lone (b.at a (.code cb :: .inLoop cb :: k)) cs w) b k cs e a' w' := by
      intro n
      induction n using Nat.strongRecOn with
      | _ n ih =>
        intro a w ⟨s, St, m, hI, hs, hE⟩ b k cs
        obtain ⟨e, a1, w1, hq, harr⟩ := round n s hI hm cb hc' E hN St m a w hs hE b (.inLoop cb :: k) cs
        cases e with
        | normal =>
          obtain ⟨t, St', m', ⟨j, hj, hIt⟩, hs', hE'⟩ := hq
          obtain ⟨e2, a2, w2, hq2, harr2⟩ := ih j hj a1 w1 ⟨t, St', m', hIt, hs', hE'⟩ b k cs
          exact ⟨e2, a2, w2, hq2, .of_steps (Steps.trans harr (.one step_inLoop)) harr2⟩
        | exit id => exact ⟨.exit id, a1, w1, hq, .pass (x := .inLoop cb) rfl (fun _ _ => .inl (by simp)) harr⟩
        | ret => exact ⟨.ret, a1, w1, hq, .pass (x := .inLoop cb) rfl (fun _ _ => .inl (by simp)) harr⟩
        | goto l => exact hq.elim
        | panic ch => exact hq.elim
        | outgrown => exact hq.elim
    intro b k cs
    obtain ⟨e, a', w', hq, harr⟩ := key n a w ⟨s, St, m, h0, hs, hE⟩ b k cs
    exact ⟨e, a', w', hq, .of_steps (.one step_loop) harr⟩
  all_goals first | (cases hc; done) | (split at hc <;> cases hc)

/-- All but loops, at once. -/
def wpC (P : Program) (N : Nat → Prop) : C → (Ex → S → Prop) → S → Prop
  | .skip, Q, s => Q .normal s
  | .reg iis, Q, s => wpI P s.L.next iis (Q .normal) s
  | .seq a b, Q, s => wpC P N a (Ex.then (fun t => wpC P N b Q t) Q) s
  | .cond o a b, Q, s => match s.ev o with
    | .d (.bool t) => (t = true → wpC P N a Q s) ∧ (t = false → wpC P N b Q s)
    | _ => False
  | .block id c, Q, s => wpC P N c (Ex.inBlock id Q) s
  | .loop c, Q, s => W P N (.loop c) Q s
  | .exit id, Q, s => Q (.exit id) s
  | .ret, Q, s => Q .ret s

theorem W_of_wpC : ∀ (c : C) (Q : Ex → S → Prop) (s : S), wpC P N c Q s → W P N c Q s := by
  intro c
  induction c with
  | skip => intro Q s h; exact W_skip h
  | reg l => intro Q s h; exact W_reg _ h
  | seq a b iha ihb =>
    intro Q s h
    refine W_seq ((iha _ s h).mono fun e t ht => ?_)
    cases e with
    | normal => exact ihb Q t ht
    | _ => exact ht
  | cond o a b iha ihb =>
    intro Q s h
    simp only [wpC] at h
    split at h
    · rename_i t ht; exact W_cond ht (fun e => iha Q s (h.1 e)) fun e => ihb Q s (h.2 e)
    · exact h.elim
  | block id c ih => intro Q s h; exact W_block (ih _ s h)
  | loop c _ => intro Q s h; exact h
  | exit id => intro Q s h; exact W_exit h
  | ret => intro Q s h; exact W_ret h

end
end Go.Ab
