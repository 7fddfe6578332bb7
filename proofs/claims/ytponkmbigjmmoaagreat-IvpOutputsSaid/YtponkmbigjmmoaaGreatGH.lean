import Derived.Test.YtponkmbigjmmoaaGreatGG
import Derived.ScopeJumps
set_option linter.unusedSimpArgs false
set_option linter.unusedVariables false
namespace Go.Ab
open Go
inductive C where
 | skip
 | reg (l : List II)
 | seq (a b : C)
 | cond (o : Opd) (a b : C)
 | block (id : Nat) (c : C)
 | loop (c : C)
 | exit (id : Nat)
 | ret
 | lab (l : Nat)
 | scope (id : Nat) (c rest : C)
def a0U (l : Nat) : Nat := 1000000 + l
def b7q : C -> Nat -> Option C
 | .seq a b, l => match b7q a l with
  | some r => some (.seq r b)
  | none => b7q b l
 | .lab l', l => if l' = l then some .skip else none
 | _, _ => none
def labC : C -> Option Nat
 | .seq a b => match labC a with
  | some l => some l
  | none => labC b
 | .lab l => some l
 | _ => none
def E3 (P : Program) : Code -> Option C
 | .skip => some .skip
 | .region _ ops draw => (if draw then b4z P ops.toList else c4g P ops.toList).map .reg
 | .seq a b => match E3 P a, E3 P b with
  | some x, some y => some (.seq x y)
  | _, _ => none
 | .cond c a b => match E3 P a, E3 P b with
  | some x, some y => some (.cond (Opd.of c) x y)
  | _, _ => none
 | .block id b => if id < 1000000 then (E3 P b).map (.block id) else none
 | .loop b => (E3 P b).map .loop
 | .exit id => if id < 1000000 then some (.exit id) else none
 | .ret => some .ret
 | .label l => some (.lab l)
 | .goto l => some (.exit (a0U l))
 | .scope b => match E3 P b with
  | some x => match labC x with
   | some l => (b7q x l).map (.scope (a0U l) x)
   | none => none
  | none => none
 | _ => none
inductive Ex where
 | normal
 | exit (id : Nat)
 | ret
def PostW (E : Env) (Q : Ex -> S -> Prop) : Exit -> Act -> World -> Prop
 | .normal, a, w => ∃ s St m, Q .normal s /\ SimS St m s a w /\ Since E St m s.L w
 | .exit id, a, w => id < 1000000 /\ ∃ s St m, Q (.exit id) s /\ SimS St m s a w /\ Since E St m s.L w
 | .ret, a, w => ∃ s St m, Q .ret s /\ SimS St m s a w /\ Since E St m s.L w
 | .goto l, a, w => ∃ s St m, Q (.exit (a0U l)) s /\ SimS St m s a w /\ Since E St m s.L w
 | _, _, _ => False
def W (P : Program) (N : Nat -> Prop) (c : C) (Q : Ex -> S -> Prop) (s : S) : Prop :=
 P.follows .mixedOrders = true -> ∀ code, E3 P code = some c -> ∀ (E : Env), (∀ X r, E.L.get X r ≠ none -> N X) -> ∀ (St : Nat -> Prop) (m : Map) (a : Act) (w : World),
  SimS St m s a w -> Since E St m s.L w -> code.wp P (PostW E Q) a w
def Ex.then (next : S -> Prop) (Q : Ex -> S -> Prop) : Ex -> S -> Prop
 | .normal, s => next s
 | e, s => Q e s
def Ex.inBlock (id : Nat) (Q : Ex -> S -> Prop) : Ex -> S -> Prop
 | .exit i, s => if i = id then Q .normal s else Q (.exit i) s
 | e, s => Q e s
def Ex.inScope (id : Nat) (K : S -> Prop) (Q : Ex -> S -> Prop) : Ex -> S -> Prop
 | .exit i, s => if i = id then K s else i < 1000000 /\ Q (.exit i) s
 | e, s => Q e s
def Ex.noGo (Q : Ex -> S -> Prop) : Ex -> S -> Prop
 | .exit i, s => i < 1000000 /\ Q (.exit i) s
 | e, s => Q e s
section
variable {P : Program} {N : Nat -> Prop} {Q : Ex -> S -> Prop} {s : S}
theorem PostW.mono {E : Env} {Q Q' : Ex -> S -> Prop} (h : ∀ e s, Q e s -> Q' e s) : ∀ e a w, PostW E Q e a w -> PostW E Q' e a w := by
 intro e a w hp
 cases e <;> first | exact hp | (obtain ⟨s, St, m, h1, h2, h3⟩ := hp; exact ⟨s, St, m, h _ _ h1, h2, h3⟩) | (obtain ⟨h0, s, St, m, h1, h2, h3⟩ := hp; exact ⟨h0, s, St, m, h _ _ h1, h2, h3⟩)
theorem W.mono {c : C} {Q' : Ex -> S -> Prop} (h : W P N c Q s) (hq : ∀ e s, Q e s -> Q' e s) : W P N c Q' s :=
 λhm code hc E hN St m a w hs hE => wp_mono (h hm code hc E hN St m a w hs hE) (PostW.mono hq)
theorem d03 (h : Q .normal s) : W P N .skip Q s := by
 intro hm code hc E hN St m a w hs hE
 cases code <;> simp only [E3, reduceCtorEq] at hc
 case skip => exact wp_skip ⟨s, St, m, h, hs, hE⟩
 all_goals first | (cases hc; done) | ((repeat' (split at hc)) <;> simp [Option.map_eq_some_iff] at hc)
theorem d05 {id : Nat} (h : Q (.exit id) s) : W P N (.exit id) Q s := by
 intro hm code hc E hN St m a w hs hE
 cases code <;> simp only [E3, reduceCtorEq] at hc
 case exit i =>
  split at hc
  ·rename_i h0; cases hc; exact wp_exit ⟨h0, s, St, m, h, hs, hE⟩
  ·cases hc
 case goto l => cases hc; exact wp_goto ⟨s, St, m, h, hs, hE⟩
 all_goals first | (cases hc; done) | ((repeat' (split at hc)) <;> simp [Option.map_eq_some_iff] at hc)
theorem d11 {l : Nat} (h : Q .normal s) : W P N (.lab l) Q s := by
 intro hm code hc E hN St m a w hs hE
 cases code <;> simp only [E3, reduceCtorEq] at hc
 case label l => cases hc; exact wp_label ⟨s, St, m, h, hs, hE⟩
 all_goals first | (cases hc; done) | ((repeat' (split at hc)) <;> simp [Option.map_eq_some_iff] at hc)
theorem d1Z (h : Q .ret s) : W P N .ret Q s := by
 intro hm code hc E hN St m a w hs hE
 cases code <;> simp only [E3, reduceCtorEq] at hc
 case ret => exact wp_ret ⟨s, St, m, h, hs, hE⟩
 all_goals first | (cases hc; done) | ((repeat' (split at hc)) <;> simp [Option.map_eq_some_iff] at hc)
theorem b2D {α : Type} {n : Nat} {f : Nat -> Option α} {r : List α} (h : (List.range n).mapM f = some r) : r.length = n /\ ∀ k, (hk : k < r.length) -> f k = some r[k] := by
 obtain ⟨h1, h2⟩ := a9Y f _ _ h
 refine ⟨by simpa using h1, λk hk => ?_⟩
 have := h2 k (by simp at h1; simp; omega) hk
 simpa using this
theorem b6p {ops : List Oper} {iis : List II} (h : c4g P ops = some iis) : iis.length = ops.length /\ ∀ k, (hk : k < iis.length) -> ∃ o, ops[k]? = some o /\ a2F P ops 0 [] [] k o = some iis[k] := by
 obtain ⟨h1, h2⟩ := b2D h
 refine ⟨h1, λk hk => ?_⟩
 have := h2 k hk
 obtain ⟨o, ho, hc⟩ := Option.bind_eq_some_iff.1 this
 exact ⟨o, ho, hc⟩
theorem a4d {early : Bool} {ops : List Oper} {iis : List II} (h : a6c P early ops = some iis) : iis.length = ops.length /\ (∀ k, (hk : k < iis.length) -> ∃ o pure bs ind, ops[k]? = some o /\ a2F P ops pure bs ind k o = some iis[k]) /\
  (∀ k o e, ops[k]? = some o -> e ∈ o.after -> Region.binds .any e = true -> e.on < k) /\
  (∀ i j, i < j -> (hj : j < iis.length) -> (hi : i < iis.length) -> Reach ops i j \/ b1T iis[i] iis[j] = true) := by
 unfold a6c at h
 simp only at h
 split at h
 ·cases h
 rename_i raw hraw
 split at h
 ·cases h
 rename_i iis' hiis
 split at h
 case isFalse => cases h
 rename_i hcheck
 cases h
 rw [Bool.and_eq_true] at hcheck
 obtain ⟨hdown, hpairs⟩ := hcheck
 obtain ⟨h1, h2⟩ := b2D hiis
 refine ⟨h1, λk hk => ?_, λk o e ho he hb => ?_, λi j hij hj hi => ?_⟩
 ·obtain ⟨o, ho, hc⟩ := Option.bind_eq_some_iff.1 (h2 k hk)
  exact ⟨o, _, _, _, ho, hc⟩
 ·have hk : k < ops.length := (List.getElem?_eq_some_iff.1 ho).1
  have := List.all_eq_true.1 hdown k (by simpa using hk)
  simp only [ho] at this
  have := List.all_eq_true.1 this e (by simpa using he)
  simpa [hb] using this
 ·have h3 := List.all_eq_true.1 hpairs j (by simp; omega)
  have h4 := List.all_eq_true.1 h3 i (by simpa using hij)
  simp only [d2f hi, d2f hj, Bool.or_eq_true] at h4
  rcases h4 with h4 | h4
  ·exact .inl (c0A (ops := ops) ops [] (λj _ => by simp) (λj hj => by simp at hj) j i h4)
  ·exact .inr h4
theorem b4y {ops : List Oper} {iis : List II} (h : b4z P ops = some iis) : iis.length = ops.length /\ (∀ k, (hk : k < iis.length) -> ∃ o pure bs ind, ops[k]? = some o /\ a2F P ops pure bs ind k o = some iis[k]) /\
  (∀ k o e, ops[k]? = some o -> e ∈ o.after -> Region.binds .any e = true -> e.on < k) /\
  (∀ i j, i < j -> (hj : j < iis.length) -> (hi : i < iis.length) -> Reach ops i j \/ b1T iis[i] iis[j] = true) := by
 unfold b4z at h
 split at h
 ·cases h; exact a4d (by assumption)
 ·exact a4d h
theorem d10 (base : Nat) {iis : List II} (h : wpI P base iis (Q .normal) s) : W P N (.reg iis) Q s := by
 intro hm code hc E hN St m a w hs hE
 cases code <;> simp only [E3, reduceCtorEq] at hc
 case region id ops draw =>
  obtain ⟨l, hl, hcc⟩ := Option.map_eq_some_iff.1 hc
  cases hcc
  cases draw with
  | false =>
   simp only [Bool.false_eq_true, if_false] at hl
   obtain ⟨h1, h2⟩ := b6p hl
   refine wp_region (c2a (E := E) (base := base) (K := Q .normal) (List.range ops.size) iis (by simpa using h1) (λj hj1 hj2 => ?_) St m s a w hs hE h λt St' m' a' w' ht hs' hE' => ⟨t, St', m', ht, hs', hE'⟩)
   obtain ⟨o, ho, hc⟩ := h2 j hj2
   simp only [List.getElem_range]
   exact ⟨o, 0, [], [], by simpa using ho, hc⟩
  | true =>
   simp only [if_true] at hl
   obtain ⟨h1, h2, h3, h4⟩ := b4y hl
   have hlen : iis.length = ops.size := by simpa using h1
   refine wp_region_any hm (c4z (E := E) (base := base) (K := Q .normal) (iis := iis) hlen (λk hk => ?_) (λk o e ho he hb => h3 k o e (by simpa using ho) he hb) h4
    (λt St' m' a' w' ht hs' hE' => ⟨t, St', m', ht, hs', hE'⟩) ops.size _ St m s a _ (by simp) ?_ (λk o e hk => ?_) (hs.draw (.drew w _)) (hE.draw (.drew w _)) ?_)
   ·obtain ⟨o, pure, bs, ind, ho, hc⟩ := h2 k hk
    exact ⟨o, pure, bs, ind, by simpa using ho, hc⟩
   ·have : A7 ops.size (Array.replicate ops.size false) = List.range ops.size := by
     unfold A7
     rw [List.filter_eq_self]
     intro i hi
     have : i < ops.size := by simpa using hi
     simp [this]
    rw [this]; simp
   ·exfalso
    by_cases hlt : k < ops.size
    ·simp [hlt] at hk
    ·simp [hlt] at hk
   ·have : A7 ops.size (Array.replicate ops.size false) = List.range ops.size := by
     unfold A7
     rw [List.filter_eq_self]
     intro i hi
     have : i < ops.size := by simpa using hi
     simp [this]
    rw [this, <- hlen]
    have e : (List.range iis.length).filterMap (λi => iis[i]?) = iis := by
     refine List.ext_getElem? λi => ?_
     have : ∀ l : List II, (List.range l.length).filterMap (λi => l[i]?) = l := by
      intro l
      induction l with
      | nil => rfl
      | cons x l ih =>
       rw [List.length_cons, List.range_succ_eq_map, List.filterMap_cons]
       simp only [List.getElem?_cons_zero, List.filterMap_map]
       congr 1
     rw [this]
    rw [e]; exact h
 all_goals first | (cases hc; done) | ((repeat' (split at hc)) <;> simp [Option.map_eq_some_iff] at hc)
theorem c9j {x y : C} (h : W P N x (Ex.then (λt => W P N y Q t) Q) s) : W P N (.seq x y) Q s := by
 intro hm code hc E hN St m a w hs hE
 cases code <;> simp only [E3, reduceCtorEq] at hc
 case seq ca cb =>
  split at hc
  ·rename_i x' y' h1 h2
   cases hc
   refine wp_seq (wp_mono (h hm ca h1 E hN St m a w hs hE) λe a' w' hp => ?_)
   cases e with
   | normal => obtain ⟨t, St', m', ht, hs', hE'⟩ := hp; exact ht hm cb h2 E hN St' m' a' w' hs' hE'
   | _ => exact hp
  ·cases hc
 all_goals first | (cases hc; done) | ((repeat' (split at hc)) <;> simp [Option.map_eq_some_iff] at hc)
theorem d06 {o : Opd} {x y : C} {t : Bool} (ho : s.ev o = .d (.bool t)) (h1 : t = true -> W P N x Q s) (h2 : t = false -> W P N y Q s) : W P N (.cond o x y) Q s := by
 intro hm code hc E hN St m a w hs hE
 cases code <;> simp only [E3, reduceCtorEq] at hc
 case cond c ca cb =>
  split at hc
  ·rename_i x' y' e1 e2
   cases hc
   have hv := n9 hs c
   rw [ho] at hv
   exact wp_cond_split hv.bool (λht => h1 ht hm ca e1 E hN St m a w hs hE) λht => h2 ht hm cb e2 E hN St m a w hs hE
  ·cases hc
 all_goals first | (cases hc; done) | ((repeat' (split at hc)) <;> simp [Option.map_eq_some_iff] at hc)
theorem c9m {id : Nat} {c : C} (h : W P N c (Ex.inBlock id Q) s) : W P N (.block id c) Q s := by
 intro hm code hc E hN St m a w hs hE
 cases code <;> simp only [E3, reduceCtorEq] at hc
 case block i cb =>
  split at hc
  ·rename_i h0
   obtain ⟨c', hc', hcc⟩ := Option.map_eq_some_iff.1 hc
   cases hcc
   refine wp_block (wp_mono (h hm cb hc' E hN St m a w hs hE) λe a' w' hp => ?_)
   cases e with
   | exit j =>
    obtain ⟨hj, t, St', m', ht, hs', hE'⟩ := hp
    simp only [Ex.inBlock] at ht
    simp only [Exit.inBlock]
    split
    ·rename_i e; simp only [e, if_true] at ht; exact ⟨t, St', m', ht, hs', hE'⟩
    ·rename_i e; simp only [e, if_false] at ht; exact ⟨hj, t, St', m', ht, hs', hE'⟩
   | goto l =>
    obtain ⟨t, St', m', ht, hs', hE'⟩ := hp
    simp only [Ex.inBlock] at ht
    rw [if_neg (by unfold a0U; omega)] at ht
    exact ⟨t, St', m', ht, hs', hE'⟩
   | _ => exact hp
  ·cases hc
 all_goals first | (cases hc; done) | ((repeat' (split at hc)) <;> simp [Option.map_eq_some_iff] at hc)
theorem d04 {c : C} (I : Nat -> S -> Prop) {n : Nat} (h0 : I n s) (round : ∀ n s, I n s -> W P N c (Ex.then (λt => ∃ k, k < n /\ I k t) Q) s) : W P N (.loop c) Q s := by
 intro hm code hc E hN St m a w hs hE
 cases code <;> simp only [E3, reduceCtorEq] at hc
 case loop cb =>
  obtain ⟨c', hc', hcc⟩ := Option.map_eq_some_iff.1 hc
  cases hcc
  have key : ∀ n a w, (∃ s St m, I n s /\ SimS St m s a w /\ Since E St m s.L w) -> ∀ (b : Frame) (k : List Item) (cs : List Frame),
    ∃ e a' w', PostW E Q e a' w' /\ Arrives P (lone (b.at a (.code cb :: .inLoop cb :: k)) cs w) b k cs e a' w' := by
   intro n
   induction n using Nat.strongRecOn with
   | _ n ih =>
    intro a w ⟨s, St, m, hI, hs, hE⟩ b k cs
    obtain ⟨e, a1, w1, hq, harr⟩ := round n s hI hm cb hc' E hN St m a w hs hE b (.inLoop cb :: k) cs
    cases e with
    | normal =>
     obtain ⟨t, St', m', ⟨j, hj, hIt⟩, hs', hE'⟩ := hq
     obtain ⟨e2, a2, w2, hq2, harr2⟩ := ih j hj a1 w1 ⟨t, St', m', hIt, hs', hE'⟩ b k cs
     exact ⟨e2, a2, w2, hq2, .of_steps (Steps.trans harr (.one step_inLoop)) harr2⟩
    | exit id => exact ⟨.exit id, a1, w1, hq, .pass (x := .inLoop cb) rfl (λ_ _ => .inl (by simp)) harr⟩
    | ret => exact ⟨.ret, a1, w1, hq, .pass (x := .inLoop cb) rfl (λ_ _ => .inl (by simp)) harr⟩
    | goto l => exact ⟨.goto l, a1, w1, hq, .pass (x := .inLoop cb) rfl (λ_ _ => .inl (by simp)) harr⟩
    | panic ch => exact hq.elim
    | outgrown => exact hq.elim
  intro b k cs
  obtain ⟨e, a', w', hq, harr⟩ := key n a w ⟨s, St, m, h0, hs, hE⟩ b k cs
  exact ⟨e, a', w', hq, .of_steps (.one step_loop) harr⟩
 all_goals first | (cases hc; done) | ((repeat' (split at hc)) <;> simp [Option.map_eq_some_iff] at hc)
theorem c0W {a b : Nat} (h : a0U a = a0U b) : a = b := by unfold a0U at h; omega
theorem b98 : ∀ (code : Code) (x : C), E3 P code = some x -> ∀ l, match b7q x l with
  | some y => ∃ rest, findLabel code l = some rest /\ E3 P rest = some y
  | none => findLabel code l = none := by
 intro code
 induction code with
 | seq a b iha ihb =>
  intro x hc l
  simp only [E3] at hc
  split at hc
  ·rename_i xa xb ha hb
   cases hc
   have h1 := iha xa ha l
   have h2 := ihb xb hb l
   simp only [b7q, findLabel]
   cases hr : b7q xa l with
   | some r =>
    rw [hr] at h1
    obtain ⟨rest, e1, e2⟩ := h1
    exact ⟨.seq rest b, by rw [e1], by simp only [E3, e2, hb]⟩
   | none =>
    rw [hr] at h1
    rw [h1]
    exact h2
  ·cases hc
 | label l' =>
  intro x hc l
  simp only [E3] at hc
  cases hc
  simp only [b7q, findLabel]
  by_cases e : l' = l
  ·rw [if_pos e, if_pos (by simpa using e)]
   exact ⟨.skip, rfl, rfl⟩
  ·rw [if_neg e, if_neg (by simpa using e)]
 | skip => intro x hc l; simp only [E3] at hc; cases hc; rfl
 | region i ops d => intro x hc l; simp only [E3, Option.map_eq_some_iff] at hc; obtain ⟨y, _, rfl⟩ := hc; rfl
 | cond c a b => intro x hc l; simp only [E3] at hc; split at hc <;> cases hc; rfl
 | block i b => intro x hc l; simp only [E3] at hc; split at hc <;> simp [Option.map_eq_some_iff] at hc; obtain ⟨y, _, rfl⟩ := hc; rfl
 | loop b => intro x hc l; simp only [E3, Option.map_eq_some_iff] at hc; obtain ⟨y, _, rfl⟩ := hc; rfl
 | rangeFunc => intro x hc l; simp only [E3] at hc; cases hc
 | exit i => intro x hc l; simp only [E3] at hc; split at hc <;> cases hc; rfl
 | scope b => intro x hc l; simp only [E3] at hc; (repeat' (split at hc)) <;> simp [Option.map_eq_some_iff] at hc; obtain ⟨y, _, rfl⟩ := hc; rfl
 | goto g => intro x hc l; simp only [E3] at hc; cases hc; rfl
 | ret => intro x hc l; simp only [E3] at hc; cases hc; rfl
 | refuse => intro x hc l; simp only [E3] at hc; cases hc
theorem c9k {id : Nat} {x y : C} (h : W P N x (Ex.inScope id (λt => W P N y (Ex.noGo Q) t) Q) s) : W P N (.scope id x y) Q s := by
 intro hm code hc E hN St m a w hs hE
 cases code <;> simp only [E3, reduceCtorEq] at hc
 case scope b =>
  split at hc
  ·rename_i x' hx
   split at hc
   ·rename_i l hl
    obtain ⟨y', hy, e⟩ := Option.map_eq_some_iff.1 hc
    cases e
    have hsp := b98 b _ hx l
    rw [hy] at hsp
    obtain ⟨rest, hf, hr⟩ := hsp
    refine wp_scope_jumps l (λa w => rest.wp P (PostW E (Ex.noGo Q)) a w) (λ_ _ => 0) hf (wp_mono (h hm b hx E hN St m a w hs hE) λe a' w' hp => ?_) (λa' w' hJ => wp_mono hJ λe a2 w2 hp => ?_)
    ·cases e with
     | normal => exact hp
     | ret => exact hp
     | exit i =>
      obtain ⟨hi, t, St', m', ht, hs', hE'⟩ := hp
      simp only [Ex.inScope] at ht
      rw [if_neg (by unfold a0U; omega)] at ht
      exact ⟨hi, t, St', m', ht.2, hs', hE'⟩
     | goto g =>
      obtain ⟨t, St', m', ht, hs', hE'⟩ := hp
      simp only [Ex.inScope] at ht
      by_cases e : a0U g = a0U l
      ·rw [if_pos e] at ht
       exact ⟨c0W e, ht hm rest hr E hN St' m' a' w' hs' hE'⟩
      ·rw [if_neg e] at ht
       exact absurd ht.1 (by unfold a0U; omega)
     | panic ch => exact hp
     | outgrown => exact hp
    ·cases e with
     | normal => exact hp
     | ret => exact hp
     | exit i =>
      obtain ⟨hi, t, St', m', ht, hs', hE'⟩ := hp
      exact ⟨hi, t, St', m', ht.2, hs', hE'⟩
     | goto g =>
      obtain ⟨t, St', m', ht, hs', hE'⟩ := hp
      exact absurd ht.1 (by unfold a0U; omega)
     | panic ch => exact hp
     | outgrown => exact hp
   ·cases hc
  ·cases hc
 all_goals first | (cases hc; done) | ((repeat' (split at hc)) <;> simp [Option.map_eq_some_iff] at hc)
end
end Go.Ab
namespace Go.Ab
open Go
inductive SnapF (L : Heap) (f : Nat -> Nat -> Prop) : V -> D -> Prop
 | d (x : D) : SnapF L f (.d x) x
 | nil (get : Nat -> List D) : SnapF L f .nil (.bor 0 get)
 | sl {X r off n esz ver : Nat} {cells : List V} {get : Nat -> List D} (hf : 0 < n -> f X r) (h : L.get X r = some cells) (hv : cells.length = ver)
   (hl : off + n * esz <= cells.length) (hg : ∀ i, i < n -> (get i).length = esz)
   (hs : ∀ i j, i < n -> j < esz -> SnapF L f (cells.getD (off + i * esz + j) .any) ((get i).getD j default)) : SnapF L f (.sl X r off n esz ver) (.bor n get)
 | ptr {X r off ver : Nat} {cells : List V} {ds : List D} (hf : f X r) (h : L.get X r = some cells) (hv : cells.length = ver) (hl : off + ds.length <= cells.length)
   (hs : ∀ j, j < ds.length -> SnapF L f (cells.getD (off + j) .any) (ds.getD j default)) : SnapF L f (.ptr X r off ver) (.bptr ds)
 | fn {g : FuncId} {first cap : List V} {first' cap' : List D} (h1 : first'.length = first.length) (h2 : cap'.length = cap.length)
   (hf : ∀ j, j < first.length -> SnapF L f (first.getD j .any) (first'.getD j default))
   (hc : ∀ j, j < cap.length -> SnapF L f (cap.getD j .any) (cap'.getD j default)) : SnapF L f (.fn g first cap) (.fn g first' cap')
inductive LeV (L L' : Heap) (ρ : Nat -> Nat -> Nat × Nat) : V -> V -> Prop
 | any (v : V) : LeV L L' ρ v .any
 | nil : LeV L L' ρ .nil .nil
 | d {v : V} {x : D} (h : SnapF L (λX r => ∀ Y q, L'.get Y q ≠ none -> ρ Y q ≠ (X, r)) v x) : LeV L L' ρ v (.d x)
 | ptr {X r Y q off ver : Nat} (h : L'.get X r ≠ none) (hr : ρ X r = (Y, q)) : LeV L L' ρ (.ptr Y q off ver) (.ptr X r off ver)
 | sl {X r Y q off n esz ver : Nat} (h : L'.get X r ≠ none) (hr : ρ X r = (Y, q)) : LeV L L' ρ (.sl Y q off n esz ver) (.sl X r off n esz ver)
 | agg {xs ys : List V} (h1 : ys.length = xs.length) (h : ∀ j, j < xs.length -> LeV L L' ρ (xs.getD j .any) (ys.getD j .any)) : LeV L L' ρ (.agg xs) (.agg ys)
 | tup {xs ys : List V} (h1 : ys.length = xs.length) (h : ∀ j, j < xs.length -> LeV L L' ρ (xs.getD j .any) (ys.getD j .any)) : LeV L L' ρ (.tup xs) (.tup ys)
 | fn {g : FuncId} {a b a' b' : List V} (h1 : a'.length = a.length) (h2 : b'.length = b.length) (ha : ∀ j, j < a.length -> LeV L L' ρ (a.getD j .any) (a'.getD j .any))
   (hb : ∀ j, j < b.length -> LeV L L' ρ (b.getD j .any) (b'.getD j .any)) : LeV L L' ρ (.fn g a b) (.fn g a' b')
structure Wk (N : Nat -> Prop) (sl : List V) (L : Heap) (sl' : List V) (L' : Heap) (ρ : Nat -> Nat -> Nat × Nat) : Prop where
 len : sl'.length = sl.length
 slots : ∀ i, i < sl.length -> LeV L L' ρ (sl.getD i .any) (sl'.getD i .any)
 rows : ∀ X r cells', L'.get X r = some cells' -> ∃ cells, L.get (ρ X r).1 (ρ X r).2 = some cells /\ cells'.length = cells.length /\
  ∀ j, j < cells.length -> LeV L L' ρ (cells.getD j .any) (cells'.getD j .any)
 inj : ∀ X r Y q, L'.get X r ≠ none -> L'.get Y q ≠ none -> ρ X r = ρ Y q -> X = Y /\ r = q
 keep : ∀ X r, N X -> L.get X r ≠ none -> ρ X r = (X, r) /\ L'.get X r ≠ none
section
variable {P : Program} {N : Nat -> Prop} {Q : Ex -> S -> Prop} {s : S} {St : Nat -> Prop} {m : Map} {L L' : Heap} {w : World} {ρ : Nat -> Nat -> Nat × Nat}
def Gone (m : Map) (L : Heap) (f : Nat -> Nat -> Prop) (b : Nat) : Prop := ∃ X r C, f X r /\ L.get X r ≠ none /\ m X r = some (b, C)
theorem SnapF.rel {f : Nat -> Nat -> Prop} (ho : Objs St m L w) {v : V} {x : D} (h : SnapF L f v x) : ∀ {c : Value}, VRel St m L w v c -> DRel (λb => St b \/ Gone m L f b) w x c := by
 induction h with
 | d x => intro c hc; cases hc with | d h => exact h.mono (λ_ h => .inl h) (λ_ _ => rfl)
 | nil get => intro c hc; rw [hc.nil']; exact .bor0 _ _ _
 | sl hf hg hver hl hlen hs ih =>
  rename_i X r off n esz ver cells get
  intro c hc
  obtain ⟨cells', a, cap, hL', hv', hc, hncap, ha, hff⟩ := hc.sl'
  rw [hg] at hL'; cases hL'
  subst hc
  by_cases h0 : 0 < n
  ·rcases hff hver with hz | ⟨b, C, hm, hC, rfl⟩
   ·omega
   ·obtain ⟨p1, p2, arr, el, p3, p4, p5, p6⟩ := ho.obj X r cells b C hg hm
    have idx : ∀ i j, i < n -> j < esz -> off + i * esz + j < cells.length := by
     intro i j hi hj
     have : i * esz + esz <= n * esz := by rw [<- Nat.succ_mul]; exact Nat.mul_le_mul_right _ hi
     omega
    refine .bor (λi j => arr.getD (off + i * esz + j) undef) (.inr ⟨X, r, C, hf h0, by rw [hg]; simp, hm⟩) hncap hlen (λi j hi hj => ?_) λi j hi hj => ?_
    ·exact y0 p3 (by have := idx i j hi hj; omega)
    ·exact ih i j hi hj (p6 _ (idx i j hi hj))
  ·obtain rfl : n = 0 := by omega
   exact .bor0 _ _ _
 | ptr hf hg hver hl hs ih =>
  rename_i X r off ver cells ds
  intro c hc
  obtain ⟨cells', ad, hL', hv', hc, hff⟩ := hc.ptr'
  rw [hg] at hL'; cases hL'
  subst hc
  obtain ⟨b, C, hm, rfl⟩ := hff hver
  obtain ⟨p1, p2, arr, el, p3, p4, p5, p6⟩ := ho.obj X r cells b C hg hm
  exact .bptr (λj => arr.getD (off + j) undef) (.inr ⟨X, r, C, hf, by rw [hg]; simp, hm⟩) (λj hj => y0 p3 (by omega)) λj hj => ih j hj (p6 _ (by omega))
 | fn h1 h2 hf hc ihf ihc =>
  intro c hc'
  obtain ⟨fs, cs, rfl, e1, e2, r1, r2⟩ := hc'.fn'
  exact .fn (by omega) (by omega) (λj hj => ihf j (by omega) (r1 j (by omega))) λj hj => ihc j (by omega) (r2 j (by omega))
theorem LeV.rel (ho : Objs St m L w) (hrow : ∀ X r cells', L'.get X r = some cells' -> ∃ cells, L.get (ρ X r).1 (ρ X r).2 = some cells /\ cells'.length = cells.length) {v v' : V} (h : LeV L L' ρ v v') :
  ∀ {c : Value}, VRel St m L w v c -> VRel (λb => St b \/ Gone m L (λX r => ∀ Y q, L'.get Y q ≠ none -> ρ Y q ≠ (X, r)) b) (λX r => m (ρ X r).1 (ρ X r).2) L' w v' c := by
 induction h with
 | any v => intro c _; exact .any c
 | nil => intro c hc; rw [hc.nil']; exact .nil
 | d h => intro c hc; exact .d (h.rel ho hc)
 | ptr h hr =>
  intro c hc
  obtain ⟨cells, ad, hL, hv, hc, hf⟩ := hc.ptr'
  obtain ⟨cells', hL'⟩ := Option.ne_none_iff_exists'.1 h
  obtain ⟨cells2, h2, hl⟩ := hrow _ _ _ hL'
  rw [hr] at h2; rw [hL] at h2; cases h2
  refine .ptr hL' (by omega) ad hc λe => ?_
  rw [hr]; exact hf (by omega)
 | sl h hr =>
  intro c hc
  obtain ⟨cells, a, cap, hL, hv, hc, hcap, ha, hf⟩ := hc.sl'
  obtain ⟨cells', hL'⟩ := Option.ne_none_iff_exists'.1 h
  obtain ⟨cells2, h2, hl⟩ := hrow _ _ _ hL'
  rw [hr] at h2; rw [hL] at h2; cases h2
  refine .sl hL' (by omega) a cap hc hcap ha λe => ?_
  rw [hr]; exact hf (by omega)
 | agg h1 h ih => intro c hc; obtain ⟨cs, rfl, hsz, hr⟩ := hc.agg'; exact .agg (by omega) λj hj => ih j (by omega) (hr j (by omega))
 | tup h1 h ih => intro c hc; obtain ⟨cs, rfl, hsz, hr⟩ := hc.tup'; exact .tup (by omega) λj hj => ih j (by omega) (hr j (by omega))
 | fn h1 h2 ha hb iha ihb =>
  intro c hc; obtain ⟨fs, cs, rfl, e1, e2, r1, r2⟩ := hc.fn'
  exact .fn (by omega) (by omega) (λj hj => iha j (by omega) (r1 j (by omega))) λj hj => ihb j (by omega) (r2 j (by omega))
theorem Wk.rel {sl sl' : List V} {E : Env} (hN : ∀ X r, E.L.get X r ≠ none -> N X) (h : Wk N sl L sl' L' ρ) (ho : Objs St m L w) (hE : Since E St m L w) {cs : List Value}
  (hlen : cs.length = sl.length) (hs : ∀ i, i < sl.length -> VRel St m L w (sl.getD i .any) (cs.getD i undef)) :
  ∃ St' m', Objs St' m' L' w /\ Since E St' m' L' w /\ ∀ i, i < sl'.length -> VRel St' m' L' w (sl'.getD i .any) (cs.getD i undef) := by
 have hrow : ∀ X r cells', L'.get X r = some cells' -> ∃ cells, L.get (ρ X r).1 (ρ X r).2 = some cells /\ cells'.length = cells.length := by
  intro X r cells' hX
  obtain ⟨cells, h1, h2, _⟩ := h.rows X r cells' hX
  exact ⟨cells, h1, h2⟩
 have hgone : ∀ b, Gone m L (λX r => ∀ Y q, L'.get Y q ≠ none -> ρ Y q ≠ (X, r)) b -> b < w.heap.size /\ ∀ X r C, L'.get X r ≠ none -> m (ρ X r).1 (ρ X r).2 ≠ some (b, C) := by
  rintro b ⟨Y, q, C, hf, hL, hm⟩
  obtain ⟨cells, hc⟩ := Option.ne_none_iff_exists'.1 hL
  refine ⟨(ho.obj Y q cells b C hc hm).1, λX r C' hX hmX => ?_⟩
  obtain ⟨cells', hX'⟩ := Option.ne_none_iff_exists'.1 hX
  obtain ⟨cells2, h2, _⟩ := hrow X r cells' hX'
  obtain ⟨e1, e2⟩ := ho.inj _ _ _ _ _ _ _ (by rw [h2]; simp) hL hmX hm
  exact hf X r hX (Prod.ext e1 e2)
 refine ⟨λb => St b \/ Gone m L (λX r => ∀ Y q, L'.get Y q ≠ none -> ρ Y q ≠ (X, r)) b, λX r => m (ρ X r).1 (ρ X r).2, ⟨λb hb => ?_, λX r cells' hX hm => ?_, λX r cells' b C hX hm => ?_, λX r Y q b C C' h1 h2 h3 h4 => ?_⟩, ⟨hE.frame, ⟨λb hb => Or.inl (hE.ext.st b hb), hE.ext.keep, λX r cells hX => ?_⟩, λb hb => ?_, λX r b C h1 h2 => ?_⟩, λi hi => ?_⟩
 ·rcases hb with hb | hb
  ·exact ho.st b hb
  ·exact (hgone b hb).1
 ·obtain ⟨cells, h1, h2⟩ := hrow X r cells' hX
  have := ho.nil _ _ _ h1 hm
  exact List.eq_nil_of_length_eq_zero (by rw [h2, this]; rfl)
 ·obtain ⟨cells, h1, h2, h3⟩ := h.rows X r cells' hX
  obtain ⟨p1, p2, arr, el, p3, p4, p5, p6⟩ := ho.obj _ _ cells b C h1 hm
  refine ⟨p1, λhst => ?_, arr, el, p3, p4, by omega, λj hj => (h3 j (by omega)).rel ho hrow (p6 j (by omega))⟩
  rcases hst with hst | hst
  ·exact p2 hst
  ·exact (hgone b hst).2 X r C (by rw [hX]; simp) hm
 ·have g : ∀ X r, L'.get X r ≠ none -> L.get (ρ X r).1 (ρ X r).2 ≠ none := by
   intro X r hX
   obtain ⟨cells', hX'⟩ := Option.ne_none_iff_exists'.1 hX
   obtain ⟨cells2, h2, _⟩ := hrow X r cells' hX'
   rw [h2]; simp
  obtain ⟨e1, e2⟩ := ho.inj _ _ _ _ _ _ _ (g X r h1) (g Y q h2) h3 h4
  exact h.inj X r Y q h1 h2 (Prod.ext e1 e2)
 ·obtain ⟨c2, h2, hle, he⟩ := hE.ext.own X r cells hX
  obtain ⟨k1, k2⟩ := h.keep X r (hN X r (by rw [hX]; simp)) (by rw [h2]; simp)
  obtain ⟨c3, h3⟩ := Option.ne_none_iff_exists'.1 k2
  obtain ⟨c4, h4, h5⟩ := hrow X r c3 h3
  rw [k1] at h4; rw [h2] at h4; cases h4
  refine ⟨c3, h3, by omega, λe => ?_⟩
  rw [k1]; exact he (by omega)
 ·rcases hb with hb | hb
  ·exact hE.st b hb
  ·obtain ⟨Y, q, C, hf, hL, hm⟩ := hb
   rcases hE.src Y q b C hL hm with ⟨h1, _⟩ | h1
   ·have hn := hN Y q h1
    obtain ⟨k1, k2⟩ := h.keep Y q hn hL
    exact absurd k1 (hf Y q k2)
   ·exact .inr h1
 ·obtain ⟨cells', hX'⟩ := Option.ne_none_iff_exists'.1 h1
  obtain ⟨cells2, hg2, _⟩ := hrow X r cells' hX'
  rcases hE.src _ _ b C (by rw [hg2]; simp) h2 with ⟨h3, h4⟩ | h3
  ·have hn := hN _ _ h3
   obtain ⟨k1, k2⟩ := h.keep (ρ X r).1 (ρ X r).2 hn (by rw [hg2]; simp)
   obtain ⟨e1, e2⟩ := h.inj X r _ _ h1 k2 (by rw [k1])
   rw [<- e1, <- e2] at h3 h4
   exact .inl ⟨h3, h4⟩
  ·exact .inr h3
 ·exact (h.slots i (by rw [<- h.len]; exact hi)).rel ho hrow (hs i (by rw [<- h.len]; exact hi))
end
end Go.Ab
namespace Go.Ab
open Go
def b0t (P : Program) : ResultVar -> Option (Nat × Option (Nat × Bool))
 | .tmp t => some (t, none)
 | .cell t ty => match szT P ty, aggT P ty with
  | some n, some g => if (g = true \/ n = 1) /\ 0 < n then some (t, some (n, g)) else none
  | _, _ => none
def resV (s : S) : Nat × Option (Nat × Bool) -> V -> Prop
 | (t, none), v => v = s.sl.getD t .any
 | (t, some (n, g)), v => match s.sl.getD t .any with
  | .ptr X r off ver => match s.L.get X r with
   | some cells => cells.length = ver /\ off + n <= cells.length /\ v = ldv g n off cells
   | none => False
  | _ => False
def ResV (s : S) : List (Nat × Option (Nat × Bool)) -> V -> Prop
 | [], v => v = .tup []
 | [r], v => resV s r v
 | [r1, r2], v => ∃ v1 v2, resV s r1 v1 /\ resV s r2 v2 /\ v = .tup [v1, v2]
 | [r1, r2, r3], v => ∃ v1 v2 v3, resV s r1 v1 /\ resV s r2 v2 /\ resV s r3 v3 /\ v = .tup [v1, v2, v3]
 | _, _ => False
structure Fun where
 ntmps : Nat
 res : List (Nat × Option (Nat × Bool))
 body : C
def f7 (P : Program) (f : FuncId) : Option Fun :=
 match P.funcs[f]? with
 | none => none
 | some fn => if fn.name == "runtime.NumGoroutine" then none else
  match fn.body with
  | none => none
  | some c => match E3 P c, fn.results.toList.mapM (b0t P) with
   | some b, some r => some ⟨fn.ntmps, r, b⟩
   | _, _ => none
section
variable {P : Program} {N : Nat -> Prop} {Q : Ex -> S -> Prop} {s : S} {St : Nat -> Prop} {m : Map} {L L' : Heap} {w : World}
theorem a6U {a : Act} (hs : SimS St m s a w) {rv : ResultVar} {r : Nat × Option (Nat × Bool)} (hc : b0t P rv = some r) {v : V} (hv : resV s r v) :
  ∃ c, (match rv with | .tmp t => pure (a.tmps.getD t undef) | .cell x t => do loadVar t (<- asAddr (a.tmps.getD x undef)) : Sem Value).run P w = .ok c w /\ VRel St m s.L w v c := by
 cases rv with
 | tmp t =>
  simp only [b0t, Option.some.injEq] at hc
  subst hc
  simp only [resV] at hv
  subst hv
  refine ⟨_, rfl, ?_⟩
  exact n9 hs (.tmp t)
 | cell x t =>
  simp only [b0t] at hc
  split at hc
  case h_2 => cases hc
  rename_i n g hn hg
  split at hc
  case isFalse => cases hc
  rename_i h1
  cases hc
  simp only [resV] at hv
  split at hv
  case h_2 => exact hv.elim
  rename_i X r off ver hx
  split at hv
  case h_2 => exact hv.elim
  rename_i cells hL
  obtain ⟨hver, hle, rfl⟩ := hv
  have hp := n9 hs (.tmp x)
  simp only [Opd.of, S.ev, hx] at hp
  obtain ⟨cells', ad, hL', hv', hc, hf⟩ := hp.ptr'
  rw [hL] at hL'; cases hL'
  obtain ⟨b, C, hm, rfl⟩ := hf hver
  obtain ⟨p1, p2, arr, el, p3, p4, p5, p6⟩ := hs.objs.obj X r cells b C hL hm
  obtain ⟨c, hr, hcc⟩ := a4J (P := P) (w := w) hg hn h1.1 h1.2 b off (λj => arr.getD (off + j) undef) (λj hj => y0 p3 (by omega))
  refine ⟨c, ?_, LRel.ldv hle (λj hj => p6 _ (by omega)) hcc⟩
  have hc' : a.tmps.getD x undef = .pointer (some ⟨b, off, none⟩) := hc
  simp only [hc', asAddr, Sem.run_bind, Sem.run_pure, Result.andThen]
  exact hr
theorem c5T {α β : Type} (g : α -> Sem β) : ∀ (l : List α) (cs : List β), cs.length = l.length -> (∀ j (h1 : j < l.length) (h2 : j < cs.length), (g l[j]).run P w = .ok cs[j] w) -> (l.mapM g).run P w = .ok cs w := by
  intro l
  induction l with
  | nil => intro cs h _; obtain rfl : cs = [] := by simpa using h
           simp
  | cons x l ih =>
    intro cs h hc
    cases cs with
    | nil => simp at h
    | cons c cs =>
      have h0 := hc 0 (by simp) (by simp)
      have h1 := ih cs (by simpa using h) λj h1 h2 => hc (j + 1) (Nat.succ_lt_succ h1) (Nat.succ_lt_succ h2)
      simp only [List.getElem_cons_zero] at h0
      simp [List.mapM_cons, h0, h1]
theorem b7p {a : Act} {fn : Func} (hs : SimS St m s a w) {rs : List (Nat × Option (Nat × Bool))} (hc : fn.results.toList.mapM (b0t P) = some rs) {v : V} (hv : ResV s rs v) :
  ∃ c, (results fn a.tmps).run P w = .ok c w /\ VRel St m s.L w v c := by
 obtain ⟨hl, hcs⟩ := a9Y _ _ _ hc
 have run : ∀ cs : List Value, cs.length = fn.results.toList.length -> (∀ j (h1 : j < fn.results.toList.length) (h2 : j < cs.length),
   (match fn.results.toList[j] with | .tmp t => pure (a.tmps.getD t undef) | .cell x t => do loadVar t (<- asAddr (a.tmps.getD x undef)) : Sem Value).run P w = .ok cs[j] w) ->
   (results fn a.tmps).run P w = .ok (if h : cs.toArray.size = 1 then cs.toArray[0] else .tuple cs.toArray) w := by
  intro cs hlen hall
  unfold results
  rw [Array.mapM_eq_mapM_toList]
  simp only [Sem.run_bind, Sem.run_map]
  rw [c5T _ _ cs hlen hall]
  rfl
 generalize fn.results.toList = l at hl hcs run
 match l, rs, hl, hcs, hv, run with
 | [], [], _, _, hv, run =>
  cases hv
  exact ⟨.tuple #[], run [] rfl (λj h1 _ => by simp at h1), .tup rfl λj hj => by simp at hj⟩
 | _ :: _ :: _ :: _ :: _, _ :: _ :: _ :: _ :: _, _, _, hv, _ => exact hv.elim
 | [r], [r'], _, hcs, hv, run =>
  obtain ⟨c, h1, h2⟩ := a6U hs (hcs 0 (by simp) (by simp)) hv
  exact ⟨c, run [c] rfl (λj h1' _ => by
   have : j = 0 := by simpa using h1'
   subst this; exact h1), h2⟩
 | [r1, r2], [r1', r2'], _, hcs, hv, run =>
  obtain ⟨v1, v2, hv1, hv2, rfl⟩ := hv
  obtain ⟨c1, h1, k1⟩ := a6U hs (hcs 0 (by simp) (by simp)) hv1
  obtain ⟨c2, h2, k2⟩ := a6U hs (hcs 1 (by simp) (by simp)) hv2
  refine ⟨.tuple #[c1, c2], run [c1, c2] rfl (λj h1' _ => ?_), .tup rfl λj hj => ?_⟩
  ·match j, h1' with
   | 0, _ => exact h1
   | 1, _ => exact h2
  ·match j, hj with
   | 0, _ => exact k1
   | 1, _ => exact k2
 | [r1, r2, r3], [r1', r2', r3'], _, hcs, hv, run =>
  obtain ⟨v1, v2, v3, hv1, hv2, hv3, rfl⟩ := hv
  obtain ⟨c1, h1, k1⟩ := a6U hs (hcs 0 (by simp) (by simp)) hv1
  obtain ⟨c2, h2, k2⟩ := a6U hs (hcs 1 (by simp) (by simp)) hv2
  obtain ⟨c3, h3, k3⟩ := a6U hs (hcs 2 (by simp) (by simp)) hv3
  refine ⟨.tuple #[c1, c2, c3], run [c1, c2, c3] rfl (λj h1' _ => ?_), .tup rfl λj hj => ?_⟩
  ·match j, h1' with
   | 0, _ => exact h1
   | 1, _ => exact h2
   | 2, _ => exact h3
  ·match j, hj with
   | 0, _ => exact k1
   | 1, _ => exact k2
   | 2, _ => exact k3
def enter (F : Fun) (vs : List V) (L : Heap) : S := ⟨vs ++ List.replicate (F.ntmps - vs.length) .any, L⟩
def Ends (N : Nat -> Prop) (F : Fun) (r : V) (L' : Heap) : Ex -> S -> Prop
 | .normal, s | .ret, s => ∃ v ρ, ResV s F.res v /\ Wk N [v] s.L [r] L' ρ
 | _, _ => False
theorem b9R {f : FuncId} {F : Fun} (hF : f7 P f = some F) (hm : P.follows .mixedOrders = true) (N : Nat -> Prop) {vs : List V} {r : V} (hN : ∀ X q, L.get X q ≠ none -> N X)
  (h : W P N F.body (Ends N F r L') (enter F vs L)) : AC P f vs L L' r := by
 unfold f7 at hF
 split at hF
 ·cases hF
 rename_i fn hfn
 split at hF
 ·cases hF
 rename_i hname
 split at hF
 ·cases hF
 rename_i code hbody
 split at hF
 case h_2 => cases hF
 rename_i b rs hcb hrs
 cases hF
 refine ⟨⟨fn, hfn, by simp [hbody], by simpa using hname⟩, λSt m w cargs ho hsz hargs => ?_⟩
 have hs : SimS St m (enter ⟨fn.ntmps, rs, b⟩ vs L) { tmps := cargs ++ Array.replicate (fn.ntmps - cargs.size) undef, defers := [] } w := by
  refine ⟨ho, by simp [enter, hsz], λi hi => ?_, rfl⟩
  simp only [enter] at hi ⊢
  by_cases hlt : i < vs.length
  ·have e1 : (vs ++ List.replicate (fn.ntmps - vs.length) V.any).getD i .any = vs.getD i .any := by
    simp [d2d, d2g hlt]
   have e2 : (cargs ++ Array.replicate (fn.ntmps - cargs.size) undef).getD i undef = cargs.getD i undef := by
    have : i < cargs.size := by omega
    simp [Array.getD_eq_getD_getElem?, Array.getElem?_append, this]
   rw [e1, e2]; exact hargs i hlt
  ·have e1 : (vs ++ List.replicate (fn.ntmps - vs.length) V.any).getD i .any = .any := by
    rw [d2d, d2j (Nat.not_lt.1 hlt), List.getElem?_replicate]
    split <;> rfl
   rw [e1]; exact .any _
 have hE : Since ⟨St, m, L, w⟩ St m L w := ⟨.refl _ _, .refl _ _ _ _, λb h => .inl h, .refl _ _ _⟩
 have hw := h hm code hcb ⟨St, m, L, w⟩ hN St m _ w hs hE
 refine calls_of_wp hfn hbody (wp_mono hw λe a' w' hp => ?_)
 have fin : ∀ (t : S) (St' : Nat -> Prop) (m' : Map), SimS St' m' t a' w' -> Since ⟨St, m, L, w⟩ St' m' t.L w' -> (∃ v ρ, ResV t rs v /\ Wk N [v] t.L [r] L' ρ) ->
   a'.defers = [] /\ ∃ v, (results fn a'.tmps).run P w' = .ok v w' /\ ∃ v' St'' m'', Ending.returned v = .returned v' /\ Objs St'' m'' L' w' /\ VRel St'' m'' L' w' r v' /\ Frame' (a8V m L) w w' /\
    Ext St St'' m m'' L L' w w' /\ (∀ b, St'' b -> St b \/ w.heap.size <= b) /\ Src m L m'' L' w := by
  rintro t St' m' hs' hE' ⟨v, ρ, hres, hwk⟩
  obtain ⟨c, hr, hv⟩ := b7p (P := P) hs' hrs hres
  obtain ⟨St'', m'', h1, h2, h3⟩ := hwk.rel (E := ⟨St, m, L, w⟩) hN hs'.objs hE' (cs := [c]) rfl (λi hi => by
   have : i = 0 := by simpa using hi
   subst this; exact hv)
  exact ⟨hs'.calm, c, hr, c, St'', m'', rfl, h1, h3 0 (by simp), h2.frame, h2.ext, h2.st, h2.src⟩
 cases e with
 | normal => obtain ⟨t, St', m', ht, hs', hE'⟩ := hp; exact fin t St' m' hs' hE' ht
 | ret => obtain ⟨t, St', m', ht, hs', hE'⟩ := hp; exact fin t St' m' hs' hE' ht
 | exit id => obtain ⟨_, t, St', m', ht, _⟩ := hp; exact ht.elim
 | goto l => obtain ⟨t, St', m', ht, _⟩ := hp; exact ht.elim
 | panic ch => exact hp.elim
 | outgrown => exact hp.elim
theorem c6A {f : FuncId} {F : Fun} (hF : f7 P f = some F) : GoFn P f := by
 unfold f7 at hF
 split at hF
 ·cases hF
 rename_i fn hfn
 split at hF
 ·cases hF
 rename_i hname
 split at hF
 ·cases hF
 rename_i code hbody
 exact ⟨fn, hfn, by simp [hbody], by simpa using hname⟩
theorem c1v {f : FuncId} (hg : GoFn P f) {x : Nat} {r : V} (h : ∀ b, b < 2 ^ 64 -> cf b = x -> Con P f [.d (.fraw b)] r) : Con P f [.d (.flt x)] r := by
 refine ⟨hg, λSt m w cargs ho hsz hargs => ?_⟩
 obtain ⟨b, hb, hcb, hc⟩ := (hargs 0 (by simp)).flt
 refine (h b hb hcb).2 St m w cargs ho hsz λj hj => ?_
 obtain rfl : j = 0 := by simpa using hj
 rw [hc]
 exact .d (.fraw hb)
theorem Bare.le {v : V} (h : Bare v) (L L' : Heap) (ρ : Nat -> Nat -> Nat × Nat) : LeV L L' ρ v v := by
 induction h with
 | d x => exact .d (.d x)
 | any => exact .any _
 | nil => exact .nil
 | agg h ih => exact .agg rfl ih
 | tup h ih => exact .tup rfl ih
 | fn h1 h2 ih1 ih2 => exact .fn rfl rfl ih1 ih2
theorem Wk.fin {v r : V} {L : Heap} {ρ : Nat -> Nat -> Nat × Nat} (h : LeV L [] ρ v r) : Wk (λ_ => False) [v] L [r] [] ρ := by
 refine ⟨rfl, λi hi => ?_, λX r c h => by simp [Heap.get, Heap.fam] at h, λX r Y q h => by simp [Heap.get, Heap.fam] at h, λX r h => h.elim⟩
 have : i = 0 := by simpa using hi
 subst this
 exact h
end
end Go.Ab
namespace Go.Ab
open Go
abbrev Sl := List (Nat × V)
def look : Sl -> Nat -> V
 | [], _ => .any
 | (j, v) :: r, i => if i = j then v else look r i
def build (nt : Nat) (as : Sl) : List V := (List.range nt).map (look as)
structure T where
 sl : Sl
 L : Heap
def xev (as : Sl) : Opd -> V
 | .t i => look as i
 | .k v => v
inductive CA where
 | skip
 | reg (l : List II) (live : List Nat)
 | seq (a b : CA)
 | cond (o : Opd) (a b : CA)
 | block (id : Nat) (c : CA)
 | loop (c : CA)
 | exit (id : Nat)
 | ret
 | lab (l : Nat)
 | scope (id : Nat) (c rest : CA)
def CA.strip : CA -> C
 | .skip => .skip
 | .reg l _ => .reg l
 | .seq a b => .seq a.strip b.strip
 | .cond o a b => .cond o a.strip b.strip
 | .block id c => .block id c.strip
 | .loop c => .loop c.strip
 | .exit id => .exit id
 | .ret => .ret
 | .lab l => .lab l
 | .scope id c r => .scope id c.strip r.strip
def putT (dst : Option Nat) (as : Sl) (Q : T -> Prop) (v : V) (L : Heap) : Prop :=
 match dst with
 | some d => Q ⟨(d, v) :: as, L⟩
 | none => Q ⟨as, L⟩
def atL (K : V -> Heap -> Prop) (L : Heap) (v : V) : Prop := K v L
def b1U (P : Program) (g : FuncId) (vs : List V) (L : Heap) (K : V -> Heap -> Prop) : Prop := ∃ L' r, AC P g vs L L' r /\ K r L'
def c7y (P : Program) (nm : Nat) (g : FuncId) (vs : List V) (L : Heap) (K : V -> Heap -> Prop) : Prop := vs.all V.bareB = true /\ ((∃ r, Con P g vs r /\ K r L) \/
 ∃ fam r, AC P g vs [] [(0, fam)] r /\ L.fam nm = none /\ K (r.ren (toF nm)) (L.ins nm (Y8 nm fam)))
def callX (P : Program) (c : Option (FuncId × List V × List V)) (args : List V) (L : Heap) (K : V -> Heap -> Prop) : Prop :=
 match c with
 | some (g, first, cap) => b1U P g (first ++ args ++ cap) L K
 | none => False
def callCX (P : Program) (nm : Nat) (c : Option (FuncId × List V × List V)) (args : List V) (L : Heap) (K : V -> Heap -> Prop) : Prop :=
 match c with
 | some (g, first, cap) => c7y P nm g (first ++ args ++ cap) L K
 | none => False
def callSX (P : Program) (nm k : Nat) (c : Option (FuncId × List V × List V)) (args : List V) (L : Heap) (K : V -> Heap -> Prop) : Prop :=
 match c with
 | some (g, first, cap) => b4M P nm k g (first ++ args ++ cap) L K
 | none => False
def c80 (b : Bool) (A B : T -> Prop) (s : T) : Prop := (b = true -> A s) /\ (b = false -> B s)
def c2C (b : Bool) (K : V -> Prop) (x y : V) : Prop := (b = true -> K x) /\ (b = false -> K y)
def pickX (c : V) (K : V -> Prop) (x y : V) : Prop :=
 match c with
 | .d (.bool t) => c2C t K x y
 | _ => False
def xhv (i : HI) (ev : Opd -> V) (K : V -> Prop) : Prop :=
 match i with
 | .pick c a b => pickX (ev c) K (ev a) (ev b)
 | i => hv i ev K
def xeff (P : Program) (nm : Nat) (i : Inst) (as : Sl) (L : Heap) (K : V -> Heap -> Prop) : Prop :=
 match i with
 | .h i => xhv i (xev as) (atL K L)
 | .callC f args => callCX P nm (callee (xev as f)) (args.map (xev as)) L K
 | .callS k f args => callSX P nm k (callee (xev as f)) (args.map (xev as)) L K
 | .callA f args => callX P (callee (xev as f)) (args.map (xev as)) L K
 | i => effC P nm i (xev as) L K
def c17 (as : Sl) (bs ind : List Opd) (pl : List Opd) : Prop :=
 ((∀ q ∈ bs.zip pl, (xev as q.1).name = (xev as q.2).name) /\ ∀ o ∈ ind, ∀ p ∈ pl, Apart (xev as o) (xev as p)) /\ offs (xev as) bs pl
def b96 (as : Sl) (bs ind : List Opd) (i : Inst) (A : Prop) : Prop :=
 match bs, ind with
 | [], [] => A
 | _, _ => c17 as bs ind i.places /\ A
def a99 (c : V) (want : Bool) (A : Prop) (B : Prop) : Prop :=
 match c with
 | .d (.bool b) => if b = want then A else B
 | .tup [] => B
 | _ => False
def c4Q (P : Program) (base : Nat) (ii : II) (s : T) (Q : T -> Prop) : Prop :=
 match ii.g with
 | none => b96 s.sl ii.bs ii.ind ii.i (xeff P (base + ii.k) ii.i s.sl s.L (putT ii.dst s.sl Q))
 | some (j, want) => a99 (look s.sl j) want (b96 s.sl ii.bs ii.ind ii.i (xeff P (base + ii.k) ii.i s.sl s.L (putT ii.dst s.sl Q))) (putT ii.dst s.sl Q .und s.L)
def xI (P : Program) (base : Nat) : List II -> (T -> Prop) -> T -> Prop
 | [], Q, s => Q s
 | ii :: r, Q, s => c4Q P base ii s (xI P base r Q)
def keep (as : Sl) (live : List Nat) : Sl := live.map λi => (i, look as i)
def c8W (live : List Nat) (Q : T -> Prop) (s : T) : Prop := Q ⟨keep s.sl live, s.L⟩
def c1H (next : T -> Prop) (Q : Ex -> T -> Prop) : Ex -> T -> Prop
 | .normal, s => next s
 | e, s => Q e s
def inBlockT (id : Nat) (Q : Ex -> T -> Prop) : Ex -> T -> Prop
 | .exit i, s => if i = id then Q .normal s else Q (.exit i) s
 | e, s => Q e s
def b4c (id : Nat) (K : T -> Prop) (Q : Ex -> T -> Prop) : Ex -> T -> Prop
 | .exit i, s => if i = id then K s else i < 1000000 /\ Q (.exit i) s
 | e, s => Q e s
def c0t (Q : Ex -> T -> Prop) : Ex -> T -> Prop
 | .exit i, s => i < 1000000 /\ Q (.exit i) s
 | e, s => Q e s
def c4f (c : V) (A B : T -> Prop) (s : T) : Prop :=
 match c with
 | .d (.bool t) => c80 t A B s
 | _ => False
def Opd.ok (nt : Nat) : Opd -> Bool
 | .t i => decide (i < nt)
 | .k _ => true
def oks (nt : Nat) (l : List Opd) : Bool := l.all (Opd.ok nt)
def II.ok (nt : Nat) (ii : II) : Bool := oks nt ii.i.opds && oks nt ii.bs && oks nt ii.ind && oks nt ii.i.places &&
 (match ii.g with | none => true | some (j, _) => decide (j < nt)) && (match ii.dst with | none => true | some j => decide (j < nt))
def CA.ok (nt : Nat) : CA -> Bool
 | .skip | .exit _ | .ret | .lab _ => true
 | .scope _ a b => a.ok nt && b.ok nt
 | .reg l live => l.all (II.ok nt)
 | .seq a b => a.ok nt && b.ok nt
 | .cond o a b => o.ok nt && a.ok nt && b.ok nt
 | .block _ c | .loop c => c.ok nt
section
variable {P : Program} {N : Nat -> Prop} {nt : Nat} {Q : Ex -> T -> Prop}
theorem y9 (as : Sl) : (build nt as).length = nt := by simp [build]
theorem z2 (as : Sl) {i : Nat} (h : i < nt) : (build nt as).getD i .any = look as i := by simp [build, d2d, h]
theorem c4n (as : Sl) {d : Nat} (h : d < nt) (v : V) : (build nt as).set d v = build nt ((d, v) :: as) := by
 refine List.ext_getElem (by simp [build]) λi h1 h2 => ?_
 simp only [build, List.length_set, List.length_map, List.length_range] at h1
 simp only [build, List.getElem_set, List.getElem_map, List.getElem_range, look]
 by_cases e : d = i
 ·simp [e]
 ·have : i ≠ d := λh => e h.symm
  simp [e, this]
theorem b9k (as : Sl) (L : Heap) {o : Opd} (h : o.ok nt = true) : (⟨build nt as, L⟩ : S).ev o = xev as o := by
 cases o with
 | t i => exact z2 as (by simpa [Opd.ok] using h)
 | k v => rfl
theorem c7J (nm : Nat) (i : Inst) (as : Sl) (L : Heap) (K : V -> Heap -> Prop) : xeff P nm i as L K -> effC P nm i (xev as) L K := by
 intro h
 unfold xeff at h
 split at h
 ·rename_i i
  unfold xhv at h
  split at h
  ·simp only [effC, hv]
   unfold pickX at h
   split at h
   ·rename_i e; rw [e]; exact h
   ·exact h.elim
  ·exact h
 ·simp only [effC]
  unfold callCX at h
  split at h
  ·rename_i e; rw [e]; exact h
  ·exact h.elim
 ·simp only [effC]
  unfold callSX at h
  split at h
  ·rename_i e; rw [e]; exact h
  ·exact h.elim
 ·simp only [effC]
  unfold callX at h
  split at h
  ·rename_i e; rw [e]; exact h
  ·exact h.elim
 ·exact h
theorem c6u (nm : Nat) (i : Inst) {ev : Opd -> V} {L : Heap} {K K' : V -> Heap -> Prop} (hk : ∀ v L', K v L' -> K' v L') (h : effC P nm i ev L K) : effC P nm i ev L K' := by
 obtain ⟨v, L', h1, h2⟩ := (b4q i K).1 h
 exact (b4q i K').2 ⟨v, L', h1, hk _ _ h2⟩
theorem a9P {as : Sl} {L : Heap} {l : List Opd} (h : oks nt l = true) : ∀ o ∈ l, xev as o = (⟨build nt as, L⟩ : S).ev o :=
 λo ho => (b9k as L (List.all_eq_true.1 h o ho)).symm
theorem c18 {as : Sl} {bs ind : List Opd} {i : Inst} {A : Prop} (h : b96 as bs ind i A) : c17 as bs ind i.places /\ A := by
 unfold b96 at h
 split at h
 ·exact ⟨⟨⟨by simp, by simp⟩, trivial⟩, h⟩
 ·exact h
theorem b3J {dst : Option Nat} {as : Sl} {Q : T -> Prop} {v : V} {L : Heap} (hd : (match dst with | none => true | some j => decide (j < nt)) = true) (h : putT dst as Q v L) :
  ∃ t : T, Q t /\ (⟨E8 (build nt as) dst v, L⟩ : S) = ⟨build nt t.sl, t.L⟩ := by
 cases dst with
 | none => exact ⟨_, h, rfl⟩
 | some d => exact ⟨_, h, by simp only [E8]; rw [c4n as (by simpa using hd)]⟩
theorem b6Y {base : Nat} {ii : II} (hok : ii.ok nt = true) {s : T} {Q : T -> Prop} (h : c4Q P base ii s Q) : step P base ii ⟨build nt s.sl, s.L⟩ λt => ∃ s' : T, Q s' /\ t = ⟨build nt s'.sl, s'.L⟩ := by
 unfold II.ok at hok
 simp only [Bool.and_eq_true] at hok
 obtain ⟨⟨⟨⟨⟨o1, o2⟩, o3⟩, o4⟩, o5⟩, o6⟩ := hok
 have run : b96 s.sl ii.bs ii.ind ii.i (xeff P (base + ii.k) ii.i s.sl s.L (putT ii.dst s.sl Q)) ->
   (((∀ q ∈ ii.bs.zip ii.i.places, ((⟨build nt s.sl, s.L⟩ : S).ev q.1).name = ((⟨build nt s.sl, s.L⟩ : S).ev q.2).name) /\ ∀ o ∈ ii.ind, ∀ p ∈ ii.i.places, Apart ((⟨build nt s.sl, s.L⟩ : S).ev o) ((⟨build nt s.sl, s.L⟩ : S).ev p)) /\ offs (⟨build nt s.sl, s.L⟩ : S).ev ii.bs ii.i.places) /\
    eff P (base + ii.k) ii.i ⟨build nt s.sl, s.L⟩ λv L => ∃ s' : T, Q s' /\ (⟨E8 (build nt s.sl) ii.dst v, L⟩ : S) = ⟨build nt s'.sl, s'.L⟩ := by
  intro hs
  obtain ⟨⟨⟨h1, h2⟩, ho⟩, h3⟩ := c18 hs
  refine ⟨⟨⟨λq hq => ?_, λo ho p hp => ?_⟩, ?_⟩, ?_⟩
  ·rw [<- a9P o2 q.1 (List.of_mem_zip hq).1, <- a9P o4 q.2 (List.of_mem_zip hq).2]; exact h1 q hq
  ·rw [<- a9P o3 o ho, <- a9P o4 p hp]; exact h2 o ho p hp
  ·rw [<- a3G (a9P o2) (a9P o4)]; exact ho
  ·have := c7J _ _ _ _ _ h3
   rw [a59 ii.i _ (ev' := (⟨build nt s.sl, s.L⟩ : S).ev) (a9P o1)] at this
   exact c6u _ _ (λv L' hv => b3J o6 hv) this
 unfold c4Q at h
 unfold step
 split at h
 ·rename_i hg; simp only [hg]; exact run h
 ·rename_i j want hg
  simp only [hg] at o5 ⊢
  rw [z2 _ (by simpa using o5)]
  unfold a99 at h
  split at h
  ·rename_i b hb
   simp only [hb]
   split at h
   ·rename_i e; rw [if_pos e]; exact run h
   ·rename_i e; rw [if_neg e]; exact b3J o6 h
  ·rename_i hb
   simp only [hb]
   exact b3J o6 h
  ·exact h.elim
theorem c4T {base : Nat} {Q : T -> Prop} : ∀ (l : List II) (s : T), l.all (II.ok nt) = true -> xI P base l Q s -> wpI P base l (λt => ∃ s' : T, Q s' /\ t = ⟨build nt s'.sl, s'.L⟩) ⟨build nt s.sl, s.L⟩ := by
 intro l
 induction l with
 | nil => intro s _ h; exact ⟨s, h, rfl⟩
 | cons ii l ih =>
  intro s hok h
  simp only [List.all_cons, Bool.and_eq_true] at hok
  simp only [xI] at h
  simp only [wpI]
  have := b6Y hok.1 h
  obtain ⟨t, h1, s', h2, h3⟩ := (a1t ii _ _).1 this
  refine (a1t ii _ _).2 ⟨t, h1, ?_⟩
  rw [h3]; exact ih s' hok.2 h2
def Le (N : Nat -> Prop) (s s' : S) : Prop := s'.sl.length = s.sl.length /\ ∀ E : Env, (∀ X r, E.L.get X r ≠ none -> N X) -> ∀ (St : Nat -> Prop) (m : Map) (w : World) (cs : List Value),
 cs.length = s.sl.length -> Objs St m s.L w -> Since E St m s.L w -> (∀ i, i < s.sl.length -> VRel St m s.L w (s.sl.getD i .any) (cs.getD i undef)) ->
 ∃ St' m', Objs St' m' s'.L w /\ Since E St' m' s'.L w /\ ∀ i, i < s'.sl.length -> VRel St' m' s'.L w (s'.sl.getD i .any) (cs.getD i undef)
theorem Le.refl (s : S) : Le N s s := ⟨rfl, λE hN St m w cs hl ho hE hs => ⟨St, m, ho, hE, hs⟩⟩
theorem Le.trans {a b c : S} (h : Le N a b) (k : Le N b c) : Le N a c := by
 refine ⟨k.1.trans h.1, λE hN St m w cs hl ho hE hs => ?_⟩
 obtain ⟨St1, m1, h1, h2, h3⟩ := h.2 E hN St m w cs hl ho hE hs
 exact k.2 E hN St1 m1 w cs (hl.trans h.1.symm) h1 h2 h3
theorem Le.of_wk {s s' : S} (ρ : Nat -> Nat -> Nat × Nat) (h : Wk N s.sl s.L s'.sl s'.L ρ) : Le N s s' :=
 ⟨h.len, λE hN St m w cs hl ho hE hs => h.rel hN ho hE hl hs⟩
theorem Le.lose {sl sl' : List V} {L : Heap} (hl : sl'.length = sl.length) (h : ∀ i, i < sl.length -> sl'.getD i .any = sl.getD i .any \/ sl'.getD i .any = .any) : Le N ⟨sl, L⟩ ⟨sl', L⟩ := by
 refine ⟨hl, λE hN St m w cs hlen ho hE hs => ⟨St, m, ho, hE, λi hi => ?_⟩⟩
 rcases h i (by simpa [hl] using hi) with e | e
 ·simp only [e]; exact hs i (by simpa [hl] using hi)
 ·simp only [e]; exact .any _
theorem W_le {c : C} {Q : Ex -> S -> Prop} {s s' : S} (h : Le N s s') (hw : W P N c Q s') : W P N c Q s := by
 intro hm code hc E hN St m a w hs hE
 obtain ⟨St', m', h1, h2, h3⟩ := h.2 E hN St m w a.tmps.toList (by simp [hs.size]) hs.objs hE (λi hi => by
  have := hs.slots i hi
  rw [Array.getD_eq_getD_getElem?] at this
  rw [d2d (l := a.tmps.toList)]; simpa using this)
 refine hw hm code hc E hN St' m' a w ⟨h1, by rw [hs.size, h.1], λi hi => ?_, hs.calm⟩ h2
 have := h3 i hi
 rw [d2d (l := a.tmps.toList)] at this
 rw [Array.getD_eq_getD_getElem?]; simpa using this
theorem b6y {c : C} {s : S} {Q Q' : Ex -> S -> Prop} (h : W P N c Q s) (hq : ∀ e t, Q e t -> ∃ t', Le N t t' /\ Q' e t') : W P N c Q' s := by
 intro hm code hc E hN St m a w hs hE
 have go : ∀ (e : Ex) (a' : Act) (w' : World), (∃ s St m, Q e s /\ SimS St m s a' w' /\ Since E St m s.L w') -> ∃ s St m, Q' e s /\ SimS St m s a' w' /\ Since E St m s.L w' := by
  rintro e a' w' ⟨t, St1, m1, ht, hs1, hE1⟩
  obtain ⟨t', hwk, ht'⟩ := hq e t ht
  obtain ⟨St', m', h1, h2, h3⟩ := hwk.2 E hN St1 m1 w' a'.tmps.toList (by simp [hs1.size]) hs1.objs hE1 (λi hi => by
   have := hs1.slots i hi
   rw [Array.getD_eq_getD_getElem?] at this
   rw [d2d (l := a'.tmps.toList)]; simpa using this)
  refine ⟨t', St', m', ht', ⟨h1, by rw [hs1.size, hwk.1], λi hi => ?_, hs1.calm⟩, h2⟩
  have := h3 i hi
  rw [d2d (l := a'.tmps.toList)] at this
  rw [Array.getD_eq_getD_getElem?]; simpa using this
 refine wp_mono (h hm code hc E hN St m a w hs hE) λe a' w' hp => ?_
 cases e with
 | normal => exact go .normal a' w' hp
 | exit id => exact ⟨hp.1, go (.exit id) a' w' hp.2⟩
 | goto l => exact go (.exit (a0U l)) a' w' hp
 | ret => exact go .ret a' w' hp
 | _ => exact hp
def T.s (nt : Nat) (t : T) : S := ⟨build nt t.sl, t.L⟩
def Cl (N : Nat -> Prop) (nt : Nat) (Q : Ex -> T -> Prop) (e : Ex) (t : S) : Prop := ∃ s : T, Le N t (s.s nt) /\ Q e s
def WA (P : Program) (N : Nat -> Prop) (nt : Nat) (c : CA) (Q : Ex -> T -> Prop) (s : T) : Prop := c.ok nt = true -> W P N c.strip (Cl N nt Q) (s.s nt)
theorem c3f (as : Sl) : ∀ (live : List Nat) (i : Nat), look (keep as live) i = look as i \/ look (keep as live) i = .any := by
 intro live
 induction live with
 | nil => intro i; exact .inr rfl
 | cons j live ih =>
  intro i
  simp only [keep, List.map_cons, look]
  split
  ·rename_i e; subst e; exact .inl rfl
  ·exact ih i
theorem Le.keep (t : T) (live : List Nat) : Le N (t.s nt) (T.s nt ⟨Ab.keep t.sl live, t.L⟩) := by
 refine Le.lose (by simp [y9]) λi hi => ?_
 rw [y9] at hi
 rw [z2 _ hi, z2 _ hi]
 exact c3f _ _ _
theorem c6M {c : CA} {s s' : T} (h : Le N (s.s nt) (s'.s nt)) (hw : WA P N nt c Q s') : WA P N nt c Q s := λhok => W_le h (hw hok)
theorem WA.mono {c : CA} {s : T} {Q' : Ex -> T -> Prop} (h : WA P N nt c Q s) (hq : ∀ e t, Q e t -> ∃ t', Le N (t.s nt) (t'.s nt) /\ Q' e t') : WA P N nt c Q' s :=
 λhok => (h hok).mono λe t ⟨s', h1, h2⟩ => by
  obtain ⟨t', h3, h4⟩ := hq e s' h2
  exact ⟨t', h1.trans h3, h4⟩
theorem c4D {c : CA} {s : T} (I : Nat -> T -> Prop) {n : Nat} (h0 : I n s) (round : ∀ n s, I n s -> WA P N nt c (c1H (λt => ∃ k, k < n /\ I k t) Q) s) : WA P N nt (.loop c) Q s := by
 intro hok
 simp only [CA.ok] at hok
 refine d04 (λn t => ∃ s : T, Le N t (s.s nt) /\ I n s) ⟨s, .refl _, h0⟩ λn t ⟨s', hle, hI⟩ => ?_
 refine W_le hle ((round n s' hI hok).mono λe t ⟨u, h1, h2⟩ => ?_)
 cases e with
 | normal => obtain ⟨k, hk, hI'⟩ := h2; exact ⟨k, hk, u, h1, hI'⟩
 | _ => exact ⟨u, h1, h2⟩
def xC (P : Program) (N : Nat -> Prop) (nt : Nat) : CA -> (Ex -> T -> Prop) -> T -> Prop
 | .skip, Q, s => Q .normal s
 | .reg l live, Q, s => xI P s.L.next l (c8W live (Q .normal)) s
 | .seq a b, Q, s => xC P N nt a (c1H (xC P N nt b Q) Q) s
 | .cond o a b, Q, s => c4f (xev s.sl o) (xC P N nt a Q) (xC P N nt b Q) s
 | .block id c, Q, s => xC P N nt c (inBlockT id Q) s
 | .loop c, Q, s => WA P N nt (.loop c) Q s
 | .exit id, Q, s => Q (.exit id) s
 | .ret, Q, s => Q .ret s
 | .lab _, Q, s => Q .normal s
 | .scope id a b, Q, s => xC P N nt a (b4c id (xC P N nt b (c0t Q)) Q) s
theorem a1K : ∀ (c : CA) (Q : Ex -> T -> Prop) (s : T), xC P N nt c Q s -> WA P N nt c Q s := by
 intro c
 induction c with
 | skip => intro Q s h _; exact d03 ⟨s, .refl _, h⟩
 | reg l live =>
  intro Q s h hok
  refine d10 s.L.next (c4Y ?_ _ _ (c4T l s hok h))
  rintro t ⟨s', h1, rfl⟩
  exact ⟨_, .keep s' live, h1⟩
 | seq a b iha ihb =>
  intro Q s h hok
  simp only [CA.ok, Bool.and_eq_true] at hok
  refine c9j ((iha _ s h hok.1).mono λe t ⟨s', h1, h2⟩ => ?_)
  cases e with
  | normal => exact W_le h1 (ihb Q s' h2 hok.2)
  | _ => exact ⟨s', h1, h2⟩
 | cond o a b iha ihb =>
  intro Q s h hok
  simp only [CA.ok, Bool.and_eq_true] at hok
  simp only [xC, c4f] at h
  split at h
  ·rename_i t ht
   exact d06 (by rw [T.s, b9k _ _ hok.1.1]; exact ht) (λe => iha Q s (h.1 e) hok.1.2) λe => ihb Q s (h.2 e) hok.2
  ·exact h.elim
 | block id c ih =>
  intro Q s h hok
  refine c9m ((ih _ s h hok).mono λe t ⟨s', h1, h2⟩ => ?_)
  cases e with
  | exit i =>
   simp only [Ex.inBlock]
   simp only [inBlockT] at h2
   split
   ·rename_i e; simp only [e, if_true] at h2; exact ⟨s', h1, h2⟩
   ·rename_i e; simp only [e, if_false] at h2; exact ⟨s', h1, h2⟩
  | _ => exact ⟨s', h1, h2⟩
 | loop c _ => intro Q s h; exact h
 | exit id => intro Q s h _; exact d05 ⟨s, .refl _, h⟩
 | ret => intro Q s h _; exact d1Z ⟨s, .refl _, h⟩
 | lab l => intro Q s h _; exact d11 ⟨s, .refl _, h⟩
 | scope id a b iha ihb =>
  intro Q s h hok
  simp only [CA.ok, Bool.and_eq_true] at hok
  refine c9k ((iha _ s h hok.1).mono λe t ⟨s', h1, h2⟩ => ?_)
  cases e with
  | exit i =>
   simp only [Ex.inScope]
   simp only [b4c] at h2
   split
   ·rename_i e
    simp only [e, if_true] at h2
    refine W_le h1 ((ihb _ s' h2 hok.2).mono λe' t' ⟨u, k1, k2⟩ => ?_)
    cases e' with
    | exit j => exact ⟨k2.1, u, k1, k2.2⟩
    | _ => exact ⟨u, k1, k2⟩
   ·rename_i e; simp only [e, if_false] at h2; exact ⟨h2.1, s', h1, h2.2⟩
  | _ => exact ⟨s', h1, h2⟩
def argSl : Nat -> List V -> Sl
 | _, [] => []
 | k, v :: r => (k, v) :: argSl (k + 1) r
theorem b8Z : ∀ (vs : List V) (k i : Nat), look (argSl k vs) i = if k <= i then vs.getD (i - k) .any else .any := by
 intro vs
 induction vs with
 | nil => intro k i; simp [argSl, look]
 | cons v vs ih =>
  intro k i
  simp only [argSl, look, ih]
  by_cases e : i = k
  ·subst e; simp
  ·rw [if_neg e]
   by_cases h : k <= i
   ·have h2 : k + 1 <= i := by omega
    have h3 : i - k = (i - (k + 1)) + 1 := by omega
    simp [h, h2, h3]
   ·have h2 : ¬ k + 1 <= i := by omega
    simp [h, h2]
def M4 (N : Nat -> Prop) (nt : Nat) (res : List (Nat × Option (Nat × Bool))) (r : V) (L' : Heap) : Ex -> T -> Prop
 | .normal, s | .ret, s => ∃ v ρ, ResV (s.s nt) res v /\ Wk N [v] s.L [r] L' ρ
 | _, _ => False
theorem k9 {f : FuncId} {nt : Nat} {res : List (Nat × Option (Nat × Bool))} {c : CA} {L L' : Heap} {r : V} {vs : List V} (hF : f7 P f = some ⟨nt, res, c.strip⟩) (hok : (c.ok nt && decide (vs.length <= nt)) = true) (hm : P.follows .mixedOrders = true) (N : Nat -> Prop) (hN : ∀ X q, L.get X q ≠ none -> N X)
  (h : xC P N nt c (M4 N nt res r L') ⟨argSl 0 vs, L⟩) : AC P f vs L L' r := by
 simp only [Bool.and_eq_true, decide_eq_true_eq] at hok
 have e : enter ⟨nt, res, c.strip⟩ vs L = T.s nt ⟨argSl 0 vs, L⟩ := by
  simp only [enter, T.s, S.mk.injEq, and_true]
  refine List.ext_getElem? λi => ?_
  by_cases h : i < nt
  ·have h1 : (build nt (argSl 0 vs)).getD i .any = _ := z2 _ h
   rw [b8Z] at h1
   simp only [Nat.zero_le, if_true, Nat.sub_zero] at h1
   rw [d2d, d2f (by rw [y9]; exact h)] at h1
   rw [d2f (l := build nt _) (by rw [y9]; exact h)]
   simp only [Option.getD_some] at h1
   rw [h1, List.getElem?_append]
   split
   ·rename_i h2; simp [d2d, h2]
   ·rename_i h2
    rw [List.getElem?_replicate]
    simp only [d2d]
    rw [d2n (by omega)]
    rw [if_pos (by omega)]; rfl
  ·rw [d2n (by simp; omega), d2n (by rw [y9]; omega)]
 refine b9R hF hm N hN ?_
 rw [e]
 refine b6y (a1K _ _ _ h hok.1) λe t ⟨s', h1, h2⟩ => ⟨s'.s nt, h1, ?_⟩
 cases e <;> first | exact h2 | exact h2.elim
theorem b7 {f : FuncId} {nt : Nat} {res : List (Nat × Option (Nat × Bool))} {c : CA} {r : V} {vs : List V} (hF : f7 P f = some ⟨nt, res, c.strip⟩) (hok : (c.ok nt && decide (vs.length <= nt)) = true) (hm : P.follows .mixedOrders = true)
  (h : xC P (λ_ => False) nt c (M4 (λ_ => False) nt res r []) ⟨argSl 0 vs, []⟩) : Con P f vs r :=
 k9 hF hok hm (λ_ => False) (λX q hX => by simp [Heap.get, Heap.fam] at hX) h
theorem a0W {res : List (Nat × Option (Nat × Bool))} {s : T} {r : V} (hb : r.bareB = true) (h : ResV (s.s nt) res r) : M4 (λ_ => False) nt res r [] .ret s :=
 ⟨r, λX r => (X, r), h, .fin ((W0 hb).le _ _ _)⟩
end
end Go.Ab
