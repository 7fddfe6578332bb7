import Derived.Test.YtponkmbigjmmoaaGreatGD
import Derived.ChangeKeysEq
set_option linter.unusedSimpArgs false
set_option linter.unusedVariables false
namespace Go.Ab
open Go
section
variable {P : Program} {St : Nat -> Prop} {m : Map} {s : S} {a : Act} {o : Oper} {w : World} {K : V -> Prop} {L : Heap}
theorem a9j (cs : Array Value) : LRel St m L w (cs.toList.map Value.toV) cs := by
 refine ⟨by simp, λj hj => ?_⟩
 have hj' : j < cs.size := by simpa using hj
 have : (cs.toList.map Value.toV).getD j .any = Value.toV (cs.getD j undef) := by simp [d2d, hj']
 rw [this]; exact b63 ..
theorem c3R (t : TypeId) (parts : Array (Nat × Operand)) (place : Nat -> Option (Nat × Nat)) (z : Value) (qs : List (Nat × Nat × Opd))
  (hb : ∀ ps cells, Instr.fill place z.cells ps = some cells -> P.built t ps = some cells)
  (hq : qs.length = parts.size) (hp : ∀ j (h1 : j < parts.size) (h2 : j < qs.length), place parts[j].1 = some (qs[j].1, qs[j].2.1) /\ qs[j].2.2 = Opd.of parts[j].2)
  (ho : o.op = .build t parts) (hs : SimS St m s a w) (hk : hv (.build (z.cells.toList.map Value.toV) qs) s.ev K) : HOk P St m s.L a o w K := by
 simp only [hv] at hk
 split at hk
 case h_2 => exact hk.elim
 rename_i cells hf
 obtain ⟨cs', hfill, hrel⟩ := b9d (St := St) (m := m) (L := s.L) (w := w) place (parts.toList.map λ(i, x) => (i, a.eval x)) (W3 s.ev qs) _ z.cells cells (a9j z.cells) hf (by simp [W3, hq])
  (λj h1 h2 => by
   have h1' : j < parts.size := by simpa using h1
   have h2' : j < qs.length := by simpa [W3] using h2
   obtain ⟨e1, e2⟩ := hp j h1' h2'
   simp only [List.getElem_map, W3, Array.getElem_toList]
   refine ⟨e1, ?_⟩
   have := n9 hs parts[j].2
   rw [<- e2] at this; exact this)
 refine .mk _ (.agg cs') ?_ hk hrel.agg
 have hbl := hb _ _ hfill
 have hr : (Instr.build t (parts.map λ(i, x) => (i, a.eval x))).run P w = .ok (.agg cs') w := run_build w t _ cs' (by simpa using hbl)
 simp only [execOp, ho]
 simp [hr]
theorem b2F {t : TypeId} {k : Bool} (h : b7M P t = some k) : szT P t = some 1 /\ aggT P t = some false /\ ((k = false /\ P.underlying t = some .bool) \/ (k = true /\ P.underlying t = some (.float .f64))) := by
 unfold b7M at h
 split at h
 ·rename_i h1
  refine ⟨h1.1, h1.2, ?_⟩
  split at h
  ·rename_i h2; cases h; exact .inl ⟨rfl, h2⟩
  ·rename_i h2; cases h; exact .inr ⟨rfl, h2⟩
  ·cases h
 ·cases h
theorem a9w {xs : List V} {off : Nat} {v : D} (h : xs.getD off .any = .d v) : off < xs.length := by
 by_cases e : off < xs.length
 ·exact e
 ·rw [d2d, d2n (by omega)] at h; cases h
theorem b8C {t : TypeId} {k : Bool} {xs ys : List V} {cs ds : Array Value} {off d : Nat} {z : Bool} (hk : b7M P t = some k) (hx : LRel St m L w xs cs) (hy : LRel St m L w ys ds)
  (h : ((k = true /\ ∃ a b, xs.getD off .any = .d (.flt a) /\ ys.getD off .any = .d (.flt b) /\ z = Ab.fcmp .eq a b) \/ (k = false /\ ∃ a b, xs.getD off .any = .d (.bool a) /\ ys.getD off .any = .d (.bool b) /\ z = (a == b)))) :
  ∃ c c', (part t cs off).run P w = .ok c w /\ (part t ds off).run P w = .ok c' w /\ (Op.equalIn (d + 1) t c c').run P w = .ok z w := by
 obtain ⟨hn, hg, hu⟩ := b2F hk
 rcases h with ⟨rfl, a, b, h1, h2, rfl⟩ | ⟨rfl, a, b, h1, h2, rfl⟩
 ·have hu : P.underlying t = some (.float .f64) := by rcases hu with ⟨e, _⟩ | ⟨_, e⟩; cases e; exact e
  obtain ⟨c, r1, v1⟩ := a3E (off := off) hg hn (.inr rfl) (by decide) hx (by have := a9w h1; omega)
  obtain ⟨c', r2, v2⟩ := a3E (off := off) hg hn (.inr rfl) (by decide) hy (by have := a9w h2; omega)
  simp only [ldv, Bool.false_eq_true, if_false] at v1 v2
  rw [h1] at v1; rw [h2] at v2
  refine ⟨c, c', r1, r2, ?_⟩
  obtain ⟨b1, _, c1, rfl⟩ := v1.flt
  obtain ⟨b2, _, c2, rfl⟩ := v2.flt
  subst c1 c2
  have e : ∀ x y : Nat, FloatKind.f64.format.order x y = Ieee.double.order x y := λ_ _ => rfl
  simp [Op.equalIn, run_underlying hu, Op.floatEq, e, fcmp, b3R]
 ·have hu : P.underlying t = some .bool := by rcases hu with ⟨_, e⟩ | ⟨e, _⟩; exact e; cases e
  obtain ⟨c, r1, v1⟩ := a3E (off := off) hg hn (.inr rfl) (by decide) hx (by have := a9w h1; omega)
  obtain ⟨c', r2, v2⟩ := a3E (off := off) hg hn (.inr rfl) (by decide) hy (by have := a9w h2; omega)
  simp only [ldv, Bool.false_eq_true, if_false] at v1 v2
  rw [h1] at v1; rw [h2] at v2
  refine ⟨c, c', r1, r2, ?_⟩
  rw [v1.bool, v2.bool]
  exact run_equalIn_bool w d t a b hu
theorem b2s {xs ys : List V} {cs ds : Array Value} {d : Nat} (hx : LRel St m L w xs cs) (hy : LRel St m L w ys ds) : ∀ (fs : List Field) (ks : List (Nat × Bool)) (r : Bool),
  fs.mapM (λf => if f.name = "_" then none else (b7M P f.type).map λk => (f.offset, k)) = some ks -> aeq ks xs ys = some r -> (Op.eqFields (d + 1) cs ds fs).run P w = .ok r w
 | [], ks, r, h, ha => by
  simp at h; subst h
  simp [aeq] at ha; subst ha
  simp [Op.eqFields]
 | f :: fs, ks, r, h, ha => by
  rw [List.mapM_cons] at h
  simp only [bind, Option.bind_eq_some_iff, pure, Option.some.injEq] at h
  obtain ⟨p, hp, ks', hks, rfl⟩ := h
  split at hp
  ·cases hp
  rename_i hne
  obtain ⟨k, hk, rfl⟩ := Option.map_eq_some_iff.1 hp
  have key : ∃ z r', r = (z && r') /\ aeq ks' xs ys = some r' /\ ((k = true /\ ∃ a b, xs.getD f.offset .any = .d (.flt a) /\ ys.getD f.offset .any = .d (.flt b) /\ z = Ab.fcmp .eq a b) \/ (k = false /\ ∃ a b, xs.getD f.offset .any = .d (.bool a) /\ ys.getD f.offset .any = .d (.bool b) /\ z = (a == b))) := by
   cases k
   ·simp only [aeq] at ha
    split at ha
    ·rename_i a b h1 h2
     obtain ⟨r', h3, rfl⟩ := Option.map_eq_some_iff.1 ha
     exact ⟨a == b, r', rfl, h3, .inr ⟨rfl, a, b, h1, h2, rfl⟩⟩
    ·cases ha
   ·simp only [aeq] at ha
    split at ha
    ·rename_i a b h1 h2
     obtain ⟨r', h3, rfl⟩ := Option.map_eq_some_iff.1 ha
     exact ⟨_, r', rfl, h3, .inl ⟨rfl, a, b, h1, h2, rfl⟩⟩
    ·cases ha
  obtain ⟨z, r', rfl, h3, h4⟩ := key
  obtain ⟨c, c', r1, r2, r3⟩ := b8C (d := d) hk hx hy h4
  have ih := b2s hx hy fs ks' r' hks h3 (d := d)
  simp only [Op.eqFields, ne_eq, hne, not_false_eq_true, if_true, Sem.run_bind, r1, r2, r3, Result.andThen_ok]
  cases z
  ·simp
  ·simpa using ih
theorem b5t {xs ys : List V} {cs ds : Array Value} {d : Nat} {e : TypeId} {k : Bool} (hk : b7M P e = some k) (hx : LRel St m L w xs cs) (hy : LRel St m L w ys ds) : ∀ (is : List Nat) (r : Bool),
  aeq (is.map λi => (i, k)) xs ys = some r -> (Op.eqItems (d + 1) e 1 cs ds is).run P w = .ok r w
 | [], r, ha => by
  simp [aeq] at ha; subst ha
  simp [Op.eqItems]
 | i :: is, r, ha => by
  have key : ∃ z r', r = (z && r') /\ aeq (is.map λi => (i, k)) xs ys = some r' /\ ((k = true /\ ∃ a b, xs.getD i .any = .d (.flt a) /\ ys.getD i .any = .d (.flt b) /\ z = Ab.fcmp .eq a b) \/ (k = false /\ ∃ a b, xs.getD i .any = .d (.bool a) /\ ys.getD i .any = .d (.bool b) /\ z = (a == b))) := by
   cases k
   ·simp only [List.map_cons, aeq] at ha
    split at ha
    ·rename_i a b h1 h2
     obtain ⟨r', h3, rfl⟩ := Option.map_eq_some_iff.1 ha
     exact ⟨a == b, r', rfl, h3, .inr ⟨rfl, a, b, h1, h2, rfl⟩⟩
    ·cases ha
   ·simp only [List.map_cons, aeq] at ha
    split at ha
    ·rename_i a b h1 h2
     obtain ⟨r', h3, rfl⟩ := Option.map_eq_some_iff.1 ha
     exact ⟨_, r', rfl, h3, .inl ⟨rfl, a, b, h1, h2, rfl⟩⟩
    ·cases ha
  obtain ⟨z, r', rfl, h3, h4⟩ := key
  obtain ⟨c, c', r1, r2, r3⟩ := b8C (d := d) hk hx hy h4
  have ih := b5t hk hx hy is r' h3 (d := d)
  simp only [Op.eqItems, Nat.mul_one, Sem.run_bind, r1, r2, r3, Result.andThen_ok]
  cases z
  ·simp
  ·simpa using ih
theorem c7n (op : BinOp) (ne : Bool) (t u : TypeId) (x y : Operand) (ks : List (Nat × Bool)) (hop : op = if ne then .neq else .eql) (hc : cmpT P t = some ks) (ho : o.op = .binOp op t x y u) (hs : SimS St m s a w) (hk : hv (.acmp ne (Opd.of x) (Opd.of y) ks) s.ev K) : HOk P St m s.L a o w K := by
 have hx := n9 hs x
 have hy := n9 hs y
 simp only [hv] at hk
 split at hk
 case h_2 => exact hk.elim
 rename_i xs ys h1 h2
 rw [h1] at hx; rw [h2] at hy
 split at hk
 case h_2 => exact hk.elim
 rename_i r hr
 obtain ⟨cs, hc1, hsz, hrel⟩ := hx.agg'
 obtain ⟨ds, hc2, hsz2, hrel2⟩ := hy.agg'
 have lx : LRel St m s.L w xs cs := ⟨hsz, hrel⟩
 have ly : LRel St m s.L w ys ds := ⟨hsz2, hrel2⟩
 unfold cmpT at hc
 split at hc
 case isFalse => cases hc
 rename_i hgd
 have run : (Op.equalIn 10000 t (.agg cs) (.agg ds)).run P w = .ok r w := by
  split at hc
  ·rename_i fields hu
   split at hc
   ·rename_i hst
    have hf : P.fieldsOf t = fields := by unfold Program.fieldsOf; rw [hu]
    have := run_equalIn_struct (P := P) w 9999 t cs ds (by rw [hf]; exact hu) hst
    rw [show (10000 : Nat) = 9999 + 1 from rfl, this, hf]
    exact b2s lx ly fields.toList ks r hc hr (d := 9998)
   ·cases hc
  ·rename_i n e hu
   obtain ⟨k, hk', rfl⟩ := Option.map_eq_some_iff.1 hc
   obtain ⟨hn, _, _⟩ := b2F hk'
   unfold szT at hn
   obtain ⟨i, hi, hi2⟩ := Option.map_eq_some_iff.1 hn
   have hcell : P.cellsOf e = 1 := by unfold Program.cellsOf; rw [hi]; exact hi2
   have := run_equalIn_array (P := P) w 9999 cs ds hu hi
   rw [show (10000 : Nat) = 9999 + 1 from rfl, this, hcell]
   exact b5t hk' lx ly (List.range n) r hr (d := 9998)
  ·cases hc
 refine .mk _ (.bool (r ^^ ne)) ?_ hk (.d (.bool _))
 simp only [execOp, ho, hc1, hc2]
 cases ne <;> simp only [hop, Bool.false_eq_true, if_true, if_false] <;> simp [run_eqGuard_agg _ _ _ _ _ _ _ hgd, run_eql_struct, run_neq_struct, run]
theorem a9Y {α β : Type} (f : α -> Option β) : ∀ (l : List α) (r : List β), l.mapM f = some r -> r.length = l.length /\ ∀ j (h1 : j < l.length) (h2 : j < r.length), f l[j] = some r[j] := by
 intro l
 induction l with
 | nil => intro r h; simp at h; subst h; exact ⟨rfl, λj h => by simp at h⟩
 | cons x l ih =>
  intro r h
  simp only [List.mapM_cons, Option.bind_eq_bind, Option.pure_def] at h
  cases hx : f x with
  | none => simp [hx] at h
  | some y =>
   cases hl : l.mapM f with
   | none => simp [hx, hl] at h
   | some ys =>
    simp [hx, hl] at h
    subst h
    obtain ⟨h1, h2⟩ := ih ys hl
    refine ⟨by simp [h1], λj hj1 hj2 => ?_⟩
    cases j with
    | zero => simpa using hx
    | succ j => simpa using h2 j (by simpa using hj1) (by simpa using hj2)
theorem b77 {hi : HI} (hc : a0X P o.op = some hi) (hs : SimS St m s a w) (hk : hv hi s.ev K) : HOk P St m s.L a o w K := by
 cases hop : o.op with
 | move x => simp only [hop, a0X, Option.some.injEq] at hc; subst hc; exact d0s x (.inl hop) hs hk
 | assign x => simp only [hop, a0X, Option.some.injEq] at hc; subst hc; exact d0s x (.inr hop) hs hk
 | pick c x y => simp only [hop, a0X, Option.some.injEq] at hc; subst hc; exact d0q c x y hop hs hk
 | nilCheck x => simp only [hop, a0X, Option.some.injEq] at hc; subst hc; exact c8R x hop hs hk
 | unOp op t x => simp only [hop, a0X, Option.some.injEq] at hc; subst hc; exact h_un op t x hop hs hk
 | extract x i => simp only [hop, a0X, Option.some.injEq] at hc; subst hc; exact d1J x i hop hs hk
 | binOp op t x y u =>
  simp only [hop, a0X] at hc
  split at hc
  ·cases hc; exact d0w op t u x y hop hs hk
  ·split at hc
   ·rename_i f hf; cases hc; exact d0y op f t u x y hf hop hs hk
   ·rename_i f hf; cases hc; exact d0x op f t u x y hf hop hs hk
   ·cases hc
  ·rename_i hu
   split at hc
   ·cases hc; exact c7m _ false t u x y rfl hu hop hs hk
   ·cases hc; exact c7m _ true t u x y rfl hu hop hs hk
   ·cases hc
  ·rename_i hu
   split at hc
   ·rename_i hy
    obtain rfl := c3F hy
    split at hc
    ·cases hc; exact c7k _ false t u _ x rfl hu hop hs hk
    ·cases hc; exact c7k _ true t u _ x rfl hu hop hs hk
    ·cases hc
   ·cases hc
  ·split at hc
   ·rename_i ks hks
    split at hc
    ·cases hc; exact c7n _ false t u x y ks rfl hks hop hs hk
    ·cases hc; exact c7n _ true t u x y ks rfl hks hop hs hk
    ·cases hc
   ·cases hc
 | convert sT d x =>
  simp only [hop, a0X] at hc
  split at hc
  ·rename_i h1 h2; cases hc; exact d1E sT d _ x ⟨_, h1⟩ h2 hop hs hk
  ·rename_i h1 h2; cases hc; exact d1F sT d x ⟨_, h1⟩ h2 hop hs hk
  ·rename_i h1 h2; cases hc; exact d1H sT d x h1 h2 hop hs hk
  ·cases hc
 | makeFunc fn first cap =>
  cases fn with
  | func f => simp only [hop, a0X, Option.some.injEq] at hc; subst hc; exact d0t f first cap hop hs hk
  | _ => simp [hop, a0X] at hc
 | slice t x lo hi mx =>
  simp only [hop, a0X] at hc
  split at hc
  ·rename_i e he
   split at hc
   ·cases hc
   ·rename_i hmh
    cases hn : szT P e with
    | none => simp [hn] at hc
    | some n =>
     simp only [hn, Option.map_some, Option.some.injEq] at hc
     subst hc
     exact d1A t x lo hi mx e n he hn (by intro h1 h2; apply hmh; exact ⟨by cases mx <;> simp_all, by cases hi <;> simp_all⟩) hop hs hk
  ·cases hc
 | fieldAddr t x f =>
  simp only [hop, a0X] at hc
  split at hc
  ·rename_i fields he
   split at hc
   ·rename_i fd hf
    split at hc
    ·rename_i n hn; cases hc; exact d0r t x f fields fd n he hf hn hop hs hk
    ·cases hc
   ·cases hc
  ·cases hc
 | field t x f =>
  simp only [hop, a0X] at hc
  split at hc
  ·rename_i fields he
   split at hc
   ·rename_i fd hf
    split at hc
    ·rename_i n g hn hg
     split at hc
     ·rename_i h1; cases hc; exact d1G t x f fields fd n g he hf hn hg h1 hop hs hk
     ·cases hc
    ·cases hc
   ·cases hc
  ·cases hc
 | indexAddr t x i =>
  simp only [hop, a0X] at hc
  split at hc
  ·rename_i e he
   cases hn : szT P e with
   | none => simp [hn] at hc
   | some n => simp only [hn, Option.map_some, Option.some.injEq] at hc; subst hc; exact d1D t x i e n he hn hop hs hk
  ·rename_i len e he
   cases hn : szT P e with
   | none => simp [hn] at hc
   | some n => simp only [hn, Option.map_some, Option.some.injEq] at hc; subst hc; exact d0v t x i len e n he hn hop hs hk
  ·cases hc
 | index t x i =>
  simp only [hop, a0X] at hc
  split at hc
  ·rename_i len e he
   split at hc
   ·rename_i n g hn hg
    split at hc
    ·rename_i h1; cases hc; exact d0u t x i len e n g he hn hg h1 hop hs hk
    ·cases hc
   ·cases hc
  ·cases hc
 | build t parts =>
  simp only [hop, a0X] at hc
  split at hc
  ·rename_i it n e hit hu
   split at hc
   ·rename_i z ie hz hie
    cases hc
    exact c3R t parts (λi => some (i * ie.size, ie.size)) z _ (λps cells h => by simp [Program.built, hit, hu, hz, hie, h]) (by simp) (λj h1 h2 => by simp) hop hs hk
   ·cases hc
  ·rename_i it fields hit hu
   split at hc
   ·rename_i z places hz hpl
    cases hm : (parts.toList.mapM λ(q : Nat × Operand) => (places[q.1]?).map λ(p : Nat × Nat) => (p.1, p.2, Opd.of q.2)) with
    | none => simp [hm] at hc
    | some qs =>
     simp only [hm, Option.map_some, Option.some.injEq] at hc
     subst hc
     obtain ⟨hl, hq⟩ := a9Y _ _ _ hm
     refine c3R t parts (λi => places[i]?) z qs (λps cells h => ?_) (by simpa using hl) (λj h1 h2 => ?_) hop hs hk
     ·simp [Program.built, hit, hu, hz, hpl]; exact h
     ·have := hq j (by simpa using h1) h2
      simp only [Array.getElem_toList] at this
      cases hpj : places[parts[j].1]? with
      | none => simp [hpj] at this
      | some p => simp [hpj] at this; rw [<- this]; simp
   ·cases hc
  ·cases hc
 | call c =>
  obtain ⟨callee, args, ats⟩ := c
  simp only [hop, a0X] at hc
  have la : ∀ l : List Operand, args.toList = l -> args = l.toArray := λl h => by rw [<- h]
  have lt : ∀ l : List TypeId, ats.toList = l -> ats = l.toArray := λl h => by rw [<- h]
  unfold b9s at hc
  cases callee with
  | invoke r n => cases hc
  | builtin b =>
   simp only at hc
   split at hc
   ·rename_i x hx
    obtain rfl := la _ hx
    split at hc
    ·rename_i hb; subst hb
     split at hc
     ·rename_i t ht
      obtain rfl := lt _ ht
      split at hc
      ·rename_i e he; cases hc; exact d1C _ _ e he hop hs hk
      ·cases hc
     ·cases hc
    ·cases hc
   ·rename_i x y hx
    obtain rfl := la _ hx
    split at hc
    ·rename_i hb; subst hb; cases hc; exact h_mm true _ _ _ hop hs hk
    ·split at hc
     ·rename_i hb; subst hb; cases hc; exact h_mm false _ _ _ hop hs hk
     ·cases hc
   ·rename_i x y z hx
    obtain rfl := la _ hx
    split at hc
    ·rename_i hb; subst hb; cases hc; exact d1B _ _ _ _ hop hs hk
    ·cases hc
   ·cases hc
  | value f =>
   simp only at hc
   split at hc
   ·rename_i f x hx
    obtain rfl := la _ hx
    split at hc
    ·rename_i fn hf
     split at hc
     ·rename_i hb
      split at hc
      ·rename_i hn; cases hc; exact d0z _ fn _ _ hf hb hn hop hs hk
      ·split at hc
       ·rename_i hn; cases hc; exact c0T _ fn _ _ hf hb hn hop hs hk
       ·cases hc
     ·cases hc
    ·cases hc
   ·cases hc
 | _ => simp [hop, a0X] at hc
end
end Go.Ab
namespace Go.Ab
open Go
theorem a43 (X : Nat) (f : List (List V)) (L : Heap) (h : L.fam X = none) (Y : Nat) : (L.ins X f).fam Y = if Y = X then some f else L.fam Y := by
 induction L with
 | nil =>
  simp only [Heap.ins, Heap.fam, List.lookup_cons, List.lookup_nil]
  by_cases e : Y = X
  ·simp [e]
  ·simp only [beq_eq_false_iff_ne.2 e, if_neg e]
 | cons p L ih =>
  obtain ⟨Z, g⟩ := p
  simp only [Heap.fam, List.lookup_cons] at h
  have hXZ : X ≠ Z := by intro e; simp [e] at h
  have hb : (X == Z) = false := by simpa using hXZ
  simp only [hb] at h
  simp only [Heap.ins]
  split
  ·simp only [Heap.fam, List.lookup_cons]
   by_cases e : Y = X
   ·simp [e]
   ·simp only [beq_eq_false_iff_ne.2 e, if_neg e]
  ·have ih := ih h
   simp only [Heap.fam, List.lookup_cons] at ih ⊢
   by_cases e : Y = Z
   ·subst e; simp [Ne.symm hXZ]
   ·have : (Y == Z) = false := by simpa using e
    simp only [this]; exact ih
theorem J0 {X : Nat} {cells : List V} {L : Heap} (h : L.fam X = none) : (L.ins X [cells]).get X 0 = some cells := by
 simp [Heap.get, a43 X [cells] L h]
theorem T3 {X : Nat} {cells : List V} {L : Heap} (h : L.fam X = none) (Y r : Nat) : (L.ins X [cells]).get Y r = if Y = X then (if r = 0 then some cells else none) else L.get Y r := by
 simp only [Heap.get, a43 X [cells] L h]
 by_cases e : Y = X
 ·subst e; cases r <;> simp
 ·simp [e]
theorem b4g {X : Nat} {f : List (List V)} {L : Heap} (h : L.fam X = none) (Y r : Nat) : (L.ins X f).get Y r = if Y = X then f[r]? else L.get Y r := by
 simp only [Heap.get, a43 X f L h]
 by_cases e : Y = X
 ·subst e; simp
 ·simp [e]
theorem x4 {X r : Nat} {L : Heap} (h : L.fam X = none) : L.get X r = none := by simp [Heap.get, h]
theorem K8 (X r : Nat) (cs : List V) (L : Heap) (old : List V) (h : L.get X r = some old) (Y q : Nat) : (L.put X r cs).get Y q = if Y = X /\ q = r then some cs else L.get Y q := by
 induction L with
 | nil => simp [Heap.get, Heap.fam] at h
 | cons p L ih =>
  obtain ⟨Z, g⟩ := p
  simp only [Heap.put]
  by_cases e : X = Z
  ·subst e
   simp only [if_true]
   simp only [Heap.get, Heap.fam, List.lookup_cons] at h ⊢
   simp at h
   by_cases e2 : Y = X
   ·subst e2
    simp only [beq_self_eq_true, Option.bind_some, true_and]
    by_cases e3 : q = r
    ·subst e3
     have : q < g.length := by
      rcases Nat.lt_or_ge q g.length with h' | h'
      ·exact h'
      ·rw [d2n h'] at h; cases h
     simp [this]
    ·simp [e3, Ne.symm e3]
   ·have : (Y == X) = false := by simpa using e2
    simp [this, e2]
  ·simp only [if_neg e]
   have hb : (X == Z) = false := by simpa using e
   have h' : Heap.get L X r = some old := by simpa [Heap.get, Heap.fam, List.lookup_cons, hb] using h
   have ih := ih h'
   simp only [Heap.get, Heap.fam, List.lookup_cons] at ih ⊢
   by_cases e2 : Y = Z
   ·subst e2; simp [Ne.symm e]
   ·have : (Y == Z) = false := by simpa using e2
    simp only [this]; exact ih
theorem c01 {X r : Nat} {L : Heap} {c : List V} (h : L.get X r = some c) : L.fam X ≠ none := by
 intro h'; simp [Heap.get, h'] at h
structure Wrote (w w' : World) (b : Nat) (arr : Array Value) (el : TypeId) : Prop where
 size : w'.heap.size = w.heap.size
 self : w'.heap[b]? = some (.cells arr el (0, 0))
 other : ∀ x, x ≠ b -> w'.heap[x]? = w.heap[x]?
 os : w'.os = w.os
 tape : w'.tape = w.tape
 output : w'.output = w.output
def Post (St : Nat -> Prop) (m : Map) (L : Heap) (w : World) (v : V) (L' : Heap) (c : Value) (w' : World) : Prop :=
 ∃ St' m', Objs St' m' L' w' /\ VRel St' m' L' w' v c /\ Frame' (a8V m L) w w' /\ Ext St St' m m' L L' w w' /\ (∀ b, St' b -> St b \/ w.heap.size <= b) /\ Src m L m' L' w
def PRel (St : Nat -> Prop) (m : Map) (L : Heap) (w : World) (xs : List V) (cs : Array Value) : Prop :=
 xs.length <= cs.size /\ ∀ j, j < xs.length -> VRel St m L w (xs.getD j .any) (cs.getD j undef)
section
variable {P : Program} {St : Nat -> Prop} {m : Map} {L : Heap} {w w' : World}
theorem LRel.pre {xs : List V} {cs : Array Value} (h : LRel St m L w xs cs) : PRel St m L w xs cs := ⟨by rw [h.1]; exact d2t _, h.2⟩
theorem Same.post {v : V} {c : Value} (h : Same w w') (ho : Objs St m L w) (hv : VRel St m L w' v c) : Post St m L w v L c w' :=
 ⟨St, m, h.objs ho, hv, h.frame, h.ext, λ_ h => .inl h, .refl _ _ _⟩
def Map.set (m : Map) (X r b C : Nat) : Map := λY q => if Y = X /\ q = r then some (b, C) else m Y q
theorem Objs.made (ho : Objs St m L w) {X : Nat} (hX : L.fam X = none) {cells : List V} {arr : Array Value} {el : TypeId}
  (hw : w'.heap = w.heap.push (.cells arr el (0, 0))) (ho' : w'.os = w.os) (ht : w'.tape = w.tape) (hout : w'.output = w.output)
  (hc : PRel St m L w cells arr) :
  Objs St (m.set X 0 w.heap.size arr.size) (L.ins X [cells]) w' /\ Ext St St m (m.set X 0 w.heap.size arr.size) L (L.ins X [cells]) w w' /\ Frame' (a8V m L) w w' /\
   Src m L (m.set X 0 w.heap.size arr.size) (L.ins X [cells]) w := by
 have hext : Ext St St m (m.set X 0 w.heap.size arr.size) L (L.ins X [cells]) w w' := by
  refine ⟨λ_ h => h, λb hb => ?_, λY r c hYr => ⟨c, ?_, d2t _, λ_ => ?_⟩⟩
  ·rw [hw, Array.getElem?_push, if_neg (by have := ho.st b hb; omega)]
  ·rw [T3 hX]
   have : Y ≠ X := by intro e; subst e; rw [x4 hX] at hYr; cases hYr
   rw [if_neg this]; exact hYr
  ·have : Y ≠ X := by intro e; subst e; rw [x4 hX] at hYr; cases hYr
   simp [Map.set, this]
 have hsz : w'.heap.size = w.heap.size + 1 := by rw [hw]; simp
 refine ⟨⟨λb hb => by have := ho.st b hb; omega, λY r c hYr hm => ?_, λY r c b C hYr hm => ?_, λY r Z q b C C' h1 h2 h3 h4 => ?_⟩, hext, ⟨ho', ht, hout, by omega, λb hb _ => ?_⟩, λY r b C h1 h2 => ?_⟩
 ·rw [T3 hX] at hYr
  by_cases e : Y = X
  ·subst e
   simp only [if_true] at hYr
   split at hYr
   ·rename_i h0; subst h0; simp [Map.set] at hm
   ·cases hYr
  ·rw [if_neg e] at hYr
   simp [Map.set, e] at hm
   exact ho.nil Y r c hYr hm
 ·rw [T3 hX] at hYr
  by_cases e : Y = X
  ·subst e
   simp only [if_true] at hYr
   split at hYr
   ·rename_i h0; subst h0; cases hYr
    simp [Map.set] at hm
    obtain ⟨rfl, rfl⟩ := hm
    refine ⟨by omega, λhs => by have := ho.st _ hs; omega, arr, el, by rw [hw]; simp, rfl, hc.1, λj hj => (hc.2 j hj).mono hext⟩
   ·cases hYr
  ·rw [if_neg e] at hYr
   simp [Map.set, e] at hm
   obtain ⟨h1, h2, arr', el', h3, h4, h5, h6⟩ := ho.obj Y r c b C hYr hm
   refine ⟨by omega, h2, arr', el', ?_, h4, h5, λj hj => (h6 j hj).mono hext⟩
   rw [hw, Array.getElem?_push, if_neg (by omega)]; exact h3
 ·have old : ∀ Y r b C, (L.ins X [cells]).get Y r ≠ none -> Y ≠ X -> (m.set X 0 w.heap.size arr.size) Y r = some (b, C) -> L.get Y r ≠ none /\ m Y r = some (b, C) /\ b < w.heap.size := by
   intro Y r b C h1 hne h2
   rw [T3 hX, if_neg hne] at h1
   simp [Map.set, hne] at h2
   obtain ⟨c, hc⟩ := Option.ne_none_iff_exists'.1 h1
   exact ⟨h1, h2, (ho.obj Y r c b C hc h2).1⟩
  have new : ∀ r b C, (L.ins X [cells]).get X r ≠ none -> (m.set X 0 w.heap.size arr.size) X r = some (b, C) -> r = 0 /\ b = w.heap.size := by
   intro r b C h1 h2
   rw [T3 hX] at h1
   simp only [if_true] at h1
   split at h1
   ·rename_i h0; subst h0; simp [Map.set] at h2; exact ⟨rfl, h2.1.symm⟩
   ·exact absurd rfl h1
  by_cases e1 : Y = X <;> by_cases e2 : Z = X
  ·subst e1 e2
   obtain ⟨rfl, _⟩ := new _ _ _ h1 h3
   obtain ⟨rfl, _⟩ := new _ _ _ h2 h4
   exact ⟨rfl, rfl⟩
  ·subst e1
   obtain ⟨_, rfl⟩ := new _ _ _ h1 h3
   have := (old _ _ _ _ h2 e2 h4).2.2; omega
  ·subst e2
   obtain ⟨_, rfl⟩ := new _ _ _ h2 h4
   have := (old _ _ _ _ h1 e1 h3).2.2; omega
  ·obtain ⟨a1, a2, _⟩ := old _ _ _ _ h1 e1 h3
   obtain ⟨b1, b2, _⟩ := old _ _ _ _ h2 e2 h4
   exact ho.inj _ _ _ _ _ _ _ a1 b1 a2 b2
 ·rw [hw, Array.getElem?_push, if_neg (by omega)]
 ·rw [T3 hX] at h1
  by_cases e : Y = X
  ·subst e
   simp only [if_true] at h1
   split at h1
   ·rename_i h0; subst h0; simp [Map.set] at h2; right; omega
   ·exact absurd rfl h1
  ·rw [if_neg e] at h1
   simp [Map.set, e] at h2
   exact .inl ⟨h1, h2⟩
theorem Objs.wrote (ho : Objs St m L w) {X r b C : Nat} {old cells : List V} {arr : Array Value} {el : TypeId} (hg : L.get X r = some old) (hm : m X r = some (b, C)) (hlen : old.length <= cells.length)
  (hw : Wrote w w' b arr el) (hC : arr.size = C) (hc : PRel St m L w cells arr) :
  Objs St m (L.put X r cells) w' /\ Ext St St m m L (L.put X r cells) w w' /\ Frame' (a8V m L) w w' /\ Src m L m (L.put X r cells) w := by
 obtain ⟨hb1, hb2, _⟩ := ho.obj X r old b C hg hm
 have hne : ∀ Y q, (L.put X r cells).get Y q ≠ none -> L.get Y q ≠ none := by
  intro Y q h; rw [K8 X r cells L old hg] at h
  split at h
  ·rename_i e; obtain ⟨rfl, rfl⟩ := e; rw [hg]; simp
  ·exact h
 have hext : Ext St St m m L (L.put X r cells) w w' := by
  refine ⟨λ_ h => h, λb' hb' => hw.other _ (λe => hb2 (e ▸ hb')), λY q c hYq => ?_⟩
  rw [K8 X r cells L old hg]
  split
  ·rename_i e; obtain ⟨rfl, rfl⟩ := e
   rw [hg] at hYq; cases hYq
   exact ⟨cells, rfl, by omega, λ_ => rfl⟩
  ·exact ⟨c, hYq, d2t _, λ_ => rfl⟩
 refine ⟨⟨λb' hb' => by rw [hw.size]; exact ho.st b' hb', λY q c hYq hm' => ?_, λY q c b' C' hYq hm' => ?_, λY q Z p b' C1 C2 h1 h2 h3 h4 => ho.inj _ _ _ _ _ _ _ (hne _ _ h1) (hne _ _ h2) h3 h4⟩, hext,
  ⟨hw.os, hw.tape, hw.output, by rw [hw.size]; exact d2t _, λb' hb' hn => hw.other _ (λe => hn (e ▸ ⟨X, r, C, by rw [hg]; simp, hm⟩))⟩, λY q b' C' h1 h2 => .inl ⟨hne _ _ h1, h2⟩⟩
 ·rw [K8 X r cells L old hg] at hYq
  split at hYq
  ·rename_i e; obtain ⟨rfl, rfl⟩ := e; rw [hm] at hm'; cases hm'
  ·exact ho.nil Y q c hYq hm'
 ·rw [K8 X r cells L old hg] at hYq
  split at hYq
  ·rename_i e; obtain ⟨rfl, rfl⟩ := e
   cases hYq; rw [hm] at hm'; cases hm'
   exact ⟨by rw [hw.size]; exact hb1, hb2, arr, el, hw.self, hC, by rw [<- hC]; exact hc.1, λj hj => (hc.2 j hj).mono hext⟩
  ·rename_i hn
   obtain ⟨h1, h2, arr', el', h3, h4, h5, h6⟩ := ho.obj Y q c b' C' hYq hm'
   have hne' : b' ≠ b := by
    rintro rfl
    exact hn (ho.inj Y q X r _ _ _ (by rw [hYq]; simp) (by rw [hg]; simp) hm' hm)
   exact ⟨by rw [hw.size]; exact h1, h2, arr', el', by rw [hw.other _ hne']; exact h3, h4, h5, λj hj => (h6 j hj).mono hext⟩
end
end Go.Ab
namespace Go.Ab
open Go
section
variable {P : Program} {St : Nat -> Prop} {m : Map} {L : Heap} {w w' : World}
theorem Objs.grown (ho : Objs St m L w) {X r : Nat} {old cells : List V} {arr : Array Value} {el : TypeId} (hg : L.get X r = some old) (hlen : old.length < cells.length)
  (hw : w'.heap = w.heap.push (.cells arr el (0, 0))) (ho' : w'.os = w.os) (ht : w'.tape = w.tape) (hout : w'.output = w.output) (hc : PRel St m L w cells arr) :
  Objs St (m.set X r w.heap.size arr.size) (L.put X r cells) w' /\ Ext St St m (m.set X r w.heap.size arr.size) L (L.put X r cells) w w' /\ Frame' (a8V m L) w w' /\
   Src m L (m.set X r w.heap.size arr.size) (L.put X r cells) w := by
 have hsz : w'.heap.size = w.heap.size + 1 := by rw [hw]; simp
 have hne : ∀ Y q, (L.put X r cells).get Y q ≠ none -> L.get Y q ≠ none := by
  intro Y q h; rw [K8 X r cells L old hg] at h
  split at h
  ·rename_i e; obtain ⟨rfl, rfl⟩ := e; rw [hg]; simp
  ·exact h
 have hext : Ext St St m (m.set X r w.heap.size arr.size) L (L.put X r cells) w w' := by
  refine ⟨λ_ h => h, λb' hb' => ?_, λY q c hYq => ?_⟩
  ·rw [hw, Array.getElem?_push, if_neg (by have := ho.st b' hb'; omega)]
  rw [K8 X r cells L old hg]
  split
  ·rename_i e; obtain ⟨rfl, rfl⟩ := e
   rw [hg] at hYq; cases hYq
   exact ⟨cells, rfl, by omega, λh => absurd h (by omega)⟩
  ·rename_i e
   exact ⟨c, hYq, d2t _, λ_ => by simp only [Map.set, if_neg e]⟩
 have set_ne : ∀ Y q, ¬(Y = X /\ q = r) -> (m.set X r w.heap.size arr.size) Y q = m Y q := λY q e => by simp only [Map.set, if_neg e]
 have set_eq : (m.set X r w.heap.size arr.size) X r = some (w.heap.size, arr.size) := by simp [Map.set]
 refine ⟨⟨λb hb => by have := ho.st b hb; omega, λY q c hYq hm' => ?_, λY q c b' C' hYq hm' => ?_, λY q Z p b' C1 C2 h1 h2 h3 h4 => ?_⟩, hext,
  ⟨ho', ht, hout, by omega, λb' hb' _ => by rw [hw, Array.getElem?_push, if_neg (by omega)]⟩, λY q b' C' h1 h2 => ?_⟩
 ·rw [K8 X r cells L old hg] at hYq
  split at hYq
  ·rename_i e; obtain ⟨rfl, rfl⟩ := e; rw [set_eq] at hm'; cases hm'
  ·rename_i e; rw [set_ne _ _ e] at hm'; exact ho.nil Y q c hYq hm'
 ·rw [K8 X r cells L old hg] at hYq
  split at hYq
  ·rename_i e; obtain ⟨rfl, rfl⟩ := e
   cases hYq; rw [set_eq] at hm'; cases hm'
   exact ⟨by omega, λhs => by have := ho.st _ hs; omega, arr, el, by rw [hw]; simp, rfl, hc.1, λj hj => (hc.2 j hj).mono hext⟩
  ·rename_i e; rw [set_ne _ _ e] at hm'
   obtain ⟨h1, h2, arr', el', h3, h4, h5, h6⟩ := ho.obj Y q c b' C' hYq hm'
   exact ⟨by omega, h2, arr', el', by rw [hw, Array.getElem?_push, if_neg (by omega)]; exact h3, h4, h5, λj hj => (h6 j hj).mono hext⟩
 ·have old' : ∀ Y q b C, L.get Y q ≠ none -> m Y q = some (b, C) -> b < w.heap.size := by
   intro Y q b C h1 h2
   obtain ⟨c, hc⟩ := Option.ne_none_iff_exists'.1 h1
   exact (ho.obj Y q c b C hc h2).1
  by_cases e1 : Y = X /\ q = r <;> by_cases e2 : Z = X /\ p = r
  ·exact ⟨e1.1.trans e2.1.symm, e1.2.trans e2.2.symm⟩
  ·obtain ⟨rfl, rfl⟩ := e1
   rw [set_eq] at h3; cases h3
   rw [set_ne _ _ e2] at h4
   have := old' _ _ _ _ (hne _ _ h2) h4; omega
  ·obtain ⟨rfl, rfl⟩ := e2
   rw [set_eq] at h4; cases h4
   rw [set_ne _ _ e1] at h3
   have := old' _ _ _ _ (hne _ _ h1) h3; omega
  ·rw [set_ne _ _ e1] at h3; rw [set_ne _ _ e2] at h4
   exact ho.inj _ _ _ _ _ _ _ (hne _ _ h1) (hne _ _ h2) h3 h4
 ·by_cases e : Y = X /\ q = r
  ·obtain ⟨rfl, rfl⟩ := e; rw [set_eq] at h2; cases h2; exact .inr (d2t _)
  ·rw [set_ne _ _ e] at h2; exact .inl ⟨hne _ _ h1, h2⟩
theorem b1u (b off n : Nat) (cell : Nat -> Value) (h : ∀ j, j < n -> w.cell? ⟨b, off + j, none⟩ = some (cell j)) :
  ∃ cs : Array Value, (loadCells ⟨b, off, none⟩ n).run P w = .ok cs w /\ cs.size = n /\ ∀ j, j < n -> cs.getD j undef = cell j := by
 have := run_loadCells (P := P) (w := w) ⟨b, off, none⟩ n cell (λj hj => by rw [G4]; exact h j hj)
 refine ⟨_, this, by simp, λj hj => ?_⟩
 simp [hj]
theorem a4J {t n : Nat} {g : Bool} (hg : aggT P t = some g) (hn : szT P t = some n) (h1 : g = true \/ n = 1) (h0 : 0 < n) (b off : Nat) (cell : Nat -> Value)
  (h : ∀ j, j < n -> w.cell? ⟨b, off + j, none⟩ = some (cell j)) :
  ∃ c, (loadVar t ⟨b, off, none⟩).run P w = .ok c w /\ ((g = true /\ ∃ cs : Array Value, c = .agg cs /\ cs.size = n /\ ∀ j, j < n -> cs.getD j undef = cell j) \/ (g = false /\ n = 1 /\ c = cell 0)) := by
 cases g with
 | true =>
  obtain ⟨cs, hr, hs, hc⟩ := b1u (P := P) b off n cell h
  exact ⟨.agg cs, by simp [loadVar, a9n hg, a2m hn, hr], .inl ⟨rfl, cs, rfl, hs, hc⟩⟩
 | false =>
  obtain rfl : n = 1 := by simpa using h1
  have := h 0 (by omega)
  rw [Nat.add_zero] at this
  exact ⟨cell 0, by simp [loadVar, a9n hg, this], .inr ⟨rfl, rfl, rfl⟩⟩
theorem y0 {b off : Nat} {arr : Array Value} {el : TypeId} {fz : Nat × Nat} (h : w.heap[b]? = some (.cells arr el fz)) (hj : off < arr.size) : w.cell? ⟨b, off, none⟩ = some (arr.getD off undef) := by
 simp [World.cell?, h, hj, Array.getD_eq_getD_getElem?]
theorem LRel.ldv {g : Bool} {n off : Nat} {xs : List V} {c : Value} {cell : Nat -> Value} (hl : off + n <= xs.length) (hrel : ∀ j, j < n -> VRel St m L w (xs.getD (off + j) .any) (cell j))
  (hc : (g = true /\ ∃ cs : Array Value, c = .agg cs /\ cs.size = n /\ ∀ j, j < n -> cs.getD j undef = cell j) \/ (g = false /\ n = 1 /\ c = cell 0)) : VRel St m L w (ldv g n off xs) c := by
 rcases hc with ⟨rfl, cs, rfl, hs, hcs⟩ | ⟨rfl, rfl, rfl⟩
 ·refine .agg (by simp; omega) λj hj => ?_
  have hj' : j < n := by simp at hj; omega
  have e1 : ((xs.drop off).take n).getD j .any = xs.getD (off + j) .any := by simp [d2d, hj']
  rw [e1, hcs j hj']; exact hrel j hj'
 ·have := hrel 0 (by omega)
  simpa [Ab.ldv] using this
theorem c0B {o : Oper} {a : Act} {s : S} {K : V -> Heap -> Prop} (nm : Nat) (t : TypeId) (x : Operand) (n : Nat) (g : Bool) (hn : szT P t = some n) (hg : aggT P t = some g) (h1 : g = true \/ n = 1)
  (hop : o.op = .load t x) (hs : SimS St m s a w) (hk : eff P nm (.load (Opd.of x) n g) s K) : ∃ v L' c w', (execOp a.eval o).run P w = .ok (.value c) w' /\ K v L' /\ Post St m s.L w v L' c w' := by
 have hx := n9 hs x
 simp only [eff, effC] at hk
 have fin : ∀ b off v c, a.eval x = .pointer (some ⟨b, off, none⟩) -> (loadVar t ⟨b, off, none⟩).run P w = .ok c w -> K v s.L -> VRel St m s.L w v c -> ∃ v L' c w', (execOp a.eval o).run P w = .ok (.value c) w' /\ K v L' /\ Post St m s.L w v L' c w' := by
  intro b off v c hc hr hk hv
  refine ⟨v, s.L, c, w, ?_, hk, (Same.refl w).post hs.objs hv⟩
  simp only [execOp, hop, hc]
  simp [Instr.loadAt, Instr.sureAddr, hr]
 split at hk
 ·rename_i cells h; rw [h] at hx
  obtain ⟨blk, off, cell, hc, hst, q1, q2⟩ := hx.bptr
  obtain ⟨⟨hle, h0⟩, hk⟩ := hk
  obtain ⟨c, hr, hcc⟩ := a4J (P := P) (w := w) hg hn h1 h0 blk off cell (λj hj => q1 j (by omega))
  refine fin _ _ _ c hc hr hk (LRel.ldv (by simp; omega) (λj hj => ?_) hcc)
  have := q2 j (by omega)
  have e : (cells.map V.d).getD (0 + j) .any = .d (cells.getD j default) := by
   have : j < cells.length := by omega
   simp [d2d, this]
  rw [e]; exact .d this
 ·rename_i X r off ver h; rw [h] at hx
  split at hk
  case h_2 => exact hk.elim
  rename_i cells hL
  obtain ⟨cells', ad, hL', hver, hc, hf⟩ := hx.ptr'
  rw [hL] at hL'; cases hL'
  obtain ⟨⟨he, hle, h0⟩, hk⟩ := hk
  obtain ⟨b, C, hm, rfl⟩ := hf he
  obtain ⟨p1, p2, arr, el, p3, p4, p5, p6⟩ := hs.objs.obj X r cells b C hL hm
  obtain ⟨c, hr, hcc⟩ := a4J (P := P) (w := w) hg hn h1 h0 b off (λj => arr.getD (off + j) undef) (λj hj => y0 p3 (by omega))
  exact fin _ _ _ c hc hr hk (LRel.ldv hle (λj hj => p6 _ (by omega)) hcc)
 ·exact hk.elim
end
end Go.Ab
namespace Go.Ab
open Go
section
variable {P : Program} {St : Nat -> Prop} {m : Map} {L : Heap} {w w' : World}
theorem b2G {v : V} {c : Value} (h : VRel St m L w v c) (hv : v.isCell = true) : c.oneCell' = true := by
 cases h with
 | d h => cases h <;> rfl
 | ptr _ _ _ hc _ => subst hc; rfl
 | sl _ _ _ _ hc _ _ _ => subst hc; rfl
 | nil => rfl
 | fn _ _ _ _ => rfl
 | any c => simp [V.isCell] at hv
 | agg _ _ => simp [V.isCell] at hv
 | tup _ _ => simp [V.isCell] at hv
theorem b3z {b off : Nat} {arr : Array Value} {el : TypeId} (h : w.heap[b]? = some (.cells arr el (0, 0))) (c : Value) :
  Wrote w (w.setCell ⟨b, off, none⟩ c) b (arr.setIfInBounds off c) el := by
 have hb : b < w.heap.size := by
  rcases Nat.lt_or_ge b w.heap.size with h' | h'
  ·exact h'
  ·rw [Array.getElem?_eq_none h'] at h; cases h
 refine ⟨by simp [World.setCell], ?_, λx hx => ?_, rfl, rfl, rfl⟩
 ·simp only [World.setCell, Array.getElem?_modify, if_true, h]; simp
 ·simp only [World.setCell, Array.getElem?_modify]; rw [if_neg (Ne.symm hx)]
theorem Wrote.trans {w1 w2 w3 : World} {b : Nat} {a1 a2 : Array Value} {e1 e2 : TypeId} (h : Wrote w1 w2 b a1 e1) (k : Wrote w2 w3 b a2 e2) : Wrote w1 w3 b a2 e2 :=
 ⟨k.size.trans h.size, k.self, λx hx => (k.other x hx).trans (h.other x hx), k.os.trans h.os, k.tape.trans h.tape, k.output.trans h.output⟩
theorem c3V {b off : Nat} {arr : Array Value} {el : TypeId} (h : w.heap[b]? = some (.cells arr el (0, 0))) : w.frozen? ⟨b, off, none⟩ = false := by
 simp [World.frozen?, h]
def a1u (cs : Array Value) (off : Nat) : List Value -> Array Value
 | [] => cs
 | v :: vs => a1u (cs.setIfInBounds off v) (off + 1) vs
theorem a2k (vs : List Value) : ∀ (cs : Array Value) (off : Nat), (a1u cs off vs).size = cs.size := by
 induction vs with
 | nil => intro cs off; rfl
 | cons v vs ih => intro cs off; simp [a1u, ih]
theorem a0q (b off : Nat) (el : TypeId) : ∀ (vs : List Value) (i : Nat) (w : World) (arr : Array Value), w.heap[b]? = some (.cells arr el (0, 0)) -> off + i + vs.length <= arr.size -> (∀ v ∈ vs, v.oneCell' = true) ->
  ∃ w', (storeCells ⟨b, off, none⟩ vs i).run P w = .ok () w' /\ Wrote w w' b (a1u arr (off + i) vs) el := by
 intro vs
 induction vs with
 | nil =>
  intro i w arr h _ _
  exact ⟨w, rfl, rfl, h, λ_ _ => rfl, rfl, rfl, rfl⟩
 | cons v vs ih =>
  intro i w arr h hlen hone
  simp only [List.length_cons] at hlen
  have h1 := b3z (off := off + i) h v
  obtain ⟨w', hr, hw⟩ := ih (i + 1) _ _ h1.self (by simp; omega) (λu hu => hone u (by simp [hu]))
  have hst : (store (Addr.add ⟨b, off, none⟩ i) v).run P w = .ok () (w.setCell ⟨b, off + i, none⟩ v) := by
   rw [G4, run_store P w _ v .plain (hone v (by simp))]
   have hc := y0 (w := w) (off := off + i) h (by omega)
   simp [hc, c3V h]
  refine ⟨w', ?_, h1.trans hw⟩
  simp only [storeCells, Sem.run_bind, hst, Result.andThen]
  exact hr
theorem PRel.set {xs : List V} {cs : Array Value} (h : PRel St m L w xs cs) {v : V} {c : Value} (hv : VRel St m L w v c) (i : Nat) : PRel St m L w (xs.set i v) (cs.setIfInBounds i c) := by
 refine ⟨by simpa using h.1, λj hj => ?_⟩
 have hj' : j < xs.length := by simpa using hj
 have hj2 : j < cs.size := Nat.lt_of_lt_of_le hj' h.1
 by_cases e : i = j
 ·subst e
  have h1 : (xs.set i v).getD i .any = v := by simp [d2d, hj']
  have h2 : (cs.setIfInBounds i c).getD i undef = c := by simp [Array.getD_eq_getD_getElem?, hj2]
  rw [h1, h2]; exact hv
 ·have h1 : (xs.set i v).getD j .any = xs.getD j .any := by simp [d2d, e]
  have h2 : (cs.setIfInBounds i c).getD j undef = cs.getD j undef := by simp [Array.getD_eq_getD_getElem?, e]
  rw [h1, h2]; exact h.2 j hj'
theorem a6Q : ∀ (vs : List Value) (ys : List V) (off : Nat) (xs : List V) (cs : Array Value), PRel St m L w xs cs -> LRel St m L w ys vs.toArray -> PRel St m L w (t6 xs off ys) (a1u cs off vs) := by
 intro vs
 induction vs with
 | nil =>
  intro ys off xs cs h hy
  have : ys = [] := by simpa using hy.1.symm
  subst this; exact h
 | cons c vs ih =>
  intro ys off xs cs h hy
  cases ys with
  | nil => have := hy.1; simp at this
  | cons v ys =>
   obtain ⟨hv, hys⟩ := hy.cons
   exact ih ys (off + 1) _ _ (h.set hv _) hys
theorem B5 : ∀ (ys : List V) (xs : List V) (off : Nat), (t6 xs off ys).length = xs.length := by
 intro ys
 induction ys with
 | nil => intro xs off; rfl
 | cons y ys ih => intro xs off; simp [t6, ih]
theorem c89 {ys : List V} {cs : Array Value} (h : LRel St m L w ys cs) (hc : ys.all V.isCell = true) : ∀ v ∈ cs.toList, v.oneCell' = true := by
 intro v hv
 obtain ⟨j, hj, rfl⟩ := List.mem_iff_getElem.1 hv
 have hj1 : j < cs.size := by simpa using hj
 have hj2 : j < ys.length := by rw [<- h.1]; exact hj1
 have h1 := h.2 j hj2
 have h2 : (ys.getD j .any).isCell = true := by
  rw [d2d, d2f hj2]
  exact List.all_eq_true.1 hc _ (List.getElem_mem hj2)
 have := b2G h1 h2
 simpa [Array.getD_eq_getD_getElem?, hj1] using this
theorem a7Z {v : V} (h : (cellsOf v).all V.isCell = true) : v.okPart = true := by
 cases v <;> simp_all [cellsOf, V.isCell, V.okPart]
theorem b68 {o : Oper} {a : Act} {s : S} {K : V -> Heap -> Prop} (nm : Nat) (t : TypeId) (p x : Operand) (n : Nat) (hn : szT P t = some n)
  (hop : o.op = .store t p x) (hs : SimS St m s a w) (hk : eff P nm (.store (Opd.of p) (Opd.of x) n) s K) : ∃ v L' w', (execOp a.eval o).run P w = .ok .skip w' /\ K v L' /\ Post St m s.L w v L' undef w' := by
 have hp := n9 hs p
 have hx := n9 hs x
 simp only [eff, effC] at hk
 split at hk
 case h_2 => exact hk.elim
 rename_i X r off ver h; rw [h] at hp
 split at hk
 case h_2 => exact hk.elim
 rename_i cells hL
 obtain ⟨cells', ad, hL', hver, hc, hf⟩ := hp.ptr'
 rw [hL] at hL'; cases hL'
 obtain ⟨⟨he, hle, hlen, hcell⟩, hk⟩ := hk
 obtain ⟨b, C, hm, rfl⟩ := hf he
 obtain ⟨p1, p2, arr, el, p3, p4, p5, p6⟩ := hs.objs.obj X r cells b C hL hm
 have hxc := a2v hx (a7Z hcell)
 have hsz : (a.eval x).cells.size = n := by rw [hxc.1, hlen]
 obtain ⟨w', hr, hw⟩ := a0q (P := P) b off el (a.eval x).cells.toList 0 w arr p3 (by simp [hsz]; omega) (c89 hxc hcell)
 refine ⟨_, _, w', ?_, hk, ?_⟩
 ·simp only [execOp, hop, hc]
  simp [Instr.storeAt, Instr.sureAddr, storeVar, a2m hn, hsz, hr]
 ·have hpre : PRel St m s.L w (t6 cells off (cellsOf (s.ev (Opd.of x)))) (a1u arr (off + 0) (a.eval x).cells.toList) := a6Q _ _ _ _ _ ⟨by omega, p6⟩ (by simpa using hxc)
  obtain ⟨h1, h2, h3, h4⟩ := hs.objs.wrote hL hm (by rw [B5]; exact d2t _) hw (by rw [a2k]; exact p4) hpre
  exact ⟨St, m, h1, .any _, h3, h2, λ_ h => .inl h, h4⟩
theorem a5R (ho : Objs St m L w) {X : Nat} (hX : L.fam X = none) {cells : List V} {arr : Array Value} {el : TypeId} (hc : PRel St m L w cells arr) (v : V) (c : Value)
  (hv : VRel St (m.set X 0 w.heap.size arr.size) (L.ins X [cells]) { w with heap := w.heap.push (.cells arr el (0, 0)) } v c) : Post St m L w v (L.ins X [cells]) c { w with heap := w.heap.push (.cells arr el (0, 0)) } := by
 obtain ⟨h1, h2, h3, h4⟩ := ho.made (w' := { w with heap := w.heap.push (.cells arr el (0, 0)) }) hX rfl rfl rfl rfl hc
 exact ⟨St, _, h1, hv, h3, h2, λ_ h => .inl h, h4⟩
theorem b8m {o : Oper} {a : Act} {s : S} {K : V -> Heap -> Prop} (nm : Nat) (t : TypeId) (it : TypeInfo) (z : Value) (hi : P.info? t = some it) (hz : it.zero = some z)
  (hop : o.op = .alloc t) (hs : SimS St m s a w) (hk : eff P nm (.alloc (z.cells.toList.map Value.toV) t) s K) : ∃ v L' c w', (execOp a.eval o).run P w = .ok (.value c) w' /\ K v L' /\ Post St m s.L w v L' c w' := by
 simp only [eff, effC] at hk
 obtain ⟨hX, _, hk⟩ := hk
 have hc : LRel St m s.L w (z.cells.toList.map Value.toV) z.cells := a9j z.cells
 refine ⟨_, _, .pointer (some ⟨w.heap.size, 0, none⟩), { w with heap := w.heap.push (.cells z.cells t (0, 0)) }, ?_, hk, a5R hs.objs hX hc.pre _ _ (.ptr (J0 hX) (by simp) _ rfl λ_ => ⟨w.heap.size, z.cells.size, by simp [Map.set], rfl⟩)⟩
 simp only [execOp, hop]
 simp [Instr.alloc, zeroValue, typeInfo, hi, hz, newVar, newRow]
theorem c4p {o : Oper} {a : Act} {s : S} {K : V -> Heap -> Prop} (nm : Nat) (t : TypeId) (x : Operand) (n : Nat)
  (hop : o.op = .box t x) (hs : SimS St m s a w) (hk : eff P nm (.box (Opd.of x) n t) s K) : ∃ v L' c w', (execOp a.eval o).run P w = .ok (.value c) w' /\ K v L' /\ Post St m s.L w v L' c w' := by
 have hx := n9 hs x
 simp only [eff, effC] at hk
 obtain ⟨hX, ⟨hlen, hcell, h0⟩, hk⟩ := hk
 have hxc := a2v hx (a7Z hcell)
 refine ⟨_, _, .pointer (some ⟨w.heap.size, 0, none⟩), { w with heap := w.heap.push (.cells (a.eval x).cells t (0, 0)) }, ?_, hk, a5R hs.objs hX hxc.pre _ _ (.ptr (J0 hX) (by omega) _ rfl λ_ => ⟨w.heap.size, (a.eval x).cells.size, by simp [Map.set], rfl⟩)⟩
 simp only [execOp, hop]
 simp [Instr.box, newVar, newRow]
end
end Go.Ab
