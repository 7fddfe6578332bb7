import Derived.Test.YtponkmbigjmmoaaGreatGB
import Derived.Laws.Small
namespace Go.Ab
set_option linter.unusedSimpArgs false
set_option linter.unusedVariables false
open Go
def LRel (St : Nat -> Prop) (m : Map) (L : Heap) (w : World) (xs : List V) (cs : Array Value) : Prop :=
 cs.size = xs.length /\ ∀ j, j < xs.length -> VRel St m L w (xs.getD j .any) (cs.getD j undef)
section
variable {St : Nat -> Prop} {m : Map} {L : Heap} {w : World}
theorem LRel.nil : LRel St m L w [] #[] := ⟨rfl, λj hj => by simp at hj⟩
theorem LRel.one {v : V} {c : Value} (h : VRel St m L w v c) : LRel St m L w [v] #[c] :=
  ⟨rfl, fun j hj => by have : j = 0 := by simpa using hj
                       subst this; simpa using h⟩
theorem LRel.agg {xs : List V} {cs : Array Value} (h : LRel St m L w xs cs) : VRel St m L w (.agg xs) (.agg cs) := .agg h.1 h.2
theorem LRel.set {xs : List V} {cs : Array Value} (h : LRel St m L w xs cs) {v : V} {c : Value} (hv : VRel St m L w v c) (i : Nat) :
  LRel St m L w (xs.set i v) (cs.setIfInBounds i c) := by
 refine ⟨by simp [h.1], λj hj => ?_⟩
 have hj' : j < xs.length := by simpa using hj
 have hj2 : j < cs.size := by rw [h.1]; exact hj'
 by_cases e : i = j
 ·subst e
  have h1 : (xs.set i v).getD i .any = v := by simp [d2d, hj']
  have h2 : (cs.setIfInBounds i c).getD i undef = c := by simp [Array.getD_eq_getD_getElem?, hj2]
  rw [h1, h2]; exact hv
 ·have h1 : (xs.set i v).getD j .any = xs.getD j .any := by simp [d2d, e]
  have h2 : (cs.setIfInBounds i c).getD j undef = cs.getD j undef := by simp [Array.getD_eq_getD_getElem?, e]
  rw [h1, h2]; exact h.2 j hj'
theorem LRel.cons {v : V} {xs : List V} {c : Value} {cs : List Value} (h : LRel St m L w (v :: xs) (c :: cs).toArray) : VRel St m L w v c /\ LRel St m L w xs cs.toArray := by
 refine ⟨by simpa using h.2 0 (by simp), by simpa using h.1, λj hj => ?_⟩
 have := h.2 (j + 1) (by simpa using hj)
 simpa [d2d] using this
theorem b9Z (off : Nat) : ∀ (vs : List Value) (ys : List V) (k : Nat) (xs : List V) (cs : Array Value), LRel St m L w xs cs -> LRel St m L w ys vs.toArray ->
  LRel St m L w (t6 xs (off + k) ys) ((vs.zipIdx k).foldl (λcs p => cs.setIfInBounds (off + p.2) p.1) cs) := by
 intro vs
 induction vs with
 | nil =>
  intro ys k xs cs h hy
  have : ys = [] := by simpa using hy.1.symm
  subst this; exact h
 | cons c vs ih =>
  intro ys k xs cs h hy
  cases ys with
  | nil => have := hy.1; simp at this
  | cons v ys =>
   obtain ⟨hv, hys⟩ := hy.cons
   simp only [t6, List.zipIdx_cons, List.foldl_cons]
   exact ih ys (k + 1) _ _ (h.set hv _) hys
theorem c4k {v : V} {c : Value} (h : VRel St m L w v c) (hv : (cellsOf v).all V.isCell = true \/ ∃ xs, v = .agg xs) : LRel St m L w (cellsOf v) c.cells := by
 cases h with
 | agg h1 h => exact ⟨h1, h⟩
 | d h => cases h <;> exact .one (.d (by first | assumption | constructor <;> assumption))
 | any c => simp [cellsOf, V.isCell] at hv
 | nil => exact .one .nil
 | ptr hL hvv ad hc h => subst hc; exact .one (.ptr hL hvv ad rfl h)
 | sl hL hvv a cap hc hn ha h => subst hc; exact .one (.sl hL hvv a cap rfl hn ha h)
 | fn h1 h2 h3 h4 => exact .one (.fn h1 h2 h3 h4)
 | tup h1 h => simp [cellsOf, V.isCell] at hv
theorem a2v {v : V} {c : Value} (h : VRel St m L w v c) (hv : v.okPart = true) : LRel St m L w (cellsOf v) c.cells := by
 refine c4k h ?_
 cases v <;> simp_all [V.okPart, cellsOf, V.isCell]
theorem b9d (place : Nat -> Option (Nat × Nat)) : ∀ (ps : List (Nat × Value)) (qs : List (Nat × Nat × V)) (xs : List V) (cs : Array Value) (xs' : List V), LRel St m L w xs cs ->
  fillV xs qs = some xs' -> ps.length = qs.length ->
  (∀ j (h1 : j < ps.length) (h2 : j < qs.length), place ps[j].1 = some (qs[j].1, qs[j].2.1) /\ VRel St m L w qs[j].2.2 ps[j].2) ->
  ∃ cs', Instr.fill place cs ps = some cs' /\ LRel St m L w xs' cs' := by
 intro ps
 induction ps with
 | nil =>
  intro qs xs cs xs' h hf hl _
  have : qs = [] := by simpa using hl.symm
  subst this
  simp only [fillV, Option.some.injEq] at hf
  subst hf
  exact ⟨cs, rfl, h⟩
 | cons p ps ih =>
  intro qs xs cs xs' h hf hl hp
  cases qs with
  | nil => simp at hl
  | cons q qs =>
   obtain ⟨off, n, v⟩ := q
   obtain ⟨i, c⟩ := p
   obtain ⟨h0, hv⟩ := hp 0 (by simp) (by simp)
   simp only [List.getElem_cons_zero] at h0 hv
   simp only [fillV] at hf
   split at hf
   case isFalse => simp at hf
   rename_i hc
   obtain ⟨hn, hoff, hok⟩ := hc
   have hcl := a2v hv hok
   have hsz : c.cells.size = n := by rw [hcl.1, hn]
   simp only [Instr.fill, h0]
   have hcond : (c.cells.size ≠ n || off + c.cells.size > cs.size) = false := by
    simp [hsz, h.1]; omega
   rw [hcond]
   simp only [Bool.false_eq_true, if_false]
   have hfold : c.cells.zipIdx.foldl (λcs x => cs.setIfInBounds (off + x.2) x.1) cs = (c.cells.toList.zipIdx 0).foldl (λcs p => cs.setIfInBounds (off + p.2) p.1) cs := by
    rw [<- Array.foldl_toList, Array.toList_zipIdx]
   have hs := b9Z (St := St) (m := m) (L := L) (w := w) off c.cells.toList (cellsOf v) 0 xs cs h (by simpa using hcl)
   rw [<- hfold] at hs
   exact ih qs _ _ xs' (by simpa using hs) hf (by simpa using hl) (λj h1 h2 => hp (j + 1) (Nat.succ_lt_succ h1) (Nat.succ_lt_succ h2))
end
def HOk (P : Program) (St : Nat -> Prop) (m : Map) (L : Heap) (a : Act) (o : Oper) (w : World) (K : V -> Prop) : Prop :=
 ∃ v c w', (execOp a.eval o).run P w = .ok (.value c) w' /\ Same w w' /\ K v /\ VRel St m L w' v c
theorem HOk.mk {P : Program} {St : Nat -> Prop} {m : Map} {L : Heap} {a : Act} {o : Oper} {w : World} {K : V -> Prop} (v : V) (c : Value)
  (hr : (execOp a.eval o).run P w = .ok (.value c) w) (hk : K v) (hv : VRel St m L w v c) : HOk P St m L a o w K := ⟨v, c, w, hr, .refl w, hk, hv⟩
section
variable {P : Program} {St : Nat -> Prop} {m : Map} {s : S} {a : Act} {o : Oper} {w : World} {K : V -> Prop}
theorem d0s (x : Operand) (ho : o.op = .move x \/ o.op = .assign x) (hs : SimS St m s a w) (hk : K (s.ev (Opd.of x))) : HOk P St m s.L a o w K := by
 refine .mk _ (a.eval x) ?_ hk (n9 hs x)
 rcases ho with ho | ho <;> simp only [execOp, ho] <;> rfl
theorem d0q (c x y : Operand) (ho : o.op = .pick c x y) (hs : SimS St m s a w) (hk : hv (.pick (Opd.of c) (Opd.of x) (Opd.of y)) s.ev K) : HOk P St m s.L a o w K := by
 have hc := n9 hs c
 simp only [hv] at hk
 split at hk
 ·rename_i t ht
  rw [ht] at hc
  have hc := hc.bool
  cases t
  ·refine .mk _ (a.eval y) ?_ (hk.2 rfl) (n9 hs y)
   simp only [execOp, ho, hc]; rfl
  ·refine .mk _ (a.eval x) ?_ (hk.1 rfl) (n9 hs x)
   simp only [execOp, ho, hc]; rfl
 ·exact hk.elim
theorem c8R (x : Operand) (ho : o.op = .nilCheck x) (hs : SimS St m s a w) (hk : hv (.nilck (Opd.of x)) s.ev K) : HOk P St m s.L a o w K := by
 have hx := n9 hs x
 simp only [hv] at hk
 have go : ∀ c, a.eval x = c -> (match c with | .pointer none | .nilIface | .nilFunc => False | .func (.method _) _ _ => False | _ => True) -> K (s.ev (Opd.of x)) -> HOk P St m s.L a o w K := by
  intro c hc hcc hk
  refine .mk _ c ?_ hk (hc ▸ hx)
  simp only [execOp, ho, hc]
  split
  ·exact hcc.elim
  ·exact hcc.elim
  ·exact hcc.elim
  ·exact hcc.elim
  ·rfl
 split at hk
 ·rename_i h; rw [h] at hx; obtain ⟨_, ad, _, _, hc, _⟩ := hx.ptr'
  exact go _ hc trivial (h ▸ hk)
 ·rename_i h; rw [h] at hx; obtain ⟨_, _, _, hc, _⟩ := hx.bptr
  exact go _ hc trivial (h ▸ hk)
 ·rename_i h; rw [h] at hx; obtain ⟨_, _, hc, _⟩ := hx.fn'
  exact go _ hc trivial (h ▸ hk)
 ·rename_i h; rw [h] at hx; obtain ⟨_, _, hc, _⟩ := hx.dfn
  exact go _ hc trivial (h ▸ hk)
 ·exact hk.elim
theorem a9E (op : BinOp) (t : TypeId) (x y : Operand) (k k' : IntKind) (n n' : Int) : (eqGuard op t x y (.int k n) (.int k' n')).run P w = .ok () w := by
 cases op <;> rfl
theorem N5 (op : BinOp) (t : TypeId) (x y : Operand) (k k' : FloatKind) (n n' : Nat) : (eqGuard op t x y (.float k n) (.float k' n')).run P w = .ok () w := by
 cases op <;> rfl
theorem a8H (op : BinOp) (t : TypeId) (x y : Operand) (n n' : Bool) : (eqGuard op t x y (.bool n) (.bool n')).run P w = .ok () w := by
 cases op <;> rfl
theorem d0w (op : BinOp) (t u : TypeId) (x y : Operand) (ho : o.op = .binOp op t x y u) (hs : SimS St m s a w) (hk : hv (.ibin op (Opd.of x) (Opd.of y)) s.ev K) : HOk P St m s.L a o w K := by
 have hx := n9 hs x
 have hy := n9 hs y
 simp only [hv] at hk
 split at hk
 case h_2 => exact hk.elim
 rename_i k p k' q h1 h2
 rw [h1] at hx; rw [h2] at hy
 have hx := hx.int
 have hy := hy.int
 have run : ∀ c, (binOp op t (.int k p) (.int k' q)).run P w = .ok c w -> (execOp a.eval o).run P w = .ok (.value c) w := by
  intro c hc
  simp only [execOp, ho, hx, hy]
  simp [a9E, hc]
 have fin : ∀ (z : D) (c : Value), (binOp op t (.int k p) (.int k' q)).run P w = .ok c w -> K (.d z) -> DRel St w z c -> HOk P St m s.L a o w K := λz c hc hk hd => .mk (.d z) c (run c hc) hk (.d hd)
 cases op with
 | shl => obtain ⟨hb, hk⟩ := hk; exact fin _ _ (by simp [binOp, Op.shift, Int.not_lt.2 hb]) hk (.int _ _)
 | shr => obtain ⟨hb, hk⟩ := hk; exact fin _ _ (by simp [binOp, Op.shift, Int.not_lt.2 hb]) hk (.int _ _)
 | add => obtain ⟨rfl, hk⟩ := hk; exact fin _ _ (by simp [binOp, Op.intArith]) hk (.int _ _)
 | sub => obtain ⟨rfl, hk⟩ := hk; exact fin _ _ (by simp [binOp, Op.intArith]) hk (.int _ _)
 | mul => obtain ⟨rfl, hk⟩ := hk; exact fin _ _ (by simp [binOp, Op.intArith]) hk (.int _ _)
 | quo => obtain ⟨rfl, hb, hk⟩ := hk; exact fin _ _ (by simp [binOp, Op.intDiv, hb]) hk (.int _ _)
 | rem => obtain ⟨rfl, hb, hk⟩ := hk; exact fin _ _ (by simp [binOp, Op.intDiv, hb]) hk (.int _ _)
 | and => obtain ⟨rfl, hk⟩ := hk; exact fin _ _ (by show (if k ≠ k then _ else _ : Sem Value).run P w = _; rw [if_neg (by simp)]; rfl) hk (.int _ _)
 | or => obtain ⟨rfl, hk⟩ := hk; exact fin _ _ (by show (if k ≠ k then _ else _ : Sem Value).run P w = _; rw [if_neg (by simp)]; rfl) hk (.int _ _)
 | xor => obtain ⟨rfl, hk⟩ := hk; exact fin _ _ (by show (if k ≠ k then _ else _ : Sem Value).run P w = _; rw [if_neg (by simp)]; rfl) hk (.int _ _)
 | andNot => obtain ⟨rfl, hk⟩ := hk; exact fin _ _ (by show (if k ≠ k then _ else _ : Sem Value).run P w = _; rw [if_neg (by simp)]; rfl) hk (.int _ _)
 | eql => obtain ⟨rfl, hk⟩ := hk; exact fin _ _ (by simp [binOp, Op.intCmp]) hk (.bool _)
 | neq => obtain ⟨rfl, hk⟩ := hk; exact fin _ _ (by simp [binOp, Op.intCmp]) hk (.bool _)
 | lss => obtain ⟨rfl, hk⟩ := hk; exact fin _ _ (by simp [binOp, Op.intCmp]) hk (.bool _)
 | leq => obtain ⟨rfl, hk⟩ := hk; exact fin _ _ (by simp [binOp, Op.intCmp]) hk (.bool _)
 | gtr => obtain ⟨rfl, hk⟩ := hk; exact fin _ _ (by simp [binOp, Op.intCmp]) hk (.bool _)
 | geq => obtain ⟨rfl, hk⟩ := hk; exact fin _ _ (by simp [binOp, Op.intCmp]) hk (.bool _)
theorem a9V (t : Nat) : j7 (Question.cut (.nanBits .f64 0 0) t) = true /\ Question.cut (.nanBits .f64 0 0) t < 2 ^ 64 := by
 have e : Question.cut (.nanBits .f64 0 0) t = (t % 2) * 9223372036854775808 + 9218868437227405312 + 1 + (t / 2) % 4503599627370495 := by simp [Question.cut]
 have h1 : t % 2 < 2 := Nat.mod_lt _ (by decide)
 have h2 : t / 2 % 4503599627370495 < 4503599627370495 := Nat.mod_lt _ (by decide)
 rw [e]
 clear e
 revert h1 h2
 generalize t % 2 = u
 generalize t / 2 % 4503599627370495 = v
 intro h1 h2
 refine ⟨?_, by omega⟩
 unfold j7
 rw [decide_eq_true_iff]
 have h3 : (u * 9223372036854775808 + 9218868437227405312 + 1 + v) % 9223372036854775808 = 9218868437227405312 + 1 + v := by
  rw [show u * 9223372036854775808 + 9218868437227405312 + 1 + v = 9218868437227405312 + 1 + v + 9223372036854775808 * u from by omega, Nat.add_mul_mod_self_left]
  exact Nat.mod_eq_of_lt (by omega)
 omega
theorem d0y (op : BinOp) (f : FOp) (t u : TypeId) (x y : Operand) (hop : c0Z op = some (.inl f)) (ho : o.op = .binOp op t x y u) (hs : SimS St m s a w) (hk : hv (.fbin f (Opd.of x) (Opd.of y)) s.ev K) : HOk P St m s.L a o w K := by
 have hx := n9 hs x
 have hy := n9 hs y
 simp only [hv] at hk
 split at hk
 case h_2 => exact hk.elim
 rename_i p q h1 h2
 rw [h1] at hx; rw [h2] at hy
 obtain ⟨b, hb, hcb, hx'⟩ := hx.flt
 obtain ⟨d, hd, hcd, hy'⟩ := hy.flt
 have key : ∀ r : Option Nat, (∀ v, r = some v -> v < 2 ^ 64) -> (binOp op t (.float .f64 b) (.float .f64 d)).run P w = (match r with | some v => .ok (.float .f64 v) w | none => .ok (.float .f64 (Question.cut (.nanBits .f64 0 0) (w.tape w.drawn (.nanBits .f64 b d)))) { w with drawn := w.drawn + 1 }) ->
   fop f p q = (r.map cf).getD qnan -> HOk P St m s.L a o w K := by
  intro r hlt hr hf
  cases r with
  | some v =>
   refine .mk _ (.float .f64 v) ?_ hk (.d (.flt (hlt v rfl) ?_))
   ·simp only [execOp, ho, hx', hy']; simp [N5, hr]
   ·simpa using hf.symm
  | none =>
   refine ⟨_, .float .f64 (Question.cut (.nanBits .f64 0 0) (w.tape w.drawn (.nanBits .f64 b d))), { w with drawn := w.drawn + 1 }, ?_, .drew _ _, hk, .d (.flt (a9V _).2 ?_)⟩
   ·simp only [execOp, ho, hx', hy']; simp [N5, hr]
   ·rw [a7Y (a9V _).1]; simpa using hf.symm
 have fin : ∀ r : Option Nat, (∀ v, r = some v -> v < 2 ^ 64) -> (∀ k : FloatKind, True) -> (Op.floatArith op .f64 b d).run P w = (match r with | some v => .ok (.float .f64 v) w | none => .ok (.float .f64 (Question.cut (.nanBits .f64 0 0) (w.tape w.drawn (.nanBits .f64 b d)))) { w with drawn := w.drawn + 1 }) -> fop f p q = (r.map cf).getD qnan -> HOk P St m s.L a o w K := by
  intro r hlt _ hr hf
  refine key r hlt ?_ hf
  rw [<- hr]
  cases op <;> simp [c0Z] at hop <;> simp [binOp]
 have frun : ∀ r : Option Nat, (do match r with | some r => pure (.float .f64 r) | none => pure (.float .f64 (<- choose (.nanBits .f64 b d))) : Sem Value).run P w = (match r with | some v => .ok (.float .f64 v) w | none => .ok (.float .f64 (Question.cut (.nanBits .f64 0 0) (w.tape w.drawn (.nanBits .f64 b d)))) { w with drawn := w.drawn + 1 }) := by
  intro r
  cases r with
  | some v => rfl
  | none => rfl
 subst hcb hcd
 cases op <;> simp only [c0Z, Option.some.injEq, Sum.inl.injEq, reduceCtorEq] at hop <;> subst hop
 ·exact fin (Ieee.double.add b d) (λv hv => by have := Ieee.Format.add_lt _ hv; simpa [Ieee.Format.width, Ieee.double] using this) (λ_ => trivial) (by simp only [Op.floatArith]; rw [<- frun]; rfl) (by simp only [fop, d01])
 ·exact fin (Ieee.double.sub b d) (λv hv => by have := Ieee.Format.sub_lt _ hv; simpa [Ieee.Format.width, Ieee.double] using this) (λ_ => trivial) (by simp only [Op.floatArith]; rw [<- frun]; rfl) (by simp only [fop, c9M])
 ·exact fin (Ieee.double.mul b d) (λv hv => by have := Ieee.Format.mul_lt _ hv; simpa [Ieee.Format.width, Ieee.double] using this) (λ_ => trivial) (by simp only [Op.floatArith]; rw [<- frun]; rfl) (by simp only [fop, c97])
 ·exact fin (Ieee.double.div b d) (λv hv => by have := Ieee.Format.div_lt _ hv; simpa [Ieee.Format.width, Ieee.double] using this) (λ_ => trivial) (by simp only [Op.floatArith]; rw [<- frun]; rfl) (by simp only [fop, d0H])
theorem d0x (op : BinOp) (f : FCmp) (t u : TypeId) (x y : Operand) (hop : c0Z op = some (.inr f)) (ho : o.op = .binOp op t x y u) (hs : SimS St m s a w) (hk : hv (.fcmp f (Opd.of x) (Opd.of y)) s.ev K) : HOk P St m s.L a o w K := by
 have hx := n9 hs x
 have hy := n9 hs y
 simp only [hv] at hk
 split at hk
 case h_2 => exact hk.elim
 rename_i p q h1 h2
 rw [h1] at hx; rw [h2] at hy
 obtain ⟨b, hb, hcb, hx'⟩ := hx.flt
 obtain ⟨d, hd, hcd, hy'⟩ := hy.flt
 subst hcb hcd
 refine .mk _ (.bool (Ab.fcmp f (cf b) (cf d))) ?_ hk (.d (.bool _))
 have e : ∀ x y : Nat, FloatKind.f64.format.order x y = Ieee.double.order x y := λ_ _ => rfl
 simp only [execOp, ho, hx', hy']
 cases op <;> simp only [c0Z, Option.some.injEq, Sum.inr.injEq, reduceCtorEq] at hop <;> subst hop <;> simp [N5, binOp, Op.floatCmp, Ab.fcmp, b3R, e]
theorem c7m (op : BinOp) (ne : Bool) (t u : TypeId) (x y : Operand) (hop : op = if ne then .neq else .eql) (hu : P.underlying t = some .bool) (ho : o.op = .binOp op t x y u) (hs : SimS St m s a w) (hk : hv (.bcmp ne (Opd.of x) (Opd.of y)) s.ev K) : HOk P St m s.L a o w K := by
 have hx := n9 hs x
 have hy := n9 hs y
 simp only [hv] at hk
 split at hk
 case h_2 => exact hk.elim
 rename_i p q h1 h2
 rw [h1] at hx; rw [h2] at hy
 have hx := hx.bool
 have hy := hy.bool
 refine .mk _ (.bool ((p == q) ^^ ne)) ?_ hk (.d (.bool _))
 simp only [execOp, ho, hx, hy]
 have he : (Op.equal t (.bool p) (.bool q)).run P w = .ok (p == q) w := run_equal_bool w t p q hu
 cases ne <;> simp only [hop, Bool.false_eq_true, if_true, if_false] <;> simp [a8H, binOp, he]
theorem b1w (op : BinOp) (t : TypeId) (x y : Operand) (a : Option Addr) (l c : Nat) (b : Option Addr) (l' c' : Nat) : (eqGuard op t x y (.slice a l c) (.slice b l' c')).run P w = .ok () w := by
 cases op <;> rfl
theorem a8G (d : Nat) (t e : TypeId) (a : Option Addr) (l c : Nat) (h : P.underlying t = some (.slice e)) : (Op.equalIn (d + 1) t (.slice a l c) (.slice none 0 0)).run P w = .ok a.isNone w := by
 cases a <;> simp [Op.equalIn, run_underlying h]
theorem b1v (t e : TypeId) (a : Option Addr) (l c : Nat) (h : P.underlying t = some (.slice e)) : (Op.equal t (.slice a l c) (.slice none 0 0)).run P w = .ok a.isNone w := a8G 9999 t e a l c h
theorem c91 {St : Nat -> Prop} {m : Map} {L : Heap} {w : World} {c : Value} (h : VRel St m L w .nil c) : c = .slice none 0 0 := by cases h; rfl
theorem c7k (op : BinOp) (ne : Bool) (t u e : TypeId) (x : Operand) (hop : op = if ne then .neq else .eql) (hu : P.underlying t = some (.slice e)) (ho : o.op = .binOp op t x (.const (.slice none 0 0)) u) (hs : SimS St m s a w) (hk : hv (.nilq ne (Opd.of x)) s.ev K) : HOk P St m s.L a o w K := by
 have hx := n9 hs x
 simp only [hv] at hk
 have go : ∀ (b : Option Addr) (l c : Nat) (r : Bool), a.eval x = .slice b l c -> b.isNone = r -> K (.d (.bool (r ^^ ne))) -> HOk P St m s.L a o w K := by
  intro b l c r hc hr hk
  refine .mk _ (.bool (r ^^ ne)) ?_ hk (.d (.bool _))
  have hy : a.eval (.const (.slice none 0 0)) = .slice none 0 0 := rfl
  have he : (Op.equal t (.slice b l c) (.slice none 0 0)).run P w = .ok r w := by rw [b1v t e b l c hu, hr]
  simp only [execOp, ho, hc, hy]
  cases ne <;> simp only [hop, Bool.false_eq_true, if_true, if_false] <;> simp [b1w, binOp, he]
 split at hk
 ·rename_i h; rw [h] at hx
  exact go _ _ _ true (c91 hx) rfl (by simpa using hk)
 ·rename_i n g h; rw [h] at hx
  obtain ⟨b, cap, hc, hb⟩ := hx.bor
  obtain ⟨blk, off, sz, cell, hb, _⟩ := hb hk.1
  exact go _ _ _ false hc (by rw [hb]; rfl) (by simpa using hk.2)
 ·rename_i h; rw [h] at hx
  obtain ⟨cells, b, cap, h1, h2, hc, h3, hb, h4⟩ := hx.sl'
  have hb := hb hk.1
  exact go _ _ _ false hc (by cases b <;> simp_all) (by simpa using hk.2)
 ·exact hk.elim
end
end Go.Ab
