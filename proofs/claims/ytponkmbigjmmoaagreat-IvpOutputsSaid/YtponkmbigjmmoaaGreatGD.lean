import Derived.Test.YtponkmbigjmmoaaGreatGC
import Derived.KernelRfl
set_option linter.unusedSimpArgs false
set_option linter.unusedVariables false
namespace Go.Ab
open Go
theorem G4 (b off n : Nat) : (Addr.add ⟨b, off, none⟩ n) = ⟨b, off + n, none⟩ := by
 unfold Addr.add; split
 ·rename_i h; subst h; rfl
 ·rfl
theorem a9U (neg : Bool) (mag : Nat) (place : Int) : j7 (Ieee.double.nearest neg mag place) = false := by
 have h2 : Ieee.double.signWeight = 9223372036854775808 := rfl
 have h3 : Ieee.double.infRung = 9218868437227405312 := rfl
 have key : ∀ (neg : Bool) (r : Nat), r <= 9218868437227405312 -> j7 (Ieee.double.word neg r) = false := by
  intro neg r hr
  unfold j7 Ieee.Format.word
  rw [h2, decide_eq_false_iff_not]
  cases neg
  ·simp only [Bool.false_eq_true, if_false]; omega
  ·simp only [if_true]; omega
 unfold Ieee.Format.nearest
 split
 ·exact key _ _ (by decide)
 ·dsimp only
  refine key _ _ ?_
  rw [h3]; exact Nat.min_le_right _ _
theorem b7C (n : Int) : FloatKind.nearest .f64 n < 2 ^ 64 := by
 have := Ieee.Format.nearest_lt Ieee.double (decide (n < 0)) n.natAbs 0
 simpa [FloatKind.nearest, FloatKind.encode, FloatKind.format, Ieee.Format.write, Ieee.Format.width, Ieee.double] using this
theorem c0v (n : Int) : cf (FloatKind.nearest .f64 n) = FloatKind.nearest .f64 n :=
 u7 (a9U (decide (n < 0)) n.natAbs 0)
theorem c7H (b : Nat) : (b ^^^ 9223372036854775808) % 9223372036854775808 = b % 9223372036854775808 := by
 have := @Nat.xor_mod_two_pow b 9223372036854775808 63
 simpa using this
theorem c3H (b : Nat) : j7 (b ^^^ 9223372036854775808) = j7 b := by unfold j7; rw [c7H]
theorem VRel.nil' {St : Nat -> Prop} {m : Map} {L : Heap} {w : World} {c : Value} (h : VRel St m L w .nil c) : c = .slice none 0 0 := by cases h; rfl
theorem c2Y : Extern.allNextRows.lookup "math.Float64bits" = none := by kernel_rfl
theorem b3V : Extern.allNextRows.lookup "math.Float64frombits" = none := by kernel_rfl
theorem b5N : Extern.allNextRows.lookup "" = none := by kernel_rfl
theorem c6k : Extern.allGenericRows.lookup "math.Float64bits" = none := by kernel_rfl
theorem b9T : Extern.allTypedRows.lookup "math.Float64bits" = none := by kernel_rfl
theorem c2j : Extern.allRows.lookup "math.Float64bits" = some Extern.MathFloatBits.float64bits := by kernel_rfl
theorem b56 : Extern.allGenericRows.lookup "math.Float64frombits" = none := by kernel_rfl
theorem b1r : Extern.allTypedRows.lookup "math.Float64frombits" = none := by kernel_rfl
theorem b3C : Extern.allRows.lookup "math.Float64frombits" = some Extern.MathFloatBits.float64frombits := by kernel_rfl
section
variable {P : Program} {St : Nat -> Prop} {m : Map} {s : S} {a : Act} {o : Oper} {w : World} {K : V -> Prop}
theorem h_un (op : UnOp) (t : TypeId) (x : Operand) (ho : o.op = .unOp op t x) (hs : SimS St m s a w) (hk : hv (.un op (Opd.of x)) s.ev K) : HOk P St m s.L a o w K := by
 have hx := n9 hs x
 simp only [hv] at hk
 split at hk
 ·rename_i h; rw [h] at hx
  refine .mk _ _ ?_ hk (.d (.int _ _))
  simp only [execOp, ho, hx.int]; simp [Op.unary, Op.intArith]
 ·rename_i h; rw [h] at hx
  obtain ⟨b, hb, hcb, hx'⟩ := hx.flt
  refine .mk _ (.float .f64 (b ^^^ 9223372036854775808)) ?_ hk (.d (.flt (Nat.xor_lt_two_pow hb (by decide)) ?_))
  ·simp only [execOp, ho, hx']; rfl
  ·subst hcb
   by_cases hn : j7 b = true
   ·rw [a7Y (by rw [c3H]; exact hn), a7Y hn]; rfl
   ·have hn : j7 b = false := by simpa using hn
    rw [u7 hn]
 ·rename_i h; rw [h] at hx
  refine .mk _ _ ?_ hk (.d (.bool _))
  simp only [execOp, ho, hx.bool]; rfl
 ·exact hk.elim
theorem d1E (sT d : TypeId) (k : IntKind) (x : Operand) (hsT : ∃ q, P.underlying sT = some (.int q)) (hd : P.underlying d = some (.int k)) (ho : o.op = .convert sT d x) (hs : SimS St m s a w) (hk : hv (.icv k (Opd.of x)) s.ev K) : HOk P St m s.L a o w K := by
 have hx := n9 hs x
 simp only [hv] at hk
 split at hk
 ·rename_i h; rw [h] at hx
  obtain ⟨q, hq⟩ := hsT
  refine .mk _ _ ?_ hk (.d (.int _ _))
  simp only [execOp, ho, hx.int]; simp [convert, run_underlying hq, run_underlying hd, Conv.intToInt]
 ·exact hk.elim
theorem d1F (sT d : TypeId) (x : Operand) (hsT : ∃ q, P.underlying sT = some (.int q)) (hd : P.underlying d = some (.float .f64)) (ho : o.op = .convert sT d x) (hs : SimS St m s a w) (hk : hv (.i2f (Opd.of x)) s.ev K) : HOk P St m s.L a o w K := by
 have hx := n9 hs x
 simp only [hv] at hk
 split at hk
 ·rename_i k n h; rw [h] at hx
  obtain ⟨q, hq⟩ := hsT
  refine .mk _ (.float .f64 (FloatKind.nearest .f64 n)) ?_ hk (.d (.flt (b7C n) (c0v n)))
  simp only [execOp, ho, hx.int]; simp [convert, run_underlying hq, run_underlying hd, Conv.intToFloat]
 ·exact hk.elim
theorem d1H (sT d : TypeId) (x : Operand) (hsT : P.underlying sT = some (.float .f64)) (hd : P.underlying d = some (.float .f64)) (ho : o.op = .convert sT d x) (hs : SimS St m s a w) (hk : hv (.f2f (Opd.of x)) s.ev K) : HOk P St m s.L a o w K := by
 have hx := n9 hs x
 simp only [hv] at hk
 split at hk
 ·rename_i h; rw [h] at hx
  obtain ⟨b, hb, hcb, hx'⟩ := hx.flt
  refine .mk _ (.float .f64 b) ?_ hk (.d (.flt hb hcb))
  simp only [execOp, ho, hx']; simp [convert, run_underlying hsT, run_underlying hd, Conv.floatToFloat]
 ·exact hk.elim
theorem b7H (hs : SimS St m s a w) (xs : Array Operand) : LRel St m s.L w ((xs.toList.map Opd.of).map s.ev) (xs.map a.eval) := by
 refine ⟨by simp, λj hj => ?_⟩
 have hj' : j < xs.size := by simpa using hj
 have := n9 hs xs[j]
 simpa [d2d, Array.getD_eq_getD_getElem?, hj'] using this
theorem b6x : ∀ (vs : List V) (ds : List D), allD vs = some ds -> vs = ds.map V.d := by
 intro vs
 induction vs with
 | nil => intro ds h; simp [allD] at h; subst h; rfl
 | cons v vs ih =>
  intro ds h
  cases v <;> simp only [allD, reduceCtorEq] at h
  cases h' : allD vs with
  | none => simp [h'] at h
  | some r => simp [h'] at h; subst h; rw [ih r h']; rfl
theorem c6p {L : Heap} (f : FuncId) {first cap : List V} {fs cs : Array Value} (h1 : LRel St m L w first fs) (h2 : LRel St m L w cap cs) : VRel St m L w (fnOf f first cap) (.func (.func f) fs cs) := by
 unfold fnOf
 split
 ·rename_i p q hp hq
  have e1 := b6x _ _ hp
  have e2 := b6x _ _ hq
  subst e1 e2
  refine .d (.fn (by simpa using h1.1) (by simpa using h2.1) (λj hj => ?_) λj hj => ?_)
  ·have := h1.2 j (by simpa using hj)
   have e : (p.map V.d).getD j .any = .d (p.getD j default) := by simp [d2d, hj]
   rw [e] at this; cases this with | d h => exact h
  ·have := h2.2 j (by simpa using hj)
   have e : (q.map V.d).getD j .any = .d (q.getD j default) := by simp [d2d, hj]
   rw [e] at this; cases this with | d h => exact h
 ·exact .fn h1.1 h2.1 h1.2 h2.2
theorem d0t (f : FuncId) (first cap : Array Operand) (ho : o.op = .makeFunc (.func f) first cap) (hs : SimS St m s a w) (hk : hv (.mkfn f (first.toList.map Opd.of) (cap.toList.map Opd.of)) s.ev K) : HOk P St m s.L a o w K := by
 have h1 := b7H hs first
 have h2 := b7H hs cap
 refine .mk _ (.func (.func f) (first.map a.eval) (cap.map a.eval)) ?_ hk (c6p f h1 h2)
 simp only [execOp, ho]; rfl
theorem d1J (x : Operand) (i : Nat) (ho : o.op = .extract x i) (hs : SimS St m s a w) (hk : hv (.ext (Opd.of x) i) s.ev K) : HOk P St m s.L a o w K := by
 have hx := n9 hs x
 simp only [hv] at hk
 split at hk
 ·rename_i xs h; rw [h] at hx
  obtain ⟨cs, hc, hsz, hr⟩ := hx.tup'
  obtain ⟨hi, hk⟩ := hk
  have hi' : i < cs.size := by omega
  refine .mk _ (cs.getD i undef) ?_ hk (hr i hi)
  simp only [execOp, ho, hc]; simp [Instr.extract, hi', Array.getD_eq_getD_getElem?]
 ·exact hk.elim
theorem d1C (t : TypeId) (x : Operand) (e : TypeId) (ht : P.underlying t = some (.slice e)) (ho : o.op = .call { callee := .builtin .len, args := #[x], argTypes := #[t] }) (hs : SimS St m s a w) (hk : hv (.len (Opd.of x)) s.ev K) : HOk P St m s.L a o w K := by
 have hx := n9 hs x
 simp only [hv] at hk
 have run : ∀ b n c, a.eval x = .slice b n c -> (execOp a.eval o).run P w = .ok (.value (.int .i64 n)) w := by
  intro b n c hc
  simp only [execOp, ho]
  simp [resolve, hc, invoke, builtin, Builtin.len_, run_underlying ht, goInt]
 split at hk
 ·rename_i h; rw [h] at hx
  exact .mk _ _ (run _ _ _ hx.nil') hk (.d (.int _ _))
 ·rename_i h; rw [h] at hx; obtain ⟨_, _, hc, _⟩ := hx.bor
  exact .mk _ _ (run _ _ _ hc) hk (.d (.int _ _))
 ·rename_i h; rw [h] at hx; obtain ⟨_, _, _, _, _, hc, _⟩ := hx.sl'
  exact .mk _ _ (run _ _ _ hc) hk (.d (.int _ _))
 ·exact hk.elim
theorem d0z (f : FuncId) (fn : Func) (ats : Array TypeId) (x : Operand) (hf : P.funcs[f]? = some fn) (hb : fn.body.isNone = true) (hn : fn.name = "math.Float64bits" /\ fn.origin = "") (ho : o.op = .call { callee := .value (.func f), args := #[x], argTypes := ats }) (hs : SimS St m s a w) (hk : hv (.bits (Opd.of x)) s.ev K) : HOk P St m s.L a o w K := by
 have hx := n9 hs x
 have main : ∀ b, a.eval x = .float .f64 b -> K (.d (.int .u64 b)) -> HOk P St m s.L a o w K := by
  intro b hx' hk
  refine .mk _ (.int .u64 b) ?_ hk (.d (.int _ _))
  have e1 := c2Y; have e0 := b5N
  have h1 : Extern.findNext fn = none := by simp only [Extern.findNext, hn.1, hn.2, e1, e0]; rfl
  have h2 : Extern.find fn = some Extern.MathFloatBits.float64bits := by simp only [Extern.find, hn.1, c6k, b9T, c2j]; rfl
  have h3 : (Extern.MathFloatBits.float64bits #[a.eval x]).run P w = .ok (.int .u64 b) w := by rw [hx']; rfl
  have hfe : a.eval (.func f) = .func (.func f) #[] #[] := rfl
  simp only [execOp, ho]
  simp [resolve, hfe, Deferred.ofValue, invoke, callFunc, hf, hn, h1, h2, h3]
  simpa using hb
 simp only [hv] at hk
 split at hk
 ·rename_i p h; rw [h] at hx
  obtain ⟨b, hb', hcb, hx'⟩ := hx.flt
  obtain ⟨hnn, hk⟩ := hk
  have : cf b = b := by
   rw [<- hcb, a9u] at hnn; exact u7 hnn
  rw [this] at hcb; subst hcb
  exact main b hx' hk
 ·rename_i p h; rw [h] at hx
  exact main p hx.fraw.2 hk
 ·exact hk.elim
theorem c0T (f : FuncId) (fn : Func) (ats : Array TypeId) (x : Operand) (hf : P.funcs[f]? = some fn) (hb : fn.body.isNone = true) (hn : fn.name = "math.Float64frombits" /\ fn.origin = "") (ho : o.op = .call { callee := .value (.func f), args := #[x], argTypes := ats }) (hs : SimS St m s a w) (hk : hv (.frombits (Opd.of x)) s.ev K) : HOk P St m s.L a o w K := by
 have hx := n9 hs x
 simp only [hv] at hk
 split at hk
 ·rename_i p h; rw [h] at hx
  obtain ⟨⟨h0, h64⟩, hk⟩ := hk
  refine .mk _ (.float .f64 p.toNat) ?_ hk (.d (.flt (by omega) rfl))
  have e1 := b3V; have e0 := b5N
  have h1 : Extern.findNext fn = none := by simp only [Extern.findNext, hn.1, hn.2, e1, e0]; rfl
  have h2 : Extern.find fn = some Extern.MathFloatBits.float64frombits := by simp only [Extern.find, hn.1, b56, b1r, b3C]; rfl
  have h3 : (Extern.MathFloatBits.float64frombits #[a.eval x]).run P w = .ok (.float .f64 p.toNat) w := by rw [hx.int]; rfl
  have hfe : a.eval (.func f) = .func (.func f) #[] #[] := rfl
  simp only [execOp, ho]
  simp [resolve, hfe, Deferred.ofValue, invoke, callFunc, hf, hn, h1, h2, h3]
  simpa using hb
 ·exact hk.elim
theorem b2B (mx : Bool) (x y t : Nat) : j7 (Question.cut (.nanMinMax .f64 mx x y) t) = true /\ Question.cut (.nanMinMax .f64 mx x y) t < 2 ^ 64 := a9V t
theorem a2u {x y : Nat} (h : j7 x = true) : Ieee.double.order x y = none := by
 unfold Ieee.Format.order
 rw [<- K2] at h
 cases hb : Ieee.double.read x <;> simp [hb, Ieee.Datum.isNaN] at h
 exact a9N ..
theorem a2t {x y : Nat} (h : j7 y = true) : Ieee.double.order x y = none := by
 unfold Ieee.Format.order
 rw [<- K2] at h
 cases hb : Ieee.double.read y <;> simp [hb, Ieee.Datum.isNaN] at h
 exact a9M ..
theorem b5s (mx : Bool) (b d : Nat) (hb : b < 2 ^ 64) (hd : d < 2 ^ 64) : ∃ r w', ((if mx then Builtin.max2 else Builtin.min2) (.float .f64 b) (.float .f64 d)).run P w = .ok (.float .f64 r) w' /\ Same w w' /\ r < 2 ^ 64 /\ cf r = b0j mx (cf b) (cf d) := by
 have e : ∀ x y : Nat, FloatKind.f64.format.order x y = Ieee.double.order x y := λ_ _ => rfl
 have e2 : ∀ x : Nat, (FloatKind.f64.decode x) = Ieee.double.read x := λ_ => rfl
 unfold b0j
 rw [b3R]
 cases h : Ieee.double.order b d with
 | none =>
  refine ⟨Question.cut (.nanMinMax .f64 mx b d) (w.tape w.drawn (.nanMinMax .f64 mx b d)), { w with drawn := w.drawn + 1 }, ?_, .drew _ _, (b2B ..).2, ?_⟩
  ·cases mx <;> simp [Builtin.max2, Builtin.min2, e, h] <;> intro hf <;> cases hf
  ·exact a7Y (b2B ..).1
 | some ord =>
  have nb : j7 b = false := by
   cases hn : j7 b with
   | false => rfl
   | true => rw [a2u hn] at h; cases h
  have nd : j7 d = false := by
   cases hn : j7 d with
   | false => rfl
   | true => rw [a2t hn] at h; cases h
  rw [u7 nb, u7 nd]
  cases ord with
  | lt => exact ⟨if mx then d else b, w, by cases mx <;> simp [Builtin.max2, Builtin.min2, e, h], .refl w, by cases mx <;> simp <;> omega, by cases mx <;> simp [u7 nb, u7 nd]⟩
  | gt => exact ⟨if mx then b else d, w, by cases mx <;> simp [Builtin.max2, Builtin.min2, e, h], .refl w, by cases mx <;> simp <;> omega, by cases mx <;> simp [u7 nb, u7 nd]⟩
  | eq =>
   refine ⟨if (Ieee.double.read b).neg = mx then d else b, w, ?_, .refl w, by split <;> omega, by split <;> simp [u7 nb, u7 nd]⟩
   cases mx <;> simp [Builtin.max2, Builtin.min2, e, e2, h] <;> cases (Ieee.double.read b).neg <;> simp
theorem c5n (ats : Array TypeId) (ty : TypeId) {p q v : Value} {w' : World} (h : (Builtin.max2 p q).run P w = .ok v w') : (Builtin.max_ ats ty #[p, q]).run P w = .ok v w' := by
 show ((Bind.bind (Builtin.max2 p q) λr => pure r) : Sem Value).run P w = _
 rw [Sem.run_bind, h]; rfl
theorem c5m (ats : Array TypeId) (ty : TypeId) {p q v : Value} {w' : World} (h : (Builtin.min2 p q).run P w = .ok v w') : (Builtin.min_ ats ty #[p, q]).run P w = .ok v w' := by
 show ((Bind.bind (Builtin.min2 p q) λr => pure r) : Sem Value).run P w = _
 rw [Sem.run_bind, h]; rfl
theorem h_mm (mx : Bool) (x y : Operand) (ats : Array TypeId) (ho : o.op = .call { callee := .builtin (if mx then .max else .min), args := #[x, y], argTypes := ats }) (hs : SimS St m s a w) (hk : hv (.mm mx (Opd.of x) (Opd.of y)) s.ev K) : HOk P St m s.L a o w K := by
 have hx := n9 hs x
 have hy := n9 hs y
 simp only [hv] at hk
 have run : ∀ v w', ((if mx then Builtin.max2 else Builtin.min2) (a.eval x) (a.eval y)).run P w = .ok v w' -> (execOp a.eval o).run P w = .ok (.value v) w' := by
  intro v w' hr
  cases mx with
  | true =>
   have ho : o.op = .call { callee := .builtin .max, args := #[x, y], argTypes := ats } := ho
   simp only [execOp, ho]
   simp [resolve, invoke, builtin, c5n ats o.type hr]
  | false =>
   have ho : o.op = .call { callee := .builtin .min, args := #[x, y], argTypes := ats } := ho
   simp only [execOp, ho]
   simp [resolve, invoke, builtin, c5m ats o.type hr]
 split at hk
 ·rename_i h1 h2; rw [h1] at hx; rw [h2] at hy
  refine .mk _ _ (run _ _ ?_) hk (.d (.int _ _))
  rw [hx.int, hy.int]; cases mx <;> rfl
 ·rename_i h1 h2; rw [h1] at hx; rw [h2] at hy
  obtain ⟨b, hb, hcb, hx'⟩ := hx.flt
  obtain ⟨d, hd, hcd, hy'⟩ := hy.flt
  subst hcb hcd
  obtain ⟨r, w', hr, hsame, hlt, hcf⟩ := b5s (P := P) (w := w) mx b d hb hd
  exact ⟨_, .float .f64 r, w', run _ _ (by rw [hx', hy']; exact hr), hsame, hk, .d (.flt hlt hcf)⟩
 ·exact hk.elim
theorem d1B (x y z : Operand) (ats : Array TypeId) (ho : o.op = .call { callee := .builtin .min, args := #[x, y, z], argTypes := ats }) (hs : SimS St m s a w) (hk : hv (.mm3 (Opd.of x) (Opd.of y) (Opd.of z)) s.ev K) : HOk P St m s.L a o w K := by
 have hx := n9 hs x
 have hy := n9 hs y
 have hz := n9 hs z
 simp only [hv] at hk
 split at hk
 ·rename_i k a _ b _ c h1 h2 h3
  rw [h1] at hx; rw [h2] at hy; rw [h3] at hz
  obtain hx := hx.int
  obtain hy := hy.int
  obtain hz := hz.int
  refine .mk _ (.int k (if c < (if b < a then b else a) then c else (if b < a then b else a))) ?_ hk (.d (.int _ _))
  simp only [execOp, ho]
  simp [resolve, invoke, builtin, hx, hy, hz, Builtin.min_, Builtin.min2]
 ·exact hk.elim
end
end Go.Ab
namespace Go.Ab
open Go
section
variable {P : Program} {St : Nat -> Prop} {m : Map} {s : S} {a : Act} {o : Oper} {w : World} {K : V -> Prop} {L : Heap}
theorem LRel.extract {xs : List V} {cs : Array Value} (h : LRel St m L w xs cs) (off n : Nat) (hn : off + n <= xs.length) :
  LRel St m L w ((xs.drop off).take n) (cs.extract off (off + n)) := by
 have h1 := h.1
 refine ⟨by simp; omega, λj hj => ?_⟩
 have hj' : j < n := by simp at hj; omega
 have e1 : ((xs.drop off).take n).getD j .any = xs.getD (off + j) .any := by
  simp [d2d, hj']
 have e2 : (cs.extract off (off + n)).getD j undef = cs.getD (off + j) undef := by
  have : j < min (off + n) cs.size - off := by omega
  have h3 : off + j < cs.size := by omega
  simp [Array.getD_eq_getD_getElem?, this, h3]
 rw [e1, e2]; exact h.2 _ (by omega)
theorem a2m {t n : Nat} (h : szT P t = some n) : (sizeOf t).run P w = .ok n w := by
 unfold szT at h
 cases hi : P.info? t with
 | none => simp [hi] at h
 | some i => simp [hi] at h; simp [sizeOf, typeInfo, hi, h]
theorem a9n {t : Nat} {g : Bool} (h : aggT P t = some g) : (isAgg t).run P w = .ok g w := by
 unfold aggT at h
 cases hi : P.underlying t with
 | none => simp [hi] at h
 | some d =>
  rw [hi] at h
  simp only [isAgg, Sem.run_bind, run_underlying hi, Result.andThen]
  cases d <;> simp at h <;> subst h <;> rfl
theorem a3E {t n off : Nat} {g : Bool} {xs : List V} {cs : Array Value} (hg : aggT P t = some g) (hn : szT P t = some n) (h1 : g = true \/ n = 1) (h0 : 0 < n)
  (h : LRel St m L w xs cs) (hl : off + n <= xs.length) : ∃ c, (part t cs off).run P w = .ok c w /\ VRel St m L w (ldv g n off xs) c := by
 have hsz := h.1
 cases g with
 | true =>
  refine ⟨.agg (cs.extract off (off + n)), ?_, ?_⟩
  ·simp [part, a9n hg, a2m hn]
  ·simpa [ldv] using (h.extract off n hl).agg
 | false =>
  obtain rfl : n = 1 := by simpa using h1
  have hlt : off < cs.size := by omega
  refine ⟨cs.getD off undef, ?_, ?_⟩
  ·simp [part, a9n hg, hlt, Array.getD_eq_getD_getElem?]
  ·simpa [ldv] using h.2 off (by omega)
theorem d1G (t : TypeId) (x : Operand) (i : Nat) (fields : Array Field) (fd : Field) (n : Nat) (g : Bool) (ht : P.underlying t = some (.struct fields)) (hf : fields[i]? = some fd)
  (hn : szT P fd.type = some n) (hg : aggT P fd.type = some g) (h1 : g = true \/ n = 1) (ho : o.op = .field t x i) (hs : SimS St m s a w) (hk : hv (.fld (Opd.of x) fd.offset n g) s.ev K) : HOk P St m s.L a o w K := by
 have hx := n9 hs x
 simp only [hv] at hk
 split at hk
 ·rename_i xs h; rw [h] at hx
  obtain ⟨cs, hc, hsz, hr⟩ := hx.agg'
  obtain ⟨hl, h0, hk⟩ := hk
  obtain ⟨c, hrun, hrel⟩ := a3E (P := P) hg hn h1 h0 ⟨hsz, hr⟩ hl
  refine .mk _ c ?_ hk hrel
  simp only [execOp, ho, hc]
  simp [Instr.field, run_underlying ht, hf, asAgg, hrun]
 ·exact hk.elim
theorem d0u (t : TypeId) (x ix : Operand) (len : Nat) (e : TypeId) (n : Nat) (g : Bool) (ht : P.underlying t = some (.array len e))
  (hn : szT P e = some n) (hg : aggT P e = some g) (h1 : g = true \/ n = 1) (ho : o.op = .index t x ix) (hs : SimS St m s a w) (hk : hv (.idxv (Opd.of x) (Opd.of ix) len n g) s.ev K) : HOk P St m s.L a o w K := by
 have hx := n9 hs x
 have hi := n9 hs ix
 simp only [hv] at hk
 split at hk
 ·rename_i xs k q h h2; rw [h] at hx; rw [h2] at hi
  obtain ⟨cs, hc, hsz, hr⟩ := hx.agg'
  obtain ⟨⟨hq0, hq1⟩, hl, h0, hk⟩ := hk
  obtain ⟨c, hrun, hrel⟩ := a3E (P := P) (off := q.toNat * n) hg hn h1 h0 ⟨hsz, hr⟩ hl
  refine .mk _ c ?_ hk hrel
  simp only [execOp, ho, hc, hi.int]
  simp [Instr.index, asIntOf, run_underlying ht, a2m hn, hq0, hq1, hrun]
 ·exact hk.elim
theorem d0r (t : TypeId) (x : Operand) (i : Nat) (fields : Array Field) (fd : Field) (n : Nat) (ht : P.underlying t = some (.struct fields)) (hf : fields[i]? = some fd)
  (hn : szT P fd.type = some (n + 1)) (ho : o.op = .fieldAddr t x i) (hs : SimS St m s a w) (hk : hv (.padd (Opd.of x) fd.offset) s.ev K) : HOk P St m s.L a o w K := by
 have hx := n9 hs x
 simp only [hv] at hk
 have run : ∀ ad, a.eval x = .pointer (some ad) -> (execOp a.eval o).run P w = .ok (.value (.pointer (some (ad.add fd.offset)))) w := by
  intro ad hc
  simp only [execOp, ho, hc]
  simp [Instr.fieldAt, run_underlying ht, hf, Instr.sureAddr, fieldPlace, a2m hn]
 split at hk
 ·rename_i h; rw [h] at hx
  obtain ⟨cells, ad, hL, hv, hc, hf⟩ := hx.ptr'
  refine .mk _ _ (run _ hc) hk (.ptr hL hv _ rfl λe => ?_)
  obtain ⟨b, C, hm, rfl⟩ := hf e
  exact ⟨b, C, hm, G4 ..⟩
 ·rename_i cells h; rw [h] at hx
  obtain ⟨blk, off, cell, hc, hst, h1, h2⟩ := hx.bptr
  obtain ⟨hle, hk⟩ := hk
  refine .mk _ _ (run _ hc) hk ?_
  rw [G4]
  refine .d (.bptr (λj => cell (fd.offset + j)) hst (λj hj => ?_) λj hj => ?_)
  ·rw [Nat.add_assoc]; exact h1 _ (by simp at hj; omega)
  ·have := h2 (fd.offset + j) (by simp at hj; omega)
   simpa [d2d] using this
 ·exact hk.elim
theorem d0v (t : TypeId) (x ix : Operand) (len : Nat) (e : TypeId) (n : Nat) (ht : P.underlying t = some (.array len e)) (hn : szT P e = some n)
  (ho : o.op = .indexAddr t x ix) (hs : SimS St m s a w) (hk : hv (.idxa (Opd.of x) (Opd.of ix) len n) s.ev K) : HOk P St m s.L a o w K := by
 have hx := n9 hs x
 have hi := n9 hs ix
 simp only [hv] at hk
 have run : ∀ ad k q, a.eval x = .pointer (some ad) -> a.eval ix = .int k q -> 0 <= q -> q < len -> (execOp a.eval o).run P w = .ok (.value (.pointer (some (ad.add (q.toNat * n))))) w := by
  intro ad k q hc hi h0 h1
  simp only [execOp, ho, hc, hi]
  simp [Instr.indexAt, asIntOf, run_underlying ht, Instr.sureAddr, a2m hn, h0, h1]
 split at hk
 ·rename_i X r off ver k q h h2; rw [h] at hx; rw [h2] at hi
  obtain ⟨cells, ad, hL, hv, hc, hf⟩ := hx.ptr'
  obtain ⟨⟨h0, h1⟩, hk⟩ := hk
  refine .mk _ _ (run _ _ _ hc hi.int h0 h1) hk (.ptr hL hv _ rfl λe => ?_)
  obtain ⟨b, C, hm, rfl⟩ := hf e
  exact ⟨b, C, hm, G4 ..⟩
 ·rename_i cells k q h h2; rw [h] at hx; rw [h2] at hi
  obtain ⟨blk, off, cell, hc, hst, h1, h2⟩ := hx.bptr
  obtain ⟨⟨hq0, hq1⟩, hle, hk⟩ := hk
  refine .mk _ _ (run _ _ _ hc hi.int hq0 hq1) hk ?_
  rw [G4]
  refine .d (.bptr (λj => cell (q.toNat * n + j)) hst (λj hj => ?_) λj hj => ?_)
  ·rw [Nat.add_assoc]; exact h1 _ (by simp at hj; omega)
  ·have := h2 (q.toNat * n + j) (by simp at hj; omega)
   simpa [d2d] using this
 ·exact hk.elim
theorem d1D (t : TypeId) (x ix : Operand) (e : TypeId) (n : Nat) (ht : P.underlying t = some (.slice e)) (hn : szT P e = some n)
  (ho : o.op = .indexAddr t x ix) (hs : SimS St m s a w) (hk : hv (.idx (Opd.of x) (Opd.of ix) n) s.ev K) : HOk P St m s.L a o w K := by
 have hx := n9 hs x
 have hi := n9 hs ix
 simp only [hv] at hk
 have run : ∀ ad len cap k q, a.eval x = .slice (some ad) len cap -> a.eval ix = .int k q -> 0 <= q -> q < len -> (execOp a.eval o).run P w = .ok (.value (.pointer (some (ad.add (q.toNat * n))))) w := by
  intro ad len cap k q hc hi h0 h1
  simp only [execOp, ho, hc, hi]
  simp [Instr.indexAt, asIntOf, run_underlying ht, a2m hn, h0, h1]
 split at hk
 ·rename_i len get k q h h2; rw [h] at hx; rw [h2] at hi
  obtain ⟨b, cap, hc, hr⟩ := hx.bor
  obtain ⟨⟨hq0, hq1⟩, hle, hk⟩ := hk
  obtain ⟨blk, off, sz, cell, rfl, hst, h1, h2, h3⟩ := hr (by omega)
  have hsz : sz = n := by rw [<- h1 q.toNat (by omega)]; exact hle
  subst hsz
  refine .mk _ _ (run _ _ _ _ _ hc hi.int hq0 hq1) hk ?_
  rw [G4]
  refine .d (.bptr (λj => cell q.toNat j) hst (λj hj => ?_) λj hj => ?_)
  ·exact h2 _ _ (by omega) (by omega)
  ·exact h3 _ _ (by omega) (by omega)
 ·rename_i X r off len esz ver k q h h2; rw [h] at hx; rw [h2] at hi
  obtain ⟨cells, b, cap, hL, hver, hc, hcap, ha, hf⟩ := hx.sl'
  obtain ⟨⟨hq0, hq1⟩, hk⟩ := hk
  have hb := ha (by omega)
  obtain ⟨ad, rfl⟩ := Option.isSome_iff_exists.1 hb
  refine .mk _ _ (run _ _ _ _ _ hc hi.int hq0 hq1) hk (.ptr hL hver _ rfl λe => ?_)
  rcases hf e with h0 | ⟨b, C, hm, _, he⟩
  ·omega
  ·cases he; exact ⟨b, C, hm, G4 ..⟩
 ·exact hk.elim
theorem w9 (k : IntKind) (l y : Nat) (code : BoundsCode) (hl : l <= y) : (Instr.sliceBound (.int k l) y code).run P w = .ok l w := by
 simp [Instr.sliceBound, asIntOf, hl]
theorem a6j {x : Option Operand} {d l : Nat} (hs : SimS St m s a w) (h : hv.bound s.ev (x.map Opd.of) d l) : (x = none /\ l = d) \/ ∃ y k, x = some y /\ a.eval y = .int k l := by
 cases x with
 | none => exact .inl ⟨rfl, h⟩
 | some y =>
  obtain ⟨k, hk⟩ := h
  have := n9 hs y
  rw [hk] at this
  exact .inr ⟨y, k, rfl, this.int⟩
theorem K0 {lo hi mx : Option Operand} {len cap l h m' : Nat} (hs : SimS St m s a w) (hl : hv.bound s.ev (lo.map Opd.of) 0 l) (hh : hv.bound s.ev (hi.map Opd.of) len h)
  (hm : (mx = none /\ m' = cap) \/ ∃ y k, mx = some y /\ a.eval y = .int k m') (hmh : mx ≠ none -> hi ≠ none) (h1 : l <= h) (h2 : h <= m') (h3 : m' <= cap) :
  (Instr.sliceBounds true len cap (lo.map a.eval) (hi.map a.eval) (mx.map a.eval)).run P w = .ok (l, h, m') w := by
 have hlv := a6j hs hl
 have hhv := a6j hs hh
 rcases hm with ⟨rfl, rfl⟩ | ⟨ym, km, rfl, hem⟩
 ·rcases hhv with ⟨rfl, rfl⟩ | ⟨yh, kh, rfl, heh⟩
  ·rcases hlv with ⟨rfl, rfl⟩ | ⟨yl, kl, rfl, hel⟩
   ·simp [Instr.sliceBounds]
   ·simp [Instr.sliceBounds, hel, w9 kl l _ _ h1]
  ·rcases hlv with ⟨rfl, rfl⟩ | ⟨yl, kl, rfl, hel⟩
   ·simp [Instr.sliceBounds, heh, w9 kh h _ _ h2]
   ·simp [Instr.sliceBounds, hel, heh, w9 kh h _ _ h2, w9 kl l _ _ h1]
 ·rcases hhv with ⟨rfl, rfl⟩ | ⟨yh, kh, rfl, heh⟩
  ·exact absurd rfl (hmh (by simp))
  ·rcases hlv with ⟨rfl, rfl⟩ | ⟨yl, kl, rfl, hel⟩
   ·simp [Instr.sliceBounds, heh, hem, w9 km m' _ _ h3, w9 kh h _ _ h2]
   ·simp [Instr.sliceBounds, hel, heh, hem, w9 km m' _ _ h3, w9 kh h _ _ h2, w9 kl l _ _ h1]
theorem d1A (t : TypeId) (x : Operand) (lo hi mx : Option Operand) (e : TypeId) (n : Nat) (ht : P.underlying t = some (.slice e)) (hn : szT P e = some n) (hmh : mx ≠ none -> hi ≠ none)
  (ho : o.op = .slice t x lo hi mx) (hs : SimS St m s a w) (hk : hv (.slc (Opd.of x) (lo.map Opd.of) (hi.map Opd.of) (mx.map Opd.of) n) s.ev K) : HOk P St m s.L a o w K := by
 have hx := n9 hs x
 simp only [hv] at hk
 have run : ∀ ad len cap l h m', a.eval x = .slice ad len cap -> (Instr.sliceBounds true len cap (lo.map a.eval) (hi.map a.eval) (mx.map a.eval)).run P w = .ok (l, h, m') w ->
   (execOp a.eval o).run P w = .ok (.value (.slice (if m' = l then ad else ad.map (·.add (l * n))) (h - l) (m' - l))) w := by
  intro ad len cap l h m' hc hb
  simp only [execOp, ho, hc]
  simp [Instr.sliceAt, Instr.slice, run_underlying ht, hb, a2m hn]
 split at hk
 ·rename_i h; rw [h] at hx
  have hc := hx.nil'
  obtain ⟨hz, hk⟩ := hk
  have z : ∀ (y : Option Operand), (∀ o ∈ (y.map Opd.of).toList, ∃ k, s.ev o = .d (.int k 0)) -> hv.bound s.ev (y.map Opd.of) 0 0 := by
   intro y hy
   cases y with
   | none => rfl
   | some y => obtain ⟨k, hk⟩ := hy (Opd.of y) (by simp); exact ⟨k, hk⟩
  have hb := K0 (P := P) (len := 0) (cap := 0) (lo := lo) (hi := hi) (mx := mx) hs (z lo λo ho => hz o (by simp_all)) (z hi λo ho => hz o (by simp_all))
   (a6j hs (z mx λo ho => hz o (by simp_all))) hmh (d2t _) (d2t _) (d2t _)
  refine .mk _ _ (run _ _ _ _ _ _ hc hb) hk ?_
  simp; exact .nil
 ·rename_i len get h; rw [h] at hx
  obtain ⟨b, cap, hc, hr⟩ := hx.bor
  obtain ⟨l, h', hl, hh, h1, h2, hmx, hsz, hk⟩ := hk
  have hmx' : mx = none := by cases mx <;> simp_all
  subst hmx'
  by_cases hcap : len <= cap
  ·have hb := K0 (P := P) (len := len) (cap := cap) (mx := none) hs hl hh (.inl ⟨rfl, rfl⟩) hmh h1 (by omega) (d2t _)
   refine .mk _ _ (run _ _ _ _ _ _ hc hb) hk (.d ?_)
   by_cases e : l < h'
   ·obtain ⟨blk, off, sz, cell, rfl, hst, q1, q2, q3⟩ := hr (by omega)
    have hsz' : sz = n := by rw [<- q1 l (by omega)]; exact hsz e
    subst hsz'
    rw [if_neg (by omega)]
    simp only [Option.map_some, G4]
    refine .bor (λi j => cell (l + i) j) hst (by omega) (λi hi => q1 _ (by omega)) (λi j hi hj => ?_) λi j hi hj => q3 _ _ (by omega) hj
    rw [Nat.add_assoc off, <- Nat.add_mul]; exact q2 _ _ (by omega) hj
   ·have : h' - l = 0 := by omega
    rw [this]; exact .bor0 _ _ _
  ·exact absurd (hx.cap hc) hcap
 ·rename_i X r off len esz ver h; rw [h] at hx
  obtain ⟨cells, b, cap, hL, hver, hc, hcap, ha, hf⟩ := hx.sl'
  obtain ⟨rfl, l, h', m', hl, hh, hm, h1, h2, h3, hk⟩ := hk
  obtain ⟨mc, hmc, hb⟩ : ∃ mc, (m' <= mc /\ mc <= cap) /\ (Instr.sliceBounds true len cap (lo.map a.eval) (hi.map a.eval) (mx.map a.eval)).run P w = .ok (l, h', mc) w := by
   rcases a6j hs hm with ⟨rfl, rfl⟩ | ⟨y, k, rfl, hy⟩
   ·exact ⟨cap, ⟨by omega, d2t _⟩, K0 hs hl hh (.inl ⟨rfl, rfl⟩) hmh h1 (by omega) (d2t _)⟩
   ·exact ⟨m', ⟨d2t _, by omega⟩, K0 hs hl hh (.inr ⟨y, k, rfl, hy⟩) hmh h1 h2 (by omega)⟩
  refine .mk _ _ (run _ _ _ _ _ _ hc hb) hk (.sl hL hver _ _ rfl (by omega) (λh0 => ?_) λe => ?_)
  ·rw [if_neg (by omega)]
   have := ha (by omega)
   simpa using this
  ·by_cases hml : mc = l
   ·left; omega
   ·right
    rcases hf e with h0 | ⟨b, C, hm, hC, he⟩
    ·omega
    ·refine ⟨b, C, hm, ?_, ?_⟩
     ·have : l * esz + (mc - l) * esz = mc * esz := by rw [<- Nat.add_mul]; congr 1; omega
      have : mc * esz <= cap * esz := Nat.mul_le_mul_right _ hmc.2
      omega
     ·rw [if_neg hml, he]; simp [G4]
 ·exact hk.elim
end
end Go.Ab
