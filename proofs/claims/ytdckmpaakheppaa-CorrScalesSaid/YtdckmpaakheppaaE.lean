/- What a piece that asks nothing of memory promises, the operation keeps: the rest. -/
import Derived.Test.YtdckmpaakheppaaD
import Derived.KernelRfl
namespace Go.Ab
set_option linter.unusedSimpArgs false
set_option linter.unusedVariables false
open Go

theorem add_none (b off n : Nat) : (Addr.add ⟨b, off, none⟩ n) = ⟨b, off + n, none⟩ := by
  unfold Addr.add; split
  · rename_i h; subst h; rfl
  · rfl

theorem nearest_not_nan (neg : Bool) (mag : Nat) (place : Int) : isNan (Ieee.double.nearest neg mag place) = false := by
  have h2 : Ieee.double.signWeight = 9223372036854775808 := rfl
  have h3 : Ieee.double.infRung = 9218868437227405312 := rfl
  have key : ∀ (neg : Bool) (r : Nat), r ≤ 9218868437227405312 → isNan (Ieee.double.word neg r) = false := by
    intro neg r hr
    unfold isNan Ieee.Format.word
    rw [h2, decide_eq_false_iff_not]
    cases neg
    · simp only [Bool.false_eq_true, if_false]; omega
    · simp only [if_true]; omega
  unfold Ieee.Format.nearest
  split
  · exact key _ _ (by decide)
  · dsimp only
    refine key _ _ ?_
    rw [h3]; exact Nat.min_le_right _ _

theorem nearest_lt' (n : Int) : FloatKind.nearest .f64 n < 2 ^ 64 := by
  have := Ieee.Format.nearest_lt Ieee.double (decide (n < 0)) n.natAbs 0
  simpa [FloatKind.nearest, FloatKind.encode, FloatKind.format, Ieee.Format.write, Ieee.Format.width, Ieee.double] using this
theorem nearest_cf (n : Int) : cf (FloatKind.nearest .f64 n) = FloatKind.nearest .f64 n :=
  cf_not (nearest_not_nan (decide (n < 0)) n.natAbs 0)

theorem xor_mod (b : Nat) : (b ^^^ 9223372036854775808) % 9223372036854775808 = b % 9223372036854775808 := by
  have := @Nat.xor_mod_two_pow b 9223372036854775808 63
  simpa using this

theorem isNan_neg (b : Nat) : isNan (b ^^^ 9223372036854775808) = isNan b := by unfold isNan; rw [xor_mod]

theorem VRel.nil' {St : Nat → Prop} {m : Map} {L : Heap} {w : World} {c : Value} (h : VRel St m L w .nil c) : c = .slice none 0 0 := by cases h; rfl

theorem next_bits : Extern.allNextRows.lookup "math.Float64bits" = none := by kernel_rfl
theorem next_frombits : Extern.allNextRows.lookup "math.Float64frombits" = none := by kernel_rfl
theorem next_none : Extern.allNextRows.lookup "" = none := by kernel_rfl
theorem gen_bits : Extern.allGenericRows.lookup "math.Float64bits" = none := by kernel_rfl
theorem typed_bits : Extern.allTypedRows.lookup "math.Float64bits" = none := by kernel_rfl
theorem rows_bits : Extern.allRows.lookup "math.Float64bits" = some Extern.MathFloatBits.float64bits := by kernel_rfl
theorem gen_frombits : Extern.allGenericRows.lookup "math.Float64frombits" = none := by kernel_rfl
theorem typed_frombits : Extern.allTypedRows.lookup "math.Float64frombits" = none := by kernel_rfl
theorem rows_frombits : Extern.allRows.lookup "math.Float64frombits" = some Extern.MathFloatBits.float64frombits := by kernel_rfl

section
variable {P : Program} {St : Nat → Prop} {m : Map} {s : S} {a : Act} {o : Oper} {w : World} {K : V → Prop}

theorem h_un (op : UnOp) (t : TypeId) (x : Operand) (ho : o.op = .unOp op t x) (hs : SimS St m s a w) (hk : hv (.un op (Opd.of x)) s.ev K) : HOk P St m s.L a o w K := by
  have hx := ev_rel hs x
  simp only [hv] at hk
  split at hk
  · rename_i h; rw [h] at hx
    refine .mk _ _ ?_ hk (.d (.int _ _))
    simp only [execOp, ho, hx.int]; simp [Op.unary, Op.intArith]
  · rename_i h; rw [h] at hx
    obtain ⟨b, hb, hcb, hx'⟩ := hx.flt
    refine .mk _ (.float .f64 (b ^^^ 9223372036854775808)) ?_ hk (.d (.flt (Nat.xor_lt_two_pow hb (by decide)) ?_))
    · simp only [execOp, ho, hx']; rfl
    · subst hcb
      by_cases hn : isNan b = true
      · rw [cf_nan (by rw [isNan_neg]; exact hn), cf_nan hn]; rfl
      · have hn : isNan b = false := by simpa using hn
        rw [cf_not hn]
  · rename_i h; rw [h] at hx
    refine .mk _ _ ?_ hk (.d (.bool _))
    simp only [execOp, ho, hx.bool]; rfl
  · exact hk.elim

theorem h_icv (sT d : TypeId) (k : IntKind) (x : Operand) (hsT : ∃ q, P.underlying sT = some (.int q)) (hd : P.underlying d = some (.int k)) (ho : o.op = .convert sT d x) (hs : SimS St m s a w) (hk : hv (.icv k (Opd.of x)) s.ev K) : HOk P St m s.L a o w K := by
  have hx := ev_rel hs x
  simp only [hv] at hk
  split at hk
  · rename_i h; rw [h] at hx
    obtain ⟨q, hq⟩ := hsT
    refine .mk _ _ ?_ hk (.d (.int _ _))
    simp only [execOp, ho, hx.int]; simp [convert, run_underlying hq, run_underlying hd, Conv.intToInt]
  · exact hk.elim

theorem h_i2f (sT d : TypeId) (x : Operand) (hsT : ∃ q, P.underlying sT = some (.int q)) (hd : P.underlying d = some (.float .f64)) (ho : o.op = .convert sT d x) (hs : SimS St m s a w) (hk : hv (.i2f (Opd.of x)) s.ev K) : HOk P St m s.L a o w K := by
  have hx := ev_rel hs x
  simp only [hv] at hk
  split at hk
  · rename_i k n h; rw [h] at hx
    obtain ⟨q, hq⟩ := hsT
    refine .mk _ (.float .f64 (FloatKind.nearest .f64 n)) ?_ hk (.d (.flt (nearest_lt' n) (nearest_cf n)))
    simp only [execOp, ho, hx.int]; simp [convert, run_underlying hq, run_underlying hd, Conv.intToFloat]
  · exact hk.elim

theorem h_f2f (sT d : TypeId) (x : Operand) (hsT : P.underlying sT = some (.float .f64)) (hd : P.underlying d = some (.float .f64)) (ho : o.op = .convert sT d x) (hs : SimS St m s a w) (hk : hv (.f2f (Opd.of x)) s.ev K) : HOk P St m s.L a o w K := by
  have hx := ev_rel hs x
  simp only [hv] at hk
  split at hk
  · rename_i h; rw [h] at hx
    obtain ⟨b, hb, hcb, hx'⟩ := hx.flt
    refine .mk _ (.float .f64 b) ?_ hk (.d (.flt hb hcb))
    simp only [execOp, ho, hx']; simp [convert, run_underlying hsT, run_underlying hd, Conv.floatToFloat]
  · exact hk.elim

theorem map_rel (hs : SimS St m s a w) (xs : Array Operand) : LRel St m s.L w ((xs.toList.map Opd.of).map s.ev) (xs.map a.eval) := by
  refine ⟨by simp, fun j hj => ?_⟩
  have hj' : j < xs.size := by simpa using hj
  have := ev_rel hs xs[j]
  simpa [List.getD_eq_getElem?_getD, Array.getD_eq_getD_getElem?, hj'] using this

theorem allD_spec : ∀ (vs : List V) (ds : List D), allD vs = some ds → vs = ds.map V.d := by
  intro vs
  induction vs with
  | nil => intro ds h; simp [allD] at h; subst h; rfl
  | cons v vs ih =>
    intro ds h
    cases v <;> simp only [allD, reduceCtorEq] at h
    cases h' : allD vs with
    | none => simp [h'] at h
    | some r => simp [h'] at h; subst h; rw [ih r h']; rfl

theorem fnOf_rel {L : Heap} (f : FuncId) {first cap : List V} {fs cs : Array Value} (h1 : LRel St m L w first fs) (h2 : LRel St m L w cap cs) : VRel St m L w (fnOf f first cap) (.func (.func f) fs cs) := by
  unfold fnOf
  split
  · rename_i p q hp hq
    have e1 := allD_spec _ _ hp
    have e2 := allD_spec _ _ hq
    subst e1 e2
    refine .d (.fn (by simpa using h1.1) (by simpa using h2.1) (fun j hj => ?_) fun j hj => ?_)
    · have := h1.2 j (by simpa using hj)
      have e : (p.map V.d).getD j .any = .d (p.getD j default) := by simp [List.getD_eq_getElem?_getD, hj]
      rw [e] at this; cases this with | d h => exact h
    · have := h2.2 j (by simpa using hj)
      have e : (q.map V.d).getD j .any = .d (q.getD j default) := by simp [List.getD_eq_getElem?_getD, hj]
      rw [e] at this; cases this with | d h => exact h
  · exact .fn h1.1 h2.1 h1.2 h2.2

theorem h_mkfn (f : FuncId) (first cap : Array Operand) (ho : o.op = .makeFunc (.func f) first cap) (hs : SimS St m s a w) (hk : hv (.mkfn f (first.toList.map Opd.of) (cap.toList.map Opd.of)) s.ev K) : HOk P St m s.L a o w K := by
  have h1 := map_rel hs first
  have h2 := map_rel hs cap
  refine .mk _ (.func (.func f) (first.map a.eval) (cap.map a.eval)) ?_ hk (fnOf_rel f h1 h2)
  simp only [execOp, ho]; rfl

theorem h_ext (x : Operand) (i : Nat) (ho : o.op = .extract x i) (hs : SimS St m s a w) (hk : hv (.ext (Opd.of x) i) s.ev K) : HOk P St m s.L a o w K := by
  have hx := ev_rel hs x
  simp only [hv] at hk
  split at hk
  · rename_i xs h; rw [h] at hx
    obtain ⟨cs, hc, hsz, hr⟩ := hx.tup'
    obtain ⟨hi, hk⟩ := hk
    have hi' : i < cs.size := by omega
    refine .mk _ (cs.getD i undef) ?_ hk (hr i hi)
    simp only [execOp, ho, hc]; simp [Instr.extract, hi', Array.getD_eq_getD_getElem?]
  · exact hk.elim

theorem h_len (t : TypeId) (x : Operand) (e : TypeId) (ht : P.underlying t = some (.slice e)) (ho : o.op = .call { callee := .builtin .len, args := #[x], argTypes := #[t] }) (hs : SimS St m s a w) (hk : hv (.len (Opd.of x)) s.ev K) : HOk P St m s.L a o w K := by
  have hx := ev_rel hs x
  simp only [hv] at hk
  have run : ∀ b n c, a.eval x = .slice b n c → (execOp a.eval o).run P w = .ok (.value (.int .i64 n)) w := by
    intro b n c hc
    simp only [execOp, ho]
    simp [resolve, hc, invoke, builtin, Builtin.len_, run_underlying ht, goInt]
  split at hk
  · rename_i h; rw [h] at hx
    exact .mk _ _ (run _ _ _ hx.nil') hk (.d (.int _ _))
  · rename_i h; rw [h] at hx; obtain ⟨_, _, hc, _⟩ := hx.bor
    exact .mk _ _ (run _ _ _ hc) hk (.d (.int _ _))
  · rename_i h; rw [h] at hx; obtain ⟨_, _, _, _, _, hc, _⟩ := hx.sl'
    exact .mk _ _ (run _ _ _ hc) hk (.d (.int _ _))
  · exact hk.elim

theorem h_bits (f : FuncId) (fn : Func) (ats : Array TypeId) (x : Operand) (hf : P.funcs[f]? = some fn) (hb : fn.body.isNone = true) (hn : fn.name = "math.Float64bits" ∧ fn.origin = "") (ho : o.op = .call { callee := .value (.func f), args := #[x], argTypes := ats }) (hs : SimS St m s a w) (hk : hv (.bits (Opd.of x)) s.ev K) : HOk P St m s.L a o w K := by
  have hx := ev_rel hs x
  have main : ∀ b, a.eval x = .float .f64 b → K (.d (.int .u64 b)) → HOk P St m s.L a o w K := by
    intro b hx' hk
    refine .mk _ (.int .u64 b) ?_ hk (.d (.int _ _))
    have e1 := next_bits; have e0 := next_none
    have h1 : Extern.findNext fn = none := by simp only [Extern.findNext, hn.1, hn.2, e1, e0]; rfl
    have h2 : Extern.find fn = some Extern.MathFloatBits.float64bits := by simp only [Extern.find, hn.1, gen_bits, typed_bits, rows_bits]; rfl
    have h3 : (Extern.MathFloatBits.float64bits #[a.eval x]).run P w = .ok (.int .u64 b) w := by rw [hx']; rfl
    have hfe : a.eval (.func f) = .func (.func f) #[] #[] := rfl
    simp only [execOp, ho]
    simp [resolve, hfe, Deferred.ofValue, invoke, callFunc, hf, hn, h1, h2, h3]
    simpa using hb
  simp only [hv] at hk
  split at hk
  · rename_i p h; rw [h] at hx
    obtain ⟨b, hb', hcb, hx'⟩ := hx.flt
    obtain ⟨hnn, hk⟩ := hk
    have : cf b = b := by
      rw [← hcb, isNan_cf] at hnn; exact cf_not hnn
    rw [this] at hcb; subst hcb
    exact main b hx' hk
  · rename_i p h; rw [h] at hx
    exact main p hx.fraw.2 hk
  · exact hk.elim

theorem h_frombits (f : FuncId) (fn : Func) (ats : Array TypeId) (x : Operand) (hf : P.funcs[f]? = some fn) (hb : fn.body.isNone = true) (hn : fn.name = "math.Float64frombits" ∧ fn.origin = "") (ho : o.op = .call { callee := .value (.func f), args := #[x], argTypes := ats }) (hs : SimS St m s a w) (hk : hv (.frombits (Opd.of x)) s.ev K) : HOk P St m s.L a o w K := by
  have hx := ev_rel hs x
  simp only [hv] at hk
  split at hk
  · rename_i p h; rw [h] at hx
    obtain ⟨⟨h0, h64⟩, hk⟩ := hk
    refine .mk _ (.float .f64 p.toNat) ?_ hk (.d (.flt (by omega) rfl))
    have e1 := next_frombits; have e0 := next_none
    have h1 : Extern.findNext fn = none := by simp only [Extern.findNext, hn.1, hn.2, e1, e0]; rfl
    have h2 : Extern.find fn = some Extern.MathFloatBits.float64frombits := by simp only [Extern.find, hn.1, gen_frombits, typed_frombits, rows_frombits]; rfl
    have h3 : (Extern.MathFloatBits.float64frombits #[a.eval x]).run P w = .ok (.float .f64 p.toNat) w := by rw [hx.int]; rfl
    have hfe : a.eval (.func f) = .func (.func f) #[] #[] := rfl
    simp only [execOp, ho]
    simp [resolve, hfe, Deferred.ofValue, invoke, callFunc, hf, hn, h1, h2, h3]
    simpa using hb
  · exact hk.elim

theorem run_max2_int (k k' : IntKind) (p q : Int) : (Builtin.max2 (.int k p) (.int k' q)).run P w = .ok (.int k (if q > p then q else p)) w := rfl
theorem run_min2_int (k k' : IntKind) (p q : Int) : (Builtin.min2 (.int k p) (.int k' q)).run P w = .ok (.int k (if q < p then q else p)) w := rfl

theorem nan_drawn' (mx : Bool) (x y t : Nat) : isNan (Question.cut (.nanMinMax .f64 mx x y) t) = true ∧ Question.cut (.nanMinMax .f64 mx x y) t < 2 ^ 64 := nan_drawn t

theorem cf_eq_of {b : Nat} (h : isNan b = false) : cf b = b := cf_not h

theorem order_none_l {x y : Nat} (h : isNan x = true) : Ieee.double.order x y = none := by
  unfold Ieee.Format.order
  rw [← read_nan] at h
  cases hb : Ieee.double.read x <;> simp [hb, Ieee.Datum.isNaN] at h
  exact order_nan_l ..
theorem order_none_r {x y : Nat} (h : isNan y = true) : Ieee.double.order x y = none := by
  unfold Ieee.Format.order
  rw [← read_nan] at h
  cases hb : Ieee.double.read y <;> simp [hb, Ieee.Datum.isNaN] at h
  exact order_nan_r ..

theorem run_max2_flt (mx : Bool) (b d : Nat) (hb : b < 2 ^ 64) (hd : d < 2 ^ 64) : ∃ r w', ((if mx then Builtin.max2 else Builtin.min2) (.float .f64 b) (.float .f64 d)).run P w = .ok (.float .f64 r) w' ∧ Same w w' ∧ r < 2 ^ 64 ∧ cf r = fmaxmin mx (cf b) (cf d) := by
  have e : ∀ x y : Nat, FloatKind.f64.format.order x y = Ieee.double.order x y := fun _ _ => rfl
  have e2 : ∀ x : Nat, (FloatKind.f64.decode x) = Ieee.double.read x := fun _ => rfl
  unfold fmaxmin
  rw [order_cf]
  cases h : Ieee.double.order b d with
  | none =>
    refine ⟨Question.cut (.nanMinMax .f64 mx b d) (w.tape w.drawn (.nanMinMax .f64 mx b d)), { w with drawn := w.drawn + 1 }, ?_, .drew _ _, (nan_drawn' ..).2, ?_⟩
    · cases mx <;> simp [Builtin.max2, Builtin.min2, e, h] <;> intro hf <;> cases hf
    · exact cf_nan (nan_drawn' ..).1
  | some ord =>
    have nb : isNan b = false := by
      cases hn : isNan b with
      | false => rfl
      | true => rw [order_none_l hn] at h; cases h
    have nd : isNan d = false := by
      cases hn : isNan d with
      | false => rfl
      | true => rw [order_none_r hn] at h; cases h
    rw [cf_not nb, cf_not nd]
    cases ord with
    | lt => exact ⟨if mx then d else b, w, by cases mx <;> simp [Builtin.max2, Builtin.min2, e, h], .refl w, by cases mx <;> simp <;> omega, by cases mx <;> simp [cf_not nb, cf_not nd]⟩
    | gt => exact ⟨if mx then b else d, w, by cases mx <;> simp [Builtin.max2, Builtin.min2, e, h], .refl w, by cases mx <;> simp <;> omega, by cases mx <;> simp [cf_not nb, cf_not nd]⟩
    | eq =>
      refine ⟨if (Ieee.double.read b).neg = mx then d else b, w, ?_, .refl w, by split <;> omega, by split <;> simp [cf_not nb, cf_not nd]⟩
      cases mx <;> simp [Builtin.max2, Builtin.min2, e, e2, h] <;> cases (Ieee.double.read b).neg <;> simp

theorem run_max_ (ats : Array TypeId) (ty : TypeId) {p q v : Value} {w' : World} (h : (Builtin.max2 p q).run P w = .ok v w') : (Builtin.max_ ats ty #[p, q]).run P w = .ok v w' := by
  show ((Bind.bind (Builtin.max2 p q) fun r => pure r) : Sem Value).run P w = _
  rw [Sem.run_bind, h]; rfl
theorem run_min_ (ats : Array TypeId) (ty : TypeId) {p q v : Value} {w' : World} (h : (Builtin.min2 p q).run P w = .ok v w') : (Builtin.min_ ats ty #[p, q]).run P w = .ok v w' := by
  show ((Bind.bind (Builtin.min2 p q) fun r => pure r) : Sem Value).run P w = _
  rw [Sem.run_bind, h]; rfl

theorem h_mm (mx : Bool) (x y : Operand) (ats : Array TypeId) (ho : o.op = .call { callee := .builtin (if mx then .max else .min), args := #[x, y], argTypes := ats }) (hs : SimS St m s a w) (hk : hv (.mm mx (Opd.of x) (Opd.of y)) s.ev K) : HOk P St m s.L a o w K := by
  have hx := ev_rel hs x
  have hy := ev_rel hs y
  simp only [hv] at hk
  have run : ∀ v w', ((if mx then Builtin.max2 else Builtin.min2) (a.eval x) (a.eval y)).run P w = .ok v w' → (execOp a.eval o).run P w = .ok (.value v) w' := by
    intro v w' hr
    cases mx with
    | true =>
      have ho : o.op = .call { callee := .builtin .max, args := #[x, y], argTypes := ats } := ho
      simp only [execOp, ho]
      simp [resolve, invoke, builtin, run_max_ ats o.type hr]
    | false =>
      have ho : o.op = .call { callee := .builtin .min, args := #[x, y], argTypes := ats } := ho
      simp only [execOp, ho]
      simp [resolve, invoke, builtin, run_min_ ats o.type hr]
  split at hk
  · rename_i h1 h2; rw [h1] at hx; rw [h2] at hy
    refine .mk _ _ (run _ _ ?_) hk (.d (.int _ _))
    rw [hx.int, hy.int]; cases mx <;> rfl
  · rename_i h1 h2; rw [h1] at hx; rw [h2] at hy
    obtain ⟨b, hb, hcb, hx'⟩ := hx.flt
    obtain ⟨d, hd, hcd, hy'⟩ := hy.flt
    subst hcb hcd
    obtain ⟨r, w', hr, hsame, hlt, hcf⟩ := run_max2_flt (P := P) (w := w) mx b d hb hd
    exact ⟨_, .float .f64 r, w', run _ _ (by rw [hx', hy']; exact hr), hsame, hk, .d (.flt hlt hcf)⟩
  · exact hk.elim

theorem h_mm3 (x y z : Operand) (ats : Array TypeId) (ho : o.op = .call { callee := .builtin .min, args := #[x, y, z], argTypes := ats }) (hs : SimS St m s a w) (hk : hv (.mm3 (Opd.of x) (Opd.of y) (Opd.of z)) s.ev K) : HOk P St m s.L a o w K := by
  have hx := ev_rel hs x
  have hy := ev_rel hs y
  have hz := ev_rel hs z
  simp only [hv] at hk
  split at hk
  · rename_i k a _ b _ c h1 h2 h3
    rw [h1] at hx; rw [h2] at hy; rw [h3] at hz
    obtain hx := hx.int
    obtain hy := hy.int
    obtain hz := hz.int
    refine .mk _ (.int k (if c < (if b < a then b else a) then c else (if b < a then b else a))) ?_ hk (.d (.int _ _))
    simp only [execOp, ho]
    simp [resolve, invoke, builtin, hx, hy, hz, Builtin.min_, Builtin.min2]
  · exact hk.elim

end
end Go.Ab
