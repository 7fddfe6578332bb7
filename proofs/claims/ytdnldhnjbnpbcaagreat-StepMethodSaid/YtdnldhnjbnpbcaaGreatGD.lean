/- Part 4: E, F, G, H, I, J. -/
import Derived.Test.YtdnldhnjbnpbcaaGreatGC
import Derived.KernelRfl
/- What a piece that asks nothing of memory promises, the operation keeps: the rest. -/
namespace Go.Ab
set_option linter.unusedSimpArgs false
set_option linter.unusedVariables false
open Go
theorem add_none (b off n : Nat) : (Addr.add ⟨b, off, none⟩ n) = ⟨b, off + n, none⟩ := by
  unfold Addr.add; split
  · rename_i h; subst h; rfl
  · rfl
theorem nearest_not_nan (neg : Bool) (mag : Nat) (place : Int) : isNan (Ieee.double.nearest neg mag place) = false := by
  have h2 : Ieee.double.signWeight = 9223372036854775808 := rfl
  have h3 : Ieee.double.infRung = 9218868437227405312 := rfl
  have key : ∀ (neg : Bool) (r : Nat), r ≤ 9218868437227405312 → isNan (Ieee.double.word neg r) = false := by
    intro neg r hr
    unfold isNan Ieee.Format.word
    rw [h2, decide_eq_false_iff_not]
    cases neg
    · simp only [Bool.false_eq_true, if_false]; omega
    · simp only [if_true]; omega
  unfold Ieee.Format.nearest
  split
  · exact key _ _ (by decide)
  · dsimp only
    refine key _ _ ?_
    rw [h3]; exact Nat.min_le_right _ _
theorem nearest_lt' (n : Int) : FloatKind.nearest .f64 n < 2 ^ 64 := by
  have := Ieee.Format.nearest_lt Ieee.double (decide (n < 0)) n.natAbs 0
  simpa [FloatKind.nearest, FloatKind.encode, FloatKind.format, Ieee.Format.write, Ieee.Format.width, Ieee.double] using this
theorem nearest_cf (n : Int) : cf (FloatKind.nearest .f64 n) = FloatKind.nearest .f64 n :=
  cf_not (nearest_not_nan (decide (n < 0)) n.natAbs 0)
theorem xor_mod (b : Nat) : (b ^^^ 9223372036854775808) % 9223372036854775808 = b % 9223372036854775808 := by
  have := @Nat.xor_mod_two_pow b 9223372036854775808 63
  simpa using this
theorem isNan_neg (b : Nat) : isNan (b ^^^ 9223372036854775808) = isNan b := by unfold isNan; rw [xor_mod]
theorem VRel.nil' {St : Nat → Prop} {m : Map} {L : Heap} {w : World} {c : Value} (h : VRel St m L w .nil c) : c = .slice none 0 0 := by cases h; rfl
theorem next_bits : Extern.allNextRows.lookup "math.Float64bits" = none := by kernel_rfl
theorem next_frombits : Extern.allNextRows.lookup "math.Float64frombits" = none := by kernel_rfl
theorem next_none : Extern.allNextRows.lookup "" = none := by kernel_rfl
theorem gen_bits : Extern.allGenericRows.lookup "math.Float64bits" = none := by kernel_rfl
theorem typed_bits : Extern.allTypedRows.lookup "math.Float64bits" = none := by kernel_rfl
theorem rows_bits : Extern.allRows.lookup "math.Float64bits" = some Extern.MathFloatBits.float64bits := by kernel_rfl
theorem gen_frombits : Extern.allGenericRows.lookup "math.Float64frombits" = none := by kernel_rfl
theorem typed_frombits : Extern.allTypedRows.lookup "math.Float64frombits" = none := by kernel_rfl
theorem rows_frombits : Extern.allRows.lookup "math.Float64frombits" = some Extern.MathFloatBits.float64frombits := by kernel_rfl
section
variable {P : Program} {St : Nat → Prop} {m : Map} {s : S} {a : Act} {o : Oper} {w : World} {K : V → Prop}
theorem h_un (op : UnOp) (t : TypeId) (x : Operand) (ho : o.op = .unOp op t x) (hs : SimS St m s a w) (hk : hv (.un op (Opd.of x)) s.ev K) : HOk P St m s.L a o w K := by
  have hx := ev_rel hs x
  simp only [hv] at hk
  split at hk
  · rename_i h; rw [h] at hx
    refine .mk _ _ ?_ hk (.d (.int _ _))
    simp only [execOp, ho, hx.int]; simp [Op.unary, Op.intArith]
  · rename_i h; rw [h] at hx
    obtain ⟨b, hb, hcb, hx'⟩ := hx.flt
    refine .mk _ (.float .f64 (b ^^^ 9223372036854775808)) ?_ hk (.d (.flt (Nat.xor_lt_two_pow hb (by decide)) ?_))
    · simp only [execOp, ho, hx']; rfl
    · subst hcb
      by_cases hn : isNan b = true
      · rw [cf_nan (by rw [isNan_neg]; exact hn), cf_nan hn]; rfl
      · have hn : isNan b = false := by simpa using hn
        rw [cf_not hn]
  · rename_i h; rw [h] at hx
    refine .mk _ _ ?_ hk (.d (.bool _))
    simp only [execOp, ho, hx.bool]; rfl
  · exact hk.elim
theorem h_icv (sT d : TypeId) (k : IntKind) (x : Operand) (hsT : ∃ q, P.underlying sT = some (.int q)) (hd : P.underlying d = some (.int k)) (ho : o.op = .convert sT d x) (hs : SimS St m s a w) (hk : hv (.icv k (Opd.of x)) s.ev K) : HOk P St m s.L a o w K := by
  have hx := ev_rel hs x
  simp only [hv] at hk
  split at hk
  · rename_i h; rw [h] at hx
    obtain ⟨q, hq⟩ := hsT
    refine .mk _ _ ?_ hk (.d (.int _ _))
    simp only [execOp, ho, hx.int]; simp [convert, run_underlying hq, run_underlying hd, Conv.intToInt]
  · exact hk.elim
theorem h_i2f (sT d : TypeId) (x : Operand) (hsT : ∃ q, P.underlying sT = some (.int q)) (hd : P.underlying d = some (.float .f64)) (ho : o.op = .convert sT d x) (hs : SimS St m s a w) (hk : hv (.i2f (Opd.of x)) s.ev K) : HOk P St m s.L a o w K := by
  have hx := ev_rel hs x
  simp only [hv] at hk
  split at hk
  · rename_i k n h; rw [h] at hx
    obtain ⟨q, hq⟩ := hsT
    refine .mk _ (.float .f64 (FloatKind.nearest .f64 n)) ?_ hk (.d (.flt (nearest_lt' n) (nearest_cf n)))
    simp only [execOp, ho, hx.int]; simp [convert, run_underlying hq, run_underlying hd, Conv.intToFloat]
  · exact hk.elim
theorem h_f2f (sT d : TypeId) (x : Operand) (hsT : P.underlying sT = some (.float .f64)) (hd : P.underlying d = some (.float .f64)) (ho : o.op = .convert sT d x) (hs : SimS St m s a w) (hk : hv (.f2f (Opd.of x)) s.ev K) : HOk P St m s.L a o w K := by
  have hx := ev_rel hs x
  simp only [hv] at hk
  split at hk
  · rename_i h; rw [h] at hx
    obtain ⟨b, hb, hcb, hx'⟩ := hx.flt
    refine .mk _ (.float .f64 b) ?_ hk (.d (.flt hb hcb))
    simp only [execOp, ho, hx']; simp [convert, run_underlying hsT, run_underlying hd, Conv.floatToFloat]
  · exact hk.elim
theorem map_rel (hs : SimS St m s a w) (xs : Array Operand) : LRel St m s.L w ((xs.toList.map Opd.of).map s.ev) (xs.map a.eval) := by
  refine ⟨by simp, fun j hj => ?_⟩
  have hj' : j < xs.size := by simpa using hj
  have := ev_rel hs xs[j]
  simpa [List.getD_eq_getElem?_getD, Array.getD_eq_getD_getElem?, hj'] using this
theorem allD_spec : ∀ (vs : List V) (ds : List D), allD vs = some ds → vs = ds.map V.d := by
  intro vs
  induction vs with
  | nil => intro ds h; simp [allD] at h; subst h; rfl
  | cons v vs ih =>
    intro ds h
    cases v <;> simp only [allD, reduceCtorEq] at h
    cases h' : allD vs with
    | none => simp [h'] at h
    | some r => simp [h'] at h; subst h; rw [ih r h']; rfl
theorem fnOf_rel {L : Heap} (f : FuncId) {first cap : List V} {fs cs : Array Value} (h1 : LRel St m L w first fs) (h2 : LRel St m L w cap cs) : VRel St m L w (fnOf f first cap) (.func (.func f) fs cs) := by
  unfold fnOf
  split
  · rename_i p q hp hq
    have e1 := allD_spec _ _ hp
    have e2 := allD_spec _ _ hq
    subst e1 e2
    refine .d (.fn (by simpa using h1.1) (by simpa using h2.1) (fun j hj => ?_) fun j hj => ?_)
    · have := h1.2 j (by simpa using hj)
      have e : (p.map V.d).getD j .any = .d (p.getD j default) := by simp [List.getD_eq_getElem?_getD, hj]
      rw [e] at this; cases this with | d h => exact h
    · have := h2.2 j (by simpa using hj)
      have e : (q.map V.d).getD j .any = .d (q.getD j default) := by simp [List.getD_eq_getElem?_getD, hj]
      rw [e] at this; cases this with | d h => exact h
  · exact .fn h1.1 h2.1 h1.2 h2.2
theorem h_mkfn (f : FuncId) (first cap : Array Operand) (ho : o.op = .makeFunc (.func f) first cap) (hs : SimS St m s a w) (hk : hv (.mkfn f (first.toList.map Opd.of) (cap.toList.map Opd.of)) s.ev K) : HOk P St m s.L a o w K := by
  have h1 := map_rel hs first
  have h2 := map_rel hs cap
  refine .mk _ (.func (.func f) (first.map a.eval) (cap.map a.eval)) ?_ hk (fnOf_rel f h1 h2)
  simp only [execOp, ho]; rfl
theorem h_ext (x : Operand) (i : Nat) (ho : o.op = .extract x i) (hs : SimS St m s a w) (hk : hv (.ext (Opd.of x) i) s.ev K) : HOk P St m s.L a o w K := by
  have hx := ev_rel hs x
  simp only [hv] at hk
  split at hk
  · rename_i xs h; rw [h] at hx
    obtain ⟨cs, hc, hsz, hr⟩ := hx.tup'
    obtain ⟨hi, hk⟩ := hk
    have hi' : i < cs.size := by omega
    refine .mk _ (cs.getD i undef) ?_ hk (hr i hi)
    simp only [execOp, ho, hc]; simp [Instr.extract, hi', Array.getD_eq_getD_getElem?]
  · exact hk.elim
theorem h_len (t : TypeId) (x : Operand) (e : TypeId) (ht : P.underlying t = some (.slice e)) (ho : o.op = .call { callee := .builtin .len, args := #[x], argTypes := #[t] }) (hs : SimS St m s a w) (hk : hv (.len (Opd.of x)) s.ev K) : HOk P St m s.L a o w K := by
  have hx := ev_rel hs x
  simp only [hv] at hk
  have run : ∀ b n c, a.eval x = .slice b n c → (execOp a.eval o).run P w = .ok (.value (.int .i64 n)) w := by
    intro b n c hc
    simp only [execOp, ho]
    simp [resolve, hc, invoke, builtin, Builtin.len_, run_underlying ht, goInt]
  split at hk
  · rename_i h; rw [h] at hx
    exact .mk _ _ (run _ _ _ hx.nil') hk (.d (.int _ _))
  · rename_i h; rw [h] at hx; obtain ⟨_, _, hc, _⟩ := hx.bor
    exact .mk _ _ (run _ _ _ hc) hk (.d (.int _ _))
  · rename_i h; rw [h] at hx; obtain ⟨_, _, _, _, _, hc, _⟩ := hx.sl'
    exact .mk _ _ (run _ _ _ hc) hk (.d (.int _ _))
  · exact hk.elim
theorem h_bits (f : FuncId) (fn : Func) (ats : Array TypeId) (x : Operand) (hf : P.funcs[f]? = some fn) (hb : fn.body.isNone = true) (hn : fn.name = "math.Float64bits" ∧ fn.origin = "") (ho : o.op = .call { callee := .value (.func f), args := #[x], argTypes := ats }) (hs : SimS St m s a w) (hk : hv (.bits (Opd.of x)) s.ev K) : HOk P St m s.L a o w K := by
  have hx := ev_rel hs x
  have main : ∀ b, a.eval x = .float .f64 b → K (.d (.int .u64 b)) → HOk P St m s.L a o w K := by
    intro b hx' hk
    refine .mk _ (.int .u64 b) ?_ hk (.d (.int _ _))
    have e1 := next_bits; have e0 := next_none
    have h1 : Extern.findNext fn = none := by simp only [Extern.findNext, hn.1, hn.2, e1, e0]; rfl
    have h2 : Extern.find fn = some Extern.MathFloatBits.float64bits := by simp only [Extern.find, hn.1, gen_bits, typed_bits, rows_bits]; rfl
    have h3 : (Extern.MathFloatBits.float64bits #[a.eval x]).run P w = .ok (.int .u64 b) w := by rw [hx']; rfl
    have hfe : a.eval (.func f) = .func (.func f) #[] #[] := rfl
    simp only [execOp, ho]
    simp [resolve, hfe, Deferred.ofValue, invoke, callFunc, hf, hn, h1, h2, h3]
    simpa using hb
  simp only [hv] at hk
  split at hk
  · rename_i p h; rw [h] at hx
    obtain ⟨b, hb', hcb, hx'⟩ := hx.flt
    obtain ⟨hnn, hk⟩ := hk
    have : cf b = b := by
      rw [← hcb, isNan_cf] at hnn; exact cf_not hnn
    rw [this] at hcb; subst hcb
    exact main b hx' hk
  · rename_i p h; rw [h] at hx
    exact main p hx.fraw.2 hk
  · exact hk.elim
theorem h_frombits (f : FuncId) (fn : Func) (ats : Array TypeId) (x : Operand) (hf : P.funcs[f]? = some fn) (hb : fn.body.isNone = true) (hn : fn.name = "math.Float64frombits" ∧ fn.origin = "") (ho : o.op = .call { callee := .value (.func f), args := #[x], argTypes := ats }) (hs : SimS St m s a w) (hk : hv (.frombits (Opd.of x)) s.ev K) : HOk P St m s.L a o w K := by
  have hx := ev_rel hs x
  simp only [hv] at hk
  split at hk
  · rename_i p h; rw [h] at hx
    obtain ⟨⟨h0, h64⟩, hk⟩ := hk
    refine .mk _ (.float .f64 p.toNat) ?_ hk (.d (.flt (by omega) rfl))
    have e1 := next_frombits; have e0 := next_none
    have h1 : Extern.findNext fn = none := by simp only [Extern.findNext, hn.1, hn.2, e1, e0]; rfl
    have h2 : Extern.find fn = some Extern.MathFloatBits.float64frombits := by simp only [Extern.find, hn.1, gen_frombits, typed_frombits, rows_frombits]; rfl
    have h3 : (Extern.MathFloatBits.float64frombits #[a.eval x]).run P w = .ok (.float .f64 p.toNat) w := by rw [hx.int]; rfl
    have hfe : a.eval (.func f) = .func (.func f) #[] #[] := rfl
    simp only [execOp, ho]
    simp [resolve, hfe, Deferred.ofValue, invoke, callFunc, hf, hn, h1, h2, h3]
    simpa using hb
  · exact hk.elim
theorem nan_drawn' (mx : Bool) (x y t : Nat) : isNan (Question.cut (.nanMinMax .f64 mx x y) t) = true ∧ Question.cut (.nanMinMax .f64 mx x y) t < 2 ^ 64 := nan_drawn t
theorem order_none_l {x y : Nat} (h : isNan x = true) : Ieee.double.order x y = none := by
  unfold Ieee.Format.order
  rw [← read_nan] at h
  cases hb : Ieee.double.read x <;> simp [hb, Ieee.Datum.isNaN] at h
  exact order_nan_l ..
theorem order_none_r {x y : Nat} (h : isNan y = true) : Ieee.double.order x y = none := by
  unfold Ieee.Format.order
  rw [← read_nan] at h
  cases hb : Ieee.double.read y <;> simp [hb, Ieee.Datum.isNaN] at h
  exact order_nan_r ..
theorem run_max2_flt (mx : Bool) (b d : Nat) (hb : b < 2 ^ 64) (hd : d < 2 ^ 64) : ∃ r w', ((if mx then Builtin.max2 else Builtin.min2) (.float .f64 b) (.float .f64 d)).run P w = .ok (.float .f64 r) w' ∧ Same w w' ∧ r < 2 ^ 64 ∧ cf r = fmaxmin mx (cf b) (cf d) := by
  have e : ∀ x y : Nat, FloatKind.f64.format.order x y = Ieee.double.order x y := fun _ _ => rfl
  have e2 : ∀ x : Nat, (FloatKind.f64.decode x) = Ieee.double.read x := fun _ => rfl
  unfold fmaxmin
  rw [order_cf]
  cases h : Ieee.double.order b d with
  | none =>
    refine ⟨Question.cut (.nanMinMax .f64 mx b d) (w.tape w.drawn (.nanMinMax .f64 mx b d)), { w with drawn := w.drawn + 1 }, ?_, .drew _ _, (nan_drawn' ..).2, ?_⟩
    · cases mx <;> simp [Builtin.max2, Builtin.min2, e, h] <;> intro hf <;> cases hf
    · exact cf_nan (nan_drawn' ..).1
  | some ord =>
    have nb : isNan b = false := by
      cases hn : isNan b with
      | false => rfl
      | true => rw [order_none_l hn] at h; cases h
    have nd : isNan d = false := by
      cases hn : isNan d with
      | false => rfl
      | true => rw [order_none_r hn] at h; cases h
    rw [cf_not nb, cf_not nd]
    cases ord with
    | lt => exact ⟨if mx then d else b, w, by cases mx <;> simp [Builtin.max2, Builtin.min2, e, h], .refl w, by cases mx <;> simp <;> omega, by cases mx <;> simp [cf_not nb, cf_not nd]⟩
    | gt => exact ⟨if mx then b else d, w, by cases mx <;> simp [Builtin.max2, Builtin.min2, e, h], .refl w, by cases mx <;> simp <;> omega, by cases mx <;> simp [cf_not nb, cf_not nd]⟩
    | eq =>
      refine ⟨if (Ieee.double.read b).neg = mx then d else b, w, ?_, .refl w, by split <;> omega, by split <;> simp [cf_not nb, cf_not nd]⟩
      cases mx <;> simp [Builtin.max2, Builtin.min2, e, e2, h] <;> cases (Ieee.double.read b).neg <;> simp
theorem run_max_ (ats : Array TypeId) (ty : TypeId) {p q v : Value} {w' : World} (h : (Builtin.max2 p q).run P w = .ok v w') : (Builtin.max_ ats ty #[p, q]).run P w = .ok v w' := by
  show ((Bind.bind (Builtin.max2 p q) fun r => pure r) : Sem Value).run P w = _
  rw [Sem.run_bind, h]; rfl
theorem run_min_ (ats : Array TypeId) (ty : TypeId) {p q v : Value} {w' : World} (h : (Builtin.min2 p q).run P w = .ok v w') : (Builtin.min_ ats ty #[p, q]).run P w = .ok v w' := by
  show ((Bind.bind (Builtin.min2 p q) fun r => pure r) : Sem Value).run P w = _
  rw [Sem.run_bind, h]; rfl
theorem h_mm (mx : Bool) (x y : Operand) (ats : Array TypeId) (ho : o.op = .call { callee := .builtin (if mx then .max else .min), args := #[x, y], argTypes := ats }) (hs : SimS St m s a w) (hk : hv (.mm mx (Opd.of x) (Opd.of y)) s.ev K) : HOk P St m s.L a o w K := by
  have hx := ev_rel hs x
  have hy := ev_rel hs y
  simp only [hv] at hk
  have run : ∀ v w', ((if mx then Builtin.max2 else Builtin.min2) (a.eval x) (a.eval y)).run P w = .ok v w' → (execOp a.eval o).run P w = .ok (.value v) w' := by
    intro v w' hr
    cases mx with
    | true =>
      have ho : o.op = .call { callee := .builtin .max, args := #[x, y], argTypes := ats } := ho
      simp only [execOp, ho]
      simp [resolve, invoke, builtin, run_max_ ats o.type hr]
    | false =>
      have ho : o.op = .call { callee := .builtin .min, args := #[x, y], argTypes := ats } := ho
      simp only [execOp, ho]
      simp [resolve, invoke, builtin, run_min_ ats o.type hr]
  split at hk
  · rename_i h1 h2; rw [h1] at hx; rw [h2] at hy
    refine .mk _ _ (run _ _ ?_) hk (.d (.int _ _))
    rw [hx.int, hy.int]; cases mx <;> rfl
  · rename_i h1 h2; rw [h1] at hx; rw [h2] at hy
    obtain ⟨b, hb, hcb, hx'⟩ := hx.flt
    obtain ⟨d, hd, hcd, hy'⟩ := hy.flt
    subst hcb hcd
    obtain ⟨r, w', hr, hsame, hlt, hcf⟩ := run_max2_flt (P := P) (w := w) mx b d hb hd
    exact ⟨_, .float .f64 r, w', run _ _ (by rw [hx', hy']; exact hr), hsame, hk, .d (.flt hlt hcf)⟩
  · exact hk.elim
theorem h_mm3 (x y z : Operand) (ats : Array TypeId) (ho : o.op = .call { callee := .builtin .min, args := #[x, y, z], argTypes := ats }) (hs : SimS St m s a w) (hk : hv (.mm3 (Opd.of x) (Opd.of y) (Opd.of z)) s.ev K) : HOk P St m s.L a o w K := by
  have hx := ev_rel hs x
  have hy := ev_rel hs y
  have hz := ev_rel hs z
  simp only [hv] at hk
  split at hk
  · rename_i k a _ b _ c h1 h2 h3
    rw [h1] at hx; rw [h2] at hy; rw [h3] at hz
    obtain hx := hx.int
    obtain hy := hy.int
    obtain hz := hz.int
    refine .mk _ (.int k (if c < (if b < a then b else a) then c else (if b < a then b else a))) ?_ hk (.d (.int _ _))
    simp only [execOp, ho]
    simp [resolve, invoke, builtin, hx, hy, hz, Builtin.min_, Builtin.min2]
  · exact hk.elim
end
end Go.Ab

/- What a piece that asks nothing of memory promises, the operation keeps: structs, arrays, places. -/
namespace Go.Ab
set_option linter.unusedSimpArgs false
set_option linter.unusedVariables false
open Go
section
variable {P : Program} {St : Nat → Prop} {m : Map} {s : S} {a : Act} {o : Oper} {w : World} {K : V → Prop} {L : Heap}
theorem LRel.extract {xs : List V} {cs : Array Value} (h : LRel St m L w xs cs) (off n : Nat) (hn : off + n ≤ xs.length) :
    LRel St m L w ((xs.drop off).take n) (cs.extract off (off + n)) := by
  have h1 := h.1
  refine ⟨by simp; omega, fun j hj => ?_⟩
  have hj' : j < n := by simp at hj; omega
  have e1 : ((xs.drop off).take n).getD j .any = xs.getD (off + j) .any := by
    simp [List.getD_eq_getElem?_getD, hj']
  have e2 : (cs.extract off (off + n)).getD j undef = cs.getD (off + j) undef := by
    have : j < min (off + n) cs.size - off := by omega
    have h3 : off + j < cs.size := by omega
    simp [Array.getD_eq_getD_getElem?, this, h3]
  rw [e1, e2]; exact h.2 _ (by omega)
theorem run_szT {t n : Nat} (h : szT P t = some n) : (sizeOf t).run P w = .ok n w := by
  unfold szT at h
  cases hi : P.info? t with
  | none => simp [hi] at h
  | some i => simp [hi] at h; simp [sizeOf, typeInfo, hi, h]
theorem run_aggT {t : Nat} {g : Bool} (h : aggT P t = some g) : (isAgg t).run P w = .ok g w := by
  unfold aggT at h
  cases hi : P.underlying t with
  | none => simp [hi] at h
  | some d =>
    rw [hi] at h
    simp only [isAgg, Sem.run_bind, run_underlying hi, Result.andThen]
    cases d <;> simp at h <;> subst h <;> rfl
theorem run_part {t n off : Nat} {g : Bool} {xs : List V} {cs : Array Value} (hg : aggT P t = some g) (hn : szT P t = some n) (h1 : g = true ∨ n = 1) (h0 : 0 < n)
    (h : LRel St m L w xs cs) (hl : off + n ≤ xs.length) : ∃ c, (part t cs off).run P w = .ok c w ∧ VRel St m L w (ldv g n off xs) c := by
  have hsz := h.1
  cases g with
  | true =>
    refine ⟨.agg (cs.extract off (off + n)), ?_, ?_⟩
    · simp [part, run_aggT hg, run_szT hn]
    · simpa [ldv] using (h.extract off n hl).agg
  | false =>
    obtain rfl : n = 1 := by simpa using h1
    have hlt : off < cs.size := by omega
    refine ⟨cs.getD off undef, ?_, ?_⟩
    · simp [part, run_aggT hg, hlt, Array.getD_eq_getD_getElem?]
    · simpa [ldv] using h.2 off (by omega)
theorem h_fld (t : TypeId) (x : Operand) (i : Nat) (fields : Array Field) (fd : Field) (n : Nat) (g : Bool) (ht : P.underlying t = some (.struct fields)) (hf : fields[i]? = some fd)
    (hn : szT P fd.type = some n) (hg : aggT P fd.type = some g) (h1 : g = true ∨ n = 1) (ho : o.op = .field t x i) (hs : SimS St m s a w) (hk : hv (.fld (Opd.of x) fd.offset n g) s.ev K) : HOk P St m s.L a o w K := by
  have hx := ev_rel hs x
  simp only [hv] at hk
  split at hk
  · rename_i xs h; rw [h] at hx
    obtain ⟨cs, hc, hsz, hr⟩ := hx.agg'
    obtain ⟨hl, h0, hk⟩ := hk
    obtain ⟨c, hrun, hrel⟩ := run_part (P := P) hg hn h1 h0 ⟨hsz, hr⟩ hl
    refine .mk _ c ?_ hk hrel
    simp only [execOp, ho, hc]
    simp [Instr.field, run_underlying ht, hf, asAgg, hrun]
  · exact hk.elim
theorem h_idxv (t : TypeId) (x ix : Operand) (len : Nat) (e : TypeId) (n : Nat) (g : Bool) (ht : P.underlying t = some (.array len e))
    (hn : szT P e = some n) (hg : aggT P e = some g) (h1 : g = true ∨ n = 1) (ho : o.op = .index t x ix) (hs : SimS St m s a w) (hk : hv (.idxv (Opd.of x) (Opd.of ix) len n g) s.ev K) : HOk P St m s.L a o w K := by
  have hx := ev_rel hs x
  have hi := ev_rel hs ix
  simp only [hv] at hk
  split at hk
  · rename_i xs k q h h2; rw [h] at hx; rw [h2] at hi
    obtain ⟨cs, hc, hsz, hr⟩ := hx.agg'
    obtain ⟨⟨hq0, hq1⟩, hl, h0, hk⟩ := hk
    obtain ⟨c, hrun, hrel⟩ := run_part (P := P) (off := q.toNat * n) hg hn h1 h0 ⟨hsz, hr⟩ hl
    refine .mk _ c ?_ hk hrel
    simp only [execOp, ho, hc, hi.int]
    simp [Instr.index, asIntOf, run_underlying ht, run_szT hn, hq0, hq1, hrun]
  · exact hk.elim
theorem h_padd (t : TypeId) (x : Operand) (i : Nat) (fields : Array Field) (fd : Field) (n : Nat) (ht : P.underlying t = some (.struct fields)) (hf : fields[i]? = some fd)
    (hn : szT P fd.type = some (n + 1)) (ho : o.op = .fieldAddr t x i) (hs : SimS St m s a w) (hk : hv (.padd (Opd.of x) fd.offset) s.ev K) : HOk P St m s.L a o w K := by
  have hx := ev_rel hs x
  simp only [hv] at hk
  have run : ∀ ad, a.eval x = .pointer (some ad) → (execOp a.eval o).run P w = .ok (.value (.pointer (some (ad.add fd.offset)))) w := by
    intro ad hc
    simp only [execOp, ho, hc]
    simp [Instr.fieldAt, run_underlying ht, hf, Instr.sureAddr, fieldPlace, run_szT hn]
  split at hk
  · rename_i h; rw [h] at hx
    obtain ⟨cells, ad, hL, hv, hc, hf⟩ := hx.ptr'
    refine .mk _ _ (run _ hc) hk (.ptr hL hv _ rfl fun e => ?_)
    obtain ⟨b, C, hm, rfl⟩ := hf e
    exact ⟨b, C, hm, add_none ..⟩
  · rename_i cells h; rw [h] at hx
    obtain ⟨blk, off, cell, hc, hst, h1, h2⟩ := hx.bptr
    obtain ⟨hle, hk⟩ := hk
    refine .mk _ _ (run _ hc) hk ?_
    rw [add_none]
    refine .d (.bptr (fun j => cell (fd.offset + j)) hst (fun j hj => ?_) fun j hj => ?_)
    · rw [Nat.add_assoc]; exact h1 _ (by simp at hj; omega)
    · have := h2 (fd.offset + j) (by simp at hj; omega)
      simpa [List.getD_eq_getElem?_getD] using this
  · exact hk.elim
theorem h_idxa (t : TypeId) (x ix : Operand) (len : Nat) (e : TypeId) (n : Nat) (ht : P.underlying t = some (.array len e)) (hn : szT P e = some n)
    (ho : o.op = .indexAddr t x ix) (hs : SimS St m s a w) (hk : hv (.idxa (Opd.of x) (Opd.of ix) len n) s.ev K) : HOk P St m s.L a o w K := by
  have hx := ev_rel hs x
  have hi := ev_rel hs ix
  simp only [hv] at hk
  have run : ∀ ad k q, a.eval x = .pointer (some ad) → a.eval ix = .int k q → 0 ≤ q → q < len → (execOp a.eval o).run P w = .ok (.value (.pointer (some (ad.add (q.toNat * n))))) w := by
    intro ad k q hc hi h0 h1
    simp only [execOp, ho, hc, hi]
    simp [Instr.indexAt, asIntOf, run_underlying ht, Instr.sureAddr, run_szT hn, h0, h1]
  split at hk
  · rename_i X r off ver k q h h2; rw [h] at hx; rw [h2] at hi
    obtain ⟨cells, ad, hL, hv, hc, hf⟩ := hx.ptr'
    obtain ⟨⟨h0, h1⟩, hk⟩ := hk
    refine .mk _ _ (run _ _ _ hc hi.int h0 h1) hk (.ptr hL hv _ rfl fun e => ?_)
    obtain ⟨b, C, hm, rfl⟩ := hf e
    exact ⟨b, C, hm, add_none ..⟩
  · rename_i cells k q h h2; rw [h] at hx; rw [h2] at hi
    obtain ⟨blk, off, cell, hc, hst, h1, h2⟩ := hx.bptr
    obtain ⟨⟨hq0, hq1⟩, hle, hk⟩ := hk
    refine .mk _ _ (run _ _ _ hc hi.int hq0 hq1) hk ?_
    rw [add_none]
    refine .d (.bptr (fun j => cell (q.toNat * n + j)) hst (fun j hj => ?_) fun j hj => ?_)
    · rw [Nat.add_assoc]; exact h1 _ (by simp at hj; omega)
    · have := h2 (q.toNat * n + j) (by simp at hj; omega)
      simpa [List.getD_eq_getElem?_getD] using this
  · exact hk.elim
theorem h_idx (t : TypeId) (x ix : Operand) (e : TypeId) (n : Nat) (ht : P.underlying t = some (.slice e)) (hn : szT P e = some n)
    (ho : o.op = .indexAddr t x ix) (hs : SimS St m s a w) (hk : hv (.idx (Opd.of x) (Opd.of ix) n) s.ev K) : HOk P St m s.L a o w K := by
  have hx := ev_rel hs x
  have hi := ev_rel hs ix
  simp only [hv] at hk
  have run : ∀ ad len cap k q, a.eval x = .slice (some ad) len cap → a.eval ix = .int k q → 0 ≤ q → q < len → (execOp a.eval o).run P w = .ok (.value (.pointer (some (ad.add (q.toNat * n))))) w := by
    intro ad len cap k q hc hi h0 h1
    simp only [execOp, ho, hc, hi]
    simp [Instr.indexAt, asIntOf, run_underlying ht, run_szT hn, h0, h1]
  split at hk
  · rename_i len get k q h h2; rw [h] at hx; rw [h2] at hi
    obtain ⟨b, cap, hc, hr⟩ := hx.bor
    obtain ⟨⟨hq0, hq1⟩, hle, hk⟩ := hk
    obtain ⟨blk, off, sz, cell, rfl, hst, h1, h2, h3⟩ := hr (by omega)
    have hsz : sz = n := by rw [← h1 q.toNat (by omega)]; exact hle
    subst hsz
    refine .mk _ _ (run _ _ _ _ _ hc hi.int hq0 hq1) hk ?_
    rw [add_none]
    refine .d (.bptr (fun j => cell q.toNat j) hst (fun j hj => ?_) fun j hj => ?_)
    · exact h2 _ _ (by omega) (by omega)
    · exact h3 _ _ (by omega) (by omega)
  · rename_i X r off len esz ver k q h h2; rw [h] at hx; rw [h2] at hi
    obtain ⟨cells, b, cap, hL, hver, hc, hcap, ha, hf⟩ := hx.sl'
    obtain ⟨⟨hq0, hq1⟩, hk⟩ := hk
    have hb := ha (by omega)
    obtain ⟨ad, rfl⟩ := Option.isSome_iff_exists.1 hb
    refine .mk _ _ (run _ _ _ _ _ hc hi.int hq0 hq1) hk (.ptr hL hver _ rfl fun e => ?_)
    rcases hf e with h0 | ⟨b, C, hm, _, he⟩
    · omega
    · cases he; exact ⟨b, C, hm, add_none ..⟩
  · exact hk.elim
theorem run_sliceBound (k : IntKind) (l y : Nat) (code : BoundsCode) (hl : l ≤ y) : (Instr.sliceBound (.int k l) y code).run P w = .ok l w := by
  simp [Instr.sliceBound, asIntOf, hl]
theorem bound_val {x : Option Operand} {d l : Nat} (hs : SimS St m s a w) (h : hv.bound s.ev (x.map Opd.of) d l) : (x = none ∧ l = d) ∨ ∃ y k, x = some y ∧ a.eval y = .int k l := by
  cases x with
  | none => exact .inl ⟨rfl, h⟩
  | some y =>
    obtain ⟨k, hk⟩ := h
    have := ev_rel hs y
    rw [hk] at this
    exact .inr ⟨y, k, rfl, this.int⟩
theorem run_sliceBounds {lo hi mx : Option Operand} {len cap l h m' : Nat} (hs : SimS St m s a w) (hl : hv.bound s.ev (lo.map Opd.of) 0 l) (hh : hv.bound s.ev (hi.map Opd.of) len h)
    (hm : (mx = none ∧ m' = cap) ∨ ∃ y k, mx = some y ∧ a.eval y = .int k m') (hmh : mx ≠ none → hi ≠ none) (h1 : l ≤ h) (h2 : h ≤ m') (h3 : m' ≤ cap) :
    (Instr.sliceBounds true len cap (lo.map a.eval) (hi.map a.eval) (mx.map a.eval)).run P w = .ok (l, h, m') w := by
  have hlv := bound_val hs hl
  have hhv := bound_val hs hh
  rcases hm with ⟨rfl, rfl⟩ | ⟨ym, km, rfl, hem⟩
  · rcases hhv with ⟨rfl, rfl⟩ | ⟨yh, kh, rfl, heh⟩
    · rcases hlv with ⟨rfl, rfl⟩ | ⟨yl, kl, rfl, hel⟩
      · simp [Instr.sliceBounds]
      · simp [Instr.sliceBounds, hel, run_sliceBound kl l _ _ h1]
    · rcases hlv with ⟨rfl, rfl⟩ | ⟨yl, kl, rfl, hel⟩
      · simp [Instr.sliceBounds, heh, run_sliceBound kh h _ _ h2]
      · simp [Instr.sliceBounds, hel, heh, run_sliceBound kh h _ _ h2, run_sliceBound kl l _ _ h1]
  · rcases hhv with ⟨rfl, rfl⟩ | ⟨yh, kh, rfl, heh⟩
    · exact absurd rfl (hmh (by simp))
    · rcases hlv with ⟨rfl, rfl⟩ | ⟨yl, kl, rfl, hel⟩
      · simp [Instr.sliceBounds, heh, hem, run_sliceBound km m' _ _ h3, run_sliceBound kh h _ _ h2]
      · simp [Instr.sliceBounds, hel, heh, hem, run_sliceBound km m' _ _ h3, run_sliceBound kh h _ _ h2, run_sliceBound kl l _ _ h1]
theorem h_slc (t : TypeId) (x : Operand) (lo hi mx : Option Operand) (e : TypeId) (n : Nat) (ht : P.underlying t = some (.slice e)) (hn : szT P e = some n) (hmh : mx ≠ none → hi ≠ none)
    (ho : o.op = .slice t x lo hi mx) (hs : SimS St m s a w) (hk : hv (.slc (Opd.of x) (lo.map Opd.of) (hi.map Opd.of) (mx.map Opd.of) n) s.ev K) : HOk P St m s.L a o w K := by
  have hx := ev_rel hs x
  simp only [hv] at hk
  have run : ∀ ad len cap l h m', a.eval x = .slice ad len cap → (Instr.sliceBounds true len cap (lo.map a.eval) (hi.map a.eval) (mx.map a.eval)).run P w = .ok (l, h, m') w →
      (execOp a.eval o).run P w = .ok (.value (.slice (if m' = l then ad else ad.map (·.add (l * n))) (h - l) (m' - l))) w := by
    intro ad len cap l h m' hc hb
    simp only [execOp, ho, hc]
    simp [Instr.sliceAt, Instr.slice, run_underlying ht, hb, run_szT hn]
  split at hk
  · rename_i h; rw [h] at hx
    have hc := hx.nil'
    obtain ⟨hz, hk⟩ := hk
    have z : ∀ (y : Option Operand), (∀ o ∈ (y.map Opd.of).toList, ∃ k, s.ev o = .d (.int k 0)) → hv.bound s.ev (y.map Opd.of) 0 0 := by
      intro y hy
      cases y with
      | none => rfl
      | some y => obtain ⟨k, hk⟩ := hy (Opd.of y) (by simp); exact ⟨k, hk⟩
    have hb := run_sliceBounds (P := P) (len := 0) (cap := 0) (lo := lo) (hi := hi) (mx := mx) hs (z lo fun o ho => hz o (by simp_all)) (z hi fun o ho => hz o (by simp_all))
      (bound_val hs (z mx fun o ho => hz o (by simp_all))) hmh (Nat.le_refl _) (Nat.le_refl _) (Nat.le_refl _)
    refine .mk _ _ (run _ _ _ _ _ _ hc hb) hk ?_
    simp; exact .nil
  · rename_i len get h; rw [h] at hx
    obtain ⟨b, cap, hc, hr⟩ := hx.bor
    obtain ⟨l, h', hl, hh, h1, h2, hmx, hsz, hk⟩ := hk
    have hmx' : mx = none := by cases mx <;> simp_all
    subst hmx'
    by_cases hcap : len ≤ cap
    · have hb := run_sliceBounds (P := P) (len := len) (cap := cap) (mx := none) hs hl hh (.inl ⟨rfl, rfl⟩) hmh h1 (by omega) (Nat.le_refl _)
      refine .mk _ _ (run _ _ _ _ _ _ hc hb) hk (.d ?_)
      by_cases e : l < h'
      · obtain ⟨blk, off, sz, cell, rfl, hst, q1, q2, q3⟩ := hr (by omega)
        have hsz' : sz = n := by rw [← q1 l (by omega)]; exact hsz e
        subst hsz'
        rw [if_neg (by omega)]
        simp only [Option.map_some, add_none]
        refine .bor (fun i j => cell (l + i) j) hst (by omega) (fun i hi => q1 _ (by omega)) (fun i j hi hj => ?_) fun i j hi hj => q3 _ _ (by omega) hj
        rw [Nat.add_assoc off, ← Nat.add_mul]; exact q2 _ _ (by omega) hj
      · have : h' - l = 0 := by omega
        rw [this]; exact .bor0 _ _ _
    · exact absurd (hx.cap hc) hcap
  · rename_i X r off len esz ver h; rw [h] at hx
    obtain ⟨cells, b, cap, hL, hver, hc, hcap, ha, hf⟩ := hx.sl'
    obtain ⟨rfl, l, h', m', hl, hh, hm, h1, h2, h3, hk⟩ := hk
    obtain ⟨mc, hmc, hb⟩ : ∃ mc, (m' ≤ mc ∧ mc ≤ cap) ∧ (Instr.sliceBounds true len cap (lo.map a.eval) (hi.map a.eval) (mx.map a.eval)).run P w = .ok (l, h', mc) w := by
      rcases bound_val hs hm with ⟨rfl, rfl⟩ | ⟨y, k, rfl, hy⟩
      · exact ⟨cap, ⟨by omega, Nat.le_refl _⟩, run_sliceBounds hs hl hh (.inl ⟨rfl, rfl⟩) hmh h1 (by omega) (Nat.le_refl _)⟩
      · exact ⟨m', ⟨Nat.le_refl _, by omega⟩, run_sliceBounds hs hl hh (.inr ⟨y, k, rfl, hy⟩) hmh h1 h2 (by omega)⟩
    refine .mk _ _ (run _ _ _ _ _ _ hc hb) hk (.sl hL hver _ _ rfl (by omega) (fun h0 => ?_) fun e => ?_)
    · rw [if_neg (by omega)]
      have := ha (by omega)
      simpa using this
    · by_cases hml : mc = l
      · left; omega
      · right
        rcases hf e with h0 | ⟨b, C, hm, hC, he⟩
        · omega
        · refine ⟨b, C, hm, ?_, ?_⟩
          · have : l * esz + (mc - l) * esz = mc * esz := by rw [← Nat.add_mul]; congr 1; omega
            have : mc * esz ≤ cap * esz := Nat.mul_le_mul_right _ hmc.2
            omega
          · rw [if_neg hml, he]; simp [add_none]
  · exact hk.elim
end
end Go.Ab

/- What a piece that asks nothing of memory promises, the operation keeps: all together. -/
namespace Go.Ab
set_option linter.unusedSimpArgs false
set_option linter.unusedVariables false
open Go
section
variable {P : Program} {St : Nat → Prop} {m : Map} {s : S} {a : Act} {o : Oper} {w : World} {K : V → Prop} {L : Heap}
theorem toVs_rel (cs : Array Value) : LRel St m L w (cs.toList.map Value.toV) cs := by
  refine ⟨by simp, fun j hj => ?_⟩
  have hj' : j < cs.size := by simpa using hj
  have : (cs.toList.map Value.toV).getD j .any = Value.toV (cs.getD j undef) := by simp [List.getD_eq_getElem?_getD, hj']
  rw [this]; exact toV_rel ..
theorem h_build (t : TypeId) (parts : Array (Nat × Operand)) (place : Nat → Option (Nat × Nat)) (z : Value) (qs : List (Nat × Nat × Opd))
    (hb : ∀ ps cells, Instr.fill place z.cells ps = some cells → P.built t ps = some cells)
    (hq : qs.length = parts.size) (hp : ∀ j (h1 : j < parts.size) (h2 : j < qs.length), place parts[j].1 = some (qs[j].1, qs[j].2.1) ∧ qs[j].2.2 = Opd.of parts[j].2)
    (ho : o.op = .build t parts) (hs : SimS St m s a w) (hk : hv (.build (z.cells.toList.map Value.toV) qs) s.ev K) : HOk P St m s.L a o w K := by
  simp only [hv] at hk
  split at hk
  case h_2 => exact hk.elim
  rename_i cells hf
  obtain ⟨cs', hfill, hrel⟩ := fill_rel (St := St) (m := m) (L := s.L) (w := w) place (parts.toList.map fun (i, x) => (i, a.eval x)) (partsV s.ev qs) _ z.cells cells (toVs_rel z.cells) hf (by simp [partsV, hq])
    (fun j h1 h2 => by
      have h1' : j < parts.size := by simpa using h1
      have h2' : j < qs.length := by simpa [partsV] using h2
      obtain ⟨e1, e2⟩ := hp j h1' h2'
      simp only [List.getElem_map, partsV, Array.getElem_toList]
      refine ⟨e1, ?_⟩
      have := ev_rel hs parts[j].2
      rw [← e2] at this; exact this)
  refine .mk _ (.agg cs') ?_ hk hrel.agg
  have hbl := hb _ _ hfill
  have hr : (Instr.build t (parts.map fun (i, x) => (i, a.eval x))).run P w = .ok (.agg cs') w := run_build w t _ cs' (by simpa using hbl)
  simp only [execOp, ho]
  simp [hr]
theorem mapM_some {α β : Type} (f : α → Option β) : ∀ (l : List α) (r : List β), l.mapM f = some r → r.length = l.length ∧ ∀ j (h1 : j < l.length) (h2 : j < r.length), f l[j] = some r[j] := by
  intro l
  induction l with
  | nil => intro r h; simp at h; subst h; exact ⟨rfl, fun j h => by simp at h⟩
  | cons x l ih =>
    intro r h
    simp only [List.mapM_cons, Option.bind_eq_bind, Option.pure_def] at h
    cases hx : f x with
    | none => simp [hx] at h
    | some y =>
      cases hl : l.mapM f with
      | none => simp [hx, hl] at h
      | some ys =>
        simp [hx, hl] at h
        subst h
        obtain ⟨h1, h2⟩ := ih ys hl
        refine ⟨by simp [h1], fun j hj1 hj2 => ?_⟩
        cases j with
        | zero => simpa using hx
        | succ j => simpa using h2 j (by simpa using hj1) (by simpa using hj2)
theorem compH_sound {hi : HI} (hc : compH P o.op = some hi) (hs : SimS St m s a w) (hk : hv hi s.ev K) : HOk P St m s.L a o w K := by
  cases hop : o.op with
  | move x => simp only [hop, compH, Option.some.injEq] at hc; subst hc; exact h_mov x (.inl hop) hs hk
  | assign x => simp only [hop, compH, Option.some.injEq] at hc; subst hc; exact h_mov x (.inr hop) hs hk
  | pick c x y => simp only [hop, compH, Option.some.injEq] at hc; subst hc; exact h_pick c x y hop hs hk
  | nilCheck x => simp only [hop, compH, Option.some.injEq] at hc; subst hc; exact h_nilck x hop hs hk
  | unOp op t x => simp only [hop, compH, Option.some.injEq] at hc; subst hc; exact h_un op t x hop hs hk
  | extract x i => simp only [hop, compH, Option.some.injEq] at hc; subst hc; exact h_ext x i hop hs hk
  | binOp op t x y u =>
    simp only [hop, compH] at hc
    split at hc
    · cases hc; exact h_ibin op t u x y hop hs hk
    · split at hc
      · rename_i f hf; cases hc; exact h_fbin op f t u x y hf hop hs hk
      · rename_i f hf; cases hc; exact h_fcmp op f t u x y hf hop hs hk
      · cases hc
    · rename_i hu
      split at hc
      · cases hc; exact h_bcmp _ false t u x y rfl hu hop hs hk
      · cases hc; exact h_bcmp _ true t u x y rfl hu hop hs hk
      · cases hc
    · cases hc
  | convert sT d x =>
    simp only [hop, compH] at hc
    split at hc
    · rename_i h1 h2; cases hc; exact h_icv sT d _ x ⟨_, h1⟩ h2 hop hs hk
    · rename_i h1 h2; cases hc; exact h_i2f sT d x ⟨_, h1⟩ h2 hop hs hk
    · rename_i h1 h2; cases hc; exact h_f2f sT d x h1 h2 hop hs hk
    · cases hc
  | makeFunc fn first cap =>
    cases fn with
    | func f => simp only [hop, compH, Option.some.injEq] at hc; subst hc; exact h_mkfn f first cap hop hs hk
    | _ => simp [hop, compH] at hc
  | slice t x lo hi mx =>
    simp only [hop, compH] at hc
    split at hc
    · rename_i e he
      split at hc
      · cases hc
      · rename_i hmh
        cases hn : szT P e with
        | none => simp [hn] at hc
        | some n =>
          simp only [hn, Option.map_some, Option.some.injEq] at hc
          subst hc
          exact h_slc t x lo hi mx e n he hn (by intro h1 h2; apply hmh; exact ⟨by cases mx <;> simp_all, by cases hi <;> simp_all⟩) hop hs hk
    · cases hc
  | fieldAddr t x f =>
    simp only [hop, compH] at hc
    split at hc
    · rename_i fields he
      split at hc
      · rename_i fd hf
        split at hc
        · rename_i n hn; cases hc; exact h_padd t x f fields fd n he hf hn hop hs hk
        · cases hc
      · cases hc
    · cases hc
  | field t x f =>
    simp only [hop, compH] at hc
    split at hc
    · rename_i fields he
      split at hc
      · rename_i fd hf
        split at hc
        · rename_i n g hn hg
          split at hc
          · rename_i h1; cases hc; exact h_fld t x f fields fd n g he hf hn hg h1 hop hs hk
          · cases hc
        · cases hc
      · cases hc
    · cases hc
  | indexAddr t x i =>
    simp only [hop, compH] at hc
    split at hc
    · rename_i e he
      cases hn : szT P e with
      | none => simp [hn] at hc
      | some n => simp only [hn, Option.map_some, Option.some.injEq] at hc; subst hc; exact h_idx t x i e n he hn hop hs hk
    · rename_i len e he
      cases hn : szT P e with
      | none => simp [hn] at hc
      | some n => simp only [hn, Option.map_some, Option.some.injEq] at hc; subst hc; exact h_idxa t x i len e n he hn hop hs hk
    · cases hc
  | index t x i =>
    simp only [hop, compH] at hc
    split at hc
    · rename_i len e he
      split at hc
      · rename_i n g hn hg
        split at hc
        · rename_i h1; cases hc; exact h_idxv t x i len e n g he hn hg h1 hop hs hk
        · cases hc
      · cases hc
    · cases hc
  | build t parts =>
    simp only [hop, compH] at hc
    split at hc
    · rename_i it n e hit hu
      split at hc
      · rename_i z ie hz hie
        cases hc
        exact h_build t parts (fun i => some (i * ie.size, ie.size)) z _ (fun ps cells h => by simp [Program.built, hit, hu, hz, hie, h]) (by simp) (fun j h1 h2 => by simp) hop hs hk
      · cases hc
    · rename_i it fields hit hu
      split at hc
      · rename_i z places hz hpl
        cases hm : (parts.toList.mapM fun (q : Nat × Operand) => (places[q.1]?).map fun (p : Nat × Nat) => (p.1, p.2, Opd.of q.2)) with
        | none => simp [hm] at hc
        | some qs =>
          simp only [hm, Option.map_some, Option.some.injEq] at hc
          subst hc
          obtain ⟨hl, hq⟩ := mapM_some _ _ _ hm
          refine h_build t parts (fun i => places[i]?) z qs (fun ps cells h => ?_) (by simpa using hl) (fun j h1 h2 => ?_) hop hs hk
          · simp [Program.built, hit, hu, hz, hpl]; exact h
          · have := hq j (by simpa using h1) h2
            simp only [Array.getElem_toList] at this
            cases hpj : places[parts[j].1]? with
            | none => simp [hpj] at this
            | some p => simp [hpj] at this; rw [← this]; simp
      · cases hc
    · cases hc
  | call c =>
    obtain ⟨callee, args, ats⟩ := c
    simp only [hop, compH] at hc
    have la : ∀ l : List Operand, args.toList = l → args = l.toArray := fun l h => by rw [← h]
    have lt : ∀ l : List TypeId, ats.toList = l → ats = l.toArray := fun l h => by rw [← h]
    unfold compCall at hc
    cases callee with
    | invoke r n => cases hc
    | builtin b =>
      simp only at hc
      split at hc
      · rename_i x hx
        obtain rfl := la _ hx
        split at hc
        · rename_i hb; subst hb
          split at hc
          · rename_i t ht
            obtain rfl := lt _ ht
            split at hc
            · rename_i e he; cases hc; exact h_len _ _ e he hop hs hk
            · cases hc
          · cases hc
        · cases hc
      · rename_i x y hx
        obtain rfl := la _ hx
        split at hc
        · rename_i hb; subst hb; cases hc; exact h_mm true _ _ _ hop hs hk
        · split at hc
          · rename_i hb; subst hb; cases hc; exact h_mm false _ _ _ hop hs hk
          · cases hc
      · rename_i x y z hx
        obtain rfl := la _ hx
        split at hc
        · rename_i hb; subst hb; cases hc; exact h_mm3 _ _ _ _ hop hs hk
        · cases hc
      · cases hc
    | value f =>
      simp only at hc
      split at hc
      · rename_i f x hx
        obtain rfl := la _ hx
        split at hc
        · rename_i fn hf
          split at hc
          · rename_i hb
            split at hc
            · rename_i hn; cases hc; exact h_bits _ fn _ _ hf hb hn hop hs hk
            · split at hc
              · rename_i hn; cases hc; exact h_frombits _ fn _ _ hf hb hn hop hs hk
              · cases hc
          · cases hc
        · cases hc
      · cases hc
  | _ => simp [hop, compH] at hc
end
end Go.Ab

/- How rows of a run's own are made, changed, grown. -/
namespace Go.Ab
set_option linter.unusedSimpArgs false
set_option linter.unusedVariables false
open Go
theorem fam_ins (X : Nat) (f : List (List V)) (L : Heap) (h : L.fam X = none) (Y : Nat) : (L.ins X f).fam Y = if Y = X then some f else L.fam Y := by
  induction L with
  | nil =>
    simp only [Heap.ins, Heap.fam, List.lookup_cons, List.lookup_nil]
    by_cases e : Y = X
    · simp [e]
    · simp only [beq_eq_false_iff_ne.2 e, if_neg e]
  | cons p L ih =>
    obtain ⟨Z, g⟩ := p
    simp only [Heap.fam, List.lookup_cons] at h
    have hXZ : X ≠ Z := by intro e; simp [e] at h
    have hb : (X == Z) = false := by simpa using hXZ
    simp only [hb] at h
    simp only [Heap.ins]
    split
    · simp only [Heap.fam, List.lookup_cons]
      by_cases e : Y = X
      · simp [e]
      · simp only [beq_eq_false_iff_ne.2 e, if_neg e]
    · have ih := ih h
      simp only [Heap.fam, List.lookup_cons] at ih ⊢
      by_cases e : Y = Z
      · subst e; simp [Ne.symm hXZ]
      · have : (Y == Z) = false := by simpa using e
        simp only [this]; exact ih
theorem get_ins_self {X : Nat} {cells : List V} {L : Heap} (h : L.fam X = none) : (L.ins X [cells]).get X 0 = some cells := by
  simp [Heap.get, fam_ins X [cells] L h]
theorem get_ins {X : Nat} {cells : List V} {L : Heap} (h : L.fam X = none) (Y r : Nat) : (L.ins X [cells]).get Y r = if Y = X then (if r = 0 then some cells else none) else L.get Y r := by
  simp only [Heap.get, fam_ins X [cells] L h]
  by_cases e : Y = X
  · subst e; cases r <;> simp
  · simp [e]
theorem get_insF {X : Nat} {f : List (List V)} {L : Heap} (h : L.fam X = none) (Y r : Nat) : (L.ins X f).get Y r = if Y = X then f[r]? else L.get Y r := by
  simp only [Heap.get, fam_ins X f L h]
  by_cases e : Y = X
  · subst e; simp
  · simp [e]
theorem get_none_of_fam {X r : Nat} {L : Heap} (h : L.fam X = none) : L.get X r = none := by simp [Heap.get, h]
theorem get_put (X r : Nat) (cs : List V) (L : Heap) (old : List V) (h : L.get X r = some old) (Y q : Nat) : (L.put X r cs).get Y q = if Y = X ∧ q = r then some cs else L.get Y q := by
  induction L with
  | nil => simp [Heap.get, Heap.fam] at h
  | cons p L ih =>
    obtain ⟨Z, g⟩ := p
    simp only [Heap.put]
    by_cases e : X = Z
    · subst e
      simp only [if_true]
      simp only [Heap.get, Heap.fam, List.lookup_cons] at h ⊢
      simp at h
      by_cases e2 : Y = X
      · subst e2
        simp only [beq_self_eq_true, Option.bind_some, true_and]
        by_cases e3 : q = r
        · subst e3
          have : q < g.length := by
            rcases Nat.lt_or_ge q g.length with h' | h'
            · exact h'
            · rw [List.getElem?_eq_none h'] at h; cases h
          simp [this]
        · simp [e3, Ne.symm e3]
      · have : (Y == X) = false := by simpa using e2
        simp [this, e2]
    · simp only [if_neg e]
      have hb : (X == Z) = false := by simpa using e
      have h' : Heap.get L X r = some old := by simpa [Heap.get, Heap.fam, List.lookup_cons, hb] using h
      have ih := ih h'
      simp only [Heap.get, Heap.fam, List.lookup_cons] at ih ⊢
      by_cases e2 : Y = Z
      · subst e2; simp [Ne.symm e]
      · have : (Y == Z) = false := by simpa using e2
        simp only [this]; exact ih
theorem fam_of_get {X r : Nat} {L : Heap} {c : List V} (h : L.get X r = some c) : L.fam X ≠ none := by
  intro h'; simp [Heap.get, h'] at h
/-- The same world, but for one block's cells. -/
structure Wrote (w w' : World) (b : Nat) (arr : Array Value) (el : TypeId) : Prop where
  size : w'.heap.size = w.heap.size
  self : w'.heap[b]? = some (.cells arr el (0, 0))
  other : ∀ x, x ≠ b → w'.heap[x]? = w.heap[x]?
  os : w'.os = w.os
  tape : w'.tape = w.tape
  output : w'.output = w.output
/-- What a step leaves. -/
def Post (St : Nat → Prop) (m : Map) (L : Heap) (w : World) (v : V) (L' : Heap) (c : Value) (w' : World) : Prop :=
  ∃ St' m', Objs St' m' L' w' ∧ VRel St' m' L' w' v c ∧ Frame' (Named m L) w w' ∧ Ext St St' m m' L L' w w' ∧ (∀ b, St' b → St b ∨ w.heap.size ≤ b) ∧ Src m L m' L' w
def PRel (St : Nat → Prop) (m : Map) (L : Heap) (w : World) (xs : List V) (cs : Array Value) : Prop :=
  xs.length ≤ cs.size ∧ ∀ j, j < xs.length → VRel St m L w (xs.getD j .any) (cs.getD j undef)
section
variable {P : Program} {St : Nat → Prop} {m : Map} {L : Heap} {w w' : World}
theorem LRel.pre {xs : List V} {cs : Array Value} (h : LRel St m L w xs cs) : PRel St m L w xs cs := ⟨by rw [h.1]; exact Nat.le_refl _, h.2⟩
theorem Same.post {v : V} {c : Value} (h : Same w w') (ho : Objs St m L w) (hv : VRel St m L w' v c) : Post St m L w v L c w' :=
  ⟨St, m, h.objs ho, hv, h.frame, h.ext, fun _ h => .inl h, .refl _ _ _⟩
def Map.set (m : Map) (X r b C : Nat) : Map := fun Y q => if Y = X ∧ q = r then some (b, C) else m Y q
/-- A new block, given a new name. -/
theorem Objs.made (ho : Objs St m L w) {X : Nat} (hX : L.fam X = none) {cells : List V} {arr : Array Value} {el : TypeId}
    (hw : w'.heap = w.heap.push (.cells arr el (0, 0))) (ho' : w'.os = w.os) (ht : w'.tape = w.tape) (hout : w'.output = w.output)
    (hc : PRel St m L w cells arr) :
    Objs St (m.set X 0 w.heap.size arr.size) (L.ins X [cells]) w' ∧ Ext St St m (m.set X 0 w.heap.size arr.size) L (L.ins X [cells]) w w' ∧ Frame' (Named m L) w w' ∧
      Src m L (m.set X 0 w.heap.size arr.size) (L.ins X [cells]) w := by
  have hext : Ext St St m (m.set X 0 w.heap.size arr.size) L (L.ins X [cells]) w w' := by
    refine ⟨fun _ h => h, fun b hb => ?_, fun Y r c hYr => ⟨c, ?_, Nat.le_refl _, fun _ => ?_⟩⟩
    · rw [hw, Array.getElem?_push, if_neg (by have := ho.st b hb; omega)]
    · rw [get_ins hX]
      have : Y ≠ X := by intro e; subst e; rw [get_none_of_fam hX] at hYr; cases hYr
      rw [if_neg this]; exact hYr
    · have : Y ≠ X := by intro e; subst e; rw [get_none_of_fam hX] at hYr; cases hYr
      simp [Map.set, this]
  have hsz : w'.heap.size = w.heap.size + 1 := by rw [hw]; simp
  refine ⟨⟨fun b hb => by have := ho.st b hb; omega, fun Y r c hYr hm => ?_, fun Y r c b C hYr hm => ?_, fun Y r Z q b C C' h1 h2 h3 h4 => ?_⟩, hext, ⟨ho', ht, hout, by omega, fun b hb _ => ?_⟩, fun Y r b C h1 h2 => ?_⟩
  · rw [get_ins hX] at hYr
    by_cases e : Y = X
    · subst e
      simp only [if_true] at hYr
      split at hYr
      · rename_i h0; subst h0; simp [Map.set] at hm
      · cases hYr
    · rw [if_neg e] at hYr
      simp [Map.set, e] at hm
      exact ho.nil Y r c hYr hm
  · rw [get_ins hX] at hYr
    by_cases e : Y = X
    · subst e
      simp only [if_true] at hYr
      split at hYr
      · rename_i h0; subst h0; cases hYr
        simp [Map.set] at hm
        obtain ⟨rfl, rfl⟩ := hm
        refine ⟨by omega, fun hs => by have := ho.st _ hs; omega, arr, el, by rw [hw]; simp, rfl, hc.1, fun j hj => (hc.2 j hj).mono hext⟩
      · cases hYr
    · rw [if_neg e] at hYr
      simp [Map.set, e] at hm
      obtain ⟨h1, h2, arr', el', h3, h4, h5, h6⟩ := ho.obj Y r c b C hYr hm
      refine ⟨by omega, h2, arr', el', ?_, h4, h5, fun j hj => (h6 j hj).mono hext⟩
      rw [hw, Array.getElem?_push, if_neg (by omega)]; exact h3
  · have old : ∀ Y r b C, (L.ins X [cells]).get Y r ≠ none → Y ≠ X → (m.set X 0 w.heap.size arr.size) Y r = some (b, C) → L.get Y r ≠ none ∧ m Y r = some (b, C) ∧ b < w.heap.size := by
      intro Y r b C h1 hne h2
      rw [get_ins hX, if_neg hne] at h1
      simp [Map.set, hne] at h2
      obtain ⟨c, hc⟩ := Option.ne_none_iff_exists'.1 h1
      exact ⟨h1, h2, (ho.obj Y r c b C hc h2).1⟩
    have new : ∀ r b C, (L.ins X [cells]).get X r ≠ none → (m.set X 0 w.heap.size arr.size) X r = some (b, C) → r = 0 ∧ b = w.heap.size := by
      intro r b C h1 h2
      rw [get_ins hX] at h1
      simp only [if_true] at h1
      split at h1
      · rename_i h0; subst h0; simp [Map.set] at h2; exact ⟨rfl, h2.1.symm⟩
      · exact absurd rfl h1
    by_cases e1 : Y = X <;> by_cases e2 : Z = X
    · subst e1 e2
      obtain ⟨rfl, _⟩ := new _ _ _ h1 h3
      obtain ⟨rfl, _⟩ := new _ _ _ h2 h4
      exact ⟨rfl, rfl⟩
    · subst e1
      obtain ⟨_, rfl⟩ := new _ _ _ h1 h3
      have := (old _ _ _ _ h2 e2 h4).2.2; omega
    · subst e2
      obtain ⟨_, rfl⟩ := new _ _ _ h2 h4
      have := (old _ _ _ _ h1 e1 h3).2.2; omega
    · obtain ⟨a1, a2, _⟩ := old _ _ _ _ h1 e1 h3
      obtain ⟨b1, b2, _⟩ := old _ _ _ _ h2 e2 h4
      exact ho.inj _ _ _ _ _ _ _ a1 b1 a2 b2
  · rw [hw, Array.getElem?_push, if_neg (by omega)]
  · rw [get_ins hX] at h1
    by_cases e : Y = X
    · subst e
      simp only [if_true] at h1
      split at h1
      · rename_i h0; subst h0; simp [Map.set] at h2; right; omega
      · exact absurd rfl h1
    · rw [if_neg e] at h1
      simp [Map.set, e] at h2
      exact .inl ⟨h1, h2⟩
/-- A block of the run's own, written. -/
theorem Objs.wrote (ho : Objs St m L w) {X r b C : Nat} {old cells : List V} {arr : Array Value} {el : TypeId} (hg : L.get X r = some old) (hm : m X r = some (b, C)) (hlen : old.length ≤ cells.length)
    (hw : Wrote w w' b arr el) (hC : arr.size = C) (hc : PRel St m L w cells arr) :
    Objs St m (L.put X r cells) w' ∧ Ext St St m m L (L.put X r cells) w w' ∧ Frame' (Named m L) w w' ∧ Src m L m (L.put X r cells) w := by
  obtain ⟨hb1, hb2, _⟩ := ho.obj X r old b C hg hm
  have hne : ∀ Y q, (L.put X r cells).get Y q ≠ none → L.get Y q ≠ none := by
    intro Y q h; rw [get_put X r cells L old hg] at h
    split at h
    · rename_i e; obtain ⟨rfl, rfl⟩ := e; rw [hg]; simp
    · exact h
  have hext : Ext St St m m L (L.put X r cells) w w' := by
    refine ⟨fun _ h => h, fun b' hb' => hw.other _ (fun e => hb2 (e ▸ hb')), fun Y q c hYq => ?_⟩
    rw [get_put X r cells L old hg]
    split
    · rename_i e; obtain ⟨rfl, rfl⟩ := e
      rw [hg] at hYq; cases hYq
      exact ⟨cells, rfl, by omega, fun _ => rfl⟩
    · exact ⟨c, hYq, Nat.le_refl _, fun _ => rfl⟩
  refine ⟨⟨fun b' hb' => by rw [hw.size]; exact ho.st b' hb', fun Y q c hYq hm' => ?_, fun Y q c b' C' hYq hm' => ?_, fun Y q Z p b' C1 C2 h1 h2 h3 h4 => ho.inj _ _ _ _ _ _ _ (hne _ _ h1) (hne _ _ h2) h3 h4⟩, hext,
    ⟨hw.os, hw.tape, hw.output, by rw [hw.size]; exact Nat.le_refl _, fun b' hb' hn => hw.other _ (fun e => hn (e ▸ ⟨X, r, C, by rw [hg]; simp, hm⟩))⟩, fun Y q b' C' h1 h2 => .inl ⟨hne _ _ h1, h2⟩⟩
  · rw [get_put X r cells L old hg] at hYq
    split at hYq
    · rename_i e; obtain ⟨rfl, rfl⟩ := e; rw [hm] at hm'; cases hm'
    · exact ho.nil Y q c hYq hm'
  · rw [get_put X r cells L old hg] at hYq
    split at hYq
    · rename_i e; obtain ⟨rfl, rfl⟩ := e
      cases hYq; rw [hm] at hm'; cases hm'
      exact ⟨by rw [hw.size]; exact hb1, hb2, arr, el, hw.self, hC, by rw [← hC]; exact hc.1, fun j hj => (hc.2 j hj).mono hext⟩
    · rename_i hn
      obtain ⟨h1, h2, arr', el', h3, h4, h5, h6⟩ := ho.obj Y q c b' C' hYq hm'
      have hne' : b' ≠ b := by
        rintro rfl
        exact hn (ho.inj Y q X r _ _ _ (by rw [hYq]; simp) (by rw [hg]; simp) hm' hm)
      exact ⟨by rw [hw.size]; exact h1, h2, arr', el', by rw [hw.other _ hne']; exact h3, h4, h5, fun j hj => (h6 j hj).mono hext⟩
end
end Go.Ab

/- How a row moves to a new block as it grows; loads and stores. -/
namespace Go.Ab
set_option linter.unusedSimpArgs false
set_option linter.unusedVariables false
open Go
section
variable {P : Program} {St : Nat → Prop} {m : Map} {L : Heap} {w w' : World}
/-- A row that has grown, in a new block. -/
theorem Objs.grown (ho : Objs St m L w) {X r : Nat} {old cells : List V} {arr : Array Value} {el : TypeId} (hg : L.get X r = some old) (hlen : old.length < cells.length)
    (hw : w'.heap = w.heap.push (.cells arr el (0, 0))) (ho' : w'.os = w.os) (ht : w'.tape = w.tape) (hout : w'.output = w.output) (hc : PRel St m L w cells arr) :
    Objs St (m.set X r w.heap.size arr.size) (L.put X r cells) w' ∧ Ext St St m (m.set X r w.heap.size arr.size) L (L.put X r cells) w w' ∧ Frame' (Named m L) w w' ∧
      Src m L (m.set X r w.heap.size arr.size) (L.put X r cells) w := by
  have hsz : w'.heap.size = w.heap.size + 1 := by rw [hw]; simp
  have hne : ∀ Y q, (L.put X r cells).get Y q ≠ none → L.get Y q ≠ none := by
    intro Y q h; rw [get_put X r cells L old hg] at h
    split at h
    · rename_i e; obtain ⟨rfl, rfl⟩ := e; rw [hg]; simp
    · exact h
  have hext : Ext St St m (m.set X r w.heap.size arr.size) L (L.put X r cells) w w' := by
    refine ⟨fun _ h => h, fun b' hb' => ?_, fun Y q c hYq => ?_⟩
    · rw [hw, Array.getElem?_push, if_neg (by have := ho.st b' hb'; omega)]
    rw [get_put X r cells L old hg]
    split
    · rename_i e; obtain ⟨rfl, rfl⟩ := e
      rw [hg] at hYq; cases hYq
      exact ⟨cells, rfl, by omega, fun h => absurd h (by omega)⟩
    · rename_i e
      exact ⟨c, hYq, Nat.le_refl _, fun _ => by simp only [Map.set, if_neg e]⟩
  have set_ne : ∀ Y q, ¬(Y = X ∧ q = r) → (m.set X r w.heap.size arr.size) Y q = m Y q := fun Y q e => by simp only [Map.set, if_neg e]
  have set_eq : (m.set X r w.heap.size arr.size) X r = some (w.heap.size, arr.size) := by simp [Map.set]
  refine ⟨⟨fun b hb => by have := ho.st b hb; omega, fun Y q c hYq hm' => ?_, fun Y q c b' C' hYq hm' => ?_, fun Y q Z p b' C1 C2 h1 h2 h3 h4 => ?_⟩, hext,
    ⟨ho', ht, hout, by omega, fun b' hb' _ => by rw [hw, Array.getElem?_push, if_neg (by omega)]⟩, fun Y q b' C' h1 h2 => ?_⟩
  · rw [get_put X r cells L old hg] at hYq
    split at hYq
    · rename_i e; obtain ⟨rfl, rfl⟩ := e; rw [set_eq] at hm'; cases hm'
    · rename_i e; rw [set_ne _ _ e] at hm'; exact ho.nil Y q c hYq hm'
  · rw [get_put X r cells L old hg] at hYq
    split at hYq
    · rename_i e; obtain ⟨rfl, rfl⟩ := e
      cases hYq; rw [set_eq] at hm'; cases hm'
      exact ⟨by omega, fun hs => by have := ho.st _ hs; omega, arr, el, by rw [hw]; simp, rfl, hc.1, fun j hj => (hc.2 j hj).mono hext⟩
    · rename_i e; rw [set_ne _ _ e] at hm'
      obtain ⟨h1, h2, arr', el', h3, h4, h5, h6⟩ := ho.obj Y q c b' C' hYq hm'
      exact ⟨by omega, h2, arr', el', by rw [hw, Array.getElem?_push, if_neg (by omega)]; exact h3, h4, h5, fun j hj => (h6 j hj).mono hext⟩
  · have old' : ∀ Y q b C, L.get Y q ≠ none → m Y q = some (b, C) → b < w.heap.size := by
      intro Y q b C h1 h2
      obtain ⟨c, hc⟩ := Option.ne_none_iff_exists'.1 h1
      exact (ho.obj Y q c b C hc h2).1
    by_cases e1 : Y = X ∧ q = r <;> by_cases e2 : Z = X ∧ p = r
    · exact ⟨e1.1.trans e2.1.symm, e1.2.trans e2.2.symm⟩
    · obtain ⟨rfl, rfl⟩ := e1
      rw [set_eq] at h3; cases h3
      rw [set_ne _ _ e2] at h4
      have := old' _ _ _ _ (hne _ _ h2) h4; omega
    · obtain ⟨rfl, rfl⟩ := e2
      rw [set_eq] at h4; cases h4
      rw [set_ne _ _ e1] at h3
      have := old' _ _ _ _ (hne _ _ h1) h3; omega
    · rw [set_ne _ _ e1] at h3; rw [set_ne _ _ e2] at h4
      exact ho.inj _ _ _ _ _ _ _ (hne _ _ h1) (hne _ _ h2) h3 h4
  · by_cases e : Y = X ∧ q = r
    · obtain ⟨rfl, rfl⟩ := e; rw [set_eq] at h2; cases h2; exact .inr (Nat.le_refl _)
    · rw [set_ne _ _ e] at h2; exact .inl ⟨hne _ _ h1, h2⟩
theorem run_loadCells' (b off n : Nat) (cell : Nat → Value) (h : ∀ j, j < n → w.cell? ⟨b, off + j, none⟩ = some (cell j)) :
    ∃ cs : Array Value, (loadCells ⟨b, off, none⟩ n).run P w = .ok cs w ∧ cs.size = n ∧ ∀ j, j < n → cs.getD j undef = cell j := by
  have := run_loadCells (P := P) (w := w) ⟨b, off, none⟩ n cell (fun j hj => by rw [add_none]; exact h j hj)
  refine ⟨_, this, by simp, fun j hj => ?_⟩
  simp [hj]
theorem run_loadVar {t n : Nat} {g : Bool} (hg : aggT P t = some g) (hn : szT P t = some n) (h1 : g = true ∨ n = 1) (h0 : 0 < n) (b off : Nat) (cell : Nat → Value)
    (h : ∀ j, j < n → w.cell? ⟨b, off + j, none⟩ = some (cell j)) :
    ∃ c, (loadVar t ⟨b, off, none⟩).run P w = .ok c w ∧ ((g = true ∧ ∃ cs : Array Value, c = .agg cs ∧ cs.size = n ∧ ∀ j, j < n → cs.getD j undef = cell j) ∨ (g = false ∧ n = 1 ∧ c = cell 0)) := by
  cases g with
  | true =>
    obtain ⟨cs, hr, hs, hc⟩ := run_loadCells' (P := P) b off n cell h
    exact ⟨.agg cs, by simp [loadVar, run_aggT hg, run_szT hn, hr], .inl ⟨rfl, cs, rfl, hs, hc⟩⟩
  | false =>
    obtain rfl : n = 1 := by simpa using h1
    have := h 0 (by omega)
    rw [Nat.add_zero] at this
    exact ⟨cell 0, by simp [loadVar, run_aggT hg, this], .inr ⟨rfl, rfl, rfl⟩⟩
theorem cell_of_block {b off : Nat} {arr : Array Value} {el : TypeId} {fz : Nat × Nat} (h : w.heap[b]? = some (.cells arr el fz)) (hj : off < arr.size) : w.cell? ⟨b, off, none⟩ = some (arr.getD off undef) := by
  simp [World.cell?, h, hj, Array.getD_eq_getD_getElem?]
theorem LRel.ldv {g : Bool} {n off : Nat} {xs : List V} {c : Value} {cell : Nat → Value} (hl : off + n ≤ xs.length) (hrel : ∀ j, j < n → VRel St m L w (xs.getD (off + j) .any) (cell j))
    (hc : (g = true ∧ ∃ cs : Array Value, c = .agg cs ∧ cs.size = n ∧ ∀ j, j < n → cs.getD j undef = cell j) ∨ (g = false ∧ n = 1 ∧ c = cell 0)) : VRel St m L w (ldv g n off xs) c := by
  rcases hc with ⟨rfl, cs, rfl, hs, hcs⟩ | ⟨rfl, rfl, rfl⟩
  · refine .agg (by simp; omega) fun j hj => ?_
    have hj' : j < n := by simp at hj; omega
    have e1 : ((xs.drop off).take n).getD j .any = xs.getD (off + j) .any := by simp [List.getD_eq_getElem?_getD, hj']
    rw [e1, hcs j hj']; exact hrel j hj'
  · have := hrel 0 (by omega)
    simpa [Ab.ldv] using this
theorem load_sound {o : Oper} {a : Act} {s : S} {K : V → Heap → Prop} (nm : Nat) (t : TypeId) (x : Operand) (n : Nat) (g : Bool) (hn : szT P t = some n) (hg : aggT P t = some g) (h1 : g = true ∨ n = 1)
    (hop : o.op = .load t x) (hs : SimS St m s a w) (hk : eff P nm (.load (Opd.of x) n g) s K) : ∃ v L' c w', (execOp a.eval o).run P w = .ok (.value c) w' ∧ K v L' ∧ Post St m s.L w v L' c w' := by
  have hx := ev_rel hs x
  simp only [eff, effC] at hk
  have fin : ∀ b off v c, a.eval x = .pointer (some ⟨b, off, none⟩) → (loadVar t ⟨b, off, none⟩).run P w = .ok c w → K v s.L → VRel St m s.L w v c → ∃ v L' c w', (execOp a.eval o).run P w = .ok (.value c) w' ∧ K v L' ∧ Post St m s.L w v L' c w' := by
    intro b off v c hc hr hk hv
    refine ⟨v, s.L, c, w, ?_, hk, (Same.refl w).post hs.objs hv⟩
    simp only [execOp, hop, hc]
    simp [Instr.loadAt, Instr.sureAddr, hr]
  split at hk
  · rename_i cells h; rw [h] at hx
    obtain ⟨blk, off, cell, hc, hst, q1, q2⟩ := hx.bptr
    obtain ⟨⟨hle, h0⟩, hk⟩ := hk
    obtain ⟨c, hr, hcc⟩ := run_loadVar (P := P) (w := w) hg hn h1 h0 blk off cell (fun j hj => q1 j (by omega))
    refine fin _ _ _ c hc hr hk (LRel.ldv (by simp; omega) (fun j hj => ?_) hcc)
    have := q2 j (by omega)
    have e : (cells.map V.d).getD (0 + j) .any = .d (cells.getD j default) := by
      have : j < cells.length := by omega
      simp [List.getD_eq_getElem?_getD, this]
    rw [e]; exact .d this
  · rename_i X r off ver h; rw [h] at hx
    split at hk
    case h_2 => exact hk.elim
    rename_i cells hL
    obtain ⟨cells', ad, hL', hver, hc, hf⟩ := hx.ptr'
    rw [hL] at hL'; cases hL'
    obtain ⟨⟨he, hle, h0⟩, hk⟩ := hk
    obtain ⟨b, C, hm, rfl⟩ := hf he
    obtain ⟨p1, p2, arr, el, p3, p4, p5, p6⟩ := hs.objs.obj X r cells b C hL hm
    obtain ⟨c, hr, hcc⟩ := run_loadVar (P := P) (w := w) hg hn h1 h0 b off (fun j => arr.getD (off + j) undef) (fun j hj => cell_of_block p3 (by omega))
    exact fin _ _ _ c hc hr hk (LRel.ldv hle (fun j hj => p6 _ (by omega)) hcc)
  · exact hk.elim
end
end Go.Ab

/- Stores, new blocks. -/
namespace Go.Ab
set_option linter.unusedSimpArgs false
set_option linter.unusedVariables false
open Go
section
variable {P : Program} {St : Nat → Prop} {m : Map} {L : Heap} {w w' : World}
theorem isCell_one {v : V} {c : Value} (h : VRel St m L w v c) (hv : v.isCell = true) : c.oneCell' = true := by
  cases h with
  | d h => cases h <;> rfl
  | ptr _ _ _ hc _ => subst hc; rfl
  | sl _ _ _ _ hc _ _ _ => subst hc; rfl
  | nil => rfl
  | fn _ _ _ _ => rfl
  | any c => simp [V.isCell] at hv
  | agg _ _ => simp [V.isCell] at hv
  | tup _ _ => simp [V.isCell] at hv
theorem setCell_wrote {b off : Nat} {arr : Array Value} {el : TypeId} (h : w.heap[b]? = some (.cells arr el (0, 0))) (c : Value) :
    Wrote w (w.setCell ⟨b, off, none⟩ c) b (arr.setIfInBounds off c) el := by
  have hb : b < w.heap.size := by
    rcases Nat.lt_or_ge b w.heap.size with h' | h'
    · exact h'
    · rw [Array.getElem?_eq_none h'] at h; cases h
  refine ⟨by simp [World.setCell], ?_, fun x hx => ?_, rfl, rfl, rfl⟩
  · simp only [World.setCell, Array.getElem?_modify, if_true, h]; simp
  · simp only [World.setCell, Array.getElem?_modify]; rw [if_neg (Ne.symm hx)]
theorem Wrote.trans {w1 w2 w3 : World} {b : Nat} {a1 a2 : Array Value} {e1 e2 : TypeId} (h : Wrote w1 w2 b a1 e1) (k : Wrote w2 w3 b a2 e2) : Wrote w1 w3 b a2 e2 :=
  ⟨k.size.trans h.size, k.self, fun x hx => (k.other x hx).trans (h.other x hx), k.os.trans h.os, k.tape.trans h.tape, k.output.trans h.output⟩
theorem frozen_of {b off : Nat} {arr : Array Value} {el : TypeId} (h : w.heap[b]? = some (.cells arr el (0, 0))) : w.frozen? ⟨b, off, none⟩ = false := by
  simp [World.frozen?, h]
/-- Cells stored one by one. -/
def spliceA (cs : Array Value) (off : Nat) : List Value → Array Value
  | [] => cs
  | v :: vs => spliceA (cs.setIfInBounds off v) (off + 1) vs
theorem spliceA_size (vs : List Value) : ∀ (cs : Array Value) (off : Nat), (spliceA cs off vs).size = cs.size := by
  induction vs with
  | nil => intro cs off; rfl
  | cons v vs ih => intro cs off; simp [spliceA, ih]
theorem run_storeCells (b off : Nat) (el : TypeId) : ∀ (vs : List Value) (i : Nat) (w : World) (arr : Array Value), w.heap[b]? = some (.cells arr el (0, 0)) → off + i + vs.length ≤ arr.size → (∀ v ∈ vs, v.oneCell' = true) →
    ∃ w', (storeCells ⟨b, off, none⟩ vs i).run P w = .ok () w' ∧ Wrote w w' b (spliceA arr (off + i) vs) el := by
  intro vs
  induction vs with
  | nil =>
    intro i w arr h _ _
    exact ⟨w, rfl, rfl, h, fun _ _ => rfl, rfl, rfl, rfl⟩
  | cons v vs ih =>
    intro i w arr h hlen hone
    simp only [List.length_cons] at hlen
    have h1 := setCell_wrote (off := off + i) h v
    obtain ⟨w', hr, hw⟩ := ih (i + 1) _ _ h1.self (by simp; omega) (fun u hu => hone u (by simp [hu]))
    have hst : (store (Addr.add ⟨b, off, none⟩ i) v).run P w = .ok () (w.setCell ⟨b, off + i, none⟩ v) := by
      rw [add_none, run_store P w _ v .plain (hone v (by simp))]
      have hc := cell_of_block (w := w) (off := off + i) h (by omega)
      simp [hc, frozen_of h]
    refine ⟨w', ?_, h1.trans hw⟩
    simp only [storeCells, Sem.run_bind, hst, Result.andThen]
    exact hr
theorem PRel.set {xs : List V} {cs : Array Value} (h : PRel St m L w xs cs) {v : V} {c : Value} (hv : VRel St m L w v c) (i : Nat) : PRel St m L w (xs.set i v) (cs.setIfInBounds i c) := by
  refine ⟨by simpa using h.1, fun j hj => ?_⟩
  have hj' : j < xs.length := by simpa using hj
  have hj2 : j < cs.size := Nat.lt_of_lt_of_le hj' h.1
  by_cases e : i = j
  · subst e
    have h1 : (xs.set i v).getD i .any = v := by simp [List.getD_eq_getElem?_getD, hj']
    have h2 : (cs.setIfInBounds i c).getD i undef = c := by simp [Array.getD_eq_getD_getElem?, hj2]
    rw [h1, h2]; exact hv
  · have h1 : (xs.set i v).getD j .any = xs.getD j .any := by simp [List.getD_eq_getElem?_getD, e]
    have h2 : (cs.setIfInBounds i c).getD j undef = cs.getD j undef := by simp [Array.getD_eq_getD_getElem?, e]
    rw [h1, h2]; exact h.2 j hj'
theorem splice_pre : ∀ (vs : List Value) (ys : List V) (off : Nat) (xs : List V) (cs : Array Value), PRel St m L w xs cs → LRel St m L w ys vs.toArray → PRel St m L w (splice xs off ys) (spliceA cs off vs) := by
  intro vs
  induction vs with
  | nil =>
    intro ys off xs cs h hy
    have : ys = [] := by simpa using hy.1.symm
    subst this; exact h
  | cons c vs ih =>
    intro ys off xs cs h hy
    cases ys with
    | nil => have := hy.1; simp at this
    | cons v ys =>
      obtain ⟨hv, hys⟩ := hy.cons
      exact ih ys (off + 1) _ _ (h.set hv _) hys
theorem splice_length : ∀ (ys : List V) (xs : List V) (off : Nat), (splice xs off ys).length = xs.length := by
  intro ys
  induction ys with
  | nil => intro xs off; rfl
  | cons y ys ih => intro xs off; simp [splice, ih]
theorem all_one {ys : List V} {cs : Array Value} (h : LRel St m L w ys cs) (hc : ys.all V.isCell = true) : ∀ v ∈ cs.toList, v.oneCell' = true := by
  intro v hv
  obtain ⟨j, hj, rfl⟩ := List.mem_iff_getElem.1 hv
  have hj1 : j < cs.size := by simpa using hj
  have hj2 : j < ys.length := by rw [← h.1]; exact hj1
  have h1 := h.2 j hj2
  have h2 : (ys.getD j .any).isCell = true := by
    rw [List.getD_eq_getElem?_getD, List.getElem?_eq_getElem hj2]
    exact List.all_eq_true.1 hc _ (List.getElem_mem hj2)
  have := isCell_one h1 h2
  simpa [Array.getD_eq_getD_getElem?, hj1] using this
theorem cells_okPart {v : V} (h : (cellsOf v).all V.isCell = true) : v.okPart = true := by
  cases v <;> simp_all [cellsOf, V.isCell, V.okPart]
theorem store_sound {o : Oper} {a : Act} {s : S} {K : V → Heap → Prop} (nm : Nat) (t : TypeId) (p x : Operand) (n : Nat) (hn : szT P t = some n)
    (hop : o.op = .store t p x) (hs : SimS St m s a w) (hk : eff P nm (.store (Opd.of p) (Opd.of x) n) s K) : ∃ v L' w', (execOp a.eval o).run P w = .ok .skip w' ∧ K v L' ∧ Post St m s.L w v L' undef w' := by
  have hp := ev_rel hs p
  have hx := ev_rel hs x
  simp only [eff, effC] at hk
  split at hk
  case h_2 => exact hk.elim
  rename_i X r off ver h; rw [h] at hp
  split at hk
  case h_2 => exact hk.elim
  rename_i cells hL
  obtain ⟨cells', ad, hL', hver, hc, hf⟩ := hp.ptr'
  rw [hL] at hL'; cases hL'
  obtain ⟨⟨he, hle, hlen, hcell⟩, hk⟩ := hk
  obtain ⟨b, C, hm, rfl⟩ := hf he
  obtain ⟨p1, p2, arr, el, p3, p4, p5, p6⟩ := hs.objs.obj X r cells b C hL hm
  have hxc := okPart_cells hx (cells_okPart hcell)
  have hsz : (a.eval x).cells.size = n := by rw [hxc.1, hlen]
  obtain ⟨w', hr, hw⟩ := run_storeCells (P := P) b off el (a.eval x).cells.toList 0 w arr p3 (by simp [hsz]; omega) (all_one hxc hcell)
  refine ⟨_, _, w', ?_, hk, ?_⟩
  · simp only [execOp, hop, hc]
    simp [Instr.storeAt, Instr.sureAddr, storeVar, run_szT hn, hsz, hr]
  · have hpre : PRel St m s.L w (splice cells off (cellsOf (s.ev (Opd.of x)))) (spliceA arr (off + 0) (a.eval x).cells.toList) := splice_pre _ _ _ _ _ ⟨by omega, p6⟩ (by simpa using hxc)
    obtain ⟨h1, h2, h3, h4⟩ := hs.objs.wrote hL hm (by rw [splice_length]; exact Nat.le_refl _) hw (by rw [spliceA_size]; exact p4) hpre
    exact ⟨St, m, h1, .any _, h3, h2, fun _ h => .inl h, h4⟩
/-- A new block. -/
theorem made_post (ho : Objs St m L w) {X : Nat} (hX : L.fam X = none) {cells : List V} {arr : Array Value} {el : TypeId} (hc : PRel St m L w cells arr) (v : V) (c : Value)
    (hv : VRel St (m.set X 0 w.heap.size arr.size) (L.ins X [cells]) { w with heap := w.heap.push (.cells arr el (0, 0)) } v c) : Post St m L w v (L.ins X [cells]) c { w with heap := w.heap.push (.cells arr el (0, 0)) } := by
  obtain ⟨h1, h2, h3, h4⟩ := ho.made (w' := { w with heap := w.heap.push (.cells arr el (0, 0)) }) hX rfl rfl rfl rfl hc
  exact ⟨St, _, h1, hv, h3, h2, fun _ h => .inl h, h4⟩
theorem alloc_sound {o : Oper} {a : Act} {s : S} {K : V → Heap → Prop} (nm : Nat) (t : TypeId) (it : TypeInfo) (z : Value) (hi : P.info? t = some it) (hz : it.zero = some z)
    (hop : o.op = .alloc t) (hs : SimS St m s a w) (hk : eff P nm (.alloc (z.cells.toList.map Value.toV) t) s K) : ∃ v L' c w', (execOp a.eval o).run P w = .ok (.value c) w' ∧ K v L' ∧ Post St m s.L w v L' c w' := by
  simp only [eff, effC] at hk
  obtain ⟨hX, _, hk⟩ := hk
  have hc : LRel St m s.L w (z.cells.toList.map Value.toV) z.cells := toVs_rel z.cells
  refine ⟨_, _, .pointer (some ⟨w.heap.size, 0, none⟩), { w with heap := w.heap.push (.cells z.cells t (0, 0)) }, ?_, hk, made_post hs.objs hX hc.pre _ _ (.ptr (get_ins_self hX) (by simp) _ rfl fun _ => ⟨w.heap.size, z.cells.size, by simp [Map.set], rfl⟩)⟩
  simp only [execOp, hop]
  simp [Instr.alloc, zeroValue, typeInfo, hi, hz, newVar, newRow]
theorem box_sound {o : Oper} {a : Act} {s : S} {K : V → Heap → Prop} (nm : Nat) (t : TypeId) (x : Operand) (n : Nat)
    (hop : o.op = .box t x) (hs : SimS St m s a w) (hk : eff P nm (.box (Opd.of x) n t) s K) : ∃ v L' c w', (execOp a.eval o).run P w = .ok (.value c) w' ∧ K v L' ∧ Post St m s.L w v L' c w' := by
  have hx := ev_rel hs x
  simp only [eff, effC] at hk
  obtain ⟨hX, ⟨hlen, hcell, h0⟩, hk⟩ := hk
  have hxc := okPart_cells hx (cells_okPart hcell)
  refine ⟨_, _, .pointer (some ⟨w.heap.size, 0, none⟩), { w with heap := w.heap.push (.cells (a.eval x).cells t (0, 0)) }, ?_, hk, made_post hs.objs hX hxc.pre _ _ (.ptr (get_ins_self hX) (by omega) _ rfl fun _ => ⟨w.heap.size, (a.eval x).cells.size, by simp [Map.set], rfl⟩)⟩
  simp only [execOp, hop]
  simp [Instr.box, newVar, newRow]
end
end Go.Ab
