import Derived.Test.YtponkmbigjmmoaaGreatGA
import Derived.Laws.Tables
namespace Go.Ab
set_option linter.unusedSimpArgs false
set_option linter.unusedVariables false
open Go
structure SimS (St : Nat -> Prop) (m : Map) (s : S) (a : Act) (w : World) : Prop where
 objs : Objs St m s.L w
 size : a.tmps.size = s.sl.length
 slots : ∀ i, i < s.sl.length -> VRel St m s.L w (s.sl.getD i .any) (a.tmps.getD i undef)
 calm : a.defers = []
structure Same (w w' : World) : Prop where
 heap : w'.heap = w.heap
 os : w'.os = w.os
 tape : w'.tape = w.tape
 output : w'.output = w.output
theorem Same.refl (w : World) : Same w w := ⟨rfl, rfl, rfl, rfl⟩
theorem Same.drew (w : World) (n : Nat) : Same w { w with drawn := n } := ⟨rfl, rfl, rfl, rfl⟩
theorem Same.ext {St : Nat -> Prop} {m : Map} {L : Heap} {w w' : World} (h : Same w w') : Ext St St m m L L w w' :=
 ⟨λ_ h => h, λ_ _ => by rw [h.heap], λ_ _ c hc => ⟨c, hc, d2t _, λ_ => rfl⟩⟩
theorem Same.vrel {St : Nat -> Prop} {m : Map} {L : Heap} {w w' : World} (h : Same w w') {v : V} {c : Value} (hv : VRel St m L w v c) : VRel St m L w' v c := hv.mono h.ext
theorem Same.objs {St : Nat -> Prop} {m : Map} {L : Heap} {w w' : World} (h : Same w w') (ho : Objs St m L w) : Objs St m L w' := by
 refine ⟨λb hb => by rw [h.heap]; exact ho.st b hb, ho.nil, λX r cells b C hL hm => ?_, ho.inj⟩
 obtain ⟨h1, h2, arr, el, h3, h4, h5, h6⟩ := ho.obj X r cells b C hL hm
 exact ⟨by rw [h.heap]; exact h1, h2, arr, el, by rw [h.heap]; exact h3, h4, h5, λj hj => h.vrel (h6 j hj)⟩
theorem Same.frame {F : Nat -> Prop} {w w' : World} (h : Same w w') : Frame' F w w' :=
 ⟨h.os, h.tape, h.output, by rw [h.heap]; exact d2t _, λ_ _ _ => by rw [h.heap]⟩
section inv
variable {St : Nat -> Prop} {m : Map} {L : Heap} {w : World} {c : Value}
theorem VRel.int {k : IntKind} {n : Int} (h : VRel St m L w (.d (.int k n)) c) : c = .int k n := by cases h with | d h => cases h; rfl
theorem VRel.bool {b : Bool} (h : VRel St m L w (.d (.bool b)) c) : c = .bool b := by cases h with | d h => cases h; rfl
theorem VRel.fraw {x : Nat} (h : VRel St m L w (.d (.fraw x)) c) : x < 2 ^ 64 /\ c = .float .f64 x := by cases h with | d h => cases h with | fraw hb => exact ⟨hb, rfl⟩
theorem VRel.flt {x : Nat} (h : VRel St m L w (.d (.flt x)) c) : ∃ b, b < 2 ^ 64 /\ cf b = x /\ c = .float .f64 b := by cases h with | d h => cases h with | flt hb h => exact ⟨_, hb, h, rfl⟩
theorem VRel.agg' {xs : List V} (h : VRel St m L w (.agg xs) c) : ∃ cs, c = .agg cs /\ cs.size = xs.length /\ ∀ j, j < xs.length -> VRel St m L w (xs.getD j .any) (cs.getD j undef) := by
 cases h with | agg h1 h => exact ⟨_, rfl, h1, h⟩
theorem VRel.tup' {xs : List V} (h : VRel St m L w (.tup xs) c) : ∃ cs, c = .tuple cs /\ cs.size = xs.length /\ ∀ j, j < xs.length -> VRel St m L w (xs.getD j .any) (cs.getD j undef) := by
 cases h with | tup h1 h => exact ⟨_, rfl, h1, h⟩
theorem VRel.ptr' {X r off ver : Nat} (h : VRel St m L w (.ptr X r off ver) c) : ∃ cells ad, L.get X r = some cells /\ ver <= cells.length /\ c = .pointer (some ad) /\
  (cells.length = ver -> ∃ b C, m X r = some (b, C) /\ ad = ⟨b, off, none⟩) := by
 cases h with | ptr hL hv ad hc h => exact ⟨_, ad, hL, hv, hc, h⟩
theorem VRel.sl' {X r off n esz ver : Nat} (h : VRel St m L w (.sl X r off n esz ver) c) : ∃ cells a cap, L.get X r = some cells /\ ver <= cells.length /\ c = .slice a n cap /\ n <= cap /\ (0 < n -> a.isSome = true) /\
  (cells.length = ver -> cap = 0 \/ ∃ b C, m X r = some (b, C) /\ off + cap * esz <= C /\ a = some ⟨b, off, none⟩) := by
 cases h with | sl hL hv a cap hc hn ha h => exact ⟨_, a, cap, hL, hv, hc, hn, ha, h⟩
theorem VRel.fn' {f : FuncId} {first cap : List V} (h : VRel St m L w (.fn f first cap) c) : ∃ fs cs, c = .func (.func f) fs cs /\ fs.size = first.length /\ cs.size = cap.length /\
  (∀ j, j < first.length -> VRel St m L w (first.getD j .any) (fs.getD j undef)) /\ (∀ j, j < cap.length -> VRel St m L w (cap.getD j .any) (cs.getD j undef)) := by
 cases h with | fn h1 h2 h3 h4 => exact ⟨_, _, rfl, h1, h2, h3, h4⟩
theorem VRel.dfn {f : FuncId} {first cap : List D} (h : VRel St m L w (.d (.fn f first cap)) c) : ∃ fs cs, c = .func (.func f) fs cs /\ fs.size = first.length /\ cs.size = cap.length /\
  (∀ j, j < first.length -> DRel St w (first.getD j default) (fs.getD j undef)) /\ (∀ j, j < cap.length -> DRel St w (cap.getD j default) (cs.getD j undef)) := by
 cases h with | d h => cases h with | fn h1 h2 h3 h4 => exact ⟨_, _, rfl, h1, h2, h3, h4⟩
theorem VRel.bptr {cells : List D} (h : VRel St m L w (.d (.bptr cells)) c) : ∃ blk off, ∃ cell : Nat -> Value, c = .pointer (some ⟨blk, off, none⟩) /\ St blk /\
  (∀ j, j < cells.length -> w.cell? ⟨blk, off + j, none⟩ = some (cell j)) /\ ∀ j, j < cells.length -> DRel St w (cells.getD j default) (cell j) := by
 cases h with | d h => cases h with | bptr cell hs hc hd => exact ⟨_, _, cell, rfl, hs, hc, hd⟩
theorem VRel.bor {n : Nat} {get : Nat -> List D} (h : VRel St m L w (.d (.bor n get)) c) : ∃ a cap, c = .slice a n cap /\ (0 < n -> ∃ blk off sz, ∃ cell : Nat -> Nat -> Value, a = some ⟨blk, off, none⟩ /\ St blk /\
  (∀ i, i < n -> (get i).length = sz) /\ (∀ i j, i < n -> j < sz -> w.cell? ⟨blk, off + i * sz + j, none⟩ = some (cell i j)) /\ (∀ i j, i < n -> j < sz -> DRel St w ((get i).getD j default) (cell i j))) := by
 cases h with | d h => cases h with
  | bor0 g a c => exact ⟨a, c, rfl, λh => absurd h (by omega)⟩
  | bor cell hs _ hl hc hd => exact ⟨_, _, rfl, λ_ => ⟨_, _, _, cell, rfl, hs, hl, hc, hd⟩⟩
theorem VRel.cap {n : Nat} {get : Nat -> List D} {b : Option Addr} {cap : Nat} (h : VRel St m L w (.d (.bor n get)) c) (hc : c = .slice b n cap) : n <= cap := by
 cases h with | d h => cases h with
  | bor0 g a c => omega
  | bor cell hs hcap hl hc' hd => cases hc; exact hcap
end inv
theorem b63 (St : Nat -> Prop) (m : Map) (L : Heap) (w : World) (v : Value) : VRel St m L w (Value.toV v) v := by
 cases v with
 | bool b => exact .d (.bool _)
 | int k n => exact .d (.int _ _)
 | float k b =>
  simp only [Value.toV]; split
  ·rename_i h; obtain ⟨rfl, h⟩ := h; exact .d (.flt h rfl)
  ·exact .any _
 | string s => exact .d (.str _)
 | pointer p =>
  simp only [Value.toV]; split
  ·rename_i h; obtain rfl : p = none := by simpa using h
   exact .d .nilp
  ·exact .any _
 | slice a n c =>
  simp only [Value.toV]; split
  ·rename_i h; obtain ⟨h, rfl, rfl⟩ := h
   obtain rfl : a = none := by simpa using h
   exact .nil
  ·exact .any _
 | func fn a b =>
  cases fn <;> simp only [Value.toV] <;> first | exact .any _ | skip
  split
  ·rename_i h; obtain ⟨h1, h2⟩ := h
   exact .d (.fn (by simpa using h1) (by simpa using h2) (λj hj => by simp at hj) (λj hj => by simp at hj))
  ·exact .any _
 | nilFunc => exact .d .nilf
 | _ => exact .any _
theorem c05 (St : Nat -> Prop) (m : Map) (L : Heap) (w : World) (v : Value) : VRel St m L w (b6n v) v := by
 unfold b6n
 split
 ·rename_i cs
  refine .agg (by simp) λj hj => ?_
  have hj' : j < cs.size := by simpa using hj
  have : (cs.toList.map Value.toV).getD j .any = Value.toV (cs.getD j undef) := by
   simp [d2d, hj']
  rw [this]; exact b63 ..
 ·exact b63 ..
theorem n9 {St : Nat -> Prop} {m : Map} {s : S} {a : Act} {w : World} (h : SimS St m s a w) (x : Operand) : VRel St m s.L w (s.ev (Opd.of x)) (a.eval x) := by
 cases x with
 | tmp i =>
  simp only [Opd.of, S.ev, Act.eval]
  by_cases hi : i < s.sl.length
  ·exact h.slots i hi
  ·have : s.sl[i]? = none := d2n (Nat.not_lt.1 hi)
   rw [show s.sl.getD i .any = .any from by rw [d2d, this]; rfl]; exact .any _
 | const v => exact c05 ..
 | global g => exact .any _
 | func f => exact .d (.fn rfl rfl (λj hj => by simp at hj) (λj hj => by simp at hj))
def szT (P : Program) (t : TypeId) : Option Nat := (P.info? t).map (·.size)
def aggT (P : Program) (t : TypeId) : Option Bool := (P.underlying t).map λ| .struct _ | .array .. => true | _ => false
def c0Z : BinOp -> Option (FOp ⊕ FCmp)
 | .add => some (.inl .add) | .sub => some (.inl .sub) | .mul => some (.inl .mul) | .quo => some (.inl .div)
 | .eql => some (.inr .eq) | .neq => some (.inr .ne) | .lss => some (.inr .lt) | .leq => some (.inr .le) | .gtr => some (.inr .gt) | .geq => some (.inr .ge)
 | _ => none
def b7M (P : Program) (t : TypeId) : Option Bool := if szT P t = some 1 /\ aggT P t = some false then (match P.underlying t with | some .bool => some false | some (.float .f64) => some true | _ => none) else none
def cmpT (P : Program) (t : TypeId) : Option (List (Nat × Bool)) := if P.eqGuardType P.depth t = false then (match P.underlying t with
 | some (.struct fields) => if P.stoodInHeld t = false then fields.toList.mapM (λf => if f.name = "_" then none else (b7M P f.type).map λk => (f.offset, k)) else none
 | some (.array n e) => (b7M P e).map λk => (List.range n).map λi => (i, k)
 | _ => none) else none
def b9s (P : Program) (c : Callee) (args : List Operand) (ats : List TypeId) : Option HI :=
 match c with
 | .builtin b => match args with
  | [x] => if b = .len then match ats with
    | [t] => match P.underlying t with
     | some (.slice _) => some (.len (Opd.of x))
     | _ => none
    | _ => none
   else none
  | [x, y] => if b = .max then some (.mm true (Opd.of x) (Opd.of y)) else if b = .min then some (.mm false (Opd.of x) (Opd.of y)) else none
  | [x, y, z] => if b = .min then some (.mm3 (Opd.of x) (Opd.of y) (Opd.of z)) else none
  | _ => none
 | .value f => match f, args with
  | .func f, [x] => match P.funcs[f]? with
   | some fn => if fn.body.isNone then
     if fn.name = "math.Float64bits" /\ fn.origin = "" then some (.bits (Opd.of x))
     else if fn.name = "math.Float64frombits" /\ fn.origin = "" then some (.frombits (Opd.of x)) else none
    else none
   | none => none
  | _, _ => none
 | _ => none
def c3G : Operand -> Bool
 | .const (.slice none n c) => n == 0 && c == 0
 | _ => false
theorem c3F {y : Operand} (h : c3G y = true) : y = .const (.slice none 0 0) := by
 unfold c3G at h
 split at h
 ·simp only [Bool.and_eq_true, beq_iff_eq] at h
  obtain ⟨rfl, rfl⟩ := h
  rfl
 ·cases h
def a0X (P : Program) (op : Op) : Option HI :=
 match op with
 | .move x | .assign x => some (.mov (Opd.of x))
 | .pick c a b => some (.pick (Opd.of c) (Opd.of a) (Opd.of b))
 | .build t parts => match P.info? t, P.underlying t with
  | some it, some (.array _ e) => match it.zero, P.info? e with
   | some z, some ie => some (.build (z.cells.toList.map Value.toV) (parts.toList.map λ(i, x) => (i * ie.size, ie.size, Opd.of x)))
   | _, _ => none
  | some it, some (.struct fields) => match it.zero, fields.toList.mapM (λf => (P.info? f.type).map λi => (f.offset, i.size)) with
   | some z, some places => (parts.toList.mapM λ(q : Nat × Operand) => (places[q.1]?).map λ(p : Nat × Nat) => (p.1, p.2, Opd.of q.2)).map λps => .build (z.cells.toList.map Value.toV) ps
   | _, _ => none
  | _, _ => none
 | .nilCheck x => some (.nilck (Opd.of x))
 | .binOp op t x y _ => match P.underlying t with
  | some (.int _) => some (.ibin op (Opd.of x) (Opd.of y))
  | some (.float .f64) => match c0Z op with
   | some (.inl o) => some (.fbin o (Opd.of x) (Opd.of y))
   | some (.inr o) => some (.fcmp o (Opd.of x) (Opd.of y))
   | none => none
  | some .bool => match op with
   | .eql => some (.bcmp false (Opd.of x) (Opd.of y))
   | .neq => some (.bcmp true (Opd.of x) (Opd.of y))
   | _ => none
  | some (.slice _) => if c3G y = true then (match op with
   | .eql => some (.nilq false (Opd.of x))
   | .neq => some (.nilq true (Opd.of x))
   | _ => none) else none
  | _ => match cmpT P t with
   | some ks => match op with
    | .eql => some (.acmp false (Opd.of x) (Opd.of y) ks)
    | .neq => some (.acmp true (Opd.of x) (Opd.of y) ks)
    | _ => none
   | none => none
 | .unOp op _ x => some (.un op (Opd.of x))
 | .convert s d x => match P.underlying s, P.underlying d with
  | some (.int _), some (.int k) => some (.icv k (Opd.of x))
  | some (.int _), some (.float .f64) => some (.i2f (Opd.of x))
  | some (.float .f64), some (.float .f64) => some (.f2f (Opd.of x))
  | _, _ => none
 | .makeFunc (.func f) first cap => some (.mkfn f (first.toList.map Opd.of) (cap.toList.map Opd.of))
 | .slice t x lo hi mx => match P.underlying t with
  | some (.slice e) => if mx.isSome /\ hi.isNone then none else (szT P e).map λn => .slc (Opd.of x) (lo.map Opd.of) (hi.map Opd.of) (mx.map Opd.of) n
  | _ => none
 | .fieldAddr t x f => match P.underlying t with
  | some (.struct fields) => match fields[f]? with
   | some fd => match szT P fd.type with
    | some (_ + 1) => some (.padd (Opd.of x) fd.offset)
    | _ => none
   | none => none
  | _ => none
 | .field t x f => match P.underlying t with
  | some (.struct fields) => match fields[f]? with
   | some fd => match szT P fd.type, aggT P fd.type with
    | some n, some g => if g = true \/ n = 1 then some (.fld (Opd.of x) fd.offset n g) else none
    | _, _ => none
   | none => none
  | _ => none
 | .indexAddr t x i => match P.underlying t with
  | some (.slice e) => (szT P e).map λn => .idx (Opd.of x) (Opd.of i) n
  | some (.array len e) => (szT P e).map λn => .idxa (Opd.of x) (Opd.of i) len n
  | _ => none
 | .index t x i => match P.underlying t with
  | some (.array len e) => match szT P e, aggT P e with
   | some n, some g => if g = true \/ n = 1 then some (.idxv (Opd.of x) (Opd.of i) len n g) else none
   | _, _ => none
  | _ => none
 | .extract x i => some (.ext (Opd.of x) i)
 | .call c => b9s P c.callee c.args.toList c.argTypes.toList
 | _ => none
end Go.Ab
