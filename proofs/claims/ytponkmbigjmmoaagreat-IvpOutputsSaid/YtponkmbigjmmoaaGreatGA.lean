import Derived.Calls
import Derived.Orders
import Derived.Laws.Cover2
import Derived.Laws.FloatArith
import Derived.Laws.Sem
import Derived.Laws.World
import Derived.Laws.Cells
import Derived.WalkKit
namespace Go.Ab
set_option linter.defProp false
theorem andO {A B : Prop} (h : B) (a : A := by omega) : A ∧ B := ⟨a, h⟩
def d2b := @of_decide_eq_true
def d2c := @of_decide_eq_false
def d2d := @List.getD_eq_getElem?_getD.{0}
def d2f := @List.getElem?_eq_getElem.{0}
def d2g := @List.getElem?_append_left.{0}
def d2j := @List.getElem?_append_right.{0}
def d2k := @Int.emod_lt_of_pos
def d2m := @Int.emod_nonneg
def d2n := @List.getElem?_eq_none.{0}
def d2p := @Rat.mul_le_mul_of_nonneg_right
def d2q := @Rat.le_of_lt
def d2r := @List.take_of_length_le.{0}
def d2s := @Rat.lt_of_mul_lt_mul_right
def d2t := @Nat.le_refl
def d2u := @Rat.natCast_le_natCast
def d2v := @Nat.pow_le_pow_right
def d2w := @Rat.mul_le_mul_of_nonneg_left
end Go.Ab
set_option linter.unusedSimpArgs false
set_option linter.unusedVariables false
namespace Go.Ab
open Go
def qnan : Nat := 9221120237041090561
def j7 (b : Nat) : Bool := 9218868437227405312 < b % 9223372036854775808
def cf (b : Nat) : Nat := if j7 b then qnan else b
theorem K2 (b : Nat) : (Ieee.double.read b).isNaN = j7 b := by
 have h1 : Ieee.double.signWeight = 9223372036854775808 := rfl
 have h2 : Ieee.double.binade = 4503599627370496 := rfl
 have h3 : Ieee.double.infRung = 9218868437227405312 := rfl
 unfold Ieee.Format.read j7
 simp only [h1, h2, h3]
 split
 ·simp [Ieee.Datum.isNaN]; omega
 ·split
  ·simp [Ieee.Datum.isNaN]; omega
  ·split
   ·simp [Ieee.Datum.isNaN]; omega
   ·simp [Ieee.Datum.isNaN]; omega
theorem c0M : j7 qnan = true := by decide
theorem u7 {b : Nat} (h : j7 b = false) : cf b = b := by simp [cf, h]
theorem a7Y {b : Nat} (h : j7 b = true) : cf b = qnan := by simp [cf, h]
theorem a9u (b : Nat) : j7 (cf b) = j7 b := by
 unfold cf; split
 ·rename_i h; rw [h]; exact c0M
 ·rfl
theorem b6w (g : Ieee.Datum -> Ieee.Datum -> Option Ieee.Datum)
  (hl : ∀ s t y, g (.nan s t) y = none) (hr : ∀ x s t, g x (.nan s t) = none) (x y : Nat) :
  g (Ieee.double.read (cf x)) (Ieee.double.read (cf y)) = g (Ieee.double.read x) (Ieee.double.read y) := by
 have nl : ∀ b d, j7 b = true -> g (Ieee.double.read b) d = none := by
  intro b d h
  rw [<- K2] at h
  cases hb : Ieee.double.read b <;> simp [hb, Ieee.Datum.isNaN] at h
  exact hl ..
 have nr : ∀ b d, j7 b = true -> g d (Ieee.double.read b) = none := by
  intro b d h
  rw [<- K2] at h
  cases hb : Ieee.double.read b <;> simp [hb, Ieee.Datum.isNaN] at h
  exact hr ..
 by_cases hx : j7 x = true
 ·rw [nl x _ hx, nl (cf x) _ (by rw [a9u]; exact hx)]
 ·by_cases hy : j7 y = true
  ·rw [nr y _ hy, nr (cf y) _ (by rw [a9u]; exact hy)]
  ·rw [u7 (by simpa using hx), u7 (by simpa using hy)]
theorem b5a (s t y) : Ieee.Datum.sum (.nan s t) y = none := by cases y <;> rfl
theorem b49 (x s t) : Ieee.Datum.sum x (.nan s t) = none := by cases x <;> rfl
theorem b3L (s t y) : Ieee.Datum.product (.nan s t) y = none := by cases y <;> rfl
theorem b3K (x s t) : Ieee.Datum.product x (.nan s t) = none := by cases x <;> rfl
theorem b1B (d s t y) : Ieee.Datum.quotient d (.nan s t) y = none := by cases y <;> rfl
theorem b1A (d x s t) : Ieee.Datum.quotient d x (.nan s t) = none := by cases x <;> rfl
theorem a9N (s t y) : Ieee.Datum.order (.nan s t) y = none := by cases y <;> rfl
theorem a9M (x s t) : Ieee.Datum.order x (.nan s t) = none := by cases x <;> rfl
inductive FOp where | add | sub | mul | div
 deriving DecidableEq
inductive FCmp where | eq | ne | lt | le | gt | ge
 deriving DecidableEq
def fop (o : FOp) (x y : Nat) : Nat :=
 ((match o with
  | .add => Ieee.double.add x y
  | .sub => Ieee.double.sub x y
  | .mul => Ieee.double.mul x y
  | .div => Ieee.double.div x y).map cf).getD qnan
def fcmp (o : FCmp) (x y : Nat) : Bool :=
 let c := Ieee.double.order x y
 match o with
 | .eq => c == some .eq
 | .ne => c != some .eq
 | .lt => c == some .lt
 | .le => c == some .lt || c == some .eq
 | .gt => c == some .gt
 | .ge => c == some .gt || c == some .eq
theorem d01 (x y : Nat) : Ieee.double.add (cf x) (cf y) = Ieee.double.add x y := by
 unfold Ieee.Format.add; rw [b6w _ b5a b49]
theorem c9M (x y : Nat) : Ieee.double.sub (cf x) (cf y) = Ieee.double.sub x y := by
 unfold Ieee.Format.sub
 rw [b6w (λa b => Ieee.Datum.sum a b.opposite) (λs t y => b5a _ _ _) (λx s t => b49 _ _ _)]
theorem c97 (x y : Nat) : Ieee.double.mul (cf x) (cf y) = Ieee.double.mul x y := by
 unfold Ieee.Format.mul; rw [b6w _ b3L b3K]
theorem d0H (x y : Nat) : Ieee.double.div (cf x) (cf y) = Ieee.double.div x y := by
 unfold Ieee.Format.div; rw [b6w _ (b1B _) (b1A _)]
theorem b3R (x y : Nat) : Ieee.double.order (cf x) (cf y) = Ieee.double.order x y := by
 unfold Ieee.Format.order
 have h := b6w (λa b => (Ieee.Datum.order a b).map λo => match o with | .lt => .infinity true | .eq => .number false 0 0 | .gt => .infinity false)
  (λs t y => by rw [a9N]; rfl) (λx s t => by rw [a9M]; rfl) x y
 revert h
 generalize Ieee.Datum.order (Ieee.double.read (cf x)) (Ieee.double.read (cf y)) = p
 generalize Ieee.Datum.order (Ieee.double.read x) (Ieee.double.read y) = q
 cases p <;> cases q <;> simp
 rename_i a b
 cases a <;> cases b <;> simp
inductive D where
 | int (k : IntKind) (n : Int)
 | bool (b : Bool)
 | flt (x : Nat)
 | fraw (b : Nat)
 | str (s : ByteArray)
 | bor (n : Nat) (get : Nat -> List D)
 | bptr (cells : List D)
 | nilp
 | nilf
 | fn (f : FuncId) (first cap : List D)
instance : Inhabited D := ⟨.nilp⟩
abbrev D.nils : D := .bor 0 λ_ => []
inductive V where
 | d (x : D)
 | ptr (X r off ver : Nat)
 | sl (X r off n esz ver : Nat)
 | agg (xs : List V)
 | fn (f : FuncId) (first cap : List V)
 | tup (xs : List V)
 | nil
 | any
instance : Inhabited V := ⟨.any⟩
abbrev Heap := List (Nat × List (List V))
def Heap.fam (L : Heap) (X : Nat) : Option (List (List V)) := List.lookup X L
def Heap.get (L : Heap) (X r : Nat) : Option (List V) := (L.fam X).bind (·[r]?)
def Heap.put : Heap -> Nat -> Nat -> List V -> Heap
 | [], _, _, _ => []
 | (Y, fs) :: L, X, r, cs => if X = Y then (Y, fs.set r cs) :: L else (Y, fs) :: Heap.put L X r cs
abbrev Map := Nat -> Nat -> Option (Nat × Nat)
inductive DRel (St : Nat -> Prop) (w : World) : D -> Value -> Prop
 | int (k : IntKind) (n : Int) : DRel St w (.int k n) (.int k n)
 | bool (b : Bool) : DRel St w (.bool b) (.bool b)
 | flt {x b : Nat} (hb : b < 2 ^ 64) (h : cf b = x) : DRel St w (.flt x) (.float .f64 b)
 | fraw {b : Nat} (hb : b < 2 ^ 64) : DRel St w (.fraw b) (.float .f64 b)
 | str (s : ByteArray) : DRel St w (.str s) (.string s)
 | nilp : DRel St w .nilp (.pointer none)
 | nilf : DRel St w .nilf .nilFunc
 | bor0 (get : Nat -> List D) (a : Option Addr) (c : Nat) : DRel St w (.bor 0 get) (.slice a 0 c)
 | bor {n : Nat} {get : Nat -> List D} {blk off c sz : Nat} (cell : Nat -> Nat -> Value) (hs : St blk) (hcap : n <= c)
   (hl : ∀ i, i < n -> (get i).length = sz)
   (hc : ∀ i j, i < n -> j < sz -> w.cell? ⟨blk, off + i * sz + j, none⟩ = some (cell i j))
   (hd : ∀ i j, i < n -> j < sz -> DRel St w ((get i).getD j default) (cell i j)) :
   DRel St w (.bor n get) (.slice (some ⟨blk, off, none⟩) n c)
 | bptr {cells : List D} {blk off : Nat} (cell : Nat -> Value) (hs : St blk)
   (hc : ∀ j, j < cells.length -> w.cell? ⟨blk, off + j, none⟩ = some (cell j))
   (hd : ∀ j, j < cells.length -> DRel St w (cells.getD j default) (cell j)) :
   DRel St w (.bptr cells) (.pointer (some ⟨blk, off, none⟩))
 | fn {f : FuncId} {first cap : List D} {fs cs : Array Value} (h1 : fs.size = first.length) (h2 : cs.size = cap.length)
   (hf : ∀ j, j < first.length -> DRel St w (first.getD j default) (fs.getD j undef))
   (hc : ∀ j, j < cap.length -> DRel St w (cap.getD j default) (cs.getD j undef)) :
   DRel St w (.fn f first cap) (.func (.func f) fs cs)
inductive VRel (St : Nat -> Prop) (m : Map) (L : Heap) (w : World) : V -> Value -> Prop
 | d {x : D} {c : Value} (h : DRel St w x c) : VRel St m L w (.d x) c
 | any (c : Value) : VRel St m L w .any c
 | nil : VRel St m L w .nil (.slice none 0 0)
 | ptr {X r off ver : Nat} {c : Value} {cells : List V} (hL : L.get X r = some cells) (hv : ver <= cells.length)
   (ad : Addr) (hc : c = .pointer (some ad)) (h : cells.length = ver -> ∃ b C, m X r = some (b, C) /\ ad = ⟨b, off, none⟩) : VRel St m L w (.ptr X r off ver) c
 | sl {X r off n esz ver : Nat} {c : Value} {cells : List V} (hL : L.get X r = some cells) (hv : ver <= cells.length)
   (a : Option Addr) (cap : Nat) (hc : c = .slice a n cap) (hn : n <= cap) (ha : 0 < n -> a.isSome = true)
   (h : cells.length = ver -> cap = 0 \/ ∃ b C, m X r = some (b, C) /\ off + cap * esz <= C /\ a = some ⟨b, off, none⟩) : VRel St m L w (.sl X r off n esz ver) c
 | agg {xs : List V} {cs : Array Value} (h1 : cs.size = xs.length)
   (h : ∀ j, j < xs.length -> VRel St m L w (xs.getD j .any) (cs.getD j undef)) : VRel St m L w (.agg xs) (.agg cs)
 | fn {f : FuncId} {first cap : List V} {fs cs : Array Value} (h1 : fs.size = first.length) (h2 : cs.size = cap.length)
   (hf : ∀ j, j < first.length -> VRel St m L w (first.getD j .any) (fs.getD j undef))
   (hc : ∀ j, j < cap.length -> VRel St m L w (cap.getD j .any) (cs.getD j undef)) :
   VRel St m L w (.fn f first cap) (.func (.func f) fs cs)
 | tup {xs : List V} {cs : Array Value} (h1 : cs.size = xs.length)
   (h : ∀ j, j < xs.length -> VRel St m L w (xs.getD j .any) (cs.getD j undef)) : VRel St m L w (.tup xs) (.tuple cs)
theorem DRel.mono {St St' : Nat -> Prop} {w w' : World} (hS : ∀ b, St b -> St' b) (hw : ∀ b, St b -> w'.heap[b]? = w.heap[b]?) {x : D} {c : Value}
  (h : DRel St w x c) : DRel St' w' x c := by
 have cellEq : ∀ b o, St b -> w'.cell? ⟨b, o, none⟩ = w.cell? ⟨b, o, none⟩ := by
  intro b o hb; unfold World.cell?; simp only [hw b hb]
 induction h with
 | int k n => exact .int k n
 | bool b => exact .bool b
 | flt hb h => exact .flt hb h
 | fraw hb => exact .fraw hb
 | str s => exact .str s
 | nilp => exact .nilp
 | nilf => exact .nilf
 | bor0 g a c => exact .bor0 g a c
 | bor cell hs hcap hl hc hd ih => exact .bor cell (hS _ hs) hcap hl (λi j hi hj => by rw [cellEq _ _ hs]; exact hc i j hi hj) ih
 | bptr cell hs hc hd ih => exact .bptr cell (hS _ hs) (λj hj => by rw [cellEq _ _ hs]; exact hc j hj) ih
 | fn h1 h2 hf hc ihf ihc => exact .fn h1 h2 ihf ihc
structure Ext (St St' : Nat -> Prop) (m m' : Map) (L L' : Heap) (w w' : World) : Prop where
 st : ∀ b, St b -> St' b
 keep : ∀ b, St b -> w'.heap[b]? = w.heap[b]?
 own : ∀ X r cells, L.get X r = some cells -> ∃ cells', L'.get X r = some cells' /\ cells.length <= cells'.length /\ (cells'.length = cells.length -> m' X r = m X r)
theorem Ext.refl (St : Nat -> Prop) (m : Map) (L : Heap) (w : World) : Ext St St m m L L w w :=
 ⟨λ_ h => h, λ_ _ => rfl, λ_ _ cells h => ⟨cells, h, d2t _, λ_ => rfl⟩⟩
theorem Ext.trans {S1 S2 S3 : Nat -> Prop} {m1 m2 m3 : Map} {L1 L2 L3 : Heap} {w1 w2 w3 : World} (h : Ext S1 S2 m1 m2 L1 L2 w1 w2) (k : Ext S2 S3 m2 m3 L2 L3 w2 w3) :
  Ext S1 S3 m1 m3 L1 L3 w1 w3 := by
 refine ⟨λb hb => k.st b (h.st b hb), λb hb => (k.keep b (h.st b hb)).trans (h.keep b hb), λX r cells hc => ?_⟩
 obtain ⟨c2, h2, hle2, he2⟩ := h.own X r cells hc
 obtain ⟨c3, h3, hle3, he3⟩ := k.own X r c2 h2
 refine ⟨c3, h3, by omega, λe => ?_⟩
 rw [he3 (by omega), he2 (by omega)]
theorem VRel.mono {St St' : Nat -> Prop} {m m' : Map} {L L' : Heap} {w w' : World} (e : Ext St St' m m' L L' w w') {x : V} {c : Value}
  (h : VRel St m L w x c) : VRel St' m' L' w' x c := by
 induction h with
 | d h => exact .d (h.mono e.st e.keep)
 | any c => exact .any c
 | nil => exact .nil
 | ptr hL hv ad hc h =>
  obtain ⟨c', h', hle, he⟩ := e.own _ _ _ hL
  refine .ptr h' (by omega) ad hc λhver => ?_
  obtain ⟨b, C, hm, hc⟩ := h (by omega)
  exact ⟨b, C, by rw [he (by omega)]; exact hm, hc⟩
 | sl hL hv a cap hc hn ha h =>
  obtain ⟨c', h', hle, he⟩ := e.own _ _ _ hL
  refine .sl h' (by omega) a cap hc hn ha λhver => ?_
  rw [he (by omega)]
  exact h (by omega)
 | agg h1 h ih => exact .agg h1 ih
 | fn h1 h2 hf hc ihf ihc => exact .fn h1 h2 ihf ihc
 | tup h1 h ih => exact .tup h1 ih
def a8V (m : Map) (L : Heap) (b : Nat) : Prop := ∃ X r C, L.get X r ≠ none /\ m X r = some (b, C)
structure Objs (St : Nat -> Prop) (m : Map) (L : Heap) (w : World) : Prop where
 st : ∀ b, St b -> b < w.heap.size
 nil : ∀ X r cells, L.get X r = some cells -> m X r = none -> cells = []
 obj : ∀ X r cells b C, L.get X r = some cells -> m X r = some (b, C) -> b < w.heap.size /\ ¬ St b /\
  ∃ arr el, w.heap[b]? = some (.cells arr el (0, 0)) /\ arr.size = C /\ cells.length <= C /\ ∀ j, j < cells.length -> VRel St m L w (cells.getD j .any) (arr.getD j undef)
 inj : ∀ X r Y q b C C', L.get X r ≠ none -> L.get Y q ≠ none -> m X r = some (b, C) -> m Y q = some (b, C') -> X = Y /\ r = q
structure Frame' (Foot : Nat -> Prop) (w w' : World) : Prop where
 os : w'.os = w.os
 tape : w'.tape = w.tape
 output : w'.output = w.output
 size : w.heap.size <= w'.heap.size
 block : ∀ b, b < w.heap.size -> ¬ Foot b -> w'.heap[b]? = w.heap[b]?
theorem Frame'.refl (F : Nat -> Prop) (w : World) : Frame' F w w := ⟨rfl, rfl, rfl, d2t _, λ_ _ _ => rfl⟩
theorem Frame'.trans {F G : Nat -> Prop} {a b c : World} (h : Frame' F a b) (k : Frame' G b c) (hg : ∀ x, G x -> x < a.heap.size -> F x) : Frame' F a c :=
 ⟨k.os.trans h.os, k.tape.trans h.tape, k.output.trans h.output, Nat.le_trans h.size k.size,
  λx hx hf => (k.block x (Nat.lt_of_lt_of_le hx h.size) λhG => hf (hg x hG hx)).trans (h.block x hx hf)⟩
def Src (m : Map) (L : Heap) (m' : Map) (L' : Heap) (w : World) : Prop :=
 ∀ X r b C, L'.get X r ≠ none -> m' X r = some (b, C) -> (L.get X r ≠ none /\ m X r = some (b, C)) \/ w.heap.size <= b
theorem Src.named {m m' : Map} {L L' : Heap} {w : World} (h : Src m L m' L' w) (b : Nat) (hb : a8V m' L' b) : a8V m L b \/ w.heap.size <= b := by
 obtain ⟨X, r, C, h1, h2⟩ := hb
 rcases h X r b C h1 h2 with ⟨h3, h4⟩ | h3
 ·exact .inl ⟨X, r, C, h3, h4⟩
 ·exact .inr h3
theorem Src.refl (m : Map) (L : Heap) (w : World) : Src m L m L w := λ_ _ _ _ h1 h2 => .inl ⟨h1, h2⟩
theorem Src.trans {m1 m2 m3 : Map} {L1 L2 L3 : Heap} {w1 w2 : World} (h : Src m1 L1 m2 L2 w1) (k : Src m2 L2 m3 L3 w2) (hs : w1.heap.size <= w2.heap.size) : Src m1 L1 m3 L3 w1 := by
 intro X r b C h1 h2
 rcases k X r b C h1 h2 with ⟨h3, h4⟩ | h3
 ·exact h X r b C h3 h4
 ·exact .inr (Nat.le_trans hs h3)
end Go.Ab
namespace Go.Ab
open Go
def Heap.next : Heap -> Nat
 | [] => 0
 | (X, _) :: L => if Heap.next L <= X then X + 1 else Heap.next L
def Heap.ins (X : Nat) (f : List (List V)) : Heap -> Heap
 | [] => [(X, f)]
 | (Y, g) :: L => if Y < X then (X, f) :: (Y, g) :: L else (Y, g) :: Heap.ins X f L
def Value.toV (v : Value) : V :=
 match v with
 | .bool b => .d (.bool b)
 | .int k n => .d (.int k n)
 | .float k b => if k = .f64 /\ b < 2 ^ 64 then .d (.flt (cf b)) else .any
 | .string s => .d (.str s)
 | .pointer p => if p.isNone then .d .nilp else .any
 | .slice a n c => if a.isNone /\ n = 0 /\ c = 0 then .nil else .any
 | .func fn a b => match fn with
  | .func f => if a.size = 0 /\ b.size = 0 then .d (.fn f [] []) else .any
  | _ => .any
 | .nilFunc => .d .nilf
 | _ => .any
def b6n : Value -> V
 | .agg cs => .agg (cs.toList.map Value.toV)
 | v => Value.toV v
inductive Opd where
 | t (i : Nat)
 | k (v : V)
def Opd.of : Operand -> Opd
 | .tmp i => .t i
 | .const v => .k (b6n v)
 | .func f => .k (.d (.fn f [] []))
 | .global _ => .k .any
structure S where
 sl : List V
 L : Heap
def S.ev (s : S) : Opd -> V
 | .t i => s.sl.getD i .any
 | .k v => v
inductive HI where
 | mov (x : Opd)
 | pick (c a b : Opd)
 | build (zero : List V) (parts : List (Nat × Nat × Opd))
 | nilck (x : Opd)
 | nilq (ne : Bool) (x : Opd)
 | ibin (op : BinOp) (x y : Opd)
 | fbin (o : FOp) (x y : Opd)
 | fcmp (o : FCmp) (x y : Opd)
 | bcmp (ne : Bool) (x y : Opd)
 | acmp (ne : Bool) (x y : Opd) (ks : List (Nat × Bool))
 | un (op : UnOp) (x : Opd)
 | icv (k : IntKind) (x : Opd)
 | i2f (x : Opd)
 | f2f (x : Opd)
 | mkfn (f : FuncId) (first cap : List Opd)
 | slc (x : Opd) (lo hi mx : Option Opd) (esz : Nat)
 | padd (x : Opd) (off : Nat)
 | fld (x : Opd) (off n : Nat) (agg : Bool)
 | idx (x i : Opd) (esz : Nat)
 | idxa (x i : Opd) (len esz : Nat)
 | idxv (x i : Opd) (len esz : Nat) (agg : Bool)
 | ext (x : Opd) (i : Nat)
 | len (x : Opd)
 | mm (mx : Bool) (x y : Opd)
 | mm3 (x y z : Opd)
 | bits (x : Opd)
 | frombits (x : Opd)
inductive Inst where
 | h (i : HI)
 | load (x : Opd) (n : Nat) (agg : Bool)
 | callC (f : Opd) (args : List Opd)
 | callS (k : Nat) (f : Opd) (args : List Opd)
 | alloc (zero : List V) (el : TypeId)
 | box (x : Opd) (n : Nat) (el : TypeId)
 | bslice (cells : List V) (n esz : Nat) (parts : List (Nat × Nat × Opd)) (el : TypeId)
 | mksl (zero : List V) (esz bytes : Nat) (n c : Opd) (el : TypeId)
 | store (p x : Opd) (n : Nat)
 | app (s x : Opd) (esz bytes : Nat)
 | cpy (dst src : Opd) (esz : Nat)
 | callA (f : Opd) (args : List Opd)
structure II where
 k : Nat
 dst : Option Nat
 g : Option (Nat × Bool)
 bs : List Opd
 ind : List Opd
 i : Inst
def cellsOf : V -> List V
 | .agg xs => xs
 | v => [v]
def V.isCell : V -> Bool
 | .d _ | .ptr .. | .sl .. | .fn .. | .nil => true
 | _ => false
def V.okPart : V -> Bool
 | .agg _ => true
 | v => v.isCell
def t6 (cells : List V) (off : Nat) : List V -> List V
 | [] => cells
 | v :: vs => t6 (cells.set off v) (off + 1) vs
def fillV (cells : List V) : List (Nat × Nat × V) -> Option (List V)
 | [] => some cells
 | (off, n, v) :: r =>
  if (cellsOf v).length = n /\ off + n <= cells.length /\ v.okPart = true then fillV (t6 cells off (cellsOf v)) r else none
def W3 (ev : Opd -> V) (ps : List (Nat × Nat × Opd)) : List (Nat × Nat × V) := ps.map λ(o, n, x) => (o, n, ev x)
def repl (n : Nat) (zero : List V) : List V := (List.replicate n zero).flatten
def z8 (n : Nat) (get : Nat -> List D) : List D := (List.range n).flatMap get
def ldv (agg : Bool) (n off : Nat) (cells : List V) : V := if agg then .agg ((cells.drop off).take n) else cells.getD off .any
def b0j (mx : Bool) (x y : Nat) : Nat :=
 match Ieee.double.order x y with
 | none => qnan
 | some .lt => if mx then y else x
 | some .gt => if mx then x else y
 | some .eq => if (Ieee.double.read x).neg = mx then y else x
def A6 (op : BinOp) (k : IntKind) (x y : Int) : Int :=
 let a := BitVec.ofInt k.bits x
 let b := BitVec.ofInt k.bits y
 k.wrap (match op with
  | .and => a &&& b
  | .or => a ||| b
  | .xor => a ^^^ b
  | _ => a &&& ~~~b).toNat
mutual
def V.ren (f : Nat -> Nat -> Nat × Nat) : V -> V
 | .d x => .d x
 | .ptr X r off ver => .ptr (f X r).1 (f X r).2 off ver
 | .sl X r off n esz ver => .sl (f X r).1 (f X r).2 off n esz ver
 | .agg xs => .agg (V.renL f xs)
 | .fn g a b => .fn g (V.renL f a) (V.renL f b)
 | .tup xs => .tup (V.renL f xs)
 | .nil => .nil
 | .any => .any
def V.renL (f : Nat -> Nat -> Nat × Nat) : List V -> List V
 | [] => []
 | v :: r => V.ren f v :: V.renL f r
end
def toF (nm : Nat) (_ r : Nat) : Nat × Nat := (nm, r)
def Y8 (nm : Nat) (fam : List (List V)) : List (List V) := fam.map λcells => cells.map (V.ren (toF nm))
def allD : List V -> Option (List D)
 | [] => some []
 | .d x :: r => (allD r).map (x :: ·)
 | _ :: _ => none
def fnOf (f : FuncId) (first cap : List V) : V :=
 match allD first, allD cap with
 | some a, some b => .d (.fn f a b)
 | _, _ => .fn f first cap
def aeq : List (Nat × Bool) -> List V -> List V -> Option Bool
 | [], _, _ => some true
 | (off, true) :: r, xs, ys => match xs.getD off .any, ys.getD off .any with
  | .d (.flt a), .d (.flt b) => (aeq r xs ys).map (Ab.fcmp .eq a b && ·)
  | _, _ => none
 | (off, false) :: r, xs, ys => match xs.getD off .any, ys.getD off .any with
  | .d (.bool a), .d (.bool b) => (aeq r xs ys).map ((a == b) && ·)
  | _, _ => none
def hv (i : HI) (ev : Opd -> V) (K : V -> Prop) : Prop :=
 match i with
 | .mov x => K (ev x)
 | .pick c a b => match ev c with
  | .d (.bool t) => (t = true -> K (ev a)) /\ (t = false -> K (ev b))
  | _ => False
 | .build zero parts => match fillV zero (W3 ev parts) with
  | some cells => K (.agg cells)
  | none => False
 | .nilck x => match ev x with
  | .ptr .. | .d (.bptr _) | .fn .. | .d (.fn ..) => K (ev x)
  | _ => False
 | .nilq ne x => match ev x with
  | .nil => K (.d (.bool (!ne)))
  | .d (.bor n _) => 0 < n /\ K (.d (.bool ne))
  | .sl _ _ _ n _ _ => 0 < n /\ K (.d (.bool ne))
  | _ => False
 | .ibin op x y => match ev x, ev y with
  | .d (.int k a), .d (.int k' b) => match op with
   | .shl => 0 <= b /\ K (.d (.int k (k.wrap (a * 2 ^ min b.toNat k.bits))))
   | .shr => 0 <= b /\ K (.d (.int k (a.fdiv (2 ^ min b.toNat k.bits))))
   | .add => k = k' /\ K (.d (.int k (k.wrap (a + b))))
   | .sub => k = k' /\ K (.d (.int k (k.wrap (a - b))))
   | .mul => k = k' /\ K (.d (.int k (k.wrap (a * b))))
   | .quo => k = k' /\ b ≠ 0 /\ K (.d (.int k (k.wrap (a.tdiv b))))
   | .rem => k = k' /\ b ≠ 0 /\ K (.d (.int k (a.tmod b)))
   | .and | .or | .xor | .andNot => k = k' /\ K (.d (.int k (A6 op k a b)))
   | .eql => k = k' /\ K (.d (.bool (a == b)))
   | .neq => k = k' /\ K (.d (.bool (a != b)))
   | .lss => k = k' /\ K (.d (.bool (decide (a < b))))
   | .leq => k = k' /\ K (.d (.bool (decide (a <= b))))
   | .gtr => k = k' /\ K (.d (.bool (decide (a > b))))
   | .geq => k = k' /\ K (.d (.bool (decide (a >= b))))
  | _, _ => False
 | .fbin o x y => match ev x, ev y with
  | .d (.flt a), .d (.flt b) => K (.d (.flt (fop o a b)))
  | _, _ => False
 | .fcmp o x y => match ev x, ev y with
  | .d (.flt a), .d (.flt b) => K (.d (.bool (Ab.fcmp o a b)))
  | _, _ => False
 | .bcmp ne x y => match ev x, ev y with
  | .d (.bool a), .d (.bool b) => K (.d (.bool ((a == b) ^^ ne)))
  | _, _ => False
 | .acmp ne x y ks => match ev x, ev y with
  | .agg xs, .agg ys => match aeq ks xs ys with
   | some r => K (.d (.bool (r ^^ ne)))
   | none => False
  | _, _ => False
 | .un op x => match op, ev x with
  | .neg, .d (.int k a) => K (.d (.int k (k.wrap (0 - a))))
  | .neg, .d (.flt a) => K (.d (.flt (cf (a ^^^ 9223372036854775808))))
  | .not, .d (.bool b) => K (.d (.bool !b))
  | _, _ => False
 | .icv k x => match ev x with
  | .d (.int _ a) => K (.d (.int k (k.wrap a)))
  | _ => False
 | .i2f x => match ev x with
  | .d (.int _ a) => K (.d (.flt (FloatKind.nearest .f64 a)))
  | _ => False
 | .f2f x => match ev x with
  | .d (.flt a) => K (.d (.flt a))
  | _ => False
 | .mkfn f first cap => K (fnOf f (first.map ev) (cap.map ev))
 | .slc x lo hi mx esz =>
  match ev x with
  | .nil => (∀ o ∈ lo.toList ++ hi.toList ++ mx.toList, ∃ k, ev o = .d (.int k 0)) /\ K .nil
  | .d (.bor n get) => ∃ l h, bound ev lo 0 l /\ bound ev hi n h /\ l <= h /\ h <= n /\ mx.isNone = true /\ (l < h -> (get l).length = esz) /\ K (.d (.bor (h - l) λi => get (l + i)))
  | .sl X r off n esz' ver => esz' = esz /\ ∃ l h m, bound ev lo 0 l /\ bound ev hi n h /\ bound ev mx n m /\ l <= h /\ h <= m /\ m <= n /\ K (.sl X r (off + l * esz) (h - l) esz ver)
  | _ => False
 | .padd x off => match ev x with
  | .ptr X r o ver => K (.ptr X r (o + off) ver)
  | .d (.bptr cells) => off <= cells.length /\ K (.d (.bptr (cells.drop off)))
  | _ => False
 | .fld x off n agg => match ev x with
  | .agg xs => off + n <= xs.length /\ 0 < n /\ K (ldv agg n off xs)
  | _ => False
 | .idx x i esz => match ev x, ev i with
  | .d (.bor n get), .d (.int _ k) => (0 <= k /\ k < n) /\ (get k.toNat).length = esz /\ K (.d (.bptr (get k.toNat)))
  | .sl X r off n _ ver, .d (.int _ k) => (0 <= k /\ k < n) /\ K (.ptr X r (off + k.toNat * esz) ver)
  | _, _ => False
 | .idxa x i len esz => match ev x, ev i with
  | .ptr X r off ver, .d (.int _ k) => (0 <= k /\ k < len) /\ K (.ptr X r (off + k.toNat * esz) ver)
  | .d (.bptr cells), .d (.int _ k) => (0 <= k /\ k < len) /\ k.toNat * esz <= cells.length /\ K (.d (.bptr (cells.drop (k.toNat * esz))))
  | _, _ => False
 | .idxv x i len esz agg => match ev x, ev i with
  | .agg xs, .d (.int _ k) => (0 <= k /\ k < len) /\ k.toNat * esz + esz <= xs.length /\ 0 < esz /\ K (ldv agg esz (k.toNat * esz) xs)
  | _, _ => False
 | .ext x i => match ev x with
  | .tup xs => i < xs.length /\ K (xs.getD i .any)
  | _ => False
 | .len x => match ev x with
  | .nil => K (.d (.int .i64 0))
  | .d (.bor n _) => K (.d (.int .i64 n))
  | .sl _ _ _ n _ _ => K (.d (.int .i64 n))
  | _ => False
 | .mm mx x y => match ev x, ev y with
  | .d (.int k a), .d (.int _ b) => K (.d (.int k (if mx then (if b > a then b else a) else (if b < a then b else a))))
  | .d (.flt a), .d (.flt b) => K (.d (.flt (b0j mx a b)))
  | _, _ => False
 | .mm3 x y z => match ev x, ev y, ev z with
  | .d (.int k a), .d (.int _ b), .d (.int _ c) => K (.d (.int k (if c < (if b < a then b else a) then c else (if b < a then b else a))))
  | _, _, _ => False
 | .bits x => match ev x with
  | .d (.flt a) => j7 a = false /\ K (.d (.int .u64 a))
  | .d (.fraw a) => K (.d (.int .u64 a))
  | _ => False
 | .frombits x => match ev x with
  | .d (.int .u64 n) => (0 <= n /\ n < 18446744073709551616) /\ K (.d (.flt (cf n.toNat)))
  | _ => False
where
 bound (ev : Opd -> V) (o : Option Opd) (dflt : Nat) (l : Nat) : Prop := match o with
  | none => l = dflt
  | some x => ∃ k, ev x = .d (.int k l)
def GoFn (P : Program) (f : FuncId) : Prop := ∃ fn, P.funcs[f]? = some fn /\ fn.body.isNone = false /\ (fn.name == "runtime.NumGoroutine") = false
def AC (P : Program) (f : FuncId) (vs : List V) (L L' : Heap) (r : V) : Prop :=
 GoFn P f /\ ∀ (St : Nat -> Prop) (m : Map) (w : World) (cargs : Array Value), Objs St m L w -> cargs.size = vs.length ->
  (∀ j, j < vs.length -> VRel St m L w (vs.getD j .any) (cargs.getD j undef)) ->
  Calls P f cargs w λe w' => ∃ v St' m', e = .returned v /\ Objs St' m' L' w' /\ VRel St' m' L' w' r v /\ Frame' (a8V m L) w w' /\
   Ext St St' m m' L L' w w' /\ (∀ b, St' b -> St b \/ w.heap.size <= b) /\ Src m L m' L' w
def Con (P : Program) (f : FuncId) (vs : List V) (r : V) : Prop := AC P f vs [] [] r
inductive Snap (L : Heap) : V -> V -> Prop
 | d (x : D) : Snap L (.d x) (.d x)
 | nil : Snap L .nil (.d .nils)
 | any : Snap L .any .any
 | sl {X r off n esz ver : Nat} {cells : List V} {get : Nat -> List D} (h : L.get X r = some cells) (hv : cells.length = ver)
   (hl : off + n * esz <= cells.length) (hg : ∀ i, i < n -> (get i).length = esz)
   (hs : ∀ i j, i < n -> j < esz -> Snap L (cells.getD (off + i * esz + j) .any) (.d ((get i).getD j default))) :
   Snap L (.sl X r off n esz ver) (.d (.bor n get))
 | ptr {X r off ver : Nat} {cells : List V} {ds : List D} (h : L.get X r = some cells) (hv : cells.length = ver) (hl : off + ds.length <= cells.length)
   (hne : cells ≠ []) (hs : ∀ j, j < ds.length -> Snap L (cells.getD (off + j) .any) (.d (ds.getD j default))) : Snap L (.ptr X r off ver) (.d (.bptr ds))
 | agg {xs ys : List V} (h : ys.length = xs.length) (hs : ∀ j, j < xs.length -> Snap L (xs.getD j .any) (ys.getD j .any)) : Snap L (.agg xs) (.agg ys)
 | tup {xs ys : List V} (h : ys.length = xs.length) (hs : ∀ j, j < xs.length -> Snap L (xs.getD j .any) (ys.getD j .any)) : Snap L (.tup xs) (.tup ys)
 | fn {f : FuncId} {first cap : List V} {first' cap' : List D} (h1 : first'.length = first.length) (h2 : cap'.length = cap.length)
   (hf : ∀ j, j < first.length -> Snap L (first.getD j .any) (.d (first'.getD j default)))
   (hc : ∀ j, j < cap.length -> Snap L (cap.getD j .any) (.d (cap'.getD j default))) : Snap L (.fn f first cap) (.d (.fn f first' cap'))
inductive Scalar : V -> Prop
 | int (k n) : Scalar (.d (.int k n))
 | bool (b) : Scalar (.d (.bool b))
 | flt (x) : Scalar (.d (.flt x))
 | any : Scalar .any
 | agg {xs : List V} (h : ∀ j, j < xs.length -> Scalar (xs.getD j .any)) : Scalar (.agg xs)
 | tup {xs : List V} (h : ∀ j, j < xs.length -> Scalar (xs.getD j .any)) : Scalar (.tup xs)
def V.isD : V -> Bool
 | .d _ | .any | .nil => true
 | _ => false
def V.isD1 : V -> Bool
 | .agg xs => xs.all V.isD
 | v => v.isD
def V.bareB : V -> Bool
 | .d _ | .any | .nil => true
 | .agg xs => xs.all V.isD
 | .tup xs => xs.all V.isD1
 | .fn _ a b => a.all V.isD && b.all V.isD
 | _ => false
def d19 (P : Program) (L : Heap) (g : FuncId) (vs : List V) (r : V) : Prop :=
 (vs.all V.bareB = true /\ Con P g vs r) \/
 ∃ us, us.length = vs.length /\ (∀ j, j < us.length -> Snap L (vs.getD j .any) (us.getD j .any)) /\ Scalar r /\ Con P g us r
inductive PureV : V -> Prop
 | int (k n) : PureV (.d (.int k n))
 | bool (b) : PureV (.d (.bool b))
 | flt (x) : PureV (.d (.flt x))
 | nil : PureV .nil
 | any : PureV .any
 | ptr (X r off ver) : PureV (.ptr X r off ver)
 | sl (X r off n esz ver) : PureV (.sl X r off n esz ver)
 | agg {xs : List V} (h : ∀ j, j < xs.length -> PureV (xs.getD j .any)) : PureV (.agg xs)
 | tup {xs : List V} (h : ∀ j, j < xs.length -> PureV (xs.getD j .any)) : PureV (.tup xs)
def Heap.old (b : Nat) (L : Heap) : Heap := L.filter λp => decide (p.1 < b)
def c1s (L : Heap) (vs us : List V) (A : Prop) : Prop :=
 (us = vs /\ vs.all V.bareB = true) \/ (us.length = vs.length /\ (∀ j, j < us.length -> Snap L (vs.getD j .any) (us.getD j .any)) /\ A)
def c6N (fam : List (List V)) : Prop := ∀ (q : Nat) (cells : List V), fam[q]? = some cells -> ∀ j, j < cells.length -> PureV (cells.getD j .any)
def b4M (P : Program) (nm k : Nat) (g : FuncId) (vs : List V) (L : Heap) (K : V -> Heap -> Prop) : Prop :=
 (∃ us r, c1s (L.old (nm - k)) vs us (Scalar r) /\ Con P g us r /\ K r L) \/
 ∃ us fam r, c1s (L.old (nm - k)) vs us (PureV r /\ c6N fam) /\ AC P g us [] [(0, fam)] r /\ L.fam nm = none /\ K (r.ren (toF nm)) (L.ins nm (Y8 nm fam))
def callee : V -> Option (FuncId × List V × List V)
 | .fn f first cap => some (f, first, cap)
 | .d (.fn f first cap) => some (f, first.map .d, cap.map .d)
 | _ => none
def Apart : V -> V -> Prop
 | .ptr X r _ _, .ptr Y q _ _ | .ptr X r _ _, .sl Y q _ _ _ _ | .sl X r _ _ _ _, .ptr Y q _ _ | .sl X r _ _ _ _, .sl Y q _ _ _ _ => X ≠ Y \/ r ≠ q
 | .nil, _ | _, .nil | .d _, _ | _, .d _ => True
 | _, _ => False
def offC : V -> V -> Nat -> Prop
 | .ptr X r o ver, .ptr Y q o' ver', n => X = Y /\ r = q /\ o' = o + n /\ ver' = ver
 | _, _, _ => False
def offs (ev : Opd -> V) (bs pl : List Opd) : Prop :=
 match bs, pl with
 | [b, .k (.d (.int _ n))], [p] => offC (ev b) (ev p) n.toNat
 | _, _ => True
def Inst.places : Inst -> List Opd
 | .load x _ _ => [x]
 | .store p _ _ => [p]
 | .app s x _ _ => [s, x]
 | .cpy d x _ => [d, x]
 | _ => []
def V.name : V -> Option (Nat × Nat)
 | .ptr X r _ _ | .sl X r _ _ _ _ => some (X, r)
 | _ => none
def s7 (L : Heap) (esz : Nat) : V -> Option (List V)
 | .nil => some []
 | .d (.bor k get) => some ((z8 k get).map .d)
 | .sl X r off k _ ver => match L.get X r with
  | some cells => if cells.length = ver /\ off + k * esz <= cells.length then some ((cells.drop off).take (k * esz)) else none
  | none => none
 | _ => none
def v4 : V -> Nat
 | .d (.bor k _) => k
 | .sl _ _ _ k _ _ => k
 | _ => 0
def effC (P : Program) (nm : Nat) (i : Inst) (ev : Opd -> V) (L : Heap) (K : V -> Heap -> Prop) : Prop :=
 match i with
 | .h i => hv i ev (K · L)
 | .load x n agg => match ev x with
  | .d (.bptr cells) => (n <= cells.length /\ 0 < n) /\ K (ldv agg n 0 (cells.map .d)) L
  | .ptr X r off ver => match L.get X r with
   | some cells => (cells.length = ver /\ off + n <= cells.length /\ 0 < n) /\ K (ldv agg n off cells) L
   | none => False
  | _ => False
 | .callC f args => match callee (ev f) with
  | some (g, first, cap) => (first ++ args.map ev ++ cap).all V.bareB = true /\ ((∃ r, Con P g (first ++ args.map ev ++ cap) r /\ K r L) \/
    ∃ fam r, AC P g (first ++ args.map ev ++ cap) [] [(0, fam)] r /\ L.fam nm = none /\ K (r.ren (toF nm)) (L.ins nm (Y8 nm fam)))
  | none => False
 | .callS k f args => match callee (ev f) with
  | some (g, first, cap) => b4M P nm k g (first ++ args.map ev ++ cap) L K
  | none => False
 | .alloc zero _ => L.fam nm = none /\ (zero.all V.isCell = true /\ zero ≠ []) /\ K (.ptr nm 0 0 zero.length) (L.ins nm [zero])
 | .box x n _ => L.fam nm = none /\ ((cellsOf (ev x)).length = n /\ (cellsOf (ev x)).all V.isCell = true /\ 0 < n) /\ K (.ptr nm 0 0 n) (L.ins nm [cellsOf (ev x)])
 | .bslice cells0 n esz parts _ => match fillV cells0 (W3 ev parts) with
  | some cells => L.fam nm = none /\ (cells.all V.isCell = true /\ cells.length = n * esz) /\ K (.sl nm 0 0 n esz (n * esz)) (L.ins nm [cells])
  | none => False
 | .mksl zero esz bytes n c _ => match ev n, ev c with
  | .d (.int k a), .d (.int k' b) => L.fam nm = none /\ (k = .i64 /\ k' = .i64 /\ zero.length = esz /\ zero.all V.isCell = true /\ 0 <= a /\ a <= b /\ b * bytes <= 281474976710656) /\
    K (.sl nm 0 0 a.toNat esz (a.toNat * esz)) (L.ins nm [repl a.toNat zero])
  | _, _ => False
 | .store p x n => match ev p with
  | .ptr X r off ver => match L.get X r with
   | some cells => (cells.length = ver /\ off + n <= cells.length /\ (cellsOf (ev x)).length = n /\ (cellsOf (ev x)).all V.isCell = true) /\
     K .any (L.put X r (t6 cells off (cellsOf (ev x))))
   | none => False
  | _ => False
 | .app t x esz bytes => match s7 L esz (ev x) with
  | some new => match ev t with
   | .nil => L.fam nm = none /\ ((v4 (ev x)) * bytes <= 140737488355328 /\ new.length = v4 (ev x) * esz /\ 0 < esz /\ new.all V.isCell = true) /\
     K (.sl nm 0 0 (v4 (ev x)) esz (v4 (ev x) * esz)) (L.ins nm [new])
   | .sl X r off n esz' ver => match L.get X r with
    | some cells => (cells.length = ver /\ off = 0 /\ esz' = esz /\ n * esz = ver /\ (n + v4 (ev x)) * bytes <= 140737488355328 /\ new.length = v4 (ev x) * esz /\ 0 < esz /\ new.all V.isCell = true) /\
      K (.sl X r 0 (n + v4 (ev x)) esz (ver + v4 (ev x) * esz)) (L.put X r (cells ++ new))
    | none => False
   | _ => False
  | none => False
 | .cpy t x esz => match s7 L esz (ev x) with
  | some new => match ev t with
   | .sl X r off n _ ver => match L.get X r with
    | some cells => (cells.length = ver /\ off + n * esz <= cells.length /\ new.length = v4 (ev x) * esz /\ 0 < esz /\ new.all V.isCell = true) /\
      K (.d (.int .i64 (min (v4 (ev x)) n : Nat))) (L.put X r (t6 cells off (new.take (n * esz))))
    | none => False
   | _ => False
  | none => False
 | .callA f args => match callee (ev f) with
  | some (g, first, cap) => ∃ L' r, AC P g (first ++ args.map ev ++ cap) L L' r /\ K r L'
  | none => False
abbrev eff (P : Program) (nm : Nat) (i : Inst) (s : S) (K : V -> Heap -> Prop) : Prop := effC P nm i s.ev s.L K
def E8 (sl : List V) (dst : Option Nat) (v : V) : List V :=
 match dst with
 | some d => sl.set d v
 | none => sl
abbrev V.und : V := .tup []
def step (P : Program) (base : Nat) (ii : II) (s : S) (K : S -> Prop) : Prop :=
 match ii.g with
 | none => (((∀ q ∈ ii.bs.zip ii.i.places, (s.ev q.1).name = (s.ev q.2).name) /\ ∀ o ∈ ii.ind, ∀ p ∈ ii.i.places, Apart (s.ev o) (s.ev p)) /\ offs s.ev ii.bs ii.i.places) /\ eff P (base + ii.k) ii.i s λv L => K ⟨E8 s.sl ii.dst v, L⟩
 | some (j, want) => match s.sl.getD j .any with
  | .d (.bool b) =>
   if b = want then (((∀ q ∈ ii.bs.zip ii.i.places, (s.ev q.1).name = (s.ev q.2).name) /\ ∀ o ∈ ii.ind, ∀ p ∈ ii.i.places, Apart (s.ev o) (s.ev p)) /\ offs s.ev ii.bs ii.i.places) /\ eff P (base + ii.k) ii.i s λv L => K ⟨E8 s.sl ii.dst v, L⟩
   else K ⟨E8 s.sl ii.dst .und, s.L⟩
  | .tup [] => K ⟨E8 s.sl ii.dst .und, s.L⟩
  | _ => False
def wpI (P : Program) (base : Nat) : List II -> (S -> Prop) -> S -> Prop
 | [], Q, s => Q s
 | ii :: r, Q, s => step P base ii s (wpI P base r Q)
end Go.Ab
