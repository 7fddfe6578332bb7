/- The lib, part 1: A, B, C, D, E, F, G, H, I, J. -/
import Derived.Calls
import Derived.Orders
import Derived.Laws.Cover2
import Derived.Laws.FloatArith
import Derived.Laws.Sem
import Derived.Laws.World
import Derived.Laws.Cells
import Derived.WalkKit
import Derived.Laws.Tables
import Derived.Laws.Small
import Derived.KernelRfl
/- The words of the abstract reading of a run: canonical floats, data, values that name memory, and what it is for a world to hold them. -/
namespace Go.Ab
set_option linter.unusedSimpArgs false
set_option linter.unusedVariables false
open Go

/-- The one NaN that stands for all. -/
def qnan : Nat := 9221120237041090561

/-- Is a word a NaN? -/
def isNan (b : Nat) : Bool := 9218868437227405312 < b % 9223372036854775808

/-- A word, all NaNs made one. -/
def cf (b : Nat) : Nat := if isNan b then qnan else b

theorem read_nan (b : Nat) : (Ieee.double.read b).isNaN = isNan b := by
  have h1 : Ieee.double.signWeight = 9223372036854775808 := rfl
  have h2 : Ieee.double.binade = 4503599627370496 := rfl
  have h3 : Ieee.double.infRung = 9218868437227405312 := rfl
  unfold Ieee.Format.read isNan
  simp only [h1, h2, h3]
  split
  · simp [Ieee.Datum.isNaN]; omega
  · split
    · simp [Ieee.Datum.isNaN]; omega
    · split
      · simp [Ieee.Datum.isNaN]; omega
      · simp [Ieee.Datum.isNaN]; omega

theorem isNan_qnan : isNan qnan = true := by decide

theorem cf_not {b : Nat} (h : isNan b = false) : cf b = b := by simp [cf, h]
theorem cf_nan {b : Nat} (h : isNan b = true) : cf b = qnan := by simp [cf, h]
theorem isNan_cf (b : Nat) : isNan (cf b) = isNan b := by
  unfold cf; split
  · rename_i h; rw [h]; exact isNan_qnan
  · rfl
theorem cf_cf (b : Nat) : cf (cf b) = cf b := by
  by_cases h : isNan b = true
  · rw [cf_nan h]; exact cf_nan isNan_qnan
  · have h : isNan b = false := by simpa using h
    rw [cf_not h, cf_not h]

/-- What an operation of two words makes of two data, a NaN on either side: nothing. -/
theorem bin_cf (g : Ieee.Datum → Ieee.Datum → Option Ieee.Datum)
    (hl : ∀ s t y, g (.nan s t) y = none) (hr : ∀ x s t, g x (.nan s t) = none) (x y : Nat) :
    g (Ieee.double.read (cf x)) (Ieee.double.read (cf y)) = g (Ieee.double.read x) (Ieee.double.read y) := by
  have nl : ∀ b d, isNan b = true → g (Ieee.double.read b) d = none := by
    intro b d h
    rw [← read_nan] at h
    cases hb : Ieee.double.read b <;> simp [hb, Ieee.Datum.isNaN] at h
    exact hl ..
  have nr : ∀ b d, isNan b = true → g d (Ieee.double.read b) = none := by
    intro b d h
    rw [← read_nan] at h
    cases hb : Ieee.double.read b <;> simp [hb, Ieee.Datum.isNaN] at h
    exact hr ..
  by_cases hx : isNan x = true
  · rw [nl x _ hx, nl (cf x) _ (by rw [isNan_cf]; exact hx)]
  · by_cases hy : isNan y = true
    · rw [nr y _ hy, nr (cf y) _ (by rw [isNan_cf]; exact hy)]
    · rw [cf_not (by simpa using hx), cf_not (by simpa using hy)]

theorem sum_nan_l (s t y) : Ieee.Datum.sum (.nan s t) y = none := by cases y <;> rfl
theorem sum_nan_r (x s t) : Ieee.Datum.sum x (.nan s t) = none := by cases x <;> rfl
theorem product_nan_l (s t y) : Ieee.Datum.product (.nan s t) y = none := by cases y <;> rfl
theorem product_nan_r (x s t) : Ieee.Datum.product x (.nan s t) = none := by cases x <;> rfl
theorem quotient_nan_l (d s t y) : Ieee.Datum.quotient d (.nan s t) y = none := by cases y <;> rfl
theorem quotient_nan_r (d x s t) : Ieee.Datum.quotient d x (.nan s t) = none := by cases x <;> rfl
theorem order_nan_l (s t y) : Ieee.Datum.order (.nan s t) y = none := by cases y <;> rfl
theorem order_nan_r (x s t) : Ieee.Datum.order x (.nan s t) = none := by cases x <;> rfl

inductive FOp where | add | sub | mul | div
  deriving DecidableEq
inductive FCmp where | eq | ne | lt | le | gt | ge
  deriving DecidableEq

/-- + - * / of canonical words. -/
def fop (o : FOp) (x y : Nat) : Nat :=
  ((match o with
    | .add => Ieee.double.add x y
    | .sub => Ieee.double.sub x y
    | .mul => Ieee.double.mul x y
    | .div => Ieee.double.div x y).map cf).getD qnan

def fcmp (o : FCmp) (x y : Nat) : Bool :=
  let c := Ieee.double.order x y
  match o with
  | .eq => c == some .eq
  | .ne => c != some .eq
  | .lt => c == some .lt
  | .le => c == some .lt || c == some .eq
  | .gt => c == some .gt
  | .ge => c == some .gt || c == some .eq

theorem add_cf (x y : Nat) : Ieee.double.add (cf x) (cf y) = Ieee.double.add x y := by
  unfold Ieee.Format.add; rw [bin_cf _ sum_nan_l sum_nan_r]
theorem sub_cf (x y : Nat) : Ieee.double.sub (cf x) (cf y) = Ieee.double.sub x y := by
  unfold Ieee.Format.sub
  rw [bin_cf (fun a b => Ieee.Datum.sum a b.opposite) (fun s t y => sum_nan_l _ _ _) (fun x s t => sum_nan_r _ _ _)]
theorem mul_cf (x y : Nat) : Ieee.double.mul (cf x) (cf y) = Ieee.double.mul x y := by
  unfold Ieee.Format.mul; rw [bin_cf _ product_nan_l product_nan_r]
theorem div_cf (x y : Nat) : Ieee.double.div (cf x) (cf y) = Ieee.double.div x y := by
  unfold Ieee.Format.div; rw [bin_cf _ (quotient_nan_l _) (quotient_nan_r _)]
theorem order_cf (x y : Nat) : Ieee.double.order (cf x) (cf y) = Ieee.double.order x y := by
  unfold Ieee.Format.order
  have h := bin_cf (fun a b => (Ieee.Datum.order a b).map fun o => match o with | .lt => .infinity true | .eq => .number false 0 0 | .gt => .infinity false)
    (fun s t y => by rw [order_nan_l]; rfl) (fun x s t => by rw [order_nan_r]; rfl) x y
  revert h
  generalize Ieee.Datum.order (Ieee.double.read (cf x)) (Ieee.double.read (cf y)) = p
  generalize Ieee.Datum.order (Ieee.double.read x) (Ieee.double.read y) = q
  cases p <;> cases q <;> simp
  rename_i a b
  cases a <;> cases b <;> simp

/-- Names of blocks of the run's own; data; values. -/
inductive D where
  | int (k : IntKind) (n : Int)
  | bool (b : Bool)
  | flt (x : Nat)
  | fraw (b : Nat)
  | str (s : ByteArray)
  | bor (n : Nat) (get : Nat → List D)
  | bptr (cells : List D)
  | nilp
  | nilf
  | fn (f : FuncId) (first cap : List D)

instance : Inhabited D := ⟨.nilp⟩

/-- A nil slice. -/
abbrev D.nils : D := .bor 0 fun _ => []

inductive V where
  | d (x : D)
  | ptr (X r off ver : Nat)
  | sl (X r off n esz ver : Nat)
  | agg (xs : List V)
  | fn (f : FuncId) (first cap : List V)
  | tup (xs : List V)
  | nil
  | any

instance : Inhabited V := ⟨.any⟩

/-- Blocks of the run's own, by name: a name X stands for a family of blocks (X, 0), (X, 1), .. -/
abbrev Heap := List (Nat × List (List V))

def Heap.fam (L : Heap) (X : Nat) : Option (List (List V)) := List.lookup X L
def Heap.get (L : Heap) (X r : Nat) : Option (List V) := (L.fam X).bind (·[r]?)
def Heap.put : Heap → Nat → Nat → List V → Heap
  | [], _, _, _ => []
  | (Y, fs) :: L, X, r, cs => if X = Y then (Y, fs.set r cs) :: L else (Y, fs) :: Heap.put L X r cs

/-- Where a name lies: its block, and how many cells that has. -/
abbrev Map := Nat → Nat → Option (Nat × Nat)

inductive DRel (St : Nat → Prop) (w : World) : D → Value → Prop
  | int (k : IntKind) (n : Int) : DRel St w (.int k n) (.int k n)
  | bool (b : Bool) : DRel St w (.bool b) (.bool b)
  | flt {x b : Nat} (hb : b < 2 ^ 64) (h : cf b = x) : DRel St w (.flt x) (.float .f64 b)
  | fraw {b : Nat} (hb : b < 2 ^ 64) : DRel St w (.fraw b) (.float .f64 b)
  | str (s : ByteArray) : DRel St w (.str s) (.string s)
  | nilp : DRel St w .nilp (.pointer none)
  | nilf : DRel St w .nilf .nilFunc
  | bor0 (get : Nat → List D) (a : Option Addr) (c : Nat) : DRel St w (.bor 0 get) (.slice a 0 c)
  | bor {n : Nat} {get : Nat → List D} {blk off c sz : Nat} (cell : Nat → Nat → Value) (hs : St blk) (hcap : n ≤ c)
      (hl : ∀ i, i < n → (get i).length = sz)
      (hc : ∀ i j, i < n → j < sz → w.cell? ⟨blk, off + i * sz + j, none⟩ = some (cell i j))
      (hd : ∀ i j, i < n → j < sz → DRel St w ((get i).getD j default) (cell i j)) :
      DRel St w (.bor n get) (.slice (some ⟨blk, off, none⟩) n c)
  | bptr {cells : List D} {blk off : Nat} (cell : Nat → Value) (hs : St blk)
      (hc : ∀ j, j < cells.length → w.cell? ⟨blk, off + j, none⟩ = some (cell j))
      (hd : ∀ j, j < cells.length → DRel St w (cells.getD j default) (cell j)) :
      DRel St w (.bptr cells) (.pointer (some ⟨blk, off, none⟩))
  | fn {f : FuncId} {first cap : List D} {fs cs : Array Value} (h1 : fs.size = first.length) (h2 : cs.size = cap.length)
      (hf : ∀ j, j < first.length → DRel St w (first.getD j default) (fs.getD j undef))
      (hc : ∀ j, j < cap.length → DRel St w (cap.getD j default) (cs.getD j undef)) :
      DRel St w (.fn f first cap) (.func (.func f) fs cs)

inductive VRel (St : Nat → Prop) (m : Map) (L : Heap) (w : World) : V → Value → Prop
  | d {x : D} {c : Value} (h : DRel St w x c) : VRel St m L w (.d x) c
  | any (c : Value) : VRel St m L w .any c
  | nil : VRel St m L w .nil (.slice none 0 0)
  | ptr {X r off ver : Nat} {c : Value} {cells : List V} (hL : L.get X r = some cells) (hv : ver ≤ cells.length)
      (ad : Addr) (hc : c = .pointer (some ad)) (h : cells.length = ver → ∃ b C, m X r = some (b, C) ∧ ad = ⟨b, off, none⟩) : VRel St m L w (.ptr X r off ver) c
  | sl {X r off n esz ver : Nat} {c : Value} {cells : List V} (hL : L.get X r = some cells) (hv : ver ≤ cells.length)
      (a : Option Addr) (cap : Nat) (hc : c = .slice a n cap) (hn : n ≤ cap) (ha : 0 < n → a.isSome = true)
      (h : cells.length = ver → cap = 0 ∨ ∃ b C, m X r = some (b, C) ∧ off + cap * esz ≤ C ∧ a = some ⟨b, off, none⟩) : VRel St m L w (.sl X r off n esz ver) c
  | agg {xs : List V} {cs : Array Value} (h1 : cs.size = xs.length)
      (h : ∀ j, j < xs.length → VRel St m L w (xs.getD j .any) (cs.getD j undef)) : VRel St m L w (.agg xs) (.agg cs)
  | fn {f : FuncId} {first cap : List V} {fs cs : Array Value} (h1 : fs.size = first.length) (h2 : cs.size = cap.length)
      (hf : ∀ j, j < first.length → VRel St m L w (first.getD j .any) (fs.getD j undef))
      (hc : ∀ j, j < cap.length → VRel St m L w (cap.getD j .any) (cs.getD j undef)) :
      VRel St m L w (.fn f first cap) (.func (.func f) fs cs)
  | tup {xs : List V} {cs : Array Value} (h1 : cs.size = xs.length)
      (h : ∀ j, j < xs.length → VRel St m L w (xs.getD j .any) (cs.getD j undef)) : VRel St m L w (.tup xs) (.tuple cs)

theorem DRel.mono {St St' : Nat → Prop} {w w' : World} (hS : ∀ b, St b → St' b) (hw : ∀ b, St b → w'.heap[b]? = w.heap[b]?) {x : D} {c : Value}
    (h : DRel St w x c) : DRel St' w' x c := by
  have cellEq : ∀ b o, St b → w'.cell? ⟨b, o, none⟩ = w.cell? ⟨b, o, none⟩ := by
    intro b o hb; unfold World.cell?; simp only [hw b hb]
  induction h with
  | int k n => exact .int k n
  | bool b => exact .bool b
  | flt hb h => exact .flt hb h
  | fraw hb => exact .fraw hb
  | str s => exact .str s
  | nilp => exact .nilp
  | nilf => exact .nilf
  | bor0 g a c => exact .bor0 g a c
  | bor cell hs hcap hl hc hd ih => exact .bor cell (hS _ hs) hcap hl (fun i j hi hj => by rw [cellEq _ _ hs]; exact hc i j hi hj) ih
  | bptr cell hs hc hd ih => exact .bptr cell (hS _ hs) (fun j hj => by rw [cellEq _ _ hs]; exact hc j hj) ih
  | fn h1 h2 hf hc ihf ihc => exact .fn h1 h2 ihf ihc

/-- From one moment to a later one: what was stable is, the rows that have not grown lie where they lay. -/
structure Ext (St St' : Nat → Prop) (m m' : Map) (L L' : Heap) (w w' : World) : Prop where
  st : ∀ b, St b → St' b
  keep : ∀ b, St b → w'.heap[b]? = w.heap[b]?
  own : ∀ X r cells, L.get X r = some cells → ∃ cells', L'.get X r = some cells' ∧ cells.length ≤ cells'.length ∧ (cells'.length = cells.length → m' X r = m X r)

theorem Ext.refl (St : Nat → Prop) (m : Map) (L : Heap) (w : World) : Ext St St m m L L w w :=
  ⟨fun _ h => h, fun _ _ => rfl, fun _ _ cells h => ⟨cells, h, Nat.le_refl _, fun _ => rfl⟩⟩

theorem Ext.trans {S1 S2 S3 : Nat → Prop} {m1 m2 m3 : Map} {L1 L2 L3 : Heap} {w1 w2 w3 : World} (h : Ext S1 S2 m1 m2 L1 L2 w1 w2) (k : Ext S2 S3 m2 m3 L2 L3 w2 w3) :
    Ext S1 S3 m1 m3 L1 L3 w1 w3 := by
  refine ⟨fun b hb => k.st b (h.st b hb), fun b hb => (k.keep b (h.st b hb)).trans (h.keep b hb), fun X r cells hc => ?_⟩
  obtain ⟨c2, h2, hle2, he2⟩ := h.own X r cells hc
  obtain ⟨c3, h3, hle3, he3⟩ := k.own X r c2 h2
  refine ⟨c3, h3, by omega, fun e => ?_⟩
  rw [he3 (by omega), he2 (by omega)]

theorem VRel.mono {St St' : Nat → Prop} {m m' : Map} {L L' : Heap} {w w' : World} (e : Ext St St' m m' L L' w w') {x : V} {c : Value}
    (h : VRel St m L w x c) : VRel St' m' L' w' x c := by
  induction h with
  | d h => exact .d (h.mono e.st e.keep)
  | any c => exact .any c
  | nil => exact .nil
  | ptr hL hv ad hc h =>
    obtain ⟨c', h', hle, he⟩ := e.own _ _ _ hL
    refine .ptr h' (by omega) ad hc fun hver => ?_
    obtain ⟨b, C, hm, hc⟩ := h (by omega)
    exact ⟨b, C, by rw [he (by omega)]; exact hm, hc⟩
  | sl hL hv a cap hc hn ha h =>
    obtain ⟨c', h', hle, he⟩ := e.own _ _ _ hL
    refine .sl h' (by omega) a cap hc hn ha fun hver => ?_
    rw [he (by omega)]
    exact h (by omega)
  | agg h1 h ih => exact .agg h1 ih
  | fn h1 h2 hf hc ihf ihc => exact .fn h1 h2 ihf ihc
  | tup h1 h ih => exact .tup h1 ih

/-- Block b bears a name of L. -/
def Named (m : Map) (L : Heap) (b : Nat) : Prop := ∃ X r C, L.get X r ≠ none ∧ m X r = some (b, C)

/-- The rows of L lie in the world. -/
structure Objs (St : Nat → Prop) (m : Map) (L : Heap) (w : World) : Prop where
  st : ∀ b, St b → b < w.heap.size
  nil : ∀ X r cells, L.get X r = some cells → m X r = none → cells = []
  obj : ∀ X r cells b C, L.get X r = some cells → m X r = some (b, C) → b < w.heap.size ∧ ¬ St b ∧
    ∃ arr el, w.heap[b]? = some (.cells arr el (0, 0)) ∧ arr.size = C ∧ cells.length ≤ C ∧ ∀ j, j < cells.length → VRel St m L w (cells.getD j .any) (arr.getD j undef)
  inj : ∀ X r Y q b C C', L.get X r ≠ none → L.get Y q ≠ none → m X r = some (b, C) → m Y q = some (b, C') → X = Y ∧ r = q

/-- What a piece of a run leaves alone. -/
structure Frame' (Foot : Nat → Prop) (w w' : World) : Prop where
  os : w'.os = w.os
  tape : w'.tape = w.tape
  output : w'.output = w.output
  size : w.heap.size ≤ w'.heap.size
  block : ∀ b, b < w.heap.size → ¬ Foot b → w'.heap[b]? = w.heap[b]?

theorem Frame'.refl (F : Nat → Prop) (w : World) : Frame' F w w := ⟨rfl, rfl, rfl, Nat.le_refl _, fun _ _ _ => rfl⟩
/-- Behind a piece that wrote to blocks of F and its own, one that writes to blocks of G: those of G that were there belong to F. -/
theorem Frame'.trans {F G : Nat → Prop} {a b c : World} (h : Frame' F a b) (k : Frame' G b c) (hg : ∀ x, G x → x < a.heap.size → F x) : Frame' F a c :=
  ⟨k.os.trans h.os, k.tape.trans h.tape, k.output.trans h.output, Nat.le_trans h.size k.size,
    fun x hx hf => (k.block x (Nat.lt_of_lt_of_le hx h.size) fun hG => hf (hg x hG hx)).trans (h.block x hx hf)⟩

/-- Where what is named now comes from: it was named so, and lay there, or it is new. -/
def Src (m : Map) (L : Heap) (m' : Map) (L' : Heap) (w : World) : Prop :=
  ∀ X r b C, L'.get X r ≠ none → m' X r = some (b, C) → (L.get X r ≠ none ∧ m X r = some (b, C)) ∨ w.heap.size ≤ b

theorem Src.named {m m' : Map} {L L' : Heap} {w : World} (h : Src m L m' L' w) (b : Nat) (hb : Named m' L' b) : Named m L b ∨ w.heap.size ≤ b := by
  obtain ⟨X, r, C, h1, h2⟩ := hb
  rcases h X r b C h1 h2 with ⟨h3, h4⟩ | h3
  · exact .inl ⟨X, r, C, h3, h4⟩
  · exact .inr h3

theorem Src.refl (m : Map) (L : Heap) (w : World) : Src m L m L w := fun _ _ _ _ h1 h2 => .inl ⟨h1, h2⟩
theorem Src.trans {m1 m2 m3 : Map} {L1 L2 L3 : Heap} {w1 w2 : World} (h : Src m1 L1 m2 L2 w1) (k : Src m2 L2 m3 L3 w2) (hs : w1.heap.size ≤ w2.heap.size) : Src m1 L1 m3 L3 w1 := by
  intro X r b C h1 h2
  rcases k X r b C h1 h2 with ⟨h3, h4⟩ | h3
  · exact h X r b C h3 h4
  · exact .inr (Nat.le_trans hs h3)

end Go.Ab

/- The pieces of code, their types resolved; what each asks and gives. -/
namespace Go.Ab
set_option linter.unusedSimpArgs false
set_option linter.unusedVariables false
open Go

/-- The rows of a heap that a name may be given to next. -/
def Heap.next : Heap → Nat
  | [] => 0
  | (X, _) :: L => if Heap.next L ≤ X then X + 1 else Heap.next L

/-- A new name, in its place: greater names first. -/
def Heap.ins (X : Nat) (f : List (List V)) : Heap → Heap
  | [] => [(X, f)]
  | (Y, g) :: L => if Y < X then (X, f) :: (Y, g) :: L else (Y, g) :: Heap.ins X f L

def Value.toV (v : Value) : V :=
  match v with
  | .bool b => .d (.bool b)
  | .int k n => .d (.int k n)
  | .float k b => if k = .f64 ∧ b < 2 ^ 64 then .d (.flt (cf b)) else .any
  | .string s => .d (.str s)
  | .pointer p => if p.isNone then .d .nilp else .any
  | .slice a n c => if a.isNone ∧ n = 0 ∧ c = 0 then .nil else .any
  | .func fn a b => match fn with
    | .func f => if a.size = 0 ∧ b.size = 0 then .d (.fn f [] []) else .any
    | _ => .any
  | .nilFunc => .d .nilf
  | _ => .any

/-- A constant: a struct or an array cell by cell. -/
def constV : Value → V
  | .agg cs => .agg (cs.toList.map Value.toV)
  | v => Value.toV v

inductive Opd where
  | t (i : Nat)
  | k (v : V)

def Opd.of : Operand → Opd
  | .tmp i => .t i
  | .const v => .k (constV v)
  | .func f => .k (.d (.fn f [] []))
  | .global _ => .k .any

structure S where
  sl : List V
  L : Heap

def S.ev (s : S) : Opd → V
  | .t i => s.sl.getD i .any
  | .k v => v

/-- Pieces that ask nothing of memory. -/
inductive HI where
  | mov (x : Opd)
  | pick (c a b : Opd)
  | build (zero : List V) (parts : List (Nat × Nat × Opd))
  | nilck (x : Opd)
  | ibin (op : BinOp) (x y : Opd)
  | fbin (o : FOp) (x y : Opd)
  | fcmp (o : FCmp) (x y : Opd)
  | bcmp (ne : Bool) (x y : Opd)
  | un (op : UnOp) (x : Opd)
  | icv (k : IntKind) (x : Opd)
  | i2f (x : Opd)
  | f2f (x : Opd)
  | mkfn (f : FuncId) (first cap : List Opd)
  | slc (x : Opd) (lo hi mx : Option Opd) (esz : Nat)
  | padd (x : Opd) (off : Nat)
  | fld (x : Opd) (off n : Nat) (agg : Bool)
  | idx (x i : Opd) (esz : Nat)
  | idxa (x i : Opd) (len esz : Nat)
  | idxv (x i : Opd) (len esz : Nat) (agg : Bool)
  | ext (x : Opd) (i : Nat)
  | len (x : Opd)
  | mm (mx : Bool) (x y : Opd)
  | mm3 (x y z : Opd)
  | bits (x : Opd)
  | frombits (x : Opd)

inductive Inst where
  | h (i : HI)
  | load (x : Opd) (n : Nat) (agg : Bool)
  | callC (f : Opd) (args : List Opd)
  | callS (k : Nat) (f : Opd) (args : List Opd)
  | alloc (zero : List V) (el : TypeId)
  | box (x : Opd) (n : Nat) (el : TypeId)
  | bslice (cells : List V) (n esz : Nat) (parts : List (Nat × Nat × Opd)) (el : TypeId)
  | mksl (zero : List V) (esz bytes : Nat) (n c : Opd) (el : TypeId)
  | store (p x : Opd) (n : Nat)
  | app (s x : Opd) (esz bytes : Nat)
  | cpy (dst src : Opd) (esz : Nat)
  | callA (f : Opd) (args : List Opd)

/-- A piece in its place: number, the slot it writes, its guard (a slot, the answer that lets it run), where its places come from, the operands it must be apart from. -/
structure II where
  k : Nat
  dst : Option Nat
  g : Option (Nat × Bool)
  bs : List Opd
  ind : List Opd
  i : Inst

def cellsOf : V → List V
  | .agg xs => xs
  | v => [v]

def V.isCell : V → Bool
  | .d _ | .ptr .. | .sl .. | .fn .. | .nil => true
  | _ => false

/-- May it be laid into memory, cell by cell? -/
def V.okPart : V → Bool
  | .agg _ => true
  | v => v.isCell

def splice (cells : List V) (off : Nat) : List V → List V
  | [] => cells
  | v :: vs => splice (cells.set off v) (off + 1) vs

def fillV (cells : List V) : List (Nat × Nat × V) → Option (List V)
  | [] => some cells
  | (off, n, v) :: r =>
    if (cellsOf v).length = n ∧ off + n ≤ cells.length ∧ v.okPart = true then fillV (splice cells off (cellsOf v)) r else none

def partsV (ev : Opd → V) (ps : List (Nat × Nat × Opd)) : List (Nat × Nat × V) := ps.map fun (o, n, x) => (o, n, ev x)

/-- n times the cells of a zero. -/
def repl (n : Nat) (zero : List V) : List V := (List.replicate n zero).flatten

/-- The cells of a slice of data, one behind the other. -/
def bcells (n : Nat) (get : Nat → List D) : List D := (List.range n).flatMap get

def ldv (agg : Bool) (n off : Nat) (cells : List V) : V := if agg then .agg ((cells.drop off).take n) else cells.getD off .any

def fmaxmin (mx : Bool) (x y : Nat) : Nat :=
  match Ieee.double.order x y with
  | none => qnan
  | some .lt => if mx then y else x
  | some .gt => if mx then x else y
  | some .eq => if (Ieee.double.read x).neg = mx then y else x

def bitsOp (op : BinOp) (k : IntKind) (x y : Int) : Int :=
  let a := BitVec.ofInt k.bits x
  let b := BitVec.ofInt k.bits y
  k.wrap (match op with
    | .and => a &&& b
    | .or => a ||| b
    | .xor => a ^^^ b
    | _ => a &&& ~~~b).toNat

mutual
def V.ren (f : Nat → Nat → Nat × Nat) : V → V
  | .d x => .d x
  | .ptr X r off ver => .ptr (f X r).1 (f X r).2 off ver
  | .sl X r off n esz ver => .sl (f X r).1 (f X r).2 off n esz ver
  | .agg xs => .agg (V.renL f xs)
  | .fn g a b => .fn g (V.renL f a) (V.renL f b)
  | .tup xs => .tup (V.renL f xs)
  | .nil => .nil
  | .any => .any
def V.renL (f : Nat → Nat → Nat × Nat) : List V → List V
  | [] => []
  | v :: r => V.ren f v :: V.renL f r
end

/-- All names are rows of one. -/
def toF (nm : Nat) (_ r : Nat) : Nat × Nat := (nm, r)
def famUp (nm : Nat) (fam : List (List V)) : List (List V) := fam.map fun cells => cells.map (V.ren (toF nm))

/-- Data alone? -/
def allD : List V → Option (List D)
  | [] => some []
  | .d x :: r => (allD r).map (x :: ·)
  | _ :: _ => none

/-- A function value: data, where all that it holds is. -/
def fnOf (f : FuncId) (first cap : List V) : V :=
  match allD first, allD cap with
  | some a, some b => .d (.fn f a b)
  | _, _ => .fn f first cap

def hv (i : HI) (ev : Opd → V) (K : V → Prop) : Prop :=
  match i with
  | .mov x => K (ev x)
  | .pick c a b => match ev c with
    | .d (.bool t) => (t = true → K (ev a)) ∧ (t = false → K (ev b))
    | _ => False
  | .build zero parts => match fillV zero (partsV ev parts) with
    | some cells => K (.agg cells)
    | none => False
  | .nilck x => match ev x with
    | .ptr .. | .d (.bptr _) | .fn .. | .d (.fn ..) => K (ev x)
    | _ => False
  | .ibin op x y => match ev x, ev y with
    | .d (.int k a), .d (.int k' b) => match op with
      | .shl => 0 ≤ b ∧ K (.d (.int k (k.wrap (a * 2 ^ min b.toNat k.bits))))
      | .shr => 0 ≤ b ∧ K (.d (.int k (a.fdiv (2 ^ min b.toNat k.bits))))
      | .add => k = k' ∧ K (.d (.int k (k.wrap (a + b))))
      | .sub => k = k' ∧ K (.d (.int k (k.wrap (a - b))))
      | .mul => k = k' ∧ K (.d (.int k (k.wrap (a * b))))
      | .quo => k = k' ∧ b ≠ 0 ∧ K (.d (.int k (k.wrap (a.tdiv b))))
      | .rem => k = k' ∧ b ≠ 0 ∧ K (.d (.int k (a.tmod b)))
      | .and | .or | .xor | .andNot => k = k' ∧ K (.d (.int k (bitsOp op k a b)))
      | .eql => k = k' ∧ K (.d (.bool (a == b)))
      | .neq => k = k' ∧ K (.d (.bool (a != b)))
      | .lss => k = k' ∧ K (.d (.bool (decide (a < b))))
      | .leq => k = k' ∧ K (.d (.bool (decide (a ≤ b))))
      | .gtr => k = k' ∧ K (.d (.bool (decide (a > b))))
      | .geq => k = k' ∧ K (.d (.bool (decide (a ≥ b))))
    | _, _ => False
  | .fbin o x y => match ev x, ev y with
    | .d (.flt a), .d (.flt b) => K (.d (.flt (fop o a b)))
    | _, _ => False
  | .fcmp o x y => match ev x, ev y with
    | .d (.flt a), .d (.flt b) => K (.d (.bool (Ab.fcmp o a b)))
    | _, _ => False
  | .bcmp ne x y => match ev x, ev y with
    | .d (.bool a), .d (.bool b) => K (.d (.bool ((a == b) ^^ ne)))
    | _, _ => False
  | .un op x => match op, ev x with
    | .neg, .d (.int k a) => K (.d (.int k (k.wrap (0 - a))))
    | .neg, .d (.flt a) => K (.d (.flt (cf (a ^^^ 9223372036854775808))))
    | .not, .d (.bool b) => K (.d (.bool !b))
    | _, _ => False
  | .icv k x => match ev x with
    | .d (.int _ a) => K (.d (.int k (k.wrap a)))
    | _ => False
  | .i2f x => match ev x with
    | .d (.int _ a) => K (.d (.flt (FloatKind.nearest .f64 a)))
    | _ => False
  | .f2f x => match ev x with
    | .d (.flt a) => K (.d (.flt a))
    | _ => False
  | .mkfn f first cap => K (fnOf f (first.map ev) (cap.map ev))
  | .slc x lo hi mx esz =>
    match ev x with
    | .nil => (∀ o ∈ lo.toList ++ hi.toList ++ mx.toList, ∃ k, ev o = .d (.int k 0)) ∧ K .nil
    | .d (.bor n get) => ∃ l h, bound ev lo 0 l ∧ bound ev hi n h ∧ l ≤ h ∧ h ≤ n ∧ mx.isNone = true ∧ (l < h → (get l).length = esz) ∧ K (.d (.bor (h - l) fun i => get (l + i)))
    | .sl X r off n esz' ver => esz' = esz ∧ ∃ l h m, bound ev lo 0 l ∧ bound ev hi n h ∧ bound ev mx n m ∧ l ≤ h ∧ h ≤ m ∧ m ≤ n ∧ K (.sl X r (off + l * esz) (h - l) esz ver)
    | _ => False
  | .padd x off => match ev x with
    | .ptr X r o ver => K (.ptr X r (o + off) ver)
    | .d (.bptr cells) => off ≤ cells.length ∧ K (.d (.bptr (cells.drop off)))
    | _ => False
  | .fld x off n agg => match ev x with
    | .agg xs => off + n ≤ xs.length ∧ 0 < n ∧ K (ldv agg n off xs)
    | _ => False
  | .idx x i esz => match ev x, ev i with
    | .d (.bor n get), .d (.int _ k) => (0 ≤ k ∧ k < n) ∧ (get k.toNat).length = esz ∧ K (.d (.bptr (get k.toNat)))
    | .sl X r off n _ ver, .d (.int _ k) => (0 ≤ k ∧ k < n) ∧ K (.ptr X r (off + k.toNat * esz) ver)
    | _, _ => False
  | .idxa x i len esz => match ev x, ev i with
    | .ptr X r off ver, .d (.int _ k) => (0 ≤ k ∧ k < len) ∧ K (.ptr X r (off + k.toNat * esz) ver)
    | .d (.bptr cells), .d (.int _ k) => (0 ≤ k ∧ k < len) ∧ k.toNat * esz ≤ cells.length ∧ K (.d (.bptr (cells.drop (k.toNat * esz))))
    | _, _ => False
  | .idxv x i len esz agg => match ev x, ev i with
    | .agg xs, .d (.int _ k) => (0 ≤ k ∧ k < len) ∧ k.toNat * esz + esz ≤ xs.length ∧ 0 < esz ∧ K (ldv agg esz (k.toNat * esz) xs)
    | _, _ => False
  | .ext x i => match ev x with
    | .tup xs => i < xs.length ∧ K (xs.getD i .any)
    | _ => False
  | .len x => match ev x with
    | .nil => K (.d (.int .i64 0))
    | .d (.bor n _) => K (.d (.int .i64 n))
    | .sl _ _ _ n _ _ => K (.d (.int .i64 n))
    | _ => False
  | .mm mx x y => match ev x, ev y with
    | .d (.int k a), .d (.int _ b) => K (.d (.int k (if mx then (if b > a then b else a) else (if b < a then b else a))))
    | .d (.flt a), .d (.flt b) => K (.d (.flt (fmaxmin mx a b)))
    | _, _ => False
  | .mm3 x y z => match ev x, ev y, ev z with
    | .d (.int k a), .d (.int _ b), .d (.int _ c) => K (.d (.int k (if c < (if b < a then b else a) then c else (if b < a then b else a))))
    | _, _, _ => False
  | .bits x => match ev x with
    | .d (.flt a) => isNan a = false ∧ K (.d (.int .u64 a))
    | .d (.fraw a) => K (.d (.int .u64 a))
    | _ => False
  | .frombits x => match ev x with
    | .d (.int .u64 n) => (0 ≤ n ∧ n < 18446744073709551616) ∧ K (.d (.flt (cf n.toNat)))
    | _ => False
where
  bound (ev : Opd → V) (o : Option Opd) (dflt : Nat) (l : Nat) : Prop := match o with
    | none => l = dflt
    | some x => ∃ k, ev x = .d (.int k l)

/-- A function with a Go body. -/
def GoFn (P : Program) (f : FuncId) : Prop := ∃ fn, P.funcs[f]? = some fn ∧ fn.body.isNone = false ∧ (fn.name == "runtime.NumGoroutine") = false

/-- A call: from rows L to rows L', and what it answers. -/
def AC (P : Program) (f : FuncId) (vs : List V) (L L' : Heap) (r : V) : Prop :=
  GoFn P f ∧ ∀ (St : Nat → Prop) (m : Map) (w : World) (cargs : Array Value), Objs St m L w → cargs.size = vs.length →
    (∀ j, j < vs.length → VRel St m L w (vs.getD j .any) (cargs.getD j undef)) →
    Calls P f cargs w fun e w' => ∃ v St' m', e = .returned v ∧ Objs St' m' L' w' ∧ VRel St' m' L' w' r v ∧ Frame' (Named m L) w w' ∧
      Ext St St' m m' L L' w w' ∧ (∀ b, St' b → St b ∨ w.heap.size ≤ b) ∧ Src m L m' L' w

/-- A call of data alone. -/
def Con (P : Program) (f : FuncId) (vs : List V) (r : V) : Prop := AC P f vs [] [] r

/-- What is named, as data. -/
inductive Snap (L : Heap) : V → V → Prop
  | d (x : D) : Snap L (.d x) (.d x)
  | nil : Snap L .nil (.d .nils)
  | any : Snap L .any .any
  | sl {X r off n esz ver : Nat} {cells : List V} {get : Nat → List D} (h : L.get X r = some cells) (hv : cells.length = ver)
      (hl : off + n * esz ≤ cells.length) (hg : ∀ i, i < n → (get i).length = esz)
      (hs : ∀ i j, i < n → j < esz → Snap L (cells.getD (off + i * esz + j) .any) (.d ((get i).getD j default))) :
      Snap L (.sl X r off n esz ver) (.d (.bor n get))
  | ptr {X r off ver : Nat} {cells : List V} {ds : List D} (h : L.get X r = some cells) (hv : cells.length = ver) (hl : off + ds.length ≤ cells.length)
      (hne : cells ≠ []) (hs : ∀ j, j < ds.length → Snap L (cells.getD (off + j) .any) (.d (ds.getD j default))) : Snap L (.ptr X r off ver) (.d (.bptr ds))
  | agg {xs ys : List V} (h : ys.length = xs.length) (hs : ∀ j, j < xs.length → Snap L (xs.getD j .any) (ys.getD j .any)) : Snap L (.agg xs) (.agg ys)
  | tup {xs ys : List V} (h : ys.length = xs.length) (hs : ∀ j, j < xs.length → Snap L (xs.getD j .any) (ys.getD j .any)) : Snap L (.tup xs) (.tup ys)
  | fn {f : FuncId} {first cap : List V} {first' cap' : List D} (h1 : first'.length = first.length) (h2 : cap'.length = cap.length)
      (hf : ∀ j, j < first.length → Snap L (first.getD j .any) (.d (first'.getD j default)))
      (hc : ∀ j, j < cap.length → Snap L (cap.getD j .any) (.d (cap'.getD j default))) : Snap L (.fn f first cap) (.d (.fn f first' cap'))

/-- Values that hold no memory at all. -/
inductive Scalar : V → Prop
  | int (k n) : Scalar (.d (.int k n))
  | bool (b) : Scalar (.d (.bool b))
  | flt (x) : Scalar (.d (.flt x))
  | any : Scalar .any
  | agg {xs : List V} (h : ∀ j, j < xs.length → Scalar (xs.getD j .any)) : Scalar (.agg xs)
  | tup {xs : List V} (h : ∀ j, j < xs.length → Scalar (xs.getD j .any)) : Scalar (.tup xs)

def V.isD : V → Bool
  | .d _ | .any | .nil => true
  | _ => false

/-- Data, or a struct of data. -/
def V.isD1 : V → Bool
  | .agg xs => xs.all V.isD
  | v => v.isD

/-- A value that names nothing. -/
def V.bareB : V → Bool
  | .d _ | .any | .nil => true
  | .agg xs => xs.all V.isD
  | .tup xs => xs.all V.isD1
  | .fn _ a b => a.all V.isD && b.all V.isD
  | _ => false

/-- A call that changes no row: of what names nothing, or of a snapshot, where the answer is a scalar. -/
def CallC (P : Program) (L : Heap) (g : FuncId) (vs : List V) (r : V) : Prop :=
  (vs.all V.bareB = true ∧ Con P g vs r) ∨
  ∃ us, us.length = vs.length ∧ (∀ j, j < us.length → Snap L (vs.getD j .any) (us.getD j .any)) ∧ Scalar r ∧ Con P g us r

/-- What holds no data of rows. -/
inductive PureV : V → Prop
  | int (k n) : PureV (.d (.int k n))
  | bool (b) : PureV (.d (.bool b))
  | flt (x) : PureV (.d (.flt x))
  | nil : PureV .nil
  | any : PureV .any
  | ptr (X r off ver) : PureV (.ptr X r off ver)
  | sl (X r off n esz ver) : PureV (.sl X r off n esz ver)
  | agg {xs : List V} (h : ∀ j, j < xs.length → PureV (xs.getD j .any)) : PureV (.agg xs)
  | tup {xs : List V} (h : ∀ j, j < xs.length → PureV (xs.getD j .any)) : PureV (.tup xs)

/-- The rows whose names are below b. -/
def Heap.old (b : Nat) (L : Heap) : Heap := L.filter fun p => decide (p.1 < b)
/-- Arguments as data: they name nothing, or rows that are there. -/
def SArgs (L : Heap) (vs us : List V) (A : Prop) : Prop :=
  (us = vs ∧ vs.all V.bareB = true) ∨ (us.length = vs.length ∧ (∀ j, j < us.length → Snap L (vs.getD j .any) (us.getD j .any)) ∧ A)
def PureF (fam : List (List V)) : Prop := ∀ (q : Nat) (cells : List V), fam[q]? = some cells → ∀ j, j < cells.length → PureV (cells.getD j .any)
/-- A call of what lay there ahead of the region: it changes no row, and makes rows of one name at most. -/
def CallS (P : Program) (nm k : Nat) (g : FuncId) (vs : List V) (L : Heap) (K : V → Heap → Prop) : Prop :=
  (∃ us r, SArgs (L.old (nm - k)) vs us (Scalar r) ∧ Con P g us r ∧ K r L) ∨
  ∃ us fam r, SArgs (L.old (nm - k)) vs us (PureV r ∧ PureF fam) ∧ AC P g us [] [(0, fam)] r ∧ L.fam nm = none ∧ K (r.ren (toF nm)) (L.ins nm (famUp nm fam))

/-- The function that a value calls, and what it hands it ahead and behind. -/
def callee : V → Option (FuncId × List V × List V)
  | .fn f first cap => some (f, first, cap)
  | .d (.fn f first cap) => some (f, first.map .d, cap.map .d)
  | _ => none

/-- Do two places share no cell? -/
def Apart : V → V → Prop
  | .ptr X r _ _, .ptr Y q _ _ | .ptr X r _ _, .sl Y q _ _ _ _ | .sl X r _ _ _ _, .ptr Y q _ _ | .sl X r _ _ _ _, .sl Y q _ _ _ _ => X ≠ Y ∨ r ≠ q
  | .nil, _ | _, .nil | .d _, _ | _, .d _ => True
  | _, _ => False

/-- The places that a piece works at. -/
def Inst.places : Inst → List Opd
  | .load x _ _ => [x]
  | .store p _ _ => [p]
  | .app s x _ _ => [s, x]
  | .cpy d x _ => [d, x]
  | _ => []

/-- The name of a row that a value leads to. -/
def V.name : V → Option (Nat × Nat)
  | .ptr X r _ _ | .sl X r _ _ _ _ => some (X, r)
  | _ => none

/-- The cells of what is appended, copied. -/
def srcCells (L : Heap) (esz : Nat) : V → Option (List V)
  | .nil => some []
  | .d (.bor k get) => some ((bcells k get).map .d)
  | .sl X r off k _ ver => match L.get X r with
    | some cells => if cells.length = ver ∧ off + k * esz ≤ cells.length then some ((cells.drop off).take (k * esz)) else none
    | none => none
  | _ => none

def srcLen : V → Nat
  | .d (.bor k _) => k
  | .sl _ _ _ k _ _ => k
  | _ => 0

def effC (P : Program) (nm : Nat) (i : Inst) (ev : Opd → V) (L : Heap) (K : V → Heap → Prop) : Prop :=
  match i with
  | .h i => hv i ev (K · L)
  | .load x n agg => match ev x with
    | .d (.bptr cells) => (n ≤ cells.length ∧ 0 < n) ∧ K (ldv agg n 0 (cells.map .d)) L
    | .ptr X r off ver => match L.get X r with
      | some cells => (cells.length = ver ∧ off + n ≤ cells.length ∧ 0 < n) ∧ K (ldv agg n off cells) L
      | none => False
    | _ => False
  | .callC f args => match callee (ev f) with
    | some (g, first, cap) => (first ++ args.map ev ++ cap).all V.bareB = true ∧ ((∃ r, Con P g (first ++ args.map ev ++ cap) r ∧ K r L) ∨
        ∃ fam r, AC P g (first ++ args.map ev ++ cap) [] [(0, fam)] r ∧ L.fam nm = none ∧ K (r.ren (toF nm)) (L.ins nm (famUp nm fam)))
    | none => False
  | .callS k f args => match callee (ev f) with
    | some (g, first, cap) => CallS P nm k g (first ++ args.map ev ++ cap) L K
    | none => False
  | .alloc zero _ => L.fam nm = none ∧ (zero.all V.isCell = true ∧ zero ≠ []) ∧ K (.ptr nm 0 0 zero.length) (L.ins nm [zero])
  | .box x n _ => L.fam nm = none ∧ ((cellsOf (ev x)).length = n ∧ (cellsOf (ev x)).all V.isCell = true ∧ 0 < n) ∧ K (.ptr nm 0 0 n) (L.ins nm [cellsOf (ev x)])
  | .bslice cells0 n esz parts _ => match fillV cells0 (partsV ev parts) with
    | some cells => L.fam nm = none ∧ (cells.all V.isCell = true ∧ cells.length = n * esz) ∧ K (.sl nm 0 0 n esz (n * esz)) (L.ins nm [cells])
    | none => False
  | .mksl zero esz bytes n c _ => match ev n, ev c with
    | .d (.int k a), .d (.int k' b) => L.fam nm = none ∧ (k = .i64 ∧ k' = .i64 ∧ zero.length = esz ∧ zero.all V.isCell = true ∧ 0 ≤ a ∧ a ≤ b ∧ b * bytes ≤ 281474976710656) ∧
        K (.sl nm 0 0 a.toNat esz (a.toNat * esz)) (L.ins nm [repl a.toNat zero])
    | _, _ => False
  | .store p x n => match ev p with
    | .ptr X r off ver => match L.get X r with
      | some cells => (cells.length = ver ∧ off + n ≤ cells.length ∧ (cellsOf (ev x)).length = n ∧ (cellsOf (ev x)).all V.isCell = true) ∧
          K .any (L.put X r (splice cells off (cellsOf (ev x))))
      | none => False
    | _ => False
  | .app t x esz bytes => match srcCells L esz (ev x) with
    | some new => match ev t with
      | .nil => L.fam nm = none ∧ ((srcLen (ev x)) * bytes ≤ 140737488355328 ∧ new.length = srcLen (ev x) * esz ∧ 0 < esz ∧ new.all V.isCell = true) ∧
          K (.sl nm 0 0 (srcLen (ev x)) esz (srcLen (ev x) * esz)) (L.ins nm [new])
      | .sl X r off n esz' ver => match L.get X r with
        | some cells => (cells.length = ver ∧ off = 0 ∧ esz' = esz ∧ n * esz = ver ∧ (n + srcLen (ev x)) * bytes ≤ 140737488355328 ∧ new.length = srcLen (ev x) * esz ∧ 0 < esz ∧ new.all V.isCell = true) ∧
            K (.sl X r 0 (n + srcLen (ev x)) esz (ver + srcLen (ev x) * esz)) (L.put X r (cells ++ new))
        | none => False
      | _ => False
    | none => False
  | .cpy t x esz => match srcCells L esz (ev x) with
    | some new => match ev t with
      | .sl X r off n _ ver => match L.get X r with
        | some cells => (cells.length = ver ∧ off + n * esz ≤ cells.length ∧ new.length = srcLen (ev x) * esz ∧ 0 < esz ∧ new.all V.isCell = true) ∧
            K (.d (.int .i64 (min (srcLen (ev x)) n : Nat))) (L.put X r (splice cells off (new.take (n * esz))))
        | none => False
      | _ => False
    | none => False
  | .callA f args => match callee (ev f) with
    | some (g, first, cap) => ∃ L' r, AC P g (first ++ args.map ev ++ cap) L L' r ∧ K r L'
    | none => False

abbrev eff (P : Program) (nm : Nat) (i : Inst) (s : S) (K : V → Heap → Prop) : Prop := effC P nm i s.ev s.L K

def putSl (sl : List V) (dst : Option Nat) (v : V) : List V :=
  match dst with
  | some d => sl.set d v
  | none => sl

/-- What a piece leaves that was not run. -/
abbrev V.und : V := .tup []

def step (P : Program) (base : Nat) (ii : II) (s : S) (K : S → Prop) : Prop :=
  match ii.g with
  | none => ((∀ q ∈ ii.bs.zip ii.i.places, (s.ev q.1).name = (s.ev q.2).name) ∧ ∀ o ∈ ii.ind, ∀ p ∈ ii.i.places, Apart (s.ev o) (s.ev p)) ∧ eff P (base + ii.k) ii.i s fun v L => K ⟨putSl s.sl ii.dst v, L⟩
  | some (j, want) => match s.sl.getD j .any with
    | .d (.bool b) =>
      if b = want then ((∀ q ∈ ii.bs.zip ii.i.places, (s.ev q.1).name = (s.ev q.2).name) ∧ ∀ o ∈ ii.ind, ∀ p ∈ ii.i.places, Apart (s.ev o) (s.ev p)) ∧ eff P (base + ii.k) ii.i s fun v L => K ⟨putSl s.sl ii.dst v, L⟩
      else K ⟨putSl s.sl ii.dst .und, s.L⟩
    | .tup [] => K ⟨putSl s.sl ii.dst .und, s.L⟩
    | _ => False

def wpI (P : Program) (base : Nat) : List II → (S → Prop) → S → Prop
  | [], Q, s => Q s
  | ii :: r, Q, s => step P base ii s (wpI P base r Q)

end Go.Ab

/- From operations to pieces; what a piece promises, the operation keeps: those that ask nothing of memory. -/
namespace Go.Ab
set_option linter.unusedSimpArgs false
set_option linter.unusedVariables false
open Go

theorem getD_tmps (a : Act) (i : Nat) : a.eval (.tmp i) = a.tmps.getD i undef := rfl

structure SimS (St : Nat → Prop) (m : Map) (s : S) (a : Act) (w : World) : Prop where
  objs : Objs St m s.L w
  size : a.tmps.size = s.sl.length
  slots : ∀ i, i < s.sl.length → VRel St m s.L w (s.sl.getD i .any) (a.tmps.getD i undef)
  calm : a.defers = []

/-- The same world but for draws. -/
structure Same (w w' : World) : Prop where
  heap : w'.heap = w.heap
  os : w'.os = w.os
  tape : w'.tape = w.tape
  output : w'.output = w.output

theorem Same.refl (w : World) : Same w w := ⟨rfl, rfl, rfl, rfl⟩
theorem Same.drew (w : World) (n : Nat) : Same w { w with drawn := n } := ⟨rfl, rfl, rfl, rfl⟩
theorem Same.ext {St : Nat → Prop} {m : Map} {L : Heap} {w w' : World} (h : Same w w') : Ext St St m m L L w w' :=
  ⟨fun _ h => h, fun _ _ => by rw [h.heap], fun _ _ c hc => ⟨c, hc, Nat.le_refl _, fun _ => rfl⟩⟩
theorem Same.vrel {St : Nat → Prop} {m : Map} {L : Heap} {w w' : World} (h : Same w w') {v : V} {c : Value} (hv : VRel St m L w v c) : VRel St m L w' v c := hv.mono h.ext
theorem Same.objs {St : Nat → Prop} {m : Map} {L : Heap} {w w' : World} (h : Same w w') (ho : Objs St m L w) : Objs St m L w' := by
  refine ⟨fun b hb => by rw [h.heap]; exact ho.st b hb, ho.nil, fun X r cells b C hL hm => ?_, ho.inj⟩
  obtain ⟨h1, h2, arr, el, h3, h4, h5, h6⟩ := ho.obj X r cells b C hL hm
  exact ⟨by rw [h.heap]; exact h1, h2, arr, el, by rw [h.heap]; exact h3, h4, h5, fun j hj => h.vrel (h6 j hj)⟩
theorem Same.frame {F : Nat → Prop} {w w' : World} (h : Same w w') : Frame' F w w' :=
  ⟨h.os, h.tape, h.output, by rw [h.heap]; exact Nat.le_refl _, fun _ _ _ => by rw [h.heap]⟩

section inv
variable {St : Nat → Prop} {m : Map} {L : Heap} {w : World} {c : Value}
theorem VRel.int {k : IntKind} {n : Int} (h : VRel St m L w (.d (.int k n)) c) : c = .int k n := by cases h with | d h => cases h; rfl
theorem VRel.bool {b : Bool} (h : VRel St m L w (.d (.bool b)) c) : c = .bool b := by cases h with | d h => cases h; rfl
theorem VRel.fraw {x : Nat} (h : VRel St m L w (.d (.fraw x)) c) : x < 2 ^ 64 ∧ c = .float .f64 x := by cases h with | d h => cases h with | fraw hb => exact ⟨hb, rfl⟩
theorem VRel.flt {x : Nat} (h : VRel St m L w (.d (.flt x)) c) : ∃ b, b < 2 ^ 64 ∧ cf b = x ∧ c = .float .f64 b := by cases h with | d h => cases h with | flt hb h => exact ⟨_, hb, h, rfl⟩
theorem VRel.agg' {xs : List V} (h : VRel St m L w (.agg xs) c) : ∃ cs, c = .agg cs ∧ cs.size = xs.length ∧ ∀ j, j < xs.length → VRel St m L w (xs.getD j .any) (cs.getD j undef) := by
  cases h with | agg h1 h => exact ⟨_, rfl, h1, h⟩
theorem VRel.tup' {xs : List V} (h : VRel St m L w (.tup xs) c) : ∃ cs, c = .tuple cs ∧ cs.size = xs.length ∧ ∀ j, j < xs.length → VRel St m L w (xs.getD j .any) (cs.getD j undef) := by
  cases h with | tup h1 h => exact ⟨_, rfl, h1, h⟩
theorem VRel.ptr' {X r off ver : Nat} (h : VRel St m L w (.ptr X r off ver) c) : ∃ cells ad, L.get X r = some cells ∧ ver ≤ cells.length ∧ c = .pointer (some ad) ∧
    (cells.length = ver → ∃ b C, m X r = some (b, C) ∧ ad = ⟨b, off, none⟩) := by
  cases h with | ptr hL hv ad hc h => exact ⟨_, ad, hL, hv, hc, h⟩
theorem VRel.sl' {X r off n esz ver : Nat} (h : VRel St m L w (.sl X r off n esz ver) c) : ∃ cells a cap, L.get X r = some cells ∧ ver ≤ cells.length ∧ c = .slice a n cap ∧ n ≤ cap ∧ (0 < n → a.isSome = true) ∧
    (cells.length = ver → cap = 0 ∨ ∃ b C, m X r = some (b, C) ∧ off + cap * esz ≤ C ∧ a = some ⟨b, off, none⟩) := by
  cases h with | sl hL hv a cap hc hn ha h => exact ⟨_, a, cap, hL, hv, hc, hn, ha, h⟩
theorem VRel.fn' {f : FuncId} {first cap : List V} (h : VRel St m L w (.fn f first cap) c) : ∃ fs cs, c = .func (.func f) fs cs ∧ fs.size = first.length ∧ cs.size = cap.length ∧
    (∀ j, j < first.length → VRel St m L w (first.getD j .any) (fs.getD j undef)) ∧ (∀ j, j < cap.length → VRel St m L w (cap.getD j .any) (cs.getD j undef)) := by
  cases h with | fn h1 h2 h3 h4 => exact ⟨_, _, rfl, h1, h2, h3, h4⟩
theorem VRel.dfn {f : FuncId} {first cap : List D} (h : VRel St m L w (.d (.fn f first cap)) c) : ∃ fs cs, c = .func (.func f) fs cs ∧ fs.size = first.length ∧ cs.size = cap.length ∧
    (∀ j, j < first.length → DRel St w (first.getD j default) (fs.getD j undef)) ∧ (∀ j, j < cap.length → DRel St w (cap.getD j default) (cs.getD j undef)) := by
  cases h with | d h => cases h with | fn h1 h2 h3 h4 => exact ⟨_, _, rfl, h1, h2, h3, h4⟩
theorem VRel.bptr {cells : List D} (h : VRel St m L w (.d (.bptr cells)) c) : ∃ blk off, ∃ cell : Nat → Value, c = .pointer (some ⟨blk, off, none⟩) ∧ St blk ∧
    (∀ j, j < cells.length → w.cell? ⟨blk, off + j, none⟩ = some (cell j)) ∧ ∀ j, j < cells.length → DRel St w (cells.getD j default) (cell j) := by
  cases h with | d h => cases h with | bptr cell hs hc hd => exact ⟨_, _, cell, rfl, hs, hc, hd⟩
theorem VRel.bor {n : Nat} {get : Nat → List D} (h : VRel St m L w (.d (.bor n get)) c) : ∃ a cap, c = .slice a n cap ∧ (0 < n → ∃ blk off sz, ∃ cell : Nat → Nat → Value, a = some ⟨blk, off, none⟩ ∧ St blk ∧
    (∀ i, i < n → (get i).length = sz) ∧ (∀ i j, i < n → j < sz → w.cell? ⟨blk, off + i * sz + j, none⟩ = some (cell i j)) ∧ (∀ i j, i < n → j < sz → DRel St w ((get i).getD j default) (cell i j))) := by
  cases h with | d h => cases h with
    | bor0 g a c => exact ⟨a, c, rfl, fun h => absurd h (by omega)⟩
    | bor cell hs _ hl hc hd => exact ⟨_, _, rfl, fun _ => ⟨_, _, _, cell, rfl, hs, hl, hc, hd⟩⟩
theorem VRel.cap {n : Nat} {get : Nat → List D} {b : Option Addr} {cap : Nat} (h : VRel St m L w (.d (.bor n get)) c) (hc : c = .slice b n cap) : n ≤ cap := by
  cases h with | d h => cases h with
    | bor0 g a c => omega
    | bor cell hs hcap hl hc' hd => cases hc; exact hcap
end inv

theorem toV_rel (St : Nat → Prop) (m : Map) (L : Heap) (w : World) (v : Value) : VRel St m L w (Value.toV v) v := by
  cases v with
  | bool b => exact .d (.bool _)
  | int k n => exact .d (.int _ _)
  | float k b =>
    simp only [Value.toV]; split
    · rename_i h; obtain ⟨rfl, h⟩ := h; exact .d (.flt h rfl)
    · exact .any _
  | string s => exact .d (.str _)
  | pointer p =>
    simp only [Value.toV]; split
    · rename_i h; obtain rfl : p = none := by simpa using h
      exact .d .nilp
    · exact .any _
  | slice a n c =>
    simp only [Value.toV]; split
    · rename_i h; obtain ⟨h, rfl, rfl⟩ := h
      obtain rfl : a = none := by simpa using h
      exact .nil
    · exact .any _
  | func fn a b =>
    cases fn <;> simp only [Value.toV] <;> first | exact .any _ | skip
    split
    · rename_i h; obtain ⟨h1, h2⟩ := h
      exact .d (.fn (by simpa using h1) (by simpa using h2) (fun j hj => by simp at hj) (fun j hj => by simp at hj))
    · exact .any _
  | nilFunc => exact .d .nilf
  | _ => exact .any _

theorem constV_rel (St : Nat → Prop) (m : Map) (L : Heap) (w : World) (v : Value) : VRel St m L w (constV v) v := by
  unfold constV
  split
  · rename_i cs
    refine .agg (by simp) fun j hj => ?_
    have hj' : j < cs.size := by simpa using hj
    have : (cs.toList.map Value.toV).getD j .any = Value.toV (cs.getD j undef) := by
      simp [List.getD_eq_getElem?_getD, hj']
    rw [this]; exact toV_rel ..
  · exact toV_rel ..

theorem ev_rel {St : Nat → Prop} {m : Map} {s : S} {a : Act} {w : World} (h : SimS St m s a w) (x : Operand) : VRel St m s.L w (s.ev (Opd.of x)) (a.eval x) := by
  cases x with
  | tmp i =>
    simp only [Opd.of, S.ev, Act.eval]
    by_cases hi : i < s.sl.length
    · exact h.slots i hi
    · have : s.sl[i]? = none := List.getElem?_eq_none (Nat.not_lt.1 hi)
      rw [show s.sl.getD i .any = .any from by rw [List.getD_eq_getElem?_getD, this]; rfl]; exact .any _
  | const v => exact constV_rel ..
  | global g => exact .any _
  | func f => exact .d (.fn rfl rfl (fun j hj => by simp at hj) (fun j hj => by simp at hj))

/-- Sizes, kinds of types. -/
def szT (P : Program) (t : TypeId) : Option Nat := (P.info? t).map (·.size)
def aggT (P : Program) (t : TypeId) : Option Bool := (P.underlying t).map fun | .struct _ | .array .. => true | _ => false
def bytesT (P : Program) (t : TypeId) : Option Nat := (P.info? t).map (·.bytes)
def zeroT (P : Program) (t : TypeId) : Option (List V) := ((P.info? t).bind (·.zero)).map fun z => z.cells.toList.map Value.toV

def fopOf : BinOp → Option (FOp ⊕ FCmp)
  | .add => some (.inl .add) | .sub => some (.inl .sub) | .mul => some (.inl .mul) | .quo => some (.inl .div)
  | .eql => some (.inr .eq) | .neq => some (.inr .ne) | .lss => some (.inr .lt) | .leq => some (.inr .le) | .gtr => some (.inr .gt) | .geq => some (.inr .ge)
  | _ => none

def compCall (P : Program) (c : Callee) (args : List Operand) (ats : List TypeId) : Option HI :=
  match c with
  | .builtin b => match args with
    | [x] => if b = .len then match ats with
        | [t] => match P.underlying t with
          | some (.slice _) => some (.len (Opd.of x))
          | _ => none
        | _ => none
      else none
    | [x, y] => if b = .max then some (.mm true (Opd.of x) (Opd.of y)) else if b = .min then some (.mm false (Opd.of x) (Opd.of y)) else none
    | [x, y, z] => if b = .min then some (.mm3 (Opd.of x) (Opd.of y) (Opd.of z)) else none
    | _ => none
  | .value f => match f, args with
    | .func f, [x] => match P.funcs[f]? with
      | some fn => if fn.body.isNone then
          if fn.name = "math.Float64bits" ∧ fn.origin = "" then some (.bits (Opd.of x))
          else if fn.name = "math.Float64frombits" ∧ fn.origin = "" then some (.frombits (Opd.of x)) else none
        else none
      | none => none
    | _, _ => none
  | _ => none

def compH (P : Program) (op : Op) : Option HI :=
  match op with
  | .move x | .assign x => some (.mov (Opd.of x))
  | .pick c a b => some (.pick (Opd.of c) (Opd.of a) (Opd.of b))
  | .build t parts => match P.info? t, P.underlying t with
    | some it, some (.array _ e) => match it.zero, P.info? e with
      | some z, some ie => some (.build (z.cells.toList.map Value.toV) (parts.toList.map fun (i, x) => (i * ie.size, ie.size, Opd.of x)))
      | _, _ => none
    | some it, some (.struct fields) => match it.zero, fields.toList.mapM (fun f => (P.info? f.type).map fun i => (f.offset, i.size)) with
      | some z, some places => (parts.toList.mapM fun (q : Nat × Operand) => (places[q.1]?).map fun (p : Nat × Nat) => (p.1, p.2, Opd.of q.2)).map fun ps => .build (z.cells.toList.map Value.toV) ps
      | _, _ => none
    | _, _ => none
  | .nilCheck x => some (.nilck (Opd.of x))
  | .binOp op t x y _ => match P.underlying t with
    | some (.int _) => some (.ibin op (Opd.of x) (Opd.of y))
    | some (.float .f64) => match fopOf op with
      | some (.inl o) => some (.fbin o (Opd.of x) (Opd.of y))
      | some (.inr o) => some (.fcmp o (Opd.of x) (Opd.of y))
      | none => none
    | some .bool => match op with
      | .eql => some (.bcmp false (Opd.of x) (Opd.of y))
      | .neq => some (.bcmp true (Opd.of x) (Opd.of y))
      | _ => none
    | _ => none
  | .unOp op _ x => some (.un op (Opd.of x))
  | .convert s d x => match P.underlying s, P.underlying d with
    | some (.int _), some (.int k) => some (.icv k (Opd.of x))
    | some (.int _), some (.float .f64) => some (.i2f (Opd.of x))
    | some (.float .f64), some (.float .f64) => some (.f2f (Opd.of x))
    | _, _ => none
  | .makeFunc (.func f) first cap => some (.mkfn f (first.toList.map Opd.of) (cap.toList.map Opd.of))
  | .slice t x lo hi mx => match P.underlying t with
    | some (.slice e) => if mx.isSome ∧ hi.isNone then none else (szT P e).map fun n => .slc (Opd.of x) (lo.map Opd.of) (hi.map Opd.of) (mx.map Opd.of) n
    | _ => none
  | .fieldAddr t x f => match P.underlying t with
    | some (.struct fields) => match fields[f]? with
      | some fd => match szT P fd.type with
        | some (_ + 1) => some (.padd (Opd.of x) fd.offset)
        | _ => none
      | none => none
    | _ => none
  | .field t x f => match P.underlying t with
    | some (.struct fields) => match fields[f]? with
      | some fd => match szT P fd.type, aggT P fd.type with
        | some n, some g => if g = true ∨ n = 1 then some (.fld (Opd.of x) fd.offset n g) else none
        | _, _ => none
      | none => none
    | _ => none
  | .indexAddr t x i => match P.underlying t with
    | some (.slice e) => (szT P e).map fun n => .idx (Opd.of x) (Opd.of i) n
    | some (.array len e) => (szT P e).map fun n => .idxa (Opd.of x) (Opd.of i) len n
    | _ => none
  | .index t x i => match P.underlying t with
    | some (.array len e) => match szT P e, aggT P e with
      | some n, some g => if g = true ∨ n = 1 then some (.idxv (Opd.of x) (Opd.of i) len n g) else none
      | _, _ => none
    | _ => none
  | .extract x i => some (.ext (Opd.of x) i)
  | .call c => compCall P c.callee c.args.toList c.argTypes.toList
  | _ => none

end Go.Ab

/- What a piece that asks nothing of memory promises, the operation keeps. -/
namespace Go.Ab
set_option linter.unusedSimpArgs false
set_option linter.unusedVariables false
open Go

/-- Cells as a list of values. -/
def LRel (St : Nat → Prop) (m : Map) (L : Heap) (w : World) (xs : List V) (cs : Array Value) : Prop :=
  cs.size = xs.length ∧ ∀ j, j < xs.length → VRel St m L w (xs.getD j .any) (cs.getD j undef)

section
variable {St : Nat → Prop} {m : Map} {L : Heap} {w : World}

theorem LRel.nil : LRel St m L w [] #[] := ⟨rfl, fun j hj => by simp at hj⟩
theorem LRel.one {v : V} {c : Value} (h : VRel St m L w v c) : LRel St m L w [v] #[c] :=
  ⟨rfl, fun j hj => by have : j = 0 := by simpa using hj
                       subst this; simpa using h⟩
theorem LRel.agg {xs : List V} {cs : Array Value} (h : LRel St m L w xs cs) : VRel St m L w (.agg xs) (.agg cs) := .agg h.1 h.2
theorem LRel.get {xs : List V} {cs : Array Value} (h : LRel St m L w xs cs) (j : Nat) (hj : j < xs.length) : VRel St m L w (xs.getD j .any) (cs.getD j undef) := h.2 j hj

theorem LRel.set {xs : List V} {cs : Array Value} (h : LRel St m L w xs cs) {v : V} {c : Value} (hv : VRel St m L w v c) (i : Nat) :
    LRel St m L w (xs.set i v) (cs.setIfInBounds i c) := by
  refine ⟨by simp [h.1], fun j hj => ?_⟩
  have hj' : j < xs.length := by simpa using hj
  have hj2 : j < cs.size := by rw [h.1]; exact hj'
  by_cases e : i = j
  · subst e
    have h1 : (xs.set i v).getD i .any = v := by simp [List.getD_eq_getElem?_getD, hj']
    have h2 : (cs.setIfInBounds i c).getD i undef = c := by simp [Array.getD_eq_getD_getElem?, hj2]
    rw [h1, h2]; exact hv
  · have h1 : (xs.set i v).getD j .any = xs.getD j .any := by simp [List.getD_eq_getElem?_getD, e]
    have h2 : (cs.setIfInBounds i c).getD j undef = cs.getD j undef := by simp [Array.getD_eq_getD_getElem?, e]
    rw [h1, h2]; exact h.2 j hj'

theorem LRel.cons {v : V} {xs : List V} {c : Value} {cs : List Value} (h : LRel St m L w (v :: xs) (c :: cs).toArray) : VRel St m L w v c ∧ LRel St m L w xs cs.toArray := by
  refine ⟨by simpa using h.2 0 (by simp), by simpa using h.1, fun j hj => ?_⟩
  have := h.2 (j + 1) (by simpa using hj)
  simpa [List.getD_eq_getElem?_getD] using this

theorem splice_rel (off : Nat) : ∀ (vs : List Value) (ys : List V) (k : Nat) (xs : List V) (cs : Array Value), LRel St m L w xs cs → LRel St m L w ys vs.toArray →
    LRel St m L w (splice xs (off + k) ys) ((vs.zipIdx k).foldl (fun cs p => cs.setIfInBounds (off + p.2) p.1) cs) := by
  intro vs
  induction vs with
  | nil =>
    intro ys k xs cs h hy
    have : ys = [] := by simpa using hy.1.symm
    subst this; exact h
  | cons c vs ih =>
    intro ys k xs cs h hy
    cases ys with
    | nil => have := hy.1; simp at this
    | cons v ys =>
      obtain ⟨hv, hys⟩ := hy.cons
      simp only [splice, List.zipIdx_cons, List.foldl_cons]
      exact ih ys (k + 1) _ _ (h.set hv _) hys

theorem cells_rel {v : V} {c : Value} (h : VRel St m L w v c) (hv : (cellsOf v).all V.isCell = true ∨ ∃ xs, v = .agg xs) : LRel St m L w (cellsOf v) c.cells := by
  cases h with
  | agg h1 h => exact ⟨h1, h⟩
  | d h => cases h <;> exact .one (.d (by first | assumption | constructor <;> assumption))
  | any c => simp [cellsOf, V.isCell] at hv
  | nil => exact .one .nil
  | ptr hL hvv ad hc h => subst hc; exact .one (.ptr hL hvv ad rfl h)
  | sl hL hvv a cap hc hn ha h => subst hc; exact .one (.sl hL hvv a cap rfl hn ha h)
  | fn h1 h2 h3 h4 => exact .one (.fn h1 h2 h3 h4)
  | tup h1 h => simp [cellsOf, V.isCell] at hv

theorem okPart_cells {v : V} {c : Value} (h : VRel St m L w v c) (hv : v.okPart = true) : LRel St m L w (cellsOf v) c.cells := by
  refine cells_rel h ?_
  cases v <;> simp_all [V.okPart, cellsOf, V.isCell]

theorem fill_rel (place : Nat → Option (Nat × Nat)) : ∀ (ps : List (Nat × Value)) (qs : List (Nat × Nat × V)) (xs : List V) (cs : Array Value) (xs' : List V), LRel St m L w xs cs →
    fillV xs qs = some xs' → ps.length = qs.length →
    (∀ j (h1 : j < ps.length) (h2 : j < qs.length), place ps[j].1 = some (qs[j].1, qs[j].2.1) ∧ VRel St m L w qs[j].2.2 ps[j].2) →
    ∃ cs', Instr.fill place cs ps = some cs' ∧ LRel St m L w xs' cs' := by
  intro ps
  induction ps with
  | nil =>
    intro qs xs cs xs' h hf hl _
    have : qs = [] := by simpa using hl.symm
    subst this
    simp only [fillV, Option.some.injEq] at hf
    subst hf
    exact ⟨cs, rfl, h⟩
  | cons p ps ih =>
    intro qs xs cs xs' h hf hl hp
    cases qs with
    | nil => simp at hl
    | cons q qs =>
      obtain ⟨off, n, v⟩ := q
      obtain ⟨i, c⟩ := p
      obtain ⟨h0, hv⟩ := hp 0 (by simp) (by simp)
      simp only [List.getElem_cons_zero] at h0 hv
      simp only [fillV] at hf
      split at hf
      case isFalse => simp at hf
      rename_i hc
      obtain ⟨hn, hoff, hok⟩ := hc
      have hcl := okPart_cells hv hok
      have hsz : c.cells.size = n := by rw [hcl.1, hn]
      simp only [Instr.fill, h0]
      have hcond : (c.cells.size ≠ n || off + c.cells.size > cs.size) = false := by
        simp [hsz, h.1]; omega
      rw [hcond]
      simp only [Bool.false_eq_true, if_false]
      have hfold : c.cells.zipIdx.foldl (fun cs x => cs.setIfInBounds (off + x.2) x.1) cs = (c.cells.toList.zipIdx 0).foldl (fun cs p => cs.setIfInBounds (off + p.2) p.1) cs := by
        rw [← Array.foldl_toList, Array.toList_zipIdx]
      have hs := splice_rel (St := St) (m := m) (L := L) (w := w) off c.cells.toList (cellsOf v) 0 xs cs h (by simpa using hcl)
      rw [← hfold] at hs
      exact ih qs _ _ xs' (by simpa using hs) hf (by simpa using hl) (fun j h1 h2 => hp (j + 1) (Nat.succ_lt_succ h1) (Nat.succ_lt_succ h2))

end

/-- What is asked of an operation that asks nothing of memory. -/
def HOk (P : Program) (St : Nat → Prop) (m : Map) (L : Heap) (a : Act) (o : Oper) (w : World) (K : V → Prop) : Prop :=
  ∃ v c w', (execOp a.eval o).run P w = .ok (.value c) w' ∧ Same w w' ∧ K v ∧ VRel St m L w' v c

theorem HOk.mk {P : Program} {St : Nat → Prop} {m : Map} {L : Heap} {a : Act} {o : Oper} {w : World} {K : V → Prop} (v : V) (c : Value)
    (hr : (execOp a.eval o).run P w = .ok (.value c) w) (hk : K v) (hv : VRel St m L w v c) : HOk P St m L a o w K := ⟨v, c, w, hr, .refl w, hk, hv⟩

section
variable {P : Program} {St : Nat → Prop} {m : Map} {s : S} {a : Act} {o : Oper} {w : World} {K : V → Prop}

theorem h_mov (x : Operand) (ho : o.op = .move x ∨ o.op = .assign x) (hs : SimS St m s a w) (hk : K (s.ev (Opd.of x))) : HOk P St m s.L a o w K := by
  refine .mk _ (a.eval x) ?_ hk (ev_rel hs x)
  rcases ho with ho | ho <;> simp only [execOp, ho] <;> rfl

theorem h_pick (c x y : Operand) (ho : o.op = .pick c x y) (hs : SimS St m s a w) (hk : hv (.pick (Opd.of c) (Opd.of x) (Opd.of y)) s.ev K) : HOk P St m s.L a o w K := by
  have hc := ev_rel hs c
  simp only [hv] at hk
  split at hk
  · rename_i t ht
    rw [ht] at hc
    have hc := hc.bool
    cases t
    · refine .mk _ (a.eval y) ?_ (hk.2 rfl) (ev_rel hs y)
      simp only [execOp, ho, hc]; rfl
    · refine .mk _ (a.eval x) ?_ (hk.1 rfl) (ev_rel hs x)
      simp only [execOp, ho, hc]; rfl
  · exact hk.elim

theorem h_nilck (x : Operand) (ho : o.op = .nilCheck x) (hs : SimS St m s a w) (hk : hv (.nilck (Opd.of x)) s.ev K) : HOk P St m s.L a o w K := by
  have hx := ev_rel hs x
  simp only [hv] at hk
  have go : ∀ c, a.eval x = c → (match c with | .pointer none | .nilIface | .nilFunc => False | .func (.method _) _ _ => False | _ => True) → K (s.ev (Opd.of x)) → HOk P St m s.L a o w K := by
    intro c hc hcc hk
    refine .mk _ c ?_ hk (hc ▸ hx)
    simp only [execOp, ho, hc]
    split
    · exact hcc.elim
    · exact hcc.elim
    · exact hcc.elim
    · exact hcc.elim
    · rfl
  split at hk
  · rename_i h; rw [h] at hx; obtain ⟨_, ad, _, _, hc, _⟩ := hx.ptr'
    exact go _ hc trivial (h ▸ hk)
  · rename_i h; rw [h] at hx; obtain ⟨_, _, _, hc, _⟩ := hx.bptr
    exact go _ hc trivial (h ▸ hk)
  · rename_i h; rw [h] at hx; obtain ⟨_, _, hc, _⟩ := hx.fn'
    exact go _ hc trivial (h ▸ hk)
  · rename_i h; rw [h] at hx; obtain ⟨_, _, hc, _⟩ := hx.dfn
    exact go _ hc trivial (h ▸ hk)
  · exact hk.elim

theorem run_eqGuard_int (op : BinOp) (t : TypeId) (x y : Operand) (k k' : IntKind) (n n' : Int) : (eqGuard op t x y (.int k n) (.int k' n')).run P w = .ok () w := by
  cases op <;> rfl
theorem run_eqGuard_float (op : BinOp) (t : TypeId) (x y : Operand) (k k' : FloatKind) (n n' : Nat) : (eqGuard op t x y (.float k n) (.float k' n')).run P w = .ok () w := by
  cases op <;> rfl
theorem run_eqGuard_bool (op : BinOp) (t : TypeId) (x y : Operand) (n n' : Bool) : (eqGuard op t x y (.bool n) (.bool n')).run P w = .ok () w := by
  cases op <;> rfl

theorem h_ibin (op : BinOp) (t u : TypeId) (x y : Operand) (ho : o.op = .binOp op t x y u) (hs : SimS St m s a w) (hk : hv (.ibin op (Opd.of x) (Opd.of y)) s.ev K) : HOk P St m s.L a o w K := by
  have hx := ev_rel hs x
  have hy := ev_rel hs y
  simp only [hv] at hk
  split at hk
  case h_2 => exact hk.elim
  rename_i k p k' q h1 h2
  rw [h1] at hx; rw [h2] at hy
  have hx := hx.int
  have hy := hy.int
  have run : ∀ c, (binOp op t (.int k p) (.int k' q)).run P w = .ok c w → (execOp a.eval o).run P w = .ok (.value c) w := by
    intro c hc
    simp only [execOp, ho, hx, hy]
    simp [run_eqGuard_int, hc]
  have fin : ∀ (z : D) (c : Value), (binOp op t (.int k p) (.int k' q)).run P w = .ok c w → K (.d z) → DRel St w z c → HOk P St m s.L a o w K := fun z c hc hk hd => .mk (.d z) c (run c hc) hk (.d hd)
  cases op with
  | shl => obtain ⟨hb, hk⟩ := hk; exact fin _ _ (by simp [binOp, Op.shift, Int.not_lt.2 hb]) hk (.int _ _)
  | shr => obtain ⟨hb, hk⟩ := hk; exact fin _ _ (by simp [binOp, Op.shift, Int.not_lt.2 hb]) hk (.int _ _)
  | add => obtain ⟨rfl, hk⟩ := hk; exact fin _ _ (by simp [binOp, Op.intArith]) hk (.int _ _)
  | sub => obtain ⟨rfl, hk⟩ := hk; exact fin _ _ (by simp [binOp, Op.intArith]) hk (.int _ _)
  | mul => obtain ⟨rfl, hk⟩ := hk; exact fin _ _ (by simp [binOp, Op.intArith]) hk (.int _ _)
  | quo => obtain ⟨rfl, hb, hk⟩ := hk; exact fin _ _ (by simp [binOp, Op.intDiv, hb]) hk (.int _ _)
  | rem => obtain ⟨rfl, hb, hk⟩ := hk; exact fin _ _ (by simp [binOp, Op.intDiv, hb]) hk (.int _ _)
  | and => obtain ⟨rfl, hk⟩ := hk; exact fin _ _ (by show (if k ≠ k then _ else _ : Sem Value).run P w = _; rw [if_neg (by simp)]; rfl) hk (.int _ _)
  | or => obtain ⟨rfl, hk⟩ := hk; exact fin _ _ (by show (if k ≠ k then _ else _ : Sem Value).run P w = _; rw [if_neg (by simp)]; rfl) hk (.int _ _)
  | xor => obtain ⟨rfl, hk⟩ := hk; exact fin _ _ (by show (if k ≠ k then _ else _ : Sem Value).run P w = _; rw [if_neg (by simp)]; rfl) hk (.int _ _)
  | andNot => obtain ⟨rfl, hk⟩ := hk; exact fin _ _ (by show (if k ≠ k then _ else _ : Sem Value).run P w = _; rw [if_neg (by simp)]; rfl) hk (.int _ _)
  | eql => obtain ⟨rfl, hk⟩ := hk; exact fin _ _ (by simp [binOp, Op.intCmp]) hk (.bool _)
  | neq => obtain ⟨rfl, hk⟩ := hk; exact fin _ _ (by simp [binOp, Op.intCmp]) hk (.bool _)
  | lss => obtain ⟨rfl, hk⟩ := hk; exact fin _ _ (by simp [binOp, Op.intCmp]) hk (.bool _)
  | leq => obtain ⟨rfl, hk⟩ := hk; exact fin _ _ (by simp [binOp, Op.intCmp]) hk (.bool _)
  | gtr => obtain ⟨rfl, hk⟩ := hk; exact fin _ _ (by simp [binOp, Op.intCmp]) hk (.bool _)
  | geq => obtain ⟨rfl, hk⟩ := hk; exact fin _ _ (by simp [binOp, Op.intCmp]) hk (.bool _)

theorem nan_drawn (t : Nat) : isNan (Question.cut (.nanBits .f64 0 0) t) = true ∧ Question.cut (.nanBits .f64 0 0) t < 2 ^ 64 := by
  have e : Question.cut (.nanBits .f64 0 0) t = (t % 2) * 9223372036854775808 + 9218868437227405312 + 1 + (t / 2) % 4503599627370495 := by simp [Question.cut]
  have h1 : t % 2 < 2 := Nat.mod_lt _ (by decide)
  have h2 : t / 2 % 4503599627370495 < 4503599627370495 := Nat.mod_lt _ (by decide)
  rw [e]
  clear e
  revert h1 h2
  generalize t % 2 = u
  generalize t / 2 % 4503599627370495 = v
  intro h1 h2
  refine ⟨?_, by omega⟩
  unfold isNan
  rw [decide_eq_true_iff]
  have h3 : (u * 9223372036854775808 + 9218868437227405312 + 1 + v) % 9223372036854775808 = 9218868437227405312 + 1 + v := by
    rw [show u * 9223372036854775808 + 9218868437227405312 + 1 + v = 9218868437227405312 + 1 + v + 9223372036854775808 * u from by omega, Nat.add_mul_mod_self_left]
    exact Nat.mod_eq_of_lt (by omega)
  omega

theorem h_fbin (op : BinOp) (f : FOp) (t u : TypeId) (x y : Operand) (hop : fopOf op = some (.inl f)) (ho : o.op = .binOp op t x y u) (hs : SimS St m s a w) (hk : hv (.fbin f (Opd.of x) (Opd.of y)) s.ev K) : HOk P St m s.L a o w K := by
  have hx := ev_rel hs x
  have hy := ev_rel hs y
  simp only [hv] at hk
  split at hk
  case h_2 => exact hk.elim
  rename_i p q h1 h2
  rw [h1] at hx; rw [h2] at hy
  obtain ⟨b, hb, hcb, hx'⟩ := hx.flt
  obtain ⟨d, hd, hcd, hy'⟩ := hy.flt
  have key : ∀ r : Option Nat, (∀ v, r = some v → v < 2 ^ 64) → (binOp op t (.float .f64 b) (.float .f64 d)).run P w = (match r with | some v => .ok (.float .f64 v) w | none => .ok (.float .f64 (Question.cut (.nanBits .f64 0 0) (w.tape w.drawn (.nanBits .f64 b d)))) { w with drawn := w.drawn + 1 }) →
      fop f p q = (r.map cf).getD qnan → HOk P St m s.L a o w K := by
    intro r hlt hr hf
    cases r with
    | some v =>
      refine .mk _ (.float .f64 v) ?_ hk (.d (.flt (hlt v rfl) ?_))
      · simp only [execOp, ho, hx', hy']; simp [run_eqGuard_float, hr]
      · simpa using hf.symm
    | none =>
      refine ⟨_, .float .f64 (Question.cut (.nanBits .f64 0 0) (w.tape w.drawn (.nanBits .f64 b d))), { w with drawn := w.drawn + 1 }, ?_, .drew _ _, hk, .d (.flt (nan_drawn _).2 ?_)⟩
      · simp only [execOp, ho, hx', hy']; simp [run_eqGuard_float, hr]
      · rw [cf_nan (nan_drawn _).1]; simpa using hf.symm
  have fin : ∀ r : Option Nat, (∀ v, r = some v → v < 2 ^ 64) → (∀ k : FloatKind, True) → (Op.floatArith op .f64 b d).run P w = (match r with | some v => .ok (.float .f64 v) w | none => .ok (.float .f64 (Question.cut (.nanBits .f64 0 0) (w.tape w.drawn (.nanBits .f64 b d)))) { w with drawn := w.drawn + 1 }) → fop f p q = (r.map cf).getD qnan → HOk P St m s.L a o w K := by
    intro r hlt _ hr hf
    refine key r hlt ?_ hf
    rw [← hr]
    cases op <;> simp [fopOf] at hop <;> simp [binOp]
  have frun : ∀ r : Option Nat, (do match r with | some r => pure (.float .f64 r) | none => pure (.float .f64 (← choose (.nanBits .f64 b d))) : Sem Value).run P w = (match r with | some v => .ok (.float .f64 v) w | none => .ok (.float .f64 (Question.cut (.nanBits .f64 0 0) (w.tape w.drawn (.nanBits .f64 b d)))) { w with drawn := w.drawn + 1 }) := by
    intro r
    cases r with
    | some v => rfl
    | none => rfl
  subst hcb hcd
  cases op <;> simp only [fopOf, Option.some.injEq, Sum.inl.injEq, reduceCtorEq] at hop <;> subst hop
  · exact fin (Ieee.double.add b d) (fun v hv => by have := Ieee.Format.add_lt _ hv; simpa [Ieee.Format.width, Ieee.double] using this) (fun _ => trivial) (by simp only [Op.floatArith]; rw [← frun]; rfl) (by simp only [fop, add_cf])
  · exact fin (Ieee.double.sub b d) (fun v hv => by have := Ieee.Format.sub_lt _ hv; simpa [Ieee.Format.width, Ieee.double] using this) (fun _ => trivial) (by simp only [Op.floatArith]; rw [← frun]; rfl) (by simp only [fop, sub_cf])
  · exact fin (Ieee.double.mul b d) (fun v hv => by have := Ieee.Format.mul_lt _ hv; simpa [Ieee.Format.width, Ieee.double] using this) (fun _ => trivial) (by simp only [Op.floatArith]; rw [← frun]; rfl) (by simp only [fop, mul_cf])
  · exact fin (Ieee.double.div b d) (fun v hv => by have := Ieee.Format.div_lt _ hv; simpa [Ieee.Format.width, Ieee.double] using this) (fun _ => trivial) (by simp only [Op.floatArith]; rw [← frun]; rfl) (by simp only [fop, div_cf])

theorem h_fcmp (op : BinOp) (f : FCmp) (t u : TypeId) (x y : Operand) (hop : fopOf op = some (.inr f)) (ho : o.op = .binOp op t x y u) (hs : SimS St m s a w) (hk : hv (.fcmp f (Opd.of x) (Opd.of y)) s.ev K) : HOk P St m s.L a o w K := by
  have hx := ev_rel hs x
  have hy := ev_rel hs y
  simp only [hv] at hk
  split at hk
  case h_2 => exact hk.elim
  rename_i p q h1 h2
  rw [h1] at hx; rw [h2] at hy
  obtain ⟨b, hb, hcb, hx'⟩ := hx.flt
  obtain ⟨d, hd, hcd, hy'⟩ := hy.flt
  subst hcb hcd
  refine .mk _ (.bool (Ab.fcmp f (cf b) (cf d))) ?_ hk (.d (.bool _))
  have e : ∀ x y : Nat, FloatKind.f64.format.order x y = Ieee.double.order x y := fun _ _ => rfl
  simp only [execOp, ho, hx', hy']
  cases op <;> simp only [fopOf, Option.some.injEq, Sum.inr.injEq, reduceCtorEq] at hop <;> subst hop <;> simp [run_eqGuard_float, binOp, Op.floatCmp, Ab.fcmp, order_cf, e]

theorem h_bcmp (op : BinOp) (ne : Bool) (t u : TypeId) (x y : Operand) (hop : op = if ne then .neq else .eql) (hu : P.underlying t = some .bool) (ho : o.op = .binOp op t x y u) (hs : SimS St m s a w) (hk : hv (.bcmp ne (Opd.of x) (Opd.of y)) s.ev K) : HOk P St m s.L a o w K := by
  have hx := ev_rel hs x
  have hy := ev_rel hs y
  simp only [hv] at hk
  split at hk
  case h_2 => exact hk.elim
  rename_i p q h1 h2
  rw [h1] at hx; rw [h2] at hy
  have hx := hx.bool
  have hy := hy.bool
  refine .mk _ (.bool ((p == q) ^^ ne)) ?_ hk (.d (.bool _))
  simp only [execOp, ho, hx, hy]
  have he : (Op.equal t (.bool p) (.bool q)).run P w = .ok (p == q) w := run_equal_bool w t p q hu
  cases ne <;> simp only [hop, Bool.false_eq_true, if_true, if_false] <;> simp [run_eqGuard_bool, binOp, he]

end

end Go.Ab

/- What a piece that asks nothing of memory promises, the operation keeps: the rest. -/
namespace Go.Ab
set_option linter.unusedSimpArgs false
set_option linter.unusedVariables false
open Go

theorem add_none (b off n : Nat) : (Addr.add ⟨b, off, none⟩ n) = ⟨b, off + n, none⟩ := by
  unfold Addr.add; split
  · rename_i h; subst h; rfl
  · rfl

theorem nearest_not_nan (neg : Bool) (mag : Nat) (place : Int) : isNan (Ieee.double.nearest neg mag place) = false := by
  have h2 : Ieee.double.signWeight = 9223372036854775808 := rfl
  have h3 : Ieee.double.infRung = 9218868437227405312 := rfl
  have key : ∀ (neg : Bool) (r : Nat), r ≤ 9218868437227405312 → isNan (Ieee.double.word neg r) = false := by
    intro neg r hr
    unfold isNan Ieee.Format.word
    rw [h2, decide_eq_false_iff_not]
    cases neg
    · simp only [Bool.false_eq_true, if_false]; omega
    · simp only [if_true]; omega
  unfold Ieee.Format.nearest
  split
  · exact key _ _ (by decide)
  · dsimp only
    refine key _ _ ?_
    rw [h3]; exact Nat.min_le_right _ _

theorem nearest_lt' (n : Int) : FloatKind.nearest .f64 n < 2 ^ 64 := by
  have := Ieee.Format.nearest_lt Ieee.double (decide (n < 0)) n.natAbs 0
  simpa [FloatKind.nearest, FloatKind.encode, FloatKind.format, Ieee.Format.write, Ieee.Format.width, Ieee.double] using this
theorem nearest_cf (n : Int) : cf (FloatKind.nearest .f64 n) = FloatKind.nearest .f64 n :=
  cf_not (nearest_not_nan (decide (n < 0)) n.natAbs 0)

theorem xor_mod (b : Nat) : (b ^^^ 9223372036854775808) % 9223372036854775808 = b % 9223372036854775808 := by
  have := @Nat.xor_mod_two_pow b 9223372036854775808 63
  simpa using this

theorem isNan_neg (b : Nat) : isNan (b ^^^ 9223372036854775808) = isNan b := by unfold isNan; rw [xor_mod]

theorem VRel.nil' {St : Nat → Prop} {m : Map} {L : Heap} {w : World} {c : Value} (h : VRel St m L w .nil c) : c = .slice none 0 0 := by cases h; rfl

theorem next_bits : Extern.allNextRows.lookup "math.Float64bits" = none := by kernel_rfl
theorem next_frombits : Extern.allNextRows.lookup "math.Float64frombits" = none := by kernel_rfl
theorem next_none : Extern.allNextRows.lookup "" = none := by kernel_rfl
theorem gen_bits : Extern.allGenericRows.lookup "math.Float64bits" = none := by kernel_rfl
theorem typed_bits : Extern.allTypedRows.lookup "math.Float64bits" = none := by kernel_rfl
theorem rows_bits : Extern.allRows.lookup "math.Float64bits" = some Extern.MathFloatBits.float64bits := by kernel_rfl
theorem gen_frombits : Extern.allGenericRows.lookup "math.Float64frombits" = none := by kernel_rfl
theorem typed_frombits : Extern.allTypedRows.lookup "math.Float64frombits" = none := by kernel_rfl
theorem rows_frombits : Extern.allRows.lookup "math.Float64frombits" = some Extern.MathFloatBits.float64frombits := by kernel_rfl

section
variable {P : Program} {St : Nat → Prop} {m : Map} {s : S} {a : Act} {o : Oper} {w : World} {K : V → Prop}

theorem h_un (op : UnOp) (t : TypeId) (x : Operand) (ho : o.op = .unOp op t x) (hs : SimS St m s a w) (hk : hv (.un op (Opd.of x)) s.ev K) : HOk P St m s.L a o w K := by
  have hx := ev_rel hs x
  simp only [hv] at hk
  split at hk
  · rename_i h; rw [h] at hx
    refine .mk _ _ ?_ hk (.d (.int _ _))
    simp only [execOp, ho, hx.int]; simp [Op.unary, Op.intArith]
  · rename_i h; rw [h] at hx
    obtain ⟨b, hb, hcb, hx'⟩ := hx.flt
    refine .mk _ (.float .f64 (b ^^^ 9223372036854775808)) ?_ hk (.d (.flt (Nat.xor_lt_two_pow hb (by decide)) ?_))
    · simp only [execOp, ho, hx']; rfl
    · subst hcb
      by_cases hn : isNan b = true
      · rw [cf_nan (by rw [isNan_neg]; exact hn), cf_nan hn]; rfl
      · have hn : isNan b = false := by simpa using hn
        rw [cf_not hn]
  · rename_i h; rw [h] at hx
    refine .mk _ _ ?_ hk (.d (.bool _))
    simp only [execOp, ho, hx.bool]; rfl
  · exact hk.elim

theorem h_icv (sT d : TypeId) (k : IntKind) (x : Operand) (hsT : ∃ q, P.underlying sT = some (.int q)) (hd : P.underlying d = some (.int k)) (ho : o.op = .convert sT d x) (hs : SimS St m s a w) (hk : hv (.icv k (Opd.of x)) s.ev K) : HOk P St m s.L a o w K := by
  have hx := ev_rel hs x
  simp only [hv] at hk
  split at hk
  · rename_i h; rw [h] at hx
    obtain ⟨q, hq⟩ := hsT
    refine .mk _ _ ?_ hk (.d (.int _ _))
    simp only [execOp, ho, hx.int]; simp [convert, run_underlying hq, run_underlying hd, Conv.intToInt]
  · exact hk.elim

theorem h_i2f (sT d : TypeId) (x : Operand) (hsT : ∃ q, P.underlying sT = some (.int q)) (hd : P.underlying d = some (.float .f64)) (ho : o.op = .convert sT d x) (hs : SimS St m s a w) (hk : hv (.i2f (Opd.of x)) s.ev K) : HOk P St m s.L a o w K := by
  have hx := ev_rel hs x
  simp only [hv] at hk
  split at hk
  · rename_i k n h; rw [h] at hx
    obtain ⟨q, hq⟩ := hsT
    refine .mk _ (.float .f64 (FloatKind.nearest .f64 n)) ?_ hk (.d (.flt (nearest_lt' n) (nearest_cf n)))
    simp only [execOp, ho, hx.int]; simp [convert, run_underlying hq, run_underlying hd, Conv.intToFloat]
  · exact hk.elim

theorem h_f2f (sT d : TypeId) (x : Operand) (hsT : P.underlying sT = some (.float .f64)) (hd : P.underlying d = some (.float .f64)) (ho : o.op = .convert sT d x) (hs : SimS St m s a w) (hk : hv (.f2f (Opd.of x)) s.ev K) : HOk P St m s.L a o w K := by
  have hx := ev_rel hs x
  simp only [hv] at hk
  split at hk
  · rename_i h; rw [h] at hx
    obtain ⟨b, hb, hcb, hx'⟩ := hx.flt
    refine .mk _ (.float .f64 b) ?_ hk (.d (.flt hb hcb))
    simp only [execOp, ho, hx']; simp [convert, run_underlying hsT, run_underlying hd, Conv.floatToFloat]
  · exact hk.elim

theorem map_rel (hs : SimS St m s a w) (xs : Array Operand) : LRel St m s.L w ((xs.toList.map Opd.of).map s.ev) (xs.map a.eval) := by
  refine ⟨by simp, fun j hj => ?_⟩
  have hj' : j < xs.size := by simpa using hj
  have := ev_rel hs xs[j]
  simpa [List.getD_eq_getElem?_getD, Array.getD_eq_getD_getElem?, hj'] using this

theorem allD_spec : ∀ (vs : List V) (ds : List D), allD vs = some ds → vs = ds.map V.d := by
  intro vs
  induction vs with
  | nil => intro ds h; simp [allD] at h; subst h; rfl
  | cons v vs ih =>
    intro ds h
    cases v <;> simp only [allD, reduceCtorEq] at h
    cases h' : allD vs with
    | none => simp [h'] at h
    | some r => simp [h'] at h; subst h; rw [ih r h']; rfl

theorem fnOf_rel {L : Heap} (f : FuncId) {first cap : List V} {fs cs : Array Value} (h1 : LRel St m L w first fs) (h2 : LRel St m L w cap cs) : VRel St m L w (fnOf f first cap) (.func (.func f) fs cs) := by
  unfold fnOf
  split
  · rename_i p q hp hq
    have e1 := allD_spec _ _ hp
    have e2 := allD_spec _ _ hq
    subst e1 e2
    refine .d (.fn (by simpa using h1.1) (by simpa using h2.1) (fun j hj => ?_) fun j hj => ?_)
    · have := h1.2 j (by simpa using hj)
      have e : (p.map V.d).getD j .any = .d (p.getD j default) := by simp [List.getD_eq_getElem?_getD, hj]
      rw [e] at this; cases this with | d h => exact h
    · have := h2.2 j (by simpa using hj)
      have e : (q.map V.d).getD j .any = .d (q.getD j default) := by simp [List.getD_eq_getElem?_getD, hj]
      rw [e] at this; cases this with | d h => exact h
  · exact .fn h1.1 h2.1 h1.2 h2.2

theorem h_mkfn (f : FuncId) (first cap : Array Operand) (ho : o.op = .makeFunc (.func f) first cap) (hs : SimS St m s a w) (hk : hv (.mkfn f (first.toList.map Opd.of) (cap.toList.map Opd.of)) s.ev K) : HOk P St m s.L a o w K := by
  have h1 := map_rel hs first
  have h2 := map_rel hs cap
  refine .mk _ (.func (.func f) (first.map a.eval) (cap.map a.eval)) ?_ hk (fnOf_rel f h1 h2)
  simp only [execOp, ho]; rfl

theorem h_ext (x : Operand) (i : Nat) (ho : o.op = .extract x i) (hs : SimS St m s a w) (hk : hv (.ext (Opd.of x) i) s.ev K) : HOk P St m s.L a o w K := by
  have hx := ev_rel hs x
  simp only [hv] at hk
  split at hk
  · rename_i xs h; rw [h] at hx
    obtain ⟨cs, hc, hsz, hr⟩ := hx.tup'
    obtain ⟨hi, hk⟩ := hk
    have hi' : i < cs.size := by omega
    refine .mk _ (cs.getD i undef) ?_ hk (hr i hi)
    simp only [execOp, ho, hc]; simp [Instr.extract, hi', Array.getD_eq_getD_getElem?]
  · exact hk.elim

theorem h_len (t : TypeId) (x : Operand) (e : TypeId) (ht : P.underlying t = some (.slice e)) (ho : o.op = .call { callee := .builtin .len, args := #[x], argTypes := #[t] }) (hs : SimS St m s a w) (hk : hv (.len (Opd.of x)) s.ev K) : HOk P St m s.L a o w K := by
  have hx := ev_rel hs x
  simp only [hv] at hk
  have run : ∀ b n c, a.eval x = .slice b n c → (execOp a.eval o).run P w = .ok (.value (.int .i64 n)) w := by
    intro b n c hc
    simp only [execOp, ho]
    simp [resolve, hc, invoke, builtin, Builtin.len_, run_underlying ht, goInt]
  split at hk
  · rename_i h; rw [h] at hx
    exact .mk _ _ (run _ _ _ hx.nil') hk (.d (.int _ _))
  · rename_i h; rw [h] at hx; obtain ⟨_, _, hc, _⟩ := hx.bor
    exact .mk _ _ (run _ _ _ hc) hk (.d (.int _ _))
  · rename_i h; rw [h] at hx; obtain ⟨_, _, _, _, _, hc, _⟩ := hx.sl'
    exact .mk _ _ (run _ _ _ hc) hk (.d (.int _ _))
  · exact hk.elim

theorem h_bits (f : FuncId) (fn : Func) (ats : Array TypeId) (x : Operand) (hf : P.funcs[f]? = some fn) (hb : fn.body.isNone = true) (hn : fn.name = "math.Float64bits" ∧ fn.origin = "") (ho : o.op = .call { callee := .value (.func f), args := #[x], argTypes := ats }) (hs : SimS St m s a w) (hk : hv (.bits (Opd.of x)) s.ev K) : HOk P St m s.L a o w K := by
  have hx := ev_rel hs x
  have main : ∀ b, a.eval x = .float .f64 b → K (.d (.int .u64 b)) → HOk P St m s.L a o w K := by
    intro b hx' hk
    refine .mk _ (.int .u64 b) ?_ hk (.d (.int _ _))
    have e1 := next_bits; have e0 := next_none
    have h1 : Extern.findNext fn = none := by simp only [Extern.findNext, hn.1, hn.2, e1, e0]; rfl
    have h2 : Extern.find fn = some Extern.MathFloatBits.float64bits := by simp only [Extern.find, hn.1, gen_bits, typed_bits, rows_bits]; rfl
    have h3 : (Extern.MathFloatBits.float64bits #[a.eval x]).run P w = .ok (.int .u64 b) w := by rw [hx']; rfl
    have hfe : a.eval (.func f) = .func (.func f) #[] #[] := rfl
    simp only [execOp, ho]
    simp [resolve, hfe, Deferred.ofValue, invoke, callFunc, hf, hn, h1, h2, h3]
    simpa using hb
  simp only [hv] at hk
  split at hk
  · rename_i p h; rw [h] at hx
    obtain ⟨b, hb', hcb, hx'⟩ := hx.flt
    obtain ⟨hnn, hk⟩ := hk
    have : cf b = b := by
      rw [← hcb, isNan_cf] at hnn; exact cf_not hnn
    rw [this] at hcb; subst hcb
    exact main b hx' hk
  · rename_i p h; rw [h] at hx
    exact main p hx.fraw.2 hk
  · exact hk.elim

theorem h_frombits (f : FuncId) (fn : Func) (ats : Array TypeId) (x : Operand) (hf : P.funcs[f]? = some fn) (hb : fn.body.isNone = true) (hn : fn.name = "math.Float64frombits" ∧ fn.origin = "") (ho : o.op = .call { callee := .value (.func f), args := #[x], argTypes := ats }) (hs : SimS St m s a w) (hk : hv (.frombits (Opd.of x)) s.ev K) : HOk P St m s.L a o w K := by
  have hx := ev_rel hs x
  simp only [hv] at hk
  split at hk
  · rename_i p h; rw [h] at hx
    obtain ⟨⟨h0, h64⟩, hk⟩ := hk
    refine .mk _ (.float .f64 p.toNat) ?_ hk (.d (.flt (by omega) rfl))
    have e1 := next_frombits; have e0 := next_none
    have h1 : Extern.findNext fn = none := by simp only [Extern.findNext, hn.1, hn.2, e1, e0]; rfl
    have h2 : Extern.find fn = some Extern.MathFloatBits.float64frombits := by simp only [Extern.find, hn.1, gen_frombits, typed_frombits, rows_frombits]; rfl
    have h3 : (Extern.MathFloatBits.float64frombits #[a.eval x]).run P w = .ok (.float .f64 p.toNat) w := by rw [hx.int]; rfl
    have hfe : a.eval (.func f) = .func (.func f) #[] #[] := rfl
    simp only [execOp, ho]
    simp [resolve, hfe, Deferred.ofValue, invoke, callFunc, hf, hn, h1, h2, h3]
    simpa using hb
  · exact hk.elim

theorem run_max2_int (k k' : IntKind) (p q : Int) : (Builtin.max2 (.int k p) (.int k' q)).run P w = .ok (.int k (if q > p then q else p)) w := rfl
theorem run_min2_int (k k' : IntKind) (p q : Int) : (Builtin.min2 (.int k p) (.int k' q)).run P w = .ok (.int k (if q < p then q else p)) w := rfl

theorem nan_drawn' (mx : Bool) (x y t : Nat) : isNan (Question.cut (.nanMinMax .f64 mx x y) t) = true ∧ Question.cut (.nanMinMax .f64 mx x y) t < 2 ^ 64 := nan_drawn t

theorem cf_eq_of {b : Nat} (h : isNan b = false) : cf b = b := cf_not h

theorem order_none_l {x y : Nat} (h : isNan x = true) : Ieee.double.order x y = none := by
  unfold Ieee.Format.order
  rw [← read_nan] at h
  cases hb : Ieee.double.read x <;> simp [hb, Ieee.Datum.isNaN] at h
  exact order_nan_l ..
theorem order_none_r {x y : Nat} (h : isNan y = true) : Ieee.double.order x y = none := by
  unfold Ieee.Format.order
  rw [← read_nan] at h
  cases hb : Ieee.double.read y <;> simp [hb, Ieee.Datum.isNaN] at h
  exact order_nan_r ..

theorem run_max2_flt (mx : Bool) (b d : Nat) (hb : b < 2 ^ 64) (hd : d < 2 ^ 64) : ∃ r w', ((if mx then Builtin.max2 else Builtin.min2) (.float .f64 b) (.float .f64 d)).run P w = .ok (.float .f64 r) w' ∧ Same w w' ∧ r < 2 ^ 64 ∧ cf r = fmaxmin mx (cf b) (cf d) := by
  have e : ∀ x y : Nat, FloatKind.f64.format.order x y = Ieee.double.order x y := fun _ _ => rfl
  have e2 : ∀ x : Nat, (FloatKind.f64.decode x) = Ieee.double.read x := fun _ => rfl
  unfold fmaxmin
  rw [order_cf]
  cases h : Ieee.double.order b d with
  | none =>
    refine ⟨Question.cut (.nanMinMax .f64 mx b d) (w.tape w.drawn (.nanMinMax .f64 mx b d)), { w with drawn := w.drawn + 1 }, ?_, .drew _ _, (nan_drawn' ..).2, ?_⟩
    · cases mx <;> simp [Builtin.max2, Builtin.min2, e, h] <;> intro hf <;> cases hf
    · exact cf_nan (nan_drawn' ..).1
  | some ord =>
    have nb : isNan b = false := by
      cases hn : isNan b with
      | false => rfl
      | true => rw [order_none_l hn] at h; cases h
    have nd : isNan d = false := by
      cases hn : isNan d with
      | false => rfl
      | true => rw [order_none_r hn] at h; cases h
    rw [cf_not nb, cf_not nd]
    cases ord with
    | lt => exact ⟨if mx then d else b, w, by cases mx <;> simp [Builtin.max2, Builtin.min2, e, h], .refl w, by cases mx <;> simp <;> omega, by cases mx <;> simp [cf_not nb, cf_not nd]⟩
    | gt => exact ⟨if mx then b else d, w, by cases mx <;> simp [Builtin.max2, Builtin.min2, e, h], .refl w, by cases mx <;> simp <;> omega, by cases mx <;> simp [cf_not nb, cf_not nd]⟩
    | eq =>
      refine ⟨if (Ieee.double.read b).neg = mx then d else b, w, ?_, .refl w, by split <;> omega, by split <;> simp [cf_not nb, cf_not nd]⟩
      cases mx <;> simp [Builtin.max2, Builtin.min2, e, e2, h] <;> cases (Ieee.double.read b).neg <;> simp

theorem run_max_ (ats : Array TypeId) (ty : TypeId) {p q v : Value} {w' : World} (h : (Builtin.max2 p q).run P w = .ok v w') : (Builtin.max_ ats ty #[p, q]).run P w = .ok v w' := by
  show ((Bind.bind (Builtin.max2 p q) fun r => pure r) : Sem Value).run P w = _
  rw [Sem.run_bind, h]; rfl
theorem run_min_ (ats : Array TypeId) (ty : TypeId) {p q v : Value} {w' : World} (h : (Builtin.min2 p q).run P w = .ok v w') : (Builtin.min_ ats ty #[p, q]).run P w = .ok v w' := by
  show ((Bind.bind (Builtin.min2 p q) fun r => pure r) : Sem Value).run P w = _
  rw [Sem.run_bind, h]; rfl

theorem h_mm (mx : Bool) (x y : Operand) (ats : Array TypeId) (ho : o.op = .call { callee := .builtin (if mx then .max else .min), args := #[x, y], argTypes := ats }) (hs : SimS St m s a w) (hk : hv (.mm mx (Opd.of x) (Opd.of y)) s.ev K) : HOk P St m s.L a o w K := by
  have hx := ev_rel hs x
  have hy := ev_rel hs y
  simp only [hv] at hk
  have run : ∀ v w', ((if mx then Builtin.max2 else Builtin.min2) (a.eval x) (a.eval y)).run P w = .ok v w' → (execOp a.eval o).run P w = .ok (.value v) w' := by
    intro v w' hr
    cases mx with
    | true =>
      have ho : o.op = .call { callee := .builtin .max, args := #[x, y], argTypes := ats } := ho
      simp only [execOp, ho]
      simp [resolve, invoke, builtin, run_max_ ats o.type hr]
    | false =>
      have ho : o.op = .call { callee := .builtin .min, args := #[x, y], argTypes := ats } := ho
      simp only [execOp, ho]
      simp [resolve, invoke, builtin, run_min_ ats o.type hr]
  split at hk
  · rename_i h1 h2; rw [h1] at hx; rw [h2] at hy
    refine .mk _ _ (run _ _ ?_) hk (.d (.int _ _))
    rw [hx.int, hy.int]; cases mx <;> rfl
  · rename_i h1 h2; rw [h1] at hx; rw [h2] at hy
    obtain ⟨b, hb, hcb, hx'⟩ := hx.flt
    obtain ⟨d, hd, hcd, hy'⟩ := hy.flt
    subst hcb hcd
    obtain ⟨r, w', hr, hsame, hlt, hcf⟩ := run_max2_flt (P := P) (w := w) mx b d hb hd
    exact ⟨_, .float .f64 r, w', run _ _ (by rw [hx', hy']; exact hr), hsame, hk, .d (.flt hlt hcf)⟩
  · exact hk.elim

theorem h_mm3 (x y z : Operand) (ats : Array TypeId) (ho : o.op = .call { callee := .builtin .min, args := #[x, y, z], argTypes := ats }) (hs : SimS St m s a w) (hk : hv (.mm3 (Opd.of x) (Opd.of y) (Opd.of z)) s.ev K) : HOk P St m s.L a o w K := by
  have hx := ev_rel hs x
  have hy := ev_rel hs y
  have hz := ev_rel hs z
  simp only [hv] at hk
  split at hk
  · rename_i k a _ b _ c h1 h2 h3
    rw [h1] at hx; rw [h2] at hy; rw [h3] at hz
    obtain hx := hx.int
    obtain hy := hy.int
    obtain hz := hz.int
    refine .mk _ (.int k (if c < (if b < a then b else a) then c else (if b < a then b else a))) ?_ hk (.d (.int _ _))
    simp only [execOp, ho]
    simp [resolve, invoke, builtin, hx, hy, hz, Builtin.min_, Builtin.min2]
  · exact hk.elim

end
end Go.Ab

/- What a piece that asks nothing of memory promises, the operation keeps: structs, arrays, places. -/
namespace Go.Ab
set_option linter.unusedSimpArgs false
set_option linter.unusedVariables false
open Go

section
variable {P : Program} {St : Nat → Prop} {m : Map} {s : S} {a : Act} {o : Oper} {w : World} {K : V → Prop} {L : Heap}

theorem LRel.extract {xs : List V} {cs : Array Value} (h : LRel St m L w xs cs) (off n : Nat) (hn : off + n ≤ xs.length) :
    LRel St m L w ((xs.drop off).take n) (cs.extract off (off + n)) := by
  have h1 := h.1
  refine ⟨by simp; omega, fun j hj => ?_⟩
  have hj' : j < n := by simp at hj; omega
  have e1 : ((xs.drop off).take n).getD j .any = xs.getD (off + j) .any := by
    simp [List.getD_eq_getElem?_getD, hj']
  have e2 : (cs.extract off (off + n)).getD j undef = cs.getD (off + j) undef := by
    have : j < min (off + n) cs.size - off := by omega
    have h3 : off + j < cs.size := by omega
    simp [Array.getD_eq_getD_getElem?, this, h3]
  rw [e1, e2]; exact h.2 _ (by omega)

theorem run_szT {t n : Nat} (h : szT P t = some n) : (sizeOf t).run P w = .ok n w := by
  unfold szT at h
  cases hi : P.info? t with
  | none => simp [hi] at h
  | some i => simp [hi] at h; simp [sizeOf, typeInfo, hi, h]

theorem run_aggT {t : Nat} {g : Bool} (h : aggT P t = some g) : (isAgg t).run P w = .ok g w := by
  unfold aggT at h
  cases hi : P.underlying t with
  | none => simp [hi] at h
  | some d =>
    rw [hi] at h
    simp only [isAgg, Sem.run_bind, run_underlying hi, Result.andThen]
    cases d <;> simp at h <;> subst h <;> rfl

theorem run_part {t n off : Nat} {g : Bool} {xs : List V} {cs : Array Value} (hg : aggT P t = some g) (hn : szT P t = some n) (h1 : g = true ∨ n = 1) (h0 : 0 < n)
    (h : LRel St m L w xs cs) (hl : off + n ≤ xs.length) : ∃ c, (part t cs off).run P w = .ok c w ∧ VRel St m L w (ldv g n off xs) c := by
  have hsz := h.1
  cases g with
  | true =>
    refine ⟨.agg (cs.extract off (off + n)), ?_, ?_⟩
    · simp [part, run_aggT hg, run_szT hn]
    · simpa [ldv] using (h.extract off n hl).agg
  | false =>
    obtain rfl : n = 1 := by simpa using h1
    have hlt : off < cs.size := by omega
    refine ⟨cs.getD off undef, ?_, ?_⟩
    · simp [part, run_aggT hg, hlt, Array.getD_eq_getD_getElem?]
    · simpa [ldv] using h.2 off (by omega)

theorem h_fld (t : TypeId) (x : Operand) (i : Nat) (fields : Array Field) (fd : Field) (n : Nat) (g : Bool) (ht : P.underlying t = some (.struct fields)) (hf : fields[i]? = some fd)
    (hn : szT P fd.type = some n) (hg : aggT P fd.type = some g) (h1 : g = true ∨ n = 1) (ho : o.op = .field t x i) (hs : SimS St m s a w) (hk : hv (.fld (Opd.of x) fd.offset n g) s.ev K) : HOk P St m s.L a o w K := by
  have hx := ev_rel hs x
  simp only [hv] at hk
  split at hk
  · rename_i xs h; rw [h] at hx
    obtain ⟨cs, hc, hsz, hr⟩ := hx.agg'
    obtain ⟨hl, h0, hk⟩ := hk
    obtain ⟨c, hrun, hrel⟩ := run_part (P := P) hg hn h1 h0 ⟨hsz, hr⟩ hl
    refine .mk _ c ?_ hk hrel
    simp only [execOp, ho, hc]
    simp [Instr.field, run_underlying ht, hf, asAgg, hrun]
  · exact hk.elim

theorem h_idxv (t : TypeId) (x ix : Operand) (len : Nat) (e : TypeId) (n : Nat) (g : Bool) (ht : P.underlying t = some (.array len e))
    (hn : szT P e = some n) (hg : aggT P e = some g) (h1 : g = true ∨ n = 1) (ho : o.op = .index t x ix) (hs : SimS St m s a w) (hk : hv (.idxv (Opd.of x) (Opd.of ix) len n g) s.ev K) : HOk P St m s.L a o w K := by
  have hx := ev_rel hs x
  have hi := ev_rel hs ix
  simp only [hv] at hk
  split at hk
  · rename_i xs k q h h2; rw [h] at hx; rw [h2] at hi
    obtain ⟨cs, hc, hsz, hr⟩ := hx.agg'
    obtain ⟨⟨hq0, hq1⟩, hl, h0, hk⟩ := hk
    obtain ⟨c, hrun, hrel⟩ := run_part (P := P) (off := q.toNat * n) hg hn h1 h0 ⟨hsz, hr⟩ hl
    refine .mk _ c ?_ hk hrel
    simp only [execOp, ho, hc, hi.int]
    simp [Instr.index, asIntOf, run_underlying ht, run_szT hn, hq0, hq1, hrun]
  · exact hk.elim

theorem h_padd (t : TypeId) (x : Operand) (i : Nat) (fields : Array Field) (fd : Field) (n : Nat) (ht : P.underlying t = some (.struct fields)) (hf : fields[i]? = some fd)
    (hn : szT P fd.type = some (n + 1)) (ho : o.op = .fieldAddr t x i) (hs : SimS St m s a w) (hk : hv (.padd (Opd.of x) fd.offset) s.ev K) : HOk P St m s.L a o w K := by
  have hx := ev_rel hs x
  simp only [hv] at hk
  have run : ∀ ad, a.eval x = .pointer (some ad) → (execOp a.eval o).run P w = .ok (.value (.pointer (some (ad.add fd.offset)))) w := by
    intro ad hc
    simp only [execOp, ho, hc]
    simp [Instr.fieldAt, run_underlying ht, hf, Instr.sureAddr, fieldPlace, run_szT hn]
  split at hk
  · rename_i h; rw [h] at hx
    obtain ⟨cells, ad, hL, hv, hc, hf⟩ := hx.ptr'
    refine .mk _ _ (run _ hc) hk (.ptr hL hv _ rfl fun e => ?_)
    obtain ⟨b, C, hm, rfl⟩ := hf e
    exact ⟨b, C, hm, add_none ..⟩
  · rename_i cells h; rw [h] at hx
    obtain ⟨blk, off, cell, hc, hst, h1, h2⟩ := hx.bptr
    obtain ⟨hle, hk⟩ := hk
    refine .mk _ _ (run _ hc) hk ?_
    rw [add_none]
    refine .d (.bptr (fun j => cell (fd.offset + j)) hst (fun j hj => ?_) fun j hj => ?_)
    · rw [Nat.add_assoc]; exact h1 _ (by simp at hj; omega)
    · have := h2 (fd.offset + j) (by simp at hj; omega)
      simpa [List.getD_eq_getElem?_getD] using this
  · exact hk.elim

theorem h_idxa (t : TypeId) (x ix : Operand) (len : Nat) (e : TypeId) (n : Nat) (ht : P.underlying t = some (.array len e)) (hn : szT P e = some n)
    (ho : o.op = .indexAddr t x ix) (hs : SimS St m s a w) (hk : hv (.idxa (Opd.of x) (Opd.of ix) len n) s.ev K) : HOk P St m s.L a o w K := by
  have hx := ev_rel hs x
  have hi := ev_rel hs ix
  simp only [hv] at hk
  have run : ∀ ad k q, a.eval x = .pointer (some ad) → a.eval ix = .int k q → 0 ≤ q → q < len → (execOp a.eval o).run P w = .ok (.value (.pointer (some (ad.add (q.toNat * n))))) w := by
    intro ad k q hc hi h0 h1
    simp only [execOp, ho, hc, hi]
    simp [Instr.indexAt, asIntOf, run_underlying ht, Instr.sureAddr, run_szT hn, h0, h1]
  split at hk
  · rename_i X r off ver k q h h2; rw [h] at hx; rw [h2] at hi
    obtain ⟨cells, ad, hL, hv, hc, hf⟩ := hx.ptr'
    obtain ⟨⟨h0, h1⟩, hk⟩ := hk
    refine .mk _ _ (run _ _ _ hc hi.int h0 h1) hk (.ptr hL hv _ rfl fun e => ?_)
    obtain ⟨b, C, hm, rfl⟩ := hf e
    exact ⟨b, C, hm, add_none ..⟩
  · rename_i cells k q h h2; rw [h] at hx; rw [h2] at hi
    obtain ⟨blk, off, cell, hc, hst, h1, h2⟩ := hx.bptr
    obtain ⟨⟨hq0, hq1⟩, hle, hk⟩ := hk
    refine .mk _ _ (run _ _ _ hc hi.int hq0 hq1) hk ?_
    rw [add_none]
    refine .d (.bptr (fun j => cell (q.toNat * n + j)) hst (fun j hj => ?_) fun j hj => ?_)
    · rw [Nat.add_assoc]; exact h1 _ (by simp at hj; omega)
    · have := h2 (q.toNat * n + j) (by simp at hj; omega)
      simpa [List.getD_eq_getElem?_getD] using this
  · exact hk.elim

theorem h_idx (t : TypeId) (x ix : Operand) (e : TypeId) (n : Nat) (ht : P.underlying t = some (.slice e)) (hn : szT P e = some n)
    (ho : o.op = .indexAddr t x ix) (hs : SimS St m s a w) (hk : hv (.idx (Opd.of x) (Opd.of ix) n) s.ev K) : HOk P St m s.L a o w K := by
  have hx := ev_rel hs x
  have hi := ev_rel hs ix
  simp only [hv] at hk
  have run : ∀ ad len cap k q, a.eval x = .slice (some ad) len cap → a.eval ix = .int k q → 0 ≤ q → q < len → (execOp a.eval o).run P w = .ok (.value (.pointer (some (ad.add (q.toNat * n))))) w := by
    intro ad len cap k q hc hi h0 h1
    simp only [execOp, ho, hc, hi]
    simp [Instr.indexAt, asIntOf, run_underlying ht, run_szT hn, h0, h1]
  split at hk
  · rename_i len get k q h h2; rw [h] at hx; rw [h2] at hi
    obtain ⟨b, cap, hc, hr⟩ := hx.bor
    obtain ⟨⟨hq0, hq1⟩, hle, hk⟩ := hk
    obtain ⟨blk, off, sz, cell, rfl, hst, h1, h2, h3⟩ := hr (by omega)
    have hsz : sz = n := by rw [← h1 q.toNat (by omega)]; exact hle
    subst hsz
    refine .mk _ _ (run _ _ _ _ _ hc hi.int hq0 hq1) hk ?_
    rw [add_none]
    refine .d (.bptr (fun j => cell q.toNat j) hst (fun j hj => ?_) fun j hj => ?_)
    · exact h2 _ _ (by omega) (by omega)
    · exact h3 _ _ (by omega) (by omega)
  · rename_i X r off len esz ver k q h h2; rw [h] at hx; rw [h2] at hi
    obtain ⟨cells, b, cap, hL, hver, hc, hcap, ha, hf⟩ := hx.sl'
    obtain ⟨⟨hq0, hq1⟩, hk⟩ := hk
    have hb := ha (by omega)
    obtain ⟨ad, rfl⟩ := Option.isSome_iff_exists.1 hb
    refine .mk _ _ (run _ _ _ _ _ hc hi.int hq0 hq1) hk (.ptr hL hver _ rfl fun e => ?_)
    rcases hf e with h0 | ⟨b, C, hm, _, he⟩
    · omega
    · cases he; exact ⟨b, C, hm, add_none ..⟩
  · exact hk.elim


theorem run_sliceBound (k : IntKind) (l y : Nat) (code : BoundsCode) (hl : l ≤ y) : (Instr.sliceBound (.int k l) y code).run P w = .ok l w := by
  simp [Instr.sliceBound, asIntOf, hl]

theorem bound_val {x : Option Operand} {d l : Nat} (hs : SimS St m s a w) (h : hv.bound s.ev (x.map Opd.of) d l) : (x = none ∧ l = d) ∨ ∃ y k, x = some y ∧ a.eval y = .int k l := by
  cases x with
  | none => exact .inl ⟨rfl, h⟩
  | some y =>
    obtain ⟨k, hk⟩ := h
    have := ev_rel hs y
    rw [hk] at this
    exact .inr ⟨y, k, rfl, this.int⟩

theorem run_sliceBounds {lo hi mx : Option Operand} {len cap l h m' : Nat} (hs : SimS St m s a w) (hl : hv.bound s.ev (lo.map Opd.of) 0 l) (hh : hv.bound s.ev (hi.map Opd.of) len h)
    (hm : (mx = none ∧ m' = cap) ∨ ∃ y k, mx = some y ∧ a.eval y = .int k m') (hmh : mx ≠ none → hi ≠ none) (h1 : l ≤ h) (h2 : h ≤ m') (h3 : m' ≤ cap) :
    (Instr.sliceBounds true len cap (lo.map a.eval) (hi.map a.eval) (mx.map a.eval)).run P w = .ok (l, h, m') w := by
  have hlv := bound_val hs hl
  have hhv := bound_val hs hh
  rcases hm with ⟨rfl, rfl⟩ | ⟨ym, km, rfl, hem⟩
  · rcases hhv with ⟨rfl, rfl⟩ | ⟨yh, kh, rfl, heh⟩
    · rcases hlv with ⟨rfl, rfl⟩ | ⟨yl, kl, rfl, hel⟩
      · simp [Instr.sliceBounds]
      · simp [Instr.sliceBounds, hel, run_sliceBound kl l _ _ h1]
    · rcases hlv with ⟨rfl, rfl⟩ | ⟨yl, kl, rfl, hel⟩
      · simp [Instr.sliceBounds, heh, run_sliceBound kh h _ _ h2]
      · simp [Instr.sliceBounds, hel, heh, run_sliceBound kh h _ _ h2, run_sliceBound kl l _ _ h1]
  · rcases hhv with ⟨rfl, rfl⟩ | ⟨yh, kh, rfl, heh⟩
    · exact absurd rfl (hmh (by simp))
    · rcases hlv with ⟨rfl, rfl⟩ | ⟨yl, kl, rfl, hel⟩
      · simp [Instr.sliceBounds, heh, hem, run_sliceBound km m' _ _ h3, run_sliceBound kh h _ _ h2]
      · simp [Instr.sliceBounds, hel, heh, hem, run_sliceBound km m' _ _ h3, run_sliceBound kh h _ _ h2, run_sliceBound kl l _ _ h1]

theorem h_slc (t : TypeId) (x : Operand) (lo hi mx : Option Operand) (e : TypeId) (n : Nat) (ht : P.underlying t = some (.slice e)) (hn : szT P e = some n) (hmh : mx ≠ none → hi ≠ none)
    (ho : o.op = .slice t x lo hi mx) (hs : SimS St m s a w) (hk : hv (.slc (Opd.of x) (lo.map Opd.of) (hi.map Opd.of) (mx.map Opd.of) n) s.ev K) : HOk P St m s.L a o w K := by
  have hx := ev_rel hs x
  simp only [hv] at hk
  have run : ∀ ad len cap l h m', a.eval x = .slice ad len cap → (Instr.sliceBounds true len cap (lo.map a.eval) (hi.map a.eval) (mx.map a.eval)).run P w = .ok (l, h, m') w →
      (execOp a.eval o).run P w = .ok (.value (.slice (if m' = l then ad else ad.map (·.add (l * n))) (h - l) (m' - l))) w := by
    intro ad len cap l h m' hc hb
    simp only [execOp, ho, hc]
    simp [Instr.sliceAt, Instr.slice, run_underlying ht, hb, run_szT hn]
  split at hk
  · rename_i h; rw [h] at hx
    have hc := hx.nil'
    obtain ⟨hz, hk⟩ := hk
    have z : ∀ (y : Option Operand), (∀ o ∈ (y.map Opd.of).toList, ∃ k, s.ev o = .d (.int k 0)) → hv.bound s.ev (y.map Opd.of) 0 0 := by
      intro y hy
      cases y with
      | none => rfl
      | some y => obtain ⟨k, hk⟩ := hy (Opd.of y) (by simp); exact ⟨k, hk⟩
    have hb := run_sliceBounds (P := P) (len := 0) (cap := 0) (lo := lo) (hi := hi) (mx := mx) hs (z lo fun o ho => hz o (by simp_all)) (z hi fun o ho => hz o (by simp_all))
      (bound_val hs (z mx fun o ho => hz o (by simp_all))) hmh (Nat.le_refl _) (Nat.le_refl _) (Nat.le_refl _)
    refine .mk _ _ (run _ _ _ _ _ _ hc hb) hk ?_
    simp; exact .nil
  · rename_i len get h; rw [h] at hx
    obtain ⟨b, cap, hc, hr⟩ := hx.bor
    obtain ⟨l, h', hl, hh, h1, h2, hmx, hsz, hk⟩ := hk
    have hmx' : mx = none := by cases mx <;> simp_all
    subst hmx'
    by_cases hcap : len ≤ cap
    · have hb := run_sliceBounds (P := P) (len := len) (cap := cap) (mx := none) hs hl hh (.inl ⟨rfl, rfl⟩) hmh h1 (by omega) (Nat.le_refl _)
      refine .mk _ _ (run _ _ _ _ _ _ hc hb) hk (.d ?_)
      by_cases e : l < h'
      · obtain ⟨blk, off, sz, cell, rfl, hst, q1, q2, q3⟩ := hr (by omega)
        have hsz' : sz = n := by rw [← q1 l (by omega)]; exact hsz e
        subst hsz'
        rw [if_neg (by omega)]
        simp only [Option.map_some, add_none]
        refine .bor (fun i j => cell (l + i) j) hst (by omega) (fun i hi => q1 _ (by omega)) (fun i j hi hj => ?_) fun i j hi hj => q3 _ _ (by omega) hj
        rw [Nat.add_assoc off, ← Nat.add_mul]; exact q2 _ _ (by omega) hj
      · have : h' - l = 0 := by omega
        rw [this]; exact .bor0 _ _ _
    · exact absurd (hx.cap hc) hcap
  · rename_i X r off len esz ver h; rw [h] at hx
    obtain ⟨cells, b, cap, hL, hver, hc, hcap, ha, hf⟩ := hx.sl'
    obtain ⟨rfl, l, h', m', hl, hh, hm, h1, h2, h3, hk⟩ := hk
    obtain ⟨mc, hmc, hb⟩ : ∃ mc, (m' ≤ mc ∧ mc ≤ cap) ∧ (Instr.sliceBounds true len cap (lo.map a.eval) (hi.map a.eval) (mx.map a.eval)).run P w = .ok (l, h', mc) w := by
      rcases bound_val hs hm with ⟨rfl, rfl⟩ | ⟨y, k, rfl, hy⟩
      · exact ⟨cap, ⟨by omega, Nat.le_refl _⟩, run_sliceBounds hs hl hh (.inl ⟨rfl, rfl⟩) hmh h1 (by omega) (Nat.le_refl _)⟩
      · exact ⟨m', ⟨Nat.le_refl _, by omega⟩, run_sliceBounds hs hl hh (.inr ⟨y, k, rfl, hy⟩) hmh h1 h2 (by omega)⟩
    refine .mk _ _ (run _ _ _ _ _ _ hc hb) hk (.sl hL hver _ _ rfl (by omega) (fun h0 => ?_) fun e => ?_)
    · rw [if_neg (by omega)]
      have := ha (by omega)
      simpa using this
    · by_cases hml : mc = l
      · left; omega
      · right
        rcases hf e with h0 | ⟨b, C, hm, hC, he⟩
        · omega
        · refine ⟨b, C, hm, ?_, ?_⟩
          · have : l * esz + (mc - l) * esz = mc * esz := by rw [← Nat.add_mul]; congr 1; omega
            have : mc * esz ≤ cap * esz := Nat.mul_le_mul_right _ hmc.2
            omega
          · rw [if_neg hml, he]; simp [add_none]
  · exact hk.elim

end
end Go.Ab

/- What a piece that asks nothing of memory promises, the operation keeps: all together. -/
namespace Go.Ab
set_option linter.unusedSimpArgs false
set_option linter.unusedVariables false
open Go

section
variable {P : Program} {St : Nat → Prop} {m : Map} {s : S} {a : Act} {o : Oper} {w : World} {K : V → Prop} {L : Heap}

theorem toVs_rel (cs : Array Value) : LRel St m L w (cs.toList.map Value.toV) cs := by
  refine ⟨by simp, fun j hj => ?_⟩
  have hj' : j < cs.size := by simpa using hj
  have : (cs.toList.map Value.toV).getD j .any = Value.toV (cs.getD j undef) := by simp [List.getD_eq_getElem?_getD, hj']
  rw [this]; exact toV_rel ..

theorem h_build (t : TypeId) (parts : Array (Nat × Operand)) (place : Nat → Option (Nat × Nat)) (z : Value) (qs : List (Nat × Nat × Opd))
    (hb : ∀ ps cells, Instr.fill place z.cells ps = some cells → P.built t ps = some cells)
    (hq : qs.length = parts.size) (hp : ∀ j (h1 : j < parts.size) (h2 : j < qs.length), place parts[j].1 = some (qs[j].1, qs[j].2.1) ∧ qs[j].2.2 = Opd.of parts[j].2)
    (ho : o.op = .build t parts) (hs : SimS St m s a w) (hk : hv (.build (z.cells.toList.map Value.toV) qs) s.ev K) : HOk P St m s.L a o w K := by
  simp only [hv] at hk
  split at hk
  case h_2 => exact hk.elim
  rename_i cells hf
  obtain ⟨cs', hfill, hrel⟩ := fill_rel (St := St) (m := m) (L := s.L) (w := w) place (parts.toList.map fun (i, x) => (i, a.eval x)) (partsV s.ev qs) _ z.cells cells (toVs_rel z.cells) hf (by simp [partsV, hq])
    (fun j h1 h2 => by
      have h1' : j < parts.size := by simpa using h1
      have h2' : j < qs.length := by simpa [partsV] using h2
      obtain ⟨e1, e2⟩ := hp j h1' h2'
      simp only [List.getElem_map, partsV, Array.getElem_toList]
      refine ⟨e1, ?_⟩
      have := ev_rel hs parts[j].2
      rw [← e2] at this; exact this)
  refine .mk _ (.agg cs') ?_ hk hrel.agg
  have hbl := hb _ _ hfill
  have hr : (Instr.build t (parts.map fun (i, x) => (i, a.eval x))).run P w = .ok (.agg cs') w := run_build w t _ cs' (by simpa using hbl)
  simp only [execOp, ho]
  simp [hr]

theorem mapM_some {α β : Type} (f : α → Option β) : ∀ (l : List α) (r : List β), l.mapM f = some r → r.length = l.length ∧ ∀ j (h1 : j < l.length) (h2 : j < r.length), f l[j] = some r[j] := by
  intro l
  induction l with
  | nil => intro r h; simp at h; subst h; exact ⟨rfl, fun j h => by simp at h⟩
  | cons x l ih =>
    intro r h
    simp only [List.mapM_cons, Option.bind_eq_bind, Option.pure_def] at h
    cases hx : f x with
    | none => simp [hx] at h
    | some y =>
      cases hl : l.mapM f with
      | none => simp [hx, hl] at h
      | some ys =>
        simp [hx, hl] at h
        subst h
        obtain ⟨h1, h2⟩ := ih ys hl
        refine ⟨by simp [h1], fun j hj1 hj2 => ?_⟩
        cases j with
        | zero => simpa using hx
        | succ j => simpa using h2 j (by simpa using hj1) (by simpa using hj2)

theorem compH_sound {hi : HI} (hc : compH P o.op = some hi) (hs : SimS St m s a w) (hk : hv hi s.ev K) : HOk P St m s.L a o w K := by
  cases hop : o.op with
  | move x => simp only [hop, compH, Option.some.injEq] at hc; subst hc; exact h_mov x (.inl hop) hs hk
  | assign x => simp only [hop, compH, Option.some.injEq] at hc; subst hc; exact h_mov x (.inr hop) hs hk
  | pick c x y => simp only [hop, compH, Option.some.injEq] at hc; subst hc; exact h_pick c x y hop hs hk
  | nilCheck x => simp only [hop, compH, Option.some.injEq] at hc; subst hc; exact h_nilck x hop hs hk
  | unOp op t x => simp only [hop, compH, Option.some.injEq] at hc; subst hc; exact h_un op t x hop hs hk
  | extract x i => simp only [hop, compH, Option.some.injEq] at hc; subst hc; exact h_ext x i hop hs hk
  | binOp op t x y u =>
    simp only [hop, compH] at hc
    split at hc
    · cases hc; exact h_ibin op t u x y hop hs hk
    · split at hc
      · rename_i f hf; cases hc; exact h_fbin op f t u x y hf hop hs hk
      · rename_i f hf; cases hc; exact h_fcmp op f t u x y hf hop hs hk
      · cases hc
    · rename_i hu
      split at hc
      · cases hc; exact h_bcmp _ false t u x y rfl hu hop hs hk
      · cases hc; exact h_bcmp _ true t u x y rfl hu hop hs hk
      · cases hc
    · cases hc
  | convert sT d x =>
    simp only [hop, compH] at hc
    split at hc
    · rename_i h1 h2; cases hc; exact h_icv sT d _ x ⟨_, h1⟩ h2 hop hs hk
    · rename_i h1 h2; cases hc; exact h_i2f sT d x ⟨_, h1⟩ h2 hop hs hk
    · rename_i h1 h2; cases hc; exact h_f2f sT d x h1 h2 hop hs hk
    · cases hc
  | makeFunc fn first cap =>
    cases fn with
    | func f => simp only [hop, compH, Option.some.injEq] at hc; subst hc; exact h_mkfn f first cap hop hs hk
    | _ => simp [hop, compH] at hc
  | slice t x lo hi mx =>
    simp only [hop, compH] at hc
    split at hc
    · rename_i e he
      split at hc
      · cases hc
      · rename_i hmh
        cases hn : szT P e with
        | none => simp [hn] at hc
        | some n =>
          simp only [hn, Option.map_some, Option.some.injEq] at hc
          subst hc
          exact h_slc t x lo hi mx e n he hn (by intro h1 h2; apply hmh; exact ⟨by cases mx <;> simp_all, by cases hi <;> simp_all⟩) hop hs hk
    · cases hc
  | fieldAddr t x f =>
    simp only [hop, compH] at hc
    split at hc
    · rename_i fields he
      split at hc
      · rename_i fd hf
        split at hc
        · rename_i n hn; cases hc; exact h_padd t x f fields fd n he hf hn hop hs hk
        · cases hc
      · cases hc
    · cases hc
  | field t x f =>
    simp only [hop, compH] at hc
    split at hc
    · rename_i fields he
      split at hc
      · rename_i fd hf
        split at hc
        · rename_i n g hn hg
          split at hc
          · rename_i h1; cases hc; exact h_fld t x f fields fd n g he hf hn hg h1 hop hs hk
          · cases hc
        · cases hc
      · cases hc
    · cases hc
  | indexAddr t x i =>
    simp only [hop, compH] at hc
    split at hc
    · rename_i e he
      cases hn : szT P e with
      | none => simp [hn] at hc
      | some n => simp only [hn, Option.map_some, Option.some.injEq] at hc; subst hc; exact h_idx t x i e n he hn hop hs hk
    · rename_i len e he
      cases hn : szT P e with
      | none => simp [hn] at hc
      | some n => simp only [hn, Option.map_some, Option.some.injEq] at hc; subst hc; exact h_idxa t x i len e n he hn hop hs hk
    · cases hc
  | index t x i =>
    simp only [hop, compH] at hc
    split at hc
    · rename_i len e he
      split at hc
      · rename_i n g hn hg
        split at hc
        · rename_i h1; cases hc; exact h_idxv t x i len e n g he hn hg h1 hop hs hk
        · cases hc
      · cases hc
    · cases hc
  | build t parts =>
    simp only [hop, compH] at hc
    split at hc
    · rename_i it n e hit hu
      split at hc
      · rename_i z ie hz hie
        cases hc
        exact h_build t parts (fun i => some (i * ie.size, ie.size)) z _ (fun ps cells h => by simp [Program.built, hit, hu, hz, hie, h]) (by simp) (fun j h1 h2 => by simp) hop hs hk
      · cases hc
    · rename_i it fields hit hu
      split at hc
      · rename_i z places hz hpl
        cases hm : (parts.toList.mapM fun (q : Nat × Operand) => (places[q.1]?).map fun (p : Nat × Nat) => (p.1, p.2, Opd.of q.2)) with
        | none => simp [hm] at hc
        | some qs =>
          simp only [hm, Option.map_some, Option.some.injEq] at hc
          subst hc
          obtain ⟨hl, hq⟩ := mapM_some _ _ _ hm
          refine h_build t parts (fun i => places[i]?) z qs (fun ps cells h => ?_) (by simpa using hl) (fun j h1 h2 => ?_) hop hs hk
          · simp [Program.built, hit, hu, hz, hpl]; exact h
          · have := hq j (by simpa using h1) h2
            simp only [Array.getElem_toList] at this
            cases hpj : places[parts[j].1]? with
            | none => simp [hpj] at this
            | some p => simp [hpj] at this; rw [← this]; simp
      · cases hc
    · cases hc
  | call c =>
    obtain ⟨callee, args, ats⟩ := c
    simp only [hop, compH] at hc
    have la : ∀ l : List Operand, args.toList = l → args = l.toArray := fun l h => by rw [← h]
    have lt : ∀ l : List TypeId, ats.toList = l → ats = l.toArray := fun l h => by rw [← h]
    unfold compCall at hc
    cases callee with
    | invoke r n => cases hc
    | builtin b =>
      simp only at hc
      split at hc
      · rename_i x hx
        obtain rfl := la _ hx
        split at hc
        · rename_i hb; subst hb
          split at hc
          · rename_i t ht
            obtain rfl := lt _ ht
            split at hc
            · rename_i e he; cases hc; exact h_len _ _ e he hop hs hk
            · cases hc
          · cases hc
        · cases hc
      · rename_i x y hx
        obtain rfl := la _ hx
        split at hc
        · rename_i hb; subst hb; cases hc; exact h_mm true _ _ _ hop hs hk
        · split at hc
          · rename_i hb; subst hb; cases hc; exact h_mm false _ _ _ hop hs hk
          · cases hc
      · rename_i x y z hx
        obtain rfl := la _ hx
        split at hc
        · rename_i hb; subst hb; cases hc; exact h_mm3 _ _ _ _ hop hs hk
        · cases hc
      · cases hc
    | value f =>
      simp only at hc
      split at hc
      · rename_i f x hx
        obtain rfl := la _ hx
        split at hc
        · rename_i fn hf
          split at hc
          · rename_i hb
            split at hc
            · rename_i hn; cases hc; exact h_bits _ fn _ _ hf hb hn hop hs hk
            · split at hc
              · rename_i hn; cases hc; exact h_frombits _ fn _ _ hf hb hn hop hs hk
              · cases hc
          · cases hc
        · cases hc
      · cases hc
  | _ => simp [hop, compH] at hc

end
end Go.Ab

/- How rows of a run's own are made, changed, grown. -/
namespace Go.Ab
set_option linter.unusedSimpArgs false
set_option linter.unusedVariables false
open Go

theorem fam_ins (X : Nat) (f : List (List V)) (L : Heap) (h : L.fam X = none) (Y : Nat) : (L.ins X f).fam Y = if Y = X then some f else L.fam Y := by
  induction L with
  | nil =>
    simp only [Heap.ins, Heap.fam, List.lookup_cons, List.lookup_nil]
    by_cases e : Y = X
    · simp [e]
    · simp only [beq_eq_false_iff_ne.2 e, if_neg e]
  | cons p L ih =>
    obtain ⟨Z, g⟩ := p
    simp only [Heap.fam, List.lookup_cons] at h
    have hXZ : X ≠ Z := by intro e; simp [e] at h
    have hb : (X == Z) = false := by simpa using hXZ
    simp only [hb] at h
    simp only [Heap.ins]
    split
    · simp only [Heap.fam, List.lookup_cons]
      by_cases e : Y = X
      · simp [e]
      · simp only [beq_eq_false_iff_ne.2 e, if_neg e]
    · have ih := ih h
      simp only [Heap.fam, List.lookup_cons] at ih ⊢
      by_cases e : Y = Z
      · subst e; simp [Ne.symm hXZ]
      · have : (Y == Z) = false := by simpa using e
        simp only [this]; exact ih

theorem get_ins_self {X : Nat} {cells : List V} {L : Heap} (h : L.fam X = none) : (L.ins X [cells]).get X 0 = some cells := by
  simp [Heap.get, fam_ins X [cells] L h]

theorem get_ins {X : Nat} {cells : List V} {L : Heap} (h : L.fam X = none) (Y r : Nat) : (L.ins X [cells]).get Y r = if Y = X then (if r = 0 then some cells else none) else L.get Y r := by
  simp only [Heap.get, fam_ins X [cells] L h]
  by_cases e : Y = X
  · subst e; cases r <;> simp
  · simp [e]

theorem get_insF {X : Nat} {f : List (List V)} {L : Heap} (h : L.fam X = none) (Y r : Nat) : (L.ins X f).get Y r = if Y = X then f[r]? else L.get Y r := by
  simp only [Heap.get, fam_ins X f L h]
  by_cases e : Y = X
  · subst e; simp
  · simp [e]

theorem get_none_of_fam {X r : Nat} {L : Heap} (h : L.fam X = none) : L.get X r = none := by simp [Heap.get, h]

theorem get_put (X r : Nat) (cs : List V) (L : Heap) (old : List V) (h : L.get X r = some old) (Y q : Nat) : (L.put X r cs).get Y q = if Y = X ∧ q = r then some cs else L.get Y q := by
  induction L with
  | nil => simp [Heap.get, Heap.fam] at h
  | cons p L ih =>
    obtain ⟨Z, g⟩ := p
    simp only [Heap.put]
    by_cases e : X = Z
    · subst e
      simp only [if_true]
      simp only [Heap.get, Heap.fam, List.lookup_cons] at h ⊢
      simp at h
      by_cases e2 : Y = X
      · subst e2
        simp only [beq_self_eq_true, Option.bind_some, true_and]
        by_cases e3 : q = r
        · subst e3
          have : q < g.length := by
            rcases Nat.lt_or_ge q g.length with h' | h'
            · exact h'
            · rw [List.getElem?_eq_none h'] at h; cases h
          simp [this]
        · simp [e3, Ne.symm e3]
      · have : (Y == X) = false := by simpa using e2
        simp [this, e2]
    · simp only [if_neg e]
      have hb : (X == Z) = false := by simpa using e
      have h' : Heap.get L X r = some old := by simpa [Heap.get, Heap.fam, List.lookup_cons, hb] using h
      have ih := ih h'
      simp only [Heap.get, Heap.fam, List.lookup_cons] at ih ⊢
      by_cases e2 : Y = Z
      · subst e2; simp [Ne.symm e]
      · have : (Y == Z) = false := by simpa using e2
        simp only [this]; exact ih

theorem fam_of_get {X r : Nat} {L : Heap} {c : List V} (h : L.get X r = some c) : L.fam X ≠ none := by
  intro h'; simp [Heap.get, h'] at h

/-- The same world, but for one block's cells. -/
structure Wrote (w w' : World) (b : Nat) (arr : Array Value) (el : TypeId) : Prop where
  size : w'.heap.size = w.heap.size
  self : w'.heap[b]? = some (.cells arr el (0, 0))
  other : ∀ x, x ≠ b → w'.heap[x]? = w.heap[x]?
  os : w'.os = w.os
  tape : w'.tape = w.tape
  output : w'.output = w.output

/-- What a step leaves. -/
def Post (St : Nat → Prop) (m : Map) (L : Heap) (w : World) (v : V) (L' : Heap) (c : Value) (w' : World) : Prop :=
  ∃ St' m', Objs St' m' L' w' ∧ VRel St' m' L' w' v c ∧ Frame' (Named m L) w w' ∧ Ext St St' m m' L L' w w' ∧ (∀ b, St' b → St b ∨ w.heap.size ≤ b) ∧ Src m L m' L' w

def PRel (St : Nat → Prop) (m : Map) (L : Heap) (w : World) (xs : List V) (cs : Array Value) : Prop :=
  xs.length ≤ cs.size ∧ ∀ j, j < xs.length → VRel St m L w (xs.getD j .any) (cs.getD j undef)

section
variable {P : Program} {St : Nat → Prop} {m : Map} {L : Heap} {w w' : World}

theorem LRel.pre {xs : List V} {cs : Array Value} (h : LRel St m L w xs cs) : PRel St m L w xs cs := ⟨by rw [h.1]; exact Nat.le_refl _, h.2⟩
theorem LRel.mono {St' m' L'} (e : Ext St St' m m' L L' w w') {xs : List V} {cs : Array Value} (h : LRel St m L w xs cs) : LRel St' m' L' w' xs cs := ⟨h.1, fun j hj => (h.2 j hj).mono e⟩
theorem PRel.mono {St' m' L'} (e : Ext St St' m m' L L' w w') {xs : List V} {cs : Array Value} (h : PRel St m L w xs cs) : PRel St' m' L' w' xs cs := ⟨h.1, fun j hj => (h.2 j hj).mono e⟩

theorem Same.post {v : V} {c : Value} (h : Same w w') (ho : Objs St m L w) (hv : VRel St m L w' v c) : Post St m L w v L c w' :=
  ⟨St, m, h.objs ho, hv, h.frame, h.ext, fun _ h => .inl h, .refl _ _ _⟩

def Map.add (m : Map) (X b C : Nat) : Map := fun Y r => if Y = X ∧ r = 0 then some (b, C) else m Y r
def Map.set (m : Map) (X r b C : Nat) : Map := fun Y q => if Y = X ∧ q = r then some (b, C) else m Y q

/-- A new block, given a new name. -/
theorem Objs.made (ho : Objs St m L w) {X : Nat} (hX : L.fam X = none) {cells : List V} {arr : Array Value} {el : TypeId}
    (hw : w'.heap = w.heap.push (.cells arr el (0, 0))) (ho' : w'.os = w.os) (ht : w'.tape = w.tape) (hout : w'.output = w.output)
    (hc : PRel St m L w cells arr) :
    Objs St (m.set X 0 w.heap.size arr.size) (L.ins X [cells]) w' ∧ Ext St St m (m.set X 0 w.heap.size arr.size) L (L.ins X [cells]) w w' ∧ Frame' (Named m L) w w' ∧
      Src m L (m.set X 0 w.heap.size arr.size) (L.ins X [cells]) w := by
  have hext : Ext St St m (m.set X 0 w.heap.size arr.size) L (L.ins X [cells]) w w' := by
    refine ⟨fun _ h => h, fun b hb => ?_, fun Y r c hYr => ⟨c, ?_, Nat.le_refl _, fun _ => ?_⟩⟩
    · rw [hw, Array.getElem?_push, if_neg (by have := ho.st b hb; omega)]
    · rw [get_ins hX]
      have : Y ≠ X := by intro e; subst e; rw [get_none_of_fam hX] at hYr; cases hYr
      rw [if_neg this]; exact hYr
    · have : Y ≠ X := by intro e; subst e; rw [get_none_of_fam hX] at hYr; cases hYr
      simp [Map.set, this]
  have hsz : w'.heap.size = w.heap.size + 1 := by rw [hw]; simp
  refine ⟨⟨fun b hb => by have := ho.st b hb; omega, fun Y r c hYr hm => ?_, fun Y r c b C hYr hm => ?_, fun Y r Z q b C C' h1 h2 h3 h4 => ?_⟩, hext, ⟨ho', ht, hout, by omega, fun b hb _ => ?_⟩, fun Y r b C h1 h2 => ?_⟩
  · rw [get_ins hX] at hYr
    by_cases e : Y = X
    · subst e
      simp only [if_true] at hYr
      split at hYr
      · rename_i h0; subst h0; simp [Map.set] at hm
      · cases hYr
    · rw [if_neg e] at hYr
      simp [Map.set, e] at hm
      exact ho.nil Y r c hYr hm
  · rw [get_ins hX] at hYr
    by_cases e : Y = X
    · subst e
      simp only [if_true] at hYr
      split at hYr
      · rename_i h0; subst h0; cases hYr
        simp [Map.set] at hm
        obtain ⟨rfl, rfl⟩ := hm
        refine ⟨by omega, fun hs => by have := ho.st _ hs; omega, arr, el, by rw [hw]; simp, rfl, hc.1, fun j hj => (hc.2 j hj).mono hext⟩
      · cases hYr
    · rw [if_neg e] at hYr
      simp [Map.set, e] at hm
      obtain ⟨h1, h2, arr', el', h3, h4, h5, h6⟩ := ho.obj Y r c b C hYr hm
      refine ⟨by omega, h2, arr', el', ?_, h4, h5, fun j hj => (h6 j hj).mono hext⟩
      rw [hw, Array.getElem?_push, if_neg (by omega)]; exact h3
  · have old : ∀ Y r b C, (L.ins X [cells]).get Y r ≠ none → Y ≠ X → (m.set X 0 w.heap.size arr.size) Y r = some (b, C) → L.get Y r ≠ none ∧ m Y r = some (b, C) ∧ b < w.heap.size := by
      intro Y r b C h1 hne h2
      rw [get_ins hX, if_neg hne] at h1
      simp [Map.set, hne] at h2
      obtain ⟨c, hc⟩ := Option.ne_none_iff_exists'.1 h1
      exact ⟨h1, h2, (ho.obj Y r c b C hc h2).1⟩
    have new : ∀ r b C, (L.ins X [cells]).get X r ≠ none → (m.set X 0 w.heap.size arr.size) X r = some (b, C) → r = 0 ∧ b = w.heap.size := by
      intro r b C h1 h2
      rw [get_ins hX] at h1
      simp only [if_true] at h1
      split at h1
      · rename_i h0; subst h0; simp [Map.set] at h2; exact ⟨rfl, h2.1.symm⟩
      · exact absurd rfl h1
    by_cases e1 : Y = X <;> by_cases e2 : Z = X
    · subst e1 e2
      obtain ⟨rfl, _⟩ := new _ _ _ h1 h3
      obtain ⟨rfl, _⟩ := new _ _ _ h2 h4
      exact ⟨rfl, rfl⟩
    · subst e1
      obtain ⟨_, rfl⟩ := new _ _ _ h1 h3
      have := (old _ _ _ _ h2 e2 h4).2.2; omega
    · subst e2
      obtain ⟨_, rfl⟩ := new _ _ _ h2 h4
      have := (old _ _ _ _ h1 e1 h3).2.2; omega
    · obtain ⟨a1, a2, _⟩ := old _ _ _ _ h1 e1 h3
      obtain ⟨b1, b2, _⟩ := old _ _ _ _ h2 e2 h4
      exact ho.inj _ _ _ _ _ _ _ a1 b1 a2 b2
  · rw [hw, Array.getElem?_push, if_neg (by omega)]
  · rw [get_ins hX] at h1
    by_cases e : Y = X
    · subst e
      simp only [if_true] at h1
      split at h1
      · rename_i h0; subst h0; simp [Map.set] at h2; right; omega
      · exact absurd rfl h1
    · rw [if_neg e] at h1
      simp [Map.set, e] at h2
      exact .inl ⟨h1, h2⟩

/-- A block of the run's own, written. -/
theorem Objs.wrote (ho : Objs St m L w) {X r b C : Nat} {old cells : List V} {arr : Array Value} {el : TypeId} (hg : L.get X r = some old) (hm : m X r = some (b, C)) (hlen : old.length ≤ cells.length)
    (hw : Wrote w w' b arr el) (hC : arr.size = C) (hc : PRel St m L w cells arr) :
    Objs St m (L.put X r cells) w' ∧ Ext St St m m L (L.put X r cells) w w' ∧ Frame' (Named m L) w w' ∧ Src m L m (L.put X r cells) w := by
  obtain ⟨hb1, hb2, _⟩ := ho.obj X r old b C hg hm
  have hne : ∀ Y q, (L.put X r cells).get Y q ≠ none → L.get Y q ≠ none := by
    intro Y q h; rw [get_put X r cells L old hg] at h
    split at h
    · rename_i e; obtain ⟨rfl, rfl⟩ := e; rw [hg]; simp
    · exact h
  have hext : Ext St St m m L (L.put X r cells) w w' := by
    refine ⟨fun _ h => h, fun b' hb' => hw.other _ (fun e => hb2 (e ▸ hb')), fun Y q c hYq => ?_⟩
    rw [get_put X r cells L old hg]
    split
    · rename_i e; obtain ⟨rfl, rfl⟩ := e
      rw [hg] at hYq; cases hYq
      exact ⟨cells, rfl, by omega, fun _ => rfl⟩
    · exact ⟨c, hYq, Nat.le_refl _, fun _ => rfl⟩
  refine ⟨⟨fun b' hb' => by rw [hw.size]; exact ho.st b' hb', fun Y q c hYq hm' => ?_, fun Y q c b' C' hYq hm' => ?_, fun Y q Z p b' C1 C2 h1 h2 h3 h4 => ho.inj _ _ _ _ _ _ _ (hne _ _ h1) (hne _ _ h2) h3 h4⟩, hext,
    ⟨hw.os, hw.tape, hw.output, by rw [hw.size]; exact Nat.le_refl _, fun b' hb' hn => hw.other _ (fun e => hn (e ▸ ⟨X, r, C, by rw [hg]; simp, hm⟩))⟩, fun Y q b' C' h1 h2 => .inl ⟨hne _ _ h1, h2⟩⟩
  · rw [get_put X r cells L old hg] at hYq
    split at hYq
    · rename_i e; obtain ⟨rfl, rfl⟩ := e; rw [hm] at hm'; cases hm'
    · exact ho.nil Y q c hYq hm'
  · rw [get_put X r cells L old hg] at hYq
    split at hYq
    · rename_i e; obtain ⟨rfl, rfl⟩ := e
      cases hYq; rw [hm] at hm'; cases hm'
      exact ⟨by rw [hw.size]; exact hb1, hb2, arr, el, hw.self, hC, by rw [← hC]; exact hc.1, fun j hj => (hc.2 j hj).mono hext⟩
    · rename_i hn
      obtain ⟨h1, h2, arr', el', h3, h4, h5, h6⟩ := ho.obj Y q c b' C' hYq hm'
      have hne' : b' ≠ b := by
        rintro rfl
        exact hn (ho.inj Y q X r _ _ _ (by rw [hYq]; simp) (by rw [hg]; simp) hm' hm)
      exact ⟨by rw [hw.size]; exact h1, h2, arr', el', by rw [hw.other _ hne']; exact h3, h4, h5, fun j hj => (h6 j hj).mono hext⟩

end
end Go.Ab

/- How a row moves to a new block as it grows; loads and stores. -/
namespace Go.Ab
set_option linter.unusedSimpArgs false
set_option linter.unusedVariables false
open Go

section
variable {P : Program} {St : Nat → Prop} {m : Map} {L : Heap} {w w' : World}

/-- A row that has grown, in a new block. -/
theorem Objs.grown (ho : Objs St m L w) {X r : Nat} {old cells : List V} {arr : Array Value} {el : TypeId} (hg : L.get X r = some old) (hlen : old.length < cells.length)
    (hw : w'.heap = w.heap.push (.cells arr el (0, 0))) (ho' : w'.os = w.os) (ht : w'.tape = w.tape) (hout : w'.output = w.output) (hc : PRel St m L w cells arr) :
    Objs St (m.set X r w.heap.size arr.size) (L.put X r cells) w' ∧ Ext St St m (m.set X r w.heap.size arr.size) L (L.put X r cells) w w' ∧ Frame' (Named m L) w w' ∧
      Src m L (m.set X r w.heap.size arr.size) (L.put X r cells) w := by
  have hsz : w'.heap.size = w.heap.size + 1 := by rw [hw]; simp
  have hne : ∀ Y q, (L.put X r cells).get Y q ≠ none → L.get Y q ≠ none := by
    intro Y q h; rw [get_put X r cells L old hg] at h
    split at h
    · rename_i e; obtain ⟨rfl, rfl⟩ := e; rw [hg]; simp
    · exact h
  have hext : Ext St St m (m.set X r w.heap.size arr.size) L (L.put X r cells) w w' := by
    refine ⟨fun _ h => h, fun b' hb' => ?_, fun Y q c hYq => ?_⟩
    · rw [hw, Array.getElem?_push, if_neg (by have := ho.st b' hb'; omega)]
    rw [get_put X r cells L old hg]
    split
    · rename_i e; obtain ⟨rfl, rfl⟩ := e
      rw [hg] at hYq; cases hYq
      exact ⟨cells, rfl, by omega, fun h => absurd h (by omega)⟩
    · rename_i e
      exact ⟨c, hYq, Nat.le_refl _, fun _ => by simp only [Map.set, if_neg e]⟩
  have set_ne : ∀ Y q, ¬(Y = X ∧ q = r) → (m.set X r w.heap.size arr.size) Y q = m Y q := fun Y q e => by simp only [Map.set, if_neg e]
  have set_eq : (m.set X r w.heap.size arr.size) X r = some (w.heap.size, arr.size) := by simp [Map.set]
  refine ⟨⟨fun b hb => by have := ho.st b hb; omega, fun Y q c hYq hm' => ?_, fun Y q c b' C' hYq hm' => ?_, fun Y q Z p b' C1 C2 h1 h2 h3 h4 => ?_⟩, hext,
    ⟨ho', ht, hout, by omega, fun b' hb' _ => by rw [hw, Array.getElem?_push, if_neg (by omega)]⟩, fun Y q b' C' h1 h2 => ?_⟩
  · rw [get_put X r cells L old hg] at hYq
    split at hYq
    · rename_i e; obtain ⟨rfl, rfl⟩ := e; rw [set_eq] at hm'; cases hm'
    · rename_i e; rw [set_ne _ _ e] at hm'; exact ho.nil Y q c hYq hm'
  · rw [get_put X r cells L old hg] at hYq
    split at hYq
    · rename_i e; obtain ⟨rfl, rfl⟩ := e
      cases hYq; rw [set_eq] at hm'; cases hm'
      exact ⟨by omega, fun hs => by have := ho.st _ hs; omega, arr, el, by rw [hw]; simp, rfl, hc.1, fun j hj => (hc.2 j hj).mono hext⟩
    · rename_i e; rw [set_ne _ _ e] at hm'
      obtain ⟨h1, h2, arr', el', h3, h4, h5, h6⟩ := ho.obj Y q c b' C' hYq hm'
      exact ⟨by omega, h2, arr', el', by rw [hw, Array.getElem?_push, if_neg (by omega)]; exact h3, h4, h5, fun j hj => (h6 j hj).mono hext⟩
  · have old' : ∀ Y q b C, L.get Y q ≠ none → m Y q = some (b, C) → b < w.heap.size := by
      intro Y q b C h1 h2
      obtain ⟨c, hc⟩ := Option.ne_none_iff_exists'.1 h1
      exact (ho.obj Y q c b C hc h2).1
    by_cases e1 : Y = X ∧ q = r <;> by_cases e2 : Z = X ∧ p = r
    · exact ⟨e1.1.trans e2.1.symm, e1.2.trans e2.2.symm⟩
    · obtain ⟨rfl, rfl⟩ := e1
      rw [set_eq] at h3; cases h3
      rw [set_ne _ _ e2] at h4
      have := old' _ _ _ _ (hne _ _ h2) h4; omega
    · obtain ⟨rfl, rfl⟩ := e2
      rw [set_eq] at h4; cases h4
      rw [set_ne _ _ e1] at h3
      have := old' _ _ _ _ (hne _ _ h1) h3; omega
    · rw [set_ne _ _ e1] at h3; rw [set_ne _ _ e2] at h4
      exact ho.inj _ _ _ _ _ _ _ (hne _ _ h1) (hne _ _ h2) h3 h4
  · by_cases e : Y = X ∧ q = r
    · obtain ⟨rfl, rfl⟩ := e; rw [set_eq] at h2; cases h2; exact .inr (Nat.le_refl _)
    · rw [set_ne _ _ e] at h2; exact .inl ⟨hne _ _ h1, h2⟩

theorem run_loadCells' (b off n : Nat) (cell : Nat → Value) (h : ∀ j, j < n → w.cell? ⟨b, off + j, none⟩ = some (cell j)) :
    ∃ cs : Array Value, (loadCells ⟨b, off, none⟩ n).run P w = .ok cs w ∧ cs.size = n ∧ ∀ j, j < n → cs.getD j undef = cell j := by
  have := run_loadCells (P := P) (w := w) ⟨b, off, none⟩ n cell (fun j hj => by rw [add_none]; exact h j hj)
  refine ⟨_, this, by simp, fun j hj => ?_⟩
  simp [hj]

theorem run_loadVar {t n : Nat} {g : Bool} (hg : aggT P t = some g) (hn : szT P t = some n) (h1 : g = true ∨ n = 1) (h0 : 0 < n) (b off : Nat) (cell : Nat → Value)
    (h : ∀ j, j < n → w.cell? ⟨b, off + j, none⟩ = some (cell j)) :
    ∃ c, (loadVar t ⟨b, off, none⟩).run P w = .ok c w ∧ ((g = true ∧ ∃ cs : Array Value, c = .agg cs ∧ cs.size = n ∧ ∀ j, j < n → cs.getD j undef = cell j) ∨ (g = false ∧ n = 1 ∧ c = cell 0)) := by
  cases g with
  | true =>
    obtain ⟨cs, hr, hs, hc⟩ := run_loadCells' (P := P) b off n cell h
    exact ⟨.agg cs, by simp [loadVar, run_aggT hg, run_szT hn, hr], .inl ⟨rfl, cs, rfl, hs, hc⟩⟩
  | false =>
    obtain rfl : n = 1 := by simpa using h1
    have := h 0 (by omega)
    rw [Nat.add_zero] at this
    exact ⟨cell 0, by simp [loadVar, run_aggT hg, this], .inr ⟨rfl, rfl, rfl⟩⟩

theorem cell_of_block {b off : Nat} {arr : Array Value} {el : TypeId} {fz : Nat × Nat} (h : w.heap[b]? = some (.cells arr el fz)) (hj : off < arr.size) : w.cell? ⟨b, off, none⟩ = some (arr.getD off undef) := by
  simp [World.cell?, h, hj, Array.getD_eq_getD_getElem?]

theorem LRel.ldv {g : Bool} {n off : Nat} {xs : List V} {c : Value} {cell : Nat → Value} (hl : off + n ≤ xs.length) (hrel : ∀ j, j < n → VRel St m L w (xs.getD (off + j) .any) (cell j))
    (hc : (g = true ∧ ∃ cs : Array Value, c = .agg cs ∧ cs.size = n ∧ ∀ j, j < n → cs.getD j undef = cell j) ∨ (g = false ∧ n = 1 ∧ c = cell 0)) : VRel St m L w (ldv g n off xs) c := by
  rcases hc with ⟨rfl, cs, rfl, hs, hcs⟩ | ⟨rfl, rfl, rfl⟩
  · refine .agg (by simp; omega) fun j hj => ?_
    have hj' : j < n := by simp at hj; omega
    have e1 : ((xs.drop off).take n).getD j .any = xs.getD (off + j) .any := by simp [List.getD_eq_getElem?_getD, hj']
    rw [e1, hcs j hj']; exact hrel j hj'
  · have := hrel 0 (by omega)
    simpa [Ab.ldv] using this

theorem load_sound {o : Oper} {a : Act} {s : S} {K : V → Heap → Prop} (nm : Nat) (t : TypeId) (x : Operand) (n : Nat) (g : Bool) (hn : szT P t = some n) (hg : aggT P t = some g) (h1 : g = true ∨ n = 1)
    (hop : o.op = .load t x) (hs : SimS St m s a w) (hk : eff P nm (.load (Opd.of x) n g) s K) : ∃ v L' c w', (execOp a.eval o).run P w = .ok (.value c) w' ∧ K v L' ∧ Post St m s.L w v L' c w' := by
  have hx := ev_rel hs x
  simp only [eff, effC] at hk
  have fin : ∀ b off v c, a.eval x = .pointer (some ⟨b, off, none⟩) → (loadVar t ⟨b, off, none⟩).run P w = .ok c w → K v s.L → VRel St m s.L w v c → ∃ v L' c w', (execOp a.eval o).run P w = .ok (.value c) w' ∧ K v L' ∧ Post St m s.L w v L' c w' := by
    intro b off v c hc hr hk hv
    refine ⟨v, s.L, c, w, ?_, hk, (Same.refl w).post hs.objs hv⟩
    simp only [execOp, hop, hc]
    simp [Instr.loadAt, Instr.sureAddr, hr]
  split at hk
  · rename_i cells h; rw [h] at hx
    obtain ⟨blk, off, cell, hc, hst, q1, q2⟩ := hx.bptr
    obtain ⟨⟨hle, h0⟩, hk⟩ := hk
    obtain ⟨c, hr, hcc⟩ := run_loadVar (P := P) (w := w) hg hn h1 h0 blk off cell (fun j hj => q1 j (by omega))
    refine fin _ _ _ c hc hr hk (LRel.ldv (by simp; omega) (fun j hj => ?_) hcc)
    have := q2 j (by omega)
    have e : (cells.map V.d).getD (0 + j) .any = .d (cells.getD j default) := by
      have : j < cells.length := by omega
      simp [List.getD_eq_getElem?_getD, this]
    rw [e]; exact .d this
  · rename_i X r off ver h; rw [h] at hx
    split at hk
    case h_2 => exact hk.elim
    rename_i cells hL
    obtain ⟨cells', ad, hL', hver, hc, hf⟩ := hx.ptr'
    rw [hL] at hL'; cases hL'
    obtain ⟨⟨he, hle, h0⟩, hk⟩ := hk
    obtain ⟨b, C, hm, rfl⟩ := hf he
    obtain ⟨p1, p2, arr, el, p3, p4, p5, p6⟩ := hs.objs.obj X r cells b C hL hm
    obtain ⟨c, hr, hcc⟩ := run_loadVar (P := P) (w := w) hg hn h1 h0 b off (fun j => arr.getD (off + j) undef) (fun j hj => cell_of_block p3 (by omega))
    exact fin _ _ _ c hc hr hk (LRel.ldv hle (fun j hj => p6 _ (by omega)) hcc)
  · exact hk.elim

end
end Go.Ab

/- Stores, new blocks. -/
namespace Go.Ab
set_option linter.unusedSimpArgs false
set_option linter.unusedVariables false
open Go

section
variable {P : Program} {St : Nat → Prop} {m : Map} {L : Heap} {w w' : World}

theorem isCell_one {v : V} {c : Value} (h : VRel St m L w v c) (hv : v.isCell = true) : c.oneCell' = true := by
  cases h with
  | d h => cases h <;> rfl
  | ptr _ _ _ hc _ => subst hc; rfl
  | sl _ _ _ _ hc _ _ _ => subst hc; rfl
  | nil => rfl
  | fn _ _ _ _ => rfl
  | any c => simp [V.isCell] at hv
  | agg _ _ => simp [V.isCell] at hv
  | tup _ _ => simp [V.isCell] at hv

theorem setCell_wrote {b off : Nat} {arr : Array Value} {el : TypeId} (h : w.heap[b]? = some (.cells arr el (0, 0))) (c : Value) :
    Wrote w (w.setCell ⟨b, off, none⟩ c) b (arr.setIfInBounds off c) el := by
  have hb : b < w.heap.size := by
    rcases Nat.lt_or_ge b w.heap.size with h' | h'
    · exact h'
    · rw [Array.getElem?_eq_none h'] at h; cases h
  refine ⟨by simp [World.setCell], ?_, fun x hx => ?_, rfl, rfl, rfl⟩
  · simp only [World.setCell, Array.getElem?_modify, if_true, h]; simp
  · simp only [World.setCell, Array.getElem?_modify]; rw [if_neg (Ne.symm hx)]

theorem Wrote.trans {w1 w2 w3 : World} {b : Nat} {a1 a2 : Array Value} {e1 e2 : TypeId} (h : Wrote w1 w2 b a1 e1) (k : Wrote w2 w3 b a2 e2) : Wrote w1 w3 b a2 e2 :=
  ⟨k.size.trans h.size, k.self, fun x hx => (k.other x hx).trans (h.other x hx), k.os.trans h.os, k.tape.trans h.tape, k.output.trans h.output⟩

theorem frozen_of {b off : Nat} {arr : Array Value} {el : TypeId} (h : w.heap[b]? = some (.cells arr el (0, 0))) : w.frozen? ⟨b, off, none⟩ = false := by
  simp [World.frozen?, h]

/-- Cells stored one by one. -/
def spliceA (cs : Array Value) (off : Nat) : List Value → Array Value
  | [] => cs
  | v :: vs => spliceA (cs.setIfInBounds off v) (off + 1) vs

theorem spliceA_size (vs : List Value) : ∀ (cs : Array Value) (off : Nat), (spliceA cs off vs).size = cs.size := by
  induction vs with
  | nil => intro cs off; rfl
  | cons v vs ih => intro cs off; simp [spliceA, ih]

theorem run_storeCells (b off : Nat) (el : TypeId) : ∀ (vs : List Value) (i : Nat) (w : World) (arr : Array Value), w.heap[b]? = some (.cells arr el (0, 0)) → off + i + vs.length ≤ arr.size → (∀ v ∈ vs, v.oneCell' = true) →
    ∃ w', (storeCells ⟨b, off, none⟩ vs i).run P w = .ok () w' ∧ Wrote w w' b (spliceA arr (off + i) vs) el := by
  intro vs
  induction vs with
  | nil =>
    intro i w arr h _ _
    exact ⟨w, rfl, rfl, h, fun _ _ => rfl, rfl, rfl, rfl⟩
  | cons v vs ih =>
    intro i w arr h hlen hone
    simp only [List.length_cons] at hlen
    have h1 := setCell_wrote (off := off + i) h v
    obtain ⟨w', hr, hw⟩ := ih (i + 1) _ _ h1.self (by simp; omega) (fun u hu => hone u (by simp [hu]))
    have hst : (store (Addr.add ⟨b, off, none⟩ i) v).run P w = .ok () (w.setCell ⟨b, off + i, none⟩ v) := by
      rw [add_none, run_store P w _ v .plain (hone v (by simp))]
      have hc := cell_of_block (w := w) (off := off + i) h (by omega)
      simp [hc, frozen_of h]
    refine ⟨w', ?_, h1.trans hw⟩
    simp only [storeCells, Sem.run_bind, hst, Result.andThen]
    exact hr

theorem PRel.set {xs : List V} {cs : Array Value} (h : PRel St m L w xs cs) {v : V} {c : Value} (hv : VRel St m L w v c) (i : Nat) : PRel St m L w (xs.set i v) (cs.setIfInBounds i c) := by
  refine ⟨by simpa using h.1, fun j hj => ?_⟩
  have hj' : j < xs.length := by simpa using hj
  have hj2 : j < cs.size := Nat.lt_of_lt_of_le hj' h.1
  by_cases e : i = j
  · subst e
    have h1 : (xs.set i v).getD i .any = v := by simp [List.getD_eq_getElem?_getD, hj']
    have h2 : (cs.setIfInBounds i c).getD i undef = c := by simp [Array.getD_eq_getD_getElem?, hj2]
    rw [h1, h2]; exact hv
  · have h1 : (xs.set i v).getD j .any = xs.getD j .any := by simp [List.getD_eq_getElem?_getD, e]
    have h2 : (cs.setIfInBounds i c).getD j undef = cs.getD j undef := by simp [Array.getD_eq_getD_getElem?, e]
    rw [h1, h2]; exact h.2 j hj'

theorem splice_pre : ∀ (vs : List Value) (ys : List V) (off : Nat) (xs : List V) (cs : Array Value), PRel St m L w xs cs → LRel St m L w ys vs.toArray → PRel St m L w (splice xs off ys) (spliceA cs off vs) := by
  intro vs
  induction vs with
  | nil =>
    intro ys off xs cs h hy
    have : ys = [] := by simpa using hy.1.symm
    subst this; exact h
  | cons c vs ih =>
    intro ys off xs cs h hy
    cases ys with
    | nil => have := hy.1; simp at this
    | cons v ys =>
      obtain ⟨hv, hys⟩ := hy.cons
      exact ih ys (off + 1) _ _ (h.set hv _) hys

theorem splice_length : ∀ (ys : List V) (xs : List V) (off : Nat), (splice xs off ys).length = xs.length := by
  intro ys
  induction ys with
  | nil => intro xs off; rfl
  | cons y ys ih => intro xs off; simp [splice, ih]

theorem all_one {ys : List V} {cs : Array Value} (h : LRel St m L w ys cs) (hc : ys.all V.isCell = true) : ∀ v ∈ cs.toList, v.oneCell' = true := by
  intro v hv
  obtain ⟨j, hj, rfl⟩ := List.mem_iff_getElem.1 hv
  have hj1 : j < cs.size := by simpa using hj
  have hj2 : j < ys.length := by rw [← h.1]; exact hj1
  have h1 := h.2 j hj2
  have h2 : (ys.getD j .any).isCell = true := by
    rw [List.getD_eq_getElem?_getD, List.getElem?_eq_getElem hj2]
    exact List.all_eq_true.1 hc _ (List.getElem_mem hj2)
  have := isCell_one h1 h2
  simpa [Array.getD_eq_getD_getElem?, hj1] using this

theorem cells_okPart {v : V} (h : (cellsOf v).all V.isCell = true) : v.okPart = true := by
  cases v <;> simp_all [cellsOf, V.isCell, V.okPart]

theorem store_sound {o : Oper} {a : Act} {s : S} {K : V → Heap → Prop} (nm : Nat) (t : TypeId) (p x : Operand) (n : Nat) (hn : szT P t = some n)
    (hop : o.op = .store t p x) (hs : SimS St m s a w) (hk : eff P nm (.store (Opd.of p) (Opd.of x) n) s K) : ∃ v L' w', (execOp a.eval o).run P w = .ok .skip w' ∧ K v L' ∧ Post St m s.L w v L' undef w' := by
  have hp := ev_rel hs p
  have hx := ev_rel hs x
  simp only [eff, effC] at hk
  split at hk
  case h_2 => exact hk.elim
  rename_i X r off ver h; rw [h] at hp
  split at hk
  case h_2 => exact hk.elim
  rename_i cells hL
  obtain ⟨cells', ad, hL', hver, hc, hf⟩ := hp.ptr'
  rw [hL] at hL'; cases hL'
  obtain ⟨⟨he, hle, hlen, hcell⟩, hk⟩ := hk
  obtain ⟨b, C, hm, rfl⟩ := hf he
  obtain ⟨p1, p2, arr, el, p3, p4, p5, p6⟩ := hs.objs.obj X r cells b C hL hm
  have hxc := okPart_cells hx (cells_okPart hcell)
  have hsz : (a.eval x).cells.size = n := by rw [hxc.1, hlen]
  obtain ⟨w', hr, hw⟩ := run_storeCells (P := P) b off el (a.eval x).cells.toList 0 w arr p3 (by simp [hsz]; omega) (all_one hxc hcell)
  refine ⟨_, _, w', ?_, hk, ?_⟩
  · simp only [execOp, hop, hc]
    simp [Instr.storeAt, Instr.sureAddr, storeVar, run_szT hn, hsz, hr]
  · have hpre : PRel St m s.L w (splice cells off (cellsOf (s.ev (Opd.of x)))) (spliceA arr (off + 0) (a.eval x).cells.toList) := splice_pre _ _ _ _ _ ⟨by omega, p6⟩ (by simpa using hxc)
    obtain ⟨h1, h2, h3, h4⟩ := hs.objs.wrote hL hm (by rw [splice_length]; exact Nat.le_refl _) hw (by rw [spliceA_size]; exact p4) hpre
    exact ⟨St, m, h1, .any _, h3, h2, fun _ h => .inl h, h4⟩

/-- A new block. -/
theorem made_post (ho : Objs St m L w) {X : Nat} (hX : L.fam X = none) {cells : List V} {arr : Array Value} {el : TypeId} (hc : PRel St m L w cells arr) (v : V) (c : Value)
    (hv : VRel St (m.set X 0 w.heap.size arr.size) (L.ins X [cells]) { w with heap := w.heap.push (.cells arr el (0, 0)) } v c) : Post St m L w v (L.ins X [cells]) c { w with heap := w.heap.push (.cells arr el (0, 0)) } := by
  obtain ⟨h1, h2, h3, h4⟩ := ho.made (w' := { w with heap := w.heap.push (.cells arr el (0, 0)) }) hX rfl rfl rfl rfl hc
  exact ⟨St, _, h1, hv, h3, h2, fun _ h => .inl h, h4⟩

theorem alloc_sound {o : Oper} {a : Act} {s : S} {K : V → Heap → Prop} (nm : Nat) (t : TypeId) (it : TypeInfo) (z : Value) (hi : P.info? t = some it) (hz : it.zero = some z)
    (hop : o.op = .alloc t) (hs : SimS St m s a w) (hk : eff P nm (.alloc (z.cells.toList.map Value.toV) t) s K) : ∃ v L' c w', (execOp a.eval o).run P w = .ok (.value c) w' ∧ K v L' ∧ Post St m s.L w v L' c w' := by
  simp only [eff, effC] at hk
  obtain ⟨hX, _, hk⟩ := hk
  have hc : LRel St m s.L w (z.cells.toList.map Value.toV) z.cells := toVs_rel z.cells
  refine ⟨_, _, .pointer (some ⟨w.heap.size, 0, none⟩), { w with heap := w.heap.push (.cells z.cells t (0, 0)) }, ?_, hk, made_post hs.objs hX hc.pre _ _ (.ptr (get_ins_self hX) (by simp) _ rfl fun _ => ⟨w.heap.size, z.cells.size, by simp [Map.set], rfl⟩)⟩
  simp only [execOp, hop]
  simp [Instr.alloc, zeroValue, typeInfo, hi, hz, newVar, newRow]

theorem box_sound {o : Oper} {a : Act} {s : S} {K : V → Heap → Prop} (nm : Nat) (t : TypeId) (x : Operand) (n : Nat)
    (hop : o.op = .box t x) (hs : SimS St m s a w) (hk : eff P nm (.box (Opd.of x) n t) s K) : ∃ v L' c w', (execOp a.eval o).run P w = .ok (.value c) w' ∧ K v L' ∧ Post St m s.L w v L' c w' := by
  have hx := ev_rel hs x
  simp only [eff, effC] at hk
  obtain ⟨hX, ⟨hlen, hcell, h0⟩, hk⟩ := hk
  have hxc := okPart_cells hx (cells_okPart hcell)
  refine ⟨_, _, .pointer (some ⟨w.heap.size, 0, none⟩), { w with heap := w.heap.push (.cells (a.eval x).cells t (0, 0)) }, ?_, hk, made_post hs.objs hX hxc.pre _ _ (.ptr (get_ins_self hX) (by omega) _ rfl fun _ => ⟨w.heap.size, (a.eval x).cells.size, by simp [Map.set], rfl⟩)⟩
  simp only [execOp, hop]
  simp [Instr.box, newVar, newRow]

end
end Go.Ab
