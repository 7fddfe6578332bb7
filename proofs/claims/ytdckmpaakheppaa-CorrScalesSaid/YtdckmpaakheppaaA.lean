/- The words of the abstract reading of a run: canonical floats, data, values that name memory, and what it is for a world to hold them. -/
import Derived.Calls
import Derived.Orders
import Derived.Laws.Cover2
import Derived.Laws.FloatArith
import Derived.Laws.Sem
import Derived.Laws.World
import Derived.Laws.Cells
import Derived.WalkKit
namespace Go.Ab
set_option linter.unusedSimpArgs false
set_option linter.unusedVariables false
open Go

/-- The one NaN that stands for all. -/
def qnan : Nat := 9221120237041090561

/-- Is a word a NaN? -/
def isNan (b : Nat) : Bool := 9218868437227405312 < b % 9223372036854775808

/-- A word, all NaNs made one. -/
def cf (b : Nat) : Nat := if isNan b then qnan else b

theorem read_nan (b : Nat) : (Ieee.double.read b).isNaN = isNan b := by
  have h1 : Ieee.double.signWeight = 9223372036854775808 := rfl
  have h2 : Ieee.double.binade = 4503599627370496 := rfl
  have h3 : Ieee.double.infRung = 9218868437227405312 := rfl
  unfold Ieee.Format.read isNan
  simp only [h1, h2, h3]
  split
  · simp [Ieee.Datum.isNaN]; omega
  · split
    · simp [Ieee.Datum.isNaN]; omega
    · split
      · simp [Ieee.Datum.isNaN]; omega
      · simp [Ieee.Datum.isNaN]; omega

theorem isNan_qnan : isNan qnan = true := by decide

theorem cf_not {b : Nat} (h : isNan b = false) : cf b = b := by simp [cf, h]
theorem cf_nan {b : Nat} (h : isNan b = true) : cf b = qnan := by simp [cf, h]
theorem isNan_cf (b : Nat) : isNan (cf b) = isNan b := by
  unfold cf; split
  · rename_i h; rw [h]; exact isNan_qnan
  · rfl
theorem cf_cf (b : Nat) : cf (cf b) = cf b := by
  by_cases h : isNan b = true
  · rw [cf_nan h]; exact cf_nan isNan_qnan
  · have h : isNan b = false := by simpa using h
    rw [cf_not h, cf_not h]

/-- What an operation of two words makes of two data, a NaN on either side: nothing. -/
theorem bin_cf (g : Ieee.Datum → Ieee.Datum → Option Ieee.Datum)
    (hl : ∀ s t y, g (.nan s t) y = none) (hr : ∀ x s t, g x (.nan s t) = none) (x y : Nat) :
    g (Ieee.double.read (cf x)) (Ieee.double.read (cf y)) = g (Ieee.double.read x) (Ieee.double.read y) := by
  have nl : ∀ b d, isNan b = true → g (Ieee.double.read b) d = none := by
    intro b d h
    rw [← read_nan] at h
    cases hb : Ieee.double.read b <;> simp [hb, Ieee.Datum.isNaN] at h
    exact hl ..
  have nr : ∀ b d, isNan b = true → g d (Ieee.double.read b) = none := by
    intro b d h
    rw [← read_nan] at h
    cases hb : Ieee.double.read b <;> simp [hb, Ieee.Datum.isNaN] at h
    exact hr ..
  by_cases hx : isNan x = true
  · rw [nl x _ hx, nl (cf x) _ (by rw [isNan_cf]; exact hx)]
  · by_cases hy : isNan y = true
    · rw [nr y _ hy, nr (cf y) _ (by rw [isNan_cf]; exact hy)]
    · rw [cf_not (by simpa using hx), cf_not (by simpa using hy)]

theorem sum_nan_l (s t y) : Ieee.Datum.sum (.nan s t) y = none := by cases y <;> rfl
theorem sum_nan_r (x s t) : Ieee.Datum.sum x (.nan s t) = none := by cases x <;> rfl
theorem product_nan_l (s t y) : Ieee.Datum.product (.nan s t) y = none := by cases y <;> rfl
theorem product_nan_r (x s t) : Ieee.Datum.product x (.nan s t) = none := by cases x <;> rfl
theorem quotient_nan_l (d s t y) : Ieee.Datum.quotient d (.nan s t) y = none := by cases y <;> rfl
theorem quotient_nan_r (d x s t) : Ieee.Datum.quotient d x (.nan s t) = none := by cases x <;> rfl
theorem order_nan_l (s t y) : Ieee.Datum.order (.nan s t) y = none := by cases y <;> rfl
theorem order_nan_r (x s t) : Ieee.Datum.order x (.nan s t) = none := by cases x <;> rfl

inductive FOp where | add | sub | mul | div
  deriving DecidableEq
inductive FCmp where | eq | ne | lt | le | gt | ge
  deriving DecidableEq

/-- + - * / of canonical words. -/
def fop (o : FOp) (x y : Nat) : Nat :=
  ((match o with
    | .add => Ieee.double.add x y
    | .sub => Ieee.double.sub x y
    | .mul => Ieee.double.mul x y
    | .div => Ieee.double.div x y).map cf).getD qnan

def fcmp (o : FCmp) (x y : Nat) : Bool :=
  let c := Ieee.double.order x y
  match o with
  | .eq => c == some .eq
  | .ne => c != some .eq
  | .lt => c == some .lt
  | .le => c == some .lt || c == some .eq
  | .gt => c == some .gt
  | .ge => c == some .gt || c == some .eq

theorem add_cf (x y : Nat) : Ieee.double.add (cf x) (cf y) = Ieee.double.add x y := by
  unfold Ieee.Format.add; rw [bin_cf _ sum_nan_l sum_nan_r]
theorem sub_cf (x y : Nat) : Ieee.double.sub (cf x) (cf y) = Ieee.double.sub x y := by
  unfold Ieee.Format.sub
  rw [bin_cf (fun a b => Ieee.Datum.sum a b.opposite) (fun s t y => sum_nan_l _ _ _) (fun x s t => sum_nan_r _ _ _)]
theorem mul_cf (x y : Nat) : Ieee.double.mul (cf x) (cf y) = Ieee.double.mul x y := by
  unfold Ieee.Format.mul; rw [bin_cf _ product_nan_l product_nan_r]
theorem div_cf (x y : Nat) : Ieee.double.div (cf x) (cf y) = Ieee.double.div x y := by
  unfold Ieee.Format.div; rw [bin_cf _ (quotient_nan_l _) (quotient_nan_r _)]
theorem order_cf (x y : Nat) : Ieee.double.order (cf x) (cf y) = Ieee.double.order x y := by
  unfold Ieee.Format.order
  have h := bin_cf (fun a b => (Ieee.Datum.order a b).map fun o => match o with | .lt => .infinity true | .eq => .number false 0 0 | .gt => .infinity false)
    (fun s t y => by rw [order_nan_l]; rfl) (fun x s t => by rw [order_nan_r]; rfl) x y
  revert h
  generalize Ieee.Datum.order (Ieee.double.read (cf x)) (Ieee.double.read (cf y)) = p
  generalize Ieee.Datum.order (Ieee.double.read x) (Ieee.double.read y) = q
  cases p <;> cases q <;> simp
  rename_i a b
  cases a <;> cases b <;> simp

/-- Names of blocks of the run's own; data; values. -/
inductive D where
  | int (k : IntKind) (n : Int)
  | bool (b : Bool)
  | flt (x : Nat)
  | fraw (b : Nat)
  | str (s : ByteArray)
  | bor (n : Nat) (get : Nat → List D)
  | bptr (cells : List D)
  | nilp
  | nilf
  | fn (f : FuncId) (first cap : List D)

instance : Inhabited D := ⟨.nilp⟩

/-- A nil slice. -/
abbrev D.nils : D := .bor 0 fun _ => []

inductive V where
  | d (x : D)
  | ptr (X r off ver : Nat)
  | sl (X r off n esz ver : Nat)
  | agg (xs : List V)
  | fn (f : FuncId) (first cap : List V)
  | tup (xs : List V)
  | nil
  | any

instance : Inhabited V := ⟨.any⟩

/-- Blocks of the run's own, by name: a name X stands for a family of blocks (X, 0), (X, 1), .. -/
abbrev Heap := List (Nat × List (List V))

def Heap.fam (L : Heap) (X : Nat) : Option (List (List V)) := List.lookup X L
def Heap.get (L : Heap) (X r : Nat) : Option (List V) := (L.fam X).bind (·[r]?)
def Heap.put : Heap → Nat → Nat → List V → Heap
  | [], _, _, _ => []
  | (Y, fs) :: L, X, r, cs => if X = Y then (Y, fs.set r cs) :: L else (Y, fs) :: Heap.put L X r cs

/-- Where a name lies: its block, and how many cells that has. -/
abbrev Map := Nat → Nat → Option (Nat × Nat)

inductive DRel (St : Nat → Prop) (w : World) : D → Value → Prop
  | int (k : IntKind) (n : Int) : DRel St w (.int k n) (.int k n)
  | bool (b : Bool) : DRel St w (.bool b) (.bool b)
  | flt {x b : Nat} (hb : b < 2 ^ 64) (h : cf b = x) : DRel St w (.flt x) (.float .f64 b)
  | fraw {b : Nat} (hb : b < 2 ^ 64) : DRel St w (.fraw b) (.float .f64 b)
  | str (s : ByteArray) : DRel St w (.str s) (.string s)
  | nilp : DRel St w .nilp (.pointer none)
  | nilf : DRel St w .nilf .nilFunc
  | bor0 (get : Nat → List D) (a : Option Addr) (c : Nat) : DRel St w (.bor 0 get) (.slice a 0 c)
  | bor {n : Nat} {get : Nat → List D} {blk off c sz : Nat} (cell : Nat → Nat → Value) (hs : St blk) (hcap : n ≤ c)
      (hl : ∀ i, i < n → (get i).length = sz)
      (hc : ∀ i j, i < n → j < sz → w.cell? ⟨blk, off + i * sz + j, none⟩ = some (cell i j))
      (hd : ∀ i j, i < n → j < sz → DRel St w ((get i).getD j default) (cell i j)) :
      DRel St w (.bor n get) (.slice (some ⟨blk, off, none⟩) n c)
  | bptr {cells : List D} {blk off : Nat} (cell : Nat → Value) (hs : St blk)
      (hc : ∀ j, j < cells.length → w.cell? ⟨blk, off + j, none⟩ = some (cell j))
      (hd : ∀ j, j < cells.length → DRel St w (cells.getD j default) (cell j)) :
      DRel St w (.bptr cells) (.pointer (some ⟨blk, off, none⟩))
  | fn {f : FuncId} {first cap : List D} {fs cs : Array Value} (h1 : fs.size = first.length) (h2 : cs.size = cap.length)
      (hf : ∀ j, j < first.length → DRel St w (first.getD j default) (fs.getD j undef))
      (hc : ∀ j, j < cap.length → DRel St w (cap.getD j default) (cs.getD j undef)) :
      DRel St w (.fn f first cap) (.func (.func f) fs cs)

inductive VRel (St : Nat → Prop) (m : Map) (L : Heap) (w : World) : V → Value → Prop
  | d {x : D} {c : Value} (h : DRel St w x c) : VRel St m L w (.d x) c
  | any (c : Value) : VRel St m L w .any c
  | nil : VRel St m L w .nil (.slice none 0 0)
  | ptr {X r off ver : Nat} {c : Value} {cells : List V} (hL : L.get X r = some cells) (hv : ver ≤ cells.length)
      (ad : Addr) (hc : c = .pointer (some ad)) (h : cells.length = ver → ∃ b C, m X r = some (b, C) ∧ ad = ⟨b, off, none⟩) : VRel St m L w (.ptr X r off ver) c
  | sl {X r off n esz ver : Nat} {c : Value} {cells : List V} (hL : L.get X r = some cells) (hv : ver ≤ cells.length)
      (a : Option Addr) (cap : Nat) (hc : c = .slice a n cap) (hn : n ≤ cap) (ha : 0 < n → a.isSome = true)
      (h : cells.length = ver → cap = 0 ∨ ∃ b C, m X r = some (b, C) ∧ off + cap * esz ≤ C ∧ a = some ⟨b, off, none⟩) : VRel St m L w (.sl X r off n esz ver) c
  | agg {xs : List V} {cs : Array Value} (h1 : cs.size = xs.length)
      (h : ∀ j, j < xs.length → VRel St m L w (xs.getD j .any) (cs.getD j undef)) : VRel St m L w (.agg xs) (.agg cs)
  | fn {f : FuncId} {first cap : List V} {fs cs : Array Value} (h1 : fs.size = first.length) (h2 : cs.size = cap.length)
      (hf : ∀ j, j < first.length → VRel St m L w (first.getD j .any) (fs.getD j undef))
      (hc : ∀ j, j < cap.length → VRel St m L w (cap.getD j .any) (cs.getD j undef)) :
      VRel St m L w (.fn f first cap) (.func (.func f) fs cs)
  | tup {xs : List V} {cs : Array Value} (h1 : cs.size = xs.length)
      (h : ∀ j, j < xs.length → VRel St m L w (xs.getD j .any) (cs.getD j undef)) : VRel St m L w (.tup xs) (.tuple cs)

theorem DRel.mono {St St' : Nat → Prop} {w w' : World} (hS : ∀ b, St b → St' b) (hw : ∀ b, St b → w'.heap[b]? = w.heap[b]?) {x : D} {c : Value}
    (h : DRel St w x c) : DRel St' w' x c := by
  have cellEq : ∀ b o, St b → w'.cell? ⟨b, o, none⟩ = w.cell? ⟨b, o, none⟩ := by
    intro b o hb; unfold World.cell?; simp only [hw b hb]
  induction h with
  | int k n => exact .int k n
  | bool b => exact .bool b
  | flt hb h => exact .flt hb h
  | fraw hb => exact .fraw hb
  | str s => exact .str s
  | nilp => exact .nilp
  | nilf => exact .nilf
  | bor0 g a c => exact .bor0 g a c
  | bor cell hs hcap hl hc hd ih => exact .bor cell (hS _ hs) hcap hl (fun i j hi hj => by rw [cellEq _ _ hs]; exact hc i j hi hj) ih
  | bptr cell hs hc hd ih => exact .bptr cell (hS _ hs) (fun j hj => by rw [cellEq _ _ hs]; exact hc j hj) ih
  | fn h1 h2 hf hc ihf ihc => exact .fn h1 h2 ihf ihc

/-- From one moment to a later one: what was stable is, the rows that have not grown lie where they lay. -/
structure Ext (St St' : Nat → Prop) (m m' : Map) (L L' : Heap) (w w' : World) : Prop where
  st : ∀ b, St b → St' b
  keep : ∀ b, St b → w'.heap[b]? = w.heap[b]?
  own : ∀ X r cells, L.get X r = some cells → ∃ cells', L'.get X r = some cells' ∧ cells.length ≤ cells'.length ∧ (cells'.length = cells.length → m' X r = m X r)

theorem Ext.refl (St : Nat → Prop) (m : Map) (L : Heap) (w : World) : Ext St St m m L L w w :=
  ⟨fun _ h => h, fun _ _ => rfl, fun _ _ cells h => ⟨cells, h, Nat.le_refl _, fun _ => rfl⟩⟩

theorem Ext.trans {S1 S2 S3 : Nat → Prop} {m1 m2 m3 : Map} {L1 L2 L3 : Heap} {w1 w2 w3 : World} (h : Ext S1 S2 m1 m2 L1 L2 w1 w2) (k : Ext S2 S3 m2 m3 L2 L3 w2 w3) :
    Ext S1 S3 m1 m3 L1 L3 w1 w3 := by
  refine ⟨fun b hb => k.st b (h.st b hb), fun b hb => (k.keep b (h.st b hb)).trans (h.keep b hb), fun X r cells hc => ?_⟩
  obtain ⟨c2, h2, hle2, he2⟩ := h.own X r cells hc
  obtain ⟨c3, h3, hle3, he3⟩ := k.own X r c2 h2
  refine ⟨c3, h3, by omega, fun e => ?_⟩
  rw [he3 (by omega), he2 (by omega)]

theorem VRel.mono {St St' : Nat → Prop} {m m' : Map} {L L' : Heap} {w w' : World} (e : Ext St St' m m' L L' w w') {x : V} {c : Value}
    (h : VRel St m L w x c) : VRel St' m' L' w' x c := by
  induction h with
  | d h => exact .d (h.mono e.st e.keep)
  | any c => exact .any c
  | nil => exact .nil
  | ptr hL hv ad hc h =>
    obtain ⟨c', h', hle, he⟩ := e.own _ _ _ hL
    refine .ptr h' (by omega) ad hc fun hver => ?_
    obtain ⟨b, C, hm, hc⟩ := h (by omega)
    exact ⟨b, C, by rw [he (by omega)]; exact hm, hc⟩
  | sl hL hv a cap hc hn ha h =>
    obtain ⟨c', h', hle, he⟩ := e.own _ _ _ hL
    refine .sl h' (by omega) a cap hc hn ha fun hver => ?_
    rw [he (by omega)]
    exact h (by omega)
  | agg h1 h ih => exact .agg h1 ih
  | fn h1 h2 hf hc ihf ihc => exact .fn h1 h2 ihf ihc
  | tup h1 h ih => exact .tup h1 ih

/-- Block b bears a name of L. -/
def Named (m : Map) (L : Heap) (b : Nat) : Prop := ∃ X r C, L.get X r ≠ none ∧ m X r = some (b, C)

/-- The rows of L lie in the world. -/
structure Objs (St : Nat → Prop) (m : Map) (L : Heap) (w : World) : Prop where
  st : ∀ b, St b → b < w.heap.size
  nil : ∀ X r cells, L.get X r = some cells → m X r = none → cells = []
  obj : ∀ X r cells b C, L.get X r = some cells → m X r = some (b, C) → b < w.heap.size ∧ ¬ St b ∧
    ∃ arr el, w.heap[b]? = some (.cells arr el (0, 0)) ∧ arr.size = C ∧ cells.length ≤ C ∧ ∀ j, j < cells.length → VRel St m L w (cells.getD j .any) (arr.getD j undef)
  inj : ∀ X r Y q b C C', L.get X r ≠ none → L.get Y q ≠ none → m X r = some (b, C) → m Y q = some (b, C') → X = Y ∧ r = q

/-- What a piece of a run leaves alone. -/
structure Frame' (Foot : Nat → Prop) (w w' : World) : Prop where
  os : w'.os = w.os
  tape : w'.tape = w.tape
  output : w'.output = w.output
  size : w.heap.size ≤ w'.heap.size
  block : ∀ b, b < w.heap.size → ¬ Foot b → w'.heap[b]? = w.heap[b]?

theorem Frame'.refl (F : Nat → Prop) (w : World) : Frame' F w w := ⟨rfl, rfl, rfl, Nat.le_refl _, fun _ _ _ => rfl⟩
/-- Behind a piece that wrote to blocks of F and its own, one that writes to blocks of G: those of G that were there belong to F. -/
theorem Frame'.trans {F G : Nat → Prop} {a b c : World} (h : Frame' F a b) (k : Frame' G b c) (hg : ∀ x, G x → x < a.heap.size → F x) : Frame' F a c :=
  ⟨k.os.trans h.os, k.tape.trans h.tape, k.output.trans h.output, Nat.le_trans h.size k.size,
    fun x hx hf => (k.block x (Nat.lt_of_lt_of_le hx h.size) fun hG => hf (hg x hG hx)).trans (h.block x hx hf)⟩

/-- Where what is named now comes from: it was named so, and lay there, or it is new. -/
def Src (m : Map) (L : Heap) (m' : Map) (L' : Heap) (w : World) : Prop :=
  ∀ X r b C, L'.get X r ≠ none → m' X r = some (b, C) → (L.get X r ≠ none ∧ m X r = some (b, C)) ∨ w.heap.size ≤ b

theorem Src.named {m m' : Map} {L L' : Heap} {w : World} (h : Src m L m' L' w) (b : Nat) (hb : Named m' L' b) : Named m L b ∨ w.heap.size ≤ b := by
  obtain ⟨X, r, C, h1, h2⟩ := hb
  rcases h X r b C h1 h2 with ⟨h3, h4⟩ | h3
  · exact .inl ⟨X, r, C, h3, h4⟩
  · exact .inr h3

theorem Src.refl (m : Map) (L : Heap) (w : World) : Src m L m L w := fun _ _ _ _ h1 h2 => .inl ⟨h1, h2⟩
theorem Src.trans {m1 m2 m3 : Map} {L1 L2 L3 : Heap} {w1 w2 : World} (h : Src m1 L1 m2 L2 w1) (k : Src m2 L2 m3 L3 w2) (hs : w1.heap.size ≤ w2.heap.size) : Src m1 L1 m3 L3 w1 := by
  intro X r b C h1 h2
  rcases k X r b C h1 h2 with ⟨h3, h4⟩ | h3
  · exact h X r b C h3 h4
  · exact .inr (Nat.le_trans hs h3)

end Go.Ab
