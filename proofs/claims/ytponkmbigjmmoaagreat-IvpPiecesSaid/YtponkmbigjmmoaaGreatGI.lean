import Derived.Test.YtponkmbigjmmoaaGreatGH
import Derived.Laws.BitsLemmas
/- Words for evaluating: values, rows, calls. -/
set_option linter.unusedSimpArgs false
set_option linter.unusedVariables false
namespace Go.Ab
open Go
abbrev fl (x : Nat) : V := .d (.flt x)
abbrev fB (b : Bool) : V := .d (.bool b)
abbrev fI (n : Int) : V := .d (.int .i64 n)
def rowG (xs : List Nat) (i : Nat) : List D := [.flt (xs.getD i 0)]
def rowD (xs : List Nat) : D := .bor xs.length (rowG xs)
def a6H (xs : List Int) (i : Nat) : List D := [.int .i64 (xs.getD i 0)]
def rowI (xs : List Int) : D := .bor xs.length (a6H xs)
def a1f (xss : List (List Nat)) (i : Nat) : List D := [rowD (xss.getD i [])]
def f9 (xss : List (List Nat)) : D := .bor xss.length (a1f xss)
def ivG (ps : List (Nat × Nat)) (i : Nat) : List D := [.flt (ps.getD i (0, 0)).1, .flt (ps.getD i (0, 0)).2]
def ivD (ps : List (Nat × Nat)) : D := .bor ps.length (ivG ps)
section
variable {P : Program} {g : FuncId} {vs : List V} {L : Heap} {K : V -> Heap -> Prop} {r : V}
theorem a0 (h : Con P g vs r) (hb : vs.all V.bareB = true) (hk : K r L) : b1G P g vs L K :=
 ⟨L, r, a5k (.inl ⟨hb, h⟩), hk⟩
theorem d6 {nm : Nat} (h : Con P g vs r) (hb : vs.all V.bareB = true) (hk : K r L) : c7f P nm g vs L K := ⟨hb, .inl ⟨r, h, hk⟩⟩
theorem b9 {nm k : Nat} (h : Con P g vs r) (hb : vs.all V.bareB = true) (hk : K r L) : b4y P nm k g vs L K := .inl ⟨vs, r, .inl ⟨rfl, hb⟩, h, hk⟩
theorem b6a {nm k : Nat} {fam : List (List V)} (h : AC P g vs [] [(0, fam)] r) (hb : vs.all V.bareB = true) (hf : L.fam nm = none) (hk : K (r.ren (toF nm)) (L.ins nm (X6 nm fam))) : b4y P nm k g vs L K :=
 .inr ⟨vs, fam, r, .inl ⟨rfl, hb⟩, h, hf, hk⟩
theorem b7W {nm k : Nat} {us : List V} (h : Con P g us r) (hl : us.length = vs.length) (hs : ∀ j, j < us.length -> Snap (L.old (nm - k)) (vs.getD j .any) (us.getD j .any)) (hr : Scalar r) (hk : K r L) : b4y P nm k g vs L K :=
 .inl ⟨us, r, .inr ⟨hl, hs, hr⟩, h, hk⟩
theorem b7X {nm k : Nat} {us : List V} {fam : List (List V)} (h : AC P g us [] [(0, fam)] r) (hl : us.length = vs.length) (hs : ∀ j, j < us.length -> Snap (L.old (nm - k)) (vs.getD j .any) (us.getD j .any)) (hr : PureV r) (hp : c6y fam)
  (hf : L.fam nm = none) (hk : K (r.ren (toF nm)) (L.ins nm (X6 nm fam))) : b4y P nm k g vs L K :=
 .inr ⟨us, fam, r, .inr ⟨hl, hs, hr, hp⟩, h, hf, hk⟩
theorem B1 {L' : Heap} (h : AC P g vs L L' r) (hk : K r L') : b1G P g vs L K := ⟨L', r, h, hk⟩
theorem b94 (K : V -> Prop) (x y : V) : c2f true K x y = K x := by simp [c2f]
theorem b7a (K : V -> Prop) (x y : V) : c2f false K x y = K y := by simp [c2f]
theorem d9 {a : Int} (h1 : -9223372036854775808 <= a) (h2 : a < 9223372036854775808) : IntKind.wrap .i64 a = a := by
 rw [IntKind.wrap_i64]; omega
theorem a09 {a : Int} (h1 : 0 <= a) (h2 : a < 18446744073709551616) : IntKind.wrap .u64 a = a := by
 rw [IntKind.wrap_u64]; omega
end
section
variable {P : Program} {N : Nat -> Prop} {nt base : Nat} {Q : Ex -> T -> Prop} {s : T}
def c4K (P : Program) (N : Nat -> Prop) (nt : Nat) (b : CA) (Q : Ex -> T -> Prop) (e : Ex) (s : T) : Prop := c1q (xC P N nt b Q) Q e s
def c0Q (P : Program) (N : Nat -> Prop) (nt : Nat) (c : V) (a b : CA) (Q : Ex -> T -> Prop) (s : T) : Prop := c3Z c (xC P N nt a Q) (xC P N nt b Q) s
def putI (P : Program) (base : Nat) (dst : Option Nat) (as : Sl) (r : List II) (Q : T -> Prop) (v : V) (L : Heap) : Prop := putT dst as (xI P base r Q) v L
theorem c7v : xC P N nt .skip Q s = Q .normal s := rfl
theorem c9r (l : List II) (live : List Nat) (as : Sl) (L : Heap) : xC P N nt (.reg l live) Q ⟨as, L⟩ = xI P L.next l (c8F live (Q .normal)) ⟨as, L⟩ := rfl
theorem c9p (a b : CA) : xC P N nt (.seq a b) Q s = xC P N nt a (c4K P N nt b Q) s := rfl
theorem c7y (o : Opd) (a b : CA) (as : Sl) (L : Heap) : xC P N nt (.cond o a b) Q ⟨as, L⟩ = c0Q P N nt (xev as o) a b Q ⟨as, L⟩ := rfl
theorem c4E (id : Nat) (c : CA) : xC P N nt (.block id c) Q s = xC P N nt c (inBlockT id Q) s := rfl
theorem c7w (c : CA) : xC P N nt (.loop c) Q s = WA P N nt (.loop c) Q s := rfl
def a9m (P : Program) (N : Nat -> Prop) (nt id : Nat) (b : CA) (Q : Ex -> T -> Prop) (e : Ex) (s : T) : Prop := b3Z id (xC P N nt b (b99 Q)) Q e s
theorem c9s (l : Nat) : xC P N nt (.lab l) Q s = Q .normal s := rfl
theorem c4D (id : Nat) (a b : CA) : xC P N nt (.scope id a b) Q s = xC P N nt a (a9m P N nt id b Q) s := rfl
theorem a9Y (id : Nat) (b : CA) : a9m P N nt id b Q .normal s = Q .normal s := rfl
theorem b5Q (id : Nat) (b : CA) : a9m P N nt id b Q .ret s = Q .ret s := rfl
theorem b30 (id i : Nat) (b : CA) : a9m P N nt id b Q (.exit i) s = if i = id then xC P N nt b (b99 Q) s else i < 1000000 /\ Q (.exit i) s := rfl
theorem b5w : b99 Q .normal s = Q .normal s := rfl
theorem c2z : b99 Q .ret s = Q .ret s := rfl
theorem b98 (i : Nat) : b99 Q (.exit i) s = (i < 1000000 /\ Q (.exit i) s) := rfl
theorem c5r (ev : Opd -> V) (pl : List Opd) : offs ev [] pl = True := rfl
theorem c5q (ev : Opd -> V) (b : Opd) (pl : List Opd) : offs ev [b] pl = True := rfl
theorem c5p (ev : Opd -> V) (a b p q : Opd) (pl : List Opd) : offs ev [a, b] (p :: q :: pl) = True := by
 unfold offs; split <;> simp_all
theorem c9L (ev : Opd -> V) (b p : Opd) (k : IntKind) (n : Int) : offs ev [b, .k (.d (.int k n))] [p] = offC (ev b) (ev p) n.toNat := rfl
theorem c5s (X r o ver Y q o' ver' n : Nat) : offC (.ptr X r o ver) (.ptr Y q o' ver') n = (X = Y /\ r = q /\ o' = o + n /\ ver' = ver) := rfl
theorem c7x (id : Nat) : xC P N nt (.exit id) Q s = Q (.exit id) s := rfl
theorem c9q : xC P N nt .ret Q s = Q .ret s := rfl
theorem b4U (b : CA) : c4K P N nt b Q .normal s = xC P N nt b Q s := rfl
theorem b9H (b : CA) (i : Nat) : c4K P N nt b Q (.exit i) s = Q (.exit i) s := rfl
theorem c1s (b : CA) : c4K P N nt b Q .ret s = Q .ret s := rfl
theorem c0P (a b : CA) : c0Q P N nt (.d (.bool true)) a b Q s = xC P N nt a Q s := by simp [c0Q, c3Z, c8K]
theorem b7Q (a b : CA) : c0Q P N nt (.d (.bool false)) a b Q s = xC P N nt b Q s := by simp [c0Q, c3Z, c8K]
theorem a9 {t : Bool} {a b : CA} (h1 : t = true -> xC P N nt a Q s) (h2 : t = false -> xC P N nt b Q s) : c0Q P N nt (.d (.bool t)) a b Q s := ⟨h1, h2⟩
theorem c9n (Q : T -> Prop) : xI P base [] Q s = Q s := rfl
theorem c7u (k : Nat) (d : Option Nat) (i : Inst) (r : List II) (Q : T -> Prop) (as : Sl) (L : Heap) :
  xI P base (⟨k, d, none, [], [], i⟩ :: r) Q ⟨as, L⟩ = xeff P (base + k) i as L (putI P base d as r Q) := rfl
theorem c4C (k : Nat) (d : Option Nat) (b0 : Opd) (bs ind : List Opd) (i : Inst) (r : List II) (Q : T -> Prop) (as : Sl) (L : Heap) :
  xI P base (⟨k, d, none, b0 :: bs, ind, i⟩ :: r) Q ⟨as, L⟩ = (c1L as (b0 :: bs) ind i.places /\ xeff P (base + k) i as L (putI P base d as r Q)) := rfl
theorem c1c (k : Nat) (d : Option Nat) (b0 : Opd) (ind : List Opd) (i : Inst) (r : List II) (Q : T -> Prop) (as : Sl) (L : Heap) :
  xI P base (⟨k, d, none, [], b0 :: ind, i⟩ :: r) Q ⟨as, L⟩ = (c1L as [] (b0 :: ind) i.places /\ xeff P (base + k) i as L (putI P base d as r Q)) := rfl
def a5R (P : Program) (base : Nat) (c : V) (want : Bool) (ii : II) (r : List II) (Q : T -> Prop) (s : T) : Prop :=
 a90 c want (b9U s.sl ii.bs ii.ind ii.i (xeff P (base + ii.k) ii.i s.sl s.L (putI P base ii.dst s.sl r Q))) (putI P base ii.dst s.sl r Q .und s.L)
theorem c4B (k : Nat) (d : Option Nat) (j : Nat) (w : Bool) (bs ind : List Opd) (i : Inst) (r : List II) (Q : T -> Prop) (as : Sl) (L : Heap) :
  xI P base (⟨k, d, some (j, w), bs, ind, i⟩ :: r) Q ⟨as, L⟩ = a5R P base (look as j) w ⟨k, d, none, bs, ind, i⟩ r Q ⟨as, L⟩ := rfl
theorem c0C (w : Bool) (ii : II) (r : List II) (Q : T -> Prop) (h : ii.g = none) : a5R P base (.d (.bool w)) w ii r Q s = xI P base (ii :: r) Q s := by
 simp only [a5R, a90, if_true, xI, c4y, h]; rfl
theorem c3w (ii : II) (r : List II) (Q : T -> Prop) : a5R P base (.d (.bool true)) false ii r Q s = putI P base ii.dst s.sl r Q .und s.L := by simp [a5R, a90]
theorem c3x (ii : II) (r : List II) (Q : T -> Prop) : a5R P base (.d (.bool false)) true ii r Q s = putI P base ii.dst s.sl r Q .und s.L := by simp [a5R, a90]
theorem c0B (w : Bool) (ii : II) (r : List II) (Q : T -> Prop) : a5R P base (.tup []) w ii r Q s = putI P base ii.dst s.sl r Q .und s.L := by simp [a5R, a90]
theorem c19 (d : Nat) (as : Sl) (r : List II) (Q : T -> Prop) (v : V) (L : Heap) : putI P base (some d) as r Q v L = xI P base r Q ⟨(d, v) :: as, L⟩ := rfl
theorem c2a (as : Sl) (r : List II) (Q : T -> Prop) (v : V) (L : Heap) : putI P base none as r Q v L = xI P base r Q ⟨as, L⟩ := rfl
theorem b3s {nt t : Nat} {s : T} {v : V} (ht : t < nt) : resV (s.s nt) (t, none) v = (v = look s.sl t) := by
 simp only [resV, T.s]; rw [y6 _ ht]
end
section
theorem f8 (X r : Nat) : Heap.get [] X r = none := by simp [Heap.get, Heap.fam]
theorem d8 (X : Nat) : Heap.fam [] X = none := by simp [Heap.fam]
theorem d5 (X Y : Nat) (f : List (List V)) (L : Heap) : Heap.fam ((X, f) :: L) Y = if Y = X then some f else Heap.fam L Y := by
 unfold Heap.fam
 rw [List.lookup_cons]
 by_cases h : Y = X
 ·subst h; simp
 ·have e : (Y == X) = false := by simpa using h
  simp [h, e]
theorem d7 (X Y r : Nat) (f : List (List V)) (L : Heap) : Heap.get ((X, f) :: L) Y r = if Y = X then f[r]? else Heap.get L Y r := by
 unfold Heap.get
 rw [d5]
 split <;> rfl
theorem c8z (X : Nat) (f : List (List V)) : Heap.ins X f [] = [(X, f)] := by simp [Heap.ins]
theorem c5V (X Y : Nat) (f g : List (List V)) (L : Heap) : Heap.ins X f ((Y, g) :: L) = if Y < X then (X, f) :: (Y, g) :: L else (Y, g) :: Heap.ins X f L := by simp [Heap.ins]
theorem c49 (X Y r : Nat) (f : List (List V)) (cs : List V) (L : Heap) : Heap.put ((Y, f) :: L) X r cs = if X = Y then (Y, f.set r cs) :: L else (Y, f) :: Heap.put L X r cs := by simp [Heap.put]
theorem c5t : Heap.next [] = 0 := by simp [Heap.next]
theorem b5z (X : Nat) (f : List (List V)) (L : Heap) : Heap.next ((X, f) :: L) = if Heap.next L <= X then X + 1 else Heap.next L := by simp [Heap.next]
theorem c8q (n off : Nat) (cells : List V) : ldv false n off cells = cells.getD off .any := by simp [ldv]
theorem c2V (n off : Nat) (cells : List V) : ldv true n off cells = .agg ((cells.drop off).take n) := by simp [ldv]
theorem b7V (xs : List V) : cellsOf (.agg xs) = xs := by simp [cellsOf]
theorem c33 (x : D) : cellsOf (.d x) = [.d x] := by simp [cellsOf]
theorem c0V (X r off n esz ver : Nat) : cellsOf (.sl X r off n esz ver) = [.sl X r off n esz ver] := by simp [cellsOf]
theorem b7T (X r off ver : Nat) : cellsOf (.ptr X r off ver) = [.ptr X r off ver] := by simp [cellsOf]
theorem b7U : cellsOf .nil = [.nil] := by simp [cellsOf]
theorem c0W (f : FuncId) (a b : List V) : cellsOf (.fn f a b) = [.fn f a b] := by simp [cellsOf]
theorem c5Q (x : D) : (V.d x).isCell = true := by simp [V.isCell]
theorem c3p (X r off n esz ver : Nat) : (V.sl X r off n esz ver).isCell = true := by simp [V.isCell]
theorem c0w (X r off ver : Nat) : (V.ptr X r off ver).isCell = true := by simp [V.isCell]
theorem c0x : V.nil.isCell = true := by simp [V.isCell]
theorem c3q (f : FuncId) (a b : List V) : (V.fn f a b).isCell = true := by simp [V.isCell]
theorem b9M (cells : List V) (off : Nat) : s7 cells off [] = cells := by simp [s7]
theorem b6Y (cells : List V) (off : Nat) (v : V) (vs : List V) : s7 cells off (v :: vs) = s7 (cells.set off v) (off + 1) vs := by simp [s7]
theorem J0 {nt t n : Nat} {g : Bool} {s : T} {v : V} {X r off ver : Nat} {cells : List V} (ht : t < nt) (h1 : look s.sl t = .ptr X r off ver) (h2 : s.L.get X r = some cells) (h3 : cells.length = ver) (h4 : off + n <= cells.length)
  (h5 : v = ldv g n off cells) : resV (s.s nt) (t, some (n, g)) v := by
 simp only [resV, T.s]
 rw [y6 _ ht, h1]
 simp only [h2]
 exact ⟨h3, h4, h5⟩
theorem f7 {nt t n : Nat} {g : Bool} {s : T} {r : V} {X row off ver : Nat} {cells : List V} (hb : r.bareB = true) (ht : t < nt) (h1 : look s.sl t = .ptr X row off ver) (h2 : s.L.get X row = some cells) (h3 : cells.length = ver) (h4 : off + n <= cells.length)
  (h5 : r = ldv g n off cells) : V5 (fun _ => False) nt [(t, some (n, g))] r [] .ret s := a0G hb (J0 ht h1 h2 h3 h4 h5)
theorem b7 {nt t : Nat} {s : T} {r : V} (hb : r.bareB = true) (ht : t < nt) (h5 : r = look s.sl t) : V5 (fun _ => False) nt [(t, none)] r [] .ret s :=
 a0G hb (by simp only [ResV]; rw [b3s ht]; exact h5)
end
section
variable {P : Program} {N : Nat -> Prop} {nt : Nat} {Q : Ex -> T -> Prop}
def c9P (I : Nat -> T -> Prop) (n : Nat) (t : T) : Prop := ∃ k, k < n /\ I k t
def c4J (I : Nat -> T -> Prop) (n : Nat) (Q : Ex -> T -> Prop) (e : Ex) (s : T) : Prop := c1q (c9P I n) Q e s
theorem b4T (I : Nat -> T -> Prop) (n : Nat) (s : T) : c4J I n Q .normal s = c9P I n s := rfl
theorem b9G (I : Nat -> T -> Prop) (n i : Nat) (s : T) : c4J I n Q (.exit i) s = Q (.exit i) s := rfl
theorem c1r (I : Nat -> T -> Prop) (n : Nat) (s : T) : c4J I n Q .ret s = Q .ret s := rfl
theorem q9 {c : CA} {s : T} (I : Nat -> T -> Prop) {n : Nat} (h0 : I n s) (round : ∀ n s, I n s -> xC P N nt c (c4J I n Q) s) : WA P N nt (.loop c) Q s :=
 c4p I h0 fun n s hI => a3E _ _ _ (round n s hI)
theorem d1J : ((0 : Nat) : Int) = 0 := rfl
theorem d1H : ((1 : Nat) : Int) = 1 := rfl
theorem d1G : ((2 : Nat) : Int) = 2 := rfl
theorem d1F : ((3 : Nat) : Int) = 3 := rfl
theorem d1E : ((4 : Nat) : Int) = 4 := rfl
theorem d1D : ((5 : Nat) : Int) = 5 := rfl
theorem d1C : ((6 : Nat) : Int) = 6 := rfl
theorem d1B : ((7 : Nat) : Int) = 7 := rfl
theorem d1A : ((8 : Nat) : Int) = 8 := rfl
theorem d1z : ((9 : Nat) : Int) = 9 := rfl
theorem d0F : ((10 : Nat) : Int) = 10 := rfl
theorem d0E : ((11 : Nat) : Int) = 11 := rfl
theorem d0D : ((12 : Nat) : Int) = 12 := rfl
theorem d0C : ((13 : Nat) : Int) = 13 := rfl
theorem d0B : ((14 : Nat) : Int) = 14 := rfl
theorem d0A : ((15 : Nat) : Int) = 15 := rfl
theorem d0z : ((16 : Nat) : Int) = 16 := rfl
theorem c1n (i : Nat) : Int.toNat ((i : Int) + 1) = i + 1 := rfl
theorem j6 (xs : List Nat) (i : Nat) (h : i < xs.length) : (xs.map fl).getD i .any = fl (xs.getD i 0) := by
 simp [d10, h]
theorem b9V (xs : List Nat) (i v : Nat) : (xs.map fl).set i (fl v) = (xs.set i v).map fl := by
 rw [List.map_set]
theorem c03 (xs : List Nat) : (xs.map fl).all V.isCell = true := by
 simp [V.isCell]
end
theorem d0K (K : V -> Heap -> Prop) (L : Heap) (v : V) : atL K L v = K v L := rfl
theorem c6d (live : List Nat) (Q : T -> Prop) (as' : Sl) (L : Heap) : c8F live Q ⟨as', L⟩ = Q ⟨keep as' live, L⟩ := rfl
end Go.Ab
/- Floats as words: laws of comparisons and of the functions on bits. -/
namespace Go.Ab
open Go
theorem b2n (x : Nat) : Ieee.double.order x x = if j5 x then none else some .eq := by
 rw [<- J1]
 unfold Ieee.Format.order
 cases Ieee.double.read x with
 | nan s t => simp [Ieee.Datum.order, Ieee.Datum.isNaN]
 | infinity s => simp [Ieee.Datum.order, Ieee.Datum.isNaN, Nat.compare_eq_eq]
 | number s m i => simp [Ieee.Datum.order, Ieee.Datum.isNaN]
theorem a2p (x : Nat) : fcmp .ne x x = j5 x := by
 simp only [fcmp, b2n]; cases j5 x <;> rfl
theorem b5Y (x : Nat) : fcmp .eq x x = !j5 x := by
 simp only [fcmp, b2n]; cases j5 x <;> rfl
theorem a3C (op : BinOp) (a b : Int) : 0 <= A1 op .u64 a b /\ A1 op .u64 a b < 18446744073709551616 := by
 unfold A1
 simp only
 rw [IntKind.wrap_u64]
 omega
theorem M9 (a : Int) : 0 <= IntKind.wrap .u64 a /\ IntKind.wrap .u64 a < 18446744073709551616 := by
 rw [IntKind.wrap_u64]; omega
def K0 (b : Nat) : Nat := b % 9223372036854775808
theorem b72 {b : Nat} (h : b < 2 ^ 64) : A1 .andNot .u64 b 9223372036854775808 = (K0 b : Nat) := by
 unfold A1 K0
 have e : (BitVec.ofInt IntKind.u64.bits (b : Int) &&& ~~~ BitVec.ofInt IntKind.u64.bits 9223372036854775808).toNat = b % 9223372036854775808 := by
  show (BitVec.ofInt 64 (b : Int) &&& ~~~ BitVec.ofInt 64 9223372036854775808).toNat = b % 9223372036854775808
  have e1 : ~~~ BitVec.ofInt 64 9223372036854775808 = (9223372036854775807#64 : BitVec 64) := by decide
  rw [e1, BitVec.toNat_and]
  have e2 : (BitVec.ofInt 64 (b : Int)).toNat = b := by
   rw [BitVec.ofInt_natCast, BitVec.toNat_ofNat]; omega
  rw [e2]
  show b &&& (2 ^ 63 - 1) = b % 2 ^ 63
  exact Nat.and_two_pow_sub_one_eq_mod b 63
 simp only [e]
 exact a09 (by omega) (by omega)
def fabs (x : Nat) : Nat := cf (K0 x)
theorem c6a {b : Nat} : cf (K0 b) = fabs (cf b) := by
 unfold fabs
 by_cases h : j5 b = true
 ·rw [a7Q h]
  have : j5 (K0 b) = true := by
   unfold j5 K0 at *
   simpa using h
  rw [a7Q this]; rfl
 ·rw [t6 (b := b) (by simpa using h)]
def b1B (x y : Nat) : Nat := cf (A1 .or .u64 (A1 .andNot .u64 x 9223372036854775808) (A1 .and .u64 y 9223372036854775808)).toNat
def a8C (x y : Nat) : Nat :=
 if j5 x = true \/ j5 y = true then qnan
 else if fcmp .eq x y = true then x
 else if fcmp .eq x 0 = true then b1B 1 y
 else if (fcmp .gt y x == fcmp .gt x 0) = true then cf (IntKind.wrap .u64 (x + 1)).toNat
 else cf (IntKind.wrap .u64 (x - 1)).toNat
def finf : Nat := 9218868437227405312
def s5 : Nat := 18442240474082181120
abbrev up (x : Nat) : Nat := a8C x finf
abbrev down (x : Nat) : Nat := a8C x s5
def b3Y (x : Nat) : Bool := fcmp .gt (fabs x) 9218868437227405311
def n9 (x : Nat) : Bool := !j5 x && !b3Y x
def c54 (x y : Nat) : Bool := fcmp .eq x y || (j5 x && j5 y)
abbrev ivV (p : Nat × Nat) : V := .agg [fl p.1, fl p.2]
def E3 (lo hi : Nat) : Nat × Nat := if fcmp .le lo hi = true then (lo, hi) else (s5, finf)
def y8 (a b : Nat × Nat) : Nat × Nat := E3 (down (fop .sub a.1 b.2)) (up (fop .sub a.2 b.1))
def X0 : List Nat -> Nat -> Nat -> Nat × Nat
 | [], lo, hi => E3 (down lo) (up hi)
 | x :: r, lo, hi => if j5 x = true then (s5, finf) else X0 r (if fcmp .lt x lo = true then x else lo) (if fcmp .gt x hi = true then x else hi)
def s6 (a b : Nat × Nat) : Nat × Nat :=
 X0 [fop .mul a.1 b.1, fop .mul a.1 b.2, fop .mul a.2 b.1, fop .mul a.2 b.2] (fop .mul a.1 b.1) (fop .mul a.1 b.1)
theorem b1k {x : Nat} (h : K0 x < 9218868437227405312) : Ieee.double.order (K0 x) 9218868437227405311 ≠ some .gt := by
 have hb : K0 x < 9223372036854775808 := by unfold K0; omega
 generalize K0 x = y at h hb
 have e2 : Ieee.double.read 9218868437227405311 = .number false 9007199254740991 971 := by decide
 have h1 : Ieee.double.signWeight = 9223372036854775808 := rfl
 have h2 : Ieee.double.binade = 4503599627370496 := rfl
 have h3 : Ieee.double.infRung = 9218868437227405312 := rfl
 have h4 : Ieee.double.leastPlace = -1074 := rfl
 have key : ∀ (m : Nat) (i : Int), m <= 9007199254740991 -> i <= 971 -> Ieee.Datum.order (.number false m i) (.number false 9007199254740991 971) ≠ some .gt := by
  intro m i hm hi
  simp only [Ieee.Datum.order, Ieee.signed, Bool.false_eq_true, if_false]
  rw [Int.min_eq_left hi]
  simp only [Int.sub_self, Int.toNat_zero, Nat.shiftLeft_zero]
  intro hc
  have hc := Option.some.inj hc
  rw [Int.compare_eq_gt] at hc
  have : 9007199254740991 <= 9007199254740991 <<< (971 - i).toNat := by
   rw [Nat.shiftLeft_eq]; exact Nat.le_mul_of_pos_right _ (Nat.two_pow_pos _)
  omega
 unfold Ieee.Format.order
 rw [e2]
 unfold Ieee.Format.read
 simp only [h1, h2, h3, h4]
 have m1 : y % 9223372036854775808 = y := Nat.mod_eq_of_lt hb
 have m2 : (y / 9223372036854775808 % 2 == 1) = false := by
  rw [Nat.div_eq_of_lt hb]; rfl
 rw [m1, m2]
 split
 ·exact key _ _ (by omega) (by omega)
 ·refine key _ _ (by omega) ?_
  have : y / 4503599627370496 <= 2046 := by omega
  omega
theorem b2y (x : Nat) : fcmp .eq (fop .sub x x) 0 = n9 x := by
 have h1 : Ieee.double.signWeight = 9223372036854775808 := rfl
 have h2 : Ieee.double.binade = 4503599627370496 := rfl
 have h3 : Ieee.double.infRung = 9218868437227405312 := rfl
 have q0 : fcmp .eq qnan 0 = false := by decide
 cases hd : Ieee.double.read x with
 | nan s t =>
  have hn : j5 x = true := by rw [<- J1, hd]; rfl
  have : fop .sub x x = qnan := by simp [fop, Ieee.Format.sub, hd, Ieee.Datum.sum, Ieee.Datum.opposite]
  rw [this, q0]; simp [n9, hn]
 | infinity s =>
  have hn : j5 x = false := by rw [<- J1, hd]; rfl
  have e : fop .sub x x = qnan := by
   have : ¬ s = !s := by cases s <;> simp
   simp [fop, Ieee.Format.sub, hd, Ieee.Datum.sum, Ieee.Datum.opposite, this]
  have hb : K0 x = 9218868437227405312 := by
   unfold Ieee.Format.read at hd
   simp only [h1, h2, h3] at hd
   unfold K0
   split at hd
   ·cases hd
   ·split at hd
    ·cases hd
    ·split at hd
     ·assumption
     ·cases hd
  have : b3Y x = true := by unfold b3Y fabs; rw [hb]; decide
  rw [e, q0]; simp [n9, this]
 | number s m i =>
  have hn : j5 x = false := by rw [<- J1, hd]; rfl
  have hb : K0 x < 9218868437227405312 := by
   unfold Ieee.Format.read at hd
   simp only [h1, h2, h3] at hd
   unfold K0
   split at hd
   ·omega
   ·split at hd
    ·assumption
    ·split at hd <;> cases hd
  have e : fop .sub x x = 0 := by
   have ht : Ieee.signed s m 0 + Ieee.signed (!s) m 0 = 0 := by
    cases s <;> simp [Ieee.signed] <;> omega
   have hs : (s && !s) = false := by cases s <;> rfl
   have hw : Ieee.double.write (.number false 0 i) = 0 := by simp [Ieee.Format.write, Ieee.Format.nearest, Ieee.Format.word]
   simp [fop, Ieee.Format.sub, hd, Ieee.Datum.sum, Ieee.Datum.opposite, ht, hs, hw, cf, j5]
  have : b3Y x = false := by
   unfold b3Y fabs
   have hnb : j5 (K0 x) = false := by unfold j5 K0 at *; simp; omega
   rw [t6 hnb]
   have := b1k hb
   simp only [fcmp]
   cases hc : Ieee.double.order (K0 x) 9218868437227405311 with
   | none => rfl
   | some o => cases o <;> first | rfl | exact absurd hc this
  rw [e]
  have z : fcmp .eq 0 0 = true := by decide
  rw [z]; simp [n9, hn, this]
end Go.Ab
/- Names turned; a call among rows of which it knows nothing; a nil slice as an empty row; a result laid down as data. -/
namespace Go.Ab
open Go
section
variable {P : Program} {N : Nat -> Prop} {St St' : Nat -> Prop} {m m' m2 : Map} {L L' L2 : Heap} {w w' : World}
theorem Le.ren {sl : List V} (f g : Nat -> Nat -> Nat × Nat)
  (h1 : ∀ X r cells, L.get X r = some cells -> L2.get (f X r).1 (f X r).2 = some (cells.map (V.ren f)) /\ g (f X r).1 (f X r).2 = (X, r))
  (h2 : ∀ X r cells, L2.get X r = some cells -> L.get (g X r).1 (g X r).2 ≠ none /\ f (g X r).1 (g X r).2 = (X, r))
  (h3 : ∀ X r, N X -> L.get X r ≠ none -> f X r = (X, r)) : Le N ⟨sl, L⟩ ⟨sl.map (V.ren f), L2⟩ := by
 refine ⟨by simp, fun E hN St m w cs hl ho hE hs => ?_⟩
 have key : ∀ X r cells, L.get X r = some cells -> L2.get (f X r).1 (f X r).2 = some (cells.map (V.ren f)) /\ (fun X r => m (g X r).1 (g X r).2) (f X r).1 (f X r).2 = m X r := by
  intro X r cells h
  obtain ⟨a, b⟩ := h1 X r cells h
  exact ⟨a, by simp only [b]⟩
 have back : ∀ X r cells, L2.get X r = some cells -> ∃ cells0, L.get (g X r).1 (g X r).2 = some cells0 /\ cells = cells0.map (V.ren f) := by
  intro X r cells h
  obtain ⟨a, b⟩ := h2 X r cells h
  obtain ⟨c0, hc0⟩ := Option.ne_none_iff_exists'.1 a
  have := (h1 _ _ _ hc0).1
  rw [b] at this
  rw [h] at this
  exact ⟨c0, hc0, by simpa using this⟩
 refine ⟨St, fun X r => m (g X r).1 (g X r).2, ⟨ho.st, fun X r cells hX hm => ?_, fun X r cells b C hX hm => ?_, fun X r Y q b C C' hX hY hb hb' => ?_⟩, ⟨hE.frame, ⟨hE.ext.st, hE.ext.keep, fun X r cells hX => ?_⟩, hE.st, fun X r b C hX hm => ?_⟩, fun i hi => ?_⟩
 ·obtain ⟨c0, h4, h5⟩ := back X r cells hX
  rw [ho.nil _ _ _ h4 hm] at h5; simpa using h5
 ·obtain ⟨c0, h4, h5⟩ := back X r cells hX
  obtain ⟨p1, p2, arr, el, p3, p4, p5, p6⟩ := ho.obj _ _ _ b C h4 hm
  refine ⟨p1, p2, arr, el, p3, p4, by rw [h5]; simpa using p5, fun j hj => ?_⟩
  rw [h5, Y4]
  exact VRel.ren f key (p6 j (by rw [h5] at hj; simpa using hj))
 ·obtain ⟨a, b1⟩ : L.get (g X r).1 (g X r).2 ≠ none /\ f (g X r).1 (g X r).2 = (X, r) := by
   obtain ⟨c, hc⟩ := Option.ne_none_iff_exists'.1 hX; exact h2 X r c hc
  obtain ⟨a', b2⟩ : L.get (g Y q).1 (g Y q).2 ≠ none /\ f (g Y q).1 (g Y q).2 = (Y, q) := by
   obtain ⟨c, hc⟩ := Option.ne_none_iff_exists'.1 hY; exact h2 Y q c hc
  obtain ⟨e1, e2⟩ := ho.inj _ _ _ _ b C C' a a' hb hb'
  rw [e1, e2] at b1
  have := b1.symm.trans b2
  simpa using this
 ·obtain ⟨c', h4, h5, h6⟩ := hE.ext.own X r cells hX
  have hf3 := h3 X r (hN X r (by rw [hX]; simp)) (by rw [h4]; simp)
  obtain ⟨a, b1⟩ := h1 X r c' h4
  rw [hf3] at a b1
  exact ⟨_, a, by simpa using h5, fun e => by
   show m (g X r).1 (g X r).2 = _
   rw [b1]; exact h6 (by simpa using e)⟩
 ·obtain ⟨a, b1⟩ : L.get (g X r).1 (g X r).2 ≠ none /\ f (g X r).1 (g X r).2 = (X, r) := by
   obtain ⟨c, hc⟩ := Option.ne_none_iff_exists'.1 hX; exact h2 X r c hc
  rcases hE.src _ _ b C a hm with ⟨h4, h5⟩ | h4
  ·have hf3 := h3 _ _ (hN _ _ h4) a
   rw [b1] at hf3
   have e : g X r = (X, r) := by rw [hf3]
   simp only [e] at h4 h5
   exact .inl ⟨h4, h5⟩
  ·exact .inr h4
 ·have hi' : i < sl.length := by simpa using hi
  show VRel St _ L2 w ((sl.map (V.ren f)).getD i .any) _
  rw [Y4]
  exact VRel.ren f key (hs i hi')
theorem Le.nilrow {sl sl' : List V} {X esz : Nat} (hX : L.fam X = none) (hN : ¬ N X) (hl : sl'.length = sl.length)
  (h : ∀ i, i < sl.length -> sl'.getD i .any = sl.getD i .any \/ (sl.getD i .any = .nil /\ sl'.getD i .any = .sl X 0 0 0 esz 0)) : Le N ⟨sl, L⟩ ⟨sl', (X, [[]]) :: L⟩ := by
 have hg : ∀ Y r, Heap.get ((X, [[]]) :: L) Y r = if Y = X then (if r = 0 then some [] else none) else L.get Y r := by
  intro Y r
  rw [d7]
  split
  ·cases r <;> simp
  ·rfl
 have hno : ∀ r, L.get X r = none := by intro r; unfold Heap.get; rw [hX]; rfl
 refine ⟨hl, fun E hE' St m w cs hlen ho hE hs => ?_⟩
 have hx : ∀ w, Ext St St m (fun Y r => if Y = X then none else m Y r) L ((X, [[]]) :: L) w w := fun w => ⟨fun _ h => h, fun _ _ => rfl, fun Y r cells hY => by
  have : Y ≠ X := fun e => by rw [e, hno] at hY; cases hY
  exact ⟨cells, by rw [hg, if_neg this]; exact hY, d2c _, fun _ => by simp only [if_neg this]⟩⟩
 refine ⟨St, fun Y r => if Y = X then none else m Y r, ⟨ho.st, fun Y r cells hY hm => ?_, fun Y r cells b C hY hm => ?_, fun Y r Z q b C C' hY hZ hm hm' => ?_⟩, ⟨hE.frame, ?_, hE.st, fun Y r b C hY hm => ?_⟩, fun i hi => ?_⟩
 ·rw [hg] at hY
  split at hY
  ·split at hY <;> simp_all
  ·rename_i e; simp only [if_neg e] at hm; exact ho.nil Y r cells hY hm
 ·rw [hg] at hY
  split at hY
  ·rename_i e; simp [if_pos e] at hm
  ·rename_i e; simp only [if_neg e] at hm
   obtain ⟨p1, p2, arr, el, p3, p4, p5, p6⟩ := ho.obj Y r cells b C hY hm
   exact ⟨p1, p2, arr, el, p3, p4, p5, fun j hj => (p6 j hj).mono (hx w)⟩
 ·skip
  split at hm
  ·cases hm
  split at hm'
  ·cases hm'
  rename_i e1 e2
  rw [hg, if_neg e1] at hY
  rw [hg, if_neg e2] at hZ
  exact ho.inj Y r Z q b C C' hY hZ hm hm'
 ·exact hE.ext.trans (hx w)
 ·skip
  split at hm
  ·cases hm
  rename_i e1
  rw [hg, if_neg e1] at hY
  exact hE.src Y r b C hY hm
 ·rcases h i (by rw [<- hl]; exact hi) with e | ⟨e1, e2⟩
  ·simp only [e]; exact (hs i (by rw [<- hl]; exact hi)).mono (hx w)
  ·have := hs i (by rw [<- hl]; exact hi)
   simp only [e1] at this
   simp only [e2]
   rw [this.nil']
   exact .sl (cells := []) (by rw [hg]; simp) (by simp) none 0 rfl (by simp) (by simp) fun _ => .inl rfl
abbrev upF (k : Nat) (X r : Nat) : Nat × Nat := (X + k, r)
def Heap.up (k : Nat) : Heap -> Heap
 | [] => []
 | (X, fam) :: L => (X + k, fam.map fun cells => cells.map (V.ren (upF k))) :: Heap.up k L
theorem b2p : ∀ (L : Heap) (X : Nat), L.next <= X -> L.fam X = none := by
 intro L
 induction L with
 | nil => intro X _; exact d8 X
 | cons p L ih =>
  obtain ⟨Y, f⟩ := p
  intro X h
  rw [b5z] at h
  rw [d5]
  split at h
  ·rw [if_neg (by omega)]; exact ih X (by omega)
  ·rw [if_neg (by omega)]; exact ih X h
theorem c0E (k : Nat) (L : Heap) : ∀ (L' : Heap) (X r : Nat), (∀ Y, k <= Y -> L.fam Y = none) ->
  Heap.get (Heap.up k L' ++ L) X r = if k <= X then (L'.get (X - k) r).map (·.map (V.ren (upF k))) else L.get X r := by
 intro L'
 induction L' with
 | nil =>
  intro X r h
  simp only [Heap.up, List.nil_append, f8, Option.map_none]
  split
  ·unfold Heap.get; rw [h X (by assumption)]; rfl
  ·rfl
 | cons p L' ih =>
  obtain ⟨Y, fam⟩ := p
  intro X r h
  simp only [Heap.up, List.cons_append]
  rw [d7, d7, ih X r h]
  by_cases h1 : k <= X
  ·simp only [h1, if_true]
   by_cases h2 : X = Y + k
   ·have : X - k = Y := by omega
    simp [h2]
   ·have : ¬ X - k = Y := by omega
    simp [h2, this]
  ·have : ¬ X = Y + k := by omega
   simp [h1, this]
theorem a93 {X r : Nat} {c : List V} (h : L.get X r = some c) : X < L.next := by
 by_cases hlt : X < L.next
 ·exact hlt
 ·have := b2p L X (by omega)
  exact absurd this (c0K h)
theorem a6D (K : Nat) (hK : L.next <= K) {f : FuncId} {vs us : List V} {r : V} (hc : AC P f us [] L' r) (hlen : us.length = vs.length)
  (hr : (us = vs /\ ∀ j, j < vs.length -> Bare (vs.getD j .any)) \/ ((∀ j, j < us.length -> Snap L (vs.getD j .any) (us.getD j .any)) /\ PureV r /\ ∀ X q cells, L'.get X q = some cells -> ∀ j, j < cells.length -> PureV (cells.getD j .any))) :
  AC P f vs L (Heap.up K L' ++ L) (r.ren (upF K)) := by
 refine ⟨hc.1, fun St m w cargs ho hsz hargs => ?_⟩
 have core : ∀ (w' : World) (St'' : Nat -> Prop) (m' : Map) (v : Value), (∀ b, b < w.heap.size -> w'.heap[b]? = w.heap[b]?) -> w.heap.size <= w'.heap.size -> w'.os = w.os -> w'.tape = w.tape -> w'.output = w.output ->
   (∀ b, St b -> St'' b) -> (∀ b, St'' b -> St b \/ w.heap.size <= b) -> Objs St'' m' L' w' -> (∀ X q b C, L'.get X q ≠ none -> m' X q = some (b, C) -> w.heap.size <= b) -> VRel St'' m' L' w' r v ->
   ∃ v' St' m'', Ending.returned v = .returned v' /\ Objs St' m'' (Heap.up K L' ++ L) w' /\ VRel St' m'' (Heap.up K L' ++ L) w' (r.ren (upF K)) v' /\ Frame' (a8K m L) w w' /\
    Ext St St' m m'' L (Heap.up K L' ++ L) w w' /\ (∀ b, St' b -> St b \/ w.heap.size <= b) /\ Src m L m'' (Heap.up K L' ++ L) w := by
  intro w' St'' m' v hkeep hsize hos htape hout hst1 hst2 ho' hnew hv
  have hg : ∀ X q, Heap.get (Heap.up K L' ++ L) X q = if K <= X then (L'.get (X - K) q).map (·.map (V.ren (upF K))) else L.get X q :=
   fun X q => c0E K L L' X q (fun Y hY => b2p L Y (Nat.le_trans hK hY))
  let m'' : Map := fun X q => if K <= X then m' (X - K) q else m X q
  have hren : ∀ X q cells, L'.get X q = some cells -> Heap.get (Heap.up K L' ++ L) (upF K X q).1 (upF K X q).2 = some (cells.map (V.ren (upF K))) /\ m'' (upF K X q).1 (upF K X q).2 = m' X q := by
   intro X q cells h
   rw [hg]
   simp [m'', h]
  have hx : Ext St St'' m m'' L (Heap.up K L' ++ L) w w' := by
   refine ⟨hst1, fun b hb => hkeep b (ho.st b hb), fun X q cells hX => ⟨cells, ?_, d2c _, fun _ => ?_⟩⟩
   ·have := a93 hX
    rw [hg, if_neg (by omega)]; exact hX
   ·have := a93 hX
    simp only [m'']; rw [if_neg (by omega)]
  refine ⟨v, St'', m'', rfl, ⟨ho'.st, fun X q cells hX hm => ?_, fun X q cells b C hX hm => ?_, fun X q Y p b C C' hX hY hm hm' => ?_⟩, hv.ren (upF K) hren, ⟨hos, htape, hout, hsize, fun b hb _ => hkeep b hb⟩, hx, hst2, fun X q b C hX hm => ?_⟩
  ·rw [hg] at hX
   simp only [m''] at hm
   split at hX
   ·rename_i e
    rw [if_pos e] at hm
    obtain ⟨c0, h1, h2⟩ := Option.map_eq_some_iff.1 hX
    rw [ho'.nil _ _ _ h1 hm] at h2; simpa using h2.symm
   ·rename_i e; rw [if_neg e] at hm; exact ho.nil _ _ _ hX hm
  ·rw [hg] at hX
   simp only [m''] at hm
   split at hX
   ·rename_i e
    rw [if_pos e] at hm
    obtain ⟨c0, h1, h2⟩ := Option.map_eq_some_iff.1 hX
    obtain ⟨p1, p2, arr, el, p3, p4, p5, p6⟩ := ho'.obj _ _ _ b C h1 hm
    refine ⟨p1, p2, arr, el, p3, p4, by rw [<- h2]; simpa using p5, fun j hj => ?_⟩
    rw [<- h2, Y4]
    exact (p6 j (by rw [<- h2] at hj; simpa using hj)).ren (upF K) hren
   ·rename_i e
    rw [if_neg e] at hm
    obtain ⟨p1, p2, arr, el, p3, p4, p5, p6⟩ := ho.obj _ _ _ b C hX hm
    refine ⟨by omega, fun hs => ?_, arr, el, by rw [hkeep b p1]; exact p3, p4, p5, fun j hj => (p6 j hj).mono hx⟩
    rcases hst2 b hs with h | h
    ·exact p2 h
    ·omega
  ·rw [hg] at hX hY
   simp only [m''] at hm hm'
   split at hX <;> rename_i e1 <;> split at hY <;> rename_i e2
   ·rw [if_pos e1] at hm; rw [if_pos e2] at hm'
    have hX' : L'.get (X - K) q ≠ none := by intro h; rw [h] at hX; exact hX rfl
    have hY' : L'.get (Y - K) p ≠ none := by intro h; rw [h] at hY; exact hY rfl
    obtain ⟨k1, k2⟩ := ho'.inj _ _ _ _ b C C' hX' hY' hm hm'
    exact ⟨by omega, k2⟩
   ·rw [if_pos e1] at hm; rw [if_neg e2] at hm'
    have hX' : L'.get (X - K) q ≠ none := by intro h; rw [h] at hX; exact hX rfl
    obtain ⟨c, hc⟩ := Option.ne_none_iff_exists'.1 hY
    have := (ho.obj _ _ _ b C' hc hm').1
    have := hnew _ _ b C hX' hm
    omega
   ·rw [if_neg e1] at hm; rw [if_pos e2] at hm'
    have hY' : L'.get (Y - K) p ≠ none := by intro h; rw [h] at hY; exact hY rfl
    obtain ⟨c, hc⟩ := Option.ne_none_iff_exists'.1 hX
    have := (ho.obj _ _ _ b C hc hm).1
    have := hnew _ _ b C' hY' hm'
    omega
   ·rw [if_neg e1] at hm; rw [if_neg e2] at hm'
    exact ho.inj _ _ _ _ b C C' hX hY hm hm'
  ·rw [hg] at hX
   simp only [m''] at hm
   split at hX <;> rename_i e1
   ·rw [if_pos e1] at hm
    have hX' : L'.get (X - K) q ≠ none := by intro h; rw [h] at hX; exact hX rfl
    exact .inr (hnew _ _ b C hX' hm)
   ·rw [if_neg e1] at hm
    exact .inl ⟨hX, hm⟩
 rcases hr with ⟨rfl, hbare⟩ | ⟨hsn, hpr, hpc⟩
 ·refine (hc.2 St (fun _ _ => Option.none) w cargs (Objs.none St ho.st) hsz fun j hj => (hbare j hj).strip (hargs j hj)).mono ?_
  rintro e w' ⟨v, St', m', rfl, ho', hv, hfr, hext, hst, hsrc⟩
  have hkeep : ∀ b, b < w.heap.size -> w'.heap[b]? = w.heap[b]? := fun b hb => hfr.block b hb fun ⟨X, r, C, h, _⟩ => by simp [Heap.get, Heap.fam] at h
  exact core w' St' m' v hkeep hfr.size hfr.os hfr.tape hfr.output hext.st hst ho' (fun X q b C h1 h2 => by
   rcases hsrc X q b C h1 h2 with ⟨h3, _⟩ | h3
   ·simp [Heap.get, Heap.fam] at h3
   ·exact h3) hv
 ·refine (hc.2 (fun b => b < w.heap.size) (fun _ _ => Option.none) w cargs (Objs.none _ fun _ h => h) (by omega) fun j hj => Snap.rel ho (hsn j hj) (hargs j (by omega))).mono ?_
  rintro e w' ⟨v, St', m', rfl, ho', hv, hfr, hext, hst, hsrc⟩
  have hkeep : ∀ b, b < w.heap.size -> w'.heap[b]? = w.heap[b]? := fun b hb => hfr.block b hb fun ⟨X, r, C, h, _⟩ => by simp [Heap.get, Heap.fam] at h
  have hnew : ∀ X q b C, L'.get X q ≠ none -> m' X q = some (b, C) -> w.heap.size <= b := fun X q b C h1 h2 => by
   rcases hsrc X q b C h1 h2 with ⟨h3, _⟩ | h3
   ·simp [Heap.get, Heap.fam] at h3
   ·exact h3
  refine core w' St m' v hkeep hfr.size hfr.os hfr.tape hfr.output (fun _ h => h) (fun _ h => .inl h) ⟨fun b hb => Nat.lt_of_lt_of_le (ho.st b hb) hfr.size, ho'.nil, fun X q cells b C h1 h2 => ?_, ho'.inj⟩ hnew (hpr.rel hv)
  obtain ⟨p1, p2, arr, el, p3, p4, p5, p6⟩ := ho'.obj X q cells b C h1 h2
  exact ⟨p1, fun hs => by have := hnew X q b C (by rw [h1]; simp) h2; have := ho.st b hs; omega, arr, el, p3, p4, p5, fun j hj => (hpc X q cells h1 j hj).rel (p6 j hj)⟩
theorem c6N {f : FuncId} {vs us : List V} {r : V} (hc : AC P f us [] L' r) (hlen : us.length = vs.length)
  (hr : (us = vs /\ ∀ j, j < vs.length -> Bare (vs.getD j .any)) \/ ((∀ j, j < us.length -> Snap L (vs.getD j .any) (us.getD j .any)) /\ PureV r /\ ∀ X q cells, L'.get X q = some cells -> ∀ j, j < cells.length -> PureV (cells.getD j .any))) :
  AC P f vs L (Heap.up L.next L' ++ L) (r.ren (upF L.next)) := a6D L.next (d2c _) hc hlen hr
theorem a0L {f : FuncId} {vs : List V} {r d : V} (hc : AC P f vs [] L' r) (h : LeV L' [] (fun X r => (X, r)) r d) : Con P f vs d := by
 refine ⟨hc.1, fun St m w cargs ho hsz hargs => (hc.2 St m w cargs ho hsz hargs).mono ?_⟩
 rintro e w' ⟨v, St', m', rfl, h1, h2, h3, h4, h5, h6⟩
 obtain ⟨St'', m'', k1, k2, k3⟩ := (Wk.fin h).rel (E := ⟨St, m, [], w⟩) (fun X q hX => by simp [Heap.get, Heap.fam] at hX) h1 ⟨h3, h4, h5, h6⟩ (cs := [v]) rfl (fun i hi => by
  have : i = 0 := by simpa using hi
  subst this; exact h2)
 exact ⟨v, St'', m'', rfl, k1, k3 0 (by simp), k2.frame, k2.ext, k2.st, k2.src⟩
end
end Go.Ab
/- Rows of rows of a run's own: headers, rows as a family; a new row joins its family; rows laid down as data. -/
namespace Go.Ab
open Go
abbrev rowV (xs : List Nat) : List V := xs.map fl
abbrev k7 (xs : List Int) : List V := xs.map fI
def hd (X n i : Nat) (len : Nat) : List V := (List.range n).map fun j => if j < i then .sl X j 0 len 1 len else .nil
theorem a2j (X n i len : Nat) : (hd X n i len).length = n := by simp [hd]
theorem c3u (X n i len j : Nat) (h : j < i) (h2 : i <= n) : (hd X n i len).getD j .any = .sl X j 0 len 1 len := by
 have : j < n := by omega
 simp [hd, d10, this, h]
theorem b7B (X n len : Nat) : hd X n 0 len = repl n [.nil] := by
 refine List.ext_getElem? fun j => ?_
 have : ∀ n, repl n [V.nil] = List.replicate n V.nil := by
  intro n
  unfold repl
  induction n with
  | zero => rfl
  | succ n ih => simp [List.replicate_succ, ih]
 rw [this]
 by_cases h : j < n <;> simp [hd, h]
theorem c96 (X n i len : Nat) (h : i < n) : (hd X n i len).set i (.sl X i 0 len 1 len) = hd X n (i + 1) len := by
 refine List.ext_getElem? fun j => ?_
 simp only [hd, List.getElem?_set, List.length_map, List.length_range, List.getElem?_map]
 by_cases h1 : i = j
 ·subst h1; simp [h]
 ·by_cases h2 : j < n
  ·have h3 : (List.range n)[j]? = some j := by simp [h2]
   rw [h3]
   simp only [if_neg h1, Option.map_some]
   by_cases h4 : j < i
   ·rw [if_pos h4, if_pos (by omega)]
   ·rw [if_neg h4, if_neg (by omega)]
  ·have h3 : (List.range n)[j]? = none := by simp; omega
   rw [h3]; simp [h1]
theorem c5Z (X n i len : Nat) : (hd X n i len).all V.isCell = true := by
 simp only [hd, List.all_map, List.all_eq_true]
 intro j _
 simp only [Function.comp]
 split <;> rfl
theorem getE (A : List (List Nat)) (i : Nat) (h : i < A.length) : (A.map rowV)[i]? = some (rowV (A.getD i [])) := by
 simp [h, d10]
theorem setE (A : List (List Nat)) (i : Nat) (xs : List Nat) : (A.map rowV).set i (rowV xs) = (A.set i xs).map rowV := by
 rw [List.map_set]
theorem c1W (n : Nat) : repl n [fl 0] = rowV (List.replicate n 0) := by
 unfold repl
 induction n with
 | zero => rfl
 | succ n ih => simp only [List.replicate_succ, List.flatten_cons, ih]; rfl
theorem b9X (n : Nat) : repl n [fI 0] = k7 (List.replicate n 0) := by
 unfold repl
 induction n with
 | zero => rfl
 | succ n ih => simp only [List.replicate_succ, List.flatten_cons, ih]; rfl
theorem a3w (xs : List Int) (i : Nat) (h : i < xs.length) : (k7 xs).getD i .any = fI (xs.getD i 0) := by
 simp [d10, h]
theorem c1N (xs : List Int) (i : Nat) (v : Int) : (k7 xs).set i (fI v) = k7 (xs.set i v) := by
 unfold k7; rw [List.map_set]
theorem c4k (xs : List Int) : (k7 xs).all V.isCell = true := by simp [V.isCell]
theorem Y3 (f : Nat -> Nat -> Nat × Nat) (xs : List Nat) : (rowV xs).map (V.ren f) = rowV xs := by
 simp [V.ren]
theorem a9y (f : Nat -> Nat -> Nat × Nat) (xs : List Int) : (k7 xs).map (V.ren f) = k7 xs := by
 simp [V.ren]
theorem a15 (f : Nat -> Nat -> Nat × Nat) (A : List (List Nat)) : (A.map rowV).map (fun c => c.map (V.ren f)) = A.map rowV := by
 rw [List.map_map]
 exact List.map_congr_left fun xs _ => Y3 f xs
section
variable {P : Program} {N : Nat -> Prop} {nt : Nat} {Q : Ex -> T -> Prop} {L : Heap}
def renS (f : Nat -> Nat -> Nat × Nat) : Sl -> Sl
 | [] => []
 | (k, v) :: r => (k, v.ren f) :: renS f r
theorem c5F (f : Nat -> Nat -> Nat × Nat) : ∀ (as : Sl) (i : Nat), look (renS f as) i = (look as i).ren f := by
 intro as
 induction as with
 | nil => intro i; simp [renS, look, V.ren]
 | cons p as ih =>
  obtain ⟨k, v⟩ := p
  intro i
  simp only [renS, look, ih]
  split <;> rfl
theorem b6b (f : Nat -> Nat -> Nat × Nat) (as : Sl) : (build nt as).map (V.ren f) = build nt (renS f as) := by
 simp only [build, List.map_map]
 exact List.map_congr_left fun i _ => by simp [c5F]
def Heap.renH (f : Nat -> Nat -> Nat × Nat) : Heap -> Heap
 | [] => []
 | (X, fam) :: L => (X, fam.map fun cells => cells.map (V.ren f)) :: Heap.renH f L
theorem a5U (f : Nat -> Nat -> Nat × Nat) : ∀ (L : Heap) (X r : Nat), Heap.get (Heap.renH f L) X r = (L.get X r).map (·.map (V.ren f)) := by
 intro L
 induction L with
 | nil => intro X r; simp [Heap.renH, f8]
 | cons p L ih =>
  obtain ⟨Y, fam⟩ := p
  intro X r
  simp only [Heap.renH, d7, ih]
  split
  ·simp
  ·rfl
def absF (Y X k : Nat) (a r : Nat) : Nat × Nat := if a = Y /\ r = 0 then (X, k) else (a, r)
theorem LeT.absorb {sls : Sl} {Y X : Nat} {cells : List V} {fam : List (List V)} (hYX : Y ≠ X) (hY : L.fam Y = none) (hX : L.fam X = none) (hN : ¬ N Y) :
  Le N (T.s nt ⟨sls, (Y, [cells]) :: (X, fam) :: L⟩) (T.s nt ⟨renS (absF Y X fam.length) sls, (X, fam.map (fun c => c.map (V.ren (absF Y X fam.length))) ++ [cells.map (V.ren (absF Y X fam.length))]) :: Heap.renH (absF Y X fam.length) L⟩) := by
 have hYn : ∀ r, L.get Y r = none := by intro r; unfold Heap.get; rw [hY]; rfl
 have hXn : ∀ r, L.get X r = none := by intro r; unfold Heap.get; rw [hX]; rfl
 have := Le.ren (N := N) (sl := build nt sls) (L := (Y, [cells]) :: (X, fam) :: L)
  (L2 := (X, fam.map (fun c => c.map (V.ren (absF Y X fam.length))) ++ [cells.map (V.ren (absF Y X fam.length))]) :: Heap.renH (absF Y X fam.length) L)
  (absF Y X fam.length) (fun a r => if a = X /\ r = fam.length then (Y, 0) else (a, r)) ?_ ?_ ?_
 ·simp only [T.s, <- b6b]; exact this
 ·intro a r c h
  rw [d7, d7] at h
  unfold absF
  split at h
  ·rename_i e; subst e
   cases r with
   | zero => simp at h; subst h; simp [d7]
   | succ r => simp at h
  ·rename_i e
   split at h
   ·rename_i e2; subst e2
    have hr : r < fam.length := (List.getElem?_eq_some_iff.1 h).1
    have h1 : ¬ (a = Y /\ r = 0) := fun h => e h.1
    have h2 : ¬ r = fam.length := by omega
    simp only [if_neg h1, d7, if_true]
    refine ⟨?_, by simp [h2]⟩
    rw [d12 (by simpa using hr), List.getElem?_map, h]; rfl
   ·rename_i e2
    have h1 : ¬ (a = Y /\ r = 0) := fun h => e h.1
    simp only [if_neg h1, d7, if_neg e2, a5U, h]
    exact ⟨rfl, by simp [e2]⟩
 ·intro a r c h
  rw [d7] at h
  split at h
  ·rename_i e; subst e
   have hr : r < fam.length + 1 := by have := (List.getElem?_eq_some_iff.1 h).1; simpa using this
   by_cases h2 : r = fam.length
   ·subst h2; simp [d7, absF]
   ·have h3 : r < fam.length := by omega
    have h4 : ¬ (a = Y /\ r = 0) := fun h => hYX h.1.symm
    have h5 : ¬ a = Y := fun h => hYX h.symm
    simp [h2, d7, h5, h3, absF]
  ·rename_i e
   rw [a5U] at h
   obtain ⟨c0, h1, h2⟩ := Option.map_eq_some_iff.1 h
   have h3 : ¬ a = Y := fun e => by rw [e, hYn] at h1; cases h1
   simp [e, d7, h3, h1, absF]
 ·intro a r ha _
  unfold absF
  have : ¬ (a = Y /\ r = 0) := fun h => hN (h.1 ▸ ha)
  rw [if_neg this]
def c9N (N : Nat -> Prop) (nt : Nat) (I : Nat -> T -> Prop) (n : Nat) (t : T) : Prop := ∃ k t', k < n /\ Le N (t.s nt) (t'.s nt) /\ I k t'
def c4H (N : Nat -> Prop) (nt : Nat) (I : Nat -> T -> Prop) (n : Nat) (Q : Ex -> T -> Prop) (e : Ex) (s : T) : Prop := c1q (c9N N nt I n) Q e s
theorem b4R (I : Nat -> T -> Prop) (n : Nat) (s : T) : c4H N nt I n Q .normal s = c9N N nt I n s := rfl
theorem b9F (I : Nat -> T -> Prop) (n i : Nat) (s : T) : c4H N nt I n Q (.exit i) s = Q (.exit i) s := rfl
theorem c1p (I : Nat -> T -> Prop) (n : Nat) (s : T) : c4H N nt I n Q .ret s = Q .ret s := rfl
theorem j4 {c : CA} {s : T} (I : Nat -> T -> Prop) {n : Nat} {s0 : T} (hle : Le N (s.s nt) (s0.s nt)) (h0 : I n s0) (round : ∀ n s, I n s -> xC P N nt c (c4H N nt I n Q) s) : WA P N nt (.loop c) Q s := by
 refine c6x hle (c4p (fun n t => I n t) h0 fun n s hI => WA.mono (a3E _ _ _ (round n s hI)) fun e t ht => ?_)
 cases e with
 | normal => obtain ⟨k, t', hk, hle, hI'⟩ := ht; exact ⟨t', hle, k, hk, hI'⟩
 | exit i => exact ⟨t, .refl _, ht⟩
 | ret => exact ⟨t, .refl _, ht⟩
theorem LeT.empty {as : Sl} {X : Nat} {L1 L2 : Heap} (hX : (L1 ++ L2).fam X = none) : Le N (T.s nt ⟨as, L1 ++ L2⟩) (T.s nt ⟨as, L1 ++ (X, []) :: L2⟩) := by
 have hg : ∀ a r, Heap.get (L1 ++ (X, []) :: L2) a r = Heap.get (L1 ++ L2) a r := by
  intro a r
  induction L1 with
  | nil =>
   simp only [List.nil_append, d7]
   split
   ·rename_i e; subst e
    unfold Heap.get; rw [show Heap.fam L2 a = none from hX]; simp
   ·rfl
  | cons p L1 ih =>
   obtain ⟨Y, fam⟩ := p
   simp only [List.cons_append, d7] at *
   rw [d5] at hX
   split
   ·rfl
   ·split at hX
    ·cases hX
    ·exact ih hX
 refine ⟨rfl, fun E hN St m w cs hl ho hE hs => ?_⟩
 have ho : Objs St m (L1 ++ L2) w := ho
 have hE : Since E St m (L1 ++ L2) w := hE
 have hx : Ext St St m m (L1 ++ L2) (L1 ++ (X, []) :: L2) w w := ⟨fun _ h => h, fun _ _ => rfl, fun a r c h => ⟨c, by rw [hg]; exact h, d2c _, fun _ => rfl⟩⟩
 refine ⟨St, m, ⟨ho.st, fun a r c h => ho.nil a r c (by rw [<- hg]; exact h), fun a r c b C h hm => ?_, fun a r b q x C C' h1 h2 => ho.inj a r b q x C C' (by rw [<- hg]; exact h1) (by rw [<- hg]; exact h2)⟩, ?_, fun i hi => (hs i hi).mono hx⟩
 ·obtain ⟨p1, p2, arr, el, p3, p4, p5, p6⟩ := ho.obj a r c b C (by rw [<- hg]; exact h) hm
  exact ⟨p1, p2, arr, el, p3, p4, p5, fun j hj => (p6 j hj).mono hx⟩
 ·exact ⟨hE.frame, hE.ext.trans hx, hE.st, fun a r b C h1 h2 => hE.src a r b C (by rw [<- hg]; exact h1) h2⟩
theorem a3A {res : List (Nat × Option (Nat × Bool))} {s : T} {r : V} {L' : Heap} (hN : ∀ X, ¬ N X) (h : ResV (s.s nt) res r) (hL : s.L = L') (hr : LeV s.L L' (fun X q => (X, q)) r r)
  (hc : ∀ X q cells, L'.get X q = some cells -> ∀ j, j < cells.length -> LeV L' L' (fun X q => (X, q)) (cells.getD j .any) (cells.getD j .any)) : V5 N nt res r L' .ret s := by
 subst hL
 refine ⟨r, fun X q => (X, q), h, ⟨rfl, fun i hi => ?_, fun X q c hX => ⟨c, hX, rfl, fun j hj => hc X q c hX j hj⟩, fun X q Y p _ _ e => by simpa using e, fun X q h => absurd h (hN X)⟩⟩
 obtain rfl : i = 0 := by simpa using hi
 exact hr
theorem c8n (L : Heap) (ρ : Nat -> Nat -> Nat × Nat) (xs : List Nat) (j : Nat) : LeV L L ρ ((rowV xs).getD j .any) ((rowV xs).getD j .any) := by
 rw [d10, List.getElem?_map]
 cases xs[j]? with
 | none => exact .any _
 | some x => exact .d (.d _)
theorem d1n (L : Heap) (X n len : Nat) (h : ∀ r, r < n -> L.get X r ≠ none) (j : Nat) : LeV L L (fun X q => (X, q)) ((hd X n n len).getD j .any) ((hd X n n len).getD j .any) := by
 by_cases hj : j < n
 ·rw [c3u X n n len j hj (d2c _)]; exact .sl (h j hj) rfl
 ·rw [d10, d17 (by rw [a2j]; omega)]; exact .any _
theorem Y2 {L : Heap} {f : Nat -> Nat -> Prop} {X r n ver : Nat} {xs : List Nat} (hf : f X r) (h : L.get X r = some (rowV xs)) (hn : xs.length = n) (hv : n = ver) : SnapF L f (.sl X r 0 n 1 ver) (rowD xs) := by
 subst hn
 refine .sl (fun _ => hf) h (by simpa using hv) (by simp) (fun i hi => rfl) fun i j hi hj => ?_
 obtain rfl : j = 0 := by omega
 rw [show 0 + i * 1 + 0 = i from by omega, j6 _ _ hi]
 exact .d _
theorem a5t {L : Heap} {f : Nat -> Nat -> Prop} {X r n ver : Nat} {xs : List Int} (hf : f X r) (h : L.get X r = some (k7 xs)) (hn : xs.length = n) (hv : n = ver) : SnapF L f (.sl X r 0 n 1 ver) (rowI xs) := by
 subst hn
 refine .sl (fun _ => hf) h (by simpa using hv) (by simp) (fun i hi => rfl) fun i j hi hj => ?_
 obtain rfl : j = 0 := by omega
 rw [show 0 + i * 1 + 0 = i from by omega, a3w _ _ hi]
 exact .d _
theorem c9z {L : Heap} {f : Nat -> Nat -> Prop} {X H n len ver : Nat} {A : List (List Nat)} (hf : f H 0) (hfx : ∀ r, r < n -> f X r) (h : L.get H 0 = some (hd X n n len)) (hA : ∀ r, r < n -> L.get X r = some (rowV (A.getD r [])) /\ (A.getD r []).length = len)
  (hn : A.length = n) (hv : n = ver) : SnapF L f (.sl H 0 0 n 1 ver) (f9 A) := by
 subst hn
 refine .sl (fun _ => hf) h (by rw [a2j]; exact hv) (by simp [a2j]) (fun i hi => rfl) fun i j hi hj => ?_
 obtain rfl : j = 0 := by omega
 rw [show 0 + i * 1 + 0 = i from by omega, c3u _ _ _ _ _ hi (d2c _)]
 exact Y2 (hfx i hi) (hA i hi).1 (hA i hi).2 rfl
end
section
variable {N : Nat -> Prop} {nt : Nat} {L : Heap}
theorem N4 (L : Heap) (esz : Nat) (xs : List Nat) : r7 L esz (.d (.bor xs.length (rowG xs))) = some (rowV xs) := by
 simp only [r7, y9]
 congr 1
 refine List.ext_getElem? fun i => ?_
 have : (List.range xs.length).flatMap (rowG xs) = (List.range xs.length).map fun i => D.flt (xs.getD i 0) := by
  rw [List.flatMap_def]
  have : ∀ l : List Nat, (l.map (rowG xs)).flatten = l.map fun i => D.flt (xs.getD i 0) := by
   intro l
   induction l with
   | nil => rfl
   | cons x l ih => simp only [List.map_cons, List.flatten_cons, ih, rowG, List.singleton_append]
  exact this _
 rw [this]
 by_cases h : i < xs.length
 ·simp [h, d10]
 ·simp [h]
theorem G4 (n : Nat) (g : Nat -> List D) : t9 (.d (.bor n g)) = n := by simp [t9]
theorem b2w (X n i len : Nat) (v : V) (h : i < n) : ((hd X n i len).set i v).getD i .any = v := by
 simp [d10, hd, h]
theorem b9N : ∀ (new pre suf : List V), s7 (pre ++ suf) pre.length new = pre ++ (new.take suf.length ++ suf.drop new.length) := by
 intro new
 induction new with
 | nil => intro pre suf; simp [s7]
 | cons v new ih =>
  intro pre suf
  simp only [s7]
  cases suf with
  | nil =>
   have e : (pre ++ []).set pre.length v = pre ++ [] := by simp [List.set_eq_of_length_le]
   rw [e]
   have : ∀ (l : List V) (off : Nat) (cells : List V), cells.length <= off -> s7 cells off l = cells := by
    intro l
    induction l with
    | nil => intro off cells _; rfl
    | cons v l ih => intro off cells h; simp only [s7]; rw [List.set_eq_of_length_le h]; exact ih _ _ (by omega)
   rw [this _ _ _ (by simp)]; simp
  | cons x suf =>
   have e : (pre ++ x :: suf).set pre.length v = (pre ++ [v]) ++ suf := by simp [List.set_append]
   rw [e]
   have := ih (pre ++ [v]) suf
   simp only [List.length_append, List.length_cons, List.length_nil, Nat.zero_add] at this
   rw [this]; simp
theorem r8 (cells new : List V) (h : new.length = cells.length) : s7 cells 0 new = new := by
 have := b9N new [] cells
 simp only [List.nil_append, List.length_nil] at this
 rw [this, d2a (by omega), List.drop_eq_nil_of_le (by omega)]; simp
theorem a9Z (Y X n i len : Nat) (h : Y ≠ X) (hi : i < n) : ((hd X n i len).set i (.sl Y 0 0 len 1 len)).map (V.ren (absF Y X i)) = hd X n (i + 1) len := by
 rw [<- c96 X n i len hi]
 refine List.ext_getElem? fun j => ?_
 simp only [List.getElem?_map, List.getElem?_set, a2j]
 by_cases e : i = j
 ·subst e; simp [hi, V.ren, absF]
 ·rw [if_neg e, if_neg e]
  by_cases hj : j < n
  ·have h3 : (List.range n)[j]? = some j := by simp [hj]
   simp only [hd, List.getElem?_map, h3, Option.map_some]
   congr 1
   split
   ·have : ¬ (X = Y /\ j = 0) := fun e => h e.1.symm
    simp [V.ren, absF, this]
   ·rfl
  ·have h3 : (List.range n)[j]? = none := by simp; omega
   simp only [hd, List.getElem?_map, h3, Option.map_none]
theorem a88 (A : List (List Nat)) (i : Nat) (h : i < A.length) : (A.take i).map rowV ++ [rowV (A.getD i [])] = (A.take (i + 1)).map rowV := by
 have e : A.take (i + 1) = A.take i ++ [A.getD i []] := by
  rw [List.take_add_one]; simp [h, d10]
 rw [e, List.map_append]; rfl
theorem a4A (Y X k Z r off n esz ver : Nat) (h : Z ≠ Y) : V.ren (absF Y X k) (.sl Z r off n esz ver) = .sl Z r off n esz ver := by
 simp [V.ren, absF, h]
theorem c7R (f : Nat -> Nat -> Nat × Nat) (x : D) : V.ren f (.d x) = .d x := by simp [V.ren]
theorem c6L {P : Program} {f : FuncId} {vs : List V} {r r2 : V} {L' L2 : Heap} (hc : AC P f vs [] L' r) (hle : Le (fun _ => False) ⟨[r], L'⟩ ⟨[r2], L2⟩) : AC P f vs [] L2 r2 := by
 refine ⟨hc.1, fun St m w cargs ho hsz hargs => (hc.2 St m w cargs ho hsz hargs).mono ?_⟩
 rintro e w' ⟨v, St', m', rfl, h1, h2, h3, h4, h5, h6⟩
 obtain ⟨St'', m'', k1, k2, k3⟩ := hle.2 ⟨St, m, [], w⟩ (fun X q hX => by simp [Heap.get, Heap.fam] at hX) St' m' w' [v] rfl h1 ⟨h3, h4, h5, h6⟩ (fun i hi => by
  have : i = 0 := by simpa using hi
  subst this; exact h2)
 exact ⟨v, St'', m'', rfl, k1, k3 0 (by simp), k2.frame, k2.ext, k2.st, k2.src⟩
def hdo (X o n len : Nat) : List V := (List.range n).map fun j => .sl X (j + o) 0 len 1 len
theorem y4 (X o n len : Nat) : (hdo X o n len).length = n := by simp [hdo]
theorem t4 (X o n len j : Nat) (h : j < n) : (hdo X o n len).getD j .any = .sl X (j + o) 0 len 1 len := by
 simp [hdo, d10, h]
theorem c3t (X o n len : Nat) : (hdo X o n len).all V.isCell = true := by
 simp [hdo, V.isCell]
theorem c97 (f : Nat -> Nat -> Nat × Nat) (X Y o n len : Nat) (h : ∀ j, j < n -> f X j = (Y, j + o)) : (hd X n n len).map (V.ren f) = hdo Y o n len := by
 refine List.ext_getElem? fun j => ?_
 simp only [hd, hdo, List.getElem?_map]
 by_cases hj : j < n
 ·have h3 : (List.range n)[j]? = some j := by simp [hj]
  simp [h3, hj, V.ren, h j hj]
 ·have h3 : (List.range n)[j]? = none := by simp; omega
  simp [h3]
theorem b31 (f : Nat -> Nat -> Nat × Nat) (X o n len Y o' : Nat) (h : ∀ j, j < n -> f X (j + o) = (Y, j + o')) : (hdo X o n len).map (V.ren f) = hdo Y o' n len := by
 simp only [hdo, List.map_map]
 refine List.map_congr_left fun j hj => ?_
 have := h j (by simpa using hj)
 simp [V.ren, this]
theorem b2D {P : Program} {g : FuncId} {vs us : List V} {r : V} {K : V -> Heap -> Prop} (h : Con P g us r) (hl : us.length = vs.length) (hs : ∀ j, j < us.length -> Snap L (vs.getD j .any) (us.getD j .any)) (hr : Scalar r) (hk : K r L) : b1G P g vs L K :=
 ⟨L, r, a5k (.inr ⟨us, hl, hs, hr, h⟩), hk⟩
theorem M0 {X r n ver : Nat} {xs : List Nat} (h : L.get X r = some (rowV xs)) (hn : xs.length = n) (hv : n = ver) : Snap L (.sl X r 0 n 1 ver) (.d (rowD xs)) := by
 subst hn
 refine .sl h (by simpa using hv) (by simp) (fun i hi => rfl) fun i j hi hj => ?_
 obtain rfl : j = 0 := by omega
 rw [show 0 + i * 1 + 0 = i from by omega, j6 _ _ hi]
 exact .d _
theorem b3g {X o H r0 n len ver : Nat} {A : List (List Nat)} (h : L.get H r0 = some (hdo X o n len)) (hA : ∀ r, r < n -> L.get X (r + o) = some (rowV (A.getD r [])) /\ (A.getD r []).length = len)
  (hn : A.length = n) (hv : n = ver) : Snap L (.sl H r0 0 n 1 ver) (.d (f9 A)) := by
 subst hn
 refine .sl h (by rw [y4]; exact hv) (by simp [y4]) (fun i hi => rfl) fun i j hi hj => ?_
 obtain rfl : j = 0 := by omega
 rw [show 0 + i * 1 + 0 = i from by omega, t4 _ _ _ _ _ hi]
 exact M0 (hA i hi).1 (hA i hi).2 rfl
theorem b9R {f : Nat -> Nat -> Prop} {X o H r0 n len ver : Nat} {A : List (List Nat)} (hf : f H r0) (hfx : ∀ r, r < n -> f X (r + o)) (h : L.get H r0 = some (hdo X o n len)) (hA : ∀ r, r < n -> L.get X (r + o) = some (rowV (A.getD r [])) /\ (A.getD r []).length = len)
  (hn : A.length = n) (hv : n = ver) : SnapF L f (.sl H r0 0 n 1 ver) (f9 A) := by
 subst hn
 refine .sl (fun _ => hf) h (by rw [y4]; exact hv) (by simp [y4]) (fun i hi => rfl) fun i j hi hj => ?_
 obtain rfl : j = 0 := by omega
 rw [show 0 + i * 1 + 0 = i from by omega, t4 _ _ _ _ _ hi]
 exact Y2 (hfx i hi) (hA i hi).1 (hA i hi).2 rfl
def swF (X a b Y r : Nat) : Nat × Nat := if Y = X then (X, if r = a then b else if r = b then a else r) else (Y, r)
def b18 (X : Nat) (fam' : List (List V)) : Heap -> Heap
 | [] => []
 | (Y, g) :: L => if X = Y then (Y, fam') :: L else (Y, g) :: b18 X fam' L
theorem a6T (X : Nat) (fam' : List (List V)) : ∀ (L : Heap) (Y r : Nat), L.fam X ≠ none -> Heap.get (b18 X fam' L) Y r = if Y = X then fam'[r]? else L.get Y r := by
 intro L
 induction L with
 | nil => intro Y r h; exact absurd (d8 X) h
 | cons p L ih =>
  obtain ⟨Z, g⟩ := p
  intro Y r h
  simp only [b18]
  rw [d5] at h
  by_cases e : X = Z
  ·subst e; rw [if_pos rfl, d7, d7]; split <;> rfl
  ·rw [if_neg e] at h ⊢
   rw [d7, d7, ih Y r h]
   by_cases e2 : Y = Z
   ·subst e2; rw [if_pos rfl, if_pos rfl, if_neg (fun h => e h.symm)]
   ·rw [if_neg e2, if_neg e2]
theorem LeT.swap {as : Sl} {X a b : Nat} {fam : List (List V)} {ca cb : List V} (hX : L.fam X = some fam) (ha : fam[a]? = some ca) (hb : fam[b]? = some cb) (hN : ∀ Y, ¬ N Y) :
  Le N (T.s nt ⟨as, L⟩) (T.s nt ⟨renS (swF X a b) as, Heap.renH (swF X a b) (b18 X ((fam.set a cb).set b ca) L)⟩) := by
 have hgX : ∀ r, L.get X r = fam[r]? := fun r => by unfold Heap.get; rw [hX]; rfl
 have hla : a < fam.length := (List.getElem?_eq_some_iff.1 ha).1
 have hlb : b < fam.length := (List.getElem?_eq_some_iff.1 hb).1
 have hsw : ∀ r, ((fam.set a cb).set b ca)[if r = a then b else if r = b then a else r]? = fam[r]? := by
  intro r
  simp only [List.getElem?_set, List.length_set]
  by_cases h1 : r = a
  ·subst h1; simp [hlb, ha]
  ·by_cases h2 : r = b
   ·subst h2
    simp only [if_neg h1, if_true]
    rw [if_pos hla, hb]
   ·rw [if_neg h1, if_neg h2, if_neg (fun e => h2 e.symm), if_neg (fun e => h1 e.symm)]
 have hinv : ∀ r, (if (if r = a then b else if r = b then a else r) = a then b else if (if r = a then b else if r = b then a else r) = b then a else (if r = a then b else if r = b then a else r)) = r := by
  intro r; split <;> split <;> (try split) <;> omega
 have := Le.ren (N := N) (sl := build nt as) (L := L) (L2 := Heap.renH (swF X a b) (b18 X ((fam.set a cb).set b ca) L)) (swF X a b) (swF X a b) ?_ ?_ (fun Y r h => absurd h (hN Y))
 ·simp only [T.s, <- b6b]; exact this
 ·intro Y r c h
  unfold swF
  by_cases e : Y = X
  ·subst e
   rw [hgX] at h
   simp only [if_true]
   refine ⟨?_, Prod.ext rfl (hinv r)⟩
   rw [a5U, a6T _ _ _ _ _ (by rw [hX]; simp), if_pos rfl, hsw, h]; rfl
  ·simp only [if_neg e]
   refine ⟨?_, trivial⟩
   rw [a5U, a6T _ _ _ _ _ (by rw [hX]; simp), if_neg e, h]; rfl
 ·intro Y r c h
  rw [a5U, a6T _ _ _ _ _ (by rw [hX]; simp)] at h
  unfold swF
  by_cases e : Y = X
  ·subst e
   rw [if_pos rfl] at h
   simp only [if_true]
   refine ⟨?_, Prod.ext rfl (hinv r)⟩
   obtain ⟨c0, h1, _⟩ := Option.map_eq_some_iff.1 h
   rw [hgX, <- hsw, hinv]
   rw [h1]; simp
  ·rw [if_neg e] at h
   simp only [if_neg e]
   obtain ⟨c0, h1, _⟩ := Option.map_eq_some_iff.1 h
   rw [h1]; simp
theorem f6 {t : Nat} {s : T} {v : V} (ht : t < nt) (h : v = look s.sl t) : resV (s.s nt) (t, none) v := by
 rw [b3s ht]; exact h
theorem a6Q {L : Heap} (h : ∀ X q cells, L.get X q = some cells -> ∀ v ∈ cells, LeV L L (fun X q => (X, q)) v v) :
  ∀ X q cells, L.get X q = some cells -> ∀ j, j < cells.length -> LeV L L (fun X q => (X, q)) (cells.getD j .any) (cells.getD j .any) := by
 intro X q cells hc j hj
 rw [d10, d11 hj]
 exact h X q cells hc _ (List.getElem_mem hj)
theorem a5E {xs : List Nat} {v : V} (h : v ∈ rowV xs) (L L' : Heap) (ρ : Nat -> Nat -> Nat × Nat) : LeV L L' ρ v v := by
 obtain ⟨x, _, rfl⟩ := List.mem_map.1 h
 exact .d (.d _)
theorem b5C {xs : List Int} {v : V} (h : v ∈ k7 xs) (L L' : Heap) (ρ : Nat -> Nat -> Nat × Nat) : LeV L L' ρ v v := by
 obtain ⟨x, _, rfl⟩ := List.mem_map.1 h
 exact .d (.d _)
theorem c8c {X o n len : Nat} {v : V} {L : Heap} (h : v ∈ hdo X o n len) (hL : ∀ r, r < n -> L.get X (r + o) ≠ none) : LeV L L (fun X q => (X, q)) v v := by
 obtain ⟨j, hj, rfl⟩ := List.mem_map.1 h
 exact .sl (hL j (by simpa using hj)) rfl
theorem LeT.drop {as : Sl} {L' : Heap} (hN : ∀ Y, ¬ N Y) (hs : ∀ p ∈ as, LeV L L' (fun X q => (X, q)) p.2 p.2)
  (hr : ∀ X r c, L'.get X r = some c -> L.get X r = some c /\ ∀ v ∈ c, LeV L L' (fun X q => (X, q)) v v) : Le N (T.s nt ⟨as, L⟩) (T.s nt ⟨as, L'⟩) := by
 have hlook : ∀ i, LeV L L' (fun X q => (X, q)) (look as i) (look as i) := by
  intro i
  induction as with
  | nil => exact .any _
  | cons p as ih =>
   obtain ⟨k, v⟩ := p
   simp only [look]
   split
   ·exact hs (k, v) (by simp)
   ·exact ih fun p hp => hs p (by simp [hp])
 refine Le.of_wk (fun X q => (X, q)) ⟨rfl, fun i hi => ?_, fun X r c hc => ?_, fun X r Y q _ _ e => by simpa using e, fun X r h => absurd h (hN X)⟩
 ·simp only [T.s] at hi ⊢
  rw [y5] at hi
  rw [y6 _ hi]
  exact hlook i
 ·obtain ⟨h1, h2⟩ := hr X r c hc
  refine ⟨c, h1, rfl, fun j hj => ?_⟩
  rw [d10, d11 hj]
  exact h2 _ (List.getElem_mem hj)
def ivC (ps : List (Nat × Nat)) : List V := ps.flatMap fun p => [fl p.1, fl p.2]
theorem j7 (ps : List (Nat × Nat)) : (ivC ps).length = ps.length * 2 := by
 induction ps with
 | nil => rfl
 | cons p ps ih => simp only [ivC, List.flatMap_cons, List.length_append, List.length_cons, List.length_nil] at *; omega
theorem a5P (ps : List (Nat × Nat)) : (ivC ps).all V.isCell = true := by
 induction ps with
 | nil => rfl
 | cons p ps ih => simp only [ivC, List.flatMap_cons, List.all_append, Bool.and_eq_true] at *; exact ⟨rfl, ih⟩
theorem c5N (n : Nat) : repl n [fl 0, fl 0] = ivC (List.replicate n (0, 0)) := by
 unfold repl
 induction n with
 | zero => rfl
 | succ n ih => simp only [List.replicate_succ, List.flatten_cons, ih]; rfl
theorem c8x (ps : List (Nat × Nat)) (i a b : Nat) (h : i < ps.length) : ((ivC ps).set (i * 2) (fl a)).set (i * 2 + 1) (fl b) = ivC (ps.set i (a, b)) := by
 induction ps generalizing i with
 | nil => simp at h
 | cons p ps ih =>
  cases i with
  | zero => rfl
  | succ i =>
   have := ih i (by simpa using h)
   have e : (i + 1) * 2 = i * 2 + 1 + 1 := by omega
   simp only [ivC, List.flatMap_cons, List.set_cons_succ, e, List.cons_append, List.nil_append] at *
   rw [this]
theorem c28 (ps : List (Nat × Nat)) (a b : Nat) : ivC ps ++ [fl a, fl b] = ivC (ps ++ [(a, b)]) := by
 simp [ivC]
theorem b3X (ps : List (Nat × Nat)) (i j : Nat) (h : i < ps.length) (hj : j < 2) : (ivC ps).getD (i * 2 + j) .any = .d ((ivG ps i).getD j default) := by
 induction ps generalizing i with
 | nil => simp at h
 | cons p ps ih =>
  cases i with
  | zero =>
   rcases j with _ | _ | j
   ·rfl
   ·rfl
   ·omega
  | succ i =>
   have := ih i (by simpa using h)
   have e : (i + 1) * 2 + j = (i * 2 + j) + 1 + 1 := by omega
   rw [e]
   simpa [ivC, ivG] using this
theorem b60 {f : Nat -> Nat -> Prop} {X r n ver : Nat} {ps : List (Nat × Nat)} (hf : f X r) (h : L.get X r = some (ivC ps)) (hn : ps.length = n) (hv : n * 2 = ver) : SnapF L f (.sl X r 0 n 2 ver) (ivD ps) := by
 subst hn
 refine .sl (fun _ => hf) h (by rw [j7]; exact hv) (by rw [j7]; omega) (fun i hi => rfl) fun i j hi hj => ?_
 rw [show 0 + i * 2 + j = i * 2 + j from by omega, b3X _ _ _ hi hj]
 exact .d _
theorem LeT.nilrow {as as' : Sl} {X esz : Nat} (hX : L.fam X = none) (hN : ¬ N X)
  (h : ∀ i, look as' i = look as i \/ (look as i = .nil /\ look as' i = .sl X 0 0 0 esz 0)) : Le N (T.s nt ⟨as, L⟩) (T.s nt ⟨as', (X, [[]]) :: L⟩) := by
 refine Le.nilrow (esz := esz) hX hN (by simp [y5]) fun i hi => ?_
 rw [y5] at hi
 rw [y6 _ hi, y6 _ hi]
 exact h i
def c1F (o : Option (List V)) (ver off m : Nat) : Option (List V) := match o with
 | some cells => if cells.length = ver /\ off + m <= cells.length then some ((cells.drop off).take m) else none
 | none => none
theorem b6W (L : Heap) (esz X r off k e ver : Nat) : r7 L esz (.sl X r off k e ver) = c1F (L.get X r) ver off (k * esz) := by
 simp only [r7, c1F]; cases L.get X r <;> rfl
theorem b6V (cells : List V) (ver off m : Nat) : c1F (some cells) ver off m = if cells.length = ver /\ off + m <= cells.length then some ((cells.drop off).take m) else none := rfl
theorem b43 (L : Heap) (esz : Nat) : r7 L esz .nil = some [] := by rw [r7]
theorem c1G (X r off k e ver : Nat) : t9 (.sl X r off k e ver) = k := by rw [t9]
theorem b9K : t9 .nil = 0 := by simp [t9]
end
end Go.Ab
/- The rules that evaluate, as one. -/
namespace Go.Ab
open Go
set_option linter.defProp false in
def evS := And.intro @c9r (And.intro @c9p (And.intro @c7y (And.intro @c4E (And.intro @c7w (And.intro @c7x (And.intro @c9q (And.intro @b4U (And.intro @b9H (And.intro @c1s (And.intro @c0P (And.intro @b7Q (And.intro @c9n (And.intro @c7u (And.intro @c4C (And.intro @c1c (And.intro @or_false (And.intro @nm0 (And.intro @nm1 (And.intro @nm2 (And.intro @nm3 (And.intro @c4B (And.intro @c0C (And.intro @c3w (And.intro @c3x (And.intro @c0B (And.intro @c19 (And.intro @c2a (And.intro @b94 (And.intro @b7a (And.intro @true_and (And.intro @and_true (And.intro @b4T (And.intro @b9G (And.intro @c1r (And.intro @b4R (And.intro @b9F (And.intro @c1p (And.intro @c1W (And.intro @b9X (And.intro @b6W (And.intro @b6V (And.intro @b43 (And.intro @c1G (And.intro @b9K (And.intro @N4 (And.intro @G4 (And.intro @Nat.one_mul (And.intro @c5N (And.intro @j7 (And.intro @a5P (And.intro @a2j (And.intro @c5Z (And.intro @y4 (And.intro @c3t (And.intro @c4k (And.intro @c1N (And.intro @Int.toNat_natCast (And.intro @d1J (And.intro @d1H (And.intro @d1G (And.intro @d1F (And.intro @d1E (And.intro @d1D (And.intro @d1C (And.intro @d1B (And.intro @d1A (And.intro @d1z (And.intro @d0F (And.intro @d0E (And.intro @d0D (And.intro @d0C (And.intro @d0B (And.intro @d0A (And.intro @d0z (And.intro @c1n (And.intro @Int.ofNat_lt (And.intro @Int.ofNat_le (And.intro @Int.natCast_nonneg (And.intro @Int.le_refl (And.intro @b9V (And.intro @c03 (And.intro @Nat.zero_mul (And.intro @Nat.mul_one (And.intro @Nat.zero_add (And.intro @Nat.add_zero (And.intro @c5t (And.intro @b5z (And.intro @f8 (And.intro @d7 (And.intro @d8 (And.intro @d5 (And.intro @c8z (And.intro @c5V (And.intro @c49 (And.intro @c8q (And.intro @c2V (And.intro @b7V (And.intro @c33 (And.intro @c0V (And.intro @b7T (And.intro @b7U (And.intro @c0W (And.intro @c5Q (And.intro @c3p (And.intro @c0w (And.intro @c0x (And.intro @c3q (And.intro @b9M (And.intro @b6Y (And.intro @Bool.and_true (And.intro @Bool.true_and (And.intro @Bool.and_false (And.intro @Bool.not_true (And.intro @Bool.not_false (And.intro @Bool.xor_false (And.intro @d2c (And.intro @Nat.lt_add_one (And.intro @Nat.zero_le (And.intro @Nat.zero_lt_succ (And.intro @not_false_eq_true (And.intro @not_true_eq_false (And.intro @and_self (And.intro @and_false (And.intro @false_and (And.intro @Nat.not_lt_zero (And.intro @c9s (And.intro @c4D (And.intro @a9Y (And.intro @b5Q (And.intro @b30 (And.intro @b5w (And.intro @c2z (And.intro @b98 (And.intro @c5r (And.intro @c5q (And.intro @c5p (And.intro @c9L (@c5s))))))))))))))))))))))))))))))))))))))))))))))))))))))))))))))))))))))))))))))))))))))))))))))))))))))))))))))))))))))))))))))))))))))))))
set_option linter.defProp false in
def evT := And.intro @List.zip_cons_cons.{0, 0} (And.intro @List.zip_nil_right.{0, 0} (And.intro @List.zip_nil_left.{0, 0} (And.intro @List.map_cons.{0, 0} (And.intro @List.map_nil.{0, 0} (And.intro @List.append_nil.{0} (And.intro @List.nil_append.{0} (And.intro @List.cons_append.{0} (And.intro @List.length_replicate.{0} (And.intro @List.length_map.{0, 0} (And.intro @List.getD_cons_zero.{0} (And.intro @List.getD_cons_succ.{0} (And.intro @List.drop_succ_cons.{0} (And.intro @List.drop_zero.{0} (And.intro @List.take_succ_cons.{0} (And.intro @List.take_zero.{0} (And.intro @List.take_nil.{0} (And.intro @List.getElem?_cons_zero.{0} (And.intro @List.getElem?_cons_succ.{0} (And.intro @List.length_cons.{0} (And.intro @List.length_nil.{0} (And.intro @List.length_set.{0} (And.intro @List.set_cons_zero.{0} (And.intro @List.set_cons_succ.{0} (And.intro @List.all_cons.{0} (@List.all_nil.{0})))))))))))))))))))))))))
set_option linter.defProp false in
def evU := And.intro @decide_true (And.intro @decide_false (And.intro @decide_eq_true_eq (And.intro @List.mem_cons.{0} (And.intro @List.not_mem_nil.{0} (And.intro @bne_self_eq_false.{0} (And.intro @beq_self_eq_true.{0} (And.intro @ne_eq.{1} (And.intro @Option.some.injEq.{0} (And.intro @gt_iff_lt.{0} (And.intro @ge_iff_le.{0} (And.intro @eq_self.{1} (And.intro @d0K (And.intro @c6d (And.intro @forall_eq_or_imp.{1} (And.intro @forall_eq.{1} (And.intro @false_implies (And.intro @implies_true.{0} (And.intro @implies_true.{1} (And.intro @c1L.eq_1 (And.intro @Inst.places.eq_1 (And.intro @Inst.places.eq_2 (And.intro @Inst.places.eq_3 (And.intro @Inst.places.eq_4 (And.intro @Inst.places.eq_5 (And.intro @Apart.eq_1 (And.intro @Apart.eq_2 (And.intro @Apart.eq_3 (And.intro @Apart.eq_4 (And.intro @Apart.eq_5 (And.intro @Apart.eq_6 (And.intro @Apart.eq_7 (And.intro @Apart.eq_8 (And.intro @Apart.eq_9 (And.intro @xeff.eq_1 (And.intro @xeff.eq_2 (And.intro @xeff.eq_3 (And.intro @xeff.eq_4 (And.intro @xeff.eq_5 (And.intro @xhv.eq_1 (And.intro @xhv.eq_2 (And.intro @xev.eq_1 (And.intro @xev.eq_2 (And.intro @look.eq_1 (And.intro @look.eq_2 (And.intro @argSl.eq_1 (And.intro @argSl.eq_2 (And.intro @keep.eq_1 (And.intro @inBlockT.eq_1 (And.intro @inBlockT.eq_2 (And.intro @pickX.eq_1 (And.intro @pickX.eq_2 (And.intro @callX.eq_1 (And.intro @callX.eq_2 (And.intro @callCX.eq_1 (And.intro @callCX.eq_2 (And.intro @callSX.eq_1 (And.intro @callSX.eq_2 (And.intro @callee.eq_1 (And.intro @callee.eq_2 (And.intro @callee.eq_3 (And.intro @fillV.eq_1 (And.intro @fillV.eq_2 (And.intro @V0.eq_1 (And.intro @V.okPart.eq_1 (And.intro @V.okPart.eq_2 (And.intro @rowD.eq_1 (And.intro @rowI.eq_1 (And.intro @f9.eq_1 (And.intro @ivD.eq_1 (And.intro @rowG.eq_1 (And.intro @a6H.eq_1 (And.intro @a1f.eq_1 (@ivG.eq_1)))))))))))))))))))))))))))))))))))))))))))))))))))))))))))))))))))))))))
end Go.Ab
