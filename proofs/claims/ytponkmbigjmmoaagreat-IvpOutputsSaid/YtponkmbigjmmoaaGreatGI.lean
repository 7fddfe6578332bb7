import Derived.Test.YtponkmbigjmmoaaGreatGH
import Derived.Laws.BitsLemmas
set_option linter.unusedSimpArgs false
set_option linter.unusedVariables false
namespace Go.Ab
open Go
abbrev fl (x : Nat) : V := .d (.flt x)
abbrev fB (b : Bool) : V := .d (.bool b)
abbrev fI (n : Int) : V := .d (.int .i64 n)
def rowG (xs : List Nat) (i : Nat) : List D := [.flt (xs.getD i 0)]
def rowD (xs : List Nat) : D := .bor xs.length (rowG xs)
def a6T (xs : List Int) (i : Nat) : List D := [.int .i64 (xs.getD i 0)]
def rowI (xs : List Int) : D := .bor xs.length (a6T xs)
def a1w (xss : List (List Nat)) (i : Nat) : List D := [rowD (xss.getD i [])]
def g6 (xss : List (List Nat)) : D := .bor xss.length (a1w xss)
def ivG (ps : List (Nat × Nat)) (i : Nat) : List D := [.flt (ps.getD i (0, 0)).1, .flt (ps.getD i (0, 0)).2]
def ivD (ps : List (Nat × Nat)) : D := .bor ps.length (ivG ps)
section
variable {P : Program} {g : FuncId} {vs : List V} {L : Heap} {K : V -> Heap -> Prop} {r : V}
theorem a0 (h : Con P g vs r) (hb : vs.all V.bareB = true) (hk : K r L) : b1U P g vs L K :=
 ⟨L, r, a5w (.inl ⟨hb, h⟩), hk⟩
theorem d7 {nm : Nat} (h : Con P g vs r) (hb : vs.all V.bareB = true) (hk : K r L) : c7y P nm g vs L K := ⟨hb, .inl ⟨r, h, hk⟩⟩
theorem d5 {nm k : Nat} (h : Con P g vs r) (hb : vs.all V.bareB = true) (hk : K r L) : b4M P nm k g vs L K := .inl ⟨vs, r, .inl ⟨rfl, hb⟩, h, hk⟩
theorem b6s {nm k : Nat} {fam : List (List V)} (h : AC P g vs [] [(0, fam)] r) (hb : vs.all V.bareB = true) (hf : L.fam nm = none) (hk : K (r.ren (toF nm)) (L.ins nm (Y8 nm fam))) : b4M P nm k g vs L K :=
 .inr ⟨vs, fam, r, .inl ⟨rfl, hb⟩, h, hf, hk⟩
theorem b8b {nm k : Nat} {us : List V} (h : Con P g us r) (hl : us.length = vs.length) (hs : ∀ j, j < us.length -> Snap (L.old (nm - k)) (vs.getD j .any) (us.getD j .any)) (hr : Scalar r) (hk : K r L) : b4M P nm k g vs L K :=
 .inl ⟨us, r, .inr ⟨hl, hs, hr⟩, h, hk⟩
theorem b8c {nm k : Nat} {us : List V} {fam : List (List V)} (h : AC P g us [] [(0, fam)] r) (hl : us.length = vs.length) (hs : ∀ j, j < us.length -> Snap (L.old (nm - k)) (vs.getD j .any) (us.getD j .any)) (hr : PureV r) (hp : c6N fam)
  (hf : L.fam nm = none) (hk : K (r.ren (toF nm)) (L.ins nm (Y8 nm fam))) : b4M P nm k g vs L K :=
 .inr ⟨us, fam, r, .inr ⟨hl, hs, hr, hp⟩, h, hf, hk⟩
theorem B7 {L' : Heap} (h : AC P g vs L L' r) (hk : K r L') : b1U P g vs L K := ⟨L', r, h, hk⟩
theorem c0j (K : V -> Prop) (x y : V) : c2C true K x y = K x := by simp [c2C]
theorem b7u (K : V -> Prop) (x y : V) : c2C false K x y = K y := by simp [c2C]
theorem f0 {a : Int} (h1 : -9223372036854775808 <= a) (h2 : a < 9223372036854775808) : IntKind.wrap .i64 a = a := by
 rw [IntKind.wrap_i64]; omega
theorem a1r {a : Int} (h1 : 0 <= a) (h2 : a < 18446744073709551616) : IntKind.wrap .u64 a = a := by
 rw [IntKind.wrap_u64]; omega
end
section
variable {P : Program} {N : Nat -> Prop} {nt base : Nat} {Q : Ex -> T -> Prop} {s : T}
def c43 (P : Program) (N : Nat -> Prop) (nt : Nat) (b : CA) (Q : Ex -> T -> Prop) (e : Ex) (s : T) : Prop := c1H (xC P N nt b Q) Q e s
def c07 (P : Program) (N : Nat -> Prop) (nt : Nat) (c : V) (a b : CA) (Q : Ex -> T -> Prop) (s : T) : Prop := c4f c (xC P N nt a Q) (xC P N nt b Q) s
def putI (P : Program) (base : Nat) (dst : Option Nat) (as : Sl) (r : List II) (Q : T -> Prop) (v : V) (L : Heap) : Prop := putT dst as (xI P base r Q) v L
theorem c7L : xC P N nt .skip Q s = Q .normal s := rfl
theorem c9F (l : List II) (live : List Nat) (as : Sl) (L : Heap) : xC P N nt (.reg l live) Q ⟨as, L⟩ = xI P L.next l (c8W live (Q .normal)) ⟨as, L⟩ := rfl
theorem c9D (a b : CA) : xC P N nt (.seq a b) Q s = xC P N nt a (c43 P N nt b Q) s := rfl
theorem c7P (o : Opd) (a b : CA) (as : Sl) (L : Heap) : xC P N nt (.cond o a b) Q ⟨as, L⟩ = c07 P N nt (xev as o) a b Q ⟨as, L⟩ := rfl
theorem c4X (id : Nat) (c : CA) : xC P N nt (.block id c) Q s = xC P N nt c (inBlockT id Q) s := rfl
theorem c7M (c : CA) : xC P N nt (.loop c) Q s = WA P N nt (.loop c) Q s := rfl
def a9v (P : Program) (N : Nat -> Prop) (nt id : Nat) (b : CA) (Q : Ex -> T -> Prop) (e : Ex) (s : T) : Prop := b4c id (xC P N nt b (c0t Q)) Q e s
theorem c9G (l : Nat) : xC P N nt (.lab l) Q s = Q .normal s := rfl
theorem c4W (id : Nat) (a b : CA) : xC P N nt (.scope id a b) Q s = xC P N nt a (a9v P N nt id b Q) s := rfl
theorem a97 (id : Nat) (b : CA) : a9v P N nt id b Q .normal s = Q .normal s := rfl
theorem b54 (id : Nat) (b : CA) : a9v P N nt id b Q .ret s = Q .ret s := rfl
theorem b4d (id i : Nat) (b : CA) : a9v P N nt id b Q (.exit i) s = if i = id then xC P N nt b (c0t Q) s else i < 1000000 /\ Q (.exit i) s := rfl
theorem b5L : c0t Q .normal s = Q .normal s := rfl
theorem c2W : c0t Q .ret s = Q .ret s := rfl
theorem c0s (i : Nat) : c0t Q (.exit i) s = (i < 1000000 /\ Q (.exit i) s) := rfl
theorem c5H (ev : Opd -> V) (pl : List Opd) : offs ev [] pl = True := rfl
theorem c5G (ev : Opd -> V) (b : Opd) (pl : List Opd) : offs ev [b] pl = True := rfl
theorem c5F (ev : Opd -> V) (a b p q : Opd) (pl : List Opd) : offs ev [a, b] (p :: q :: pl) = True := by
 unfold offs; split <;> simp_all
theorem c90 (ev : Opd -> V) (b p : Opd) (k : IntKind) (n : Int) : offs ev [b, .k (.d (.int k n))] [p] = offC (ev b) (ev p) n.toNat := rfl
theorem c5J (X r o ver Y q o' ver' n : Nat) : offC (.ptr X r o ver) (.ptr Y q o' ver') n = (X = Y /\ r = q /\ o' = o + n /\ ver' = ver) := rfl
theorem c7N (id : Nat) : xC P N nt (.exit id) Q s = Q (.exit id) s := rfl
theorem c9E : xC P N nt .ret Q s = Q .ret s := rfl
theorem b47 (b : CA) : c43 P N nt b Q .normal s = xC P N nt b Q s := rfl
theorem b9W (b : CA) (i : Nat) : c43 P N nt b Q (.exit i) s = Q (.exit i) s := rfl
theorem c1K (b : CA) : c43 P N nt b Q .ret s = Q .ret s := rfl
theorem c06 (a b : CA) : c07 P N nt (.d (.bool true)) a b Q s = xC P N nt a Q s := by simp [c07, c4f, c80]
theorem b76 (a b : CA) : c07 P N nt (.d (.bool false)) a b Q s = xC P N nt b Q s := by simp [c07, c4f, c80]
theorem b9 {t : Bool} {a b : CA} (h1 : t = true -> xC P N nt a Q s) (h2 : t = false -> xC P N nt b Q s) : c07 P N nt (.d (.bool t)) a b Q s := ⟨h1, h2⟩
theorem c9C (Q : T -> Prop) : xI P base [] Q s = Q s := rfl
theorem c7K (k : Nat) (d : Option Nat) (i : Inst) (r : List II) (Q : T -> Prop) (as : Sl) (L : Heap) :
  xI P base (⟨k, d, none, [], [], i⟩ :: r) Q ⟨as, L⟩ = xeff P (base + k) i as L (putI P base d as r Q) := rfl
theorem c4V (k : Nat) (d : Option Nat) (b0 : Opd) (bs ind : List Opd) (i : Inst) (r : List II) (Q : T -> Prop) (as : Sl) (L : Heap) :
  xI P base (⟨k, d, none, b0 :: bs, ind, i⟩ :: r) Q ⟨as, L⟩ = (c17 as (b0 :: bs) ind i.places /\ xeff P (base + k) i as L (putI P base d as r Q)) := rfl
theorem c1x (k : Nat) (d : Option Nat) (b0 : Opd) (ind : List Opd) (i : Inst) (r : List II) (Q : T -> Prop) (as : Sl) (L : Heap) :
  xI P base (⟨k, d, none, [], b0 :: ind, i⟩ :: r) Q ⟨as, L⟩ = (c17 as [] (b0 :: ind) i.places /\ xeff P (base + k) i as L (putI P base d as r Q)) := rfl
def a50 (P : Program) (base : Nat) (c : V) (want : Bool) (ii : II) (r : List II) (Q : T -> Prop) (s : T) : Prop :=
 a99 c want (b96 s.sl ii.bs ii.ind ii.i (xeff P (base + ii.k) ii.i s.sl s.L (putI P base ii.dst s.sl r Q))) (putI P base ii.dst s.sl r Q .und s.L)
theorem c4U (k : Nat) (d : Option Nat) (j : Nat) (w : Bool) (bs ind : List Opd) (i : Inst) (r : List II) (Q : T -> Prop) (as : Sl) (L : Heap) :
  xI P base (⟨k, d, some (j, w), bs, ind, i⟩ :: r) Q ⟨as, L⟩ = a50 P base (look as j) w ⟨k, d, none, bs, ind, i⟩ r Q ⟨as, L⟩ := rfl
theorem c0V (w : Bool) (ii : II) (r : List II) (Q : T -> Prop) (h : ii.g = none) : a50 P base (.d (.bool w)) w ii r Q s = xI P base (ii :: r) Q s := by
 simp only [a50, a99, if_true, xI, c4Q, h]; rfl
theorem c3T (ii : II) (r : List II) (Q : T -> Prop) : a50 P base (.d (.bool true)) false ii r Q s = putI P base ii.dst s.sl r Q .und s.L := by simp [a50, a99]
theorem c3U (ii : II) (r : List II) (Q : T -> Prop) : a50 P base (.d (.bool false)) true ii r Q s = putI P base ii.dst s.sl r Q .und s.L := by simp [a50, a99]
theorem c0U (w : Bool) (ii : II) (r : List II) (Q : T -> Prop) : a50 P base (.tup []) w ii r Q s = putI P base ii.dst s.sl r Q .und s.L := by simp [a50, a99]
theorem c2z (d : Nat) (as : Sl) (r : List II) (Q : T -> Prop) (v : V) (L : Heap) : putI P base (some d) as r Q v L = xI P base r Q ⟨(d, v) :: as, L⟩ := rfl
theorem c2A (as : Sl) (r : List II) (Q : T -> Prop) (v : V) (L : Heap) : putI P base none as r Q v L = xI P base r Q ⟨as, L⟩ := rfl
theorem b3D {nt t : Nat} {s : T} {v : V} (ht : t < nt) : resV (s.s nt) (t, none) v = (v = look s.sl t) := by
 simp only [resV, T.s]; rw [z2 _ ht]
end
section
theorem g5 (X r : Nat) : Heap.get [] X r = none := by simp [Heap.get, Heap.fam]
theorem d9 (X : Nat) : Heap.fam [] X = none := by simp [Heap.fam]
theorem d6 (X Y : Nat) (f : List (List V)) (L : Heap) : Heap.fam ((X, f) :: L) Y = if Y = X then some f else Heap.fam L Y := by
 unfold Heap.fam
 rw [List.lookup_cons]
 by_cases h : Y = X
 ·subst h; simp
 ·have e : (Y == X) = false := by simpa using h
  simp [h, e]
theorem d8 (X Y r : Nat) (f : List (List V)) (L : Heap) : Heap.get ((X, f) :: L) Y r = if Y = X then f[r]? else Heap.get L Y r := by
 unfold Heap.get
 rw [d6]
 split <;> rfl
theorem c8P (X : Nat) (f : List (List V)) : Heap.ins X f [] = [(X, f)] := by simp [Heap.ins]
theorem c6b (X Y : Nat) (f g : List (List V)) (L : Heap) : Heap.ins X f ((Y, g) :: L) = if Y < X then (X, f) :: (Y, g) :: L else (Y, g) :: Heap.ins X f L := by simp [Heap.ins]
theorem c5u (X Y r : Nat) (f : List (List V)) (cs : List V) (L : Heap) : Heap.put ((Y, f) :: L) X r cs = if X = Y then (Y, f.set r cs) :: L else (Y, f) :: Heap.put L X r cs := by simp [Heap.put]
theorem c5K : Heap.next [] = 0 := by simp [Heap.next]
theorem b5P (X : Nat) (f : List (List V)) (L : Heap) : Heap.next ((X, f) :: L) = if Heap.next L <= X then X + 1 else Heap.next L := by simp [Heap.next]
theorem c8E (n off : Nat) (cells : List V) : ldv false n off cells = cells.getD off .any := by simp [ldv]
theorem c3j (n off : Nat) (cells : List V) : ldv true n off cells = .agg ((cells.drop off).take n) := by simp [ldv]
theorem b8a (xs : List V) : cellsOf (.agg xs) = xs := by simp [cellsOf]
theorem c4m (x : D) : cellsOf (.d x) = [.d x] := by simp [cellsOf]
theorem c1c (X r off n esz ver : Nat) : cellsOf (.sl X r off n esz ver) = [.sl X r off n esz ver] := by simp [cellsOf]
theorem b78 (X r off ver : Nat) : cellsOf (.ptr X r off ver) = [.ptr X r off ver] := by simp [cellsOf]
theorem b79 : cellsOf .nil = [.nil] := by simp [cellsOf]
theorem c1d (f : FuncId) (a b : List V) : cellsOf (.fn f a b) = [.fn f a b] := by simp [cellsOf]
theorem c57 (x : D) : (V.d x).isCell = true := by simp [V.isCell]
theorem c3K (X r off n esz ver : Nat) : (V.sl X r off n esz ver).isCell = true := by simp [V.isCell]
theorem c0N (X r off ver : Nat) : (V.ptr X r off ver).isCell = true := by simp [V.isCell]
theorem c0P : V.nil.isCell = true := by simp [V.isCell]
theorem c3L (f : FuncId) (a b : List V) : (V.fn f a b).isCell = true := by simp [V.isCell]
theorem b90 (cells : List V) (off : Nat) : t6 cells off [] = cells := by simp [t6]
theorem b7d (cells : List V) (off : Nat) (v : V) (vs : List V) : t6 cells off (v :: vs) = t6 (cells.set off v) (off + 1) vs := by simp [t6]
theorem K1 {nt t n : Nat} {g : Bool} {s : T} {v : V} {X r off ver : Nat} {cells : List V} (ht : t < nt) (h1 : look s.sl t = .ptr X r off ver) (h2 : s.L.get X r = some cells) (h3 : cells.length = ver) (h4 : off + n <= cells.length)
  (h5 : v = ldv g n off cells) : resV (s.s nt) (t, some (n, g)) v := by
 simp only [resV, T.s]
 rw [z2 _ ht, h1]
 simp only [h2]
 exact ⟨h3, h4, h5⟩
theorem f9 {nt t n : Nat} {g : Bool} {s : T} {r : V} {X row off ver : Nat} {cells : List V} (hb : r.bareB = true) (ht : t < nt) (h1 : look s.sl t = .ptr X row off ver) (h2 : s.L.get X row = some cells) (h3 : cells.length = ver) (h4 : off + n <= cells.length)
  (h5 : r = ldv g n off cells) : M4 (λ_ => False) nt [(t, some (n, g))] r [] .ret s := a0W hb (K1 ht h1 h2 h3 h4 h5)
theorem a0V {nt t : Nat} {s : T} {r : V} (hb : r.bareB = true) (ht : t < nt) (h5 : r = look s.sl t) : M4 (λ_ => False) nt [(t, none)] r [] .ret s :=
 a0W hb (by simp only [ResV]; rw [b3D ht]; exact h5)
theorem g9 {nt t : Nat} {s : T} {r : V} (hb : r.bareB = true := by rfl) (ht : t < nt := by decide) (h5 : r = look s.sl t := by simp [look]) : M4 (λ_ => False) nt [(t, none)] r [] .ret s := a0V hb ht h5
end
section
variable {P : Program} {N : Nat -> Prop} {nt : Nat} {Q : Ex -> T -> Prop}
def c93 (I : Nat -> T -> Prop) (n : Nat) (t : T) : Prop := ∃ k, k < n /\ I k t
def c42 (I : Nat -> T -> Prop) (n : Nat) (Q : Ex -> T -> Prop) (e : Ex) (s : T) : Prop := c1H (c93 I n) Q e s
theorem b46 (I : Nat -> T -> Prop) (n : Nat) (s : T) : c42 I n Q .normal s = c93 I n s := rfl
theorem b9V (I : Nat -> T -> Prop) (n i : Nat) (s : T) : c42 I n Q (.exit i) s = Q (.exit i) s := rfl
theorem c1J (I : Nat -> T -> Prop) (n : Nat) (s : T) : c42 I n Q .ret s = Q .ret s := rfl
theorem r5 {c : CA} {s : T} (I : Nat -> T -> Prop) {n : Nat} (h0 : I n s) (round : ∀ n s, I n s -> xC P N nt c (c42 I n Q) s) : WA P N nt (.loop c) Q s :=
 c4D I h0 λn s hI => a1K _ _ _ (round n s hI)
theorem d1X : ((0 : Nat) : Int) = 0 := rfl
theorem d1W : ((1 : Nat) : Int) = 1 := rfl
theorem d1V : ((2 : Nat) : Int) = 2 := rfl
theorem d1U : ((3 : Nat) : Int) = 3 := rfl
theorem d1T : ((4 : Nat) : Int) = 4 := rfl
theorem d1R : ((5 : Nat) : Int) = 5 := rfl
theorem d1Q : ((6 : Nat) : Int) = 6 := rfl
theorem d1P : ((7 : Nat) : Int) = 7 := rfl
theorem d1N : ((8 : Nat) : Int) = 8 := rfl
theorem d1M : ((9 : Nat) : Int) = 9 := rfl
theorem d0V : ((10 : Nat) : Int) = 10 := rfl
theorem d0U : ((11 : Nat) : Int) = 11 := rfl
theorem d0T : ((12 : Nat) : Int) = 12 := rfl
theorem d0R : ((13 : Nat) : Int) = 13 := rfl
theorem d0Q : ((14 : Nat) : Int) = 14 := rfl
theorem d0P : ((15 : Nat) : Int) = 15 := rfl
theorem d0N : ((16 : Nat) : Int) = 16 := rfl
theorem c1F (i : Nat) : Int.toNat ((i : Int) + 1) = i + 1 := rfl
theorem j8 (xs : List Nat) (i : Nat) (h : i < xs.length) : (xs.map fl).getD i .any = fl (xs.getD i 0) := by
 simp [d2d, h]
theorem b97 (xs : List Nat) (i v : Nat) : (xs.map fl).set i (fl v) = (xs.set i v).map fl := by
 rw [List.map_set]
theorem c1p (xs : List Nat) : (xs.map fl).all V.isCell = true := by
 simp [V.isCell]
end
theorem d0Z (K : V -> Heap -> Prop) (L : Heap) (v : V) : atL K L v = K v L := rfl
theorem c6w (live : List Nat) (Q : T -> Prop) (as' : Sl) (L : Heap) : c8W live Q ⟨as', L⟩ = Q ⟨keep as' live, L⟩ := rfl
end Go.Ab
namespace Go.Ab
open Go
theorem b2z (x : Nat) : Ieee.double.order x x = if j7 x then none else some .eq := by
 rw [<- K2]
 unfold Ieee.Format.order
 cases Ieee.double.read x with
 | nan s t => simp [Ieee.Datum.order, Ieee.Datum.isNaN]
 | infinity s => simp [Ieee.Datum.order, Ieee.Datum.isNaN, Nat.compare_eq_eq]
 | number s m i => simp [Ieee.Datum.order, Ieee.Datum.isNaN]
theorem a2C (x : Nat) : fcmp .ne x x = j7 x := by
 simp only [fcmp, b2z]; cases j7 x <;> rfl
theorem b6b (x : Nat) : fcmp .eq x x = !j7 x := by
 simp only [fcmp, b2z]; cases j7 x <;> rfl
theorem a3T (op : BinOp) (a b : Int) : 0 <= A6 op .u64 a b /\ A6 op .u64 a b < 18446744073709551616 := by
 unfold A6
 simp only
 rw [IntKind.wrap_u64]
 omega
theorem P2 (a : Int) : 0 <= IntKind.wrap .u64 a /\ IntKind.wrap .u64 a < 18446744073709551616 := by
 rw [IntKind.wrap_u64]; omega
def L5 (b : Nat) : Nat := b % 9223372036854775808
theorem b8k {b : Nat} (h : b < 2 ^ 64) : A6 .andNot .u64 b 9223372036854775808 = (L5 b : Nat) := by
 unfold A6 L5
 have e : (BitVec.ofInt IntKind.u64.bits (b : Int) &&& ~~~ BitVec.ofInt IntKind.u64.bits 9223372036854775808).toNat = b % 9223372036854775808 := by
  show (BitVec.ofInt 64 (b : Int) &&& ~~~ BitVec.ofInt 64 9223372036854775808).toNat = b % 9223372036854775808
  have e1 : ~~~ BitVec.ofInt 64 9223372036854775808 = (9223372036854775807#64 : BitVec 64) := by decide
  rw [e1, BitVec.toNat_and]
  have e2 : (BitVec.ofInt 64 (b : Int)).toNat = b := by
   rw [BitVec.ofInt_natCast, BitVec.toNat_ofNat]; omega
  rw [e2]
  show b &&& (2 ^ 63 - 1) = b % 2 ^ 63
  exact Nat.and_two_pow_sub_one_eq_mod b 63
 simp only [e]
 exact a1r (by omega) (by omega)
def fabs (x : Nat) : Nat := cf (L5 x)
theorem c6t {b : Nat} : cf (L5 b) = fabs (cf b) := by
 unfold fabs
 by_cases h : j7 b = true
 ·rw [a7Y h]
  have : j7 (L5 b) = true := by
   unfold j7 L5 at *
   simpa using h
  rw [a7Y this]; rfl
 ·rw [u7 (b := b) (by simpa using h)]
def b1N (x y : Nat) : Nat := cf (A6 .or .u64 (A6 .andNot .u64 x 9223372036854775808) (A6 .and .u64 y 9223372036854775808)).toNat
def a8L (x y : Nat) : Nat :=
 if j7 x = true \/ j7 y = true then qnan
 else if fcmp .eq x y = true then x
 else if fcmp .eq x 0 = true then b1N 1 y
 else if (fcmp .gt y x == fcmp .gt x 0) = true then cf (IntKind.wrap .u64 (x + 1)).toNat
 else cf (IntKind.wrap .u64 (x - 1)).toNat
def finf : Nat := 9218868437227405312
def s8 : Nat := 18442240474082181120
abbrev up (x : Nat) : Nat := a8L x finf
abbrev down (x : Nat) : Nat := a8L x s8
def b4b (x : Nat) : Bool := fcmp .gt (fabs x) 9218868437227405311
def p9 (x : Nat) : Bool := !j7 x && !b4b x
def c6m (x y : Nat) : Bool := fcmp .eq x y || (j7 x && j7 y)
abbrev ivV (p : Nat × Nat) : V := .agg [fl p.1, fl p.2]
def F0 (lo hi : Nat) : Nat × Nat := if fcmp .le lo hi = true then (lo, hi) else (s8, finf)
def z4 (a b : Nat × Nat) : Nat × Nat := F0 (down (fop .sub a.1 b.2)) (up (fop .sub a.2 b.1))
def Y4 : List Nat -> Nat -> Nat -> Nat × Nat
 | [], lo, hi => F0 (down lo) (up hi)
 | x :: r, lo, hi => if j7 x = true then (s8, finf) else Y4 r (if fcmp .lt x lo = true then x else lo) (if fcmp .gt x hi = true then x else hi)
def s9 (a b : Nat × Nat) : Nat × Nat :=
 Y4 [fop .mul a.1 b.1, fop .mul a.1 b.2, fop .mul a.2 b.1, fop .mul a.2 b.2] (fop .mul a.1 b.1) (fop .mul a.1 b.1)
theorem b1x {x : Nat} (h : L5 x < 9218868437227405312) : Ieee.double.order (L5 x) 9218868437227405311 ≠ some .gt := by
 have hb : L5 x < 9223372036854775808 := by unfold L5; omega
 generalize L5 x = y at h hb
 have e2 : Ieee.double.read 9218868437227405311 = .number false 9007199254740991 971 := by decide
 have h1 : Ieee.double.signWeight = 9223372036854775808 := rfl
 have h2 : Ieee.double.binade = 4503599627370496 := rfl
 have h3 : Ieee.double.infRung = 9218868437227405312 := rfl
 have h4 : Ieee.double.leastPlace = -1074 := rfl
 have key : ∀ (m : Nat) (i : Int), m <= 9007199254740991 -> i <= 971 -> Ieee.Datum.order (.number false m i) (.number false 9007199254740991 971) ≠ some .gt := by
  intro m i hm hi
  simp only [Ieee.Datum.order, Ieee.signed, Bool.false_eq_true, if_false]
  rw [Int.min_eq_left hi]
  simp only [Int.sub_self, Int.toNat_zero, Nat.shiftLeft_zero]
  intro hc
  have hc := Option.some.inj hc
  rw [Int.compare_eq_gt] at hc
  have : 9007199254740991 <= 9007199254740991 <<< (971 - i).toNat := by
   rw [Nat.shiftLeft_eq]; exact Nat.le_mul_of_pos_right _ (Nat.two_pow_pos _)
  omega
 unfold Ieee.Format.order
 rw [e2]
 unfold Ieee.Format.read
 simp only [h1, h2, h3, h4]
 have m1 : y % 9223372036854775808 = y := Nat.mod_eq_of_lt hb
 have m2 : (y / 9223372036854775808 % 2 == 1) = false := by
  rw [Nat.div_eq_of_lt hb]; rfl
 rw [m1, m2]
 split
 ·exact key _ _ (by omega) (by omega)
 ·refine key _ _ (by omega) ?_
  have : y / 4503599627370496 <= 2046 := by omega
  omega
theorem b2K (x : Nat) : fcmp .eq (fop .sub x x) 0 = p9 x := by
 have h1 : Ieee.double.signWeight = 9223372036854775808 := rfl
 have h2 : Ieee.double.binade = 4503599627370496 := rfl
 have h3 : Ieee.double.infRung = 9218868437227405312 := rfl
 have q0 : fcmp .eq qnan 0 = false := by decide
 cases hd : Ieee.double.read x with
 | nan s t =>
  have hn : j7 x = true := by rw [<- K2, hd]; rfl
  have : fop .sub x x = qnan := by simp [fop, Ieee.Format.sub, hd, Ieee.Datum.sum, Ieee.Datum.opposite]
  rw [this, q0]; simp [p9, hn]
 | infinity s =>
  have hn : j7 x = false := by rw [<- K2, hd]; rfl
  have e : fop .sub x x = qnan := by
   have : ¬ s = !s := by cases s <;> simp
   simp [fop, Ieee.Format.sub, hd, Ieee.Datum.sum, Ieee.Datum.opposite, this]
  have hb : L5 x = 9218868437227405312 := by
   unfold Ieee.Format.read at hd
   simp only [h1, h2, h3] at hd
   unfold L5
   split at hd
   ·cases hd
   ·split at hd
    ·cases hd
    ·split at hd
     ·assumption
     ·cases hd
  have : b4b x = true := by unfold b4b fabs; rw [hb]; decide
  rw [e, q0]; simp [p9, this]
 | number s m i =>
  have hn : j7 x = false := by rw [<- K2, hd]; rfl
  have hb : L5 x < 9218868437227405312 := by
   unfold Ieee.Format.read at hd
   simp only [h1, h2, h3] at hd
   unfold L5
   split at hd
   ·omega
   ·split at hd
    ·assumption
    ·split at hd <;> cases hd
  have e : fop .sub x x = 0 := by
   have ht : Ieee.signed s m 0 + Ieee.signed (!s) m 0 = 0 := by
    cases s <;> simp [Ieee.signed] <;> omega
   have hs : (s && !s) = false := by cases s <;> rfl
   have hw : Ieee.double.write (.number false 0 i) = 0 := by simp [Ieee.Format.write, Ieee.Format.nearest, Ieee.Format.word]
   simp [fop, Ieee.Format.sub, hd, Ieee.Datum.sum, Ieee.Datum.opposite, ht, hs, hw, cf, j7]
  have : b4b x = false := by
   unfold b4b fabs
   have hnb : j7 (L5 x) = false := by unfold j7 L5 at *; simp; omega
   rw [u7 hnb]
   have := b1x hb
   simp only [fcmp]
   cases hc : Ieee.double.order (L5 x) 9218868437227405311 with
   | none => rfl
   | some o => cases o <;> first | rfl | exact absurd hc this
  rw [e]
  have z : fcmp .eq 0 0 = true := by decide
  rw [z]; simp [p9, hn, this]
end Go.Ab
namespace Go.Ab
open Go
section
variable {P : Program} {N : Nat -> Prop} {St St' : Nat -> Prop} {m m' m2 : Map} {L L' L2 : Heap} {w w' : World}
theorem Le.ren {sl : List V} (f g : Nat -> Nat -> Nat × Nat)
  (h1 : ∀ X r cells, L.get X r = some cells -> L2.get (f X r).1 (f X r).2 = some (cells.map (V.ren f)) /\ g (f X r).1 (f X r).2 = (X, r))
  (h2 : ∀ X r cells, L2.get X r = some cells -> L.get (g X r).1 (g X r).2 ≠ none /\ f (g X r).1 (g X r).2 = (X, r))
  (h3 : ∀ X r, N X -> L.get X r ≠ none -> f X r = (X, r)) : Le N ⟨sl, L⟩ ⟨sl.map (V.ren f), L2⟩ := by
 refine ⟨by simp, λE hN St m w cs hl ho hE hs => ?_⟩
 have key : ∀ X r cells, L.get X r = some cells -> L2.get (f X r).1 (f X r).2 = some (cells.map (V.ren f)) /\ (λX r => m (g X r).1 (g X r).2) (f X r).1 (f X r).2 = m X r := by
  intro X r cells h
  obtain ⟨a, b⟩ := h1 X r cells h
  exact ⟨a, by simp only [b]⟩
 have back : ∀ X r cells, L2.get X r = some cells -> ∃ cells0, L.get (g X r).1 (g X r).2 = some cells0 /\ cells = cells0.map (V.ren f) := by
  intro X r cells h
  obtain ⟨a, b⟩ := h2 X r cells h
  obtain ⟨c0, hc0⟩ := Option.ne_none_iff_exists'.1 a
  have := (h1 _ _ _ hc0).1
  rw [b] at this
  rw [h] at this
  exact ⟨c0, hc0, by simpa using this⟩
 refine ⟨St, λX r => m (g X r).1 (g X r).2, ⟨ho.st, λX r cells hX hm => ?_, λX r cells b C hX hm => ?_, λX r Y q b C C' hX hY hb hb' => ?_⟩, ⟨hE.frame, ⟨hE.ext.st, hE.ext.keep, λX r cells hX => ?_⟩, hE.st, λX r b C hX hm => ?_⟩, λi hi => ?_⟩
 ·obtain ⟨c0, h4, h5⟩ := back X r cells hX
  rw [ho.nil _ _ _ h4 hm] at h5; simpa using h5
 ·obtain ⟨c0, h4, h5⟩ := back X r cells hX
  obtain ⟨p1, p2, arr, el, p3, p4, p5, p6⟩ := ho.obj _ _ _ b C h4 hm
  refine ⟨p1, p2, arr, el, p3, p4, by rw [h5]; simpa using p5, λj hj => ?_⟩
  rw [h5, Z6]
  exact VRel.ren f key (p6 j (by rw [h5] at hj; simpa using hj))
 ·obtain ⟨a, b1⟩ : L.get (g X r).1 (g X r).2 ≠ none /\ f (g X r).1 (g X r).2 = (X, r) := by
   obtain ⟨c, hc⟩ := Option.ne_none_iff_exists'.1 hX; exact h2 X r c hc
  obtain ⟨a', b2⟩ : L.get (g Y q).1 (g Y q).2 ≠ none /\ f (g Y q).1 (g Y q).2 = (Y, q) := by
   obtain ⟨c, hc⟩ := Option.ne_none_iff_exists'.1 hY; exact h2 Y q c hc
  obtain ⟨e1, e2⟩ := ho.inj _ _ _ _ b C C' a a' hb hb'
  rw [e1, e2] at b1
  have := b1.symm.trans b2
  simpa using this
 ·obtain ⟨c', h4, h5, h6⟩ := hE.ext.own X r cells hX
  have hf3 := h3 X r (hN X r (by rw [hX]; simp)) (by rw [h4]; simp)
  obtain ⟨a, b1⟩ := h1 X r c' h4
  rw [hf3] at a b1
  exact ⟨_, a, by simpa using h5, λe => by
   show m (g X r).1 (g X r).2 = _
   rw [b1]; exact h6 (by simpa using e)⟩
 ·obtain ⟨a, b1⟩ : L.get (g X r).1 (g X r).2 ≠ none /\ f (g X r).1 (g X r).2 = (X, r) := by
   obtain ⟨c, hc⟩ := Option.ne_none_iff_exists'.1 hX; exact h2 X r c hc
  rcases hE.src _ _ b C a hm with ⟨h4, h5⟩ | h4
  ·have hf3 := h3 _ _ (hN _ _ h4) a
   rw [b1] at hf3
   have e : g X r = (X, r) := by rw [hf3]
   simp only [e] at h4 h5
   exact .inl ⟨h4, h5⟩
  ·exact .inr h4
 ·have hi' : i < sl.length := by simpa using hi
  show VRel St _ L2 w ((sl.map (V.ren f)).getD i .any) _
  rw [Z6]
  exact VRel.ren f key (hs i hi')
theorem Le.nilrow {sl sl' : List V} {X esz : Nat} (hX : L.fam X = none) (hN : ¬ N X) (hl : sl'.length = sl.length)
  (h : ∀ i, i < sl.length -> sl'.getD i .any = sl.getD i .any \/ (sl.getD i .any = .nil /\ sl'.getD i .any = .sl X 0 0 0 esz 0)) : Le N ⟨sl, L⟩ ⟨sl', (X, [[]]) :: L⟩ := by
 have hg : ∀ Y r, Heap.get ((X, [[]]) :: L) Y r = if Y = X then (if r = 0 then some [] else none) else L.get Y r := by
  intro Y r
  rw [d8]
  split
  ·cases r <;> simp
  ·rfl
 have hno : ∀ r, L.get X r = none := by intro r; unfold Heap.get; rw [hX]; rfl
 refine ⟨hl, λE hE' St m w cs hlen ho hE hs => ?_⟩
 have hx : ∀ w, Ext St St m (λY r => if Y = X then none else m Y r) L ((X, [[]]) :: L) w w := λw => ⟨λ_ h => h, λ_ _ => rfl, λY r cells hY => by
  have : Y ≠ X := λe => by rw [e, hno] at hY; cases hY
  exact ⟨cells, by rw [hg, if_neg this]; exact hY, d2t _, λ_ => by simp only [if_neg this]⟩⟩
 refine ⟨St, λY r => if Y = X then none else m Y r, ⟨ho.st, λY r cells hY hm => ?_, λY r cells b C hY hm => ?_, λY r Z q b C C' hY hZ hm hm' => ?_⟩, ⟨hE.frame, ?_, hE.st, λY r b C hY hm => ?_⟩, λi hi => ?_⟩
 ·rw [hg] at hY
  split at hY
  ·split at hY <;> simp_all
  ·rename_i e; simp only [if_neg e] at hm; exact ho.nil Y r cells hY hm
 ·rw [hg] at hY
  split at hY
  ·rename_i e; simp [if_pos e] at hm
  ·rename_i e; simp only [if_neg e] at hm
   obtain ⟨p1, p2, arr, el, p3, p4, p5, p6⟩ := ho.obj Y r cells b C hY hm
   exact ⟨p1, p2, arr, el, p3, p4, p5, λj hj => (p6 j hj).mono (hx w)⟩
 ·skip
  split at hm
  ·cases hm
  split at hm'
  ·cases hm'
  rename_i e1 e2
  rw [hg, if_neg e1] at hY
  rw [hg, if_neg e2] at hZ
  exact ho.inj Y r Z q b C C' hY hZ hm hm'
 ·exact hE.ext.trans (hx w)
 ·skip
  split at hm
  ·cases hm
  rename_i e1
  rw [hg, if_neg e1] at hY
  exact hE.src Y r b C hY hm
 ·rcases h i (by rw [<- hl]; exact hi) with e | ⟨e1, e2⟩
  ·simp only [e]; exact (hs i (by rw [<- hl]; exact hi)).mono (hx w)
  ·have := hs i (by rw [<- hl]; exact hi)
   simp only [e1] at this
   simp only [e2]
   rw [this.nil']
   exact .sl (cells := []) (by rw [hg]; simp) (by simp) none 0 rfl (by simp) (by simp) λ_ => .inl rfl
abbrev upF (k : Nat) (X r : Nat) : Nat × Nat := (X + k, r)
def Heap.up (k : Nat) : Heap -> Heap
 | [] => []
 | (X, fam) :: L => (X + k, fam.map λcells => cells.map (V.ren (upF k))) :: Heap.up k L
theorem b2A : ∀ (L : Heap) (X : Nat), L.next <= X -> L.fam X = none := by
 intro L
 induction L with
 | nil => intro X _; exact d9 X
 | cons p L ih =>
  obtain ⟨Y, f⟩ := p
  intro X h
  rw [b5P] at h
  rw [d6]
  split at h
  ·rw [if_neg (by omega)]; exact ih X (by omega)
  ·rw [if_neg (by omega)]; exact ih X h
theorem c0X (k : Nat) (L : Heap) : ∀ (L' : Heap) (X r : Nat), (∀ Y, k <= Y -> L.fam Y = none) ->
  Heap.get (Heap.up k L' ++ L) X r = if k <= X then (L'.get (X - k) r).map (·.map (V.ren (upF k))) else L.get X r := by
 intro L'
 induction L' with
 | nil =>
  intro X r h
  simp only [Heap.up, List.nil_append, g5, Option.map_none]
  split
  ·unfold Heap.get; rw [h X (by assumption)]; rfl
  ·rfl
 | cons p L' ih =>
  obtain ⟨Y, fam⟩ := p
  intro X r h
  simp only [Heap.up, List.cons_append]
  rw [d8, d8, ih X r h]
  by_cases h1 : k <= X
  ·simp only [h1, if_true]
   by_cases h2 : X = Y + k
   ·have : X - k = Y := by omega
    simp [h2]
   ·have : ¬ X - k = Y := by omega
    simp [h2, this]
  ·have : ¬ X = Y + k := by omega
   simp [h1, this]
theorem b0d {X r : Nat} {c : List V} (h : L.get X r = some c) : X < L.next := by
 by_cases hlt : X < L.next
 ·exact hlt
 ·have := b2A L X (by omega)
  exact absurd this (c01 h)
theorem a6N (K : Nat) (hK : L.next <= K) {f : FuncId} {vs us : List V} {r : V} (hc : AC P f us [] L' r) (hlen : us.length = vs.length)
  (hr : (us = vs /\ ∀ j, j < vs.length -> Bare (vs.getD j .any)) \/ ((∀ j, j < us.length -> Snap L (vs.getD j .any) (us.getD j .any)) /\ PureV r /\ ∀ X q cells, L'.get X q = some cells -> ∀ j, j < cells.length -> PureV (cells.getD j .any))) :
  AC P f vs L (Heap.up K L' ++ L) (r.ren (upF K)) := by
 refine ⟨hc.1, λSt m w cargs ho hsz hargs => ?_⟩
 have core : ∀ (w' : World) (St'' : Nat -> Prop) (m' : Map) (v : Value), (∀ b, b < w.heap.size -> w'.heap[b]? = w.heap[b]?) -> w.heap.size <= w'.heap.size -> w'.os = w.os -> w'.tape = w.tape -> w'.output = w.output ->
   (∀ b, St b -> St'' b) -> (∀ b, St'' b -> St b \/ w.heap.size <= b) -> Objs St'' m' L' w' -> (∀ X q b C, L'.get X q ≠ none -> m' X q = some (b, C) -> w.heap.size <= b) -> VRel St'' m' L' w' r v ->
   ∃ v' St' m'', Ending.returned v = .returned v' /\ Objs St' m'' (Heap.up K L' ++ L) w' /\ VRel St' m'' (Heap.up K L' ++ L) w' (r.ren (upF K)) v' /\ Frame' (a8V m L) w w' /\
    Ext St St' m m'' L (Heap.up K L' ++ L) w w' /\ (∀ b, St' b -> St b \/ w.heap.size <= b) /\ Src m L m'' (Heap.up K L' ++ L) w := by
  intro w' St'' m' v hkeep hsize hos htape hout hst1 hst2 ho' hnew hv
  have hg : ∀ X q, Heap.get (Heap.up K L' ++ L) X q = if K <= X then (L'.get (X - K) q).map (·.map (V.ren (upF K))) else L.get X q :=
   λX q => c0X K L L' X q (λY hY => b2A L Y (Nat.le_trans hK hY))
  let m'' : Map := λX q => if K <= X then m' (X - K) q else m X q
  have hren : ∀ X q cells, L'.get X q = some cells -> Heap.get (Heap.up K L' ++ L) (upF K X q).1 (upF K X q).2 = some (cells.map (V.ren (upF K))) /\ m'' (upF K X q).1 (upF K X q).2 = m' X q := by
   intro X q cells h
   rw [hg]
   simp [m'', h]
  have hx : Ext St St'' m m'' L (Heap.up K L' ++ L) w w' := by
   refine ⟨hst1, λb hb => hkeep b (ho.st b hb), λX q cells hX => ⟨cells, ?_, d2t _, λ_ => ?_⟩⟩
   ·have := b0d hX
    rw [hg, if_neg (by omega)]; exact hX
   ·have := b0d hX
    simp only [m'']; rw [if_neg (by omega)]
  refine ⟨v, St'', m'', rfl, ⟨ho'.st, λX q cells hX hm => ?_, λX q cells b C hX hm => ?_, λX q Y p b C C' hX hY hm hm' => ?_⟩, hv.ren (upF K) hren, ⟨hos, htape, hout, hsize, λb hb _ => hkeep b hb⟩, hx, hst2, λX q b C hX hm => ?_⟩
  ·rw [hg] at hX
   simp only [m''] at hm
   split at hX
   ·rename_i e
    rw [if_pos e] at hm
    obtain ⟨c0, h1, h2⟩ := Option.map_eq_some_iff.1 hX
    rw [ho'.nil _ _ _ h1 hm] at h2; simpa using h2.symm
   ·rename_i e; rw [if_neg e] at hm; exact ho.nil _ _ _ hX hm
  ·rw [hg] at hX
   simp only [m''] at hm
   split at hX
   ·rename_i e
    rw [if_pos e] at hm
    obtain ⟨c0, h1, h2⟩ := Option.map_eq_some_iff.1 hX
    obtain ⟨p1, p2, arr, el, p3, p4, p5, p6⟩ := ho'.obj _ _ _ b C h1 hm
    refine ⟨p1, p2, arr, el, p3, p4, by rw [<- h2]; simpa using p5, λj hj => ?_⟩
    rw [<- h2, Z6]
    exact (p6 j (by rw [<- h2] at hj; simpa using hj)).ren (upF K) hren
   ·rename_i e
    rw [if_neg e] at hm
    obtain ⟨p1, p2, arr, el, p3, p4, p5, p6⟩ := ho.obj _ _ _ b C hX hm
    refine ⟨by omega, λhs => ?_, arr, el, by rw [hkeep b p1]; exact p3, p4, p5, λj hj => (p6 j hj).mono hx⟩
    rcases hst2 b hs with h | h
    ·exact p2 h
    ·omega
  ·rw [hg] at hX hY
   simp only [m''] at hm hm'
   split at hX <;> rename_i e1 <;> split at hY <;> rename_i e2
   ·rw [if_pos e1] at hm; rw [if_pos e2] at hm'
    have hX' : L'.get (X - K) q ≠ none := by intro h; rw [h] at hX; exact hX rfl
    have hY' : L'.get (Y - K) p ≠ none := by intro h; rw [h] at hY; exact hY rfl
    obtain ⟨k1, k2⟩ := ho'.inj _ _ _ _ b C C' hX' hY' hm hm'
    exact ⟨by omega, k2⟩
   ·rw [if_pos e1] at hm; rw [if_neg e2] at hm'
    have hX' : L'.get (X - K) q ≠ none := by intro h; rw [h] at hX; exact hX rfl
    obtain ⟨c, hc⟩ := Option.ne_none_iff_exists'.1 hY
    have := (ho.obj _ _ _ b C' hc hm').1
    have := hnew _ _ b C hX' hm
    omega
   ·rw [if_neg e1] at hm; rw [if_pos e2] at hm'
    have hY' : L'.get (Y - K) p ≠ none := by intro h; rw [h] at hY; exact hY rfl
    obtain ⟨c, hc⟩ := Option.ne_none_iff_exists'.1 hX
    have := (ho.obj _ _ _ b C hc hm).1
    have := hnew _ _ b C' hY' hm'
    omega
   ·rw [if_neg e1] at hm; rw [if_neg e2] at hm'
    exact ho.inj _ _ _ _ b C C' hX hY hm hm'
  ·rw [hg] at hX
   simp only [m''] at hm
   split at hX <;> rename_i e1
   ·rw [if_pos e1] at hm
    have hX' : L'.get (X - K) q ≠ none := by intro h; rw [h] at hX; exact hX rfl
    exact .inr (hnew _ _ b C hX' hm)
   ·rw [if_neg e1] at hm
    exact .inl ⟨hX, hm⟩
 rcases hr with ⟨rfl, hbare⟩ | ⟨hsn, hpr, hpc⟩
 ·refine (hc.2 St (λ_ _ => Option.none) w cargs (Objs.none St ho.st) hsz λj hj => (hbare j hj).strip (hargs j hj)).mono ?_
  rintro e w' ⟨v, St', m', rfl, ho', hv, hfr, hext, hst, hsrc⟩
  have hkeep : ∀ b, b < w.heap.size -> w'.heap[b]? = w.heap[b]? := λb hb => hfr.block b hb λ⟨X, r, C, h, _⟩ => by simp [Heap.get, Heap.fam] at h
  exact core w' St' m' v hkeep hfr.size hfr.os hfr.tape hfr.output hext.st hst ho' (λX q b C h1 h2 => by
   rcases hsrc X q b C h1 h2 with ⟨h3, _⟩ | h3
   ·simp [Heap.get, Heap.fam] at h3
   ·exact h3) hv
 ·refine (hc.2 (λb => b < w.heap.size) (λ_ _ => Option.none) w cargs (Objs.none _ λ_ h => h) (by omega) λj hj => Snap.rel ho (hsn j hj) (hargs j (by omega))).mono ?_
  rintro e w' ⟨v, St', m', rfl, ho', hv, hfr, hext, hst, hsrc⟩
  have hkeep : ∀ b, b < w.heap.size -> w'.heap[b]? = w.heap[b]? := λb hb => hfr.block b hb λ⟨X, r, C, h, _⟩ => by simp [Heap.get, Heap.fam] at h
  have hnew : ∀ X q b C, L'.get X q ≠ none -> m' X q = some (b, C) -> w.heap.size <= b := λX q b C h1 h2 => by
   rcases hsrc X q b C h1 h2 with ⟨h3, _⟩ | h3
   ·simp [Heap.get, Heap.fam] at h3
   ·exact h3
  refine core w' St m' v hkeep hfr.size hfr.os hfr.tape hfr.output (λ_ h => h) (λ_ h => .inl h) ⟨λb hb => Nat.lt_of_lt_of_le (ho.st b hb) hfr.size, ho'.nil, λX q cells b C h1 h2 => ?_, ho'.inj⟩ hnew (hpr.rel hv)
  obtain ⟨p1, p2, arr, el, p3, p4, p5, p6⟩ := ho'.obj X q cells b C h1 h2
  exact ⟨p1, λhs => by have := hnew X q b C (by rw [h1]; simp) h2; have := ho.st b hs; omega, arr, el, p3, p4, p5, λj hj => (hpc X q cells h1 j hj).rel (p6 j hj)⟩
theorem c63 {f : FuncId} {vs us : List V} {r : V} (hc : AC P f us [] L' r) (hlen : us.length = vs.length)
  (hr : (us = vs /\ ∀ j, j < vs.length -> Bare (vs.getD j .any)) \/ ((∀ j, j < us.length -> Snap L (vs.getD j .any) (us.getD j .any)) /\ PureV r /\ ∀ X q cells, L'.get X q = some cells -> ∀ j, j < cells.length -> PureV (cells.getD j .any))) :
  AC P f vs L (Heap.up L.next L' ++ L) (r.ren (upF L.next)) := a6N L.next (d2t _) hc hlen hr
theorem a00 {f : FuncId} {vs : List V} {r d : V} (hc : AC P f vs [] L' r) (h : LeV L' [] (λX r => (X, r)) r d) : Con P f vs d := by
 refine ⟨hc.1, λSt m w cargs ho hsz hargs => (hc.2 St m w cargs ho hsz hargs).mono ?_⟩
 rintro e w' ⟨v, St', m', rfl, h1, h2, h3, h4, h5, h6⟩
 obtain ⟨St'', m'', k1, k2, k3⟩ := (Wk.fin h).rel (E := ⟨St, m, [], w⟩) (λX q hX => by simp [Heap.get, Heap.fam] at hX) h1 ⟨h3, h4, h5, h6⟩ (cs := [v]) rfl (λi hi => by
  have : i = 0 := by simpa using hi
  subst this; exact h2)
 exact ⟨v, St'', m'', rfl, k1, k3 0 (by simp), k2.frame, k2.ext, k2.st, k2.src⟩
end
end Go.Ab
namespace Go.Ab
open Go
abbrev rowV (xs : List Nat) : List V := xs.map fl
abbrev k7 (xs : List Int) : List V := xs.map fI
def hd (X n i : Nat) (len : Nat) : List V := (List.range n).map λj => if j < i then .sl X j 0 len 1 len else .nil
theorem a2y (X n i len : Nat) : (hd X n i len).length = n := by simp [hd]
theorem c3Q (X n i len j : Nat) (h : j < i) (h2 : i <= n) : (hd X n i len).getD j .any = .sl X j 0 len 1 len := by
 have : j < n := by omega
 simp [hd, d2d, this, h]
theorem b7U (X n len : Nat) : hd X n 0 len = repl n [.nil] := by
 refine List.ext_getElem? λj => ?_
 have : ∀ n, repl n [V.nil] = List.replicate n V.nil := by
  intro n
  unfold repl
  induction n with
  | zero => rfl
  | succ n ih => simp [List.replicate_succ, ih]
 rw [this]
 by_cases h : j < n <;> simp [hd, h]
theorem d0n (X n i len : Nat) (h : i < n) : (hd X n i len).set i (.sl X i 0 len 1 len) = hd X n (i + 1) len := by
 refine List.ext_getElem? λj => ?_
 simp only [hd, List.getElem?_set, List.length_map, List.length_range, List.getElem?_map]
 by_cases h1 : i = j
 ·subst h1; simp [h]
 ·by_cases h2 : j < n
  ·have h3 : (List.range n)[j]? = some j := by simp [h2]
   rw [h3]
   simp only [if_neg h1, Option.map_some]
   by_cases h4 : j < i
   ·rw [if_pos h4, if_pos (by omega)]
   ·rw [if_neg h4, if_neg (by omega)]
  ·have h3 : (List.range n)[j]? = none := by simp; omega
   rw [h3]; simp [h1]
theorem c6g (X n i len : Nat) : (hd X n i len).all V.isCell = true := by
 simp only [hd, List.all_map, List.all_eq_true]
 intro j _
 simp only [Function.comp]
 split <;> rfl
theorem getE (A : List (List Nat)) (i : Nat) (h : i < A.length) : (A.map rowV)[i]? = some (rowV (A.getD i [])) := by
 simp [h, d2d]
theorem setE (A : List (List Nat)) (i : Nat) (xs : List Nat) : (A.map rowV).set i (rowV xs) = (A.set i xs).map rowV := by
 rw [List.map_set]
theorem c2k (n : Nat) : repl n [fl 0] = rowV (List.replicate n 0) := by
 unfold repl
 induction n with
 | zero => rfl
 | succ n ih => simp only [List.replicate_succ, List.flatten_cons, ih]; rfl
theorem b99 (n : Nat) : repl n [fI 0] = k7 (List.replicate n 0) := by
 unfold repl
 induction n with
 | zero => rfl
 | succ n ih => simp only [List.replicate_succ, List.flatten_cons, ih]; rfl
theorem a3L (xs : List Int) (i : Nat) (h : i < xs.length) : (k7 xs).getD i .any = fI (xs.getD i 0) := by
 simp [d2d, h]
theorem c19 (xs : List Int) (i : Nat) (v : Int) : (k7 xs).set i (fI v) = k7 (xs.set i v) := by
 unfold k7; rw [List.map_set]
theorem c4A (xs : List Int) : (k7 xs).all V.isCell = true := by simp [V.isCell]
theorem Z5 (f : Nat -> Nat -> Nat × Nat) (xs : List Nat) : (rowV xs).map (V.ren f) = rowV xs := by
 simp [V.ren]
theorem a9F (f : Nat -> Nat -> Nat × Nat) (xs : List Int) : (k7 xs).map (V.ren f) = k7 xs := by
 simp [V.ren]
theorem a2n (f : Nat -> Nat -> Nat × Nat) (A : List (List Nat)) : (A.map rowV).map (λc => c.map (V.ren f)) = A.map rowV := by
 rw [List.map_map]
 exact List.map_congr_left λxs _ => Z5 f xs
section
variable {P : Program} {N : Nat -> Prop} {nt : Nat} {Q : Ex -> T -> Prop} {L : Heap}
def renS (f : Nat -> Nat -> Nat × Nat) : Sl -> Sl
 | [] => []
 | (k, v) :: r => (k, v.ren f) :: renS f r
theorem c5X (f : Nat -> Nat -> Nat × Nat) : ∀ (as : Sl) (i : Nat), look (renS f as) i = (look as i).ren f := by
 intro as
 induction as with
 | nil => intro i; simp [renS, look, V.ren]
 | cons p as ih =>
  obtain ⟨k, v⟩ := p
  intro i
  simp only [renS, look, ih]
  split <;> rfl
theorem b6t (f : Nat -> Nat -> Nat × Nat) (as : Sl) : (build nt as).map (V.ren f) = build nt (renS f as) := by
 simp only [build, List.map_map]
 exact List.map_congr_left λi _ => by simp [c5X]
def Heap.renH (f : Nat -> Nat -> Nat × Nat) : Heap -> Heap
 | [] => []
 | (X, fam) :: L => (X, fam.map λcells => cells.map (V.ren f)) :: Heap.renH f L
theorem a52 (f : Nat -> Nat -> Nat × Nat) : ∀ (L : Heap) (X r : Nat), Heap.get (Heap.renH f L) X r = (L.get X r).map (·.map (V.ren f)) := by
 intro L
 induction L with
 | nil => intro X r; simp [Heap.renH, g5]
 | cons p L ih =>
  obtain ⟨Y, fam⟩ := p
  intro X r
  simp only [Heap.renH, d8, ih]
  split
  ·simp
  ·rfl
def absF (Y X k : Nat) (a r : Nat) : Nat × Nat := if a = Y /\ r = 0 then (X, k) else (a, r)
theorem LeT.absorb {sls : Sl} {Y X : Nat} {cells : List V} {fam : List (List V)} (hYX : Y ≠ X) (hY : L.fam Y = none) (hX : L.fam X = none) (hN : ¬ N Y) :
  Le N (T.s nt ⟨sls, (Y, [cells]) :: (X, fam) :: L⟩) (T.s nt ⟨renS (absF Y X fam.length) sls, (X, fam.map (λc => c.map (V.ren (absF Y X fam.length))) ++ [cells.map (V.ren (absF Y X fam.length))]) :: Heap.renH (absF Y X fam.length) L⟩) := by
 have hYn : ∀ r, L.get Y r = none := by intro r; unfold Heap.get; rw [hY]; rfl
 have hXn : ∀ r, L.get X r = none := by intro r; unfold Heap.get; rw [hX]; rfl
 have := Le.ren (N := N) (sl := build nt sls) (L := (Y, [cells]) :: (X, fam) :: L)
  (L2 := (X, fam.map (λc => c.map (V.ren (absF Y X fam.length))) ++ [cells.map (V.ren (absF Y X fam.length))]) :: Heap.renH (absF Y X fam.length) L)
  (absF Y X fam.length) (λa r => if a = X /\ r = fam.length then (Y, 0) else (a, r)) ?_ ?_ ?_
 ·simp only [T.s, <- b6t]; exact this
 ·intro a r c h
  rw [d8, d8] at h
  unfold absF
  split at h
  ·rename_i e; subst e
   cases r with
   | zero => simp at h; subst h; simp [d8]
   | succ r => simp at h
  ·rename_i e
   split at h
   ·rename_i e2; subst e2
    have hr : r < fam.length := (List.getElem?_eq_some_iff.1 h).1
    have h1 : ¬ (a = Y /\ r = 0) := λh => e h.1
    have h2 : ¬ r = fam.length := by omega
    simp only [if_neg h1, d8, if_true]
    refine ⟨?_, by simp [h2]⟩
    rw [d2g (by simpa using hr), List.getElem?_map, h]; rfl
   ·rename_i e2
    have h1 : ¬ (a = Y /\ r = 0) := λh => e h.1
    simp only [if_neg h1, d8, if_neg e2, a52, h]
    exact ⟨rfl, by simp [e2]⟩
 ·intro a r c h
  rw [d8] at h
  split at h
  ·rename_i e; subst e
   have hr : r < fam.length + 1 := by have := (List.getElem?_eq_some_iff.1 h).1; simpa using this
   by_cases h2 : r = fam.length
   ·subst h2; simp [d8, absF]
   ·have h3 : r < fam.length := by omega
    have h4 : ¬ (a = Y /\ r = 0) := λh => hYX h.1.symm
    have h5 : ¬ a = Y := λh => hYX h.symm
    simp [h2, d8, h5, h3, absF]
  ·rename_i e
   rw [a52] at h
   obtain ⟨c0, h1, h2⟩ := Option.map_eq_some_iff.1 h
   have h3 : ¬ a = Y := λe => by rw [e, hYn] at h1; cases h1
   simp [e, d8, h3, h1, absF]
 ·intro a r ha _
  unfold absF
  have : ¬ (a = Y /\ r = 0) := λh => hN (h.1 ▸ ha)
  rw [if_neg this]
def c92 (N : Nat -> Prop) (nt : Nat) (I : Nat -> T -> Prop) (n : Nat) (t : T) : Prop := ∃ k t', k < n /\ Le N (t.s nt) (t'.s nt) /\ I k t'
def c41 (N : Nat -> Prop) (nt : Nat) (I : Nat -> T -> Prop) (n : Nat) (Q : Ex -> T -> Prop) (e : Ex) (s : T) : Prop := c1H (c92 N nt I n) Q e s
theorem b45 (I : Nat -> T -> Prop) (n : Nat) (s : T) : c41 N nt I n Q .normal s = c92 N nt I n s := rfl
theorem b9U (I : Nat -> T -> Prop) (n i : Nat) (s : T) : c41 N nt I n Q (.exit i) s = Q (.exit i) s := rfl
theorem c1G (I : Nat -> T -> Prop) (n : Nat) (s : T) : c41 N nt I n Q .ret s = Q .ret s := rfl
theorem j5 {c : CA} {s : T} (I : Nat -> T -> Prop) {n : Nat} {s0 : T} (hle : Le N (s.s nt) (s0.s nt)) (h0 : I n s0) (round : ∀ n s, I n s -> xC P N nt c (c41 N nt I n Q) s) : WA P N nt (.loop c) Q s := by
 refine c6M hle (c4D (λn t => I n t) h0 λn s hI => WA.mono (a1K _ _ _ (round n s hI)) λe t ht => ?_)
 cases e with
 | normal => obtain ⟨k, t', hk, hle, hI'⟩ := ht; exact ⟨t', hle, k, hk, hI'⟩
 | exit i => exact ⟨t, .refl _, ht⟩
 | ret => exact ⟨t, .refl _, ht⟩
theorem LeT.empty {as : Sl} {X : Nat} {L1 L2 : Heap} (hX : (L1 ++ L2).fam X = none) : Le N (T.s nt ⟨as, L1 ++ L2⟩) (T.s nt ⟨as, L1 ++ (X, []) :: L2⟩) := by
 have hg : ∀ a r, Heap.get (L1 ++ (X, []) :: L2) a r = Heap.get (L1 ++ L2) a r := by
  intro a r
  induction L1 with
  | nil =>
   simp only [List.nil_append, d8]
   split
   ·rename_i e; subst e
    unfold Heap.get; rw [show Heap.fam L2 a = none from hX]; simp
   ·rfl
  | cons p L1 ih =>
   obtain ⟨Y, fam⟩ := p
   simp only [List.cons_append, d8] at *
   rw [d6] at hX
   split
   ·rfl
   ·split at hX
    ·cases hX
    ·exact ih hX
 refine ⟨rfl, λE hN St m w cs hl ho hE hs => ?_⟩
 have ho : Objs St m (L1 ++ L2) w := ho
 have hE : Since E St m (L1 ++ L2) w := hE
 have hx : Ext St St m m (L1 ++ L2) (L1 ++ (X, []) :: L2) w w := ⟨λ_ h => h, λ_ _ => rfl, λa r c h => ⟨c, by rw [hg]; exact h, d2t _, λ_ => rfl⟩⟩
 refine ⟨St, m, ⟨ho.st, λa r c h => ho.nil a r c (by rw [<- hg]; exact h), λa r c b C h hm => ?_, λa r b q x C C' h1 h2 => ho.inj a r b q x C C' (by rw [<- hg]; exact h1) (by rw [<- hg]; exact h2)⟩, ?_, λi hi => (hs i hi).mono hx⟩
 ·obtain ⟨p1, p2, arr, el, p3, p4, p5, p6⟩ := ho.obj a r c b C (by rw [<- hg]; exact h) hm
  exact ⟨p1, p2, arr, el, p3, p4, p5, λj hj => (p6 j hj).mono hx⟩
 ·exact ⟨hE.frame, hE.ext.trans hx, hE.st, λa r b C h1 h2 => hE.src a r b C (by rw [<- hg]; exact h1) h2⟩
theorem a3Q {res : List (Nat × Option (Nat × Bool))} {s : T} {r : V} {L' : Heap} (hN : ∀ X, ¬ N X) (h : ResV (s.s nt) res r) (hL : s.L = L') (hr : LeV s.L L' (λX q => (X, q)) r r)
  (hc : ∀ X q cells, L'.get X q = some cells -> ∀ j, j < cells.length -> LeV L' L' (λX q => (X, q)) (cells.getD j .any) (cells.getD j .any)) : M4 N nt res r L' .ret s := by
 subst hL
 refine ⟨r, λX q => (X, q), h, ⟨rfl, λi hi => ?_, λX q c hX => ⟨c, hX, rfl, λj hj => hc X q c hX j hj⟩, λX q Y p _ _ e => by simpa using e, λX q h => absurd h (hN X)⟩⟩
 obtain rfl : i = 0 := by simpa using hi
 exact hr
theorem c8C (L : Heap) (ρ : Nat -> Nat -> Nat × Nat) (xs : List Nat) (j : Nat) : LeV L L ρ ((rowV xs).getD j .any) ((rowV xs).getD j .any) := by
 rw [d2d, List.getElem?_map]
 cases xs[j]? with
 | none => exact .any _
 | some x => exact .d (.d _)
theorem d1z (L : Heap) (X n len : Nat) (h : ∀ r, r < n -> L.get X r ≠ none) (j : Nat) : LeV L L (λX q => (X, q)) ((hd X n n len).getD j .any) ((hd X n n len).getD j .any) := by
 by_cases hj : j < n
 ·rw [c3Q X n n len j hj (d2t _)]; exact .sl (h j hj) rfl
 ·rw [d2d, d2n (by rw [a2y]; omega)]; exact .any _
theorem Z4 {L : Heap} {f : Nat -> Nat -> Prop} {X r n ver : Nat} {xs : List Nat} (hf : f X r) (h : L.get X r = some (rowV xs)) (hn : xs.length = n) (hv : n = ver) : SnapF L f (.sl X r 0 n 1 ver) (rowD xs) := by
 subst hn
 refine .sl (λ_ => hf) h (by simpa using hv) (by simp) (λi hi => rfl) λi j hi hj => ?_
 obtain rfl : j = 0 := by omega
 rw [show 0 + i * 1 + 0 = i from by omega, j8 _ _ hi]
 exact .d _
theorem a5C {L : Heap} {f : Nat -> Nat -> Prop} {X r n ver : Nat} {xs : List Int} (hf : f X r) (h : L.get X r = some (k7 xs)) (hn : xs.length = n) (hv : n = ver) : SnapF L f (.sl X r 0 n 1 ver) (rowI xs) := by
 subst hn
 refine .sl (λ_ => hf) h (by simpa using hv) (by simp) (λi hi => rfl) λi j hi hj => ?_
 obtain rfl : j = 0 := by omega
 rw [show 0 + i * 1 + 0 = i from by omega, a3L _ _ hi]
 exact .d _
theorem c9P {L : Heap} {f : Nat -> Nat -> Prop} {X H n len ver : Nat} {A : List (List Nat)} (hf : f H 0) (hfx : ∀ r, r < n -> f X r) (h : L.get H 0 = some (hd X n n len)) (hA : ∀ r, r < n -> L.get X r = some (rowV (A.getD r [])) /\ (A.getD r []).length = len)
  (hn : A.length = n) (hv : n = ver) : SnapF L f (.sl H 0 0 n 1 ver) (g6 A) := by
 subst hn
 refine .sl (λ_ => hf) h (by rw [a2y]; exact hv) (by simp [a2y]) (λi hi => rfl) λi j hi hj => ?_
 obtain rfl : j = 0 := by omega
 rw [show 0 + i * 1 + 0 = i from by omega, c3Q _ _ _ _ _ hi (d2t _)]
 exact Z4 (hfx i hi) (hA i hi).1 (hA i hi).2 rfl
end
section
variable {N : Nat -> Prop} {nt : Nat} {L : Heap}
theorem P6 (L : Heap) (esz : Nat) (xs : List Nat) : s7 L esz (.d (.bor xs.length (rowG xs))) = some (rowV xs) := by
 simp only [s7, z8]
 congr 1
 refine List.ext_getElem? λi => ?_
 have : (List.range xs.length).flatMap (rowG xs) = (List.range xs.length).map λi => D.flt (xs.getD i 0) := by
  rw [List.flatMap_def]
  have : ∀ l : List Nat, (l.map (rowG xs)).flatten = l.map λi => D.flt (xs.getD i 0) := by
   intro l
   induction l with
   | nil => rfl
   | cons x l ih => simp only [List.map_cons, List.flatten_cons, ih, rowG, List.singleton_append]
  exact this _
 rw [this]
 by_cases h : i < xs.length
 ·simp [h, d2d]
 ·simp [h]
theorem V4 (n : Nat) (g : Nat -> List D) : v4 (.d (.bor n g)) = n := by simp [v4]
theorem b2H (X n i len : Nat) (v : V) (h : i < n) : ((hd X n i len).set i v).getD i .any = v := by
 simp [d2d, hd, h]
theorem b91 : ∀ (new pre suf : List V), t6 (pre ++ suf) pre.length new = pre ++ (new.take suf.length ++ suf.drop new.length) := by
 intro new
 induction new with
 | nil => intro pre suf; simp [t6]
 | cons v new ih =>
  intro pre suf
  simp only [t6]
  cases suf with
  | nil =>
   have e : (pre ++ []).set pre.length v = pre ++ [] := by simp [List.set_eq_of_length_le]
   rw [e]
   have : ∀ (l : List V) (off : Nat) (cells : List V), cells.length <= off -> t6 cells off l = cells := by
    intro l
    induction l with
    | nil => intro off cells _; rfl
    | cons v l ih => intro off cells h; simp only [t6]; rw [List.set_eq_of_length_le h]; exact ih _ _ (by omega)
   rw [this _ _ _ (by simp)]; simp
  | cons x suf =>
   have e : (pre ++ x :: suf).set pre.length v = (pre ++ [v]) ++ suf := by simp [List.set_append]
   rw [e]
   have := ih (pre ++ [v]) suf
   simp only [List.length_append, List.length_cons, List.length_nil, Nat.zero_add] at this
   rw [this]; simp
theorem s4 (cells new : List V) (h : new.length = cells.length) : t6 cells 0 new = new := by
 have := b91 new [] cells
 simp only [List.nil_append, List.length_nil] at this
 rw [this, d2r (by omega), List.drop_eq_nil_of_le (by omega)]; simp
theorem a98 (Y X n i len : Nat) (h : Y ≠ X) (hi : i < n) : ((hd X n i len).set i (.sl Y 0 0 len 1 len)).map (V.ren (absF Y X i)) = hd X n (i + 1) len := by
 rw [<- d0n X n i len hi]
 refine List.ext_getElem? λj => ?_
 simp only [List.getElem?_map, List.getElem?_set, a2y]
 by_cases e : i = j
 ·subst e; simp [hi, V.ren, absF]
 ·rw [if_neg e, if_neg e]
  by_cases hj : j < n
  ·have h3 : (List.range n)[j]? = some j := by simp [hj]
   simp only [hd, List.getElem?_map, h3, Option.map_some]
   congr 1
   split
   ·have : ¬ (X = Y /\ j = 0) := λe => h e.1.symm
    simp [V.ren, absF, this]
   ·rfl
  ·have h3 : (List.range n)[j]? = none := by simp; omega
   simp only [hd, List.getElem?_map, h3, Option.map_none]
theorem a9k (A : List (List Nat)) (i : Nat) (h : i < A.length) : (A.take i).map rowV ++ [rowV (A.getD i [])] = (A.take (i + 1)).map rowV := by
 have e : A.take (i + 1) = A.take i ++ [A.getD i []] := by
  rw [List.take_add_one]; simp [h, d2d]
 rw [e, List.map_append]; rfl
theorem a4L (Y X k Z r off n esz ver : Nat) (h : Z ≠ Y) : V.ren (absF Y X k) (.sl Z r off n esz ver) = .sl Z r off n esz ver := by
 simp [V.ren, absF, h]
theorem c75 (f : Nat -> Nat -> Nat × Nat) (x : D) : V.ren f (.d x) = .d x := by simp [V.ren]
theorem c61 {P : Program} {f : FuncId} {vs : List V} {r r2 : V} {L' L2 : Heap} (hc : AC P f vs [] L' r) (hle : Le (λ_ => False) ⟨[r], L'⟩ ⟨[r2], L2⟩) : AC P f vs [] L2 r2 := by
 refine ⟨hc.1, λSt m w cargs ho hsz hargs => (hc.2 St m w cargs ho hsz hargs).mono ?_⟩
 rintro e w' ⟨v, St', m', rfl, h1, h2, h3, h4, h5, h6⟩
 obtain ⟨St'', m'', k1, k2, k3⟩ := hle.2 ⟨St, m, [], w⟩ (λX q hX => by simp [Heap.get, Heap.fam] at hX) St' m' w' [v] rfl h1 ⟨h3, h4, h5, h6⟩ (λi hi => by
  have : i = 0 := by simpa using hi
  subst this; exact h2)
 exact ⟨v, St'', m'', rfl, k1, k3 0 (by simp), k2.frame, k2.ext, k2.st, k2.src⟩
def hdo (X o n len : Nat) : List V := (List.range n).map λj => .sl X (j + o) 0 len 1 len
theorem y8 (X o n len : Nat) : (hdo X o n len).length = n := by simp [hdo]
theorem u6 (X o n len j : Nat) (h : j < n) : (hdo X o n len).getD j .any = .sl X (j + o) 0 len 1 len := by
 simp [hdo, d2d, h]
theorem c3P (X o n len : Nat) : (hdo X o n len).all V.isCell = true := by
 simp [hdo, V.isCell]
theorem d0p (f : Nat -> Nat -> Nat × Nat) (X Y o n len : Nat) (h : ∀ j, j < n -> f X j = (Y, j + o)) : (hd X n n len).map (V.ren f) = hdo Y o n len := by
 refine List.ext_getElem? λj => ?_
 simp only [hd, hdo, List.getElem?_map]
 by_cases hj : j < n
 ·have h3 : (List.range n)[j]? = some j := by simp [hj]
  simp [h3, hj, V.ren, h j hj]
 ·have h3 : (List.range n)[j]? = none := by simp; omega
  simp [h3]
theorem b4f (f : Nat -> Nat -> Nat × Nat) (X o n len Y o' : Nat) (h : ∀ j, j < n -> f X (j + o) = (Y, j + o')) : (hdo X o n len).map (V.ren f) = hdo Y o' n len := by
 simp only [hdo, List.map_map]
 refine List.map_congr_left λj hj => ?_
 have := h j (by simpa using hj)
 simp [V.ren, this]
theorem b2Q {P : Program} {g : FuncId} {vs us : List V} {r : V} {K : V -> Heap -> Prop} (h : Con P g us r) (hl : us.length = vs.length) (hs : ∀ j, j < us.length -> Snap L (vs.getD j .any) (us.getD j .any)) (hr : Scalar r) (hk : K r L) : b1U P g vs L K :=
 ⟨L, r, a5w (.inr ⟨us, hl, hs, hr, h⟩), hk⟩
theorem N3 {X r n ver : Nat} {xs : List Nat} (h : L.get X r = some (rowV xs)) (hn : xs.length = n) (hv : n = ver) : Snap L (.sl X r 0 n 1 ver) (.d (rowD xs)) := by
 subst hn
 refine .sl h (by simpa using hv) (by simp) (λi hi => rfl) λi j hi hj => ?_
 obtain rfl : j = 0 := by omega
 rw [show 0 + i * 1 + 0 = i from by omega, j8 _ _ hi]
 exact .d _
theorem b3w {X o H r0 n len ver : Nat} {A : List (List Nat)} (h : L.get H r0 = some (hdo X o n len)) (hA : ∀ r, r < n -> L.get X (r + o) = some (rowV (A.getD r [])) /\ (A.getD r []).length = len)
  (hn : A.length = n) (hv : n = ver) : Snap L (.sl H r0 0 n 1 ver) (.d (g6 A)) := by
 subst hn
 refine .sl h (by rw [y8]; exact hv) (by simp [y8]) (λi hi => rfl) λi j hi hj => ?_
 obtain rfl : j = 0 := by omega
 rw [show 0 + i * 1 + 0 = i from by omega, u6 _ _ _ _ _ hi]
 exact N3 (hA i hi).1 (hA i hi).2 rfl
theorem b94 {f : Nat -> Nat -> Prop} {X o H r0 n len ver : Nat} {A : List (List Nat)} (hf : f H r0) (hfx : ∀ r, r < n -> f X (r + o)) (h : L.get H r0 = some (hdo X o n len)) (hA : ∀ r, r < n -> L.get X (r + o) = some (rowV (A.getD r [])) /\ (A.getD r []).length = len)
  (hn : A.length = n) (hv : n = ver) : SnapF L f (.sl H r0 0 n 1 ver) (g6 A) := by
 subst hn
 refine .sl (λ_ => hf) h (by rw [y8]; exact hv) (by simp [y8]) (λi hi => rfl) λi j hi hj => ?_
 obtain rfl : j = 0 := by omega
 rw [show 0 + i * 1 + 0 = i from by omega, u6 _ _ _ _ _ hi]
 exact Z4 (hfx i hi) (hA i hi).1 (hA i hi).2 rfl
def swF (X a b Y r : Nat) : Nat × Nat := if Y = X then (X, if r = a then b else if r = b then a else r) else (Y, r)
def b2n (X : Nat) (fam' : List (List V)) : Heap -> Heap
 | [] => []
 | (Y, g) :: L => if X = Y then (Y, fam') :: L else (Y, g) :: b2n X fam' L
theorem a62 (X : Nat) (fam' : List (List V)) : ∀ (L : Heap) (Y r : Nat), L.fam X ≠ none -> Heap.get (b2n X fam' L) Y r = if Y = X then fam'[r]? else L.get Y r := by
 intro L
 induction L with
 | nil => intro Y r h; exact absurd (d9 X) h
 | cons p L ih =>
  obtain ⟨Z, g⟩ := p
  intro Y r h
  simp only [b2n]
  rw [d6] at h
  by_cases e : X = Z
  ·subst e; rw [if_pos rfl, d8, d8]; split <;> rfl
  ·rw [if_neg e] at h ⊢
   rw [d8, d8, ih Y r h]
   by_cases e2 : Y = Z
   ·subst e2; rw [if_pos rfl, if_pos rfl, if_neg (λh => e h.symm)]
   ·rw [if_neg e2, if_neg e2]
theorem LeT.swap {as : Sl} {X a b : Nat} {fam : List (List V)} {ca cb : List V} (hX : L.fam X = some fam) (ha : fam[a]? = some ca) (hb : fam[b]? = some cb) (hN : ∀ Y, ¬ N Y) :
  Le N (T.s nt ⟨as, L⟩) (T.s nt ⟨renS (swF X a b) as, Heap.renH (swF X a b) (b2n X ((fam.set a cb).set b ca) L)⟩) := by
 have hgX : ∀ r, L.get X r = fam[r]? := λr => by unfold Heap.get; rw [hX]; rfl
 have hla : a < fam.length := (List.getElem?_eq_some_iff.1 ha).1
 have hlb : b < fam.length := (List.getElem?_eq_some_iff.1 hb).1
 have hsw : ∀ r, ((fam.set a cb).set b ca)[if r = a then b else if r = b then a else r]? = fam[r]? := by
  intro r
  simp only [List.getElem?_set, List.length_set]
  by_cases h1 : r = a
  ·subst h1; simp [hlb, ha]
  ·by_cases h2 : r = b
   ·subst h2
    simp only [if_neg h1, if_true]
    rw [if_pos hla, hb]
   ·rw [if_neg h1, if_neg h2, if_neg (λe => h2 e.symm), if_neg (λe => h1 e.symm)]
 have hinv : ∀ r, (if (if r = a then b else if r = b then a else r) = a then b else if (if r = a then b else if r = b then a else r) = b then a else (if r = a then b else if r = b then a else r)) = r := by
  intro r; split <;> split <;> (try split) <;> omega
 have := Le.ren (N := N) (sl := build nt as) (L := L) (L2 := Heap.renH (swF X a b) (b2n X ((fam.set a cb).set b ca) L)) (swF X a b) (swF X a b) ?_ ?_ (λY r h => absurd h (hN Y))
 ·simp only [T.s, <- b6t]; exact this
 ·intro Y r c h
  unfold swF
  by_cases e : Y = X
  ·subst e
   rw [hgX] at h
   simp only [if_true]
   refine ⟨?_, Prod.ext rfl (hinv r)⟩
   rw [a52, a62 _ _ _ _ _ (by rw [hX]; simp), if_pos rfl, hsw, h]; rfl
  ·simp only [if_neg e]
   refine ⟨?_, trivial⟩
   rw [a52, a62 _ _ _ _ _ (by rw [hX]; simp), if_neg e, h]; rfl
 ·intro Y r c h
  rw [a52, a62 _ _ _ _ _ (by rw [hX]; simp)] at h
  unfold swF
  by_cases e : Y = X
  ·subst e
   rw [if_pos rfl] at h
   simp only [if_true]
   refine ⟨?_, Prod.ext rfl (hinv r)⟩
   obtain ⟨c0, h1, _⟩ := Option.map_eq_some_iff.1 h
   rw [hgX, <- hsw, hinv]
   rw [h1]; simp
  ·rw [if_neg e] at h
   simp only [if_neg e]
   obtain ⟨c0, h1, _⟩ := Option.map_eq_some_iff.1 h
   rw [h1]; simp
theorem f8 {t : Nat} {s : T} {v : V} (ht : t < nt) (h : v = look s.sl t) : resV (s.s nt) (t, none) v := by
 rw [b3D ht]; exact h
theorem a60 {L : Heap} (h : ∀ X q cells, L.get X q = some cells -> ∀ v ∈ cells, LeV L L (λX q => (X, q)) v v) :
  ∀ X q cells, L.get X q = some cells -> ∀ j, j < cells.length -> LeV L L (λX q => (X, q)) (cells.getD j .any) (cells.getD j .any) := by
 intro X q cells hc j hj
 rw [d2d, d2f hj]
 exact h X q cells hc _ (List.getElem_mem hj)
theorem a5N {xs : List Nat} {v : V} (h : v ∈ rowV xs) (L L' : Heap) (ρ : Nat -> Nat -> Nat × Nat) : LeV L L' ρ v v := by
 obtain ⟨x, _, rfl⟩ := List.mem_map.1 h
 exact .d (.d _)
theorem b5T {xs : List Int} {v : V} (h : v ∈ k7 xs) (L L' : Heap) (ρ : Nat -> Nat -> Nat × Nat) : LeV L L' ρ v v := by
 obtain ⟨x, _, rfl⟩ := List.mem_map.1 h
 exact .d (.d _)
theorem c8v {X o n len : Nat} {v : V} {L : Heap} (h : v ∈ hdo X o n len) (hL : ∀ r, r < n -> L.get X (r + o) ≠ none) : LeV L L (λX q => (X, q)) v v := by
 obtain ⟨j, hj, rfl⟩ := List.mem_map.1 h
 exact .sl (hL j (by simpa using hj)) rfl
theorem LeT.drop {as : Sl} {L' : Heap} (hN : ∀ Y, ¬ N Y) (hs : ∀ p ∈ as, LeV L L' (λX q => (X, q)) p.2 p.2)
  (hr : ∀ X r c, L'.get X r = some c -> L.get X r = some c /\ ∀ v ∈ c, LeV L L' (λX q => (X, q)) v v) : Le N (T.s nt ⟨as, L⟩) (T.s nt ⟨as, L'⟩) := by
 have hlook : ∀ i, LeV L L' (λX q => (X, q)) (look as i) (look as i) := by
  intro i
  induction as with
  | nil => exact .any _
  | cons p as ih =>
   obtain ⟨k, v⟩ := p
   simp only [look]
   split
   ·exact hs (k, v) (by simp)
   ·exact ih λp hp => hs p (by simp [hp])
 refine Le.of_wk (λX q => (X, q)) ⟨rfl, λi hi => ?_, λX r c hc => ?_, λX r Y q _ _ e => by simpa using e, λX r h => absurd h (hN X)⟩
 ·simp only [T.s] at hi ⊢
  rw [y9] at hi
  rw [z2 _ hi]
  exact hlook i
 ·obtain ⟨h1, h2⟩ := hr X r c hc
  refine ⟨c, h1, rfl, λj hj => ?_⟩
  rw [d2d, d2f hj]
  exact h2 _ (List.getElem_mem hj)
def ivC (ps : List (Nat × Nat)) : List V := ps.flatMap λp => [fl p.1, fl p.2]
theorem j9 (ps : List (Nat × Nat)) : (ivC ps).length = ps.length * 2 := by
 induction ps with
 | nil => rfl
 | cons p ps ih => simp only [ivC, List.flatMap_cons, List.length_append, List.length_cons, List.length_nil] at *; omega
theorem a5Y (ps : List (Nat × Nat)) : (ivC ps).all V.isCell = true := by
 induction ps with
 | nil => rfl
 | cons p ps ih => simp only [ivC, List.flatMap_cons, List.all_append, Bool.and_eq_true] at *; exact ⟨rfl, ih⟩
theorem c55 (n : Nat) : repl n [fl 0, fl 0] = ivC (List.replicate n (0, 0)) := by
 unfold repl
 induction n with
 | zero => rfl
 | succ n ih => simp only [List.replicate_succ, List.flatten_cons, ih]; rfl
theorem c8M (ps : List (Nat × Nat)) (i a b : Nat) (h : i < ps.length) : ((ivC ps).set (i * 2) (fl a)).set (i * 2 + 1) (fl b) = ivC (ps.set i (a, b)) := by
 induction ps generalizing i with
 | nil => simp at h
 | cons p ps ih =>
  cases i with
  | zero => rfl
  | succ i =>
   have := ih i (by simpa using h)
   have e : (i + 1) * 2 = i * 2 + 1 + 1 := by omega
   simp only [ivC, List.flatMap_cons, List.set_cons_succ, e, List.cons_append, List.nil_append] at *
   rw [this]
theorem c3y (ps : List (Nat × Nat)) (a b : Nat) : ivC ps ++ [fl a, fl b] = ivC (ps ++ [(a, b)]) := by
 simp [ivC]
theorem b4a (ps : List (Nat × Nat)) (i j : Nat) (h : i < ps.length) (hj : j < 2) : (ivC ps).getD (i * 2 + j) .any = .d ((ivG ps i).getD j default) := by
 induction ps generalizing i with
 | nil => simp at h
 | cons p ps ih =>
  cases i with
  | zero =>
   rcases j with _ | _ | j
   ·rfl
   ·rfl
   ·omega
  | succ i =>
   have := ih i (by simpa using h)
   have e : (i + 1) * 2 + j = (i * 2 + j) + 1 + 1 := by omega
   rw [e]
   simpa [ivC, ivG] using this
theorem b7g {f : Nat -> Nat -> Prop} {X r n ver : Nat} {ps : List (Nat × Nat)} (hf : f X r) (h : L.get X r = some (ivC ps)) (hn : ps.length = n) (hv : n * 2 = ver) : SnapF L f (.sl X r 0 n 2 ver) (ivD ps) := by
 subst hn
 refine .sl (λ_ => hf) h (by rw [j9]; exact hv) (by rw [j9]; omega) (λi hi => rfl) λi j hi hj => ?_
 rw [show 0 + i * 2 + j = i * 2 + j from by omega, b4a _ _ _ hi hj]
 exact .d _
theorem LeT.nilrow {as as' : Sl} {X esz : Nat} (hX : L.fam X = none) (hN : ¬ N X)
  (h : ∀ i, look as' i = look as i \/ (look as i = .nil /\ look as' i = .sl X 0 0 0 esz 0)) : Le N (T.s nt ⟨as, L⟩) (T.s nt ⟨as', (X, [[]]) :: L⟩) := by
 refine Le.nilrow (esz := esz) hX hN (by simp [y9]) λi hi => ?_
 rw [y9] at hi
 rw [z2 _ hi, z2 _ hi]
 exact h i
def c11 (o : Option (List V)) (ver off m : Nat) : Option (List V) := match o with
 | some cells => if cells.length = ver /\ off + m <= cells.length then some ((cells.drop off).take m) else none
 | none => none
theorem b7b (L : Heap) (esz X r off k e ver : Nat) : s7 L esz (.sl X r off k e ver) = c11 (L.get X r) ver off (k * esz) := by
 simp only [s7, c11]; cases L.get X r <;> rfl
theorem b7a (cells : List V) (ver off m : Nat) : c11 (some cells) ver off m = if cells.length = ver /\ off + m <= cells.length then some ((cells.drop off).take m) else none := rfl
theorem b5j (L : Heap) (esz : Nat) : s7 L esz .nil = some [] := by rw [s7]
theorem c12 (X r off k e ver : Nat) : v4 (.sl X r off k e ver) = k := by rw [v4]
theorem b9Y : v4 .nil = 0 := by simp [v4]
end
end Go.Ab
namespace Go.Ab
open Go
set_option linter.defProp false in
def evS := And.intro @c9F (And.intro @c9D (And.intro @c7P (And.intro @c4X (And.intro @c7M (And.intro @c7N (And.intro @c9E (And.intro @b47 (And.intro @b9W (And.intro @c1K (And.intro @c06 (And.intro @b76 (And.intro @c9C (And.intro @c7K (And.intro @c4V (And.intro @c1x (And.intro @or_false (And.intro @nm0 (And.intro @nm1 (And.intro @nm2 (And.intro @nm3 (And.intro @c4U (And.intro @c0V (And.intro @c3T (And.intro @c3U (And.intro @c0U (And.intro @c2z (And.intro @c2A (And.intro @c0j (And.intro @b7u (And.intro @true_and (And.intro @and_true (And.intro @b46 (And.intro @b9V (And.intro @c1J (And.intro @b45 (And.intro @b9U (And.intro @c1G (And.intro @c2k (And.intro @b99 (And.intro @b7b (And.intro @b7a (And.intro @b5j (And.intro @c12 (And.intro @b9Y (And.intro @P6 (And.intro @V4 (And.intro @Nat.one_mul (And.intro @c55 (And.intro @j9 (And.intro @a5Y (And.intro @a2y (And.intro @c6g (And.intro @y8 (And.intro @c3P (And.intro @c4A (And.intro @c19 (And.intro @Int.toNat_natCast (And.intro @d1X (And.intro @d1W (And.intro @d1V (And.intro @d1U (And.intro @d1T (And.intro @d1R (And.intro @d1Q (And.intro @d1P (And.intro @d1N (And.intro @d1M (And.intro @d0V (And.intro @d0U (And.intro @d0T (And.intro @d0R (And.intro @d0Q (And.intro @d0P (And.intro @d0N (And.intro @c1F (And.intro @Int.ofNat_lt (And.intro @Int.ofNat_le (And.intro @Int.natCast_nonneg (And.intro @Int.le_refl (And.intro @b97 (And.intro @c1p (And.intro @Nat.zero_mul (And.intro @Nat.mul_one (And.intro @Nat.zero_add (And.intro @Nat.add_zero (And.intro @c5K (And.intro @b5P (And.intro @g5 (And.intro @d8 (And.intro @d9 (And.intro @d6 (And.intro @c8P (And.intro @c6b (And.intro @c5u (And.intro @c8E (And.intro @c3j (And.intro @b8a (And.intro @c4m (And.intro @c1c (And.intro @b78 (And.intro @b79 (And.intro @c1d (And.intro @c57 (And.intro @c3K (And.intro @c0N (And.intro @c0P (And.intro @c3L (And.intro @b90 (And.intro @b7d (And.intro @Bool.and_true (And.intro @Bool.true_and (And.intro @Bool.and_false (And.intro @Bool.not_true (And.intro @Bool.not_false (And.intro @Bool.xor_false (And.intro @d2t (And.intro @Nat.lt_add_one (And.intro @Nat.zero_le (And.intro @Nat.zero_lt_succ (And.intro @not_false_eq_true (And.intro @not_true_eq_false (And.intro @and_self (And.intro @and_false (And.intro @false_and (And.intro @Nat.not_lt_zero (And.intro @c9G (And.intro @c4W (And.intro @a97 (And.intro @b54 (And.intro @b4d (And.intro @b5L (And.intro @c2W (And.intro @c0s (And.intro @c5H (And.intro @c5G (And.intro @c5F (And.intro @c90 (@c5J))))))))))))))))))))))))))))))))))))))))))))))))))))))))))))))))))))))))))))))))))))))))))))))))))))))))))))))))))))))))))))))))))))))))))
set_option linter.defProp false in
def evT := And.intro @List.zip_cons_cons.{0, 0} (And.intro @List.zip_nil_right.{0, 0} (And.intro @List.zip_nil_left.{0, 0} (And.intro @List.map_cons.{0, 0} (And.intro @List.map_nil.{0, 0} (And.intro @List.append_nil.{0} (And.intro @List.nil_append.{0} (And.intro @List.cons_append.{0} (And.intro @List.length_replicate.{0} (And.intro @List.length_map.{0, 0} (And.intro @List.getD_cons_zero.{0} (And.intro @List.getD_cons_succ.{0} (And.intro @List.drop_succ_cons.{0} (And.intro @List.drop_zero.{0} (And.intro @List.take_succ_cons.{0} (And.intro @List.take_zero.{0} (And.intro @List.take_nil.{0} (And.intro @List.getElem?_cons_zero.{0} (And.intro @List.getElem?_cons_succ.{0} (And.intro @List.length_cons.{0} (And.intro @List.length_nil.{0} (And.intro @List.length_set.{0} (And.intro @List.set_cons_zero.{0} (And.intro @List.set_cons_succ.{0} (And.intro @List.all_cons.{0} (@List.all_nil.{0})))))))))))))))))))))))))
set_option linter.defProp false in
def evU := And.intro @decide_true (And.intro @decide_false (And.intro @decide_eq_true_eq (And.intro @List.mem_cons.{0} (And.intro @List.not_mem_nil.{0} (And.intro @bne_self_eq_false.{0} (And.intro @beq_self_eq_true.{0} (And.intro @ne_eq.{1} (And.intro @Option.some.injEq.{0} (And.intro @gt_iff_lt.{0} (And.intro @ge_iff_le.{0} (And.intro @eq_self.{1} (And.intro @d0Z (And.intro @c6w (And.intro @forall_eq_or_imp.{1} (And.intro @forall_eq.{1} (And.intro @false_implies (And.intro @implies_true.{0} (And.intro @implies_true.{1} (And.intro @c17.eq_1 (And.intro @Inst.places.eq_1 (And.intro @Inst.places.eq_2 (And.intro @Inst.places.eq_3 (And.intro @Inst.places.eq_4 (And.intro @Inst.places.eq_5 (And.intro @Apart.eq_1 (And.intro @Apart.eq_2 (And.intro @Apart.eq_3 (And.intro @Apart.eq_4 (And.intro @Apart.eq_5 (And.intro @Apart.eq_6 (And.intro @Apart.eq_7 (And.intro @Apart.eq_8 (And.intro @Apart.eq_9 (And.intro @xeff.eq_1 (And.intro @xeff.eq_2 (And.intro @xeff.eq_3 (And.intro @xeff.eq_4 (And.intro @xeff.eq_5 (And.intro @xhv.eq_1 (And.intro @xhv.eq_2 (And.intro @xev.eq_1 (And.intro @xev.eq_2 (And.intro @look.eq_1 (And.intro @look.eq_2 (And.intro @argSl.eq_1 (And.intro @argSl.eq_2 (And.intro @keep.eq_1 (And.intro @inBlockT.eq_1 (And.intro @inBlockT.eq_2 (And.intro @pickX.eq_1 (And.intro @pickX.eq_2 (And.intro @callX.eq_1 (And.intro @callX.eq_2 (And.intro @callCX.eq_1 (And.intro @callCX.eq_2 (And.intro @callSX.eq_1 (And.intro @callSX.eq_2 (And.intro @callee.eq_1 (And.intro @callee.eq_2 (And.intro @callee.eq_3 (And.intro @fillV.eq_1 (And.intro @fillV.eq_2 (And.intro @W3.eq_1 (And.intro @V.okPart.eq_1 (And.intro @V.okPart.eq_2 (And.intro @rowD.eq_1 (And.intro @rowI.eq_1 (And.intro @g6.eq_1 (And.intro @ivD.eq_1 (And.intro @rowG.eq_1 (And.intro @a6T.eq_1 (And.intro @a1w.eq_1 (@ivG.eq_1)))))))))))))))))))))))))))))))))))))))))))))))))))))))))))))))))))))))))
end Go.Ab
