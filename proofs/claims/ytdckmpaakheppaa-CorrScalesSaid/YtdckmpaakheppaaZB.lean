/- Words for evaluating: values, rows, calls. -/
import Derived.Test.YtdckmpaakheppaaZ
import Derived.Laws.BitsLemmas
namespace Go.Ab
set_option linter.unusedSimpArgs false
set_option linter.unusedVariables false
open Go

abbrev fl (x : Nat) : V := .d (.flt x)
abbrev fB (b : Bool) : V := .d (.bool b)
abbrev fI (n : Int) : V := .d (.int .i64 n)

/-- Rows of floats, of integers, of rows: as data. -/
def rowG (xs : List Nat) (i : Nat) : List D := [.flt (xs.getD i 0)]
def rowD (xs : List Nat) : D := .bor xs.length (rowG xs)
def rowIG (xs : List Int) (i : Nat) : List D := [.int .i64 (xs.getD i 0)]
def rowI (xs : List Int) : D := .bor xs.length (rowIG xs)
def rowsG (xss : List (List Nat)) (i : Nat) : List D := [rowD (xss.getD i [])]
def rowsD (xss : List (List Nat)) : D := .bor xss.length (rowsG xss)
def ivG (ps : List (Nat × Nat)) (i : Nat) : List D := [.flt (ps.getD i (0, 0)).1, .flt (ps.getD i (0, 0)).2]
def ivD (ps : List (Nat × Nat)) : D := .bor ps.length (ivG ps)

section
variable {P : Program} {g : FuncId} {vs : List V} {L : Heap} {K : V → Heap → Prop} {r : V}

theorem callG_con (h : Con P g vs r) (hb : vs.all V.bareB = true) (hk : K r L) : callG P g vs L K :=
  ⟨L, r, AC_of_CallC (.inl ⟨hb, h⟩), hk⟩
theorem callCG_con {nm : Nat} (h : Con P g vs r) (hb : vs.all V.bareB = true) (hk : K r L) : callCG P nm g vs L K := ⟨hb, .inl ⟨r, h, hk⟩⟩
theorem callCG_fresh {nm : Nat} {fam : List (List V)} (h : AC P g vs [] [(0, fam)] r) (hb : vs.all V.bareB = true) (hf : L.fam nm = none) (hk : K (r.ren (toF nm)) (L.ins nm (famUp nm fam))) : callCG P nm g vs L K := ⟨hb, .inr ⟨fam, r, h, hf, hk⟩⟩
theorem callSG_con {nm k : Nat} (h : Con P g vs r) (hb : vs.all V.bareB = true) (hk : K r L) : CallS P nm k g vs L K := .inl ⟨vs, r, .inl ⟨rfl, hb⟩, h, hk⟩
theorem callSG_fresh {nm k : Nat} {fam : List (List V)} (h : AC P g vs [] [(0, fam)] r) (hb : vs.all V.bareB = true) (hf : L.fam nm = none) (hk : K (r.ren (toF nm)) (L.ins nm (famUp nm fam))) : CallS P nm k g vs L K :=
  .inr ⟨vs, fam, r, .inl ⟨rfl, hb⟩, h, hf, hk⟩
/-- A call of a snapshot of old rows, that answers a scalar; that answers rows of one name. -/
theorem callSG_snap {nm k : Nat} {us : List V} (h : Con P g us r) (hl : us.length = vs.length) (hs : ∀ j, j < us.length → Snap (L.old (nm - k)) (vs.getD j .any) (us.getD j .any)) (hr : Scalar r) (hk : K r L) : CallS P nm k g vs L K :=
  .inl ⟨us, r, .inr ⟨hl, hs, hr⟩, h, hk⟩
theorem callSG_rows {nm k : Nat} {us : List V} {fam : List (List V)} (h : AC P g us [] [(0, fam)] r) (hl : us.length = vs.length) (hs : ∀ j, j < us.length → Snap (L.old (nm - k)) (vs.getD j .any) (us.getD j .any)) (hr : PureV r) (hp : PureF fam)
    (hf : L.fam nm = none) (hk : K (r.ren (toF nm)) (L.ins nm (famUp nm fam))) : CallS P nm k g vs L K :=
  .inr ⟨us, fam, r, .inr ⟨hl, hs, hr, hp⟩, h, hf, hk⟩
theorem callG_ac {L' : Heap} (h : AC P g vs L L' r) (hk : K r L') : callG P g vs L K := ⟨L', r, h, hk⟩

theorem condG_intro {b : Bool} {A B : T → Prop} {s : T} (h1 : b = true → A s) (h2 : b = false → B s) : condG b A B s := ⟨h1, h2⟩
theorem pickG_true (K : V → Prop) (x y : V) : pickG true K x y = K x := by simp [pickG]
theorem pickG_false (K : V → Prop) (x y : V) : pickG false K x y = K y := by simp [pickG]
theorem pickG_intro {b : Bool} {K : V → Prop} {x y : V} (h1 : b = true → K x) (h2 : b = false → K y) : pickG b K x y := ⟨h1, h2⟩

theorem wrapI {a : Int} (h1 : -9223372036854775808 ≤ a) (h2 : a < 9223372036854775808) : IntKind.wrap .i64 a = a := by
  rw [IntKind.wrap_i64]; omega
theorem wrapU {a : Int} (h1 : 0 ≤ a) (h2 : a < 18446744073709551616) : IntKind.wrap .u64 a = a := by
  rw [IntKind.wrap_u64]; omega
end
section
variable {P : Program} {N : Nat → Prop} {nt base : Nat} {Q : Ex → T → Prop} {s : T}
/-- The same, as words that stay closed until they are handed all. -/
def thenC (P : Program) (N : Nat → Prop) (nt : Nat) (b : CA) (Q : Ex → T → Prop) (e : Ex) (s : T) : Prop := thenT (xC P N nt b Q) Q e s
def condC (P : Program) (N : Nat → Prop) (nt : Nat) (c : V) (a b : CA) (Q : Ex → T → Prop) (s : T) : Prop := condX c (xC P N nt a Q) (xC P N nt b Q) s
def putI (P : Program) (base : Nat) (dst : Option Nat) (as : Sl) (r : List II) (Q : T → Prop) (v : V) (L : Heap) : Prop := putT dst as (xI P base r Q) v L

theorem xC_skip : xC P N nt .skip Q s = Q .normal s := rfl
theorem xC_reg (l : List II) (live : List Nat) (as : Sl) (L : Heap) : xC P N nt (.reg l live) Q ⟨as, L⟩ = xI P L.next l (drops live (Q .normal)) ⟨as, L⟩ := rfl
theorem xC_seq (a b : CA) : xC P N nt (.seq a b) Q s = xC P N nt a (thenC P N nt b Q) s := rfl
theorem xC_cond (o : Opd) (a b : CA) (as : Sl) (L : Heap) : xC P N nt (.cond o a b) Q ⟨as, L⟩ = condC P N nt (xev as o) a b Q ⟨as, L⟩ := rfl
theorem xC_block (id : Nat) (c : CA) : xC P N nt (.block id c) Q s = xC P N nt c (inBlockT id Q) s := rfl
theorem xC_loop (c : CA) : xC P N nt (.loop c) Q s = WA P N nt (.loop c) Q s := rfl
theorem xC_exit (id : Nat) : xC P N nt (.exit id) Q s = Q (.exit id) s := rfl
theorem xC_ret : xC P N nt .ret Q s = Q .ret s := rfl
theorem thenC_normal (b : CA) : thenC P N nt b Q .normal s = xC P N nt b Q s := rfl
theorem thenC_exit (b : CA) (i : Nat) : thenC P N nt b Q (.exit i) s = Q (.exit i) s := rfl
theorem thenC_ret (b : CA) : thenC P N nt b Q .ret s = Q .ret s := rfl
theorem condC_true (a b : CA) : condC P N nt (.d (.bool true)) a b Q s = xC P N nt a Q s := by simp [condC, condX, condG]
theorem condC_false (a b : CA) : condC P N nt (.d (.bool false)) a b Q s = xC P N nt b Q s := by simp [condC, condX, condG]
theorem condC_intro {t : Bool} {a b : CA} (h1 : t = true → xC P N nt a Q s) (h2 : t = false → xC P N nt b Q s) : condC P N nt (.d (.bool t)) a b Q s := ⟨h1, h2⟩
theorem xI_nil (Q : T → Prop) : xI P base [] Q s = Q s := rfl
theorem xI_cons (k : Nat) (d : Option Nat) (i : Inst) (r : List II) (Q : T → Prop) (as : Sl) (L : Heap) :
    xI P base (⟨k, d, none, [], [], i⟩ :: r) Q ⟨as, L⟩ = xeff P (base + k) i as L (putI P base d as r Q) := rfl
theorem xI_cons' (k : Nat) (d : Option Nat) (b0 : Opd) (bs ind : List Opd) (i : Inst) (r : List II) (Q : T → Prop) (as : Sl) (L : Heap) :
    xI P base (⟨k, d, none, b0 :: bs, ind, i⟩ :: r) Q ⟨as, L⟩ = (sides as (b0 :: bs) ind i.places ∧ xeff P (base + k) i as L (putI P base d as r Q)) := rfl
theorem xI_cons'' (k : Nat) (d : Option Nat) (b0 : Opd) (ind : List Opd) (i : Inst) (r : List II) (Q : T → Prop) (as : Sl) (L : Heap) :
    xI P base (⟨k, d, none, [], b0 :: ind, i⟩ :: r) Q ⟨as, L⟩ = (sides as [] (b0 :: ind) i.places ∧ xeff P (base + k) i as L (putI P base d as r Q)) := rfl
/-- A guarded piece. -/
def guardC (P : Program) (base : Nat) (c : V) (want : Bool) (ii : II) (r : List II) (Q : T → Prop) (s : T) : Prop :=
  guardX c want (sideG s.sl ii.bs ii.ind ii.i (xeff P (base + ii.k) ii.i s.sl s.L (putI P base ii.dst s.sl r Q))) (putI P base ii.dst s.sl r Q .und s.L)
theorem xI_guard (k : Nat) (d : Option Nat) (j : Nat) (w : Bool) (bs ind : List Opd) (i : Inst) (r : List II) (Q : T → Prop) (as : Sl) (L : Heap) :
    xI P base (⟨k, d, some (j, w), bs, ind, i⟩ :: r) Q ⟨as, L⟩ = guardC P base (look as j) w ⟨k, d, none, bs, ind, i⟩ r Q ⟨as, L⟩ := rfl
theorem guardC_run (w : Bool) (ii : II) (r : List II) (Q : T → Prop) (h : ii.g = none) : guardC P base (.d (.bool w)) w ii r Q s = xI P base (ii :: r) Q s := by
  simp only [guardC, guardX, if_true, xI, xstep, h]; rfl
theorem guardC_tf (ii : II) (r : List II) (Q : T → Prop) : guardC P base (.d (.bool true)) false ii r Q s = putI P base ii.dst s.sl r Q .und s.L := by simp [guardC, guardX]
theorem guardC_ft (ii : II) (r : List II) (Q : T → Prop) : guardC P base (.d (.bool false)) true ii r Q s = putI P base ii.dst s.sl r Q .und s.L := by simp [guardC, guardX]
theorem guardC_und (w : Bool) (ii : II) (r : List II) (Q : T → Prop) : guardC P base (.tup []) w ii r Q s = putI P base ii.dst s.sl r Q .und s.L := by simp [guardC, guardX]
theorem guardC_intro {b w : Bool} {ii : II} {r : List II} {Q : T → Prop} (h1 : b = w → guardC P base (.d (.bool w)) w ii r Q s) (h2 : b = !w → guardC P base (.d (.bool !w)) w ii r Q s) : guardC P base (.d (.bool b)) w ii r Q s := by
  by_cases e : b = w
  · rw [e]; exact h1 e
  · have : b = !w := by cases b <;> cases w <;> simp_all
    rw [this]; exact h2 this
theorem putI_some (d : Nat) (as : Sl) (r : List II) (Q : T → Prop) (v : V) (L : Heap) : putI P base (some d) as r Q v L = xI P base r Q ⟨(d, v) :: as, L⟩ := rfl
theorem putI_none (as : Sl) (r : List II) (Q : T → Prop) (v : V) (L : Heap) : putI P base none as r Q v L = xI P base r Q ⟨as, L⟩ := rfl
theorem resV_tmp {nt t : Nat} {s : T} {v : V} (ht : t < nt) : resV (s.s nt) (t, none) v = (v = look s.sl t) := by
  simp only [resV, T.s]; rw [build_get _ ht]
end
section
theorem get_nil (X r : Nat) : Heap.get [] X r = none := by simp [Heap.get, Heap.fam]
theorem fam_nil (X : Nat) : Heap.fam [] X = none := by simp [Heap.fam]
theorem fam_cons (X Y : Nat) (f : List (List V)) (L : Heap) : Heap.fam ((X, f) :: L) Y = if Y = X then some f else Heap.fam L Y := by
  unfold Heap.fam
  rw [List.lookup_cons]
  by_cases h : Y = X
  · subst h; simp
  · have e : (Y == X) = false := by simpa using h
    simp [h, e]
theorem get_cons (X Y r : Nat) (f : List (List V)) (L : Heap) : Heap.get ((X, f) :: L) Y r = if Y = X then f[r]? else Heap.get L Y r := by
  unfold Heap.get
  rw [fam_cons]
  split <;> rfl
theorem ins_nil (X : Nat) (f : List (List V)) : Heap.ins X f [] = [(X, f)] := by simp [Heap.ins]
theorem ins_cons (X Y : Nat) (f g : List (List V)) (L : Heap) : Heap.ins X f ((Y, g) :: L) = if Y < X then (X, f) :: (Y, g) :: L else (Y, g) :: Heap.ins X f L := by simp [Heap.ins]
theorem put_cons (X Y r : Nat) (f : List (List V)) (cs : List V) (L : Heap) : Heap.put ((Y, f) :: L) X r cs = if X = Y then (Y, f.set r cs) :: L else (Y, f) :: Heap.put L X r cs := by simp [Heap.put]
theorem next_nil : Heap.next [] = 0 := by simp [Heap.next]
theorem next_cons (X : Nat) (f : List (List V)) (L : Heap) : Heap.next ((X, f) :: L) = if Heap.next L ≤ X then X + 1 else Heap.next L := by simp [Heap.next]
theorem ldv_one (n off : Nat) (cells : List V) : ldv false n off cells = cells.getD off .any := by simp [ldv]
theorem ldv_agg (n off : Nat) (cells : List V) : ldv true n off cells = .agg ((cells.drop off).take n) := by simp [ldv]
theorem cellsOf_agg (xs : List V) : cellsOf (.agg xs) = xs := by simp [cellsOf]
theorem cellsOf_d (x : D) : cellsOf (.d x) = [.d x] := by simp [cellsOf]
theorem cellsOf_sl (X r off n esz ver : Nat) : cellsOf (.sl X r off n esz ver) = [.sl X r off n esz ver] := by simp [cellsOf]
theorem cellsOf_ptr (X r off ver : Nat) : cellsOf (.ptr X r off ver) = [.ptr X r off ver] := by simp [cellsOf]
theorem cellsOf_nil : cellsOf .nil = [.nil] := by simp [cellsOf]
theorem cellsOf_fn (f : FuncId) (a b : List V) : cellsOf (.fn f a b) = [.fn f a b] := by simp [cellsOf]
theorem isCell_d (x : D) : (V.d x).isCell = true := by simp [V.isCell]
theorem isCell_sl (X r off n esz ver : Nat) : (V.sl X r off n esz ver).isCell = true := by simp [V.isCell]
theorem isCell_ptr (X r off ver : Nat) : (V.ptr X r off ver).isCell = true := by simp [V.isCell]
theorem isCell_nil : V.nil.isCell = true := by simp [V.isCell]
theorem isCell_fn (f : FuncId) (a b : List V) : (V.fn f a b).isCell = true := by simp [V.isCell]
theorem splice_nil (cells : List V) (off : Nat) : splice cells off [] = cells := by simp [splice]
theorem splice_cons (cells : List V) (off : Nat) (v : V) (vs : List V) : splice cells off (v :: vs) = splice (cells.set off v) (off + 1) vs := by simp [splice]
theorem resV_cell {nt t n : Nat} {g : Bool} {s : T} {v : V} {X r off ver : Nat} {cells : List V} (ht : t < nt) (h1 : look s.sl t = .ptr X r off ver) (h2 : s.L.get X r = some cells) (h3 : cells.length = ver) (h4 : off + n ≤ cells.length)
    (h5 : v = ldv g n off cells) : resV (s.s nt) (t, some (n, g)) v := by
  simp only [resV, T.s]
  rw [build_get _ ht, h1]
  simp only [h2]
  exact ⟨h3, h4, h5⟩
theorem endsT_retm {nt t n : Nat} {g : Bool} {s : T} {r : V} {X row off ver : Nat} {cells : List V} (hb : r.bareB = true) (ht : t < nt) (h1 : look s.sl t = .ptr X row off ver) (h2 : s.L.get X row = some cells) (h3 : cells.length = ver) (h4 : off + n ≤ cells.length)
    (h5 : r = ldv g n off cells) : EndsT (fun _ => False) nt [(t, some (n, g))] r [] .ret s := endsT_ret hb (resV_cell ht h1 h2 h3 h4 h5)
theorem endsT_rett {nt t : Nat} {s : T} {r : V} (hb : r.bareB = true) (ht : t < nt) (h5 : r = look s.sl t) : EndsT (fun _ => False) nt [(t, none)] r [] .ret s :=
  endsT_ret hb (by simp only [ResV]; rw [resV_tmp ht]; exact h5)
end
section
variable {P : Program} {N : Nat → Prop} {nt : Nat} {Q : Ex → T → Prop}
/-- At the end of a round. -/
def nextL (I : Nat → T → Prop) (n : Nat) (t : T) : Prop := ∃ k, k < n ∧ I k t
def thenL (I : Nat → T → Prop) (n : Nat) (Q : Ex → T → Prop) (e : Ex) (s : T) : Prop := thenT (nextL I n) Q e s
theorem thenL_normal (I : Nat → T → Prop) (n : Nat) (s : T) : thenL I n Q .normal s = nextL I n s := rfl
theorem thenL_exit (I : Nat → T → Prop) (n i : Nat) (s : T) : thenL I n Q (.exit i) s = Q (.exit i) s := rfl
theorem thenL_ret (I : Nat → T → Prop) (n : Nat) (s : T) : thenL I n Q .ret s = Q .ret s := rfl
theorem WA_for {c : CA} {s : T} (I : Nat → T → Prop) {n : Nat} (h0 : I n s) (round : ∀ n s, I n s → xC P N nt c (thenL I n Q) s) : WA P N nt (.loop c) Q s :=
  WA_loop I h0 fun n s hI => WA_of_xC _ _ _ (round n s hI)
theorem und_def : V.und = V.tup [] := rfl
theorem cast0 : ((0 : Nat) : Int) = 0 := rfl
theorem cast1 : ((1 : Nat) : Int) = 1 := rfl
theorem cast2 : ((2 : Nat) : Int) = 2 := rfl
theorem cast3 : ((3 : Nat) : Int) = 3 := rfl
theorem cast4 : ((4 : Nat) : Int) = 4 := rfl
theorem cast5 : ((5 : Nat) : Int) = 5 := rfl
theorem cast6 : ((6 : Nat) : Int) = 6 := rfl
theorem cast7 : ((7 : Nat) : Int) = 7 := rfl
theorem cast8 : ((8 : Nat) : Int) = 8 := rfl
theorem cast9 : ((9 : Nat) : Int) = 9 := rfl
theorem cast10 : ((10 : Nat) : Int) = 10 := rfl
theorem cast11 : ((11 : Nat) : Int) = 11 := rfl
theorem cast12 : ((12 : Nat) : Int) = 12 := rfl
theorem cast13 : ((13 : Nat) : Int) = 13 := rfl
theorem cast14 : ((14 : Nat) : Int) = 14 := rfl
theorem cast15 : ((15 : Nat) : Int) = 15 := rfl
theorem cast16 : ((16 : Nat) : Int) = 16 := rfl
theorem toNatSucc (i : Nat) : Int.toNat ((i : Int) + 1) = i + 1 := rfl
theorem getD_map_fl (xs : List Nat) (i : Nat) (h : i < xs.length) : (xs.map fl).getD i .any = fl (xs.getD i 0) := by
  simp [List.getD_eq_getElem?_getD, h]
theorem set_map_fl (xs : List Nat) (i v : Nat) : (xs.map fl).set i (fl v) = (xs.set i v).map fl := by
  rw [List.map_set]
theorem all_map_fl (xs : List Nat) : (xs.map fl).all V.isCell = true := by
  simp [V.isCell]
end
end Go.Ab
