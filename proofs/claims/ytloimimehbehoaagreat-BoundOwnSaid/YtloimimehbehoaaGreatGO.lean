/- Part 15: WS, BA, BB, BC, BD, BE, BF. -/
import Derived.Test.YtloimimehbehoaaGreatGN
import Derived.Deep.Fields
import Derived.RowKit
namespace Go.Ab
set_option linter.unusedSimpArgs false
set_option linter.unusedVariables false
open Go Go.Proofs Go.ChangeShapes Go.WideShapes
def shapeB (P : Program) (ts ti tl tb : TypeId) : Bool := match P.underlying ts with
  | some (.struct fs) => Go.Deep.oneCellFields P fs && decide ((fs.map (·.type)).toList = [ti, ti, ti, ti, ti, tl, tl, tl, tb]) && decide (P.cellsOf ts = 9)
  | _ => false
section
variable {H : Type} {enc : TypeId × Value → H} {P : Program} {W : World}
theorem ints_row {t e : TypeId} {fuel : Nat} {c : Value} {x : DataW H × List MemPlace} (ht : P.underlying t = some (.slice e)) (he : P.underlying e = some (.int .i64)) (hc : P.cellsOf e = 1)
    (h : DataW.trod enc P W 0 (fun _ => true) true fuel t [c] = some x) : ∃ a len cap zs, c = .slice a len cap ∧ IsRow W a len cap zs := by
  rcases open_ints ht he hc h with ⟨hcs, _⟩ | ⟨y, l, k, zs, hcs, _, hl, hm, hz, _, hcell, hwz⟩
  · simp at hcs
    exact ⟨none, 0, 0, [], hcs, .inl ⟨rfl, rfl, rfl, rfl⟩⟩
  · simp at hcs
    exact ⟨some y, l, k, zs, hcs, .inr ⟨y, rfl, hl, by simpa using hz, hcell⟩⟩
theorem open_shape {ts ti tl tb : TypeId} {v : Value} {d : DataW H} {p : List MemPlace} (hB : shapeB P ts ti tl tb = true) (hi : P.underlying ti = some (.int .i64)) (hc1 : P.cellsOf ti = 1) (hl : P.underlying tl = some (.slice ti)) (hb : P.underlying tb = some .bool)
    (hv : Value.okWide P W .any 0 ts v) (h : DataW.Trod enc P W 0 (fun _ => true) true ts v d p) :
    ∃ (n first least tol fin : Int) (ns ms outs : List Int) (dv : Bool), VRel (fun b => b < W.heap.size) (fun _ _ => none) [] W (.agg (shC n first least tol fin ns ms outs dv)) v := by
  unfold shapeB at hB
  split at hB
  case h_2 => cases hB
  rename_i fs hs
  simp only [Bool.and_eq_true, decide_eq_true_eq] at hB
  obtain ⟨⟨h1, h2⟩, h3⟩ := hB
  have hone := Go.Deep.hone_of h1
  obtain ⟨cs, rfl, hsz⟩ := okWide_struct hs hv
  obtain ⟨fuel, hf⟩ := h
  obtain ⟨xs, m, _, _, hlen, hxl, hfi⟩ := DataW.trod_struct hs hf
  rw [h3] at hsz
  have hfs : fs.size = 9 := by
    have := congrArg List.length h2
    simpa using this
  have key : ∀ i t, i < 9 → [ti, ti, ti, ti, ti, tl, tl, tl, tb][i]? = some t → ∃ x, DataW.trod enc P W 0 (fun _ => true) true m t [cs.getD i undef] = some x := by
    intro i t hi9 ht
    have hif : i < fs.size := by omega
    have hgf : fs[i]? = some fs[i] := Array.getElem?_eq_getElem hif
    have htf : fs[i].type = t := by
      rw [← h2] at ht
      simp [hif] at ht
      exact ht
    obtain ⟨ho, hc⟩ := hone i _ hgf
    have g := hfi i _ hgf
    rw [ho, hc, htf] at g
    have hcl : (Value.agg cs).cells.toList = cs.toList := rfl
    rw [hcl, Go.Deep.take1_drop cs.toList i undef (by simp; omega)] at g
    refine ⟨xs[i]'(by omega), ?_⟩
    rw [List.getElem?_eq_getElem (by omega)] at g
    have e : cs.toList.getD i undef = cs.getD i undef := by simp [Array.getD, List.getD_eq_getElem?_getD]; split <;> simp_all
    rw [e] at g
    exact g
  have ki : ∀ i, i < 9 → [ti, ti, ti, ti, ti, tl, tl, tl, tb][i]? = some ti → ∃ n, cs.getD i undef = .int .i64 n := fun i hi9 ht => by
    obtain ⟨x, hx⟩ := key i ti hi9 ht
    obtain ⟨n, hn, _⟩ := DataW.trod_int hi hx
    exact ⟨n, by simpa using hn⟩
  have kl : ∀ i, i < 9 → [ti, ti, ti, ti, ti, tl, tl, tl, tb][i]? = some tl → ∃ a len cap zs, cs.getD i undef = .slice a len cap ∧ IsRow W a len cap zs := fun i hi9 ht => by
    obtain ⟨x, hx⟩ := key i tl hi9 ht
    exact ints_row hl hi hc1 hx
  obtain ⟨n, e0⟩ := ki 0 (by decide) rfl
  obtain ⟨first, e1⟩ := ki 1 (by decide) rfl
  obtain ⟨least, e2⟩ := ki 2 (by decide) rfl
  obtain ⟨tol, e3⟩ := ki 3 (by decide) rfl
  obtain ⟨fin, e4⟩ := ki 4 (by decide) rfl
  obtain ⟨a5, l5, c5, z5, e5, w5⟩ := kl 5 (by decide) rfl
  obtain ⟨a6, l6, c6, z6, e6, w6⟩ := kl 6 (by decide) rfl
  obtain ⟨a7, l7, c7, z7, e7, w7⟩ := kl 7 (by decide) rfl
  obtain ⟨x8, hx8⟩ := key 8 tb (by decide) rfl
  obtain ⟨b8, hb8, _⟩ := DataW.trod_bool hb hx8
  have e8 : cs.getD 8 undef = .bool b8 := by simpa using hb8
  refine ⟨n, first, least, tol, fin, z5.take l5, z6.take l6, z7.take l7, b8, .agg hsz fun j hj => ?_⟩
  have hj : j < 9 := hj
  match j, hj with
  | 0, _ => rw [e0]; exact .d (.int _ _)
  | 1, _ => rw [e1]; exact .d (.int _ _)
  | 2, _ => rw [e2]; exact .d (.int _ _)
  | 3, _ => rw [e3]; exact .d (.int _ _)
  | 4, _ => rw [e4]; exact .d (.int _ _)
  | 5, _ => rw [e5]; exact w5.rel (fun _ h => h)
  | 6, _ => rw [e6]; exact w6.rel (fun _ h => h)
  | 7, _ => rw [e7]; exact w7.rel (fun _ h => h)
  | 8, _ => rw [e8]; exact .d (.bool _)
end
end Go.Ab
namespace Go.Ab
set_option linter.unusedSimpArgs false
set_option linter.unusedVariables false
open Go Go.Proofs
abbrev Iv := Nat × Nat
def negW : Nat := 13830554455654793216
def ivAdd (a b : Iv) : Iv := ivMake (down (fop .add a.1 b.1)) (up (fop .add a.2 b.2))
def in0 (a : Iv) : Bool := fcmp .le a.1 0 && fcmp .le 0 a.2
def ivDiv (a b : Iv) : Iv := if in0 b = true then (fninf, finf) else spanF [fop .div a.1 b.1, fop .div a.1 b.2, fop .div a.2 b.1, fop .div a.2 b.2] (fop .div a.1 b.1) (fop .div a.1 b.1)
def ivMag (a : Iv) : Nat := if fcmp .gt (fabs a.2) (fabs a.1) = true then fabs a.2 else fabs a.1
def pt (x : Nat) : Iv := (x, x)
abbrev Md := List Iv
def mG (m : Md) (i : Nat) : Iv := m.getD i (0, 0)
def pwI (k : Nat) : Iv := if k % 2 = 0 then (0, oneW) else (negW, 0)
def polyK (m : Md) : Nat → Iv
  | 0 => mG m 0
  | k + 1 => ivAdd (polyK m k) (ivMul (mG m (k + 1)) (pwI (k + 1)))
def polyM (m : Md) : Iv := polyK m 8
def rngM (m : Md) : Iv := ivAdd (polyM m) (mG m 9)
def zipM (f : Iv → Iv → Iv) (a b : Md) : Md := (List.range 10).map fun i => f (mG a i) (mG b i)
def mulK (a b : Md) (k : Nat) : Nat → Iv
  | 0 => ivMul (mG a 0) (mG b k)
  | i + 1 => ivAdd (mulK a b k i) (ivMul (mG a (i + 1)) (mG b (k - (i + 1))))
def mulJ (a b : Md) (i : Nat) (r : Iv) : Nat → Iv
  | 0 => r
  | j + 1 => if 8 < i + j then ivAdd (mulJ a b i r j) (ivMul (ivMul (mG a i) (mG b j)) (pwI (i + j))) else mulJ a b i r j
def mulI (a b : Md) : Nat → Iv
  | 0 => (0, 0)
  | i + 1 => mulJ a b i (mulI a b i) 9
def mulM (a b : Md) : Md := (List.range 9).map (fun k => mulK a b k k) ++ [ivAdd (ivAdd (mulI a b 9) (ivMul (mG a 9) (rngM b))) (ivMul (polyM a) (mG b 9))]
def divW (a b : Md) (q : Md) (k : Nat) : Nat → Iv
  | 0 => mG a k
  | i + 1 => ivSub (divW a b q k i) (ivMul (mG b (i + 1)) (mG q (k - (i + 1))))
def divQ (a b : Md) : Nat → Md
  | 0 => []
  | k + 1 => divQ a b k ++ [ivDiv (divW a b (divQ a b k) k k) (mG b 0)]
def noneM : Md := List.replicate 9 (0, 0) ++ [(fninf, finf)]
def divM (a b : Md) : Md := if (in0 (mG b 0) || in0 (rngM b)) = true then noneM else divQ a b 9 ++ [ivDiv (rngM (zipM ivSub a (mulM b (divQ a b 9 ++ [(0, 0)])))) (rngM b)]
def ofM (z : List Nat) : Md := (List.range 10).map fun i => if i < z.length ∧ i < 9 then pt (z.getD i 0) else (0, 0)
def opM (o : OpN) (x r : List Md) : Md :=
  if o.k = 0 then ofM [o.c] else if o.k = 1 then x.getD o.a.toNat [] else
  if o.k = 2 then zipM ivAdd (r.getD o.a.toNat []) (r.getD o.b.toNat []) else if o.k = 3 then zipM ivSub (r.getD o.a.toNat []) (r.getD o.b.toNat []) else
  if o.k = 4 then mulM (r.getD o.a.toNat []) (r.getD o.b.toNat []) else divM (r.getD o.a.toNat []) (r.getD o.b.toNat [])
def regM (t : Tp) (x : List Md) : Nat → List Md
  | 0 => []
  | i + 1 => regM t x i ++ [opM (t.ops.getD i ⟨0, 0, 0, 0⟩) x (regM t x i)]
def evalM (t : Tp) (x : List Md) : List Md := (List.range t.n).map fun i => (regM t x t.ops.length).getD (t.out.getD i 0).toNat []
def ivDs (ps : List Iv) : List D := ps.flatMap fun p => [.flt p.1, .flt p.2]
theorem ivC_data (ps : List Iv) : ivC ps = (ivDs ps).map .d := by
  induction ps with
  | nil => rfl
  | cons p ps ih =>
    show fl p.1 :: fl p.2 :: ivC ps = _
    rw [ih]; rfl
theorem ivDs_len (ps : List Iv) : (ivDs ps).length = ps.length * 2 := by
  have := congrArg List.length (ivC_data ps)
  rw [ivC_length, List.length_map] at this
  exact this.symm
abbrev mdV (m : Md) : V := .agg (ivC m)
def mdG (r : List Md) (i : Nat) : List D := ivDs (r.getD i [])
def mdD (r : List Md) : D := .bor r.length (mdG r)
theorem ofM_len (z : List Nat) : (ofM z).length = 10 := by simp [ofM]
theorem zipM_len (f : Iv → Iv → Iv) (a b : Md) : (zipM f a b).length = 10 := by simp [zipM]
theorem mulM_len (a b : Md) : (mulM a b).length = 10 := by simp [mulM]
theorem divQ_len (a b : Md) (k : Nat) : (divQ a b k).length = k := by
  induction k with
  | zero => rfl
  | succ k ih => simp [divQ, ih]
theorem divM_len (a b : Md) : (divM a b).length = 10 := by
  unfold divM; split
  · rfl
  · simp [divQ_len]
theorem regM_len (t : Tp) (x : List Md) (i : Nat) : (regM t x i).length = i := by
  induction i with
  | zero => rfl
  | succ i ih => simp [regM, ih]
theorem evalM_len (t : Tp) (x : List Md) : (evalM t x).length = t.n := by simp [evalM]
theorem opM_len (o : OpN) (x r : List Md) (hx : ∀ i, 0 ≤ o.a → o.a.toNat = i → o.k = 1 → (x.getD i []).length = 10) (h : o.k = 1 → 0 ≤ o.a) : (opM o x r).length = 10 := by
  unfold opM
  repeat' split
  · exact ofM_len _
  · rename_i h1; exact hx _ (h h1) rfl h1
  · exact zipM_len _ _ _
  · exact zipM_len _ _ _
  · exact mulM_len _ _
  · exact divM_len _ _
theorem regM_rows (t : Tp) (x : List Md) (ht : Tok t) (hx : ∀ i, i < t.n → (x.getD i []).length = 10) (i : Nat) (hi : i ≤ t.ops.length) : ∀ j, j < i → ((regM t x i).getD j []).length = 10 := by
  induction i with
  | zero => intro j hj; omega
  | succ i ih =>
    intro j hj
    have hl := regM_len t x i
    unfold regM
    by_cases h : j < i
    · have := ih (by omega) j h
      rw [List.getD_eq_getElem?_getD] at this ⊢
      rwa [List.getElem?_append_left (by omega)]
    · obtain rfl : j = i := by omega
      rw [List.getD_eq_getElem?_getD, List.getElem?_append_right (by omega), hl, Nat.sub_self]
      have := ht.op j (by omega)
      refine opM_len _ _ _ (fun a h0 h1 h2 => hx a ?_) (fun h2 => ?_)
      · rcases this with h | h | h
        · omega
        · omega
        · omega
      · omega
theorem evalM_rows (t : Tp) (x : List Md) (ht : Tok t) (hx : ∀ i, i < t.n → (x.getD i []).length = 10) (i : Nat) (hi : i < t.n) : ((evalM t x).getD i []).length = 10 := by
  unfold evalM
  rw [List.getD_eq_getElem?_getD, List.getElem?_map, List.getElem?_range hi]
  have := ht.out i hi
  exact regM_rows t x ht hx _ (Nat.le_refl _) _ (by omega)
theorem dcells_block {get : Nat → List D} {esz : Nat} (n : Nat) (h : ∀ i, i < n → (get i).length = esz) (i : Nat) (hi : i < n) : ((dcells n get).drop (i * esz)).take esz = (get i).map .d := by
  have hl := dcells_len n h
  have hm : (i + 1) * esz ≤ n * esz := Nat.mul_le_mul_right _ hi
  rw [Nat.succ_mul] at hm
  refine List.ext_getElem (by rw [List.length_take, List.length_drop, List.length_map, h i hi, hl]; omega) fun j h1 h2 => ?_
  rw [List.length_map, h i hi] at h2
  have := dcells_get n h i j hi h2
  rw [List.getD_eq_getElem?_getD, List.getElem?_eq_getElem (by omega)] at this
  rw [List.getElem_take, List.getElem_drop, List.getElem_map]
  have e : ((get i).getD j default) = (get i)[j]'(by rw [h i hi]; exact h2) := by simp [List.getD_eq_getElem?_getD, h i hi, h2]
  rw [← e]
  simpa using this
theorem md_block (r : List Md) (n : Nat) (h : ∀ i, i < n → (r.getD i []).length = 10) (i : Nat) (hi : i < n) : ((dcells n (mdG r)).drop (i * 20)).take 20 = ivC (r.getD i []) := by
  rw [dcells_block n (fun j hj => by show (ivDs _).length = 20; rw [ivDs_len, h j hj]) i hi, ivC_data]; rfl
theorem mG_set (m : Md) (i j : Nat) (p : Iv) (hi : i < m.length) : mG (m.set i p) j = if j = i then p else mG m j := by
  unfold mG
  rw [List.getD_eq_getElem?_getD, List.getElem?_set]
  by_cases e : i = j
  · subst e; simp [hi]
  · rw [if_neg e, if_neg (fun h => e h.symm), List.getD_eq_getElem?_getD]
theorem ivC_at (ps : List Iv) (i : Nat) (h : i < ps.length) : (ivC ps).getD (i * 2) .any = fl (mG ps i).1 ∧ (ivC ps).getD (i * 2 + 1) .any = fl (mG ps i).2 := by
  have e : ivG ps i = [.flt (mG ps i).1, .flt (mG ps i).2] := rfl
  have h0 := ivC_getD ps i 0 h (by decide)
  have h1 := ivC_getD ps i 1 h (by decide)
  rw [e] at h0 h1
  exact ⟨h0, h1⟩
theorem ivC_two (ps : List Iv) (i : Nat) (h : i < ps.length) : ((ivC ps).drop (i * 2)).take 2 = [fl (mG ps i).1, fl (mG ps i).2] := by
  obtain ⟨h0, h1⟩ := ivC_at ps i h
  have hl := ivC_length ps
  refine List.ext_getElem (by rw [List.length_take, List.length_drop, hl]; simp; omega) fun j h2 h3 => ?_
  have h3 : j < 2 := h3
  rw [List.getElem_take, List.getElem_drop]
  rw [List.getD_eq_getElem?_getD, List.getElem?_eq_getElem (by omega)] at h0 h1
  rcases j with _ | _ | j
  · simpa using h0
  · simpa using h1
  · omega
def opI (o : OpN) (x r : List Iv) : Iv :=
  if o.k = 0 then pt o.c else if o.k = 1 then mG x o.a.toNat else
  if o.k = 2 then ivAdd (mG r o.a.toNat) (mG r o.b.toNat) else if o.k = 3 then ivSub (mG r o.a.toNat) (mG r o.b.toNat) else
  if o.k = 4 then ivMul (mG r o.a.toNat) (mG r o.b.toNat) else ivDiv (mG r o.a.toNat) (mG r o.b.toNat)
def regI (t : Tp) (x : List Iv) : Nat → List Iv
  | 0 => []
  | i + 1 => regI t x i ++ [opI (t.ops.getD i ⟨0, 0, 0, 0⟩) x (regI t x i)]
abbrev dI (dr : List (List Iv)) (i : Int) (k : Nat) : Iv := mG (dr.getD i.toNat []) k
def sloI (o : OpN) (q : Iv) (r : List Iv) (dr : List (List Iv)) (k : Nat) : Iv :=
  if o.k = 1 ∧ o.a = k then pt oneW else if o.k = 0 ∨ o.k = 1 then (0, 0) else
  if o.k = 2 then ivAdd (dI dr o.a k) (dI dr o.b k) else if o.k = 3 then ivSub (dI dr o.a k) (dI dr o.b k) else
  if o.k = 4 then ivAdd (ivMul (dI dr o.a k) (mG r o.b.toNat)) (ivMul (mG r o.a.toNat) (dI dr o.b k)) else
  ivDiv (ivSub (dI dr o.a k) (ivMul q (dI dr o.b k))) (mG r o.b.toNat)
def tabI (f : Nat → Iv) (n : Nat) : List Iv := (List.range n).map f
def drI (t : Tp) (x : List Iv) : Nat → List (List Iv)
  | 0 => []
  | i + 1 => drI t x i ++ [tabI (sloI (t.ops.getD i ⟨0, 0, 0, 0⟩) (opI (t.ops.getD i ⟨0, 0, 0, 0⟩) x (regI t x i)) (regI t x i) (drI t x i)) t.n]
def jacI (t : Tp) (x : List Iv) : List (List Iv) := (List.range t.n).map fun i => (drI t x t.ops.length).getD (t.out.getD i 0).toNat []
def rowS (l : List Iv) (i : Nat) : Nat → Nat
  | 0 => (mG l i).2
  | k + 1 => if k = i then rowS l i k else up (fop .add (rowS l i k) (ivMag (mG l k)))
def normK (j : List (List Iv)) : Nat → Option Nat
  | 0 => some fninf
  | i + 1 => match normK j i with
    | none => none
    | some b => let s := rowS (j.getD i []) i j.length; if isNan s = true then none else some (if fcmp .gt s b = true then s else b)
def normI (j : List (List Iv)) : Nat := (normK j j.length).getD finf
def sqI (y : Iv) : Nat → Iv
  | 0 => y
  | k + 1 => ivMul (sqI y k) (sqI y k)
def ivExp (x : Nat) : Nat := if (isNan x || fcmp .ge x 4647714815446351872) = true then finf else
  (sqI (ivDiv (pt oneW) (ivSub (pt oneW) (ivDiv (pt x) (pt 4652218415073722368)))) 10).2
def colT (z : List (List Nat)) (i : Nat) : List Nat := z.map fun r => r.getD i 0
def valK (c : List Nat) (s : Nat) : Nat → Iv
  | 0 => pt (c.getD (c.length - 1) 0)
  | m + 1 => ivAdd (ivMul (valK c s m) (pt s)) (pt (c.getD (c.length - 2 - m) 0))
def valC (c : List Nat) (s : Nat) : Iv := valK c s (c.length - 1)
def sloM (c : List Nat) (h : Nat) : Md := (List.range 10).map fun k => if k + 1 < c.length ∧ k < 9 then ivDiv (ivMul (pt (FloatKind.nearest .f64 ((k : Int) + 1))) (pt (c.getD (k + 1) 0))) (pt h) else (0, 0)
def bestF (f : Nat → Nat) : Nat → Nat
  | 0 => f 0
  | i + 1 => if fcmp .gt (f (i + 1)) (bestF f i) = true then f (i + 1) else bestF f i
def jmpI (z : List (List Nat)) (y : List Nat) (i : Nat) : Nat := ivMag (ivSub (valC (colT z i) negW) (pt (y.getD i 0)))
def dftI (t : Tp) (z : List (List Nat)) (q : List Md) (h : Nat) (i : Nat) : Nat := ivMag (rngM (zipM ivSub ((evalM t q).getD i []) (sloM (colT z i) h)))
def colsM (z : List (List Nat)) (n : Nat) : List Md := (List.range n).map fun i => ofM (colT z i)
def tubI (q : List Md) (r : Nat) (i : Nat) : Iv := ivAdd (rngM (q.getD i [])) (fop .sub 0 r, r)
def withinI (a b : Iv) : Bool := fcmp .le b.1 a.1 && fcmp .le a.2 b.2
def insK (q : List Md) (box : List Iv) (r : Nat) (n : Nat) : Bool := (List.range n).all fun i => withinI (tubI q r i) (mG box i)
def growF (h m : Nat) : Nat := if fcmp .le m 0 = true then oneW else if fcmp .gt (ivExp (up (fop .mul h m))) oneW = true then ivExp (up (fop .mul h m)) else oneW
structure Bnd where
  jump : Nat
  defect : Nat
  norm : Nat
  growth : Nat
  bound : Nat
def bndK (t : Tp) (box : List Iv) (q : List Md) (h e j d : Nat) : Nat → Nat → Bnd × Int
  | 0, _ => (⟨0, 0, 0, 0, 0⟩, 7)
  | k + 1, r => if insK q box r t.n = false then (⟨0, 0, 0, 0, 0⟩, 3) else
    let m := normI (jacI t (tabI (tubI q r) t.n))
    let b := up (fop .mul (growF h m) e)
    if fcmp .lt b r = true then (⟨j, d, m, growF h m, b⟩, 0) else if finite b = false then (⟨0, 0, 0, 0, 0⟩, 7) else bndK t box q h e j d k (up (fop .mul 4616189618054758400 b))
def bndP (t : Tp) (box : List Iv) (z : List (List Nat)) (h : Nat) (y : List Nat) (before : Nat) : Bnd × Int :=
  let q := colsM z t.n
  let j := bestF (jmpI z y) (t.n - 1)
  let d := bestF (dftI t z q h) (t.n - 1)
  if (finite j && finite d) = false then (⟨0, 0, 0, 0, 0⟩, 7) else
  let e := up (fop .add (up (fop .add before j)) (up (fop .mul h d)))
  bndK t box q h e j d 3 (up (fop .mul 4616189618054758400 e))
theorem regI_len (t : Tp) (x : List Iv) (i : Nat) : (regI t x i).length = i := by
  induction i with
  | zero => rfl
  | succ i ih => simp [regI, ih]
theorem drI_len (t : Tp) (x : List Iv) (i : Nat) : (drI t x i).length = i := by
  induction i with
  | zero => rfl
  | succ i ih => simp [drI, ih]
theorem tabI_len (f : Nat → Iv) (n : Nat) : (tabI f n).length = n := by simp [tabI]
theorem tabI_succ (f : Nat → Iv) (n : Nat) : tabI f (n + 1) = tabI f n ++ [f n] := by simp [tabI, List.range_succ]
theorem drI_rows (t : Tp) (x : List Iv) (i : Nat) : ∀ j, j < i → ((drI t x i).getD j []).length = t.n := by
  induction i with
  | zero => intro j hj; omega
  | succ i ih =>
    intro j hj
    have hl := drI_len t x i
    unfold drI
    by_cases h : j < i
    · have := ih j h
      rw [List.getD_eq_getElem?_getD] at this ⊢
      rwa [List.getElem?_append_left (by omega)]
    · obtain rfl : j = i := by omega
      rw [List.getD_eq_getElem?_getD, List.getElem?_append_right (by omega), hl, Nat.sub_self]
      exact tabI_len _ _
theorem jacI_len (t : Tp) (x : List Iv) : (jacI t x).length = t.n := by simp [jacI]
theorem colT_len (z : List (List Nat)) (i : Nat) : (colT z i).length = z.length := by simp [colT]
theorem colsM_len (z : List (List Nat)) (n : Nat) : (colsM z n).length = n := by simp [colsM]
theorem mG_tabI (f : Nat → Iv) (n i : Nat) (h : i < n) : mG (tabI f n) i = f i := by
  simp [mG, tabI, List.getD_eq_getElem?_getD, h]
theorem colT_at (z : List (List Nat)) (i k : Nat) (h : k < z.length) : (colT z i).getD k 0 = (z.getD k []).getD i 0 := by
  simp [colT, List.getD_eq_getElem?_getD, h]
def Pw (x : Nat) : Prop := x ≤ 9218868437227405312
theorem Pw_nan {x : Nat} (h : Pw x) : isNan x = false := by
  unfold Pw at h
  unfold isNan
  simp only [decide_eq_false_iff_not]
  omega
theorem word_false (r : Nat) : Ieee.double.word false r = r := by simp [Ieee.Format.word]
theorem Pw_fin {x : Nat} (h : x < 9218868437227405312) : fin x := by
  have := fin_word false x h
  rwa [word_false] at this
theorem Pw_val {x : Nat} (h : x < 9218868437227405312) : val x = rv x := by
  have := val_word false x h
  rwa [word_false] at this
theorem read_inf : Ieee.double.read 9218868437227405312 = .infinity false := by decide
theorem Pw_read {x : Nat} (h : Pw x) : (∃ m i, Ieee.double.read x = .number false m i) ∨ x = 9218868437227405312 := by
  by_cases e : x = 9218868437227405312
  · exact .inr e
  · left
    unfold Pw at h
    have := read_word false x (by omega)
    rw [word_false] at this
    rw [this]
    split <;> exact ⟨_, _, rfl⟩
theorem Pw_near (m : Nat) (i : Int) : Pw (cf (Ieee.double.nearest false m i)) := by
  have key : ∀ r, Pw r → Pw (cf r) := fun r h => by rw [cf_not (Pw_nan h)]; exact h
  unfold Ieee.Format.nearest
  split
  · rw [word_false]; exact key 0 (Nat.zero_le _)
  · have q4 : Ieee.double.infRung = 9218868437227405312 := rfl
    simp only [q4]
    rw [word_false]
    exact key _ (Nat.min_le_right _ _)
theorem Pw_inf : Pw (cf (Ieee.double.write (.infinity false))) := by
  have : cf (Ieee.double.write (.infinity false)) = 9218868437227405312 := by decide
  rw [this]; exact Nat.le_refl _
theorem Pw_some (d : Ieee.Datum) (h : Pw (cf (Ieee.double.write d))) : Pw ((((some d).map Ieee.double.write).map cf).getD qnan) := h
theorem Pw_num (m : Nat) (i : Int) : Pw (cf (Ieee.double.write (.number false m i))) := Pw_near m i
theorem sum_fin (m n : Nat) (i j : Int) : ∃ a b, Ieee.Datum.sum (.number false m i) (.number false n j) = some (.number false a b) := by
  have key : ∀ a b : Nat, (if ((a : Int) + b) = 0 then (false && false) else decide ((a : Int) + b < 0)) = false := fun a b => by
    split
    · rfl
    · simp; omega
  simp only [Ieee.Datum.sum, Ieee.signed, Bool.false_eq_true, if_false]
  rw [key]
  exact ⟨_, _, rfl⟩
theorem Pw_add {x y : Nat} (hx : Pw x) (hy : Pw y) : Pw (fop .add x y) := by
  unfold fop Ieee.Format.add
  simp only
  rcases Pw_read hx with ⟨m, i, h1⟩ | rfl <;> rcases Pw_read hy with ⟨n, j, h2⟩ | rfl
  · rw [h1, h2]
    obtain ⟨a, b, e⟩ := sum_fin m n i j
    rw [e]
    exact Pw_some _ (Pw_num _ _)
  · rw [h1, read_inf, show Ieee.Datum.sum (.number false m i) (.infinity false) = some (.infinity false) from rfl]; exact Pw_some _ Pw_inf
  · rw [h2, read_inf, show Ieee.Datum.sum (.infinity false) (.number false n j) = some (.infinity false) from rfl]; exact Pw_some _ Pw_inf
  · rw [read_inf, show Ieee.Datum.sum (.infinity false) (.infinity false) = some (.infinity false) from rfl]; exact Pw_some _ Pw_inf
theorem Pw_mul {x y : Nat} (hx : fin x) (h0 : Pw x) (hp : 0 < val x) (hy : Pw y) : Pw (fop .mul x y) := by
  unfold fop Ieee.Format.mul
  simp only
  obtain ⟨s, m0, i0, hd⟩ := hx
  rcases Pw_read h0 with ⟨m, i, h1⟩ | rfl
  · rcases Pw_read hy with ⟨n, j, h2⟩ | rfl
    · rw [h1, h2]
      rw [show Ieee.Datum.product (.number false m i) (.number false n j) = some (.number false (m * n) (i + j)) from rfl]
      exact Pw_some _ (Pw_num _ _)
    · rw [h1, read_inf]
      have hm : m ≠ 0 := by
        rintro rfl
        have := val_eq h1
        rw [this] at hp
        simp at hp
      have e : Ieee.Datum.product (.number false m i) (.infinity false) = some (.infinity false) := by simp only [Ieee.Datum.product, hm, if_false, Bool.xor_self]
      rw [e]
      exact Pw_some _ Pw_inf
  · rw [read_inf] at hd; cases hd
theorem up_inf : up 9218868437227405312 = 9218868437227405312 := by decide
theorem up_Pw {x : Nat} (h : x < 9218868437227405312) : up x = x + 1 := by
  have hf := Pw_fin h
  have hn := fin_not_nan hf
  have n1 : isNan finf = false := by decide
  have rd : Ieee.double.read finf = .infinity false := by decide
  have o1 : fcmp .eq x finf = false := by
    obtain ⟨s', m, i, hd⟩ := hf
    simp [fcmp, Ieee.Format.order, hd, rd, Ieee.Datum.order]
  have o2 : fcmp .gt finf x = true := by
    obtain ⟨s', m, i, hd⟩ := hf
    simp [fcmp, Ieee.Format.order, hd, rd, Ieee.Datum.order]
  unfold up nextF
  rw [hn, n1, o1, o2]
  simp only [Bool.false_eq_true, or_self, if_false]
  by_cases hr : x = 0
  · subst hr; decide
  · have hp : 0 < rv x := by have := rv_lt (show 0 < x by omega); rwa [rv_zero] at this
    have z : ¬ fcmp .eq x 0 = true := by
      rw [fcmp_eq hf fin_zero, Pw_val h, val_zero]; grind
    have g : fcmp .gt x 0 = true := by
      rw [fcmp_gt hf fin_zero, Pw_val h, val_zero]; exact hp
    rw [if_neg z, g]
    simp only [beq_self_eq_true, if_true]
    have w : (IntKind.wrap .u64 ((x : Int) + 1)).toNat = x + 1 := by rw [wrapU (by omega) (by omega)]; omega
    rw [w]
    exact cf_not (Pw_nan (by unfold Pw; omega))
theorem up_pos {x : Nat} (h : Pw x) : Pw (up x) ∧ 0 < up x := by
  by_cases e : x = 9218868437227405312
  · subst e; rw [up_inf]; exact ⟨Nat.le_refl _, by decide⟩
  · unfold Pw at h ⊢
    rw [up_Pw (by omega)]
    omega
theorem neg_Pw {r : Nat} (h : Pw r) (h0 : 0 < r) : fop .sub 0 r = 9223372036854775808 + r ∧ fcmp .le (9223372036854775808 + r) r = true := by
  by_cases e : r = 9218868437227405312
  · subst e; decide
  · unfold Pw at h
    have hr : r < 9218868437227405312 := by omega
    have h1 : Ieee.double.signWeight = 9223372036854775808 := rfl
    have e2 : 9223372036854775808 + r = Ieee.double.word true r := by simp [Ieee.Format.word, h1]
    have hp : 0 < rv r := by have := rv_lt h0; rwa [rv_zero] at this
    refine ⟨?_, ?_⟩
    · have hw := read_word false r hr
      rw [word_false] at hw
      have r0 : Ieee.double.read 0 = .number false 0 (-1074) := by decide
      have hc : cf (Ieee.double.word true r) = Ieee.double.word true r := cf_not (isNan_word _ _ hr)
      have key : ∀ (m d : Nat) (i : Int), m ≠ 0 → i = -1074 + d → Ieee.double.read r = .number false m i → fop .sub 0 r = cf (Ieee.double.nearest true (m * 2 ^ d) (-1074)) := fun m d i hm hi hd => by
        unfold fop Ieee.Format.sub
        rw [r0, hd]
        have e1 : min (-1074 : Int) i = -1074 := by omega
        have e3 : (i - -1074).toNat = d := by omega
        have hp : 0 < 2 ^ d := Nat.pow_pos (by decide)
        have hmp : 0 < m * 2 ^ d := Nat.mul_pos (by omega) hp
        simp only [Ieee.Datum.opposite, Ieee.Datum.sum, e1, e3, Option.map_some, Option.getD_some, Ieee.Format.write, Ieee.signed]
        generalize hx : m * 2 ^ d = x at hmp
        simp only [Bool.false_eq_true, if_false, Bool.not_false, if_true, Nat.zero_mul, Nat.zero_shiftLeft, Nat.shiftLeft_eq, hx]
        have q1 : ((0 : Nat) : Int) + -(x : Int) ≠ 0 := by omega
        have q2 : decide (((0 : Nat) : Int) + -(x : Int) < 0) = true := decide_eq_true (by omega)
        have q3 : (((0 : Nat) : Int) + -(x : Int)).natAbs = x := by omega
        first | rw [if_neg q1, q2, q3] | (simp [q1, q2, q3]; done)
      rw [e2]
      by_cases h3 : r < 4503599627370496
      · rw [if_pos h3] at hw
        rw [key r 0 _ (by omega) (by omega) hw]
        have hl2 : r.log2 < 52 := (Nat.log2_lt (by omega)).2 h3
        have := nearest_mul true r 0 _ (-1074) (-1074) (by omega) rfl (by rw [Nat.pow_zero, Nat.mul_one]; omega) (by omega)
        rw [this, show min ((-1074 + 1074 : Int).toNat * 4503599627370496 + r) 9218868437227405312 = r by simp; omega, hc]
      · rw [if_neg h3] at hw
        rw [key _ (r / 4503599627370496 - 1) _ (by omega) (by omega) hw]
        have hm1 : 2 ^ 52 ≤ 4503599627370496 + r % 4503599627370496 := by omega
        have hm2 : 4503599627370496 + r % 4503599627370496 < 2 ^ 53 := by omega
        have hL := log2_mul _ (r / 4503599627370496 - 1) 52 hm1 hm2
        have := nearest_mul true (4503599627370496 + r % 4503599627370496) (r / 4503599627370496 - 1) _ (-1074) (-1074 + (r / 4503599627370496 - 1 : Nat)) (by omega) hL (by omega) (by omega)
        rw [this, show min ((-1074 + ((r / 4503599627370496 - 1 : Nat) : Int) + 1074).toNat * 4503599627370496 + (4503599627370496 + r % 4503599627370496)) 9218868437227405312 = r by omega, hc]
    · rw [e2, fcmp_le (fin_word true r hr) (Pw_fin hr), val_word true r hr, Pw_val hr]
      simp only [if_true]
      grind
def A_iv_Add : CA := (.seq (.reg [i_X 0 2 (.box (.t 0) 2 58), i_X 1 3 (.box (.t 1) 2 58), i_X 2 4 (.alloc [(.d (.flt 0)), (.d (.flt 0))] 58)] [2, 3, 4]) (.seq (.reg [i_P 0 5 2 0, i_L 1 6 5 1, i_P 2 7 3 0, i_L 3 8 7 1, i_F 4 9 .add 6 8, i_P 5 10 2 1, i_L 6 11 10 1, i_P 7 12 3 1, i_L 8 13 12 1, i_F 9 14 .add 11 13, i_X 10 15 (.h (.build [(.d (.flt 0)), (.d (.flt 0))] [(0, (1, (.t 9))), (1, (1, (.t 14)))])), i_X 11 16 (.callA (kF 126) [(.t 15), (kF 127)]), i_S 12 4 16 2] [4]) .ret))
theorem A_iv_Add_comp : compF Tryz.prog 92 = some ⟨17, [(4, (some (2, true)))], A_iv_Add.strip⟩ := by kernel_rfl
def A_iv_Div : CA := (.seq (.reg [i_X 0 2 (.box (.t 0) 2 58), i_X 1 3 (.box (.t 1) 2 58), i_X 2 4 (.alloc [(.d (.flt 0)), (.d (.flt 0))] 58)] [2, 3, 4]) (.seq (.seq (.reg [i_A 0 5 3 2, i_X 1 6 (.callA (kF 157) [(.k (.d (.flt 0))), (.t 5)])] [2, 3, 4, 6]) (.cond (.t 6) (.seq (.reg [i_X 0 7 (.callA (kF 136) []), i_S 1 4 7 2] [4]) .ret) .skip)) (.seq (.reg [i_P 0 8 2 0, i_L 1 9 8 1, i_P 2 10 3 0, i_L 3 11 10 1, i_F 4 12 .div 9 11, i_P 5 13 2 0, i_L 6 14 13 1, i_P 7 15 3 1, i_L 8 16 15 1, i_F 9 17 .div 14 16, i_P 10 18 2 1, i_L 11 19 18 1, i_P 12 20 3 0, i_L 13 21 20 1, i_F 14 22 .div 19 21, i_P 15 23 2 1, i_L 16 24 23 1, i_P 17 25 3 1, i_L 18 26 25 1, i_F 19 27 .div 24 26, i_X 20 28 (.h (.build z_4 [(0, (1, (.t 12))), (1, (1, (.t 17))), (2, (1, (.t 22))), (3, (1, (.t 27)))])), i_X 21 29 (.callA (kF 154) [(.t 28)]), i_S 22 4 29 2] [4]) .ret)))
theorem A_iv_Div_comp : compF Tryz.prog 131 = some ⟨30, [(4, (some (2, true)))], A_iv_Div.strip⟩ := by kernel_rfl
def A_iv_In : CA := (.seq (.reg [i_X 0 3 (.box (.t 1) 2 58), i_X 1 4 (.h (.mov (.k (.d (.bool false)))))] [0, 3]) (.seq (.reg [i_P 0 5 3 0, i_L 1 6 5 1, i_M 2 7 0, i_X 3 8 (.h (.fcmp .le (.t 6) (.t 7))), i_M 4 9 8, ⟨5, (some 10), (some (9, true)), [], [], (.h (.mov (.t 0)))⟩, ⟨6, (some 11), (some (9, true)), [], [], (.h (.padd (.t 3) 1))⟩, ⟨7, (some 12), (some (9, true)), [], [], (.load (.t 11) 1 false)⟩, ⟨8, (some 13), (some (9, true)), [], [], (.h (.fcmp .le (.t 10) (.t 12)))⟩, i_X 9 14 (.h (.pick (.t 9) (.t 13) (.k (.d (.bool false))))), i_M 10 4 14] [4]) .ret))
theorem A_iv_In_comp : compF Tryz.prog 157 = some ⟨15, [(4, none)], A_iv_In.strip⟩ := by kernel_rfl
def A_iv_Mag : CA := (.seq (.reg [i_X 0 1 (.box (.t 0) 2 58), i_X 1 2 (.h (.mov (.k (.d (.flt 0)))))] [1]) (.seq (.reg [i_P 0 5 1 0, i_L 1 6 5 1, i_X 2 7 (.callS 0 (kF 118) [(.t 6)]), i_P 3 8 1 1, i_L 4 9 8 1, i_X 5 10 (.callA (kF 118) [(.t 9)]), i_M 6 3 7, i_M 7 4 10] [3, 4]) (.seq (.seq (.reg [i_M 0 11 4, i_M 1 12 3, i_X 2 13 (.h (.fcmp .gt (.t 11) (.t 12)))] [3, 4, 13]) (.cond (.t 13) (.seq (.reg [i_M 0 14 4, i_M 1 2 14] [2]) .ret) .skip)) (.seq (.reg [i_M 0 15 3, i_M 1 2 15] [2]) .ret))))
theorem A_iv_Mag_comp : compF Tryz.prog 81 = some ⟨16, [(2, none)], A_iv_Mag.strip⟩ := by kernel_rfl
def A_iv_Within : CA := (.seq (.reg [i_X 0 2 (.box (.t 0) 2 58), i_X 1 3 (.box (.t 1) 2 58), i_X 2 4 (.h (.mov (.k (.d (.bool false)))))] [2, 3]) (.seq (.reg [i_P 0 5 3 0, i_L 1 6 5 1, i_P 2 7 2 0, i_L 3 8 7 1, i_X 4 9 (.h (.fcmp .le (.t 6) (.t 8))), i_M 5 10 9, ⟨6, (some 11), (some (10, true)), [], [], (.h (.padd (.t 2) 1))⟩, ⟨7, (some 12), (some (10, true)), [], [], (.load (.t 11) 1 false)⟩, ⟨8, (some 13), (some (10, true)), [], [], (.h (.padd (.t 3) 1))⟩, ⟨9, (some 14), (some (10, true)), [], [], (.load (.t 13) 1 false)⟩, ⟨10, (some 15), (some (10, true)), [], [], (.h (.fcmp .le (.t 12) (.t 14)))⟩, i_X 11 16 (.h (.pick (.t 10) (.t 15) (.k (.d (.bool false))))), i_M 12 4 16] [4]) .ret))
theorem A_iv_Within_comp : compF Tryz.prog 94 = some ⟨17, [(4, none)], A_iv_Within.strip⟩ := by kernel_rfl
def A_iv_point : CA := (.seq (.reg [i_X 0 2 (.alloc [(.d (.flt 0)), (.d (.flt 0))] 58)] [0, 2]) (.seq (.reg [i_M 0 3 0, i_M 1 4 0, i_X 2 5 (.h (.build [(.d (.flt 0)), (.d (.flt 0))] [(0, (1, (.t 3))), (1, (1, (.t 4)))])), i_S 3 2 5 2] [2]) .ret))
theorem A_iv_point_comp : compF Tryz.prog 140 = some ⟨6, [(2, (some (2, true)))], A_iv_point.strip⟩ := by kernel_rfl
def A_iv_Exp_L0 : CA := (.seq (.reg [i_B 0 20 .lss 19 10] [3, 19, 20]) (.seq (.cond (.t 20) .skip (.exit 0)) (.seq (.block 1 (.reg [i_A 0 21 3 2, i_A 1 22 3 2, i_X 2 23 (.callA (kF 125) [(.t 21), (.t 22)]), i_S 3 3 23 2] [3, 19])) (.reg [i_B 0 24 .add 19 1, i_M 1 19 24] [3, 19]))))
def A_iv_Exp : CA := (.seq (.reg [i_X 0 2 (.h (.mov (.k (.d (.flt 0)))))] [0]) (.seq (.seq (.reg [i_M 0 4 0, i_X 1 5 (.callA (kF 88) [(.t 4)]), i_M 2 6 5, ⟨3, (some 7), (some (6, false)), [], [], (.h (.mov (.t 0)))⟩, ⟨4, (some 8), (some (6, false)), [], [], (.h (.fcmp .ge (.t 7) (.k (.d (.flt 4647714815446351872)))))⟩, i_X 5 9 (.h (.pick (.t 6) (.k (.d (.bool true))) (.t 8)))] [0, 9]) (.cond (.t 9) (.seq (.reg [i_X 0 10 (.callA (kF 91) [(kI 1)]), i_M 1 2 10] [2]) .ret) .skip)) (.seq (.reg [i_X 0 11 (.callA (kF 140) [(.k (.d (.flt 4607182418800017408)))]), i_X 1 12 (.callA (kF 140) [(.k (.d (.flt 4607182418800017408)))]), i_M 2 13 0, i_X 3 14 (.callA (kF 140) [(.t 13)]), i_X 4 15 (.callA (kF 140) [(.k (.d (.flt 4652218415073722368)))]), i_X 5 16 (.callA (kF 131) [(.t 14), (.t 15)]), i_X 6 17 (.callA (kF 79) [(.t 12), (.t 16)]), i_X 7 18 (.callA (kF 131) [(.t 11), (.t 17)]), i_X 8 3 (.alloc [(.d (.flt 0)), (.d (.flt 0))] 58), i_S 9 3 18 2] [3]) (.seq (.seq (.reg [i_K 0 19 0] [3, 19]) (.block 0 (.loop A_iv_Exp_L0))) (.seq (.reg [i_P 0 25 3 1, i_L 1 26 25 1, i_M 2 2 26] [2]) .ret)))))
theorem A_iv_Exp_comp : compF Tryz.prog 98 = some ⟨27, [(2, none)], A_iv_Exp.strip⟩ := by kernel_rfl
def A_r2_Add : CA := (.seq (.reg [i_X 0 2 (.box (.t 0) 2 58), i_X 1 3 (.box (.t 1) 2 58), i_X 2 4 (.alloc [(.d (.flt 0)), (.d (.flt 0))] 58)] [2, 3, 4]) (.seq (.reg [i_P 0 5 2 0, i_L 1 6 5 1, i_P 2 7 3 0, i_L 3 8 7 1, i_F 4 9 .add 6 8, i_X 5 10 (.callS 0 (kF 112) [(.t 9)]), i_P 6 11 2 1, i_L 7 12 11 1, i_P 8 13 3 1, i_L 9 14 13 1, i_F 10 15 .add 12 14, i_X 11 16 (.callA (kF 50) [(.t 15)]), i_X 12 17 (.callA (kF 111) [(.t 10), (.t 16)]), i_S 13 4 17 2] [4]) .ret))
theorem A_r2_Add_comp : compF Tryz.prog 55 = some ⟨18, [(4, (some (2, true)))], A_r2_Add.strip⟩ := by kernel_rfl
def A_r2_Div : CA := (.seq (.reg [i_X 0 2 (.box (.t 0) 2 58), i_X 1 3 (.box (.t 1) 2 58), i_X 2 4 (.alloc [(.d (.flt 0)), (.d (.flt 0))] 58)] [2, 3, 4]) (.seq (.seq (.reg [i_A 0 5 3 2, i_X 1 6 (.callA (kF 146) [(.t 5)])] [2, 3, 4, 6]) (.cond (.t 6) (.seq (.reg [i_X 0 7 (.callA (kF 147) []), i_S 1 4 7 2] [4]) .ret) .skip)) (.seq (.reg [i_P 0 8 2 0, i_L 1 9 8 1, i_P 2 10 3 0, i_L 3 11 10 1, i_F 4 12 .div 9 11, i_P 5 13 2 0, i_L 6 14 13 1, i_P 7 15 3 1, i_L 8 16 15 1, i_F 9 17 .div 14 16, i_P 10 18 2 1, i_L 11 19 18 1, i_P 12 20 3 0, i_L 13 21 20 1, i_F 14 22 .div 19 21, i_P 15 23 2 1, i_L 16 24 23 1, i_P 17 25 3 1, i_L 18 26 25 1, i_F 19 27 .div 24 26, i_X 20 28 (.h (.build z_4 [(0, (1, (.t 12))), (1, (1, (.t 17))), (2, (1, (.t 22))), (3, (1, (.t 27)))])), i_X 21 29 (.callA (kF 145) [(.t 28)]), i_S 22 4 29 2] [4]) .ret)))
theorem A_r2_Div_comp : compF Tryz.prog 109 = some ⟨30, [(4, (some (2, true)))], A_r2_Div.strip⟩ := by kernel_rfl
def A_r2_Holds : CA := (.seq (.reg [i_X 0 1 (.box (.t 0) 2 58), i_X 1 2 (.h (.mov (.k (.d (.bool false)))))] [1]) (.seq (.reg [i_P 0 3 1 0, i_L 1 4 3 1, i_X 2 5 (.h (.fcmp .le (.t 4) (.k (.d (.flt 0))))), i_M 3 6 5, ⟨4, (some 7), (some (6, true)), [], [], (.h (.padd (.t 1) 1))⟩, ⟨5, (some 8), (some (6, true)), [], [], (.load (.t 7) 1 false)⟩, ⟨6, (some 9), (some (6, true)), [], [], (.h (.fcmp .le (.k (.d (.flt 0))) (.t 8)))⟩, i_X 7 10 (.h (.pick (.t 6) (.t 9) (.k (.d (.bool false))))), i_M 8 2 10] [2]) .ret))
theorem A_r2_Holds_comp : compF Tryz.prog 146 = some ⟨11, [(2, none)], A_r2_Holds.strip⟩ := by kernel_rfl
def A_r2_Mag : CA := (.seq (.reg [i_X 0 1 (.box (.t 0) 2 58), i_X 1 2 (.h (.mov (.k (.d (.flt 0)))))] [1]) (.seq (.reg [i_P 0 5 1 0, i_L 1 6 5 1, i_X 2 7 (.callS 0 (kF 63) [(.t 6)]), i_P 3 8 1 1, i_L 4 9 8 1, i_X 5 10 (.callA (kF 63) [(.t 9)]), i_M 6 3 7, i_M 7 4 10] [3, 4]) (.seq (.seq (.reg [i_M 0 11 4, i_M 1 12 3, i_X 2 13 (.h (.fcmp .gt (.t 11) (.t 12)))] [3, 4, 13]) (.cond (.t 13) (.seq (.reg [i_M 0 14 4, i_M 1 2 14] [2]) .ret) .skip)) (.seq (.reg [i_M 0 15 3, i_M 1 2 15] [2]) .ret))))
theorem A_r2_Mag_comp : compF Tryz.prog 101 = some ⟨16, [(2, none)], A_r2_Mag.strip⟩ := by kernel_rfl
def A_r2_Within : CA := (.seq (.reg [i_X 0 2 (.box (.t 0) 2 58), i_X 1 3 (.box (.t 1) 2 58), i_X 2 4 (.h (.mov (.k (.d (.bool false)))))] [2, 3]) (.seq (.reg [i_P 0 5 3 0, i_L 1 6 5 1, i_P 2 7 2 0, i_L 3 8 7 1, i_X 4 9 (.h (.fcmp .le (.t 6) (.t 8))), i_M 5 10 9, ⟨6, (some 11), (some (10, true)), [], [], (.h (.padd (.t 2) 1))⟩, ⟨7, (some 12), (some (10, true)), [], [], (.load (.t 11) 1 false)⟩, ⟨8, (some 13), (some (10, true)), [], [], (.h (.padd (.t 3) 1))⟩, ⟨9, (some 14), (some (10, true)), [], [], (.load (.t 13) 1 false)⟩, ⟨10, (some 15), (some (10, true)), [], [], (.h (.fcmp .le (.t 12) (.t 14)))⟩, i_X 11 16 (.h (.pick (.t 10) (.t 15) (.k (.d (.bool false))))), i_M 12 4 16] [4]) .ret))
theorem A_r2_Within_comp : compF Tryz.prog 57 = some ⟨17, [(4, none)], A_r2_Within.strip⟩ := by kernel_rfl
def A_r2_Exp_L0 : CA := (.seq (.seq (.reg [i_M 0 21 4, i_B 1 22 .lss 21 10] [3, 4, 22]) (.cond (.t 22) .skip (.exit 0))) (.seq (.block 1 (.reg [i_A 0 25 3 2, i_A 1 26 3 2, i_X 2 27 (.callA (kF 108) [(.t 25), (.t 26)]), i_S 3 3 27 2] [3, 4])) (.reg [i_M 0 23 4, i_B 1 24 .add 23 1, i_M 2 4 24] [3, 4])))
def A_r2_Exp : CA := (.seq (.reg [i_X 0 2 (.h (.mov (.k (.d (.flt 0)))))] [0]) (.seq (.seq (.reg [i_M 0 5 0, i_M 1 6 0, i_X 2 7 (.h (.fcmp .ne (.t 5) (.t 6))), i_M 3 8 7, ⟨4, (some 9), (some (8, false)), [], [], (.h (.mov (.t 0)))⟩, ⟨5, (some 10), (some (8, false)), [], [], (.h (.fcmp .ge (.t 9) (.k (.d (.flt 4647714815446351872)))))⟩, i_X 6 11 (.h (.pick (.t 8) (.k (.d (.bool true))) (.t 10)))] [0, 11]) (.cond (.t 11) (.seq (.reg [i_X 0 12 (.callA (kF 71) []), i_M 1 2 12] [2]) .ret) .skip)) (.seq (.reg [i_X 0 13 (.callA (kF 99) [(.k (.d (.flt 4607182418800017408)))]), i_X 1 14 (.callA (kF 99) [(.k (.d (.flt 4607182418800017408)))]), i_M 2 15 0, i_X 3 16 (.callA (kF 99) [(.t 15)]), i_X 4 17 (.callA (kF 99) [(.k (.d (.flt 4652218415073722368)))]), i_X 5 18 (.callA (kF 109) [(.t 16), (.t 17)]), i_X 6 19 (.callA (kF 102) [(.t 14), (.t 18)]), i_X 7 20 (.callA (kF 109) [(.t 13), (.t 19)]), i_X 8 3 (.alloc [(.d (.flt 0)), (.d (.flt 0))] 58), i_S 9 3 20 2] [3]) (.seq (.seq (.reg [i_K 0 4 0] [3, 4]) (.block 0 (.loop A_r2_Exp_L0))) (.seq (.reg [i_P 0 28 3 1, i_L 1 29 28 1, i_M 2 2 29] [2]) .ret)))))
theorem A_r2_Exp_comp : compF Tryz.prog 54 = some ⟨30, [(2, none)], A_r2_Exp.strip⟩ := by kernel_rfl
theorem iv_Add_con (a b : Iv) : Con Tryz.prog 92 [ivV a, ivV b] (ivV (ivAdd a b)) := by
  refine Con_introA A_iv_Add_comp rfl mixed ?_
  refine evx @A_iv_Add.eq_1 ?_
  refine callG_con (iv_out_con (fop .add a.1 b.1) (fop .add a.2 b.2)) rfl ?_
  refine ev ?_
  exact endsT_retm rfl (by decide) rfl rfl rfl (by simp) (by simp [ldv, ivAdd])
theorem r2_Add_con (a b : Iv) : Con Tryz.prog 55 [ivV a, ivV b] (ivV (ivAdd a b)) := by
  refine Con_introA A_r2_Add_comp rfl mixed ?_
  refine evx @A_r2_Add.eq_1 ?_
  refine callSG_con (r1_Down_con _) rfl ?_
  refine ev ?_
  refine callG_con (r1_Up_con _) rfl ?_
  refine ev ?_
  refine callG_con (r2_Make_con _ _) rfl ?_
  refine ev ?_
  exact endsT_retm rfl (by decide) rfl rfl rfl (by simp) (by simp [ldv, ivAdd])
theorem iv_In_con (x : Nat) (a : Iv) : Con Tryz.prog 157 [fl x, ivV a] (fB (fcmp .le a.1 x && fcmp .le x a.2)) := by
  refine Con_introA A_iv_In_comp rfl mixed ?_
  refine evx @A_iv_In.eq_1 ?_
  cases h : fcmp .le a.1 x
  · refine ev ?_
    exact endsT_rett rfl (by decide) (by simp [look])
  · refine ev ?_
    exact endsT_rett rfl (by decide) (by simp [look])
theorem r2_Holds_con (a : Iv) : Con Tryz.prog 146 [ivV a] (fB (in0 a)) := by
  unfold in0
  refine Con_introA A_r2_Holds_comp rfl mixed ?_
  refine evx @A_r2_Holds.eq_1 ?_
  cases h : fcmp .le a.1 0
  · refine ev ?_
    exact endsT_rett rfl (by decide) (by simp [look])
  · refine ev ?_
    exact endsT_rett rfl (by decide) (by simp [look])
theorem iv_Within_con (a b : Iv) : Con Tryz.prog 94 [ivV a, ivV b] (fB (withinI a b)) := by
  unfold withinI
  refine Con_introA A_iv_Within_comp rfl mixed ?_
  refine evx @A_iv_Within.eq_1 ?_
  cases h : fcmp .le b.1 a.1
  · refine ev ?_
    exact endsT_rett rfl (by decide) (by simp [look])
  · refine ev ?_
    exact endsT_rett rfl (by decide) (by simp [look])
theorem r2_Within_con (a b : Iv) : Con Tryz.prog 57 [ivV a, ivV b] (fB (withinI a b)) := by
  unfold withinI
  refine Con_introA A_r2_Within_comp rfl mixed ?_
  refine evx @A_r2_Within.eq_1 ?_
  cases h : fcmp .le b.1 a.1
  · refine ev ?_
    exact endsT_rett rfl (by decide) (by simp [look])
  · refine ev ?_
    exact endsT_rett rfl (by decide) (by simp [look])
theorem iv_Div_con (a b : Iv) : Con Tryz.prog 131 [ivV a, ivV b] (ivV (ivDiv a b)) := by
  refine Con_introA A_iv_Div_comp rfl mixed ?_
  refine evx @A_iv_Div.eq_1 ?_
  refine callG_con (iv_In_con 0 b) rfl ?_
  have e : (fcmp .le b.1 0 && fcmp .le 0 b.2) = in0 b := rfl
  rw [e]
  unfold ivDiv
  cases h : in0 b
  · refine ev ?_
    refine callG_con (iv_span_con (fop .div a.1 b.1) (fop .div a.1 b.2) (fop .div a.2 b.1) (fop .div a.2 b.2)) rfl ?_
    refine ev ?_
    exact endsT_retm rfl (by decide) rfl rfl rfl (by simp) (by simp [ldv])
  · refine ev ?_
    refine callG_con (iv_whole_con) rfl ?_
    refine ev ?_
    exact endsT_retm rfl (by decide) rfl rfl rfl (by simp) (by simp [ldv])
theorem r2_Div_con (a b : Iv) : Con Tryz.prog 109 [ivV a, ivV b] (ivV (ivDiv a b)) := by
  refine Con_introA A_r2_Div_comp rfl mixed ?_
  refine evx @A_r2_Div.eq_1 ?_
  refine callG_con (r2_Holds_con b) rfl ?_
  unfold ivDiv
  cases h : in0 b
  · refine ev ?_
    refine callG_con (r2_around_con (fop .div a.1 b.1) (fop .div a.1 b.2) (fop .div a.2 b.1) (fop .div a.2 b.2)) rfl ?_
    refine ev ?_
    exact endsT_retm rfl (by decide) rfl rfl rfl (by simp) (by simp [ldv])
  · refine ev ?_
    refine callG_con (r2_Whole_con) rfl ?_
    refine ev ?_
    exact endsT_retm rfl (by decide) rfl rfl rfl (by simp) (by simp [ldv])
theorem iv_Mag_con (a : Iv) : Con Tryz.prog 81 [ivV a] (fl (ivMag a)) := by
  refine Con_introA A_iv_Mag_comp rfl mixed ?_
  refine evx @A_iv_Mag.eq_1 ?_
  refine callSG_con (math_Abs_con a.1) rfl ?_
  refine ev ?_
  refine callG_con (math_Abs_con a.2) rfl ?_
  refine ev ?_
  unfold ivMag
  refine condC_intro (fun h => ?_) (fun h => ?_)
  · refine ev ?_
    rw [if_pos h]
    exact endsT_rett rfl (by decide) (by simp [look])
  · refine ev ?_
    rw [if_neg (by simp [h])]
    exact endsT_rett rfl (by decide) (by simp [look])
theorem r2_Mag_con (a : Iv) : Con Tryz.prog 101 [ivV a] (fl (ivMag a)) := by
  refine Con_introA A_r2_Mag_comp rfl mixed ?_
  refine evx @A_r2_Mag.eq_1 ?_
  refine callSG_con (r1_Abs_con a.1) rfl ?_
  refine ev ?_
  refine callG_con (r1_Abs_con a.2) rfl ?_
  refine ev ?_
  unfold ivMag
  refine condC_intro (fun h => ?_) (fun h => ?_)
  · refine ev ?_
    rw [if_pos h]
    exact endsT_rett rfl (by decide) (by simp [look])
  · refine ev ?_
    rw [if_neg (by simp [h])]
    exact endsT_rett rfl (by decide) (by simp [look])
theorem iv_point_con (x : Nat) : Con Tryz.prog 140 [fl x] (ivV (pt x)) := by
  refine Con_introA A_iv_point_comp rfl mixed ?_
  refine evx @A_iv_point.eq_1 ?_
  exact endsT_retm rfl (by decide) rfl rfl rfl (by simp) (by simp [ldv, pt])
end Go.Ab
namespace Go.Ab
set_option linter.unusedSimpArgs false
set_option linter.unusedVariables false
open Nat renaming reduceEqDiff → n1_, reduceAdd → n2_, reduceMul → n3_, reduceLT → n4_, reduceLeDiff → n5_
open Int renaming reduceToNat → i1_, reduceAdd → i2_, reduceSub → i3_, reduceMul → i4_, reduceNeg → i5_, reduceLT → i6_, reduceLE → i7_
open Go Go.Proofs
def A_model_point : CA := (.seq (.reg [i_X 0 2 (.alloc [(.d (.flt 0)), (.d (.flt 0))] 58)] [0, 2]) (.seq (.reg [i_M 0 3 0, i_M 1 4 0, i_X 2 5 (.h (.build [(.d (.flt 0)), (.d (.flt 0))] [(0, (1, (.t 3))), (1, (1, (.t 4)))])), i_S 3 2 5 2] [2]) .ret))
theorem A_model_point_comp : compF Tryz.prog 124 = some ⟨6, [(2, (some (2, true)))], A_model_point.strip⟩ := by kernel_rfl
def A_model_power : CA := (.seq (.reg [i_X 0 2 (.alloc [(.d (.flt 0)), (.d (.flt 0))] 58)] [0, 2]) (.seq (.seq (.reg [i_M 0 3 0, i_B 1 4 .rem 3 2, i_B 2 5 .eql 4 0] [2, 5]) (.cond (.t 5) (.seq (.reg [i_X 0 6 (.h (.build [(.d (.flt 0)), (.d (.flt 0))] [(0, (1, (.k (.d (.flt 0))))), (1, (1, (.k (.d (.flt 4607182418800017408)))))])), i_S 1 2 6 2] [2]) .ret) .skip)) (.seq (.reg [i_X 0 7 (.h (.build [(.d (.flt 0)), (.d (.flt 0))] [(0, (1, (.k (.d (.flt 13830554455654793216))))), (1, (1, (.k (.d (.flt 0)))))])), i_S 1 2 7 2] [2]) .ret)))
theorem A_model_power_comp : compF Tryz.prog 156 = some ⟨8, [(2, (some (2, true)))], A_model_power.strip⟩ := by kernel_rfl
def A_model_powers_L0 : CA := (.seq (.reg [i_B 0 4 .lss 3 9] [0, 1, 3, 4]) (.seq (.cond (.t 4) .skip (.exit 0)) (.seq (.block 1 (.seq (.reg [i_M 0 5 3, i_M 1 2 5] [0, 1, 2, 3]) (.reg [i_M 0 6 2, i_M 1 7 2, i_X 2 8 (.callA (kF 156) [(.t 7)]), i_X 3 9 (.h (.idxa (.t 1) (.t 6) 9 2)), i_S 4 9 8 2] [0, 1, 3]))) (.reg [i_B 0 10 .add 3 1, i_M 1 3 10] [0, 1, 3]))))
def A_model_powers : CA := (.seq (.reg [i_X 0 0 (.alloc z_18 160)] [0]) (.seq (.reg [i_X 0 1 (.alloc z_18 160)] [0, 1]) (.seq (.seq (.reg [i_K 0 3 0] [0, 1, 3]) (.block 0 (.loop A_model_powers_L0))) (.seq (.reg [i_A 0 11 1 18, i_S 1 0 11 18] [0]) .ret))))
theorem A_model_powers_comp : compF Tryz.prog 159 = some ⟨12, [(0, (some (18, true)))], A_model_powers.strip⟩ := by kernel_rfl
def A_model_Of_L0 : CA := (.seq (.reg [i_B 0 8 .lss 7 9] [0, 2, 3, 7, 8]) (.seq (.cond (.t 8) .skip (.exit 0)) (.seq (.block 1 (.seq (.reg [i_M 0 9 7, i_M 1 4 9] [0, 2, 3, 4, 7]) (.seq (.reg [i_M 0 10 4, i_X 1 11 (.callA (kF 124) [(.k (.d (.flt 0)))]), i_P 2 12 3 0, i_X 3 13 (.h (.idxa (.t 12) (.t 10) 9 2)), i_S 4 13 11 2] [0, 2, 3, 4, 7]) (.seq (.reg [i_M 0 14 4, i_M 1 15 0, i_X 2 16 (.h (.len (.t 15))), i_N 3 17 .lss 14 16] [0, 2, 3, 4, 7, 17]) (.cond (.t 17) (.reg [i_M 0 18 4, i_M 1 19 0, i_M 2 20 4, i_I 3 21 19 20 1, i_L 4 22 21 1, i_X 5 23 (.callA (kF 124) [(.t 22)]), i_P 6 24 3 0, i_X 7 25 (.h (.idxa (.t 24) (.t 18) 9 2)), i_S 8 25 23 2] [0, 2, 3, 7]) .skip))))) (.reg [i_B 0 26 .add 7 1, i_M 1 7 26] [0, 2, 3, 7]))))
def A_model_Of : CA := (.seq (.reg [i_X 0 2 (.alloc z_20 87)] [0, 2]) (.seq (.reg [i_X 0 5 (.callA (kF 124) [(.k (.d (.flt 0)))]), i_X 1 6 (.h (.build z_20 [(18, (2, (.t 5)))])), i_X 2 3 (.alloc z_20 87), i_S 3 3 6 20] [0, 2, 3]) (.seq (.seq (.reg [i_K 0 7 0] [0, 2, 3, 7]) (.block 0 (.loop A_model_Of_L0))) (.seq (.reg [i_A 0 27 3 20, i_S 1 2 27 20] [2]) .ret))))
theorem A_model_Of_comp : compF Tryz.prog 76 = some ⟨28, [(2, (some (20, true)))], A_model_Of.strip⟩ := by kernel_rfl
def A_model_poly_L0 : CA := (.seq (.seq (.reg [i_M 0 9 5, i_B 1 10 .leq 9 8] [1, 2, 3, 4, 5, 10]) (.cond (.t 10) .skip (.exit 0))) (.seq (.block 1 (.reg [i_A 0 13 4 2, i_M 1 14 5, i_X 2 15 (.h (.idxa (.t 1) (.t 14) 9 2)), i_A 3 16 15 2, i_M 4 17 5, i_X 5 18 (.h (.idxa (.t 3) (.t 17) 9 2)), i_A 6 19 18 2, i_X 7 20 (.callS 7 (kF 125) [(.t 16), (.t 19)]), i_X 8 21 (.callA (kF 92) [(.t 13), (.t 20)]), i_S 9 4 21 2] [1, 2, 3, 4, 5])) (.reg [i_M 0 11 5, i_B 1 12 .add 11 1, i_M 2 5 12] [1, 2, 3, 4, 5])))
def A_model_poly : CA := (.seq (.reg [i_X 0 1 (.box (.t 0) 18 160), i_X 1 2 (.alloc [(.d (.flt 0)), (.d (.flt 0))] 58)] [1, 2]) (.seq (.reg [i_X 0 6 (.callA (kF 159) []), i_X 1 3 (.alloc z_18 160), i_S 2 3 6 18] [1, 2, 3]) (.seq (.reg [i_X 0 7 (.h (.idxa (.t 1) (kI 0) 9 2)), i_A 1 8 7 2, i_X 2 4 (.alloc [(.d (.flt 0)), (.d (.flt 0))] 58), i_S 3 4 8 2] [1, 2, 3, 4]) (.seq (.seq (.reg [i_K 0 5 1] [1, 2, 3, 4, 5]) (.block 0 (.loop A_model_poly_L0))) (.seq (.reg [i_A 0 22 4 2, i_S 1 2 22 2] [2]) .ret)))))
theorem A_model_poly_comp : compF Tryz.prog 133 = some ⟨23, [(2, (some (2, true)))], A_model_poly.strip⟩ := by kernel_rfl
def A_model_Range : CA := (.seq (.reg [i_X 0 1 (.box (.t 0) 20 87), i_X 1 2 (.alloc [(.d (.flt 0)), (.d (.flt 0))] 58)] [1, 2]) (.seq (.reg [i_P 0 3 1 0, i_A 1 4 3 18, i_X 2 5 (.callS 0 (kF 133) [(.t 4)]), i_P 3 6 1 18, i_A 4 7 6 2, i_X 5 8 (.callA (kF 92) [(.t 5), (.t 7)]), i_S 6 2 8 2] [2]) .ret))
theorem A_model_Range_comp : compF Tryz.prog 87 = some ⟨9, [(2, (some (2, true)))], A_model_Range.strip⟩ := by kernel_rfl
def A_model_each_L0 : CA := (.seq (.reg [i_B 0 10 .lss 9 9] [2, 3, 4, 6, 7, 9, 10]) (.seq (.cond (.t 10) .skip (.exit 0)) (.seq (.block 1 (.seq (.reg [i_M 0 11 9, i_M 1 8 11] [2, 3, 4, 6, 7, 8, 9]) (.reg [i_M 0 12 8, i_M 1 13 2, i_M 2 14 8, i_P 3 15 3 0, i_X 4 16 (.h (.idxa (.t 15) (.t 14) 9 2)), i_A 5 17 16 2, i_M 6 18 8, i_P 7 19 4 0, i_X 8 20 (.h (.idxa (.t 19) (.t 18) 9 2)), i_A 9 21 20 2, i_X 10 22 (.callA (.t 13) [(.t 17), (.t 21)]), i_P 11 23 7 0, i_X 12 24 (.h (.idxa (.t 23) (.t 12) 9 2)), i_S 13 24 22 2] [2, 3, 4, 6, 7, 9]))) (.reg [i_B 0 25 .add 9 1, i_M 1 9 25] [2, 3, 4, 6, 7, 9]))))
def A_model_each : CA := (.seq (.reg [i_X 0 3 (.box (.t 0) 20 87), i_X 1 4 (.box (.t 1) 20 87), i_X 2 6 (.alloc z_20 87)] [2, 3, 4, 6]) (.seq (.reg [i_X 0 7 (.alloc z_20 87)] [2, 3, 4, 6, 7]) (.seq (.seq (.reg [i_K 0 9 0] [2, 3, 4, 6, 7, 9]) (.block 0 (.loop A_model_each_L0))) (.seq (.reg [i_M 0 26 2, i_P 1 27 3 18, i_A 2 28 27 2, i_P 3 29 4 18, i_A 4 30 29 2, i_X 5 31 (.callA (.t 26) [(.t 28), (.t 30)]), i_P 6 32 7 18, i_S 7 32 31 2] [6, 7]) (.seq (.reg [i_A 0 33 7 20, i_S 1 6 33 20] [6]) .ret)))))
theorem A_model_each_comp : compF Tryz.prog 132 = some ⟨34, [(6, (some (20, true)))], A_model_each.strip⟩ := by kernel_rfl
def A_model_Add : CA := (.seq (.reg [i_X 0 2 (.box (.t 0) 20 87), i_X 1 3 (.box (.t 1) 20 87), i_X 2 4 (.alloc z_20 87)] [2, 3, 4]) (.seq (.reg [i_A 0 5 2 20, i_A 1 6 3 20, i_X 2 7 (.callA (kF 132) [(.t 5), (.t 6), (kF 92)]), i_S 3 4 7 20] [4]) .ret))
theorem A_model_Add_comp : compF Tryz.prog 128 = some ⟨8, [(4, (some (20, true)))], A_model_Add.strip⟩ := by kernel_rfl
def A_model_Sub : CA := (.seq (.reg [i_X 0 2 (.box (.t 0) 20 87), i_X 1 3 (.box (.t 1) 20 87), i_X 2 4 (.alloc z_20 87)] [2, 3, 4]) (.seq (.reg [i_A 0 5 2 20, i_A 1 6 3 20, i_X 2 7 (.callA (kF 132) [(.t 5), (.t 6), (kF 79)]), i_S 3 4 7 20] [4]) .ret))
theorem A_model_Sub_comp : compF Tryz.prog 85 = some ⟨8, [(4, (some (20, true)))], A_model_Sub.strip⟩ := by kernel_rfl
def A_model_none : CA := (.seq (.reg [i_X 0 0 (.alloc z_20 87)] [0]) (.seq (.reg [i_X 0 2 (.callA (kF 76) [(.k .nil)]), i_X 1 1 (.alloc z_20 87), i_S 2 1 2 20] [0, 1]) (.seq (.reg [i_X 0 3 (.callA (kF 91) [(.k (.d (.int .i64 (-1))))]), i_X 1 4 (.callA (kF 91) [(kI 1)]), i_X 2 5 (.callA (kF 93) [(.t 3), (.t 4)]), i_P 3 6 1 18, i_S 4 6 5 2] [0, 1]) (.seq (.reg [i_A 0 7 1 20, i_S 1 0 7 20] [0]) .ret))))
theorem A_model_none_comp : compF Tryz.prog 158 = some ⟨8, [(0, (some (20, true)))], A_model_none.strip⟩ := by kernel_rfl
def filI (f z : Nat → Iv) (n i : Nat) : List Iv := (List.range n).map fun j => if j < i then f j else z j
theorem filI_len (f z : Nat → Iv) (n i : Nat) : (filI f z n i).length = n := by simp [filI]
theorem filI_set (f z : Nat → Iv) (n i : Nat) (p : Iv) (hp : p = f i) : (filI f z n i).set i p = filI f z n (i + 1) := by
  subst hp
  refine List.ext_getElem (by simp [filI]) fun j h1 h2 => ?_
  simp only [filI, List.getElem_set, List.getElem_map, List.getElem_range]
  by_cases e : i = j
  · subst e; rw [if_pos rfl, if_pos (by omega)]
  · rw [if_neg e]
    by_cases h : j < i
    · rw [if_pos h, if_pos (by omega)]
    · rw [if_neg h, if_neg (by omega)]
theorem filI_all (f z : Nat → Iv) (n : Nat) : filI f z n n = tabI f n := by
  refine List.ext_getElem (by simp [filI, tabI]) fun j h1 h2 => ?_
  have : j < n := by simpa [filI] using h1
  simp [filI, tabI, this]
theorem filI_get (f z : Nat → Iv) (n i j : Nat) (h : j < n) : mG (filI f z n i) j = if j < i then f j else z j := by
  simp [mG, filI, List.getD_eq_getElem?_getD, h]
theorem ivC_put (ps : List Iv) (i a b : Nat) (h : i < ps.length) : ((ivC ps).set (i * 2) (fl a)).set (i * 2 + 1) (fl b) = ivC (ps.set i (a, b)) := ivC_set ps i a b h
theorem ivC_R (m : Md) (h : m.length = 10) : ((ivC m).drop 18).take 2 = [fl (mG m 9).1, fl (mG m 9).2] := ivC_two m 9 (by omega)
theorem ivC_0 (m : Md) (h : 0 < m.length) : (ivC m).take 2 = [fl (mG m 0).1, fl (mG m 0).2] := ivC_two m 0 h
theorem ivC_18 (m : Md) (h : m.length = 10) : (ivC m).take 18 = ivC (m.take 9) := by
  match m, h with
  | [a, b, c, d, e, f, g, h, i, j], _ => rfl
theorem ivC_20 (m : Md) (h : m.length = 10) : (ivC m).take 20 = ivC m := List.take_of_length_le (by rw [ivC_length]; omega)
theorem ivC_take (ps : List Iv) (n : Nat) (h : ps.length * 2 = n) : (ivC ps).take n = ivC ps := List.take_of_length_le (by rw [ivC_length]; omega)
theorem ivC_bare (ps : List Iv) : (V.agg (ivC ps)).bareB = true := by
  rw [V.bareB, ivC_data, List.all_map]
  exact List.all_eq_true.2 fun x _ => rfl
theorem bare_d (x : D) : (V.d x).bareB = true := rfl
theorem KpA_ivC' (L : Heap) (ps : List Iv) : KpA L (ivC ps) := by rw [ivC_data]; exact KpA_data _
theorem endsT_ivs {nt t n row X ver : Nat} {s : T} (ps : List Iv) (hn : ps.length * 2 = n) (ht : t < nt) (h1 : look s.sl t = .ptr X row 0 ver) (h2 : s.L.get X row = some (ivC ps)) (h3 : n = ver) : EndsT (fun _ => False) nt [(t, some (n, true))] (.agg (ivC ps)) [] .ret s :=
  endsT_retm (ivC_bare ps) ht h1 h2 (by rw [ivC_length]; omega) (by rw [ivC_length]; omega) (by rw [ldv_agg, List.drop_zero, ivC_take _ _ hn])
theorem model_point_con (x : Nat) : Con Tryz.prog 124 [fl x] (ivV (pt x)) := by
  refine Con_introA A_model_point_comp rfl mixed ?_
  refine evx @A_model_point.eq_1 ?_
  exact endsT_retm rfl (by decide) rfl rfl rfl (by simp) (by simp [ldv, pt])
theorem model_power_con (k : Nat) (hk : k < 2 ^ 40) : Con Tryz.prog 156 [fI k] (ivV (pwI k)) := by
  refine Con_introA A_model_power_comp rfl mixed ?_
  refine evx @A_model_power.eq_1 ?_
  have e : Int.tmod (k : Int) 2 = ((k % 2 : Nat) : Int) := by rw [Int.tmod_eq_emod_of_nonneg (by omega)]; omega
  refine evx e ?_
  unfold pwI
  by_cases h : k % 2 = 0
  · rw [h, if_pos rfl]
    refine ev ?_
    refine ⟨by decide, ?_⟩
    exact endsT_retm rfl (by decide) rfl rfl rfl (by simp) (by simp [ldv, oneW])
  · have h1 : k % 2 = 1 := by omega
    rw [if_neg h, h1]
    refine evb ?_
    refine ⟨by decide, ?_⟩
    exact endsT_retm rfl (by decide) rfl rfl rfl (by simp) (by simp [ldv, negW])
theorem model_powers_con : Con Tryz.prog 159 [] (.agg (ivC (tabI pwI 9))) := by
  refine Con_introA A_model_powers_comp rfl mixed ?_
  refine evx @A_model_powers.eq_1 ?_
  refine WA_forW (n := 9) (fun c s => ∃ i, c + i = 9 ∧ s = ⟨[(0, .ptr 0 0 0 18), (1, .ptr 1 0 0 18), (3, fI i)], [(1, [ivC (filI pwI (fun _ => (0, 0)) 9 i)]), (0, [ivC (List.replicate 9 (0, 0))])]⟩) (Le.refl _) ⟨0, by omega, rfl⟩ ?_
  rintro c s ⟨i, hc, rfl⟩
  have hl := filI_len pwI (fun _ => (0, 0)) 9 i
  refine evx @A_model_powers_L0.eq_1 ?_
  refine condC_intro (fun h => ?_) (fun h => ?_)
  · replace h := of_decide_eq_true h
    have h9 : i < 9 := by omega
    refine ev ?_
    refine callG_con (model_power_con i (by omega)) rfl ?_
    refine ev ?_
    refine ⟨by omega, by omega, ?_⟩
    rw [wrapI (by omega) (by omega), ivC_put _ _ _ _ (by omega), filI_set _ _ _ _ _ rfl]
    exact ⟨c - 1, _, by omega, LeT.only (fun X => decide (X ≤ 1)) (fun _ h => h) rfl (by simp (maxDischargeDepth := 6) [kpS, fam_cons, fam_nil, KpA_ivC']) (by simp (maxDischargeDepth := 6) [kpS, fam_cons, fam_nil, KpA_ivC']), i + 1, by omega, rfl⟩
  · replace h := of_decide_eq_false h
    obtain rfl : i = 9 := by omega
    refine ev ?_
    rw [filI_all, ivC_take _ 18 (by simp [tabI]), splice_all _ _ (by simp [ivC_length, tabI])]
    refine ⟨by simp [tabI], ⟨by simp [ivC_length, tabI], ivC_cells _⟩, ?_⟩
    exact endsT_ivs _ (by simp [tabI]) (by decide) rfl rfl rfl
theorem set_same (ps : List Iv) (i : Nat) (h : mG ps i = (0, 0)) (hi : i < ps.length) : ps.set i (0, 0) = ps := by
  have : ps[i] = (0, 0) := by simpa [mG, List.getD_eq_getElem?_getD, hi] using h
  rw [← this]; exact List.set_getElem_self hi
def ofF (z : List Nat) (i : Nat) : Iv := if i < z.length ∧ i < 9 then pt (z.getD i 0) else (0, 0)
theorem ofM_fil (z : List Nat) : filI (ofF z) (fun _ => (0, 0)) 10 9 = ofM z := by
  refine List.ext_getElem (by simp [filI, ofM]) fun j h1 h2 => ?_
  simp only [filI, ofM, List.getElem_map, List.getElem_range, ofF]
  by_cases h : j < 9
  · rw [if_pos h]
  · rw [if_neg h, if_neg (fun e => h e.2)]
set_option maxRecDepth 8000 in
theorem model_Of_con (z : List Nat) (hz : z.length < 2 ^ 40) : Con Tryz.prog 76 [.d (rowD z)] (mdV (ofM z)) := by
  refine Con_introA A_model_Of_comp rfl mixed ?_
  refine evx @A_model_Of.eq_1 ?_
  refine callG_con (model_point_con 0) rfl ?_
  refine ev ?_
  refine WA_forW (n := 9) (fun c s => ∃ i, c + i = 9 ∧ s = ⟨[(0, .d (rowD z)), (2, .ptr 0 0 0 20), (3, .ptr 3 0 0 20), (7, fI i)], [(3, [ivC (filI (ofF z) (fun _ => (0, 0)) 10 i)]), (0, [ivC (List.replicate 10 (0, 0))])]⟩) (Le.refl _) ⟨0, by omega, rfl⟩ ?_
  rintro c s ⟨i, hc, rfl⟩
  have hl := filI_len (ofF z) (fun _ => (0, 0)) 10 i
  refine evx @A_model_Of_L0.eq_1 ?_
  refine condC_intro (fun h => ?_) (fun h => ?_)
  · replace h := of_decide_eq_true h
    have h9 : i < 9 := by omega
    refine ev ?_
    refine callG_con (model_point_con 0) rfl ?_
    refine ev ?_
    refine ⟨by omega, by omega, ?_⟩
    have hg := filI_get (ofF z) (fun _ => (0, 0)) 10 i i (by omega)
    rw [if_neg (by omega)] at hg
    have e0 := set_same _ _ hg (by omega)
    rw [ivC_put _ _ _ _ (by omega)]
    unfold pt
    rw [e0]
    refine condC_intro (fun h2 => ?_) (fun h2 => ?_)
    · replace h2 := of_decide_eq_true h2
      have h3 : i < z.length := by omega
      refine ev ?_
      (repeat (with_reducible refine And.intro (by omega) ?_))
      refine callG_con (model_point_con (z.getD i 0)) rfl ?_
      refine ev ?_
      refine ⟨by omega, by omega, ?_⟩
      rw [wrapI (by omega) (by omega), ivC_put _ _ _ _ (by omega), filI_set _ _ _ _ _ (by unfold ofF; rw [if_pos ⟨h3, h9⟩])]
      exact ⟨c - 1, _, by omega, LeT.only (fun X => decide (X ≤ 3)) (fun _ h => h) rfl (by simp (maxDischargeDepth := 6) [kpS, fam_cons, fam_nil, KpA_ivC']) (by simp (maxDischargeDepth := 6) [kpS, fam_cons, fam_nil, KpA_ivC']), i + 1, by omega, rfl⟩
    · replace h2 := of_decide_eq_false h2
      refine ev ?_
      have e1 := filI_set (ofF z) (fun _ => (0, 0)) 10 i (0, 0) (by unfold ofF; rw [if_neg (by omega)])
      rw [wrapI (by omega) (by omega), ← e0, e1]
      exact ⟨c - 1, _, by omega, LeT.only (fun X => decide (X ≤ 3)) (fun _ h => h) rfl (by simp (maxDischargeDepth := 6) [kpS, fam_cons, fam_nil, KpA_ivC']) (by simp (maxDischargeDepth := 6) [kpS, fam_cons, fam_nil, KpA_ivC']), i + 1, by omega, rfl⟩
  · replace h := of_decide_eq_false h
    obtain rfl : i = 9 := by omega
    refine ev ?_
    have hol := ofM_len z
    rw [ofM_fil, ivC_take _ 20 (by omega), splice_all _ _ (by simp [ivC_length, hol])]
    refine ⟨by omega, ⟨by simp [ivC_length, hol], ivC_cells _⟩, ?_⟩
    exact endsT_ivs _ (by omega) (by decide) rfl rfl rfl
theorem polyK_take (m : Md) (k : Nat) (hk : k < 9) : polyK (m.take 9) k = polyK m k := by
  have hg : ∀ i, i < 9 → mG (m.take 9) i = mG m i := fun i hi => by
    unfold mG
    rw [List.getD_eq_getElem?_getD, List.getD_eq_getElem?_getD, List.getElem?_take_of_lt hi]
  induction k with
  | zero => exact hg 0 hk
  | succ k ih => simp only [polyK, ih (by omega), hg (k + 1) hk]
set_option maxRecDepth 8000 in
theorem model_poly_con (c : List Iv) (hc : c.length = 9) : Con Tryz.prog 133 [.agg (ivC c)] (ivV (polyK c 8)) := by
  have hp : (tabI pwI 9).length = 9 := by simp [tabI]
  refine Con_introA A_model_poly_comp rfl mixed ?_
  refine evx @A_model_poly.eq_1 ?_
  (repeat (with_reducible refine And.intro (by omega) ?_))
  refine callG_con (model_powers_con) rfl ?_
  simp -implicitDefEqProofs only [evI, hv, effC, reduceCtorEq, ↓reduceIte, n1_, n2_, n3_, n4_, n5_, i1_, i2_, i3_, i4_, i5_, i6_, i7_, ivC_0 c (by omega)]
  refine ⟨by omega, by omega, ?_⟩
  rw [splice_all _ _ (by rw [ivC_length, hp]; rfl)]
  refine WA_forW (n := 8) (fun n s => ∃ k, n + k = 8 ∧ s = ⟨[(1, .ptr 0 0 0 18), (2, .ptr 1 0 0 2), (3, .ptr 3 0 0 18), (4, .ptr 6 0 0 2), (5, fI (k + 1 : Nat))],
    [(6, [[fl (polyK c k).1, fl (polyK c k).2]]), (3, [ivC (tabI pwI 9)]), (1, [[fl 0, fl 0]]), (0, [ivC c])]⟩) (Le.refl _) ⟨0, by omega, rfl⟩ ?_
  rintro n s ⟨k, hk, rfl⟩
  refine evx @A_model_poly_L0.eq_1 ?_
  refine condC_intro (fun h => ?_) (fun h => ?_)
  · replace h := of_decide_eq_true h
    have h8 : k < 8 := by omega
    simp -implicitDefEqProofs only [evI, hv, effC, reduceCtorEq, ↓reduceIte, n1_, n2_, n3_, n4_, n5_, i1_, i2_, i3_, i4_, i5_, i6_, i7_, ivC_two c (k + 1) (by omega), ivC_two (tabI pwI 9) (k + 1) (by omega), mG_tabI pwI 9 (k + 1) (by omega)]
    (repeat (with_reducible refine And.intro (by omega) ?_))
    refine callSG_con (iv_Mul_con (mG c (k + 1)) (pwI (k + 1))) rfl ?_
    refine ev ?_
    refine callG_con (iv_Add_con (polyK c k) (ivMul (mG c (k + 1)) (pwI (k + 1)))) rfl ?_
    refine ev ?_
    rw [show IntKind.i64.wrap (((k + 1 : Nat) : Int) + 1) = ((k + 1 + 1 : Nat) : Int) by rw [wrapI (by omega) (by omega)]; omega]
    exact ⟨n - 1, _, by omega, Le.refl _, k + 1, by omega, rfl⟩
  · replace h := of_decide_eq_false h
    obtain rfl : k = 8 := by omega
    refine ev ?_
    exact endsT_retm rfl (by decide) rfl rfl rfl (by simp) (by simp [ldv])
theorem model_Range_con (m : Md) (hm : m.length = 10) : Con Tryz.prog 87 [mdV m] (ivV (rngM m)) := by
  refine Con_introA A_model_Range_comp rfl mixed ?_
  refine evx @A_model_Range.eq_1 ?_
  refine evx (And.intro (ivC_18 m hm) (ivC_R m hm)) ?_
  (repeat (with_reducible refine And.intro (by omega) ?_))
  have h9 : (m.take 9).length = 9 := by rw [List.length_take]; omega
  first | refine callG_con (model_poly_con (m.take 9) h9) (by simp [bare_d, ivC_bare]) ?_ | refine callCG_con (model_poly_con (m.take 9) h9) (by simp [bare_d, ivC_bare]) ?_ | refine callSG_con (model_poly_con (m.take 9) h9) (by simp [bare_d, ivC_bare]) ?_
  rw [polyK_take m 8 (by decide)]
  refine evx (ivC_R m hm) ?_
  (repeat (with_reducible refine And.intro (by omega) ?_))
  refine callG_con (iv_Add_con (polyK m 8) (mG m 9)) rfl ?_
  refine ev ?_
  exact endsT_retm rfl (by decide) rfl rfl rfl (by simp) (by simp [ldv, rngM, polyM])
theorem zipM_fil (F : Iv → Iv → Iv) (a b : Md) : (filI (fun i => F (mG a i) (mG b i)) (fun _ => (0, 0)) 10 9).set 9 (F (mG a 9) (mG b 9)) = zipM F a b := by
  rw [filI_set _ _ _ _ _ rfl, filI_all]; rfl
set_option maxRecDepth 8000 in
theorem model_each_con (g : Nat) (F : Iv → Iv → Iv) (hF : ∀ a b, Con Tryz.prog g [ivV a, ivV b] (ivV (F a b))) (a b : Md) (ha : a.length = 10) (hb : b.length = 10) : Con Tryz.prog 132 [mdV a, mdV b, .d (.fn g [] [])] (mdV (zipM F a b)) := by
  refine Con_introA A_model_each_comp rfl mixed ?_
  refine evx @A_model_each.eq_1 ?_
  (repeat (with_reducible refine And.intro (by omega) ?_))
  refine WA_forW (n := 9) (fun c s => ∃ i, c + i = 9 ∧ s = ⟨[(2, .d (.fn g [] [])), (3, .ptr 0 0 0 20), (4, .ptr 1 0 0 20), (6, .ptr 2 0 0 20), (7, .ptr 3 0 0 20), (9, fI i)],
    [(3, [ivC (filI (fun i => F (mG a i) (mG b i)) (fun _ => (0, 0)) 10 i)]), (2, [ivC (List.replicate 10 (0, 0))]), (1, [ivC b]), (0, [ivC a])]⟩) (Le.refl _) ⟨0, by omega, rfl⟩ ?_
  rintro c s ⟨i, hc, rfl⟩
  have hl := filI_len (fun i => F (mG a i) (mG b i)) (fun _ => (0, 0)) 10 i
  refine evx @A_model_each_L0.eq_1 ?_
  refine condC_intro (fun h => ?_) (fun h => ?_)
  · replace h := of_decide_eq_true h
    have h9 : i < 9 := by omega
    simp -implicitDefEqProofs only [evI, hv, effC, reduceCtorEq, ↓reduceIte, n1_, n2_, n3_, n4_, n5_, i1_, i2_, i3_, i4_, i5_, i6_, i7_, ivC_two a i (by omega), ivC_two b i (by omega)]
    (repeat (with_reducible refine And.intro (by omega) ?_))
    refine callG_con (hF (mG a i) (mG b i)) rfl ?_
    refine ev ?_
    refine ⟨by omega, by omega, ?_⟩
    rw [wrapI (by omega) (by omega), ivC_put _ _ _ _ (by omega), filI_set _ _ _ _ _ rfl]
    exact ⟨c - 1, _, by omega, LeT.only (fun X => decide (X ≤ 3)) (fun _ h => h) rfl (by simp (maxDischargeDepth := 6) [kpS, fam_cons, fam_nil, KpA_ivC']) (by simp (maxDischargeDepth := 6) [kpS, fam_cons, fam_nil, KpA_ivC']), i + 1, by omega, rfl⟩
  · replace h := of_decide_eq_false h
    obtain rfl : i = 9 := by omega
    refine evx (And.intro (ivC_R a ha) (ivC_R b hb)) ?_
    (repeat (with_reducible refine And.intro (by omega) ?_))
    refine callG_con (hF (mG a 9) (mG b 9)) rfl ?_
    refine ev ?_
    have e := ivC_put (filI (fun i => F (mG a i) (mG b i)) (fun _ => (0, 0)) 10 9) 9 (F (mG a 9) (mG b 9)).1 (F (mG a 9) (mG b 9)).2 (by omega)
    rw [zipM_fil] at e
    have e' : ((ivC (filI (fun i => F (mG a i) (mG b i)) (fun _ => (0, 0)) 10 9)).set 18 (fl (F (mG a 9) (mG b 9)).1)).set 19 (fl (F (mG a 9) (mG b 9)).2) = ivC (zipM F a b) := e
    have hz := zipM_len F a b
    rw [e']
    simp -implicitDefEqProofs only [evI, hv, effC, reduceCtorEq, ↓reduceIte, n1_, n2_, n3_, n4_, n5_, i1_, i2_, i3_, i4_, i5_, i6_, i7_, ivC_20 _ hz]
    refine ⟨by omega, by omega, by omega, ?_⟩
    rw [splice_all _ _ (by rw [ivC_length, hz]; rfl)]
    exact endsT_ivs _ (by omega) (by decide) rfl rfl rfl
set_option maxRecDepth 8000 in
theorem model_Add_con (a b : Md) (ha : a.length = 10) (hb : b.length = 10) : Con Tryz.prog 128 [mdV a, mdV b] (mdV (zipM ivAdd a b)) := by
  have hz := zipM_len ivAdd a b
  refine Con_introA A_model_Add_comp rfl mixed ?_
  refine evx @A_model_Add.eq_1 ?_
  (repeat (with_reducible refine And.intro (by omega) ?_))
  rw [ivC_20 a ha, ivC_20 b hb]
  first | refine callG_con (model_each_con 92 ivAdd iv_Add_con a b ha hb) (by simp [bare_d, ivC_bare]) ?_ | refine callCG_con (model_each_con 92 ivAdd iv_Add_con a b ha hb) (by simp [bare_d, ivC_bare]) ?_ | refine callSG_con (model_each_con 92 ivAdd iv_Add_con a b ha hb) (by simp [bare_d, ivC_bare]) ?_
  refine ev ?_
  refine ⟨by omega, ?_⟩
  rw [splice_all _ _ (by rw [ivC_length, hz]; rfl)]
  exact endsT_ivs _ (by omega) (by decide) rfl rfl rfl
set_option maxRecDepth 8000 in
theorem model_Sub_con (a b : Md) (ha : a.length = 10) (hb : b.length = 10) : Con Tryz.prog 85 [mdV a, mdV b] (mdV (zipM ivSub a b)) := by
  have hz := zipM_len ivSub a b
  refine Con_introA A_model_Sub_comp rfl mixed ?_
  refine evx @A_model_Sub.eq_1 ?_
  (repeat (with_reducible refine And.intro (by omega) ?_))
  rw [ivC_20 a ha, ivC_20 b hb]
  first | refine callG_con (model_each_con 79 ivSub iv_Sub_con a b ha hb) (by simp [bare_d, ivC_bare]) ?_ | refine callCG_con (model_each_con 79 ivSub iv_Sub_con a b ha hb) (by simp [bare_d, ivC_bare]) ?_ | refine callSG_con (model_each_con 79 ivSub iv_Sub_con a b ha hb) (by simp [bare_d, ivC_bare]) ?_
  refine ev ?_
  refine ⟨by omega, ?_⟩
  rw [splice_all _ _ (by rw [ivC_length, hz]; rfl)]
  exact endsT_ivs _ (by omega) (by decide) rfl rfl rfl
set_option maxRecDepth 8000 in
theorem model_Of_nil_con : Con Tryz.prog 76 [.nil] (mdV (ofM [])) := by
  refine Con_introA A_model_Of_comp rfl mixed ?_
  refine evx @A_model_Of.eq_1 ?_
  refine callG_con (model_point_con 0) rfl ?_
  refine ev ?_
  refine WA_forW (n := 9) (fun c s => ∃ i, c + i = 9 ∧ s = ⟨[(0, .nil), (2, .ptr 0 0 0 20), (3, .ptr 3 0 0 20), (7, fI i)], [(3, [ivC (filI (ofF []) (fun _ => (0, 0)) 10 i)]), (0, [ivC (List.replicate 10 (0, 0))])]⟩) (Le.refl _) ⟨0, by omega, rfl⟩ ?_
  rintro c s ⟨i, hc, rfl⟩
  have hl := filI_len (ofF []) (fun _ => (0, 0)) 10 i
  refine evx @A_model_Of_L0.eq_1 ?_
  refine condC_intro (fun h => ?_) (fun h => ?_)
  · replace h := of_decide_eq_true h
    have h9 : i < 9 := by omega
    refine ev ?_
    refine callG_con (model_point_con 0) rfl ?_
    refine ev ?_
    refine ⟨by omega, by omega, ?_⟩
    have hg := filI_get (ofF []) (fun _ => (0, 0)) 10 i i (by omega)
    rw [if_neg (by omega)] at hg
    have e0 := set_same _ _ hg (by omega)
    rw [ivC_put _ _ _ _ (by omega)]
    unfold pt
    rw [e0]
    have h2 : decide ((i : Int) < 0) = false := decide_eq_false (by omega)
    refine evx h2 ?_
    have e1 := filI_set (ofF []) (fun _ => (0, 0)) 10 i (0, 0) (by unfold ofF; rw [if_neg (by simp)])
    rw [wrapI (by omega) (by omega), ← e0, e1]
    exact ⟨c - 1, _, by omega, LeT.only (fun X => decide (X ≤ 3)) (fun _ h => h) rfl (by simp (maxDischargeDepth := 6) [kpS, fam_cons, fam_nil, KpA_ivC']) (by simp (maxDischargeDepth := 6) [kpS, fam_cons, fam_nil, KpA_ivC']), i + 1, by omega, rfl⟩
  · replace h := of_decide_eq_false h
    obtain rfl : i = 9 := by omega
    refine ev ?_
    have hol := ofM_len []
    rw [ofM_fil, ivC_take _ 20 (by omega), splice_all _ _ (by simp [ivC_length, hol])]
    refine ⟨by omega, ⟨by simp [ivC_length, hol], ivC_cells _⟩, ?_⟩
    exact endsT_ivs _ (by omega) (by decide) rfl rfl rfl
set_option maxRecDepth 8000 in
theorem model_none_con : Con Tryz.prog 158 [] (mdV noneM) := by
  have hol := ofM_len []
  refine Con_introA A_model_none_comp rfl mixed ?_
  refine evx @A_model_none.eq_1 ?_
  refine callG_con (model_Of_nil_con) rfl ?_
  refine ev ?_
  refine ⟨by omega, ?_⟩
  rw [splice_all _ _ (by rw [ivC_length, hol]; rfl)]
  refine callG_con (math_Inf_neg) rfl ?_
  refine ev ?_
  refine callG_con (math_Inf_pos) rfl ?_
  refine ev ?_
  refine callG_con (iv_Make_con fninf finf) rfl ?_
  have e1 : ivMake fninf finf = (fninf, finf) := by decide
  rw [e1]
  refine ev ?_
  have e : ((ivC (ofM [])).set 18 (fl fninf)).set 19 (fl finf) = ivC noneM := by rfl
  rw [e]
  have hn : noneM.length = 10 := by rfl
  simp -implicitDefEqProofs only [evI, hv, effC, reduceCtorEq, ↓reduceIte, n1_, n2_, n3_, n4_, n5_, i1_, i2_, i3_, i4_, i5_, i6_, i7_, ivC_20 _ hn]
  refine ⟨by omega, by omega, by omega, ?_⟩
  rw [splice_all _ _ (by rw [ivC_length, hn]; rfl)]
  exact endsT_ivs _ (by omega) (by decide) rfl rfl rfl
def A_model_Mul_L1 : CA := (.seq (.seq (.reg [i_M 0 26 7, i_M 1 27 6, i_N 2 28 .leq 26 27] [2, 3, 4, 5, 6, 7, 12, 28]) (.cond (.t 28) .skip (.exit 2))) (.seq (.block 3 (.reg [i_M 0 31 6, i_M 1 32 6, i_P 2 33 5 0, i_X 3 34 (.h (.idxa (.t 33) (.t 32) 9 2)), i_A 4 35 34 2, i_M 5 36 7, i_P 6 37 2 0, i_X 7 38 (.h (.idxa (.t 37) (.t 36) 9 2)), i_A 8 39 38 2, i_M 9 40 6, i_M 10 41 7, i_N 11 42 .sub 40 41, i_P 12 43 3 0, i_X 13 44 (.h (.idxa (.t 43) (.t 42) 9 2)), i_A 14 45 44 2, i_X 15 46 (.callS 15 (kF 125) [(.t 39), (.t 45)]), i_X 16 47 (.callA (kF 92) [(.t 35), (.t 46)]), i_P 17 48 5 0, i_X 18 49 (.h (.idxa (.t 48) (.t 31) 9 2)), i_S 19 49 47 2] [2, 3, 4, 5, 6, 7, 12])) (.reg [i_M 0 29 7, i_B 1 30 .add 29 1, i_M 2 7 30] [2, 3, 4, 5, 6, 7, 12])))
def A_model_Mul_L0 : CA := (.seq (.reg [i_B 0 13 .lss 12 9] [2, 3, 4, 5, 12, 13]) (.seq (.cond (.t 13) .skip (.exit 0)) (.seq (.block 1 (.seq (.reg [i_M 0 14 12, i_M 1 6 14] [2, 3, 4, 5, 6, 12]) (.seq (.reg [i_M 0 15 6, i_P 1 16 2 0, i_X 2 17 (.h (.idxa (.t 16) (kI 0) 9 2)), i_A 3 18 17 2, i_M 4 19 6, i_P 5 20 3 0, i_X 6 21 (.h (.idxa (.t 20) (.t 19) 9 2)), i_A 7 22 21 2, i_X 8 23 (.callA (kF 125) [(.t 18), (.t 22)]), i_P 9 24 5 0, i_X 10 25 (.h (.idxa (.t 24) (.t 15) 9 2)), i_S 11 25 23 2] [2, 3, 4, 5, 6, 12]) (.seq (.reg [i_K 0 7 1] [2, 3, 4, 5, 6, 7, 12]) (.block 2 (.loop A_model_Mul_L1)))))) (.reg [i_B 0 50 .add 12 1, i_M 1 12 50] [2, 3, 4, 5, 12]))))
def A_model_Mul_L3 : CA := (.seq (.reg [i_B 0 55 .lss 54 9] [2, 3, 4, 5, 8, 51, 54, 55]) (.seq (.cond (.t 55) .skip (.exit 6)) (.seq (.block 7 (.seq (.reg [i_M 0 56 54, i_M 1 9 56] [2, 3, 4, 5, 8, 9, 51, 54]) (.seq (.reg [i_M 0 57 8, i_M 1 58 9, i_N 2 59 .add 57 58, i_B 3 60 .gtr 59 8] [2, 3, 4, 5, 8, 9, 51, 54, 60]) (.cond (.t 60) (.reg [i_P 0 61 5 18, i_A 1 62 61 2, i_M 2 63 8, i_P 3 64 2 0, i_X 4 65 (.h (.idxa (.t 64) (.t 63) 9 2)), i_A 5 66 65 2, i_M 6 67 9, i_P 7 68 3 0, i_X 8 69 (.h (.idxa (.t 68) (.t 67) 9 2)), i_A 9 70 69 2, i_X 10 71 (.callS 10 (kF 125) [(.t 66), (.t 70)]), i_M 11 72 8, i_M 12 73 9, i_N 13 74 .add 72 73, i_X 14 75 (.callS 14 (kF 156) [(.t 74)]), i_X 15 76 (.callS 15 (kF 125) [(.t 71), (.t 75)]), i_X 16 77 (.callA (kF 92) [(.t 62), (.t 76)]), i_P 17 78 5 18, i_S 18 78 77 2] [2, 3, 4, 5, 8, 51, 54]) .skip)))) (.reg [i_B 0 79 .add 54 1, i_M 1 54 79] [2, 3, 4, 5, 8, 51, 54]))))
def A_model_Mul_L2 : CA := (.seq (.reg [i_B 0 52 .lss 51 9] [2, 3, 4, 5, 51, 52]) (.seq (.cond (.t 52) .skip (.exit 4)) (.seq (.block 5 (.seq (.reg [i_M 0 53 51, i_M 1 8 53] [2, 3, 4, 5, 8, 51]) (.seq (.reg [i_K 0 54 0] [2, 3, 4, 5, 8, 51, 54]) (.block 6 (.loop A_model_Mul_L3))))) (.reg [i_B 0 80 .add 51 1, i_M 1 51 80] [2, 3, 4, 5, 51]))))
def A_model_Mul : CA := (.seq (.reg [i_X 0 2 (.box (.t 0) 20 87), i_X 1 3 (.box (.t 1) 20 87), i_X 2 4 (.alloc z_20 87)] [2, 3, 4]) (.seq (.reg [i_X 0 10 (.callA (kF 124) [(.k (.d (.flt 0)))]), i_X 1 11 (.h (.build z_20 [(18, (2, (.t 10)))])), i_X 2 5 (.alloc z_20 87), i_S 3 5 11 20] [2, 3, 4, 5]) (.seq (.seq (.reg [i_K 0 12 0] [2, 3, 4, 5, 12]) (.block 0 (.loop A_model_Mul_L0))) (.seq (.seq (.reg [i_K 0 51 0] [2, 3, 4, 5, 51]) (.block 4 (.loop A_model_Mul_L2))) (.seq (.reg [i_P 0 81 5 18, i_A 1 82 81 2, i_P 2 83 2 18, i_A 3 84 83 2, i_A 4 85 3 20, i_X 5 86 (.callS 5 (kF 87) [(.t 85)]), i_X 6 87 (.callS 6 (kF 125) [(.t 84), (.t 86)]), i_X 7 88 (.callA (kF 92) [(.t 82), (.t 87)]), i_P 8 89 5 18, i_S 9 89 88 2] [2, 3, 4, 5]) (.seq (.reg [i_P 0 90 5 18, i_A 1 91 90 2, i_P 2 92 2 0, i_A 3 93 92 18, i_X 4 94 (.callS 4 (kF 133) [(.t 93)]), i_P 5 95 3 18, i_A 6 96 95 2, i_X 7 97 (.callS 7 (kF 125) [(.t 94), (.t 96)]), i_X 8 98 (.callA (kF 92) [(.t 91), (.t 97)]), i_P 9 99 5 18, i_S 10 99 98 2] [4, 5]) (.seq (.reg [i_A 0 100 5 20, i_S 1 4 100 20] [4]) .ret)))))))
theorem A_model_Mul_comp : compF Tryz.prog 129 = some ⟨101, [(4, (some (20, true)))], A_model_Mul.strip⟩ := by kernel_rfl
def A_model_Div_L1 : CA := (.seq (.seq (.reg [i_M 0 30 9, i_M 1 31 7, i_N 2 32 .leq 30 31] [2, 3, 4, 5, 6, 7, 8, 9, 23, 32]) (.cond (.t 32) .skip (.exit 2))) (.seq (.block 3 (.reg [i_A 0 35 8 2, i_M 1 36 9, i_P 2 37 3 0, i_X 3 38 (.h (.idxa (.t 37) (.t 36) 9 2)), i_A 4 39 38 2, i_M 5 40 7, i_M 6 41 9, i_N 7 42 .sub 40 41, i_P 8 43 6 0, i_X 9 44 (.h (.idxa (.t 43) (.t 42) 9 2)), i_A 10 45 44 2, i_X 11 46 (.callS 11 (kF 125) [(.t 39), (.t 45)]), i_X 12 47 (.callA (kF 79) [(.t 35), (.t 46)]), i_S 13 8 47 2] [2, 3, 4, 5, 6, 7, 8, 9, 23])) (.reg [i_M 0 33 9, i_B 1 34 .add 33 1, i_M 2 9 34] [2, 3, 4, 5, 6, 7, 8, 9, 23])))
def A_model_Div_L0 : CA := (.seq (.reg [i_B 0 24 .lss 23 9] [2, 3, 4, 5, 6, 23, 24]) (.seq (.cond (.t 24) .skip (.exit 0)) (.seq (.block 1 (.seq (.reg [i_M 0 25 23, i_M 1 7 25] [2, 3, 4, 5, 6, 7, 23]) (.seq (.reg [i_M 0 26 7, i_P 1 27 2 0, i_X 2 28 (.h (.idxa (.t 27) (.t 26) 9 2)), i_A 3 29 28 2, i_X 4 8 (.alloc [(.d (.flt 0)), (.d (.flt 0))] 58), i_S 5 8 29 2] [2, 3, 4, 5, 6, 7, 8, 23]) (.seq (.seq (.reg [i_K 0 9 1] [2, 3, 4, 5, 6, 7, 8, 9, 23]) (.block 2 (.loop A_model_Div_L1))) (.reg [i_M 0 48 7, i_A 1 49 8 2, i_P 2 50 3 0, i_X 3 51 (.h (.idxa (.t 50) (kI 0) 9 2)), i_A 4 52 51 2, i_X 5 53 (.callA (kF 131) [(.t 49), (.t 52)]), i_P 6 54 6 0, i_X 7 55 (.h (.idxa (.t 54) (.t 48) 9 2)), i_S 8 55 53 2] [2, 3, 4, 5, 6, 23]))))) (.reg [i_B 0 56 .add 23 1, i_M 1 23 56] [2, 3, 4, 5, 6, 23]))))
def A_model_Div : CA := (.seq (.reg [i_X 0 2 (.box (.t 0) 20 87), i_X 1 3 (.box (.t 1) 20 87), i_X 2 4 (.alloc z_20 87)] [2, 3, 4]) (.seq (.reg [i_A 0 10 3 20, i_X 1 11 (.callA (kF 87) [(.t 10)]), i_X 2 5 (.alloc [(.d (.flt 0)), (.d (.flt 0))] 58), i_S 3 5 11 2] [2, 3, 4, 5]) (.seq (.seq (.reg [i_P 0 12 3 0, i_X 1 13 (.h (.idxa (.t 12) (kI 0) 9 2)), i_A 2 14 13 2, i_X 3 15 (.callS 0 (kF 157) [(.k (.d (.flt 0))), (.t 14)]), i_A 4 16 5 2, i_X 5 17 (.callA (kF 157) [(.k (.d (.flt 0))), (.t 16)]), i_X 6 18 (.h (.build [(.d (.bool false)), (.d (.bool false))] [(0, (1, (.t 15))), (1, (1, (.t 17)))])), i_X 7 19 (.h (.build [(.d (.bool false)), (.d (.bool false))] [])), i_X 8 20 (.h (.acmp true (.t 18) (.t 19) [(0, false), (1, false)]))] [2, 3, 4, 5, 20]) (.cond (.t 20) (.seq (.reg [i_X 0 21 (.callA (kF 158) []), i_S 1 4 21 20] [4]) .ret) .skip)) (.seq (.reg [i_X 0 22 (.callA (kF 76) [(.k .nil)]), i_X 1 6 (.alloc z_20 87), i_S 2 6 22 20] [2, 3, 4, 5, 6]) (.seq (.seq (.reg [i_K 0 23 0] [2, 3, 4, 5, 6, 23]) (.block 0 (.loop A_model_Div_L0))) (.seq (.reg [i_A 0 57 2 20, i_A 1 58 3 20, i_A 2 59 6 20, i_X 3 60 (.callS 3 (kF 129) [(.t 58), (.t 59)]), i_X 4 61 (.callS 0 (kF 85) [(.t 57), (.t 60)]), i_X 5 62 (.callS 0 (kF 87) [(.t 61)]), i_A 6 63 5 2, i_X 7 64 (.callA (kF 131) [(.t 62), (.t 63)]), i_P 8 65 6 18, i_S 9 65 64 2] [4, 6]) (.seq (.reg [i_A 0 66 6 20, i_S 1 4 66 20] [4]) .ret)))))))
theorem A_model_Div_comp : compF Tryz.prog 130 = some ⟨67, [(4, (some (20, true)))], A_model_Div.strip⟩ := by kernel_rfl
abbrev mulH (a b c : Md) : Heap := [(5, [ivC c]), (2, [ivC (List.replicate 10 (0, 0))]), (1, [ivC b]), (0, [ivC a])]
abbrev mulS (r : Sl) : Sl := (2, .ptr 0 0 0 20) :: (3, .ptr 1 0 0 20) :: (4, .ptr 2 0 0 20) :: (5, .ptr 5 0 0 20) :: r
theorem mG_set_self (m : Md) (i : Nat) (p : Iv) (hi : i < m.length) : mG (m.set i p) i = p := by rw [mG_set _ _ _ _ hi, if_pos rfl]
set_option maxRecDepth 8000 in
theorem mul_L1 (a b C : Md) (k : Nat) (ha : a.length = 10) (hb : b.length = 10) (hC : C.length = 10) (hk : k < 9) (Q : Ex → T → Prop)
    (hQ : ∀ v w, Q (.exit 2) ⟨mulS [(6, fI k), (7, v), (12, fI k), (28, w)], mulH a b (C.set k (mulK a b k k))⟩) :
    WA Tryz.prog (fun _ => False) 101 (.loop A_model_Mul_L1) Q ⟨mulS [(6, fI k), (7, fI 1), (12, fI k)], mulH a b (C.set k (mulK a b k 0))⟩ := by
  refine WA_for (n := k) (fun c s => ∃ i, c + i = k ∧ s = ⟨mulS [(6, fI k), (7, fI (i + 1 : Nat)), (12, fI k)], mulH a b (C.set k (mulK a b k i))⟩) ⟨0, by omega, rfl⟩ ?_
  rintro c s ⟨i, hc, rfl⟩
  have hl : (C.set k (mulK a b k i)).length = 10 := by rw [List.length_set]; exact hC
  refine evx @A_model_Mul_L1.eq_1 ?_
  refine condC_intro (fun h => ?_) (fun h => ?_)
  · replace h := of_decide_eq_true h
    have hik : i + 1 ≤ k := by omega
    have w1 : IntKind.i64.wrap ((k : Int) - ((i + 1 : Nat) : Int)) = ((k - (i + 1) : Nat) : Int) := by rw [wrapI (by omega) (by omega)]; omega
    simp -implicitDefEqProofs only [evI, hv, effC, reduceCtorEq, ↓reduceIte, n1_, n2_, n3_, n4_, n5_, i1_, i2_, i3_, i4_, i5_, i6_, i7_, w1, ivC_two (C.set k (mulK a b k i)) k (by omega), mG_set_self C k (mulK a b k i) (by omega), ivC_two a (i + 1) (by omega), ivC_two b (k - (i + 1)) (by omega)]
    (repeat (with_reducible refine And.intro (by omega) ?_))
    refine callSG_con (iv_Mul_con (mG a (i + 1)) (mG b (k - (i + 1)))) rfl ?_
    refine ev ?_
    refine callG_con (iv_Add_con (mulK a b k i) (ivMul (mG a (i + 1)) (mG b (k - (i + 1))))) rfl ?_
    refine ev ?_
    (repeat (with_reducible refine And.intro (by omega) ?_))
    rw [ivC_put _ _ _ _ (by omega), List.set_set, show IntKind.i64.wrap (((i + 1 : Nat) : Int) + 1) = ((i + 1 + 1 : Nat) : Int) by rw [wrapI (by omega) (by omega)]; omega]
    exact ⟨c - 1, by omega, i + 1, by omega, rfl⟩
  · replace h := of_decide_eq_false h
    obtain rfl : i = k := by omega
    refine ev ?_
    exact hQ _ _
set_option maxRecDepth 8000 in
theorem mul_L0 (a b : Md) (ha : a.length = 10) (hb : b.length = 10) (Q : Ex → T → Prop)
    (hQ : ∀ v w, Q (.exit 0) ⟨mulS [(12, v), (13, w)], mulH a b (filI (fun k => mulK a b k k) (fun _ => (0, 0)) 10 9)⟩) :
    WA Tryz.prog (fun _ => False) 101 (.loop A_model_Mul_L0) Q ⟨mulS [(12, fI 0)], mulH a b (filI (fun k => mulK a b k k) (fun _ => (0, 0)) 10 0)⟩ := by
  refine WA_for (n := 9) (fun c s => ∃ k, c + k = 9 ∧ s = ⟨mulS [(12, fI k)], mulH a b (filI (fun k => mulK a b k k) (fun _ => (0, 0)) 10 k)⟩) ⟨0, by omega, rfl⟩ ?_
  rintro c s ⟨k, hc, rfl⟩
  have hl := filI_len (fun k => mulK a b k k) (fun _ => (0, 0)) 10 k
  refine evx @A_model_Mul_L0.eq_1 ?_
  refine condC_intro (fun h => ?_) (fun h => ?_)
  · replace h := of_decide_eq_true h
    have hk : k < 9 := by omega
    simp -implicitDefEqProofs only [evI, hv, effC, reduceCtorEq, ↓reduceIte, n1_, n2_, n3_, n4_, n5_, i1_, i2_, i3_, i4_, i5_, i6_, i7_, ivC_0 a (by omega), ivC_two b k (by omega)]
    (repeat (with_reducible refine And.intro (by omega) ?_))
    refine callG_con (iv_Mul_con (mG a 0) (mG b k)) rfl ?_
    refine ev ?_
    (repeat (with_reducible refine And.intro (by omega) ?_))
    rw [ivC_put _ _ _ _ (by omega)]
    refine mul_L1 a b _ k ha hb hl hk _ fun v w => ?_
    rw [filI_set _ _ _ _ _ rfl]
    refine ev ?_
    rw [wrapI (by omega) (by omega)]
    exact ⟨c - 1, by omega, k + 1, by omega, rfl⟩
  · replace h := of_decide_eq_false h
    obtain rfl : k = 9 := by omega
    refine ev ?_
    exact hQ _ _
set_option maxRecDepth 8000 in
theorem mul_L3 (a b C : Md) (i : Nat) (r : Iv) (ha : a.length = 10) (hb : b.length = 10) (hC : C.length = 10) (hi : i < 9) (Q : Ex → T → Prop)
    (hQ : ∀ v w, Q (.exit 6) ⟨mulS [(8, fI i), (51, fI i), (54, v), (55, w)], mulH a b (C.set 9 (mulJ a b i r 9))⟩) :
    WA Tryz.prog (fun _ => False) 101 (.loop A_model_Mul_L3) Q ⟨mulS [(8, fI i), (51, fI i), (54, fI 0)], mulH a b (C.set 9 r)⟩ := by
  refine WA_for (n := 9) (fun c s => ∃ j, c + j = 9 ∧ s = ⟨mulS [(8, fI i), (51, fI i), (54, fI j)], mulH a b (C.set 9 (mulJ a b i r j))⟩) ⟨0, by omega, rfl⟩ ?_
  rintro c s ⟨j, hc, rfl⟩
  have hl : (C.set 9 (mulJ a b i r j)).length = 10 := by rw [List.length_set]; exact hC
  refine evx @A_model_Mul_L3.eq_1 ?_
  refine condC_intro (fun h => ?_) (fun h => ?_)
  · replace h := of_decide_eq_true h
    have hj : j < 9 := by omega
    have w1 : IntKind.i64.wrap ((i : Int) + (j : Int)) = ((i + j : Nat) : Int) := by rw [wrapI (by omega) (by omega)]; omega
    have w2 : IntKind.i64.wrap ((j : Int) + 1) = ((j + 1 : Nat) : Int) := by rw [wrapI (by omega) (by omega)]; omega
    have er := ivC_R (C.set 9 (mulJ a b i r j)) hl
    rw [mG_set_self _ _ _ (by omega)] at er
    refine evx w1 ?_
    refine condC_intro (fun h8 => ?_) (fun h8 => ?_)
    · replace h8 := of_decide_eq_true h8
      have h8' : 8 < i + j := by omega
      simp -implicitDefEqProofs only [evI, hv, effC, reduceCtorEq, ↓reduceIte, n1_, n2_, n3_, n4_, n5_, i1_, i2_, i3_, i4_, i5_, i6_, i7_, w1, er, ivC_two a i (by omega), ivC_two b j (by omega)]
      (repeat (with_reducible refine And.intro (by omega) ?_))
      refine callSG_con (iv_Mul_con (mG a i) (mG b j)) rfl ?_
      refine evx w1 ?_
      refine callSG_con (model_power_con (i + j) (by omega)) rfl ?_
      refine ev ?_
      refine callSG_con (iv_Mul_con (ivMul (mG a i) (mG b j)) (pwI (i + j))) rfl ?_
      refine ev ?_
      refine callG_con (iv_Add_con (mulJ a b i r j) (ivMul (ivMul (mG a i) (mG b j)) (pwI (i + j)))) rfl ?_
      refine ev ?_
      (repeat (with_reducible refine And.intro (by omega) ?_))
      have e := ivC_put (C.set 9 (mulJ a b i r j)) 9 (ivAdd (mulJ a b i r j) (ivMul (ivMul (mG a i) (mG b j)) (pwI (i + j)))).1 (ivAdd (mulJ a b i r j) (ivMul (ivMul (mG a i) (mG b j)) (pwI (i + j)))).2 (by omega)
      rw [List.set_set] at e
      have e2 : mulJ a b i r (j + 1) = ivAdd (mulJ a b i r j) (ivMul (ivMul (mG a i) (mG b j)) (pwI (i + j))) := by rw [mulJ, if_pos h8']
      rw [w2]
      refine ⟨c - 1, by omega, j + 1, by omega, ?_⟩
      rw [e2]
      exact congrArg (fun z => (⟨mulS [(8, fI i), (51, fI i), (54, fI (j + 1 : Nat))], [(5, [z]), (2, [ivC (List.replicate 10 (0, 0))]), (1, [ivC b]), (0, [ivC a])]⟩ : T)) e
    · replace h8 := of_decide_eq_false h8
      have e2 : mulJ a b i r (j + 1) = mulJ a b i r j := by rw [mulJ, if_neg (by omega)]
      refine ev ?_
      rw [w2]
      exact ⟨c - 1, by omega, j + 1, by omega, by rw [e2]⟩
  · replace h := of_decide_eq_false h
    obtain rfl : j = 9 := by omega
    refine ev ?_
    exact hQ _ _
set_option maxRecDepth 8000 in
theorem mul_L2 (a b C : Md) (ha : a.length = 10) (hb : b.length = 10) (hC : C.length = 10) (Q : Ex → T → Prop)
    (hQ : ∀ v w, Q (.exit 4) ⟨mulS [(51, v), (52, w)], mulH a b (C.set 9 (mulI a b 9))⟩) :
    WA Tryz.prog (fun _ => False) 101 (.loop A_model_Mul_L2) Q ⟨mulS [(51, fI 0)], mulH a b (C.set 9 (0, 0))⟩ := by
  refine WA_for (n := 9) (fun c s => ∃ i, c + i = 9 ∧ s = ⟨mulS [(51, fI i)], mulH a b (C.set 9 (mulI a b i))⟩) ⟨0, by omega, rfl⟩ ?_
  rintro c s ⟨i, hc, rfl⟩
  refine evx @A_model_Mul_L2.eq_1 ?_
  refine condC_intro (fun h => ?_) (fun h => ?_)
  · replace h := of_decide_eq_true h
    have hi : i < 9 := by omega
    refine ev ?_
    refine mul_L3 a b C i (mulI a b i) ha hb hC hi _ fun v w => ?_
    refine ev ?_
    rw [wrapI (by omega) (by omega)]
    exact ⟨c - 1, by omega, i + 1, by omega, rfl⟩
  · replace h := of_decide_eq_false h
    obtain rfl : i = 9 := by omega
    refine ev ?_
    exact hQ _ _
theorem mulM_set (f : Nat → Iv) (r : Iv) : (filI f (fun _ => (0, 0)) 10 9).set 9 r = (List.range 9).map f ++ [r] := by
  refine List.ext_getElem (by simp [filI]) fun j h1 h2 => ?_
  have hj : j < 10 := by simpa [filI] using h1
  rw [List.getElem_set]
  by_cases e : 9 = j
  · subst e; simp
  · have h9 : j < 9 := by omega
    rw [if_neg e]
    simp [filI, List.getElem_append, h9]
set_option maxRecDepth 8000 in
theorem model_Mul_con (a b : Md) (ha : a.length = 10) (hb : b.length = 10) : Con Tryz.prog 129 [mdV a, mdV b] (mdV (mulM a b)) := by
  refine Con_introA A_model_Mul_comp rfl mixed ?_
  refine evx @A_model_Mul.eq_1 ?_
  (repeat (with_reducible refine And.intro (by omega) ?_))
  refine callG_con (model_point_con 0) rfl ?_
  refine ev ?_
  refine mul_L0 a b ha hb _ fun v w => ?_
  have hl := filI_len (fun k => mulK a b k k) (fun _ => (0, 0)) 10 9
  have hm := mulM_len a b
  have hset : (filI (fun k => mulK a b k k) (fun _ => (0, 0)) 10 9).set 9 (ivAdd (ivAdd (mulI a b 9) (ivMul (mG a 9) (rngM b))) (ivMul (polyK a 8) (mG b 9))) = mulM a b := by
    rw [mulM_set]; unfold mulM polyM; rfl
  have hz : (filI (fun k => mulK a b k k) (fun _ => (0, 0)) 10 9).set 9 (0, 0) = filI (fun k => mulK a b k k) (fun _ => (0, 0)) 10 9 := set_same _ _ (by rw [filI_get _ _ _ _ _ (by decide), if_neg (by decide)]) (by omega)
  generalize filI (fun k => mulK a b k k) (fun _ => (0, 0)) 10 9 = C at hl hset hz
  refine ev ?_
  rw [← hz]
  refine mul_L2 a b C ha hb hl _ fun v w => ?_
  have hl2 : (C.set 9 (mulI a b 9)).length = 10 := by rw [List.length_set]; exact hl
  have er := ivC_R (C.set 9 (mulI a b 9)) hl2
  rw [mG_set_self _ _ _ (by omega)] at er
  refine evx (And.intro er (And.intro (ivC_R a ha) (ivC_20 b hb))) ?_
  (repeat (with_reducible refine And.intro (by omega) ?_))
  first | refine callG_con (model_Range_con b hb) (by simp [bare_d, ivC_bare]) ?_ | refine callCG_con (model_Range_con b hb) (by simp [bare_d, ivC_bare]) ?_ | refine callSG_con (model_Range_con b hb) (by simp [bare_d, ivC_bare]) ?_
  refine ev ?_
  refine callSG_con (iv_Mul_con (mG a 9) (rngM b)) rfl ?_
  refine ev ?_
  refine callG_con (iv_Add_con (mulI a b 9) (ivMul (mG a 9) (rngM b))) rfl ?_
  refine ev ?_
  generalize ivAdd (mulI a b 9) (ivMul (mG a 9) (rngM b)) = r1 at hset ⊢
  have e := ivC_put (C.set 9 (mulI a b 9)) 9 r1.1 r1.2 (by omega)
  rw [List.set_set] at e
  have e' : ((ivC (C.set 9 (mulI a b 9))).set 18 (fl r1.1)).set 19 (fl r1.2) = ivC (C.set 9 r1) := e
  rw [e']
  have hl3 : (C.set 9 r1).length = 10 := by rw [List.length_set]; exact hl
  have er3 := ivC_R (C.set 9 r1) hl3
  rw [mG_set_self _ _ _ (by omega)] at er3
  have h9 : (a.take 9).length = 9 := by rw [List.length_take]; omega
  refine evx (And.intro er3 (And.intro (ivC_18 a ha) (ivC_R b hb))) ?_
  (repeat (with_reducible refine And.intro (by omega) ?_))
  first | refine callG_con (model_poly_con (a.take 9) h9) (by simp [bare_d, ivC_bare]) ?_ | refine callCG_con (model_poly_con (a.take 9) h9) (by simp [bare_d, ivC_bare]) ?_ | refine callSG_con (model_poly_con (a.take 9) h9) (by simp [bare_d, ivC_bare]) ?_
  rw [polyK_take a 8 (by decide)]
  refine evx (ivC_R b hb) ?_
  (repeat (with_reducible refine And.intro (by omega) ?_))
  refine callSG_con (iv_Mul_con (polyK a 8) (mG b 9)) rfl ?_
  refine ev ?_
  refine callG_con (iv_Add_con r1 (ivMul (polyK a 8) (mG b 9))) rfl ?_
  refine ev ?_
  generalize ivAdd r1 (ivMul (polyK a 8) (mG b 9)) = r2 at hset ⊢
  have f := ivC_put (C.set 9 r1) 9 r2.1 r2.2 (by omega)
  rw [List.set_set] at f
  have f' : ((ivC (C.set 9 r1)).set 18 (fl r2.1)).set 19 (fl r2.2) = ivC (mulM a b) := f.trans (by rw [← hset])
  rw [f']
  simp -implicitDefEqProofs only [evI, hv, effC, reduceCtorEq, ↓reduceIte, n1_, n2_, n3_, n4_, n5_, i1_, i2_, i3_, i4_, i5_, i6_, i7_, ivC_20 _ hm]
  (repeat (with_reducible refine And.intro (by omega) ?_))
  rw [splice_all _ _ (by rw [ivC_length, hm]; rfl)]
  exact endsT_ivs _ (by omega) (by decide) rfl rfl rfl
theorem in0_eq (p : Iv) : (fcmp .le p.1 0 && fcmp .le 0 p.2) = in0 p := rfl
def qC (a b : Md) (k : Nat) : Md := divQ a b k ++ List.replicate (10 - k) (0, 0)
theorem qC_len (a b : Md) (k : Nat) (h : k ≤ 10) : (qC a b k).length = 10 := by simp [qC, divQ_len]; omega
theorem qC_get (a b : Md) (k j : Nat) (h : j < k) : mG (qC a b k) j = mG (divQ a b k) j := by
  unfold mG qC
  rw [List.getD_eq_getElem?_getD, List.getElem?_append_left (by rw [divQ_len]; exact h), ← List.getD_eq_getElem?_getD]
theorem qC_set (a b : Md) (k : Nat) (h : k < 10) (p : Iv) (hp : p = ivDiv (divW a b (divQ a b k) k k) (mG b 0)) : (qC a b k).set k p = qC a b (k + 1) := by
  have hl := divQ_len a b k
  subst hp
  obtain ⟨m, hm⟩ : ∃ m, 10 - k = m + 1 := ⟨9 - k, by omega⟩
  unfold qC
  rw [List.set_append_right _ _ (by omega), hl, Nat.sub_self, hm, List.replicate_succ, List.set_cons_zero, divQ, show 10 - (k + 1) = m by omega]
  simp
abbrev divH (a b q : Md) : Heap := [(7, [ivC q]), (5, [[fl (rngM b).1, fl (rngM b).2]]), (2, [ivC (List.replicate 10 (0, 0))]), (1, [ivC b]), (0, [ivC a])]
abbrev divS (r : Sl) : Sl := (2, .ptr 0 0 0 20) :: (3, .ptr 1 0 0 20) :: (4, .ptr 2 0 0 20) :: (5, .ptr 5 0 0 2) :: (6, .ptr 7 0 0 20) :: r
set_option maxRecDepth 8000 in
theorem div_L1 (a b : Md) (k : Nat) (hb : b.length = 10) (hk : k < 9) (Q : Ex → T → Prop)
    (hQ : ∀ v w, Q (.exit 2) ⟨divS [(7, fI k), (8, .ptr 12 0 0 2), (9, v), (23, fI k), (32, w)], (12, [[fl (divW a b (divQ a b k) k k).1, fl (divW a b (divQ a b k) k k).2]]) :: divH a b (qC a b k)⟩) :
    WA Tryz.prog (fun _ => False) 67 (.loop A_model_Div_L1) Q ⟨divS [(7, fI k), (8, .ptr 12 0 0 2), (9, fI 1), (23, fI k)], (12, [[fl (divW a b (divQ a b k) k 0).1, fl (divW a b (divQ a b k) k 0).2]]) :: divH a b (qC a b k)⟩ := by
  have hl := qC_len a b k (by omega)
  refine WA_for (n := k) (fun c s => ∃ i, c + i = k ∧ s = ⟨divS [(7, fI k), (8, .ptr 12 0 0 2), (9, fI (i + 1 : Nat)), (23, fI k)], (12, [[fl (divW a b (divQ a b k) k i).1, fl (divW a b (divQ a b k) k i).2]]) :: divH a b (qC a b k)⟩) ⟨0, by omega, rfl⟩ ?_
  rintro c s ⟨i, hc, rfl⟩
  refine evx @A_model_Div_L1.eq_1 ?_
  refine condC_intro (fun h => ?_) (fun h => ?_)
  · replace h := of_decide_eq_true h
    have hik : i + 1 ≤ k := by omega
    have w1 : IntKind.i64.wrap ((k : Int) - ((i + 1 : Nat) : Int)) = ((k - (i + 1) : Nat) : Int) := by rw [wrapI (by omega) (by omega)]; omega
    simp -implicitDefEqProofs only [evI, hv, effC, reduceCtorEq, ↓reduceIte, n1_, n2_, n3_, n4_, n5_, i1_, i2_, i3_, i4_, i5_, i6_, i7_, w1, ivC_two b (i + 1) (by omega), ivC_two (qC a b k) (k - (i + 1)) (by omega), qC_get a b k (k - (i + 1)) (by omega)]
    (repeat (with_reducible refine And.intro (by omega) ?_))
    refine callSG_con (iv_Mul_con (mG b (i + 1)) (mG (divQ a b k) (k - (i + 1)))) rfl ?_
    refine ev ?_
    refine callG_con (iv_Sub_con (divW a b (divQ a b k) k i) (ivMul (mG b (i + 1)) (mG (divQ a b k) (k - (i + 1))))) rfl ?_
    refine ev ?_
    rw [show IntKind.i64.wrap (((i + 1 : Nat) : Int) + 1) = ((i + 1 + 1 : Nat) : Int) by rw [wrapI (by omega) (by omega)]; omega]
    exact ⟨c - 1, by omega, i + 1, by omega, rfl⟩
  · replace h := of_decide_eq_false h
    obtain rfl : i = k := by omega
    refine ev ?_
    exact hQ _ _
set_option maxRecDepth 8000 in
theorem div_L0 (a b : Md) (ha : a.length = 10) (hb : b.length = 10) (Q : Ex → T → Prop)
    (hQ : ∀ v w, Q (.exit 0) ⟨divS [(23, v), (24, w)], divH a b (qC a b 9)⟩) :
    WA Tryz.prog (fun _ => False) 67 (.loop A_model_Div_L0) Q ⟨divS [(23, fI 0)], divH a b (qC a b 0)⟩ := by
  refine WA_forW (n := 9) (fun c s => ∃ k, c + k = 9 ∧ s = ⟨divS [(23, fI k)], divH a b (qC a b k)⟩) (Le.refl _) ⟨0, by omega, rfl⟩ ?_
  rintro c s ⟨k, hc, rfl⟩
  refine evx @A_model_Div_L0.eq_1 ?_
  refine condC_intro (fun h => ?_) (fun h => ?_)
  · replace h := of_decide_eq_true h
    have hk : k < 9 := by omega
    have hl := qC_len a b k (by omega)
    simp -implicitDefEqProofs only [evI, hv, effC, reduceCtorEq, ↓reduceIte, n1_, n2_, n3_, n4_, n5_, i1_, i2_, i3_, i4_, i5_, i6_, i7_, ivC_two a k (by omega)]
    (repeat (with_reducible refine And.intro (by omega) ?_))
    refine div_L1 a b k hb hk _ fun v w => ?_
    simp -implicitDefEqProofs only [evI, hv, effC, reduceCtorEq, ↓reduceIte, n1_, n2_, n3_, n4_, n5_, i1_, i2_, i3_, i4_, i5_, i6_, i7_, ivC_0 b (by omega)]
    (repeat (with_reducible refine And.intro (by omega) ?_))
    refine callG_con (iv_Div_con (divW a b (divQ a b k) k k) (mG b 0)) rfl ?_
    refine ev ?_
    (repeat (with_reducible refine And.intro (by omega) ?_))
    rw [wrapI (by omega) (by omega), ivC_put _ _ _ _ (by omega), qC_set a b k (by omega) _ rfl]
    exact ⟨c - 1, _, by omega, LeT.only (fun X => decide (X ≤ 7)) (fun _ h => h) rfl (by simp (maxDischargeDepth := 6) [kpS, fam_cons, fam_nil, KpA_ivC']) (by simp (maxDischargeDepth := 6) [kpS, fam_cons, fam_nil, KpA_ivC']), k + 1, by omega, rfl⟩
  · replace h := of_decide_eq_false h
    obtain rfl : k = 9 := by omega
    refine ev ?_
    exact hQ _ _
set_option maxRecDepth 8000 in
theorem model_Div_con (a b : Md) (ha : a.length = 10) (hb : b.length = 10) : Con Tryz.prog 130 [mdV a, mdV b] (mdV (divM a b)) := by
  refine Con_introA A_model_Div_comp rfl mixed ?_
  refine evx @A_model_Div.eq_1 ?_
  (repeat (with_reducible refine And.intro (by omega) ?_))
  rw [ivC_20 b hb]
  first | refine callG_con (model_Range_con b hb) (by simp [bare_d, ivC_bare]) ?_ | refine callCG_con (model_Range_con b hb) (by simp [bare_d, ivC_bare]) ?_ | refine callSG_con (model_Range_con b hb) (by simp [bare_d, ivC_bare]) ?_
  refine ev ?_
  rw [ivC_0 b (by omega)]
  (repeat (with_reducible refine And.intro (by omega) ?_))
  refine callSG_con (iv_In_con 0 (mG b 0)) rfl ?_
  rw [in0_eq]
  refine ev ?_
  refine callG_con (iv_In_con 0 (rngM b)) rfl ?_
  rw [in0_eq]
  simp -implicitDefEqProofs only [evI, hv, effC, reduceCtorEq, ↓reduceIte, n1_, n2_, n3_, n4_, n5_, i1_, i2_, i3_, i4_, i5_, i6_, i7_, aeq, Option.map_some]
  have e0 : (in0 (mG b 0) == false && in0 (rngM b) == false ^^ true) = (in0 (mG b 0) || in0 (rngM b)) := by cases in0 (mG b 0) <;> cases in0 (rngM b) <;> rfl
  rw [e0]
  unfold divM
  cases hd : (in0 (mG b 0) || in0 (rngM b))
  · have e1 : qC a b 0 = List.replicate 10 (0, 0) := rfl
    have e2 : ofM [] = List.replicate 10 (0, 0) := by rfl
    refine ev ?_
    refine callG_con (model_Of_nil_con) rfl ?_
    refine ev ?_
    rw [e2]
    (repeat (with_reducible refine And.intro (by omega) ?_))
    rw [splice_all _ _ (by rw [ivC_length]; rfl), ← e1]
    refine ⟨by rw [e1]; rfl, ?_⟩
    refine div_L0 a b ha hb _ fun v w => ?_
    have hl := qC_len a b 9 (by decide)
    have hq : divQ a b 9 ++ [(0, 0)] = qC a b 9 := rfl
    have hset : (qC a b 9).set 9 (ivDiv (rngM (zipM ivSub a (mulM b (qC a b 9)))) (rngM b)) = divQ a b 9 ++ [ivDiv (rngM (zipM ivSub a (mulM b (qC a b 9)))) (rngM b)] := by
      have := divQ_len a b 9
      unfold qC
      rw [List.set_append_right _ _ (by omega), this]; rfl
    rw [hq, ← hset]
    generalize qC a b 9 = q at hl ⊢
    refine evx (And.intro (ivC_20 a ha) (And.intro (ivC_20 b hb) (ivC_20 q hl))) ?_
    (repeat (with_reducible refine And.intro (by omega) ?_))
    first | refine callG_con (model_Mul_con b q hb hl) (by simp [bare_d, ivC_bare]) ?_ | refine callCG_con (model_Mul_con b q hb hl) (by simp [bare_d, ivC_bare]) ?_ | refine callSG_con (model_Mul_con b q hb hl) (by simp [bare_d, ivC_bare]) ?_
    refine ev ?_
    first | refine callG_con (model_Sub_con a (mulM b q) ha (mulM_len b q)) (by simp [bare_d, ivC_bare]) ?_ | refine callCG_con (model_Sub_con a (mulM b q) ha (mulM_len b q)) (by simp [bare_d, ivC_bare]) ?_ | refine callSG_con (model_Sub_con a (mulM b q) ha (mulM_len b q)) (by simp [bare_d, ivC_bare]) ?_
    refine ev ?_
    first | refine callG_con (model_Range_con (zipM ivSub a (mulM b q)) (zipM_len _ _ _)) (by simp [bare_d, ivC_bare]) ?_ | refine callCG_con (model_Range_con (zipM ivSub a (mulM b q)) (zipM_len _ _ _)) (by simp [bare_d, ivC_bare]) ?_ | refine callSG_con (model_Range_con (zipM ivSub a (mulM b q)) (zipM_len _ _ _)) (by simp [bare_d, ivC_bare]) ?_
    refine ev ?_
    refine callG_con (iv_Div_con (rngM (zipM ivSub a (mulM b q))) (rngM b)) rfl ?_
    generalize ivDiv (rngM (zipM ivSub a (mulM b q))) (rngM b) = r
    refine ev ?_
    have f : ((ivC q).set 18 (fl r.1)).set 19 (fl r.2) = ivC (q.set 9 r) := ivC_put q 9 r.1 r.2 (by omega)
    have hl2 : (q.set 9 r).length = 10 := by rw [List.length_set]; exact hl
    rw [f]
    simp -implicitDefEqProofs only [evI, hv, effC, reduceCtorEq, ↓reduceIte, n1_, n2_, n3_, n4_, n5_, i1_, i2_, i3_, i4_, i5_, i6_, i7_, ivC_20 _ hl2]
    (repeat (with_reducible refine And.intro (by omega) ?_))
    rw [splice_all _ _ (by rw [ivC_length, hl2]; rfl)]
    exact endsT_ivs _ (by omega) (by decide) rfl rfl rfl
  · have hn : noneM.length = 10 := by rfl
    refine ev ?_
    refine callG_con (model_none_con) rfl ?_
    refine ev ?_
    (repeat (with_reducible refine And.intro (by omega) ?_))
    rw [splice_all _ _ (by rw [ivC_length, hn]; rfl)]
    exact endsT_ivs _ (by omega) (by decide) rfl rfl rfl
end Go.Ab
