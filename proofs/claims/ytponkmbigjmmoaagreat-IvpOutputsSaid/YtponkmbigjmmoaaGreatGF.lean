import Derived.Test.YtponkmbigjmmoaaGreatGE
import Derived.Laws.Append
set_option linter.unusedSimpArgs false
set_option linter.unusedVariables false
namespace Go.Ab
open Go
def zc (z : Array Value) (n : Nat) : Array Value := (Array.range n).map (z[· % z.size]!)
theorem c1w (z : Array Value) (n : Nat) : (zc z n).size = n := by simp [zc]
theorem c9B (z : Array Value) (n j : Nat) (hj : j < n) (hz : 0 < z.size) : (zc z n).getD j undef = z.getD (j % z.size) undef := by
 have : j % z.size < z.size := Nat.mod_lt _ hz
 simp [zc, Array.getD_eq_getD_getElem?, hj, this]
theorem a4K (n : Nat) (zero : List V) : (repl n zero).length = n * zero.length := by
 simp [repl]
theorem c5p (zero : List V) : ∀ (n j : Nat), j < n * zero.length -> (repl n zero).getD j .any = zero.getD (j % zero.length) .any := by
 intro n
 induction n with
 | zero => intro j hj; simp at hj
 | succ n ih =>
  intro j hj
  have e : repl (n + 1) zero = zero ++ repl n zero := by simp [repl, List.replicate_succ]
  rw [e]
  by_cases h : j < zero.length
  ·rw [Nat.mod_eq_of_lt h]
   simp [d2d, d2g h]
  ·have h' : zero.length <= j := Nat.not_lt.1 h
   have h1 : (zero ++ repl n zero).getD j .any = (repl n zero).getD (j - zero.length) .any := by
    simp [d2d, d2j h']
   rw [h1, ih _ (by rw [Nat.add_mul] at hj; omega)]
   congr 1
   rw [Nat.mod_eq_sub_mod h']
theorem a6k (get : Nat -> List D) (sz : Nat) : ∀ n, (∀ i, i < n -> (get i).length = sz) -> (z8 n get).length = n * sz := by
 intro n
 induction n with
 | zero => intro _; simp [z8]
 | succ n ih =>
  intro h
  have e : z8 (n + 1) get = z8 n get ++ get n := by simp [z8, List.range_succ]
  rw [e, List.length_append, ih (λi hi => h i (by omega)), h n (by omega), Nat.add_mul]; omega
theorem c1k (get : Nat -> List D) (sz : Nat) : ∀ n, (∀ i, i < n -> (get i).length = sz) -> ∀ p, p < n * sz -> (z8 n get).getD p default = (get (p / sz)).getD (p % sz) default := by
 intro n
 induction n with
 | zero => intro _ p hp; simp at hp
 | succ n ih =>
  intro h p hp
  have e : z8 (n + 1) get = z8 n get ++ get n := by simp [z8, List.range_succ]
  have hl := a6k get sz n (λi hi => h i (by omega))
  rw [e]
  by_cases hlt : p < n * sz
  ·rw [<- ih (λi hi => h i (by omega)) p hlt]
   simp [d2d, d2g (by omega : p < (z8 n get).length)]
  ·have h1 : p / sz = n := by
    rw [Nat.add_mul] at hp
    exact Nat.div_eq_of_lt_le (by omega) (by rw [Nat.add_mul]; omega)
   have h2 : p % sz = p - n * sz := by
    have := Nat.div_add_mod p sz
    rw [h1, Nat.mul_comm] at this; omega
   rw [h1, h2]
   simp [d2d, d2j (by omega : (z8 n get).length <= p), hl]
section
variable {P : Program} {St : Nat -> Prop} {m : Map} {L : Heap} {w w' : World}
theorem a34 (b off n : Nat) (cell : Nat -> Value) (h : ∀ j, j < n -> w.cell? ⟨b, off + j, none⟩ = some (cell j)) :
  ∃ cs : Array Value, (∀ w' : World, w'.heap = w.heap -> (loadCells ⟨b, off, none⟩ n).run P w' = .ok cs w') /\ cs.size = n /\ ∀ j, j < n -> cs.getD j undef = cell j := by
 have hc : ∀ w' : World, w'.heap = w.heap -> ∀ j, j < n -> w'.cell? (Addr.add ⟨b, off, none⟩ j) = some (cell j) := by
  intro w' hw j hj
  rw [G4]
  have := h j hj
  unfold World.cell? at this ⊢
  rw [hw]; exact this
 refine ⟨_, λw' hw => run_loadCells (P := P) (w := w') ⟨b, off, none⟩ n cell (hc w' hw), by simp, λj hj => ?_⟩
 simp [hj]
theorem a0r {x : V} {c : Value} {esz : Nat} {new : List V} (ho : Objs St m L w) (hx : VRel St m L w x c) (hsrc : s7 L esz x = some new) (hlen : new.length = v4 x * esz) (hesz : 0 < esz) (hall : new.all V.isCell = true) :
  ∃ ad cap, c = .slice ad (v4 x) cap /\ ∀ k, k <= v4 x -> ∃ cs : Array Value, (∀ w' : World, w'.heap = w.heap -> (Builtin.firstCells esz k c).run P w' = .ok cs w') /\ LRel St m L w (new.take (k * esz)) cs /\ ∀ v ∈ cs.toList, v.oneCell' = true := by
 unfold s7 at hsrc
 have mk : ∀ (b off n cap : Nat) (cell : Nat -> Value), c = .slice (some ⟨b, off, none⟩) n cap -> (∀ j, j < n * esz -> w.cell? ⟨b, off + j, none⟩ = some (cell j)) -> n = v4 x -> (∀ j, j < n * esz -> VRel St m L w (new.getD j .any) (cell j)) ->
   ∀ k, k <= n -> ∃ cs : Array Value, (∀ w' : World, w'.heap = w.heap -> (Builtin.firstCells esz k c).run P w' = .ok cs w') /\ LRel St m L w (new.take (k * esz)) cs /\ ∀ v ∈ cs.toList, v.oneCell' = true := by
  intro b off n cap cell hc hcell hn hrel k hk
  have hkm : k * esz <= n * esz := Nat.mul_le_mul_right _ hk
  obtain ⟨cs, hr, hs, hcs⟩ := a34 (P := P) (w := w) b off (k * esz) cell (λj hj => hcell j (by omega))
  have hnl : new.length = n * esz := by rw [hlen, hn]
  refine ⟨cs, λw' hw' => ?_, ⟨by rw [hs, List.length_take, hnl]; omega, λj hj => ?_⟩, λv hv => ?_⟩
  ·rw [hc]; exact hr w' hw'
  ·have hj' : j < k * esz := by rw [List.length_take] at hj; omega
   have e1 : (new.take (k * esz)).getD j .any = new.getD j .any := by simp [d2d, hj']
   rw [e1, hcs j hj']; exact hrel j (by omega)
  ·obtain ⟨j, hj, rfl⟩ := List.mem_iff_getElem.1 hv
   have hj1 : j < cs.size := by simpa using hj
   have := hcs j (by omega)
   rw [Array.getD_eq_getD_getElem?, Array.getElem?_eq_getElem hj1] at this
   simp only [Option.getD_some] at this
   simp only [Array.getElem_toList]
   rw [this]
   have hjn : j < new.length := by omega
   refine b2G (hrel j (by omega)) ?_
   rw [d2d, d2f hjn]
   exact List.all_eq_true.1 hall _ (List.getElem_mem hjn)
 have zero : v4 x = 0 -> new = [] -> ∀ ad cap, c = .slice ad 0 cap -> ∃ ad cap, c = .slice ad (v4 x) cap /\ ∀ k, k <= v4 x -> ∃ cs : Array Value, (∀ w' : World, w'.heap = w.heap -> (Builtin.firstCells esz k c).run P w' = .ok cs w') /\ LRel St m L w (new.take (k * esz)) cs /\ ∀ v ∈ cs.toList, v.oneCell' = true := by
  intro h0 hnew ad cap hc
  subst hnew
  refine ⟨ad, cap, by rw [h0]; exact hc, λk hk => ⟨#[], λw' _ => ?_, by simpa using LRel.nil, by simp⟩⟩
  obtain rfl : k = 0 := by omega
  rw [hc]
  cases ad with
  | none => rfl
  | some ad => simp [Builtin.firstCells, loadCells, loadCellsFrom]
 split at hsrc
 ·cases hsrc
  exact zero rfl rfl _ _ hx.nil'
 ·rename_i k get
  cases hsrc
  obtain ⟨ad, cap, hc, hr⟩ := hx.bor
  by_cases hk : 0 < k
  ·obtain ⟨blk, off, sz, cell, rfl, hst, q1, q2, q3⟩ := hr hk
   have hbl := a6k get sz k q1
   have hsz : sz = esz := by
    simp only [List.length_map, v4] at hlen
    rw [hbl] at hlen
    exact Nat.eq_of_mul_eq_mul_left hk hlen
   subst hsz
   have idx : ∀ j, j < k * sz -> j / sz < k /\ j % sz < sz /\ off + j / sz * sz + j % sz = off + j := by
    intro j hj
    have h1 : j / sz < k := (Nat.div_lt_iff_lt_mul hesz).2 hj
    have h2 : j % sz < sz := Nat.mod_lt _ hesz
    have h3 := Nat.div_add_mod j sz
    rw [Nat.mul_comm] at h3
    exact ⟨h1, h2, by omega⟩
   have drel : ∀ j, j < k * sz -> DRel St w ((z8 k get).getD j default) (cell (j / sz) (j % sz)) := by
    intro j hj
    obtain ⟨h1, h2, h3⟩ := idx j hj
    rw [c1k get sz k q1 j hj]
    exact q3 _ _ h1 h2
   refine ⟨_, cap, hc, mk blk off k cap (λj => cell (j / sz) (j % sz)) hc (λj hj => ?_) rfl (λj hj => ?_)⟩
   ·obtain ⟨h1, h2, h3⟩ := idx j hj
    have := q2 _ _ h1 h2
    rw [h3] at this; exact this
   ·have e : ((z8 k get).map V.d).getD j .any = .d ((z8 k get).getD j default) := by
     have : j < (z8 k get).length := by omega
     simp [d2d, this]
    rw [e]; exact .d (drel j hj)
  ·obtain rfl : k = 0 := by omega
   exact zero rfl (by simp [z8]) _ _ hc
 ·rename_i X r off k es ver
  split at hsrc
  case h_2 => cases hsrc
  rename_i cells hL
  split at hsrc
  case isFalse => cases hsrc
  rename_i hcond
  obtain ⟨hver, hle⟩ := hcond
  cases hsrc
  obtain ⟨cells', ad, cap, hL', hv', hc, hcap, ha, hf⟩ := hx.sl'
  rw [hL] at hL'; cases hL'
  by_cases hk : 0 < k
  ·rcases hf hver with h0 | ⟨b, C, hm, hC, rfl⟩
   ·omega
   ·obtain ⟨p1, p2, arr, el, p3, p4, p5, p6⟩ := ho.obj X r cells b C hL hm
    have hrel : ∀ j, j < k * esz -> VRel St m L w (((cells.drop off).take (k * esz)).getD j .any) (arr.getD (off + j) undef) := by
     intro j hj
     have e1 : ((cells.drop off).take (k * esz)).getD j .any = cells.getD (off + j) .any := by simp [d2d, hj]
     rw [e1]; exact p6 _ (by omega)
    exact ⟨_, cap, hc, mk b off k cap (λj => arr.getD (off + j) undef) hc (λj hj => y0 p3 (by omega)) rfl hrel⟩
  ·obtain rfl : k = 0 := by omega
   exact zero rfl (by simp) _ _ hc
 ·cases hsrc
end
end Go.Ab
namespace Go.Ab
open Go
section
variable {P : Program} {St : Nat -> Prop} {m : Map} {L : Heap} {w w' : World} {o : Oper} {a : Act} {s : S} {K : V -> Heap -> Prop}
theorem b6u (nm : Nat) (t e : TypeId) (len : Nat) (parts : Array (Nat × Operand)) (it : TypeInfo) (z : Value) (ht : P.underlying t = some (.slice e)) (hi : P.info? e = some it) (hz : it.zero = some z)
  (hlim : len * it.size <= 16777216) (hop : o.op = .buildSlice t len parts) (hs : SimS St m s a w)
  (hk : eff P nm (.bslice ((zc z.cells (len * it.size)).toList.map Value.toV) len it.size (parts.toList.map λ(i, x) => (i * it.size, it.size, Opd.of x)) e) s K) :
  ∃ v L' c w', (execOp a.eval o).run P w = .ok (.value c) w' /\ K v L' /\ Post St m s.L w v L' c w' := by
 simp only [eff, effC] at hk
 split at hk
 case h_2 => exact hk.elim
 rename_i cells hf
 obtain ⟨hX, ⟨hcell, hlen⟩, hk⟩ := hk
 obtain ⟨cs', hfill, hrel⟩ := b9d (St := St) (m := m) (L := s.L) (w := w) (λi => some (i * it.size, it.size)) (parts.toList.map λ(i, x) => (i, a.eval x)) _ _ (zc z.cells (len * it.size)) cells (a9j _) hf (by simp [W3])
  (λj h1 h2 => by simp [W3]; exact n9 hs _)
 refine ⟨_, _, .slice (some ⟨w.heap.size, 0, none⟩) len len, { w with heap := w.heap.push (.cells cs' e (0, 0)) }, ?_, hk, a5R hs.objs hX hrel.pre _ _
  (.sl (J0 hX) (by omega) _ _ rfl (d2t _) (λ_ => rfl) λ_ => .inr ⟨w.heap.size, cs'.size, by simp [Map.set], by rw [hrel.1, hlen]; omega, rfl⟩)⟩
 have hfill' : Instr.fill (λi => some (i * it.size, it.size)) (zc z.cells (len * it.size)) (parts.map λ(i, x) => (i, a.eval x)).toList = some cs' := by simpa using hfill
 simp only [execOp, hop]
 by_cases h0 : len * it.size = 0
 ·have hzc : zc z.cells (len * it.size) = #[] := by rw [h0]; simp [zc]
  rw [hzc] at hfill'
  simp [Instr.buildSlice, run_underlying ht, sizeOf, typeInfo, hi, h0] 
  have hr0 : Array.map (λx => (default : Value)) (Array.range 0) = #[] := Array.eq_empty_of_size_eq_zero (by simp)
  simp at hfill'
  simp [hr0, hfill', newRow]
 ·have hzz : (zeroValue e).run P w = .ok z w := by simp [zeroValue, typeInfo, hi, hz]
  have hlim' : ¬ (len * it.size > 2 ^ 24) := by omega
  simp [Instr.buildSlice, run_underlying ht, sizeOf, typeInfo, hi, h0, hlim', hzz]
  simp [zc] at hfill'
  simp [hfill', newRow]
theorem wrap_i64 {n : Int} (h0 : 0 <= n) (h1 : n < 9223372036854775808) : IntKind.i64.wrap n = n := by
 unfold IntKind.wrap IntKind.bits IntKind.signed
 simp only
 have : n % (2 ^ 64 : Int) = n := Int.emod_eq_of_lt h0 (by omega)
 rw [this]
 simp
 omega
theorem c0x (nm : Nat) (t e : TypeId) (x y : Operand) (it : TypeInfo) (z : Value) (ht : P.underlying t = some (.slice e)) (hi : P.info? e = some it) (hz : it.zero = some z) (hb : 0 < it.bytes) (hsz : 0 < it.size)
  (hop : o.op = .makeSlice t x y) (hs : SimS St m s a w)
  (hk : eff P nm (.mksl (z.cells.toList.map Value.toV) it.size it.bytes (Opd.of x) (Opd.of y) e) s K) :
  ∃ v L' c w', (execOp a.eval o).run P w = .ok (.value c) w' /\ K v L' /\ Post St m s.L w v L' c w' := by
 have hx := n9 hs x
 have hy := n9 hs y
 simp only [eff, effC] at hk
 split at hk
 case h_2 => exact hk.elim
 rename_i k p k' q h1 h2
 rw [h1] at hx; rw [h2] at hy
 obtain ⟨hX, ⟨rfl, rfl, hzl, hzc, hp0, hpq, hlim⟩, hk⟩ := hk
 have hzs : z.cells.size = it.size := by simpa using hzl
 have hq : q <= 281474976710656 := by
  have : q * 1 <= q * it.bytes := Int.mul_le_mul_of_nonneg_left (by omega) (by omega)
  omega
 have hrel : PRel St m s.L w (repl p.toNat (z.cells.toList.map Value.toV)) (zc z.cells (q.toNat * it.size)) := by
  have hpq' : p.toNat * it.size <= q.toNat * it.size := Nat.mul_le_mul_right _ (by omega)
  refine ⟨by rw [a4K, c1w, hzl]; exact hpq', λj hj => ?_⟩
  rw [a4K, hzl] at hj
  rw [c5p _ _ _ (by rw [hzl]; exact hj), c9B _ _ _ (by omega) (by omega), hzl, hzs]
  exact (a9j (St := St) (m := m) (L := s.L) (w := w) z.cells).2 _ (by rw [hzl]; exact Nat.mod_lt _ hsz)
 refine ⟨_, _, .slice (some ⟨w.heap.size, 0, none⟩) p.toNat q.toNat, { w with heap := w.heap.push (.cells (zc z.cells (q.toNat * it.size)) e (0, 0)) }, ?_, hk, a5R hs.objs hX hrel _ _
  (.sl (J0 hX) (by rw [a4K, hzl]; exact d2t _) _ _ rfl (by omega) (λ_ => rfl) λ_ => .inr ⟨w.heap.size, (zc z.cells (q.toNat * it.size)).size, by simp [Map.set], by rw [c1w]; omega, rfl⟩)⟩
 simp only [execOp, hop, hx.int, hy.int]
 have e1 : IntKind.i64.wrap p = p := wrap_i64 hp0 (by omega)
 have e2 : IntKind.i64.wrap q = q := wrap_i64 (by omega) (by omega)
 have c1 : ¬ ((it.bytes : Int) * q > 281474976710656) := by rw [Int.mul_comm]; omega
 have c2 : ¬ (q < 0) := by omega
 have c3 : ¬ (p < 0) := by omega
 have c4 : ¬ (p > q) := by omega
 have hcond : ((decide (q < 0) || decide ((it.bytes : Int) * q > 2 ^ 48)) || decide (p < 0) || decide (p > q)) = false := by
  simp [c2, c3, c4]; omega
 have hzz : (zeroValue e).run P w = .ok z w := by simp [zeroValue, typeInfo, hi, hz]
 have c1' : ¬ (281474976710656 < (it.bytes : Int) * q) := by omega
 have hr0 : Array.map (λx => (default : Value)) (Array.range 0) = #[] := Array.eq_empty_of_size_eq_zero (by simp)
 by_cases h0 : q.toNat * it.size = 0
 ·have hzc0 : zc z.cells (q.toNat * it.size) = #[] := by rw [h0]; simp [zc]
  rw [hzc0]
  simp only [Instr.makeSlice]
  simp [run_underlying ht, asInt, asIntOf, sizeOf, typeInfo, hi, e1, e2, c2, c3, c4, c1', h0, newRow, hr0]
 ·simp only [Instr.makeSlice]
  simp [run_underlying ht, asInt, asIntOf, sizeOf, typeInfo, hi, e1, e2, c2, c3, c4, c1', h0, hzz, newRow, zc]
end
end Go.Ab
namespace Go.Ab
open Go
theorem a33 (z : Array Value) (n : Nat) : (Builtin.zeroCells z n).size = n * z.size := by simp [Builtin.zeroCells]
section
variable {P : Program} {St : Nat -> Prop} {m : Map} {L : Heap} {w w' : World} {o : Oper} {a : Act} {s : S} {K : V -> Heap -> Prop}
theorem PRel.append {xs ys : List V} {as bs : Array Value} (rest : Array Value) (hx : LRel St m L w xs as) (hy : LRel St m L w ys bs) : PRel St m L w (xs ++ ys) (as ++ bs ++ rest) := by
 have h1 := hx.1
 have h2 := hy.1
 refine ⟨by simp; omega, λj hj => ?_⟩
 rw [List.length_append] at hj
 by_cases h : j < xs.length
 ·have e1 : (xs ++ ys).getD j .any = xs.getD j .any := by simp [d2d, d2g h]
  have e2 : (as ++ bs ++ rest).getD j undef = as.getD j undef := by
   simp [Array.getD_eq_getD_getElem?, Array.getElem?_append, show j < as.size from by omega]
  rw [e1, e2]; exact hx.2 j h
 ·have e1 : (xs ++ ys).getD j .any = ys.getD (j - xs.length) .any := by simp [d2d, d2j (Nat.not_lt.1 h)]
  have e2 : (as ++ bs ++ rest).getD j undef = bs.getD (j - xs.length) undef := by
   simp [Array.getD_eq_getD_getElem?, Array.getElem?_append, h, h1, show j - xs.length < bs.size from by omega]
  rw [e1, e2]; exact hy.2 _ (by omega)
theorem a1v (ty t t2 e e2 : TypeId) (it : TypeInfo) (ht : P.underlying t = some (.slice e)) (ht2 : P.underlying t2 = some (.slice e2)) (hi : P.info? e = some it)
  (base : Option Addr) (n cap k : Nat) (ad : Option Addr) (c' : Nat) (new : Array Value)
  (hnew : (Builtin.firstCells it.size k (.slice ad k c')).run P w = .ok new w) (hle : n + k <= cap)
  (hst : (match base with | some b => storeCells (b.add (n * it.size)) new.toList | none => pure () : Sem Unit).run P w = .ok () w') :
  (Builtin.append_ #[t, t2] ty #[.slice base n cap, .slice ad k c']).run P w = .ok (.slice base (n + k) cap) w' := by
 cases base with
 | none =>
  simp only [Sem.run_pure, Result.ok.injEq, true_and] at hst
  subst hst
  simp [Builtin.append_, run_underlying ht, run_underlying ht2, sizeOf, typeInfo, hi, Builtin.lenOf, hle, hnew]
 | some b =>
  simp only at hst
  simp [Builtin.append_, run_underlying ht, run_underlying ht2, sizeOf, typeInfo, hi, Builtin.lenOf, hle, hnew, hst]
theorem a35 (ty t t2 e e2 : TypeId) (it : TypeInfo) (z : Value) (ht : P.underlying t = some (.slice e)) (ht2 : P.underlying t2 = some (.slice e2)) (hi : P.info? e = some it) (hz : it.zero = some z) (hb : 0 < it.bytes)
  (base : Option Addr) (n cap k : Nat) (ad : Option Addr) (c' : Nat) (old new : Array Value) (hbytes : (n + k) * it.bytes <= 140737488355328) (hlt : cap < n + k)
  (hboth : ∀ w' : World, Same w w' -> (Builtin.firstCells it.size n (.slice base n cap)).run P w' = .ok old w' /\ (Builtin.firstCells it.size k (.slice ad k c')).run P w' = .ok new w') :
  ∃ nc d, n + k <= nc /\ (Builtin.append_ #[t, t2] ty #[.slice base n cap, .slice ad k c']).run P w = .ok (.slice (some ⟨w.heap.size, 0, none⟩) (n + k) nc)
    { w with drawn := d, heap := w.heap.push (.cells (old ++ new ++ Builtin.zeroCells z.cells (nc - (n + k))) e (0, 0)) } := by
 have hb1 : (n + k) * 1 <= (n + k) * it.bytes := Nat.mul_le_mul_left _ hb
 have hfits := growslice_fits (need := n + k) (old := cap) (bytes := it.bytes) hlt hbytes
 refine ⟨Question.cut (.appendCap (n + k) cap e) (w.tape w.drawn (.appendCap (n + k) cap e)), w.drawn + 1, by simp [Question.cut], ?_⟩
 obtain ⟨h1, h2⟩ := hboth w.drew ⟨rfl, rfl, rfl, rfl⟩
 have hn1 : ¬ (n + k <= cap) := by omega
 have hn2 : ¬ (Builtin.nextslicecap (n + k) cap * it.bytes > 281474976710656) := by omega
 have hf : Question.forced (.appendCap (n + k) cap e) = false := rfl
 have hby : it.bytes ≠ 0 := by omega
 simp [Builtin.append_, run_underlying ht, run_underlying ht2, sizeOf, typeInfo, hi, Builtin.lenOf, hn1, hn2, hf, hby, h1, h2, zeroValue, hz, newRow]
 rfl
theorem Objs.congr {L' : Heap} (ho : Objs St m L w) (h : ∀ X r, L'.get X r = L.get X r) : Objs St m L' w /\ Ext St St m m L L' w w /\ Src m L m L' w := by
 have hext : Ext St St m m L L' w w := ⟨λ_ h => h, λ_ _ => rfl, λX r c hc => ⟨c, by rw [h]; exact hc, d2t _, λ_ => rfl⟩⟩
 refine ⟨⟨ho.st, λX r c hc => ho.nil X r c (by rw [<- h]; exact hc), λX r c b C hc hm => ?_, λX r Y q b C C' h1 h2 => ho.inj X r Y q b C C' (by rw [<- h]; exact h1) (by rw [<- h]; exact h2)⟩, hext, λX r b C h1 h2 => .inl ⟨by rw [<- h]; exact h1, h2⟩⟩
 obtain ⟨h1, h2, arr, el, h3, h4, h5, h6⟩ := ho.obj X r c b C (by rw [<- h]; exact hc) hm
 exact ⟨h1, h2, arr, el, h3, h4, h5, λj hj => (h6 j hj).mono hext⟩
theorem Objs.madeNil (ho : Objs St m L w) {X : Nat} (hX : L.fam X = none) :
  Objs St (λY r => if Y = X then none else m Y r) (L.ins X [[]]) w /\ Ext St St m (λY r => if Y = X then none else m Y r) L (L.ins X [[]]) w w /\
   Src m L (λY r => if Y = X then none else m Y r) (L.ins X [[]]) w := by
 have hne : ∀ Y r c, L.get Y r = some c -> Y ≠ X := by intro Y r c h e; subst e; rw [x4 hX] at h; cases h
 have hext : Ext St St m (λY r => if Y = X then none else m Y r) L (L.ins X [[]]) w w :=
  ⟨λ_ h => h, λ_ _ => rfl, λY r c hc => ⟨c, by rw [T3 hX, if_neg (hne Y r c hc)]; exact hc, d2t _, λ_ => by simp [hne Y r c hc]⟩⟩
 have back : ∀ Y r b C, (if Y = X then none else m Y r) = some (b, C) -> Y ≠ X /\ m Y r = some (b, C) := by
  intro Y r b C h
  by_cases e : Y = X
  ·simp [e] at h
  ·simp [e] at h; exact ⟨e, h⟩
 refine ⟨⟨ho.st, λY r c hc hm => ?_, λY r c b C hc hm => ?_, λY r Z q b C C' h1 h2 h3 h4 => ?_⟩, hext, λY r b C h1 h2 => ?_⟩
 ·rw [T3 hX] at hc
  by_cases e : Y = X
  ·subst e; simp only [if_true] at hc
   split at hc
   ·cases hc; rfl
   ·cases hc
  ·rw [if_neg e] at hc; simp [e] at hm; exact ho.nil Y r c hc hm
 ·obtain ⟨e, hm⟩ := back _ _ _ _ hm
  rw [T3 hX, if_neg e] at hc
  obtain ⟨h1, h2, arr, el, h3, h4, h5, h6⟩ := ho.obj Y r c b C hc hm
  exact ⟨h1, h2, arr, el, h3, h4, h5, λj hj => (h6 j hj).mono hext⟩
 ·obtain ⟨e1, h3⟩ := back _ _ _ _ h3
  obtain ⟨e2, h4⟩ := back _ _ _ _ h4
  rw [T3 hX, if_neg e1] at h1
  rw [T3 hX, if_neg e2] at h2
  exact ho.inj _ _ _ _ _ _ _ h1 h2 h3 h4
 ·obtain ⟨e, h2⟩ := back _ _ _ _ h2
  rw [T3 hX, if_neg e] at h1
  exact .inl ⟨h1, h2⟩
theorem b3v : ∀ (new cells : List V) (off : Nat), off = cells.length -> t6 (cells ++ List.replicate new.length .any) off new = cells ++ new := by
 intro new
 induction new with
 | nil => intro cells off _; simp [t6]
 | cons v new ih =>
  intro cells off h
  subst h
  simp only [t6, List.length_cons, List.replicate_succ]
  have e : (cells ++ V.any :: List.replicate new.length V.any).set cells.length v = (cells ++ [v]) ++ List.replicate new.length V.any := by
   rw [List.set_append_right _ _ (d2t _)]; simp
  rw [e, ih (cells ++ [v]) _ (by simp)]
  simp
theorem c4y (nm : Nat) (ty t t2 e e2 : TypeId) (x y : Operand) (it : TypeInfo) (z : Value) (ht : P.underlying t = some (.slice e)) (ht2 : P.underlying t2 = some (.slice e2)) (hi : P.info? e = some it) (hz : it.zero = some z)
  (hb : 0 < it.bytes) (hzs : z.cells.size = it.size) (hty : o.type = ty) (hop : o.op = .call { callee := .builtin .append, args := #[x, y], argTypes := #[t, t2] }) (hs : SimS St m s a w)
  (hk : eff P nm (.app (Opd.of x) (Opd.of y) it.size it.bytes) s K) : ∃ v L' c w', (execOp a.eval o).run P w = .ok (.value c) w' /\ K v L' /\ Post St m s.L w v L' c w' := by
 have hx := n9 hs x
 have hy := n9 hs y
 simp only [eff, effC] at hk
 split at hk
 case h_2 => exact hk.elim
 rename_i new hsrc
 have run : ∀ c w', (Builtin.append_ #[t, t2] ty #[a.eval x, a.eval y]).run P w = .ok c w' -> (execOp a.eval o).run P w = .ok (.value c) w' := by
  intro c w' hr
  simp only [execOp, hop]
  simp [resolve, invoke, builtin, hty, hr]
 split at hk
 ·rename_i hex
  obtain ⟨hX, ⟨hby, hlen, hesz, hall⟩, hk⟩ := hk
  rw [hex] at hx
  have hc := hx.nil'
  obtain ⟨ad, cap', hcy, hfc⟩ := a0r (P := P) hs.objs hy hsrc hlen hesz hall
  obtain ⟨cs, hcs, hrel, hone⟩ := hfc _ (d2t _)
  have htk : new.take (v4 (s.ev (Opd.of y)) * it.size) = new := d2r (by omega)
  rw [htk] at hrel
  by_cases h0 : v4 (s.ev (Opd.of y)) = 0
  ·have hnew : new = [] := List.eq_nil_of_length_eq_zero (by rw [hlen, h0]; simp)
   subst hnew
   have hr := a1v (P := P) (w := w) (w' := w) ty t t2 e e2 it ht ht2 hi none 0 0 _ ad cap' cs (by rw [<- hcy]; exact hcs w rfl) (by omega) rfl
   obtain ⟨h1, h2, h3⟩ := hs.objs.madeNil hX
   refine ⟨_, _, _, w, run _ _ (by rw [hc, hcy]; exact hr), hk, ⟨St, _, h1, ?_, .refl _ _, h2, λ_ h => .inl h, h3⟩⟩
   refine .sl (J0 hX) (by simp [h0]) none 0 (by simp [h0]) (by omega) (λh => by omega) λ_ => .inl rfl
  ·obtain ⟨nc, d, hnc, hr⟩ := a35 (P := P) (w := w) ty t t2 e e2 it z ht ht2 hi hz hb none 0 0 (v4 (s.ev (Opd.of y))) ad cap' #[] cs (by simpa using hby) (by omega)
    (λw' hw' => ⟨rfl, by rw [<- hcy]; exact hcs w' hw'.heap⟩)
   have hp : PRel St m s.L w new (#[] ++ cs ++ Builtin.zeroCells z.cells (nc - (0 + v4 (s.ev (Opd.of y))))) := by simpa using PRel.append _ LRel.nil hrel
   obtain ⟨h1, h2, h3, h4⟩ := hs.objs.made (w' := { w with drawn := d, heap := w.heap.push (.cells (#[] ++ cs ++ Builtin.zeroCells z.cells (nc - (0 + v4 (s.ev (Opd.of y))))) e (0, 0)) }) hX rfl rfl rfl rfl hp
   refine ⟨_, _, _, _, run _ _ (by rw [hc, hcy]; exact hr), hk, ⟨St, _, h1, ?_, h3, h2, λ_ h => .inl h, h4⟩⟩
   have hcsz := hrel.1
   refine .sl (J0 hX) (by omega) _ nc (by rw [Nat.zero_add]) (by omega) (λ_ => rfl) λ_ => .inr ⟨w.heap.size, (#[] ++ cs ++ Builtin.zeroCells z.cells (nc - (0 + v4 (s.ev (Opd.of y))))).size, by simp [Map.set], ?_, rfl⟩
   simp only [Array.size_append, a33, hcsz, hlen, hzs, Nat.zero_add, List.size_toArray, List.length_nil, <- Nat.add_mul]
   exact Nat.mul_le_mul_right _ (by omega)
 ·rename_i X r off n esz' ver hex
  split at hk
  case h_2 => exact hk.elim
  rename_i cells hL
  obtain ⟨⟨hver, rfl, rfl, hnv, hby, hlen, hesz, hall⟩, hk⟩ := hk
  rw [hex] at hx
  obtain ⟨cells', base, cap, hL', hv', hc, hncap, ha, hf⟩ := hx.sl'
  rw [hL] at hL'; cases hL'
  obtain ⟨ad, cap', hcy, hfc⟩ := a0r (P := P) hs.objs hy hsrc hlen hesz hall
  obtain ⟨cs, hcs, hrel, hone⟩ := hfc _ (d2t _)
  have htk : new.take (v4 (s.ev (Opd.of y)) * it.size) = new := d2r (by omega)
  rw [htk] at hrel
  have hcsz := hrel.1
  generalize hkk : v4 (s.ev (Opd.of y)) = k at *
  have hgp : (s.L.put X r (cells ++ new)).get X r = some (cells ++ new) := by rw [K8 X r _ s.L cells hL]; simp
  by_cases h0 : k = 0
  ·have hnew : new = [] := List.eq_nil_of_length_eq_zero (by rw [hlen, h0]; simp)
   subst hnew
   have hcs0 : cs = #[] := Array.eq_empty_of_size_eq_zero (by simpa using hcsz)
   subst hcs0
   have hr := a1v (P := P) (w := w) (w' := w) ty t t2 e e2 it ht ht2 hi base n cap _ ad cap' #[] (by rw [<- hcy]; exact hcs w rfl) (by omega) (by cases base <;> rfl)
   obtain ⟨h1, h2, h3⟩ := hs.objs.congr (L' := s.L.put X r (cells ++ [])) (λY q => by
    rw [K8 X r _ s.L cells hL]; split
    ·rename_i e; obtain ⟨rfl, rfl⟩ := e; simp [hL]
    ·rfl)
   refine ⟨_, _, _, w, run _ _ (by rw [hc, hcy]; exact hr), hk, ⟨St, m, h1, ?_, .refl _ _, h2, λ_ h => .inl h, h3⟩⟩
   have := hx.mono h2
   rw [hc] at this
   simpa [h0] using this
  ·by_cases hroom : n + k <= cap
   ·rcases hf hver with hz0 | ⟨b, C, hm, hC, rfl⟩
    ·omega
    ·obtain ⟨p1, p2, arr, el, p3, p4, p5, p6⟩ := hs.objs.obj X r cells b C hL hm
     have hmul : (n + k) * it.size <= cap * it.size := Nat.mul_le_mul_right _ hroom
     rw [Nat.add_mul] at hmul
     obtain ⟨w', hst, hw⟩ := a0q (P := P) b (n * it.size) el cs.toList 0 w arr p3 (by simp; omega) hone
     have hr := a1v (P := P) (w := w) (w' := w') ty t t2 e e2 it ht ht2 hi (some ⟨b, 0, none⟩) n cap _ ad cap' cs (by rw [<- hcy]; exact hcs w rfl) hroom (by show (storeCells (Addr.add ⟨b, 0, none⟩ (n * it.size)) cs.toList).run P w = _; rw [G4, Nat.zero_add]; exact hst)
     have hp : PRel St m s.L w (cells ++ new) (a1u arr (n * it.size + 0) cs.toList) := by
      have q1 : PRel St m s.L w (t6 (cells ++ List.replicate new.length .any) (n * it.size + 0) new) (a1u arr (n * it.size + 0) cs.toList) := by
       refine a6Q _ _ _ _ _ ⟨by simp; omega, λj hj => ?_⟩ (by simpa using hrel)
       by_cases hjl : j < cells.length
       ·have e1 : (cells ++ List.replicate new.length V.any).getD j .any = cells.getD j .any := by simp [d2d, d2g hjl]
        rw [e1]; exact p6 j hjl
       ·have e1 : (cells ++ List.replicate new.length V.any).getD j .any = .any := by
         rw [d2d, d2j (Nat.not_lt.1 hjl), List.getElem?_replicate]
         split <;> rfl
        rw [e1]; exact .any _
      rw [b3v new cells (n * it.size + 0) (by omega)] at q1
      exact q1
     obtain ⟨h1, h2, h3, h4⟩ := hs.objs.wrote hL hm (cells := cells ++ new) (by simp) hw (by rw [a2k]; exact p4) hp
     refine ⟨_, _, _, w', run _ _ (by rw [hc, hcy]; exact hr), hk, ⟨St, m, h1, ?_, h3, h2, λ_ h => .inl h, h4⟩⟩
     exact .sl hgp (by simp; omega) _ cap rfl hroom (λ_ => rfl) λ_ => .inr ⟨b, C, hm, by omega, rfl⟩
   ·have holdc : ∃ old : Array Value, (∀ w' : World, w'.heap = w.heap -> (Builtin.firstCells it.size n (.slice base n cap)).run P w' = .ok old w') /\ LRel St m s.L w cells old := by
     by_cases hn0 : n = 0
     ·subst hn0
      have hcell0 : cells = [] := List.eq_nil_of_length_eq_zero (by omega)
      subst hcell0
      refine ⟨#[], λw' _ => ?_, LRel.nil⟩
      cases base with
      | none => rfl
      | some ad => simp [Builtin.firstCells, loadCells, loadCellsFrom]
     ·rcases hf hver with hz0 | ⟨b, C, hm, hC, rfl⟩
      ·omega
      ·obtain ⟨p1, p2, arr, el, p3, p4, p5, p6⟩ := hs.objs.obj X r cells b C hL hm
       obtain ⟨old, hold, hsz, hget⟩ := a34 (P := P) (w := w) b 0 (n * it.size) (λj => arr.getD (0 + j) undef) (λj hj => y0 p3 (by omega))
       exact ⟨old, hold, by omega, λj hj => by rw [hget j (by omega), Nat.zero_add]; exact p6 j hj⟩
    obtain ⟨old, hold, holdr⟩ := holdc
    obtain ⟨nc, d, hnc, hr⟩ := a35 (P := P) (w := w) ty t t2 e e2 it z ht ht2 hi hz hb base n cap k ad cap' old cs hby (by omega)
     (λw' hw' => ⟨hold w' hw'.heap, by rw [<- hcy]; exact hcs w' hw'.heap⟩)
    have hp : PRel St m s.L w (cells ++ new) (old ++ cs ++ Builtin.zeroCells z.cells (nc - (n + k))) := PRel.append _ holdr hrel
    have hnewpos : 0 < new.length := by rw [hlen]; exact Nat.mul_pos (by omega) hesz
    obtain ⟨h1, h2, h3, h4⟩ := hs.objs.grown (w' := { w with drawn := d, heap := w.heap.push (.cells (old ++ cs ++ Builtin.zeroCells z.cells (nc - (n + k))) e (0, 0)) }) hL (cells := cells ++ new) (by simp; omega) rfl rfl rfl rfl hp
    refine ⟨_, _, _, _, run _ _ (by rw [hc, hcy]; exact hr), hk, ⟨St, _, h1, ?_, h3, h2, λ_ h => .inl h, h4⟩⟩
    refine .sl hgp (by simp; omega) _ nc rfl (by omega) (λ_ => rfl) λ_ => .inr ⟨w.heap.size, (old ++ cs ++ Builtin.zeroCells z.cells (nc - (n + k))).size, by simp [Map.set], ?_, rfl⟩
    have := holdr.1
    simp only [Array.size_append, a33, hcsz, this, hlen, hzs, hver, <- hnv, Nat.zero_add, <- Nat.add_mul]
    exact Nat.mul_le_mul_right _ (by omega)
 ·exact hk.elim
end
end Go.Ab
namespace Go.Ab
open Go
section
variable {P : Program} {St : Nat -> Prop} {m : Map} {L : Heap} {w w' : World} {o : Oper} {a : Act} {s : S} {K : V -> Heap -> Prop}
theorem c4d (nm : Nat) (ty t t2 e : TypeId) (x y : Operand) (it : TypeInfo) (ht : P.underlying t = some (.slice e)) (hi : P.info? e = some it)
  (hty : o.type = ty) (hop : o.op = .call { callee := .builtin .copy, args := #[x, y], argTypes := #[t, t2] }) (hs : SimS St m s a w)
  (hk : eff P nm (.cpy (Opd.of x) (Opd.of y) it.size) s K) : ∃ v L' c w', (execOp a.eval o).run P w = .ok (.value c) w' /\ K v L' /\ Post St m s.L w v L' c w' := by
 have hx := n9 hs x
 have hy := n9 hs y
 simp only [eff, effC] at hk
 split at hk
 case h_2 => exact hk.elim
 rename_i new hsrc
 have run : ∀ c w', (Builtin.copy_ #[t, t2] ty #[a.eval x, a.eval y]).run P w = .ok c w' -> (execOp a.eval o).run P w = .ok (.value c) w' := by
  intro c w' hr
  simp only [execOp, hop]
  simp [resolve, invoke, builtin, hty, hr]
 split at hk
 case h_2 => exact hk.elim
 rename_i X r off n esz' ver hex
 split at hk
 case h_2 => exact hk.elim
 rename_i cells hL
 obtain ⟨⟨hver, hoff, hlen, hesz, hall⟩, hk⟩ := hk
 rw [hex] at hx
 obtain ⟨cells', base, cap, hL', hv', hc, hncap, ha, hf⟩ := hx.sl'
 rw [hL] at hL'; cases hL'
 obtain ⟨ad, cap', hcy, hfc⟩ := a0r (P := P) hs.objs hy hsrc hlen hesz hall
 obtain ⟨cs, hcs, hrel, hone⟩ := hfc (min (v4 (s.ev (Opd.of y))) n) (Nat.min_le_left _ _)
 have hmin : Nat.min (v4 (s.ev (Opd.of y))) n = min (v4 (s.ev (Opd.of y))) n := rfl
 have htk : new.take (min (v4 (s.ev (Opd.of y))) n * it.size) = new.take (n * it.size) := by
  rcases Nat.le_total (v4 (s.ev (Opd.of y))) n with h | h
  ·rw [Nat.min_eq_left h, d2r (by omega), d2r]
   rw [hlen]; exact Nat.mul_le_mul_right _ h
  ·rw [Nat.min_eq_right h]
 rw [htk] at hrel
 have hr0 : ∀ w', (match base with | some b => storeCells b cs.toList | none => pure () : Sem Unit).run P w = .ok () w' -> (Builtin.copy_ #[t, t2] ty #[a.eval x, a.eval y]).run P w = .ok (.int .i64 (min (v4 (s.ev (Opd.of y))) n : Nat)) w' := by
  intro w' hst
  have hcsw := hcs w rfl
  rw [hcy] at hcsw
  rw [hc, hcy]
  cases base with
  | none =>
   simp only [Sem.run_pure, Result.ok.injEq, true_and] at hst
   subst hst
   simp [Builtin.copy_, run_underlying ht, sizeOf, typeInfo, hi, Builtin.lenOf, hmin, hcsw, goInt]
  | some b =>
   simp only at hst
   simp [Builtin.copy_, run_underlying ht, sizeOf, typeInfo, hi, Builtin.lenOf, hmin, hcsw, hst, goInt]
 have hcsz := hrel.1
 have hcap : cap = 0 \/ 0 < cap := by omega
 by_cases hz : cs.size = 0
 ·have hcs0 : cs = #[] := Array.eq_empty_of_size_eq_zero hz
  have hnt : new.take (n * it.size) = [] := List.eq_nil_of_length_eq_zero (by omega)
  rw [hnt] at hk
  obtain ⟨h1, h2, h3⟩ := hs.objs.congr (L' := s.L.put X r (t6 cells off [])) (λY q => by
   rw [K8 X r _ s.L cells hL]; split
   ·rename_i e; obtain ⟨rfl, rfl⟩ := e; simp [hL, t6]
   ·rfl)
  exact ⟨_, _, _, w, run _ _ (hr0 w (by rw [hcs0]; cases base <;> rfl)), hk, ⟨St, m, h1, .d (.int _ _), .refl _ _, h2, λ_ h => .inl h, h3⟩⟩
 ·have hn0 : 0 < n := by
   rcases Nat.eq_zero_or_pos n with h | h
   ·subst h; rw [Nat.zero_mul, List.take_zero] at hcsz; exact absurd hcsz hz
   ·exact h
  rcases hf hver with hz0 | ⟨b, C, hm, hC, rfl⟩
  ·omega
  ·obtain ⟨p1, p2, arr, el, p3, p4, p5, p6⟩ := hs.objs.obj X r cells b C hL hm
   have hle : cs.size <= n * it.size := by rw [hcsz, List.length_take]; omega
   obtain ⟨w', hst, hw⟩ := a0q (P := P) b off el cs.toList 0 w arr p3 (by simp; omega) hone
   have hp : PRel St m s.L w (t6 cells off (new.take (n * it.size))) (a1u arr (off + 0) cs.toList) := a6Q _ _ _ _ _ ⟨by omega, p6⟩ (by simpa using hrel)
   obtain ⟨h1, h2, h3, h4⟩ := hs.objs.wrote hL hm (by rw [B5]; exact d2t _) hw (by rw [a2k]; exact p4) hp
   exact ⟨_, _, _, w', run _ _ (hr0 w' hst), hk, ⟨St, m, h1, .d (.int _ _), h3, h2, λ_ h => .inl h, h4⟩⟩
end
def b40 (P : Program) (t : TypeId) : Option (TypeInfo × Value) :=
 match P.info? t with
 | some it => match it.zero with
  | some z => if z.cells.size = it.size then some (it, z) else none
  | none => none
 | none => none
theorem a3A {P : Program} {t : TypeId} {it : TypeInfo} {z : Value} (h : b40 P t = some (it, z)) : P.info? t = some it /\ it.zero = some z /\ z.cells.size = it.size := by
 unfold b40 at h
 split at h
 ·rename_i it' hi
  split at h
  ·rename_i z' hz
   split at h
   ·rename_i hs; cases h; exact ⟨hi, hz, hs⟩
   ·cases h
  ·cases h
 ·cases h
def c81 (P : Program) (pure : Nat) (op : Op) : Option Inst :=
 match op with
 | .load t x => match szT P t, aggT P t with
  | some n, some g => if (g = true \/ n = 1) then some (.load (Opd.of x) n g) else none
  | _, _ => none
 | .store t p x => (szT P t).map λn => .store (Opd.of p) (Opd.of x) n
 | .alloc t => (b40 P t).map λ(_, z) => .alloc (z.cells.toList.map Value.toV) t
 | .box t x => (szT P t).map λn => .box (Opd.of x) n t
 | .buildSlice t len parts => match P.underlying t with
  | some (.slice e) => match b40 P e with
   | some (it, z) => if len * it.size <= 16777216 then
     some (.bslice ((zc z.cells (len * it.size)).toList.map Value.toV) len it.size (parts.toList.map λ(i, x) => (i * it.size, it.size, Opd.of x)) e) else none
   | none => none
  | _ => none
 | .makeSlice t n c => match P.underlying t with
  | some (.slice e) => match b40 P e with
   | some (it, z) => if 0 < it.bytes /\ 0 < it.size then some (.mksl (z.cells.toList.map Value.toV) it.size it.bytes (Opd.of n) (Opd.of c) e) else none
   | none => none
  | _ => none
 | .call c => match c.callee with
  | .builtin b => match c.args.toList, c.argTypes.toList with
   | [x, y], [t, t2] => match P.underlying t, P.underlying t2 with
    | some (.slice e), some (.slice _) => match b40 P e with
     | some (it, _) => if b = .append then (if 0 < it.bytes then some (.app (Opd.of x) (Opd.of y) it.size it.bytes) else none)
      else if b = .copy then some (.cpy (Opd.of x) (Opd.of y) it.size) else none
     | none => none
    | _, _ => none
   | _, _ => none
  | .value f => match pure with
   | 0 => some (.callA (Opd.of f) (c.args.toList.map Opd.of))
   | 1 => some (.callC (Opd.of f) (c.args.toList.map Opd.of))
   | k + 2 => some (.callS k (Opd.of f) (c.args.toList.map Opd.of))
  | _ => none
 | _ => none
def c08 (P : Program) (pure : Nat) (op : Op) : Option Inst :=
 match a0X P op with
 | some hi => some (.h hi)
 | none => c81 P pure op
end Go.Ab
namespace Go.Ab
open Go
section
variable {P : Program} {St : Nat -> Prop} {m : Map} {L : Heap} {w w' : World} {o : Oper} {a : Act} {s : S} {K : V -> Heap -> Prop} {next : Act -> World -> Prop} {Q : Exit -> Act -> World -> Prop}
theorem Snap.rel (ho : Objs St m L w) {v d : V} (h : Snap L v d) : ∀ {c : Value}, VRel St m L w v c -> VRel (λb => b < w.heap.size) (λ_ _ => none) [] w d c := by
 have base : ∀ {x : D} {c : Value}, DRel St w x c -> DRel (λb => b < w.heap.size) w x c := λh => h.mono ho.st (λ_ _ => rfl)
 induction h with
 | d x => intro c hc; cases hc with | d h => exact .d (base h)
 | nil => intro c hc; rw [hc.nil']; exact .d (.bor0 _ _ _)
 | any => intro c _; exact .any c
 | sl hg hver hl hlen hs ih =>
  rename_i X r off n esz ver cells get
  intro c hc
  obtain ⟨cells', a, cap, hL', hv', hc, hncap, ha, hf⟩ := hc.sl'
  rw [hg] at hL'; cases hL'
  subst hc
  by_cases h0 : 0 < n
  ·rcases hf hver with hz | ⟨b, C, hm, hC, rfl⟩
   ·omega
   ·obtain ⟨p1, p2, arr, el, p3, p4, p5, p6⟩ := ho.obj X r cells b C hg hm
    have idx : ∀ i j, i < n -> j < esz -> off + i * esz + j < cells.length := by
     intro i j hi hj
     have : i * esz + esz <= n * esz := by rw [<- Nat.succ_mul]; exact Nat.mul_le_mul_right _ hi
     omega
    refine .d (.bor (λi j => arr.getD (off + i * esz + j) undef) p1 hncap hlen (λi j hi hj => ?_) λi j hi hj => ?_)
    ·exact y0 p3 (by have := idx i j hi hj; omega)
    ·have := ih i j hi hj (p6 _ (idx i j hi hj))
     cases this with | d h => exact h
  ·obtain rfl : n = 0 := by omega
   exact .d (.bor0 _ _ _)
 | ptr hg hver hl hne hs ih =>
  rename_i X r off ver cells ds
  intro c hc
  obtain ⟨cells', ad, hL', hv', hc, hf⟩ := hc.ptr'
  rw [hg] at hL'; cases hL'
  subst hc
  obtain ⟨b, C, hm, rfl⟩ := hf hver
  obtain ⟨p1, p2, arr, el, p3, p4, p5, p6⟩ := ho.obj X r cells b C hg hm
  refine .d (.bptr (λj => arr.getD (off + j) undef) p1 (λj hj => y0 p3 (by omega)) λj hj => ?_)
  have := ih j hj (p6 _ (by omega))
  cases this with | d h => exact h
 | agg hl hs ih =>
  intro c hc
  obtain ⟨cs, rfl, hsz, hr⟩ := hc.agg'
  exact .agg (by omega) λj hj => ih j (by omega) (hr j (by omega))
 | tup hl hs ih =>
  intro c hc
  obtain ⟨cs, rfl, hsz, hr⟩ := hc.tup'
  exact .tup (by omega) λj hj => ih j (by omega) (hr j (by omega))
 | fn h1 h2 hf hc ihf ihc =>
  intro c hc'
  obtain ⟨fs, cs, rfl, e1, e2, r1, r2⟩ := hc'.fn'
  refine .d (.fn (by omega) (by omega) (λj hj => ?_) λj hj => ?_)
  ·have := ihf j (by omega) (r1 j (by omega)); cases this with | d h => exact h
  ·have := ihc j (by omega) (r2 j (by omega)); cases this with | d h => exact h
theorem Scalar.rel {v : V} (h : Scalar v) : ∀ {St St' : Nat -> Prop} {m m' : Map} {L L' : Heap} {w w' : World} {c : Value}, VRel St m L w v c -> VRel St' m' L' w' v c := by
 induction h with
 | int k n => intro _ _ _ _ _ _ _ _ c hc; rw [hc.int]; exact .d (.int _ _)
 | bool b => intro _ _ _ _ _ _ _ _ c hc; rw [hc.bool]; exact .d (.bool _)
 | flt x => intro _ _ _ _ _ _ _ _ c hc; obtain ⟨b, hb, hcb, rfl⟩ := hc.flt; exact .d (.flt hb hcb)
 | any => intro _ _ _ _ _ _ _ _ c _; exact .any c
 | agg h ih => intro _ _ _ _ _ _ _ _ c hc; obtain ⟨cs, rfl, hsz, hr⟩ := hc.agg'; exact .agg hsz λj hj => ih j hj (hr j hj)
 | tup h ih => intro _ _ _ _ _ _ _ _ c hc; obtain ⟨cs, rfl, hsz, hr⟩ := hc.tup'; exact .tup hsz λj hj => ih j hj (hr j hj)
theorem VRel.bare {v : V} {c : Value} (h : VRel St (λ_ _ => none) [] w v c) : ∀ (m' : Map) (L' : Heap), VRel St m' L' w v c := by
 intro m' L'
 induction h with
 | d h => exact .d h
 | any c => exact .any c
 | nil => exact .nil
 | ptr hL _ _ _ _ => simp [Heap.get, Heap.fam] at hL
 | sl hL _ _ _ _ _ _ _ => simp [Heap.get, Heap.fam] at hL
 | agg h1 h ih => exact .agg h1 ih
 | fn h1 h2 hf hc ihf ihc => exact .fn h1 h2 ihf ihc
 | tup h1 h ih => exact .tup h1 ih
theorem Objs.none (St : Nat -> Prop) (hS : ∀ b, St b -> b < w.heap.size) : Objs St (λ_ _ => Option.none) [] w :=
 ⟨hS, λX r c h => by simp [Heap.get, Heap.fam] at h, λX r c b C h => by simp [Heap.get, Heap.fam] at h, λX r Y q b C C' h => by simp [Heap.get, Heap.fam] at h⟩
inductive Bare : V -> Prop
 | d (x) : Bare (.d x)
 | any : Bare .any
 | nil : Bare .nil
 | fn {f : FuncId} {xs ys : List V} (h1 : ∀ j, j < xs.length -> Bare (xs.getD j .any)) (h2 : ∀ j, j < ys.length -> Bare (ys.getD j .any)) : Bare (.fn f xs ys)
 | agg {xs : List V} (h : ∀ j, j < xs.length -> Bare (xs.getD j .any)) : Bare (.agg xs)
 | tup {xs : List V} (h : ∀ j, j < xs.length -> Bare (xs.getD j .any)) : Bare (.tup xs)
theorem Bare.strip {v : V} (h : Bare v) : ∀ {m : Map} {L : Heap} {c : Value}, VRel St m L w v c -> VRel St (λ_ _ => Option.none) [] w v c := by
 induction h with
 | d x => intro m L c hc; cases hc with | d h => exact .d h
 | any => intro m L c _; exact .any c
 | nil => intro m L c hc; rw [hc.nil']; exact .nil
 | fn h1 h2 ih1 ih2 => intro m L c hc; obtain ⟨fs, cs, rfl, e1, e2, r1, r2⟩ := hc.fn'; exact .fn e1 e2 (λj hj => ih1 j hj (r1 j hj)) λj hj => ih2 j hj (r2 j hj)
 | agg h ih => intro m L c hc; obtain ⟨cs, rfl, hsz, hr⟩ := hc.agg'; exact .agg hsz λj hj => ih j hj (hr j hj)
 | tup h ih => intro m L c hc; obtain ⟨cs, rfl, hsz, hr⟩ := hc.tup'; exact .tup hsz λj hj => ih j hj (hr j hj)
theorem a3z {f : FuncId} {vs us : List V} {r : V} (hlen : us.length = vs.length) (hr : (us = vs /\ ∀ j, j < vs.length -> Bare (vs.getD j .any)) \/ (∀ j, j < us.length -> Snap L (vs.getD j .any) (us.getD j .any)) /\ Scalar r) (hc : Con P f us r) : AC P f vs L L r := by
 refine ⟨hc.1, λSt m w cargs ho hsz hargs => ?_⟩
 rcases hr with ⟨rfl, hbare⟩ | ⟨hsn, hsc⟩
 ·refine (hc.2 St (λ_ _ => Option.none) w cargs (Objs.none St ho.st) hsz λj hj => (hbare j hj).strip (hargs j hj)).mono ?_
  rintro e w' ⟨v, St', m', rfl, ho', hv, hfr, hext, hst, hnm⟩
  have hfr' : ∀ b, b < w.heap.size -> w'.heap[b]? = w.heap[b]? := λb hb => hfr.block b hb λ⟨X, r, C, h, _⟩ => by simp [Heap.get, Heap.fam] at h
  have hx : Ext St St' m m L L w w' := ⟨hext.st, λb hb => hfr' b (ho.st b hb), λX r c h => ⟨c, h, d2t _, λ_ => rfl⟩⟩
  have hv' : VRel St' m L w' r v := (hv.mono (L' := []) (m' := λ_ _ => Option.none) ⟨λ_ h => h, λ_ _ => rfl, λX r c h => ⟨c, h, d2t _, λe => ?_⟩⟩).bare m L
  ·refine ⟨v, St', m, rfl, ⟨ho'.st, ho.nil, λX r c b C h1 h2 => ?_, ho.inj⟩, hv', ⟨hfr.os, hfr.tape, hfr.output, hfr.size, λb hb _ => hfr' b hb⟩, hx, hst, .refl _ _ _⟩
   obtain ⟨p1, p2, arr, el, p3, p4, p5, p6⟩ := ho.obj X r c b C h1 h2
   refine ⟨Nat.lt_of_lt_of_le p1 hfr.size, λhs => ?_, arr, el, by rw [hfr' b p1]; exact p3, p4, p5, λj hj => (p6 j hj).mono hx⟩
   rcases hst b hs with h | h
   ·exact p2 h
   ·omega
  ·simp [Heap.get, Heap.fam] at h
 ·refine (hc.2 (λb => b < w.heap.size) (λ_ _ => Option.none) w cargs (Objs.none _ λ_ h => h) (by omega) λj hj => Snap.rel ho (hsn j hj) (hargs j (by omega))).mono ?_
  rintro e w' ⟨v, St', m', rfl, ho', hv, hfr, hext, hst, hnm⟩
  have hfr' : ∀ b, b < w.heap.size -> w'.heap[b]? = w.heap[b]? := λb hb => hfr.block b hb λ⟨X, r, C, h, _⟩ => by simp [Heap.get, Heap.fam] at h
  have hx : Ext St St m m L L w w' := ⟨λ_ h => h, λb hb => hfr' b (ho.st b hb), λX r c h => ⟨c, h, d2t _, λ_ => rfl⟩⟩
  refine ⟨v, St, m, rfl, ⟨λb hb => Nat.lt_of_lt_of_le (ho.st b hb) hfr.size, ho.nil, λX r c b C h1 h2 => ?_, ho.inj⟩, hsc.rel hv, ⟨hfr.os, hfr.tape, hfr.output, hfr.size, λb hb _ => hfr' b hb⟩, hx, λ_ h => .inl h, .refl _ _ _⟩
  obtain ⟨p1, p2, arr, el, p3, p4, p5, p6⟩ := ho.obj X r c b C h1 h2
  exact ⟨Nat.lt_of_lt_of_le p1 hfr.size, p2, arr, el, by rw [hfr' b p1]; exact p3, p4, p5, λj hj => (p6 j hj).mono hx⟩
theorem a5Z {v : V} (h : v.isD = true) : Bare v := by cases v <;> simp [V.isD] at h <;> constructor
theorem a1J {p : V -> Bool} {xs : List V} (h : xs.all p = true) (j : Nat) (hj : j < xs.length) : p (xs.getD j .any) = true := by
 rw [d2d, d2f hj]
 exact List.all_eq_true.1 h _ (List.getElem_mem hj)
theorem c3J {v : V} (h : v.isD1 = true) : Bare v := by
 cases v <;> first | exact a5Z h | exact .agg λj hj => a5Z (a1J h j hj)
theorem W0 {v : V} (h : v.bareB = true) : Bare v := by
 cases v <;> simp only [V.bareB, Bool.and_eq_true, Bool.false_eq_true] at h
 ·exact .d _
 ·exact .agg λj hj => a5Z (a1J h j hj)
 ·exact .fn (λj hj => a5Z (a1J h.1 j hj)) λj hj => a5Z (a1J h.2 j hj)
 ·exact .tup λj hj => c3J (a1J h j hj)
 ·exact .nil
 ·exact .any
theorem a5w {f : FuncId} {vs : List V} {r : V} (h : d19 P L f vs r) : AC P f vs L L r := by
 rcases h with ⟨hb, hc⟩ | ⟨us, hl, hs, hr, hc⟩
 ·exact a3z rfl (.inl ⟨rfl, λj hj => W0 (a1J hb j hj)⟩) hc
 ·exact a3z hl (.inr ⟨hs, hr⟩) hc
theorem b7r (f : Nat -> Nat -> Nat × Nat) : ∀ l : List V, V.renL f l = l.map (V.ren f) := by
 intro l
 induction l with
 | nil => rfl
 | cons v l ih => simp only [V.renL, List.map_cons, ih]
theorem Z6 (f : Nat -> Nat -> Nat × Nat) (l : List V) (j : Nat) : (l.map (V.ren f)).getD j .any = V.ren f (l.getD j .any) := by
 simp only [d2d, List.getElem?_map]
 cases l[j]? <;> simp [V.ren]
theorem VRel.ren {St : Nat -> Prop} {m m2 : Map} {L L2 : Heap} {w : World} (f : Nat -> Nat -> Nat × Nat) (hf : ∀ X r cells, L.get X r = some cells -> L2.get (f X r).1 (f X r).2 = some (cells.map (V.ren f)) /\ m2 (f X r).1 (f X r).2 = m X r) {v : V} {c : Value}
  (h : VRel St m L w v c) : VRel St m2 L2 w (v.ren f) c := by
 induction h with
 | d h => exact .d h
 | any c => exact .any c
 | nil => exact .nil
 | ptr hL hv ad hc h =>
  obtain ⟨h1, h2⟩ := hf _ _ _ hL
  exact .ptr h1 (by simpa using hv) ad hc λe => by rw [h2]; exact h (by simpa using e)
 | sl hL hv a cap hc hn ha h =>
  obtain ⟨h1, h2⟩ := hf _ _ _ hL
  exact .sl h1 (by simpa using hv) a cap hc hn ha λe => by rw [h2]; exact h (by simpa using e)
 | agg h1 h ih => simp only [V.ren, b7r]; exact .agg (by simpa using h1) λj hj => by rw [Z6]; exact ih j (by simpa using hj)
 | fn h1 h2 hf' hc ihf ihc => simp only [V.ren, b7r]; exact .fn (by simpa using h1) (by simpa using h2) (λj hj => by rw [Z6]; exact ihf j (by simpa using hj)) λj hj => by rw [Z6]; exact ihc j (by simpa using hj)
 | tup h1 h ih => simp only [V.ren, b7r]; exact .tup (by simpa using h1) λj hj => by rw [Z6]; exact ih j (by simpa using hj)
theorem PureV.rel {St' : Nat -> Prop} {v : V} (h : PureV v) : ∀ {c : Value}, VRel St m L w v c -> VRel St' m L w' v c := by
 induction h with
 | int k n => intro c hc; cases hc with | d h => cases h; exact .d (.int k n)
 | bool b => intro c hc; cases hc with | d h => cases h; exact .d (.bool b)
 | flt x => intro c hc; cases hc with | d h => cases h with | flt hb h => exact .d (.flt hb h)
 | nil => intro c hc; rw [hc.nil']; exact .nil
 | any => intro c _; exact .any c
 | ptr X r off ver => intro c hc; cases hc with | ptr hL hv ad hc h => exact .ptr hL hv ad hc h
 | sl X r off n esz ver => intro c hc; cases hc with | sl hL hv a cap hc hn ha h => exact .sl hL hv a cap hc hn ha h
 | agg h ih => intro c hc; obtain ⟨cs, rfl, hsz, hr⟩ := hc.agg'; exact .agg hsz λj hj => ih j hj (hr j hj)
 | tup h ih => intro c hc; obtain ⟨cs, rfl, hsz, hr⟩ := hc.tup'; exact .tup hsz λj hj => ih j hj (hr j hj)
theorem b1q {nm : Nat} {f : FuncId} {vs us : List V} {r : V} {fam : List (List V)} (hc : AC P f us [] [(0, fam)] r)
  (hr : (us = vs /\ ∀ j, j < vs.length -> Bare (vs.getD j .any)) \/ (us.length = vs.length /\ (∀ j, j < us.length -> Snap L (vs.getD j .any) (us.getD j .any)) /\ PureV r /\ c6N fam)) (hnm : L.fam nm = none) :
  AC P f vs L (L.ins nm (Y8 nm fam)) (r.ren (toF nm)) := by
 have g0 : ∀ X q, Heap.get [(0, fam)] X q = if X = 0 then fam[q]? else none := by
  intro X q
  simp only [Heap.get, Heap.fam, List.lookup_cons, List.lookup_nil]
  by_cases e : X = 0
  ·subst e; simp
  ·have : (X == 0) = false := by simpa using e
   simp [this, e]
 have hLn : ∀ q, L.get nm q = none := λq => x4 hnm
 have hg : ∀ X q, Heap.get (L.ins nm (Y8 nm fam)) X q = if X = nm then (fam[q]?).map (·.map (V.ren (toF nm))) else L.get X q := by
  intro X q
  rw [b4g hnm]
  split
  ·simp [Y8]
  ·rfl
 refine ⟨hc.1, λSt m w cargs ho hsz hargs => ?_⟩
 have core : ∀ (w' : World) (St'' : Nat -> Prop) (m' : Map) (v : Value), (∀ b, b < w.heap.size -> w'.heap[b]? = w.heap[b]?) -> w.heap.size <= w'.heap.size -> w'.os = w.os -> w'.tape = w.tape -> w'.output = w.output ->
   (∀ b, St b -> St'' b) -> (∀ b, St'' b -> St b \/ w.heap.size <= b) -> Objs St'' m' [(0, fam)] w' -> (∀ X q b C, Heap.get [(0, fam)] X q ≠ none -> m' X q = some (b, C) -> w.heap.size <= b) -> VRel St'' m' [(0, fam)] w' r v ->
   ∃ v' St' m'', Ending.returned v = .returned v' /\ Objs St' m'' (L.ins nm (Y8 nm fam)) w' /\ VRel St' m'' (L.ins nm (Y8 nm fam)) w' (r.ren (toF nm)) v' /\ Frame' (a8V m L) w w' /\
    Ext St St' m m'' L (L.ins nm (Y8 nm fam)) w w' /\ (∀ b, St' b -> St b \/ w.heap.size <= b) /\ Src m L m'' (L.ins nm (Y8 nm fam)) w := by
  intro w' St'' m' v hkeep hsize hos htape hout hst1 hst2 ho' hnew hv
  let m'' : Map := λX q => if X = nm then m' 0 q else m X q
  have hren : ∀ X q cells, Heap.get [(0, fam)] X q = some cells -> Heap.get (L.ins nm (Y8 nm fam)) (toF nm X q).1 (toF nm X q).2 = some (cells.map (V.ren (toF nm))) /\ m'' (toF nm X q).1 (toF nm X q).2 = m' X q := by
   intro X q cells h
   rw [g0] at h
   split at h
   ·rename_i e; subst e
    refine ⟨?_, by simp [m'', toF]⟩
    rw [hg]; simp [toF, h]
   ·cases h
  have hx : Ext St St'' m m'' L (L.ins nm (Y8 nm fam)) w w' := by
   refine ⟨hst1, λb hb => hkeep b (ho.st b hb), λX q cells hX => ⟨cells, ?_, d2t _, λ_ => ?_⟩⟩
   ·have : X ≠ nm := λe => by rw [e, hLn] at hX; cases hX
    rw [hg, if_neg this]; exact hX
   ·have : X ≠ nm := λe => by rw [e, hLn] at hX; cases hX
    simp only [m'']; rw [if_neg this]
  refine ⟨v, St'', m'', rfl, ⟨ho'.st, λX q cells hX hm => ?_, λX q cells b C hX hm => ?_, λX q Y p b C C' hX hY hm hm' => ?_⟩, hv.ren (toF nm) hren, ⟨hos, htape, hout, hsize, λb hb _ => hkeep b hb⟩, hx, hst2, λX q b C hX hm => ?_⟩
  ·rw [hg] at hX
   simp only [m''] at hm
   split at hX
   ·rename_i e
    rw [if_pos e] at hm
    obtain ⟨c0, h1, h2⟩ := Option.map_eq_some_iff.1 hX
    have := ho'.nil 0 q c0 (by rw [g0]; simpa using h1) hm
    rw [this] at h2; simpa using h2.symm
   ·rename_i e; rw [if_neg e] at hm; exact ho.nil _ _ _ hX hm
  ·rw [hg] at hX
   simp only [m''] at hm
   split at hX
   ·rename_i e
    rw [if_pos e] at hm
    obtain ⟨c0, h1, h2⟩ := Option.map_eq_some_iff.1 hX
    obtain ⟨p1, p2, arr, el, p3, p4, p5, p6⟩ := ho'.obj 0 q c0 b C (by rw [g0]; simpa using h1) hm
    refine ⟨p1, p2, arr, el, p3, p4, by rw [<- h2]; simpa using p5, λj hj => ?_⟩
    rw [<- h2, Z6]
    exact (p6 j (by rw [<- h2] at hj; simpa using hj)).ren (toF nm) hren
   ·rename_i e
    rw [if_neg e] at hm
    obtain ⟨p1, p2, arr, el, p3, p4, p5, p6⟩ := ho.obj _ _ _ b C hX hm
    refine ⟨by omega, λhs => ?_, arr, el, by rw [hkeep b p1]; exact p3, p4, p5, λj hj => (p6 j hj).mono hx⟩
    rcases hst2 b hs with h | h
    ·exact p2 h
    ·omega
  ·rw [hg] at hX hY
   simp only [m''] at hm hm'
   have in0 : ∀ q, (fam[q]?).map (λc => c.map (V.ren (toF nm))) ≠ none -> Heap.get [(0, fam)] 0 q ≠ none := by
    intro q h e
    rw [g0, if_pos rfl] at e
    rw [e] at h; exact h rfl
   split at hX <;> rename_i e1 <;> split at hY <;> rename_i e2
   ·rw [if_pos e1] at hm; rw [if_pos e2] at hm'
    obtain ⟨k1, k2⟩ := ho'.inj 0 q 0 p b C C' (in0 q hX) (in0 p hY) hm hm'
    exact ⟨by rw [e1, e2], k2⟩
   ·rw [if_pos e1] at hm; rw [if_neg e2] at hm'
    obtain ⟨c, hc⟩ := Option.ne_none_iff_exists'.1 hY
    have := (ho.obj _ _ _ b C' hc hm').1
    have := hnew _ _ b C (in0 q hX) hm
    omega
   ·rw [if_neg e1] at hm; rw [if_pos e2] at hm'
    obtain ⟨c, hc⟩ := Option.ne_none_iff_exists'.1 hX
    have := (ho.obj _ _ _ b C hc hm).1
    have := hnew _ _ b C' (in0 p hY) hm'
    omega
   ·rw [if_neg e1] at hm; rw [if_neg e2] at hm'
    exact ho.inj _ _ _ _ b C C' hX hY hm hm'
  ·rw [hg] at hX
   simp only [m''] at hm
   split at hX <;> rename_i e1
   ·rw [if_pos e1] at hm
    refine .inr (hnew 0 q b C (λe => ?_) hm)
    rw [g0, if_pos rfl] at e
    rw [e] at hX; exact hX rfl
   ·rw [if_neg e1] at hm
    exact .inl ⟨hX, hm⟩
 rcases hr with ⟨rfl, hbare⟩ | ⟨hlen, hsn, hpr, hpc⟩
 ·refine (hc.2 St (λ_ _ => Option.none) w cargs (Objs.none St ho.st) hsz λj hj => (hbare j hj).strip (hargs j hj)).mono ?_
  rintro e w' ⟨v, St', m', rfl, ho', hv, hfr, hext, hst, hsrc⟩
  have hkeep : ∀ b, b < w.heap.size -> w'.heap[b]? = w.heap[b]? := λb hb => hfr.block b hb λ⟨X, r, C, h, _⟩ => by simp [Heap.get, Heap.fam] at h
  exact core w' St' m' v hkeep hfr.size hfr.os hfr.tape hfr.output hext.st hst ho' (λX q b C h1 h2 => by
   rcases hsrc X q b C h1 h2 with ⟨h3, _⟩ | h3
   ·simp [Heap.get, Heap.fam] at h3
   ·exact h3) hv
 ·refine (hc.2 (λb => b < w.heap.size) (λ_ _ => Option.none) w cargs (Objs.none _ λ_ h => h) (by omega) λj hj => Snap.rel ho (hsn j hj) (hargs j (by omega))).mono ?_
  rintro e w' ⟨v, St', m', rfl, ho', hv, hfr, hext, hst, hsrc⟩
  have hkeep : ∀ b, b < w.heap.size -> w'.heap[b]? = w.heap[b]? := λb hb => hfr.block b hb λ⟨X, r, C, h, _⟩ => by simp [Heap.get, Heap.fam] at h
  have hnew : ∀ X q b C, Heap.get [(0, fam)] X q ≠ none -> m' X q = some (b, C) -> w.heap.size <= b := λX q b C h1 h2 => by
   rcases hsrc X q b C h1 h2 with ⟨h3, _⟩ | h3
   ·simp [Heap.get, Heap.fam] at h3
   ·exact h3
  refine core w' St m' v hkeep hfr.size hfr.os hfr.tape hfr.output (λ_ h => h) (λ_ h => .inl h) ⟨λb hb => Nat.lt_of_lt_of_le (ho.st b hb) hfr.size, ho'.nil, λX q cells b C h1 h2 => ?_, ho'.inj⟩ hnew (hpr.rel hv)
  obtain ⟨p1, p2, arr, el, p3, p4, p5, p6⟩ := ho'.obj X q cells b C h1 h2
  have hX : fam[q]? = some cells := by
   rw [g0] at h1
   split at h1
   ·exact h1
   ·cases h1
  exact ⟨p1, λhs => by have := hnew X q b C (by rw [h1]; simp) h2; have := ho.st b hs; omega, arr, el, p3, p4, p5, λj hj => (hpc q cells hX j hj).rel (p6 j hj)⟩
theorem c62 {nm : Nat} {f : FuncId} {vs : List V} {r : V} {fam : List (List V)} (hc : AC P f vs [] [(0, fam)] r) (hbare : ∀ j, j < vs.length -> Bare (vs.getD j .any)) (hnm : L.fam nm = none) :
  AC P f vs L (L.ins nm (Y8 nm fam)) (r.ren (toF nm)) := b1q hc (.inl ⟨rfl, hbare⟩) hnm
theorem Snap.mono {L M : Heap} {v d : V} (h : Snap L v d) (hm : ∀ X r c, L.get X r = some c -> M.get X r = some c) : Snap M v d := by
 induction h with
 | d x => exact .d x
 | nil => exact .nil
 | any => exact .any
 | sl h hv hl hg hs ih => exact .sl (hm _ _ _ h) hv hl hg ih
 | ptr h hv hl hne hs ih => exact .ptr (hm _ _ _ h) hv hl hne ih
 | agg h hs ih => exact .agg h ih
 | tup h hs ih => exact .tup h ih
 | fn h1 h2 hf hc ih1 ih2 => exact .fn h1 h2 ih1 ih2
theorem b7A (b : Nat) : ∀ (L : Heap) (X : Nat), (L.old b).fam X = if X < b then L.fam X else none := by
 intro L
 induction L with
 | nil => intro X; simp [Heap.old, Heap.fam]
 | cons p L ih =>
  obtain ⟨Y, g⟩ := p
  intro X
  have ih := ih X
  simp only [Heap.old] at ih ⊢
  by_cases h : Y < b
  ·rw [List.filter_cons_of_pos (by simpa using h)]
   simp only [Heap.fam, List.lookup_cons] at ih ⊢
   by_cases e : X = Y
   ·subst e; simp [h]
   ·have : (X == Y) = false := by simpa using e
    rw [this]; exact ih
  ·rw [List.filter_cons_of_neg (by simpa using h)]
   simp only [Heap.fam, List.lookup_cons] at ih ⊢
   by_cases e : X = Y
   ·subst e; rw [ih, if_neg h, if_neg h]
   ·have : (X == Y) = false := by simpa using e
    rw [this]; exact ih
theorem c2Q {b : Nat} {L : Heap} {X r : Nat} {c : List V} (h : (L.old b).get X r = some c) : L.get X r = some c := by
 unfold Heap.get at h ⊢
 rw [b7A] at h
 split at h
 ·exact h
 ·cases h
theorem b8t {nm b : Nat} {f : FuncId} {vs us : List V} {r : V} (h : c1s (L.old b) vs us (Scalar r)) (hc : Con P f us r) : AC P f vs L L r := by
 rcases h with ⟨rfl, hb⟩ | ⟨hl, hs, hr⟩
 ·exact a3z rfl (.inl ⟨rfl, λj hj => W0 (a1J hb j hj)⟩) hc
 ·exact a3z hl (.inr ⟨λj hj => (hs j hj).mono λX r c h => c2Q h, hr⟩) hc
theorem b6X {nm b : Nat} {f : FuncId} {vs us : List V} {r : V} {fam : List (List V)} (h : c1s (L.old b) vs us (PureV r /\ c6N fam)) (hc : AC P f us [] [(0, fam)] r) (hnm : L.fam nm = none) :
  AC P f vs L (L.ins nm (Y8 nm fam)) (r.ren (toF nm)) := by
 rcases h with ⟨rfl, hb⟩ | ⟨hl, hs, hr⟩
 ·exact b1q hc (.inl ⟨rfl, λj hj => W0 (a1J hb j hj)⟩) hnm
 ·exact b1q hc (.inr ⟨hl, λj hj => (hs j hj).mono λX r c h => c2Q h, hr⟩) hnm
theorem a2H (x : Operand) (args : Array Operand) (ats : Array TypeId) (g : FuncId) (first cap : List V) (L' : Heap) (r : V) (hs : SimS St m s a w)
  (hop : o.op = .call { callee := .value x, args := args, argTypes := ats }) (hc : callee (s.ev (Opd.of x)) = some (g, first, cap))
  (hAC : AC P g (first ++ (args.toList.map Opd.of).map s.ev ++ cap) s.L L' r) (hn : ∀ c w', Post St m s.L w r L' c w' -> next (a.put o.dst c) w') : o.wp P a w next Q := by
 have hx := n9 hs x
 have hargs := b7H hs args
 obtain ⟨fs, cs, hev, hf, hcp⟩ : ∃ fs cs : Array Value, a.eval x = .func (.func g) fs cs /\ LRel St m s.L w first fs /\ LRel St m s.L w cap cs := by
  generalize s.ev (Opd.of x) = v at *
  cases v with
  | fn f a1 a2 => simp [callee] at hc; obtain ⟨rfl, rfl, rfl⟩ := hc; obtain ⟨fs, cs, h, e1, e2, r1, r2⟩ := hx.fn'; exact ⟨fs, cs, h, ⟨e1, r1⟩, ⟨e2, r2⟩⟩
  | d y =>
   cases y <;> simp [callee] at hc
   obtain ⟨rfl, rfl, rfl⟩ := hc
   obtain ⟨fs, cs, h, e1, e2, r1, r2⟩ := hx.dfn
   refine ⟨fs, cs, h, ⟨by simpa using e1, λj hj => ?_⟩, ⟨by simpa using e2, λj hj => ?_⟩⟩
   ·have hj' := hj; simp only [List.length_map] at hj'
    have := r1 j hj'
    simp only [d2d, List.getElem?_map, d2f hj', Option.map_some, Option.getD_some] at this ⊢
    exact .d this
   ·have hj' := hj; simp only [List.length_map] at hj'
    have := r2 j hj'
    simp only [d2d, List.getElem?_map, d2f hj', Option.map_some, Option.getD_some] at this ⊢
    exact .d this
  | _ => simp [callee] at hc
 obtain ⟨⟨fn, hfn, hbody, hname⟩, hcall⟩ := hAC
 have hall : LRel St m s.L w (first ++ (args.toList.map Opd.of).map s.ev ++ cap) (fs ++ args.map a.eval ++ cs) := by
  have h1 := PRel.append cs hf hargs
  have := PRel.append #[] (St := St) (m := m) (L := s.L) (w := w) (xs := first ++ (args.toList.map Opd.of).map s.ev) (as := fs ++ args.map a.eval) ⟨by simp [hf.1], λj hj => by
   have := (PRel.append #[] hf hargs).2 j hj
   simpa using this⟩ hcp
  exact ⟨by simp [hf.1, hcp.1], λj hj => by simpa using this.2 j hj⟩
 have hrun : (execOp a.eval o).run P w = .ok (.enter g (fs ++ args.map a.eval ++ cs)) w := by
  simp only [execOp, hop]
  have hb' : fn.body ≠ none := by intro h; simp [h] at hbody
  have hname' : ¬ fn.name = "runtime.NumGoroutine" := by simpa using hname
  simp [resolve, hev, Deferred.ofValue, invoke, callFunc, hfn, hb', hname']
 unfold Oper.wp
 rw [hrun, Oper.upon_enter]
 refine (hcall St m w _ hs.objs hall.1 hall.2).mono ?_
 rintro e w' ⟨v, St', m', rfl, h1, h2, h3, h4, h5, h6⟩
 exact hn v w' ⟨St', m', h1, h2, h3, h4, h5, h6⟩
theorem c35 (pure : Nat) (nm : Nat) (i : Inst) (hc : c08 P pure o.op = some i) (hs : SimS St m s a w) (hk : eff P nm i s K)
  (hn : ∀ v L' c w', K v L' -> Post St m s.L w v L' c w' -> next (a.put o.dst c) w') : o.wp P a w next Q := by
 unfold c08 at hc
 split at hc
 ·rename_i hi hh
  cases hc
  obtain ⟨v, c, w', hr, hsame, hkv, hv⟩ := b77 (K := λv => K v s.L) hh hs hk
  unfold Oper.wp; rw [hr, Oper.upon_value]
  exact hn _ _ _ _ hkv (hsame.post hs.objs hv)
 ·have val : (∃ v L' c w', (execOp a.eval o).run P w = .ok (.value c) w' /\ K v L' /\ Post St m s.L w v L' c w') -> o.wp P a w next Q := by
   rintro ⟨v, L', c, w', hr, hkv, hp⟩
   unfold Oper.wp; rw [hr, Oper.upon_value]; exact hn _ _ _ _ hkv hp
  cases hop : o.op <;> simp only [hop, c81, reduceCtorEq] at hc
  case load t x =>
   split at hc
   ·rename_i n g hn' hg
    split at hc
    ·rename_i h1; cases hc; exact val (c0B nm t x n g hn' hg h1 hop hs hk)
    ·cases hc
   ·cases hc
  case store t p x =>
   cases hn' : szT P t with
   | none => simp [hn'] at hc
   | some n =>
    simp only [hn', Option.map_some, Option.some.injEq] at hc; subst hc
    obtain ⟨v, L', w', hr, hkv, hp⟩ := b68 nm t p x n hn' hop hs hk
    unfold Oper.wp; rw [hr, Oper.upon_skip]; exact hn _ _ _ _ hkv hp
  case alloc t =>
   cases hz : b40 P t with
   | none => simp [hz] at hc
   | some p =>
    obtain ⟨it, z⟩ := p
    simp only [hz, Option.map_some, Option.some.injEq] at hc; subst hc
    obtain ⟨h1, h2, h3⟩ := a3A hz
    exact val (b8m nm t it z h1 h2 hop hs hk)
  case box t x =>
   cases hn' : szT P t with
   | none => simp [hn'] at hc
   | some n => simp only [hn', Option.map_some, Option.some.injEq] at hc; subst hc; exact val (c4p nm t x n hop hs hk)
  case buildSlice t len parts =>
   split at hc
   ·rename_i e he
    split at hc
    ·rename_i it z hz
     split at hc
     ·rename_i hlim; cases hc
      obtain ⟨h1, h2, h3⟩ := a3A hz
      exact val (b6u nm t e len parts it z he h1 h2 hlim hop hs hk)
     ·cases hc
    ·cases hc
   ·cases hc
  case makeSlice t n c =>
   split at hc
   ·rename_i e he
    split at hc
    ·rename_i it z hz
     split at hc
     ·rename_i hb; cases hc
      obtain ⟨h1, h2, h3⟩ := a3A hz
      exact val (c0x nm t e n c it z he h1 h2 hb.1 hb.2 hop hs hk)
     ·cases hc
    ·cases hc
   ·cases hc
  case call c =>
   obtain ⟨cl, args, ats⟩ := c
   have la : ∀ l : List Operand, args.toList = l -> args = l.toArray := λl h => by rw [<- h]
   have lt : ∀ l : List TypeId, ats.toList = l -> ats = l.toArray := λl h => by rw [<- h]
   cases cl with
   | invoke r n => cases hc
   | builtin b =>
    simp only at hc
    split at hc
    ·rename_i x y t t2 hx ht
     obtain rfl := la _ hx
     obtain rfl := lt _ ht
     split at hc
     ·rename_i e e2 he he2
      split at hc
      ·rename_i it z hz
       obtain ⟨h1, h2, h3⟩ := a3A hz
       split at hc
       ·rename_i hb; subst hb
        split at hc
        ·rename_i hby; cases hc; exact val (c4y nm o.type t t2 e e2 x y it z he he2 h1 h2 hby h3 rfl hop hs hk)
        ·cases hc
       ·split at hc
        ·rename_i hb; subst hb; cases hc; exact val (c4d nm o.type t t2 e x y it he h1 rfl hop hs hk)
        ·cases hc
      ·cases hc
     ·cases hc
    ·cases hc
   | value f =>
    simp only at hc
    split at hc
    ·cases hc
     simp only [eff, effC] at hk
     split at hk
     ·rename_i g first cap hcl
      obtain ⟨L', r, hcc, hk⟩ := hk
      exact a2H f args ats g first cap L' r hs hop hcl hcc λc w' hp => hn _ _ _ _ hk hp
     ·exact hk.elim
    ·cases hc
     simp only [eff, effC] at hk
     split at hk
     ·rename_i g first cap hcl
      obtain ⟨hbare, ⟨r, hcc, hk⟩ | ⟨fam, r, hac, hf, hk⟩⟩ := hk
      ·exact a2H f args ats g first cap s.L r hs hop hcl (a5w (.inl ⟨hbare, hcc⟩)) λc w' hp => hn _ _ _ _ hk hp
      ·exact a2H f args ats g first cap _ _ hs hop hcl (c62 hac (λj hj => W0 (a1J hbare j hj)) hf) λc w' hp => hn _ _ _ _ hk hp
     ·exact hk.elim
    ·cases hc
     simp only [eff, effC] at hk
     split at hk
     ·rename_i g first cap hcl
      rcases hk with ⟨us, r, hsa, hcc, hk⟩ | ⟨us, fam, r, hsa, hac, hf, hk⟩
      ·exact a2H f args ats g first cap s.L r hs hop hcl (b8t (nm := nm) hsa hcc) λc w' hp => hn _ _ _ _ hk hp
      ·exact a2H f args ats g first cap _ _ hs hop hcl (b6X hsa hac hf) λc w' hp => hn _ _ _ _ hk hp
     ·exact hk.elim
end
end Go.Ab
namespace Go.Ab
open Go
def HI.opds : HI -> List Opd
 | .mov x | .nilck x | .nilq _ x | .un _ x | .icv _ x | .i2f x | .f2f x | .padd x _ | .fld x _ _ _ | .ext x _ | .len x | .bits x | .frombits x => [x]
 | .pick c a b => [c, a, b]
 | .mm3 c a b => [c, a, b]
 | .build _ ps => ps.map (·.2.2)
 | .ibin _ x y | .fbin _ x y | .fcmp _ x y | .bcmp _ x y | .acmp _ x y _ | .idx x y _ | .idxa x y _ _ | .idxv x y _ _ _ | .mm _ x y => [x, y]
 | .mkfn _ f c => f ++ c
 | .slc x lo hi mx _ => x :: (lo.toList ++ hi.toList ++ mx.toList)
def Inst.opds : Inst -> List Opd
 | .h i => i.opds
 | .load x _ _ => [x]
 | .callC f args => f :: args
 | .callS _ f args => f :: args
 | .alloc _ _ => []
 | .box x _ _ => [x]
 | .bslice _ _ _ ps _ => ps.map (·.2.2)
 | .mksl _ _ _ n c _ => [n, c]
 | .store p x _ => [p, x]
 | .app s x _ _ => [s, x]
 | .cpy d s _ => [d, s]
 | .callA f args => f :: args
section
variable {P : Program} {nm : Nat} {ev ev' : Opd -> V} {L : Heap}
theorem b55 (i : HI) (K : V -> Prop) : hv i ev K ↔ ∃ v, hv i ev (· = v) /\ K v := by
 cases i <;> simp only [hv]
 case pick c x y =>
  split
  ·rename_i t _
   cases t <;> simp
  ·simp
 case build => split <;> simp
 case nilck => split <;> simp
 case nilq =>
  split
  ·exact ⟨λk => ⟨_, rfl, k⟩, λ⟨v, e, k⟩ => e ▸ k⟩
  ·exact ⟨λ⟨h, k⟩ => ⟨_, ⟨h, rfl⟩, k⟩, λ⟨v, ⟨h, e⟩, k⟩ => ⟨h, e ▸ k⟩⟩
  ·exact ⟨λ⟨h, k⟩ => ⟨_, ⟨h, rfl⟩, k⟩, λ⟨v, ⟨h, e⟩, k⟩ => ⟨h, e ▸ k⟩⟩
  ·exact ⟨λh => h.elim, λ⟨v, h, k⟩ => h.elim⟩
 case ibin op x y =>
  split
  ·cases op <;> simp [and_assoc]
  ·simp
 case fbin => split <;> simp
 case fcmp => split <;> simp
 case bcmp => split <;> simp
 case acmp =>
  split
  ·split <;> simp
  ·simp
 case un => split <;> simp
 case icv => split <;> simp
 case i2f => split <;> simp
 case f2f => split <;> simp
 case slc x lo hi mx esz =>
  split
  ·constructor
   ·rintro ⟨h, hk⟩; exact ⟨_, ⟨h, rfl⟩, hk⟩
   ·rintro ⟨v, ⟨h, rfl⟩, hk⟩; exact ⟨h, hk⟩
  ·constructor
   ·rintro ⟨l, h, h1, h2, h3, h4, h5, h6, hk⟩; exact ⟨_, ⟨l, h, h1, h2, h3, h4, h5, h6, rfl⟩, hk⟩
   ·rintro ⟨v, ⟨l, h, h1, h2, h3, h4, h5, h6, rfl⟩, hk⟩; exact ⟨l, h, h1, h2, h3, h4, h5, h6, hk⟩
  ·constructor
   ·rintro ⟨h0, l, h, mm, h1, h2, h3, h4, h5, h6, hk⟩; exact ⟨_, ⟨h0, l, h, mm, h1, h2, h3, h4, h5, h6, rfl⟩, hk⟩
   ·rintro ⟨v, ⟨h0, l, h, mm, h1, h2, h3, h4, h5, h6, rfl⟩, hk⟩; exact ⟨h0, l, h, mm, h1, h2, h3, h4, h5, h6, hk⟩
  ·simp
 case padd => split <;> simp [and_assoc]
 case fld => split <;> simp [and_assoc]
 case idx => split <;> simp [and_assoc]
 case idxa => split <;> simp [and_assoc]
 case idxv => split <;> simp [and_assoc]
 case ext => split <;> simp [and_assoc]
 case len => split <;> simp
 case mm => split <;> simp
 case mm3 => split <;> simp
 case bits => split <;> simp [and_assoc]
 case frombits => split <;> simp [and_assoc]
 all_goals simp
theorem b4q (i : Inst) (K : V -> Heap -> Prop) : effC P nm i ev L K ↔ ∃ v L', effC P nm i ev L (λu M => u = v /\ M = L') /\ K v L' := by
 have fin : ∀ (A : Prop) (v : V) (L' : Heap), (A /\ K v L') ↔ ∃ v0 L0, (A /\ v = v0 /\ L' = L0) /\ K v0 L0 := by
  intro A v L'
  constructor
  ·rintro ⟨h, hk⟩; exact ⟨v, L', ⟨h, rfl, rfl⟩, hk⟩
  ·rintro ⟨_, _, ⟨h, rfl, rfl⟩, hk⟩; exact ⟨h, hk⟩
 have fin2 : ∀ (B A : Prop) (v : V) (L' : Heap), (B /\ A /\ K v L') ↔ ∃ v0 L0, (B /\ A /\ v = v0 /\ L' = L0) /\ K v0 L0 := by
  intro B A v L'
  constructor
  ·rintro ⟨h0, h, hk⟩; exact ⟨v, L', ⟨h0, h, rfl, rfl⟩, hk⟩
  ·rintro ⟨_, _, ⟨h0, h, rfl, rfl⟩, hk⟩; exact ⟨h0, h, hk⟩
 have no : False ↔ ∃ (v0 : V) (L0 : Heap), False /\ K v0 L0 := by simp
 cases i <;> simp only [effC]
 case h i =>
  rw [b55 i (λv => K v L)]
  constructor
  ·rintro ⟨v, h, hk⟩; exact ⟨v, L, (b55 i _).2 ⟨v, h, rfl, rfl⟩, hk⟩
  ·rintro ⟨v, L', h, hk⟩
   obtain ⟨u, h1, rfl, rfl⟩ := (b55 i _).1 h
   exact ⟨u, h1, hk⟩
 case load =>
  split
  ·exact fin ..
  ·split
   ·exact fin ..
   ·exact no
  ·exact no
 case callC =>
  split
  ·constructor
   ·rintro ⟨h, ⟨r, hc, hk⟩ | ⟨fam, r, hc, hf, hk⟩⟩
    ·exact ⟨r, L, ⟨h, .inl ⟨r, hc, rfl, rfl⟩⟩, hk⟩
    ·exact ⟨_, _, ⟨h, .inr ⟨fam, r, hc, hf, rfl, rfl⟩⟩, hk⟩
   ·rintro ⟨v, L', ⟨h, ⟨r, hc, rfl, rfl⟩ | ⟨fam, r, hc, hf, rfl, rfl⟩⟩, hk⟩
    ·exact ⟨h, .inl ⟨r, hc, hk⟩⟩
    ·exact ⟨h, .inr ⟨fam, r, hc, hf, hk⟩⟩
  ·exact no
 case callS =>
  split
  ·unfold b4M
   constructor
   ·rintro (⟨us, r, h, hc, hk⟩ | ⟨us, fam, r, h, hc, hf, hk⟩)
    ·exact ⟨r, L, .inl ⟨us, r, h, hc, rfl, rfl⟩, hk⟩
    ·exact ⟨_, _, .inr ⟨us, fam, r, h, hc, hf, rfl, rfl⟩, hk⟩
   ·rintro ⟨v, L', ⟨us, r, h, hc, rfl, rfl⟩ | ⟨us, fam, r, h, hc, hf, rfl, rfl⟩, hk⟩
    ·exact .inl ⟨us, _, h, hc, hk⟩
    ·exact .inr ⟨us, fam, r, h, hc, hf, hk⟩
  ·exact no
 case callA =>
  split
  ·constructor
   ·rintro ⟨L', r, hc, hk⟩; exact ⟨r, L', ⟨L', r, hc, rfl, rfl⟩, hk⟩
   ·rintro ⟨v, L', ⟨L'', r, hc, rfl, rfl⟩, hk⟩; exact ⟨_, r, hc, hk⟩
  ·exact no
 case alloc => exact fin2 ..
 case box => exact fin2 ..
 case bslice =>
  split
  ·exact fin2 ..
  ·exact no
 case mksl =>
  split
  ·exact fin2 ..
  ·exact no
 case store =>
  split
  ·split
   ·exact fin ..
   ·exact no
  ·exact no
 case app =>
  split
  ·split
   ·exact fin2 ..
   ·split
    ·exact fin ..
    ·exact no
   ·exact no
  ·exact no
 case cpy =>
  split
  ·split
   ·split
    ·exact fin ..
    ·exact no
   ·exact no
  ·exact no
theorem c6d (i : HI) (K : V -> Prop) (h : ∀ o ∈ i.opds, ev o = ev' o) : hv i ev K = hv i ev' K := by
 have parts : ∀ (z : List V) (ps : List (Nat × Nat × Opd)), (∀ o ∈ ps.map (·.2.2), ev o = ev' o) -> W3 ev ps = W3 ev' ps := by
  intro z ps hp
  unfold W3
  refine List.map_congr_left λp hp' => ?_
  obtain ⟨a, b, x⟩ := p
  simp only [Prod.mk.injEq, true_and]
  exact hp x (List.mem_map.2 ⟨_, hp', rfl⟩)
 have bd : ∀ (o : Option Opd) (d l : Nat), (∀ x ∈ o.toList, ev x = ev' x) -> hv.bound ev o d l = hv.bound ev' o d l := by
  intro o d l ho
  cases o with
  | none => rfl
  | some x => simp only [hv.bound]; rw [ho x (by simp)]
 cases i <;> simp only [HI.opds, List.mem_cons, List.not_mem_nil, or_false, forall_eq_or_imp, forall_eq, List.mem_append] at h <;> simp only [hv]
 case build z ps => rw [parts z ps h]
 case mkfn f a b =>
  rw [List.map_congr_left λx hx => h x (.inl hx), List.map_congr_left λx hx => h x (.inr hx)]
 case slc x lo hi mx esz =>
  obtain ⟨h0, h1⟩ := h
  have e1 : ∀ d l, hv.bound ev lo d l = hv.bound ev' lo d l := λd l => bd lo d l λx hx => h1 x (.inl (.inl hx))
  have e2 : ∀ d l, hv.bound ev hi d l = hv.bound ev' hi d l := λd l => bd hi d l λx hx => h1 x (.inl (.inr hx))
  have e3 : ∀ d l, hv.bound ev mx d l = hv.bound ev' mx d l := λd l => bd mx d l λx hx => h1 x (.inr hx)
  have e4 : (∀ o ∈ lo.toList ++ hi.toList ++ mx.toList, ∃ k, ev o = .d (.int k 0)) = (∀ o ∈ lo.toList ++ hi.toList ++ mx.toList, ∃ k, ev' o = .d (.int k 0)) := by
   refine propext ⟨λhh o ho => ?_, λhh o ho => ?_⟩
   ·rw [<- h1 o (by simp only [List.mem_append] at ho; exact ho)]; exact hh o ho
   ·rw [h1 o (by simp only [List.mem_append] at ho; exact ho)]; exact hh o ho
  rw [h0, e4]
  simp only [e1, e2, e3]
 all_goals first | (obtain ⟨h1, h2, h3⟩ := h; rw [h1, h2, h3]) | (obtain ⟨h1, h2⟩ := h; rw [h1, h2]) | rw [h]
theorem a59 (i : Inst) (K : V -> Heap -> Prop) (h : ∀ o ∈ i.opds, ev o = ev' o) : effC P nm i ev L K = effC P nm i ev' L K := by
 have parts : ∀ (ps : List (Nat × Nat × Opd)), (∀ o ∈ ps.map (·.2.2), ev o = ev' o) -> W3 ev ps = W3 ev' ps := by
  intro ps hp
  unfold W3
  refine List.map_congr_left λp hp' => ?_
  obtain ⟨a, b, x⟩ := p
  simp only [Prod.mk.injEq, true_and]
  exact hp x (List.mem_map.2 ⟨_, hp', rfl⟩)
 cases i <;> simp only [Inst.opds, List.mem_cons, List.not_mem_nil, or_false, forall_eq_or_imp, forall_eq] at h <;> simp only [effC]
 case h i => exact c6d i _ h
 case bslice z n esz ps el => rw [parts ps h]
 case callC f args => obtain ⟨h1, h2⟩ := h; rw [h1, List.map_congr_left h2]
 case callS k f args => obtain ⟨h1, h2⟩ := h; rw [h1, List.map_congr_left h2]
 case callA f args => obtain ⟨h1, h2⟩ := h; rw [h1, List.map_congr_left h2]
 all_goals first | (obtain ⟨h1, h2⟩ := h; rw [h1, h2]) | rw [h]
end
end Go.Ab
namespace Go.Ab
open Go
inductive Kind where | H | R | A | S | W | X
 deriving DecidableEq
def Inst.kind : Inst -> Kind
 | .h _ => .H
 | .load _ _ _ => .R
 | .alloc _ _ | .box _ _ _ | .bslice _ _ _ _ _ | .mksl _ _ _ _ _ _ | .callC _ _ => .A
 | .store _ _ _ | .app _ _ _ _ | .cpy _ _ _ => .W
 | .callA _ _ => .X
 | .callS _ _ _ => .S
def Inst.below (nm : Nat) : Inst -> Nat
 | .callS k _ _ => nm - k
 | _ => 0
theorem nm0 : V.name .nil = none := rfl
theorem nm1 (x : D) : V.name (.d x) = none := rfl
theorem nm2 (X r off ver : Nat) : V.name (.ptr X r off ver) = some (X, r) := rfl
theorem nm3 (X r off n esz ver : Nat) : V.name (.sl X r off n esz ver) = some (X, r) := rfl
inductive Delta where
 | nop
 | ins (fam : List (List V))
 | put (X r : Nat) (cells : List V)
def Delta.on (nm : Nat) (L : Heap) : Delta -> Heap
 | .nop => L
 | .ins fam => L.ins nm fam
 | .put X r cells => L.put X r cells
abbrev Rel (P : Program) (nm : Nat) (i : Inst) (ev : Opd -> V) (L : Heap) (v : V) (L' : Heap) : Prop := effC P nm i ev L λu N => u = v /\ N = L'
theorem c3Y (X r : Nat) (c : List V) (L : Heap) (Y : Nat) : (L.put X r c).fam Y = none ↔ L.fam Y = none := by
 induction L with
 | nil => rfl
 | cons p L ih =>
  obtain ⟨Z, g⟩ := p
  simp only [Heap.put]
  split
  ·simp only [Heap.fam, List.lookup_cons]
   by_cases e : Y = Z
   ·simp [e]
   ·simp only [beq_eq_false_iff_ne.2 e]
  ·simp only [Heap.fam, List.lookup_cons] at ih ⊢
   by_cases e : Y = Z
   ·simp [e]
   ·simp only [beq_eq_false_iff_ne.2 e]; exact ih
theorem c6c (X Y : Nat) (f g : List (List V)) (h : X ≠ Y) (L : Heap) : (L.ins X f).ins Y g = (L.ins Y g).ins X f := by
 induction L with
 | nil =>
  simp only [Heap.ins]
  rcases Nat.lt_or_gt_of_ne h with h | h
  ·rw [if_pos h, if_neg (by omega)]
  ·rw [if_neg (by omega), if_pos h]
 | cons p L ih =>
  obtain ⟨Z, k⟩ := p
  simp only [Heap.ins]
  by_cases hx : Z < X <;> by_cases hy : Z < Y
  ·rw [if_pos hx, if_pos hy]
   simp only [Heap.ins]
   rcases Nat.lt_or_gt_of_ne h with h | h
   ·rw [if_pos h, if_neg (by omega), if_pos hx]
   ·rw [if_neg (by omega), if_pos hy, if_pos h]
  ·rw [if_pos hx, if_neg hy]
   simp only [Heap.ins]
   rw [if_neg (by omega), if_neg hy, if_pos hx]
  ·rw [if_neg hx, if_pos hy]
   simp only [Heap.ins]
   rw [if_pos hy, if_neg (by omega), if_neg hx]
  ·rw [if_neg hx, if_neg hy]
   simp only [Heap.ins]
   rw [if_neg hy, if_neg hx, ih]
theorem c3M (X : Nat) (f : List (List V)) (Y r : Nat) (c : List V) (h : X ≠ Y) (L : Heap) : (L.ins X f).put Y r c = (L.put Y r c).ins X f := by
 induction L with
 | nil => simp only [Heap.ins, Heap.put]; rw [if_neg (Ne.symm h)]
 | cons p L ih =>
  obtain ⟨Z, k⟩ := p
  simp only [Heap.ins, Heap.put]
  by_cases hx : Z < X <;> by_cases hy : Y = Z
  ·rw [if_pos hx, if_pos hy]
   simp only [Heap.put, Heap.ins]
   rw [if_neg (Ne.symm h), if_pos hy, if_pos hx]
  ·rw [if_pos hx, if_neg hy]
   simp only [Heap.put, Heap.ins]
   rw [if_neg (Ne.symm h), if_neg hy, if_pos hx]
  ·rw [if_neg hx, if_pos hy]
   simp only [Heap.put, Heap.ins]
   rw [if_pos hy, if_neg hx]
  ·rw [if_neg hx, if_neg hy]
   simp only [Heap.put, Heap.ins]
   rw [if_neg hy, if_neg hx, ih]
theorem c5v (X r : Nat) (c : List V) (Y q : Nat) (d : List V) (h : (X, r) ≠ (Y, q)) (L : Heap) : (L.put X r c).put Y q d = (L.put Y q d).put X r c := by
 induction L with
 | nil => rfl
 | cons p L ih =>
  obtain ⟨Z, k⟩ := p
  simp only [Heap.put]
  by_cases hx : X = Z <;> by_cases hy : Y = Z
  ·rw [if_pos hx, if_pos hy]
   simp only [Heap.put]
   rw [if_pos hx, if_pos hy]
   subst hx hy
   have : r ≠ q := λe => h (by rw [e])
   rw [List.set_comm _ _ this]
  ·rw [if_pos hx, if_neg hy]; simp only [Heap.put]; rw [if_neg hy, if_pos hx]
  ·rw [if_neg hx, if_pos hy]; simp only [Heap.put]; rw [if_pos hy, if_neg hx]
  ·rw [if_neg hx, if_neg hy]; simp only [Heap.put]; rw [if_neg hy, if_neg hx, ih]
def n6 (ev : Opd -> V) (i : Inst) : List (Nat × Nat) := i.places.filterMap λp => (ev p).name
section
variable {P : Program} {nm : Nat} {ev ev' : Opd -> V} {L L' : Heap}
theorem c10 {esz : Nat} {x : V} {new : List V} (h : s7 L esz x = some new) : (∀ n, x.name = some n -> L.get n.1 n.2 ≠ none) /\ ∀ M : Heap, (∀ n, x.name = some n -> M.get n.1 n.2 = L.get n.1 n.2) -> s7 M esz x = some new := by
 cases x with
 | sl X r off k e ver =>
  constructor
  ·rintro n hn hg
   cases hn
   simp only [s7, hg, reduceCtorEq] at h
  ·intro M hM
   have := hM (X, r) rfl
   simp only at this
   simp only [s7, this]
   exact h
 | d y => exact ⟨λn hn => (by cases hn), λM _ => (by cases y <;> exact h)⟩
 | nil => exact ⟨λn hn => (by cases hn), λM _ => h⟩
 | ptr X r off ver => simp [s7] at h
 | agg xs => simp [s7] at h
 | fn f a b => simp [s7] at h
 | tup xs => simp [s7] at h
 | any => simp [s7] at h
theorem c38 (i : Inst) (hk : i.kind ≠ .X) (v : V) (h : Rel P nm i ev L v L') : ∃ δ : Delta, L' = δ.on nm L /\ (∀ n ∈ n6 ev i, L.get n.1 n.2 ≠ none) /\
  (∀ cells, δ = .ins cells -> L.fam nm = none) /\ (∀ X r cells, δ = .put X r cells -> (X, r) ∈ n6 ev i) /\
  (i.kind = .H \/ i.kind = .R -> δ = .nop) /\ (i.kind = .A \/ i.kind = .S -> ∀ X r cells, δ ≠ .put X r cells) /\
  ∀ M : Heap, (∀ n ∈ n6 ev i, M.get n.1 n.2 = L.get n.1 n.2) -> (∀ cells, δ = .ins cells -> M.fam nm = none) -> (∀ X, X < i.below nm -> M.fam X = L.fam X) -> Rel P nm i ev M v (δ.on nm M) := by
 cases i with
 | callA f args => exact absurd rfl hk
 | h hi =>
  obtain ⟨u, h1, rfl, rfl⟩ := (b55 hi (λu => u = v /\ L = L')).1 h
  exact ⟨.nop, rfl, by simp [n6, Inst.places], by simp, by simp, by simp, by simp, λM _ _ _ => (b55 hi (λu' => u' = u /\ M = M)).2 ⟨_, h1, rfl, rfl⟩⟩
 | callC f args =>
  simp only [Rel, effC] at h
  split at h
  ·rename_i hc
   obtain ⟨hb, ⟨r, hcon, rfl, rfl⟩ | ⟨fam, r, hac, hf, rfl, rfl⟩⟩ := h
   ·refine ⟨.nop, rfl, by simp [n6, Inst.places], by simp, by simp, by simp, by simp, λM _ _ _ => ?_⟩
    simp only [Rel, effC, hc]; exact ⟨hb, .inl ⟨_, hcon, rfl, rfl⟩⟩
   ·refine ⟨.ins (Y8 nm fam), rfl, by simp [n6, Inst.places], λ_ _ => hf, by simp, by simp [Inst.kind], by simp, λM _ hM _ => ?_⟩
    simp only [Rel, effC, hc]; exact ⟨hb, .inr ⟨fam, r, hac, hM _ rfl, rfl, rfl⟩⟩
  ·exact h.elim
 | callS k f args =>
  simp only [Rel, effC] at h
  split at h
  ·rename_i g first cap hc
   have tr : ∀ {M : Heap} {vs us : List V} {A : Prop}, (∀ X, X < nm - k -> M.fam X = L.fam X) -> c1s (L.old (nm - k)) vs us A -> c1s (M.old (nm - k)) vs us A := by
    intro M vs us A hM h
    rcases h with h | ⟨h1, h2, h3⟩
    ·exact .inl h
    ·refine .inr ⟨h1, λj hj => (h2 j hj).mono λX r c hX => ?_, h3⟩
     unfold Heap.get at hX ⊢
     rw [b7A] at hX ⊢
     split at hX
     ·rename_i e; rw [if_pos e, hM X e]; exact hX
     ·cases hX
   rcases h with ⟨us, r, hsa, hcon, rfl, rfl⟩ | ⟨us, fam, r, hsa, hac, hf, rfl, rfl⟩
   ·refine ⟨.nop, rfl, by simp [n6, Inst.places], by simp, by simp, by simp, by simp, λM _ _ hM => ?_⟩
    simp only [Rel, effC, hc]
    exact .inl ⟨us, _, tr hM hsa, hcon, rfl, rfl⟩
   ·refine ⟨.ins (Y8 nm fam), rfl, by simp [n6, Inst.places], λ_ _ => hf, by simp, by simp [Inst.kind], by simp, λM _ hM2 hM => ?_⟩
    simp only [Rel, effC, hc]
    exact .inr ⟨us, fam, r, tr hM hsa, hac, hM2 _ rfl, rfl, rfl⟩
  ·exact h.elim
 | load x n agg =>
  simp only [Rel, effC] at h
  split at h
  ·rename_i cells hx
   obtain ⟨hc, rfl, rfl⟩ := h
   refine ⟨.nop, rfl, by simp [n6, Inst.places, hx, nm0, nm1, nm2, nm3], by simp, by simp, by simp, by simp, λM _ _ _ => ?_⟩
   simp only [Rel, effC, hx]; exact ⟨hc, by first | trivial | exact ⟨rfl, rfl⟩ | simp⟩
  ·rename_i X r off ver hx
   split at h
   ·rename_i cells hg
    obtain ⟨hc, rfl, rfl⟩ := h
    refine ⟨.nop, rfl, by simp [n6, Inst.places, hx, nm0, nm1, nm2, nm3, hg], by simp, by simp, by simp, by simp, λM hM _ _ => ?_⟩
    have := hM (X, r) (by simp [n6, Inst.places, hx, nm0, nm1, nm2, nm3])
    simp only [Rel, effC, hx]
    simp only at this
    rw [this, hg]; exact ⟨hc, by first | trivial | exact ⟨rfl, rfl⟩ | simp⟩
   ·exact h.elim
  ·exact h.elim
 | alloc z el =>
  simp only [Rel, effC] at h
  obtain ⟨hf, hc, rfl, rfl⟩ := h
  exact ⟨.ins [z], rfl, by simp [n6, Inst.places], λ_ _ => hf, by simp, by simp [Inst.kind], by simp, λM _ hM _ => ⟨hM _ rfl, hc, rfl, rfl⟩⟩
 | box x n el =>
  simp only [Rel, effC] at h
  obtain ⟨hf, hc, rfl, rfl⟩ := h
  exact ⟨.ins [cellsOf (ev x)], rfl, by simp [n6, Inst.places], λ_ _ => hf, by simp, by simp [Inst.kind], by simp, λM _ hM _ => ⟨hM _ rfl, hc, rfl, rfl⟩⟩
 | bslice z n esz ps el =>
  simp only [Rel, effC] at h
  split at h
  ·rename_i cells hfill
   obtain ⟨hf, hc, rfl, rfl⟩ := h
   refine ⟨.ins [cells], rfl, by simp [n6, Inst.places], λ_ _ => hf, by simp, by simp [Inst.kind], by simp, λM _ hM _ => ?_⟩
   simp only [Rel, effC, hfill]; exact ⟨hM _ rfl, hc, by first | trivial | exact ⟨rfl, rfl⟩ | simp⟩
  ·exact h.elim
 | mksl z esz by' n c el =>
  simp only [Rel, effC] at h
  split at h
  ·rename_i k p k' q h1 h2
   obtain ⟨hf, hc, rfl, rfl⟩ := h
   refine ⟨.ins [repl p.toNat z], rfl, by simp [n6, Inst.places], λ_ _ => hf, by simp, by simp [Inst.kind], by simp, λM _ hM _ => ?_⟩
   simp only [Rel, effC, h1, h2]; exact ⟨hM _ rfl, hc, by first | trivial | exact ⟨rfl, rfl⟩ | simp⟩
  ·exact h.elim
 | store p x n =>
  simp only [Rel, effC] at h
  split at h
  ·rename_i X r off ver hx
   split at h
   ·rename_i cells hg
    obtain ⟨hc, rfl, rfl⟩ := h
    refine ⟨.put X r (t6 cells off (cellsOf (ev x))), rfl, by simp [n6, Inst.places, hx, nm0, nm1, nm2, nm3, hg], by simp, ?_, by simp [Inst.kind], by simp [Inst.kind], λM hM _ _ => ?_⟩
    ·rintro _ _ _ ⟨⟩; simp [n6, Inst.places, hx, nm0, nm1, nm2, nm3]
    ·have := hM (X, r) (by simp [n6, Inst.places, hx, nm0, nm1, nm2, nm3])
     simp only [Rel, effC, hx]
     simp only at this
     rw [this, hg]; exact ⟨hc, by first | trivial | exact ⟨rfl, rfl⟩ | simp⟩
   ·exact h.elim
  ·exact h.elim
 | app t x esz by' =>
  simp only [Rel, effC] at h
  split at h
  ·rename_i new hsrc
   obtain ⟨s1, s2⟩ := c10 hsrc
   split at h
   ·rename_i ht
    obtain ⟨hf, hc, rfl, rfl⟩ := h
    refine ⟨.ins [new], rfl, ?_, λ_ _ => hf, by simp, by simp [Inst.kind], by simp, λM hM hM2 _ => ?_⟩
    ·intro n hn
     simp [n6, Inst.places, ht, nm0, nm1, nm2, nm3] at hn
     exact s1 n hn
    ·simp only [Rel, effC]
     rw [s2 M λn hn => hM n (by simp [n6, Inst.places, ht, nm0, nm1, nm2, nm3, hn])]
     simp only [ht]; exact ⟨hM2 _ rfl, hc, by first | trivial | exact ⟨rfl, rfl⟩ | simp⟩
   ·rename_i X r off n esz' ver ht
    split at h
    ·rename_i cells hg
     obtain ⟨hc, rfl, rfl⟩ := h
     refine ⟨.put X r (cells ++ new), rfl, ?_, by simp, ?_, by simp [Inst.kind], by simp [Inst.kind], λM hM _ _ => ?_⟩
     ·intro n' hn
      simp only [n6, Inst.places, List.filterMap_cons, ht, nm0, nm1, nm2, nm3, List.filterMap_nil] at hn
      rcases List.mem_cons.1 hn with rfl | hn
      ·simp [hg]
      ·cases hxn : (ev x).name with
       | none => rw [hxn] at hn; simp at hn
       | some n'' => rw [hxn] at hn; simp at hn; subst hn; exact s1 _ hxn
     ·rintro _ _ _ ⟨⟩; simp [n6, Inst.places, ht, nm0, nm1, nm2, nm3]
     ·simp only [Rel, effC]
      rw [s2 M λn hn => hM n (by simp [n6, Inst.places, ht, nm0, nm1, nm2, nm3, hn])]
      have := hM (X, r) (by simp [n6, Inst.places, ht, nm0, nm1, nm2, nm3])
      simp only at this
      simp only [ht]
      rw [this, hg]; exact ⟨hc, by first | trivial | exact ⟨rfl, rfl⟩ | simp⟩
    ·exact h.elim
   ·exact h.elim
  ·exact h.elim
 | cpy t x esz =>
  simp only [Rel, effC] at h
  split at h
  ·rename_i new hsrc
   obtain ⟨s1, s2⟩ := c10 hsrc
   split at h
   ·rename_i X r off n esz' ver ht
    split at h
    ·rename_i cells hg
     obtain ⟨hc, rfl, rfl⟩ := h
     refine ⟨.put X r (t6 cells off (new.take (n * esz))), rfl, ?_, by simp, ?_, by simp [Inst.kind], by simp [Inst.kind], λM hM _ _ => ?_⟩
     ·intro n' hn
      simp only [n6, Inst.places, List.filterMap_cons, ht, nm0, nm1, nm2, nm3, List.filterMap_nil] at hn
      rcases List.mem_cons.1 hn with rfl | hn
      ·simp [hg]
      ·cases hxn : (ev x).name with
       | none => rw [hxn] at hn; simp at hn
       | some n'' => rw [hxn] at hn; simp at hn; subst hn; exact s1 _ hxn
     ·rintro _ _ _ ⟨⟩; simp [n6, Inst.places, ht, nm0, nm1, nm2, nm3]
     ·simp only [Rel, effC]
      rw [s2 M λn hn => hM n (by simp [n6, Inst.places, ht, nm0, nm1, nm2, nm3, hn])]
      have := hM (X, r) (by simp [n6, Inst.places, ht, nm0, nm1, nm2, nm3])
      simp only at this
      simp only [ht]
      rw [this, hg]; exact ⟨hc, by first | trivial | exact ⟨rfl, rfl⟩ | simp⟩
    ·exact h.elim
   ·exact h.elim
  ·exact h.elim
def a4c (x y : Kind) : Bool :=
 match x, y with
 | .H, _ | _, .H => true
 | .R, .R | .A, .A | .A, .R | .R, .A | .A, .W | .W, .A => true
 | .S, .S | .S, .A | .A, .S | .S, .R | .R, .S => true
 | _, _ => false
def Q3 (x y : Kind) : Bool :=
 match x, y with
 | .R, .W | .W, .R | .W, .W => true
 | _, _ => false
theorem c7p (δ : Delta) (n : Nat × Nat) (hL : ∀ X r c, δ = .put X r c -> L.get X r ≠ none /\ n ≠ (X, r)) (hi : ∀ c, δ = .ins c -> L.fam nm = none /\ L.get n.1 n.2 ≠ none) : (δ.on nm L).get n.1 n.2 = L.get n.1 n.2 := by
 cases δ with
 | nop => rfl
 | ins c =>
  obtain ⟨h1, h2⟩ := hi c rfl
  simp only [Delta.on, b4g h1]
  have : n.1 ≠ nm := by rintro e; exact h2 (by rw [e]; exact x4 h1)
  rw [if_neg this]
 | put X r c =>
  obtain ⟨h1, h2⟩ := hL X r c rfl
  obtain ⟨old, ho⟩ := Option.ne_none_iff_exists'.1 h1
  simp only [Delta.on, K8 X r c L old ho]
  rw [if_neg]
  rintro ⟨e1, e2⟩
  exact h2 (Prod.ext e1 e2)
theorem a0R (i : Inst) (h : i.kind = .H \/ i.kind = .A \/ i.kind = .S) : n6 ev i = [] := by
 cases i <;> simp [Inst.kind] at h <;> rfl
theorem c50 {k : Kind} (h : a4c .W k = true) (h2 : k ≠ .H) : k = .A := by cases k <;> simp_all [a4c]
theorem c3p {k : Kind} (h : a4c k .W = true) (h2 : k ≠ .H) : k = .A := by cases k <;> simp_all [a4c]
theorem c3n {k : Kind} (h : a4c .X k = true) : k = .H := by cases k <;> simp_all [a4c]
theorem c8H {k : Kind} (h : a4c k .X = true) : k = .H := by cases k <;> simp_all [a4c]
theorem c3m {k : Kind} (h : Q3 .X k = true) : False := by cases k <;> simp_all [Q3]
theorem c8G {k : Kind} (h : Q3 k .X = true) : False := by cases k <;> simp_all [Q3]
theorem swap {nx ny : Nat} (x y : Inst) (hn : nx ≠ ny) (hbx : x.kind = .H \/ y.below ny <= nx) (hby : y.kind = .H \/ x.below nx <= ny) (hok : a4c x.kind y.kind = true \/ (Q3 x.kind y.kind = true /\ ∀ n ∈ n6 ev x, ∀ k ∈ n6 ev y, n ≠ k))
  (hlive : ∀ n ∈ n6 ev y, L.get n.1 n.2 ≠ none) {vx vy : V} {L1 L2 : Heap} (h1 : Rel P nx x ev L vx L1) (h2 : Rel P ny y ev L1 vy L2) :
  ∃ M, Rel P ny y ev L vy M /\ Rel P nx x ev M vx L2 := by
 by_cases hx : x.kind = .H
 ·obtain ⟨δ, rfl, _, _, _, hd, _, hall⟩ := c38 x (by simp [hx]) vx h1
  obtain rfl := hd (.inl hx)
  exact ⟨L2, h2, hall L2 (by rw [a0R x (.inl hx)]; simp) (by simp) (λX hX => by cases x <;> simp [Inst.kind] at hx; simp [Inst.below] at hX)⟩
 by_cases hy : y.kind = .H
 ·obtain ⟨δ, rfl, _, _, _, hd, _, hall⟩ := c38 y (by simp [hy]) vy h2
  obtain rfl := hd (.inl hy)
  exact ⟨L, hall L (by rw [a0R y (.inl hy)]; simp) (by simp) (λX hX => by cases y <;> simp [Inst.kind] at hy; simp [Inst.below] at hX), h1⟩
 replace hbx := hbx.resolve_left hx
 replace hby := hby.resolve_left hy
 have hxX : x.kind ≠ .X := by
  intro e; rcases hok with h | ⟨h, _⟩
  ·rw [e] at h; exact hy (c3n h)
  ·rw [e] at h; exact c3m h
 have hyX : y.kind ≠ .X := by
  intro e; rcases hok with h | ⟨h, _⟩
  ·rw [e] at h; exact hx (c8H h)
  ·rw [e] at h; exact c8G h
 obtain ⟨δ, rfl, hl1, hi1, hp1, hr1, ha1, all1⟩ := c38 x hxX vx h1
 obtain ⟨γ, rfl, hl2, hi2, hp2, hr2, ha2, all2⟩ := c38 y hyX vy h2
 -- a row that one of both writes is none that the other one reads
 have apart1 : ∀ X r c, δ = .put X r c -> ∀ k ∈ n6 ev y, k ≠ (X, r) := by
  intro X r c e k hk
  rcases hok with h | ⟨_, h⟩
  ·have hw : x.kind = .W := by
    cases hkx : x.kind with
    | H => exact absurd hkx hx
    | R => have := hr1 (.inr hkx); rw [this] at e; cases e
    | A => exact absurd e (ha1 (.inl hkx) X r c)
    | S => exact absurd e (ha1 (.inr hkx) X r c)
    | W => rfl
    | X => exact absurd hkx hxX
   rw [hw] at h
   rw [a0R y (.inr (.inl (c50 h hy)))] at hk
   cases hk
  ·exact (h _ (hp1 X r c e) k hk).symm
 have apart2 : ∀ X r c, γ = .put X r c -> ∀ k ∈ n6 ev x, k ≠ (X, r) := by
  intro X r c e k hk
  rcases hok with h | ⟨_, h⟩
  ·have hw : y.kind = .W := by
    cases hky : y.kind with
    | H => exact absurd hky hy
    | R => have := hr2 (.inr hky); rw [this] at e; cases e
    | A => exact absurd e (ha2 (.inl hky) X r c)
    | S => exact absurd e (ha2 (.inr hky) X r c)
    | W => rfl
    | X => exact absurd hky hyX
   rw [hw] at h
   rw [a0R x (.inr (.inl (c3p h hx)))] at hk
   cases hk
  ·exact h k hk _ (hp2 X r c e)
 have keep1 : ∀ n ∈ n6 ev y, (δ.on nx L).get n.1 n.2 = L.get n.1 n.2 := λn hn' =>
  c7p δ n (λX r c e => ⟨hl1 _ (hp1 X r c e), apart1 X r c e n hn'⟩) λc e => ⟨hi1 c e, hlive n hn'⟩
 have famL : ∀ c, γ = .ins c -> L.fam ny = none := by
  intro c e
  have := hi2 c e
  cases δ with
  | nop => exact this
  | ins d => simp only [Delta.on] at this; rw [a43 nx d L (hi1 d rfl)] at this; split at this <;> simp_all
  | put X r d => exact (c3Y X r d L ny).1 this
 -- a call that leans on rows of old: nothing of them is turned
 have oldL : ∀ X, X < y.below ny -> L.fam X = (δ.on nx L).fam X := by
  intro X hX
  have hky : y.kind = .S := by cases y <;> simp [Inst.below] at hX; rfl
  cases δ with
  | nop => rfl
  | ins d => simp only [Delta.on]; rw [a43 nx d L (hi1 d rfl), if_neg (by omega)]
  | put X' r d =>
   exfalso
   have hkx : x.kind = .W := by
    cases hkx : x.kind with
    | H => exact absurd hkx hx
    | R => have := hr1 (.inr hkx); cases this
    | A => exact absurd rfl (ha1 (.inl hkx) X' r d)
    | S => exact absurd rfl (ha1 (.inr hkx) X' r d)
    | W => rfl
    | X => exact absurd hkx hxX
   rcases hok with h | ⟨h, _⟩ <;> rw [hkx, hky] at h <;> cases h
 refine ⟨γ.on ny L, all2 L (λn hn' => (keep1 n hn').symm) famL oldL, ?_⟩
 have famM : ∀ c, δ = .ins c -> (γ.on ny L).fam nx = none := by
  intro c e
  have h0 := hi1 c e
  cases γ with
  | nop => exact h0
  | ins d => simp only [Delta.on]; rw [a43 ny d L (famL d rfl), if_neg hn]; exact h0
  | put X r d => exact (c3Y X r d L nx).2 h0
 have keep2 : ∀ n ∈ n6 ev x, (γ.on ny L).get n.1 n.2 = L.get n.1 n.2 := λn hn' =>
  c7p γ n (λX r c e => ⟨hlive _ (hp2 X r c e), apart2 X r c e n hn'⟩) λc e => ⟨famL c e, hl1 n hn'⟩
 have oldM : ∀ X, X < x.below nx -> (γ.on ny L).fam X = L.fam X := by
  intro X hX
  have hkx : x.kind = .S := by cases x <;> simp [Inst.below] at hX; rfl
  cases γ with
  | nop => rfl
  | ins d => simp only [Delta.on]; rw [a43 ny d L (famL d rfl), if_neg (by omega)]
  | put X' r d =>
   exfalso
   have hky : y.kind = .W := by
    cases hky : y.kind with
    | H => exact absurd hky hy
    | R => have := hr2 (.inr hky); cases this
    | A => exact absurd rfl (ha2 (.inl hky) X' r d)
    | S => exact absurd rfl (ha2 (.inr hky) X' r d)
    | W => rfl
    | X => exact absurd hky hyX
   rcases hok with h | ⟨h, _⟩ <;> rw [hkx, hky] at h <;> cases h
 have := all1 (γ.on ny L) keep2 famM oldM
 have comm : δ.on nx (γ.on ny L) = γ.on ny (δ.on nx L) := by
  cases δ with
  | nop => rfl
  | ins c =>
   cases γ with
   | nop => rfl
   | ins d => exact c6c ny nx d c (Ne.symm hn) L
   | put X r d =>
    simp only [Delta.on]
    have hne : nx ≠ X := by
     rintro rfl
     have h0 := hlive _ (hp2 nx r d rfl)
     exact h0 (x4 (hi1 c rfl))
    exact (c3M nx c X r d hne L).symm
  | put X r c =>
   cases γ with
   | nop => rfl
   | ins d =>
    simp only [Delta.on]
    have hne : ny ≠ X := by
     rintro rfl
     exact hl1 _ (hp1 ny r c rfl) (x4 (famL d rfl))
    exact c3M ny d X r c hne L
   | put Y q d =>
    simp only [Delta.on]
    exact c5v Y q d X r c (apart1 X r c rfl _ (hp2 Y q d rfl)) L
 rw [comm] at this
 exact this
end
def Inst.span : Inst -> Option (Opd × Nat)
 | .load x n _ => some (x, n)
 | .store p _ n => some (p, n)
 | _ => none
theorem a5B : ∀ (ys xs : List V) (off i : Nat), (t6 xs off ys)[i]? = if off <= i /\ i < off + ys.length /\ i < xs.length then ys[i - off]? else xs[i]? := by
 intro ys
 induction ys with
 | nil => intro xs off i; simp only [t6, List.length_nil]; rw [if_neg (by omega)]
 | cons y ys ih =>
  intro xs off i
  simp only [t6, List.length_cons]
  rw [ih]
  simp only [List.length_set, List.getElem?_set]
  by_cases h1 : off + 1 <= i /\ i < off + 1 + ys.length /\ i < xs.length
  ·rw [if_pos h1, if_pos (by omega), show i - off = (i - (off + 1)) + 1 by omega, List.getElem?_cons_succ]
  ·rw [if_neg h1]
   by_cases h2 : off = i
   ·subst h2
    by_cases h3 : off < xs.length
    ·rw [if_pos rfl, if_pos h3, if_pos ⟨by omega, by omega, h3⟩, Nat.sub_self, List.getElem?_cons_zero]
    ·rw [if_pos rfl, if_neg h3, if_neg (by omega)]
     simp [show xs.length <= off by omega]
   ·rw [if_neg h2, if_neg (by omega)]
theorem b2E (g : Bool) (n o off : Nat) (xs ys : List V) (hn : 0 < n) (h : o + n <= off \/ off + ys.length <= o) : ldv g n o (t6 xs off ys) = ldv g n o xs := by
 unfold ldv
 cases g with
 | true =>
  simp only [if_true]
  congr 1
  refine List.ext_getElem? λj => ?_
  simp only [List.getElem?_take, List.getElem?_drop]
  split
  ·rw [a5B, if_neg (by omega)]
  ·rfl
 | false =>
  simp only [Bool.false_eq_true, if_false, d2d]
  rw [a5B, if_neg (by omega)]
theorem b7f (xs a b : List V) (o p : Nat) (h : o + a.length <= p \/ p + b.length <= o) : t6 (t6 xs o a) p b = t6 (t6 xs p b) o a := by
 refine List.ext_getElem? λi => ?_
 simp only [a5B, B5]
 by_cases h1 : p <= i /\ i < p + b.length /\ i < xs.length
 ·rw [if_pos h1, if_neg (by omega), if_pos h1]
 ·rw [if_neg h1]
  split
  ·rfl
  ·rfl
theorem c2y (X r : Nat) (a b : List V) : ∀ (L : Heap), (L.put X r a).put X r b = L.put X r b := by
 intro L
 induction L with
 | nil => rfl
 | cons p L ih =>
  obtain ⟨Y, f⟩ := p
  simp only [Heap.put]
  by_cases e : X = Y
  ·simp [e, Heap.put]
  ·simp [e, Heap.put, ih]
theorem a0c {X r : Nat} {c old : List V} {L : Heap} (h : L.get X r = some old) : (L.put X r c).get X r = some c := by
 rw [K8 X r c L old h]; simp
section
variable {P : Program} {ev : Opd -> V} {L : Heap}
theorem c7V {nx ny : Nat} (x y : Inst) {px py : Opd} {p q : Nat} (sx : x.span = some (px, p)) (sy : y.span = some (py, q)) {X r ox oy ver ver' : Nat} (ex : ev px = .ptr X r ox ver) (ey : ev py = .ptr X r oy ver')
  (hd : ox + p <= oy \/ oy + q <= ox) {vx vy : V} {L1 L2 : Heap} (h1 : Rel P nx x ev L vx L1) (h2 : Rel P ny y ev L1 vy L2) : ∃ M, Rel P ny y ev L vy M /\ Rel P nx x ev M vx L2 := by
 cases x with
 | load a n g =>
  simp only [Inst.span, Option.some.injEq, Prod.mk.injEq] at sx
  obtain ⟨rfl, rfl⟩ := sx
  simp only [Rel, effC, ex] at h1
  split at h1
  case h_2 => exact h1.elim
  rename_i cells hg
  obtain ⟨⟨c1, c2, c3⟩, rfl, rfl⟩ := h1
  cases y with
  | load b n' g' =>
   simp only [Inst.span, Option.some.injEq, Prod.mk.injEq] at sy
   obtain ⟨rfl, rfl⟩ := sy
   simp only [Rel, effC, ey, hg] at h2
   obtain ⟨⟨d1, d2, d3⟩, rfl, rfl⟩ := h2
   exact ⟨L, by simp only [Rel, effC, ey, hg]; exact ⟨⟨d1, d2, d3⟩, (by first | rfl | trivial), (by first | rfl | trivial)⟩, by simp only [Rel, effC, ex, hg]; exact ⟨⟨c1, c2, c3⟩, (by first | rfl | trivial), (by first | rfl | trivial)⟩⟩
  | store b v n' =>
   simp only [Inst.span, Option.some.injEq, Prod.mk.injEq] at sy
   obtain ⟨rfl, rfl⟩ := sy
   simp only [Rel, effC, ey, hg] at h2
   obtain ⟨⟨d1, d2, d3, d4⟩, rfl, rfl⟩ := h2
   refine ⟨_, by simp only [Rel, effC, ey, hg]; exact ⟨⟨d1, d2, d3, d4⟩, (by first | rfl | trivial), (by first | rfl | trivial)⟩, ?_⟩
   simp only [Rel, effC, ex, a0c hg, B5]
   exact ⟨⟨c1, c2, c3⟩, b2E _ _ _ _ _ _ c3 (by omega), (by first | rfl | trivial)⟩
  | _ => simp [Inst.span] at sy
 | store a v n =>
  simp only [Inst.span, Option.some.injEq, Prod.mk.injEq] at sx
  obtain ⟨rfl, rfl⟩ := sx
  simp only [Rel, effC, ex] at h1
  split at h1
  case h_2 => exact h1.elim
  rename_i cells hg
  obtain ⟨⟨c1, c2, c3, c4⟩, rfl, rfl⟩ := h1
  cases y with
  | load b n' g' =>
   simp only [Inst.span, Option.some.injEq, Prod.mk.injEq] at sy
   obtain ⟨rfl, rfl⟩ := sy
   simp only [Rel, effC, ey, a0c hg, B5] at h2
   obtain ⟨⟨d1, d2, d3⟩, rfl, rfl⟩ := h2
   refine ⟨L, ?_, by simp only [Rel, effC, ex, hg]; exact ⟨⟨c1, c2, c3, c4⟩, (by first | rfl | trivial), (by first | rfl | trivial)⟩⟩
   simp only [Rel, effC, ey, hg]
   exact ⟨⟨d1, d2, d3⟩, (b2E _ _ _ _ _ _ d3 (by omega)).symm, (by first | rfl | trivial)⟩
  | store b v' n' =>
   simp only [Inst.span, Option.some.injEq, Prod.mk.injEq] at sy
   obtain ⟨rfl, rfl⟩ := sy
   simp only [Rel, effC, ey, a0c hg, B5] at h2
   obtain ⟨⟨d1, d2, d3, d4⟩, rfl, rfl⟩ := h2
   refine ⟨_, by simp only [Rel, effC, ey, hg]; exact ⟨⟨d1, d2, d3, d4⟩, (by first | rfl | trivial), (by first | rfl | trivial)⟩, ?_⟩
   simp only [Rel, effC, ex, a0c hg, B5]
   refine ⟨⟨c1, c2, c3, c4⟩, (by first | rfl | trivial), ?_⟩
   rw [c2y, c2y, b7f _ _ _ _ _ (by omega)]
  | _ => simp [Inst.span] at sy
 | _ => simp [Inst.span] at sx
end
end Go.Ab
