/- Slices made, appended to, copied: the operations. -/
import Derived.Test.YtdckmpaakheppaaK
namespace Go.Ab
set_option linter.unusedSimpArgs false
set_option linter.unusedVariables false
open Go

section
variable {P : Program} {St : Nat → Prop} {m : Map} {L : Heap} {w w' : World} {o : Oper} {a : Act} {s : S} {K : V → Heap → Prop}

theorem bslice_sound (nm : Nat) (t e : TypeId) (len : Nat) (parts : Array (Nat × Operand)) (it : TypeInfo) (z : Value) (ht : P.underlying t = some (.slice e)) (hi : P.info? e = some it) (hz : it.zero = some z)
    (hlim : len * it.size ≤ 16777216) (hop : o.op = .buildSlice t len parts) (hs : SimS St m s a w)
    (hk : eff P nm (.bslice ((zc z.cells (len * it.size)).toList.map Value.toV) len it.size (parts.toList.map fun (i, x) => (i * it.size, it.size, Opd.of x)) e) s K) :
    ∃ v L' c w', (execOp a.eval o).run P w = .ok (.value c) w' ∧ K v L' ∧ Post St m s.L w v L' c w' := by
  simp only [eff, effC] at hk
  split at hk
  case h_2 => exact hk.elim
  rename_i cells hf
  obtain ⟨hX, ⟨hcell, hlen⟩, hk⟩ := hk
  obtain ⟨cs', hfill, hrel⟩ := fill_rel (St := St) (m := m) (L := s.L) (w := w) (fun i => some (i * it.size, it.size)) (parts.toList.map fun (i, x) => (i, a.eval x)) _ _ (zc z.cells (len * it.size)) cells (toVs_rel _) hf (by simp [partsV])
    (fun j h1 h2 => by simp [partsV]; exact ev_rel hs _)
  refine ⟨_, _, .slice (some ⟨w.heap.size, 0, none⟩) len len, { w with heap := w.heap.push (.cells cs' e (0, 0)) }, ?_, hk, made_post hs.objs hX hrel.pre _ _
    (.sl (get_ins_self hX) (by omega) _ _ rfl (Nat.le_refl _) (fun _ => rfl) fun _ => .inr ⟨w.heap.size, cs'.size, by simp [Map.set], by rw [hrel.1, hlen]; omega, rfl⟩)⟩
  have hfill' : Instr.fill (fun i => some (i * it.size, it.size)) (zc z.cells (len * it.size)) (parts.map fun (i, x) => (i, a.eval x)).toList = some cs' := by simpa using hfill
  simp only [execOp, hop]
  by_cases h0 : len * it.size = 0
  · have hzc : zc z.cells (len * it.size) = #[] := by rw [h0]; simp [zc]
    rw [hzc] at hfill'
    simp [Instr.buildSlice, run_underlying ht, sizeOf, typeInfo, hi, h0] 
    have hr0 : Array.map (fun x => (default : Value)) (Array.range 0) = #[] := Array.eq_empty_of_size_eq_zero (by simp)
    simp at hfill'
    simp [hr0, hfill', newRow]
  · have hzz : (zeroValue e).run P w = .ok z w := by simp [zeroValue, typeInfo, hi, hz]
    have hlim' : ¬ (len * it.size > 2 ^ 24) := by omega
    simp [Instr.buildSlice, run_underlying ht, sizeOf, typeInfo, hi, h0, hlim', hzz]
    simp [zc] at hfill'
    simp [hfill', newRow]

theorem wrap_i64 {n : Int} (h0 : 0 ≤ n) (h1 : n < 9223372036854775808) : IntKind.i64.wrap n = n := by
  unfold IntKind.wrap IntKind.bits IntKind.signed
  simp only
  have : n % (2 ^ 64 : Int) = n := Int.emod_eq_of_lt h0 (by omega)
  rw [this]
  simp
  omega

theorem mksl_sound (nm : Nat) (t e : TypeId) (x y : Operand) (it : TypeInfo) (z : Value) (ht : P.underlying t = some (.slice e)) (hi : P.info? e = some it) (hz : it.zero = some z) (hb : 0 < it.bytes) (hsz : 0 < it.size)
    (hop : o.op = .makeSlice t x y) (hs : SimS St m s a w)
    (hk : eff P nm (.mksl (z.cells.toList.map Value.toV) it.size it.bytes (Opd.of x) (Opd.of y) e) s K) :
    ∃ v L' c w', (execOp a.eval o).run P w = .ok (.value c) w' ∧ K v L' ∧ Post St m s.L w v L' c w' := by
  have hx := ev_rel hs x
  have hy := ev_rel hs y
  simp only [eff, effC] at hk
  split at hk
  case h_2 => exact hk.elim
  rename_i k p k' q h1 h2
  rw [h1] at hx; rw [h2] at hy
  obtain ⟨hX, ⟨rfl, rfl, hzl, hzc, hp0, hpq, hlim⟩, hk⟩ := hk
  have hzs : z.cells.size = it.size := by simpa using hzl
  have hq : q ≤ 281474976710656 := by
    have : q * 1 ≤ q * it.bytes := Int.mul_le_mul_of_nonneg_left (by omega) (by omega)
    omega
  have hrel : PRel St m s.L w (repl p.toNat (z.cells.toList.map Value.toV)) (zc z.cells (q.toNat * it.size)) := by
    have hpq' : p.toNat * it.size ≤ q.toNat * it.size := Nat.mul_le_mul_right _ (by omega)
    refine ⟨by rw [repl_length, zc_size, hzl]; exact hpq', fun j hj => ?_⟩
    rw [repl_length, hzl] at hj
    rw [repl_get _ _ _ (by rw [hzl]; exact hj), zc_get _ _ _ (by omega) (by omega), hzl, hzs]
    exact (toVs_rel (St := St) (m := m) (L := s.L) (w := w) z.cells).2 _ (by rw [hzl]; exact Nat.mod_lt _ hsz)
  refine ⟨_, _, .slice (some ⟨w.heap.size, 0, none⟩) p.toNat q.toNat, { w with heap := w.heap.push (.cells (zc z.cells (q.toNat * it.size)) e (0, 0)) }, ?_, hk, made_post hs.objs hX hrel _ _
    (.sl (get_ins_self hX) (by rw [repl_length, hzl]; exact Nat.le_refl _) _ _ rfl (by omega) (fun _ => rfl) fun _ => .inr ⟨w.heap.size, (zc z.cells (q.toNat * it.size)).size, by simp [Map.set], by rw [zc_size]; omega, rfl⟩)⟩
  simp only [execOp, hop, hx.int, hy.int]
  have e1 : IntKind.i64.wrap p = p := wrap_i64 hp0 (by omega)
  have e2 : IntKind.i64.wrap q = q := wrap_i64 (by omega) (by omega)
  have c1 : ¬ ((it.bytes : Int) * q > 281474976710656) := by rw [Int.mul_comm]; omega
  have c2 : ¬ (q < 0) := by omega
  have c3 : ¬ (p < 0) := by omega
  have c4 : ¬ (p > q) := by omega
  have hcond : ((decide (q < 0) || decide ((it.bytes : Int) * q > 2 ^ 48)) || decide (p < 0) || decide (p > q)) = false := by
    simp [c2, c3, c4]; omega
  have hzz : (zeroValue e).run P w = .ok z w := by simp [zeroValue, typeInfo, hi, hz]
  have c1' : ¬ (281474976710656 < (it.bytes : Int) * q) := by omega
  have hr0 : Array.map (fun x => (default : Value)) (Array.range 0) = #[] := Array.eq_empty_of_size_eq_zero (by simp)
  by_cases h0 : q.toNat * it.size = 0
  · have hzc0 : zc z.cells (q.toNat * it.size) = #[] := by rw [h0]; simp [zc]
    rw [hzc0]
    simp only [Instr.makeSlice]
    simp [run_underlying ht, asInt, asIntOf, sizeOf, typeInfo, hi, e1, e2, c2, c3, c4, c1', h0, newRow, hr0]
  · simp only [Instr.makeSlice]
    simp [run_underlying ht, asInt, asIntOf, sizeOf, typeInfo, hi, e1, e2, c2, c3, c4, c1', h0, hzz, newRow, zc]

end
end Go.Ab
