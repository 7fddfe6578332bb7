/- Copy; from operations to pieces. -/
import Derived.Test.YtdckmpaakheppaaM
namespace Go.Ab
set_option linter.unusedSimpArgs false
set_option linter.unusedVariables false
open Go

section
variable {P : Program} {St : Nat → Prop} {m : Map} {L : Heap} {w w' : World} {o : Oper} {a : Act} {s : S} {K : V → Heap → Prop}

theorem cpy_sound (nm : Nat) (ty t t2 e : TypeId) (x y : Operand) (it : TypeInfo) (ht : P.underlying t = some (.slice e)) (hi : P.info? e = some it)
    (hty : o.type = ty) (hop : o.op = .call { callee := .builtin .copy, args := #[x, y], argTypes := #[t, t2] }) (hs : SimS St m s a w)
    (hk : eff P nm (.cpy (Opd.of x) (Opd.of y) it.size) s K) : ∃ v L' c w', (execOp a.eval o).run P w = .ok (.value c) w' ∧ K v L' ∧ Post St m s.L w v L' c w' := by
  have hx := ev_rel hs x
  have hy := ev_rel hs y
  simp only [eff, effC] at hk
  split at hk
  case h_2 => exact hk.elim
  rename_i new hsrc
  have run : ∀ c w', (Builtin.copy_ #[t, t2] ty #[a.eval x, a.eval y]).run P w = .ok c w' → (execOp a.eval o).run P w = .ok (.value c) w' := by
    intro c w' hr
    simp only [execOp, hop]
    simp [resolve, invoke, builtin, hty, hr]
  split at hk
  case h_2 => exact hk.elim
  rename_i X r off n esz' ver hex
  split at hk
  case h_2 => exact hk.elim
  rename_i cells hL
  obtain ⟨⟨hver, hoff, hlen, hesz, hall⟩, hk⟩ := hk
  rw [hex] at hx
  obtain ⟨cells', base, cap, hL', hv', hc, hncap, ha, hf⟩ := hx.sl'
  rw [hL] at hL'; cases hL'
  obtain ⟨ad, cap', hcy, hfc⟩ := run_firstCells (P := P) hs.objs hy hsrc hlen hesz hall
  obtain ⟨cs, hcs, hrel, hone⟩ := hfc (min (srcLen (s.ev (Opd.of y))) n) (Nat.min_le_left _ _)
  have hmin : Nat.min (srcLen (s.ev (Opd.of y))) n = min (srcLen (s.ev (Opd.of y))) n := rfl
  have htk : new.take (min (srcLen (s.ev (Opd.of y))) n * it.size) = new.take (n * it.size) := by
    rcases Nat.le_total (srcLen (s.ev (Opd.of y))) n with h | h
    · rw [Nat.min_eq_left h, List.take_of_length_le (by omega), List.take_of_length_le]
      rw [hlen]; exact Nat.mul_le_mul_right _ h
    · rw [Nat.min_eq_right h]
  rw [htk] at hrel
  have hr0 : ∀ w', (match base with | some b => storeCells b cs.toList | none => pure () : Sem Unit).run P w = .ok () w' → (Builtin.copy_ #[t, t2] ty #[a.eval x, a.eval y]).run P w = .ok (.int .i64 (min (srcLen (s.ev (Opd.of y))) n : Nat)) w' := by
    intro w' hst
    have hcsw := hcs w rfl
    rw [hcy] at hcsw
    rw [hc, hcy]
    cases base with
    | none =>
      simp only [Sem.run_pure, Result.ok.injEq, true_and] at hst
      subst hst
      simp [Builtin.copy_, run_underlying ht, sizeOf, typeInfo, hi, Builtin.lenOf, hmin, hcsw, goInt]
    | some b =>
      simp only at hst
      simp [Builtin.copy_, run_underlying ht, sizeOf, typeInfo, hi, Builtin.lenOf, hmin, hcsw, hst, goInt]
  have hcsz := hrel.1
  have hcap : cap = 0 ∨ 0 < cap := by omega
  by_cases hz : cs.size = 0
  · have hcs0 : cs = #[] := Array.eq_empty_of_size_eq_zero hz
    have hnt : new.take (n * it.size) = [] := List.eq_nil_of_length_eq_zero (by omega)
    rw [hnt] at hk
    obtain ⟨h1, h2, h3⟩ := hs.objs.congr (L' := s.L.put X r (splice cells off [])) (fun Y q => by
      rw [get_put X r _ s.L cells hL]; split
      · rename_i e; obtain ⟨rfl, rfl⟩ := e; simp [hL, splice]
      · rfl)
    exact ⟨_, _, _, w, run _ _ (hr0 w (by rw [hcs0]; cases base <;> rfl)), hk, ⟨St, m, h1, .d (.int _ _), .refl _ _, h2, fun _ h => .inl h, h3⟩⟩
  · have hn0 : 0 < n := by
      rcases Nat.eq_zero_or_pos n with h | h
      · subst h; rw [Nat.zero_mul, List.take_zero] at hcsz; exact absurd hcsz hz
      · exact h
    rcases hf hver with hz0 | ⟨b, C, hm, hC, rfl⟩
    · omega
    · obtain ⟨p1, p2, arr, el, p3, p4, p5, p6⟩ := hs.objs.obj X r cells b C hL hm
      have hle : cs.size ≤ n * it.size := by rw [hcsz, List.length_take]; omega
      obtain ⟨w', hst, hw⟩ := run_storeCells (P := P) b off el cs.toList 0 w arr p3 (by simp; omega) hone
      have hp : PRel St m s.L w (splice cells off (new.take (n * it.size))) (spliceA arr (off + 0) cs.toList) := splice_pre _ _ _ _ _ ⟨by omega, p6⟩ (by simpa using hrel)
      obtain ⟨h1, h2, h3, h4⟩ := hs.objs.wrote hL hm (by rw [splice_length]; exact Nat.le_refl _) hw (by rw [spliceA_size]; exact p4) hp
      exact ⟨_, _, _, w', run _ _ (hr0 w' hst), hk, ⟨St, m, h1, .d (.int _ _), h3, h2, fun _ h => .inl h, h4⟩⟩

end

/-- A zero's cells, where they are as many as the type's size. -/
def zeroI (P : Program) (t : TypeId) : Option (TypeInfo × Value) :=
  match P.info? t with
  | some it => match it.zero with
    | some z => if z.cells.size = it.size then some (it, z) else none
    | none => none
  | none => none

theorem zeroI_spec {P : Program} {t : TypeId} {it : TypeInfo} {z : Value} (h : zeroI P t = some (it, z)) : P.info? t = some it ∧ it.zero = some z ∧ z.cells.size = it.size := by
  unfold zeroI at h
  split at h
  · rename_i it' hi
    split at h
    · rename_i z' hz
      split at h
      · rename_i hs; cases h; exact ⟨hi, hz, hs⟩
      · cases h
    · cases h
  · cases h

def compM (P : Program) (pure : Nat) (op : Op) : Option Inst :=
  match op with
  | .load t x => match szT P t, aggT P t with
    | some n, some g => if (g = true ∨ n = 1) then some (.load (Opd.of x) n g) else none
    | _, _ => none
  | .store t p x => (szT P t).map fun n => .store (Opd.of p) (Opd.of x) n
  | .alloc t => (zeroI P t).map fun (_, z) => .alloc (z.cells.toList.map Value.toV) t
  | .box t x => (szT P t).map fun n => .box (Opd.of x) n t
  | .buildSlice t len parts => match P.underlying t with
    | some (.slice e) => match zeroI P e with
      | some (it, z) => if len * it.size ≤ 16777216 then
          some (.bslice ((zc z.cells (len * it.size)).toList.map Value.toV) len it.size (parts.toList.map fun (i, x) => (i * it.size, it.size, Opd.of x)) e) else none
      | none => none
    | _ => none
  | .makeSlice t n c => match P.underlying t with
    | some (.slice e) => match zeroI P e with
      | some (it, z) => if 0 < it.bytes ∧ 0 < it.size then some (.mksl (z.cells.toList.map Value.toV) it.size it.bytes (Opd.of n) (Opd.of c) e) else none
      | none => none
    | _ => none
  | .call c => match c.callee with
    | .builtin b => match c.args.toList, c.argTypes.toList with
      | [x, y], [t, t2] => match P.underlying t, P.underlying t2 with
        | some (.slice e), some (.slice _) => match zeroI P e with
          | some (it, _) => if b = .append then (if 0 < it.bytes then some (.app (Opd.of x) (Opd.of y) it.size it.bytes) else none)
            else if b = .copy then some (.cpy (Opd.of x) (Opd.of y) it.size) else none
          | none => none
        | _, _ => none
      | _, _ => none
    | .value f => match pure with
      | 0 => some (.callA (Opd.of f) (c.args.toList.map Opd.of))
      | 1 => some (.callC (Opd.of f) (c.args.toList.map Opd.of))
      | k + 2 => some (.callS k (Opd.of f) (c.args.toList.map Opd.of))
    | _ => none
  | _ => none

def compI (P : Program) (pure : Nat) (op : Op) : Option Inst :=
  match compH P op with
  | some hi => some (.h hi)
  | none => compM P pure op

end Go.Ab
