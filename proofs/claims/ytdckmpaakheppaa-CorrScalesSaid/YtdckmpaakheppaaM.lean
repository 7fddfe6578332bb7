/- Append, copy. -/
import Derived.Test.YtdckmpaakheppaaL
namespace Go.Ab
set_option linter.unusedSimpArgs false
set_option linter.unusedVariables false
open Go

theorem zeroCells_size (z : Array Value) (n : Nat) : (Builtin.zeroCells z n).size = n * z.size := by simp [Builtin.zeroCells]

section
variable {P : Program} {St : Nat → Prop} {m : Map} {L : Heap} {w w' : World} {o : Oper} {a : Act} {s : S} {K : V → Heap → Prop}

theorem PRel.append {xs ys : List V} {as bs : Array Value} (rest : Array Value) (hx : LRel St m L w xs as) (hy : LRel St m L w ys bs) : PRel St m L w (xs ++ ys) (as ++ bs ++ rest) := by
  have h1 := hx.1
  have h2 := hy.1
  refine ⟨by simp; omega, fun j hj => ?_⟩
  rw [List.length_append] at hj
  by_cases h : j < xs.length
  · have e1 : (xs ++ ys).getD j .any = xs.getD j .any := by simp [List.getD_eq_getElem?_getD, List.getElem?_append_left h]
    have e2 : (as ++ bs ++ rest).getD j undef = as.getD j undef := by
      simp [Array.getD_eq_getD_getElem?, Array.getElem?_append, show j < as.size from by omega]
    rw [e1, e2]; exact hx.2 j h
  · have e1 : (xs ++ ys).getD j .any = ys.getD (j - xs.length) .any := by simp [List.getD_eq_getElem?_getD, List.getElem?_append_right (Nat.not_lt.1 h)]
    have e2 : (as ++ bs ++ rest).getD j undef = bs.getD (j - xs.length) undef := by
      simp [Array.getD_eq_getD_getElem?, Array.getElem?_append, h, h1, show j - xs.length < bs.size from by omega]
    rw [e1, e2]; exact hy.2 _ (by omega)

theorem run_append_in (ty t t2 e e2 : TypeId) (it : TypeInfo) (ht : P.underlying t = some (.slice e)) (ht2 : P.underlying t2 = some (.slice e2)) (hi : P.info? e = some it)
    (base : Option Addr) (n cap k : Nat) (ad : Option Addr) (c' : Nat) (new : Array Value)
    (hnew : (Builtin.firstCells it.size k (.slice ad k c')).run P w = .ok new w) (hle : n + k ≤ cap)
    (hst : (match base with | some b => storeCells (b.add (n * it.size)) new.toList | none => pure () : Sem Unit).run P w = .ok () w') :
    (Builtin.append_ #[t, t2] ty #[.slice base n cap, .slice ad k c']).run P w = .ok (.slice base (n + k) cap) w' := by
  cases base with
  | none =>
    simp only [Sem.run_pure, Result.ok.injEq, true_and] at hst
    subst hst
    simp [Builtin.append_, run_underlying ht, run_underlying ht2, sizeOf, typeInfo, hi, Builtin.lenOf, hle, hnew]
  | some b =>
    simp only at hst
    simp [Builtin.append_, run_underlying ht, run_underlying ht2, sizeOf, typeInfo, hi, Builtin.lenOf, hle, hnew, hst]

theorem run_append_new (ty t t2 e e2 : TypeId) (it : TypeInfo) (z : Value) (ht : P.underlying t = some (.slice e)) (ht2 : P.underlying t2 = some (.slice e2)) (hi : P.info? e = some it) (hz : it.zero = some z) (hb : 0 < it.bytes)
    (base : Option Addr) (n cap k : Nat) (ad : Option Addr) (c' : Nat) (old new : Array Value) (hbytes : (n + k) * it.bytes ≤ 140737488355328) (hlt : cap < n + k)
    (hboth : ∀ w' : World, Same w w' → (Builtin.firstCells it.size n (.slice base n cap)).run P w' = .ok old w' ∧ (Builtin.firstCells it.size k (.slice ad k c')).run P w' = .ok new w') :
    ∃ nc d, n + k ≤ nc ∧ (Builtin.append_ #[t, t2] ty #[.slice base n cap, .slice ad k c']).run P w = .ok (.slice (some ⟨w.heap.size, 0, none⟩) (n + k) nc)
        { w with drawn := d, heap := w.heap.push (.cells (old ++ new ++ Builtin.zeroCells z.cells (nc - (n + k))) e (0, 0)) } := by
  have hb1 : (n + k) * 1 ≤ (n + k) * it.bytes := Nat.mul_le_mul_left _ hb
  have hfits := growslice_fits (need := n + k) (old := cap) (bytes := it.bytes) hlt hbytes
  refine ⟨Question.cut (.appendCap (n + k) cap e) (w.tape w.drawn (.appendCap (n + k) cap e)), w.drawn + 1, by simp [Question.cut], ?_⟩
  obtain ⟨h1, h2⟩ := hboth w.drew ⟨rfl, rfl, rfl, rfl⟩
  have hn1 : ¬ (n + k ≤ cap) := by omega
  have hn2 : ¬ (Builtin.nextslicecap (n + k) cap * it.bytes > 281474976710656) := by omega
  have hf : Question.forced (.appendCap (n + k) cap e) = false := rfl
  have hby : it.bytes ≠ 0 := by omega
  simp [Builtin.append_, run_underlying ht, run_underlying ht2, sizeOf, typeInfo, hi, Builtin.lenOf, hn1, hn2, hf, hby, h1, h2, zeroValue, hz, newRow]
  rfl

/-- Heaps that give the same. -/
theorem Objs.congr {L' : Heap} (ho : Objs St m L w) (h : ∀ X r, L'.get X r = L.get X r) : Objs St m L' w ∧ Ext St St m m L L' w w ∧ Src m L m L' w := by
  have hext : Ext St St m m L L' w w := ⟨fun _ h => h, fun _ _ => rfl, fun X r c hc => ⟨c, by rw [h]; exact hc, Nat.le_refl _, fun _ => rfl⟩⟩
  refine ⟨⟨ho.st, fun X r c hc => ho.nil X r c (by rw [← h]; exact hc), fun X r c b C hc hm => ?_, fun X r Y q b C C' h1 h2 => ho.inj X r Y q b C C' (by rw [← h]; exact h1) (by rw [← h]; exact h2)⟩, hext, fun X r b C h1 h2 => .inl ⟨by rw [← h]; exact h1, h2⟩⟩
  obtain ⟨h1, h2, arr, el, h3, h4, h5, h6⟩ := ho.obj X r c b C (by rw [← h]; exact hc) hm
  exact ⟨h1, h2, arr, el, h3, h4, h5, fun j hj => (h6 j hj).mono hext⟩

/-- A new name that has no block yet: an empty row. -/
theorem Objs.madeNil (ho : Objs St m L w) {X : Nat} (hX : L.fam X = none) :
    Objs St (fun Y r => if Y = X then none else m Y r) (L.ins X [[]]) w ∧ Ext St St m (fun Y r => if Y = X then none else m Y r) L (L.ins X [[]]) w w ∧
      Src m L (fun Y r => if Y = X then none else m Y r) (L.ins X [[]]) w := by
  have hne : ∀ Y r c, L.get Y r = some c → Y ≠ X := by intro Y r c h e; subst e; rw [get_none_of_fam hX] at h; cases h
  have hext : Ext St St m (fun Y r => if Y = X then none else m Y r) L (L.ins X [[]]) w w :=
    ⟨fun _ h => h, fun _ _ => rfl, fun Y r c hc => ⟨c, by rw [get_ins hX, if_neg (hne Y r c hc)]; exact hc, Nat.le_refl _, fun _ => by simp [hne Y r c hc]⟩⟩
  have back : ∀ Y r b C, (if Y = X then none else m Y r) = some (b, C) → Y ≠ X ∧ m Y r = some (b, C) := by
    intro Y r b C h
    by_cases e : Y = X
    · simp [e] at h
    · simp [e] at h; exact ⟨e, h⟩
  refine ⟨⟨ho.st, fun Y r c hc hm => ?_, fun Y r c b C hc hm => ?_, fun Y r Z q b C C' h1 h2 h3 h4 => ?_⟩, hext, fun Y r b C h1 h2 => ?_⟩
  · rw [get_ins hX] at hc
    by_cases e : Y = X
    · subst e; simp only [if_true] at hc
      split at hc
      · cases hc; rfl
      · cases hc
    · rw [if_neg e] at hc; simp [e] at hm; exact ho.nil Y r c hc hm
  · obtain ⟨e, hm⟩ := back _ _ _ _ hm
    rw [get_ins hX, if_neg e] at hc
    obtain ⟨h1, h2, arr, el, h3, h4, h5, h6⟩ := ho.obj Y r c b C hc hm
    exact ⟨h1, h2, arr, el, h3, h4, h5, fun j hj => (h6 j hj).mono hext⟩
  · obtain ⟨e1, h3⟩ := back _ _ _ _ h3
    obtain ⟨e2, h4⟩ := back _ _ _ _ h4
    rw [get_ins hX, if_neg e1] at h1
    rw [get_ins hX, if_neg e2] at h2
    exact ho.inj _ _ _ _ _ _ _ h1 h2 h3 h4
  · obtain ⟨e, h2⟩ := back _ _ _ _ h2
    rw [get_ins hX, if_neg e] at h1
    exact .inl ⟨h1, h2⟩

theorem splice_append : ∀ (new cells : List V) (off : Nat), off = cells.length → splice (cells ++ List.replicate new.length .any) off new = cells ++ new := by
  intro new
  induction new with
  | nil => intro cells off _; simp [splice]
  | cons v new ih =>
    intro cells off h
    subst h
    simp only [splice, List.length_cons, List.replicate_succ]
    have e : (cells ++ V.any :: List.replicate new.length V.any).set cells.length v = (cells ++ [v]) ++ List.replicate new.length V.any := by
      rw [List.set_append_right _ _ (Nat.le_refl _)]; simp
    rw [e, ih (cells ++ [v]) _ (by simp)]
    simp

theorem app_sound (nm : Nat) (ty t t2 e e2 : TypeId) (x y : Operand) (it : TypeInfo) (z : Value) (ht : P.underlying t = some (.slice e)) (ht2 : P.underlying t2 = some (.slice e2)) (hi : P.info? e = some it) (hz : it.zero = some z)
    (hb : 0 < it.bytes) (hzs : z.cells.size = it.size) (hty : o.type = ty) (hop : o.op = .call { callee := .builtin .append, args := #[x, y], argTypes := #[t, t2] }) (hs : SimS St m s a w)
    (hk : eff P nm (.app (Opd.of x) (Opd.of y) it.size it.bytes) s K) : ∃ v L' c w', (execOp a.eval o).run P w = .ok (.value c) w' ∧ K v L' ∧ Post St m s.L w v L' c w' := by
  have hx := ev_rel hs x
  have hy := ev_rel hs y
  simp only [eff, effC] at hk
  split at hk
  case h_2 => exact hk.elim
  rename_i new hsrc
  have run : ∀ c w', (Builtin.append_ #[t, t2] ty #[a.eval x, a.eval y]).run P w = .ok c w' → (execOp a.eval o).run P w = .ok (.value c) w' := by
    intro c w' hr
    simp only [execOp, hop]
    simp [resolve, invoke, builtin, hty, hr]
  split at hk
  · rename_i hex
    obtain ⟨hX, ⟨hby, hlen, hesz, hall⟩, hk⟩ := hk
    rw [hex] at hx
    have hc := hx.nil'
    obtain ⟨ad, cap', hcy, hfc⟩ := run_firstCells (P := P) hs.objs hy hsrc hlen hesz hall
    obtain ⟨cs, hcs, hrel, hone⟩ := hfc _ (Nat.le_refl _)
    have htk : new.take (srcLen (s.ev (Opd.of y)) * it.size) = new := List.take_of_length_le (by omega)
    rw [htk] at hrel
    by_cases h0 : srcLen (s.ev (Opd.of y)) = 0
    · have hnew : new = [] := List.eq_nil_of_length_eq_zero (by rw [hlen, h0]; simp)
      subst hnew
      have hr := run_append_in (P := P) (w := w) (w' := w) ty t t2 e e2 it ht ht2 hi none 0 0 _ ad cap' cs (by rw [← hcy]; exact hcs w rfl) (by omega) rfl
      obtain ⟨h1, h2, h3⟩ := hs.objs.madeNil hX
      refine ⟨_, _, _, w, run _ _ (by rw [hc, hcy]; exact hr), hk, ⟨St, _, h1, ?_, .refl _ _, h2, fun _ h => .inl h, h3⟩⟩
      refine .sl (get_ins_self hX) (by simp [h0]) none 0 (by simp [h0]) (by omega) (fun h => by omega) fun _ => .inl rfl
    · obtain ⟨nc, d, hnc, hr⟩ := run_append_new (P := P) (w := w) ty t t2 e e2 it z ht ht2 hi hz hb none 0 0 (srcLen (s.ev (Opd.of y))) ad cap' #[] cs (by simpa using hby) (by omega)
        (fun w' hw' => ⟨rfl, by rw [← hcy]; exact hcs w' hw'.heap⟩)
      have hp : PRel St m s.L w new (#[] ++ cs ++ Builtin.zeroCells z.cells (nc - (0 + srcLen (s.ev (Opd.of y))))) := by simpa using PRel.append _ LRel.nil hrel
      obtain ⟨h1, h2, h3, h4⟩ := hs.objs.made (w' := { w with drawn := d, heap := w.heap.push (.cells (#[] ++ cs ++ Builtin.zeroCells z.cells (nc - (0 + srcLen (s.ev (Opd.of y))))) e (0, 0)) }) hX rfl rfl rfl rfl hp
      refine ⟨_, _, _, _, run _ _ (by rw [hc, hcy]; exact hr), hk, ⟨St, _, h1, ?_, h3, h2, fun _ h => .inl h, h4⟩⟩
      have hcsz := hrel.1
      refine .sl (get_ins_self hX) (by omega) _ nc (by rw [Nat.zero_add]) (by omega) (fun _ => rfl) fun _ => .inr ⟨w.heap.size, (#[] ++ cs ++ Builtin.zeroCells z.cells (nc - (0 + srcLen (s.ev (Opd.of y))))).size, by simp [Map.set], ?_, rfl⟩
      simp only [Array.size_append, zeroCells_size, hcsz, hlen, hzs, Nat.zero_add, List.size_toArray, List.length_nil, ← Nat.add_mul]
      exact Nat.mul_le_mul_right _ (by omega)
  · rename_i X r off n esz' ver hex
    split at hk
    case h_2 => exact hk.elim
    rename_i cells hL
    obtain ⟨⟨hver, rfl, rfl, hnv, hby, hlen, hesz, hall⟩, hk⟩ := hk
    rw [hex] at hx
    obtain ⟨cells', base, cap, hL', hv', hc, hncap, ha, hf⟩ := hx.sl'
    rw [hL] at hL'; cases hL'
    obtain ⟨ad, cap', hcy, hfc⟩ := run_firstCells (P := P) hs.objs hy hsrc hlen hesz hall
    obtain ⟨cs, hcs, hrel, hone⟩ := hfc _ (Nat.le_refl _)
    have htk : new.take (srcLen (s.ev (Opd.of y)) * it.size) = new := List.take_of_length_le (by omega)
    rw [htk] at hrel
    have hcsz := hrel.1
    generalize hkk : srcLen (s.ev (Opd.of y)) = k at *
    have hgp : (s.L.put X r (cells ++ new)).get X r = some (cells ++ new) := by rw [get_put X r _ s.L cells hL]; simp
    by_cases h0 : k = 0
    · have hnew : new = [] := List.eq_nil_of_length_eq_zero (by rw [hlen, h0]; simp)
      subst hnew
      have hcs0 : cs = #[] := Array.eq_empty_of_size_eq_zero (by simpa using hcsz)
      subst hcs0
      have hr := run_append_in (P := P) (w := w) (w' := w) ty t t2 e e2 it ht ht2 hi base n cap _ ad cap' #[] (by rw [← hcy]; exact hcs w rfl) (by omega) (by cases base <;> rfl)
      obtain ⟨h1, h2, h3⟩ := hs.objs.congr (L' := s.L.put X r (cells ++ [])) (fun Y q => by
        rw [get_put X r _ s.L cells hL]; split
        · rename_i e; obtain ⟨rfl, rfl⟩ := e; simp [hL]
        · rfl)
      refine ⟨_, _, _, w, run _ _ (by rw [hc, hcy]; exact hr), hk, ⟨St, m, h1, ?_, .refl _ _, h2, fun _ h => .inl h, h3⟩⟩
      have := hx.mono h2
      rw [hc] at this
      simpa [h0] using this
    · by_cases hroom : n + k ≤ cap
      · rcases hf hver with hz0 | ⟨b, C, hm, hC, rfl⟩
        · omega
        · obtain ⟨p1, p2, arr, el, p3, p4, p5, p6⟩ := hs.objs.obj X r cells b C hL hm
          have hmul : (n + k) * it.size ≤ cap * it.size := Nat.mul_le_mul_right _ hroom
          rw [Nat.add_mul] at hmul
          obtain ⟨w', hst, hw⟩ := run_storeCells (P := P) b (n * it.size) el cs.toList 0 w arr p3 (by simp; omega) hone
          have hr := run_append_in (P := P) (w := w) (w' := w') ty t t2 e e2 it ht ht2 hi (some ⟨b, 0, none⟩) n cap _ ad cap' cs (by rw [← hcy]; exact hcs w rfl) hroom (by show (storeCells (Addr.add ⟨b, 0, none⟩ (n * it.size)) cs.toList).run P w = _; rw [add_none, Nat.zero_add]; exact hst)
          have hp : PRel St m s.L w (cells ++ new) (spliceA arr (n * it.size + 0) cs.toList) := by
            have q1 : PRel St m s.L w (splice (cells ++ List.replicate new.length .any) (n * it.size + 0) new) (spliceA arr (n * it.size + 0) cs.toList) := by
              refine splice_pre _ _ _ _ _ ⟨by simp; omega, fun j hj => ?_⟩ (by simpa using hrel)
              by_cases hjl : j < cells.length
              · have e1 : (cells ++ List.replicate new.length V.any).getD j .any = cells.getD j .any := by simp [List.getD_eq_getElem?_getD, List.getElem?_append_left hjl]
                rw [e1]; exact p6 j hjl
              · have e1 : (cells ++ List.replicate new.length V.any).getD j .any = .any := by
                  rw [List.getD_eq_getElem?_getD, List.getElem?_append_right (Nat.not_lt.1 hjl), List.getElem?_replicate]
                  split <;> rfl
                rw [e1]; exact .any _
            rw [splice_append new cells (n * it.size + 0) (by omega)] at q1
            exact q1
          obtain ⟨h1, h2, h3, h4⟩ := hs.objs.wrote hL hm (cells := cells ++ new) (by simp) hw (by rw [spliceA_size]; exact p4) hp
          refine ⟨_, _, _, w', run _ _ (by rw [hc, hcy]; exact hr), hk, ⟨St, m, h1, ?_, h3, h2, fun _ h => .inl h, h4⟩⟩
          exact .sl hgp (by simp; omega) _ cap rfl hroom (fun _ => rfl) fun _ => .inr ⟨b, C, hm, by omega, rfl⟩
      · have holdc : ∃ old : Array Value, (∀ w' : World, w'.heap = w.heap → (Builtin.firstCells it.size n (.slice base n cap)).run P w' = .ok old w') ∧ LRel St m s.L w cells old := by
          by_cases hn0 : n = 0
          · subst hn0
            have hcell0 : cells = [] := List.eq_nil_of_length_eq_zero (by omega)
            subst hcell0
            refine ⟨#[], fun w' _ => ?_, LRel.nil⟩
            cases base with
            | none => rfl
            | some ad => simp [Builtin.firstCells, loadCells, loadCellsFrom]
          · rcases hf hver with hz0 | ⟨b, C, hm, hC, rfl⟩
            · omega
            · obtain ⟨p1, p2, arr, el, p3, p4, p5, p6⟩ := hs.objs.obj X r cells b C hL hm
              obtain ⟨old, hold, hsz, hget⟩ := run_loadCells2 (P := P) (w := w) b 0 (n * it.size) (fun j => arr.getD (0 + j) undef) (fun j hj => cell_of_block p3 (by omega))
              exact ⟨old, hold, by omega, fun j hj => by rw [hget j (by omega), Nat.zero_add]; exact p6 j hj⟩
        obtain ⟨old, hold, holdr⟩ := holdc
        obtain ⟨nc, d, hnc, hr⟩ := run_append_new (P := P) (w := w) ty t t2 e e2 it z ht ht2 hi hz hb base n cap k ad cap' old cs hby (by omega)
          (fun w' hw' => ⟨hold w' hw'.heap, by rw [← hcy]; exact hcs w' hw'.heap⟩)
        have hp : PRel St m s.L w (cells ++ new) (old ++ cs ++ Builtin.zeroCells z.cells (nc - (n + k))) := PRel.append _ holdr hrel
        have hnewpos : 0 < new.length := by rw [hlen]; exact Nat.mul_pos (by omega) hesz
        obtain ⟨h1, h2, h3, h4⟩ := hs.objs.grown (w' := { w with drawn := d, heap := w.heap.push (.cells (old ++ cs ++ Builtin.zeroCells z.cells (nc - (n + k))) e (0, 0)) }) hL (cells := cells ++ new) (by simp; omega) rfl rfl rfl rfl hp
        refine ⟨_, _, _, _, run _ _ (by rw [hc, hcy]; exact hr), hk, ⟨St, _, h1, ?_, h3, h2, fun _ h => .inl h, h4⟩⟩
        refine .sl hgp (by simp; omega) _ nc rfl (by omega) (fun _ => rfl) fun _ => .inr ⟨w.heap.size, (old ++ cs ++ Builtin.zeroCells z.cells (nc - (n + k))).size, by simp [Map.set], ?_, rfl⟩
        have := holdr.1
        simp only [Array.size_append, zeroCells_size, hcsz, this, hlen, hzs, hver, ← hnv, Nat.zero_add, ← Nat.add_mul]
        exact Nat.mul_le_mul_right _ (by omega)
  · exact hk.elim

end
end Go.Ab
