/- What a piece that asks nothing of memory promises, the operation keeps: structs, arrays, places. -/
import Derived.Test.YtdckmpaakheppaaE
namespace Go.Ab
set_option linter.unusedSimpArgs false
set_option linter.unusedVariables false
open Go

section
variable {P : Program} {St : Nat → Prop} {m : Map} {s : S} {a : Act} {o : Oper} {w : World} {K : V → Prop} {L : Heap}

theorem LRel.extract {xs : List V} {cs : Array Value} (h : LRel St m L w xs cs) (off n : Nat) (hn : off + n ≤ xs.length) :
    LRel St m L w ((xs.drop off).take n) (cs.extract off (off + n)) := by
  have h1 := h.1
  refine ⟨by simp; omega, fun j hj => ?_⟩
  have hj' : j < n := by simp at hj; omega
  have e1 : ((xs.drop off).take n).getD j .any = xs.getD (off + j) .any := by
    simp [List.getD_eq_getElem?_getD, hj']
  have e2 : (cs.extract off (off + n)).getD j undef = cs.getD (off + j) undef := by
    have : j < min (off + n) cs.size - off := by omega
    have h3 : off + j < cs.size := by omega
    simp [Array.getD_eq_getD_getElem?, this, h3]
  rw [e1, e2]; exact h.2 _ (by omega)

theorem run_szT {t n : Nat} (h : szT P t = some n) : (sizeOf t).run P w = .ok n w := by
  unfold szT at h
  cases hi : P.info? t with
  | none => simp [hi] at h
  | some i => simp [hi] at h; simp [sizeOf, typeInfo, hi, h]

theorem run_aggT {t : Nat} {g : Bool} (h : aggT P t = some g) : (isAgg t).run P w = .ok g w := by
  unfold aggT at h
  cases hi : P.underlying t with
  | none => simp [hi] at h
  | some d =>
    rw [hi] at h
    simp only [isAgg, Sem.run_bind, run_underlying hi, Result.andThen]
    cases d <;> simp at h <;> subst h <;> rfl

theorem run_part {t n off : Nat} {g : Bool} {xs : List V} {cs : Array Value} (hg : aggT P t = some g) (hn : szT P t = some n) (h1 : g = true ∨ n = 1) (h0 : 0 < n)
    (h : LRel St m L w xs cs) (hl : off + n ≤ xs.length) : ∃ c, (part t cs off).run P w = .ok c w ∧ VRel St m L w (ldv g n off xs) c := by
  have hsz := h.1
  cases g with
  | true =>
    refine ⟨.agg (cs.extract off (off + n)), ?_, ?_⟩
    · simp [part, run_aggT hg, run_szT hn]
    · simpa [ldv] using (h.extract off n hl).agg
  | false =>
    obtain rfl : n = 1 := by simpa using h1
    have hlt : off < cs.size := by omega
    refine ⟨cs.getD off undef, ?_, ?_⟩
    · simp [part, run_aggT hg, hlt, Array.getD_eq_getD_getElem?]
    · simpa [ldv] using h.2 off (by omega)

theorem h_fld (t : TypeId) (x : Operand) (i : Nat) (fields : Array Field) (fd : Field) (n : Nat) (g : Bool) (ht : P.underlying t = some (.struct fields)) (hf : fields[i]? = some fd)
    (hn : szT P fd.type = some n) (hg : aggT P fd.type = some g) (h1 : g = true ∨ n = 1) (ho : o.op = .field t x i) (hs : SimS St m s a w) (hk : hv (.fld (Opd.of x) fd.offset n g) s.ev K) : HOk P St m s.L a o w K := by
  have hx := ev_rel hs x
  simp only [hv] at hk
  split at hk
  · rename_i xs h; rw [h] at hx
    obtain ⟨cs, hc, hsz, hr⟩ := hx.agg'
    obtain ⟨hl, h0, hk⟩ := hk
    obtain ⟨c, hrun, hrel⟩ := run_part (P := P) hg hn h1 h0 ⟨hsz, hr⟩ hl
    refine .mk _ c ?_ hk hrel
    simp only [execOp, ho, hc]
    simp [Instr.field, run_underlying ht, hf, asAgg, hrun]
  · exact hk.elim

theorem h_idxv (t : TypeId) (x ix : Operand) (len : Nat) (e : TypeId) (n : Nat) (g : Bool) (ht : P.underlying t = some (.array len e))
    (hn : szT P e = some n) (hg : aggT P e = some g) (h1 : g = true ∨ n = 1) (ho : o.op = .index t x ix) (hs : SimS St m s a w) (hk : hv (.idxv (Opd.of x) (Opd.of ix) len n g) s.ev K) : HOk P St m s.L a o w K := by
  have hx := ev_rel hs x
  have hi := ev_rel hs ix
  simp only [hv] at hk
  split at hk
  · rename_i xs k q h h2; rw [h] at hx; rw [h2] at hi
    obtain ⟨cs, hc, hsz, hr⟩ := hx.agg'
    obtain ⟨⟨hq0, hq1⟩, hl, h0, hk⟩ := hk
    obtain ⟨c, hrun, hrel⟩ := run_part (P := P) (off := q.toNat * n) hg hn h1 h0 ⟨hsz, hr⟩ hl
    refine .mk _ c ?_ hk hrel
    simp only [execOp, ho, hc, hi.int]
    simp [Instr.index, asIntOf, run_underlying ht, run_szT hn, hq0, hq1, hrun]
  · exact hk.elim

theorem h_padd (t : TypeId) (x : Operand) (i : Nat) (fields : Array Field) (fd : Field) (n : Nat) (ht : P.underlying t = some (.struct fields)) (hf : fields[i]? = some fd)
    (hn : szT P fd.type = some (n + 1)) (ho : o.op = .fieldAddr t x i) (hs : SimS St m s a w) (hk : hv (.padd (Opd.of x) fd.offset) s.ev K) : HOk P St m s.L a o w K := by
  have hx := ev_rel hs x
  simp only [hv] at hk
  have run : ∀ ad, a.eval x = .pointer (some ad) → (execOp a.eval o).run P w = .ok (.value (.pointer (some (ad.add fd.offset)))) w := by
    intro ad hc
    simp only [execOp, ho, hc]
    simp [Instr.fieldAt, run_underlying ht, hf, Instr.sureAddr, fieldPlace, run_szT hn]
  split at hk
  · rename_i h; rw [h] at hx
    obtain ⟨cells, ad, hL, hv, hc, hf⟩ := hx.ptr'
    refine .mk _ _ (run _ hc) hk (.ptr hL hv _ rfl fun e => ?_)
    obtain ⟨b, C, hm, rfl⟩ := hf e
    exact ⟨b, C, hm, add_none ..⟩
  · rename_i cells h; rw [h] at hx
    obtain ⟨blk, off, cell, hc, hst, h1, h2⟩ := hx.bptr
    obtain ⟨hle, hk⟩ := hk
    refine .mk _ _ (run _ hc) hk ?_
    rw [add_none]
    refine .d (.bptr (fun j => cell (fd.offset + j)) hst (fun j hj => ?_) fun j hj => ?_)
    · rw [Nat.add_assoc]; exact h1 _ (by simp at hj; omega)
    · have := h2 (fd.offset + j) (by simp at hj; omega)
      simpa [List.getD_eq_getElem?_getD] using this
  · exact hk.elim

theorem h_idxa (t : TypeId) (x ix : Operand) (len : Nat) (e : TypeId) (n : Nat) (ht : P.underlying t = some (.array len e)) (hn : szT P e = some n)
    (ho : o.op = .indexAddr t x ix) (hs : SimS St m s a w) (hk : hv (.idxa (Opd.of x) (Opd.of ix) len n) s.ev K) : HOk P St m s.L a o w K := by
  have hx := ev_rel hs x
  have hi := ev_rel hs ix
  simp only [hv] at hk
  have run : ∀ ad k q, a.eval x = .pointer (some ad) → a.eval ix = .int k q → 0 ≤ q → q < len → (execOp a.eval o).run P w = .ok (.value (.pointer (some (ad.add (q.toNat * n))))) w := by
    intro ad k q hc hi h0 h1
    simp only [execOp, ho, hc, hi]
    simp [Instr.indexAt, asIntOf, run_underlying ht, Instr.sureAddr, run_szT hn, h0, h1]
  split at hk
  · rename_i X r off ver k q h h2; rw [h] at hx; rw [h2] at hi
    obtain ⟨cells, ad, hL, hv, hc, hf⟩ := hx.ptr'
    obtain ⟨⟨h0, h1⟩, hk⟩ := hk
    refine .mk _ _ (run _ _ _ hc hi.int h0 h1) hk (.ptr hL hv _ rfl fun e => ?_)
    obtain ⟨b, C, hm, rfl⟩ := hf e
    exact ⟨b, C, hm, add_none ..⟩
  · rename_i cells k q h h2; rw [h] at hx; rw [h2] at hi
    obtain ⟨blk, off, cell, hc, hst, h1, h2⟩ := hx.bptr
    obtain ⟨⟨hq0, hq1⟩, hle, hk⟩ := hk
    refine .mk _ _ (run _ _ _ hc hi.int hq0 hq1) hk ?_
    rw [add_none]
    refine .d (.bptr (fun j => cell (q.toNat * n + j)) hst (fun j hj => ?_) fun j hj => ?_)
    · rw [Nat.add_assoc]; exact h1 _ (by simp at hj; omega)
    · have := h2 (q.toNat * n + j) (by simp at hj; omega)
      simpa [List.getD_eq_getElem?_getD] using this
  · exact hk.elim

theorem h_idx (t : TypeId) (x ix : Operand) (e : TypeId) (n : Nat) (ht : P.underlying t = some (.slice e)) (hn : szT P e = some n)
    (ho : o.op = .indexAddr t x ix) (hs : SimS St m s a w) (hk : hv (.idx (Opd.of x) (Opd.of ix) n) s.ev K) : HOk P St m s.L a o w K := by
  have hx := ev_rel hs x
  have hi := ev_rel hs ix
  simp only [hv] at hk
  have run : ∀ ad len cap k q, a.eval x = .slice (some ad) len cap → a.eval ix = .int k q → 0 ≤ q → q < len → (execOp a.eval o).run P w = .ok (.value (.pointer (some (ad.add (q.toNat * n))))) w := by
    intro ad len cap k q hc hi h0 h1
    simp only [execOp, ho, hc, hi]
    simp [Instr.indexAt, asIntOf, run_underlying ht, run_szT hn, h0, h1]
  split at hk
  · rename_i len get k q h h2; rw [h] at hx; rw [h2] at hi
    obtain ⟨b, cap, hc, hr⟩ := hx.bor
    obtain ⟨⟨hq0, hq1⟩, hle, hk⟩ := hk
    obtain ⟨blk, off, sz, cell, rfl, hst, h1, h2, h3⟩ := hr (by omega)
    have hsz : sz = n := by rw [← h1 q.toNat (by omega)]; exact hle
    subst hsz
    refine .mk _ _ (run _ _ _ _ _ hc hi.int hq0 hq1) hk ?_
    rw [add_none]
    refine .d (.bptr (fun j => cell q.toNat j) hst (fun j hj => ?_) fun j hj => ?_)
    · exact h2 _ _ (by omega) (by omega)
    · exact h3 _ _ (by omega) (by omega)
  · rename_i X r off len esz ver k q h h2; rw [h] at hx; rw [h2] at hi
    obtain ⟨cells, b, cap, hL, hver, hc, hcap, ha, hf⟩ := hx.sl'
    obtain ⟨⟨hq0, hq1⟩, hk⟩ := hk
    have hb := ha (by omega)
    obtain ⟨ad, rfl⟩ := Option.isSome_iff_exists.1 hb
    refine .mk _ _ (run _ _ _ _ _ hc hi.int hq0 hq1) hk (.ptr hL hver _ rfl fun e => ?_)
    rcases hf e with h0 | ⟨b, C, hm, _, he⟩
    · omega
    · cases he; exact ⟨b, C, hm, add_none ..⟩
  · exact hk.elim


theorem run_sliceBound (k : IntKind) (l y : Nat) (code : BoundsCode) (hl : l ≤ y) : (Instr.sliceBound (.int k l) y code).run P w = .ok l w := by
  simp [Instr.sliceBound, asIntOf, hl]

theorem bound_val {x : Option Operand} {d l : Nat} (hs : SimS St m s a w) (h : hv.bound s.ev (x.map Opd.of) d l) : (x = none ∧ l = d) ∨ ∃ y k, x = some y ∧ a.eval y = .int k l := by
  cases x with
  | none => exact .inl ⟨rfl, h⟩
  | some y =>
    obtain ⟨k, hk⟩ := h
    have := ev_rel hs y
    rw [hk] at this
    exact .inr ⟨y, k, rfl, this.int⟩

theorem run_sliceBounds {lo hi mx : Option Operand} {len cap l h m' : Nat} (hs : SimS St m s a w) (hl : hv.bound s.ev (lo.map Opd.of) 0 l) (hh : hv.bound s.ev (hi.map Opd.of) len h)
    (hm : (mx = none ∧ m' = cap) ∨ ∃ y k, mx = some y ∧ a.eval y = .int k m') (hmh : mx ≠ none → hi ≠ none) (h1 : l ≤ h) (h2 : h ≤ m') (h3 : m' ≤ cap) :
    (Instr.sliceBounds true len cap (lo.map a.eval) (hi.map a.eval) (mx.map a.eval)).run P w = .ok (l, h, m') w := by
  have hlv := bound_val hs hl
  have hhv := bound_val hs hh
  rcases hm with ⟨rfl, rfl⟩ | ⟨ym, km, rfl, hem⟩
  · rcases hhv with ⟨rfl, rfl⟩ | ⟨yh, kh, rfl, heh⟩
    · rcases hlv with ⟨rfl, rfl⟩ | ⟨yl, kl, rfl, hel⟩
      · simp [Instr.sliceBounds]
      · simp [Instr.sliceBounds, hel, run_sliceBound kl l _ _ h1]
    · rcases hlv with ⟨rfl, rfl⟩ | ⟨yl, kl, rfl, hel⟩
      · simp [Instr.sliceBounds, heh, run_sliceBound kh h _ _ h2]
      · simp [Instr.sliceBounds, hel, heh, run_sliceBound kh h _ _ h2, run_sliceBound kl l _ _ h1]
  · rcases hhv with ⟨rfl, rfl⟩ | ⟨yh, kh, rfl, heh⟩
    · exact absurd rfl (hmh (by simp))
    · rcases hlv with ⟨rfl, rfl⟩ | ⟨yl, kl, rfl, hel⟩
      · simp [Instr.sliceBounds, heh, hem, run_sliceBound km m' _ _ h3, run_sliceBound kh h _ _ h2]
      · simp [Instr.sliceBounds, hel, heh, hem, run_sliceBound km m' _ _ h3, run_sliceBound kh h _ _ h2, run_sliceBound kl l _ _ h1]

theorem h_slc (t : TypeId) (x : Operand) (lo hi mx : Option Operand) (e : TypeId) (n : Nat) (ht : P.underlying t = some (.slice e)) (hn : szT P e = some n) (hmh : mx ≠ none → hi ≠ none)
    (ho : o.op = .slice t x lo hi mx) (hs : SimS St m s a w) (hk : hv (.slc (Opd.of x) (lo.map Opd.of) (hi.map Opd.of) (mx.map Opd.of) n) s.ev K) : HOk P St m s.L a o w K := by
  have hx := ev_rel hs x
  simp only [hv] at hk
  have run : ∀ ad len cap l h m', a.eval x = .slice ad len cap → (Instr.sliceBounds true len cap (lo.map a.eval) (hi.map a.eval) (mx.map a.eval)).run P w = .ok (l, h, m') w →
      (execOp a.eval o).run P w = .ok (.value (.slice (if m' = l then ad else ad.map (·.add (l * n))) (h - l) (m' - l))) w := by
    intro ad len cap l h m' hc hb
    simp only [execOp, ho, hc]
    simp [Instr.sliceAt, Instr.slice, run_underlying ht, hb, run_szT hn]
  split at hk
  · rename_i h; rw [h] at hx
    have hc := hx.nil'
    obtain ⟨hz, hk⟩ := hk
    have z : ∀ (y : Option Operand), (∀ o ∈ (y.map Opd.of).toList, ∃ k, s.ev o = .d (.int k 0)) → hv.bound s.ev (y.map Opd.of) 0 0 := by
      intro y hy
      cases y with
      | none => rfl
      | some y => obtain ⟨k, hk⟩ := hy (Opd.of y) (by simp); exact ⟨k, hk⟩
    have hb := run_sliceBounds (P := P) (len := 0) (cap := 0) (lo := lo) (hi := hi) (mx := mx) hs (z lo fun o ho => hz o (by simp_all)) (z hi fun o ho => hz o (by simp_all))
      (bound_val hs (z mx fun o ho => hz o (by simp_all))) hmh (Nat.le_refl _) (Nat.le_refl _) (Nat.le_refl _)
    refine .mk _ _ (run _ _ _ _ _ _ hc hb) hk ?_
    simp; exact .nil
  · rename_i len get h; rw [h] at hx
    obtain ⟨b, cap, hc, hr⟩ := hx.bor
    obtain ⟨l, h', hl, hh, h1, h2, hmx, hsz, hk⟩ := hk
    have hmx' : mx = none := by cases mx <;> simp_all
    subst hmx'
    by_cases hcap : len ≤ cap
    · have hb := run_sliceBounds (P := P) (len := len) (cap := cap) (mx := none) hs hl hh (.inl ⟨rfl, rfl⟩) hmh h1 (by omega) (Nat.le_refl _)
      refine .mk _ _ (run _ _ _ _ _ _ hc hb) hk (.d ?_)
      by_cases e : l < h'
      · obtain ⟨blk, off, sz, cell, rfl, hst, q1, q2, q3⟩ := hr (by omega)
        have hsz' : sz = n := by rw [← q1 l (by omega)]; exact hsz e
        subst hsz'
        rw [if_neg (by omega)]
        simp only [Option.map_some, add_none]
        refine .bor (fun i j => cell (l + i) j) hst (by omega) (fun i hi => q1 _ (by omega)) (fun i j hi hj => ?_) fun i j hi hj => q3 _ _ (by omega) hj
        rw [Nat.add_assoc off, ← Nat.add_mul]; exact q2 _ _ (by omega) hj
      · have : h' - l = 0 := by omega
        rw [this]; exact .bor0 _ _ _
    · exact absurd (hx.cap hc) hcap
  · rename_i X r off len esz ver h; rw [h] at hx
    obtain ⟨cells, b, cap, hL, hver, hc, hcap, ha, hf⟩ := hx.sl'
    obtain ⟨rfl, l, h', m', hl, hh, hm, h1, h2, h3, hk⟩ := hk
    obtain ⟨mc, hmc, hb⟩ : ∃ mc, (m' ≤ mc ∧ mc ≤ cap) ∧ (Instr.sliceBounds true len cap (lo.map a.eval) (hi.map a.eval) (mx.map a.eval)).run P w = .ok (l, h', mc) w := by
      rcases bound_val hs hm with ⟨rfl, rfl⟩ | ⟨y, k, rfl, hy⟩
      · exact ⟨cap, ⟨by omega, Nat.le_refl _⟩, run_sliceBounds hs hl hh (.inl ⟨rfl, rfl⟩) hmh h1 (by omega) (Nat.le_refl _)⟩
      · exact ⟨m', ⟨Nat.le_refl _, by omega⟩, run_sliceBounds hs hl hh (.inr ⟨y, k, rfl, hy⟩) hmh h1 h2 (by omega)⟩
    refine .mk _ _ (run _ _ _ _ _ _ hc hb) hk (.sl hL hver _ _ rfl (by omega) (fun h0 => ?_) fun e => ?_)
    · rw [if_neg (by omega)]
      have := ha (by omega)
      simpa using this
    · by_cases hml : mc = l
      · left; omega
      · right
        rcases hf e with h0 | ⟨b, C, hm, hC, he⟩
        · omega
        · refine ⟨b, C, hm, ?_, ?_⟩
          · have : l * esz + (mc - l) * esz = mc * esz := by rw [← Nat.add_mul]; congr 1; omega
            have : mc * esz ≤ cap * esz := Nat.mul_le_mul_right _ hmc.2
            omega
          · rw [if_neg hml, he]; simp [add_none]
  · exact hk.elim

end
end Go.Ab
