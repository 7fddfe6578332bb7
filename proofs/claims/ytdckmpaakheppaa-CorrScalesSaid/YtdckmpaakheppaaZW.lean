/- Floats as arguments of a law: alone, and in a slice. -/
import Derived.Test.YtdckmpaakheppaaZK
import Derived.Laws.Cover2
namespace Go.Ab
set_option linter.unusedSimpArgs false
set_option linter.unusedVariables false
open Go Go.ChangeShapes Go.WideShapes Go.RowKit

theorem fwf {b : Nat} (h : (Lit.float .f64 b).wf = true) : b < 2 ^ 64 := by
  simp only [Lit.wf, decide_eq_true_eq] at h
  simpa [FloatKind.has] using h

theorem flt_rel {St : Nat → Prop} {m : Map} {L : Heap} {w : World} {b : Nat} (h : (Lit.float .f64 b).wf = true) : VRel St m L w (.d (.flt (cf b))) (.float .f64 b) := .d (.flt (fwf h) rfl)

/-- A slice of floats as it lies. -/
def IsRowF (w : World) (a : Option Addr) (len cap : Nat) (zs : List Nat) : Prop :=
  (a = none ∧ len = 0 ∧ cap = 0 ∧ zs = []) ∨
  ∃ x, a = some x ∧ len ≤ cap ∧ zs.length = cap ∧ (∀ i, i < zs.length → w.cell? (x.add i) = some (.float .f64 (zs.getD i 0))) ∧ ∀ n ∈ zs, n < 2 ^ 64

theorem IsRowF.rel {St : Nat → Prop} {m : Map} {L : Heap} {w : World} {a : Option Addr} {len cap : Nat} {zs : List Nat} (h : IsRowF w a len cap zs) (hSt : ∀ b, b < w.heap.size → St b) :
    VRel St m L w (.d (rowD ((zs.take len).map cf))) (.slice a len cap) := by
  rcases h with ⟨rfl, rfl, rfl, rfl⟩ | ⟨x, rfl, hl, hz, hc, hb64⟩
  · exact .d (.bor0 _ _ _)
  · by_cases h0 : len = 0
    · subst h0
      rw [List.take_zero]; exact .d (.bor0 _ _ _)
    have hlen : (zs.take len).length = len := by simp; omega
    have hx : x.spot = none ∧ x.block < w.heap.size := by
      have := hc 0 (by omega)
      simp only [Addr.add, if_true, World.cell?] at this
      split at this
      · rename_i c _ _ hb
        split at this
        · cases this
        · rename_i hs
          refine ⟨by simpa using hs, ?_⟩
          exact (Array.getElem?_eq_some_iff.1 hb).1
      · cases this
    obtain ⟨blk, off, spot⟩ := x
    obtain ⟨rfl, hb⟩ := hx
    have cell : ∀ i, i < len → w.cell? ⟨blk, off + i, none⟩ = some (.float .f64 (zs.getD i 0)) := by
      intro i hi
      have := hc i (by omega)
      unfold Addr.add at this
      split at this
      · rename_i e; subst e; exact this
      · exact this
    unfold rowD
    rw [List.length_map, hlen]
    refine .d (.bor (sz := 1) (fun i _ => .float .f64 (zs.getD i 0)) (hSt _ hb) hl (fun i hi => rfl) (fun i j hi hj => ?_) fun i j hi hj => ?_)
    · obtain rfl : j = 0 := by omega
      have := cell i hi
      rwa [show off + i * 1 + 0 = off + i from by omega]
    · obtain rfl : j = 0 := by omega
      have hi' : i < zs.length := by omega
      have : ((zs.take len).map cf).getD i 0 = cf (zs.getD i 0) := by
        simp [List.getD_eq_getElem?_getD, List.getElem?_take, hi, hi']
      simp only [rowG, List.getD_cons_zero, this]
      refine .flt (hb64 _ ?_) rfl
      rw [List.getD_eq_getElem?_getD, List.getElem?_eq_getElem hi']
      exact List.getElem_mem _

section
variable {H : Type} {enc : TypeId × Value → H} {P : Program} {w : World} {base : Nat} {spare : Nat → Bool} {held : Bool}

def numOfF (y : DataW H × List MemPlace) : Nat := match y.1 with | .lit (.float _ n) => n | _ => 0
abbrev litsF (zs : List Nat) : List (DataW H) := zs.map fun n => .lit (.float .f64 n)

theorem trod_float {t : TypeId} {fuel : Nat} {cs : List Value} {x : DataW H × List MemPlace} (ht : P.underlying t = some (.float .f64)) (h : DataW.trod enc P w base spare held fuel t cs = some x) :
    ∃ b, cs = [.float .f64 b] ∧ x = (.lit (.float .f64 b), []) ∧ (Lit.float .f64 b).wf = true := by
  cases fuel with
  | zero => simp [DataW.trod] at h
  | succ n =>
    unfold DataW.trod at h
    simp only [ht] at h
    split at h <;> simp_all

theorem open_floats {t e : TypeId} {fuel : Nat} {cs : List Value} {x : DataW H × List MemPlace} (ht : P.underlying t = some (.slice e)) (he : P.underlying e = some (.float .f64)) (hc : P.cellsOf e = 1)
    (h : DataW.trod enc P w base spare held fuel t cs = some x) :
    (cs = [.slice none 0 0] ∧ x = (.nil, [])) ∨
    ∃ (a : Addr) (len cap : Nat) (zs : List Nat), cs = [.slice (some a) len cap] ∧ base ≤ a.block ∧ len ≤ cap ∧ cap ≤ maxLen ∧ zs.length = (if spare a.block then cap else len) ∧
      x = (.slice (litsF (zs.take len)) (litsF (zs.drop len)), MemPlace.row a zs.length) ∧
      (∀ i, i < zs.length → w.cell? (a.add i) = some (.float .f64 (zs.getD i 0))) ∧ (∀ n ∈ zs, (Lit.float .f64 n).wf = true) := by
  rcases DataW.trod_slice ht h with h0 | ⟨a, len, cap, elems, rest, n, _, rfl, rfl, hb, hl, hm, hlen, hel, hsp, hns⟩
  · exact Or.inl h0
  right
  have each : ∀ i y, (elems ++ rest)[i]? = some y → y = (.lit (.float .f64 (numOfF y)), []) ∧ (Lit.float .f64 (numOfF y)).wf = true ∧ w.cell? (a.add i) = some (.float .f64 (numOfF y)) := by
    intro i y hy
    have hb' : (w.cells? base (a.add (i * P.cellsOf e)) (P.cellsOf e)).bind (DataW.trod enc P w base spare held n e) = some y := by
      by_cases hi : i < len
      · rw [hel i hi, ← hy, List.getElem?_append_left (by omega)]
      · have hi' : i - len < rest.length := by
          have := (List.getElem?_eq_some_iff.1 hy).1
          simp at this
          omega
        cases hs : spare a.block with
        | false => rw [hns hs] at hi'; simp at hi'
        | true =>
          obtain ⟨hrl, hr⟩ := hsp hs
          have := hr (i - len) (by omega)
          rw [show len + (i - len) = i by omega] at this
          rw [this, ← hy, List.getElem?_append_right (by omega), hlen]
    rw [hc, Nat.mul_one, Option.bind_eq_some_iff] at hb'
    obtain ⟨cs', hcs, hy'⟩ := hb'
    obtain ⟨m, rfl, rfl, hw⟩ := trod_float he hy'
    exact ⟨rfl, hw, cell_of_cells?_one hcs⟩
  have mem : ∀ y ∈ elems ++ rest, y = (.lit (.float .f64 (numOfF y)), []) ∧ (Lit.float .f64 (numOfF y)).wf = true := by
    intro y hy
    obtain ⟨i, hi⟩ := List.getElem?_of_mem hy
    exact ⟨(each i y hi).1, (each i y hi).2.1⟩
  refine ⟨a, len, cap, (elems ++ rest).map numOfF, rfl, hb, hl, hm, ?_, ?_, ?_, ?_⟩
  · simp only [List.length_map, List.length_append, hlen]
    cases hs : spare a.block with
    | false => simp [hns hs]
    | true => simp [(hsp hs).1]; omega
  · have e1 : ((elems ++ rest).map numOfF).take len = elems.map numOfF := by rw [← List.map_take, ← hlen, List.take_left]
    have e2 : ((elems ++ rest).map numOfF).drop len = rest.map numOfF := by rw [← List.map_drop, ← hlen, List.drop_left]
    have f1 : ∀ l : List (DataW H × List MemPlace), (∀ y ∈ l, y ∈ elems ++ rest) → l.map (·.1) = litsF (l.map numOfF) := by
      intro l hl'
      simp only [List.map_map]
      exact List.map_congr_left (fun y hy => by
        have := (mem y (hl' y hy)).1
        exact congrArg Prod.fst this)
    have f2 : (elems ++ rest).flatMap (·.2) = [] := by
      rw [List.flatMap_eq_nil_iff]
      intro y hy
      exact congrArg Prod.snd (mem y hy).1
    rw [e1, e2, f1 elems (fun y hy => by simp [hy]), f1 rest (fun y hy => by simp [hy]), f2, hc]
    simp
  · intro i hi
    simp only [List.length_map] at hi
    have hy : (elems ++ rest)[i]? = some ((elems ++ rest)[i]'hi) := List.getElem?_eq_getElem hi
    have := (each i _ hy).2.2
    have e : ((elems ++ rest).map numOfF).getD i 0 = numOfF ((elems ++ rest)[i]'hi) := by rw [List.getD, List.getElem?_map, hy]; rfl
    rw [this, e]
  · intro m hm'
    obtain ⟨y, hy, rfl⟩ := List.mem_map.1 hm'
    exact (mem y hy).2

theorem sized_lenF {P : Program} {W : World} {base : Nat} {spare : Nat → Bool} {held : Bool} {t e : TypeId} {a : Option Addr} {len cap : Nat} {d : DataW H} {ps : List MemPlace} {ts : List TypeId} {ds : List (DataW H)} {j : Nat}
    (hsz : (DataW.weightsEach P ts ds).all (· ≤ reachBytes) = true) (ht : ts[j]? = some t) (hd : ds[j]? = some d) (hu : P.underlying t = some (.slice e)) (he : P.underlying e = some (.float .f64)) (hc : P.cellsOf e = 1) (hB : P.bytesOf e = 8)
    (h : DataW.Trod enc P W base spare held t (.slice a len cap) d ps) : len < 2 ^ 61 := by
  obtain ⟨fuel, hf⟩ := h
  rcases open_floats hu he hc hf with ⟨hcs, _⟩ | ⟨x, l, c, zs, hcs, _, hl, _, hz, hx, _, _⟩
  · simp [Value.cells] at hcs
    obtain ⟨rfl, rfl, rfl⟩ := hcs
    decide
  · simp [Value.cells] at hcs
    obtain ⟨rfl, rfl, rfl⟩ := hcs
    obtain ⟨hx, _⟩ := Prod.mk.inj hx
    subst hx
    have z := sized_slice hsz ht hd hu
    rw [hB] at z
    have hl2 : len ≤ zs.length := by
      rw [hz]; split
      · exact hl
      · exact Nat.le_refl _
    have h1 : (litsF (H := H) (zs.take len)).length + (litsF (H := H) (zs.drop len)).length = zs.length := by
      simp; omega
    rw [h1] at z
    have hr : reachBytes ≤ 140737488351232 := by decide
    omega
end
end Go.Ab
