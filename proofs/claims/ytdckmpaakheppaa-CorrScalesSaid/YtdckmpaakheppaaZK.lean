/- From a contract of data to a law's walk: arguments as data; nothing that lay there is changed. -/
import Derived.Test.YtdckmpaakheppaaZE
import Derived.Below
import Derived.SizedLaws
import Derived.ChangeSlices
namespace Go.Ab
set_option linter.unusedSimpArgs false
set_option linter.unusedVariables false
open Go Go.ChangeShapes Go.WideShapes Go.RowKit

/-- A slice of whole numbers as it lies. -/
def IsRow (w : World) (a : Option Addr) (len cap : Nat) (zs : List Int) : Prop :=
  (a = none ∧ len = 0 ∧ cap = 0 ∧ zs = []) ∨
  ∃ x, a = some x ∧ len ≤ cap ∧ zs.length = cap ∧ ∀ i, i < zs.length → w.cell? (x.add i) = some (.int .i64 (zs.getD i 0))

theorem IsRow.rel {St : Nat → Prop} {m : Map} {L : Heap} {w : World} {a : Option Addr} {len cap : Nat} {zs : List Int} (h : IsRow w a len cap zs) (hSt : ∀ b, b < w.heap.size → St b) :
    VRel St m L w (.d (rowI (zs.take len))) (.slice a len cap) := by
  rcases h with ⟨rfl, rfl, rfl, rfl⟩ | ⟨x, rfl, hl, hz, hc⟩
  · exact .d (.bor0 _ _ _)
  · by_cases h0 : len = 0
    · subst h0
      rw [List.take_zero]; exact .d (.bor0 _ _ _)
    have hlen : (zs.take len).length = len := by simp; omega
    have hx : x.spot = none ∧ x.block < w.heap.size := by
      have := hc 0 (by omega)
      simp only [Addr.add, if_true, World.cell?] at this
      split at this
      · rename_i c _ _ hb
        split at this
        · cases this
        · rename_i hs
          refine ⟨by simpa using hs, ?_⟩
          exact (Array.getElem?_eq_some_iff.1 hb).1
      · cases this
    obtain ⟨blk, off, spot⟩ := x
    obtain ⟨rfl, hb⟩ := hx
    have cell : ∀ i, i < len → w.cell? ⟨blk, off + i, none⟩ = some (.int .i64 (zs.getD i 0)) := by
      intro i hi
      have := hc i (by omega)
      unfold Addr.add at this
      split at this
      · rename_i e; subst e; exact this
      · exact this
    unfold rowI
    rw [hlen]
    refine .d (.bor (sz := 1) (fun i _ => .int .i64 (zs.getD i 0)) (hSt _ hb) hl (fun i hi => rfl) (fun i j hi hj => ?_) fun i j hi hj => ?_)
    · obtain rfl : j = 0 := by omega
      have := cell i hi
      rwa [show off + i * 1 + 0 = off + i from by omega]
    · obtain rfl : j = 0 := by omega
      have : (zs.take len).getD i 0 = zs.getD i 0 := by
        simp only [List.getD_eq_getElem?_getD, List.getElem?_take, if_pos hi]
      simp only [rowIG, List.getD_cons_zero, this]
      exact .int _ _

theorem walk_of_con {P : Program} {f : FuncId} {vs : List V} {b : Bool} (h : Con P f vs (fB b)) {cargs : Array Value} {w : World} (hsz : cargs.size = vs.length)
    (hargs : ∀ j, j < vs.length → VRel (fun b => b < w.heap.size) (fun _ _ => none) [] w (vs.getD j .any) (cargs.getD j undef)) :
    Calls P f cargs w fun e w' => e = .returned (.bool b) ∧ Below w.heap.size w w' := by
  refine (h.2 (fun b => b < w.heap.size) (fun _ _ => none) w cargs (Objs.none _ fun _ h => h) hsz hargs).mono ?_
  rintro e w' ⟨v, St', m', rfl, h1, h2, h3, h4, h5, h6⟩
  refine ⟨by rw [h2.bool], ⟨h3.os, h3.tape, h3.output, h3.size, fun k hk => h3.block k hk ?_⟩⟩
  rintro ⟨X, r, C, hX, _⟩
  simp [Heap.get, Heap.fam] at hX

/-- A row's slice of whole numbers is no longer than its weight allows. -/
theorem sized_len {H : Type} {enc : TypeId × Value → H} {P : Program} {W : World} {base : Nat} {spare : Nat → Bool} {held : Bool} {t e : TypeId} {k : IntKind} {a : Option Addr} {len cap : Nat} {d : DataW H} {ps : List MemPlace} {ts : List TypeId} {ds : List (DataW H)} {j : Nat}
    (hsz : (DataW.weightsEach P ts ds).all (· ≤ reachBytes) = true) (ht : ts[j]? = some t) (hd : ds[j]? = some d) (hu : P.underlying t = some (.slice e)) (he : P.underlying e = some (.int k)) (hc : P.cellsOf e = 1) (hB : P.bytesOf e = 8)
    (h : DataW.Trod enc P W base spare held t (.slice a len cap) d ps) : len < 2 ^ 61 := by
  obtain ⟨fuel, hf⟩ := h
  rcases open_ints hu he hc hf with ⟨hcs, _⟩ | ⟨x, l, c, zs, hcs, _, hl, _, hz, hx, _, _⟩
  · simp [Value.cells] at hcs
    obtain ⟨rfl, rfl, rfl⟩ := hcs
    decide
  · simp [Value.cells] at hcs
    obtain ⟨rfl, rfl, rfl⟩ := hcs
    obtain ⟨hx, _⟩ := Prod.mk.inj hx
    subst hx
    have z := sized_slice hsz ht hd hu
    rw [hB] at z
    have hl2 : len ≤ zs.length := by
      rw [hz]; split
      · exact hl
      · exact Nat.le_refl _
    have h1 : (lits (H := H) k (zs.take len)).length + (lits (H := H) k (zs.drop len)).length = zs.length := by
      simp [lits]; omega
    rw [h1] at z
    have hr : reachBytes ≤ 140737488351232 := by decide
    omega
end Go.Ab
