import Derived.Test.YtponkmbigjmmoaaGreatGU
import Derived.Deep.Fields
import Derived.RowKit
namespace Go.Ab
set_option linter.unusedSimpArgs false
set_option linter.unusedVariables false
open Go Go.Proofs Go.ChangeShapes Go.WideShapes
def c66 (P : Program) (ts ti tl tb : TypeId) : Bool := match P.underlying ts with
 | some (.struct fs) => Go.Deep.oneCellFields P fs && decide ((fs.map (·.type)).toList = [ti, ti, ti, ti, ti, tl, tl, tl, tb]) && decide (P.cellsOf ts = 9)
 | _ => false
section
variable {H : Type} {enc : TypeId × Value -> H} {P : Program} {W : World}
theorem c6a {t e : TypeId} {fuel : Nat} {c : Value} {x : DataW H × List MemPlace} (ht : P.underlying t = some (.slice e)) (he : P.underlying e = some (.int .i64)) (hc : P.cellsOf e = 1)
  (h : DataW.trod enc P W 0 (λ_ => true) true fuel t [c] = some x) : ∃ a len cap zs, c = .slice a len cap /\ IsRow W a len cap zs := by
 rcases open_ints ht he hc h with ⟨hcs, _⟩ | ⟨y, l, k, zs, hcs, _, hl, hm, hz, _, hcell, hwz⟩
 ·simp at hcs
  exact ⟨none, 0, 0, [], hcs, .inl ⟨rfl, rfl, rfl, rfl⟩⟩
 ·simp at hcs
  exact ⟨some y, l, k, zs, hcs, .inr ⟨y, rfl, hl, by simpa using hz, hcell⟩⟩
theorem open_shape {ts ti tl tb : TypeId} {v : Value} {d : DataW H} {p : List MemPlace} (hB : c66 P ts ti tl tb = true) (hi : P.underlying ti = some (.int .i64)) (hc1 : P.cellsOf ti = 1) (hl : P.underlying tl = some (.slice ti)) (hb : P.underlying tb = some .bool)
  (hv : Value.okWide P W .any 0 ts v) (h : DataW.Trod enc P W 0 (λ_ => true) true ts v d p) :
  ∃ (n first least tol fin : Int) (ns ms outs : List Int) (dv : Bool), VRel (λb => b < W.heap.size) (λ_ _ => none) [] W (.agg (shC n first least tol fin ns ms outs dv)) v := by
 unfold c66 at hB
 split at hB
 case h_2 => cases hB
 rename_i fs hs
 simp only [Bool.and_eq_true, decide_eq_true_eq] at hB
 obtain ⟨⟨h1, h2⟩, h3⟩ := hB
 have hone := Go.Deep.hone_of h1
 obtain ⟨cs, rfl, hsz⟩ := okWide_struct hs hv
 obtain ⟨fuel, hf⟩ := h
 obtain ⟨xs, m, _, _, hlen, hxl, hfi⟩ := DataW.trod_struct hs hf
 rw [h3] at hsz
 have hfs : fs.size = 9 := by
  have := congrArg List.length h2
  simpa using this
 have key : ∀ i t, i < 9 -> [ti, ti, ti, ti, ti, tl, tl, tl, tb][i]? = some t -> ∃ x, DataW.trod enc P W 0 (λ_ => true) true m t [cs.getD i undef] = some x := by
  intro i t hi9 ht
  have hif : i < fs.size := by omega
  have hgf : fs[i]? = some fs[i] := Array.getElem?_eq_getElem hif
  have htf : fs[i].type = t := by
   rw [<- h2] at ht
   simp [hif] at ht
   exact ht
  obtain ⟨ho, hc⟩ := hone i _ hgf
  have g := hfi i _ hgf
  rw [ho, hc, htf] at g
  have hcl : (Value.agg cs).cells.toList = cs.toList := rfl
  rw [hcl, Go.Deep.take1_drop cs.toList i undef (by simp; omega)] at g
  refine ⟨xs[i]'(by omega), ?_⟩
  rw [d2f (by omega)] at g
  have e : cs.toList.getD i undef = cs.getD i undef := by simp [Array.getD, d2d]; split <;> simp_all
  rw [e] at g
  exact g
 have ki : ∀ i, i < 9 -> [ti, ti, ti, ti, ti, tl, tl, tl, tb][i]? = some ti -> ∃ n, cs.getD i undef = .int .i64 n := λi hi9 ht => by
  obtain ⟨x, hx⟩ := key i ti hi9 ht
  obtain ⟨n, hn, _⟩ := DataW.trod_int hi hx
  exact ⟨n, by simpa using hn⟩
 have kl : ∀ i, i < 9 -> [ti, ti, ti, ti, ti, tl, tl, tl, tb][i]? = some tl -> ∃ a len cap zs, cs.getD i undef = .slice a len cap /\ IsRow W a len cap zs := λi hi9 ht => by
  obtain ⟨x, hx⟩ := key i tl hi9 ht
  exact c6a hl hi hc1 hx
 obtain ⟨n, e0⟩ := ki 0 (by decide) rfl
 obtain ⟨first, e1⟩ := ki 1 (by decide) rfl
 obtain ⟨least, e2⟩ := ki 2 (by decide) rfl
 obtain ⟨tol, e3⟩ := ki 3 (by decide) rfl
 obtain ⟨fin, e4⟩ := ki 4 (by decide) rfl
 obtain ⟨a5, l5, c5, z5, e5, w5⟩ := kl 5 (by decide) rfl
 obtain ⟨a6, l6, c6, z6, e6, w6⟩ := kl 6 (by decide) rfl
 obtain ⟨a7, l7, c7, z7, e7, w7⟩ := kl 7 (by decide) rfl
 obtain ⟨x8, hx8⟩ := key 8 tb (by decide) rfl
 obtain ⟨b8, hb8, _⟩ := DataW.trod_bool hb hx8
 have e8 : cs.getD 8 undef = .bool b8 := by simpa using hb8
 refine ⟨n, first, least, tol, fin, z5.take l5, z6.take l6, z7.take l7, b8, .agg hsz λj hj => ?_⟩
 have hj : j < 9 := hj
 match j, hj with
 | 0, _ => rw [e0]; exact .d (.int _ _)
 | 1, _ => rw [e1]; exact .d (.int _ _)
 | 2, _ => rw [e2]; exact .d (.int _ _)
 | 3, _ => rw [e3]; exact .d (.int _ _)
 | 4, _ => rw [e4]; exact .d (.int _ _)
 | 5, _ => rw [e5]; exact w5.rel (λ_ h => h)
 | 6, _ => rw [e6]; exact w6.rel (λ_ h => h)
 | 7, _ => rw [e7]; exact w7.rel (λ_ h => h)
 | 8, _ => rw [e8]; exact .d (.bool _)
end
end Go.Ab
