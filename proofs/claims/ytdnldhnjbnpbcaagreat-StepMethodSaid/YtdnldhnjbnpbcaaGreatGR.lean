/- Part 18: WS, SN, SO, SP, SQ, SR, ST, SU, VD. -/
import Derived.Test.YtdnldhnjbnpbcaaGreatGQ
import Derived.Deep.Fields
import Derived.RowKit
namespace Go.Ab
set_option linter.unusedSimpArgs false
set_option linter.unusedVariables false
open Nat renaming reduceEqDiff → n1_, reduceAdd → n2_, reduceMul → n3_, reduceLT → n4_, reduceLeDiff → n5_
open Int renaming reduceToNat → i1_, reduceAdd → i2_, reduceSub → i3_, reduceMul → i4_, reduceNeg → i5_, reduceLT → i6_, reduceLE → i7_
open Go Go.Proofs Go.ChangeShapes Go.WideShapes
/-- A struct of a shape's fields. -/
def shapeB (P : Program) (ts ti tl tb : TypeId) : Bool := match P.underlying ts with
  | some (.struct fs) => Go.Deep.oneCellFields P fs && decide ((fs.map (·.type)).toList = [ti, ti, ti, ti, ti, tl, tl, tl, tb]) && decide (P.cellsOf ts = 9)
  | _ => false
section
variable {H : Type} {enc : TypeId × Value → H} {P : Program} {W : World}
theorem ints_row {t e : TypeId} {fuel : Nat} {c : Value} {x : DataW H × List MemPlace} (ht : P.underlying t = some (.slice e)) (he : P.underlying e = some (.int .i64)) (hc : P.cellsOf e = 1)
    (h : DataW.trod enc P W 0 (fun _ => true) true fuel t [c] = some x) : ∃ a len cap zs, c = .slice a len cap ∧ IsRow W a len cap zs := by
  rcases open_ints ht he hc h with ⟨hcs, _⟩ | ⟨y, l, k, zs, hcs, _, hl, hm, hz, _, hcell, hwz⟩
  · simp at hcs
    exact ⟨none, 0, 0, [], hcs, .inl ⟨rfl, rfl, rfl, rfl⟩⟩
  · simp at hcs
    exact ⟨some y, l, k, zs, hcs, .inr ⟨y, rfl, hl, by simpa using hz, hcell⟩⟩
theorem open_shape {ts ti tl tb : TypeId} {v : Value} {d : DataW H} {p : List MemPlace} (hB : shapeB P ts ti tl tb = true) (hi : P.underlying ti = some (.int .i64)) (hc1 : P.cellsOf ti = 1) (hl : P.underlying tl = some (.slice ti)) (hb : P.underlying tb = some .bool)
    (hv : Value.okWide P W .any 0 ts v) (h : DataW.Trod enc P W 0 (fun _ => true) true ts v d p) :
    ∃ (n first least tol fin : Int) (ns ms outs : List Int) (dv : Bool), VRel (fun b => b < W.heap.size) (fun _ _ => none) [] W (.agg (shC n first least tol fin ns ms outs dv)) v := by
  unfold shapeB at hB
  split at hB
  case h_2 => cases hB
  rename_i fs hs
  simp only [Bool.and_eq_true, decide_eq_true_eq] at hB
  obtain ⟨⟨h1, h2⟩, h3⟩ := hB
  have hone := Go.Deep.hone_of h1
  obtain ⟨cs, rfl, hsz⟩ := okWide_struct hs hv
  obtain ⟨fuel, hf⟩ := h
  obtain ⟨xs, m, _, _, hlen, hxl, hfi⟩ := DataW.trod_struct hs hf
  rw [h3] at hsz
  have hfs : fs.size = 9 := by
    have := congrArg List.length h2
    simpa using this
  have key : ∀ i t, i < 9 → [ti, ti, ti, ti, ti, tl, tl, tl, tb][i]? = some t → ∃ x, DataW.trod enc P W 0 (fun _ => true) true m t [cs.getD i undef] = some x := by
    intro i t hi9 ht
    have hif : i < fs.size := by omega
    have hgf : fs[i]? = some fs[i] := Array.getElem?_eq_getElem hif
    have htf : fs[i].type = t := by
      rw [← h2] at ht
      simp [hif] at ht
      exact ht
    obtain ⟨ho, hc⟩ := hone i _ hgf
    have g := hfi i _ hgf
    rw [ho, hc, htf] at g
    have hcl : (Value.agg cs).cells.toList = cs.toList := rfl
    rw [hcl, Go.Deep.take1_drop cs.toList i undef (by simp; omega)] at g
    refine ⟨xs[i]'(by omega), ?_⟩
    rw [List.getElem?_eq_getElem (by omega)] at g
    have e : cs.toList.getD i undef = cs.getD i undef := by simp [Array.getD, List.getD_eq_getElem?_getD]; split <;> simp_all
    rw [e] at g
    exact g
  have ki : ∀ i, i < 9 → [ti, ti, ti, ti, ti, tl, tl, tl, tb][i]? = some ti → ∃ n, cs.getD i undef = .int .i64 n := fun i hi9 ht => by
    obtain ⟨x, hx⟩ := key i ti hi9 ht
    obtain ⟨n, hn, _⟩ := DataW.trod_int hi hx
    exact ⟨n, by simpa using hn⟩
  have kl : ∀ i, i < 9 → [ti, ti, ti, ti, ti, tl, tl, tl, tb][i]? = some tl → ∃ a len cap zs, cs.getD i undef = .slice a len cap ∧ IsRow W a len cap zs := fun i hi9 ht => by
    obtain ⟨x, hx⟩ := key i tl hi9 ht
    exact ints_row hl hi hc1 hx
  obtain ⟨n, e0⟩ := ki 0 (by decide) rfl
  obtain ⟨first, e1⟩ := ki 1 (by decide) rfl
  obtain ⟨least, e2⟩ := ki 2 (by decide) rfl
  obtain ⟨tol, e3⟩ := ki 3 (by decide) rfl
  obtain ⟨fin, e4⟩ := ki 4 (by decide) rfl
  obtain ⟨a5, l5, c5, z5, e5, w5⟩ := kl 5 (by decide) rfl
  obtain ⟨a6, l6, c6, z6, e6, w6⟩ := kl 6 (by decide) rfl
  obtain ⟨a7, l7, c7, z7, e7, w7⟩ := kl 7 (by decide) rfl
  obtain ⟨x8, hx8⟩ := key 8 tb (by decide) rfl
  obtain ⟨b8, hb8, _⟩ := DataW.trod_bool hb hx8
  have e8 : cs.getD 8 undef = .bool b8 := by simpa using hb8
  refine ⟨n, first, least, tol, fin, z5.take l5, z6.take l6, z7.take l7, b8, .agg hsz fun j hj => ?_⟩
  have hj : j < 9 := hj
  match j, hj with
  | 0, _ => rw [e0]; exact .d (.int _ _)
  | 1, _ => rw [e1]; exact .d (.int _ _)
  | 2, _ => rw [e2]; exact .d (.int _ _)
  | 3, _ => rw [e3]; exact .d (.int _ _)
  | 4, _ => rw [e4]; exact .d (.int _ _)
  | 5, _ => rw [e5]; exact w5.rel (fun _ h => h)
  | 6, _ => rw [e6]; exact w6.rel (fun _ h => h)
  | 7, _ => rw [e7]; exact w7.rel (fun _ h => h)
  | 8, _ => rw [e8]; exact .d (.bool _)
end
end Go.Ab

namespace Go.Ab
set_option linter.unusedSimpArgs false
set_option linter.unusedVariables false
open Nat renaming reduceEqDiff → n1_, reduceAdd → n2_, reduceMul → n3_, reduceLT → n4_, reduceLeDiff → n5_
open Int renaming reduceToNat → i1_, reduceAdd → i2_, reduceSub → i3_, reduceMul → i4_, reduceNeg → i5_, reduceLT → i6_, reduceLE → i7_
open Go Go.Proofs
def A_l10_Shape_Make_L0 : CA := (.seq (.seq (.reg [i_M 0 22 4, i_P 1 23 3 0, i_P 2 24 23 0, i_L 3 25 24 1, i_X 4 26 (.h (.ibin .lss (.t 22) (.t 25)))] [1, 2, 3, 4, 26]) (.cond (.t 26) .skip (.exit 0))) (.seq (.block 1 (.reg [i_P 0 29 3 3, i_L 1 30 29 1, i_P 2 31 3 4, i_L 3 32 31 1, i_M 4 33 4, i_X 5 34 (.h (.idx (.t 32) (.t 33) 1)), i_L 6 35 34 1, i_X 7 36 (.h (.fbin .sub (.t 35) (.k (.d (.flt 4625196817309499392))))), i_P 8 37 3 4, i_L 9 38 37 1, i_M 10 39 4, i_X 11 40 (.h (.idx (.t 38) (.t 39) 1)), i_L 12 41 40 1, i_X 13 42 (.h (.fbin .add (.t 41) (.k (.d (.flt 4625196817309499392))))), i_X 14 43 (.h (.build [(.d (.flt 0)), (.d (.flt 0))] [(0, (1, (.t 36))), (1, (1, (.t 42)))])), i_X 15 44 (.bslice [(.d (.flt 0)), (.d (.flt 0))] 1 2 [(0, (2, (.t 43)))] 69), i_X 16 45 (.app (.t 30) (.t 44) 2 16), i_P 17 46 3 3, i_S 18 46 45 1] [1, 2, 3, 4])) (.reg [i_M 0 27 4, i_X 1 28 (.h (.ibin .add (.t 27) (.k (.d (.int .i64 1))))), i_M 2 4 28] [1, 2, 3, 4])))
def A_l10_Shape_Make_L1 : CA := (.seq (.seq (.reg [i_M 0 92 5, i_P 1 93 1 7, i_L 2 94 93 1, i_X 3 95 (.h (.len (.t 94))), i_X 4 96 (.h (.ibin .lss (.t 92) (.t 95))), i_M 5 97 96, ⟨6, (some 98), (some (97, true)), [], [], (.h (.mov (.t 5)))⟩, ⟨7, (some 99), (some (97, true)), [], [], (.h (.ibin .lss (.t 98) (.k (.d (.int .i64 8)))))⟩, i_X 8 100 (.h (.pick (.t 97) (.t 99) (.k (.d (.bool false)))))] [1, 2, 3, 5, 100]) (.cond (.t 100) .skip (.exit 2))) (.seq (.block 3 (.reg [i_P 0 103 3 12, i_L 1 104 103 1, i_P 2 105 1 7, i_L 3 106 105 1, i_M 4 107 5, i_X 5 108 (.h (.idx (.t 106) (.t 107) 1)), i_L 6 109 108 1, i_P 7 110 3 5, i_L 8 111 110 1, i_X 9 112 (.h (.ibin .add (.t 111) (.k (.d (.int .i64 1))))), i_X 10 113 (.callS 10 (.k (.d (.fn 16 [] []))) [(.t 109), (.t 112)]), i_X 11 114 (.bslice [(.d (.int .i64 0))] 1 1 [(0, (1, (.t 113)))] 3), i_X 12 115 (.app (.t 104) (.t 114) 1 8), i_P 13 116 3 12, i_S 14 116 115 1] [1, 2, 3, 5])) (.reg [i_M 0 101 5, i_X 1 102 (.h (.ibin .add (.t 101) (.k (.d (.int .i64 1))))), i_M 2 5 102] [1, 2, 3, 5])))
def A_l10_Shape_Make_L2 : CA := (.seq (.seq (.reg [i_M 0 117 6, i_P 1 118 3 12, i_L 2 119 118 1, i_X 3 120 (.h (.len (.t 119))), i_X 4 121 (.h (.ibin .lss (.t 117) (.t 120)))] [2, 3, 6, 121]) (.cond (.t 121) .skip (.exit 4))) (.seq (.block 5 (.reg [i_P 0 124 3 12, i_L 1 125 124 1, i_M 2 126 6, i_P 3 127 3 12, i_L 4 128 127 1, i_M 5 129 6, i_X 6 130 (.h (.idx (.t 128) (.t 129) 1)), i_L 7 131 130 1, i_P 8 132 3 12, i_L 9 133 132 1, i_M 10 134 6, i_X 11 135 (.h (.ibin .sub (.t 134) (.k (.d (.int .i64 1))))), i_X 12 136 (.h (.idx (.t 133) (.t 135) 1)), i_L 13 137 136 1, i_X 14 138 (.h (.mm true (.t 131) (.t 137))), i_X 15 139 (.h (.idx (.t 125) (.t 126) 1)), i_S 16 139 138 1] [2, 3, 6])) (.reg [i_M 0 122 6, i_X 1 123 (.h (.ibin .add (.t 122) (.k (.d (.int .i64 1))))), i_M 2 6 123] [2, 3, 6])))
def A_l10_Shape_Make : CA := (.seq (.reg [i_X 0 1 (.box (.t 0) 9 24), i_X 1 2 (.alloc [(.d (.int .i64 0)), .nil, .nil, .nil, .nil, (.d (.int .i64 0)), (.d (.int .i64 0)), (.d (.int .i64 0)), (.d (.flt 0)), (.d (.flt 0)), (.d (.flt 0)), (.d (.int .i64 0)), .nil] 33)] [1, 2]) (.seq (.reg [i_P 0 7 1 0, i_L 1 8 7 1, i_P 2 9 1 5, i_L 3 10 9 1, i_P 4 11 1 8, i_L 5 12 11 1, i_X 6 13 (.callA (.k (.d (.fn 30 [] []))) [(.t 8), (.t 10), (.t 12)]), i_X 7 14 (.h (.build [(.d (.int .i64 0)), .nil, .nil, .nil, .nil, (.d (.int .i64 0)), (.d (.int .i64 0)), (.d (.int .i64 0)), (.d (.flt 0)), (.d (.flt 0)), (.d (.flt 0)), (.d (.int .i64 0)), .nil] [(0, (3, (.t 13)))])), i_X 8 3 (.alloc [(.d (.int .i64 0)), .nil, .nil, .nil, .nil, (.d (.int .i64 0)), (.d (.int .i64 0)), (.d (.int .i64 0)), (.d (.flt 0)), (.d (.flt 0)), (.d (.flt 0)), (.d (.int .i64 0)), .nil] 33), i_S 9 3 14 13] [1, 2, 3]) (.seq (.reg [i_P 0 15 3 0, i_P 1 16 15 0, i_L 2 17 16 1, i_P 3 18 1 6, i_L 4 19 18 1, i_X 5 20 (.callA (.k (.d (.fn 31 [] []))) [(.t 17), (.t 19)]), i_P 6 21 3 4, i_S 7 21 20 1] [1, 2, 3]) (.seq (.seq (.reg [i_X 0 4 (.h (.mov (.k (.d (.int .i64 0)))))] [1, 2, 3, 4]) (.block 0 (.loop A_l10_Shape_Make_L0))) (.seq (.reg [i_P 0 47 1 1, i_L 1 48 47 1, i_X 2 49 (.callA (.k (.d (.fn 16 [] []))) [(.t 48), (.k (.d (.int .i64 13)))]), i_X 3 50 (.h (.ibin .add (.k (.d (.int .i64 16))) (.t 49))), i_X 4 51 (.h (.icv .u64 (.t 50))), i_X 5 52 (.h (.ibin .shl (.k (.d (.int .i64 1))) (.t 51))), i_P 6 53 3 6, i_S 7 53 52 1] [1, 2, 3]) (.seq (.reg [i_P 0 54 3 6, i_L 1 55 54 1, i_P 2 56 1 2, i_L 3 57 56 1, i_X 4 58 (.callS 4 (.k (.d (.fn 16 [] []))) [(.t 57), (.k (.d (.int .i64 10)))]), i_X 5 59 (.h (.icv .u64 (.t 58))), i_X 6 60 (.h (.ibin .shr (.t 55) (.t 59))), i_P 7 61 3 7, i_S 8 61 60 1] [1, 2, 3]) (.seq (.reg [i_P 0 62 1 4, i_L 1 63 62 1, i_X 2 64 (.callA (.k (.d (.fn 16 [] []))) [(.t 63), (.k (.d (.int .i64 536870912)))]), i_X 3 65 (.h (.ibin .add (.k (.d (.int .i64 1))) (.t 64))), i_P 4 66 3 5, i_S 5 66 65 1] [1, 2, 3]) (.seq (.seq (.reg [i_P 0 67 1 4, i_L 1 68 67 1, i_X 2 69 (.callA (.k (.d (.fn 16 [] []))) [(.t 68), (.k (.d (.int .i64 4)))]), i_X 3 70 (.h (.ibin .eql (.t 69) (.k (.d (.int .i64 0)))))] [1, 2, 3, 70]) (.cond (.t 70) (.reg [i_P 0 71 3 6, i_L 1 72 71 1, i_X 2 73 (.h (.ibin .mul (.k (.d (.int .i64 4))) (.t 72))), i_P 3 74 3 5, i_S 4 74 73 1] [1, 2, 3]) .skip)) (.seq (.reg [i_P 0 75 1 3, i_L 1 76 75 1, i_X 2 77 (.callA (.k (.d (.fn 16 [] []))) [(.t 76), (.k (.d (.int .i64 24)))]), i_X 3 78 (.h (.icv .u64 (.t 77))), i_X 4 79 (.h (.ibin .shl (.k (.d (.int .i64 1))) (.t 78))), i_X 5 80 (.h (.i2f (.t 79))), i_X 6 81 (.h (.fbin .div (.k (.d (.flt 4607182418800017408))) (.t 80))), i_P 7 82 3 8, i_S 8 82 81 1] [1, 2, 3]) (.seq (.reg [i_P 0 83 1 3, i_L 1 84 83 1, i_X 2 85 (.h (.ibin .quo (.t 84) (.k (.d (.int .i64 24))))), i_X 3 86 (.callA (.k (.d (.fn 16 [] []))) [(.t 85), (.k (.d (.int .i64 3)))]), i_X 4 87 (.h (.i2f (.t 86))), i_X 5 88 (.h (.fbin .div (.t 87) (.k (.d (.flt 4652218415073722368))))), i_P 6 89 3 9, i_S 7 89 88 1] [1, 2, 3]) (.seq (.reg [i_P 0 90 3 10, ⟨1, none, none, [], [], (.store (.t 90) (.k (.d (.flt 4616189618054758400))) 1)⟩] [1, 2, 3]) (.seq (.reg [i_P 0 91 3 11, ⟨1, none, none, [], [], (.store (.t 91) (.k (.d (.int .i64 24))) 1)⟩] [1, 2, 3]) (.seq (.seq (.reg [i_X 0 5 (.h (.mov (.k (.d (.int .i64 0)))))] [1, 2, 3, 5]) (.block 2 (.loop A_l10_Shape_Make_L1))) (.seq (.seq (.reg [i_X 0 6 (.h (.mov (.k (.d (.int .i64 1)))))] [2, 3, 6]) (.block 4 (.loop A_l10_Shape_Make_L2))) (.seq (.reg [i_A 0 140 3 13, i_S 1 2 140 13] [2]) .ret)))))))))))))))
theorem A_l10_Shape_Make_comp : compF Tryz.prog 14 = some ⟨141, [(2, (some (13, true)))], A_l10_Shape_Make.strip⟩ := by kernel_rfl
theorem shl_pow' (m : Nat) (h : m < 62) : IntKind.i64.wrap (1 * 2 ^ min (IntKind.u64.wrap (m : Int)).toNat IntKind.i64.bits) = ((2 ^ m : Nat) : Int) := by
  rw [wrapU (by omega) (by omega)]
  have e : min ((m : Int).toNat) IntKind.i64.bits = m := by
    have : IntKind.i64.bits = 64 := rfl
    rw [this]; omega
  rw [e, Int.one_mul]
  have h1 : (2 : Nat) ^ m ≤ 2 ^ 61 := Nat.pow_le_pow_right (by decide) (by omega)
  have h2 : (2 : Int) ^ m = ((2 ^ m : Nat) : Int) := by simp
  rw [h2]
  generalize (2 : Nat) ^ m = x at h1
  exact wrapI (by omega) (by omega)
theorem shr_pow (a b : Nat) (hb : b ≤ a) (h : b < 62) : (((2 ^ a : Nat) : Int)).fdiv (2 ^ min (IntKind.u64.wrap (b : Int)).toNat IntKind.i64.bits) = ((2 ^ (a - b) : Nat) : Int) := by
  rw [wrapU (by omega) (by omega)]
  have e : min ((b : Int).toNat) IntKind.i64.bits = b := by
    have : IntKind.i64.bits = 64 := rfl
    rw [this]; omega
  rw [e]
  have h3 : ((2 : Int) ^ b) = ((2 ^ b : Nat) : Int) := by push_cast; rfl
  rw [h3, Int.fdiv_eq_ediv_of_nonneg _ (Int.natCast_nonneg _)]
  have h4 : 2 ^ a = 2 ^ (a - b) * 2 ^ b := by rw [← Nat.pow_add]; congr 1; omega
  rw [h4]
  have h5 : 0 < 2 ^ b := Nat.pow_pos (by decide)
  rw [← Int.natCast_ediv, Nat.mul_div_cancel _ h5]
theorem KpA_ivC (L : Heap) (ps : List (Nat × Nat)) : KpA L (ivC ps) := by
  induction ps with
  | nil => exact KpA_nil
  | cons p ps ih =>
    show KpA L (fl p.1 :: fl p.2 :: ivC ps)
    rw [KpA_cons, KpA_cons]
    exact ⟨Kp_d _, Kp_d _, ih⟩
def boxE (y : List Nat) (j : Nat) : Nat × Nat := (fop .sub (y.getD j 0) 4625196817309499392, fop .add (y.getD j 0) 4625196817309499392)
def boxL (y : List Nat) (i : Nat) : List (Nat × Nat) := (List.range i).map (boxE y)
theorem boxL_succ (y : List Nat) (i : Nat) : ivC (boxL y i) ++ [fl (boxE y i).1, fl (boxE y i).2] = ivC (boxL y (i + 1)) := by simp [boxL, ivC, List.range_succ]
theorem boxL_len (y : List Nat) (i : Nat) : (boxL y i).length = i := by simp [boxL]
abbrev mkC (t : Tp) (b : V) (y : List Nat) (fin first least : Int) (atol rtol cap : Nat) (most : Int) (o : V) : List V := [fI t.n, .d (opsD t.ops), .d (rowI t.out), b, .d (rowD y), fI fin, fI first, fI least, fl atol, fl rtol, fl cap, fI most, o]
abbrev mkZ : List V := [fI 0, .nil, .nil, .nil, .nil, fI 0, fI 0, fI 0, fl 0, fl 0, fl 0, fI 0, .nil]
abbrev mkS0 (i : Nat) : Sl := [(1, .ptr 0 0 0 9), (2, .ptr 1 0 0 13), (3, .ptr 10 0 0 13), (4, fI i)]
set_option maxRecDepth 8000 in
theorem make10_L0 (sh : List V) (t : Tp) (y : List Nat) (hy : y.length = t.n) (hN : 0 < t.n ∧ t.n ≤ 3) (hsh : ∀ L, KpA L sh) (Q : Ex → T → Prop)
    (hQ : ∀ w, Q (.exit 0) ⟨mkS0 t.n ++ [w], [(27, [ivC (boxL y t.n)]), (10, [mkC t (.sl 27 0 0 t.n 2 (t.n * 2)) y 0 0 0 0 0 0 0 .nil]), (1, [mkZ]), (0, [sh])]⟩) :
    WA Tryz.prog (fun _ => False) 141 (.loop A_l10_Shape_Make_L0) Q ⟨mkS0 0, [(10, [mkC t .nil y 0 0 0 0 0 0 0 .nil]), (1, [mkZ]), (0, [sh])]⟩ := by
  refine WA_forW (n := t.n) (fun c s => ∃ i, c + i = t.n ∧ ((i = 0 ∧ s = ⟨mkS0 0, [(10, [mkC t .nil y 0 0 0 0 0 0 0 .nil]), (1, [mkZ]), (0, [sh])]⟩) ∨ (0 < i ∧ s = ⟨mkS0 i, [(27, [ivC (boxL y i)]), (10, [mkC t (.sl 27 0 0 i 2 (i * 2)) y 0 0 0 0 0 0 0 .nil]), (1, [mkZ]), (0, [sh])]⟩))) (Le.refl _) ⟨0, by omega, .inl ⟨rfl, rfl⟩⟩ ?_
  rintro c s ⟨i, hc, ⟨rfl, rfl⟩ | ⟨hi, rfl⟩⟩
  · simp -implicitDefEqProofs only [evI, hv, effC, reduceCtorEq, ↓reduceIte, n1_, n2_, n3_, n4_, n5_, i1_, i2_, i3_, i4_, i5_, i6_, i7_, A_l10_Shape_Make_L0]
    have h0 : decide ((0 : Int) < (t.n : Int)) = true := by simp; omega
    simp -implicitDefEqProofs only [evI, hv, effC, reduceCtorEq, ↓reduceIte, n1_, n2_, n3_, n4_, n5_, i1_, i2_, i3_, i4_, i5_, i6_, i7_, h0]
    refine ⟨by omega, by omega, ?_⟩
    rw [show IntKind.i64.wrap 1 = ((0 + 1 : Nat) : Int) from by decide]
    exact ⟨c - 1, _, by omega, LeT.only (L' := [(27, [ivC (boxL y (0 + 1))]), (10, [mkC t (.sl 27 0 0 (0 + 1) 2 ((0 + 1) * 2)) y 0 0 0 0 0 0 0 .nil]), (1, [mkZ]), (0, [sh])]) (fun X => X != 26) (fun _ h => h) rfl (by simp (maxDischargeDepth := 6) [KpS_cons, KpS_nil, KpH_cons, KpH_nil, KpF_cons, KpF_nil, KpF_rows, KpA_cons, KpA_nil, KpA_app, KpA_rowV, KpA_rowIV, KpA_dcells, KpA_outC, Kp_any, Kp_nilv, Kp_d, Kp_ptr, Kp_sl, Kp_agg, Kp_tup, Kp_fn, get_cons, get_nil, fam_cons, fam_nil, KpA_ivC, hsh]) (by simp (maxDischargeDepth := 6) [KpS_cons, KpS_nil, KpH_cons, KpH_nil, KpF_cons, KpF_nil, KpF_rows, KpA_cons, KpA_nil, KpA_app, KpA_rowV, KpA_rowIV, KpA_dcells, KpA_outC, Kp_any, Kp_nilv, Kp_d, Kp_ptr, Kp_sl, Kp_agg, Kp_tup, Kp_fn, get_cons, get_nil, fam_cons, fam_nil, KpA_ivC, hsh]), 0 + 1, by omega, .inr ⟨by omega, rfl⟩⟩
  · have hl : (ivC (boxL y i)).length = i * 2 := by rw [ivC_length, boxL_len]
    simp -implicitDefEqProofs only [evI, hv, effC, reduceCtorEq, ↓reduceIte, n1_, n2_, n3_, n4_, n5_, i1_, i2_, i3_, i4_, i5_, i6_, i7_, A_l10_Shape_Make_L0]
    refine condC_intro (fun h => ?_) (fun h => ?_)
    · replace h := of_decide_eq_true h
      simp -implicitDefEqProofs only [evI, hv, effC, reduceCtorEq, ↓reduceIte, n1_, n2_, n3_, n4_, n5_, i1_, i2_, i3_, i4_, i5_, i6_, i7_]
      (repeat (with_reducible refine And.intro (by omega) ?_))
      have e := boxL_succ y i
      unfold boxE at e
      simp only [] at e
      have e2 : (boxL y i).length * 2 = i * 2 ∧ (i + 1) * 16 ≤ 140737488355328 := by rw [boxL_len]; exact ⟨rfl, by omega⟩
      refine ⟨e2, ?_⟩
      rw [wrapI (by omega) (by omega), e, show i * 2 + 2 = (i + 1) * 2 by omega]
      exact ⟨c - 1, _, by omega, LeT.only (fun X => decide (X ≤ 27)) (fun _ h => h) rfl (by simp (maxDischargeDepth := 6) [KpS_cons, KpS_nil, KpH_cons, KpH_nil, KpF_cons, KpF_nil, KpF_rows, KpA_cons, KpA_nil, KpA_app, KpA_rowV, KpA_rowIV, KpA_dcells, KpA_outC, Kp_any, Kp_nilv, Kp_d, Kp_ptr, Kp_sl, Kp_agg, Kp_tup, Kp_fn, get_cons, get_nil, fam_cons, fam_nil, KpA_ivC, hsh]) (by simp (maxDischargeDepth := 6) [KpS_cons, KpS_nil, KpH_cons, KpH_nil, KpF_cons, KpF_nil, KpF_rows, KpA_cons, KpA_nil, KpA_app, KpA_rowV, KpA_rowIV, KpA_dcells, KpA_outC, Kp_any, Kp_nilv, Kp_d, Kp_ptr, Kp_sl, Kp_agg, Kp_tup, Kp_fn, get_cons, get_nil, fam_cons, fam_nil, KpA_ivC, hsh]), i + 1, by omega, .inr ⟨by omega, rfl⟩⟩
    · replace h := of_decide_eq_false h
      have e : i = t.n := by omega
      subst e
      simp -implicitDefEqProofs only [evI, hv, effC, reduceCtorEq, ↓reduceIte, n1_, n2_, n3_, n4_, n5_, i1_, i2_, i3_, i4_, i5_, i6_, i7_]
      exact hQ _
def outE (outs : List Int) (E : Int) (j : Nat) : Int := outs.getD j 0 % (E + 1)
def outsA (outs : List Int) (E : Int) (i : Nat) : List Int := (List.range i).map (outE outs E)
theorem outsA_succ (outs : List Int) (E : Int) (i : Nat) : rowIV (outsA outs E i) ++ [fI (outE outs E i)] = rowIV (outsA outs E (i + 1)) := by simp [outsA, rowIV, List.range_succ]
theorem outsA_len (outs : List Int) (E : Int) (i : Nat) : (outsA outs E i).length = i := by simp [outsA]
abbrev mkS1 (i : Nat) : Sl := [(1, .ptr 0 0 0 9), (2, .ptr 1 0 0 13), (3, .ptr 10 0 0 13), (5, fI i)]
abbrev mkH (t : Tp) (box : List (Nat × Nat)) (y : List Nat) (E : Int) (c : List V) (sh : List V) : Heap := [(27, [ivC box]), (10, [[fI t.n, .d (opsD t.ops), .d (rowI t.out), .sl 27 0 0 t.n 2 (t.n * 2), .d (rowD y), fI E] ++ c]), (1, [mkZ]), (0, [sh])]
set_option maxRecDepth 8000 in
theorem make10_L1 (n first least tol fin : Int) (ns ms outs : List Int) (dv : Bool) (t : Tp) (box : List (Nat × Nat)) (y : List Nat) (E : Int) (hE : 0 ≤ E ∧ E < 2 ^ 40) (F B : Int) (ra rb rc : Nat) (hmo : Int) (ho : outs.length ≤ 60) (Q : Ex → T → Prop)
    (hQ0 : outs.length = 0 → ∀ w, Q (.exit 2) ⟨mkS1 0 ++ [w], mkH t box y E [fI F, fI B, fl ra, fl rb, fl rc, fI hmo, .nil] (shC n first least tol fin ns ms outs dv)⟩)
    (hQ : 0 < outs.length → ∀ w, Q (.exit 2) ⟨mkS1 (min outs.length 8) ++ [w], (40, [rowIV (outsA outs E (min outs.length 8))]) :: mkH t box y E [fI F, fI B, fl ra, fl rb, fl rc, fI hmo, .sl 40 0 0 (min outs.length 8) 1 (min outs.length 8)] (shC n first least tol fin ns ms outs dv)⟩) :
    WA Tryz.prog (fun _ => False) 141 (.loop A_l10_Shape_Make_L1) Q ⟨mkS1 0, mkH t box y E [fI F, fI B, fl ra, fl rb, fl rc, fI hmo, .nil] (shC n first least tol fin ns ms outs dv)⟩ := by
  refine WA_forW (n := min outs.length 8) (fun c s => ∃ i, c + i = min outs.length 8 ∧ ((i = 0 ∧ s = ⟨mkS1 0, mkH t box y E [fI F, fI B, fl ra, fl rb, fl rc, fI hmo, .nil] (shC n first least tol fin ns ms outs dv)⟩) ∨ (0 < i ∧ s = ⟨mkS1 i, (40, [rowIV (outsA outs E i)]) :: mkH t box y E [fI F, fI B, fl ra, fl rb, fl rc, fI hmo, .sl 40 0 0 i 1 i] (shC n first least tol fin ns ms outs dv)⟩))) (Le.refl _) ⟨0, by omega, .inl ⟨rfl, rfl⟩⟩ ?_
  have wE : IntKind.i64.wrap (E + 1) = E + 1 := wrapI (by omega) (by omega)
  rintro c s ⟨i, hc, ⟨rfl, rfl⟩ | ⟨hi, rfl⟩⟩
  · simp -implicitDefEqProofs only [evI, hv, effC, reduceCtorEq, ↓reduceIte, n1_, n2_, n3_, n4_, n5_, i1_, i2_, i3_, i4_, i5_, i6_, i7_, A_l10_Shape_Make_L1]
    by_cases h0 : 0 < outs.length
    · have h0' : decide ((0 : Int) < (outs.length : Int)) = true := decide_eq_true (by omega)
      simp -implicitDefEqProofs only [evI, hv, effC, reduceCtorEq, ↓reduceIte, n1_, n2_, n3_, n4_, n5_, i1_, i2_, i3_, i4_, i5_, i6_, i7_, h0', wE]
      refine ⟨by omega, ?_⟩
      first | refine callG_con (l10_within_con (outs.getD 0 0) (E + 1) (by omega) (by omega)) rfl ?_ | refine callCG_con (l10_within_con (outs.getD 0 0) (E + 1) (by omega) (by omega)) rfl ?_ | refine callSG_con (l10_within_con (outs.getD 0 0) (E + 1) (by omega) (by omega)) rfl ?_
      simp -implicitDefEqProofs only [evI, hv, effC, reduceCtorEq, ↓reduceIte, n1_, n2_, n3_, n4_, n5_, i1_, i2_, i3_, i4_, i5_, i6_, i7_]
      rw [show IntKind.i64.wrap 1 = ((0 + 1 : Nat) : Int) from by decide]
      exact ⟨c - 1, _, by omega, LeT.only (L' := (40, [rowIV (outsA outs E (0 + 1))]) :: mkH t box y E [fI F, fI B, fl ra, fl rb, fl rc, fI hmo, .sl 40 0 0 (0 + 1) 1 (0 + 1)] (shC n first least tol fin ns ms outs dv)) (fun X => X != 39) (fun _ h => h) rfl (by simp (maxDischargeDepth := 6) [KpS_cons, KpS_nil, KpH_cons, KpH_nil, KpF_cons, KpF_nil, KpF_rows, KpA_cons, KpA_nil, KpA_app, KpA_rowV, KpA_rowIV, KpA_dcells, KpA_outC, Kp_any, Kp_nilv, Kp_d, Kp_ptr, Kp_sl, Kp_agg, Kp_tup, Kp_fn, get_cons, get_nil, fam_cons, fam_nil, KpA_ivC]) (by simp (maxDischargeDepth := 6) [KpS_cons, KpS_nil, KpH_cons, KpH_nil, KpF_cons, KpF_nil, KpF_rows, KpA_cons, KpA_nil, KpA_app, KpA_rowV, KpA_rowIV, KpA_dcells, KpA_outC, Kp_any, Kp_nilv, Kp_d, Kp_ptr, Kp_sl, Kp_agg, Kp_tup, Kp_fn, get_cons, get_nil, fam_cons, fam_nil, KpA_ivC]), 0 + 1, by omega, .inr ⟨by omega, rfl⟩⟩
    · have h0' : decide ((0 : Int) < (outs.length : Int)) = false := decide_eq_false (by omega)
      simp -implicitDefEqProofs only [evI, hv, effC, reduceCtorEq, ↓reduceIte, n1_, n2_, n3_, n4_, n5_, i1_, i2_, i3_, i4_, i5_, i6_, i7_, h0']
      exact hQ0 (by omega) _
  · have hol := outsA_len outs E i
    simp -implicitDefEqProofs only [evI, hv, effC, reduceCtorEq, ↓reduceIte, n1_, n2_, n3_, n4_, n5_, i1_, i2_, i3_, i4_, i5_, i6_, i7_, A_l10_Shape_Make_L1]
    by_cases h1 : i < outs.length
    · have h1' : decide (i < outs.length) = true := decide_eq_true h1
      by_cases h2 : i < 8
      · have h2' : decide ((i : Int) < 8) = true := by simp; omega
        simp -implicitDefEqProofs only [evI, hv, effC, reduceCtorEq, ↓reduceIte, n1_, n2_, n3_, n4_, n5_, i1_, i2_, i3_, i4_, i5_, i6_, i7_, h1', h2', wE]
        (repeat (with_reducible refine And.intro (by omega) ?_))
        first | refine callG_con (l10_within_con (outs.getD i 0) (E + 1) (by omega) (by omega)) rfl ?_ | refine callCG_con (l10_within_con (outs.getD i 0) (E + 1) (by omega) (by omega)) rfl ?_ | refine callSG_con (l10_within_con (outs.getD i 0) (E + 1) (by omega) (by omega)) rfl ?_
        simp -implicitDefEqProofs only [evI, hv, effC, reduceCtorEq, ↓reduceIte, n1_, n2_, n3_, n4_, n5_, i1_, i2_, i3_, i4_, i5_, i6_, i7_]
        have e1 := outsA_succ outs E i
        unfold outE at e1
        have e2 : (outsA outs E i).length = i ∧ (i + 1) * 8 ≤ 140737488355328 := ⟨hol, by omega⟩
        refine ⟨e2, ?_⟩
        rw [wrapI (by omega) (by omega), e1]
        exact ⟨c - 1, _, by omega, LeT.only (fun X => decide (X ≤ 40)) (fun _ h => h) rfl (by simp (maxDischargeDepth := 6) [KpS_cons, KpS_nil, KpH_cons, KpH_nil, KpF_cons, KpF_nil, KpF_rows, KpA_cons, KpA_nil, KpA_app, KpA_rowV, KpA_rowIV, KpA_dcells, KpA_outC, Kp_any, Kp_nilv, Kp_d, Kp_ptr, Kp_sl, Kp_agg, Kp_tup, Kp_fn, get_cons, get_nil, fam_cons, fam_nil, KpA_ivC]) (by simp (maxDischargeDepth := 6) [KpS_cons, KpS_nil, KpH_cons, KpH_nil, KpF_cons, KpF_nil, KpF_rows, KpA_cons, KpA_nil, KpA_app, KpA_rowV, KpA_rowIV, KpA_dcells, KpA_outC, Kp_any, Kp_nilv, Kp_d, Kp_ptr, Kp_sl, Kp_agg, Kp_tup, Kp_fn, get_cons, get_nil, fam_cons, fam_nil, KpA_ivC]), i + 1, by omega, .inr ⟨by omega, rfl⟩⟩
      · have h2' : decide ((i : Int) < 8) = false := by simp; omega
        have e : i = min outs.length 8 := by omega
        simp -implicitDefEqProofs only [evI, hv, effC, reduceCtorEq, ↓reduceIte, n1_, n2_, n3_, n4_, n5_, i1_, i2_, i3_, i4_, i5_, i6_, i7_, h1', h2']
        rw [e]
        exact hQ (by omega) _
    · have h1' : decide (i < outs.length) = false := decide_eq_false h1
      have e : i = min outs.length 8 := by omega
      simp -implicitDefEqProofs only [evI, hv, effC, reduceCtorEq, ↓reduceIte, n1_, n2_, n3_, n4_, n5_, i1_, i2_, i3_, i4_, i5_, i6_, i7_, h1']
      rw [e]
      exact hQ (by omega) _
theorem rowIV_getD {A : List Int} {i : Nat} (h : i < A.length) : (rowIV A).getD i .any = fI (A.getD i 0) := by
  simp [rowIV, List.getD_eq_getElem?_getD, List.getElem?_eq_getElem h]
def maxL (A : List Int) : Nat → List Int
  | 0 => A
  | i + 1 => (maxL A i).set (i + 1) (if (maxL A i).getD (i + 1) 0 < (maxL A i).getD i 0 then (maxL A i).getD i 0 else (maxL A i).getD (i + 1) 0)
theorem maxL_len (A : List Int) (i : Nat) : (maxL A i).length = A.length := by
  induction i with
  | zero => rfl
  | succ i ih => simp [maxL, ih]
abbrev mkS2 (i : Nat) : Sl := [(2, .ptr 1 0 0 13), (3, .ptr 10 0 0 13), (6, fI i)]
set_option maxRecDepth 8000 in
theorem make10_L2 (A : List Int) (m : Nat) (hA : A.length = m) (hm : 0 < m ∧ m ≤ 8) (t : Tp) (box : List (Nat × Nat)) (y : List Nat) (E : Int) (F B : Int) (ra rb rc : Nat) (hmo : Int) (sh : List V) (hsh : ∀ L, KpA L sh) (Q : Ex → T → Prop)
    (hQ : ∀ w, Q (.exit 4) ⟨mkS2 m ++ [w], (40, [rowIV (maxL A (m - 1))]) :: mkH t box y E [fI F, fI B, fl ra, fl rb, fl rc, fI hmo, .sl 40 0 0 m 1 m] sh⟩) :
    WA Tryz.prog (fun _ => False) 141 (.loop A_l10_Shape_Make_L2) Q ⟨mkS2 1, (40, [rowIV A]) :: mkH t box y E [fI F, fI B, fl ra, fl rb, fl rc, fI hmo, .sl 40 0 0 m 1 m] sh⟩ := by
  refine WA_forW (n := m - 1) (fun c s => ∃ i, c + i = m - 1 ∧ s = ⟨mkS2 (i + 1), (40, [rowIV (maxL A i)]) :: mkH t box y E [fI F, fI B, fl ra, fl rb, fl rc, fI hmo, .sl 40 0 0 m 1 m] sh⟩) (Le.refl _) ⟨0, by omega, rfl⟩ ?_
  rintro c s ⟨i, hc, rfl⟩
  have hl := maxL_len A i
  rw [hA] at hl
  simp -implicitDefEqProofs only [evI, hv, effC, reduceCtorEq, ↓reduceIte, n1_, n2_, n3_, n4_, n5_, i1_, i2_, i3_, i4_, i5_, i6_, i7_, A_l10_Shape_Make_L2]
  refine condC_intro (fun h => ?_) (fun h => ?_)
  · replace h := of_decide_eq_true h
    have wi : IntKind.i64.wrap (((i + 1 : Nat) : Int) - 1) = (i : Int) := by rw [wrapI (by omega) (by omega)]; omega
    have g1 : (rowIV (maxL A i)).getD (i + 1) .any = fI ((maxL A i).getD (i + 1) 0) := rowIV_getD (by omega)
    have g2 : (rowIV (maxL A i)).getD i .any = fI ((maxL A i).getD i 0) := rowIV_getD (by omega)
    simp -implicitDefEqProofs only [evI, hv, effC, reduceCtorEq, ↓reduceIte, n1_, n2_, n3_, n4_, n5_, i1_, i2_, i3_, i4_, i5_, i6_, i7_, wi, g1, g2]
    refine ⟨h, ⟨hl, by omega⟩, by omega, ⟨hl, by omega⟩, h, ⟨hl, by omega⟩, ?_⟩
    rw [wrapI (by omega) (by omega)]
    exact ⟨c - 1, _, by omega, Le.refl _, i + 1, by omega, rfl⟩
  · replace h := of_decide_eq_false h
    have e : i = m - 1 := by omega
    simp -implicitDefEqProofs only [evI, hv, effC, reduceCtorEq, ↓reduceIte, n1_, n2_, n3_, n4_, n5_, i1_, i2_, i3_, i4_, i5_, i6_, i7_]
    rw [show i + 1 = m by omega, show i = m - 1 by omega]
    exact hQ _
theorem Fz_iv {L L' : Heap} {X n : Nat} {ps : List (Nat × Nat)} (h : L.get X 0 = some (ivC ps)) (hn : ps.length = n) (h2 : L'.get X 0 = none) : LeV L L' (fun X r => (X, r)) (.sl X 0 0 n 2 (n * 2)) (.d (ivD ps)) :=
  .d (snap_iv (fun Z q hZ e => by cases e; exact hZ h2) h hn rfl)
theorem Fz_ints {L L' : Heap} {X n : Nat} {xs : List Int} (h : L.get X 0 = some (rowIV xs)) (hn : xs.length = n) (h2 : L'.get X 0 = none) : LeV L L' (fun X r => (X, r)) (.sl X 0 0 n 1 n) (.d (rowI xs)) :=
  .d (snap_rowI (fun Z q hZ e => by cases e; exact hZ h2) h hn rfl)
def mkE (fin : Int) (F : Nat) : Int := if fin % 4 = 0 then 4 * (F : Int) else 1 + fin % 536870912
def mkA (first : Int) : Nat := (16 + first % 13).toNat
def mkB (least : Int) : Nat := (least % 10).toNat
def mkAt (tol : Int) : Nat := fop .div 4607182418800017408 (FloatKind.nearest .f64 ((2 ^ (tol % 24).toNat : Nat) : Int))
def mkRt (tol : Int) : Nat := fop .div (FloatKind.nearest .f64 (IntKind.i64.wrap (tol.tdiv 24) % 3)) 4652218415073722368
def mkO (outs : List Int) (E : Int) : List Int := maxL (outsA outs E (min outs.length 8)) (min outs.length 8 - 1)
/-- The problem that numbers make. -/
def mkPb (n first least tol fin : Int) (ns ms outs : List Int) (dv : Bool) : Pb :=
  ⟨mkT n ns dv, boxL (valsL (mkT n ns dv).n ms) (mkT n ns dv).n, valsL (mkT n ns dv).n ms, mkE fin (2 ^ mkA first), ((2 ^ mkA first : Nat) : Int), ((2 ^ (mkA first - mkB least) : Nat) : Int),
    mkAt tol, mkRt tol, 4616189618054758400, 24, mkO outs (mkE fin (2 ^ mkA first))⟩
theorem mkO_nil (outs : List Int) (E : Int) (h : outs.length = 0) : mkO outs E = [] := by
  unfold mkO; rw [h]; rfl
theorem mkO_len (outs : List Int) (E : Int) : (mkO outs E).length = min outs.length 8 := by
  unfold mkO; rw [maxL_len, outsA_len]
set_option maxRecDepth 8000 in
theorem l10_Make_con (n first least tol fin : Int) (ns ms outs : List Int) (dv : Bool) (h1 : ns.length ≤ 60) (h2 : ms.length ≤ 60) (h3 : outs.length ≤ 60) : Con Tryz.prog 14 [.agg (shC n first least tol fin ns ms outs dv)] (pbV (mkPb n first least tol fin ns ms outs dv)) := by
  unfold mkPb
  refine Con_introA A_l10_Shape_Make_comp rfl mixed ?_
  simp -implicitDefEqProofs only [evI, hv, effC, reduceCtorEq, ↓reduceIte, n1_, n2_, n3_, n4_, n5_, i1_, i2_, i3_, i4_, i5_, i6_, i7_, A_l10_Shape_Make]
  first | refine callG_con (l3_Make_con n ns dv (by omega)) rfl ?_ | refine callCG_con (l3_Make_con n ns dv (by omega)) rfl ?_ | refine callSG_con (l3_Make_con n ns dv (by omega)) rfl ?_
  have hT := mkT_n n ns dv
  generalize mkT n ns dv = t at hT
  simp -implicitDefEqProofs only [evI, hv, effC, reduceCtorEq, ↓reduceIte, n1_, n2_, n3_, n4_, n5_, i1_, i2_, i3_, i4_, i5_, i6_, i7_]
  first | refine callG_con (l3_Values_con t.n ms (by omega) (by omega)) rfl ?_ | refine callCG_con (l3_Values_con t.n ms (by omega) (by omega)) rfl ?_ | refine callSG_con (l3_Values_con t.n ms (by omega) (by omega)) rfl ?_
  have hy : (valsL t.n ms).length = t.n := tabR_len _ _
  generalize valsL t.n ms = y at hy
  simp -implicitDefEqProofs only [evI, hv, effC, reduceCtorEq, ↓reduceIte, n1_, n2_, n3_, n4_, n5_, i1_, i2_, i3_, i4_, i5_, i6_, i7_]
  refine make10_L0 _ t y hy (by omega) (fun L => ?_) _ fun w => ?_
  · simp only [KpA_cons]; exact ⟨Kp_d _, Kp_d _, Kp_d _, Kp_d _, Kp_d _, Kp_d _, Kp_d _, Kp_d _, Kp_d _, KpA_nil⟩
  have hbl : (boxL y t.n).length = t.n := boxL_len _ _
  generalize boxL y t.n = box at hbl
  simp -implicitDefEqProofs only [evI, hv, effC, reduceCtorEq, ↓reduceIte, n1_, n2_, n3_, n4_, n5_, i1_, i2_, i3_, i4_, i5_, i6_, i7_]
  first | refine callG_con (l10_within_con first 13 (by decide) (by decide)) rfl ?_ | refine callCG_con (l10_within_con first 13 (by decide) (by decide)) rfl ?_ | refine callSG_con (l10_within_con first 13 (by decide) (by decide)) rfl ?_
  have f1 := Int.emod_nonneg first (by decide : (13 : Int) ≠ 0)
  have f2 := Int.emod_lt_of_pos first (by decide : (0 : Int) < 13)
  obtain ⟨a, ha⟩ : ∃ a : Nat, 16 + first % 13 = a := ⟨(16 + first % 13).toNat, by omega⟩
  have haA : mkA first = a := by unfold mkA; rw [ha]; rfl
  rw [haA]
  have wa : IntKind.i64.wrap (16 + first % 13) = (a : Int) := by rw [ha]; exact wrapI (by omega) (by omega)
  have wu : 0 ≤ IntKind.u64.wrap (a : Int) := by rw [wrapU (by omega) (by omega)]; omega
  simp -implicitDefEqProofs only [evI, hv, effC, reduceCtorEq, ↓reduceIte, n1_, n2_, n3_, n4_, n5_, i1_, i2_, i3_, i4_, i5_, i6_, i7_, wa, shl_pow' a (by omega)]
  refine ⟨wu, ?_⟩
  first | refine callG_con (l10_within_con least 10 (by decide) (by decide)) rfl ?_ | refine callCG_con (l10_within_con least 10 (by decide) (by decide)) rfl ?_ | refine callSG_con (l10_within_con least 10 (by decide) (by decide)) rfl ?_
  have g1 := Int.emod_nonneg least (by decide : (10 : Int) ≠ 0)
  have g2 := Int.emod_lt_of_pos least (by decide : (0 : Int) < 10)
  obtain ⟨b, hb⟩ : ∃ b : Nat, least % 10 = b := ⟨(least % 10).toNat, by omega⟩
  have hbB : mkB least = b := by unfold mkB; rw [hb]; rfl
  rw [hb, hbB]
  have wu2 : 0 ≤ IntKind.u64.wrap (b : Int) := by rw [wrapU (by omega) (by omega)]; omega
  simp -implicitDefEqProofs only [evI, hv, effC, reduceCtorEq, ↓reduceIte, n1_, n2_, n3_, n4_, n5_, i1_, i2_, i3_, i4_, i5_, i6_, i7_, shr_pow a b (by omega) (by omega)]
  refine ⟨wu2, ?_⟩
  first | refine callG_con (l10_within_con fin 536870912 (by decide) (by decide)) rfl ?_ | refine callCG_con (l10_within_con fin 536870912 (by decide) (by decide)) rfl ?_ | refine callSG_con (l10_within_con fin 536870912 (by decide) (by decide)) rfl ?_
  have e1 := Int.emod_nonneg fin (by decide : (536870912 : Int) ≠ 0)
  have e2 := Int.emod_lt_of_pos fin (by decide : (0 : Int) < 536870912)
  have we : IntKind.i64.wrap (1 + fin % 536870912) = 1 + fin % 536870912 := wrapI (by omega) (by omega)
  simp -implicitDefEqProofs only [evI, hv, effC, reduceCtorEq, ↓reduceIte, n1_, n2_, n3_, n4_, n5_, i1_, i2_, i3_, i4_, i5_, i6_, i7_, we]
  first | refine callG_con (l10_within_con fin 4 (by decide) (by decide)) rfl ?_ | refine callCG_con (l10_within_con fin 4 (by decide) (by decide)) rfl ?_ | refine callSG_con (l10_within_con fin 4 (by decide) (by decide)) rfl ?_
  obtain ⟨F, hF⟩ : ∃ F : Nat, 2 ^ a = F := ⟨_, rfl⟩
  rw [hF]
  have w4 : IntKind.i64.wrap (4 * (F : Int)) = 4 * (F : Int) := by
    have : 2 ^ a ≤ 2 ^ 28 := Nat.pow_le_pow_right (by decide) (by omega)
    exact wrapI (by omega) (by omega)
  obtain ⟨E, hE⟩ : ∃ E : Int, E = mkE fin F := ⟨_, rfl⟩
  have hFb : 0 < F ∧ F ≤ 2 ^ 28 := by rw [← hF]; exact ⟨Nat.pow_pos (by decide), Nat.pow_le_pow_right (by decide) (by omega)⟩
  have hEb : 0 ≤ E ∧ E < 2 ^ 40 := by rw [hE]; unfold mkE; split <;> omega
  rw [← hE]
  unfold mkE at hE
  by_cases c1 : fin % 4 = 0
  case' pos =>
    have c1' : (fin % 4 == 0) = true := by simpa using c1
    simp -implicitDefEqProofs only [evI, hv, effC, reduceCtorEq, ↓reduceIte, n1_, n2_, n3_, n4_, n5_, i1_, i2_, i3_, i4_, i5_, i6_, i7_, c1', w4]
    rw [if_pos c1] at hE
    rw [← hE]
  case' neg =>
    have c1' : (fin % 4 == 0) = false := by simpa using c1
    simp -implicitDefEqProofs only [evI, hv, effC, reduceCtorEq, ↓reduceIte, n1_, n2_, n3_, n4_, n5_, i1_, i2_, i3_, i4_, i5_, i6_, i7_, c1']
    rw [if_neg c1] at hE
    rw [← hE]
  all_goals
    first | refine callG_con (l10_within_con tol 24 (by decide) (by decide)) rfl ?_ | refine callCG_con (l10_within_con tol 24 (by decide) (by decide)) rfl ?_ | refine callSG_con (l10_within_con tol 24 (by decide) (by decide)) rfl ?_
    have t1 := Int.emod_nonneg tol (by decide : (24 : Int) ≠ 0)
    have t2 := Int.emod_lt_of_pos tol (by decide : (0 : Int) < 24)
    obtain ⟨k, hk⟩ : ∃ k : Nat, tol % 24 = k := ⟨(tol % 24).toNat, by omega⟩
    have hkA : mkAt tol = fop .div 4607182418800017408 (FloatKind.nearest .f64 ((2 ^ k : Nat) : Int)) := by unfold mkAt; rw [hk]; rfl
    rw [hk, hkA]
    have wu3 : 0 ≤ IntKind.u64.wrap (k : Int) := by rw [wrapU (by omega) (by omega)]; omega
    simp -implicitDefEqProofs only [evI, hv, effC, reduceCtorEq, ↓reduceIte, n1_, n2_, n3_, n4_, n5_, i1_, i2_, i3_, i4_, i5_, i6_, i7_, shl_pow' k (by omega)]
    refine ⟨wu3, by decide, ?_⟩
    first | refine callG_con (l10_within_con (IntKind.i64.wrap (tol.tdiv 24)) 3 (by decide) (by decide)) rfl ?_ | refine callCG_con (l10_within_con (IntKind.i64.wrap (tol.tdiv 24)) 3 (by decide) (by decide)) rfl ?_ | refine callSG_con (l10_within_con (IntKind.i64.wrap (tol.tdiv 24)) 3 (by decide) (by decide)) rfl ?_
    simp -implicitDefEqProofs only [evI, hv, effC, reduceCtorEq, ↓reduceIte, n1_, n2_, n3_, n4_, n5_, i1_, i2_, i3_, i4_, i5_, i6_, i7_]
    refine make10_L1 n first least tol fin ns ms outs dv t box y E hEb F ((2 ^ (a - b) : Nat) : Int) _ _ _ 24 h3 _ (fun h w => ?_) (fun h w => ?_)
    · simp -implicitDefEqProofs only [evI, hv, effC, reduceCtorEq, ↓reduceIte, n1_, n2_, n3_, n4_, n5_, i1_, i2_, i3_, i4_, i5_, i6_, i7_]
      refine WA_for (n := 0) (fun c s => s = ⟨_, _⟩) rfl ?_
      rintro c s rfl
      simp -implicitDefEqProofs only [evI, hv, effC, reduceCtorEq, ↓reduceIte, n1_, n2_, n3_, n4_, n5_, i1_, i2_, i3_, i4_, i5_, i6_, i7_, A_l10_Shape_Make_L2]
      rw [mkO_nil _ _ h]
      exact endsT_le (.agg [fI t.n, .d (opsD t.ops), .d (rowI t.out), .sl 27 0 0 t.n 2 (t.n * 2), .d (rowD y), fI E, fI F, fI ((2 ^ (a - b) : Nat) : Int), fl _, fl _, fl _, fI 24, .nil]) (fun _ h => h) (resV_cellI (by decide) rfl rfl rfl (by simp) rfl)
        (Fz_agg _ _ ⟨Fz_d _, Fz_d _, Fz_d _, Fz_iv rfl hbl (get_nil _ _), Fz_d _, Fz_d _, Fz_d _, Fz_d _, Fz_d _, Fz_d _, Fz_d _, Fz_d _, .d (.nil _), trivial⟩)
    · simp -implicitDefEqProofs only [evI, hv, effC, reduceCtorEq, ↓reduceIte, n1_, n2_, n3_, n4_, n5_, i1_, i2_, i3_, i4_, i5_, i6_, i7_]
      refine make10_L2 _ _ (outsA_len _ _ _) (by omega) t box y E F ((2 ^ (a - b) : Nat) : Int) _ _ _ 24 _ ?_ _ fun w => ?_
      · intro L; simp only [KpA_cons]; exact ⟨Kp_d _, Kp_d _, Kp_d _, Kp_d _, Kp_d _, Kp_d _, Kp_d _, Kp_d _, Kp_d _, KpA_nil⟩
      simp -implicitDefEqProofs only [evI, hv, effC, reduceCtorEq, ↓reduceIte, n1_, n2_, n3_, n4_, n5_, i1_, i2_, i3_, i4_, i5_, i6_, i7_]
      exact endsT_le (.agg [fI t.n, .d (opsD t.ops), .d (rowI t.out), .sl 27 0 0 t.n 2 (t.n * 2), .d (rowD y), fI E, fI F, fI ((2 ^ (a - b) : Nat) : Int), fl _, fl _, fl _, fI 24, .sl 40 0 0 (min outs.length 8) 1 (min outs.length 8)]) (fun _ h => h) (resV_cellI (by decide) rfl rfl rfl (by simp) rfl)
        (Fz_agg _ _ ⟨Fz_d _, Fz_d _, Fz_d _, Fz_iv rfl hbl (get_nil _ _), Fz_d _, Fz_d _, Fz_d _, Fz_d _, Fz_d _, Fz_d _, Fz_d _, Fz_d _, Fz_ints rfl (mkO_len _ _) (get_nil _ _), trivial⟩)
end Go.Ab

namespace Go.Ab
set_option linter.unusedSimpArgs false
set_option linter.unusedVariables false
open Nat renaming reduceEqDiff → n1_, reduceAdd → n2_, reduceMul → n3_, reduceLT → n4_, reduceLeDiff → n5_
open Int renaming reduceToNat → i1_, reduceAdd → i2_, reduceSub → i3_, reduceMul → i4_, reduceNeg → i5_, reduceLT → i6_, reduceLE → i7_
open Go Go.Proofs
theorem scale_row0 {Z : List (List Nat)} {m n : Nat} (h : Rk m n Z) (hm : 0 < m) (hc : Cw Z) (k : Int) : (scaleP Z k m n).getD 0 [] = Z.getD 0 [] := by
  have hs := scaleP_rk h k m n
  have l1 := hs.2 0 hm
  have l2 := h.2 0 hm
  refine List.ext_getElem (by omega) fun i h1 h2 => ?_
  have e := mapJ_at (fun j _ x => scl x (j * k)) h m (Nat.le_refl _) 0 i
  rw [if_pos ⟨hm, by omega⟩] at e
  have e2 : at2 (scaleP Z k m n) 0 i = at2 Z 0 i := by
    show at2 (mapJ _ Z n m) 0 i = _
    rw [e]
    show scl _ ((0 : Nat) * k) = _
    rw [show (((0 : Nat) : Int) * k) = 0 by simp]
    exact scl_zero (hc 0 i)
  unfold at2 at e2
  rw [List.getD_eq_getElem?_getD (i := i), List.getD_eq_getElem?_getD (i := i), List.getElem?_eq_getElem h1, List.getElem?_eq_getElem h2] at e2
  exact e2
theorem nextR_len (l d : List Nat) (q : Nat) : (nextR l d q).length = d.length := tabR_len _ _
theorem Rk_app {Z : List (List Nat)} {m n : Nat} (h : Rk m n Z) (x : List Nat) (hx : x.length = n) : Rk (m + 1) n (Z ++ [x]) := by
  refine ⟨by simp [h.1], fun i hi => ?_⟩
  by_cases hi2 : i < m
  · rw [List.getD_eq_getElem?_getD, List.getElem?_append_left (by rw [h.1]; exact hi2), ← List.getD_eq_getElem?_getD]
    exact h.2 i hi2
  · obtain rfl : i = m := by omega
    rw [List.getD_eq_getElem?_getD, List.getElem?_append_right (by rw [h.1]; exact Nat.le_refl _), h.1, Nat.sub_self]
    exact hx
theorem Cw_app {Z : List (List Nat)} (h : Cw Z) (x : List Nat) (hx : ∀ i, cw (x.getD i 0)) : Cw (Z ++ [x]) := fun r i => by
  unfold at2
  by_cases hr : r < Z.length
  · rw [List.getD_eq_getElem?_getD (l := Z ++ [x]), List.getElem?_append_left hr, ← List.getD_eq_getElem?_getD]
    exact h r i
  · rw [List.getD_eq_getElem?_getD (l := Z ++ [x]), List.getElem?_append_right (by omega)]
    by_cases hr2 : r - Z.length = 0
    · rw [hr2]; exact hx i
    · rw [show ([x] : List (List Nat))[r - Z.length]? = none from List.getElem?_eq_none (by simp; omega)]
      exact cw_zero
theorem tabR_cw (f : Nat → Nat) (n : Nat) (h : ∀ i, cw (f i)) (i : Nat) : cw ((tabR f n).getD i 0) := by
  by_cases hi : i < n
  · rw [tabR_getD _ _ _ hi]; exact h i
  · rw [List.getD_eq_getElem?_getD, List.getElem?_eq_none (by rw [tabR_len]; omega)]
    exact cw_zero
theorem startZ_rk (t : Tp) (y : List Nat) (h : Nat) (hy : y.length = t.n) : Rk 2 t.n (startZ t y h) := by
  refine ⟨rfl, fun i hi => ?_⟩
  rcases i with _ | _ | i
  · exact hy
  · exact tabR_len _ _
  · omega
theorem startZ_cw (t : Tp) (y : List Nat) (h : Nat) (hy : ∀ i, cw (y.getD i 0)) : Cw (startZ t y h) := fun r i => by
  rcases r with _ | _ | r
  · exact hy i
  · exact tabR_cw _ _ (fun i => fop_cw _ _ _) i
  · exact cw_zero
structure Pk (p : Pb) : Prop where
  ok : Pok p
  fst : ∃ a, a ≤ 28 ∧ p.first = (2 ^ a : Nat)
  lst : ∃ b, b ≤ 28 ∧ p.least = (2 ^ b : Nat)
  le : p.least ≤ p.first
  fin : 0 ≤ p.fin ∧ p.fin ≤ 2147483648
  yl : p.y.length = p.t.n
  yc : ∀ i, cw (p.y.getD i 0)
structure Inv (p : Pb) (k : Nat) (s : Sta) : Prop where
  ok : s.ok p.t
  pos : s.n.pos ≤ k * 4294967296
  good : s.good ≤ k
  fails : s.fails ≤ 2
  slow : s.slow ≤ 1
  lo : p.least ≤ s.n.step
  hi : s.n.step ≤ 2 * p.fin ∨ s.n.step ≤ 2 * p.first
def beginS (p : Pb) : Sta := ⟨⟨0, p.first, 1, 0, startZ p.t p.y (hW p.first.toNat)⟩, 0, 0, 0⟩
theorem begin_inv {p : Pb} (h : Pk p) : Inv p 0 (beginS p) := by
  obtain ⟨a, ha, hfa⟩ := h.fst
  have hl := h.ok.least
  have hle := h.le
  refine ⟨⟨⟨.inl ⟨rfl, Int.le_refl _, by show (1 : Int) ≤ 5; decide⟩, ⟨a, by omega, hfa⟩, startZ_rk _ _ _ h.yl, startZ_cw _ _ _ h.yc, ⟨Int.le_refl _, by show (0 : Int) < _; decide⟩⟩, ⟨Int.le_refl _, by show (0 : Int) < _; decide⟩, ⟨Int.le_refl _, by show (0 : Int) < _; decide⟩, ⟨Int.le_refl _, by show (0 : Int) < _; decide⟩⟩, by show (0 : Int) ≤ _; decide, by show (0 : Int) ≤ _; decide, by show (0 : Int) ≤ _; decide, by show (0 : Int) ≤ _; decide, hle, .inr ?_⟩
  show p.first ≤ 2 * p.first
  omega
theorem pow_step {a b : Nat} (h : 2 ^ a < 2 ^ b) : a + 1 ≤ b := by
  rcases Nat.lt_or_ge a b with h1 | h1
  · exact h1
  · exact absurd (Nat.pow_le_pow_right (by decide : 0 < 2) h1) (by omega)
theorem fresh_ok {p : Pb} {n : Nd} (hp : Pk p) (hm : n.method = 0 ∨ n.method = 1) (hst : ∃ j : Nat, j < 60 ∧ n.step = (2 ^ j : Nat)) (hr : (n.z.getD 0 []).length = p.t.n) (hc : ∀ i, cw ((n.z.getD 0 []).getD i 0)) (hpos : 0 ≤ n.pos ∧ n.pos < 2305843009213693952) : Nok p.t (freshP p n) := by
  refine ⟨?_, hst, startZ_rk _ _ _ hr, startZ_cw _ _ _ hc, hpos⟩
  show (n.method = 0 ∧ (1 : Int) ≤ 1 ∧ (1 : Int) ≤ 5) ∨ (n.method = 1 ∧ (1 : Int) ≤ 1 ∧ (1 : Int) ≤ 4)
  omega
theorem take_inv {p : Pb} {k : Nat} {s : Sta} (hp : Pk p) (h : Inv p k s) (hk : k < 100000) (z : List (List Nat)) (l d : List Nat) (err : Nat) (hz : Rk (s.n.order.toNat + 1) p.t.n z) (hzc : Cw z) (hd : d.length = p.t.n) : Inv p (k + 1) (takeP p s z l d err).s := by
  obtain ⟨⟨⟨hm, ⟨j, hj, hst⟩, hr, hc, hpos⟩, hg, hf, hsl⟩, hps, hgd, hfl, hsw, hlo, hhi⟩ := h
  obtain ⟨a, ha, hfa⟩ := hp.fst
  have hfin := hp.fin
  have pa : 2 ^ a ≤ 2 ^ 28 := Nat.pow_le_pow_right (by decide) ha
  have hl1 := hp.ok.least
  obtain ⟨⟨pos, st, o, m, z0⟩, g, f, sl⟩ := s
  simp only at *
  have hst2 : st ≤ 4294967296 := by omega
  have hr' := corrP_rk hz l d (o.toNat + 1) p.t.n
  have hc' := corrP_cw hzc l d (o.toNat + 1) p.t.n
  have hpos' : 0 ≤ pos + st ∧ pos + st < 2305843009213693952 := by omega
  have hps' : pos + st ≤ ((k + 1 : Nat) : Int) * 4294967296 := by omega
  unfold takeP
  simp only
  split
  · exact ⟨⟨⟨hm, ⟨j, hj, hst⟩, hr', hc', hpos'⟩, by simp only; omega, by simp only; omega, by simp only; omega⟩, hps', by simp only; omega, by simp only; omega, by simp only; omega, hlo, hhi⟩
  · split
    · rename_i h2
      have hj2 : j + 1 < 60 := by
        have : 2 ^ j < 2 ^ 40 := by omega
        have := pow_step this
        omega
      refine ⟨⟨⟨hm, ⟨j + 1, hj2, ?_⟩, scaleP_rk hr' 1 _ _, scaleP_cw hc' 1 _ _, hpos'⟩, by simp only; omega, by simp only; omega, by simp only; omega⟩, hps', by simp only; omega, by simp only; omega, by simp only; omega, by simp only; omega, .inl (by simp only; omega)⟩
      show 2 * st = _
      rw [hst, Nat.pow_succ]; omega
    · split
      · rename_i h3
        have hmo : mostO m = if m = 0 then 5 else 4 := rfl
        have h4 := h3.2
        rw [hmo] at h4
        have ho1 : (o + 1).toNat + 1 = o.toNat + 1 + 1 := by omega
        refine ⟨⟨⟨?_, ⟨j, hj, hst⟩, ?_, Cw_app hc' _ (tabR_cw _ _ fun i => fop_cw _ _ _), hpos'⟩, by simp only; omega, by simp only; omega, by simp only; omega⟩, hps', by simp only; omega, by simp only; omega, by simp only; omega, hlo, hhi⟩
        · simp only
          split at h4 <;> omega
        · simp only
          rw [ho1]
          exact Rk_app hr' _ (by rw [nextR_len]; exact hd)
      · exact ⟨⟨⟨hm, ⟨j, hj, hst⟩, hr', hc', hpos'⟩, by simp only; omega, by simp only; omega, by simp only; omega⟩, hps', by simp only; omega, by simp only; omega, by simp only; omega, hlo, hhi⟩
theorem fail_inv {p : Pb} {k : Nat} {s : Sta} (hp : Pk p) (h : Inv p k s) (hk : k < 100000) (e : Int) (err : Nat) : Inv p (k + 1) (failP p s e err).s := by
  obtain ⟨⟨⟨hm, ⟨j, hj, hst⟩, hr, hc, hpos⟩, hg, hf, hsl⟩, hps, hgd, hfl, hsw, hlo, hhi⟩ := h
  obtain ⟨b, hb, hlb⟩ := hp.lst
  have hl1 := hp.ok.least
  obtain ⟨⟨pos, st, o, m, z0⟩, g, f, sl⟩ := s
  simp only at *
  have hps' : pos ≤ ((k + 1 : Nat) : Int) * 4294967296 := by omega
  unfold failP
  simp only
  split
  · exact ⟨⟨⟨hm, ⟨j, hj, hst⟩, hr, hc, hpos⟩, hg, hf, hsl⟩, hps', by simp only; omega, hfl, hsw, hlo, hhi⟩
  · rename_i h1
    have hbj : 2 ^ b < 2 ^ j := by omega
    have hbj2 := pow_step hbj
    obtain ⟨i, rfl⟩ : ∃ i, j = i + 1 := ⟨j - 1, by omega⟩
    have hst' : st / 2 = ((2 ^ i : Nat) : Int) := by rw [hst, Nat.pow_succ]; omega
    have hlo' : p.least ≤ st / 2 := by
      rw [hst', hlb]
      have : 2 ^ b ≤ 2 ^ i := Nat.pow_le_pow_right (by decide) (by omega)
      omega
    have hhi' : st / 2 ≤ 2 * p.fin ∨ st / 2 ≤ 2 * p.first := by
      have : 0 ≤ st := by omega
      omega
    have hr' := scaleP_rk hr (-1) (o.toNat + 1) p.t.n
    have hc' := scaleP_cw hc (-1) (o.toNat + 1) p.t.n
    have hsl' : 0 ≤ (if e = 6 ∧ m = 0 then sl + 1 else sl) ∧ (if e = 6 ∧ m = 0 then sl + 1 else sl) ≤ 2 := by split <;> omega
    generalize (if e = 6 ∧ m = 0 then sl + 1 else sl) = sl' at hsl'
    split
    · exact ⟨⟨fresh_ok hp (.inr rfl) ⟨i, by omega, hst'⟩ (hr'.2 0 (by omega)) (fun c => hc' 0 c) hpos, by simp only; omega, by simp only; omega, by simp only; omega⟩, hps', by simp only; omega, by simp only; omega, by simp only; omega, hlo', hhi'⟩
    · split
      · exact ⟨⟨⟨hm, ⟨i, by omega, hst'⟩, hr', hc', hpos⟩, by simp only; omega, by simp only; omega, by simp only; omega⟩, hps', by simp only; omega, by simp only; omega, by simp only; omega, hlo', hhi'⟩
      · exact ⟨⟨fresh_ok hp (by simp only; omega) ⟨i, by omega, hst'⟩ (hr'.2 0 (by omega)) (fun c => hc' 0 c) hpos, by simp only; omega, by simp only; omega, by simp only; omega⟩, hps', by simp only; omega, by simp only; omega, by simp only; omega, hlo', hhi'⟩
end Go.Ab

namespace Go.Ab
set_option linter.unusedSimpArgs false
set_option linter.unusedVariables false
open Nat renaming reduceEqDiff → n1_, reduceAdd → n2_, reduceMul → n3_, reduceLT → n4_, reduceLeDiff → n5_
open Int renaming reduceToNat → i1_, reduceAdd → i2_, reduceSub → i3_, reduceMul → i4_, reduceNeg → i5_, reduceLT → i6_, reduceLE → i7_
open Go Go.Proofs
theorem tryP_cases {p : Pb} {k : Nat} {s : Sta} (hp : Pk p) (h : Inv p k s) :
    (∃ d kk err, solG p.t (predP s.n.z p.t.n s.n.order.toNat) (ofL s.n.method s.n.order.toNat) (hW s.n.step.toNat) (wtP (s.n.z.getD 0 []) p.atol p.rtol) s.n.method = (d, kk, 0) ∧ d.length = p.t.n ∧ fcmp .le err 4607182418800017408 = true ∧ tryP p s = takeP p s (predP s.n.z p.t.n s.n.order.toNat) (ofL s.n.method s.n.order.toNat) d err) ∨ ∃ e err, tryP p s = failP p s e err := by
  unfold tryP
  rcases solG_form p.t (predP s.n.z p.t.n s.n.order.toNat) (ofL s.n.method s.n.order.toNat) (hW s.n.step.toNat) (wtP (s.n.z.getD 0 []) p.atol p.rtol) s.n.method with ⟨g, kk, hg, he⟩ | ⟨kk, e, hne, he⟩
  · simp only [he, ne_eq, not_true_eq_false, if_false]
    split
    · rename_i h1
      exact .inl ⟨g, kk, _, rfl, hg, h1, rfl⟩
    · exact .inr ⟨_, _, rfl⟩
  · simp only [he, ne_eq, hne, not_false_eq_true, if_true]
    exact .inr ⟨_, _, rfl⟩
theorem tryP_inv {p : Pb} {k : Nat} {s : Sta} (hp : Pk p) (h : Inv p k s) (hk : k < 100000) : Inv p (k + 1) (tryP p s).s := by
  rcases tryP_cases hp h with ⟨d, kk, err, _, hd, _, e⟩ | ⟨e', err, e⟩
  · rw [e]
    exact take_inv hp h hk _ _ _ _ (predP_rk h.ok.n.rk _) (predP_cw h.ok.n.cw _ _) hd
  · rw [e]
    exact fail_inv hp h hk _ _
theorem mkPb_ok (n first least tol fin : Int) (ns ms outs : List Int) (dv : Bool) : Pk (mkPb n first least tol fin ns ms outs dv) := by
  have m1 := Int.emod_nonneg n (by decide : (3 : Int) ≠ 0)
  have f1 := Int.emod_nonneg first (by decide : (13 : Int) ≠ 0)
  have f2 := Int.emod_lt_of_pos first (by decide : (0 : Int) < 13)
  have g1 := Int.emod_nonneg least (by decide : (10 : Int) ≠ 0)
  have g2 := Int.emod_lt_of_pos least (by decide : (0 : Int) < 10)
  have e1 := Int.emod_nonneg fin (by decide : (536870912 : Int) ≠ 0)
  have e2 := Int.emod_lt_of_pos fin (by decide : (0 : Int) < 536870912)
  have ha : mkA first ≤ 28 := by unfold mkA; omega
  have hl : (2 : Nat) ^ (mkA first - mkB least) ≤ 2 ^ mkA first := Nat.pow_le_pow_right (by decide) (Nat.sub_le _ _)
  have hpos : 0 < (2 : Nat) ^ (mkA first - mkB least) := Nat.pow_pos (by decide)
  have hp28 : (2 : Nat) ^ mkA first ≤ 2 ^ 28 := Nat.pow_le_pow_right (by decide) ha
  refine ⟨⟨mkT_ok n ns dv, ?_, ?_⟩, ⟨mkA first, ha, rfl⟩, ⟨mkA first - mkB least, by omega, rfl⟩, ?_, ?_, tabR_len _ _, tabR_cw _ _ fun i => fop_cw _ _ _⟩
  · show 0 < (mkT n ns dv).n
    rw [mkT_n]; omega
  · show (1 : Int) ≤ ((2 ^ (mkA first - mkB least) : Nat) : Int)
    omega
  · show ((2 ^ (mkA first - mkB least) : Nat) : Int) ≤ ((2 ^ mkA first : Nat) : Int)
    omega
  · show 0 ≤ mkE fin (2 ^ mkA first) ∧ mkE fin (2 ^ mkA first) ≤ 2147483648
    generalize 2 ^ mkA first = F at hp28
    unfold mkE
    split <;> omega
end Go.Ab

namespace Go.Ab
set_option linter.unusedSimpArgs false
set_option linter.unusedVariables false
open Nat renaming reduceEqDiff → n1_, reduceAdd → n2_, reduceMul → n3_, reduceLT → n4_, reduceLeDiff → n5_
open Int renaming reduceToNat → i1_, reduceAdd → i2_, reduceSub → i3_, reduceMul → i4_, reduceNeg → i5_, reduceLT → i6_, reduceLE → i7_
open Go Go.Proofs
set_option maxRecDepth 8000 in
theorem nord_Correct_ac (A : List (List Nat)) (m n : Nat) (hA : Rk m n A) (hm : m < 1000) (hn : n < 2 ^ 40) (l d : List Nat) (hl : l.length = m) (hd : d.length = n) :
    AC Tryz.prog 38 [.d (rowsD A), .d (rowD l), .d (rowD d)] [] [(102, (corrP A l d m n).map rowV), (4, [hdo 102 0 m n])] (.sl 4 0 0 m 1 m) := by
  refine AC_introA A_nord_Correct_comp rfl mixed (fun _ => False) (by simp [get_nil]) ?_
  simp -implicitDefEqProofs only [evI, hv, effC, reduceCtorEq, ↓reduceIte, n1_, n2_, n3_, n4_, n5_, i1_, i2_, i3_, i4_, i5_, i6_, i7_, A_nord_Correct, fnOf_ptr2]
  refine callG_rows 2 [.d (rowsD A), .d (.fn 73 [] [.bptr [rowD l], .bptr [rowD d]])] (by simp [Heap.next]) (nord_each_ac 73 [.bptr [rowD l], .bptr [rowD d]] (fun k i x => fop .add x (fop .mul (l.getD k 0) (d.getD i 0))) A m n hA (by omega) hn (fun j i x hj hi => nord_Correct1_con l d j i x (by omega) (by omega) (by omega) (by omega)))
    ⟨.bare _, .fun2 (snap_box rfl) (snap_box rfl), trivial⟩ ?_
  have hZ := corrP_rk hA l d m n
  have hk1 : ∀ L : Heap, L.fam 102 = some ((corrP A l d m n).map rowV) → KpA L (hdo 102 0 m n) := fun L hL => KpA_hdoF hL (by have := hZ.1; omega)
  have he : mapJ (fun (k i x : Nat) => fop .add x (fop .mul (l.getD k 0) (d.getD i 0))) A n m = corrP A l d m n := rfl
  rw [he]
  simp -implicitDefEqProofs only [evI, hv, effC, reduceCtorEq, ↓reduceIte, n1_, n2_, n3_, n4_, n5_, i1_, i2_, i3_, i4_, i5_, i6_, i7_]
  exact endsT_only (fun X => X == 102 || X == 4) (fun _ h => h) (resV_tmpI (t := 6) (by decide) rfl) rfl (by simp (maxDischargeDepth := 6) [KpS_cons, KpS_nil, KpH_cons, KpH_nil, KpF_cons, KpF_nil, KpF_rows, KpA_cons, KpA_nil, KpA_app, KpA_rowV, KpA_rowIV, KpA_dcells, KpA_outC, Kp_any, Kp_nilv, Kp_d, Kp_ptr, Kp_sl, Kp_agg, Kp_tup, Kp_fn, get_cons, get_nil, fam_cons, fam_nil]) (by simp (maxDischargeDepth := 6) [KpS_cons, KpS_nil, KpH_cons, KpH_nil, KpF_cons, KpF_nil, KpF_rows, KpA_cons, KpA_nil, KpA_app, KpA_rowV, KpA_rowIV, KpA_dcells, KpA_outC, Kp_any, Kp_nilv, Kp_d, Kp_ptr, Kp_sl, Kp_agg, Kp_tup, Kp_fn, get_cons, get_nil, fam_cons, fam_nil, hk1])
/-- A problem, its outputs as they are. -/
abbrev pbCo (p : Pb) (od : D) : List V := [fI p.t.n, .d (opsD p.t.ops), .d (rowI p.t.out), .d (ivD p.box), .d (rowD p.y), fI p.fin, fI p.first, fI p.least, fl p.atol, fl p.rtol, fl p.cap, fI p.most, .d od]
abbrev pbVo (p : Pb) (od : D) : V := .agg (pbCo p od)
set_option maxRecDepth 16000 in
theorem step_taken_acA (p : Pb) (od : D) (s : Sta) (C : List (List Nat)) (l d : List Nat) (err : Nat) (hp : Pok p) (hs : s.ok p.t) (hz' : Rk (s.n.order.toNat + 1) p.t.n C) (hzc' : Cw C) (hc : s.good + 1 ≤ s.n.order + 1) :
    AC Tryz.prog 39 [pbVo p od, staV s, ndV { s.n with pos := s.n.pos + s.n.step, z := C }, .d (rowD l), .d (rowD d), fl err] [] [(121, C.map rowV), (23, [hdo 121 0 (s.n.order.toNat + 1) p.t.n])]
      (.agg [fI (s.n.pos + s.n.step), fI s.n.step, fI s.n.order, fI s.n.method, .sl 23 0 0 (s.n.order.toNat + 1) 1 (s.n.order.toNat + 1), fI (s.good + 1), fI 0, fI s.slow]) := by
  obtain ⟨hn, hg, hf, hsl⟩ := hs
  obtain ⟨hm, ⟨j, hj, hst⟩, hk, hc0, hpos⟩ := hn
  obtain ⟨⟨pos, st, o, m, z0⟩, g, f, sl⟩ := s
  simp only at *
  clear hst
  obtain ⟨q, rfl⟩ : ∃ q : Nat, o = q := ⟨o.toNat, by omega⟩
  rw [Int.toNat_natCast] at hz' ⊢
  have hpn := hp.t.n
  have hn40 : p.t.n < 2 ^ 40 := by omega
  have hq10 : q + 1 < 1000 := by omega
  have hown := step_own_ac C (q + 1) p.t.n hz' hzc' hq10 hn40
  have w1 : IntKind.i64.wrap (g + 1) = g + 1 := wrapI (by omega) (by omega)
  have w2 : IntKind.i64.wrap ((q : Int) + 1) = (q : Int) + 1 := wrapI (by omega) (by omega)
  have c1' : decide (g + 1 ≤ (q : Int) + 1) = true := decide_eq_true hc
  refine AC_introA A_step_taken_comp rfl mixed (fun _ => False) (by simp [get_nil]) ?_
  simp -implicitDefEqProofs only [evI, hv, effC, reduceCtorEq, ↓reduceIte, n1_, n2_, n3_, n4_, n5_, i1_, i2_, i3_, i4_, i5_, i6_, i7_, A_step_taken]
  refine callG_rows 20 [.d (rowsD C)] (by simp [Heap.next]) hown ⟨.bare _, trivial⟩ ?_
  simp -implicitDefEqProofs only [evI, hv, effC, reduceCtorEq, ↓reduceIte, n1_, n2_, n3_, n4_, n5_, i1_, i2_, i3_, i4_, i5_, i6_, i7_, w1, w2, c1']
  have hk1 : ∀ L : Heap, L.fam 121 = some (C.map rowV) → KpA L (hdo 121 0 (q + 1) p.t.n) := fun L hL => KpA_hdoF hL (by have := hz'.1; omega)
  exact endsT_only (fun X => X == 121 || X == 23) (fun _ h => h) (resV_cellI (by decide) rfl rfl rfl (by simp) rfl) rfl (by simp (maxDischargeDepth := 6) [KpS_cons, KpS_nil, KpH_cons, KpH_nil, KpF_cons, KpF_nil, KpF_rows, KpA_cons, KpA_nil, KpA_app, KpA_rowV, KpA_rowIV, KpA_dcells, KpA_outC, Kp_any, Kp_nilv, Kp_d, Kp_ptr, Kp_sl, Kp_agg, Kp_tup, Kp_fn, get_cons, get_nil, fam_cons, fam_nil]) (by simp (maxDischargeDepth := 6) [KpS_cons, KpS_nil, KpH_cons, KpH_nil, KpF_cons, KpF_nil, KpF_rows, KpA_cons, KpA_nil, KpA_app, KpA_rowV, KpA_rowIV, KpA_dcells, KpA_outC, Kp_any, Kp_nilv, Kp_d, Kp_ptr, Kp_sl, Kp_agg, Kp_tup, Kp_fn, get_cons, get_nil, fam_cons, fam_nil, hk1])
/-- Rows and what names them, as one family. -/
theorem AC_rows1 {P : Program} {f : FuncId} {vs : List V} {X Y m n : Nat} {A : List (List Nat)} (hXY : X ≠ Y) (hA : A.length = m) (h : AC P f vs [] [(X, A.map rowV), (Y, [hdo X 0 m n])] (.sl Y 0 0 m 1 m)) :
    AC P f vs [] [(0, A.map rowV ++ [hdo 0 0 m n])] (.sl 0 m 0 m 1 m) := by
  have hl : (A.map rowV).length = m := by rw [List.length_map]; exact hA
  refine AC_le h ?_
  have := Le.ren (N := fun _ => False) (sl := [.sl Y 0 0 m 1 m]) (L := [(X, A.map rowV), (Y, [hdo X 0 m n])]) (L2 := [(0, A.map rowV ++ [hdo 0 0 m n])])
    (fun a r => if a = Y then (0, m) else (0, r)) (fun _ r => if r = m then (Y, 0) else (X, r)) ?_ ?_ ?_
  · simpa [V.ren] using this
  · intro a r c hc
    rw [get_cons, get_cons, get_nil] at hc
    split at hc
    · rename_i e; subst e
      have hr : r < m := by rw [← hl]; exact (List.getElem?_eq_some_iff.1 hc).1
      rw [if_neg hXY]
      refine ⟨?_, by simp only; rw [if_neg (by omega)]⟩
      show Heap.get [(0, A.map rowV ++ [hdo 0 0 m n])] 0 r = _
      rw [get_cons, if_pos rfl, List.getElem?_append_left (by omega), hc]
      rw [List.getElem?_map] at hc
      obtain ⟨xs, h1, rfl⟩ := Option.map_eq_some_iff.1 hc
      rw [ren_rowV]
    · split at hc
      · rename_i e; subst e
        rcases r with _ | r
        · simp at hc; subst hc
          rw [if_pos rfl]
          refine ⟨?_, by simp⟩
          show Heap.get [(0, A.map rowV ++ [hdo 0 0 m n])] 0 m = _
          rw [get_cons, if_pos rfl, List.getElem?_append_right (by omega), hl, Nat.sub_self]
          rw [hdo_ren _ X 0 m n 0 0 (fun j _ => by simp [hXY])]
          rfl
        · simp at hc
      · cases hc
  · intro a r c hc
    rw [get_cons, get_nil] at hc
    split at hc
    · rename_i e; subst e
      have hr : r < m + 1 := by have := (List.getElem?_eq_some_iff.1 hc).1; simpa [hA] using this
      by_cases hm : r = m
      · subst hm
        rw [if_pos rfl]
        refine ⟨?_, by simp⟩
        simp [get_cons, Ne.symm hXY, hXY]
      · rw [if_neg hm]
        refine ⟨?_, by simp only; rw [if_neg hXY]⟩
        simp only [get_cons, if_true]
        rw [List.getElem?_eq_getElem (by omega)]
        simp
    · cases hc
  · intro a r h; exact h.elim
theorem callS_rows1 {P : Program} {g : FuncId} {vs : List V} {L : Heap} {K : V → Heap → Prop} {nm k X Y m n : Nat} {A : List (List Nat)} (hXY : X ≠ Y) (hA : A.length = m) (h : AC P g vs [] [(X, A.map rowV), (Y, [hdo X 0 m n])] (.sl Y 0 0 m 1 m))
    (hb : vs.all V.bareB = true) (hf : L.fam nm = none) (hK : K (.sl nm m 0 m 1 m) (L.ins nm (A.map rowV ++ [hdo nm 0 m n]))) : CallS P nm k g vs L K := by
  refine callSG_fresh (AC_rows1 hXY hA h) hb hf ?_
  have e : famUp nm (A.map rowV ++ [hdo 0 0 m n]) = A.map rowV ++ [hdo nm 0 m n] := by
    unfold famUp
    rw [List.map_append, ren_fam, List.map_cons, List.map_nil, hdo_ren _ 0 0 m n nm 0 (fun j _ => by simp [toF])]
  rw [e]
  exact hK
theorem callG_up {P : Program} {g : FuncId} {vs : List V} {L H : Heap} {r : V} {K : V → Heap → Prop} (k : Nat) (us : List V) (hk : L.next ≤ k) (h : AC P g us [] H r) (hs : Snaps L vs us) (hr : PureV r) (hp : ∀ X q cells, H.get X q = some cells → ∀ j, j < cells.length → PureV (cells.getD j .any))
    (hK : K (r.ren (upF k)) (Heap.up k H ++ L)) : callG P g vs L K := callG_ac (AC_frameK k hk (us := us) h hs.at.1 (.inr ⟨hs.at.2, hr, hp⟩)) hK
theorem fam_hdr {C : List (List Nat)} {m n X : Nat} (hC : Rk m n C) {L : Heap} (h : L.fam X = some (C.map rowV ++ [hdo X 0 m n])) : L.get X m = some (hdo X 0 m n) ∧ ∀ r, r < m → L.get X r = some (rowV (C.getD r [])) := by
  have hl : (C.map rowV).length = m := by rw [List.length_map]; exact hC.1
  refine ⟨?_, fun r hr => ?_⟩
  · unfold Heap.get; rw [h]
    show (C.map rowV ++ [hdo X 0 m n])[m]? = _
    rw [List.getElem?_append_right (by omega), hl, Nat.sub_self]; rfl
  · unfold Heap.get; rw [h]
    show (C.map rowV ++ [hdo X 0 m n])[r]? = _
    rw [List.getElem?_append_left (by omega), List.getElem?_map, List.getD_eq_getElem?_getD, List.getElem?_eq_getElem (by rw [hC.1]; exact hr)]; rfl
theorem snp_fam {C : List (List Nat)} {m n X : Nat} (hC : Rk m n C) {L : Heap} (h : L.fam X = some (C.map rowV ++ [hdo X 0 m n])) : Snap L (.sl X m 0 m 1 m) (.d (rowsD C)) :=
  snp_rows (fam_hdr hC h).1 (fun r hr => ⟨(fam_hdr hC h).2 r hr, hC.2 r hr⟩) hC.1 rfl
theorem Kp_fam {C : List (List Nat)} {m n X : Nat} (hC : Rk m n C) {L : Heap} (h : L.fam X = some (C.map rowV ++ [hdo X 0 m n])) : Kp L (.sl X m 0 m 1 m) := fun _ => .sl (by rw [(fam_hdr hC h).1]; simp) rfl
theorem KpF_fam {C : List (List Nat)} {m n X : Nat} (hC : Rk m n C) {L : Heap} (h : L.fam X = some (C.map rowV ++ [hdo X 0 m n])) : KpF L (C.map rowV ++ [hdo X 0 m n]) := fun c hc => by
  rw [List.mem_append] at hc
  rcases hc with hc | hc
  · obtain ⟨xs, _, rfl⟩ := List.mem_map.1 hc
    exact KpA_rowV xs
  · obtain rfl := List.mem_singleton.1 hc
    intro v hv L0
    obtain ⟨i, hi, rfl⟩ := List.mem_iff_getElem.1 hv
    rw [hdo_length] at hi
    have e := hdo_getD X 0 m n i hi
    rw [List.getD_eq_getElem?_getD, List.getElem?_eq_getElem (by rw [hdo_length]; exact hi)] at e
    rw [show (hdo X 0 m n)[i] = .sl X (i + 0) 0 n 1 n from e]
    exact .sl (by rw [(fam_hdr hC h).2 (i + 0) (by omega)]; simp) rfl
theorem pure_rowV (xs : List Nat) (j : Nat) : PureV ((rowV xs).getD j .any) := by
  rw [List.getD_eq_getElem?_getD, List.getElem?_map]
  cases xs[j]? with
  | none => exact .any
  | some x => exact .flt x
theorem pure_hdo (X o n len j : Nat) (h : j < n) : PureV ((hdo X o n len).getD j .any) := by rw [hdo_getD _ _ _ _ _ h]; exact .sl ..
theorem pure_rows {X Y m n : Nat} {A : List (List Nat)} : ∀ Z q cells, Heap.get [(X, A.map rowV), (Y, [hdo X 0 m n])] Z q = some cells → ∀ j, j < cells.length → PureV (cells.getD j .any) := by
  intro Z q cells hX j hj
  rw [get_cons, get_cons, get_nil] at hX
  split at hX
  · rw [List.getElem?_map] at hX
    obtain ⟨xs, h1, rfl⟩ := Option.map_eq_some_iff.1 hX
    exact pure_rowV _ _
  · split at hX
    · rcases q with _ | q
      · simp at hX; subst hX
        rw [hdo_length] at hj
        exact pure_hdo _ _ _ _ _ hj
      · simp at hX
    · cases hX
set_option maxRecDepth 16000 in
theorem step_Try_acA (p : Pb) (od : D) (s : Sta) (hp : Pok p) (hs : s.ok p.t) (g' : List Nat) (k' : Nat) (err : Nat)
    (hsg : solG p.t (predP s.n.z p.t.n s.n.order.toNat) (ofL s.n.method s.n.order.toNat) (hW s.n.step.toNat) (wtP (s.n.z.getD 0 []) p.atol p.rtol) s.n.method = (g', k', 0))
    (herr : fop .div (szP g' (wtP (s.n.z.getD 0 []) p.atol p.rtol)) (FloatKind.nearest .f64 (s.n.order + 1)) = err) (hle : fcmp .le err 4607182418800017408 = true) (hgd : s.good + 1 ≤ s.n.order + 1) :
    AC Tryz.prog 17 [pbVo p od, staV s] [] [(161, (corrP (predP s.n.z p.t.n s.n.order.toNat) (ofL s.n.method s.n.order.toNat) g' (s.n.order.toNat + 1) p.t.n).map rowV), (63, [hdo 161 0 (s.n.order.toNat + 1) p.t.n]), (33, (corrP (predP s.n.z p.t.n s.n.order.toNat) (ofL s.n.method s.n.order.toNat) g' (s.n.order.toNat + 1) p.t.n).map rowV ++ [hdo 33 0 (s.n.order.toNat + 1) p.t.n])]
      (.agg [fI (s.n.pos + s.n.step), fI s.n.step, fI s.n.order, fI s.n.method, .sl 63 0 0 (s.n.order.toNat + 1) 1 (s.n.order.toNat + 1), fI (s.good + 1), fI 0, fI s.slow,
        fI (s.n.pos + s.n.step), fI s.n.step, fI s.n.order, fI s.n.method, .sl 33 (s.n.order.toNat + 1) 0 (s.n.order.toNat + 1) 1 (s.n.order.toNat + 1), fB true, fl err, fI 0]) := by
  have hs' := hs
  obtain ⟨hn, hg, hf, hsl⟩ := hs
  obtain ⟨hm, ⟨j, hj, hst⟩, hk, hc, hpos⟩ := hn
  obtain ⟨⟨pos, st, o, m, z⟩, g, f, sl⟩ := s
  simp only at hsg herr hgd ⊢
  simp only at hm hst hk hc hpos hg hf hsl
  have hsr := pow_range j hj
  obtain ⟨q, rfl⟩ : ∃ q : Nat, o = q := ⟨o.toNat, by omega⟩
  simp only [Int.toNat_natCast] at hk hsg ⊢
  have hm' : (m = 0 ∧ 1 ≤ q ∧ q ≤ 5) ∨ (m = 1 ∧ 1 ≤ q ∧ q ≤ 4) := by omega
  have hpn := hp.t.n
  have hq9 : q < 1000 := by omega
  have hq10 : q + 1 < 1000 := by omega
  have hn40 : p.t.n < 2 ^ 40 := by omega
  have hZ := predP_rk hk q
  have hpred := nord_Predict_con z q p.t.n hk hq9 hn40
  have hof := coef_Of_ok m q hm'
  have hofl : (ofL m q).length = q + 1 := (r7_Of_ok m q hm').2
  have hz0 := hk.2 0 (by omega)
  have hzl := hk.1
  have hwt := corr_Weights_con (z.getD 0 []) p.atol p.rtol (by omega)
  have hwl : (wtP (z.getD 0 []) p.atol p.rtol).length = p.t.n := by rw [wtP_len]; exact hz0
  have ok : Sok p.t (predP z p.t.n q) (ofL m q) (wtP (z.getD 0 []) p.atol p.rtol) (List.replicate p.t.n 0) := ⟨hp.t, by have := hZ.1; omega, fun i hi => hZ.2 i (by omega), by omega, hwl, by simp⟩
  have hsol := corr_Solve_con p.t (predP z p.t.n q) (ofL m q) (hW (2 ^ j)) (wtP (z.getD 0 []) p.atol p.rtol) ((2 ^ j : Nat) : Int) m hp.n ok (Scale_step j hj)
  rw [← hst] at hsol
  rw [hst, Int.toNat_natCast] at hsg
  rw [hsg] at hsol
  have hZc := predP_cw hc p.t.n q
  generalize predP z p.t.n q = Z at hpred hZ hsol hZc hsg
  generalize ofL m q = l at hof hofl hsol hsg
  generalize wtP (z.getD 0 []) p.atol p.rtol = w at hwt hwl hsol hsg herr
  have w3 : IntKind.i64.wrap ((q : Int) + 1) = (q : Int) + 1 := wrapI (by omega) (by omega)
  have hsz' : ∀ g' : List Nat, g'.length = p.t.n → Con Tryz.prog 37 [.d (rowD g'), .d (rowD w)] (fl (szP g' w)) := fun g' h => corr_Size_con g' w (by omega) (by omega)
  have hgl : g'.length = p.t.n := by
    rcases solG_form p.t Z l (hW (2 ^ j)) w m with ⟨g2, k2, hg2, he2⟩ | ⟨k2, e2, hne, he2⟩
    · rw [hsg] at he2; cases he2; exact hg2
    · rw [hsg] at he2; cases he2; exact absurd rfl hne
  have w4 : IntKind.i64.wrap (pos + st) = pos + st := wrapI (by omega) (by omega)
  have hcor := nord_Correct_ac Z (q + 1) p.t.n hZ hq10 hn40 l g' hofl hgl
  have hCr := corrP_rk hZ l g' (q + 1) p.t.n
  have hCc := corrP_cw hZc l g' (q + 1) p.t.n
  generalize corrP Z l g' (q + 1) p.t.n = C at hcor hCr hCc ⊢
  have htk := step_taken_acA p od ⟨⟨pos, st, q, m, z⟩, g, f, sl⟩ C l g' err hp hs' (by rw [Int.toNat_natCast]; exact hCr) hCc hgd
  simp only [Int.toNat_natCast] at htk
  refine AC_introA A_step_Try_comp rfl mixed (fun _ => False) (by simp [get_nil]) ?_
  simp -implicitDefEqProofs only [evI, hv, effC, reduceCtorEq, ↓reduceIte, n1_, n2_, n3_, n4_, n5_, i1_, i2_, i3_, i4_, i5_, i6_, i7_, A_step_Try]
  first | refine callG_con (hpred) rfl ?_ | refine callCG_con (hpred) rfl ?_ | refine callSG_con (hpred) rfl ?_
  simp -implicitDefEqProofs only [evI, hv, effC, reduceCtorEq, ↓reduceIte, n1_, n2_, n3_, n4_, n5_, i1_, i2_, i3_, i4_, i5_, i6_, i7_]
  first | refine callG_con (hof) rfl ?_ | refine callCG_con (hof) rfl ?_ | refine callSG_con (hof) rfl ?_
  simp -implicitDefEqProofs only [evI, hv, effC, reduceCtorEq, ↓reduceIte, n1_, n2_, n3_, n4_, n5_, i1_, i2_, i3_, i4_, i5_, i6_, i7_]
  (repeat (with_reducible refine And.intro (by omega) ?_))
  first | refine callG_con (hwt) rfl ?_ | refine callCG_con (hwt) rfl ?_ | refine callSG_con (hwt) rfl ?_
  simp -implicitDefEqProofs only [evI, hv, effC, reduceCtorEq, ↓reduceIte, n1_, n2_, n3_, n4_, n5_, i1_, i2_, i3_, i4_, i5_, i6_, i7_]
  first | refine callG_con (hsol) rfl ?_ | refine callCG_con (hsol) rfl ?_ | refine callSG_con (hsol) rfl ?_
  simp -implicitDefEqProofs only [evI, hv, effC, reduceCtorEq, ↓reduceIte, n1_, n2_, n3_, n4_, n5_, i1_, i2_, i3_, i4_, i5_, i6_, i7_]
  first | refine callG_con (hsz' g' hgl) rfl ?_ | refine callCG_con (hsz' g' hgl) rfl ?_ | refine callSG_con (hsz' g' hgl) rfl ?_
  simp -implicitDefEqProofs only [evI, hv, effC, reduceCtorEq, ↓reduceIte, n1_, n2_, n3_, n4_, n5_, i1_, i2_, i3_, i4_, i5_, i6_, i7_, w3, herr, hle, w4]
  refine callS_rows1 (by decide) hCr.1 hcor rfl rfl ?_
  simp -implicitDefEqProofs only [evI, hv, effC, reduceCtorEq, ↓reduceIte, n1_, n2_, n3_, n4_, n5_, i1_, i2_, i3_, i4_, i5_, i6_, i7_, w4]
  have hl : (C.map rowV).length = q + 1 := by rw [List.length_map]; exact hCr.1
  have hsn : ∀ L : Heap, L.fam 33 = some (C.map rowV ++ [hdo 33 0 (q + 1) p.t.n]) → Snap L (.sl 33 (q + 1) 0 (q + 1) 1 (q + 1)) (.d (rowsD C)) := fun L hL => snp_fam hCr hL
  refine callG_up 40 [pbVo p od, staV ⟨⟨pos, st, q, m, z⟩, g, f, sl⟩, ndV ⟨pos + st, st, q, m, C⟩, .d (rowD l), .d (rowD g'), fl err] (by simp [Heap.next]) htk
    ⟨.aggs ⟨.bare _, .bare _, .bare _, .bare _, .bare _, .bare _, .bare _, .bare _, .bare _, .bare _, .bare _, .bare _, .bare _, trivial⟩, .aggs ⟨.bare _, .bare _, .bare _, .bare _, .bare _, .bare _, .bare _, .bare _, trivial⟩, .aggs ⟨.bare _, .bare _, .bare _, .bare _, hsn _ rfl, trivial⟩, .bare _, .bare _, .bare _, trivial⟩ ?_ pure_rows ?_
  · refine .agg fun j hj => ?_
    rcases j with _ | _ | _ | _ | _ | _ | _ | _ | j
    · exact .int ..
    · exact .int ..
    · exact .int ..
    · exact .int ..
    · exact .sl ..
    · exact .int ..
    · exact .int ..
    · exact .int ..
    · simp at hj; omega
  have hh : (hdo 121 0 (q + 1) p.t.n).map (V.ren (upF 40)) = hdo 161 0 (q + 1) p.t.n := hdo_ren _ 121 0 (q + 1) p.t.n 161 0 (fun j _ => rfl)
  have hf' : (C.map rowV).map (fun c => c.map (V.ren (upF 40))) = C.map rowV := ren_fam _ C
  have hup : Heap.up 40 [(121, C.map rowV), (23, [hdo 121 0 (q + 1) p.t.n])] = [(161, C.map rowV), (63, [hdo 161 0 (q + 1) p.t.n])] := by
    simp only [Heap.up, List.map_cons, List.map_nil, hf', hh]
  have hrn : V.ren (upF 40) (.agg [fI (pos + st), fI st, fI q, fI m, .sl 23 0 0 (q + 1) 1 (q + 1), fI (g + 1), fI 0, fI sl]) = .agg [fI (pos + st), fI st, fI q, fI m, .sl 63 0 0 (q + 1) 1 (q + 1), fI (g + 1), fI 0, fI sl] := rfl
  rw [hup, hrn]
  have hCl := hCr.1
  have hk1 : ∀ L : Heap, L.fam 161 = some (C.map rowV) → KpA L (hdo 161 0 (q + 1) p.t.n) := fun L hL => KpA_hdoF hL (by omega)
  have hk2 : ∀ L : Heap, L.fam 33 = some (C.map rowV ++ [hdo 33 0 (q + 1) p.t.n]) → Kp L (.sl 33 (q + 1) 0 (q + 1) 1 (q + 1)) := fun L hL => Kp_fam hCr hL
  have hk3 : ∀ L : Heap, L.fam 33 = some (C.map rowV ++ [hdo 33 0 (q + 1) p.t.n]) → KpF L (C.map rowV ++ [hdo 33 0 (q + 1) p.t.n]) := fun L hL => KpF_fam hCr hL
  simp -implicitDefEqProofs only [evI, hv, effC, reduceCtorEq, ↓reduceIte, n1_, n2_, n3_, n4_, n5_, i1_, i2_, i3_, i4_, i5_, i6_, i7_]
  exact endsT_only (fun X => X == 161 || X == 63 || X == 33) (fun _ h => h) (resV_cellI (by decide) rfl rfl rfl (by simp) rfl) rfl (by simp (maxDischargeDepth := 6) [KpS_cons, KpS_nil, KpH_cons, KpH_nil, KpF_cons, KpF_nil, KpF_rows, KpA_cons, KpA_nil, KpA_app, KpA_rowV, KpA_rowIV, KpA_dcells, KpA_outC, Kp_any, Kp_nilv, Kp_d, Kp_ptr, Kp_sl, Kp_agg, Kp_tup, Kp_fn, get_cons, get_nil, fam_cons, fam_nil, hk1, hk2]) (by simp (maxDischargeDepth := 6) [KpS_cons, KpS_nil, KpH_cons, KpH_nil, KpF_cons, KpF_nil, KpF_rows, KpA_cons, KpA_nil, KpA_app, KpA_rowV, KpA_rowIV, KpA_dcells, KpA_outC, Kp_any, Kp_nilv, Kp_d, Kp_ptr, Kp_sl, Kp_agg, Kp_tup, Kp_fn, get_cons, get_nil, fam_cons, fam_nil, hk1, hk3])
end Go.Ab

namespace Go.Ab
set_option linter.unusedSimpArgs false
set_option linter.unusedVariables false
open Nat renaming reduceEqDiff → n1_, reduceAdd → n2_, reduceMul → n3_, reduceLT → n4_, reduceLeDiff → n5_
open Int renaming reduceToNat → i1_, reduceAdd → i2_, reduceSub → i3_, reduceMul → i4_, reduceNeg → i5_, reduceLT → i6_, reduceLE → i7_
open Go Go.Proofs
def A_l10_known : CA := (.seq (.reg [i_X 0 0 (.h (.mov (.k (.d (.bool false)))))] []) (.seq (.reg [i_X 0 4 (.h (.build [(.d (.int .i64 0)), (.d (.int .i64 0)), (.d (.int .i64 0)), (.d (.flt 0))] [])), i_X 1 5 (.bslice [(.d (.int .i64 0)), (.d (.int .i64 0)), (.d (.int .i64 0)), (.d (.flt 0))] 1 4 [(0, (4, (.t 4)))] 67), i_X 2 6 (.bslice [(.d (.int .i64 0))] 1 1 [(0, (1, (.k (.d (.int .i64 0)))))] 3), i_X 3 7 (.h (.build [(.d (.int .i64 0)), .nil, .nil] [(0, (1, (.k (.d (.int .i64 1))))), (1, (1, (.t 5))), (2, (1, (.t 6)))])), i_X 4 1 (.alloc [(.d (.int .i64 0)), .nil, .nil] 28), i_S 5 1 7 3] [1]) (.seq (.reg [i_A 0 8 1 3, i_X 1 9 (.h (.build [(.d (.flt 0)), (.d (.flt 0))] [(0, (1, (.k (.d (.flt 13844628204490326016))))), (1, (1, (.k (.d (.flt 4621256167635550208)))))])), i_X 2 10 (.bslice [(.d (.flt 0)), (.d (.flt 0))] 1 2 [(0, (2, (.t 9)))] 69), i_X 3 11 (.bslice [(.d (.flt 0))] 1 1 [(0, (1, (.k (.d (.flt 4607182418800017408)))))] 31), i_X 4 12 (.h (.build [(.d (.int .i64 0)), .nil, .nil, .nil, .nil, (.d (.int .i64 0)), (.d (.int .i64 0)), (.d (.int .i64 0)), (.d (.flt 0)), (.d (.flt 0)), (.d (.flt 0)), (.d (.int .i64 0)), .nil] [(0, (3, (.t 8))), (3, (1, (.t 10))), (4, (1, (.t 11))), (5, (1, (.k (.d (.int .i64 1073741824))))), (6, (1, (.k (.d (.int .i64 1048576))))), (7, (1, (.k (.d (.int .i64 1))))), (8, (1, (.k (.d (.flt 4607182418800017408))))), (10, (1, (.k (.d (.flt 4607182418800017408))))), (11, (1, (.k (.d (.int .i64 9)))))])), i_X 5 2 (.alloc [(.d (.int .i64 0)), .nil, .nil, .nil, .nil, (.d (.int .i64 0)), (.d (.int .i64 0)), (.d (.int .i64 0)), (.d (.flt 0)), (.d (.flt 0)), (.d (.flt 0)), (.d (.int .i64 0)), .nil] 33), i_S 6 2 12 13] [2]) (.seq (.reg [i_A 0 13 2 13, i_X 1 14 (.bslice [(.d (.flt 0))] 1 1 [(0, (1, (.k (.d (.flt 4607182418800017408)))))] 31), i_X 2 15 (.bslice [(.d (.flt 0))] 1 1 [(0, (1, (.k (.d (.flt 0)))))] 31), i_X 3 16 (.bslice [.nil, .nil] 2 1 [(0, (1, (.t 14))), (1, (1, (.t 15)))] 30), i_X 4 17 (.h (.build [(.d (.int .i64 0)), (.d (.int .i64 0)), (.d (.int .i64 0)), (.d (.int .i64 0)), .nil] [(1, (1, (.k (.d (.int .i64 1048576))))), (2, (1, (.k (.d (.int .i64 1))))), (4, (1, (.t 16)))])), i_X 5 18 (.h (.build [(.d (.int .i64 0)), (.d (.int .i64 0)), (.d (.int .i64 0)), (.d (.int .i64 0)), .nil, (.d (.int .i64 0)), (.d (.int .i64 0)), (.d (.int .i64 0))] [(0, (5, (.t 17)))])), i_X 6 19 (.callA (.k (.d (.fn 17 [] []))) [(.t 13), (.t 18)]), i_X 7 3 (.alloc [(.d (.int .i64 0)), (.d (.int .i64 0)), (.d (.int .i64 0)), (.d (.int .i64 0)), .nil, (.d (.int .i64 0)), (.d (.int .i64 0)), (.d (.int .i64 0)), (.d (.int .i64 0)), (.d (.int .i64 0)), (.d (.int .i64 0)), (.d (.int .i64 0)), .nil, (.d (.bool false)), (.d (.flt 0)), (.d (.int .i64 0))] 45), i_S 8 3 19 16] [3]) (.seq (.reg [i_P 0 20 3 13, i_L 1 21 20 1, i_M 2 22 21, ⟨3, (some 23), (some (22, true)), [], [], (.h (.padd (.t 3) 14))⟩, ⟨4, (some 24), (some (22, true)), [], [], (.load (.t 23) 1 false)⟩, ⟨5, (some 25), (some (22, true)), [], [], (.h (.fcmp .eq (.t 24) (.k (.d (.flt 0)))))⟩, i_X 6 26 (.h (.pick (.t 22) (.t 25) (.k (.d (.bool false))))), i_M 7 27 26, ⟨8, (some 28), (some (27, true)), [], [], (.h (.padd (.t 3) 15))⟩, ⟨9, (some 29), (some (27, true)), [], [], (.load (.t 28) 1 false)⟩, ⟨10, (some 30), (some (27, true)), [], [], (.h (.ibin .eql (.t 29) (.k (.d (.int .i64 0)))))⟩, i_X 11 31 (.h (.pick (.t 27) (.t 30) (.k (.d (.bool false))))), i_M 12 32 31, ⟨13, (some 33), (some (32, true)), [], [], (.h (.padd (.t 3) 8))⟩, ⟨14, (some 34), (some (32, true)), [], [], (.h (.padd (.t 33) 0))⟩, ⟨15, (some 35), (some (32, true)), [], [], (.load (.t 34) 1 false)⟩, ⟨16, (some 36), (some (32, true)), [], [], (.h (.ibin .eql (.t 35) (.k (.d (.int .i64 1048576)))))⟩, i_X 17 37 (.h (.pick (.t 32) (.t 36) (.k (.d (.bool false))))), i_M 18 38 37, ⟨19, (some 39), (some (38, true)), [], [], (.h (.padd (.t 3) 0))⟩, ⟨20, (some 40), (some (38, true)), [], [], (.h (.padd (.t 39) 5))⟩, ⟨21, (some 41), (some (38, true)), [], [], (.load (.t 40) 1 false)⟩, ⟨22, (some 42), (some (38, true)), [], [], (.h (.ibin .eql (.t 41) (.k (.d (.int .i64 1)))))⟩, i_X 23 43 (.h (.pick (.t 38) (.t 42) (.k (.d (.bool false))))), i_M 24 44 43, ⟨25, (some 45), (some (44, true)), [], [], (.h (.padd (.t 3) 8))⟩, ⟨26, (some 46), (some (44, true)), [], [], (.h (.padd (.t 45) 4))⟩, ⟨27, (some 47), (some (44, true)), [], [], (.load (.t 46) 1 false)⟩, ⟨28, (some 48), (some (44, true)), [], [], (.h (.len (.t 47)))⟩, ⟨29, (some 49), (some (44, true)), [], [], (.h (.ibin .eql (.t 48) (.k (.d (.int .i64 2)))))⟩, i_X 30 50 (.h (.pick (.t 44) (.t 49) (.k (.d (.bool false))))), i_M 31 0 50] [0]) .ret)))))
theorem A_l10_known_comp : compF Tryz.prog 12 = some ⟨51, [(0, none)], A_l10_known.strip⟩ := by kernel_rfl
def kp10 : Pb := ⟨⟨1, [⟨0, 0, 0, 0⟩], [0]⟩, [(13844628204490326016, 4621256167635550208)], [4607182418800017408], 1073741824, 1048576, 1, 4607182418800017408, 0, 4607182418800017408, 9, []⟩
def ks10 : Sta := ⟨⟨0, 1048576, 1, 0, [[4607182418800017408], [0]]⟩, 0, 0, 0⟩
theorem ks10_sol : solG kp10.t (predP ks10.n.z kp10.t.n ks10.n.order.toNat) (ofL ks10.n.method ks10.n.order.toNat) (hW ks10.n.step.toNat) (wtP (ks10.n.z.getD 0 []) kp10.atol kp10.rtol) ks10.n.method = ([0], 1, 0) := by kernel_rfl
theorem ks10_err : fop .div (szP [0] (wtP (ks10.n.z.getD 0 []) kp10.atol kp10.rtol)) (FloatKind.nearest .f64 (ks10.n.order + 1)) = 0 := by kernel_rfl
theorem kp10_ok : Pok kp10 := ⟨⟨by decide, by decide, fun i hi => by
    have hi : i < 1 := hi
    obtain rfl : i = 0 := by omega
    exact .inl rfl, rfl, fun i hi => by
    have hi : i < 1 := hi
    obtain rfl : i = 0 := by omega
    decide⟩, by decide, by decide⟩
theorem cw_one : cw 4607182418800017408 := .inr (.inr (.inr ⟨false, 4607182418800017408, by decide, by decide⟩))
theorem ks10_ok : ks10.ok kp10.t := ⟨⟨.inl ⟨rfl, by decide, by decide⟩, ⟨20, by decide, rfl⟩, ⟨rfl, fun r hr => by
    have hr : r < 2 := hr
    rcases r with _ | _ | r
    · rfl
    · rfl
    · omega⟩, fun r i => by
    rcases r with _ | _ | r
    · rcases i with _ | i
      · exact cw_one
      · exact cw_zero
    · rcases i with _ | i
      · exact cw_zero
      · exact cw_zero
    · exact cw_zero, by decide⟩, by decide, by decide, by decide⟩
theorem ks10_C : corrP (predP ks10.n.z kp10.t.n ks10.n.order.toNat) (ofL ks10.n.method ks10.n.order.toNat) [0] (ks10.n.order.toNat + 1) kp10.t.n = [[4607182418800017408], [0]] := by kernel_rfl
abbrev ks10H : Heap := [(161, [[fl 4607182418800017408], [fl 0]]), (63, [[.sl 161 0 0 1 1 1, .sl 161 1 0 1 1 1]]), (33, [[fl 4607182418800017408], [fl 0], [.sl 33 0 0 1 1 1, .sl 33 1 0 1 1 1]])]
abbrev ks10R : V := .agg [fI 1048576, fI 1048576, fI 1, fI 0, .sl 63 0 0 2 1 2, fI 1, fI 0, fI 0, fI 1048576, fI 1048576, fI 1, fI 0, .sl 33 2 0 2 1 2, fB true, fl 0, fI 0]
theorem ks10_try : AC Tryz.prog 17 [pbVo kp10 .nils, staV ks10] [] ks10H ks10R := by
  have ht := step_Try_acA kp10 .nils ks10 kp10_ok ks10_ok [0] 1 0 ks10_sol ks10_err (by kernel_rfl) (by decide)
  rw [ks10_C] at ht
  exact ht
theorem snap_two' {L : Heap} {X A B : Nat} {a b : Nat} (h : L.get X 0 = some [.sl A 0 0 1 1 1, .sl B 0 0 1 1 1]) (hA : L.get A 0 = some (rowV [a])) (hB : L.get B 0 = some (rowV [b])) : Snap L (.sl X 0 0 2 1 2) (.d (rowsD [[a], [b]])) := by
  refine .sl h rfl (by simp) (fun i hi => rfl) fun i j hi hj => ?_
  obtain rfl : j = 0 := by omega
  have hi : i < 2 := hi
  rcases i with _ | _ | i
  · exact snp_row hA rfl rfl
  · exact snp_row hB rfl rfl
  · omega
theorem pure_list {vs : List V} (h : ∀ v ∈ vs, PureV v) (j : Nat) : PureV (vs.getD j .any) := by
  rw [List.getD_eq_getElem?_getD]
  cases hj : vs[j]? with
  | none => exact .any
  | some v => exact h v (List.mem_of_getElem? hj)
theorem ks10_pure : ∀ X q cells, Heap.get ks10H X q = some cells → ∀ j, j < cells.length → PureV (cells.getD j .any) := by
  intro X q cells h j _
  refine pure_list (fun v hv => ?_) j
  rw [get_cons, get_cons, get_cons, get_nil] at h
  split at h
  · rcases q with _ | _ | q <;> simp at h <;> subst h <;> simp at hv <;> subst hv <;> exact .flt _
  · split at h
    · rcases q with _ | q <;> simp at h
      subst h; simp at hv; rcases hv with rfl | rfl <;> exact .sl ..
    · split at h
      · rcases q with _ | _ | _ | q <;> simp at h <;> subst h <;> simp at hv
        · subst hv; exact .flt _
        · subst hv; exact .flt _
        · rcases hv with rfl | rfl <;> exact .sl ..
      · cases h
theorem ks10_pureR : PureV ks10R := .agg fun j _ => pure_list (fun v hv => by
  simp only [List.mem_cons, List.not_mem_nil, or_false] at hv
  rcases hv with rfl | rfl | rfl | rfl | rfl | rfl | rfl | rfl | rfl | rfl | rfl | rfl | rfl | rfl | rfl | rfl
  all_goals first | exact .int .. | exact .sl .. | exact .bool _ | exact .flt _) j
set_option maxRecDepth 8000 in
theorem l10_known_con : Con Tryz.prog 12 [] (fB true) := by
  refine Con_introA A_l10_known_comp rfl mixed ?_
  simp -implicitDefEqProofs only [evI, hv, effC, reduceCtorEq, ↓reduceIte, n1_, n2_, n3_, n4_, n5_, i1_, i2_, i3_, i4_, i5_, i6_, i7_, A_l10_known]
  refine callG_up 40 [pbVo kp10 .nils, staV ks10] (by simp [Heap.next]) ks10_try ⟨.aggs ⟨.bare _, snp_data rfl (fun _ _ => rfl) rfl, snp_data rfl (fun _ _ => rfl) rfl, snp_data rfl (fun _ _ => rfl) rfl, snp_row rfl rfl rfl, .bare _, .bare _, .bare _, .bare _, .bare _, .bare _, .bare _, .nil, trivial⟩, .aggs ⟨.bare _, .bare _, .bare _, .bare _, snap_two' rfl rfl rfl, .bare _, .bare _, .bare _, trivial⟩, trivial⟩ ks10_pureR ks10_pure ?_
  have e0 : fcmp .eq 0 0 = true := by kernel_rfl
  rw [show V.ren (upF 40) ks10R = .agg [fI 1048576, fI 1048576, fI 1, fI 0, .sl 103 0 0 2 1 2, fI 1, fI 0, fI 0, fI 1048576, fI 1048576, fI 1, fI 0, .sl 73 2 0 2 1 2, fB true, fl 0, fI 0] from rfl]
  rw [show Heap.up 40 ks10H = [(201, [[fl 4607182418800017408], [fl 0]]), (103, [[.sl 201 0 0 1 1 1, .sl 201 1 0 1 1 1]]), (73, [[fl 4607182418800017408], [fl 0], [.sl 73 0 0 1 1 1, .sl 73 1 0 1 1 1]])] from rfl]
  simp -implicitDefEqProofs only [evI, hv, effC, reduceCtorEq, ↓reduceIte, n1_, n2_, n3_, n4_, n5_, i1_, i2_, i3_, i4_, i5_, i6_, i7_, e0]
  exact endsT_rett rfl (by decide) (by simp [look])
end Go.Ab

namespace Go.Ab
set_option linter.unusedSimpArgs false
set_option linter.unusedVariables false
open Nat renaming reduceEqDiff → n1_, reduceAdd → n2_, reduceMul → n3_, reduceLT → n4_, reduceLeDiff → n5_
open Int renaming reduceToNat → i1_, reduceAdd → i2_, reduceSub → i3_, reduceMul → i4_, reduceNeg → i5_, reduceLT → i6_, reduceLE → i7_
open Go Go.Proofs
theorem begin_con (p : Pb) (hp : Pk p) : Con Tryz.prog 15 [pbV p] (staV (beginS p)) := by
  obtain ⟨a, ha, hfa⟩ := hp.fst
  have h := l10_Begin_con p hp.ok a (by omega) hfa hp.yl
  have e : hW p.first.toNat = hW (2 ^ a) := by rw [hfa, Int.toNat_natCast]
  unfold beginS
  rw [e]
  exact h
theorem tryP_zl {p : Pb} {k : Nat} {s : Sta} (hp : Pk p) (h : Inv p k s) (hk : k < 100000) : Zl (tryP p s).s.n.z ∧ Zl (tryP p s).n.z := by
  have hi := (tryP_inv hp h hk).ok.n
  have hm := hi.m
  have hn := hp.ok.t.n
  refine ⟨Zl_rk hi.rk (by omega) (by omega), ?_⟩
  rcases tryP_cases hp h with ⟨d, kk, err, _, hd, _, e⟩ | ⟨e', err, e⟩
  · rw [e]
    have hm2 := h.ok.n.m
    exact Zl_rk (corrP_rk (predP_rk h.ok.n.rk _) _ _ _ _) (by omega) (by omega)
  · rw [e]
    unfold failP
    simp only
    split
    · exact Zl_nil
    · exact Zl_nil
end Go.Ab

namespace Go.Ab
set_option linter.unusedSimpArgs false
set_option linter.unusedVariables false
open Nat renaming reduceEqDiff → n1_, reduceAdd → n2_, reduceMul → n3_, reduceLT → n4_, reduceLeDiff → n5_
open Int renaming reduceToNat → i1_, reduceAdd → i2_, reduceSub → i3_, reduceMul → i4_, reduceNeg → i5_, reduceLT → i6_, reduceLE → i7_
open Go Go.Proofs
structure SpecT (p : Pb) (x : Sta) (r : Trd) : Prop where
  err : fcmp .le r.err 4607182418800017408 = true
  e : r.e = 0
  npos : r.n.pos = x.n.pos + x.n.step
  nord : r.n.order = x.n.order
  nmet : r.n.method = x.n.method
  nstep : r.n.step = x.n.step
  pos : r.s.n.pos = x.n.pos + x.n.step
  fails : r.s.fails = 0
  step : (r.s.n.step = x.n.step ∧ (r.s.n.order = x.n.order ∨ r.s.n.order = x.n.order + 1)) ∨ (r.s.n.step = 2 * x.n.step ∧ r.s.n.order = x.n.order)
  met : r.s.n.method = x.n.method
  len : r.n.z.length = x.n.order.toNat + 1
  row : r.s.n.z.getD 0 [] = r.n.z.getD 0 []
  sol : ∃ d k, d.length = p.t.n ∧ solG p.t (predP x.n.z p.t.n x.n.order.toNat) (ofL x.n.method x.n.order.toNat) (hW x.n.step.toNat) (wtP (x.n.z.getD 0 []) p.atol p.rtol) x.n.method = (d, k, 0) ∧ r.n.z = corrP (predP x.n.z p.t.n x.n.order.toNat) (ofL x.n.method x.n.order.toNat) d (x.n.order.toNat + 1) p.t.n
structure SpecF (p : Pb) (x : Sta) (r : Trd) : Prop where
  nz : r.n.z = []
  pos : r.s.n.pos = x.n.pos
  half : r.e = 0 → 2 * r.s.n.step = x.n.step
  stay : r.e ≠ 0 → r.s = x ∧ x.n.step ≤ p.least ∧ (r.e = 5 ∨ r.e = 4 ∨ r.e = 2)
  anew : r.e = 0 → r.s.fails = 0 → r.s.n.order = 1
  ord : r.s.n.order = x.n.order ∨ r.s.n.order = 1
  met : x.n.method ≤ r.s.n.method
  row : r.s.n.z.getD 0 [] = x.n.z.getD 0 []
theorem take_row {Z : List (List Nat)} {m n : Nat} (h : Rk m n Z) (hm : 0 < m) (x : List Nat) : (Z ++ [x]).getD 0 [] = Z.getD 0 [] := by
  rw [List.getD_eq_getElem?_getD, List.getElem?_append_left (by rw [h.1]; exact hm), ← List.getD_eq_getElem?_getD]
theorem try_spec {p : Pb} {k : Nat} {x : Sta} (hp : Pk p) (h : Inv p k x) : ((tryP p x).taken = true ∧ SpecT p x (tryP p x)) ∨ ((tryP p x).taken = false ∧ SpecF p x (tryP p x)) := by
  rcases tryP_cases hp h with ⟨d, kk, err, hsg, hd, hle, e⟩ | ⟨e', err, e⟩
  · left
    rw [e]
    have hz := corrP_rk (predP_rk h.ok.n.rk x.n.order.toNat) (ofL x.n.method x.n.order.toNat) d (x.n.order.toNat + 1) p.t.n
    have hc := corrP_cw (predP_cw h.ok.n.cw p.t.n x.n.order.toNat) (ofL x.n.method x.n.order.toNat) d (x.n.order.toNat + 1) p.t.n
    unfold takeP
    simp only
    split
    · exact ⟨trivial, hle, rfl, rfl, rfl, rfl, rfl, rfl, rfl, .inl ⟨rfl, .inl rfl⟩, rfl, hz.1, rfl, d, kk, hd, hsg, rfl⟩
    · split
      · exact ⟨trivial, hle, rfl, rfl, rfl, rfl, rfl, rfl, rfl, .inr ⟨rfl, rfl⟩, rfl, hz.1, scale_row0 hz (by omega) hc _, d, kk, hd, hsg, rfl⟩
      · split
        · exact ⟨trivial, hle, rfl, rfl, rfl, rfl, rfl, rfl, rfl, .inl ⟨rfl, .inr rfl⟩, rfl, hz.1, take_row hz (by omega) _, d, kk, hd, hsg, rfl⟩
        · exact ⟨trivial, hle, rfl, rfl, rfl, rfl, rfl, rfl, rfl, .inl ⟨rfl, .inl rfl⟩, rfl, hz.1, rfl, d, kk, hd, hsg, rfl⟩
  · right
    rw [e]
    obtain ⟨⟨hm, ⟨j, hj, hst⟩, hr, hc, hpos⟩, hg, hf, hsl⟩ := h.ok
    obtain ⟨b, hb, hlb⟩ := hp.lst
    have hl1 := hp.ok.least
    unfold failP
    simp only
    split
    · rename_i h1
      refine ⟨rfl, rfl, rfl, fun h2 => ?_, fun _ => ⟨rfl, h1, ?_⟩, fun h2 => ?_, .inl rfl, Int.le_refl _, rfl⟩
      · replace h2 : (if e' = 4 ∨ e' = 2 then e' else 5) = 0 := h2
        split at h2 <;> omega
      · show (if e' = 4 ∨ e' = 2 then e' else 5) = 5 ∨ (if e' = 4 ∨ e' = 2 then e' else 5) = 4 ∨ (if e' = 4 ∨ e' = 2 then e' else 5) = 2
        split <;> omega
      · replace h2 : (if e' = 4 ∨ e' = 2 then e' else 5) = 0 := h2
        split at h2 <;> omega
    · rename_i h1
      have hhalf : 2 * (x.n.step / 2) = x.n.step := by
        obtain ⟨i, rfl⟩ : ∃ i, j = i + 1 := ⟨j - 1, by
          rcases j with _ | j
          · simp at hst; omega
          · omega⟩
        rw [hst, Nat.pow_succ]; omega
      have hrow := scale_row0 hr (by omega) hc (-1)
      generalize (if e' = 6 ∧ x.n.method = 0 then x.slow + 1 else x.slow) = sl'
      split
      · refine ⟨rfl, rfl, rfl, fun _ => hhalf, fun h2 => absurd rfl h2, fun _ _ => rfl, .inr rfl, ?_, hrow⟩
        show x.n.method ≤ 1
        omega
      · split
        · refine ⟨rfl, rfl, rfl, fun _ => hhalf, fun h2 => absurd rfl h2, fun _ h2 => ?_, .inl rfl, Int.le_refl _, hrow⟩
          have h2 : x.fails + 1 = 0 := h2
          omega
        · exact ⟨rfl, rfl, rfl, fun _ => hhalf, fun h2 => absurd rfl h2, fun _ _ => rfl, .inr rfl, Int.le_refl _, hrow⟩
theorem inv_wraps {p : Pb} {i : Nat} {x : Sta} (hp : Pk p) (h : Inv p i x) (hk : i < 100000) : IntKind.i64.wrap (x.n.pos + x.n.step) = x.n.pos + x.n.step ∧ (∀ r : Trd, Inv p (i + 1) r.s → IntKind.i64.wrap (2 * x.n.step) = 2 * x.n.step ∧ IntKind.i64.wrap (2 * r.s.n.step) = 2 * r.s.n.step ∧ IntKind.i64.wrap (x.n.order + 1) = x.n.order + 1 ∧ IntKind.i64.wrap (r.s.n.order + 1) = r.s.n.order + 1) ∧ IntKind.i64.wrap (x.n.order + 1) = x.n.order + 1 ∧ IntKind.i64.wrap ((i : Int) + 1) = ((i + 1 : Nat) : Int) := by
  obtain ⟨a, ha, hfa⟩ := hp.fst
  have hfin := hp.fin
  have pa : 2 ^ a ≤ 2 ^ 28 := Nat.pow_le_pow_right (by decide) ha
  have hl1 := hp.ok.least
  have hps := h.ok.n.pos
  have hpp := h.pos
  have hhi := h.hi
  have hlo := h.lo
  have hm := h.ok.n.m
  refine ⟨wrapI (by omega) (by omega), fun r hr => ?_, wrapI (by omega) (by omega), by rw [wrapI (by omega) (by omega)]; omega⟩
  have hhi2 := hr.hi
  have hlo2 := hr.lo
  have hm2 := hr.ok.n.m
  exact ⟨wrapI (by omega) (by omega), wrapI (by omega) (by omega), wrapI (by omega) (by omega), wrapI (by omega) (by omega)⟩
end Go.Ab

namespace Go.Ab
set_option linter.unusedSimpArgs false
set_option linter.unusedVariables false
open Nat renaming reduceEqDiff → n1_, reduceAdd → n2_, reduceMul → n3_, reduceLT → n4_, reduceLeDiff → n5_
open Int renaming reduceToNat → i1_, reduceAdd → i2_, reduceSub → i3_, reduceMul → i4_, reduceNeg → i5_, reduceLT → i6_, reduceLE → i7_
open Go Go.Proofs
def A_l10_StepMethod_L0 : CA := (.seq (.seq (.reg [i_M 0 23 7, i_M 1 24 1, i_X 2 25 (.callA (.k (.d (.fn 16 [] []))) [(.t 24), (.k (.d (.int .i64 12)))]), i_X 3 26 (.h (.ibin .add (.k (.d (.int .i64 4))) (.t 25))), i_X 4 27 (.h (.ibin .lss (.t 23) (.t 26)))] [1, 5, 6, 7, 27]) (.cond (.t 27) .skip (.exit 0))) (.seq (.block 1 (.seq (.reg [i_A 0 30 5 13, i_A 1 31 6 8, i_X 2 32 (.callS 2 (.k (.d (.fn 18 [] []))) [(.t 31)]), i_X 3 33 (.callS 0 (.k (.d (.fn 17 [] []))) [(.t 30), (.t 32)]), i_A 4 34 5 13, i_A 5 35 6 8, i_X 6 36 (.callS 0 (.k (.d (.fn 19 [] []))) [(.t 34), (.t 35)]), i_X 7 8 (.alloc [(.d (.int .i64 0)), (.d (.int .i64 0)), (.d (.int .i64 0)), (.d (.int .i64 0)), .nil, (.d (.int .i64 0)), (.d (.int .i64 0)), (.d (.int .i64 0)), (.d (.int .i64 0)), (.d (.int .i64 0)), (.d (.int .i64 0)), (.d (.int .i64 0)), .nil, (.d (.bool false)), (.d (.flt 0)), (.d (.int .i64 0))] 45), i_X 8 9 (.alloc [(.d (.int .i64 0)), (.d (.int .i64 0)), (.d (.int .i64 0)), (.d (.int .i64 0)), .nil, (.d (.int .i64 0)), (.d (.int .i64 0)), (.d (.int .i64 0)), (.d (.int .i64 0)), (.d (.int .i64 0)), (.d (.int .i64 0)), (.d (.int .i64 0)), .nil, (.d (.bool false)), (.d (.flt 0)), (.d (.int .i64 0))] 49), i_S 9 8 33 16, i_S 10 9 36 16] [1, 5, 6, 7, 8, 9]) (.seq (.seq (.reg [i_P 0 37 8 13, i_L 1 38 37 1] [1, 5, 6, 7, 8, 9, 38]) (.cond (.t 38) (.seq (.reg [i_P 0 39 6 0, i_P 1 40 39 4, i_L 2 41 40 1, i_X 3 42 (.callA (.k (.d (.fn 24 [] []))) [(.t 41)]), i_M 4 10 42] [1, 5, 6, 7, 8, 9, 10]) (.seq (.reg [i_P 0 44 6 0, i_P 1 45 44 3, i_L 2 46 45 1, i_P 3 47 6 0, i_P 4 48 47 2, i_L 5 49 48 1, i_X 6 50 (.callA (.k (.d (.fn 25 [] []))) [(.t 46), (.t 49)]), i_M 7 43 50, i_X 8 51 (.h (.ext (.t 43) 0)), i_X 9 52 (.h (.ext (.t 43) 1)), i_M 10 11 51, i_M 11 12 52] [1, 5, 6, 7, 8, 9, 10, 11]) (.seq (.reg [i_P 0 53 5 0, i_A 1 54 53 3, i_M 2 55 10, i_M 3 56 11, i_P 4 57 6 0, i_P 5 58 57 1, i_L 6 59 58 1, i_P 7 60 6 0, i_P 8 61 60 3, i_L 9 62 61 1, i_P 10 63 6 0, i_P 11 64 63 4, i_L 12 65 64 1, i_X 13 66 (.h (.idx (.t 65) (.k (.d (.int .i64 0))) 1)), i_L 14 67 66 1, i_P 15 68 5 8, i_L 16 69 68 1, i_P 17 70 5 9, i_L 18 71 70 1, i_X 19 72 (.callS 19 (.k (.d (.fn 27 [] []))) [(.t 67), (.t 69), (.t 71)]), i_X 20 73 (.callS 0 (.k (.d (.fn 26 [] []))) [(.t 54), (.t 55), (.t 56), (.t 59), (.t 62), (.t 72)]), i_X 21 13 (.alloc [.nil, (.d (.int .i64 0)), (.d (.int .i64 0))] 60), i_S 22 13 73 3] [1, 5, 6, 7, 8, 9, 10, 11, 13]) (.seq (.reg [i_P 0 74 13 2, i_L 1 75 74 1, i_X 2 76 (.h (.ibin .neq (.t 75) (.k (.d (.int .i64 0))))), i_M 3 77 76, ⟨4, (some 78), (some (77, false)), [], [], (.h (.padd (.t 8) 8))⟩, ⟨5, (some 79), (some (77, false)), [], [], (.h (.padd (.t 78) 4))⟩, ⟨6, (some 80), (some (77, false)), [], [], (.load (.t 79) 1 false)⟩, ⟨7, (some 81), (some (77, false)), [], [], (.h (.mov (.t 10)))⟩, ⟨8, (some 82), (some (77, false)), [], [], (.h (.mov (.t 11)))⟩, ⟨9, (some 83), (some (77, false)), [], [], (.h (.padd (.t 13) 0))⟩, ⟨10, (some 84), (some (77, false)), [], [], (.load (.t 83) 1 false)⟩, ⟨11, (some 85), (some (77, false)), [], [], (.callS 11 (.k (.d (.fn 29 [] []))) [(.t 81), (.t 82), (.t 84)])⟩, ⟨12, (some 86), (some (77, false)), [], [], (.callA (.k (.d (.fn 28 [] []))) [(.t 80), (.t 85)])⟩, ⟨13, (some 87), (some (77, false)), [], [], (.h (.un .not (.t 86)))⟩, i_X 14 88 (.h (.pick (.t 77) (.k (.d (.bool true))) (.t 87)))] [1, 5, 6, 7, 9, 88]) (.cond (.t 88) (.seq (.reg [i_X 0 4 (.h (.mov (.k (.d (.bool false)))))] [4]) .ret) .skip))))) .skip)) (.seq (.seq (.reg [i_P 0 89 9 15, i_L 1 90 89 1, i_X 2 91 (.h (.ibin .neq (.t 90) (.k (.d (.int .i64 0)))))] [1, 5, 6, 7, 9, 91]) (.cond (.t 91) (.seq (.reg [i_X 0 4 (.h (.mov (.k (.d (.bool true)))))] [4]) .ret) .skip)) (.reg [i_P 0 92 9 0, i_A 1 93 92 8, i_S 2 6 93 8] [1, 5, 6, 7]))))) (.reg [i_M 0 28 7, i_X 1 29 (.h (.ibin .add (.t 28) (.k (.d (.int .i64 1))))), i_M 2 7 29] [1, 5, 6, 7])))
def A_l10_StepMethod : CA := (.seq (.reg [i_X 0 2 (.box (.t 0) 9 24), i_X 1 4 (.h (.mov (.k (.d (.bool false)))))] [1, 2]) (.seq (.seq (.reg [i_X 0 14 (.callA (.k (.d (.fn 12 [] []))) []), i_X 1 15 (.h (.un .not (.t 14)))] [1, 2, 15]) (.cond (.t 15) (.seq (.reg [i_X 0 4 (.h (.mov (.k (.d (.bool false)))))] [4]) .ret) .skip)) (.seq (.seq (.reg [i_A 0 16 2 9, i_X 1 17 (.callA (.k (.d (.fn 13 [] []))) [(.t 16)]), i_X 2 18 (.h (.un .not (.t 17)))] [1, 2, 18]) (.cond (.t 18) (.seq (.reg [i_X 0 4 (.h (.mov (.k (.d (.bool true)))))] [4]) .ret) .skip)) (.seq (.reg [i_A 0 19 2 9, i_X 1 20 (.callA (.k (.d (.fn 14 [] []))) [(.t 19)]), i_X 2 5 (.alloc [(.d (.int .i64 0)), .nil, .nil, .nil, .nil, (.d (.int .i64 0)), (.d (.int .i64 0)), (.d (.int .i64 0)), (.d (.flt 0)), (.d (.flt 0)), (.d (.flt 0)), (.d (.int .i64 0)), .nil] 33), i_S 3 5 20 13] [1, 5]) (.seq (.reg [i_A 0 21 5 13, i_X 1 22 (.callA (.k (.d (.fn 15 [] []))) [(.t 21)]), i_X 2 6 (.alloc [(.d (.int .i64 0)), (.d (.int .i64 0)), (.d (.int .i64 0)), (.d (.int .i64 0)), .nil, (.d (.int .i64 0)), (.d (.int .i64 0)), (.d (.int .i64 0))] 39), i_S 3 6 22 8] [1, 5, 6]) (.seq (.seq (.reg [i_X 0 7 (.h (.mov (.k (.d (.int .i64 0)))))] [1, 5, 6, 7]) (.block 0 (.loop A_l10_StepMethod_L0))) (.seq (.reg [i_X 0 4 (.h (.mov (.k (.d (.bool true)))))] [4]) .ret)))))))
theorem A_l10_StepMethod_comp : compF Tryz.prog 7 = some ⟨94, [(4, none)], A_l10_StepMethod.strip⟩ := by kernel_rfl
set_option maxRecDepth 8000 in
theorem l10_StepMethod_con (n first least tol fin : Int) (ns ms outs : List Int) (dv : Bool) (steps : Int) : Con Tryz.prog 7 [.agg (shC n first least tol fin ns ms outs dv), fI steps] (fB true) := by
  refine Con_introA A_l10_StepMethod_comp rfl mixed ?_
  simp -implicitDefEqProofs only [evI, hv, effC, reduceCtorEq, ↓reduceIte, n1_, n2_, n3_, n4_, n5_, i1_, i2_, i3_, i4_, i5_, i6_, i7_, A_l10_StepMethod]
  first | refine callG_con (l10_known_con) rfl ?_ | refine callCG_con (l10_known_con) rfl ?_ | refine callSG_con (l10_known_con) rfl ?_
  simp -implicitDefEqProofs only [evI, hv, effC, reduceCtorEq, ↓reduceIte, n1_, n2_, n3_, n4_, n5_, i1_, i2_, i3_, i4_, i5_, i6_, i7_]
  first | refine callG_con (l10_Few_con n first least tol fin ns ms outs dv) rfl ?_ | refine callCG_con (l10_Few_con n first least tol fin ns ms outs dv) rfl ?_ | refine callSG_con (l10_Few_con n first least tol fin ns ms outs dv) rfl ?_
  by_cases hfew : ns.length ≤ 60 ∧ ms.length ≤ 60 ∧ outs.length ≤ 60
  · rw [decide_eq_true hfew]
    simp -implicitDefEqProofs only [evI, hv, effC, reduceCtorEq, ↓reduceIte, n1_, n2_, n3_, n4_, n5_, i1_, i2_, i3_, i4_, i5_, i6_, i7_]
    first | refine callG_con (l10_Make_con n first least tol fin ns ms outs dv hfew.1 hfew.2.1 hfew.2.2) rfl ?_ | refine callCG_con (l10_Make_con n first least tol fin ns ms outs dv hfew.1 hfew.2.1 hfew.2.2) rfl ?_ | refine callSG_con (l10_Make_con n first least tol fin ns ms outs dv hfew.1 hfew.2.1 hfew.2.2) rfl ?_
    have hp := mkPb_ok n first least tol fin ns ms outs dv
    generalize mkPb n first least tol fin ns ms outs dv = p at hp
    simp -implicitDefEqProofs only [evI, hv, effC, reduceCtorEq, ↓reduceIte, n1_, n2_, n3_, n4_, n5_, i1_, i2_, i3_, i4_, i5_, i6_, i7_]
    have hn40 : p.t.n < 2 ^ 40 := Nat.lt_trans hp.ok.t.n (by decide)
    first | refine callG_con (begin_con p hp) rfl ?_ | refine callCG_con (begin_con p hp) rfl ?_ | refine callSG_con (begin_con p hp) rfl ?_
    simp -implicitDefEqProofs only [evI, hv, effC, reduceCtorEq, ↓reduceIte, n1_, n2_, n3_, n4_, n5_, i1_, i2_, i3_, i4_, i5_, i6_, i7_]
    have q1 := Int.emod_nonneg steps (by decide : (12 : Int) ≠ 0)
    have q2 := Int.emod_lt_of_pos steps (by decide : (0 : Int) < 12)
    obtain ⟨N, hN⟩ : ∃ N : Nat, 4 + steps % 12 = N := ⟨(4 + steps % 12).toNat, by omega⟩
    have wN : IntKind.i64.wrap (4 + steps % 12) = (N : Int) := by rw [hN]; exact wrapI (by omega) (by omega)
    refine WA_forW (n := N) (fun c s => ∃ (i : Nat) (x : Sta), c + i = N ∧ Inv p i x ∧ s = ⟨[(1, fI steps), (5, .ptr 3 0 0 13), (6, .ptr 6 0 0 8), (7, fI i)], [(6, [staC x]), (3, [pbC p]), (0, [shC n first least tol fin ns ms outs dv])]⟩) (Le.refl _) ⟨0, beginS p, by omega, begin_inv hp, rfl⟩ ?_
    rintro c s ⟨i, x, hc, hi, rfl⟩
    simp -implicitDefEqProofs only [evI, hv, effC, reduceCtorEq, ↓reduceIte, n1_, n2_, n3_, n4_, n5_, i1_, i2_, i3_, i4_, i5_, i6_, i7_, A_l10_StepMethod_L0]
    first | refine callG_con (l10_within_con steps 12 (by decide) (by decide)) rfl ?_ | refine callCG_con (l10_within_con steps 12 (by decide) (by decide)) rfl ?_ | refine callSG_con (l10_within_con steps 12 (by decide) (by decide)) rfl ?_
    simp -implicitDefEqProofs only [evI, hv, effC, reduceCtorEq, ↓reduceIte, n1_, n2_, n3_, n4_, n5_, i1_, i2_, i3_, i4_, i5_, i6_, i7_, wN]
    refine condC_intro (fun h => ?_) (fun h => ?_)
    · replace h := of_decide_eq_true h
      have hk0 : i < 100000 := by omega
      have hin := tryP_inv hp hi hk0
      have hzl := tryP_zl hp hi hk0
      have hsp := try_spec hp hi
      obtain ⟨wpo, wst, wor, wid⟩ := inv_wraps hp hi hk0
      simp -implicitDefEqProofs only [evI, hv, effC, reduceCtorEq, ↓reduceIte, n1_, n2_, n3_, n4_, n5_, i1_, i2_, i3_, i4_, i5_, i6_, i7_]
      first | refine callG_con (l10_as_con p.t x hn40 hi.ok) rfl ?_ | refine callCG_con (l10_as_con p.t x hn40 hi.ok) rfl ?_ | refine callSG_con (l10_as_con p.t x hn40 hi.ok) rfl ?_
      simp -implicitDefEqProofs only [evI, hv, effC, reduceCtorEq, ↓reduceIte, n1_, n2_, n3_, n4_, n5_, i1_, i2_, i3_, i4_, i5_, i6_, i7_]
      first | refine callG_con (step_Try_con p x hp.ok hi.ok) rfl ?_ | refine callCG_con (step_Try_con p x hp.ok hi.ok) rfl ?_ | refine callSG_con (step_Try_con p x hp.ok hi.ok) rfl ?_
      simp -implicitDefEqProofs only [evI, hv, effC, reduceCtorEq, ↓reduceIte, n1_, n2_, n3_, n4_, n5_, i1_, i2_, i3_, i4_, i5_, i6_, i7_]
      first | refine callG_con (r10_Try_con p x hp.ok hi.ok) rfl ?_ | refine callCG_con (r10_Try_con p x hp.ok hi.ok) rfl ?_ | refine callSG_con (r10_Try_con p x hp.ok hi.ok) rfl ?_
      generalize tryP p x = r at hzl hin hsp
      obtain ⟨w1, w2, w3, w4⟩ := wst r hin
      have e00 : ((0 : Int) != 0) = false := rfl
      have hlo := hi.lo
      have hl1 := hp.ok.least
      simp -implicitDefEqProofs only [evI, hv, effC, reduceCtorEq, ↓reduceIte, n1_, n2_, n3_, n4_, n5_, i1_, i2_, i3_, i4_, i5_, i6_, i7_]
      obtain ⟨⟨⟨pos, st, o, m, z⟩, g, f, sl⟩, ⟨npos, nst, no, nm, nz⟩, t, er, e⟩ := r
      simp only at hzl hin w2 w4
      rcases hsp with ⟨ht, sp⟩ | ⟨ht, sp⟩
      · obtain rfl : t = true := ht
        obtain rfl : e = 0 := sp.e
        obtain rfl : npos = x.n.pos + x.n.step := sp.npos
        obtain rfl : no = x.n.order := sp.nord
        obtain rfl : nm = x.n.method := sp.nmet
        obtain rfl : nst = x.n.step := sp.nstep
        obtain rfl : pos = x.n.pos + x.n.step := sp.pos
        obtain rfl : f = 0 := sp.fails
        obtain rfl : m = x.n.method := sp.met
        have her : fcmp .le er 4607182418800017408 = true := sp.err
        have hxn := hi.ok.n
        have hxm := hxn.m
        obtain ⟨d, kk, hdl, hsg, hnz⟩ := sp.sol
        replace hnz : nz = corrP (predP x.n.z p.t.n x.n.order.toNat) (ofL x.n.method x.n.order.toNat) d (x.n.order.toNat + 1) p.t.n := hnz
        obtain ⟨q, hq⟩ : ∃ q : Nat, x.n.order = q := ⟨x.n.order.toNat, by omega⟩
        have hqt : x.n.order.toNat = q := by omega
        rw [hqt] at hsg hnz
        have hrk := hxn.rk
        rw [hqt] at hrk
        have hq9 : q < 1000 := by omega
        have hq10 : q + 1 < 1000 := by omega
        have hpred := r8_Predict_con x.n.z q p.t.n hrk hq9 hn40
        have hmq : (x.n.method = 0 ∧ 1 ≤ q ∧ q ≤ 5) ∨ (x.n.method = 1 ∧ 1 ≤ q ∧ q ≤ 4) := by omega
        obtain ⟨hof, hofl⟩ := r7_Of_ok x.n.method q hmq
        have hz0 := hrk.2 0 (by omega)
        have hzl0 := hrk.1
        have hwt := r9_Weights_con (x.n.z.getD 0 []) p.atol p.rtol (by omega)
        have hwl : (wtP (x.n.z.getD 0 []) p.atol p.rtol).length = p.t.n := by rw [wtP_len]; exact hz0
        have hZ := predP_rk hrk q
        have ok : Sok p.t (predP x.n.z p.t.n q) (ofL x.n.method q) (wtP (x.n.z.getD 0 []) p.atol p.rtol) (List.replicate p.t.n 0) := ⟨hp.ok.t, by have := hZ.1; omega, fun i hi => hZ.2 i (by omega), by omega, hwl, by simp⟩
        obtain ⟨j, hj, hst⟩ := hxn.step
        have hsol := r9_Solve_con p.t (predP x.n.z p.t.n q) (ofL x.n.method q) (hW (2 ^ j)) (wtP (x.n.z.getD 0 []) p.atol p.rtol) ((2 ^ j : Nat) : Int) x.n.method hp.ok.n ok (hW_div j)
        rw [← hst] at hsol
        rw [hst, Int.toNat_natCast] at hsg
        rw [hsg] at hsol
        have hcor := r8_Correct_con (predP x.n.z p.t.n q) (q + 1) p.t.n hZ hq10 hn40 (ofL x.n.method q) d hofl hdl
        rw [← hnz] at hcor
        rw [← hq] at hof
        generalize predP x.n.z p.t.n q = Z at hpred hsol hcor
        generalize ofL x.n.method q = l at hof hofl hsol hcor
        generalize wtP (x.n.z.getD 0 []) p.atol p.rtol = w at hwt hsol
        clear ok hsg hnz
        simp -implicitDefEqProofs only [evI, hv, effC, reduceCtorEq, ↓reduceIte, n1_, n2_, n3_, n4_, n5_, i1_, i2_, i3_, i4_, i5_, i6_, i7_]
        first | refine callG_con (hpred) rfl ?_ | refine callCG_con (hpred) rfl ?_ | refine callSG_con (hpred) rfl ?_
        simp -implicitDefEqProofs only [evI, hv, effC, reduceCtorEq, ↓reduceIte, n1_, n2_, n3_, n4_, n5_, i1_, i2_, i3_, i4_, i5_, i6_, i7_]
        first | refine callG_con (hof) rfl ?_ | refine callCG_con (hof) rfl ?_ | refine callSG_con (hof) rfl ?_
        simp -implicitDefEqProofs only [evI, hv, effC, reduceCtorEq, ↓reduceIte, n1_, n2_, n3_, n4_, n5_, i1_, i2_, i3_, i4_, i5_, i6_, i7_]
        refine ⟨by omega, ?_⟩
        first | refine callG_con (hwt) rfl ?_ | refine callCG_con (hwt) rfl ?_ | refine callSG_con (hwt) rfl ?_
        simp -implicitDefEqProofs only [evI, hv, effC, reduceCtorEq, ↓reduceIte, n1_, n2_, n3_, n4_, n5_, i1_, i2_, i3_, i4_, i5_, i6_, i7_]
        first | refine callG_con (hsol) rfl ?_ | refine callCG_con (hsol) rfl ?_ | refine callSG_con (hsol) rfl ?_
        simp -implicitDefEqProofs only [evI, hv, effC, reduceCtorEq, ↓reduceIte, n1_, n2_, n3_, n4_, n5_, i1_, i2_, i3_, i4_, i5_, i6_, i7_]
        first | refine callG_con (hcor) rfl ?_ | refine callCG_con (hcor) rfl ?_ | refine callSG_con (hcor) rfl ?_
        simp -implicitDefEqProofs only [evI, hv, effC, reduceCtorEq, ↓reduceIte, n1_, n2_, n3_, n4_, n5_, i1_, i2_, i3_, i4_, i5_, i6_, i7_]
        first | refine callG_con (r1_Tables_con nz hzl.2.1 hzl.2.2) rfl ?_ | refine callCG_con (r1_Tables_con nz hzl.2.1 hzl.2.2) rfl ?_ | refine callSG_con (r1_Tables_con nz hzl.2.1 hzl.2.2) rfl ?_
        simp -implicitDefEqProofs only [evI, hv, effC, reduceCtorEq, ↓reduceIte, n1_, n2_, n3_, n4_, n5_, i1_, i2_, i3_, i4_, i5_, i6_, i7_, wid]
        exact ⟨c - 1, _, by omega, LeT.only (fun X => decide (X ≤ 6)) (fun _ h => h) rfl (by simp [KpS_cons, KpS_nil, KpH_cons, KpH_nil, KpF_cons, KpF_nil, KpF_rows, KpA_cons, KpA_nil, KpA_app, KpA_rowV, KpA_rowIV, KpA_dcells, KpA_outC, Kp_any, Kp_nilv, Kp_d, Kp_ptr, Kp_sl, Kp_agg, Kp_tup, Kp_fn, get_cons, get_nil]) (by simp [KpS_cons, KpS_nil, KpH_cons, KpH_nil, KpF_cons, KpF_nil, KpF_rows, KpA_cons, KpA_nil, KpA_app, KpA_rowV, KpA_rowIV, KpA_dcells, KpA_outC, Kp_any, Kp_nilv, Kp_d, Kp_ptr, Kp_sl, Kp_agg, Kp_tup, Kp_fn, get_cons, get_nil]), i + 1, _, by omega, hin, rfl⟩
      · obtain rfl : t = false := ht
        obtain rfl : nz = [] := sp.nz
        by_cases he : e = 0
        · subst he
          obtain rfl : pos = x.n.pos := sp.pos
          simp -implicitDefEqProofs only [evI, hv, effC, reduceCtorEq, ↓reduceIte, n1_, n2_, n3_, n4_, n5_, i1_, i2_, i3_, i4_, i5_, i6_, i7_, wid]
          exact ⟨c - 1, _, by omega, LeT.only (fun X => decide (X ≤ 6)) (fun _ h => h) rfl (by simp [KpS_cons, KpS_nil, KpH_cons, KpH_nil, KpF_cons, KpF_nil, KpF_rows, KpA_cons, KpA_nil, KpA_app, KpA_rowV, KpA_rowIV, KpA_dcells, KpA_outC, Kp_any, Kp_nilv, Kp_d, Kp_ptr, Kp_sl, Kp_agg, Kp_tup, Kp_fn, get_cons, get_nil]) (by simp [KpS_cons, KpS_nil, KpH_cons, KpH_nil, KpF_cons, KpF_nil, KpF_rows, KpA_cons, KpA_nil, KpA_app, KpA_rowV, KpA_rowIV, KpA_dcells, KpA_outC, Kp_any, Kp_nilv, Kp_d, Kp_ptr, Kp_sl, Kp_agg, Kp_tup, Kp_fn, get_cons, get_nil]), i + 1, _, by omega, hin, rfl⟩
        · obtain ⟨hst, hle, h542⟩ := sp.stay he
          obtain rfl : x = { n := ⟨pos, st, o, m, z⟩, good := g, fails := f, slow := sl } := hst.symm
          replace hle : st ≤ p.least := hle
          replace h542 : e = 5 ∨ e = 4 ∨ e = 2 := h542
          have he' : (e == 0) = false := by simp [he]
          have he2 : (e != 0) = true := by simp [he]
          simp -implicitDefEqProofs only [evI, hv, effC, reduceCtorEq, ↓reduceIte, n1_, n2_, n3_, n4_, n5_, i1_, i2_, i3_, i4_, i5_, i6_, i7_, he2]
          exact endsT_rett rfl (by decide) (by simp [look])
    · replace h := of_decide_eq_false h
      simp -implicitDefEqProofs only [evI, hv, effC, reduceCtorEq, ↓reduceIte, n1_, n2_, n3_, n4_, n5_, i1_, i2_, i3_, i4_, i5_, i6_, i7_]
      exact endsT_rett rfl (by decide) (by simp [look])
  · rw [decide_eq_false hfew]
    simp -implicitDefEqProofs only [evI, hv, effC, reduceCtorEq, ↓reduceIte, n1_, n2_, n3_, n4_, n5_, i1_, i2_, i3_, i4_, i5_, i6_, i7_]
    exact endsT_rett rfl (by decide) (by simp [look])
end Go.Ab
