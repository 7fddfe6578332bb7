/- Part 16: LG, NA, CI, LH, NB. -/
import Derived.Test.YtdnldhnjbnpbcaaGreatGO
namespace Go.Ab
set_option linter.unusedSimpArgs false
set_option linter.unusedVariables false
open Nat renaming reduceEqDiff → n1_, reduceAdd → n2_, reduceMul → n3_, reduceLT → n4_, reduceLeDiff → n5_
open Int renaming reduceToNat → i1_, reduceAdd → i2_, reduceSub → i3_, reduceMul → i4_, reduceNeg → i5_, reduceLT → i6_, reduceLE → i7_
open Go Go.Proofs
def A_r6_Part_L0 : CA := (.seq (.seq (.reg [i_M 0 18 6, i_M 1 19 5, i_X 2 20 (.h (.ibin .lss (.t 18) (.t 19)))] [2, 4, 5, 6, 20]) (.cond (.t 20) .skip (.exit 0))) (.seq (.block 1 (.reg [i_P 0 23 4 1, i_L 1 24 23 1, i_M 2 25 6, i_X 3 26 (.bslice [(.d (.int .i64 0))] 1 1 [(0, (1, (.t 25)))] 3), i_X 4 27 (.app (.t 24) (.t 26) 1 8), i_P 5 28 4 1, i_S 6 28 27 1] [2, 4, 5, 6])) (.reg [i_M 0 21 6, i_X 1 22 (.h (.ibin .add (.t 21) (.k (.d (.int .i64 1))))), i_M 2 6 22] [2, 4, 5, 6])))
def A_r6_Part_L2 : CA := (.seq (.seq (.reg [i_M 0 37 9, i_M 1 38 5, i_X 2 39 (.h (.ibin .lss (.t 37) (.t 38)))] [2, 4, 5, 7, 8, 9, 39]) (.cond (.t 39) .skip (.exit 4))) (.seq (.block 5 (.seq (.reg [i_P 0 42 4 0, i_L 1 43 42 1, i_M 2 44 9, i_X 3 45 (.h (.idx (.t 43) (.t 44) 1)), i_L 4 46 45 1, i_M 5 47 7, i_X 6 48 (.h (.idx (.t 46) (.t 47) 1)), i_L 7 49 48 1, i_X 8 50 (.callS 0 (.k (.d (.fn 58 [] []))) [(.t 49)]), i_P 9 51 4 0, i_L 10 52 51 1, i_M 11 53 8, i_X 12 54 (.h (.idx (.t 52) (.t 53) 1)), i_L 13 55 54 1, i_M 14 56 7, i_X 15 57 (.h (.idx (.t 55) (.t 56) 1)), i_L 16 58 57 1, i_X 17 59 (.callA (.k (.d (.fn 58 [] []))) [(.t 58)]), i_X 18 60 (.h (.fcmp .gt (.t 50) (.t 59)))] [2, 4, 5, 7, 8, 9, 60]) (.cond (.t 60) (.reg [i_M 0 61 9, i_M 1 8 61] [2, 4, 5, 7, 8, 9]) .skip))) (.reg [i_M 0 40 9, i_X 1 41 (.h (.ibin .add (.t 40) (.k (.d (.int .i64 1))))), i_M 2 9 41] [2, 4, 5, 7, 8, 9])))
def A_r6_Part_L4 : CA := (.seq (.seq (.reg [i_M 0 153 11, i_M 1 154 5, i_X 2 155 (.h (.ibin .lss (.t 153) (.t 154)))] [2, 4, 5, 7, 10, 11, 155]) (.cond (.t 155) .skip (.exit 8))) (.seq (.block 9 (.seq (.reg [i_P 0 158 4 0, i_L 1 159 158 1, i_M 2 160 10, i_X 3 161 (.h (.idx (.t 159) (.t 160) 1)), i_L 4 162 161 1, i_M 5 163 7, i_X 6 164 (.h (.idx (.t 162) (.t 163) 1)), i_L 7 165 164 1, i_P 8 166 4 0, i_L 9 167 166 1, i_M 10 168 7, i_X 11 169 (.h (.idx (.t 167) (.t 168) 1)), i_L 12 170 169 1, i_M 13 171 11, i_X 14 172 (.h (.idx (.t 170) (.t 171) 1)), i_L 15 173 172 1, i_X 16 174 (.h (.fbin .mul (.t 165) (.t 173))), i_M 17 12 174] [2, 4, 5, 7, 10, 11, 12]) (.reg [i_P 0 175 4 0, i_L 1 176 175 1, i_M 2 177 10, i_X 3 178 (.h (.idx (.t 176) (.t 177) 1)), i_L 4 179 178 1, i_M 5 180 11, i_P 6 181 4 0, i_L 7 182 181 1, i_M 8 183 10, i_X 9 184 (.h (.idx (.t 182) (.t 183) 1)), i_L 10 185 184 1, i_M 11 186 11, i_X 12 187 (.h (.idx (.t 185) (.t 186) 1)), i_L 13 188 187 1, i_M 14 189 12, i_X 15 190 (.h (.fbin .sub (.t 188) (.t 189))), i_X 16 191 (.h (.idx (.t 179) (.t 180) 1)), i_S 17 191 190 1] [2, 4, 5, 7, 10, 11]))) (.reg [i_M 0 156 11, i_X 1 157 (.h (.ibin .add (.t 156) (.k (.d (.int .i64 1))))), i_M 2 11 157] [2, 4, 5, 7, 10, 11])))
def A_r6_Part_L3 : CA := (.seq (.seq (.reg [i_M 0 122 10, i_M 1 123 5, i_X 2 124 (.h (.ibin .lss (.t 122) (.t 123)))] [2, 4, 5, 7, 10, 124]) (.cond (.t 124) .skip (.exit 6))) (.seq (.block 7 (.seq (.reg [i_P 0 127 4 0, i_L 1 128 127 1, i_M 2 129 10, i_X 3 130 (.h (.idx (.t 128) (.t 129) 1)), i_L 4 131 130 1, i_M 5 132 7, i_P 6 133 4 0, i_L 7 134 133 1, i_M 8 135 10, i_X 9 136 (.h (.idx (.t 134) (.t 135) 1)), i_L 10 137 136 1, i_M 11 138 7, i_X 12 139 (.h (.idx (.t 137) (.t 138) 1)), i_L 13 140 139 1, i_P 14 141 4 0, i_L 15 142 141 1, i_M 16 143 7, i_X 17 144 (.h (.idx (.t 142) (.t 143) 1)), i_L 18 145 144 1, i_M 19 146 7, i_X 20 147 (.h (.idx (.t 145) (.t 146) 1)), i_L 21 148 147 1, i_X 22 149 (.h (.fbin .div (.t 140) (.t 148))), i_X 23 150 (.h (.idx (.t 131) (.t 132) 1)), i_S 24 150 149 1] [2, 4, 5, 7, 10]) (.seq (.reg [i_M 0 151 7, i_X 1 152 (.h (.ibin .add (.t 151) (.k (.d (.int .i64 1))))), i_M 2 11 152] [2, 4, 5, 7, 10, 11]) (.block 8 (.loop A_r6_Part_L4))))) (.reg [i_M 0 125 10, i_X 1 126 (.h (.ibin .add (.t 125) (.k (.d (.int .i64 1))))), i_M 2 10 126] [2, 4, 5, 7, 10])))
def A_r6_Part_L1 : CA := (.seq (.seq (.reg [i_M 0 29 7, i_M 1 30 5, i_X 2 31 (.h (.ibin .lss (.t 29) (.t 30)))] [2, 4, 5, 7, 31]) (.cond (.t 31) .skip (.exit 2))) (.seq (.block 3 (.seq (.reg [i_M 0 34 7, i_M 1 8 34] [2, 4, 5, 7, 8]) (.seq (.seq (.reg [i_M 0 35 7, i_X 1 36 (.h (.ibin .add (.t 35) (.k (.d (.int .i64 1))))), i_M 2 9 36] [2, 4, 5, 7, 8, 9]) (.block 4 (.loop A_r6_Part_L2))) (.seq (.seq (.reg [i_P 0 62 4 0, i_L 1 63 62 1, i_M 2 64 8, i_X 3 65 (.h (.idx (.t 63) (.t 64) 1)), i_L 4 66 65 1, i_M 5 67 7, i_X 6 68 (.h (.idx (.t 66) (.t 67) 1)), i_L 7 69 68 1, i_X 8 70 (.h (.fcmp .eq (.t 69) (.k (.d (.flt 0))))), i_M 9 71 70, ⟨10, (some 72), (some (71, false)), [], [], (.h (.padd (.t 4) 0))⟩, ⟨11, (some 73), (some (71, false)), [], [], (.load (.t 72) 1 false)⟩, ⟨12, (some 74), (some (71, false)), [], [], (.h (.mov (.t 8)))⟩, ⟨13, (some 75), (some (71, false)), [], [], (.h (.idx (.t 73) (.t 74) 1))⟩, ⟨14, (some 76), (some (71, false)), [], [], (.load (.t 75) 1 false)⟩, ⟨15, (some 77), (some (71, false)), [], [], (.h (.mov (.t 7)))⟩, ⟨16, (some 78), (some (71, false)), [], [], (.h (.idx (.t 76) (.t 77) 1))⟩, ⟨17, (some 79), (some (71, false)), [], [], (.load (.t 78) 1 false)⟩, ⟨18, (some 80), (some (71, false)), [], [], (.callA (.k (.d (.fn 57 [] []))) [(.t 79)])⟩, ⟨19, (some 81), (some (71, false)), [], [], (.h (.un .not (.t 80)))⟩, i_X 20 82 (.h (.pick (.t 71) (.k (.d (.bool true))) (.t 81)))] [2, 4, 5, 7, 8, 82]) (.cond (.t 82) (.seq (.reg [i_X 0 83 (.h (.build [.nil, .nil] [])), i_S 1 2 83 2, i_X 2 3 (.h (.mov (.k (.d (.bool false)))))] [2, 3]) .ret) .skip)) (.seq (.reg [i_P 0 84 4 0, i_L 1 85 84 1, i_M 2 86 7, i_P 3 87 4 0, ⟨4, (some 88), none, [(.t 4)], [], (.load (.t 87) 1 false)⟩, i_M 5 89 8, i_P 6 90 4 0, i_L 7 91 90 1, i_M 8 92 8, i_X 9 93 (.h (.idx (.t 91) (.t 92) 1)), i_L 10 94 93 1, i_P 11 95 4 0, i_L 12 96 95 1, i_M 13 97 7, i_X 14 98 (.h (.idx (.t 96) (.t 97) 1)), i_L 15 99 98 1, i_X 16 100 (.h (.idx (.t 85) (.t 86) 1)), ⟨17, none, none, [], [(.t 4)], (.store (.t 100) (.t 94) 1)⟩, i_X 18 101 (.h (.idx (.t 88) (.t 89) 1)), i_S 19 101 99 1] [2, 4, 5, 7, 8]) (.seq (.reg [i_P 0 102 4 1, i_L 1 103 102 1, i_M 2 104 7, i_P 3 105 4 1, ⟨4, (some 106), none, [(.t 4)], [], (.load (.t 105) 1 false)⟩, i_M 5 107 8, i_P 6 108 4 1, i_L 7 109 108 1, i_M 8 110 8, i_X 9 111 (.h (.idx (.t 109) (.t 110) 1)), i_L 10 112 111 1, i_P 11 113 4 1, i_L 12 114 113 1, i_M 13 115 7, i_X 14 116 (.h (.idx (.t 114) (.t 115) 1)), i_L 15 117 116 1, i_X 16 118 (.h (.idx (.t 103) (.t 104) 1)), ⟨17, none, none, [], [(.t 4)], (.store (.t 118) (.t 112) 1)⟩, i_X 18 119 (.h (.idx (.t 106) (.t 107) 1)), i_S 19 119 117 1] [2, 4, 5, 7]) (.seq (.reg [i_M 0 120 7, i_X 1 121 (.h (.ibin .add (.t 120) (.k (.d (.int .i64 1))))), i_M 2 10 121] [2, 4, 5, 7, 10]) (.block 6 (.loop A_r6_Part_L3))))))))) (.reg [i_M 0 32 7, i_X 1 33 (.h (.ibin .add (.t 32) (.k (.d (.int .i64 1))))), i_M 2 7 33] [2, 4, 5, 7])))
def A_r6_Part : CA := (.seq (.reg [i_X 0 2 (.alloc [.nil, .nil] 91), i_X 1 3 (.h (.mov (.k (.d (.bool false)))))] [0, 2]) (.seq (.reg [i_M 0 13 0, i_X 1 14 (.callA (.k (.d (.fn 109 [] []))) [(.t 13)]), i_X 2 15 (.h (.build [.nil, .nil] [(0, (1, (.t 14)))])), i_X 3 4 (.alloc [.nil, .nil] 91), i_S 4 4 15 2] [0, 2, 4]) (.seq (.reg [i_M 0 16 0, i_X 1 17 (.h (.len (.t 16))), i_M 2 5 17] [2, 4, 5]) (.seq (.seq (.reg [i_X 0 6 (.h (.mov (.k (.d (.int .i64 0)))))] [2, 4, 5, 6]) (.block 0 (.loop A_r6_Part_L0))) (.seq (.seq (.reg [i_X 0 7 (.h (.mov (.k (.d (.int .i64 0)))))] [2, 4, 5, 7]) (.block 2 (.loop A_r6_Part_L1))) (.seq (.reg [i_A 0 192 4 2, i_S 1 2 192 2, i_X 2 3 (.h (.mov (.k (.d (.bool true)))))] [2, 3]) .ret))))))
theorem A_r6_Part_comp : compF Tryz.prog 85 = some ⟨193, [(2, (some (2, true))), (3, none)], A_r6_Part.strip⟩ := by kernel_rfl
theorem r6_copied_fresh (A : List (List Nat)) (n : Nat) (hA : Sq n A) (hn : n < 2 ^ 40) :
    AC Tryz.prog 109 [.d (rowsD A)] [] [(0, hdo 0 1 n n :: A.map rowV)] (.sl 0 0 0 n 1 n) := by
  have hl := hA.1
  refine AC_le (r6_copied_ac A n hA hn) (Le.ren (sl := [.sl 100 0 0 n 1 n]) (fun X r => if X = 200 then (0, r + 1) else (0, 0)) (fun _ r => if r = 0 then (100, 0) else (200, r - 1)) ?_ ?_ (fun _ _ h => h.elim))
  · intro X r c h
    rw [get_cons, get_cons, get_nil] at h
    split at h
    · rename_i e; subst e
      rw [List.getElem?_map] at h
      obtain ⟨xs, h1, rfl⟩ := Option.map_eq_some_iff.1 h
      simp [get_cons, h1, ren_rowV, V.ren]
    · split at h
      · rename_i e e2
        rcases r with _ | r
        · simp at h; subst h
          simp only [e, if_false, get_cons, if_true, List.getElem?_cons_zero]
          refine ⟨?_, by simp [e2]⟩
          rw [hdo_ren _ 200 0 n n 0 1 (fun j hj => by simp)]
        · simp at h
      · cases h
  · intro X r c h
    rw [get_cons, get_nil] at h
    split at h
    · rename_i e; subst e
      rcases r with _ | r
      · simp [get_cons]
      · simp only [List.getElem?_cons_succ, List.getElem?_map] at h
        obtain ⟨xs, h1, rfl⟩ := Option.map_eq_some_iff.1 h
        simp [get_cons, h1]
    · cases h
theorem up_own (k n len : Nat) (A : List (List Nat)) : Heap.up k [(0, hdo 0 1 n len :: A.map rowV)] = [(k, hdo k 1 n len :: A.map rowV)] := by
  have := ren_fam (upF k) A
  simp only [Heap.up, List.map_cons, Nat.zero_add]
  rw [hdo_ren _ 0 1 n len k 1 (fun j hj => by simp [upF]), this]
/-- The rows that the document's Part works at. -/
def r6H (B : List (List Nat)) (π : List Int) (n : Nat) : Heap :=
  [(9, [rowIV π]), (4, [[.sl 1 0 0 n 1 n, .sl 9 0 0 n 1 n]]), (1, hdo 1 1 n n :: B.map rowV), (0, [[.nil, .nil]])]
set_option maxRecDepth 8000 in
theorem r6part_L4 (N : Nat → Prop) (n k i : Nat) (D : List (List Nat)) (σ : List Int) (hn : n < 2 ^ 40) (hD : Sq n D) (hk : k < i) (hi : i < n) (Q : Ex → T → Prop)
    (hQ : ∀ v w, Q (.exit 8) ⟨[(2, .ptr 0 0 0 2), (4, .ptr 4 0 0 2), (5, fI n), (7, fI k), (10, fI i), (11, v), (155, w)], r6H (elimJ D i k (n - 1 - k)) σ n⟩) :
    WA Tryz.prog N 193 (.loop A_r6_Part_L4) Q ⟨[(2, .ptr 0 0 0 2), (4, .ptr 4 0 0 2), (5, fI n), (7, fI k), (10, fI i), (11, fI (k + 1 : Nat))], r6H D σ n⟩ := by
  refine WA_for (n := n) (fun c3 s => ∃ q, c3 + q = n ∧ k + 1 + q ≤ n ∧ s = ⟨[(2, .ptr 0 0 0 2), (4, .ptr 4 0 0 2), (5, fI n), (7, fI k), (10, fI i), (11, fI (k + 1 + q : Nat))],
    r6H (elimJ D i k q) σ n⟩) ⟨0, rfl, by omega, rfl⟩ ?_
  rintro c3 s ⟨q, hc3, hq, rfl⟩
  obtain ⟨hEl, hEr⟩ := elimJ_sq _ n i k hD q
  generalize hE : elimJ D i k q = E at hEl hEr
  simp -implicitDefEqProofs only [evI, hv, effC, reduceCtorEq, ↓reduceIte, n1_, n2_, n3_, n4_, n5_, i1_, i2_, i3_, i4_, i5_, i6_, i7_, A_r6_Part_L4, r6H]
  refine condC_intro (fun h6 => ?_) (fun h6 => ?_)
  · replace h6 := of_decide_eq_true h6
    have hj : k + 1 + q < n := by omega
    have hkn : k < n := by omega
    have g1 := hEr i hi
    have g2 := hEr k hkn
    have e7 : k + 1 + q < (E.getD i []).length := by omega
    have e8 : k + 1 + q < (E.getD k []).length := by omega
    have e9 : k < (E.getD i []).length := by omega
    have hEk : k < E.length := by omega
    have hEi : i < E.length := by omega
    simp -implicitDefEqProofs only [evI, hv, effC, reduceCtorEq, ↓reduceIte, n1_, n2_, n3_, n4_, n5_, i1_, i2_, i3_, i4_, i5_, i6_, i7_, hdo_getD _ _ _ _ _ hi, hdo_getD _ _ _ _ _ hkn, getE E _ hEk, getE E _ hEi, getD_map_fl _ _ e7, getD_map_fl _ _ e8, getD_map_fl _ _ e9, setE]
    (repeat (with_reducible refine And.intro (by omega) ?_))
    rw [wrapI (by omega) (by omega)]
    refine ⟨c3 - 1, by omega, q + 1, by omega, by omega, ?_⟩
    simp only [elimJ, hE]
    rfl
  · replace h6 := of_decide_eq_false h6
    simp -implicitDefEqProofs only [evI, hv, effC, reduceCtorEq, ↓reduceIte, n1_, n2_, n3_, n4_, n5_, i1_, i2_, i3_, i4_, i5_, i6_, i7_]
    have : n - 1 - k = q := by omega
    subst this
    rw [hE] at hQ
    exact hQ _ _
set_option maxRecDepth 8000 in
theorem r6part_L3 (N : Nat → Prop) (n k : Nat) (C : List (List Nat)) (σ : List Int) (hn : n < 2 ^ 40) (hC : Sq n C) (hk : k < n) (Q : Ex → T → Prop)
    (hQ : ∀ v w, Q (.exit 6) ⟨[(2, .ptr 0 0 0 2), (4, .ptr 4 0 0 2), (5, fI n), (7, fI k), (10, v), (124, w)], r6H (elimI C n k (n - 1 - k)) σ n⟩) :
    WA Tryz.prog N 193 (.loop A_r6_Part_L3) Q ⟨[(2, .ptr 0 0 0 2), (4, .ptr 4 0 0 2), (5, fI n), (7, fI k), (10, fI (k + 1 : Nat))], r6H C σ n⟩ := by
  refine WA_for (n := n) (fun c2 s => ∃ m, c2 + m = n ∧ k + 1 + m ≤ n ∧ s = ⟨[(2, .ptr 0 0 0 2), (4, .ptr 4 0 0 2), (5, fI n), (7, fI k), (10, fI (k + 1 + m : Nat))], r6H (elimI C n k m) σ n⟩) ⟨0, rfl, by omega, rfl⟩ ?_
  rintro c2 s ⟨m, hc2, hm, rfl⟩
  have hDs := elimI_sq C n k hC m
  have ⟨hDl, hDr⟩ := hDs
  generalize hD : elimI C n k m = D at hDs hDl hDr
  simp -implicitDefEqProofs only [evI, hv, effC, reduceCtorEq, ↓reduceIte, n1_, n2_, n3_, n4_, n5_, i1_, i2_, i3_, i4_, i5_, i6_, i7_, A_r6_Part_L3, r6H]
  refine condC_intro (fun h5 => ?_) (fun h5 => ?_)
  · replace h5 := of_decide_eq_true h5
    have hi : k + 1 + m < n := by omega
    have f1 := hDr (k + 1 + m) hi
    have f2 := hDr k hk
    have e5 : k < (D.getD k []).length := by omega
    have e6 : k < (D.getD (k + 1 + m) []).length := by omega
    have hDk : k < D.length := by omega
    have hDi : k + 1 + m < D.length := by omega
    simp -implicitDefEqProofs only [evI, hv, effC, reduceCtorEq, ↓reduceIte, n1_, n2_, n3_, n4_, n5_, i1_, i2_, i3_, i4_, i5_, i6_, i7_, hdo_getD _ _ _ _ _ hi, hdo_getD _ _ _ _ _ hk, getE D _ hDk, getE D _ hDi, getD_map_fl _ _ e5, getD_map_fl _ _ e6, setE]
    (repeat (with_reducible refine And.intro (by omega) ?_))
    rw [wrapI (by omega) (by omega)]
    refine r6part_L4 N n k (k + 1 + m) (up2 D (k + 1 + m) k (fop .div (at2 D (k + 1 + m) k) (at2 D k k))) σ hn (up2_sq D n _ k _ hDs) (by omega) hi _ fun v w => ?_
    simp -implicitDefEqProofs only [evI, hv, effC, reduceCtorEq, ↓reduceIte, n1_, n2_, n3_, n4_, n5_, i1_, i2_, i3_, i4_, i5_, i6_, i7_]
    rw [wrapI (by omega) (by omega)]
    refine ⟨c2 - 1, by omega, m + 1, by omega, by omega, ?_⟩
    simp only [elimI, elimRow, hD]
    rfl
  · replace h5 := of_decide_eq_false h5
    simp -implicitDefEqProofs only [evI, hv, effC, reduceCtorEq, ↓reduceIte, n1_, n2_, n3_, n4_, n5_, i1_, i2_, i3_, i4_, i5_, i6_, i7_]
    have : n - 1 - k = m := by omega
    subst this
    rw [hD] at hQ
    exact hQ _ _
set_option maxRecDepth 8000 in
theorem r6part_L2 (N : Nat → Prop) (n k : Nat) (B : List (List Nat)) (σ : List Int) (hn : n < 2 ^ 40) (hB : Sq n B) (hk : k < n) (Q : Ex → T → Prop)
    (hQ : ∀ v w, Q (.exit 4) ⟨[(2, .ptr 0 0 0 2), (4, .ptr 4 0 0 2), (5, fI n), (7, fI k), (8, fI (pvP B k (n - 1 - k))), (9, v), (39, w)], r6H B σ n⟩) :
    WA Tryz.prog N 193 (.loop A_r6_Part_L2) Q ⟨[(2, .ptr 0 0 0 2), (4, .ptr 4 0 0 2), (5, fI n), (7, fI k), (8, fI k), (9, fI (k + 1 : Nat))], r6H B σ n⟩ := by
  obtain ⟨hl, hr⟩ := hB
  refine WA_for (n := n) (fun c s => ∃ m, c + m = n ∧ k + 1 + m ≤ n ∧ s = ⟨[(2, .ptr 0 0 0 2), (4, .ptr 4 0 0 2), (5, fI n), (7, fI k), (8, fI (pvP B k m)), (9, fI (k + 1 + m : Nat))], r6H B σ n⟩) ⟨0, rfl, by omega, rfl⟩ ?_
  rintro c s ⟨m, hc, hm, rfl⟩
  have hp := pvP_lt B k m
  simp -implicitDefEqProofs only [evI, hv, effC, reduceCtorEq, ↓reduceIte, n1_, n2_, n3_, n4_, n5_, i1_, i2_, i3_, i4_, i5_, i6_, i7_, A_r6_Part_L2, r6H]
  refine condC_intro (fun h => ?_) (fun h => ?_)
  · replace h := of_decide_eq_true h
    have hi : k + 1 + m < n := by omega
    have hpn : pvP B k m < n := by omega
    have e1 := hr (k + 1 + m) hi
    have e2 := hr (pvP B k m) hpn
    have e5 : k < (B.getD (pvP B k m) []).length := by omega
    have e6 : k < (B.getD (k + 1 + m) []).length := by omega
    have hBp : pvP B k m < B.length := by omega
    have hBi : k + 1 + m < B.length := by omega
    simp -implicitDefEqProofs only [evI, hv, effC, reduceCtorEq, ↓reduceIte, n1_, n2_, n3_, n4_, n5_, i1_, i2_, i3_, i4_, i5_, i6_, i7_, hdo_getD _ _ _ _ _ hi, hdo_getD _ _ _ _ _ hpn, getE B _ hBp, getE B _ hBi, getD_map_fl _ _ e5, getD_map_fl _ _ e6]
    (repeat (with_reducible refine And.intro (by omega) ?_))
    first | refine callG_con (r1_Abs_con (at2 B (k + 1 + m) k)) rfl ?_ | refine callCG_con (r1_Abs_con (at2 B (k + 1 + m) k)) rfl ?_ | refine callSG_con (r1_Abs_con (at2 B (k + 1 + m) k)) rfl ?_
    simp -implicitDefEqProofs only [evI, hv, effC, reduceCtorEq, ↓reduceIte, n1_, n2_, n3_, n4_, n5_, i1_, i2_, i3_, i4_, i5_, i6_, i7_, hdo_getD _ _ _ _ _ hi, hdo_getD _ _ _ _ _ hpn, getE B _ hBp, getE B _ hBi, getD_map_fl _ _ e5, getD_map_fl _ _ e6]
    (repeat (with_reducible refine And.intro (by omega) ?_))
    first | refine callG_con (r1_Abs_con (at2 B (pvP B k m) k)) rfl ?_ | refine callCG_con (r1_Abs_con (at2 B (pvP B k m) k)) rfl ?_ | refine callSG_con (r1_Abs_con (at2 B (pvP B k m) k)) rfl ?_
    simp -implicitDefEqProofs only [evI, hv, effC, reduceCtorEq, ↓reduceIte, n1_, n2_, n3_, n4_, n5_, i1_, i2_, i3_, i4_, i5_, i6_, i7_]
    refine condC_intro (fun h2 => ?_) (fun h2 => ?_)
    · simp -implicitDefEqProofs only [evI, hv, effC, reduceCtorEq, ↓reduceIte, n1_, n2_, n3_, n4_, n5_, i1_, i2_, i3_, i4_, i5_, i6_, i7_]
      rw [wrapI (by omega) (by omega)]
      refine ⟨c - 1, by omega, m + 1, by omega, by omega, ?_⟩
      simp only [pvP, h2, if_true]; rfl
    · simp -implicitDefEqProofs only [evI, hv, effC, reduceCtorEq, ↓reduceIte, n1_, n2_, n3_, n4_, n5_, i1_, i2_, i3_, i4_, i5_, i6_, i7_]
      rw [wrapI (by omega) (by omega)]
      refine ⟨c - 1, by omega, m + 1, by omega, by omega, ?_⟩
      simp only [pvP, h2, if_false, Bool.false_eq_true]; rfl
  · replace h := of_decide_eq_false h
    simp -implicitDefEqProofs only [evI, hv, effC, reduceCtorEq, ↓reduceIte, n1_, n2_, n3_, n4_, n5_, i1_, i2_, i3_, i4_, i5_, i6_, i7_]
    have : n - 1 - k = m := by omega
    subst this
    exact hQ _ _
theorem r6_swap (N : Nat → Prop) (hN : ∀ Y, ¬ N Y) (nt n k p : Nat) (B : List (List Nat)) (π : List Int) (sls : Sl) (hl : B.length = n) (hk : k < n) (hp : p < n) (has : renS (swF 1 (k + 1) (p + 1)) sls = sls) :
    Le N (T.s nt ⟨sls, [(9, [rowIV π]), (4, [[.sl 1 0 0 n 1 n, .sl 9 0 0 n 1 n]]), (1, ((hdo 1 1 n n).set k (.sl 1 (p + 1) 0 n 1 n)).set p (.sl 1 (k + 1) 0 n 1 n) :: B.map rowV), (0, [[.nil, .nil]])]⟩)
      (T.s nt ⟨sls, r6H (swapL [] B k p) π n⟩) := by
  have : Le N (T.s nt ⟨sls, [(9, [rowIV π]), (4, [[.sl 1 0 0 n 1 n, .sl 9 0 0 n 1 n]]), (1, ((hdo 1 1 n n).set k (.sl 1 (p + 1) 0 n 1 n)).set p (.sl 1 (k + 1) 0 n 1 n) :: B.map rowV), (0, [[.nil, .nil]])]⟩) _ :=
    LeT.swap (X := 1) (a := k + 1) (b := p + 1)
      (fam := ((hdo 1 1 n n).set k (.sl 1 (p + 1) 0 n 1 n)).set p (.sl 1 (k + 1) 0 n 1 n) :: B.map rowV) (ca := rowV (B.getD k [])) (cb := rowV (B.getD p []))
      (by simp [fam_cons]) (by rw [List.getElem?_cons_succ]; exact getE B k (by omega)) (by rw [List.getElem?_cons_succ]; exact getE B p (by omega)) hN
  rw [has] at this
  refine (Eq.subst (motive := fun H => Le N _ (T.s nt ⟨sls, H⟩)) ?_ this)
  have e := hdo_swap 1 n n k p hk hp
  simp only [setFam, Heap.renH, List.map_cons, List.map_nil, List.set_cons_succ, setE, r6H, swapL, ren_rowIV, ren_fam, Nat.reduceEqDiff, ↓reduceIte, e]
  simp [V.ren, swF]
set_option maxRecDepth 8000 in
set_option maxHeartbeats 1000000 in
theorem r6part_L1 (N : Nat → Prop) (hN : ∀ Y, ¬ N Y) (n : Nat) (A : List (List Nat)) (hA : Sq n A) (hn : n < 2 ^ 40) (Q : Ex → T → Prop)
    (h1 : ∀ B π v w, partP A n n = some (B, π) → Sq n B → π.length = n → Q (.exit 2) ⟨[(2, .ptr 0 0 0 2), (4, .ptr 4 0 0 2), (5, fI n), (7, v), (31, w)], r6H B π n⟩)
    (h2 : ∀ s : T, partP A n n = none → s.sl = [(2, .ptr 0 0 0 2), (3, fB false)] → s.L.get 0 0 = some [.nil, .nil] → Q .ret s) :
    WA Tryz.prog N 193 (.loop A_r6_Part_L1) Q ⟨[(2, .ptr 0 0 0 2), (4, .ptr 4 0 0 2), (5, fI n), (7, fI 0)], r6H A ((List.range n).map fun (j : Nat) => (j : Int)) n⟩ := by
  have hr := hA.2
  have hn' := hA.1
  refine WA_for (n := n) (fun c s => ∃ k B π, c + k = n ∧ partP A n k = some (B, π) ∧ s = ⟨[(2, .ptr 0 0 0 2), (4, .ptr 4 0 0 2), (5, fI n), (7, fI k)], r6H B π n⟩) ⟨0, A, _, rfl, rfl, rfl⟩ ?_
  rintro c s ⟨k, B, π, hc, hp, rfl⟩
  obtain ⟨⟨hBl, hBr⟩, hπ⟩ := partP_sq A n ⟨hn', hr⟩ k (by omega) B π hp
  simp -implicitDefEqProofs only [evI, hv, effC, reduceCtorEq, ↓reduceIte, n1_, n2_, n3_, n4_, n5_, i1_, i2_, i3_, i4_, i5_, i6_, i7_, A_r6_Part_L1, r6H]
  refine condC_intro (fun h => ?_) (fun h => ?_)
  · replace h := of_decide_eq_true h
    simp -implicitDefEqProofs only [evI, hv, effC, reduceCtorEq, ↓reduceIte, n1_, n2_, n3_, n4_, n5_, i1_, i2_, i3_, i4_, i5_, i6_, i7_]
    (repeat (with_reducible refine And.intro (by omega) ?_))
    have h : k < n := by omega
    rw [wrapI (by omega) (by omega)]
    refine r6part_L2 N n k B π hn ⟨hBl, hBr⟩ h _ fun v w => ?_
    have hpv := pvP_lt B k (n - 1 - k)
    generalize hpp : pvP B k (n - 1 - k) = p at hpv
    have e1 := hBr p (by omega)
    have hpn : p < n := by omega
    have e2 : k < (B.getD p []).length := by omega
    have hBp : p < B.length := by omega
    simp -implicitDefEqProofs only [evI, hv, effC, reduceCtorEq, ↓reduceIte, n1_, n2_, n3_, n4_, n5_, i1_, i2_, i3_, i4_, i5_, i6_, i7_, r6H, hdo_getD _ _ _ _ _ hpn, getE B _ hBp, getD_map_fl _ _ e2]
    (repeat (with_reducible refine And.intro (by omega) ?_))
    have none_of : (fcmp .eq (at2 B p k) 0 = true ∨ finite (at2 B p k) = false) → partP A n n = none := by
      intro hd
      have e : partP A n (k + 1) = none := by
        simp only [partP, hp, Option.bind_some, stepP, hpp]
        rw [if_pos hd]
      have := partP_none A n (k + 1) e (n - (k + 1))
      rwa [show k + 1 + (n - (k + 1)) = n from by omega] at this
    cases hz : fcmp .eq ((B.getD p []).getD k 0) 0
    case true =>
      simp -implicitDefEqProofs only [evI, hv, effC, reduceCtorEq, ↓reduceIte, n1_, n2_, n3_, n4_, n5_, i1_, i2_, i3_, i4_, i5_, i6_, i7_]
      exact h2 _ (none_of (.inl hz)) rfl (by simp [get_cons])
    case false =>
      simp -implicitDefEqProofs only [evI, hv, effC, reduceCtorEq, ↓reduceIte, n1_, n2_, n3_, n4_, n5_, i1_, i2_, i3_, i4_, i5_, i6_, i7_, hdo_getD _ _ _ _ _ hpn, getE B _ hBp, getD_map_fl _ _ e2]
      (repeat (with_reducible refine And.intro (by omega) ?_))
      first | refine callG_con (r1_Finite_con (at2 B p k)) rfl ?_ | refine callCG_con (r1_Finite_con (at2 B p k)) rfl ?_ | refine callSG_con (r1_Finite_con (at2 B p k)) rfl ?_
      rw [finite_sub]
      simp -implicitDefEqProofs only [evI, hv, effC, reduceCtorEq, ↓reduceIte, n1_, n2_, n3_, n4_, n5_, i1_, i2_, i3_, i4_, i5_, i6_, i7_]
      cases hf : finite (at2 B p k)
      · simp -implicitDefEqProofs only [evI, hv, effC, reduceCtorEq, ↓reduceIte, n1_, n2_, n3_, n4_, n5_, i1_, i2_, i3_, i4_, i5_, i6_, i7_]
        exact h2 _ (none_of (.inr hf)) rfl (by simp [get_cons])
      · have e3 : k < π.length := by omega
        have e4 : p < π.length := by omega
        have hBk : k < B.length := by omega
        simp -implicitDefEqProofs only [evI, hv, effC, reduceCtorEq, ↓reduceIte, n1_, n2_, n3_, n4_, n5_, i1_, i2_, i3_, i4_, i5_, i6_, i7_, hdo_getD _ _ _ _ _ hpn, hdo_getD _ _ _ _ _ h, getD_rowIV _ _ e3, getD_rowIV _ _ e4]
        (repeat (with_reducible refine And.intro (by omega) ?_))
        generalize hσ : swapL 0 π k p = σ
        have hσ' : (π.set k (π.getD p 0)).set p (π.getD k 0) = σ := hσ
        rw [hσ', wrapI (by omega) (by omega)]
        have hσl : σ.length = n := by rw [← hσ]; simp [swapL, hπ]
        have hCs := swapL_sq B n k p ⟨hBl, hBr⟩ h hpn
        have hstep : partP A n (k + 1) = some (elimI (swapL [] B k p) n k (n - 1 - k), σ) := by
          simp only [partP, hp, Option.bind_some, stepP, hpp, hσ]
          rw [if_neg]
          rintro (e | e)
          · exact absurd (hz.symm.trans e) (by simp)
          · exact absurd (hf.symm.trans e) (by simp)
        refine WA_le (r6_swap N hN 193 n k p B σ _ hBl h hpn (by simp [renS, V.ren, swF])) ?_
        generalize swapL [] B k p = C at hCs hstep
        refine r6part_L3 N n k C σ hn hCs h _ fun v w => ?_
        simp -implicitDefEqProofs only [evI, hv, effC, reduceCtorEq, ↓reduceIte, n1_, n2_, n3_, n4_, n5_, i1_, i2_, i3_, i4_, i5_, i6_, i7_]
        rw [wrapI (by omega) (by omega)]
        exact ⟨c - 1, by omega, k + 1, _, σ, by omega, hstep, rfl⟩
  · replace h := of_decide_eq_false h
    obtain rfl : n = k := by omega
    simp -implicitDefEqProofs only [evI, hv, effC, reduceCtorEq, ↓reduceIte, n1_, n2_, n3_, n4_, n5_, i1_, i2_, i3_, i4_, i5_, i6_, i7_]
    exact h1 B π _ _ hp ⟨hBl, hBr⟩ hπ
theorem le_cell2 {L L' : Heap} {a b : V} (ha : LeV L L' (fun X q => (X, q)) a a) (hb : LeV L L' (fun X q => (X, q)) b b) : ∀ v ∈ [a, b], LeV L L' (fun X q => (X, q)) v v := by
  intro v hv
  rcases List.mem_cons.1 hv with rfl | hv
  · exact ha
  · rcases List.mem_cons.1 hv with rfl | hv
    · exact hb
    · cases hv
theorem r6_cells (L : Heap) (ρs : List Int) (n i : Nat) (A : List (List Nat)) (c0 c4 : List V) (hA : A.length = n) (L' : Heap) (hL' : L' = [(9, [rowIV ρs]), (4, [c4]), (1, hdo 1 1 n n :: A.map rowV), (0, [c0])])
    (h4 : ∀ v ∈ c4, LeV L L' (fun X q => (X, q)) v v) (h0 : ∀ v ∈ c0, LeV L L' (fun X q => (X, q)) v v) :
    ∀ X q c, Heap.get L' X q = some c → ∀ v ∈ c, LeV L L' (fun X q => (X, q)) v v := by
  subst hL'
  intro X q c hX v hv'
  simp only [get_cons, get_nil] at hX
  split at hX
  · rcases q with _ | q <;> simp at hX; subst hX; exact mem_rowIV hv' _ _ _
  · split at hX
    · rcases q with _ | q <;> simp at hX; subst hX; exact h4 v hv'
    · split at hX
      · rcases q with _ | q
        · simp at hX; subst hX
          obtain ⟨j, hj, rfl⟩ := List.mem_map.1 hv'
          refine .sl ?_ rfl
          have : j < n := by simpa using hj
          simp [get_cons]; omega
        · simp only [List.getElem?_cons_succ, List.getElem?_map] at hX
          obtain ⟨xs, _, rfl⟩ := Option.map_eq_some_iff.1 hX
          exact mem_rowV hv' _ _ _
      · split at hX
        · rcases q with _ | q <;> simp at hX; subst hX; exact h0 v hv'
        · cases hX
def r6P (A : List (List Nat)) (n i : Nat) : Heap :=
  if i = 0 then [(4, [[.sl 1 0 0 n 1 n, .nil]]), (1, hdo 1 1 n n :: A.map rowV), (0, [[.nil, .nil]])]
  else [(9, [rowIV ((List.range i).map fun (j : Nat) => (j : Int))]), (4, [[.sl 1 0 0 n 1 n, .sl 9 0 0 i 1 i]]), (1, hdo 1 1 n n :: A.map rowV), (0, [[.nil, .nil]])]
set_option maxRecDepth 8000 in
theorem r6_Part_walk (A : List (List Nat)) (n : Nat) (hA : Sq n A) (h0 : 0 < n) (hn : n < 2 ^ 40) (Q : Ex → T → Prop)
    (h1 : ∀ B π, partP A n n = some (B, π) → Sq n B → π.length = n → Q .ret ⟨[(2, .ptr 0 0 0 2), (3, fB true)], [(9, [rowIV π]), (4, [[.sl 1 0 0 n 1 n, .sl 9 0 0 n 1 n]]), (1, hdo 1 1 n n :: B.map rowV), (0, [[.sl 1 0 0 n 1 n, .sl 9 0 0 n 1 n]])]⟩)
    (h2 : ∀ s : T, partP A n n = none → s.sl = [(2, .ptr 0 0 0 2), (3, fB false)] → s.L.get 0 0 = some [.nil, .nil] → Q .ret s) :
    xC Tryz.prog (fun _ => False) 193 A_r6_Part Q ⟨argSl 0 [.d (rowsD A)], []⟩ := by
  obtain ⟨hl, hr⟩ := hA
  simp -implicitDefEqProofs only [evI, hv, effC, reduceCtorEq, ↓reduceIte, n1_, n2_, n3_, n4_, n5_, i1_, i2_, i3_, i4_, i5_, i6_, i7_, A_r6_Part]
  refine callG_ac (AC_frame (r6_copied_fresh A n ⟨hl, hr⟩ hn) rfl (.inl ⟨rfl, fun j hj => ?_⟩)) ?_
  · obtain rfl : j = 0 := by simpa using hj
    exact .d _
  rw [up_own]
  simp -implicitDefEqProofs only [evI, hv, effC, reduceCtorEq, ↓reduceIte, n1_, n2_, n3_, n4_, n5_, i1_, i2_, i3_, i4_, i5_, i6_, i7_, V.ren, hl]
  refine WA_forW (n := n) (fun c s => ∃ i, c + i = n ∧ s = ⟨[(2, .ptr 0 0 0 2), (4, .ptr 4 0 0 2), (5, fI n), (6, fI i)], r6P A n i⟩) (s0 := ⟨_, _⟩) (.refl _) ⟨0, rfl, rfl⟩ ?_
  rintro c s ⟨i, hc, rfl⟩
  by_cases hi0 : i = 0
  · subst hi0
    simp only [r6P, if_true]
    simp -implicitDefEqProofs only [evI, hv, effC, reduceCtorEq, ↓reduceIte, n1_, n2_, n3_, n4_, n5_, i1_, i2_, i3_, i4_, i5_, i6_, i7_, A_r6_Part_L0]
    refine condC_intro (fun h => ?_) (fun h => ?_)
    · simp -implicitDefEqProofs only [evI, hv, effC, reduceCtorEq, ↓reduceIte, n1_, n2_, n3_, n4_, n5_, i1_, i2_, i3_, i4_, i5_, i6_, i7_]
      rw [wrapI (by omega) (by omega)]
      refine ⟨c - 1, ⟨[(2, .ptr 0 0 0 2), (4, .ptr 4 0 0 2), (5, fI n), (6, fI (0 + 1 : Nat))], [(9, [rowIV [0]]), (4, [[.sl 1 0 0 n 1 n, .sl 9 0 0 1 1 1]]), (1, hdo 1 1 n n :: A.map rowV), (0, [[.nil, .nil]])]⟩, by omega, ?_, 1, by omega, rfl⟩
      refine LeT.drop (fun _ h => h) (fun p hp => ?_) (fun X r c hX => ⟨?_, r6_cells _ [0] n 1 A [.nil, .nil] [.sl 1 0 0 n 1 n, .sl 9 0 0 1 1 1] hl _ rfl (le_cell2 (.sl (by simp [get_cons]) rfl) (.sl (by simp [get_cons]) rfl)) (le_cell2 .nil .nil) X r c hX⟩)
      · simp only [List.mem_cons, List.not_mem_nil, or_false] at hp
        rcases hp with rfl | rfl | rfl | rfl
        all_goals first | exact .d (.d _) | exact .ptr (by simp [get_cons]) rfl
      · rw [get_cons] at hX
        rw [get_cons, get_cons]
        split at hX
        · rename_i e; subst e; exact hX
        · rename_i e1
          rw [if_neg e1, if_neg (fun e => by subst e; simp [get_cons, get_nil] at hX)]; exact hX
    · replace h := of_decide_eq_false h
      omega
  · simp only [r6P, if_neg hi0]
    simp -implicitDefEqProofs only [evI, hv, effC, reduceCtorEq, ↓reduceIte, n1_, n2_, n3_, n4_, n5_, i1_, i2_, i3_, i4_, i5_, i6_, i7_, A_r6_Part_L0]
    refine condC_intro (fun h => ?_) (fun h => ?_)
    · replace h := of_decide_eq_true h
      simp -implicitDefEqProofs only [evI, hv, effC, reduceCtorEq, ↓reduceIte, n1_, n2_, n3_, n4_, n5_, i1_, i2_, i3_, i4_, i5_, i6_, i7_]
      have hlr : (List.range i).length = i := by simp
      (repeat (with_reducible refine And.intro (by omega) ?_))
      rw [wrapI (by omega) (by omega)]
      refine ⟨c - 1, ⟨[(2, .ptr 0 0 0 2), (4, .ptr 4 0 0 2), (5, fI n), (6, fI (i + 1 : Nat))], [(9, [rowIV ((List.range (i + 1)).map fun (j : Nat) => (j : Int))]), (4, [[.sl 1 0 0 n 1 n, .sl 9 0 0 (i + 1) 1 (i + 1)]]), (1, hdo 1 1 n n :: A.map rowV), (0, [[.nil, .nil]])]⟩, by omega, ?_, i + 1, by omega, by rw [if_neg (by omega)]⟩
      have er : rowIV ((List.range (i + 1)).map fun (j : Nat) => (j : Int)) = rowIV ((List.range i).map fun (j : Nat) => (j : Int)) ++ [fI i] := by
        simp [List.range_succ]
      rw [er]
      refine LeT.drop (fun _ h => h) (fun p hp => ?_) (fun X r c hX => ⟨?_, ?_⟩)
      · simp only [List.mem_cons, List.not_mem_nil, or_false] at hp
        rcases hp with rfl | rfl | rfl | rfl
        all_goals first | exact .d (.d _) | exact .ptr (by simp [get_cons]) rfl
      · rw [get_cons]
        rw [if_neg (fun e => by subst e; simp [get_cons, get_nil] at hX)]; exact hX
      · rw [← er] at hX ⊢
        exact r6_cells _ _ n (i + 1) A [.nil, .nil] [.sl 1 0 0 n 1 n, .sl 9 0 0 (i + 1) 1 (i + 1)] hl _ rfl (le_cell2 (.sl (by simp [get_cons]) rfl) (.sl (by simp [get_cons]) rfl)) (le_cell2 .nil .nil) X r c hX
    · replace h := of_decide_eq_false h
      obtain rfl : n = i := by omega
      simp -implicitDefEqProofs only [evI, hv, effC, reduceCtorEq, ↓reduceIte, n1_, n2_, n3_, n4_, n5_, i1_, i2_, i3_, i4_, i5_, i6_, i7_]
      refine r6part_L1 _ (fun _ h => h) n A ⟨hl, hr⟩ hn _ (fun B π v w hp hB hπ => ?_) (fun s hs e1 e2 => ?_)
      · simp -implicitDefEqProofs only [evI, hv, effC, reduceCtorEq, ↓reduceIte, n1_, n2_, n3_, n4_, n5_, i1_, i2_, i3_, i4_, i5_, i6_, i7_, r6H]
        exact h1 B π hp hB hπ
      · simp -implicitDefEqProofs only [evI, hv, effC, reduceCtorEq, ↓reduceIte, n1_, n2_, n3_, n4_, n5_, i1_, i2_, i3_, i4_, i5_, i6_, i7_]
        exact h2 s hs e1 e2
abbrev r6V (n : Nat) : V := .agg [.sl 1 0 0 n 1 n, .sl 9 0 0 n 1 n]
theorem r6_Part_none (A : List (List Nat)) (n : Nat) (hA : Sq n A) (h0 : 0 < n) (hn : n < 2 ^ 40) (h : partP A n n = none) :
    Con Tryz.prog 85 [.d (rowsD A)] (.tup [.agg [.d (rowsD []), .d (rowI [])], fB false]) := by
  refine AC_introA A_r6_Part_comp rfl mixed (fun _ => False) (by simp [get_nil]) (r6_Part_walk A n hA h0 hn _ (fun B' π' h' hB hπ => ?_) (fun s h' e1 e2 => ?_))
  · rw [h] at h'; cases h'
  · refine ⟨.tup [.agg [.nil, .nil], fB false], fun X r => (X, r), ⟨.agg [.nil, .nil], fB false, resV_cell (by decide) (by rw [e1]; rfl) e2 rfl (by simp) (by simp [ldv]), resV_tmpI (t := 3) (by decide) (by rw [e1]; rfl), rfl⟩, .fin (.tup rfl fun j hj => ?_)⟩
    rcases j with _ | _ | j
    · refine .agg rfl fun j hj => ?_
      rcases j with _ | _ | j
      · exact .d (.nil _)
      · exact .d (.nil _)
      · simp at hj; omega
    · exact .d (.d _)
    · simp at hj; omega
theorem r6_Part_data (A : List (List Nat)) (n : Nat) (hA : Sq n A) (h0 : 0 < n) (hn : n < 2 ^ 40) (B : List (List Nat)) (π : List Int) (h : partP A n n = some (B, π)) :
    Con Tryz.prog 85 [.d (rowsD A)] (.tup [.agg [.d (rowsD B), .d (rowI π)], fB true]) := by
  refine AC_introA A_r6_Part_comp rfl mixed (fun _ => False) (by simp [get_nil]) (r6_Part_walk A n hA h0 hn _ (fun B' π' h' hB hπ => ?_) (fun s h' e1 e2 => ?_))
  · obtain ⟨rfl, rfl⟩ : B = B' ∧ π = π' := by rw [h] at h'; simpa using h'
    refine ⟨.tup [r6V n, fB true], fun X r => (X, r), ⟨r6V n, fB true, resV_cell (by decide) rfl (cells := [.sl 1 0 0 n 1 n, .sl 9 0 0 n 1 n]) (by simp [get_cons]) rfl (by simp) (by simp [ldv]), resV_tmpI (t := 3) (by decide) rfl, rfl⟩, .fin (.tup rfl fun j hj => ?_)⟩
    rcases j with _ | _ | j
    · refine .agg rfl fun j hj => ?_
      rcases j with _ | _ | j
      · refine .d (snapF_rows (X := 1) (o := 1) (fun Y q h => by simp [get_nil] at h) (fun r hr Y q h => by simp [get_nil] at h) (by simp [get_cons]) (fun r hr' => ⟨?_, hB.2 r hr'⟩) hB.1 rfl)
        have := hB.1
        simp [get_cons, getE B r (by omega)]
      · exact .d (snap_rowI (fun Y q h => by simp [get_nil] at h) (by simp [get_cons]) hπ rfl)
      · simp at hj; omega
    · exact .d (.d _)
    · simp at hj; omega
  · rw [h] at h'; cases h'
end Go.Ab

namespace Go.Ab
set_option linter.unusedSimpArgs false
set_option linter.unusedVariables false
open Nat renaming reduceEqDiff → n1_, reduceAdd → n2_, reduceMul → n3_, reduceLT → n4_, reduceLeDiff → n5_
open Int renaming reduceToNat → i1_, reduceAdd → i2_, reduceSub → i3_, reduceMul → i4_, reduceNeg → i5_, reduceLT → i6_, reduceLE → i7_
open Go Go.Proofs
def A_r9_newton_L1 : CA := (.seq (.seq (.reg [i_M 0 30 13, i_M 1 31 10, i_X 2 32 (.h (.len (.t 31))), i_X 3 33 (.h (.ibin .lss (.t 30) (.t 32)))] [8, 10, 11, 12, 13, 33]) (.cond (.t 33) .skip (.exit 2))) (.seq (.block 3 (.seq (.reg [i_X 0 14 (.h (.mov (.k (.d (.flt 0)))))] [8, 10, 11, 12, 13, 14]) (.seq (.seq (.reg [i_M 0 36 12, i_M 1 37 13, i_X 2 38 (.h (.ibin .eql (.t 36) (.t 37)))] [8, 10, 11, 12, 13, 14, 38]) (.cond (.t 38) (.reg [i_X 0 14 (.h (.mov (.k (.d (.flt 4607182418800017408)))))] [8, 10, 11, 12, 13, 14]) .skip)) (.seq (.reg [i_M 0 39 11, i_M 1 40 10, i_M 2 41 12, i_X 3 42 (.h (.idx (.t 40) (.t 41) 1)), i_L 4 43 42 1, i_M 5 44 13, i_X 6 45 (.h (.idx (.t 43) (.t 44) 1)), i_L 7 46 45 1, i_X 8 47 (.h (.fbin .mul (.t 39) (.t 46))), i_M 9 15 47] [8, 10, 11, 12, 13, 14, 15]) (.reg [i_M 0 48 10, i_M 1 49 12, i_X 2 50 (.h (.idx (.t 48) (.t 49) 1)), i_L 3 51 50 1, i_M 4 52 13, i_M 5 53 14, i_M 6 54 15, i_X 7 55 (.h (.fbin .sub (.t 53) (.t 54))), i_X 8 56 (.h (.idx (.t 51) (.t 52) 1)), i_S 9 56 55 1] [8, 10, 11, 12, 13]))))) (.reg [i_M 0 34 13, i_X 1 35 (.h (.ibin .add (.t 34) (.k (.d (.int .i64 1))))), i_M 2 13 35] [8, 10, 11, 12, 13])))
def A_r9_newton_L0 : CA := (.seq (.seq (.reg [i_M 0 24 12, i_M 1 25 10, i_X 2 26 (.h (.len (.t 25))), i_X 3 27 (.h (.ibin .lss (.t 24) (.t 26)))] [8, 10, 11, 12, 27]) (.cond (.t 27) .skip (.exit 0))) (.seq (.block 1 (.seq (.reg [i_X 0 13 (.h (.mov (.k (.d (.int .i64 0)))))] [8, 10, 11, 12, 13]) (.block 2 (.loop A_r9_newton_L1)))) (.reg [i_M 0 28 12, i_X 1 29 (.h (.ibin .add (.t 28) (.k (.d (.int .i64 1))))), i_M 2 12 29] [8, 10, 11, 12])))
def A_r9_newton : CA := (.seq (.reg [i_X 0 4 (.box (.t 0) 3 28), i_X 1 8 (.alloc [.nil, .nil] 91), i_X 2 9 (.h (.mov (.k (.d (.bool false)))))] [1, 2, 3, 4, 8]) (.seq (.reg [i_A 0 16 4 3, i_M 1 17 1, i_X 2 18 (.h (.idx (.t 17) (.k (.d (.int .i64 0))) 1)), i_L 3 19 18 1, i_X 4 20 (.callA (.k (.d (.fn 84 [] []))) [(.t 16), (.t 19)]), i_M 5 10 20] [2, 3, 8, 10]) (.seq (.reg [i_M 0 21 3, i_M 1 22 2, i_X 2 23 (.h (.fbin .mul (.t 21) (.t 22))), i_M 3 11 23] [8, 10, 11]) (.seq (.seq (.reg [i_X 0 12 (.h (.mov (.k (.d (.int .i64 0)))))] [8, 10, 11, 12]) (.block 0 (.loop A_r9_newton_L0))) (.seq (.reg [i_M 0 57 10, i_X 1 58 (.callA (.k (.d (.fn 85 [] []))) [(.t 57)]), i_X 2 59 (.h (.ext (.t 58) 0)), i_X 3 60 (.h (.ext (.t 58) 1)), i_S 4 8 59 2, i_M 5 9 60] [8, 9]) .ret)))))
theorem A_r9_newton_comp : compF Tryz.prog 52 = some ⟨61, [(8, (some (2, true))), (9, none)], A_r9_newton.strip⟩ := by kernel_rfl
theorem nw_up2 (A : List (List Nat)) (n i j v r c : Nat) (hA : Sq n A) (hi : i < n) (hj : j < n) : ((up2 A i j v).getD r []).getD c 0 = if r = i ∧ c = j then v else (A.getD r []).getD c 0 := by
  have h1 := hA.1
  have h2 := hA.2 i hi
  simp only [up2, List.getD_eq_getElem?_getD, List.getElem?_set]
  rw [List.getD_eq_getElem?_getD] at h2
  by_cases e : i = r
  · subst e
    simp only [h1, hi, ↓reduceIte, Option.getD_some, true_and]
    rw [List.getElem?_set]
    by_cases e2 : j = c
    · subst e2
      simp [h2, hj]
    · rw [if_neg e2, if_neg (fun h => e2 h.symm)]
  · rw [if_neg e, if_neg (fun h => e h.1.symm)]
/-- So many rows are made. -/
def Nw (t : Tp) (z : List (List Nat)) (l : List Nat) (h i k : Nat) (Z : List (List Nat)) : Prop :=
  Sq t.n Z ∧ ∀ r c, r < t.n → c < t.n → (Z.getD r []).getD c 0 = if r < i ∨ (r = i ∧ c < k) then matE t z l h r c else ((jacT t (z.getD 0 [])).getD r []).getD c 0
theorem jacT_sq (t : Tp) (x : List Nat) (ht : Tok t) : Sq t.n (jacT t x) := ⟨by simp [jacT], fun i hi => jacT_row t x ht i hi⟩
theorem Nw_zero (t : Tp) (z : List (List Nat)) (l : List Nat) (h : Nat) (ht : Tok t) : Nw t z l h 0 0 (jacT t (z.getD 0 [])) := ⟨jacT_sq t _ ht, fun r c _ _ => by rw [if_neg (by omega)]⟩
theorem Nw_row {t : Tp} {z : List (List Nat)} {l : List Nat} {h i : Nat} {Z : List (List Nat)} (hN : Nw t z l h i t.n Z) : Nw t z l h (i + 1) 0 Z := by
  refine ⟨hN.1, fun r c hr hc => ?_⟩
  rw [hN.2 r c hr hc]
  by_cases e : r < i ∨ (r = i ∧ c < t.n)
  · rw [if_pos e, if_pos (by omega)]
  · rw [if_neg e, if_neg (by omega)]
theorem Nw_up {t : Tp} {z : List (List Nat)} {l : List Nat} {h i k : Nat} {Z : List (List Nat)} (hN : Nw t z l h i k Z) (hi : i < t.n) (hk : k < t.n) : Nw t z l h i (k + 1) (up2 Z i k (matE t z l h i k)) := by
  refine ⟨up2_sq _ _ _ _ _ hN.1, fun r c hr hc => ?_⟩
  rw [nw_up2 _ _ _ _ _ _ _ hN.1 hi hk]
  by_cases e : r = i ∧ c = k
  · rw [if_pos e, if_pos (by omega), e.1, e.2]
  · rw [if_neg e, hN.2 r c hr hc]
    by_cases e2 : r < i ∨ (r = i ∧ c < k)
    · rw [if_pos e2, if_pos (by omega)]
    · rw [if_neg e2, if_neg (by omega)]
theorem Nw_all {t : Tp} {z : List (List Nat)} {l : List Nat} {h : Nat} {Z : List (List Nat)} (hN : Nw t z l h t.n 0 Z) : Z = matT t z l h := by
  have hM := matT_sq t z l h
  refine List.ext_getElem (hN.1.1.trans hM.1.symm) fun r h1 h2 => ?_
  have hr : r < t.n := by have := hN.1.1; omega
  have e1 := hN.1.2 r hr
  have e2 := hM.2 r hr
  have g1 : Z.getD r [] = Z[r] := by simp [List.getD_eq_getElem?_getD, h1]
  have g2 : (matT t z l h).getD r [] = (matT t z l h)[r] := by simp [List.getD_eq_getElem?_getD, h2]
  rw [g1] at e1
  rw [g2] at e2
  refine List.ext_getElem (e1.trans e2.symm) fun c h3 h4 => ?_
  have hc : c < t.n := by omega
  have k1 := hN.2 r c hr hc
  rw [if_pos (by omega), g1] at k1
  have k2 : ((matT t z l h).getD r []).getD c 0 = matE t z l h r c := by rw [matT_row _ _ _ _ _ hr, tabR_getD _ _ _ hc]
  rw [g2] at k2
  rw [← k2] at k1
  simpa [List.getD_eq_getElem?_getD, h3, h4] using k1
set_option maxRecDepth 8000 in
theorem r9_newton_gen (t : Tp) (z : List (List Nat)) (l : List Nat) (h : Nat) (ht : Tok t) (hn0 : 0 < t.n) (hz : 2 ≤ z.length) (hz0 : (z.getD 0 []).length = t.n) (A C : D) (b : Bool) (hr : Con Tryz.prog 85 [.d (rowsD (matT t z l h))] (.tup [.agg [.d A, .d C], fB b])) : Con Tryz.prog 52 [tapeV t, .d (rowsD z), fl (l.getD 0 0), fl h] (.tup [.agg [.d A, .d C], fB b]) := by
  have hn := ht.n
  refine Con_introA A_r9_newton_comp rfl mixed ?_
  simp -implicitDefEqProofs only [evI, hv, effC, reduceCtorEq, ↓reduceIte, n1_, n2_, n3_, n4_, n5_, i1_, i2_, i3_, i4_, i5_, i6_, i7_, A_r9_newton]
  (repeat (with_reducible refine And.intro (by omega) ?_))
  refine callG_rows 100 [tapeV t, .d (rowD (z.getD 0 []))] (by simp [Heap.next]) (r4_Jac_ac t (z.getD 0 []) ht hz0) ⟨.aggs ⟨.bare _, .bare _, .bare _, trivial⟩, .bare _, trivial⟩ ?_
  simp -implicitDefEqProofs only [evI, hv, effC, reduceCtorEq, ↓reduceIte, n1_, n2_, n3_, n4_, n5_, i1_, i2_, i3_, i4_, i5_, i6_, i7_]
  generalize hw : fop .mul h (l.getD 0 0) = w
  refine WA_forW (n := t.n) (fun c s => ∃ i Z, c + i = t.n ∧ Nw t z l h i 0 Z ∧ ((i < t.n ∧ s = ⟨[(8, .ptr 1 0 0 2), (10, .sl 120 0 0 t.n 1 t.n), (11, fl w), (12, fI i)], [(121, Z.map rowV), (120, [hdo 121 0 t.n t.n]), (1, [[.nil, .nil]]), (0, [jtT t])]⟩) ∨
    (i = t.n ∧ s = ⟨[(8, .ptr 1 0 0 2), (10, .d (rowsD Z)), (11, fl w), (12, fI i)], [(1, [[.nil, .nil]])]⟩))) (Le.refl _) ⟨0, _, by omega, Nw_zero t z l h ht, .inl ⟨hn0, rfl⟩⟩ ?_
  rintro c s ⟨i, Z, hc, hZ, ⟨hi, rfl⟩ | ⟨rfl, rfl⟩⟩
  · have hid : decide (i < t.n) = true := by simpa using hi
    simp -implicitDefEqProofs only [evI, hv, effC, reduceCtorEq, ↓reduceIte, n1_, n2_, n3_, n4_, n5_, i1_, i2_, i3_, i4_, i5_, i6_, i7_, A_r9_newton_L0, hid]
    refine WA_for (n := t.n) (fun c s => ∃ k Z, c + k = t.n ∧ Nw t z l h i k Z ∧ s = ⟨[(8, .ptr 1 0 0 2), (10, .sl 120 0 0 t.n 1 t.n), (11, fl w), (12, fI i), (13, fI k)], [(121, Z.map rowV), (120, [hdo 121 0 t.n t.n]), (1, [[.nil, .nil]]), (0, [jtT t])]⟩) ⟨0, Z, by omega, hZ, rfl⟩ ?_
    rintro c' s ⟨k, Z', hc', hZ', rfl⟩
    have hzl' := hZ'.1.1
    have hzj := hZ'.1.2 i hi
    simp -implicitDefEqProofs only [evI, hv, effC, reduceCtorEq, ↓reduceIte, n1_, n2_, n3_, n4_, n5_, i1_, i2_, i3_, i4_, i5_, i6_, i7_, A_r9_newton_L1, hdo_getD 121 0 t.n t.n i hi]
    have up : ∀ v, v = matE t z l h i k → k < t.n → Nw t z l h i (k + 1) (up2 Z' i k v) := fun v e hk => by rw [e]; exact Nw_up hZ' hi hk
    have hme : matE t z l h i k = fop .sub (if i = k then oneW else 0) (fop .mul w (((jacT t (z.getD 0 [])).getD i []).getD k 0)) := by rw [← hw]; rfl
    refine condC_intro (fun hk => ?_) (fun hk => ?_)
    · replace hk := of_decide_eq_true hk
      have hjk := hZ'.2 i k hi hk
      rw [if_neg (by omega)] at hjk
      have gk := getD_map_fl (Z'.getD i []) k (by omega)
      by_cases e : i = k
      · subst e
        rw [if_pos rfl] at hme
        simp -implicitDefEqProofs only [evI, hv, effC, reduceCtorEq, ↓reduceIte, n1_, n2_, n3_, n4_, n5_, i1_, i2_, i3_, i4_, i5_, i6_, i7_, hdo_getD 121 0 t.n t.n i hi, getE Z' i (by omega), gk, setE, beq_self_eq_true]
        (repeat (with_reducible refine And.intro (by omega) ?_))
        rw [hjk, wrapI (by omega) (by omega)]
        exact ⟨c' - 1, by omega, i + 1, _, by omega, up _ hme.symm hk, rfl⟩
      · have e' : ((i : Int) == (k : Int)) = false := by simp; omega
        rw [if_neg e] at hme
        simp -implicitDefEqProofs only [evI, hv, effC, reduceCtorEq, ↓reduceIte, n1_, n2_, n3_, n4_, n5_, i1_, i2_, i3_, i4_, i5_, i6_, i7_, hdo_getD 121 0 t.n t.n i hi, getE Z' i (by omega), gk, setE, e']
        (repeat (with_reducible refine And.intro (by omega) ?_))
        rw [hjk, wrapI (by omega) (by omega)]
        exact ⟨c' - 1, by omega, k + 1, _, by omega, up _ hme.symm hk, rfl⟩
    · replace hk := of_decide_eq_false hk
      have e : k = t.n := by omega
      subst e
      have hZ3 := Nw_row hZ'
      simp -implicitDefEqProofs only [evI, hv, effC, reduceCtorEq, ↓reduceIte, n1_, n2_, n3_, n4_, n5_, i1_, i2_, i3_, i4_, i5_, i6_, i7_]
      rw [wrapI (by omega) (by omega)]
      by_cases hl : i + 1 = t.n
      · refine ⟨c - 1, _, by omega, ?_, i + 1, Z', by omega, hZ3, .inr ⟨hl, rfl⟩⟩
        have hz : ∀ L L' : Heap, L.get 120 0 = some (hdo 121 0 t.n t.n) → L.fam 121 = some (Z'.map rowV) → L'.fam 120 = none → L'.fam 121 = none → Fz L L' (.sl 120 0 0 t.n 1 t.n) (.d (.bor Z'.length (rowsG Z'))) := fun L L' a b c d =>
          Fz_rows (X := 121) (o := 0) (len := t.n) a (fun r hr => ⟨by
            unfold Heap.get
            rw [b, Nat.add_zero]
            have : r < Z'.length := by omega
            simp [List.getD_eq_getElem?_getD, this], hZ'.1.2 r hr⟩) hzl' rfl c d
        exact LeT.weak (fun _ h => h) (by simp (maxDischargeDepth := 6) [Fz_rowD, Fz_rowI, Fz_rowsD, FzS_cons, FzS_nil, FzH_cons, FzH_nil, FzF_cons, FzF_nil, FzF_rows, FzA_cons, FzA_nil, FzA_app, FzA_rowV, FzA_dcells, FzA_outC, FzA_data, Fz_d, Fz_nil, Fz_any, Fz_ptr, Fz_sl, Fz_agg, get_cons, get_nil, fam_cons, fam_nil, hz]) (by simp (maxDischargeDepth := 6) [Fz_rowD, Fz_rowI, Fz_rowsD, FzS_cons, FzS_nil, FzH_cons, FzH_nil, FzF_cons, FzF_nil, FzF_rows, FzA_cons, FzA_nil, FzA_app, FzA_rowV, FzA_dcells, FzA_outC, FzA_data, Fz_d, Fz_nil, Fz_any, Fz_ptr, Fz_sl, Fz_agg, get_cons, get_nil, fam_cons, fam_nil])
      · exact ⟨c - 1, _, by omega, Le.refl _, i + 1, Z', by omega, hZ3, .inl ⟨by omega, rfl⟩⟩
  · have hid : decide (t.n < Z.length) = false := by rw [hZ.1.1]; simp
    rw [← Nw_all hZ] at hr
    simp -implicitDefEqProofs only [evI, hv, effC, reduceCtorEq, ↓reduceIte, n1_, n2_, n3_, n4_, n5_, i1_, i2_, i3_, i4_, i5_, i6_, i7_, A_r9_newton_L0, hid]
    first | refine callG_con (hr) rfl ?_ | refine callCG_con (hr) rfl ?_ | refine callSG_con (hr) rfl ?_
    simp -implicitDefEqProofs only [evI, hv, effC, reduceCtorEq, ↓reduceIte, n1_, n2_, n3_, n4_, n5_, i1_, i2_, i3_, i4_, i5_, i6_, i7_]
    exact endsT_only (fun _ => false) (fun _ h => h) ⟨.agg [.d A, .d C], fB b, resV_cell (by decide) rfl rfl rfl (by simp) rfl, resV_tmpI (t := 9) (by decide) rfl, rfl⟩ rfl (by simp [KpS_cons, KpS_nil, KpH_cons, KpH_nil, KpF_cons, KpF_nil, KpF_rows, KpA_cons, KpA_nil, KpA_app, KpA_rowV, KpA_rowIV, KpA_dcells, KpA_outC, Kp_any, Kp_nilv, Kp_d, Kp_ptr, Kp_sl, Kp_agg, Kp_tup, Kp_fn, get_cons, get_nil]) (by simp [KpS_cons, KpS_nil, KpH_cons, KpH_nil, KpF_cons, KpF_nil, KpF_rows, KpA_cons, KpA_nil, KpA_app, KpA_rowV, KpA_rowIV, KpA_dcells, KpA_outC, Kp_any, Kp_nilv, Kp_d, Kp_ptr, Kp_sl, Kp_agg, Kp_tup, Kp_fn, get_cons, get_nil])
theorem r9_newton_some (t : Tp) (z : List (List Nat)) (l : List Nat) (h : Nat) (ht : Tok t) (hn0 : 0 < t.n) (hz : 2 ≤ z.length) (hz0 : (z.getD 0 []).length = t.n) (B : List (List Nat)) (π : List Int) (hp : partP (matT t z l h) t.n t.n = some (B, π)) :
    Con Tryz.prog 52 [tapeV t, .d (rowsD z), fl (l.getD 0 0), fl h] (.tup [.agg [.d (rowsD B), .d (rowI π)], fB true]) :=
  r9_newton_gen t z l h ht hn0 hz hz0 _ _ _ (r6_Part_data _ t.n (matT_sq t z l h) hn0 (by have := ht.n; omega) B π hp)
theorem r9_newton_none (t : Tp) (z : List (List Nat)) (l : List Nat) (h : Nat) (ht : Tok t) (hn0 : 0 < t.n) (hz : 2 ≤ z.length) (hz0 : (z.getD 0 []).length = t.n) (hp : partP (matT t z l h) t.n t.n = none) :
    Con Tryz.prog 52 [tapeV t, .d (rowsD z), fl (l.getD 0 0), fl h] (.tup [.agg [.d (rowsD []), .d (rowI [])], fB false]) :=
  r9_newton_gen t z l h ht hn0 hz hz0 _ _ _ (r6_Part_none _ t.n (matT_sq t z l h) hn0 (by have := ht.n; omega) hp)
end Go.Ab

namespace Go.Ab
set_option linter.unusedSimpArgs false
set_option linter.unusedVariables false
open Nat renaming reduceEqDiff → n1_, reduceAdd → n2_, reduceMul → n3_, reduceLT → n4_, reduceLeDiff → n5_
open Int renaming reduceToNat → i1_, reduceAdd → i2_, reduceSub → i3_, reduceMul → i4_, reduceNeg → i5_, reduceLT → i6_, reduceLE → i7_
open Go Go.Proofs
def A_r9_Solve_L1 : CA := (.seq (.seq (.reg [i_M 0 73 22, i_M 1 74 14, i_X 2 75 (.h (.len (.t 74))), i_X 3 76 (.h (.ibin .lss (.t 73) (.t 75)))] [1, 2, 4, 5, 6, 12, 13, 14, 15, 18, 20, 22, 76]) (.cond (.t 76) .skip (.exit 2))) (.seq (.block 3 (.seq (.reg [i_M 0 79 14, i_M 1 80 22, i_X 2 81 (.h (.idx (.t 79) (.t 80) 1)), i_L 3 82 81 1, i_X 4 83 (.callA (.k (.d (.fn 57 [] []))) [(.t 82)]), i_X 5 84 (.h (.un .not (.t 83)))] [1, 2, 4, 5, 6, 12, 13, 14, 15, 18, 20, 22, 84]) (.cond (.t 84) (.seq (.reg [i_M 0 85 18, i_X 1 86 (.h (.build [.nil, (.d (.int .i64 0)), (.d (.int .i64 0))] [(1, (1, (.t 85))), (2, (1, (.k (.d (.int .i64 2)))))])), i_S 2 12 86 3] [12]) .ret) .skip))) (.reg [i_M 0 77 22, i_X 1 78 (.h (.ibin .add (.t 77) (.k (.d (.int .i64 1))))), i_M 2 22 78] [1, 2, 4, 5, 6, 12, 13, 14, 15, 18, 20, 22])))
def A_r9_Solve_L0 : CA := (.seq (.block 1 (.seq (.reg [i_A 0 46 6 3, i_M 1 47 1, i_M 2 48 2, i_X 3 49 (.h (.idx (.t 48) (.k (.d (.int .i64 0))) 1)), i_L 4 50 49 1, i_M 5 51 13, i_M 6 52 14, i_X 7 53 (.callA (.k (.d (.fn 53 [] []))) [(.t 46), (.t 47), (.t 50), (.t 51), (.t 52)]), i_M 8 19 53] [1, 2, 4, 5, 6, 12, 13, 14, 15, 18, 19]) (.seq (.reg [i_X 0 20 (.h (.mov (.k (.d (.flt 0)))))] [1, 2, 4, 5, 6, 12, 13, 14, 15, 18, 19]) (.seq (.seq (.reg [i_M 0 54 4, i_X 1 55 (.h (.ibin .eql (.t 54) (.k (.d (.int .i64 1)))))] [1, 2, 4, 5, 6, 12, 13, 14, 15, 18, 19, 55]) (.cond (.t 55) (.seq (.reg [i_A 0 56 15 2, i_M 1 57 19, i_M 2 58 14, i_X 3 59 (.callS 3 (.k (.d (.fn 55 [] []))) [(.t 57), (.t 58)]), i_X 4 60 (.callA (.k (.d (.fn 54 [] []))) [(.t 56), (.t 59)]), i_M 5 21 60] [1, 2, 4, 5, 6, 12, 13, 14, 15, 18, 21]) (.seq (.reg [i_M 0 61 14, i_M 1 62 21, i_X 2 63 (.callA (.k (.d (.fn 56 [] []))) [(.t 61), (.t 62)]), i_M 3 14 63] [1, 2, 4, 5, 6, 12, 13, 14, 15, 18, 21]) (.reg [i_M 0 64 21, i_M 1 65 5, i_X 2 66 (.callA (.k (.d (.fn 45 [] []))) [(.t 64), (.t 65)]), i_M 3 20 66] [1, 2, 4, 5, 6, 12, 13, 14, 15, 18, 20]))) (.seq (.reg [i_M 0 67 19, i_M 1 68 14, i_X 2 69 (.callA (.k (.d (.fn 55 [] []))) [(.t 67), (.t 68)]), i_M 3 70 5, i_X 4 71 (.callA (.k (.d (.fn 45 [] []))) [(.t 69), (.t 70)]), i_M 5 20 71] [1, 2, 4, 5, 6, 12, 13, 15, 18, 19, 20]) (.reg [i_M 0 72 19, i_M 1 14 72] [1, 2, 4, 5, 6, 12, 13, 14, 15, 18, 20])))) (.seq (.seq (.reg [i_X 0 22 (.h (.mov (.k (.d (.int .i64 0)))))] [1, 2, 4, 5, 6, 12, 13, 14, 15, 18, 20, 22]) (.block 2 (.loop A_r9_Solve_L1))) (.seq (.seq (.reg [i_M 0 87 20, i_X 1 88 (.h (.fcmp .le (.t 87) (.k (.d (.flt 4562146422526312448)))))] [1, 2, 4, 5, 6, 12, 13, 14, 15, 18, 88]) (.cond (.t 88) (.seq (.reg [i_M 0 89 14, i_M 1 90 18, i_X 2 91 (.h (.build [.nil, (.d (.int .i64 0)), (.d (.int .i64 0))] [(0, (1, (.t 89))), (1, (1, (.t 90)))])), i_S 3 12 91 3] [12]) .ret) .skip)) (.seq (.reg [i_M 0 92 18, i_X 1 93 (.h (.ibin .eql (.t 92) (.k (.d (.int .i64 4)))))] [1, 2, 4, 5, 6, 12, 13, 14, 15, 18, 93]) (.cond (.t 93) (.seq (.reg [i_M 0 94 18, i_X 1 95 (.h (.build [.nil, (.d (.int .i64 0)), (.d (.int .i64 0))] [(1, (1, (.t 94))), (2, (1, (.k (.d (.int .i64 6)))))])), i_S 2 12 95 3] [12]) .ret) .skip)))))))) (.reg [i_M 0 44 18, i_X 1 45 (.h (.ibin .add (.t 44) (.k (.d (.int .i64 1))))), i_M 2 18 45] [1, 2, 4, 5, 6, 12, 13, 14, 15, 18]))
def A_r9_Solve : CA := (.seq (.reg [i_X 0 6 (.box (.t 0) 3 28), i_X 1 12 (.alloc [.nil, (.d (.int .i64 0)), (.d (.int .i64 0))] 60)] [1, 2, 3, 4, 5, 6, 12]) (.seq (.reg [i_M 0 23 3, i_X 1 24 (.callA (.k (.d (.fn 51 [] []))) [(.t 23)]), i_M 2 13 24] [1, 2, 4, 5, 6, 12, 13]) (.seq (.reg [i_P 0 25 6 0, i_L 1 26 25 1, i_X 2 27 (.mksl [(.d (.flt 0))] 1 8 (.t 26) (.t 26) 31), i_M 3 14 27] [1, 2, 4, 5, 6, 12, 13, 14]) (.seq (.reg [i_X 0 15 (.alloc [.nil, .nil] 91)] [1, 2, 4, 5, 6, 12, 13, 14, 15]) (.seq (.seq (.reg [i_M 0 28 4, i_X 1 29 (.h (.ibin .eql (.t 28) (.k (.d (.int .i64 1)))))] [1, 2, 4, 5, 6, 12, 13, 14, 15, 29]) (.cond (.t 29) (.seq (.reg [i_A 0 31 6 3, i_M 1 32 1, i_M 2 33 2, i_X 3 34 (.h (.idx (.t 33) (.k (.d (.int .i64 0))) 1)), i_L 4 35 34 1, i_M 5 36 13, i_X 6 37 (.callS 0 (.k (.d (.fn 52 [] []))) [(.t 31), (.t 32), (.t 35), (.t 36)]), i_M 7 30 37, i_X 8 38 (.h (.ext (.t 30) 0)), i_X 9 39 (.h (.ext (.t 30) 1)), i_X 10 16 (.alloc [.nil, .nil] 91), i_S 11 16 38 2, i_M 12 17 39] [1, 2, 4, 5, 6, 12, 13, 14, 15, 16, 17]) (.seq (.seq (.reg [i_M 0 40 17, i_X 1 41 (.h (.un .not (.t 40)))] [1, 2, 4, 5, 6, 12, 13, 14, 15, 16, 41]) (.cond (.t 41) (.seq (.reg [i_X 0 42 (.h (.build [.nil, (.d (.int .i64 0)), (.d (.int .i64 0))] [(2, (1, (.k (.d (.int .i64 4)))))])), i_S 1 12 42 3] [12]) .ret) .skip)) (.reg [i_A 0 43 16 2, i_S 1 15 43 2] [1, 2, 4, 5, 6, 12, 13, 14, 15]))) .skip)) (.seq (.reg [i_X 0 18 (.h (.mov (.k (.d (.int .i64 1)))))] [1, 2, 4, 5, 6, 12, 13, 14, 15, 18]) (.block 0 (.loop A_r9_Solve_L0))))))))
theorem A_r9_Solve_comp : compF Tryz.prog 26 = some ⟨96, [(12, (some (3, true)))], A_r9_Solve.strip⟩ := by kernel_rfl
abbrev s9 (z : List (List Nat)) (l w : List Nat) (m : Int) (h X n k : Nat) : Sl := [(1, .d (rowsD z)), (2, .d (rowD l)), (4, fI m), (5, .d (rowD w)), (6, .ptr 0 0 0 3), (12, .ptr 1 0 0 3), (13, fl h), (14, .sl X 0 0 n 1 n), (15, .ptr 5 0 0 2), (18, fI k)]
theorem r9_next (t : Tp) (z : List (List Nat)) (l : List Nat) (h : Nat) (w d g j : List Nat) (m : Int) (k : Nat) : Le (fun _ => False) (T.s 96 ⟨s9 z l w m h 100 t.n k,
    [(110, [rowV j]), (100, [rowV g]), (5, [[.nil, .nil]]), (4, [rowV d]), (1, [[.nil, fI 0, fI 0]]), (0, [[fI t.n, .d (opsD t.ops), .d (rowI t.out)]])]⟩) (T.s 96 ⟨s9 z l w m h 4 t.n k,
    [(5, [[.nil, .nil]]), (4, [rowV g]), (1, [[.nil, fI 0, fI 0]]), (0, [[fI t.n, .d (opsD t.ops), .d (rowI t.out)]])]⟩) := by
  refine Le.trans (LeT.only (L' := [(100, [rowV g]), (5, [[.nil, .nil]]), (1, [[.nil, fI 0, fI 0]]), (0, [[fI t.n, .d (opsD t.ops), .d (rowI t.out)]])]) (fun X => X != 4 && X != 110) (fun _ h => h) rfl (by simp [KpS_cons, KpS_nil, KpH_cons, KpH_nil, KpF_cons, KpF_nil, KpF_rows, KpA_cons, KpA_nil, KpA_app, KpA_rowV, KpA_rowIV, KpA_dcells, KpA_outC, Kp_any, Kp_nilv, Kp_d, Kp_ptr, Kp_sl, Kp_agg, Kp_tup, Kp_fn, get_cons, get_nil]) (by simp [KpS_cons, KpS_nil, KpH_cons, KpH_nil, KpF_cons, KpF_nil, KpF_rows, KpA_cons, KpA_nil, KpA_app, KpA_rowV, KpA_rowIV, KpA_dcells, KpA_outC, Kp_any, Kp_nilv, Kp_d, Kp_ptr, Kp_sl, Kp_agg, Kp_tup, Kp_fn, get_cons, get_nil])) ?_
  refine Le.trans (LeT.move 4 (by decide) (by simp [fam_cons, fam_nil]) (by simp [fam_cons, fam_nil]) (fun h => h)) ?_
  have e : renS (absF 100 4 0) (s9 z l w m h 100 t.n k) = s9 z l w m h 4 t.n k := by
    simp [s9, renS, V.ren, V.renL, absF]
  have e2 : Heap.renH (absF 100 4 0) [(5, [[.nil, .nil]]), (1, [[.nil, fI 0, fI 0]]), (0, [[fI t.n, .d (opsD t.ops), .d (rowI t.out)]])] = [(5, [[.nil, .nil]]), (1, [[.nil, fI 0, fI 0]]), (0, [[fI t.n, .d (opsD t.ops), .d (rowI t.out)]])] := by
    simp [Heap.renH, V.ren, absF]
  rw [e, e2, ren_rowV]
  exact LeT.perm (fun _ h => h) (fun X => .inr (by simp only [fam_cons, fam_nil]; grind)) (by simp [KpS_cons, KpS_nil, KpH_cons, KpH_nil, KpF_cons, KpF_nil, KpF_rows, KpA_cons, KpA_nil, KpA_app, KpA_rowV, KpA_rowIV, KpA_dcells, KpA_outC, Kp_any, Kp_nilv, Kp_d, Kp_ptr, Kp_sl, Kp_agg, Kp_tup, Kp_fn, get_cons, get_nil]) (by simp [KpS_cons, KpS_nil, KpH_cons, KpH_nil, KpF_cons, KpF_nil, KpF_rows, KpA_cons, KpA_nil, KpA_app, KpA_rowV, KpA_rowIV, KpA_dcells, KpA_outC, Kp_any, Kp_nilv, Kp_d, Kp_ptr, Kp_sl, Kp_agg, Kp_tup, Kp_fn, get_cons, get_nil])
set_option maxRecDepth 8000 in
theorem r9_sol_gen (L' : Heap) (r : V) (t : Tp) (z : List (List Nat)) (l : List Nat) (w : List Nat) (step m : Int) (hm : m ≠ 1) (h : Nat) (hh : fop .div (FloatKind.nearest .f64 step) 4742290407621132288 = h)
    (h1 : ∀ k g, g.length = t.n → solA t z l h w = (g, k, 0) → r = .agg [.sl 100 0 0 t.n 1 t.n, fI k, fI 0] ∧ L' = [(100, [rowV g])])
    (h2 : ∀ k e, solA t z l h w = ([], k, e) → e ≠ 0 → r = .agg [.nil, fI k, fI e] ∧ L' = []) (ok : Sok t z l w (List.replicate t.n 0)) :
    AC Tryz.prog 26 [tapeV t, .d (rowsD z), .d (rowD l), fI step, fI m, .d (rowD w)] [] L' r := by
  obtain ⟨ht, hz, hzl, hl, hw, hd⟩ := ok
  have hn := ht.n
  have hm1 : (m == 1) = false := by simpa using hm
  refine AC_introA A_r9_Solve_comp rfl mixed (fun _ => False) (by simp [get_nil]) ?_
  simp -implicitDefEqProofs only [evI, hv, effC, reduceCtorEq, ↓reduceIte, n1_, n2_, n3_, n4_, n5_, i1_, i2_, i3_, i4_, i5_, i6_, i7_, A_r9_Solve]
  first | refine callG_con (r8_H_con step) rfl ?_ | refine callCG_con (r8_H_con step) rfl ?_ | refine callSG_con (r8_H_con step) rfl ?_
  simp -implicitDefEqProofs only [evI, hv, effC, reduceCtorEq, ↓reduceIte, n1_, n2_, n3_, n4_, n5_, i1_, i2_, i3_, i4_, i5_, i6_, i7_, hm1]
  (repeat (with_reducible refine And.intro (by omega) ?_))
  rw [hh]
  refine WA_forW (n := 4) (fun c s => ∃ (k : Nat) (d : List Nat), c + k = 5 ∧ (1 ≤ k ∧ k ≤ 4) ∧ d.length = t.n ∧ seek (tryA t z l h w) c k d = solA t z l h w ∧ s = ⟨[(1, .d (rowsD z)), (2, .d (rowD l)), (4, fI m), (5, .d (rowD w)), (6, .ptr 0 0 0 3), (12, .ptr 1 0 0 3), (13, fl h), (14, .sl 4 0 0 t.n 1 t.n), (15, .ptr 5 0 0 2), (18, fI k)],
    [(5, [[.nil, .nil]]), (4, [rowV d]), (1, [[.nil, fI 0, fI 0]]), (0, [[fI t.n, .d (opsD t.ops), .d (rowI t.out)]])]⟩) (Le.refl _) ⟨1, _, by omega, by omega, hd, rfl, rfl⟩ ?_
  rintro c s ⟨k, d, hc, hk, hdl, he, rfl⟩
  obtain ⟨f, rfl⟩ : ∃ f, c = f + 1 := ⟨c - 1, by omega⟩
  rw [seekA_succ] at he
  simp -implicitDefEqProofs only [evI, hv, effC, reduceCtorEq, ↓reduceIte, n1_, n2_, n3_, n4_, n5_, i1_, i2_, i3_, i4_, i5_, i6_, i7_, A_r9_Solve_L0, hm1]
  (repeat (with_reducible refine And.intro (by omega) ?_))
  have okd : Sok t z l w d := ⟨ht, hz, hzl, hl, hw, hdl⟩
  have hgl : (gS t z l h d).length = t.n := tabR_len _ _
  refine callG_row 100 [tapeV t, .d (rowsD z), fl (l.getD 0 0), fl h, .d (rowD d)] (by simp [Heap.next]) (r9_left_ac t z l h w d okd) ⟨.aggs ⟨.bare _, .bare _, .bare _, trivial⟩, .bare _, .bare _, .bare _, snp_row rfl hdl rfl, trivial⟩ ?_
  simp -implicitDefEqProofs only [evI, hv, effC, reduceCtorEq, ↓reduceIte, n1_, n2_, n3_, n4_, n5_, i1_, i2_, i3_, i4_, i5_, i6_, i7_, hm1]
  refine callG_row 110 [.d (rowD (gS t z l h d)), .d (rowD d)] (by simp [Heap.next]) (r9_minus_ac _ _ t.n hgl hdl (by omega)) ⟨snp_row rfl hgl rfl, snp_row rfl hdl rfl, trivial⟩ ?_
  simp -implicitDefEqProofs only [evI, hv, effC, reduceCtorEq, ↓reduceIte, n1_, n2_, n3_, n4_, n5_, i1_, i2_, i3_, i4_, i5_, i6_, i7_]
  refine callG_snaps [.d (rowD (tabR (fun i => fop .sub ((gS t z l h d).getD i 0) (d.getD i 0)) t.n)), .d (rowD w)] (r9_Size_con _ w (by rw [tabR_len]; exact hw) (by rw [tabR_len]; omega)) ⟨snp_row rfl (tabR_len _ _) rfl, .bare _, trivial⟩ (.flt _) ?_
  simp -implicitDefEqProofs only [evI, hv, effC, reduceCtorEq, ↓reduceIte, n1_, n2_, n3_, n4_, n5_, i1_, i2_, i3_, i4_, i5_, i6_, i7_]
  rw [show szP (tabR (fun i => fop .sub ((gS t z l h d).getD i 0) (d.getD i 0)) t.n) w = goneA t z l h w d from rfl]
  refine WA_for (n := t.n) (fun c' s => ∃ i, c' + i = t.n ∧ (∀ j, j < i → finite ((gS t z l h d).getD j 0) = true) ∧ s = ⟨[(1, .d (rowsD z)), (2, .d (rowD l)), (4, fI m), (5, .d (rowD w)), (6, .ptr 0 0 0 3), (12, .ptr 1 0 0 3), (13, fl h), (14, .sl 100 0 0 t.n 1 t.n), (15, .ptr 5 0 0 2), (18, fI k), (20, fl (goneA t z l h w d)), (22, fI i)], [(110, [rowV (tabR (fun i => fop .sub ((gS t z l h d).getD i 0) (d.getD i 0)) t.n)]), (100, [rowV (gS t z l h d)]), (5, [[.nil, .nil]]), (4, [rowV d]), (1, [[.nil, fI 0, fI 0]]), (0, [[fI t.n, .d (opsD t.ops), .d (rowI t.out)]])]⟩) ⟨0, by omega, fun j hj => by omega, rfl⟩ ?_
  rintro c' s ⟨i, hc', hf, rfl⟩
  simp -implicitDefEqProofs only [evI, hv, effC, reduceCtorEq, ↓reduceIte, n1_, n2_, n3_, n4_, n5_, i1_, i2_, i3_, i4_, i5_, i6_, i7_, A_r9_Solve_L1]
  refine condC_intro (fun hi => ?_) (fun hi => ?_)
  · replace hi := of_decide_eq_true hi
    have ga : (rowV (gS t z l h d)).getD i .any = fl ((gS t z l h d).getD i 0) := getD_map_fl _ _ (by omega)
    simp -implicitDefEqProofs only [evI, hv, effC, reduceCtorEq, ↓reduceIte, n1_, n2_, n3_, n4_, n5_, i1_, i2_, i3_, i4_, i5_, i6_, i7_, ga]
    (repeat (with_reducible refine And.intro (by omega) ?_))
    first | refine callG_con (r1_Finite_con ((gS t z l h d).getD i 0)) rfl ?_ | refine callCG_con (r1_Finite_con ((gS t z l h d).getD i 0)) rfl ?_ | refine callSG_con (r1_Finite_con ((gS t z l h d).getD i 0)) rfl ?_
    simp -implicitDefEqProofs only [evI, hv, effC, reduceCtorEq, ↓reduceIte, n1_, n2_, n3_, n4_, n5_, i1_, i2_, i3_, i4_, i5_, i6_, i7_, finite_sub]
    cases hfi : finite ((gS t z l h d).getD i 0)
    · have hna := fin_not i (by omega) hfi
      rw [if_pos hna] at he
      simp -implicitDefEqProofs only [evI, hv, effC, reduceCtorEq, ↓reduceIte, n1_, n2_, n3_, n4_, n5_, i1_, i2_, i3_, i4_, i5_, i6_, i7_, Bool.not_false]
      obtain ⟨rfl, rfl⟩ := h2 k 2 he.symm (by decide)
      exact endsT_only (fun _ => false) (fun _ h => h) (resV_cellI (by decide) rfl rfl rfl (by simp) rfl) rfl (by simp [KpS_cons, KpS_nil, KpH_cons, KpH_nil, KpF_cons, KpF_nil, KpF_rows, KpA_cons, KpA_nil, KpA_app, KpA_rowV, KpA_rowIV, KpA_dcells, KpA_outC, Kp_any, Kp_nilv, Kp_d, Kp_ptr, Kp_sl, Kp_agg, Kp_tup, Kp_fn, get_cons, get_nil]) (by simp [KpS_cons, KpS_nil, KpH_cons, KpH_nil, KpF_cons, KpF_nil, KpF_rows, KpA_cons, KpA_nil, KpA_app, KpA_rowV, KpA_rowIV, KpA_dcells, KpA_outC, Kp_any, Kp_nilv, Kp_d, Kp_ptr, Kp_sl, Kp_agg, Kp_tup, Kp_fn, get_cons, get_nil])
    · simp -implicitDefEqProofs only [evI, hv, effC, reduceCtorEq, ↓reduceIte, n1_, n2_, n3_, n4_, n5_, i1_, i2_, i3_, i4_, i5_, i6_, i7_, Bool.not_true]
      rw [wrapI (by omega) (by omega)]
      exact ⟨c' - 1, by omega, i + 1, by omega, fun j hj => by rcases Nat.lt_succ_iff_lt_or_eq.1 hj with h1 | rfl; exact hf j h1; exact hfi, rfl⟩
  · replace hi := of_decide_eq_false hi
    have hfa := fin_of (d := gS t z l h d) fun j hj => hf j (by omega)
    rw [if_neg (by rw [hfa]; decide)] at he
    simp -implicitDefEqProofs only [evI, hv, effC, reduceCtorEq, ↓reduceIte, n1_, n2_, n3_, n4_, n5_, i1_, i2_, i3_, i4_, i5_, i6_, i7_]
    cases hle : fcmp .le (goneA t z l h w d) 4562146422526312448
    · rw [if_neg (by rw [hle]; decide)] at he
      simp -implicitDefEqProofs only [evI, hv, effC, reduceCtorEq, ↓reduceIte, n1_, n2_, n3_, n4_, n5_, i1_, i2_, i3_, i4_, i5_, i6_, i7_]
      by_cases h4 : 4 ≤ k
      · rw [if_pos h4] at he
        have hk4 : k = 4 := by omega
        subst hk4
        simp -implicitDefEqProofs only [evI, hv, effC, reduceCtorEq, ↓reduceIte, n1_, n2_, n3_, n4_, n5_, i1_, i2_, i3_, i4_, i5_, i6_, i7_]
        obtain ⟨rfl, rfl⟩ := h2 4 6 he.symm (by decide)
        exact endsT_only (fun _ => false) (fun _ h => h) (resV_cellI (by decide) rfl rfl rfl (by simp) rfl) rfl (by simp [KpS_cons, KpS_nil, KpH_cons, KpH_nil, KpF_cons, KpF_nil, KpF_rows, KpA_cons, KpA_nil, KpA_app, KpA_rowV, KpA_rowIV, KpA_dcells, KpA_outC, Kp_any, Kp_nilv, Kp_d, Kp_ptr, Kp_sl, Kp_agg, Kp_tup, Kp_fn, get_cons, get_nil]) (by simp [KpS_cons, KpS_nil, KpH_cons, KpH_nil, KpF_cons, KpF_nil, KpF_rows, KpA_cons, KpA_nil, KpA_app, KpA_rowV, KpA_rowIV, KpA_dcells, KpA_outC, Kp_any, Kp_nilv, Kp_d, Kp_ptr, Kp_sl, Kp_agg, Kp_tup, Kp_fn, get_cons, get_nil])
      · rw [if_neg h4] at he
        have h4' : ((k : Int) == 4) = false := by simp; omega
        simp -implicitDefEqProofs only [evI, hv, effC, reduceCtorEq, ↓reduceIte, n1_, n2_, n3_, n4_, n5_, i1_, i2_, i3_, i4_, i5_, i6_, i7_, h4']
        rw [wrapI (by omega) (by omega)]
        exact ⟨f, _, by omega, r9_next t z l h w d (gS t z l h d) _ m (k + 1), k + 1, _, by omega, by omega, hgl, he, rfl⟩
    · rw [if_pos hle] at he
      simp -implicitDefEqProofs only [evI, hv, effC, reduceCtorEq, ↓reduceIte, n1_, n2_, n3_, n4_, n5_, i1_, i2_, i3_, i4_, i5_, i6_, i7_]
      obtain ⟨rfl, rfl⟩ := h1 k _ hgl he.symm
      exact endsT_only (fun X => X == 100) (fun _ h => h) (resV_cellI (by decide) rfl rfl rfl (by simp) rfl) rfl (by simp [KpS_cons, KpS_nil, KpH_cons, KpH_nil, KpF_cons, KpF_nil, KpF_rows, KpA_cons, KpA_nil, KpA_app, KpA_rowV, KpA_rowIV, KpA_dcells, KpA_outC, Kp_any, Kp_nilv, Kp_d, Kp_ptr, Kp_sl, Kp_agg, Kp_tup, Kp_fn, get_cons, get_nil]) (by simp [KpS_cons, KpS_nil, KpH_cons, KpH_nil, KpF_cons, KpF_nil, KpF_rows, KpA_cons, KpA_nil, KpA_app, KpA_rowV, KpA_rowIV, KpA_dcells, KpA_outC, Kp_any, Kp_nilv, Kp_d, Kp_ptr, Kp_sl, Kp_agg, Kp_tup, Kp_fn, get_cons, get_nil])
end Go.Ab

namespace Go.Ab
set_option linter.unusedSimpArgs false
set_option linter.unusedVariables false
open Nat renaming reduceEqDiff → n1_, reduceAdd → n2_, reduceMul → n3_, reduceLT → n4_, reduceLeDiff → n5_
open Int renaming reduceToNat → i1_, reduceAdd → i2_, reduceSub → i3_, reduceMul → i4_, reduceNeg → i5_, reduceLT → i6_, reduceLE → i7_
open Go Go.Proofs
def A_r6_Solve_L0 : CA := (.seq (.seq (.reg [i_M 0 18 7, i_M 1 19 5, i_X 2 20 (.h (.ibin .lss (.t 18) (.t 19)))] [1, 2, 5, 6, 7, 20]) (.cond (.t 20) .skip (.exit 0))) (.seq (.block 1 (.reg [i_M 0 23 6, i_M 1 24 7, i_M 2 25 1, i_P 3 26 2 1, i_L 4 27 26 1, i_M 5 28 7, i_X 6 29 (.h (.idx (.t 27) (.t 28) 1)), i_L 7 30 29 1, i_X 8 31 (.h (.idx (.t 25) (.t 30) 1)), i_L 9 32 31 1, i_X 10 33 (.h (.idx (.t 23) (.t 24) 1)), i_S 11 33 32 1] [1, 2, 5, 6, 7])) (.reg [i_M 0 21 7, i_X 1 22 (.h (.ibin .add (.t 21) (.k (.d (.int .i64 1))))), i_M 2 7 22] [1, 2, 5, 6, 7])))
def A_r6_Solve_L2 : CA := (.seq (.seq (.reg [i_M 0 39 9, i_M 1 40 8, i_X 2 41 (.h (.ibin .lss (.t 39) (.t 40)))] [2, 5, 6, 8, 9, 41]) (.cond (.t 41) .skip (.exit 4))) (.seq (.block 5 (.seq (.reg [i_P 0 44 2 0, i_L 1 45 44 1, i_M 2 46 8, i_X 3 47 (.h (.idx (.t 45) (.t 46) 1)), i_L 4 48 47 1, i_M 5 49 9, i_X 6 50 (.h (.idx (.t 48) (.t 49) 1)), i_L 7 51 50 1, i_M 8 52 6, i_M 9 53 9, i_X 10 54 (.h (.idx (.t 52) (.t 53) 1)), i_L 11 55 54 1, i_X 12 56 (.h (.fbin .mul (.t 51) (.t 55))), i_M 13 10 56] [2, 5, 6, 8, 9, 10]) (.reg [i_M 0 57 6, i_M 1 58 8, i_M 2 59 6, i_M 3 60 8, i_X 4 61 (.h (.idx (.t 59) (.t 60) 1)), i_L 5 62 61 1, i_M 6 63 10, i_X 7 64 (.h (.fbin .sub (.t 62) (.t 63))), i_X 8 65 (.h (.idx (.t 57) (.t 58) 1)), i_S 9 65 64 1] [2, 5, 6, 8, 9]))) (.reg [i_M 0 42 9, i_X 1 43 (.h (.ibin .add (.t 42) (.k (.d (.int .i64 1))))), i_M 2 9 43] [2, 5, 6, 8, 9])))
def A_r6_Solve_L1 : CA := (.seq (.seq (.reg [i_M 0 34 8, i_M 1 35 5, i_X 2 36 (.h (.ibin .lss (.t 34) (.t 35)))] [2, 5, 6, 8, 36]) (.cond (.t 36) .skip (.exit 2))) (.seq (.block 3 (.seq (.reg [i_X 0 9 (.h (.mov (.k (.d (.int .i64 0)))))] [2, 5, 6, 8, 9]) (.block 4 (.loop A_r6_Solve_L2)))) (.reg [i_M 0 37 8, i_X 1 38 (.h (.ibin .add (.t 37) (.k (.d (.int .i64 1))))), i_M 2 8 38] [2, 5, 6, 8])))
def A_r6_Solve_L4 : CA := (.seq (.seq (.reg [i_M 0 72 12, i_M 1 73 5, i_X 2 74 (.h (.ibin .lss (.t 72) (.t 73)))] [2, 5, 6, 11, 12, 74]) (.cond (.t 74) .skip (.exit 8))) (.seq (.block 9 (.seq (.reg [i_P 0 77 2 0, i_L 1 78 77 1, i_M 2 79 11, i_X 3 80 (.h (.ibin .sub (.t 79) (.k (.d (.int .i64 1))))), i_X 4 81 (.h (.idx (.t 78) (.t 80) 1)), i_L 5 82 81 1, i_M 6 83 12, i_X 7 84 (.h (.idx (.t 82) (.t 83) 1)), i_L 8 85 84 1, i_M 9 86 6, i_M 10 87 12, i_X 11 88 (.h (.idx (.t 86) (.t 87) 1)), i_L 12 89 88 1, i_X 13 90 (.h (.fbin .mul (.t 85) (.t 89))), i_M 14 13 90] [2, 5, 6, 11, 12, 13]) (.reg [i_M 0 91 6, i_M 1 92 11, i_X 2 93 (.h (.ibin .sub (.t 92) (.k (.d (.int .i64 1))))), i_M 3 94 6, i_M 4 95 11, i_X 5 96 (.h (.ibin .sub (.t 95) (.k (.d (.int .i64 1))))), i_X 6 97 (.h (.idx (.t 94) (.t 96) 1)), i_L 7 98 97 1, i_M 8 99 13, i_X 9 100 (.h (.fbin .sub (.t 98) (.t 99))), i_X 10 101 (.h (.idx (.t 91) (.t 93) 1)), i_S 11 101 100 1] [2, 5, 6, 11, 12]))) (.reg [i_M 0 75 12, i_X 1 76 (.h (.ibin .add (.t 75) (.k (.d (.int .i64 1))))), i_M 2 12 76] [2, 5, 6, 11, 12])))
def A_r6_Solve_L3 : CA := (.seq (.seq (.reg [i_M 0 67 11, i_X 1 68 (.h (.ibin .gtr (.t 67) (.k (.d (.int .i64 0)))))] [2, 5, 6, 11, 68]) (.cond (.t 68) .skip (.exit 6))) (.seq (.block 7 (.seq (.seq (.reg [i_M 0 71 11, i_M 1 12 71] [2, 5, 6, 11, 12]) (.block 8 (.loop A_r6_Solve_L4))) (.reg [i_M 0 102 6, i_M 1 103 11, i_X 2 104 (.h (.ibin .sub (.t 103) (.k (.d (.int .i64 1))))), i_M 3 105 6, i_M 4 106 11, i_X 5 107 (.h (.ibin .sub (.t 106) (.k (.d (.int .i64 1))))), i_X 6 108 (.h (.idx (.t 105) (.t 107) 1)), i_L 7 109 108 1, i_P 8 110 2 0, i_L 9 111 110 1, i_M 10 112 11, i_X 11 113 (.h (.ibin .sub (.t 112) (.k (.d (.int .i64 1))))), i_X 12 114 (.h (.idx (.t 111) (.t 113) 1)), i_L 13 115 114 1, i_M 14 116 11, i_X 15 117 (.h (.ibin .sub (.t 116) (.k (.d (.int .i64 1))))), i_X 16 118 (.h (.idx (.t 115) (.t 117) 1)), i_L 17 119 118 1, i_X 18 120 (.h (.fbin .div (.t 109) (.t 119))), i_X 19 121 (.h (.idx (.t 102) (.t 104) 1)), i_S 20 121 120 1] [2, 5, 6, 11]))) (.reg [i_M 0 69 11, i_X 1 70 (.h (.ibin .sub (.t 69) (.k (.d (.int .i64 1))))), i_M 2 11 70] [2, 5, 6, 11])))
def A_r6_Solve : CA := (.seq (.reg [i_X 0 2 (.box (.t 0) 2 91), i_X 1 4 (.h (.mov (.k .nil)))] [1, 2]) (.seq (.reg [i_M 0 14 1, i_X 1 15 (.h (.len (.t 14))), i_M 2 5 15] [1, 2, 5]) (.seq (.reg [i_M 0 16 5, i_X 1 17 (.mksl [(.d (.flt 0))] 1 8 (.t 16) (.t 16) 31), i_M 2 6 17] [1, 2, 5, 6]) (.seq (.seq (.reg [i_X 0 7 (.h (.mov (.k (.d (.int .i64 0)))))] [1, 2, 5, 6, 7]) (.block 0 (.loop A_r6_Solve_L0))) (.seq (.seq (.reg [i_X 0 8 (.h (.mov (.k (.d (.int .i64 0)))))] [2, 5, 6, 8]) (.block 2 (.loop A_r6_Solve_L1))) (.seq (.seq (.reg [i_M 0 66 5, i_M 1 11 66] [2, 5, 6, 11]) (.block 6 (.loop A_r6_Solve_L3))) (.seq (.reg [i_M 0 122 6, i_M 1 4 122] [4]) .ret)))))))
theorem A_r6_Solve_comp : compF Tryz.prog 54 = some ⟨123, [(4, none)], A_r6_Solve.strip⟩ := by kernel_rfl
def gI (π : List Int) (b : List Nat) (n : Nat) : Nat → List Nat
  | 0 => List.replicate n 0
  | m + 1 => (gI π b n m).set m (b.getD (π.getD m 0).toNat 0)
def fwdR (A : List (List Nat)) (x : List Nat) : Nat → List Nat
  | 0 => x
  | m + 1 => fJ A m (fwdR A x m) m
theorem gI_len (π : List Int) (b : List Nat) (n : Nat) : ∀ m, (gI π b n m).length = n := by
  intro m; induction m with
  | zero => simp [gI]
  | succ m ih => simp [gI, ih]
theorem fwdR_len (A : List (List Nat)) (x : List Nat) : ∀ m, (fwdR A x m).length = x.length := by
  intro m; induction m with
  | zero => rfl
  | succ m ih => simp [fwdR, fJ_len, ih]
theorem gI_getD (π : List Int) (b : List Nat) (n : Nat) : ∀ m j, m ≤ n → j < m → (gI π b n m).getD j 0 = b.getD (π.getD j 0).toNat 0 := by
  intro m; induction m with
  | zero => intro j _ h; omega
  | succ m ih =>
    intro j hm hj
    have hlen := gI_len π b n m
    simp only [gI, List.getD_eq_getElem?_getD, List.getElem?_set]
    by_cases e : m = j
    · subst e; simp [hlen, show m < n from by omega]
    · have := ih j (by omega) (by omega)
      simp only [List.getD_eq_getElem?_getD] at this
      rw [if_neg e]; exact this
/-- Both go forward alike. -/
theorem fJ_agree (A : List (List Nat)) (i : Nat) (x y : List Nat) (hl : x.length = y.length) (h : ∀ j, j ≤ i → x.getD j 0 = y.getD j 0) : ∀ m, m ≤ i → ∀ j, j ≤ i → (fJ A i x m).getD j 0 = (fJ A i y m).getD j 0 := by
  intro m; induction m with
  | zero => intro _ j hj; exact h j hj
  | succ m ih =>
    intro hm j hj
    have ih := ih (by omega)
    have h1 := fJ_len A i x m
    have h2 := fJ_len A i y m
    simp only [fJ, ih i (Nat.le_refl _), ih m (by omega), List.getD_eq_getElem?_getD, List.getElem?_set]
    have := ih j hj
    simp only [List.getD_eq_getElem?_getD] at this
    by_cases e : i = j
    · subst e; simp [h1, h2, hl]
    · rw [if_neg e, if_neg e]; exact this
theorem fJ_above (A : List (List Nat)) (i : Nat) (x : List Nat) : ∀ m j, j ≠ i → (fJ A i x m).getD j 0 = x.getD j 0 := by
  intro m; induction m with
  | zero => intro j _; rfl
  | succ m ih =>
    intro j hj
    have := ih j hj
    simp only [List.getD_eq_getElem?_getD] at this
    simp only [fJ, List.getD_eq_getElem?_getD, List.getElem?_set]
    rw [if_neg (fun e => hj e.symm)]; exact this
theorem fwd_agree (A : List (List Nat)) (π : List Int) (b : List Nat) (n : Nat) : ∀ m, m ≤ n → (∀ j, j < m → (fwdI A π b n m).getD j 0 = (fwdR A (gI π b n n) m).getD j 0) ∧ (∀ j, m ≤ j → (fwdR A (gI π b n n) m).getD j 0 = (gI π b n n).getD j 0) := by
  intro m; induction m with
  | zero => intro _; exact ⟨fun j h => by omega, fun j _ => rfl⟩
  | succ m ih =>
    intro hm
    obtain ⟨h1, h2⟩ := ih (by omega)
    have hl1 := fwdI_len A π b n m
    have hl2 : (fwdR A (gI π b n n) m).length = n := by rw [fwdR_len, gI_len]
    refine ⟨fun j hj => ?_, fun j hj => ?_⟩
    · simp only [fwdI, fwdR]
      refine fJ_agree A m _ _ (by simp [hl1, hl2]) (fun j hj => ?_) m (Nat.le_refl _) j (by omega)
      by_cases e : m = j
      · subst e
        rw [h2 m (Nat.le_refl _), gI_getD π b n n m (Nat.le_refl _) (by omega)]
        simp [List.getD_eq_getElem?_getD, hl1, show m < n from by omega]
      · have := h1 j (by omega)
        simp only [List.getD_eq_getElem?_getD] at this
        simp only [List.getD_eq_getElem?_getD, List.getElem?_set]
        rw [if_neg e]; exact this
    · simp only [fwdR]
      rw [fJ_above A m _ m j (by omega)]
      exact h2 j (by omega)
theorem fwd_eq (A : List (List Nat)) (π : List Int) (b : List Nat) (n : Nat) : fwdI A π b n n = fwdR A (gI π b n n) n := by
  obtain ⟨h, _⟩ := fwd_agree A π b n n (Nat.le_refl _)
  have hl1 := fwdI_len A π b n n
  have hl2 : (fwdR A (gI π b n n) n).length = n := by rw [fwdR_len, gI_len]
  refine List.ext_getElem (by rw [hl1, hl2]) fun j h1 h2 => ?_
  have := h j (by omega)
  simpa [List.getD_eq_getElem?_getD, h1, h2] using this
set_option maxRecDepth 8000 in
theorem r6solve_L2 (N : Nat → Prop) (A : List (List Nat)) (π : List Int) (n i : Nat) (x : List Nat) (hA : Sq n A) (hx : x.length = n) (hi : i < n) (hn : n < 2 ^ 40) (Q : Ex → T → Prop)
    (hQ : ∀ v w, Q (.exit 4) ⟨[(2, .ptr 0 0 0 2), (5, fI n), (6, .sl 2 0 0 n 1 n), (8, fI i), (9, v), (41, w)], solveH A π (fJ A i x i)⟩) :
    WA Tryz.prog N 123 (.loop A_r6_Solve_L2) Q ⟨[(2, .ptr 0 0 0 2), (5, fI n), (6, .sl 2 0 0 n 1 n), (8, fI i), (9, fI 0)], solveH A π x⟩ := by
  obtain ⟨hl, hr⟩ := hA
  refine WA_for (n := i) (fun c s => ∃ m, c + m = i ∧ s = ⟨[(2, .ptr 0 0 0 2), (5, fI n), (6, .sl 2 0 0 n 1 n), (8, fI i), (9, fI m)], solveH A π (fJ A i x m)⟩) ⟨0, rfl, rfl⟩ ?_
  rintro c s ⟨m, hc, rfl⟩
  have hy := fJ_len A i x m
  generalize hY : fJ A i x m = y at hy
  have g1 := hr i hi
  simp -implicitDefEqProofs only [evI, hv, effC, reduceCtorEq, ↓reduceIte, n1_, n2_, n3_, n4_, n5_, i1_, i2_, i3_, i4_, i5_, i6_, i7_, A_r6_Solve_L2, solveH]
  refine condC_intro (fun h => ?_) (fun h => ?_)
  · replace h := of_decide_eq_true h
    have e1 : i < y.length := by omega
    have e2 : m < y.length := by omega
    simp -implicitDefEqProofs only [evI, hv, effC, reduceCtorEq, ↓reduceIte, n1_, n2_, n3_, n4_, n5_, i1_, i2_, i3_, i4_, i5_, i6_, i7_, getD_map_fl _ _ e1, getD_map_fl _ _ e2]
    (repeat (with_reducible refine And.intro (by omega) ?_))
    rw [wrapI (by omega) (by omega)]
    refine ⟨c - 1, by omega, m + 1, by omega, ?_⟩
    simp only [fJ, hY]; rfl
  · replace h := of_decide_eq_false h
    simp -implicitDefEqProofs only [evI, hv, effC, reduceCtorEq, ↓reduceIte, n1_, n2_, n3_, n4_, n5_, i1_, i2_, i3_, i4_, i5_, i6_, i7_]
    obtain rfl : i = m := by omega
    rw [hY] at hQ
    exact hQ _ _
set_option maxRecDepth 8000 in
theorem r6solve_L4 (N : Nat → Prop) (A : List (List Nat)) (π : List Int) (n i : Nat) (z : Int) (x : List Nat) (hA : Sq n A) (hx : x.length = n) (hi : i < n) (hz : z = (i : Int) + 1) (hn : n < 2 ^ 40) (Q : Ex → T → Prop)
    (hQ : ∀ v w, Q (.exit 8) ⟨[(2, .ptr 0 0 0 2), (5, fI n), (6, .sl 2 0 0 n 1 n), (11, fI z), (12, v), (74, w)], solveH A π (bJ A i x (n - 1 - i))⟩) :
    WA Tryz.prog N 123 (.loop A_r6_Solve_L4) Q ⟨[(2, .ptr 0 0 0 2), (5, fI n), (6, .sl 2 0 0 n 1 n), (11, fI z), (12, fI (i + 1 : Nat))], solveH A π x⟩ := by
  obtain ⟨hl, hr⟩ := hA
  have hw : IntKind.i64.wrap (z - 1) = (i : Int) := by rw [wrapI (by omega) (by omega)]; omega
  refine WA_for (n := n) (fun c s => ∃ m, c + m = n ∧ i + 1 + m ≤ n ∧ s = ⟨[(2, .ptr 0 0 0 2), (5, fI n), (6, .sl 2 0 0 n 1 n), (11, fI z), (12, fI (i + 1 + m : Nat))], solveH A π (bJ A i x m)⟩) ⟨0, rfl, by omega, rfl⟩ ?_
  rintro c s ⟨m, hc, hm, rfl⟩
  have hy := bJ_len A i x m
  generalize hY : bJ A i x m = y at hy
  have g1 := hr i hi
  simp -implicitDefEqProofs only [evI, hv, effC, reduceCtorEq, ↓reduceIte, n1_, n2_, n3_, n4_, n5_, i1_, i2_, i3_, i4_, i5_, i6_, i7_, A_r6_Solve_L4, solveH]
  refine condC_intro (fun h => ?_) (fun h => ?_)
  · replace h := of_decide_eq_true h
    have e1 : i < y.length := by omega
    have e2 : i + 1 + m < y.length := by omega
    simp -implicitDefEqProofs only [evI, hv, effC, reduceCtorEq, ↓reduceIte, n1_, n2_, n3_, n4_, n5_, i1_, i2_, i3_, i4_, i5_, i6_, i7_, getD_map_fl _ _ e1, getD_map_fl _ _ e2, hw]
    (repeat (with_reducible refine And.intro (by omega) ?_))
    rw [wrapI (by omega) (by omega)]
    refine ⟨c - 1, by omega, m + 1, by omega, by omega, ?_⟩
    simp only [bJ, hY]; rfl
  · replace h := of_decide_eq_false h
    simp -implicitDefEqProofs only [evI, hv, effC, reduceCtorEq, ↓reduceIte, n1_, n2_, n3_, n4_, n5_, i1_, i2_, i3_, i4_, i5_, i6_, i7_]
    obtain rfl : n - 1 - i = m := by omega
    rw [hY] at hQ
    exact hQ _ _
set_option maxRecDepth 8000 in
theorem r6_Solve_ac (A : List (List Nat)) (π : List Int) (b : List Nat) (n : Nat) (hA : Sq n A) (hπ : Pm n π) (hb : b.length = n) (hn : n < 2 ^ 40) :
    AC Tryz.prog 54 [.agg [.d (rowsD A), .d (rowI π)], .d (rowD b)] [] (solveH A π (solveP A π b n)) (.sl 2 0 0 n 1 n) := by
  obtain ⟨hl, hr⟩ := hA
  obtain ⟨hp1, hp2⟩ := hπ
  generalize hR : solveP A π b n = R
  refine AC_introA A_r6_Solve_comp rfl mixed (fun _ => False) (by simp [get_nil]) ?_
  simp -implicitDefEqProofs only [evI, hv, effC, reduceCtorEq, ↓reduceIte, n1_, n2_, n3_, n4_, n5_, i1_, i2_, i3_, i4_, i5_, i6_, i7_, A_r6_Solve]
  (repeat (with_reducible refine And.intro (by omega) ?_))
  refine WA_for (n := n) (fun c s => ∃ m, c + m = n ∧ s = ⟨[(1, .d (rowD b)), (2, .ptr 0 0 0 2), (5, fI n), (6, .sl 2 0 0 n 1 n), (7, fI m)], solveH A π (gI π b n m)⟩) ⟨0, rfl, ?_⟩ ?_
  · simp only [solveH, gI, rowD, hb]; rfl
  rintro c s ⟨m, hc, rfl⟩
  have hy := gI_len π b n m
  generalize hY : gI π b n m = y at hy
  simp -implicitDefEqProofs only [evI, hv, effC, reduceCtorEq, ↓reduceIte, n1_, n2_, n3_, n4_, n5_, i1_, i2_, i3_, i4_, i5_, i6_, i7_, A_r6_Solve_L0, solveH]
  refine condC_intro (fun h => ?_) (fun h => ?_)
  · replace h := of_decide_eq_true h
    obtain ⟨q1, q2⟩ := hp2 m h
    simp -implicitDefEqProofs only [evI, hv, effC, reduceCtorEq, ↓reduceIte, n1_, n2_, n3_, n4_, n5_, i1_, i2_, i3_, i4_, i5_, i6_, i7_]
    (repeat (with_reducible refine And.intro (by omega) ?_))
    rw [wrapI (by omega) (by omega)]
    refine ⟨c - 1, by omega, m + 1, by omega, ?_⟩
    simp only [gI, hY]; rfl
  · replace h := of_decide_eq_false h
    obtain rfl : n = m := by omega
    simp -implicitDefEqProofs only [evI, hv, effC, reduceCtorEq, ↓reduceIte, n1_, n2_, n3_, n4_, n5_, i1_, i2_, i3_, i4_, i5_, i6_, i7_]
    refine WA_for (n := n) (fun c s => ∃ m, c + m = n ∧ s = ⟨[(2, .ptr 0 0 0 2), (5, fI n), (6, .sl 2 0 0 n 1 n), (8, fI m)], solveH A π (fwdR A y m)⟩) ⟨0, rfl, rfl⟩ ?_
    rintro c s ⟨m, hc, rfl⟩
    have hf := fwdR_len A y m
    generalize hF : fwdR A y m = u at hf
    simp -implicitDefEqProofs only [evI, hv, effC, reduceCtorEq, ↓reduceIte, n1_, n2_, n3_, n4_, n5_, i1_, i2_, i3_, i4_, i5_, i6_, i7_, A_r6_Solve_L1, solveH]
    refine condC_intro (fun h2 => ?_) (fun h2 => ?_)
    · replace h2 := of_decide_eq_true h2
      simp -implicitDefEqProofs only [evI, hv, effC, reduceCtorEq, ↓reduceIte, n1_, n2_, n3_, n4_, n5_, i1_, i2_, i3_, i4_, i5_, i6_, i7_]
      refine r6solve_L2 _ A π n m u ⟨hl, hr⟩ (by omega) h2 hn _ fun v w => ?_
      simp -implicitDefEqProofs only [evI, hv, effC, reduceCtorEq, ↓reduceIte, n1_, n2_, n3_, n4_, n5_, i1_, i2_, i3_, i4_, i5_, i6_, i7_]
      rw [wrapI (by omega) (by omega)]
      refine ⟨c - 1, by omega, m + 1, by omega, ?_⟩
      simp only [fwdR, hF]; rfl
    · replace h2 := of_decide_eq_false h2
      obtain rfl : n = m := by omega
      simp -implicitDefEqProofs only [evI, hv, effC, reduceCtorEq, ↓reduceIte, n1_, n2_, n3_, n4_, n5_, i1_, i2_, i3_, i4_, i5_, i6_, i7_]
      have hu : u = fwdI A π b n n := by rw [fwd_eq, ← hF, hY]
      refine WA_for (n := n) (fun c s => ∃ m, ∃ z : Int, c + m = n ∧ z = (n : Int) - m ∧ s = ⟨[(2, .ptr 0 0 0 2), (5, fI n), (6, .sl 2 0 0 n 1 n), (11, fI z)], solveH A π (bckI A n u m)⟩) ⟨0, _, rfl, rfl, ?_⟩ ?_
      · simp only [Int.natCast_zero, Int.sub_zero]; rfl
      rintro c s ⟨m, z, hc, hz, rfl⟩
      have hb2 := bckI_len A n u m
      generalize hU : bckI A n u m = t at hb2
      simp -implicitDefEqProofs only [evI, hv, effC, reduceCtorEq, ↓reduceIte, n1_, n2_, n3_, n4_, n5_, i1_, i2_, i3_, i4_, i5_, i6_, i7_, A_r6_Solve_L3, solveH]
      refine condC_intro (fun h3 => ?_) (fun h3 => ?_)
      · replace h3 := of_decide_eq_true h3
        obtain ⟨i, hzi⟩ : ∃ i : Nat, z = (i : Int) + 1 := ⟨n - 1 - m, by omega⟩
        have hi : i < n := by omega
        have hw : IntKind.i64.wrap (z - 1) = (i : Int) := by rw [wrapI (by omega) (by omega)]; omega
        simp -implicitDefEqProofs only [evI, hv, effC, reduceCtorEq, ↓reduceIte, n1_, n2_, n3_, n4_, n5_, i1_, i2_, i3_, i4_, i5_, i6_, i7_]
        have hz12 : fI z = fI (i + 1 : Nat) := by rw [hzi]; rfl
        rw [show ([(2, V.ptr 0 0 0 2), (5, fI n), (6, V.sl 2 0 0 n 1 n), (11, fI z), (12, fI z)] : Sl) = [(2, V.ptr 0 0 0 2), (5, fI n), (6, V.sl 2 0 0 n 1 n), (11, fI z), (12, fI (i + 1 : Nat))] from by rw [← hz12]]
        refine r6solve_L4 _ A π n i z t ⟨hl, hr⟩ (by omega) hi hzi hn _ fun v w => ?_
        have hbl := bJ_len A i t (n - 1 - i)
        have e1 : i < (bJ A i t (n - 1 - i)).length := by omega
        have g1 := hr i hi
        simp -implicitDefEqProofs only [evI, hv, effC, reduceCtorEq, ↓reduceIte, n1_, n2_, n3_, n4_, n5_, i1_, i2_, i3_, i4_, i5_, i6_, i7_, solveH, getD_map_fl _ _ e1, hw]
        (repeat (with_reducible refine And.intro (by omega) ?_))
        refine ⟨c - 1, by omega, m + 1, (i : Int), by omega, by omega, ?_⟩
        have e : n - 1 - m = i := by omega
        simp only [bckI, hU, bStep, e]; rfl
      · replace h3 := of_decide_eq_false h3
        simp -implicitDefEqProofs only [evI, hv, effC, reduceCtorEq, ↓reduceIte, n1_, n2_, n3_, n4_, n5_, i1_, i2_, i3_, i4_, i5_, i6_, i7_]
        obtain rfl : n = m := by omega
        have e0 : t = R := by rw [← hR, solveP, ← hu, hU]
        subst e0
        refine endsT_keep (fun _ h => h) (resV_tmpI (t := 4) (by decide) rfl) (by simp only [solveH]) (.sl (by simp [get_cons]) rfl) (keep_cells fun X q cells hX v hv' => ?_)
        simp only [solveH, get_cons, get_nil] at hX
        split at hX
        · rcases q with _ | q <;> simp at hX; subst hX; exact mem_rowV hv' _ _ _
        · split at hX
          · rcases q with _ | q <;> simp at hX; subst hX
            rcases List.mem_cons.1 hv' with rfl | hv'
            · exact .d (.d _)
            · rcases List.mem_cons.1 hv' with rfl | hv'
              · exact .d (.d _)
              · cases hv'
          · cases hX
theorem r6_Solve_row (A : List (List Nat)) (π : List Int) (b : List Nat) (n : Nat) (hA : Sq n A) (hπ : Pm n π) (hb : b.length = n) (hn : n < 2 ^ 40) :
    AC Tryz.prog 54 [.agg [.d (rowsD A), .d (rowI π)], .d (rowD b)] [] [(2, [rowV (solveP A π b n)])] (.sl 2 0 0 n 1 n) := by
  refine AC_le (r6_Solve_ac A π b n hA hπ hb hn) (Le.of_wk (fun X q => (X, q)) ⟨rfl, fun i hi => ?_, fun X q c hX => ?_, fun X r Y q _ _ e => by simpa using e, fun X r h => h.elim⟩)
  · obtain rfl : i = 0 := by simpa using hi
    exact .sl (by simp [get_cons]) rfl
  · rw [get_cons, get_nil] at hX
    split at hX
    · rename_i e; subst e
      rcases q with _ | q <;> simp at hX; subst hX
      refine ⟨_, by simp [solveH, get_cons], rfl, fun j hj => ?_⟩
      rw [List.getD_eq_getElem?_getD, List.getElem?_eq_getElem hj]
      exact mem_rowV (List.getElem_mem hj) _ _ _
    · cases hX
end Go.Ab

namespace Go.Ab
set_option linter.unusedSimpArgs false
set_option linter.unusedVariables false
open Nat renaming reduceEqDiff → n1_, reduceAdd → n2_, reduceMul → n3_, reduceLT → n4_, reduceLeDiff → n5_
open Int renaming reduceToNat → i1_, reduceAdd → i2_, reduceSub → i3_, reduceMul → i4_, reduceNeg → i5_, reduceLT → i6_, reduceLE → i7_
open Go Go.Proofs
abbrev sB9 (z : List (List Nat)) (l w : List Nat) (h X n k : Nat) : Sl := [(1, .d (rowsD z)), (2, .d (rowD l)), (4, fI 1), (5, .d (rowD w)), (6, .ptr 0 0 0 3), (12, .ptr 1 0 0 3), (13, fl h), (14, .sl X 0 0 n 1 n), (15, .ptr 5 0 0 2), (18, fI k)]
abbrev lB9 (B : List (List Nat)) (π : List Int) (t : Tp) (R : Heap) : Heap := (5, [[.d (rowsD B), .d (rowI π)]]) :: R ++ [(1, [[.nil, fI 0, fI 0]]), (0, [[fI t.n, .d (opsD t.ops), .d (rowI t.out)]])]
theorem r9B_next (t : Tp) (z : List (List Nat)) (l : List Nat) (h : Nat) (w : List Nat) (B : List (List Nat)) (π : List Int) (g a b d x : List Nat) (k : Nat) : Le (fun _ => False) (T.s 96 ⟨sB9 z l w h 120 t.n k, (120, [rowV x]) :: (110, [rowV g]) :: (104, [rowV a]) :: (100, [rowV b]) :: lB9 B π t [(4, [rowV d])]⟩) (T.s 96 ⟨sB9 z l w h 4 t.n k, lB9 B π t [(4, [rowV x])]⟩) := by
  refine Le.trans (LeT.only (L' := (120, [rowV x]) :: lB9 B π t []) (fun X => X == 120 || X == 5 || X == 1 || X == 0) (fun _ h => h) rfl (by simp [KpS_cons, KpS_nil, KpH_cons, KpH_nil, KpF_cons, KpF_nil, KpF_rows, KpA_cons, KpA_nil, KpA_app, KpA_rowV, KpA_rowIV, KpA_dcells, KpA_outC, Kp_any, Kp_nilv, Kp_d, Kp_ptr, Kp_sl, Kp_agg, Kp_tup, Kp_fn, get_cons, get_nil]) (by simp [KpS_cons, KpS_nil, KpH_cons, KpH_nil, KpF_cons, KpF_nil, KpF_rows, KpA_cons, KpA_nil, KpA_app, KpA_rowV, KpA_rowIV, KpA_dcells, KpA_outC, Kp_any, Kp_nilv, Kp_d, Kp_ptr, Kp_sl, Kp_agg, Kp_tup, Kp_fn, get_cons, get_nil])) ?_
  refine Le.trans (LeT.move 4 (by decide) (by simp [fam_cons, fam_nil]) (by simp [fam_cons, fam_nil]) (fun h => h)) ?_
  have e : renS (absF 120 4 0) (sB9 z l w h 120 t.n k) = sB9 z l w h 4 t.n k := by
    simp [renS, V.ren, V.renL, absF]
  have e2 : Heap.renH (absF 120 4 0) (lB9 B π t []) = lB9 B π t [] := by
    simp [Heap.renH, V.ren, absF]
  rw [e, e2, ren_rowV]
  exact LeT.perm (fun _ h => h) (fun X => .inr (by simp only [fam_cons, fam_nil, List.cons_append, List.nil_append]; grind)) (by simp [KpS_cons, KpS_nil, KpH_cons, KpH_nil, KpF_cons, KpF_nil, KpF_rows, KpA_cons, KpA_nil, KpA_app, KpA_rowV, KpA_rowIV, KpA_dcells, KpA_outC, Kp_any, Kp_nilv, Kp_d, Kp_ptr, Kp_sl, Kp_agg, Kp_tup, Kp_fn, get_cons, get_nil]) (by simp [KpS_cons, KpS_nil, KpH_cons, KpH_nil, KpF_cons, KpF_nil, KpF_rows, KpA_cons, KpA_nil, KpA_app, KpA_rowV, KpA_rowIV, KpA_dcells, KpA_outC, Kp_any, Kp_nilv, Kp_d, Kp_ptr, Kp_sl, Kp_agg, Kp_tup, Kp_fn, get_cons, get_nil])
set_option maxRecDepth 8000 in
theorem r9B_gen (L' : Heap) (r : V) (t : Tp) (z : List (List Nat)) (l : List Nat) (w : List Nat) (step : Int) (h : Nat) (hh : fop .div (FloatKind.nearest .f64 step) 4742290407621132288 = h)
    (h1 : ∀ k g, g.length = t.n → solB t z l h w = (g, k, 0) → r = .agg [.sl 120 0 0 t.n 1 t.n, fI k, fI 0] ∧ L' = [(120, [rowV g])])
    (h2 : ∀ k e, solB t z l h w = ([], k, e) → e ≠ 0 → r = .agg [.nil, fI k, fI e] ∧ L' = []) (hn0 : 0 < t.n) (ok : Sok t z l w (List.replicate t.n 0)) :
    AC Tryz.prog 26 [tapeV t, .d (rowsD z), .d (rowD l), fI step, fI 1, .d (rowD w)] [] L' r := by
  obtain ⟨ht, hz, hzl, hl, hw, hd⟩ := ok
  have hn := ht.n
  have hsq := matT_sq t z l h
  refine AC_introA A_r9_Solve_comp rfl mixed (fun _ => False) (by simp [get_nil]) ?_
  simp -implicitDefEqProofs only [evI, hv, effC, reduceCtorEq, ↓reduceIte, n1_, n2_, n3_, n4_, n5_, i1_, i2_, i3_, i4_, i5_, i6_, i7_, A_r9_Solve]
  first | refine callG_con (r8_H_con step) rfl ?_ | refine callCG_con (r8_H_con step) rfl ?_ | refine callSG_con (r8_H_con step) rfl ?_
  simp -implicitDefEqProofs only [evI, hv, effC, reduceCtorEq, ↓reduceIte, n1_, n2_, n3_, n4_, n5_, i1_, i2_, i3_, i4_, i5_, i6_, i7_]
  (repeat (with_reducible refine And.intro (by omega) ?_))
  rw [hh]
  obtain hp | ⟨⟨B, π⟩, hp⟩ : partP (matT t z l h) t.n t.n = none ∨ ∃ s, partP (matT t z l h) t.n t.n = some s := by cases partP (matT t z l h) t.n t.n <;> simp
  · have he : solB t z l h w = ([], 0, 4) := by unfold solB; rw [hp]
    obtain ⟨rfl, rfl⟩ := h2 0 4 he (by decide)
    first | refine callG_con (r9_newton_none t z l h ht hn0 hz (hzl 0 (by omega)) hp) rfl ?_ | refine callCG_con (r9_newton_none t z l h ht hn0 hz (hzl 0 (by omega)) hp) rfl ?_ | refine callSG_con (r9_newton_none t z l h ht hn0 hz (hzl 0 (by omega)) hp) rfl ?_
    simp -implicitDefEqProofs only [evI, hv, effC, reduceCtorEq, ↓reduceIte, n1_, n2_, n3_, n4_, n5_, i1_, i2_, i3_, i4_, i5_, i6_, i7_, Bool.not_false]
    exact endsT_only (fun _ => false) (fun _ h => h) (resV_cellI (by decide) rfl rfl rfl (by simp) rfl) rfl (by simp [KpS_cons, KpS_nil, KpH_cons, KpH_nil, KpF_cons, KpF_nil, KpF_rows, KpA_cons, KpA_nil, KpA_app, KpA_rowV, KpA_rowIV, KpA_dcells, KpA_outC, Kp_any, Kp_nilv, Kp_d, Kp_ptr, Kp_sl, Kp_agg, Kp_tup, Kp_fn, get_cons, get_nil]) (by simp [KpS_cons, KpS_nil, KpH_cons, KpH_nil, KpF_cons, KpF_nil, KpF_rows, KpA_cons, KpA_nil, KpA_app, KpA_rowV, KpA_rowIV, KpA_dcells, KpA_outC, Kp_any, Kp_nilv, Kp_d, Kp_ptr, Kp_sl, Kp_agg, Kp_tup, Kp_fn, get_cons, get_nil])
  · obtain ⟨hB, hπl⟩ := partP_sq _ _ hsq t.n (Nat.le_refl _) B π hp
    have hπ := partP_pmB _ _ t.n (Nat.le_refl _) B π hp
    have he : solB t z l h w = seek (tryB t z l h w B π) 4 1 (List.replicate t.n 0) := by unfold solB; rw [hp]
    first | refine callG_con (r9_newton_some t z l h ht hn0 hz (hzl 0 (by omega)) B π hp) rfl ?_ | refine callCG_con (r9_newton_some t z l h ht hn0 hz (hzl 0 (by omega)) B π hp) rfl ?_ | refine callSG_con (r9_newton_some t z l h ht hn0 hz (hzl 0 (by omega)) B π hp) rfl ?_
    simp -implicitDefEqProofs only [evI, hv, effC, reduceCtorEq, ↓reduceIte, n1_, n2_, n3_, n4_, n5_, i1_, i2_, i3_, i4_, i5_, i6_, i7_, Bool.not_true]
    rw [he] at h1 h2
    clear he
    generalize List.replicate t.n 0 = d0 at h1 h2 hd
    refine WA_forW (n := 4) (fun c s => ∃ (k : Nat) (d : List Nat), c + k = 5 ∧ (1 ≤ k ∧ k ≤ 4) ∧ d.length = t.n ∧ seek (tryB t z l h w B π) c k d = seek (tryB t z l h w B π) 4 1 d0 ∧ s = ⟨sB9 z l w h 4 t.n k, lB9 B π t [(4, [rowV d])]⟩) (LeT.only (fun X => decide (X ≤ 5)) (fun _ h => h) rfl (by simp [KpS_cons, KpS_nil, KpH_cons, KpH_nil, KpF_cons, KpF_nil, KpF_rows, KpA_cons, KpA_nil, KpA_app, KpA_rowV, KpA_rowIV, KpA_dcells, KpA_outC, Kp_any, Kp_nilv, Kp_d, Kp_ptr, Kp_sl, Kp_agg, Kp_tup, Kp_fn, get_cons, get_nil]) (by simp [KpS_cons, KpS_nil, KpH_cons, KpH_nil, KpF_cons, KpF_nil, KpF_rows, KpA_cons, KpA_nil, KpA_app, KpA_rowV, KpA_rowIV, KpA_dcells, KpA_outC, Kp_any, Kp_nilv, Kp_d, Kp_ptr, Kp_sl, Kp_agg, Kp_tup, Kp_fn, get_cons, get_nil])) ⟨1, _, by omega, by omega, hd, rfl, rfl⟩ ?_
    rintro c s ⟨k, d, hc, hk, hdl, he, rfl⟩
    obtain ⟨f, rfl⟩ : ∃ f, c = f + 1 := ⟨c - 1, by omega⟩
    rw [seekB_succ] at he
    simp -implicitDefEqProofs only [evI, hv, effC, reduceCtorEq, ↓reduceIte, n1_, n2_, n3_, n4_, n5_, i1_, i2_, i3_, i4_, i5_, i6_, i7_, A_r9_Solve_L0]
    (repeat (with_reducible refine And.intro (by omega) ?_))
    have okd : Sok t z l w d := ⟨ht, hz, hzl, hl, hw, hdl⟩
    have hgl : (gS t z l h d).length = t.n := tabR_len _ _
    refine callG_row 100 [tapeV t, .d (rowsD z), fl (l.getD 0 0), fl h, .d (rowD d)] (by simp [Heap.next]) (r9_left_ac t z l h w d okd) ⟨.aggs ⟨.bare _, .bare _, .bare _, trivial⟩, .bare _, .bare _, .bare _, snp_row rfl hdl rfl, trivial⟩ ?_
    simp -implicitDefEqProofs only [evI, hv, effC, reduceCtorEq, ↓reduceIte, n1_, n2_, n3_, n4_, n5_, i1_, i2_, i3_, i4_, i5_, i6_, i7_]
    have hml : (gdS t z l h d).length = t.n := tabR_len _ _
    have hxl : (xB t z l h B π d).length = t.n := solveP_len _ _ _ _
    have hbl : (dB t z l h B π d).length = t.n := tabR_len _ _
    refine callS_row _ (r9_minus_ac _ _ t.n hgl hdl (by omega)) ⟨snp_row rfl hgl rfl, snp_row rfl hdl rfl, trivial⟩ rfl ?_
    simp -implicitDefEqProofs only [evI, hv, effC, reduceCtorEq, ↓reduceIte, n1_, n2_, n3_, n4_, n5_, i1_, i2_, i3_, i4_, i5_, i6_, i7_]
    rw [show tabR (fun i => fop .sub ((gS t z l h d).getD i 0) (d.getD i 0)) t.n = gdS t z l h d from rfl]
    refine callG_row 110 [.agg [.d (rowsD B), .d (rowI π)], .d (rowD (gdS t z l h d))] (by simp [Heap.next]) (AC_row0 (r6_Solve_row B π (gdS t z l h d) t.n hB hπ hml (by omega))) ⟨.aggs ⟨.bare _, .bare _, trivial⟩, snp_row rfl hml rfl, trivial⟩ ?_
    rw [show solveP B π (gdS t z l h d) t.n = xB t z l h B π d from rfl]
    simp -implicitDefEqProofs only [evI, hv, effC, reduceCtorEq, ↓reduceIte, n1_, n2_, n3_, n4_, n5_, i1_, i2_, i3_, i4_, i5_, i6_, i7_]
    refine callG_row 120 [.d (rowD d), .d (rowD (xB t z l h B π d))] (by simp [Heap.next]) (r9_plus_ac d _ t.n hdl hxl (by omega)) ⟨snp_row rfl hdl rfl, snp_row rfl hxl rfl, trivial⟩ ?_
    rw [show tabR (fun i => fop .add (d.getD i 0) ((xB t z l h B π d).getD i 0)) t.n = dB t z l h B π d from rfl]
    simp -implicitDefEqProofs only [evI, hv, effC, reduceCtorEq, ↓reduceIte, n1_, n2_, n3_, n4_, n5_, i1_, i2_, i3_, i4_, i5_, i6_, i7_]
    refine callG_snaps [.d (rowD (xB t z l h B π d)), .d (rowD w)] (r9_Size_con _ w (by omega) (by omega)) ⟨snp_row rfl hxl rfl, .bare _, trivial⟩ (.flt _) ?_
    simp -implicitDefEqProofs only [evI, hv, effC, reduceCtorEq, ↓reduceIte, n1_, n2_, n3_, n4_, n5_, i1_, i2_, i3_, i4_, i5_, i6_, i7_]
    generalize hsz : szP (xB t z l h B π d) w = q at he ⊢
    refine WA_for (n := t.n) (fun c' s => ∃ i, c' + i = t.n ∧ (∀ j, j < i → finite ((dB t z l h B π d).getD j 0) = true) ∧ s = ⟨sB9 z l w h 120 t.n k ++ [(20, fl q), (22, fI i)], (120, [rowV (dB t z l h B π d)]) :: (110, [rowV (xB t z l h B π d)]) :: (104, [rowV (gdS t z l h d)]) :: (100, [rowV (gS t z l h d)]) :: lB9 B π t [(4, [rowV d])]⟩) ⟨0, by omega, fun j hj => by omega, rfl⟩ ?_
    rintro c' s ⟨i, hc', hf, rfl⟩
    simp -implicitDefEqProofs only [evI, hv, effC, reduceCtorEq, ↓reduceIte, n1_, n2_, n3_, n4_, n5_, i1_, i2_, i3_, i4_, i5_, i6_, i7_, A_r9_Solve_L1]
    refine condC_intro (fun hi => ?_) (fun hi => ?_)
    · replace hi := of_decide_eq_true hi
      have ga : (rowV (dB t z l h B π d)).getD i .any = fl ((dB t z l h B π d).getD i 0) := getD_map_fl _ _ (by omega)
      simp -implicitDefEqProofs only [evI, hv, effC, reduceCtorEq, ↓reduceIte, n1_, n2_, n3_, n4_, n5_, i1_, i2_, i3_, i4_, i5_, i6_, i7_, ga]
      (repeat (with_reducible refine And.intro (by omega) ?_))
      first | refine callG_con (r1_Finite_con ((dB t z l h B π d).getD i 0)) rfl ?_ | refine callCG_con (r1_Finite_con ((dB t z l h B π d).getD i 0)) rfl ?_ | refine callSG_con (r1_Finite_con ((dB t z l h B π d).getD i 0)) rfl ?_
      simp -implicitDefEqProofs only [evI, hv, effC, reduceCtorEq, ↓reduceIte, n1_, n2_, n3_, n4_, n5_, i1_, i2_, i3_, i4_, i5_, i6_, i7_, finite_sub]
      cases hfi : finite ((dB t z l h B π d).getD i 0)
      · have hna := fin_not i (by omega) hfi
        rw [if_pos hna] at he
        simp -implicitDefEqProofs only [evI, hv, effC, reduceCtorEq, ↓reduceIte, n1_, n2_, n3_, n4_, n5_, i1_, i2_, i3_, i4_, i5_, i6_, i7_, Bool.not_false]
        obtain ⟨rfl, rfl⟩ := h2 k 2 he.symm (by decide)
        exact endsT_only (fun _ => false) (fun _ h => h) (resV_cellI (by decide) rfl rfl rfl (by simp) rfl) rfl (by simp [KpS_cons, KpS_nil, KpH_cons, KpH_nil, KpF_cons, KpF_nil, KpF_rows, KpA_cons, KpA_nil, KpA_app, KpA_rowV, KpA_rowIV, KpA_dcells, KpA_outC, Kp_any, Kp_nilv, Kp_d, Kp_ptr, Kp_sl, Kp_agg, Kp_tup, Kp_fn, get_cons, get_nil]) (by simp [KpS_cons, KpS_nil, KpH_cons, KpH_nil, KpF_cons, KpF_nil, KpF_rows, KpA_cons, KpA_nil, KpA_app, KpA_rowV, KpA_rowIV, KpA_dcells, KpA_outC, Kp_any, Kp_nilv, Kp_d, Kp_ptr, Kp_sl, Kp_agg, Kp_tup, Kp_fn, get_cons, get_nil])
      · simp -implicitDefEqProofs only [evI, hv, effC, reduceCtorEq, ↓reduceIte, n1_, n2_, n3_, n4_, n5_, i1_, i2_, i3_, i4_, i5_, i6_, i7_, Bool.not_true]
        rw [wrapI (by omega) (by omega)]
        exact ⟨c' - 1, by omega, i + 1, by omega, fun j hj => by rcases Nat.lt_succ_iff_lt_or_eq.1 hj with h1 | rfl; exact hf j h1; exact hfi, rfl⟩
    · replace hi := of_decide_eq_false hi
      have hfa := fin_of (d := dB t z l h B π d) fun j hj => hf j (by omega)
      rw [if_neg (by rw [hfa]; decide)] at he
      simp -implicitDefEqProofs only [evI, hv, effC, reduceCtorEq, ↓reduceIte, n1_, n2_, n3_, n4_, n5_, i1_, i2_, i3_, i4_, i5_, i6_, i7_]
      cases hle : fcmp .le q 4562146422526312448
      · rw [if_neg (by rw [hle]; decide)] at he
        simp -implicitDefEqProofs only [evI, hv, effC, reduceCtorEq, ↓reduceIte, n1_, n2_, n3_, n4_, n5_, i1_, i2_, i3_, i4_, i5_, i6_, i7_]
        by_cases h4 : 4 ≤ k
        · rw [if_pos h4] at he
          have hk4 : k = 4 := by omega
          subst hk4
          simp -implicitDefEqProofs only [evI, hv, effC, reduceCtorEq, ↓reduceIte, n1_, n2_, n3_, n4_, n5_, i1_, i2_, i3_, i4_, i5_, i6_, i7_]
          obtain ⟨rfl, rfl⟩ := h2 4 6 he.symm (by decide)
          exact endsT_only (fun _ => false) (fun _ h => h) (resV_cellI (by decide) rfl rfl rfl (by simp) rfl) rfl (by simp [KpS_cons, KpS_nil, KpH_cons, KpH_nil, KpF_cons, KpF_nil, KpF_rows, KpA_cons, KpA_nil, KpA_app, KpA_rowV, KpA_rowIV, KpA_dcells, KpA_outC, Kp_any, Kp_nilv, Kp_d, Kp_ptr, Kp_sl, Kp_agg, Kp_tup, Kp_fn, get_cons, get_nil]) (by simp [KpS_cons, KpS_nil, KpH_cons, KpH_nil, KpF_cons, KpF_nil, KpF_rows, KpA_cons, KpA_nil, KpA_app, KpA_rowV, KpA_rowIV, KpA_dcells, KpA_outC, Kp_any, Kp_nilv, Kp_d, Kp_ptr, Kp_sl, Kp_agg, Kp_tup, Kp_fn, get_cons, get_nil])
        · rw [if_neg h4] at he
          have h4' : ((k : Int) == 4) = false := by simp; omega
          simp -implicitDefEqProofs only [evI, hv, effC, reduceCtorEq, ↓reduceIte, n1_, n2_, n3_, n4_, n5_, i1_, i2_, i3_, i4_, i5_, i6_, i7_, h4']
          rw [wrapI (by omega) (by omega)]
          exact ⟨f, _, by omega, r9B_next t z l h w B π _ _ _ d _ (k + 1), k + 1, _, by omega, by omega, hbl, he, rfl⟩
      · rw [if_pos hle] at he
        simp -implicitDefEqProofs only [evI, hv, effC, reduceCtorEq, ↓reduceIte, n1_, n2_, n3_, n4_, n5_, i1_, i2_, i3_, i4_, i5_, i6_, i7_]
        obtain ⟨rfl, rfl⟩ := h1 k _ hbl he.symm
        exact endsT_only (fun X => X == 120) (fun _ h => h) (resV_cellI (by decide) rfl rfl rfl (by simp) rfl) rfl (by simp [KpS_cons, KpS_nil, KpH_cons, KpH_nil, KpF_cons, KpF_nil, KpF_rows, KpA_cons, KpA_nil, KpA_app, KpA_rowV, KpA_rowIV, KpA_dcells, KpA_outC, Kp_any, Kp_nilv, Kp_d, Kp_ptr, Kp_sl, Kp_agg, Kp_tup, Kp_fn, get_cons, get_nil]) (by simp [KpS_cons, KpS_nil, KpH_cons, KpH_nil, KpF_cons, KpF_nil, KpF_rows, KpA_cons, KpA_nil, KpA_app, KpA_rowV, KpA_rowIV, KpA_dcells, KpA_outC, Kp_any, Kp_nilv, Kp_d, Kp_ptr, Kp_sl, Kp_agg, Kp_tup, Kp_fn, get_cons, get_nil])
/-- The reference's step, by either method. -/
theorem r9_SolveG_ok (t : Tp) (z : List (List Nat)) (l : List Nat) (h : Nat) (w : List Nat) (step : Int) (m : Int) (hn0 : 0 < t.n) (ok : Sok t z l w (List.replicate t.n 0)) (hh : fop .div (FloatKind.nearest .f64 step) 4742290407621132288 = h)
    (g : List Nat) (k : Nat) (hg : solG t z l h w m = (g, k, 0)) : AC Tryz.prog 26 [tapeV t, .d (rowsD z), .d (rowD l), fI step, fI m, .d (rowD w)] [] [(0, [rowV g])] (.agg [.sl 0 0 0 t.n 1 t.n, fI k, fI 0]) := by
  unfold solG at hg
  split at hg
  · rename_i e
    subst e
    refine AC_sum0 (X := 120) (r9B_gen _ _ t z l w step h hh (fun k' g' _ he => ?_) (fun k' e he hne => ?_) hn0 ok)
    · rw [hg] at he
      simp only [Prod.mk.injEq] at he
      obtain ⟨rfl, rfl, _⟩ := he
      exact ⟨rfl, rfl⟩
    · rw [hg] at he
      simp only [Prod.mk.injEq] at he
      exact absurd he.2.2.symm hne
  · rename_i e
    refine AC_sum0 (X := 100) (r9_sol_gen _ _ t z l w step m e h hh (fun k' g' _ he => ?_) (fun k' e he hne => ?_) ok)
    · rw [hg] at he
      simp only [Prod.mk.injEq] at he
      obtain ⟨rfl, rfl, _⟩ := he
      exact ⟨rfl, rfl⟩
    · rw [hg] at he
      simp only [Prod.mk.injEq] at he
      exact absurd he.2.2.symm hne
theorem r9_SolveG_no (t : Tp) (z : List (List Nat)) (l : List Nat) (h : Nat) (w : List Nat) (step : Int) (m : Int) (hn0 : 0 < t.n) (ok : Sok t z l w (List.replicate t.n 0)) (hh : fop .div (FloatKind.nearest .f64 step) 4742290407621132288 = h)
    (k : Nat) (e : Int) (hne : e ≠ 0) (hg : solG t z l h w m = ([], k, e)) : AC Tryz.prog 26 [tapeV t, .d (rowsD z), .d (rowD l), fI step, fI m, .d (rowD w)] [] [] (.agg [.nil, fI k, fI e]) := by
  unfold solG at hg
  split at hg
  · rename_i e
    subst e
    refine r9B_gen _ _ t z l w step h hh (fun k' g' _ he => ?_) (fun k' e' he hne' => ?_) hn0 ok
    · rw [hg] at he
      simp only [Prod.mk.injEq] at he
      exact absurd he.2.2 hne
    · rw [hg] at he
      simp only [Prod.mk.injEq] at he
      obtain ⟨_, rfl, rfl⟩ := he
      exact ⟨rfl, rfl⟩
  · rename_i e'
    refine r9_sol_gen _ _ t z l w step m e' h hh (fun k' g' _ he => ?_) (fun k' e' he hne' => ?_) ok
    · rw [hg] at he
      simp only [Prod.mk.injEq] at he
      exact absurd he.2.2 hne
    · rw [hg] at he
      simp only [Prod.mk.injEq] at he
      obtain ⟨_, rfl, rfl⟩ := he
      exact ⟨rfl, rfl⟩
end Go.Ab
