/- Part 13: JD, MC, SC, BK, BL, JE, JG, LP, JH, OA, OB, SD, SF. -/
import Derived.Test.YtloimimehbehoaaGreatGL
namespace Go.Ab
set_option linter.unusedSimpArgs false
set_option linter.unusedVariables false
open Nat renaming reduceEqDiff → n1_, reduceAdd → n2_, reduceMul → n3_, reduceLT → n4_, reduceLeDiff → n5_
open Int renaming reduceToNat → i1_, reduceAdd → i2_, reduceSub → i3_, reduceMul → i4_, reduceNeg → i5_, reduceLT → i6_, reduceLE → i7_
open Go Go.Proofs
def A_r4_change : CA := (.seq (.reg [i_X 0 12 (.h (.mov (.k (.d (.flt 0)))))] [0, 1, 2, 3, 4, 5]) (.seq (.seq (.reg [i_M 0 17 0] [1, 2, 3, 4, 5, 17]) (.block 0 (.seq (.reg [i_B 0 19 .eql 17 2, i_M 1 18 19] [1, 2, 3, 4, 5, 17, 18]) (.cond (.t 18) (.seq (.reg [i_M 0 20 4, i_M 1 21 5, i_F 2 22 .add 20 21, i_M 3 12 22] [12]) .ret) (.seq (.reg [i_B 0 24 .eql 17 3, i_M 1 23 24] [1, 2, 3, 4, 5, 17, 23]) (.cond (.t 23) (.seq (.reg [i_M 0 25 4, i_M 1 26 5, i_F 2 27 .sub 25 26, i_M 3 12 27] [12]) .ret) (.seq (.reg [i_B 0 29 .eql 17 4, i_M 1 28 29] [1, 2, 3, 4, 5, 28]) (.cond (.t 28) (.seq (.reg [i_M 0 30 4, i_M 1 31 2, i_F 2 32 .mul 30 31, i_M 3 13 32] [1, 5, 13]) (.seq (.reg [i_M 0 33 1, i_M 1 34 5, i_F 2 35 .mul 33 34, i_M 3 14 35] [13, 14]) (.seq (.reg [i_M 0 36 13, i_M 1 37 14, i_F 2 38 .add 36 37, i_M 3 12 38] [12]) .ret))) .skip)))))))) (.seq (.reg [i_M 0 39 3, i_M 1 40 5, i_F 2 41 .mul 39 40, i_M 3 15 41] [2, 4, 15]) (.seq (.reg [i_M 0 42 4, i_M 1 43 15, i_F 2 44 .sub 42 43, i_M 3 16 44] [2, 16]) (.seq (.reg [i_M 0 45 16, i_M 1 46 2, i_F 2 47 .div 45 46, i_M 3 12 47] [12]) .ret)))))
theorem A_r4_change_comp : compF Tryz.prog 151 = some ⟨48, [(12, none)], A_r4_change.strip⟩ := by kernel_rfl
def A_r4_Jac_L1 : CA := (.seq (.seq (.reg [i_M 0 126 9, i_P 1 127 2 0, i_L 2 128 127 1, i_N 3 129 .lss 126 128] [1, 2, 5, 6, 7, 8, 9, 129]) (.cond (.t 129) .skip (.exit 3))) (.seq (.block 4 (.reg [i_M 0 132 6, i_M 1 133 7, i_I 2 134 132 133 1, i_L 3 135 134 1, i_M 4 136 9, i_P 5 137 8 0, i_L 6 138 137 1, i_M 7 139 5, i_P 8 140 8 1, i_L 9 141 140 1, i_I 10 142 139 141 1, i_L 11 143 142 1, i_M 12 144 5, i_P 13 145 8 2, i_L 14 146 145 1, i_I 15 147 144 146 1, i_L 16 148 147 1, i_M 17 149 5, i_M 18 150 7, i_I 19 151 149 150 1, i_L 20 152 151 1, i_M 21 153 6, i_P 22 154 8 1, i_L 23 155 154 1, i_I 24 156 153 155 1, i_L 25 157 156 1, i_M 26 158 9, i_I 27 159 157 158 1, i_L 28 160 159 1, i_M 29 161 6, i_P 30 162 8 2, i_L 31 163 162 1, i_I 32 164 161 163 1, i_L 33 165 164 1, i_M 34 166 9, i_I 35 167 165 166 1, i_L 36 168 167 1, i_X 37 169 (.callS 37 (kF 151) [(.t 138), (.t 143), (.t 148), (.t 152), (.t 160), (.t 168)]), i_I 38 170 135 136 1, i_S 39 170 169 1] [1, 2, 5, 6, 7, 8, 9])) (.reg [i_M 0 130 9, i_B 1 131 .add 130 1, i_M 2 9 131] [1, 2, 5, 6, 7, 8, 9])))
def A_r4_Jac_L0 : CA := (.seq (.seq (.reg [i_M 0 20 7, i_P 1 21 2 1, i_L 2 22 21 1, i_X 3 23 (.h (.len (.t 22))), i_N 4 24 .lss 20 23] [1, 2, 5, 6, 7, 24]) (.cond (.t 24) .skip (.exit 0))) (.seq (.block 1 (.seq (.reg [i_P 0 27 2 1, i_L 1 28 27 1, i_M 2 29 7, i_I 3 30 28 29 4, i_A 4 31 30 4, i_X 5 8 (.alloc [(.d (.int .i64 0)), (.d (.int .i64 0)), (.d (.int .i64 0)), (.d (.flt 0))] 62), i_S 6 8 31 4] [1, 2, 5, 6, 7, 8]) (.seq (.reg [i_M 0 32 6, i_M 1 33 7, i_P 2 34 2 0, i_L 3 35 34 1, i_X 4 36 (.mksl [(.d (.flt 0))] 1 8 (.t 35) (.t 35) 31), i_I 5 37 32 33 1, i_S 6 37 36 1] [1, 2, 5, 6, 7, 8]) (.seq (.seq (.reg [i_P 0 38 8 0, i_L 1 39 38 1] [1, 2, 5, 6, 7, 8, 39]) (.block 2 (.seq (.reg [i_B 0 55 .eql 39 0, i_M 1 54 55] [1, 2, 5, 6, 7, 8, 39, 54]) (.cond (.t 54) (.seq (.reg [i_M 0 56 5, i_M 1 57 7, i_P 2 58 8 3, i_L 3 59 58 1, i_I 4 60 56 57 1, i_S 5 60 59 1] [1, 2, 5, 6, 7]) (.exit 1)) (.seq (.reg [i_B 0 62 .eql 39 1, i_M 1 61 62] [1, 2, 5, 6, 7, 8, 39, 61]) (.cond (.t 61) (.seq (.reg [i_M 0 63 5, i_M 1 64 7, i_M 2 65 6, i_M 3 66 7, i_I 4 67 65 66 1, i_L 5 68 67 1, i_P 6 69 8 1, ⟨7, (some 70), none, [(.t 8)], [], (.load (.t 69) 1 false)⟩, i_M 8 71 1, i_P 9 72 8 1, i_L 10 73 72 1, i_I 11 74 71 73 1, i_L 12 75 74 1, i_I 13 76 63 64 1, ⟨14, none, none, [], [(.t 8)], (.store (.t 76) (.t 75) 1)⟩, i_I 15 77 68 70 1, ⟨16, none, none, [], [], (.store (.t 77) (.k (.d (.flt 4607182418800017408))) 1)⟩] [1, 2, 5, 6, 7]) (.exit 1)) (.seq (.reg [i_B 0 79 .eql 39 2, i_M 1 78 79] [1, 2, 5, 6, 7, 8, 39, 78]) (.cond (.t 78) (.reg [i_M 0 80 5, i_M 1 81 7, i_M 2 82 5, i_P 3 83 8 1, i_L 4 84 83 1, i_I 5 85 82 84 1, i_L 6 86 85 1, i_M 7 87 5, i_P 8 88 8 2, i_L 9 89 88 1, i_I 10 90 87 89 1, i_L 11 91 90 1, i_F 12 92 .add 86 91, i_I 13 93 80 81 1, i_S 14 93 92 1] [1, 2, 5, 6, 7, 8]) (.seq (.reg [i_B 0 95 .eql 39 3, i_M 1 94 95] [1, 2, 5, 6, 7, 8, 39, 94]) (.cond (.t 94) (.reg [i_M 0 96 5, i_M 1 97 7, i_M 2 98 5, i_P 3 99 8 1, i_L 4 100 99 1, i_I 5 101 98 100 1, i_L 6 102 101 1, i_M 7 103 5, i_P 8 104 8 2, i_L 9 105 104 1, i_I 10 106 103 105 1, i_L 11 107 106 1, i_F 12 108 .sub 102 107, i_I 13 109 96 97 1, i_S 14 109 108 1] [1, 2, 5, 6, 7, 8]) (.seq (.reg [i_B 0 111 .eql 39 4, i_M 1 110 111] [1, 2, 5, 6, 7, 8, 110]) (.cond (.t 110) (.reg [i_M 0 112 5, i_M 1 113 7, i_M 2 114 5, i_P 3 115 8 1, i_L 4 116 115 1, i_I 5 117 114 116 1, i_L 6 118 117 1, i_M 7 119 5, i_P 8 120 8 2, i_L 9 121 120 1, i_I 10 122 119 121 1, i_L 11 123 122 1, i_F 12 124 .mul 118 123, i_I 13 125 112 113 1, i_S 14 125 124 1] [1, 2, 5, 6, 7, 8]) (.reg [i_M 0 40 5, i_M 1 41 7, i_M 2 42 5, i_P 3 43 8 1, i_L 4 44 43 1, i_I 5 45 42 44 1, i_L 6 46 45 1, i_M 7 47 5, i_P 8 48 8 2, i_L 9 49 48 1, i_I 10 50 47 49 1, i_L 11 51 50 1, i_F 12 52 .div 46 51, i_I 13 53 40 41 1, i_S 14 53 52 1] [1, 2, 5, 6, 7, 8]))))))))))))) (.seq (.reg [i_K 0 9 0] [1, 2, 5, 6, 7, 8, 9]) (.block 3 (.loop A_r4_Jac_L1))))))) (.reg [i_M 0 25 7, i_B 1 26 .add 25 1, i_M 2 7 26] [1, 2, 5, 6, 7])))
def A_r4_Jac_L2 : CA := (.seq (.seq (.reg [i_M 0 171 11, i_P 1 172 2 0, i_L 2 173 172 1, i_N 3 174 .lss 171 173] [2, 6, 10, 11, 174]) (.cond (.t 174) .skip (.exit 5))) (.seq (.block 6 (.reg [i_M 0 177 10, i_X 1 178 (.bslice [] 0 1 [] 31), i_M 2 179 6, i_P 3 180 2 2, i_L 4 181 180 1, i_M 5 182 11, i_I 6 183 181 182 1, i_L 7 184 183 1, i_I 8 185 179 184 1, i_L 9 186 185 1, i_X 10 187 (.app (.t 178) (.t 186) 1 8), i_X 11 188 (.bslice [.nil] 1 1 [(0, (1, (.t 187)))] 30), i_X 12 189 (.app (.t 177) (.t 188) 1 24), i_M 13 10 189] [2, 6, 10, 11])) (.reg [i_M 0 175 11, i_B 1 176 .add 175 1, i_M 2 11 176] [2, 6, 10, 11])))
def A_r4_Jac : CA := (.seq (.reg [i_X 0 2 (.box (.t 0) 3 28), i_X 1 4 (.h (.mov (.k .nil)))] [1, 2]) (.seq (.reg [i_P 0 12 2 1, i_L 1 13 12 1, i_X 2 14 (.h (.len (.t 13))), i_X 3 15 (.mksl [(.d (.flt 0))] 1 8 (.t 14) (.t 14) 31), i_M 4 5 15] [1, 2, 5]) (.seq (.reg [i_P 0 16 2 1, i_L 1 17 16 1, i_X 2 18 (.h (.len (.t 17))), i_X 3 19 (.mksl [.nil] 1 24 (.t 18) (.t 18) 30), i_M 4 6 19] [1, 2, 5, 6]) (.seq (.seq (.reg [i_K 0 7 0] [1, 2, 5, 6, 7]) (.block 0 (.loop A_r4_Jac_L0))) (.seq (.reg [i_X 0 10 (.h (.mov (.k .nil)))] [2, 6, 10]) (.seq (.seq (.reg [i_K 0 11 0] [2, 6, 10, 11]) (.block 5 (.loop A_r4_Jac_L2))) (.seq (.reg [i_M 0 190 10, i_M 1 4 190] [4]) .ret)))))))
theorem A_r4_Jac_comp : compF Tryz.prog 119 = some ⟨191, [(4, none)], A_r4_Jac.strip⟩ := by kernel_rfl
theorem r4change_con (k : Int) (u v q da db : Nat) (hk : k = 2 ∨ k = 3 ∨ k = 4 ∨ k = 5) : Con Tryz.prog 151 [fI k, fl u, fl v, fl q, fl da, fl db] (fl (if k = 2 then fop .add da db else if k = 3 then fop .sub da db else if k = 4 then fop .add (fop .mul da v) (fop .mul u db) else fop .div (fop .sub da (fop .mul q db)) v)) := by
  refine Con_introA A_r4_change_comp rfl mixed ?_
  refine evx @A_r4_change.eq_1 ?_
  rcases hk with rfl | rfl | rfl | rfl
  · refine ev ?_
    exact endsT_rett rfl (by decide) (by simp [look])
  · refine evb ?_
    exact endsT_rett rfl (by decide) (by simp [look])
  · refine evb ?_
    exact endsT_rett rfl (by decide) (by simp [look])
  · refine evb ?_
    exact endsT_rett rfl (by decide) (by simp [look])
theorem regs_pre (t : Tp) (x : List Nat) (i m j : Nat) (h : i ≤ m) (hj : j < i) : (regs t x m).getD j 0 = (regs t x i).getD j 0 := by
  induction m with
  | zero => omega
  | succ m ih =>
    by_cases e : i = m + 1
    · subst e; rfl
    · have hl := regs_len t x m
      rw [regs, List.getD_eq_getElem?_getD, List.getElem?_append_left (by omega), ← List.getD_eq_getElem?_getD]
      exact ih (by omega)
theorem drs_pre (t : Tp) (x : List Nat) (i m j : Nat) (h : i ≤ m) (hj : j < i) : (drs t x m).getD j [] = (drs t x i).getD j [] := by
  induction m with
  | zero => omega
  | succ m ih =>
    by_cases e : i = m + 1
    · subst e; rfl
    · have hl := drs_len t x m
      rw [drs, List.getD_eq_getElem?_getD, List.getElem?_append_left (by omega), ← List.getD_eq_getElem?_getD]
      exact ih (by omega)
def rG (t : Tp) (x : List Nat) (i : Nat) : Nat := (regs t x t.ops.length).getD i 0
def dG (t : Tp) (x : List Nat) (i : Nat) : D := rowD ((drs t x t.ops.length).getD i [])
theorem outC_set_get (n : Nat) (g : Nat → D) (i j : Nat) (v : V) (hj : j < i) (hi : i < n) : ((outC n g i).set i v).getD j .any = .d (g j) := by
  rw [List.getD_eq_getElem?_getD, List.getElem?_set_ne (by omega), ← List.getD_eq_getElem?_getD, outC_get, if_pos (by omega), if_pos hj]
abbrev rS0 (t : Tp) (x : List Nat) (i : Nat) : Sl := [(1, .d (rowD x)), (2, .ptr 0 0 0 3), (5, .sl 4 0 0 t.ops.length 1 t.ops.length), (6, .sl 8 0 0 t.ops.length 1 t.ops.length), (7, fI i)]
abbrev rT0 (t : Tp) (x : List Nat) (i : Nat) : T := ⟨rS0 t x i, [(8, [outC t.ops.length (dG t x) i]), (4, [rowV (fillR (rG t x) t.ops.length i)]), (0, [jtT t])]⟩
theorem outC_set_self (n : Nat) (g : Nat → D) (i : Nat) (v : V) (hi : i < n) : ((outC n g i).set i v).getD i .any = v := by
  rw [List.getD_eq_getElem?_getD, List.getElem?_set_self (by rw [outC_len]; exact hi)]; rfl
theorem r4_next (t : Tp) (x : List Nat) (i : Nat) (junk : List (List V)) (d : List Nat) (hD : (drs t x t.ops.length).getD i [] = d) (hl : d.length = t.n) :
    Le (fun _ => False) (T.s 191 ⟨rS0 t x (i + 1), [(19, [rowV d]), (14, junk), (8, [(outC t.ops.length (dG t x) i).set i (.sl 19 0 0 t.n 1 t.n)]), (4, [rowV (fillR (rG t x) t.ops.length (i + 1))]), (0, [jtT t])]⟩) (T.s 191 (rT0 t x (i + 1))) := by
  have hz : ∀ L L' : Heap, L.get 19 0 = some (rowV d) → L'.get 19 0 = none → Fz L L' (.sl 19 0 0 t.n 1 t.n) (.d (dG t x i)) := fun L L' a b => by
    unfold dG; rw [hD]; exact Fz_row a hl rfl b
  exact LeT.weak (fun _ h => h) (by simp (maxDischargeDepth := 6) [fzS]) (by simp (maxDischargeDepth := 6) [fzS, hz, FzA_outC_set])
theorem slo_var (o : OpN) (q : Nat) (r : List Nat) (dr : List (List Nat)) (n : Nat) (hk : o.k = 1) (ha : 0 ≤ o.a ∧ o.a < n) : tabR (slo o q r dr) n = (List.replicate n 0).set o.a.toNat oneW := by
  refine List.ext_getElem (by simp [tabR_len]) fun k h1 h2 => ?_
  rw [tabR_len] at h1
  simp only [tabR, List.getElem_map, List.getElem_range, List.getElem_set, List.getElem_replicate, slo]
  by_cases e : o.a = (k : Int)
  · rw [if_pos ⟨hk, e⟩, if_pos (by omega)]
  · rw [if_neg (fun h => e h.2), if_pos (.inr hk), if_neg (by omega)]
theorem slo_const (o : OpN) (q : Nat) (r : List Nat) (dr : List (List Nat)) (n : Nat) (hk : o.k = 0) : tabR (slo o q r dr) n = List.replicate n 0 := by
  refine List.ext_getElem (by simp [tabR_len]) fun k h1 h2 => ?_
  simp [tabR, slo, hk]
abbrev r4H (t : Tp) (x : List Nat) (i : Nat) (o : OpN) (d : List Nat) : Heap := [(19, [rowV d]), (14, [opC o]), (8, [(outC t.ops.length (dG t x) i).set i (.sl 19 0 0 t.n 1 t.n)]), (4, [rowV (fillR (rG t x) t.ops.length (i + 1))]), (0, [jtT t])]
abbrev r4S (t : Tp) (x : List Nat) (i k : Nat) : Sl := [(1, .d (rowD x)), (2, .ptr 0 0 0 3), (5, .sl 4 0 0 t.ops.length 1 t.ops.length), (6, .sl 8 0 0 t.ops.length 1 t.ops.length), (7, fI i), (8, .ptr 14 0 0 4), (9, fI k)]
set_option maxRecDepth 8000 in
theorem r4_L1 (t : Tp) (x : List Nat) (i : Nat) (o : OpN) (f : Nat → Nat) (hn : t.n < 2 ^ 20) (hlen : t.ops.length < 2 ^ 40) (h : i < t.ops.length) (hk : o.k = 2 ∨ o.k = 3 ∨ o.k = 4 ∨ o.k = 5) (ha : 0 ≤ o.a ∧ o.a < (i : Int)) (hb : 0 ≤ o.b ∧ o.b < (i : Int))
    (hf : f = slo o (rG t x i) (regs t x i) (drs t x i)) (Q : Ex → T → Prop) (hQ : Q (.exit 3) ⟨r4S t x i t.n ++ [(129, fB false)], r4H t x i o (tabR f t.n)⟩) :
    WA Tryz.prog (fun _ => False) 191 A_r4_Jac_L1.loop Q ⟨r4S t x i 0, r4H t x i o (List.replicate t.n 0)⟩ := by
  rw [← fillR_zero f]
  have rl := fillR_len (rG t x) t.ops.length (i + 1)
  have rget : ∀ j, j < i + 1 → (rowV (fillR (rG t x) t.ops.length (i + 1))).getD j .any = fl (rG t x j) := fun j hj => by
    rw [getD_map_fl _ _ (by omega)]
    simp [fillR, List.getD_eq_getElem?_getD, hj, show j < t.ops.length by omega]
  have r1 := rget o.a.toNat (by omega)
  have r2 := rget o.b.toNat (by omega)
  have r3 := rget i (by omega)
  have s1 := outC_set_get t.ops.length (dG t x) i o.a.toNat (.sl 19 0 0 t.n 1 t.n) (by omega) h
  have s2 := outC_set_get t.ops.length (dG t x) i o.b.toNat (.sl 19 0 0 t.n 1 t.n) (by omega) h
  have s3 := outC_set_self t.ops.length (dG t x) i (.sl 19 0 0 t.n 1 t.n) h
  have sl : ((outC t.ops.length (dG t x) i).set i (V.sl 19 0 0 t.n 1 t.n)).length = t.ops.length := by rw [List.length_set, outC_len]
  have d1 := drs_rows t x t.ops.length o.a.toNat (by omega)
  have d2 := drs_rows t x t.ops.length o.b.toNat (by omega)
  refine WA_for (n := t.n) (fun c s => ∃ k, c + k = t.n ∧ s = ⟨r4S t x i k, r4H t x i o (fillR f t.n k)⟩) ⟨0, by omega, rfl⟩ ?_
  rintro c s ⟨k, hc, rfl⟩
  have hkl := fillR_len f t.n k
  refine evx @A_r4_Jac_L1.eq_1 ?_
  refine condC_intro (fun hi => ?_) (fun hi => ?_)
  · replace hi := of_decide_eq_true hi
    have hfs := fillR_set f t.n k hi
    generalize fillR f t.n k = d at hkl hfs
    have hol := outC_len t.ops.length (dG t x) i
    simp -implicitDefEqProofs only [evI, hv, effC, reduceCtorEq, ↓reduceIte, n1_, n2_, n3_, n4_, n5_, i1_, i2_, i3_, i4_, i5_, i6_, i7_, r1, r2, r3, s1, s2, s3, dG]
    repeat (with_reducible refine And.intro (by omega) ?_)
    refine callSG_con (r4change_con o.k (rG t x o.a.toNat) (rG t x o.b.toNat) (rG t x i) (((drs t x t.ops.length).getD o.a.toNat []).getD k 0) (((drs t x t.ops.length).getD o.b.toNat []).getD k 0) hk) rfl ?_
    have ef : (if o.k = 2 then fop .add (((drs t x t.ops.length).getD o.a.toNat []).getD k 0) (((drs t x t.ops.length).getD o.b.toNat []).getD k 0) else if o.k = 3 then fop .sub (((drs t x t.ops.length).getD o.a.toNat []).getD k 0) (((drs t x t.ops.length).getD o.b.toNat []).getD k 0) else if o.k = 4 then fop .add (fop .mul (((drs t x t.ops.length).getD o.a.toNat []).getD k 0) (rG t x o.b.toNat)) (fop .mul (rG t x o.a.toNat) (((drs t x t.ops.length).getD o.b.toNat []).getD k 0)) else fop .div (fop .sub (((drs t x t.ops.length).getD o.a.toNat []).getD k 0) (fop .mul (rG t x i) (((drs t x t.ops.length).getD o.b.toNat []).getD k 0))) (rG t x o.b.toNat)) = f k := by
      rw [hf]
      unfold slo rG
      rw [drs_pre t x i t.ops.length o.a.toNat (by omega) (by omega), drs_pre t x i t.ops.length o.b.toNat (by omega) (by omega), regs_pre t x i t.ops.length o.a.toNat (by omega) (by omega), regs_pre t x i t.ops.length o.b.toNat (by omega) (by omega)]
      rcases hk with hk | hk | hk | hk <;> simp [hk]
    rw [ef]
    refine ev ?_
    (repeat (with_reducible refine And.intro (by omega) ?_))
    rw [wrapI (by omega) (by omega), hfs]
    exact ⟨c - 1, by omega, k + 1, by omega, rfl⟩
  · replace hi := of_decide_eq_false hi
    have e : k = t.n := by omega
    subst e
    rw [fillR_all]
    refine evx @Nat.lt_irrefl ?_
    exact hQ
set_option maxRecDepth 8000 in
theorem r4_Jac_ac (t : Tp) (x : List Nat) (ht : Tok t) (hx : x.length = t.n) : AC Tryz.prog 119 [tapeV t, .d (rowD x)] [] [(21, (jacT t x).map rowV), (20, [hdo 21 0 t.n t.n])] (.sl 20 0 0 t.n 1 t.n) := by
  have hn := ht.n
  have hlen := ht.len
  refine AC_introA A_r4_Jac_comp rfl mixed (fun _ => False) (by simp [get_nil]) ?_
  refine evx (And.intro @A_r4_Jac.eq_1 @opsD.eq_1) ?_
  have hm0 : (t.ops.length : Int) * 8 ≤ 281474976710656 := by omega
  refine ⟨hm0, by omega, ?_⟩
  rw [outC_zero t.ops.length (dG t x), ← fillR_zero (rG t x)]
  refine WA_forW (n := t.ops.length) (fun c s => ∃ i, c + i = t.ops.length ∧ s = rT0 t x i) (Le.refl _) ⟨0, by omega, rfl⟩ ?_
  rintro c s ⟨i, hc, rfl⟩
  have hrl := fillR_len (rG t x) t.ops.length i
  have hol := outC_len t.ops.length (dG t x) i
  refine evx (And.intro @A_r4_Jac_L0.eq_1 @opsD.eq_1) ?_
  refine condC_intro (fun h => ?_) (fun h => ?_)
  · replace h := of_decide_eq_true h
    have hop := ht.op i h
    have hra := regs_last t x i
    have hda := drs_last t x i
    rw [← regs_pre t x (i + 1) t.ops.length i (by omega) (by omega)] at hra
    rw [← drs_pre t x (i + 1) t.ops.length i (by omega) (by omega)] at hda
    generalize ho : t.ops.getD i ⟨0, 0, 0, 0⟩ = o at hop hra hda
    have hs := fillR_set (rG t x) t.ops.length i h
    have rget : ∀ j, j < i → (rowV (fillR (rG t x) t.ops.length i)).getD j .any = fl (rG t x j) := fun j hj => by
      rw [getD_map_fl _ _ (by omega)]
      simp [fillR, List.getD_eq_getElem?_getD, hj, show j < t.ops.length by omega]
    generalize fillR (rG t x) t.ops.length i = R at hrl hs rget
    refine evx (And.intro @opG.eq_1 (And.intro ho @opsD.eq_1)) ?_
    (repeat (with_reducible refine And.intro (by omega) ?_))
    (repeat (with_reducible refine And.intro (by omega) ?_))
    (repeat (with_reducible refine And.intro (by omega) ?_))
    rcases hop with hk | ⟨hk, ha⟩ | ⟨hk, ha, hb⟩
    · refine evx hk ?_
      refine ⟨by omega, ⟨hrl, by omega⟩, ?_⟩
      have e : o.c = rG t x i := by rw [rG, hra]; simp [opV, hk]
      rw [wrapI (by omega) (by omega), e, hs]
      rw [slo_const _ _ _ _ _ hk] at hda
      exact ⟨c - 1, _, by omega, r4_next t x i _ _ hda (by simp), i + 1, by omega, rfl⟩
    · refine evbx (And.intro hk (outC_set_self t.ops.length (dG t x) i (V.sl 19 0 0 t.n 1 t.n) h)) ?_
      repeat (with_reducible refine And.intro (by omega) ?_)
      have e : x.getD o.a.toNat 0 = rG t x i := by rw [rG, hra]; simp [opV, hk]
      rw [wrapI (by omega) (by omega), e, hs]
      rw [slo_var _ _ _ _ _ hk ha] at hda
      exact ⟨c - 1, _, by omega, r4_next t x i _ _ hda (by simp), i + 1, by omega, rfl⟩
    · have r1 := rget o.a.toNat (by omega)
      have r2 := rget o.b.toNat (by omega)
      have p1 := regs_pre t x i t.ops.length o.a.toNat (by omega) (by omega)
      have p2 := regs_pre t x i t.ops.length o.b.toNat (by omega) (by omega)
      have hvv : opV o x (regs t x i) = rG t x i := by rw [rG, hra]
      rw [hvv] at hda
      have hk4 := hk
      rcases hk with hk | hk | hk | hk
      · refine evbx (And.intro hk (And.intro r1 r2)) ?_
        repeat (with_reducible refine And.intro (by omega) ?_)
        have e : fop .add (rG t x o.a.toNat) (rG t x o.b.toNat) = rG t x i := by
          rw [← hvv]; unfold rG; rw [p1, p2]; simp [opV, hk]
        rw [e, hs]
        rw [← hk]
        refine r4_L1 t x i o _ ht.n hlen h hk4 ha hb rfl _ ?_
        refine ev ?_
        rw [wrapI (by omega) (by omega)]
        exact ⟨c - 1, _, by omega, r4_next t x i _ _ hda (tabR_len _ _), i + 1, by omega, rfl⟩
      · refine evbx (And.intro hk (And.intro r1 r2)) ?_
        repeat (with_reducible refine And.intro (by omega) ?_)
        have e : fop .sub (rG t x o.a.toNat) (rG t x o.b.toNat) = rG t x i := by
          rw [← hvv]; unfold rG; rw [p1, p2]; simp [opV, hk]
        rw [e, hs]
        rw [← hk]
        refine r4_L1 t x i o _ ht.n hlen h hk4 ha hb rfl _ ?_
        refine ev ?_
        rw [wrapI (by omega) (by omega)]
        exact ⟨c - 1, _, by omega, r4_next t x i _ _ hda (tabR_len _ _), i + 1, by omega, rfl⟩
      · refine evbx (And.intro hk (And.intro r1 r2)) ?_
        repeat (with_reducible refine And.intro (by omega) ?_)
        have e : fop .mul (rG t x o.a.toNat) (rG t x o.b.toNat) = rG t x i := by
          rw [← hvv]; unfold rG; rw [p1, p2]; simp [opV, hk]
        rw [e, hs]
        rw [← hk]
        refine r4_L1 t x i o _ ht.n hlen h hk4 ha hb rfl _ ?_
        refine ev ?_
        rw [wrapI (by omega) (by omega)]
        exact ⟨c - 1, _, by omega, r4_next t x i _ _ hda (tabR_len _ _), i + 1, by omega, rfl⟩
      · refine evbx (And.intro hk (And.intro r1 r2)) ?_
        repeat (with_reducible refine And.intro (by omega) ?_)
        have e : fop .div (rG t x o.a.toNat) (rG t x o.b.toNat) = rG t x i := by
          rw [← hvv]; unfold rG; rw [p1, p2]; simp [opV, hk]
        rw [e, hs]
        rw [← hk]
        refine r4_L1 t x i o _ ht.n hlen h hk4 ha hb rfl _ ?_
        refine ev ?_
        rw [wrapI (by omega) (by omega)]
        exact ⟨c - 1, _, by omega, r4_next t x i _ _ hda (tabR_len _ _), i + 1, by omega, rfl⟩
  · replace h := of_decide_eq_false h
    have e : i = t.ops.length := by omega
    subst e
    refine ev ?_
    have hjl := jacT_len t x
    have hgl := ht.outl
    refine WA_forW (n := t.n) (fun c s => ∃ i, c + i = t.n ∧ s = ⟨[(2, .ptr 0 0 0 3), (6, .sl 8 0 0 t.ops.length 1 t.ops.length), (10, .sl 20 0 0 i 1 i), (11, fI i)],
      [(21, ((jacT t x).take i).map rowV), (20, [hdo 21 0 i t.n]), (8, [outC t.ops.length (dG t x) t.ops.length]), (4, [rowV (fillR (rG t x) t.ops.length t.ops.length)]), (0, [jtT t])]⟩)
      (s0 := ⟨_, _⟩) (Le.trans (LeT.nilrow (X := 20) (esz := 1) (as' := [(2, .ptr 0 0 0 3), (6, .sl 8 0 0 t.ops.length 1 t.ops.length), (10, .sl 20 0 0 0 1 0), (11, fI 0)]) (by simp [fam_cons, fam_nil]) (fun h => h) fun i => ?_) (LeT.empty (X := 21) (L1 := []) (by simp [fam_cons, fam_nil]))) ⟨0, by omega, rfl⟩ ?_
    · simp only [look]
      repeat' split
      all_goals simp
    rintro c s ⟨i, hc, rfl⟩
    refine evx @A_r4_Jac_L2.eq_1 ?_
    refine condC_intro (fun hi => ?_) (fun hi => ?_)
    · replace hi := of_decide_eq_true hi
      have hgo := ht.out i hi
      have hcell : (outC t.ops.length (dG t x) t.ops.length).getD (t.out.getD i 0).toNat .any = .d (dG t x (t.out.getD i 0).toNat) := by
        rw [outC_get, if_pos (by omega), if_pos (by omega)]
      have hjr : (jacT t x).getD i [] = (drs t x t.ops.length).getD (t.out.getD i 0).toNat [] := by
        unfold jacT
        rw [List.getD_eq_getElem?_getD, List.getElem?_map, List.getElem?_range hi]; rfl
      have hrl : ((jacT t x).getD i []).length = t.n := by rw [hjr]; exact drs_rows t x _ _ (by omega)
      have hdg : dG t x (t.out.getD i 0).toNat = rowD ((jacT t x).getD i []) := by rw [hjr]; rfl
      rw [hdg] at hcell
      refine evx hcell ?_
      (repeat (with_reducible refine And.intro (by omega) ?_))
      have hti : ((jacT t x).take i).length = i := by simp [hjl]; omega
      have hk1 : ∀ L : Heap, L.fam 21 = some (((jacT t x).take i).map rowV) → KpA L (hdo 21 0 i t.n) := fun L hL => KpA_hdoF hL (by omega)
      have htf := take_fam (jacT t x) i (by omega)
      rw [hrl, wrapI (by omega) (by omega)]
      refine ⟨c - 1, _, by omega, ?_, i + 1, by omega, rfl⟩
      rw [← htf]
      generalize (jacT t x).take i = B at hti hk1
      refine Le.trans (LeT.only (L' := [(23, [rowV ((jacT t x).getD i [])]), (21, B.map rowV), (20, [hdo 21 0 i t.n ++ [.sl 23 0 0 t.n 1 t.n]]), (8, [outC t.ops.length (dG t x) t.ops.length]), (4, [rowV (fillR (rG t x) t.ops.length t.ops.length)]), (0, [jtT t])])
        (fun X => X != 33) (fun _ h => h) rfl (by simp (maxDischargeDepth := 6) [kpS, fam_cons, fam_nil]) (by simp (maxDischargeDepth := 6) [kpS, fam_cons, fam_nil, hk1])) ?_
      have := LeT.absorb (N := fun _ => False) (nt := 191) (Y := 23) (X := 21) (cells := rowV ((jacT t x).getD i [])) (fam := B.map rowV) (L := [(20, [hdo 21 0 i t.n ++ [.sl 23 0 0 t.n 1 t.n]]), (8, [outC t.ops.length (dG t x) t.ops.length]), (4, [rowV (fillR (rG t x) t.ops.length t.ops.length)]), (0, [jtT t])])
        (sls := [(2, .ptr 0 0 0 3), (6, .sl 8 0 0 t.ops.length 1 t.ops.length), (10, .sl 20 0 0 (i + 1) 1 (i + 1)), (11, fI (i + 1 : Nat))]) (by decide) (by simp [fam_cons, fam_nil]) (by simp [fam_cons, fam_nil]) (fun h => h)
      have e2 : (B.map rowV).length = i := by rw [List.length_map]; exact hti
      have e3 : Heap.renH (absF 23 21 i) [(20, [hdo 21 0 i t.n ++ [.sl 23 0 0 t.n 1 t.n]]), (8, [outC t.ops.length (dG t x) t.ops.length]), (4, [rowV (fillR (rG t x) t.ops.length t.ops.length)]), (0, [jtT t])] =
          [(20, [hdo 21 0 (i + 1) t.n]), (8, [outC t.ops.length (dG t x) t.ops.length]), (4, [rowV (fillR (rG t x) t.ops.length t.ops.length)]), (0, [jtT t])] := by
        simp only [Heap.renH, List.map_cons, List.map_nil, hdo_absorbL 23 21 _ _ (by decide), ren_rowV, outC_all, ren_dcells]
        simp [V.ren]
      rw [e2, ren_fam, ren_rowV, e3] at this
      exact this
    · replace hi := of_decide_eq_false hi
      have e : i = t.n := by omega
      subst e
      refine ev ?_
      have e : (jacT t x).take t.n = jacT t x := List.take_of_length_le (by omega)
      have hk1 : ∀ L : Heap, L.fam 21 = some ((jacT t x).map rowV) → KpA L (hdo 21 0 t.n t.n) := fun L hL => KpA_hdoF hL (by omega)
      rw [e]
      exact endsT_only (fun X => X == 21 || X == 20) (fun _ h => h) (resV_tmpI (t := 4) (by decide) rfl) rfl (by simp (maxDischargeDepth := 6) [kpS, fam_cons, fam_nil]) (by simp (maxDischargeDepth := 6) [kpS, fam_cons, fam_nil, hk1])
end Go.Ab
namespace Go.Ab
set_option linter.unusedSimpArgs false
set_option linter.unusedVariables false
open Go Go.Proofs
def Rk (m k : Nat) (Z : List (List Nat)) : Prop := Z.length = m ∧ ∀ r, r < m → (Z.getD r []).length = k
theorem Rk_up2 {m k : Nat} {Z : List (List Nat)} (h : Rk m k Z) (i j v : Nat) : Rk m k (up2 Z i j v) := by
  refine ⟨by simp [up2, h.1], fun r hr => ?_⟩
  have := h.2 r hr
  simp only [up2, List.getD_eq_getElem?_getD, List.getElem?_set]
  by_cases e : i = r
  · subst e
    have hl : i < Z.length := by rw [h.1]; exact hr
    have hr2 := h.2 i hr
    rw [List.getD_eq_getElem?_getD] at hr2
    simp only [hl, List.getElem?_eq_getElem, Option.getD_some] at hr2
    simp [hl, hr2]
  · rw [if_neg e, ← List.getD_eq_getElem?_getD]; exact this
theorem cf_word (s : Bool) (r : Nat) (h : r < 9218868437227405312) : cf (Ieee.double.word s r) = Ieee.double.word s r := cf_not (isNan_word s r h)
theorem cw_word (s : Bool) (r : Nat) (h : r ≤ 9218868437227405312) : cw (cf (Ieee.double.word s r)) := by
  by_cases e : r = 9218868437227405312
  · subst e
    cases s
    · exact .inr (.inl (by decide +kernel))
    · exact .inr (.inr (.inl (by decide +kernel)))
  · exact .inr (.inr (.inr ⟨s, r, by omega, cf_word s r (by omega)⟩))
theorem cw_write (d : Ieee.Datum) : cw (cf (Ieee.double.write d)) := by
  cases d with
  | number s m i =>
    show cw (cf (Ieee.double.nearest s m i))
    unfold Ieee.Format.nearest
    have q4 : Ieee.double.infRung = 9218868437227405312 := rfl
    split
    · exact cw_word s 0 (by decide)
    · simp only [q4]; exact cw_word s _ (Nat.min_le_right _ _)
  | infinity s => exact cw_word s _ (Nat.le_refl _)
  | nan s t =>
    have q3 : Ieee.double.binade = 4503599627370496 := rfl
    have q4 : Ieee.double.infRung = 9218868437227405312 := rfl
    show cw (cf (Ieee.double.word s (Ieee.double.infRung + t % Ieee.double.binade)))
    rw [q3, q4]
    by_cases h : t % 4503599627370496 = 0
    · rw [h]; exact cw_word s _ (by decide)
    · refine .inl (cf_nan ?_)
      have hs : s.toNat ≤ 1 := by cases s <;> decide
      unfold isNan
      rw [word_eq]
      simp only [decide_eq_true_eq]
      omega
theorem fop_cw (o : FOp) (x y : Nat) : cw (fop o x y) := by
  have key : ∀ r : Option Ieee.Datum, cw (((r.map Ieee.double.write).map cf).getD qnan) := fun r => by
    cases r with
    | none => exact .inl rfl
    | some d => exact cw_write d
  unfold fop
  cases o <;> exact key _
theorem cw_zero : cw 0 := .inr (.inr (.inr ⟨false, 0, by decide, rfl⟩))
def Cw (Z : List (List Nat)) : Prop := ∀ r i, cw (at2 Z r i)
theorem at2_up2 (A : List (List Nat)) (i j v r c : Nat) : at2 (up2 A i j v) r c = if r = i ∧ c = j ∧ i < A.length ∧ j < (A.getD i []).length then v else at2 A r c := by
  unfold at2 up2
  simp only [List.getD_eq_getElem?_getD, List.getElem?_set]
  by_cases e : i = r
  · subst e
    by_cases h1 : i < A.length
    · simp only [h1, if_true, Option.getD_some, true_and, List.getElem?_set]
      by_cases e2 : j = c
      · subst e2
        by_cases h2 : j < (A[i]?.getD []).length
        · simp [h2]
        · simp only [h2, if_false, and_false, if_true]
          simp [show A[i].length ≤ j by simp [h1] at h2; omega, h1]
      · simp only [e2, if_false, h1, List.getElem?_eq_getElem, Option.getD_some]
        rw [if_neg (fun h => e2 h.1.symm)]
    · simp only [h1, if_true, if_false, false_and, and_false]
      simp [show A.length ≤ i by omega]
  · rw [if_neg e, if_neg (fun h => e h.1.symm)]
theorem Cw_up2 {Z : List (List Nat)} (h : Cw Z) (i j v : Nat) (hv : cw v) : Cw (up2 Z i j v) := fun r c => by
  rw [at2_up2]; split
  · exact hv
  · exact h r c
def addI (Z : List (List Nat)) (k : Nat) : Nat → List (List Nat)
  | 0 => Z
  | i + 1 => up2 (addI Z k i) k i (fop .add (at2 (addI Z k i) k i) (at2 (addI Z k i) (k + 1) i))
def predK (Z : List (List Nat)) (n hi : Nat) : Nat → List (List Nat)
  | 0 => Z
  | c + 1 => addI (predK Z n hi c) (hi - c) n
def predJ (Z : List (List Nat)) (n q : Nat) : Nat → List (List Nat)
  | 0 => Z
  | j + 1 => predK (predJ Z n q j) n (q - 1) (q - j)
def predP (Z : List (List Nat)) (n q : Nat) : List (List Nat) := predJ Z n q q
def mapI (g : Nat → Nat → Nat → Nat) (Z : List (List Nat)) (j : Nat) : Nat → List (List Nat)
  | 0 => Z
  | i + 1 => up2 (mapI g Z j i) j i (g j i (at2 (mapI g Z j i) j i))
def mapJ (g : Nat → Nat → Nat → Nat) (Z : List (List Nat)) (n : Nat) : Nat → List (List Nat)
  | 0 => Z
  | j + 1 => mapI g (mapJ g Z n j) j n
theorem addI_rk {m n : Nat} {Z : List (List Nat)} (h : Rk m n Z) (k i : Nat) : Rk m n (addI Z k i) := by
  induction i with
  | zero => exact h
  | succ i ih => exact Rk_up2 ih _ _ _
theorem predK_rk {m n : Nat} {Z : List (List Nat)} (h : Rk m n Z) (hi c : Nat) : Rk m n (predK Z n hi c) := by
  induction c with
  | zero => exact h
  | succ c ih => exact addI_rk ih _ _
theorem predJ_rk {m n : Nat} {Z : List (List Nat)} (h : Rk m n Z) (q j : Nat) : Rk m n (predJ Z n q j) := by
  induction j with
  | zero => exact h
  | succ j ih => exact predK_rk ih _ _
theorem mapI_rk {m n : Nat} (g : Nat → Nat → Nat → Nat) {Z : List (List Nat)} (h : Rk m n Z) (j i : Nat) : Rk m n (mapI g Z j i) := by
  induction i with
  | zero => exact h
  | succ i ih => exact Rk_up2 ih _ _ _
theorem mapJ_rk {m n : Nat} (g : Nat → Nat → Nat → Nat) {Z : List (List Nat)} (h : Rk m n Z) (k j : Nat) : Rk m n (mapJ g Z k j) := by
  induction j with
  | zero => exact h
  | succ j ih => exact mapI_rk g ih _ _
theorem addI_cw {Z : List (List Nat)} (h : Cw Z) (k i : Nat) : Cw (addI Z k i) := by
  induction i with
  | zero => exact h
  | succ i ih => exact Cw_up2 ih _ _ _ (fop_cw _ _ _)
theorem predK_cw {Z : List (List Nat)} (h : Cw Z) (n hi c : Nat) : Cw (predK Z n hi c) := by
  induction c with
  | zero => exact h
  | succ c ih => exact addI_cw ih _ _
theorem predJ_cw {Z : List (List Nat)} (h : Cw Z) (n q j : Nat) : Cw (predJ Z n q j) := by
  induction j with
  | zero => exact h
  | succ j ih => exact predK_cw ih _ _ _
theorem mapI_cw {g : Nat → Nat → Nat → Nat} (hg : ∀ j i x, cw x → cw (g j i x)) {Z : List (List Nat)} (h : Cw Z) (j i : Nat) : Cw (mapI g Z j i) := by
  induction i with
  | zero => exact h
  | succ i ih => exact Cw_up2 ih _ _ _ (hg _ _ _ (ih _ _))
theorem mapJ_cw {g : Nat → Nat → Nat → Nat} (hg : ∀ j i x, cw x → cw (g j i x)) {Z : List (List Nat)} (h : Cw Z) (n j : Nat) : Cw (mapJ g Z n j) := by
  induction j with
  | zero => exact h
  | succ j ih => exact mapI_cw hg ih _ _
theorem mapI_at {m n : Nat} (g : Nat → Nat → Nat → Nat) {Z : List (List Nat)} (h : Rk m n Z) (j i : Nat) (hj : j < m) (hi : i ≤ n) : ∀ r c, at2 (mapI g Z j i) r c = if r = j ∧ c < i then g j c (at2 Z j c) else at2 Z r c := by
  induction i with
  | zero => intro r c; simp [mapI]
  | succ i ih =>
    intro r c
    have hk := mapI_rk g h j i
    have ih := ih (by omega)
    show at2 (up2 (mapI g Z j i) j i (g j i (at2 (mapI g Z j i) j i))) r c = _
    have e0 : at2 (mapI g Z j i) j i = at2 Z j i := by rw [ih j i, if_neg (by omega)]
    rw [at2_up2, e0, ih r c, hk.1, hk.2 j hj]
    by_cases e : r = j
    · subst e
      by_cases e2 : c = i
      · subst e2
        rw [if_pos ⟨rfl, rfl, hj, by omega⟩, if_pos ⟨rfl, by omega⟩]
      · rw [if_neg (by omega)]
        by_cases e3 : c < i
        · rw [if_pos ⟨rfl, e3⟩, if_pos ⟨rfl, by omega⟩]
        · rw [if_neg (by omega), if_neg (by omega)]
    · rw [if_neg (by omega), if_neg (by omega), if_neg (by omega)]
theorem mapJ_at {m n : Nat} (g : Nat → Nat → Nat → Nat) {Z : List (List Nat)} (h : Rk m n Z) (k : Nat) (hk : k ≤ m) : ∀ r c, at2 (mapJ g Z n k) r c = if r < k ∧ c < n then g r c (at2 Z r c) else at2 Z r c := by
  induction k with
  | zero => intro r c; simp [mapJ]
  | succ k ih =>
    intro r c
    have ih := ih (by omega)
    show at2 (mapI g (mapJ g Z n k) k n) r c = _
    have e0 : at2 (mapJ g Z n k) k c = at2 Z k c := by rw [ih k c, if_neg (by omega)]
    rw [mapI_at g (mapJ_rk g h n k) k n (by omega) (Nat.le_refl _), e0, ih r c]
    by_cases e : r = k
    · subst e
      by_cases e2 : c < n
      · rw [if_pos ⟨rfl, e2⟩, if_pos ⟨by omega, e2⟩]
      · rw [if_neg (by omega), if_neg (by omega), if_neg (by omega)]
    · rw [if_neg (by omega)]
      by_cases e2 : r < k ∧ c < n
      · rw [if_pos e2, if_pos ⟨by omega, e2.2⟩]
      · rw [if_neg e2, if_neg (by omega)]
theorem Rk_ext {m n : Nat} {A B : List (List Nat)} (hA : Rk m n A) (hB : Rk m n B) (h : ∀ r c, r < m → c < n → at2 A r c = at2 B r c) : A = B := by
  refine List.ext_getElem (hA.1.trans hB.1.symm) fun r h1 h2 => ?_
  have hr : r < m := by have := hA.1; omega
  have e1 := hA.2 r hr
  have e2 := hB.2 r hr
  have g1 : A.getD r [] = A[r] := by simp [List.getD_eq_getElem?_getD, h1]
  have g2 : B.getD r [] = B[r] := by simp [List.getD_eq_getElem?_getD, h2]
  rw [g1] at e1
  rw [g2] at e2
  refine List.ext_getElem (e1.trans e2.symm) fun c h3 h4 => ?_
  have k1 := h r c hr (by omega)
  unfold at2 at k1
  rw [g1, g2] at k1
  simpa [List.getD_eq_getElem?_getD, h3, h4] using k1
def corrP (Z : List (List Nat)) (l d : List Nat) (m n : Nat) : List (List Nat) := mapJ (fun k i x => fop .add x (fop .mul (l.getD k 0) (d.getD i 0))) Z n m
def scaleP (Z : List (List Nat)) (k : Int) (m n : Nat) : List (List Nat) := mapJ (fun j _ x => scl x (j * k)) Z n m
theorem scale_zero {Z : List (List Nat)} {m n : Nat} (h : Rk m n Z) (hc : Cw Z) : scaleP Z 0 m n = Z := by
  refine Rk_ext (mapJ_rk _ h _ _) h fun r c hr hc' => ?_
  unfold scaleP
  rw [mapJ_at _ h m (Nat.le_refl _), if_pos ⟨hr, hc'⟩, Int.mul_zero]
  exact scl_zero (hc r c)
theorem corrP_rk {m n : Nat} {Z : List (List Nat)} (h : Rk m n Z) (l d : List Nat) (a b : Nat) : Rk m n (corrP Z l d a b) := mapJ_rk _ h _ _
theorem scaleP_rk {m n : Nat} {Z : List (List Nat)} (h : Rk m n Z) (k : Int) (a b : Nat) : Rk m n (scaleP Z k a b) := mapJ_rk _ h _ _
theorem predP_rk {m n : Nat} {Z : List (List Nat)} (h : Rk m n Z) (q : Nat) : Rk m n (predP Z n q) := predJ_rk h _ _
theorem corrP_cw {Z : List (List Nat)} (h : Cw Z) (l d : List Nat) (m n : Nat) : Cw (corrP Z l d m n) := mapJ_cw (fun _ _ _ _ => fop_cw _ _ _) h _ _
theorem cw_lt {b : Nat} (h : b < 2 ^ 64) : cw (cf b) := by
  by_cases hn : isNan b = true
  · exact .inl (cf_nan hn)
  · have hr : b % 9223372036854775808 ≤ 9218868437227405312 := by
      unfold isNan at hn; simp at hn; exact hn
    have e : b = Ieee.double.word (decide (9223372036854775808 ≤ b)) (b % 9223372036854775808) := by
      rw [word_eq]
      by_cases h1 : 9223372036854775808 ≤ b
      · simp [h1]; omega
      · simp [h1]; omega
    rw [e]
    exact cw_word _ _ hr
theorem cw_csign (f : Nat) : cw (csign 0 f) := by
  unfold csign
  have := bitsOp_u64 .or (bitsOp .andNot .u64 ((0 : Nat) : Int) 9223372036854775808) (bitsOp .and .u64 (f : Int) 9223372036854775808)
  exact cw_lt (by omega)
theorem scl_cw (x : Nat) (k : Int) (h : cw x) : cw (scl x k) := by
  unfold scl
  split
  · exact h
  split
  · exact h
  simp only
  split
  · exact cw_csign _
  split
  · split
    · exact .inr (.inr (.inl rfl))
    · exact .inr (.inl rfl)
  split
  · exact fop_cw _ _ _
  · exact fop_cw _ _ _
theorem scaleP_cw {Z : List (List Nat)} (h : Cw Z) (k : Int) (m n : Nat) : Cw (scaleP Z k m n) := mapJ_cw (fun _ _ x hx => scl_cw x _ hx) h _ _
theorem predP_cw {Z : List (List Nat)} (h : Cw Z) (n q : Nat) : Cw (predP Z n q) := predJ_cw h _ _ _
def startZ (t : Tp) (y : List Nat) (h : Nat) : List (List Nat) := [y, tabR (fun i => fop .mul h ((evalT t y).getD i 0)) t.n]
theorem snap_box {L : Heap} {X : Nat} {x : D} (h : L.get X 0 = some [.d x]) : Snap L (.ptr X 0 0 1) (.d (.bptr [x])) :=
  .ptr h rfl (by simp) (by simp) fun j hj => by
    rcases j with _ | j
    · exact .d x
    · simp at hj
end Go.Ab
namespace Go.Ab
set_option linter.unusedSimpArgs false
set_option linter.unusedVariables false
open Nat renaming reduceEqDiff → n1_, reduceAdd → n2_, reduceMul → n3_, reduceLT → n4_, reduceLeDiff → n5_
open Int renaming reduceToNat → i1_, reduceAdd → i2_, reduceSub → i3_, reduceMul → i4_, reduceNeg → i5_, reduceLT → i6_, reduceLE → i7_
open Go Go.Proofs
def A_jac_Norm_L0 : CA := (.seq (.reg [i_N 0 12 .lss 11 10] [3, 4, 10, 11, 12]) (.seq (.cond (.t 12) .skip (.exit 0)) (.seq (.block 1 (.seq (.reg [i_M 0 13 11, i_M 1 5 13] [3, 4, 5, 10, 11]) (.seq (.reg [i_M 0 14 3, i_M 1 15 5, i_X 2 16 (.callA (.t 14) [(.t 15)]), i_M 3 6 16] [3, 4, 5, 6, 10, 11]) (.seq (.seq (.reg [i_M 0 17 6, i_X 1 18 (.callA (kF 88) [(.t 17)])] [3, 4, 5, 6, 10, 11, 18]) (.cond (.t 18) (.seq (.reg [i_X 0 19 (.callA (kF 91) [(kI 1)]), i_M 1 2 19] [2]) .ret) .skip)) (.seq (.reg [i_M 0 20 5, i_B 1 21 .eql 20 0, i_M 2 22 21, ⟨3, (some 23), (some (22, false)), [], [], (.h (.mov (.t 6)))⟩, ⟨4, (some 24), (some (22, false)), [], [], (.h (.mov (.t 4)))⟩, ⟨5, (some 25), (some (22, false)), [], [], (.h (.fcmp .gt (.t 23) (.t 24)))⟩, i_X 6 26 (.h (.pick (.t 22) (.k (.d (.bool true))) (.t 25)))] [3, 4, 6, 10, 11, 26]) (.cond (.t 26) (.reg [i_M 0 27 6, i_M 1 4 27] [3, 4, 10, 11]) .skip)))))) (.reg [i_B 0 28 .add 11 1, i_M 1 11 28] [3, 4, 10, 11]))))
def A_jac_Norm : CA := (.seq (.reg [i_X 0 1 (.box (.t 0) 1 95), i_X 1 2 (.h (.mov (.k (.d (.flt 0)))))] [1]) (.seq (.reg [i_X 0 7 (.h (.mkfn 95 [] [(.t 1)])), i_M 1 3 7] [1, 3]) (.seq (.reg [i_X 0 8 (.callA (kF 91) [(.k (.d (.int .i64 (-1))))]), i_M 1 4 8] [1, 3, 4]) (.seq (.seq (.reg [i_L 0 9 1 1, i_X 1 10 (.h (.len (.t 9))), i_K 2 11 0] [3, 4, 10, 11]) (.block 0 (.loop A_jac_Norm_L0))) (.seq (.reg [i_M 0 29 4, i_M 1 2 29] [2]) .ret)))))
theorem A_jac_Norm_comp : compF Tryz.prog 43 = some ⟨30, [(2, none)], A_jac_Norm.strip⟩ := by kernel_rfl
def A_jac_Norm_1_L0 : CA := (.seq (.reg [i_N 0 21 .lss 20 19] [0, 4, 18, 19, 20, 21]) (.seq (.cond (.t 21) .skip (.exit 0)) (.seq (.block 1 (.seq (.reg [i_M 0 22 20, i_I 1 23 18 20 2, i_A 2 24 23 2, i_X 3 6 (.alloc [(.d (.flt 0)), (.d (.flt 0))] 58), i_M 4 5 22, i_S 5 6 24 2] [0, 4, 5, 6, 18, 19, 20]) (.seq (.reg [i_M 0 25 5, i_M 1 26 0, i_N 2 27 .neq 25 26] [0, 4, 6, 18, 19, 20, 27]) (.cond (.t 27) (.reg [i_M 0 28 4, i_A 1 29 6 2, i_X 2 30 (.callA (kF 81) [(.t 29)]), i_F 3 31 .add 28 30, i_X 4 32 (.callA (kF 40) [(.t 31)]), i_M 5 4 32] [0, 4, 18, 19, 20]) .skip)))) (.reg [i_B 0 33 .add 20 1, i_M 1 20 33] [0, 4, 18, 19, 20]))))
def A_jac_Norm_1 : CA := (.seq (.reg [i_X 0 3 (.h (.mov (.k (.d (.flt 0)))))] [0, 1]) (.seq (.reg [i_L 0 7 1 1, i_M 1 8 0, i_I 2 9 7 8 1, i_L 3 10 9 1, i_M 4 11 0, i_I 5 12 10 11 2, i_P 6 13 12 1, i_L 7 14 13 1, i_M 8 4 14] [0, 1, 4]) (.seq (.seq (.reg [i_L 0 15 1 1, i_M 1 16 0, i_I 2 17 15 16 1, i_L 3 18 17 1, i_X 4 19 (.h (.len (.t 18))), i_K 5 20 0] [0, 4, 18, 19, 20]) (.block 0 (.loop A_jac_Norm_1_L0))) (.seq (.reg [i_M 0 34 4, i_M 1 3 34] [3]) .ret))))
theorem A_jac_Norm_1_comp : compF Tryz.prog 95 = some ⟨35, [(3, none)], A_jac_Norm_1.strip⟩ := by kernel_rfl
set_option maxRecDepth 8000 in
theorem jac_Norm1_con (J : List (List Iv)) (n i : Nat) (hJ : J.length = n) (hr : ∀ i, i < n → (J.getD i []).length = n) (hn : n < 2 ^ 40) (hi : i < n) : Con Tryz.prog 95 [fI i, .d (.bptr [ivsD J])] (fl (rowS (J.getD i []) i n)) := by
  have hl := hr i hi
  refine Con_introA A_jac_Norm_1_comp rfl mixed ?_
  refine evx @A_jac_Norm_1.eq_1 ?_
  refine evx (And.intro @ivsD.eq_1 (And.intro @ivD.eq_1 @ivG_eq)) ?_
  (repeat (with_reducible refine And.intro (by omega) ?_))
  generalize J.getD i [] = l at hl ⊢
  refine WA_forW (n := n) (fun c s => ∃ k, c + k = n ∧ s = ⟨[(0, fI i), (4, fl (rowS l i k)), (18, .d (ivD l)), (19, fI n), (20, fI k)], []⟩) (s0 := ⟨_, _⟩) (by rw [← hl]; exact Le.refl _) ⟨0, by omega, rfl⟩ ?_
  rintro c s ⟨k, hc, rfl⟩
  refine evx @A_jac_Norm_1_L0.eq_1 ?_
  refine condC_intro (fun h => ?_) (fun h => ?_)
  · replace h := of_decide_eq_true h
    have hk : k < n := by omega
    refine evx (And.intro @ivD.eq_1 @ivG_eq) ?_
    (repeat (with_reducible refine And.intro (by omega) ?_))
    by_cases hki : k = i
    · subst hki
      refine ev ?_
      rw [wrapI (by omega) (by omega)]
      have e : rowS l k (k + 1) = rowS l k k := by rw [rowS, if_pos rfl]
      refine ⟨c - 1, _, by omega, LeT.only (fun X => false) (fun _ h => h) rfl (by simp [kpS]) (by simp [kpS]), k + 1, by omega, ?_⟩
      rw [e]; rfl
    · have h2 : ((k : Int) != (i : Int)) = true := by simp; omega
      refine evx h2 ?_
      refine callG_con (iv_Mag_con (l.getD k (0, 0))) rfl ?_
      refine ev ?_
      refine callG_con (fp_Up_con _) rfl ?_
      refine ev ?_
      rw [wrapI (by omega) (by omega)]
      have e : rowS l i (k + 1) = up (fop .add (rowS l i k) (ivMag (mG l k))) := by rw [rowS, if_neg hki]
      refine ⟨c - 1, _, by omega, LeT.only (fun X => false) (fun _ h => h) rfl (by simp [kpS]) (by simp [kpS]), k + 1, by omega, ?_⟩
      rw [e]; rfl
  · replace h := of_decide_eq_false h
    obtain rfl : k = n := by omega
    refine ev ?_
    exact endsT_rett rfl (by decide) (by simp [look])
theorem cw_ninf {s : Nat} (h : cw s) (hn : isNan s = false) (hg : fcmp .gt s fninf = false) : s = fninf := by
  have rd : Ieee.double.read fninf = .infinity true := by decide
  rcases h with rfl | rfl | rfl | ⟨b, r, hr, rfl⟩
  · have : isNan qnan = true := by decide
    rw [this] at hn; cases hn
  · have : fcmp .gt finf fninf = true := by decide
    rw [this] at hg; cases hg
  · rfl
  · obtain ⟨s', m, i, hd⟩ := fin_word b r hr
    have : fcmp .gt (Ieee.double.word b r) fninf = true := by simp [fcmp, Ieee.Format.order, hd, rd, Ieee.Datum.order]
    rw [this] at hg; cases hg
def Jcw (J : List (List Iv)) : Prop := ∀ i, cw (mG (J.getD i []) i).2
theorem up_cw {x : Nat} (h : cw x) : cw (up x) := by
  have key : ∀ b : Int, cw (cf (IntKind.wrap .u64 b).toNat) := fun b => cw_lt (by have := wrap_u64_range b; omega)
  unfold up nextF
  repeat' split
  · exact .inl rfl
  · exact h
  · exact cw_lt (by decide)
  · exact key _
  · exact key _
theorem rowS_cw (l : List Iv) (i k : Nat) (h : cw (mG l i).2) : cw (rowS l i k) := by
  induction k with
  | zero => exact h
  | succ k ih =>
    rw [rowS]; split
    · exact ih
    · exact up_cw (fop_cw _ _ _)
set_option maxRecDepth 8000 in
theorem jac_Norm_con (J : List (List Iv)) (n : Nat) (hJ : J.length = n) (hr : ∀ i, i < n → (J.getD i []).length = n) (hn : n < 2 ^ 40) (hcw : Jcw J) : Con Tryz.prog 43 [.d (ivsD J)] (fl (normI J)) := by
  have e1 : normI J = (normK J n).getD finf := by unfold normI; rw [hJ]
  rw [e1]
  refine Con_introA A_jac_Norm_comp rfl mixed ?_
  refine evx @A_jac_Norm.eq_1 ?_
  refine callG_con (math_Inf_neg) rfl ?_
  simp -implicitDefEqProofs only [evI, hv, effC, reduceCtorEq, ↓reduceIte, n1_, n2_, n3_, n4_, n5_, i1_, i2_, i3_, i4_, i5_, i6_, i7_, ivsD, fnOf, allD]
  refine WA_forW (n := n) (fun c s => ∃ i b, c + i = n ∧ normK J i = some b ∧ (i = 0 → b = fninf) ∧ s = ⟨[(3, .fn 95 [] [.ptr 0 0 0 1]), (4, fl b), (10, fI n), (11, fI i)], [(0, [[.d (ivsD J)]])]⟩) (s0 := ⟨_, _⟩) (by rw [← hJ]; exact Le.refl _) ⟨0, fninf, by omega, rfl, fun _ => rfl, rfl⟩ ?_
  rintro c s ⟨i, b, hc, hb, hb0, rfl⟩
  refine evx @A_jac_Norm_L0.eq_1 ?_
  refine condC_intro (fun h => ?_) (fun h => ?_)
  · replace h := of_decide_eq_true h
    have hi : i < n := by omega
    have hs : ∀ s, rowS (J.getD i []) i n = s → normK J (i + 1) = if isNan s = true then none else some (if fcmp .gt s b = true then s else b) := fun s e => by
      rw [normK, hb, hJ, e]
    have hk := jac_Norm1_con J n i hJ hr hn hi
    have hc1 := rowS_cw (J.getD i []) i n (hcw i)
    refine ev ?_
    refine callG_snaps [fI i, .d (.bptr [ivsD J])] hk ⟨.bare _, snap_box rfl, trivial⟩ (.flt _) ?_
    generalize hs1 : rowS (J.getD i []) i n = s at hc1 ⊢
    have hs2 := hs s hs1
    refine ev ?_
    refine callG_con (math_IsNaN_con s) rfl ?_
    refine ev ?_
    refine condC_intro (fun h3 => ?_) (fun h3 => ?_)
    · rw [if_pos h3] at hs2
      refine ev ?_
      refine callG_con (math_Inf_pos) rfl ?_
      refine ev ?_
      have : normK J n = none := by
        have key : ∀ m, i + 1 ≤ m → normK J m = none := fun m hm => by
          induction m with
          | zero => omega
          | succ m ih =>
            by_cases e : i = m
            · subst e; exact hs2
            · rw [normK, ih (by omega)]
        exact key n (by omega)
      rw [this]
      exact endsT_rett rfl (by decide) (by simp [look])
    · rw [if_neg (by simp [h3])] at hs2
      by_cases hi0 : i = 0
      · subst hi0
        have hb1 := hb0 rfl
        subst hb1
        refine ev ?_
        rw [wrapI (by omega) (by omega)]
        have e2 : (if fcmp .gt s fninf = true then s else fninf) = s := by
          split
          · rfl
          · rename_i h4; exact (cw_ninf hc1 h3 (by simpa using h4)).symm
        rw [e2] at hs2
        exact ⟨c - 1, _, by omega, Le.refl _, 0 + 1, s, by omega, hs2, fun h => by omega, rfl⟩
      · have h4 : ((i : Int) == 0) = false := by simp; omega
        refine evx h4 ?_
        refine condC_intro (fun h5 => ?_) (fun h5 => ?_)
        · rw [if_pos h5] at hs2
          refine ev ?_
          rw [wrapI (by omega) (by omega)]
          exact ⟨c - 1, _, by omega, Le.refl _, i + 1, s, by omega, hs2, fun h => by omega, rfl⟩
        · rw [if_neg (by simp [h5])] at hs2
          refine ev ?_
          rw [wrapI (by omega) (by omega)]
          exact ⟨c - 1, _, by omega, Le.refl _, i + 1, b, by omega, hs2, fun h => by omega, rfl⟩
  · replace h := of_decide_eq_false h
    obtain rfl : i = n := by omega
    refine ev ?_
    rw [hb]
    exact endsT_rett rfl (by decide) (by simp [look])
set_option maxRecDepth 8000 in
theorem iv_Exp_con (x : Nat) : Con Tryz.prog 98 [fl x] (fl (ivExp x)) := by
  unfold ivExp
  refine Con_introA A_iv_Exp_comp rfl mixed ?_
  refine evx @A_iv_Exp.eq_1 ?_
  refine callG_con (math_IsNaN_con x) rfl ?_
  refine ev ?_
  cases hx : isNan x
  · refine ev ?_
    cases h2 : fcmp .ge x 4647714815446351872
    · refine ev ?_
      rw [if_neg (by decide)]
      generalize hy : ivDiv (pt oneW) (ivSub (pt oneW) (ivDiv (pt x) (pt 4652218415073722368))) = y
      refine callG_con (iv_point_con 4607182418800017408) rfl ?_
      refine ev ?_
      refine callG_con (iv_point_con 4607182418800017408) rfl ?_
      refine ev ?_
      refine callG_con (iv_point_con x) rfl ?_
      refine ev ?_
      refine callG_con (iv_point_con 4652218415073722368) rfl ?_
      refine ev ?_
      refine callG_con (iv_Div_con (pt x) (pt 4652218415073722368)) rfl ?_
      refine ev ?_
      refine callG_con (iv_Sub_con (pt 4607182418800017408) (ivDiv (pt x) (pt 4652218415073722368))) rfl ?_
      refine ev ?_
      refine callG_con (iv_Div_con (pt 4607182418800017408) (ivSub (pt 4607182418800017408) (ivDiv (pt x) (pt 4652218415073722368)))) rfl ?_
      have hy' : ivDiv (pt 4607182418800017408) (ivSub (pt 4607182418800017408) (ivDiv (pt x) (pt 4652218415073722368))) = y := hy
      rw [hy']
      refine ev ?_
      refine WA_for (n := 10) (fun c s => ∃ k, c + k = 10 ∧ s = ⟨[(3, .ptr 8 0 0 2), (19, fI k)], [(8, [[fl (sqI y k).1, fl (sqI y k).2]])]⟩) ⟨0, by omega, rfl⟩ ?_
      rintro c s ⟨k, hc, rfl⟩
      refine evx @A_iv_Exp_L0.eq_1 ?_
      refine condC_intro (fun h => ?_) (fun h => ?_)
      · replace h := of_decide_eq_true h
        refine ev ?_
        refine callG_con (iv_Mul_con (sqI y k) (sqI y k)) rfl ?_
        refine ev ?_
        rw [wrapI (by omega) (by omega)]
        exact ⟨c - 1, by omega, k + 1, by omega, rfl⟩
      · replace h := of_decide_eq_false h
        obtain rfl : k = 10 := by omega
        refine ev ?_
        exact endsT_rett rfl (by decide) (by simp [look])
    · refine ev ?_
      refine callG_con (math_Inf_pos) rfl ?_
      refine ev ?_
      exact endsT_rett rfl (by decide) (by simp [look])
  · refine ev ?_
    refine callG_con (math_Inf_pos) rfl ?_
    refine ev ?_
    exact endsT_rett rfl (by decide) (by simp [look])
end Go.Ab
namespace Go.Ab
set_option linter.unusedSimpArgs false
set_option linter.unusedVariables false
open Go Go.Proofs
abbrev zI : Nat → Iv := fun _ => (0, 0)
end Go.Ab
namespace Go.Ab
set_option linter.unusedSimpArgs false
set_option linter.unusedVariables false
open Go Go.Proofs
def matE (t : Tp) (z : List (List Nat)) (l : List Nat) (h i k : Nat) : Nat := fop .sub (if i = k then oneW else 0) (fop .mul (fop .mul h (l.getD 0 0)) (((jacT t (z.getD 0 [])).getD i []).getD k 0))
def matT (t : Tp) (z : List (List Nat)) (l : List Nat) (h : Nat) : List (List Nat) := (List.range t.n).map fun i => tabR (matE t z l h i) t.n
theorem matT_row (t : Tp) (z : List (List Nat)) (l : List Nat) (h i : Nat) (hi : i < t.n) : (matT t z l h).getD i [] = tabR (matE t z l h i) t.n := by
  unfold matT
  rw [List.getD_eq_getElem?_getD, List.getElem?_map, List.getElem?_range hi]; rfl
theorem matT_sq (t : Tp) (z : List (List Nat)) (l : List Nat) (h : Nat) : Sq t.n (matT t z l h) := ⟨by simp [matT], fun i hi => by rw [matT_row _ _ _ _ _ hi]; exact tabR_len _ _⟩
theorem jacT_row (t : Tp) (x : List Nat) (ht : Tok t) (i : Nat) (hi : i < t.n) : ((jacT t x).getD i []).length = t.n := by
  have hgo := ht.out i hi
  have hjr : (jacT t x).getD i [] = (drs t x t.ops.length).getD (t.out.getD i 0).toNat [] := by
    unfold jacT
    rw [List.getD_eq_getElem?_getD, List.getElem?_map, List.getElem?_range hi]; rfl
  rw [hjr]; exact drs_rows t x _ _ (by omega)
section
variable (t : Tp) (z : List (List Nat)) (l : List Nat) (h : Nat) (w d : List Nat) (p q : D) (ok : Sok t z l w d)
include ok
end
end Go.Ab
namespace Go.Ab
set_option linter.unusedSimpArgs false
set_option linter.unusedVariables false
open Go Go.Proofs
def gdS (t : Tp) (z : List (List Nat)) (l : List Nat) (h : Nat) (d : List Nat) : List Nat := tabR (fun i => fop .sub ((gS t z l h d).getD i 0) (d.getD i 0)) t.n
def xB (t : Tp) (z : List (List Nat)) (l : List Nat) (h : Nat) (B : List (List Nat)) (π : List Int) (d : List Nat) : List Nat := solveP B π (gdS t z l h d) t.n
def dB (t : Tp) (z : List (List Nat)) (l : List Nat) (h : Nat) (B : List (List Nat)) (π : List Int) (d : List Nat) : List Nat := tabR (fun i => fop .add (d.getD i 0) ((xB t z l h B π d).getD i 0)) t.n
def tryB (t : Tp) (z : List (List Nat)) (l : List Nat) (h : Nat) (w : List Nat) (B : List (List Nat)) (π : List Int) (d : List Nat) : List Nat × Nat := (dB t z l h B π d, szP (xB t z l h B π d) w)
theorem solveP_len (B : List (List Nat)) (π : List Int) (b : List Nat) (n : Nat) : (solveP B π b n).length = n := by unfold solveP; rw [bckI_len, fwdI_len]
section
variable (t : Tp) (z : List (List Nat)) (l : List Nat) (h : Nat) (w d : List Nat) (p q : D) (ok : Sok t z l w d)
include ok
variable (B : List (List Nat)) (π : List Int) (hB : Sq t.n B) (hπ : Pm t.n π)
include hB hπ
end
end Go.Ab
namespace Go.Ab
set_option linter.unusedSimpArgs false
set_option linter.unusedVariables false
open Go Go.Proofs
theorem partP_pmB (A : List (List Nat)) (n : Nat) : ∀ m, m ≤ n → ∀ B π, partP A n m = some (B, π) → Pm n π := by
  intro m
  induction m with
  | zero =>
    intro _ B π h
    simp only [partP, Option.some.injEq, Prod.mk.injEq] at h
    obtain ⟨_, rfl⟩ := h
    exact ⟨by simp, fun i hi => by simp [List.getD_eq_getElem?_getD, hi]⟩
  | succ m ih =>
    intro hm B π h
    simp only [partP, Option.bind_eq_some_iff] at h
    obtain ⟨⟨C, σ⟩, h1, h2⟩ := h
    obtain ⟨h3, h4⟩ := ih (by omega) C σ h1
    simp only [stepP] at h2
    split at h2
    · cases h2
    · simp only [Option.some.injEq, Prod.mk.injEq] at h2
      obtain ⟨_, rfl⟩ := h2
      have hp := pvP_lt C m (n - 1 - m)
      generalize pvP C m (n - 1 - m) = p at hp
      refine ⟨by simp [swapL, h3], fun i hi => ?_⟩
      have a := h4 m (by omega)
      have b := h4 p (by omega)
      have c := h4 i hi
      simp only [List.getD_eq_getElem?_getD] at a b c
      simp only [swapL, List.getD_eq_getElem?_getD, List.getElem?_set, List.length_set]
      by_cases e : p = i
      · subst e; simpa [h3, hi] using a
      · rw [if_neg e]
        by_cases e2 : m = i
        · subst e2; simpa [h3, hi] using b
        · rw [if_neg e2]; exact c
def solB (t : Tp) (z : List (List Nat)) (l : List Nat) (h : Nat) (w : List Nat) : List Nat × Nat × Int := match partP (matT t z l h) t.n t.n with
  | none => ([], 0, 4)
  | some (B, π) => seek (tryB t z l h w B π) 4 1 (List.replicate t.n 0)
theorem seekB_succ (t : Tp) (z : List (List Nat)) (l : List Nat) (h : Nat) (w : List Nat) (B : List (List Nat)) (π : List Int) (f k : Nat) (d : List Nat) : seek (tryB t z l h w B π) (f + 1) k d =
  if finAll (dB t z l h B π d) = false then ([], k, 2) else if fcmp .le (szP (xB t z l h B π d) w) 4562146422526312448 = true then (dB t z l h B π d, k, 0) else if 4 ≤ k then ([], k, 6) else seek (tryB t z l h w B π) f (k + 1) (dB t z l h B π d) := rfl
theorem seekB_len (t : Tp) (z : List (List Nat)) (l : List Nat) (h : Nat) (w : List Nat) (B : List (List Nat)) (π : List Int) (f : Nat) : ∀ (k : Nat) (d g : List Nat) (a : Nat), seek (tryB t z l h w B π) f k d = (g, a, 0) → g.length = t.n := by
  induction f with
  | zero => intro k d g a he; simp [seek] at he
  | succ f ih =>
    intro k d g a he
    rw [seekB_succ] at he
    split at he
    · simp at he
    · split at he
      · injection he with h1 h2
        rw [← h1]; exact tabR_len _ _
      · split at he
        · simp at he
        · exact ih _ _ _ _ he
def solG (t : Tp) (z : List (List Nat)) (l : List Nat) (h : Nat) (w : List Nat) (m : Int) : List Nat × Nat × Int := if m = 1 then solB t z l h w else solA t z l h w
theorem seek_form (tr : List Nat → List Nat × Nat) (f : Nat) : ∀ k d, (∃ g a, seek tr f k d = (g, a, 0)) ∨ ∃ a e, e ≠ 0 ∧ seek tr f k d = ([], a, e) := by
  induction f with
  | zero => intro k d; exact .inr ⟨k, 6, by decide, rfl⟩
  | succ f ih =>
    intro k d
    simp only [seek]
    split
    · exact .inr ⟨k, 2, by decide, rfl⟩
    · split
      · exact .inl ⟨_, _, rfl⟩
      · split
        · exact .inr ⟨k, 6, by decide, rfl⟩
        · exact ih _ _
theorem solG_form (t : Tp) (z : List (List Nat)) (l : List Nat) (h : Nat) (w : List Nat) (m : Int) : (∃ g k, g.length = t.n ∧ solG t z l h w m = (g, k, 0)) ∨ ∃ k e, e ≠ 0 ∧ solG t z l h w m = ([], k, e) := by
  unfold solG
  split
  · unfold solB
    cases partP (matT t z l h) t.n t.n with
    | none => exact .inr ⟨0, 4, by decide, rfl⟩
    | some s =>
      obtain ⟨B, π⟩ := s
      rcases seek_form (tryB t z l h w B π) 4 1 (List.replicate t.n 0) with ⟨g, k, hg⟩ | ⟨k, e, he, hk⟩
      · exact .inl ⟨g, k, seekB_len _ _ _ _ _ _ _ _ _ _ _ _ hg, hg⟩
      · exact .inr ⟨k, e, he, hk⟩
  · rcases seek_form (tryA t z l h w) 4 1 (List.replicate t.n 0) with ⟨g, k, hg⟩ | ⟨k, e, he, hk⟩
    · exact .inl ⟨g, k, seekA_len _ _ _ _ _ _ _ _ _ _ hg, hg⟩
    · exact .inr ⟨k, e, he, hk⟩
end Go.Ab
namespace Go.Ab
set_option linter.unusedSimpArgs false
set_option linter.unusedVariables false
open Nat renaming reduceEqDiff → n1_, reduceAdd → n2_, reduceMul → n3_, reduceLT → n4_, reduceLeDiff → n5_
open Int renaming reduceToNat → i1_, reduceAdd → i2_, reduceSub → i3_, reduceMul → i4_, reduceNeg → i5_, reduceLT → i6_, reduceLE → i7_
open Go Go.Proofs
def A_r7_gcd_L0 : CA := (.seq (.seq (.reg [i_M 0 9 1, i_B 1 10 .neq 9 0] [0, 1, 10]) (.cond (.t 10) .skip (.exit 0))) (.block 1 (.reg [i_M 0 11 1, i_M 1 12 0, i_M 2 13 1, i_N 3 14 .rem 12 13, i_M 4 0 11, i_M 5 1 14] [0, 1])))
def A_r7_gcd : CA := (.seq (.reg [i_K 0 4 0] [0, 1]) (.seq (.seq (.reg [i_M 0 5 0, i_B 1 6 .lss 5 0] [0, 1, 6]) (.cond (.t 6) (.reg [i_M 0 7 0, i_X 1 8 (.h (.ibin .sub (kI 0) (.t 7))), i_M 2 0 8] [0, 1]) .skip)) (.seq (.block 0 (.loop A_r7_gcd_L0)) (.seq (.reg [i_M 0 15 0, i_M 1 4 15] [4]) .ret))))
theorem A_r7_gcd_comp : compF Tryz.prog 163 = some ⟨16, [(4, none)], A_r7_gcd.strip⟩ := by kernel_rfl
def A_r7_low : CA := (.seq (.reg [i_K 0 4 0, i_K 1 5 0] [0, 1]) (.seq (.seq (.reg [i_M 0 7 1, i_B 1 8 .lss 7 0] [0, 1, 8]) (.cond (.t 8) (.reg [i_M 0 9 0, i_X 1 10 (.h (.ibin .sub (kI 0) (.t 9))), i_M 2 11 1, i_X 3 12 (.h (.ibin .sub (kI 0) (.t 11))), i_M 4 0 10, i_M 5 1 12] [0, 1]) .skip)) (.seq (.seq (.reg [i_M 0 13 0, i_B 1 14 .eql 13 0] [0, 1, 14]) (.cond (.t 14) (.seq (.reg [i_K 0 4 0, i_K 1 5 1] [4, 5]) .ret) .skip)) (.seq (.reg [i_M 0 15 0, i_M 1 16 1, i_X 2 17 (.callA (kF 163) [(.t 15), (.t 16)]), i_M 3 6 17] [0, 1, 6]) (.seq (.seq (.reg [i_M 0 18 6, i_B 1 19 .lss 18 0] [0, 1, 6, 19]) (.cond (.t 19) (.reg [i_M 0 20 6, i_X 1 21 (.h (.ibin .sub (kI 0) (.t 20))), i_M 2 6 21] [0, 1, 6]) .skip)) (.seq (.reg [i_M 0 22 0, i_M 1 23 6, i_N 2 24 .quo 22 23, i_M 3 25 1, i_M 4 26 6, i_N 5 27 .quo 25 26, i_M 6 4 24, i_M 7 5 27] [4, 5]) .ret))))))
theorem A_r7_low_comp : compF Tryz.prog 150 = some ⟨28, [(4, none), (5, none)], A_r7_low.strip⟩ := by kernel_rfl
def A_r7_product_L1 : CA := (.seq (.seq (.reg [i_M 0 17 6, i_M 1 18 3, i_X 2 19 (.h (.len (.t 18))), i_N 3 20 .lss 17 19] [0, 3, 4, 5, 6, 20]) (.cond (.t 20) .skip (.exit 2))) (.seq (.block 3 (.seq (.reg [i_M 0 23 5, i_M 1 24 6, i_M 2 25 5, i_M 3 26 6, i_I 4 27 25 26 1, i_L 5 28 27 1, i_M 6 29 4, i_M 7 30 3, i_M 8 31 6, i_I 9 32 30 31 1, i_L 10 33 32 1, i_N 11 34 .mul 29 33, i_N 12 35 .add 28 34, i_I 13 36 23 24 1, i_S 14 36 35 1] [0, 3, 4, 5, 6]) (.reg [i_M 0 37 5, i_M 1 38 6, i_B 2 39 .add 38 1, i_M 3 40 5, i_M 4 41 6, i_B 5 42 .add 41 1, i_I 6 43 40 42 1, i_L 7 44 43 1, i_M 8 45 3, i_M 9 46 6, i_I 10 47 45 46 1, i_L 11 48 47 1, i_N 12 49 .add 44 48, i_I 13 50 37 39 1, i_S 14 50 49 1] [0, 3, 4, 5, 6]))) (.reg [i_M 0 21 6, i_B 1 22 .add 21 1, i_M 2 6 22] [0, 3, 4, 5, 6])))
def A_r7_product_L0 : CA := (.seq (.seq (.reg [i_M 0 8 4, i_M 1 9 0, i_N 2 10 .leq 8 9] [0, 3, 4, 10]) (.cond (.t 10) .skip (.exit 0))) (.seq (.block 1 (.seq (.reg [i_M 0 13 3, i_X 1 14 (.h (.len (.t 13))), i_B 2 15 .add 14 1, i_X 3 16 (.mksl [(.d (.int .i64 0))] 1 8 (.t 15) (.t 15) 3), i_M 4 5 16] [0, 3, 4, 5]) (.seq (.seq (.reg [i_K 0 6 0] [0, 3, 4, 5, 6]) (.block 2 (.loop A_r7_product_L1))) (.reg [i_M 0 51 5, i_M 1 3 51] [0, 3, 4])))) (.reg [i_M 0 11 4, i_B 1 12 .add 11 1, i_M 2 4 12] [0, 3, 4])))
def A_r7_product : CA := (.seq (.reg [i_X 0 2 (.h (.mov (.k .nil)))] [0]) (.seq (.reg [i_X 0 7 (.bslice [(.d (.int .i64 0))] 1 1 [(0, (1, (kI 1)))] 3), i_M 1 3 7] [0, 3]) (.seq (.seq (.reg [i_K 0 4 1] [0, 3, 4]) (.block 0 (.loop A_r7_product_L0))) (.seq (.reg [i_M 0 52 3, i_M 1 2 52] [2]) .ret))))
theorem A_r7_product_comp : compF Tryz.prog 149 = some ⟨53, [(2, none)], A_r7_product.strip⟩ := by kernel_rfl
def A_r7_adams_L0 : CA := (.seq (.seq (.reg [i_M 0 24 7, i_M 1 25 0, i_N 2 26 .leq 24 25] [0, 2, 3, 4, 5, 6, 7, 26]) (.cond (.t 26) .skip (.exit 0))) (.seq (.block 1 (.seq (.reg [i_M 0 30 3, i_M 1 31 7, i_B 2 32 .sub 31 1, i_I 3 33 30 32 1, i_L 4 34 33 1, i_M 5 35 3, i_X 6 36 (.h (.idx (.t 35) (kI 0) 1)), i_L 7 37 36 1, i_M 8 38 7, i_N 9 39 .mul 37 38, i_X 10 40 (.callA (kF 150) [(.t 34), (.t 39)]), i_M 11 29 40, i_X 12 41 (.h (.ext (.t 29) 0)), i_X 13 42 (.h (.ext (.t 29) 1)), i_M 14 8 41, i_M 15 9 42] [0, 2, 3, 4, 5, 6, 7, 8, 9]) (.seq (.reg [i_P 0 43 4 0, i_L 1 44 43 1, i_M 2 45 8, i_X 3 46 (.bslice [(.d (.int .i64 0))] 1 1 [(0, (1, (.t 45)))] 3), ⟨4, (some 47), none, [], [(.t 4)], (.app (.t 44) (.t 46) 1 8)⟩, i_P 5 48 4 1, ⟨6, (some 49), none, [(.t 4)], [], (.load (.t 48) 1 false)⟩, i_M 7 50 9, i_X 8 51 (.bslice [(.d (.int .i64 0))] 1 1 [(0, (1, (.t 50)))] 3), i_X 9 52 (.app (.t 49) (.t 51) 1 8), i_P 10 53 4 0, i_S 11 53 47 1, i_P 12 54 4 1, i_S 13 54 52 1] [0, 2, 3, 4, 5, 6, 7, 8, 9]) (.seq (.reg [i_K 0 10 1] [0, 2, 3, 4, 5, 6, 7, 8, 9, 10]) (.seq (.seq (.reg [i_M 0 55 7, i_B 1 56 .rem 55 2, i_B 2 57 .eql 56 1] [0, 2, 3, 4, 5, 6, 7, 8, 9, 10, 57]) (.cond (.t 57) (.reg [i_X 0 10 (.h (.mov (.k (.d (.int .i64 (-1))))))] [0, 2, 3, 4, 5, 6, 7, 8, 9, 10]) .skip)) (.reg [i_M 0 59 5, i_M 1 60 9, i_N 2 61 .mul 59 60, i_M 3 62 10, i_M 4 63 8, i_N 5 64 .mul 62 63, i_M 6 65 6, i_N 7 66 .mul 64 65, i_N 8 67 .add 61 66, i_M 9 68 6, i_M 10 69 9, i_N 11 70 .mul 68 69, i_X 12 71 (.callA (kF 150) [(.t 67), (.t 70)]), i_M 13 58 71, i_X 14 72 (.h (.ext (.t 58) 0)), i_X 15 73 (.h (.ext (.t 58) 1)), i_M 16 5 72, i_M 17 6 73] [0, 2, 3, 4, 5, 6, 7])))))) (.reg [i_M 0 27 7, i_B 1 28 .add 27 1, i_M 2 7 28] [0, 2, 3, 4, 5, 6, 7])))
def A_r7_adams : CA := (.seq (.reg [i_X 0 2 (.alloc [.nil, .nil] 110)] [0, 2]) (.seq (.reg [i_M 0 11 0, i_B 1 12 .sub 11 1, i_X 2 13 (.callA (kF 149) [(.t 12)]), i_M 3 3 13] [0, 2, 3]) (.seq (.reg [i_X 0 4 (.alloc [.nil, .nil] 110)] [0, 2, 3, 4]) (.seq (.reg [i_P 0 14 4 0, i_L 1 15 14 1, i_X 2 16 (.bslice [(.d (.int .i64 0))] 1 1 [(0, (1, (kI 0)))] 3), ⟨3, (some 17), none, [], [(.t 4)], (.app (.t 15) (.t 16) 1 8)⟩, i_P 4 18 4 1, ⟨5, (some 19), none, [(.t 4)], [], (.load (.t 18) 1 false)⟩, i_X 6 20 (.bslice [(.d (.int .i64 0))] 1 1 [(0, (1, (kI 1)))] 3), i_X 7 21 (.app (.t 19) (.t 20) 1 8), i_P 8 22 4 0, i_S 9 22 17 1, i_P 10 23 4 1, i_S 11 23 21 1] [0, 2, 3, 4]) (.seq (.reg [i_K 0 5 0, i_K 1 6 1] [0, 2, 3, 4, 5, 6]) (.seq (.seq (.reg [i_K 0 7 1] [0, 2, 3, 4, 5, 6, 7]) (.block 0 (.loop A_r7_adams_L0))) (.seq (.reg [i_P 0 75 4 0, i_L 1 76 75 1, i_P 2 77 4 1, ⟨3, (some 78), none, [(.t 4)], [], (.load (.t 77) 1 false)⟩, i_M 4 79 5, i_X 5 80 (.h (.ibin .sub (kI 0) (.t 79))), i_M 6 81 6, i_X 7 82 (.callS 7 (kF 150) [(.t 80), (.t 81)]), i_M 8 74 82, i_X 9 83 (.h (.ext (.t 74) 0)), i_X 10 84 (.h (.ext (.t 74) 1)), i_X 11 85 (.h (.idx (.t 76) (kI 0) 1)), ⟨12, none, none, [], [(.t 4)], (.store (.t 85) (.t 83) 1)⟩, i_X 13 86 (.h (.idx (.t 78) (kI 0) 1)), i_S 14 86 84 1] [2, 4]) (.seq (.reg [i_A 0 87 4 2, i_S 1 2 87 2] [2]) .ret))))))))
theorem A_r7_adams_comp : compF Tryz.prog 116 = some ⟨88, [(2, (some (2, true)))], A_r7_adams.strip⟩ := by kernel_rfl
def A_r7_bdf_L0 : CA := (.seq (.seq (.reg [i_M 0 10 5, i_M 1 11 0, i_N 2 12 .leq 10 11] [0, 2, 3, 4, 5, 12]) (.cond (.t 12) .skip (.exit 0))) (.seq (.block 1 (.seq (.reg [i_M 0 16 3, i_M 1 17 5, i_I 2 18 16 17 1, i_L 3 19 18 1, i_M 4 20 3, i_X 5 21 (.h (.idx (.t 20) (kI 1) 1)), i_L 6 22 21 1, i_X 7 23 (.callA (kF 150) [(.t 19), (.t 22)]), i_M 8 15 23, i_X 9 24 (.h (.ext (.t 15) 0)), i_X 10 25 (.h (.ext (.t 15) 1)), i_M 11 6 24, i_M 12 7 25] [0, 2, 3, 4, 5, 6, 7]) (.reg [i_P 0 26 4 0, i_L 1 27 26 1, i_M 2 28 6, i_X 3 29 (.bslice [(.d (.int .i64 0))] 1 1 [(0, (1, (.t 28)))] 3), ⟨4, (some 30), none, [], [(.t 4)], (.app (.t 27) (.t 29) 1 8)⟩, i_P 5 31 4 1, ⟨6, (some 32), none, [(.t 4)], [], (.load (.t 31) 1 false)⟩, i_M 7 33 7, i_X 8 34 (.bslice [(.d (.int .i64 0))] 1 1 [(0, (1, (.t 33)))] 3), i_X 9 35 (.app (.t 32) (.t 34) 1 8), i_P 10 36 4 0, i_S 11 36 30 1, i_P 12 37 4 1, i_S 13 37 35 1] [0, 2, 3, 4, 5]))) (.reg [i_M 0 13 5, i_B 1 14 .add 13 1, i_M 2 5 14] [0, 2, 3, 4, 5])))
def A_r7_bdf : CA := (.seq (.reg [i_X 0 2 (.alloc [.nil, .nil] 110)] [0, 2]) (.seq (.reg [i_M 0 8 0, i_X 1 9 (.callA (kF 149) [(.t 8)]), i_M 2 3 9] [0, 2, 3]) (.seq (.reg [i_X 0 4 (.alloc [.nil, .nil] 110)] [0, 2, 3, 4]) (.seq (.seq (.reg [i_K 0 5 0] [0, 2, 3, 4, 5]) (.block 0 (.loop A_r7_bdf_L0))) (.seq (.reg [i_A 0 38 4 2, i_S 1 2 38 2] [2]) .ret)))))
theorem A_r7_bdf_comp : compF Tryz.prog 117 = some ⟨39, [(2, (some (2, true)))], A_r7_bdf.strip⟩ := by kernel_rfl
def A_r7_Exact : CA := (.seq (.reg [i_X 0 4 (.alloc [.nil, .nil] 110), i_X 1 5 (.h (.mov (.k (.d (.bool false)))))] [0, 1, 4]) (.seq (.block 0 (.seq (.reg [i_M 0 7 0, i_B 1 8 .eql 7 0, i_M 2 9 8, ⟨3, (some 10), (some (9, true)), [], [], (.h (.mov (.t 1)))⟩, ⟨4, (some 11), (some (9, true)), [], [], (.h (.ibin .geq (.t 10) (kI 1)))⟩, i_X 5 12 (.h (.pick (.t 9) (.t 11) (.k (.d (.bool false))))), i_M 6 13 12, ⟨7, (some 14), (some (13, true)), [], [], (.h (.mov (.t 1)))⟩, ⟨8, (some 15), (some (13, true)), [], [], (.h (.ibin .leq (.t 14) (kI 5)))⟩, i_X 9 16 (.h (.pick (.t 13) (.t 15) (.k (.d (.bool false))))), i_M 10 6 16] [0, 1, 4, 6]) (.cond (.t 6) (.seq (.reg [i_M 0 17 1, i_X 1 18 (.callA (kF 116) [(.t 17)]), i_S 2 4 18 2, i_X 3 5 (.h (.mov (.k (.d (.bool true)))))] [4, 5]) .ret) (.seq (.reg [i_M 0 20 0, i_B 1 21 .eql 20 1, i_M 2 22 21, ⟨3, (some 23), (some (22, true)), [], [], (.h (.mov (.t 1)))⟩, ⟨4, (some 24), (some (22, true)), [], [], (.h (.ibin .geq (.t 23) (kI 1)))⟩, i_X 5 25 (.h (.pick (.t 22) (.t 24) (.k (.d (.bool false))))), i_M 6 26 25, ⟨7, (some 27), (some (26, true)), [], [], (.h (.mov (.t 1)))⟩, ⟨8, (some 28), (some (26, true)), [], [], (.h (.ibin .leq (.t 27) (kI 4)))⟩, i_X 9 29 (.h (.pick (.t 26) (.t 28) (.k (.d (.bool false))))), i_M 10 19 29] [1, 4, 19]) (.cond (.t 19) (.seq (.reg [i_M 0 30 1, i_X 1 31 (.callA (kF 117) [(.t 30)]), i_S 2 4 31 2, i_X 3 5 (.h (.mov (.k (.d (.bool true)))))] [4, 5]) .ret) .skip))))) (.seq (.reg [i_X 0 32 (.h (.build [.nil, .nil] [])), i_S 1 4 32 2, i_X 2 5 (.h (.mov (.k (.d (.bool false)))))] [4, 5]) .ret)))
theorem A_r7_Exact_comp : compF Tryz.prog 62 = some ⟨33, [(4, (some (2, true))), (5, none)], A_r7_Exact.strip⟩ := by kernel_rfl
def A_r7_Of_L0 : CA := (.seq (.seq (.reg [i_M 0 18 9, i_P 1 19 6 0, i_L 2 20 19 1, i_X 3 21 (.h (.len (.t 20))), i_N 4 22 .lss 18 21] [6, 8, 9, 22]) (.cond (.t 22) .skip (.exit 0))) (.seq (.block 1 (.reg [i_M 0 25 8, i_P 1 26 6 0, i_L 2 27 26 1, i_M 3 28 9, i_I 4 29 27 28 1, i_L 5 30 29 1, i_X 6 31 (.h (.i2f (.t 30))), i_P 7 32 6 1, i_L 8 33 32 1, i_M 9 34 9, i_I 10 35 33 34 1, i_L 11 36 35 1, i_X 12 37 (.h (.i2f (.t 36))), i_F 13 38 .div 31 37, i_X 14 39 (.bslice [(.d (.flt 0))] 1 1 [(0, (1, (.t 38)))] 31), i_X 15 40 (.app (.t 25) (.t 39) 1 8), i_M 16 8 40] [6, 8, 9])) (.reg [i_M 0 23 9, i_B 1 24 .add 23 1, i_M 2 9 24] [6, 8, 9])))
def A_r7_Of : CA := (.seq (.reg [i_X 0 4 (.h (.mov (.k .nil))), i_X 1 5 (.h (.mov (.k (.d (.bool false)))))] [0, 1]) (.seq (.reg [i_M 0 11 0, i_M 1 12 1, i_X 2 13 (.callA (kF 62) [(.t 11), (.t 12)]), i_M 3 10 13, i_X 4 14 (.h (.ext (.t 10) 0)), i_X 5 15 (.h (.ext (.t 10) 1)), i_X 6 6 (.alloc [.nil, .nil] 110), i_S 7 6 14 2, i_M 8 7 15] [6, 7]) (.seq (.seq (.reg [i_M 0 16 7, i_X 1 17 (.h (.un .not (.t 16)))] [6, 17]) (.cond (.t 17) (.seq (.reg [i_X 0 4 (.h (.mov (.k .nil))), i_X 1 5 (.h (.mov (.k (.d (.bool false)))))] [4, 5]) .ret) .skip)) (.seq (.reg [i_X 0 8 (.h (.mov (.k .nil)))] [6, 8]) (.seq (.seq (.reg [i_K 0 9 0] [6, 8, 9]) (.block 0 (.loop A_r7_Of_L0))) (.seq (.reg [i_M 0 41 8, i_M 1 4 41, i_X 2 5 (.h (.mov (.k (.d (.bool true)))))] [4, 5]) .ret))))))
theorem A_r7_Of_comp : compF Tryz.prog 28 = some ⟨42, [(4, none), (5, none)], A_r7_Of.strip⟩ := by kernel_rfl
abbrev w64 (a : Int) : Int := IntKind.i64.wrap a
def gcdF : Nat → Int → Int → Option Int
  | 0, _, _ => none
  | f + 1, a, b => if b = 0 then some a else gcdF f b (a.tmod b)
theorem gcd_L0 (a b r : Int) (f : Nat) (h : gcdF f a b = some r) (Q : Ex → T → Prop) (hQ : Q (.exit 0) ⟨[(0, fI r), (1, fI 0), (10, fB false)], []⟩) : WA Tryz.prog (fun _ => False) 16 (.loop A_r7_gcd_L0) Q ⟨[(0, fI a), (1, fI b)], []⟩ := by
  refine WA_for (n := f) (fun c s => ∃ a b, gcdF c a b = some r ∧ s = ⟨[(0, fI a), (1, fI b)], []⟩) ⟨a, b, h, rfl⟩ ?_
  rintro c s ⟨a, b, hg, rfl⟩
  cases c with
  | zero => cases hg
  | succ c =>
    simp only [gcdF] at hg
    refine evx @A_r7_gcd_L0.eq_1 ?_
    by_cases hb : b = 0
    · subst hb
      rw [if_pos rfl] at hg
      obtain rfl := Option.some.inj hg
      refine ev ?_
      exact hQ
    · rw [if_neg hb] at hg
      have h' : (b != 0) = true := by simpa using hb
      refine evx h' ?_
      exact ⟨hb, c, by omega, b, _, hg, rfl⟩
set_option maxRecDepth 8000 in
theorem r7_gcd_con (a b r : Int) (f : Nat) (h : gcdF f (if a < 0 then w64 (0 - a) else a) b = some r) : Con Tryz.prog 163 [fI a, fI b] (fI r) := by
  refine Con_introA A_r7_gcd_comp rfl mixed ?_
  refine evx @A_r7_gcd.eq_1 ?_
  by_cases ha : a < 0
  · have h' : decide (a < 0) = true := decide_eq_true ha
    rw [if_pos ha] at h
    refine evx h' ?_
    refine gcd_L0 _ _ r f h _ ?_
    refine ev ?_
    exact endsT_rett rfl (by decide) (by simp [look])
  · have h' : decide (a < 0) = false := decide_eq_false ha
    rw [if_neg ha] at h
    refine evx h' ?_
    refine WA_le (Le.keep ⟨_, []⟩ [0, 1]) (gcd_L0 _ _ r f h _ ?_)
    refine ev ?_
    exact endsT_rett rfl (by decide) (by simp [look])
def lowF (f : Nat) (n d : Int) : Option (Int × Int) :=
  if d < 0 then none else if n = 0 then some (0, 1) else
  (gcdF f (if n < 0 then w64 (0 - n) else n) d).bind fun g => if g ≤ 0 then none else some (w64 (n.tdiv g), w64 (d.tdiv g))
set_option maxRecDepth 8000 in
theorem r7_low_con (n d x y : Int) (f : Nat) (h : lowF f n d = some (x, y)) : Con Tryz.prog 150 [fI n, fI d] (.tup [fI x, fI y]) := by
  unfold lowF at h
  refine Con_introA A_r7_low_comp rfl mixed ?_
  refine evx @A_r7_low.eq_1 ?_
  by_cases hd : d < 0
  · rw [if_pos hd] at h; cases h
  · have h' : decide (d < 0) = false := decide_eq_false hd
    rw [if_neg hd] at h
    refine evx h' ?_
    by_cases hn : n = 0
    · rw [if_pos hn] at h
      obtain ⟨rfl, rfl⟩ : 0 = x ∧ 1 = y := by simpa using h
      have h2 : (n == 0) = true := by simpa using hn
      refine evx h2 ?_
      exact endsT_only (fun _ => false) (fun _ h => h) ⟨_, _, resV_tmpI (t := 4) (by decide) rfl, resV_tmpI (t := 5) (by decide) rfl, rfl⟩ rfl (by simp [kpS]) (by simp [kpS])
    · rw [if_neg hn] at h
      have h2 : (n == 0) = false := by simpa using hn
      refine evx h2 ?_
      obtain ⟨g, hg, h3⟩ := Option.bind_eq_some_iff.1 h
      refine callG_con (r7_gcd_con n d g f hg) rfl ?_
      split at h3
      · cases h3
      · rename_i hg0
        obtain ⟨rfl, rfl⟩ : w64 (n.tdiv g) = x ∧ w64 (d.tdiv g) = y := by simpa using h3
        have h4 : decide (g < 0) = false := by simp; omega
        refine evx h4 ?_
        refine ⟨by omega, by omega, ?_⟩
        exact endsT_only (fun _ => false) (fun _ h => h) ⟨_, _, resV_tmpI (t := 4) (by decide) rfl, resV_tmpI (t := 5) (by decide) rfl, rfl⟩ rfl (by simp [kpS]) (by simp [kpS])
def prodJ (i : Int) (p : List Int) : Nat → List Int
  | 0 => List.replicate (p.length + 1) 0
  | j + 1 => let q := prodJ i p j; let q1 := q.set j (w64 (q.getD j 0 + w64 (i * p.getD j 0))); q1.set (j + 1) (w64 (q1.getD (j + 1) 0 + p.getD j 0))
def prodP : Nat → List Int
  | 0 => [1]
  | i + 1 => prodJ ((i + 1 : Nat) : Int) (prodP i) (prodP i).length
theorem prodJ_len (i : Int) (p : List Int) (j : Nat) : (prodJ i p j).length = p.length + 1 := by
  induction j with
  | zero => simp [prodJ]
  | succ j ih => simp [prodJ, ih]
theorem prodP_len (i : Nat) : (prodP i).length = i + 1 := by
  induction i with
  | zero => rfl
  | succ i ih => simp only [prodP, prodJ_len, ih]
theorem getD_map_fI (xs : List Int) (j : Nat) (h : j < xs.length) : (rowIV xs).getD j .any = fI (xs.getD j 0) := by
  simp [rowIV, List.getD_eq_getElem?_getD, h]
set_option maxRecDepth 8000 in
theorem r7_product_ac (z : Int) (k : Nat) (hz : z = k) (hk : k < 2 ^ 20) : AC Tryz.prog 149 [fI z] [] [(0, [rowIV (prodP k)])] (.sl 0 0 0 (k + 1) 1 (k + 1)) := by
  subst hz
  refine AC_introA A_r7_product_comp rfl mixed (fun _ => False) (by simp [get_nil]) ?_
  refine evx @A_r7_product.eq_1 ?_
  refine WA_forW (n := k) (fun c s => ∃ i, c + i = k ∧ s = ⟨[(0, fI k), (3, .sl 0 0 0 (i + 1) 1 (i + 1)), (4, fI (i + 1 : Nat))], [(0, [rowIV (prodP i)])]⟩) (Le.refl _) ⟨0, by omega, rfl⟩ ?_
  rintro c s ⟨i, hc, rfl⟩
  have hl := prodP_len i
  refine evx @A_r7_product_L0.eq_1 ?_
  refine condC_intro (fun h => ?_) (fun h => ?_)
  · replace h := of_decide_eq_true h
    have w1 : IntKind.i64.wrap (((i + 1 : Nat) : Int) + 1) = ((i + 2 : Nat) : Int) := by rw [wrapI (by omega) (by omega)]; omega
    refine evx w1 ?_
    (repeat (with_reducible refine And.intro (by omega) ?_))
    have hp : prodP (i + 1) = prodJ ((i + 1 : Nat) : Int) (prodP i) (i + 1) := by simp only [prodP]; rw [hl]
    generalize prodP i = p at hl hp
    have e0 : rowIV (List.replicate (i + 2) 0) = rowIV (prodJ ((i + 1 : Nat) : Int) p 0) := by simp [prodJ, hl]
    refine WA_for (n := i + 1) (fun c s => ∃ j, c + j = i + 1 ∧ s = ⟨[(0, fI k), (3, .sl 0 0 0 (i + 1) 1 (i + 1)), (4, fI (i + 1 : Nat)), (5, .sl 4 0 0 (i + 2) 1 (i + 2)), (6, fI j)], [(4, [rowIV (prodJ ((i + 1 : Nat) : Int) p j)]), (0, [rowIV p])]⟩) ⟨0, by omega, by rw [← e0]; rfl⟩ ?_
    rintro c' s ⟨j, hc', rfl⟩
    have hjl := prodJ_len ((i + 1 : Nat) : Int) p j
    refine evx @A_r7_product_L1.eq_1 ?_
    refine condC_intro (fun hj => ?_) (fun hj => ?_)
    · replace hj := of_decide_eq_true hj
      have w2 : IntKind.i64.wrap ((j : Int) + 1) = ((j + 1 : Nat) : Int) := by rw [wrapI (by omega) (by omega)]; omega
      have hnx : prodJ ((i + 1 : Nat) : Int) p (j + 1) = _ := rfl
      generalize hq : prodJ ((i + 1 : Nat) : Int) p j = q at hjl
      have hq1 : (q.set j (w64 (q.getD j 0 + w64 (((i + 1 : Nat) : Int) * p.getD j 0)))).length = p.length + 1 := by rw [List.length_set]; exact hjl
      have g3 : (rowIV (q.set j (IntKind.i64.wrap (q.getD j 0 + IntKind.i64.wrap (((i + 1 : Nat) : Int) * p.getD j 0))))).getD (j + 1) .any = fI ((q.set j (w64 (q.getD j 0 + w64 (((i + 1 : Nat) : Int) * p.getD j 0)))).getD (j + 1) 0) := getD_map_fI _ _ (by rw [List.length_set]; omega)
      have hx : prodJ ((i + 1 : Nat) : Int) p (j + 1) = (q.set j (w64 (q.getD j 0 + w64 (((i + 1 : Nat) : Int) * p.getD j 0)))).set (j + 1) (w64 ((q.set j (w64 (q.getD j 0 + w64 (((i + 1 : Nat) : Int) * p.getD j 0)))).getD (j + 1) 0 + p.getD j 0)) := by rw [← hq]; rfl
      simp -implicitDefEqProofs only [evI, hv, effC, reduceCtorEq, ↓reduceIte, n1_, n2_, n3_, n4_, n5_, i1_, i2_, i3_, i4_, i5_, i6_, i7_, w2, getD_map_fI q j (by omega), getD_map_fI p j (by omega), g3]
      (repeat (with_reducible refine And.intro (by omega) ?_))
      refine ⟨c' - 1, by omega, j + 1, by omega, ?_⟩
      rw [hx]
    · replace hj := of_decide_eq_false hj
      have e : j = i + 1 := by omega
      subst e
      refine ev ?_
      rw [wrapI (by omega) (by omega)]
      rw [← hp] at *
      refine ⟨c - 1, _, by omega, ?_, i + 1, by omega, rfl⟩
      refine Le.trans (LeT.only (L' := [(4, [rowIV (prodP (i + 1))])]) (fun X => X == 4) (fun _ h => h) rfl (by simp [kpS]) (by simp [kpS])) ?_
      exact LeT.move (Y := 4) (cells := rowIV (prodP (i + 1))) 0 (by decide) (by simp [fam_nil]) (by simp [fam_nil]) (fun h => h) |>.trans (by
        have e1 : renS (absF 4 0 0) [(0, fI k), (3, .sl 4 0 0 (i + 2) 1 (i + 2)), (4, fI ((i + 1 : Nat) + 1 : Int))] = [(0, fI k), (3, .sl 0 0 0 (i + 1 + 1) 1 (i + 1 + 1)), (4, fI (i + 1 + 1 : Nat))] := by
          simp [renS, V.ren, absF]
        rw [e1, ren_rowIV]
        exact Le.refl _)
  · replace h := of_decide_eq_false h
    have e : i = k := by omega
    subst e
    refine ev ?_
    exact endsT_only (fun X => X == 0) (fun _ h => h) (resV_tmpI (t := 2) (by decide) rfl) rfl (by simp [kpS]) (by simp [kpS])
theorem r7_product_con (z : Int) (k : Nat) (hz : z = k) (hk : k < 2 ^ 20) : Con Tryz.prog 149 [fI z] (.d (rowI (prodP k))) :=
  Con_of_AC (r7_product_ac z k hz hk) (.d (snap_rowI (fun Y q h => by simp [get_nil] at h) (by simp [get_cons]) (prodP_len k) rfl))
end Go.Ab
namespace Go.Ab
set_option linter.unusedSimpArgs false
set_option linter.unusedVariables false
open Go Go.Proofs
abbrev AdT := List Int × List Int × Int × Int
def adStep (p : List Int) (k : Nat) (s : AdT) : Option AdT :=
  (lowF 64 (p.getD k 0) (w64 (p.getD 0 0 * ((k + 1 : Nat) : Int)))).bind fun ab =>
    (lowF 64 (w64 (w64 (s.2.2.1 * ab.2) + w64 (w64 ((if (k + 1) % 2 = 1 then -1 else 1) * ab.1) * s.2.2.2))) (w64 (s.2.2.2 * ab.2))).map fun nd => (s.1 ++ [ab.1], s.2.1 ++ [ab.2], nd.1, nd.2)
def adS (p : List Int) : Nat → Option AdT
  | 0 => some ([0], [1], 0, 1)
  | k + 1 => (adS p k).bind (adStep p k)
theorem adS_prev (p : List Int) (k : Nat) : ∀ d s, adS p (k + d) = some s → ∃ s', adS p k = some s'
  | 0, s, h => ⟨s, h⟩
  | d + 1, s, h => by
    obtain ⟨s1, h1, _⟩ := Option.bind_eq_some_iff.1 (show (adS p (k + d)).bind (adStep p (k + d)) = some s from h)
    exact adS_prev p k d s1 h1
theorem adS_len (p : List Int) (k : Nat) : ∀ s, adS p k = some s → s.1.length = k + 1 ∧ s.2.1.length = k + 1 := by
  induction k with
  | zero => intro s h; simp only [adS, Option.some.injEq] at h; subst h; exact ⟨rfl, rfl⟩
  | succ k ih =>
    intro s h
    obtain ⟨s1, h1, h2⟩ := Option.bind_eq_some_iff.1 (show (adS p k).bind (adStep p k) = some s from h)
    obtain ⟨a, b⟩ := ih s1 h1
    simp only [adStep, Option.bind_eq_some_iff, Option.map_eq_some_iff] at h2
    obtain ⟨ab, _, nd, _, rfl⟩ := h2
    exact ⟨by simp [a], by simp [b]⟩
theorem tmod2 (n : Nat) : ((n : Nat) : Int).tmod 2 = ((n % 2 : Nat) : Int) := rfl
set_option maxRecDepth 8000 in
theorem r7_adams_con (z : Int) (o : Nat) (hz : z = (o + 1 : Nat)) (ho : o < 2 ^ 20) (N E : List Int) (n d x y : Int) (h : adS (prodP o) (o + 1) = some (N, E, n, d)) (hl : lowF 64 (w64 (0 - n)) d = some (x, y)) :
    Con Tryz.prog 116 [fI z] (.agg [.d (rowI (N.set 0 x)), .d (rowI (E.set 0 y))]) := by
  subst hz
  refine Con_introA A_r7_adams_comp rfl mixed ?_
  refine evx @A_r7_adams.eq_1 ?_
  have w1 : IntKind.i64.wrap (((o + 1 : Nat) : Int) - 1) = (o : Int) := by rw [wrapI (by omega) (by omega)]; omega
  refine evx w1 ?_
  refine callG_con (r7_product_con (o : Int) o rfl (by omega)) rfl ?_
  have hp := prodP_len o
  generalize prodP o = p at hp h
  refine ev ?_
  refine WA_forW (n := o + 1) (fun c s => ∃ k N' E' n' d', c + k = o + 1 ∧ adS p k = some (N', E', n', d') ∧ s = ⟨[(0, fI (o + 1 : Nat)), (2, .ptr 0 0 0 2), (3, .d (rowI p)), (4, .ptr 1 0 0 2), (5, fI n'), (6, fI d'), (7, fI (k + 1 : Nat))],
      [(9, [rowIV E']), (5, [rowIV N']), (1, [[.sl 5 0 0 (k + 1) 1 (k + 1), .sl 9 0 0 (k + 1) 1 (k + 1)]]), (0, [[.nil, .nil]])]⟩) (s0 := ⟨_, _⟩) (LeT.only (fun X => X != 8 && X != 4) (fun _ h => h) rfl (by simp [kpS]) (by simp [kpS])) ⟨0, _, _, _, _, by omega, rfl, rfl⟩ ?_
  rintro c s ⟨k, N', E', n', d', hc, hs, rfl⟩
  obtain ⟨l1, l2⟩ := adS_len p k _ hs
  simp only at l1 l2
  refine evx @A_r7_adams_L0.eq_1 ?_
  refine condC_intro (fun hk => ?_) (fun hk => ?_)
  · replace hk := of_decide_eq_true hk
    obtain ⟨⟨N2, E2, n2, d2⟩, hs2⟩ := adS_prev p (k + 1) (o - k) _ (by rw [show k + 1 + (o - k) = o + 1 by omega]; exact h)
    have hst : adStep p k (N', E', n', d') = some (N2, E2, n2, d2) := by
      have : (adS p k).bind (adStep p k) = some (N2, E2, n2, d2) := hs2
      rw [hs] at this; exact this
    simp only [adStep, Option.bind_eq_some_iff, Option.map_eq_some_iff] at hst
    obtain ⟨⟨a, b⟩, hab, ⟨n3, d3⟩, hnd, e⟩ := hst
    simp only [Prod.mk.injEq] at e
    obtain ⟨rfl, rfl, rfl, rfl⟩ := e
    have w2 : IntKind.i64.wrap (((k + 1 : Nat) : Int) - 1) = (k : Int) := by rw [wrapI (by omega) (by omega)]; omega
    refine evx w2 ?_
    (repeat (with_reducible refine And.intro (by omega) ?_))
    refine callG_con (r7_low_con (p.getD k 0) (w64 (p.getD 0 0 * ((k + 1 : Nat) : Int))) a b 64 hab) rfl ?_
    refine ev ?_
    (repeat (with_reducible refine And.intro (by omega) ?_))
    simp only [] at hnd
    have e1 : rowIV N' ++ [fI a] = rowIV (N' ++ [a]) := by simp [rowIV]
    have e2 : rowIV E' ++ [fI b] = rowIV (E' ++ [b]) := by simp [rowIV]
    by_cases h2 : (k + 1) % 2 = 1
    · have h' : (((k + 1 : Nat) : Int).tmod 2 == 1) = true := by rw [tmod2]; simp; omega
      rw [if_pos h2] at hnd
      refine evx h' ?_
      refine callG_con (r7_low_con (w64 (w64 (n' * b) + w64 (w64 (-1 * a) * d'))) (w64 (d' * b)) n3 d3 64 hnd) rfl ?_
      refine ev ?_
      rw [wrapI (by omega) (by omega)]
      rw [e1, e2]
      exact ⟨c - 1, _, by omega, LeT.only (fun X => decide (X ≤ 5) || X == 9) (fun _ h => h) rfl (by simp [kpS]) (by simp [kpS]), k + 1, _, _, _, _, by omega, hs2, rfl⟩
    · have h' : (((k + 1 : Nat) : Int).tmod 2 == 1) = false := by rw [tmod2]; simp; omega
      rw [if_neg h2] at hnd
      refine evx h' ?_
      refine callG_con (r7_low_con (w64 (w64 (n' * b) + w64 (w64 (1 * a) * d'))) (w64 (d' * b)) n3 d3 64 hnd) rfl ?_
      refine ev ?_
      rw [wrapI (by omega) (by omega)]
      rw [e1, e2]
      exact ⟨c - 1, _, by omega, LeT.only (fun X => decide (X ≤ 5) || X == 9) (fun _ h => h) rfl (by simp [kpS]) (by simp [kpS]), k + 1, _, _, _, _, by omega, hs2, rfl⟩
  · replace hk := of_decide_eq_false hk
    have e : k = o + 1 := by omega
    subst e
    rw [h] at hs
    simp only [Option.some.injEq, Prod.mk.injEq] at hs
    obtain ⟨rfl, rfl, rfl, rfl⟩ := hs
    refine ev ?_
    refine callSG_con (r7_low_con (w64 (0 - n)) d x y 64 hl) rfl ?_
    refine ev ?_
    (repeat (with_reducible refine And.intro (by omega) ?_))
    have hz1 : ∀ L L' : Heap, L.get 5 0 = some (rowIV (N.set 0 x)) → L'.fam 5 = none → Fz L L' (.sl 5 0 0 (o + 1 + 1) 1 (o + 1 + 1)) (.d (rowI (N.set 0 x))) := fun L L' a b => Fz_rowN a (by rw [List.length_set]; exact l1) rfl b
    have hz2 : ∀ L L' : Heap, L.get 9 0 = some (rowIV (E.set 0 y)) → L'.fam 9 = none → Fz L L' (.sl 9 0 0 (o + 1 + 1) 1 (o + 1 + 1)) (.d (rowI (E.set 0 y))) := fun L L' a b => Fz_rowN a (by rw [List.length_set]; exact l2) rfl b
    have e3 : D.bor N.length (rowIG (N.set 0 x)) = rowI (N.set 0 x) := by unfold rowI; rw [List.length_set]
    have e4 : D.bor E.length (rowIG (E.set 0 y)) = rowI (E.set 0 y) := by unfold rowI; rw [List.length_set]
    rw [e3, e4]
    exact endsT_le (.agg [.sl 5 0 0 (o + 1 + 1) 1 (o + 1 + 1), .sl 9 0 0 (o + 1 + 1) 1 (o + 1 + 1)]) (fun _ h => h) (resV_cellI (by decide) rfl rfl rfl (by simp) rfl) (Fz_agg _ _ ⟨hz1 _ _ (by simp [get_cons]) (by simp [fam_nil]), hz2 _ _ (by simp [get_cons]) (by simp [fam_nil]), trivial⟩)
def bdS (p : List Int) : Nat → Option (List Int × List Int)
  | 0 => some ([], [])
  | k + 1 => (bdS p k).bind fun s => (lowF 64 (p.getD k 0) (p.getD 1 0)).map fun ab => (s.1 ++ [ab.1], s.2 ++ [ab.2])
theorem bdS_prev (p : List Int) (k : Nat) : ∀ d s, bdS p (k + d) = some s → ∃ s', bdS p k = some s'
  | 0, s, h => ⟨s, h⟩
  | d + 1, s, h => by
    obtain ⟨s1, h1, _⟩ := Option.bind_eq_some_iff.1 (show (bdS p (k + d)).bind _ = some s from h)
    exact bdS_prev p k d s1 h1
theorem bdS_len (p : List Int) (k : Nat) : ∀ s, bdS p k = some s → s.1.length = k ∧ s.2.length = k := by
  induction k with
  | zero => intro s h; simp only [bdS, Option.some.injEq] at h; subst h; exact ⟨rfl, rfl⟩
  | succ k ih =>
    intro s h
    obtain ⟨s1, h1, h2⟩ := Option.bind_eq_some_iff.1 (show (bdS p k).bind _ = some s from h)
    obtain ⟨a, b⟩ := ih s1 h1
    obtain ⟨ab, _, rfl⟩ := Option.map_eq_some_iff.1 h2
    exact ⟨by simp [a], by simp [b]⟩
set_option maxRecDepth 8000 in
theorem r7_bdf_con (z : Int) (o : Nat) (hz : z = (o + 1 : Nat)) (ho1 : o + 1 < 2 ^ 20) (N E : List Int) (h : bdS (prodP (o + 1)) (o + 2) = some (N, E)) :
    Con Tryz.prog 117 [fI z] (.agg [.d (rowI N), .d (rowI E)]) := by
  subst hz
  refine Con_introA A_r7_bdf_comp rfl mixed ?_
  refine evx @A_r7_bdf.eq_1 ?_
  refine callG_con (r7_product_con ((o + 1 : Nat) : Int) (o + 1) rfl ho1) rfl ?_
  have hp := prodP_len (o + 1)
  generalize prodP (o + 1) = p at hp h
  refine ev ?_
  refine WA_forW (n := o + 2) (fun c s => ∃ k N' E', c + k = o + 2 ∧ bdS p k = some (N', E') ∧ ((k = 0 ∧ s = ⟨[(0, fI (o + 1 : Nat)), (2, .ptr 0 0 0 2), (3, .d (rowI p)), (4, .ptr 1 0 0 2), (5, fI k)], [(1, [[.nil, .nil]]), (0, [[.nil, .nil]])]⟩) ∨
      (0 < k ∧ s = ⟨[(0, fI (o + 1 : Nat)), (2, .ptr 0 0 0 2), (3, .d (rowI p)), (4, .ptr 1 0 0 2), (5, fI k)], [(11, [rowIV E']), (6, [rowIV N']), (1, [[.sl 6 0 0 k 1 k, .sl 11 0 0 k 1 k]]), (0, [[.nil, .nil]])]⟩))) (Le.refl _) ⟨0, [], [], rfl, rfl, .inl ⟨rfl, rfl⟩⟩ ?_
  rintro c s ⟨k, N', E', hc, hs, ⟨rfl, rfl⟩ | ⟨hk0, rfl⟩⟩
  · refine evx @A_r7_bdf_L0.eq_1 ?_
    obtain ⟨⟨N2, E2⟩, hs2⟩ := bdS_prev p (0 + 1) (o + 2 - (0 + 1)) _ (by rw [show 0 + 1 + (o + 2 - (0 + 1)) = o + 2 by omega]; exact h)
    have hst := hs2
    rw [show bdS p (0 + 1) = (bdS p 0).bind fun s => (lowF 64 (p.getD 0 0) (p.getD 1 0)).map fun ab => (s.1 ++ [ab.1], s.2 ++ [ab.2]) from rfl, hs] at hst
    simp only [Option.bind_some, Option.map_eq_some_iff] at hst
    obtain ⟨⟨a, b⟩, hab, e⟩ := hst
    simp only [Prod.mk.injEq] at e
    obtain ⟨rfl, rfl⟩ := e
    (repeat (with_reducible refine And.intro (by omega) ?_))
    refine callG_con (r7_low_con (p.getD 0 0) (p.getD 1 0) a b 64 hab) rfl ?_
    refine ev ?_
    obtain ⟨rfl, rfl⟩ : [] = N' ∧ [] = E' := by simpa [bdS] using hs
    rw [show IntKind.i64.wrap 1 = ((0 + 1 : Nat) : Int) from by decide]
    exact ⟨c - 1, _, by omega, LeT.only (fun X => X != 10 && X != 5) (fun _ h => h) rfl (by simp [kpS]) (by simp [kpS]), 0 + 1, _, _, by omega, hs2, .inr ⟨by omega, rfl⟩⟩
  · obtain ⟨l1, l2⟩ := bdS_len p k _ hs
    simp only at l1 l2
    refine evx @A_r7_bdf_L0.eq_1 ?_
    refine condC_intro (fun hk => ?_) (fun hk => ?_)
    · replace hk := of_decide_eq_true hk
      refine ev ?_
      obtain ⟨⟨N2, E2⟩, hs2⟩ := bdS_prev p (k + 1) (o + 2 - (k + 1)) _ (by rw [show k + 1 + (o + 2 - (k + 1)) = o + 2 by omega]; exact h)
      have hst := hs2
      rw [show bdS p (k + 1) = (bdS p k).bind fun s => (lowF 64 (p.getD k 0) (p.getD 1 0)).map fun ab => (s.1 ++ [ab.1], s.2 ++ [ab.2]) from rfl, hs] at hst
      simp only [Option.bind_some, Option.map_eq_some_iff] at hst
      obtain ⟨⟨a, b⟩, hab, e⟩ := hst
      simp only [Prod.mk.injEq] at e
      obtain ⟨rfl, rfl⟩ := e
      (repeat (with_reducible refine And.intro (by omega) ?_))
      refine callG_con (r7_low_con (p.getD k 0) (p.getD 1 0) a b 64 hab) rfl ?_
      refine ev ?_
      (repeat (with_reducible refine And.intro (by omega) ?_))
      have e1 : rowIV N' ++ [fI a] = rowIV (N' ++ [a]) := by simp [rowIV]
      have e2 : rowIV E' ++ [fI b] = rowIV (E' ++ [b]) := by simp [rowIV]
      rw [wrapI (by omega) (by omega), e1, e2]
      exact ⟨c - 1, _, by omega, LeT.only (fun X => decide (X ≤ 6) || X == 11) (fun _ h => h) rfl (by simp [kpS]) (by simp [kpS]), k + 1, _, _, by omega, hs2, .inr ⟨by omega, rfl⟩⟩
    · replace hk := of_decide_eq_false hk
      have e : k = o + 2 := by omega
      subst e
      rw [h] at hs
      simp only [Option.some.injEq, Prod.mk.injEq] at hs
      obtain ⟨rfl, rfl⟩ := hs
      refine ev ?_
      have hz1 : ∀ L L' : Heap, L.get 6 0 = some (rowIV N) → L'.fam 6 = none → Fz L L' (.sl 6 0 0 (o + 2) 1 (o + 2)) (.d (rowI N)) := fun L L' a b => Fz_rowN a l1 rfl b
      have hz2 : ∀ L L' : Heap, L.get 11 0 = some (rowIV E) → L'.fam 11 = none → Fz L L' (.sl 11 0 0 (o + 2) 1 (o + 2)) (.d (rowI E)) := fun L L' a b => Fz_rowN a l2 rfl b
      exact endsT_le (.agg [.sl 6 0 0 (o + 2) 1 (o + 2), .sl 11 0 0 (o + 2) 1 (o + 2)]) (fun _ h => h) (resV_cellI (by decide) rfl rfl rfl (by simp) rfl) (Fz_agg _ _ ⟨hz1 _ _ (by simp [get_cons]) (by simp [fam_nil]), hz2 _ _ (by simp [get_cons]) (by simp [fam_nil]), trivial⟩)
def exS (m : Int) (q : Nat) : Option (List Int × List Int) :=
  if m = 0 then (adS (prodP (q - 1)) q).bind fun s => (lowF 64 (w64 (0 - s.2.2.1)) s.2.2.2).map fun xy => (s.1.set 0 xy.1, s.2.1.set 0 xy.2)
  else bdS (prodP q) (q + 1)
set_option maxRecDepth 8000 in
theorem r7_Exact_con (m : Int) (q : Nat) (hm : (m = 0 ∧ 1 ≤ q ∧ q ≤ 5) ∨ (m = 1 ∧ 1 ≤ q ∧ q ≤ 4)) (N E : List Int) (h : exS m q = some (N, E)) :
    Con Tryz.prog 62 [fI m, fI q] (.tup [.agg [.d (rowI N), .d (rowI E)], fB true]) := by
  refine Con_introA A_r7_Exact_comp rfl mixed ?_
  refine evx @A_r7_Exact.eq_1 ?_
  obtain ⟨o, rfl⟩ : ∃ o, q = o + 1 := ⟨q - 1, by omega⟩
  rcases hm with ⟨rfl, h1, h2⟩ | ⟨rfl, h1, h2⟩
  · have g1 : decide ((1 : Int) ≤ ((o + 1 : Nat) : Int)) = true := by simp; omega
    have g2 : decide (((o + 1 : Nat) : Int) ≤ 5) = true := by simp; omega
    unfold exS at h
    rw [if_pos rfl] at h
    obtain ⟨⟨N', E', n, d⟩, hs, h3⟩ := Option.bind_eq_some_iff.1 h
    obtain ⟨⟨x, y⟩, hl, e⟩ := Option.map_eq_some_iff.1 h3
    simp only [Prod.mk.injEq] at e
    obtain ⟨rfl, rfl⟩ := e
    refine evx (And.intro g1 g2) ?_
    refine callG_con (r7_adams_con ((o + 1 : Nat) : Int) o rfl (by omega) N' E' n d x y hs hl) rfl ?_
    refine ev ?_
    exact endsT_only (fun _ => false) (fun _ h => h) ⟨_, _, resV_cell (by decide) rfl (cells := [_, _]) (by simp [get_cons]) rfl (by simp) rfl, resV_tmpI (t := 5) (by decide) rfl, rfl⟩ rfl (by simp [kpS]) (by simp [kpS])
  · have g1 : decide ((1 : Int) ≤ ((o + 1 : Nat) : Int)) = true := by simp; omega
    have g2 : decide (((o + 1 : Nat) : Int) ≤ 4) = true := by simp; omega
    unfold exS at h
    rw [if_neg (by decide)] at h
    refine evbx (And.intro g1 g2) ?_
    refine callG_con (r7_bdf_con ((o + 1 : Nat) : Int) o rfl (by omega) N E h) rfl ?_
    refine ev ?_
    exact endsT_only (fun _ => false) (fun _ h => h) ⟨_, _, resV_cell (by decide) rfl (cells := [_, _]) (by simp [get_cons]) rfl (by simp) rfl, resV_tmpI (t := 5) (by decide) rfl, rfl⟩ rfl (by simp [kpS]) (by simp [kpS])
def ofP (N E : List Int) : List Nat := tabR (fun i => fop .div (FloatKind.nearest .f64 (N.getD i 0)) (FloatKind.nearest .f64 (E.getD i 0))) N.length
theorem exS_len (m : Int) (q : Nat) (hq : 1 ≤ q) (N E : List Int) (h : exS m q = some (N, E)) : N.length = q + 1 ∧ E.length = q + 1 := by
  unfold exS at h
  split at h
  · obtain ⟨⟨N', E', n, d⟩, hs, h3⟩ := Option.bind_eq_some_iff.1 h
    obtain ⟨⟨x, y⟩, hl, e⟩ := Option.map_eq_some_iff.1 h3
    simp only [Prod.mk.injEq] at e
    obtain ⟨rfl, rfl⟩ := e
    obtain ⟨a, b⟩ := adS_len _ _ _ hs
    exact ⟨by simpa using a, by simpa using b⟩
  · exact bdS_len _ _ _ h
set_option maxRecDepth 8000 in
theorem r7_Of_con (m : Int) (q : Nat) (hm : (m = 0 ∧ 1 ≤ q ∧ q ≤ 5) ∨ (m = 1 ∧ 1 ≤ q ∧ q ≤ 4)) (N E : List Int) (h : exS m q = some (N, E)) :
    Con Tryz.prog 28 [fI m, fI q] (.tup [.d (rowD (ofP N E)), fB true]) := by
  obtain ⟨l1, l2⟩ := exS_len m q (by omega) N E h
  refine Con_introA A_r7_Of_comp rfl mixed ?_
  refine evx @A_r7_Of.eq_1 ?_
  refine callG_con (r7_Exact_con m q hm N E h) rfl ?_
  refine evx @Bool.not_true ?_
  refine WA_forW (n := q + 1) (fun c s => ∃ i, c + i = q + 1 ∧ s = ⟨[(6, .ptr 6 0 0 2), (8, .sl 20 0 0 i 1 i), (9, fI i)], [(20, [rowV (tabR (fun i => fop .div (FloatKind.nearest .f64 (N.getD i 0)) (FloatKind.nearest .f64 (E.getD i 0))) i)]), (6, [[.d (rowI N), .d (rowI E)]])]⟩) (s0 := ⟨_, _⟩)
    (LeT.nilrow (X := 20) (esz := 1) (as' := [(6, .ptr 6 0 0 2), (8, .sl 20 0 0 0 1 0), (9, fI 0)]) (by simp [fam_cons, fam_nil]) (fun h => h) fun i => ?_) ⟨0, by omega, rfl⟩ ?_
  · simp only [look]
    repeat' split
    all_goals simp
  rintro c s ⟨i, hc, rfl⟩
  have hl := tabR_len (fun i => fop .div (FloatKind.nearest .f64 (N.getD i 0)) (FloatKind.nearest .f64 (E.getD i 0))) i
  have hsc := tabR_succ (fun i => fop .div (FloatKind.nearest .f64 (N.getD i 0)) (FloatKind.nearest .f64 (E.getD i 0))) i
  refine evx @A_r7_Of_L0.eq_1 ?_
  refine condC_intro (fun hi => ?_) (fun hi => ?_)
  · replace hi := of_decide_eq_true hi
    refine ev ?_
    (repeat (with_reducible refine And.intro (by omega) ?_))
    rw [wrapI (by omega) (by omega)]
    have e : rowV (tabR (fun i => fop .div (FloatKind.nearest .f64 (N.getD i 0)) (FloatKind.nearest .f64 (E.getD i 0))) i) ++ [fl (fop .div (FloatKind.nearest .f64 (N.getD i 0)) (FloatKind.nearest .f64 (E.getD i 0)))] = rowV (tabR (fun i => fop .div (FloatKind.nearest .f64 (N.getD i 0)) (FloatKind.nearest .f64 (E.getD i 0))) (i + 1)) := hsc.symm
    rw [e]
    exact ⟨c - 1, _, by omega, LeT.only (fun X => decide (X ≤ 20)) (fun _ h => h) rfl (by simp [kpS]) (by simp [kpS]), i + 1, by omega, rfl⟩
  · replace hi := of_decide_eq_false hi
    have e : i = q + 1 := by omega
    subst e
    refine ev ?_
    have ho : ofP N E = tabR (fun i => fop .div (FloatKind.nearest .f64 (N.getD i 0)) (FloatKind.nearest .f64 (E.getD i 0))) (q + 1) := by unfold ofP; rw [l1]
    rw [← ho]
    rw [← ho] at hl
    have hz : Fz [(20, [rowV (ofP N E)]), (6, [[.d (rowI N), .d (rowI E)]])] [] (.sl 20 0 0 (q + 1) 1 (q + 1)) (.d (rowD (ofP N E))) := Fz_row (by simp [get_cons]) hl rfl (by simp [get_nil])
    refine endsT_le (.tup [.sl 20 0 0 (q + 1) 1 (q + 1), fB true]) (fun _ h => h) ⟨_, _, resV_tmpI (t := 4) (by decide) rfl, resV_tmpI (t := 5) (by decide) rfl, rfl⟩ (.tup rfl fun j hj => ?_)
    rcases j with _ | _ | j
    · exact hz
    · exact Fz_d _
    · simp at hj; omega
theorem exS_some (m : Int) (q : Nat) (hm : (m = 0 ∧ 1 ≤ q ∧ q ≤ 5) ∨ (m = 1 ∧ 1 ≤ q ∧ q ≤ 4)) : ∃ N E, exS m q = some (N, E) := by
  have h0 : ((List.range 5).all fun i => (exS 0 (i + 1)).isSome) = true := by kernel_rfl
  have h1 : ((List.range 4).all fun i => (exS 1 (i + 1)).isSome) = true := by kernel_rfl
  have : (exS m q).isSome = true := by
    obtain ⟨o, rfl⟩ : ∃ o, q = o + 1 := ⟨q - 1, by omega⟩
    rcases hm with ⟨rfl, a, b⟩ | ⟨rfl, a, b⟩
    · exact List.all_eq_true.1 h0 o (by simp; omega)
    · exact List.all_eq_true.1 h1 o (by simp; omega)
  obtain ⟨⟨N, E⟩, h⟩ := Option.isSome_iff_exists.1 this
  exact ⟨N, E, h⟩
def ofL (m : Int) (q : Nat) : List Nat := match exS m q with
  | some s => ofP s.1 s.2
  | none => []
theorem r7_Of_ok (m : Int) (q : Nat) (hm : (m = 0 ∧ 1 ≤ q ∧ q ≤ 5) ∨ (m = 1 ∧ 1 ≤ q ∧ q ≤ 4)) : Con Tryz.prog 28 [fI m, fI q] (.tup [.d (rowD (ofL m q)), fB true]) ∧ (ofL m q).length = q + 1 := by
  obtain ⟨N, E, h⟩ := exS_some m q hm
  obtain ⟨l1, l2⟩ := exS_len m q (by omega) N E h
  have e : ofL m q = ofP N E := by unfold ofL; rw [h]
  rw [e]
  exact ⟨r7_Of_con m q hm N E h, by unfold ofP; rw [tabR_len]; exact l1⟩
structure Pb where
  t : Tp
  box : List (Nat × Nat)
  y : List Nat
  fin : Int
  first : Int
  least : Int
  atol : Nat
  rtol : Nat
  cap : Nat
  most : Int
  outs : List Int
abbrev pbC (p : Pb) : List V := [fI p.t.n, .d (opsD p.t.ops), .d (rowI p.t.out), .d (ivD p.box), .d (rowD p.y), fI p.fin, fI p.first, fI p.least, fl p.atol, fl p.rtol, fl p.cap, fI p.most, .d (rowI p.outs)]
abbrev pbV (p : Pb) : V := .agg (pbC p)
abbrev pbCo (p : Pb) (od : D) : List V := [fI p.t.n, .d (opsD p.t.ops), .d (rowI p.t.out), .d (ivD p.box), .d (rowD p.y), fI p.fin, fI p.first, fI p.least, fl p.atol, fl p.rtol, fl p.cap, fI p.most, .d od]
abbrev pbVo (p : Pb) (od : D) : V := .agg (pbCo p od)
structure Nd where
  pos : Int
  step : Int
  order : Int
  method : Int
  z : List (List Nat)
abbrev ndC (n : Nd) : List V := [fI n.pos, fI n.step, fI n.order, fI n.method, .d (rowsD n.z)]
abbrev ndV (n : Nd) : V := .agg (ndC n)
structure Sta where
  n : Nd
  good : Int
  fails : Int
  slow : Int
abbrev staC (s : Sta) : List V := [fI s.n.pos, fI s.n.step, fI s.n.order, fI s.n.method, .d (rowsD s.n.z), fI s.good, fI s.fails, fI s.slow]
abbrev staV (s : Sta) : V := .agg (staC s)
structure Trd where
  s : Sta
  n : Nd
  taken : Bool
  err : Nat
  e : Int
abbrev trdC (r : Trd) : List V := [fI r.s.n.pos, fI r.s.n.step, fI r.s.n.order, fI r.s.n.method, .d (rowsD r.s.n.z), fI r.s.good, fI r.s.fails, fI r.s.slow,
  fI r.n.pos, fI r.n.step, fI r.n.order, fI r.n.method, .d (rowsD r.n.z), fB r.taken, fl r.err, fI r.e]
abbrev trdV (r : Trd) : V := .agg (trdC r)
def freshP (p : Pb) (n : Nd) : Nd := ⟨n.pos, n.step, 1, n.method, startZ p.t (n.z.getD 0 []) (hW n.step.toNat)⟩
def lessW (k : Nat) : Nat := scl 4607182418800017408 (-(k : Int))
def mostO (m : Int) : Int := if m = 0 then 5 else 4
def nextR (l d : List Nat) (q : Nat) : List Nat := tabR (fun i => fop .div (fop .mul (l.getD q 0) (d.getD i 0)) (FloatKind.nearest .f64 ((q : Int) + 1))) d.length
def takeP (p : Pb) (s : Sta) (z : List (List Nat)) (l d : List Nat) (err : Nat) : Trd :=
  let q := s.n.order.toNat
  let n : Nd := { s.n with pos := s.n.pos + s.n.step, z := corrP z l d (q + 1) p.t.n }
  let s' : Sta :=
    if s.good + 1 ≤ s.n.order + 1 then ⟨n, s.good + 1, 0, s.slow⟩
    else if fcmp .le err (lessW (q + 3)) = true ∧ s.n.step ≤ p.fin then ⟨{ n with step := 2 * s.n.step, z := scaleP n.z 1 (q + 1) p.t.n }, 0, 0, s.slow⟩
    else if fcmp .le err 4598175219545276416 = true ∧ s.n.order < mostO s.n.method then ⟨{ n with order := s.n.order + 1, z := n.z ++ [nextR l d q] }, 0, 0, s.slow⟩
    else ⟨n, s.good + 1, 0, s.slow⟩
  ⟨s', n, true, err, 0⟩
def failP (p : Pb) (s : Sta) (e : Int) (err : Nat) : Trd :=
  let q := s.n.order.toNat
  if s.n.step ≤ p.least then ⟨s, ⟨0, 0, 0, 0, []⟩, false, err, if e = 4 ∨ e = 2 then e else 5⟩
  else
    let slow := if e = 6 ∧ s.n.method = 0 then s.slow + 1 else s.slow
    let n : Nd := { s.n with step := s.n.step / 2, z := scaleP s.n.z (-1) (q + 1) p.t.n }
    let s' : Sta :=
      if 2 ≤ slow then ⟨freshP p { n with method := 1 }, 0, 0, 0⟩
      else if s.fails + 1 < 3 then ⟨n, 0, s.fails + 1, slow⟩
      else ⟨freshP p n, 0, 0, slow⟩
    ⟨s', ⟨0, 0, 0, 0, []⟩, false, err, 0⟩
def tryP (p : Pb) (s : Sta) : Trd :=
  let q := s.n.order.toNat
  let z := predP s.n.z p.t.n q
  let l := ofL s.n.method q
  let w := wtP (s.n.z.getD 0 []) p.atol p.rtol
  let c := solG p.t z l (hW s.n.step.toNat) w s.n.method
  if c.2.2 ≠ 0 then failP p s c.2.2 0
  else
    let err := fop .div (szP c.1 w) (FloatKind.nearest .f64 (s.n.order + 1))
    if fcmp .le err 4607182418800017408 = true then takeP p s z l c.1 err else failP p s 0 err
structure Pok (p : Pb) : Prop where
  t : Tok p.t
  n : 0 < p.t.n
  least : 1 ≤ p.least
structure Nok (t : Tp) (n : Nd) : Prop where
  m : (n.method = 0 ∧ 1 ≤ n.order ∧ n.order ≤ 5) ∨ (n.method = 1 ∧ 1 ≤ n.order ∧ n.order ≤ 4)
  step : ∃ j : Nat, j < 60 ∧ n.step = (2 ^ j : Nat)
  rk : Rk (n.order.toNat + 1) t.n n.z
  cw : Cw n.z
  pos : 0 ≤ n.pos ∧ n.pos < 2305843009213693952
structure Sta.ok (t : Tp) (s : Sta) : Prop where
  n : Nok t s.n
  good : 0 ≤ s.good ∧ s.good < 1000000000
  fails : 0 ≤ s.fails ∧ s.fails < 1000000000
  slow : 0 ≤ s.slow ∧ s.slow < 1000000000
def A_r8_copied_L0 : CA := (.seq (.seq (.reg [i_M 0 5 4, i_M 1 6 0, i_X 2 7 (.h (.len (.t 6))), i_N 3 8 .lss 5 7] [0, 3, 4, 8]) (.cond (.t 8) .skip (.exit 0))) (.seq (.block 1 (.reg [i_M 0 11 3, i_X 1 12 (.bslice [] 0 1 [] 31), i_M 2 13 0, i_M 3 14 4, i_I 4 15 13 14 1, i_L 5 16 15 1, i_X 6 17 (.app (.t 12) (.t 16) 1 8), i_X 7 18 (.bslice [.nil] 1 1 [(0, (1, (.t 17)))] 30), i_X 8 19 (.app (.t 11) (.t 18) 1 24), i_M 9 3 19] [0, 3, 4])) (.reg [i_M 0 9 4, i_B 1 10 .add 9 1, i_M 2 4 10] [0, 3, 4])))
def A_r8_copied : CA := (.seq (.reg [i_X 0 2 (.h (.mov (.k .nil)))] [0]) (.seq (.reg [i_X 0 3 (.h (.mov (.k .nil)))] [0, 3]) (.seq (.seq (.reg [i_K 0 4 0] [0, 3, 4]) (.block 0 (.loop A_r8_copied_L0))) (.seq (.reg [i_M 0 20 3, i_M 1 2 20] [2]) .ret))))
theorem A_r8_copied_comp : compF Tryz.prog 61 = some ⟨21, [(2, none)], A_r8_copied.strip⟩ := by kernel_rfl
def A_r8_Predict_L2 : CA := (.seq (.seq (.reg [i_M 0 26 7, i_M 1 27 3, i_M 2 28 6, i_I 3 29 27 28 1, i_L 4 30 29 1, i_X 5 31 (.h (.len (.t 30))), i_N 6 32 .lss 26 31] [3, 4, 5, 6, 7, 32]) (.cond (.t 32) .skip (.exit 4))) (.seq (.block 5 (.reg [i_M 0 35 3, i_M 1 36 6, i_I 2 37 35 36 1, i_L 3 38 37 1, i_M 4 39 7, i_M 5 40 3, i_M 6 41 6, i_I 7 42 40 41 1, i_L 8 43 42 1, i_M 9 44 7, i_I 10 45 43 44 1, i_L 11 46 45 1, i_M 12 47 3, i_M 13 48 6, i_B 14 49 .add 48 1, i_I 15 50 47 49 1, i_L 16 51 50 1, i_M 17 52 7, i_I 18 53 51 52 1, i_L 19 54 53 1, i_F 20 55 .add 46 54, i_I 21 56 38 39 1, i_S 22 56 55 1] [3, 4, 5, 6, 7])) (.reg [i_M 0 33 7, i_B 1 34 .add 33 1, i_M 2 7 34] [3, 4, 5, 6, 7])))
def A_r8_Predict_L1 : CA := (.seq (.seq (.reg [i_M 0 20 6, i_M 1 21 5, i_B 2 22 .sub 21 1, i_N 3 23 .geq 20 22] [3, 4, 5, 6, 23]) (.cond (.t 23) .skip (.exit 2))) (.seq (.block 3 (.seq (.reg [i_K 0 7 0] [3, 4, 5, 6, 7]) (.block 4 (.loop A_r8_Predict_L2)))) (.reg [i_M 0 24 6, i_B 1 25 .sub 24 1, i_M 2 6 25] [3, 4, 5, 6])))
def A_r8_Predict_L0 : CA := (.seq (.seq (.reg [i_M 0 13 5, i_M 1 14 4, i_N 2 15 .leq 13 14] [3, 4, 5, 15]) (.cond (.t 15) .skip (.exit 0))) (.seq (.block 1 (.seq (.reg [i_M 0 18 4, i_B 1 19 .sub 18 1, i_M 2 6 19] [3, 4, 5, 6]) (.block 2 (.loop A_r8_Predict_L1)))) (.reg [i_M 0 16 5, i_B 1 17 .add 16 1, i_M 2 5 17] [3, 4, 5])))
def A_r8_Predict : CA := (.seq (.reg [i_X 0 2 (.h (.mov (.k .nil)))] [0]) (.seq (.reg [i_M 0 8 0, i_X 1 9 (.callA (kF 61) [(.t 8)]), i_M 2 3 9] [3]) (.seq (.reg [i_M 0 10 3, i_X 1 11 (.h (.len (.t 10))), i_B 2 12 .sub 11 1, i_M 3 4 12] [3, 4]) (.seq (.seq (.reg [i_K 0 5 1] [3, 4, 5]) (.block 0 (.loop A_r8_Predict_L0))) (.seq (.reg [i_M 0 57 3, i_M 1 2 57] [2]) .ret)))))
theorem A_r8_Predict_comp : compF Tryz.prog 27 = some ⟨58, [(2, none)], A_r8_Predict.strip⟩ := by kernel_rfl
def A_r8_Correct_L1 : CA := (.seq (.seq (.reg [i_M 0 19 9, i_M 1 20 2, i_X 2 21 (.h (.len (.t 20))), i_N 3 22 .lss 19 21] [1, 2, 7, 8, 9, 22]) (.cond (.t 22) .skip (.exit 2))) (.seq (.block 3 (.seq (.reg [i_M 0 25 1, i_M 1 26 8, i_I 2 27 25 26 1, i_L 3 28 27 1, i_M 4 29 2, i_M 5 30 9, i_I 6 31 29 30 1, i_L 7 32 31 1, i_F 8 33 .mul 28 32, i_M 9 10 33] [1, 2, 7, 8, 9, 10]) (.reg [i_M 0 34 7, i_M 1 35 8, i_I 2 36 34 35 1, i_L 3 37 36 1, i_M 4 38 9, i_M 5 39 7, i_M 6 40 8, i_I 7 41 39 40 1, i_L 8 42 41 1, i_M 9 43 9, i_I 10 44 42 43 1, i_L 11 45 44 1, i_M 12 46 10, i_F 13 47 .add 45 46, i_I 14 48 37 38 1, i_S 15 48 47 1] [1, 2, 7, 8, 9]))) (.reg [i_M 0 23 9, i_B 1 24 .add 23 1, i_M 2 9 24] [1, 2, 7, 8, 9])))
def A_r8_Correct_L0 : CA := (.seq (.seq (.reg [i_M 0 13 8, i_M 1 14 7, i_X 2 15 (.h (.len (.t 14))), i_N 3 16 .lss 13 15] [1, 2, 7, 8, 16]) (.cond (.t 16) .skip (.exit 0))) (.seq (.block 1 (.seq (.reg [i_K 0 9 0] [1, 2, 7, 8, 9]) (.block 2 (.loop A_r8_Correct_L1)))) (.reg [i_M 0 17 8, i_B 1 18 .add 17 1, i_M 2 8 18] [1, 2, 7, 8])))
def A_r8_Correct : CA := (.seq (.reg [i_X 0 6 (.h (.mov (.k .nil)))] [0, 1, 2]) (.seq (.reg [i_M 0 11 0, i_X 1 12 (.callA (kF 61) [(.t 11)]), i_M 2 7 12] [1, 2, 7]) (.seq (.seq (.reg [i_K 0 8 0] [1, 2, 7, 8]) (.block 0 (.loop A_r8_Correct_L0))) (.seq (.reg [i_M 0 49 7, i_M 1 6 49] [6]) .ret))))
theorem A_r8_Correct_comp : compF Tryz.prog 72 = some ⟨50, [(6, none)], A_r8_Correct.strip⟩ := by kernel_rfl
def A_r8_Rescale_L1 : CA := (.seq (.seq (.reg [i_M 0 16 7, i_M 1 17 5, i_M 2 18 6, i_I 3 19 17 18 1, i_L 4 20 19 1, i_X 5 21 (.h (.len (.t 20))), i_N 6 22 .lss 16 21] [1, 5, 6, 7, 22]) (.cond (.t 22) .skip (.exit 2))) (.seq (.block 3 (.reg [i_M 0 25 5, i_M 1 26 6, i_I 2 27 25 26 1, i_L 3 28 27 1, i_M 4 29 7, i_M 5 30 5, i_M 6 31 6, i_I 7 32 30 31 1, i_L 8 33 32 1, i_M 9 34 7, i_I 10 35 33 34 1, i_L 11 36 35 1, i_M 12 37 6, i_M 13 38 1, i_N 14 39 .mul 37 38, i_X 15 40 (.callS 15 (kF 121) [(.t 36), (.t 39)]), i_I 16 41 28 29 1, i_S 17 41 40 1] [1, 5, 6, 7])) (.reg [i_M 0 23 7, i_B 1 24 .add 23 1, i_M 2 7 24] [1, 5, 6, 7])))
def A_r8_Rescale_L0 : CA := (.seq (.seq (.reg [i_M 0 10 6, i_M 1 11 5, i_X 2 12 (.h (.len (.t 11))), i_N 3 13 .lss 10 12] [1, 5, 6, 13]) (.cond (.t 13) .skip (.exit 0))) (.seq (.block 1 (.seq (.reg [i_K 0 7 0] [1, 5, 6, 7]) (.block 2 (.loop A_r8_Rescale_L1)))) (.reg [i_M 0 14 6, i_B 1 15 .add 14 1, i_M 2 6 15] [1, 5, 6])))
def A_r8_Rescale : CA := (.seq (.reg [i_X 0 4 (.h (.mov (.k .nil)))] [0, 1]) (.seq (.reg [i_M 0 8 0, i_X 1 9 (.callA (kF 61) [(.t 8)]), i_M 2 5 9] [1, 5]) (.seq (.seq (.reg [i_K 0 6 0] [1, 5, 6]) (.block 0 (.loop A_r8_Rescale_L0))) (.seq (.reg [i_M 0 42 5, i_M 1 4 42] [4]) .ret))))
theorem A_r8_Rescale_comp : compF Tryz.prog 69 = some ⟨43, [(4, none)], A_r8_Rescale.strip⟩ := by kernel_rfl
def A_r8_Start_L0 : CA := (.seq (.seq (.reg [i_M 0 13 9, i_M 1 14 7, i_X 2 15 (.h (.len (.t 14))), i_N 3 16 .lss 13 15] [1, 2, 6, 7, 8, 9, 16]) (.cond (.t 16) .skip (.exit 0))) (.seq (.block 1 (.reg [i_M 0 19 8, i_M 1 20 2, i_X 2 21 (.callS 0 (kF 49) [(.t 20)]), i_M 3 22 7, i_M 4 23 9, i_I 5 24 22 23 1, i_L 6 25 24 1, i_F 7 26 .mul 21 25, i_X 8 27 (.bslice [(.d (.flt 0))] 1 1 [(0, (1, (.t 26)))] 31), i_X 9 28 (.app (.t 19) (.t 27) 1 8), i_M 10 8 28] [1, 2, 6, 7, 8, 9])) (.reg [i_M 0 17 9, i_B 1 18 .add 17 1, i_M 2 9 18] [1, 2, 6, 7, 8, 9])))
def A_r8_Start : CA := (.seq (.reg [i_X 0 3 (.box (.t 0) 3 28), i_X 1 6 (.alloc [(.d (.int .i64 0)), (.d (.int .i64 0)), (.d (.int .i64 0)), (.d (.int .i64 0)), .nil] 37)] [1, 2, 3, 6]) (.seq (.reg [i_A 0 10 3 3, i_M 1 11 1, i_X 2 12 (.callA (kF 60) [(.t 10), (.t 11)]), i_M 3 7 12] [1, 2, 6, 7]) (.seq (.reg [i_X 0 8 (.h (.mov (.k .nil)))] [1, 2, 6, 7, 8]) (.seq (.seq (.reg [i_K 0 9 0] [1, 2, 6, 7, 8, 9]) (.block 0 (.loop A_r8_Start_L0))) (.seq (.reg [i_M 0 29 2, i_X 1 30 (.bslice [] 0 1 [] 31), i_M 2 31 1, i_X 3 32 (.app (.t 30) (.t 31) 1 8), i_M 4 33 8, i_X 5 34 (.bslice [.nil, .nil] 2 1 [(0, (1, (.t 32))), (1, (1, (.t 33)))] 30), i_X 6 35 (.h (.build [(.d (.int .i64 0)), (.d (.int .i64 0)), (.d (.int .i64 0)), (.d (.int .i64 0)), .nil] [(1, (1, (.t 29))), (2, (1, (kI 1))), (4, (1, (.t 34)))])), i_S 7 6 35 5] [6]) .ret)))))
theorem A_r8_Start_comp : compF Tryz.prog 26 = some ⟨36, [(6, (some (5, true)))], A_r8_Start.strip⟩ := by kernel_rfl
def A_r1_Scale : CA := (.seq (.reg [i_X 0 4 (.h (.mov (.k (.d (.flt 0)))))] [0, 1]) (.seq (.reg [i_M 0 5 0, i_M 1 6 1, i_X 2 7 (.callA (kF 75) [(.t 5), (.t 6)]), i_M 3 4 7] [4]) .ret))
theorem A_r1_Scale_comp : compF Tryz.prog 121 = some ⟨8, [(4, none)], A_r1_Scale.strip⟩ := by kernel_rfl
theorem Rk_get {m n : Nat} {A : List (List Nat)} (hA : Rk m n A) {L : Heap} {X : Nat} (h : L.fam X = some (A.map rowV)) (r : Nat) (hr : r < m) : L.get X (r + 0) = some (rowV (A.getD r [])) ∧ (A.getD r []).length = n := by
  refine ⟨?_, hA.2 r hr⟩
  unfold Heap.get
  have : r < A.length := by rw [hA.1]; exact hr
  rw [h, Nat.add_zero]
  simp [List.getD_eq_getElem?_getD, this]
theorem Fz_rk {L L' : Heap} {H X m n : Nat} {A : List (List Nat)} (hA : Rk m n A) (h : L.get H 0 = some (hdo X 0 m n)) (hX : L.fam X = some (A.map rowV)) (h1 : L'.fam H = none) (h2 : L'.fam X = none) : Fz L L' (.sl H 0 0 m 1 m) (.d (rowsD A)) :=
  Fz_rows (o := 0) (len := n) h (fun r hr => Rk_get hA hX r hr) hA.1 rfl h1 h2
theorem Con_of_rows {P : Program} {f : FuncId} {vs : List V} {X Y m n : Nat} {A : List (List Nat)} (h : AC P f vs [] [(X, A.map rowV), (Y, [hdo X 0 m n])] (.sl Y 0 0 m 1 m)) (hA : Rk m n A) (hXY : X ≠ Y) : Con P f vs (.d (rowsD A)) :=
  Con_of_AC h (Fz_rk hA (by rw [get_cons, get_cons, if_neg (Ne.symm hXY), if_pos rfl]; rfl) (by rw [fam_cons, if_pos rfl]) (fam_nil _) (fam_nil _))
theorem Fz_rk_app {L L' : Heap} {H X R m n : Nat} {A : List (List Nat)} {xs : List Nat} (hA : Rk m n A) (h : L.get H 0 = some (hdo X 0 m n ++ [.sl R 0 0 n 1 n])) (hX : L.fam X = some (A.map rowV)) (hR : L.get R 0 = some (rowV xs)) (hxs : xs.length = n)
    (h1 : L'.fam H = none) (h2 : L'.fam X = none) (h3 : L'.fam R = none) : Fz L L' (.sl H 0 0 (m + 1) 1 (m + 1)) (.d (rowsD (A ++ [xs]))) := by
  have nf : ∀ X, L'.fam X = none → ∀ r, ∀ Y q, L'.get Y q ≠ none → (Y, q) ≠ (X, r) := fun X hX r Y q hY e => by cases e; exact hY (get_of_fam_none hX _)
  have hl : (A ++ [xs]).length = m + 1 := by simp [hA.1]
  have e : rowsD (A ++ [xs]) = .bor (m + 1) (rowsG (A ++ [xs])) := by unfold rowsD; rw [hl]
  rw [e]
  refine .d (.sl (fun _ Y q hY => nf H h1 0 Y q hY) h (by simp [hdo_length]) (by simp [hdo_length]) (fun i hi => rfl) fun i j hi hj => ?_)
  obtain rfl : j = 0 := by omega
  rw [show 0 + i * 1 + 0 = i by omega, List.getD_eq_getElem?_getD]
  by_cases hi2 : i < m
  · rw [List.getElem?_append_left (by rw [hdo_length]; exact hi2), ← List.getD_eq_getElem?_getD, hdo_getD _ _ _ _ _ hi2]
    have hg := Rk_get hA hX i hi2
    have e2 : (rowsG (A ++ [xs]) i).getD 0 default = rowD (A.getD i []) := by
      show rowD ((A ++ [xs]).getD i []) = _
      rw [List.getD_eq_getElem?_getD, List.getElem?_append_left (by rw [hA.1]; exact hi2), ← List.getD_eq_getElem?_getD]
    rw [e2]
    exact snap_row (fun Y q hY => nf X h2 _ Y q hY) hg.1 hg.2 rfl
  · obtain rfl : i = m := by omega
    rw [List.getElem?_append_right (by rw [hdo_length]; omega), hdo_length, Nat.sub_self]
    have e2 : (rowsG (A ++ [xs]) i).getD 0 default = rowD xs := by
      show rowD ((A ++ [xs]).getD i []) = _
      rw [List.getD_eq_getElem?_getD, List.getElem?_append_right (by rw [hA.1]; omega), hA.1, Nat.sub_self]
      rfl
    rw [e2]
    exact snap_row (fun Y q hY => nf R h3 0 Y q hY) hR hxs rfl
end Go.Ab
