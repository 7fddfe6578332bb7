import Derived.Test.YtponkmbigjmmoaaGreatGL
set_option linter.unusedSimpArgs false
set_option linter.unusedVariables false
set_option maxRecDepth 8000
namespace Go.Ab
open Nat renaming reduceEqDiff -> n1_, reduceAdd -> n2_, reduceMul -> n3_, reduceLT -> n4_, reduceLeDiff -> n5_
open Int renaming reduceToNat -> i1_, reduceAdd -> i2_, reduceSub -> i3_, reduceMul -> i4_, reduceNeg -> i5_, reduceLT -> i6_, reduceLE -> i7_
open Go Go.Proofs
def a6u : CA := (.seq (.reg [i_X 0 2 (.alloc [fl 0, fl 0] 83)] [0, 2]) (.seq (.reg [i_M 0 3 0, i_M 1 4 0, i_X 2 5 (.h (.build [fl 0, fl 0] [(0, (1, (.t 3))), (1, (1, (.t 4)))])), i_S 3 2 5 2] [2]) .ret))
theorem a6t : f4 Tryz.prog 238 = some ⟨6, [(2, (some (2, true)))], a6u.strip⟩ := by kernel_rfl
def a6s : CA := (.seq (.reg [i_X 0 2 (.alloc [fl 0, fl 0] 83)] [0, 2]) (.seq (.seq (.reg [i_M 0 3 0, i_B 1 4 .rem 3 2, i_B 2 5 .eql 4 0] [2, 5]) (.cond (.t 5) (.seq (.reg [i_X 0 6 (.h (.build [fl 0, fl 0] [(0, (1, (.k (.d (.flt 0))))), (1, (1, (.k (.d (.flt 4607182418800017408)))))])), i_S 1 2 6 2] [2]) .ret) .skip)) (.seq (.reg [i_X 0 7 (.h (.build [fl 0, fl 0] [(0, (1, (.k (.d (.flt 13830554455654793216))))), (1, (1, (.k (.d (.flt 0)))))])), i_S 1 2 7 2] [2]) .ret)))
theorem a6r : f4 Tryz.prog 262 = some ⟨8, [(2, (some (2, true)))], a6s.strip⟩ := by kernel_rfl
def a0R : CA := (.seq (.reg [i_B 0 4 .lss 3 9] [0, 1, 3, 4]) (.seq (.cond (.t 4) .skip (.exit 0)) (.seq (.block 1 (.seq (.reg [i_M 0 5 3, i_M 1 2 5] [0, 1, 2, 3]) (.reg [i_M 0 6 2, i_M 1 7 2, i_X 2 8 (.callA (kF 262) [(.t 7)]), i_X 3 9 (.h (.idxa (.t 1) (.t 6) 9 2)), i_S 4 9 8 2] [0, 1, 3]))) (.reg [i_B 0 10 .add 3 1, i_M 1 3 10] [0, 1, 3]))))
def a4a : CA := (.seq (.reg [i_X 0 0 (.alloc z_18 261)] [0]) (.seq (.reg [i_X 0 1 (.alloc z_18 261)] [0, 1]) (.seq (.seq (.reg [i_K 0 3 0] [0, 1, 3]) (.block 0 (.loop a0R))) (.seq (.reg [i_A 0 11 1 18, i_S 1 0 11 18] [0]) .ret))))
theorem a42 : f4 Tryz.prog 264 = some ⟨12, [(0, (some (18, true)))], a4a.strip⟩ := by kernel_rfl
def a1y : CA := (.seq (.reg [i_B 0 8 .lss 7 9] [0, 2, 3, 7, 8]) (.seq (.cond (.t 8) .skip (.exit 0)) (.seq (.block 1 (.seq (.reg [i_M 0 9 7, i_M 1 4 9] [0, 2, 3, 4, 7]) (.seq (.reg [i_M 0 10 4, i_X 1 11 (.callA (kF 238) [(.k (.d (.flt 0)))]), i_P 2 12 3 0, i_X 3 13 (.h (.idxa (.t 12) (.t 10) 9 2)), i_S 4 13 11 2] [0, 2, 3, 4, 7]) (.seq (.reg [i_M 0 14 4, i_M 1 15 0, i_X 2 16 (.h (.len (.t 15))), i_N 3 17 .lss 14 16] [0, 2, 3, 4, 7, 17]) (.cond (.t 17) (.reg [i_M 0 18 4, i_M 1 19 0, i_M 2 20 4, i_I 3 21 19 20 1, i_L 4 22 21 1, i_X 5 23 (.callA (kF 238) [(.t 22)]), i_P 6 24 3 0, i_X 7 25 (.h (.idxa (.t 24) (.t 18) 9 2)), i_S 8 25 23 2] [0, 2, 3, 7]) .skip))))) (.reg [i_B 0 26 .add 7 1, i_M 1 7 26] [0, 2, 3, 7]))))
def a7g : CA := (.seq (.reg [i_X 0 2 (.alloc z_20 123)] [0, 2]) (.seq (.reg [i_X 0 5 (.callA (kF 238) [(.k (.d (.flt 0)))]), i_X 1 6 (.h (.build z_20 [(18, (2, (.t 5)))])), i_X 2 3 (.alloc z_20 123), i_S 3 3 6 20] [0, 2, 3]) (.seq (.seq (.reg [i_K 0 7 0] [0, 2, 3, 7]) (.block 0 (.loop a1y))) (.seq (.reg [i_A 0 27 3 20, i_S 1 2 27 20] [2]) .ret))))
theorem a2U : f4 Tryz.prog 187 = some ⟨28, [(2, (some (20, true)))], a7g.strip⟩ := by kernel_rfl
def a2R : CA := (.seq (.seq (.reg [i_M 0 9 5, i_B 1 10 .leq 9 8] [1, 2, 3, 4, 5, 10]) (.cond (.t 10) .skip (.exit 0))) (.seq (.block 1 (.reg [i_A 0 13 4 2, i_M 1 14 5, i_X 2 15 (.h (.idxa (.t 1) (.t 14) 9 2)), i_A 3 16 15 2, i_M 4 17 5, i_X 5 18 (.h (.idxa (.t 3) (.t 17) 9 2)), i_A 6 19 18 2, i_X 7 20 (.callS 7 (kF 208) [(.t 16), (.t 19)]), i_X 8 21 (.callA (kF 200) [(.t 13), (.t 20)]), i_S 9 4 21 2] [1, 2, 3, 4, 5])) (.reg [i_M 0 11 5, i_B 1 12 .add 11 1, i_M 2 5 12] [1, 2, 3, 4, 5])))
def a77 : CA := (.seq (.reg [i_X 0 1 (.box (.t 0) 18 261), i_X 1 2 (.alloc [fl 0, fl 0] 83)] [1, 2]) (.seq (.reg [i_X 0 6 (.callA (kF 264) []), i_X 1 3 (.alloc z_18 261), i_S 2 3 6 18] [1, 2, 3]) (.seq (.reg [i_X 0 7 (.h (.idxa (.t 1) (kI 0) 9 2)), i_A 1 8 7 2, i_X 2 4 (.alloc [fl 0, fl 0] 83), i_S 3 4 8 2] [1, 2, 3, 4]) (.seq (.seq (.reg [i_K 0 5 1] [1, 2, 3, 4, 5]) (.block 0 (.loop a2R))) (.seq (.reg [i_A 0 22 4 2, i_S 1 2 22 2] [2]) .ret)))))
theorem a7c : f4 Tryz.prog 246 = some ⟨23, [(2, (some (2, true)))], a77.strip⟩ := by kernel_rfl
def a6w : CA := (.seq (.reg [i_X 0 1 (.box (.t 0) 20 123), i_X 1 2 (.alloc [fl 0, fl 0] 83)] [1, 2]) (.seq (.reg [i_P 0 3 1 0, i_A 1 4 3 18, i_X 2 5 (.callS 0 (kF 246) [(.t 4)]), i_P 3 6 1 18, i_A 4 7 6 2, i_X 5 8 (.callA (kF 200) [(.t 5), (.t 7)]), i_S 6 2 8 2] [2]) .ret))
theorem a6v : f4 Tryz.prog 198 = some ⟨9, [(2, (some (2, true)))], a6w.strip⟩ := by kernel_rfl
def a2T : CA := (.seq (.reg [i_B 0 10 .lss 9 9] [2, 3, 4, 6, 7, 9, 10]) (.seq (.cond (.t 10) .skip (.exit 0)) (.seq (.block 1 (.seq (.reg [i_M 0 11 9, i_M 1 8 11] [2, 3, 4, 6, 7, 8, 9]) (.reg [i_M 0 12 8, i_M 1 13 2, i_M 2 14 8, i_P 3 15 3 0, i_X 4 16 (.h (.idxa (.t 15) (.t 14) 9 2)), i_A 5 17 16 2, i_M 6 18 8, i_P 7 19 4 0, i_X 8 20 (.h (.idxa (.t 19) (.t 18) 9 2)), i_A 9 21 20 2, i_X 10 22 (.callA (.t 13) [(.t 17), (.t 21)]), i_P 11 23 7 0, i_X 12 24 (.h (.idxa (.t 23) (.t 12) 9 2)), i_S 13 24 22 2] [2, 3, 4, 6, 7, 9]))) (.reg [i_B 0 25 .add 9 1, i_M 1 9 25] [2, 3, 4, 6, 7, 9]))))
def a79 : CA := (.seq (.reg [i_X 0 3 (.box (.t 0) 20 123), i_X 1 4 (.box (.t 1) 20 123), i_X 2 6 (.alloc z_20 123)] [2, 3, 4, 6]) (.seq (.reg [i_X 0 7 (.alloc z_20 123)] [2, 3, 4, 6, 7]) (.seq (.seq (.reg [i_K 0 9 0] [2, 3, 4, 6, 7, 9]) (.block 0 (.loop a2T))) (.seq (.reg [i_M 0 26 2, i_P 1 27 3 18, i_A 2 28 27 2, i_P 3 29 4 18, i_A 4 30 29 2, i_X 5 31 (.callA (.t 26) [(.t 28), (.t 30)]), i_P 6 32 7 18, i_S 7 32 31 2] [6, 7]) (.seq (.reg [i_A 0 33 7 20, i_S 1 6 33 20] [6]) .ret)))))
theorem a7f : f4 Tryz.prog 245 = some ⟨34, [(6, (some (20, true)))], a79.strip⟩ := by kernel_rfl
def b0M : CA := (.seq (.reg [i_X 0 2 (.box (.t 0) 20 123), i_X 1 3 (.box (.t 1) 20 123), i_X 2 4 (.alloc z_20 123)] [2, 3, 4]) (.seq (.reg [i_A 0 5 2 20, i_A 1 6 3 20, i_X 2 7 (.callA (kF 245) [(.t 5), (.t 6), (kF 200)]), i_S 3 4 7 20] [4]) .ret))
theorem a8U : f4 Tryz.prog 241 = some ⟨8, [(4, (some (20, true)))], b0M.strip⟩ := by kernel_rfl
def b0J : CA := (.seq (.reg [i_X 0 2 (.box (.t 0) 20 123), i_X 1 3 (.box (.t 1) 20 123), i_X 2 4 (.alloc z_20 123)] [2, 3, 4]) (.seq (.reg [i_A 0 5 2 20, i_A 1 6 3 20, i_X 2 7 (.callA (kF 245) [(.t 5), (.t 6), (kF 190)]), i_S 3 4 7 20] [4]) .ret))
theorem a8Q : f4 Tryz.prog 196 = some ⟨8, [(4, (some (20, true)))], b0J.strip⟩ := by kernel_rfl
def a78 : CA := (.seq (.reg [i_X 0 0 (.alloc z_20 123)] [0]) (.seq (.reg [i_X 0 2 (.callA (kF 187) [(.k .nil)]), i_X 1 1 (.alloc z_20 123), i_S 2 1 2 20] [0, 1]) (.seq (.reg [i_X 0 3 (.callA (kF 87) [(.k (.d (.int .i64 (-1))))]), i_X 1 4 (.callA (kF 87) [(kI 1)]), i_X 2 5 (.callA (kF 201) [(.t 3), (.t 4)]), i_P 3 6 1 18, i_S 4 6 5 2] [0, 1]) (.seq (.reg [i_A 0 7 1 20, i_S 1 0 7 20] [0]) .ret))))
theorem a7d : f4 Tryz.prog 263 = some ⟨8, [(0, (some (20, true)))], a78.strip⟩ := by kernel_rfl
def filI (f z : Nat -> Iv) (n i : Nat) : List Iv := (List.range n).map fun j => if j < i then f j else z j
theorem a1r (f z : Nat -> Iv) (n i : Nat) : (filI f z n i).length = n := by simp [filI]
theorem Z1 (f z : Nat -> Iv) (n i : Nat) (p : Iv) (hp : p = f i) : (filI f z n i).set i p = filI f z n (i + 1) := by
 subst hp
 refine List.ext_getElem (by simp [filI]) fun j h1 h2 => ?_
 simp only [filI, List.getElem_set, List.getElem_map, List.getElem_range]
 by_cases e : i = j
 ·subst e; rw [if_pos rfl, if_pos (by omega)]
 ·rw [if_neg e]
  by_cases h : j < i
  ·rw [if_pos h, if_pos (by omega)]
  ·rw [if_neg h, if_neg (by omega)]
theorem b81 (f z : Nat -> Iv) (n : Nat) : filI f z n n = tabI f n := by
 refine List.ext_getElem (by simp [filI, tabI]) fun j h1 h2 => ?_
 have : j < n := by simpa [filI] using h1
 simp [filI, tabI, this]
theorem b33 (f z : Nat -> Iv) (n i j : Nat) (h : j < n) : mG (filI f z n i) j = if j < i then f j else z j := by
 simp [mG, filI, d10, h]
theorem J5 (ps : List Iv) (i a b : Nat) (h : i < ps.length) : ((ivC ps).set (i * 2) (fl a)).set (i * 2 + 1) (fl b) = ivC (ps.set i (a, b)) := c8x ps i a b h
theorem b1y (m : Md) (h : m.length = 10) : ((ivC m).drop 18).take 2 = [fl (mG m 9).1, fl (mG m 9).2] := G1 m 9 (by omega)
theorem c5P (m : Md) (h : 0 < m.length) : (ivC m).take 2 = [fl (mG m 0).1, fl (mG m 0).2] := G1 m 0 h
theorem c6Z (m : Md) (h : m.length = 10) : (ivC m).take 18 = ivC (m.take 9) := by
 match m, h with
 | [a, b, c, d, e, f, g, h, i, j], _ => rfl
theorem B8 (m : Md) (h : m.length = 10) : (ivC m).take 20 = ivC m := d2a (by rw [j7]; omega)
theorem a9j (ps : List Iv) (n : Nat) (h : ps.length * 2 = n) : (ivC ps).take n = ivC ps := d2a (by rw [j7]; omega)
theorem g9 (ps : List Iv) : (V.agg (ivC ps)).bareB = true := by
 rw [V.bareB, N3, List.all_map]
 exact List.all_eq_true.2 fun x _ => rfl
theorem q7 (x : D) : (V.d x).bareB = true := rfl
theorem v5 (L : Heap) (ps : List Iv) : KpA L (ivC ps) := by rw [N3]; exact b9p _
theorem B9 {nt t n row X ver : Nat} {s : T} (ps : List Iv) (hn : ps.length * 2 = n) (ht : t < nt) (h1 : look s.sl t = .ptr X row 0 ver) (h2 : s.L.get X row = some (ivC ps)) (h3 : n = ver) : V5 (fun _ => False) nt [(t, some (n, true))] (.agg (ivC ps)) [] .ret s :=
 f7 (g9 ps) ht h1 h2 (by rw [j7]; omega) (by rw [j7]; omega) (by rw [c2V, List.drop_zero, a9j _ _ hn])
theorem A4 (x : Nat) : Con Tryz.prog 238 [fl x] (ivV (pt x)) := by
 refine a8 a6t rfl f0 ?_
 refine evx @a6u.eq_1 ?_
 exact f7 rfl (by decide) rfl rfl rfl (by simp) (by simp [ldv, pt])
theorem a2f (k : Nat) (hk : k < 2 ^ 40) : Con Tryz.prog 262 [fI k] (ivV (pwI k)) := by
 refine a8 a6r rfl f0 ?_
 refine evx @a6s.eq_1 ?_
 have e : Int.tmod (k : Int) 2 = ((k % 2 : Nat) : Int) := by rw [Int.tmod_eq_emod_of_nonneg (by omega)]; omega
 refine evx e ?_
 unfold pwI
 by_cases h : k % 2 = 0
 ·rw [h, if_pos rfl]
  refine ev ?_
  refine ⟨by decide, ?_⟩
  exact f7 rfl (by decide) rfl rfl rfl (by simp) (by simp [ldv, oneW])
 ·have h1 : k % 2 = 1 := by omega
  rw [if_neg h, h1]
  refine evb ?_
  refine ⟨by decide, ?_⟩
  exact f7 rfl (by decide) rfl rfl rfl (by simp) (by simp [ldv, negW])
theorem a8D : Con Tryz.prog 264 [] (.agg (ivC (tabI pwI 9))) := by
 refine a8 a42 rfl f0 ?_
 refine evx @a4a.eq_1 ?_
 refine j4 (n := 9) (fun c s => ∃ i, c + i = 9 /\ s = ⟨[(0, .ptr 0 0 0 18), (1, .ptr 1 0 0 18), (3, fI i)], [(1, [ivC (filI pwI (fun _ => (0, 0)) 9 i)]), (0, [ivC (List.replicate 9 (0, 0))])]⟩) (Le.refl _) ⟨0, by omega, rfl⟩ ?_
 rintro c s ⟨i, hc, rfl⟩
 have hl := a1r pwI (fun _ => (0, 0)) 9 i
 refine evx @a0R.eq_1 ?_
 refine a9 (fun h => ?_) (fun h => ?_)
 ·replace h := d1Y h
  have h9 : i < 9 := by omega
  refine ev ?_
  refine a0 (a2f i (by omega)) rfl ?_
  refine ev ?_
  refine ⟨by omega, by omega, ?_⟩
  rw [d9 (by omega) (by omega), J5 _ _ _ _ (by omega), Z1 _ _ _ _ _ rfl]
  exact ⟨c - 1, _, by omega, LeT.only (fun X => decide (X <= 1)) (fun _ h => h) rfl (by simp (maxDischargeDepth := 6) [kpS, d5, d8, v5]) (by simp (maxDischargeDepth := 6) [kpS, d5, d8, v5]), i + 1, by omega, rfl⟩
 ·replace h := d1Z h
  obtain rfl : i = 9 := by omega
  refine ev ?_
  rw [b81, a9j _ 18 (by simp [tabI]), r8 _ _ (by simp [j7, tabI])]
  refine ⟨by simp [tabI], ⟨by simp [j7, tabI], a5P _⟩, ?_⟩
  exact B9 _ (by simp [tabI]) (by decide) rfl rfl rfl
theorem b3m (ps : List Iv) (i : Nat) (h : mG ps i = (0, 0)) (hi : i < ps.length) : ps.set i (0, 0) = ps := by
 have : ps[i] = (0, 0) := by simpa [mG, d10, hi] using h
 rw [<- this]; exact List.set_getElem_self hi
def ofF (z : List Nat) (i : Nat) : Iv := if i < z.length /\ i < 9 then pt (z.getD i 0) else (0, 0)
theorem c2w (z : List Nat) : filI (ofF z) (fun _ => (0, 0)) 10 9 = ofM z := by
 refine List.ext_getElem (by simp [filI, ofM]) fun j h1 h2 => ?_
 simp only [filI, ofM, List.getElem_map, List.getElem_range, ofF]
 by_cases h : j < 9
 ·rw [if_pos h]
 ·rw [if_neg h, if_neg (fun e => h e.2)]
theorem a7L (z : List Nat) (hz : z.length < 2 ^ 40) : Con Tryz.prog 187 [.d (rowD z)] (mdV (ofM z)) := by
 refine a8 a2U rfl f0 ?_
 refine evx @a7g.eq_1 ?_
 refine a0 (A4 0) rfl ?_
 refine ev ?_
 refine j4 (n := 9) (fun c s => ∃ i, c + i = 9 /\ s = ⟨[(0, .d (rowD z)), (2, .ptr 0 0 0 20), (3, .ptr 3 0 0 20), (7, fI i)], [(3, [ivC (filI (ofF z) (fun _ => (0, 0)) 10 i)]), (0, [ivC (List.replicate 10 (0, 0))])]⟩) (Le.refl _) ⟨0, by omega, rfl⟩ ?_
 rintro c s ⟨i, hc, rfl⟩
 have hl := a1r (ofF z) (fun _ => (0, 0)) 10 i
 refine evx @a1y.eq_1 ?_
 refine a9 (fun h => ?_) (fun h => ?_)
 ·replace h := d1Y h
  have h9 : i < 9 := by omega
  refine ev ?_
  refine a0 (A4 0) rfl ?_
  refine ev ?_
  refine ⟨by omega, by omega, ?_⟩
  have hg := b33 (ofF z) (fun _ => (0, 0)) 10 i i (by omega)
  rw [if_neg (by omega)] at hg
  have e0 := b3m _ _ hg (by omega)
  rw [J5 _ _ _ _ (by omega)]
  unfold pt
  rw [e0]
  refine a9 (fun h2 => ?_) (fun h2 => ?_)
  ·replace h2 := d1Y h2
   have h3 : i < z.length := by omega
   refine ev ?_
   repeat with_reducible refine And.intro (by omega) ?_
   refine a0 (A4 (z.getD i 0)) rfl ?_
   refine ev ?_
   refine ⟨by omega, by omega, ?_⟩
   rw [d9 (by omega) (by omega), J5 _ _ _ _ (by omega), Z1 _ _ _ _ _ (by unfold ofF; rw [if_pos ⟨h3, h9⟩])]
   exact ⟨c - 1, _, by omega, LeT.only (fun X => decide (X <= 3)) (fun _ h => h) rfl (by simp (maxDischargeDepth := 6) [kpS, d5, d8, v5]) (by simp (maxDischargeDepth := 6) [kpS, d5, d8, v5]), i + 1, by omega, rfl⟩
  ·replace h2 := d1Z h2
   refine ev ?_
   have e1 := Z1 (ofF z) (fun _ => (0, 0)) 10 i (0, 0) (by unfold ofF; rw [if_neg (by omega)])
   rw [d9 (by omega) (by omega), <- e0, e1]
   exact ⟨c - 1, _, by omega, LeT.only (fun X => decide (X <= 3)) (fun _ h => h) rfl (by simp (maxDischargeDepth := 6) [kpS, d5, d8, v5]) (by simp (maxDischargeDepth := 6) [kpS, d5, d8, v5]), i + 1, by omega, rfl⟩
 ·replace h := d1Z h
  obtain rfl : i = 9 := by omega
  refine ev ?_
  have hol := a1k z
  rw [c2w, a9j _ 20 (by omega), r8 _ _ (by simp [j7, hol])]
  refine ⟨by omega, ⟨by simp [j7, hol], a5P _⟩, ?_⟩
  exact B9 _ (by omega) (by decide) rfl rfl rfl
theorem b2g (m : Md) (k : Nat) (hk : k < 9) : X5 (m.take 9) k = X5 m k := by
 have hg : ∀ i, i < 9 -> mG (m.take 9) i = mG m i := fun i hi => by
  unfold mG
  rw [d10, d10, List.getElem?_take_of_lt hi]
 induction k with
 | zero => exact hg 0 hk
 | succ k ih => simp only [X5, ih (by omega), hg (k + 1) hk]
theorem C4 (c : List Iv) (hc : c.length = 9) : Con Tryz.prog 246 [.agg (ivC c)] (ivV (X5 c 8)) := by
 have hp : (tabI pwI 9).length = 9 := by simp [tabI]
 refine a8 a7c rfl f0 ?_
 refine evx @a77.eq_1 ?_
 repeat with_reducible refine And.intro (by omega) ?_
 refine a0 (a8D) rfl ?_
 simp -implicitDefEqProofs only [evI, hv, effC, reduceCtorEq, ↓reduceIte, n1_, n2_, n3_, n4_, n5_, i1_, i2_, i3_, i4_, i5_, i6_, i7_, c5P c (by omega)]
 refine ⟨by omega, by omega, ?_⟩
 rw [r8 _ _ (by rw [j7, hp]; rfl)]
 refine j4 (n := 8) (fun n s => ∃ k, n + k = 8 /\ s = ⟨[(1, .ptr 0 0 0 18), (2, .ptr 1 0 0 2), (3, .ptr 3 0 0 18), (4, .ptr 6 0 0 2), (5, fI (k + 1 : Nat))],
  [(6, [[fl (X5 c k).1, fl (X5 c k).2]]), (3, [ivC (tabI pwI 9)]), (1, [[fl 0, fl 0]]), (0, [ivC c])]⟩) (Le.refl _) ⟨0, by omega, rfl⟩ ?_
 rintro n s ⟨k, hk, rfl⟩
 refine evx @a2R.eq_1 ?_
 refine a9 (fun h => ?_) (fun h => ?_)
 ·replace h := d1Y h
  have h8 : k < 8 := by omega
  simp -implicitDefEqProofs only [evI, hv, effC, reduceCtorEq, ↓reduceIte, n1_, n2_, n3_, n4_, n5_, i1_, i2_, i3_, i4_, i5_, i6_, i7_, G1 c (k + 1) (by omega), G1 (tabI pwI 9) (k + 1) (by omega), b7s pwI 9 (k + 1) (by omega)]
  repeat with_reducible refine And.intro (by omega) ?_
  refine b9 (t7 (mG c (k + 1)) (pwI (k + 1))) rfl ?_
  refine ev ?_
  refine a0 (u7 (X5 c k) (s6 (mG c (k + 1)) (pwI (k + 1)))) rfl ?_
  refine ev ?_
  rw [show IntKind.i64.wrap (((k + 1 : Nat) : Int) + 1) = ((k + 1 + 1 : Nat) : Int) by rw [d9 (by omega) (by omega)]; omega]
  exact ⟨n - 1, _, by omega, Le.refl _, k + 1, by omega, rfl⟩
 ·replace h := d1Z h
  obtain rfl : k = 8 := by omega
  refine ev ?_
  exact f7 rfl (by decide) rfl rfl rfl (by simp) (by simp [ldv])
theorem k9 (m : Md) (hm : m.length = 10) : Con Tryz.prog 198 [mdV m] (ivV (rngM m)) := by
 refine a8 a6v rfl f0 ?_
 refine evx @a6w.eq_1 ?_
 refine evx (And.intro (c6Z m hm) (b1y m hm)) ?_
 repeat with_reducible refine And.intro (by omega) ?_
 have h9 : (m.take 9).length = 9 := by rw [List.length_take]; omega
 first | refine a0 (C4 (m.take 9) h9) (by simp [q7, g9]) ?_ | refine d6 (C4 (m.take 9) h9) (by simp [q7, g9]) ?_ | refine b9 (C4 (m.take 9) h9) (by simp [q7, g9]) ?_
 rw [b2g m 8 (by decide)]
 refine evx (b1y m hm) ?_
 repeat with_reducible refine And.intro (by omega) ?_
 refine a0 (u7 (X5 m 8) (mG m 9)) rfl ?_
 refine ev ?_
 exact f7 rfl (by decide) rfl rfl rfl (by simp) (by simp [ldv, rngM, b93])
theorem c4x (F : Iv -> Iv -> Iv) (a b : Md) : (filI (fun i => F (mG a i) (mG b i)) (fun _ => (0, 0)) 10 9).set 9 (F (mG a 9) (mG b 9)) = zipM F a b := by
 rw [Z1 _ _ _ _ _ rfl, b81]; rfl
theorem C5 (g : Nat) (F : Iv -> Iv -> Iv) (hF : ∀ a b, Con Tryz.prog g [ivV a, ivV b] (ivV (F a b))) (a b : Md) (ha : a.length = 10) (hb : b.length = 10) : Con Tryz.prog 245 [mdV a, mdV b, .d (.fn g [] [])] (mdV (zipM F a b)) := by
 refine a8 a7f rfl f0 ?_
 refine evx @a79.eq_1 ?_
 repeat with_reducible refine And.intro (by omega) ?_
 refine j4 (n := 9) (fun c s => ∃ i, c + i = 9 /\ s = ⟨[(2, .d (.fn g [] [])), (3, .ptr 0 0 0 20), (4, .ptr 1 0 0 20), (6, .ptr 2 0 0 20), (7, .ptr 3 0 0 20), (9, fI i)],
  [(3, [ivC (filI (fun i => F (mG a i) (mG b i)) (fun _ => (0, 0)) 10 i)]), (2, [ivC (List.replicate 10 (0, 0))]), (1, [ivC b]), (0, [ivC a])]⟩) (Le.refl _) ⟨0, by omega, rfl⟩ ?_
 rintro c s ⟨i, hc, rfl⟩
 have hl := a1r (fun i => F (mG a i) (mG b i)) (fun _ => (0, 0)) 10 i
 refine evx @a2T.eq_1 ?_
 refine a9 (fun h => ?_) (fun h => ?_)
 ·replace h := d1Y h
  have h9 : i < 9 := by omega
  simp -implicitDefEqProofs only [evI, hv, effC, reduceCtorEq, ↓reduceIte, n1_, n2_, n3_, n4_, n5_, i1_, i2_, i3_, i4_, i5_, i6_, i7_, G1 a i (by omega), G1 b i (by omega)]
  repeat with_reducible refine And.intro (by omega) ?_
  refine a0 (hF (mG a i) (mG b i)) rfl ?_
  refine ev ?_
  refine ⟨by omega, by omega, ?_⟩
  rw [d9 (by omega) (by omega), J5 _ _ _ _ (by omega), Z1 _ _ _ _ _ rfl]
  exact ⟨c - 1, _, by omega, LeT.only (fun X => decide (X <= 3)) (fun _ h => h) rfl (by simp (maxDischargeDepth := 6) [kpS, d5, d8, v5]) (by simp (maxDischargeDepth := 6) [kpS, d5, d8, v5]), i + 1, by omega, rfl⟩
 ·replace h := d1Z h
  obtain rfl : i = 9 := by omega
  refine evx (And.intro (b1y a ha) (b1y b hb)) ?_
  repeat with_reducible refine And.intro (by omega) ?_
  refine a0 (hF (mG a 9) (mG b 9)) rfl ?_
  refine ev ?_
  have e := J5 (filI (fun i => F (mG a i) (mG b i)) (fun _ => (0, 0)) 10 9) 9 (F (mG a 9) (mG b 9)).1 (F (mG a 9) (mG b 9)).2 (by omega)
  rw [c4x] at e
  have e' : ((ivC (filI (fun i => F (mG a i) (mG b i)) (fun _ => (0, 0)) 10 9)).set 18 (fl (F (mG a 9) (mG b 9)).1)).set 19 (fl (F (mG a 9) (mG b 9)).2) = ivC (zipM F a b) := e
  have hz := F6 F a b
  rw [e']
  simp -implicitDefEqProofs only [evI, hv, effC, reduceCtorEq, ↓reduceIte, n1_, n2_, n3_, n4_, n5_, i1_, i2_, i3_, i4_, i5_, i6_, i7_, B8 _ hz]
  refine ⟨by omega, by omega, by omega, ?_⟩
  rw [r8 _ _ (by rw [j7, hz]; rfl)]
  exact B9 _ (by omega) (by decide) rfl rfl rfl
theorem a1n (a b : Md) (ha : a.length = 10) (hb : b.length = 10) : Con Tryz.prog 241 [mdV a, mdV b] (mdV (zipM y3 a b)) := by
 have hz := F6 y3 a b
 refine a8 a8U rfl f0 ?_
 refine evx @b0M.eq_1 ?_
 repeat with_reducible refine And.intro (by omega) ?_
 rw [B8 a ha, B8 b hb]
 first | refine a0 (C5 200 y3 u7 a b ha hb) (by simp [q7, g9]) ?_ | refine d6 (C5 200 y3 u7 a b ha hb) (by simp [q7, g9]) ?_ | refine b9 (C5 200 y3 u7 a b ha hb) (by simp [q7, g9]) ?_
 refine ev ?_
 refine ⟨by omega, ?_⟩
 rw [r8 _ _ (by rw [j7, hz]; rfl)]
 exact B9 _ (by omega) (by decide) rfl rfl rfl
theorem x4 (a b : Md) (ha : a.length = 10) (hb : b.length = 10) : Con Tryz.prog 196 [mdV a, mdV b] (mdV (zipM y8 a b)) := by
 have hz := F6 y8 a b
 refine a8 a8Q rfl f0 ?_
 refine evx @b0J.eq_1 ?_
 repeat with_reducible refine And.intro (by omega) ?_
 rw [B8 a ha, B8 b hb]
 first | refine a0 (C5 190 y8 C6 a b ha hb) (by simp [q7, g9]) ?_ | refine d6 (C5 190 y8 C6 a b ha hb) (by simp [q7, g9]) ?_ | refine b9 (C5 190 y8 C6 a b ha hb) (by simp [q7, g9]) ?_
 refine ev ?_
 refine ⟨by omega, ?_⟩
 rw [r8 _ _ (by rw [j7, hz]; rfl)]
 exact B9 _ (by omega) (by decide) rfl rfl rfl
theorem Q5 : Con Tryz.prog 187 [.nil] (mdV (ofM [])) := by
 refine a8 a2U rfl f0 ?_
 refine evx @a7g.eq_1 ?_
 refine a0 (A4 0) rfl ?_
 refine ev ?_
 refine j4 (n := 9) (fun c s => ∃ i, c + i = 9 /\ s = ⟨[(0, .nil), (2, .ptr 0 0 0 20), (3, .ptr 3 0 0 20), (7, fI i)], [(3, [ivC (filI (ofF []) (fun _ => (0, 0)) 10 i)]), (0, [ivC (List.replicate 10 (0, 0))])]⟩) (Le.refl _) ⟨0, by omega, rfl⟩ ?_
 rintro c s ⟨i, hc, rfl⟩
 have hl := a1r (ofF []) (fun _ => (0, 0)) 10 i
 refine evx @a1y.eq_1 ?_
 refine a9 (fun h => ?_) (fun h => ?_)
 ·replace h := d1Y h
  have h9 : i < 9 := by omega
  refine ev ?_
  refine a0 (A4 0) rfl ?_
  refine ev ?_
  refine ⟨by omega, by omega, ?_⟩
  have hg := b33 (ofF []) (fun _ => (0, 0)) 10 i i (by omega)
  rw [if_neg (by omega)] at hg
  have e0 := b3m _ _ hg (by omega)
  rw [J5 _ _ _ _ (by omega)]
  unfold pt
  rw [e0]
  have h2 : decide ((i : Int) < 0) = false := decide_eq_false (by omega)
  refine evx h2 ?_
  have e1 := Z1 (ofF []) (fun _ => (0, 0)) 10 i (0, 0) (by unfold ofF; rw [if_neg (by simp)])
  rw [d9 (by omega) (by omega), <- e0, e1]
  exact ⟨c - 1, _, by omega, LeT.only (fun X => decide (X <= 3)) (fun _ h => h) rfl (by simp (maxDischargeDepth := 6) [kpS, d5, d8, v5]) (by simp (maxDischargeDepth := 6) [kpS, d5, d8, v5]), i + 1, by omega, rfl⟩
 ·replace h := d1Z h
  obtain rfl : i = 9 := by omega
  refine ev ?_
  have hol := a1k []
  rw [c2w, a9j _ 20 (by omega), r8 _ _ (by simp [j7, hol])]
  refine ⟨by omega, ⟨by simp [j7, hol], a5P _⟩, ?_⟩
  exact B9 _ (by omega) (by decide) rfl rfl rfl
theorem b1u : Con Tryz.prog 263 [] (mdV noneM) := by
 have hol := a1k []
 refine a8 a7d rfl f0 ?_
 refine evx @a78.eq_1 ?_
 refine a0 (Q5) rfl ?_
 refine ev ?_
 refine ⟨by omega, ?_⟩
 rw [r8 _ _ (by rw [j7, hol]; rfl)]
 refine a0 (N9) rfl ?_
 refine ev ?_
 refine a0 (x6) rfl ?_
 refine ev ?_
 refine a0 (a4K s5 finf) rfl ?_
 have e1 : E3 s5 finf = (s5, finf) := by decide
 rw [e1]
 refine ev ?_
 have e : ((ivC (ofM [])).set 18 (fl s5)).set 19 (fl finf) = ivC noneM := by rfl
 rw [e]
 have hn : noneM.length = 10 := by rfl
 simp -implicitDefEqProofs only [evI, hv, effC, reduceCtorEq, ↓reduceIte, n1_, n2_, n3_, n4_, n5_, i1_, i2_, i3_, i4_, i5_, i6_, i7_, B8 _ hn]
 refine ⟨by omega, by omega, by omega, ?_⟩
 rw [r8 _ _ (by rw [j7, hn]; rfl)]
 exact B9 _ (by omega) (by decide) rfl rfl rfl
def a0n : CA := (.seq (.seq (.reg [i_M 0 26 7, i_M 1 27 6, i_N 2 28 .leq 26 27] [2, 3, 4, 5, 6, 7, 12, 28]) (.cond (.t 28) .skip (.exit 2))) (.seq (.block 3 (.reg [i_M 0 31 6, i_M 1 32 6, i_P 2 33 5 0, i_X 3 34 (.h (.idxa (.t 33) (.t 32) 9 2)), i_A 4 35 34 2, i_M 5 36 7, i_P 6 37 2 0, i_X 7 38 (.h (.idxa (.t 37) (.t 36) 9 2)), i_A 8 39 38 2, i_M 9 40 6, i_M 10 41 7, i_N 11 42 .sub 40 41, i_P 12 43 3 0, i_X 13 44 (.h (.idxa (.t 43) (.t 42) 9 2)), i_A 14 45 44 2, i_X 15 46 (.callS 15 (kF 208) [(.t 39), (.t 45)]), i_X 16 47 (.callA (kF 200) [(.t 35), (.t 46)]), i_P 17 48 5 0, i_X 18 49 (.h (.idxa (.t 48) (.t 31) 9 2)), i_S 19 49 47 2] [2, 3, 4, 5, 6, 7, 12])) (.reg [i_M 0 29 7, i_B 1 30 .add 29 1, i_M 2 7 30] [2, 3, 4, 5, 6, 7, 12])))
def a0p : CA := (.seq (.reg [i_B 0 13 .lss 12 9] [2, 3, 4, 5, 12, 13]) (.seq (.cond (.t 13) .skip (.exit 0)) (.seq (.block 1 (.seq (.reg [i_M 0 14 12, i_M 1 6 14] [2, 3, 4, 5, 6, 12]) (.seq (.reg [i_M 0 15 6, i_P 1 16 2 0, i_X 2 17 (.h (.idxa (.t 16) (kI 0) 9 2)), i_A 3 18 17 2, i_M 4 19 6, i_P 5 20 3 0, i_X 6 21 (.h (.idxa (.t 20) (.t 19) 9 2)), i_A 7 22 21 2, i_X 8 23 (.callA (kF 208) [(.t 18), (.t 22)]), i_P 9 24 5 0, i_X 10 25 (.h (.idxa (.t 24) (.t 15) 9 2)), i_S 11 25 23 2] [2, 3, 4, 5, 6, 12]) (.seq (.reg [i_K 0 7 1] [2, 3, 4, 5, 6, 7, 12]) (.block 2 (.loop a0n)))))) (.reg [i_B 0 50 .add 12 1, i_M 1 12 50] [2, 3, 4, 5, 12]))))
def a0k : CA := (.seq (.reg [i_B 0 55 .lss 54 9] [2, 3, 4, 5, 8, 51, 54, 55]) (.seq (.cond (.t 55) .skip (.exit 6)) (.seq (.block 7 (.seq (.reg [i_M 0 56 54, i_M 1 9 56] [2, 3, 4, 5, 8, 9, 51, 54]) (.seq (.reg [i_M 0 57 8, i_M 1 58 9, i_N 2 59 .add 57 58, i_B 3 60 .gtr 59 8] [2, 3, 4, 5, 8, 9, 51, 54, 60]) (.cond (.t 60) (.reg [i_P 0 61 5 18, i_A 1 62 61 2, i_M 2 63 8, i_P 3 64 2 0, i_X 4 65 (.h (.idxa (.t 64) (.t 63) 9 2)), i_A 5 66 65 2, i_M 6 67 9, i_P 7 68 3 0, i_X 8 69 (.h (.idxa (.t 68) (.t 67) 9 2)), i_A 9 70 69 2, i_X 10 71 (.callS 10 (kF 208) [(.t 66), (.t 70)]), i_M 11 72 8, i_M 12 73 9, i_N 13 74 .add 72 73, i_X 14 75 (.callS 14 (kF 262) [(.t 74)]), i_X 15 76 (.callS 15 (kF 208) [(.t 71), (.t 75)]), i_X 16 77 (.callA (kF 200) [(.t 62), (.t 76)]), i_P 17 78 5 18, i_S 18 78 77 2] [2, 3, 4, 5, 8, 51, 54]) .skip)))) (.reg [i_B 0 79 .add 54 1, i_M 1 54 79] [2, 3, 4, 5, 8, 51, 54]))))
def a0m : CA := (.seq (.reg [i_B 0 52 .lss 51 9] [2, 3, 4, 5, 51, 52]) (.seq (.cond (.t 52) .skip (.exit 4)) (.seq (.block 5 (.seq (.reg [i_M 0 53 51, i_M 1 8 53] [2, 3, 4, 5, 8, 51]) (.seq (.reg [i_K 0 54 0] [2, 3, 4, 5, 8, 51, 54]) (.block 6 (.loop a0k))))) (.reg [i_B 0 80 .add 51 1, i_M 1 51 80] [2, 3, 4, 5, 51]))))
def b0K : CA := (.seq (.reg [i_X 0 2 (.box (.t 0) 20 123), i_X 1 3 (.box (.t 1) 20 123), i_X 2 4 (.alloc z_20 123)] [2, 3, 4]) (.seq (.reg [i_X 0 10 (.callA (kF 238) [(.k (.d (.flt 0)))]), i_X 1 11 (.h (.build z_20 [(18, (2, (.t 10)))])), i_X 2 5 (.alloc z_20 123), i_S 3 5 11 20] [2, 3, 4, 5]) (.seq (.seq (.reg [i_K 0 12 0] [2, 3, 4, 5, 12]) (.block 0 (.loop a0p))) (.seq (.seq (.reg [i_K 0 51 0] [2, 3, 4, 5, 51]) (.block 4 (.loop a0m))) (.seq (.reg [i_P 0 81 5 18, i_A 1 82 81 2, i_P 2 83 2 18, i_A 3 84 83 2, i_A 4 85 3 20, i_X 5 86 (.callS 5 (kF 198) [(.t 85)]), i_X 6 87 (.callS 6 (kF 208) [(.t 84), (.t 86)]), i_X 7 88 (.callA (kF 200) [(.t 82), (.t 87)]), i_P 8 89 5 18, i_S 9 89 88 2] [2, 3, 4, 5]) (.seq (.reg [i_P 0 90 5 18, i_A 1 91 90 2, i_P 2 92 2 0, i_A 3 93 92 18, i_X 4 94 (.callS 4 (kF 246) [(.t 93)]), i_P 5 95 3 18, i_A 6 96 95 2, i_X 7 97 (.callS 7 (kF 208) [(.t 94), (.t 96)]), i_X 8 98 (.callA (kF 200) [(.t 91), (.t 97)]), i_P 9 99 5 18, i_S 10 99 98 2] [4, 5]) (.seq (.reg [i_A 0 100 5 20, i_S 1 4 100 20] [4]) .ret)))))))
theorem a8R : f4 Tryz.prog 242 = some ⟨101, [(4, (some (20, true)))], b0K.strip⟩ := by kernel_rfl
def a0q : CA := (.seq (.seq (.reg [i_M 0 30 9, i_M 1 31 7, i_N 2 32 .leq 30 31] [2, 3, 4, 5, 6, 7, 8, 9, 23, 32]) (.cond (.t 32) .skip (.exit 2))) (.seq (.block 3 (.reg [i_A 0 35 8 2, i_M 1 36 9, i_P 2 37 3 0, i_X 3 38 (.h (.idxa (.t 37) (.t 36) 9 2)), i_A 4 39 38 2, i_M 5 40 7, i_M 6 41 9, i_N 7 42 .sub 40 41, i_P 8 43 6 0, i_X 9 44 (.h (.idxa (.t 43) (.t 42) 9 2)), i_A 10 45 44 2, i_X 11 46 (.callS 11 (kF 208) [(.t 39), (.t 45)]), i_X 12 47 (.callA (kF 190) [(.t 35), (.t 46)]), i_S 13 8 47 2] [2, 3, 4, 5, 6, 7, 8, 9, 23])) (.reg [i_M 0 33 9, i_B 1 34 .add 33 1, i_M 2 9 34] [2, 3, 4, 5, 6, 7, 8, 9, 23])))
def a0r : CA := (.seq (.reg [i_B 0 24 .lss 23 9] [2, 3, 4, 5, 6, 23, 24]) (.seq (.cond (.t 24) .skip (.exit 0)) (.seq (.block 1 (.seq (.reg [i_M 0 25 23, i_M 1 7 25] [2, 3, 4, 5, 6, 7, 23]) (.seq (.reg [i_M 0 26 7, i_P 1 27 2 0, i_X 2 28 (.h (.idxa (.t 27) (.t 26) 9 2)), i_A 3 29 28 2, i_X 4 8 (.alloc [fl 0, fl 0] 83), i_S 5 8 29 2] [2, 3, 4, 5, 6, 7, 8, 23]) (.seq (.seq (.reg [i_K 0 9 1] [2, 3, 4, 5, 6, 7, 8, 9, 23]) (.block 2 (.loop a0q))) (.reg [i_M 0 48 7, i_A 1 49 8 2, i_P 2 50 3 0, i_X 3 51 (.h (.idxa (.t 50) (kI 0) 9 2)), i_A 4 52 51 2, i_X 5 53 (.callA (kF 244) [(.t 49), (.t 52)]), i_P 6 54 6 0, i_X 7 55 (.h (.idxa (.t 54) (.t 48) 9 2)), i_S 8 55 53 2] [2, 3, 4, 5, 6, 23]))))) (.reg [i_B 0 56 .add 23 1, i_M 1 23 56] [2, 3, 4, 5, 6, 23]))))
def b0L : CA := (.seq (.reg [i_X 0 2 (.box (.t 0) 20 123), i_X 1 3 (.box (.t 1) 20 123), i_X 2 4 (.alloc z_20 123)] [2, 3, 4]) (.seq (.reg [i_A 0 10 3 20, i_X 1 11 (.callA (kF 198) [(.t 10)]), i_X 2 5 (.alloc [fl 0, fl 0] 83), i_S 3 5 11 2] [2, 3, 4, 5]) (.seq (.seq (.reg [i_P 0 12 3 0, i_X 1 13 (.h (.idxa (.t 12) (kI 0) 9 2)), i_A 2 14 13 2, i_X 3 15 (.callS 0 (kF 84) [(.k (.d (.flt 0))), (.t 14)]), i_A 4 16 5 2, i_X 5 17 (.callA (kF 84) [(.k (.d (.flt 0))), (.t 16)]), i_X 6 18 (.h (.build [(.d (.bool false)), (.d (.bool false))] [(0, (1, (.t 15))), (1, (1, (.t 17)))])), i_X 7 19 (.h (.build [(.d (.bool false)), (.d (.bool false))] [])), i_X 8 20 (.h (.acmp true (.t 18) (.t 19) [(0, false), (1, false)]))] [2, 3, 4, 5, 20]) (.cond (.t 20) (.seq (.reg [i_X 0 21 (.callA (kF 263) []), i_S 1 4 21 20] [4]) .ret) .skip)) (.seq (.reg [i_X 0 22 (.callA (kF 187) [(.k .nil)]), i_X 1 6 (.alloc z_20 123), i_S 2 6 22 20] [2, 3, 4, 5, 6]) (.seq (.seq (.reg [i_K 0 23 0] [2, 3, 4, 5, 6, 23]) (.block 0 (.loop a0r))) (.seq (.reg [i_A 0 57 2 20, i_A 1 58 3 20, i_A 2 59 6 20, i_X 3 60 (.callS 3 (kF 242) [(.t 58), (.t 59)]), i_X 4 61 (.callS 0 (kF 196) [(.t 57), (.t 60)]), i_X 5 62 (.callS 0 (kF 198) [(.t 61)]), i_A 6 63 5 2, i_X 7 64 (.callA (kF 244) [(.t 62), (.t 63)]), i_P 8 65 6 18, i_S 9 65 64 2] [4, 6]) (.seq (.reg [i_A 0 66 6 20, i_S 1 4 66 20] [4]) .ret)))))))
theorem a8T : f4 Tryz.prog 243 = some ⟨67, [(4, (some (20, true)))], b0L.strip⟩ := by kernel_rfl
abbrev mulH (a b c : Md) : Heap := [(5, [ivC c]), (2, [ivC (List.replicate 10 (0, 0))]), (1, [ivC b]), (0, [ivC a])]
abbrev mulS (r : Sl) : Sl := (2, .ptr 0 0 0 20) :: (3, .ptr 1 0 0 20) :: (4, .ptr 2 0 0 20) :: (5, .ptr 5 0 0 20) :: r
theorem a1p (m : Md) (i : Nat) (p : Iv) (hi : i < m.length) : mG (m.set i p) i = p := by rw [c91 _ _ _ _ hi, if_pos rfl]
theorem c9X (a b C : Md) (k : Nat) (ha : a.length = 10) (hb : b.length = 10) (hC : C.length = 10) (hk : k < 9) (Q : Ex -> T -> Prop)
  (hQ : ∀ v w, Q (.exit 2) ⟨mulS [(6, fI k), (7, v), (12, fI k), (28, w)], mulH a b (C.set k (mulK a b k k))⟩) :
  WA Tryz.prog (fun _ => False) 101 (.loop a0n) Q ⟨mulS [(6, fI k), (7, fI 1), (12, fI k)], mulH a b (C.set k (mulK a b k 0))⟩ := by
 refine q9 (n := k) (fun c s => ∃ i, c + i = k /\ s = ⟨mulS [(6, fI k), (7, fI (i + 1 : Nat)), (12, fI k)], mulH a b (C.set k (mulK a b k i))⟩) ⟨0, by omega, rfl⟩ ?_
 rintro c s ⟨i, hc, rfl⟩
 have hl : (C.set k (mulK a b k i)).length = 10 := by rw [List.length_set]; exact hC
 refine evx @a0n.eq_1 ?_
 refine a9 (fun h => ?_) (fun h => ?_)
 ·replace h := d1Y h
  have hik : i + 1 <= k := by omega
  have w1 : IntKind.i64.wrap ((k : Int) - ((i + 1 : Nat) : Int)) = ((k - (i + 1) : Nat) : Int) := by rw [d9 (by omega) (by omega)]; omega
  simp -implicitDefEqProofs only [evI, hv, effC, reduceCtorEq, ↓reduceIte, n1_, n2_, n3_, n4_, n5_, i1_, i2_, i3_, i4_, i5_, i6_, i7_, w1, G1 (C.set k (mulK a b k i)) k (by omega), a1p C k (mulK a b k i) (by omega), G1 a (i + 1) (by omega), G1 b (k - (i + 1)) (by omega)]
  repeat with_reducible refine And.intro (by omega) ?_
  refine b9 (t7 (mG a (i + 1)) (mG b (k - (i + 1)))) rfl ?_
  refine ev ?_
  refine a0 (u7 (mulK a b k i) (s6 (mG a (i + 1)) (mG b (k - (i + 1))))) rfl ?_
  refine ev ?_
  repeat with_reducible refine And.intro (by omega) ?_
  rw [J5 _ _ _ _ (by omega), List.set_set, show IntKind.i64.wrap (((i + 1 : Nat) : Int) + 1) = ((i + 1 + 1 : Nat) : Int) by rw [d9 (by omega) (by omega)]; omega]
  exact ⟨c - 1, by omega, i + 1, by omega, rfl⟩
 ·replace h := d1Z h
  obtain rfl : i = k := by omega
  refine ev ?_
  exact hQ _ _
theorem c9Y (a b : Md) (ha : a.length = 10) (hb : b.length = 10) (Q : Ex -> T -> Prop)
  (hQ : ∀ v w, Q (.exit 0) ⟨mulS [(12, v), (13, w)], mulH a b (filI (fun k => mulK a b k k) (fun _ => (0, 0)) 10 9)⟩) :
  WA Tryz.prog (fun _ => False) 101 (.loop a0p) Q ⟨mulS [(12, fI 0)], mulH a b (filI (fun k => mulK a b k k) (fun _ => (0, 0)) 10 0)⟩ := by
 refine q9 (n := 9) (fun c s => ∃ k, c + k = 9 /\ s = ⟨mulS [(12, fI k)], mulH a b (filI (fun k => mulK a b k k) (fun _ => (0, 0)) 10 k)⟩) ⟨0, by omega, rfl⟩ ?_
 rintro c s ⟨k, hc, rfl⟩
 have hl := a1r (fun k => mulK a b k k) (fun _ => (0, 0)) 10 k
 refine evx @a0p.eq_1 ?_
 refine a9 (fun h => ?_) (fun h => ?_)
 ·replace h := d1Y h
  have hk : k < 9 := by omega
  simp -implicitDefEqProofs only [evI, hv, effC, reduceCtorEq, ↓reduceIte, n1_, n2_, n3_, n4_, n5_, i1_, i2_, i3_, i4_, i5_, i6_, i7_, c5P a (by omega), G1 b k (by omega)]
  repeat with_reducible refine And.intro (by omega) ?_
  refine a0 (t7 (mG a 0) (mG b k)) rfl ?_
  refine ev ?_
  repeat with_reducible refine And.intro (by omega) ?_
  rw [J5 _ _ _ _ (by omega)]
  refine c9X a b _ k ha hb hl hk _ fun v w => ?_
  rw [Z1 _ _ _ _ _ rfl]
  refine ev ?_
  rw [d9 (by omega) (by omega)]
  exact ⟨c - 1, by omega, k + 1, by omega, rfl⟩
 ·replace h := d1Z h
  obtain rfl : k = 9 := by omega
  refine ev ?_
  exact hQ _ _
theorem c9V (a b C : Md) (i : Nat) (r : Iv) (ha : a.length = 10) (hb : b.length = 10) (hC : C.length = 10) (hi : i < 9) (Q : Ex -> T -> Prop)
  (hQ : ∀ v w, Q (.exit 6) ⟨mulS [(8, fI i), (51, fI i), (54, v), (55, w)], mulH a b (C.set 9 (mulJ a b i r 9))⟩) :
  WA Tryz.prog (fun _ => False) 101 (.loop a0k) Q ⟨mulS [(8, fI i), (51, fI i), (54, fI 0)], mulH a b (C.set 9 r)⟩ := by
 refine q9 (n := 9) (fun c s => ∃ j, c + j = 9 /\ s = ⟨mulS [(8, fI i), (51, fI i), (54, fI j)], mulH a b (C.set 9 (mulJ a b i r j))⟩) ⟨0, by omega, rfl⟩ ?_
 rintro c s ⟨j, hc, rfl⟩
 have hl : (C.set 9 (mulJ a b i r j)).length = 10 := by rw [List.length_set]; exact hC
 refine evx @a0k.eq_1 ?_
 refine a9 (fun h => ?_) (fun h => ?_)
 ·replace h := d1Y h
  have hj : j < 9 := by omega
  have w1 : IntKind.i64.wrap ((i : Int) + (j : Int)) = ((i + j : Nat) : Int) := by rw [d9 (by omega) (by omega)]; omega
  have w2 : IntKind.i64.wrap ((j : Int) + 1) = ((j + 1 : Nat) : Int) := by rw [d9 (by omega) (by omega)]; omega
  have er := b1y (C.set 9 (mulJ a b i r j)) hl
  rw [a1p _ _ _ (by omega)] at er
  refine evx w1 ?_
  refine a9 (fun h8 => ?_) (fun h8 => ?_)
  ·replace h8 := d1Y h8
   have h8' : 8 < i + j := by omega
   simp -implicitDefEqProofs only [evI, hv, effC, reduceCtorEq, ↓reduceIte, n1_, n2_, n3_, n4_, n5_, i1_, i2_, i3_, i4_, i5_, i6_, i7_, w1, er, G1 a i (by omega), G1 b j (by omega)]
   repeat with_reducible refine And.intro (by omega) ?_
   refine b9 (t7 (mG a i) (mG b j)) rfl ?_
   refine evx w1 ?_
   refine b9 (a2f (i + j) (by omega)) rfl ?_
   refine ev ?_
   refine b9 (t7 (s6 (mG a i) (mG b j)) (pwI (i + j))) rfl ?_
   refine ev ?_
   refine a0 (u7 (mulJ a b i r j) (s6 (s6 (mG a i) (mG b j)) (pwI (i + j)))) rfl ?_
   refine ev ?_
   repeat with_reducible refine And.intro (by omega) ?_
   have e := J5 (C.set 9 (mulJ a b i r j)) 9 (y3 (mulJ a b i r j) (s6 (s6 (mG a i) (mG b j)) (pwI (i + j)))).1 (y3 (mulJ a b i r j) (s6 (s6 (mG a i) (mG b j)) (pwI (i + j)))).2 (by omega)
   rw [List.set_set] at e
   have e2 : mulJ a b i r (j + 1) = y3 (mulJ a b i r j) (s6 (s6 (mG a i) (mG b j)) (pwI (i + j))) := by rw [mulJ, if_pos h8']
   rw [w2]
   refine ⟨c - 1, by omega, j + 1, by omega, ?_⟩
   rw [e2]
   exact congrArg (fun z => (⟨mulS [(8, fI i), (51, fI i), (54, fI (j + 1 : Nat))], [(5, [z]), (2, [ivC (List.replicate 10 (0, 0))]), (1, [ivC b]), (0, [ivC a])]⟩ : T)) e
  ·replace h8 := d1Z h8
   have e2 : mulJ a b i r (j + 1) = mulJ a b i r j := by rw [mulJ, if_neg (by omega)]
   refine ev ?_
   rw [w2]
   exact ⟨c - 1, by omega, j + 1, by omega, by rw [e2]⟩
 ·replace h := d1Z h
  obtain rfl : j = 9 := by omega
  refine ev ?_
  exact hQ _ _
theorem c9W (a b C : Md) (ha : a.length = 10) (hb : b.length = 10) (hC : C.length = 10) (Q : Ex -> T -> Prop)
  (hQ : ∀ v w, Q (.exit 4) ⟨mulS [(51, v), (52, w)], mulH a b (C.set 9 (mulI a b 9))⟩) :
  WA Tryz.prog (fun _ => False) 101 (.loop a0m) Q ⟨mulS [(51, fI 0)], mulH a b (C.set 9 (0, 0))⟩ := by
 refine q9 (n := 9) (fun c s => ∃ i, c + i = 9 /\ s = ⟨mulS [(51, fI i)], mulH a b (C.set 9 (mulI a b i))⟩) ⟨0, by omega, rfl⟩ ?_
 rintro c s ⟨i, hc, rfl⟩
 refine evx @a0m.eq_1 ?_
 refine a9 (fun h => ?_) (fun h => ?_)
 ·replace h := d1Y h
  have hi : i < 9 := by omega
  refine ev ?_
  refine c9V a b C i (mulI a b i) ha hb hC hi _ fun v w => ?_
  refine ev ?_
  rw [d9 (by omega) (by omega)]
  exact ⟨c - 1, by omega, i + 1, by omega, rfl⟩
 ·replace h := d1Z h
  obtain rfl : i = 9 := by omega
  refine ev ?_
  exact hQ _ _
theorem c5v (f : Nat -> Iv) (r : Iv) : (filI f (fun _ => (0, 0)) 10 9).set 9 r = (List.range 9).map f ++ [r] := by
 refine List.ext_getElem (by simp [filI]) fun j h1 h2 => ?_
 have hj : j < 10 := by simpa [filI] using h1
 rw [List.getElem_set]
 by_cases e : 9 = j
 ·subst e; simp
 ·have h9 : j < 9 := by omega
  rw [if_neg e]
  simp [filI, List.getElem_append, h9]
theorem E1 (a b : Md) (ha : a.length = 10) (hb : b.length = 10) : Con Tryz.prog 242 [mdV a, mdV b] (mdV (mulM a b)) := by
 refine a8 a8R rfl f0 ?_
 refine evx @b0K.eq_1 ?_
 repeat with_reducible refine And.intro (by omega) ?_
 refine a0 (A4 0) rfl ?_
 refine ev ?_
 refine c9Y a b ha hb _ fun v w => ?_
 have hl := a1r (fun k => mulK a b k k) (fun _ => (0, 0)) 10 9
 have hm := a3t a b
 have hset : (filI (fun k => mulK a b k k) (fun _ => (0, 0)) 10 9).set 9 (y3 (y3 (mulI a b 9) (s6 (mG a 9) (rngM b))) (s6 (X5 a 8) (mG b 9))) = mulM a b := by
  rw [c5v]; unfold mulM b93; rfl
 have hz : (filI (fun k => mulK a b k k) (fun _ => (0, 0)) 10 9).set 9 (0, 0) = filI (fun k => mulK a b k k) (fun _ => (0, 0)) 10 9 := b3m _ _ (by rw [b33 _ _ _ _ _ (by decide), if_neg (by decide)]) (by omega)
 generalize filI (fun k => mulK a b k k) (fun _ => (0, 0)) 10 9 = C at hl hset hz
 refine ev ?_
 rw [<- hz]
 refine c9W a b C ha hb hl _ fun v w => ?_
 have hl2 : (C.set 9 (mulI a b 9)).length = 10 := by rw [List.length_set]; exact hl
 have er := b1y (C.set 9 (mulI a b 9)) hl2
 rw [a1p _ _ _ (by omega)] at er
 refine evx (And.intro er (And.intro (b1y a ha) (B8 b hb))) ?_
 repeat with_reducible refine And.intro (by omega) ?_
 first | refine a0 (k9 b hb) (by simp [q7, g9]) ?_ | refine d6 (k9 b hb) (by simp [q7, g9]) ?_ | refine b9 (k9 b hb) (by simp [q7, g9]) ?_
 refine ev ?_
 refine b9 (t7 (mG a 9) (rngM b)) rfl ?_
 refine ev ?_
 refine a0 (u7 (mulI a b 9) (s6 (mG a 9) (rngM b))) rfl ?_
 refine ev ?_
 generalize y3 (mulI a b 9) (s6 (mG a 9) (rngM b)) = r1 at hset ⊢
 have e := J5 (C.set 9 (mulI a b 9)) 9 r1.1 r1.2 (by omega)
 rw [List.set_set] at e
 have e' : ((ivC (C.set 9 (mulI a b 9))).set 18 (fl r1.1)).set 19 (fl r1.2) = ivC (C.set 9 r1) := e
 rw [e']
 have hl3 : (C.set 9 r1).length = 10 := by rw [List.length_set]; exact hl
 have er3 := b1y (C.set 9 r1) hl3
 rw [a1p _ _ _ (by omega)] at er3
 have h9 : (a.take 9).length = 9 := by rw [List.length_take]; omega
 refine evx (And.intro er3 (And.intro (c6Z a ha) (b1y b hb))) ?_
 repeat with_reducible refine And.intro (by omega) ?_
 first | refine a0 (C4 (a.take 9) h9) (by simp [q7, g9]) ?_ | refine d6 (C4 (a.take 9) h9) (by simp [q7, g9]) ?_ | refine b9 (C4 (a.take 9) h9) (by simp [q7, g9]) ?_
 rw [b2g a 8 (by decide)]
 refine evx (b1y b hb) ?_
 repeat with_reducible refine And.intro (by omega) ?_
 refine b9 (t7 (X5 a 8) (mG b 9)) rfl ?_
 refine ev ?_
 refine a0 (u7 r1 (s6 (X5 a 8) (mG b 9))) rfl ?_
 refine ev ?_
 generalize y3 r1 (s6 (X5 a 8) (mG b 9)) = r2 at hset ⊢
 have f := J5 (C.set 9 r1) 9 r2.1 r2.2 (by omega)
 rw [List.set_set] at f
 have f' : ((ivC (C.set 9 r1)).set 18 (fl r2.1)).set 19 (fl r2.2) = ivC (mulM a b) := f.trans (by rw [<- hset])
 rw [f']
 simp -implicitDefEqProofs only [evI, hv, effC, reduceCtorEq, ↓reduceIte, n1_, n2_, n3_, n4_, n5_, i1_, i2_, i3_, i4_, i5_, i6_, i7_, B8 _ hm]
 repeat with_reducible refine And.intro (by omega) ?_
 rw [r8 _ _ (by rw [j7, hm]; rfl)]
 exact B9 _ (by omega) (by decide) rfl rfl rfl
theorem c60 (p : Iv) : (fcmp .le p.1 0 && fcmp .le 0 p.2) = in0 p := rfl
def qC (a b : Md) (k : Nat) : Md := divQ a b k ++ List.replicate (10 - k) (0, 0)
theorem c16 (a b : Md) (k : Nat) (h : k <= 10) : (qC a b k).length = 10 := by simp [qC, a52]; omega
theorem c9J (a b : Md) (k j : Nat) (h : j < k) : mG (qC a b k) j = mG (divQ a b k) j := by
 unfold mG qC
 rw [d10, d12 (by rw [a52]; exact h), <- d10]
theorem c9H (a b : Md) (k : Nat) (h : k < 10) (p : Iv) (hp : p = Q6 (divW a b (divQ a b k) k k) (mG b 0)) : (qC a b k).set k p = qC a b (k + 1) := by
 have hl := a52 a b k
 subst hp
 obtain ⟨m, hm⟩ : ∃ m, 10 - k = m + 1 := ⟨9 - k, by omega⟩
 unfold qC
 rw [List.set_append_right _ _ (by omega), hl, Nat.sub_self, hm, List.replicate_succ, List.set_cons_zero, divQ, show 10 - (k + 1) = m by omega]
 simp
abbrev divH (a b q : Md) : Heap := [(7, [ivC q]), (5, [[fl (rngM b).1, fl (rngM b).2]]), (2, [ivC (List.replicate 10 (0, 0))]), (1, [ivC b]), (0, [ivC a])]
abbrev divS (r : Sl) : Sl := (2, .ptr 0 0 0 20) :: (3, .ptr 1 0 0 20) :: (4, .ptr 2 0 0 20) :: (5, .ptr 5 0 0 2) :: (6, .ptr 7 0 0 20) :: r
theorem d0v (a b : Md) (k : Nat) (hb : b.length = 10) (hk : k < 9) (Q : Ex -> T -> Prop)
  (hQ : ∀ v w, Q (.exit 2) ⟨divS [(7, fI k), (8, .ptr 12 0 0 2), (9, v), (23, fI k), (32, w)], (12, [[fl (divW a b (divQ a b k) k k).1, fl (divW a b (divQ a b k) k k).2]]) :: divH a b (qC a b k)⟩) :
  WA Tryz.prog (fun _ => False) 67 (.loop a0q) Q ⟨divS [(7, fI k), (8, .ptr 12 0 0 2), (9, fI 1), (23, fI k)], (12, [[fl (divW a b (divQ a b k) k 0).1, fl (divW a b (divQ a b k) k 0).2]]) :: divH a b (qC a b k)⟩ := by
 have hl := c16 a b k (by omega)
 refine q9 (n := k) (fun c s => ∃ i, c + i = k /\ s = ⟨divS [(7, fI k), (8, .ptr 12 0 0 2), (9, fI (i + 1 : Nat)), (23, fI k)], (12, [[fl (divW a b (divQ a b k) k i).1, fl (divW a b (divQ a b k) k i).2]]) :: divH a b (qC a b k)⟩) ⟨0, by omega, rfl⟩ ?_
 rintro c s ⟨i, hc, rfl⟩
 refine evx @a0q.eq_1 ?_
 refine a9 (fun h => ?_) (fun h => ?_)
 ·replace h := d1Y h
  have hik : i + 1 <= k := by omega
  have w1 : IntKind.i64.wrap ((k : Int) - ((i + 1 : Nat) : Int)) = ((k - (i + 1) : Nat) : Int) := by rw [d9 (by omega) (by omega)]; omega
  simp -implicitDefEqProofs only [evI, hv, effC, reduceCtorEq, ↓reduceIte, n1_, n2_, n3_, n4_, n5_, i1_, i2_, i3_, i4_, i5_, i6_, i7_, w1, G1 b (i + 1) (by omega), G1 (qC a b k) (k - (i + 1)) (by omega), c9J a b k (k - (i + 1)) (by omega)]
  repeat with_reducible refine And.intro (by omega) ?_
  refine b9 (t7 (mG b (i + 1)) (mG (divQ a b k) (k - (i + 1)))) rfl ?_
  refine ev ?_
  refine a0 (C6 (divW a b (divQ a b k) k i) (s6 (mG b (i + 1)) (mG (divQ a b k) (k - (i + 1))))) rfl ?_
  refine ev ?_
  rw [show IntKind.i64.wrap (((i + 1 : Nat) : Int) + 1) = ((i + 1 + 1 : Nat) : Int) by rw [d9 (by omega) (by omega)]; omega]
  exact ⟨c - 1, by omega, i + 1, by omega, rfl⟩
 ·replace h := d1Z h
  obtain rfl : i = k := by omega
  refine ev ?_
  exact hQ _ _
theorem d0w (a b : Md) (ha : a.length = 10) (hb : b.length = 10) (Q : Ex -> T -> Prop)
  (hQ : ∀ v w, Q (.exit 0) ⟨divS [(23, v), (24, w)], divH a b (qC a b 9)⟩) :
  WA Tryz.prog (fun _ => False) 67 (.loop a0r) Q ⟨divS [(23, fI 0)], divH a b (qC a b 0)⟩ := by
 refine j4 (n := 9) (fun c s => ∃ k, c + k = 9 /\ s = ⟨divS [(23, fI k)], divH a b (qC a b k)⟩) (Le.refl _) ⟨0, by omega, rfl⟩ ?_
 rintro c s ⟨k, hc, rfl⟩
 refine evx @a0r.eq_1 ?_
 refine a9 (fun h => ?_) (fun h => ?_)
 ·replace h := d1Y h
  have hk : k < 9 := by omega
  have hl := c16 a b k (by omega)
  simp -implicitDefEqProofs only [evI, hv, effC, reduceCtorEq, ↓reduceIte, n1_, n2_, n3_, n4_, n5_, i1_, i2_, i3_, i4_, i5_, i6_, i7_, G1 a k (by omega)]
  repeat with_reducible refine And.intro (by omega) ?_
  refine d0v a b k hb hk _ fun v w => ?_
  simp -implicitDefEqProofs only [evI, hv, effC, reduceCtorEq, ↓reduceIte, n1_, n2_, n3_, n4_, n5_, i1_, i2_, i3_, i4_, i5_, i6_, i7_, c5P b (by omega)]
  repeat with_reducible refine And.intro (by omega) ?_
  refine a0 (M6 (divW a b (divQ a b k) k k) (mG b 0)) rfl ?_
  refine ev ?_
  repeat with_reducible refine And.intro (by omega) ?_
  rw [d9 (by omega) (by omega), J5 _ _ _ _ (by omega), c9H a b k (by omega) _ rfl]
  exact ⟨c - 1, _, by omega, LeT.only (fun X => decide (X <= 7)) (fun _ h => h) rfl (by simp (maxDischargeDepth := 6) [kpS, d5, d8, v5]) (by simp (maxDischargeDepth := 6) [kpS, d5, d8, v5]), k + 1, by omega, rfl⟩
 ·replace h := d1Z h
  obtain rfl : k = 9 := by omega
  refine ev ?_
  exact hQ _ _
theorem a1m (a b : Md) (ha : a.length = 10) (hb : b.length = 10) : Con Tryz.prog 243 [mdV a, mdV b] (mdV (divM a b)) := by
 refine a8 a8T rfl f0 ?_
 refine evx @b0L.eq_1 ?_
 repeat with_reducible refine And.intro (by omega) ?_
 rw [B8 b hb]
 first | refine a0 (k9 b hb) (by simp [q7, g9]) ?_ | refine d6 (k9 b hb) (by simp [q7, g9]) ?_ | refine b9 (k9 b hb) (by simp [q7, g9]) ?_
 refine ev ?_
 rw [c5P b (by omega)]
 repeat with_reducible refine And.intro (by omega) ?_
 refine b9 (a5M 0 (mG b 0)) rfl ?_
 rw [c60]
 refine ev ?_
 refine a0 (a5M 0 (rngM b)) rfl ?_
 rw [c60]
 simp -implicitDefEqProofs only [evI, hv, effC, reduceCtorEq, ↓reduceIte, n1_, n2_, n3_, n4_, n5_, i1_, i2_, i3_, i4_, i5_, i6_, i7_, aeq, Option.map_some]
 have e0 : (in0 (mG b 0) == false && in0 (rngM b) == false ^^ true) = (in0 (mG b 0) || in0 (rngM b)) := by cases in0 (mG b 0) <;> cases in0 (rngM b) <;> rfl
 rw [e0]
 unfold divM
 cases hd : (in0 (mG b 0) || in0 (rngM b))
 ·have e1 : qC a b 0 = List.replicate 10 (0, 0) := rfl
  have e2 : ofM [] = List.replicate 10 (0, 0) := by rfl
  refine ev ?_
  refine a0 (Q5) rfl ?_
  refine ev ?_
  rw [e2]
  repeat with_reducible refine And.intro (by omega) ?_
  rw [r8 _ _ (by rw [j7]; rfl), <- e1]
  refine ⟨by rw [e1]; rfl, ?_⟩
  refine d0w a b ha hb _ fun v w => ?_
  have hl := c16 a b 9 (by decide)
  have hq : divQ a b 9 ++ [(0, 0)] = qC a b 9 := rfl
  have hset : (qC a b 9).set 9 (Q6 (rngM (zipM y8 a (mulM b (qC a b 9)))) (rngM b)) = divQ a b 9 ++ [Q6 (rngM (zipM y8 a (mulM b (qC a b 9)))) (rngM b)] := by
   have := a52 a b 9
   unfold qC
   rw [List.set_append_right _ _ (by omega), this]; rfl
  rw [hq, <- hset]
  generalize qC a b 9 = q at hl ⊢
  refine evx (And.intro (B8 a ha) (And.intro (B8 b hb) (B8 q hl))) ?_
  repeat with_reducible refine And.intro (by omega) ?_
  first | refine a0 (E1 b q hb hl) (by simp [q7, g9]) ?_ | refine d6 (E1 b q hb hl) (by simp [q7, g9]) ?_ | refine b9 (E1 b q hb hl) (by simp [q7, g9]) ?_
  refine ev ?_
  first | refine a0 (x4 a (mulM b q) ha (a3t b q)) (by simp [q7, g9]) ?_ | refine d6 (x4 a (mulM b q) ha (a3t b q)) (by simp [q7, g9]) ?_ | refine b9 (x4 a (mulM b q) ha (a3t b q)) (by simp [q7, g9]) ?_
  refine ev ?_
  first | refine a0 (k9 (zipM y8 a (mulM b q)) (F6 _ _ _)) (by simp [q7, g9]) ?_ | refine d6 (k9 (zipM y8 a (mulM b q)) (F6 _ _ _)) (by simp [q7, g9]) ?_ | refine b9 (k9 (zipM y8 a (mulM b q)) (F6 _ _ _)) (by simp [q7, g9]) ?_
  refine ev ?_
  refine a0 (M6 (rngM (zipM y8 a (mulM b q))) (rngM b)) rfl ?_
  generalize Q6 (rngM (zipM y8 a (mulM b q))) (rngM b) = r
  refine ev ?_
  have f : ((ivC q).set 18 (fl r.1)).set 19 (fl r.2) = ivC (q.set 9 r) := J5 q 9 r.1 r.2 (by omega)
  have hl2 : (q.set 9 r).length = 10 := by rw [List.length_set]; exact hl
  rw [f]
  simp -implicitDefEqProofs only [evI, hv, effC, reduceCtorEq, ↓reduceIte, n1_, n2_, n3_, n4_, n5_, i1_, i2_, i3_, i4_, i5_, i6_, i7_, B8 _ hl2]
  repeat with_reducible refine And.intro (by omega) ?_
  rw [r8 _ _ (by rw [j7, hl2]; rfl)]
  exact B9 _ (by omega) (by decide) rfl rfl rfl
 ·have hn : noneM.length = 10 := by rfl
  refine ev ?_
  refine a0 (b1u) rfl ?_
  refine ev ?_
  repeat with_reducible refine And.intro (by omega) ?_
  rw [r8 _ _ (by rw [j7, hn]; rfl)]
  exact B9 _ (by omega) (by decide) rfl rfl rfl
def a2W : CA := (.seq (.reg [i_N 0 15 .lss 14 13] [1, 2, 5, 12, 13, 14, 15]) (.seq (.cond (.t 15) .skip (.exit 0)) (.seq (.block 1 (.seq (.reg [i_I 0 16 12 14 4, i_A 1 17 16 4, i_X 2 7 (.alloc [fI 0, fI 0, fI 0, fl 0] 81), i_S 3 7 17 4] [1, 2, 5, 7, 12, 13, 14]) (.seq (.reg [i_P 0 18 7 0, i_L 1 19 18 1] [1, 2, 5, 7, 12, 13, 14, 19]) (.block 2 (.seq (.reg [i_B 0 21 .eql 19 0, i_M 1 20 21] [1, 2, 5, 7, 12, 13, 14, 19, 20]) (.cond (.t 20) (.reg [i_M 0 22 5, i_P 1 23 7 3, i_L 2 24 23 1, i_X 3 25 (.bslice [fl 0] 1 1 [(0, (1, (.t 24)))] 31), i_X 4 26 (.callA (kF 187) [(.t 25)]), i_X 5 27 (.bslice z_20 1 20 [(0, (20, (.t 26)))] 123), i_X 6 28 (.app (.t 22) (.t 27) 20 160), i_M 7 5 28] [1, 2, 5, 12, 13, 14]) (.seq (.reg [i_B 0 30 .eql 19 1, i_M 1 29 30] [1, 2, 5, 7, 12, 13, 14, 19, 29]) (.cond (.t 29) (.reg [i_M 0 31 5, i_M 1 32 1, i_P 2 33 7 1, i_L 3 34 33 1, i_I 4 35 32 34 20, i_A 5 36 35 20, i_X 6 37 (.bslice z_20 1 20 [(0, (20, (.t 36)))] 123), i_X 7 38 (.app (.t 31) (.t 37) 20 160), i_M 8 5 38] [1, 2, 5, 12, 13, 14]) (.seq (.reg [i_B 0 40 .eql 19 2, i_M 1 39 40] [1, 2, 5, 7, 12, 13, 14, 19, 39]) (.cond (.t 39) (.reg [i_M 0 41 5, i_M 1 42 5, i_P 2 43 7 1, i_L 3 44 43 1, i_I 4 45 42 44 20, i_A 5 46 45 20, i_M 6 47 5, i_P 7 48 7 2, i_L 8 49 48 1, i_I 9 50 47 49 20, i_A 10 51 50 20, i_X 11 52 (.callA (kF 241) [(.t 46), (.t 51)]), i_X 12 53 (.bslice z_20 1 20 [(0, (20, (.t 52)))] 123), i_X 13 54 (.app (.t 41) (.t 53) 20 160), i_M 14 5 54] [1, 2, 5, 12, 13, 14]) (.seq (.reg [i_B 0 56 .eql 19 3, i_M 1 55 56] [1, 2, 5, 7, 12, 13, 14, 19, 55]) (.cond (.t 55) (.reg [i_M 0 57 5, i_M 1 58 5, i_P 2 59 7 1, i_L 3 60 59 1, i_I 4 61 58 60 20, i_A 5 62 61 20, i_M 6 63 5, i_P 7 64 7 2, i_L 8 65 64 1, i_I 9 66 63 65 20, i_A 10 67 66 20, i_X 11 68 (.callA (kF 196) [(.t 62), (.t 67)]), i_X 12 69 (.bslice z_20 1 20 [(0, (20, (.t 68)))] 123), i_X 13 70 (.app (.t 57) (.t 69) 20 160), i_M 14 5 70] [1, 2, 5, 12, 13, 14]) (.seq (.reg [i_B 0 72 .eql 19 4, i_M 1 71 72] [1, 2, 5, 7, 12, 13, 14, 19, 71]) (.cond (.t 71) (.reg [i_M 0 73 5, i_M 1 74 5, i_P 2 75 7 1, i_L 3 76 75 1, i_I 4 77 74 76 20, i_A 5 78 77 20, i_M 6 79 5, i_P 7 80 7 2, i_L 8 81 80 1, i_I 9 82 79 81 20, i_A 10 83 82 20, i_X 11 84 (.callA (kF 242) [(.t 78), (.t 83)]), i_X 12 85 (.bslice z_20 1 20 [(0, (20, (.t 84)))] 123), i_X 13 86 (.app (.t 73) (.t 85) 20 160), i_M 14 5 86] [1, 2, 5, 12, 13, 14]) (.seq (.reg [i_B 0 88 .eql 19 5, i_M 1 87 88] [1, 2, 5, 7, 12, 13, 14, 87]) (.cond (.t 87) (.reg [i_M 0 89 5, i_M 1 90 5, i_P 2 91 7 1, i_L 3 92 91 1, i_I 4 93 90 92 20, i_A 5 94 93 20, i_M 6 95 5, i_P 7 96 7 2, i_L 8 97 96 1, i_I 9 98 95 97 20, i_A 10 99 98 20, i_X 11 100 (.callA (kF 243) [(.t 94), (.t 99)]), i_X 12 101 (.bslice z_20 1 20 [(0, (20, (.t 100)))] 123), i_X 13 102 (.app (.t 89) (.t 101) 20 160), i_M 14 5 102] [1, 2, 5, 12, 13, 14]) .skip)))))))))))))))) (.reg [i_B 0 103 .add 14 1, i_M 1 14 103] [1, 2, 5, 12, 13, 14]))))
def a2V : CA := (.seq (.reg [i_N 0 111 .lss 110 109] [5, 8, 108, 109, 110, 111]) (.seq (.cond (.t 111) .skip (.exit 3)) (.seq (.block 4 (.seq (.reg [i_M 0 112 110, i_I 1 113 108 110 1, i_L 2 114 113 1, i_M 3 9 112, i_M 4 10 114] [5, 8, 9, 10, 108, 109, 110]) (.reg [i_M 0 115 8, i_M 1 116 9, i_M 2 117 5, i_M 3 118 10, i_I 4 119 117 118 20, i_A 5 120 119 20, i_I 6 121 115 116 20, i_S 7 121 120 20] [5, 8, 108, 109, 110]))) (.reg [i_B 0 122 .add 110 1, i_M 1 110 122] [5, 8, 108, 109, 110]))))
def a8a : CA := (.seq (.reg [i_X 0 2 (.box (.t 0) 3 28), i_X 1 4 (.h (.mov (.k .nil)))] [1, 2]) (.seq (.reg [i_X 0 5 (.h (.mov (.k .nil)))] [1, 2, 5]) (.seq (.seq (.reg [i_P 0 11 2 1, i_L 1 12 11 1, i_X 2 13 (.h (.len (.t 12))), i_K 3 14 0] [1, 2, 5, 12, 13, 14]) (.block 0 (.loop a2W))) (.seq (.reg [i_P 0 104 2 0, i_L 1 105 104 1, i_X 2 106 (.mksl z_20 20 160 (.t 105) (.t 105) 123), i_M 3 8 106] [2, 5, 8]) (.seq (.seq (.reg [i_P 0 107 2 2, i_L 1 108 107 1, i_X 2 109 (.h (.len (.t 108))), i_K 3 110 0] [5, 8, 108, 109, 110]) (.block 3 (.loop a2V))) (.seq (.reg [i_M 0 123 8, i_M 1 4 123] [4]) .ret))))))
theorem a7j : f4 Tryz.prog 193 = some ⟨124, [(4, none)], a8a.strip⟩ := by kernel_rfl
theorem a5u (ps : List Iv) : Scalar (.agg (ivC ps)) := by
 refine .agg fun j hj => ?_
 rw [N3, d10, List.getElem?_map]
 have hj2 : j < (ivDs ps).length := by rw [N3, List.length_map] at hj; exact hj
 rw [d11 hj2]
 show Scalar (.d (ivDs ps)[j])
 have : ∀ d ∈ ivDs ps, Scalar (.d d) := fun d hd => by
  unfold ivDs at hd
  obtain ⟨p, _, hp⟩ := List.mem_flatMap.1 hd
  simp at hp
  rcases hp with rfl | rfl <;> exact .flt _
 exact this _ (List.getElem_mem hj2)
theorem a4E (r : List Md) (i : Nat) (h : (r.getD i []).length = 10) : (mdG r i).length = 20 := by show (ivDs _).length = 20; rw [a9g, h]
theorem c46 (t : Tp) (x : List Md) (i j : Nat) (h : j < i) : (regM t x (i + 1)).getD j [] = (regM t x i).getD j [] := by
 have hl := a9b t x i
 rw [regM, d10, d12 (by omega), <- d10]
theorem c10 (t : Tp) (x : List Md) (i : Nat) : (regM t x (i + 1)).getD i [] = opM (t.ops.getD i ⟨0, 0, 0, 0⟩) x (regM t x i) := by
 have hl := a9b t x i
 rw [regM, d10, d13 (by omega), hl, Nat.sub_self]; rfl
theorem c1Z (t : Tp) (x : List Md) (i : Nat) : g5 (i + 1) (mdG (regM t x (i + 1))) = g5 i (mdG (regM t x i)) ++ ivC (opM (t.ops.getD i ⟨0, 0, 0, 0⟩) x (regM t x i)) := by
 rw [D4]
 have e : g5 i (mdG (regM t x (i + 1))) = g5 i (mdG (regM t x i)) := by
  unfold g5
  rw [a2r fun j hj => ?_]
  simp only [mdG, c46 t x i j hj]
 rw [e, N3, mdG, c10]
def outG (g : Nat -> Md) (i j : Nat) : List D := if j < i then ivDs (g j) else ivDs (List.replicate 10 (0, 0))
theorem b3B (g : Nat -> Md) (i j : Nat) (h : (g j).length = 10) : (outG g i j).length = 20 := by
 unfold outG; split
 ·rw [a9g, h]
 ·rw [a9g]; rfl
theorem b44 {get get' : Nat -> List D} {esz : Nat} (n : Nat) (h : ∀ i, i < n -> (get i).length = esz) (h' : ∀ i, i < n -> (get' i).length = esz) (i : Nat) (hi : i < n) (he : ∀ j, j < n -> j ≠ i -> get' j = get j) : s7 (g5 n get) (i * esz) ((get' i).map .d) = g5 n get' := by
 have l1 := t8 n h
 have l2 := t8 n h'
 refine List.ext_getElem? fun k => ?_
 rw [a5s, List.length_map, h' i hi, l1]
 by_cases hk : k < n * esz
 ·have e0 : 0 < esz := by
   rcases Nat.eq_zero_or_pos esz with h0 | h0
   ·subst h0; simp at hk
   ·exact h0
  have e1 : k / esz < n := (Nat.div_lt_iff_lt_mul e0).2 hk
  have e2 : k % esz < esz := Nat.mod_lt _ e0
  have e3 : k / esz * esz + k % esz = k := Nat.div_add_mod' k esz
  have g1 := G9 n h (k / esz) (k % esz) e1 e2
  have g2 := G9 n h' (k / esz) (k % esz) e1 e2
  rw [e3, d10, d11 (by omega)] at g1 g2
  rw [d11 (by omega : k < (g5 n get').length)]
  by_cases hb : i * esz <= k /\ k < i * esz + esz /\ k < n * esz
  ·rw [if_pos hb]
   have ei : k / esz = i := by
    refine Nat.div_eq_of_lt_le (by omega) ?_
    rw [Nat.succ_mul]; omega
   have ej : k - i * esz = k % esz := by rw [<- ei]; omega
   rw [ej, List.getElem?_map, d11 (by rw [h' i hi]; exact e2)]
   simp only [Option.getD_some] at g2
   rw [g2, ei]
   simp [d10, h' i hi, e2]
  ·rw [if_neg hb, d11 (by omega)]
   have en : k / esz ≠ i := fun e => hb ⟨by rw [<- e]; omega, by rw [<- e]; omega, hk⟩
   simp only [Option.getD_some] at g1 g2
   rw [g1, g2, he _ e1 en]
 ·rw [if_neg (by omega), d17 (by omega), d17 (by omega)]
theorem c2r (g : Nat -> Md) (n : Nat) : repl n [fl 0, fl 0, fl 0, fl 0, fl 0, fl 0, fl 0, fl 0, fl 0, fl 0, fl 0, fl 0, fl 0, fl 0, fl 0, fl 0, fl 0, fl 0, fl 0, fl 0] = g5 n (outG g 0) := by
 induction n with
 | zero => rfl
 | succ n ih =>
  rw [D4, <- ih]
  unfold repl
  rw [List.replicate_succ', List.flatten_append]
  rfl
theorem c5m (g : Nat -> Md) (n : Nat) : g5 n (outG g n) = g5 n fun j => ivDs (g j) := by
 unfold g5
 rw [a2r fun j hj => by unfold outG; rw [if_pos hj]]
theorem b7p (r : List Md) (i : Nat) : (mdG r i).map V.d = ivC (r.getD i []) := (N3 _).symm
theorem J6 (p : Md) (h : p.length = 10) : (ivC p).length = 20 := by rw [j7, h]
theorem G5 (p : Md) (h : p.length = 10) : s7 [fl 0, fl 0, fl 0, fl 0, fl 0, fl 0, fl 0, fl 0, fl 0, fl 0, fl 0, fl 0, fl 0, fl 0, fl 0, fl 0, fl 0, fl 0, fl 0, fl 0] 0 (ivC p) = ivC p := r8 _ _ (by rw [j7, h]; rfl)
theorem b1v (t : Tp) (x : List Md) (ht : Tok t) (hx : x.length = t.n) (hxr : ∀ i, i < t.n -> (x.getD i []).length = 10) (hlen : t.ops.length < 2 ^ 39) : Con Tryz.prog 193 [Q2 t, .d (mdD x)] (.d (mdD (X7 t x))) := by
 refine a8 a7j rfl f0 ?_
 refine evx @a8a.eq_1 ?_
 refine evx @opsD.eq_1 ?_
 refine j4 (n := t.ops.length) (fun c s => ∃ i, c + i = t.ops.length /\ s = ⟨[(1, .d (mdD x)), (2, .ptr 0 0 0 3), (5, .sl 100 0 0 i 20 (i * 20)), (12, .d (opsD t.ops)), (13, fI t.ops.length), (14, fI i)],
   [(100, [g5 i (mdG (regM t x i))]), (0, [[fI t.n, .d (opsD t.ops), .d (rowI t.out)]])]⟩)
  (s0 := ⟨_, _⟩) (LeT.nilrow (X := 100) (esz := 20) (as' := [(1, .d (mdD x)), (2, .ptr 0 0 0 3), (5, .sl 100 0 0 0 20 0), (12, .d (opsD t.ops)), (13, fI t.ops.length), (14, fI 0)]) (by simp [d5, d8]) (fun h => h) fun i => ?_) ⟨0, by omega, rfl⟩ ?_
 ·simp only [look]
  repeat' split
  all_goals simp [opsD]
 rintro c s ⟨i, hc, rfl⟩
 have hl := a9b t x i
 have hrr : ∀ j, j < i -> ((regM t x i).getD j []).length = 10 := b5c t x ht hxr i (by omega)
 have hcl : (g5 i (mdG (regM t x i))).length = i * 20 := t8 i fun j hj => a4E _ _ (hrr j hj)
 refine evx (And.intro @a2W.eq_1 @opsD.eq_1) ?_
 refine a9 (fun h => ?_) (fun h => ?_)
 ·replace h := d1Y h
  have hop := ht.op i h
  have hstep := c1Z t x i
  generalize ho : t.ops.getD i ⟨0, 0, 0, 0⟩ = o at hop hstep
  refine evx (And.intro @opG.eq_1 ho) ?_
  rcases hop with hk | ⟨hk, ha⟩ | ⟨hk, ha, hb⟩
  ·have hp := a1k [o.c]
   have e : g5 (i + 1) (mdG (regM t x (i + 1))) = g5 i (mdG (regM t x i)) ++ ivC (ofM [o.c]) := by rw [hstep]; simp [opM, hk]
   refine evx hk ?_
   repeat with_reducible refine And.intro (by omega) ?_
   refine v9 [.d (rowD [o.c])] (a7L [o.c] (by simp)) ⟨M0 rfl rfl rfl, trivial⟩ (a5u _) ?_
   generalize ofM [o.c] = p at hp e ⊢
   refine evx (And.intro (J6 p hp) (And.intro (G5 p hp) (B8 p hp))) ?_
   repeat with_reducible refine And.intro (by omega) ?_
   rw [show i * 20 + 20 = (i + 1) * 20 by omega, d9 (by omega) (by omega), <- e]
   exact ⟨c - 1, _, by omega, LeT.only (fun X => decide (X <= 100)) (fun _ h => h) rfl (by simp [kpS]) (by simp [kpS]), i + 1, by omega, rfl⟩
  ·have hp := hxr o.a.toNat (by omega)
   have e : g5 (i + 1) (mdG (regM t x (i + 1))) = g5 i (mdG (regM t x i)) ++ ivC (x.getD o.a.toNat []) := by rw [hstep]; simp [opM, hk]
   have hg := a4E x o.a.toNat hp
   simp -implicitDefEqProofs only [evI, hv, effC, reduceCtorEq, ↓reduceIte, n1_, n2_, n3_, n4_, n5_, i1_, i2_, i3_, i4_, i5_, i6_, i7_, hk, Int.reduceBEq, mdD, b7p, hg, B8 _ hp, J6 _ hp, G5 _ hp]
   repeat with_reducible refine And.intro (by omega) ?_
   rw [show i * 20 + 20 = (i + 1) * 20 by omega, d9 (by omega) (by omega), <- e]
   exact ⟨c - 1, _, by omega, LeT.only (fun X => decide (X <= 100)) (fun _ h => h) rfl (by simp [kpS]) (by simp [kpS]), i + 1, by omega, rfl⟩
  ·have ga := b3K (regM t x i) i hrr o.a.toNat (by omega)
   have gb := b3K (regM t x i) i hrr o.b.toNat (by omega)
   have la := hrr o.a.toNat (by omega)
   have lb := hrr o.b.toNat (by omega)
   rcases hk with hk | hk | hk | hk
   ·have hp := F6 y3 ((regM t x i).getD o.a.toNat []) ((regM t x i).getD o.b.toNat [])
    have e : g5 (i + 1) (mdG (regM t x (i + 1))) = g5 i (mdG (regM t x i)) ++ ivC (zipM y3 ((regM t x i).getD o.a.toNat []) ((regM t x i).getD o.b.toNat [])) := by rw [hstep]; simp [opM, hk]
    refine evbx (And.intro hk (And.intro ga gb)) ?_
    repeat with_reducible refine And.intro (by omega) ?_
    first | refine a0 (a1n _ _ la lb) (by simp [q7, g9]) ?_ | refine d6 (a1n _ _ la lb) (by simp [q7, g9]) ?_ | refine b9 (a1n _ _ la lb) (by simp [q7, g9]) ?_
    generalize zipM y3 ((regM t x i).getD o.a.toNat []) ((regM t x i).getD o.b.toNat []) = p at hp e ⊢
    refine evx (And.intro (J6 p hp) (And.intro (G5 p hp) (B8 p hp))) ?_
    repeat with_reducible refine And.intro (by omega) ?_
    rw [show i * 20 + 20 = (i + 1) * 20 by omega, d9 (by omega) (by omega), <- e]
    exact ⟨c - 1, _, by omega, LeT.only (fun X => decide (X <= 100)) (fun _ h => h) rfl (by simp [kpS]) (by simp [kpS]), i + 1, by omega, rfl⟩
   ·have hp := F6 y8 ((regM t x i).getD o.a.toNat []) ((regM t x i).getD o.b.toNat [])
    have e : g5 (i + 1) (mdG (regM t x (i + 1))) = g5 i (mdG (regM t x i)) ++ ivC (zipM y8 ((regM t x i).getD o.a.toNat []) ((regM t x i).getD o.b.toNat [])) := by rw [hstep]; simp [opM, hk]
    refine evbx (And.intro hk (And.intro ga gb)) ?_
    repeat with_reducible refine And.intro (by omega) ?_
    first | refine a0 (x4 _ _ la lb) (by simp [q7, g9]) ?_ | refine d6 (x4 _ _ la lb) (by simp [q7, g9]) ?_ | refine b9 (x4 _ _ la lb) (by simp [q7, g9]) ?_
    generalize zipM y8 ((regM t x i).getD o.a.toNat []) ((regM t x i).getD o.b.toNat []) = p at hp e ⊢
    refine evx (And.intro (J6 p hp) (And.intro (G5 p hp) (B8 p hp))) ?_
    repeat with_reducible refine And.intro (by omega) ?_
    rw [show i * 20 + 20 = (i + 1) * 20 by omega, d9 (by omega) (by omega), <- e]
    exact ⟨c - 1, _, by omega, LeT.only (fun X => decide (X <= 100)) (fun _ h => h) rfl (by simp [kpS]) (by simp [kpS]), i + 1, by omega, rfl⟩
   ·have hp := a3t ((regM t x i).getD o.a.toNat []) ((regM t x i).getD o.b.toNat [])
    have e : g5 (i + 1) (mdG (regM t x (i + 1))) = g5 i (mdG (regM t x i)) ++ ivC (mulM ((regM t x i).getD o.a.toNat []) ((regM t x i).getD o.b.toNat [])) := by rw [hstep]; simp [opM, hk]
    refine evbx (And.intro hk (And.intro ga gb)) ?_
    repeat with_reducible refine And.intro (by omega) ?_
    first | refine a0 (E1 _ _ la lb) (by simp [q7, g9]) ?_ | refine d6 (E1 _ _ la lb) (by simp [q7, g9]) ?_ | refine b9 (E1 _ _ la lb) (by simp [q7, g9]) ?_
    generalize mulM ((regM t x i).getD o.a.toNat []) ((regM t x i).getD o.b.toNat []) = p at hp e ⊢
    refine evx (And.intro (J6 p hp) (And.intro (G5 p hp) (B8 p hp))) ?_
    repeat with_reducible refine And.intro (by omega) ?_
    rw [show i * 20 + 20 = (i + 1) * 20 by omega, d9 (by omega) (by omega), <- e]
    exact ⟨c - 1, _, by omega, LeT.only (fun X => decide (X <= 100)) (fun _ h => h) rfl (by simp [kpS]) (by simp [kpS]), i + 1, by omega, rfl⟩
   ·have hp := b88 ((regM t x i).getD o.a.toNat []) ((regM t x i).getD o.b.toNat [])
    have e : g5 (i + 1) (mdG (regM t x (i + 1))) = g5 i (mdG (regM t x i)) ++ ivC (divM ((regM t x i).getD o.a.toNat []) ((regM t x i).getD o.b.toNat [])) := by rw [hstep]; simp [opM, hk]
    refine evbx (And.intro hk (And.intro ga gb)) ?_
    repeat with_reducible refine And.intro (by omega) ?_
    first | refine a0 (a1m _ _ la lb) (by simp [q7, g9]) ?_ | refine d6 (a1m _ _ la lb) (by simp [q7, g9]) ?_ | refine b9 (a1m _ _ la lb) (by simp [q7, g9]) ?_
    generalize divM ((regM t x i).getD o.a.toNat []) ((regM t x i).getD o.b.toNat []) = p at hp e ⊢
    refine evx (And.intro (J6 p hp) (And.intro (G5 p hp) (B8 p hp))) ?_
    repeat with_reducible refine And.intro (by omega) ?_
    rw [show i * 20 + 20 = (i + 1) * 20 by omega, d9 (by omega) (by omega), <- e]
    exact ⟨c - 1, _, by omega, LeT.only (fun X => decide (X <= 100)) (fun _ h => h) rfl (by simp [kpS]) (by simp [kpS]), i + 1, by omega, rfl⟩
 ·replace h := d1Z h
  have e : i = t.ops.length := by omega
  subst e
  have hn := ht.n
  have hol := ht.outl
  have hev := b2B t x ht hxr
  have hel := b5Z t x
  have hg0 : ∀ j, j < t.n -> (X7 t x).getD j [] = (regM t x t.ops.length).getD (t.out.getD j 0).toNat [] := fun j hj => by
   unfold X7
   rw [d10, List.getElem?_map, List.getElem?_range hj]; rfl
  refine ev ?_
  repeat with_reducible refine And.intro (by omega) ?_
  rw [c2r (fun j => (X7 t x).getD j [])]
  refine q9 (n := t.n) (fun c s => ∃ i, c + i = t.n /\ s = ⟨[(5, .sl 100 0 0 t.ops.length 20 (t.ops.length * 20)), (8, .sl 103 0 0 t.n 20 (t.n * 20)), (108, .d (rowI t.out)), (109, fI t.n), (110, fI i)],
   [(103, [g5 t.n (outG (fun j => (X7 t x).getD j []) i)]), (100, [g5 t.ops.length (mdG (regM t x t.ops.length))]), (0, [[fI t.n, .d (opsD t.ops), .d (rowI t.out)]])]⟩) ⟨0, by omega, by rw [<- hol]; rfl⟩ ?_
  rintro c s ⟨i, hc, rfl⟩
  have hlo := fun i => t8 (esz := 20) t.n (get := outG (fun j => (X7 t x).getD j []) i) (fun j hj => b3B _ _ _ (hev j hj))
  have hli := hlo i
  refine evx @a2V.eq_1 ?_
  refine a9 (fun h => ?_) (fun h => ?_)
  ·replace h := d1Y h
   have hi : i < t.n := by omega
   have ho := ht.out i hi
   have gb := b3K (regM t x t.ops.length) t.ops.length hrr (t.out.getD i 0).toNat (by omega)
   rw [<- hg0 i hi] at gb
   have hp := hev i hi
   simp -implicitDefEqProofs only [evI, hv, effC, reduceCtorEq, ↓reduceIte, n1_, n2_, n3_, n4_, n5_, i1_, i2_, i3_, i4_, i5_, i6_, i7_, gb, J6 _ hp]
   repeat with_reducible refine And.intro (by omega) ?_
   have es : s7 (g5 t.n (outG (fun j => (X7 t x).getD j []) i)) (i * 20) (ivC ((X7 t x).getD i [])) = g5 t.n (outG (fun j => (X7 t x).getD j []) (i + 1)) := by
    have := b44 (esz := 20) t.n (get := outG (fun j => (X7 t x).getD j []) i) (get' := outG (fun j => (X7 t x).getD j []) (i + 1)) (fun j hj => b3B _ _ _ (hev j hj)) (fun j hj => b3B _ _ _ (hev j hj)) i hi (fun j _ hne => by
     unfold outG
     by_cases e : j < i
     ·rw [if_pos e, if_pos (by omega)]
     ·rw [if_neg e, if_neg (by omega)])
    rw [<- this]
    unfold outG
    rw [if_pos (by omega), <- N3]
   rw [d9 (by omega) (by omega), es]
   exact ⟨c - 1, by omega, i + 1, by omega, rfl⟩
  ·replace h := d1Z h
   have e : i = t.n := by omega
   subst e
   refine evx @Nat.lt_irrefl ?_
   rw [c5m]
   refine j3 (.sl 103 0 0 t.n 20 (t.n * 20)) (fun _ h => h) (f6 (t := 4) (by decide) rfl) ?_
   unfold mdD
   rw [hel]
   exact .d (y0 (esz := 20) (fun Y q h => by simp [f8] at h) (by simp [d7]; rfl) (fun j hj => a4E _ _ (hev j hj)) rfl)
section
variable (o : OpN) (r : List Nat) (dr : List (List Nat)) (n i q : Nat)
theorem c25 (hk : o.k = 0) : Con Tryz.prog 273 [jfV, opA o, fI i, fl q, .d (N5 r dr)] (fl (slo o q r dr i)) := by
 refine a8 m7 rfl f0 ?_
 refine evx @n8.eq_1 ?_
 refine evbx hk ?_
 first | refine a0 (u6 0) rfl ?_ | refine d6 (u6 0) rfl ?_ | refine b9 (u6 0) rfl ?_
 refine ev ?_
 have e : slo o q r dr i = 0 := by simp [slo, hk]
 rw [e]
 exact b7 rfl (by decide) (by simp [look])
theorem c24 (hk : o.k = 1) : Con Tryz.prog 273 [jfV, opA o, fI i, fl q, .d (N5 r dr)] (fl (slo o q r dr i)) := by
 refine a8 m7 rfl f0 ?_
 refine evx @n8.eq_1 ?_
 refine evbx hk ?_
 by_cases hai : o.a = (i : Int)
 ·have h' : (o.a == (i : Int)) = true := by simpa using hai
  refine evx h' ?_
  first | refine a0 (u6 4607182418800017408) rfl ?_ | refine d6 (u6 4607182418800017408) rfl ?_ | refine b9 (u6 4607182418800017408) rfl ?_
  refine ev ?_
  have e : slo o q r dr i = 4607182418800017408 := by simp [slo, hk, hai, oneW]
  rw [e]
  exact b7 rfl (by decide) (by simp [look])
 ·have h' : (o.a == (i : Int)) = false := by simpa using hai
  refine evbx h' ?_
  first | refine a0 (u6 0) rfl ?_ | refine d6 (u6 0) rfl ?_ | refine b9 (u6 0) rfl ?_
  refine ev ?_
  have e : slo o q r dr i = 0 := by simp [slo, hk, hai]
  rw [e]
  exact b7 rfl (by decide) (by simp [look])
variable (ha : 0 <= o.a /\ o.a < r.length) (hb : 0 <= o.b /\ o.b < r.length) (la : (dr.getD o.a.toNat []).length = n) (lb : (dr.getD o.b.toNat []).length = n) (hi : i < n)
include ha hb la lb hi
theorem c23 (hk : o.k = 2) : Con Tryz.prog 273 [jfV, opA o, fI i, fl q, .d (N5 r dr)] (fl (slo o q r dr i)) := by
 refine a8 m7 rfl f0 ?_
 refine evx @n8.eq_1 ?_
 refine evbx (And.intro hk (And.intro @N5.eq_1 @X4.eq_1)) ?_
 refine ⟨ha, hb, by omega, by omega, ?_⟩
 first | refine a0 (z8 ((dr.getD o.a.toNat []).getD i 0) ((dr.getD o.b.toNat []).getD i 0)) rfl ?_ | refine d6 (z8 ((dr.getD o.a.toNat []).getD i 0) ((dr.getD o.b.toNat []).getD i 0)) rfl ?_ | refine b9 (z8 ((dr.getD o.a.toNat []).getD i 0) ((dr.getD o.b.toNat []).getD i 0)) rfl ?_
 refine ev ?_
 have e : slo o q r dr i = fop .add ((dr.getD o.a.toNat []).getD i 0) ((dr.getD o.b.toNat []).getD i 0) := by simp [slo, hk]
 rw [e]
 exact b7 rfl (by decide) (by simp [look])
theorem c22 (hk : o.k = 3) : Con Tryz.prog 273 [jfV, opA o, fI i, fl q, .d (N5 r dr)] (fl (slo o q r dr i)) := by
 refine a8 m7 rfl f0 ?_
 refine evx @n8.eq_1 ?_
 refine evbx (And.intro hk (And.intro @N5.eq_1 @X4.eq_1)) ?_
 refine ⟨ha, hb, by omega, by omega, ?_⟩
 first | refine a0 (z4 ((dr.getD o.a.toNat []).getD i 0) ((dr.getD o.b.toNat []).getD i 0)) rfl ?_ | refine d6 (z4 ((dr.getD o.a.toNat []).getD i 0) ((dr.getD o.b.toNat []).getD i 0)) rfl ?_ | refine b9 (z4 ((dr.getD o.a.toNat []).getD i 0) ((dr.getD o.b.toNat []).getD i 0)) rfl ?_
 refine ev ?_
 have e : slo o q r dr i = fop .sub ((dr.getD o.a.toNat []).getD i 0) ((dr.getD o.b.toNat []).getD i 0) := by simp [slo, hk]
 rw [e]
 exact b7 rfl (by decide) (by simp [look])
theorem c21 (hk : o.k = 4) : Con Tryz.prog 273 [jfV, opA o, fI i, fl q, .d (N5 r dr)] (fl (slo o q r dr i)) := by
 refine a8 m7 rfl f0 ?_
 refine evx @n8.eq_1 ?_
 refine evbx (And.intro hk (And.intro @N5.eq_1 @X4.eq_1)) ?_
 refine ⟨ha, hb, by omega, ?_⟩
 first | refine a0 (u5 ((dr.getD o.a.toNat []).getD i 0) (r.getD o.b.toNat 0)) rfl ?_ | refine d6 (u5 ((dr.getD o.a.toNat []).getD i 0) (r.getD o.b.toNat 0)) rfl ?_ | refine b9 (u5 ((dr.getD o.a.toNat []).getD i 0) (r.getD o.b.toNat 0)) rfl ?_
 refine ev ?_
 repeat with_reducible refine And.intro (by omega) ?_
 first | refine a0 (u5 (r.getD o.a.toNat 0) ((dr.getD o.b.toNat []).getD i 0)) rfl ?_ | refine d6 (u5 (r.getD o.a.toNat 0) ((dr.getD o.b.toNat []).getD i 0)) rfl ?_ | refine b9 (u5 (r.getD o.a.toNat 0) ((dr.getD o.b.toNat []).getD i 0)) rfl ?_
 refine ev ?_
 first | refine a0 (z8 (fop .mul ((dr.getD o.a.toNat []).getD i 0) (r.getD o.b.toNat 0)) (fop .mul (r.getD o.a.toNat 0) ((dr.getD o.b.toNat []).getD i 0))) rfl ?_ | refine d6 (z8 (fop .mul ((dr.getD o.a.toNat []).getD i 0) (r.getD o.b.toNat 0)) (fop .mul (r.getD o.a.toNat 0) ((dr.getD o.b.toNat []).getD i 0))) rfl ?_ | refine b9 (z8 (fop .mul ((dr.getD o.a.toNat []).getD i 0) (r.getD o.b.toNat 0)) (fop .mul (r.getD o.a.toNat 0) ((dr.getD o.b.toNat []).getD i 0))) rfl ?_
 refine ev ?_
 have e : slo o q r dr i = fop .add (fop .mul ((dr.getD o.a.toNat []).getD i 0) (r.getD o.b.toNat 0)) (fop .mul (r.getD o.a.toNat 0) ((dr.getD o.b.toNat []).getD i 0)) := by simp [slo, hk]
 rw [e]
 exact b7 rfl (by decide) (by simp [look])
theorem c20 (hk : o.k = 5) : Con Tryz.prog 273 [jfV, opA o, fI i, fl q, .d (N5 r dr)] (fl (slo o q r dr i)) := by
 refine a8 m7 rfl f0 ?_
 refine evx @n8.eq_1 ?_
 refine evbx (And.intro hk (And.intro @N5.eq_1 @X4.eq_1)) ?_
 refine ⟨ha, hb, by omega, by omega, ?_⟩
 first | refine a0 (u5 q ((dr.getD o.b.toNat []).getD i 0)) rfl ?_ | refine d6 (u5 q ((dr.getD o.b.toNat []).getD i 0)) rfl ?_ | refine b9 (u5 q ((dr.getD o.b.toNat []).getD i 0)) rfl ?_
 refine ev ?_
 first | refine a0 (z4 ((dr.getD o.a.toNat []).getD i 0) (fop .mul q ((dr.getD o.b.toNat []).getD i 0))) rfl ?_ | refine d6 (z4 ((dr.getD o.a.toNat []).getD i 0) (fop .mul q ((dr.getD o.b.toNat []).getD i 0))) rfl ?_ | refine b9 (z4 ((dr.getD o.a.toNat []).getD i 0) (fop .mul q ((dr.getD o.b.toNat []).getD i 0))) rfl ?_
 refine ev ?_
 first | refine a0 (G7 (fop .sub ((dr.getD o.a.toNat []).getD i 0) (fop .mul q ((dr.getD o.b.toNat []).getD i 0))) (r.getD o.b.toNat 0)) rfl ?_ | refine d6 (G7 (fop .sub ((dr.getD o.a.toNat []).getD i 0) (fop .mul q ((dr.getD o.b.toNat []).getD i 0))) (r.getD o.b.toNat 0)) rfl ?_ | refine b9 (G7 (fop .sub ((dr.getD o.a.toNat []).getD i 0) (fop .mul q ((dr.getD o.b.toNat []).getD i 0))) (r.getD o.b.toNat 0)) rfl ?_
 refine ev ?_
 have e : slo o q r dr i = fop .div (fop .sub ((dr.getD o.a.toNat []).getD i 0) (fop .mul q ((dr.getD o.b.toNat []).getD i 0))) (r.getD o.b.toNat 0) := by simp [slo, hk]
 rw [e]
 exact b7 rfl (by decide) (by simp [look])
end
theorem c0q (o : OpN) (r : List Nat) (dr : List (List Nat)) (n i q : Nat) (ho : Oko o r.length n) (hdr : ∀ j, j < r.length -> (dr.getD j []).length = n) (hi : i < n) : Con Tryz.prog 273 [jfV, opA o, fI i, fl q, .d (N5 r dr)] (fl (slo o q r dr i)) := by
 rcases ho with hk | ⟨hk, ha⟩ | ⟨hk, ha, hb⟩
 ·exact c25 o r dr i q hk
 ·exact c24 o r dr i q hk
 ·have la := hdr o.a.toNat (by omega)
  have lb := hdr o.b.toNat (by omega)
  rcases hk with hk | hk | hk | hk
  ·exact c23 o r dr n i q ha hb la lb hi hk
  ·exact c22 o r dr n i q ha hb la lb hi hk
  ·exact c21 o r dr n i q ha hb la lb hi hk
  ·exact c20 o r dr n i q ha hb la lb hi hk
theorem a9z (r : List Nat) (dr : List (List Nat)) (i : Nat) : (X4 r dr i).length = 2 := rfl
theorem c1X (t : Tp) (x : List Nat) (i : Nat) : g5 (i + 1) (X4 (regs t x (i + 1)) (drs t x (i + 1))) = g5 i (X4 (regs t x i) (drs t x i)) ++ [fl ((regs t x (i + 1)).getD i 0), .d (rowD ((drs t x (i + 1)).getD i []))] := by
 rw [D4]
 have h1 := Y5 t x i
 have h2 := a98 t x i
 have e : g5 i (X4 (regs t x (i + 1)) (drs t x (i + 1))) = g5 i (X4 (regs t x i) (drs t x i)) := by
  unfold g5
  rw [a2r fun j hj => ?_]
  have a : (regs t x (i + 1)).getD j 0 = (regs t x i).getD j 0 := by
   rw [regs, d10, d12 (by omega), <- d10]
  have b : (drs t x (i + 1)).getD j [] = (drs t x i).getD j [] := by
   rw [drs, d10, d12 (by omega), <- d10]
  simp only [X4, a, b]
 rw [e]; rfl
theorem c1Y (t : Tp) (x : List Nat) (i : Nat) : (regs t x (i + 1)).getD i 0 = opV (t.ops.getD i ⟨0, 0, 0, 0⟩) x (regs t x i) := by
 have h1 := Y5 t x i
 rw [regs, d10, d13 (by omega), h1, Nat.sub_self]; rfl
theorem c6c (t : Tp) (x : List Nat) (i : Nat) : (drs t x (i + 1)).getD i [] = tabR (slo (t.ops.getD i ⟨0, 0, 0, 0⟩) (opV (t.ops.getD i ⟨0, 0, 0, 0⟩) x (regs t x i)) (regs t x i) (drs t x i)) t.n := by
 have h1 := a98 t x i
 rw [drs, d10, d13 (by omega), h1, Nat.sub_self]; rfl
abbrev jtT (t : Tp) : List V := [fI t.n, .d (opsD t.ops), .d (rowI t.out)]
abbrev jfC : List V := [.d (.fn 267 [] []), .d (.fn 268 [] []), .d (.fn 269 [] []), .d (.fn 270 [] []), .d (.fn 271 [] [])]
abbrev jR (t : Tp) (x : List Nat) (i : Nat) : T := ⟨[(2, .d (rowD x)), (3, .ptr 0 0 0 5), (4, .ptr 1 0 0 3), (7, .sl 10 0 0 i 2 (i * 2)), (16, .d (opsD t.ops)), (17, fI t.ops.length), (18, fI i)],
 [(10, [g5 i (X4 (regs t x i) (drs t x i))]), (1, [jtT t]), (0, [jfC])]⟩
abbrev opC (o : OpN) : List V := [fI o.k, fI o.a, fI o.b, fl o.c]
abbrev jS1 (t : Tp) (x : List Nat) (i k : Nat) : Sl := [(2, .d (rowD x)), (3, .ptr 0 0 0 5), (4, .ptr 1 0 0 3), (7, .sl 10 0 0 i 2 (i * 2)), (9, .ptr 13 0 0 4), (10, .ptr 20 0 0 2), (16, .d (opsD t.ops)), (17, fI t.ops.length), (18, fI i), (29, fI t.n), (30, fI k)]
abbrev jH1 (t : Tp) (x : List Nat) (i : Nat) (o : OpN) : Heap := [(13, [opC o]), (10, [g5 i (X4 (regs t x i) (drs t x i))]), (1, [jtT t]), (0, [jfC])]
abbrev jT0 (t : Tp) (x : List Nat) (i : Nat) (o : OpN) (v : Nat) : T := ⟨jS1 t x i 0, (20, [[fl v, .nil]]) :: jH1 t x i o⟩
abbrev jT1 (t : Tp) (x : List Nat) (i : Nat) (o : OpN) (v : Nat) (f : Nat -> Nat) (k : Nat) : T := ⟨jS1 t x i k, (15, [rowV (tabR f k)]) :: (20, [[fl v, .sl 15 0 0 k 1 k]]) :: jH1 t x i o⟩
theorem c8v (t : Tp) (x : List Nat) (i : Nat) (o : OpN) (v : Nat) (f : Nat -> Nat) (hn : t.n < 2 ^ 20) (hn0 : 0 < t.n) (hi : i < 2 ^ 40) (hop : Oko o i t.n) (hf : f = slo o v (regs t x i) (drs t x i)) (Q : Ex -> T -> Prop)
  (hQ : Q (.exit 2) ⟨[(2, .d (rowD x)), (3, .ptr 0 0 0 5), (4, .ptr 1 0 0 3), (7, .sl 10 0 0 i 2 (i * 2)), (9, .ptr 13 0 0 4), (10, .ptr 20 0 0 2), (16, .d (opsD t.ops)), (17, fI t.ops.length), (18, fI i), (29, fI t.n), (30, fI t.n), (31, fB false)],
   (15, [rowV (tabR f t.n)]) :: (20, [[fl v, .sl 15 0 0 t.n 1 t.n]]) :: jH1 t x i o⟩) :
  WA Tryz.prog (fun _ => False) 73 A_jac_kind_float64_run_L1.loop Q (jT0 t x i o v) := by
 have hl := Y5 t x i
 have hdl := a98 t x i
 have hrow := b39 t x i
 have hcl := t8 i (fun j _ => a9z (regs t x i) (drs t x i) j)
 have hcon : ∀ k, k < t.n -> Con Tryz.prog 273 [jfV, opA o, fI k, fl v, .d (N5 (regs t x i) (drs t x i))] (fl (f k)) := fun k hk => by
  rw [hf]; exact c0q o _ _ t.n k v (by rw [hl]; exact hop) (fun j hj => hrow j (by omega)) hk
 clear hf hrow
 refine j4 (n := t.n) (fun c s => ∃ k, c + k = t.n /\ ((k = 0 /\ s = jT0 t x i o v) \/ (0 < k /\ s = jT1 t x i o v f k))) (Le.refl _) ⟨0, by omega, .inl ⟨rfl, rfl⟩⟩ ?_
 rintro c s ⟨k, hc, ⟨rfl, rfl⟩ | ⟨hk, rfl⟩⟩
 ·refine evx @A_jac_kind_float64_run_L1.eq_1 ?_
  have h0 : decide ((0 : Int) < (t.n : Int)) = true := by simpa using hn0
  refine evx h0 ?_
  refine a1u [jfV, opA o, fI (0 : Nat), fl v, .d (N5 (regs t x i) (drs t x i))] (hcon 0 hn0) ⟨.aggs ⟨.bare _, .bare _, .bare _, .bare _, .bare _, trivial⟩, .aggs ⟨.bare _, .bare _, .bare _, .bare _, trivial⟩, .bare _, .bare _, ?_, trivial⟩ (.flt _) ?_
  ·have e : N5 (regs t x i) (drs t x i) = .bor i (X4 (regs t x i) (drs t x i)) := by unfold N5; rw [hl]
   rw [e]
   exact a3p (by simp [a92, d7, f8]) (fun j _ => rfl) rfl
  refine ev ?_
  refine ⟨c - 1, jT1 t x i o v f 1, by omega, ?_, 1, by omega, .inr ⟨by decide, rfl⟩⟩
  refine Le.trans (LeT.only (L' := (31, [[fl (f 0)]]) :: (20, [[fl v, .sl 31 0 0 1 1 1]]) :: jH1 t x i o) (fun X => X != 30) (fun _ h => h) rfl (by simp [kpS]) (by simp [kpS])) ?_
  refine Le.trans (LeT.move 15 (by decide) (by simp [d5, d8]) (by simp [d5, d8]) (fun h => h)) ?_
  have e1 : renS (absF 31 15 0) (jS1 t x i 1) = jS1 t x i 1 := by simp [renS, V.ren, absF]
  have e2 : Heap.renH (absF 31 15 0) ((20, [[fl v, .sl 31 0 0 1 1 1]]) :: jH1 t x i o) = (20, [[fl v, .sl 15 0 0 1 1 1]]) :: jH1 t x i o := by
   simp [Heap.renH, V.ren, absF, b2f]
  have e3 : [fl (f 0)].map (V.ren (absF 31 15 0)) = rowV (tabR f 1) := by simp [V.ren, tabR, rowV]
  rw [e2, e3]
  exact (congrArg (fun z => Le (fun _ => False) (T.s 73 ⟨z, (jT1 t x i o v f 1).L⟩) (T.s 73 (jT1 t x i o v f 1))) e1).mpr (Le.refl _)
 ·have hrl := j9 f k
  refine evx @A_jac_kind_float64_run_L1.eq_1 ?_
  refine a9 (fun h => ?_) (fun h => ?_)
  ·replace h := d1Y h
   refine ev ?_
   refine a1u [jfV, opA o, fI k, fl v, .d (N5 (regs t x i) (drs t x i))] (hcon k h) ⟨.aggs ⟨.bare _, .bare _, .bare _, .bare _, .bare _, trivial⟩, .aggs ⟨.bare _, .bare _, .bare _, .bare _, trivial⟩, .bare _, .bare _, ?_, trivial⟩ (.flt _) ?_
   ·have e : N5 (regs t x i) (drs t x i) = .bor i (X4 (regs t x i) (drs t x i)) := by unfold N5; rw [hl]
    rw [e]
    exact a3p (by simp [a92, d7, f8]) (fun j _ => rfl) rfl
   refine ev ?_
   repeat with_reducible refine And.intro (by omega) ?_
   have e1 : rowV (tabR f k) ++ [fl (f k)] = rowV (tabR f (k + 1)) := (H5 f k).symm
   rw [d9 (by omega) (by omega), e1]
   exact ⟨c - 1, _, by omega, LeT.only (fun X => decide (X <= 20)) (fun _ h => h) rfl (by simp [kpS]) (by simp [kpS]), k + 1, by omega, .inr ⟨by omega, rfl⟩⟩
  ·replace h := d1Z h
   have e : k = t.n := by omega
   subst e
   refine evx @Nat.lt_irrefl ?_
   exact hQ
def jacG (t : Tp) (x : List Nat) (i : Nat) : D := rowD ((jacT t x).getD i [])
theorem c8u (t : Tp) (x : List Nat) (ht : Tok t) (hx : x.length = t.n) (hn0 : 0 < t.n) : AC Tryz.prog 260 [jfV, Q2 t, .d (rowD x)] [] [(13, [g5 t.n (a1f (jacT t x))])] (.sl 13 0 0 t.n 1 t.n) := by
 have hn := ht.n
 have hlen := ht.len
 refine k6 V9 rfl f0 (fun _ => False) (by simp [f8]) ?_
 refine evx (And.intro @L6.eq_1 @opsD.eq_1) ?_
 refine j4 (n := t.ops.length) (fun c s => ∃ i, c + i = t.ops.length /\ s = jR t x i)
  (LeT.nilrow (X := 10) (esz := 2) (as' := (jR t x 0).sl) (by simp [d5, d8]) (fun h => h) fun i => ?_) ⟨0, by omega, rfl⟩ ?_
 ·simp only [look]
  repeat' split
  all_goals simp [rowD, opsD]
 rintro c s ⟨i, hc, rfl⟩
 have hl := Y5 t x i
 have hdl := a98 t x i
 have hcl := t8 i (fun j _ => a9z (regs t x i) (drs t x i) j)
 refine evx (And.intro @F4.eq_1 @opsD.eq_1) ?_
 refine a9 (fun h => ?_) (fun h => ?_)
 ·replace h := d1Y h
  have hop := ht.op i h
  have hra := c1Y t x i
  have hda := c6c t x i
  generalize ho : t.ops.getD i ⟨0, 0, 0, 0⟩ = o at hop hra hda
  refine evx (And.intro @opG.eq_1 ho) ?_
  repeat with_reducible refine And.intro (by omega) ?_
  refine v9 [jfV, opA o, .d (rowD x), .d (N5 (regs t x i) (drs t x i))] (c0p o x (regs t x i) (drs t x i) t.n (by rw [hl]; exact hop) hx) ⟨.aggs ⟨.bare _, .bare _, .bare _, .bare _, .bare _, trivial⟩, .aggs ⟨.bare _, .bare _, .bare _, .bare _, trivial⟩, .bare _, ?_, trivial⟩ (.flt _) ?_
  ·have e : N5 (regs t x i) (drs t x i) = .bor i (X4 (regs t x i) (drs t x i)) := by unfold N5; rw [hl]
   rw [e]
   exact a3p (by simp [d7, f8]) (fun j _ => rfl) rfl
  refine ev ?_
  have hr1 := c1X t x i
  rw [hra, hda] at hr1
  generalize hv1 : opV o x (regs t x i) = v at hr1
  refine c8v t x i o v _ ht.n hn0 (by omega) hop rfl _ ?_
  generalize slo o v (regs t x i) (drs t x i) = f at hr1
  have hfl := j9 f t.n
  refine ev ?_
  repeat with_reducible refine And.intro (by omega) ?_
  have e2 : i * 2 + 2 = (i + 1) * 2 := by omega
  rw [d9 (by omega) (by omega), e2]
  have hz : ∀ L L' : Heap, L.get 15 0 = some (rowV (tabR f t.n)) -> L'.get 15 0 = none -> Fz L L' (.sl 15 0 0 t.n 1 t.n) (.d (rowD (tabR f t.n))) := fun L L' a b => b0r a hfl rfl b
  refine ⟨c - 1, jR t x (i + 1), by omega, ?_, i + 1, by omega, rfl⟩
  unfold jR
  rw [hr1]
  exact LeT.weak (fun _ h => h) (by simp (maxDischargeDepth := 6) [fzS]) (by simp (maxDischargeDepth := 6) [fzS, hz])
 ·replace h := d1Z h
  have e : i = t.ops.length := by omega
  subst e
  refine ev ?_
  repeat with_reducible refine And.intro (by omega) ?_
  rw [b5v t.n (jacG t x)]
  have hgl := ht.outl
  refine j4 (n := t.n) (fun c s => ∃ i, c + i = t.n /\ s = ⟨[(7, .sl 10 0 0 t.ops.length 2 (t.ops.length * 2)), (12, .sl 13 0 0 t.n 1 t.n), (55, .d (rowI t.out)), (56, fI t.n), (57, fI i)],
   [(13, [outC t.n (jacG t x) i]), (10, [g5 t.ops.length (X4 (regs t x t.ops.length) (drs t x t.ops.length))]), (1, [jtT t]), (0, [jfC])]⟩) (by rw [<- hgl]; exact Le.refl _) ⟨0, by omega, rfl⟩ ?_
  rintro c s ⟨i, hc, rfl⟩
  have hol := a5B t.n (jacG t x) i
  refine evx @F3.eq_1 ?_
  refine a9 (fun h => ?_) (fun h => ?_)
  ·replace h := d1Y h
   have hgo := ht.out i h
   have hjr : (jacT t x).getD i [] = (drs t x t.ops.length).getD (t.out.getD i 0).toNat [] := by
    unfold jacT
    rw [d10, List.getElem?_map, List.getElem?_range h]; rfl
   have hjl : ((jacT t x).getD i []).length = t.n := by rw [hjr]; exact b39 t x _ _ (by omega)
   have hcg := G9 t.ops.length (fun j _ => a9z (regs t x t.ops.length) (drs t x t.ops.length) j) (t.out.getD i 0).toNat 1 (by omega) (by decide)
   have hg2 : (X4 (regs t x t.ops.length) (drs t x t.ops.length) (t.out.getD i 0).toNat).getD 1 default = rowD ((jacT t x).getD i []) := by rw [hjr]; rfl
   rw [hg2] at hcg
   refine evx hcg ?_
   refine ⟨by omega, by omega, ⟨hcl, by omega⟩, ?_⟩
   refine ⟨by omega, h, ⟨hol, by omega⟩, ?_⟩
   rw [hjl, d9 (by omega) (by omega)]
   have hz : ∀ L L' : Heap, L.get 21 0 = some (rowV ((jacT t x).getD i [])) -> L'.get 21 0 = none -> Fz L L' (.sl 21 0 0 t.n 1 t.n) (.d (jacG t x i)) := fun L L' a b => b0r a hjl rfl b
   refine ⟨c - 1, _, by omega, ?_, i + 1, by omega, rfl⟩
   exact LeT.weak (fun _ h => h) (by simp (maxDischargeDepth := 6) [fzS]) (by simp (maxDischargeDepth := 6) [fzS, hz, a7T])
  ·replace h := d1Z h
   have e : i = t.n := by omega
   subst e
   refine ev ?_
   rw [b8z]
   exact k8 (fun X => X == 13) (fun _ h => h) (f6 (t := 6) (by decide) rfl) rfl (by simp [kpS]) (by simp [kpS])
theorem b8M (t : Tp) (x : List Nat) : (jacT t x).length = t.n := by simp [jacT]
theorem b3T (t : Tp) (x : List Nat) (ht : Tok t) (hx : x.length = t.n) (hn0 : 0 < t.n) : Con Tryz.prog 260 [jfV, Q2 t, .d (rowD x)] (.d (f9 (jacT t x))) :=
 a0L (c8u t x ht hx hn0) (.d (by unfold f9; rw [b8M]; exact y0 (esz := 1) (fun Y q h => by simp [f8] at h) (by simp [d7]) (fun _ _ => rfl) (by omega)))
theorem a4J (t : Tp) (x : List Nat) (ht : Tok t) (hx : x.length = t.n) (hn0 : 0 < t.n) : Con Tryz.prog 231 [Q2 t, .d (rowD x)] (.d (f9 (jacT t x))) := by
 refine a8 b1V rfl f0 ?_
 refine evx @b6w.eq_1 ?_
 first | refine a0 (a4H) rfl ?_ | refine d6 (a4H) rfl ?_ | refine b9 (a4H) rfl ?_
 refine ev ?_
 first | refine a0 (b3T t x ht hx hn0) rfl ?_ | refine d6 (b3T t x ht hx hn0) rfl ?_ | refine b9 (b3T t x ht hx hn0) rfl ?_
 refine ev ?_
 exact b7 rfl (by decide) (by simp [look])
end Go.Ab
