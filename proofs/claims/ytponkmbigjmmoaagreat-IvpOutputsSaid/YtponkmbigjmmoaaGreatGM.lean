import Derived.Test.YtponkmbigjmmoaaGreatGL
set_option linter.unusedSimpArgs false
set_option linter.unusedVariables false
set_option maxRecDepth 8000
namespace Go.Ab
open Nat renaming reduceEqDiff -> n1_, reduceAdd -> n2_, reduceMul -> n3_, reduceLT -> n4_, reduceLeDiff -> n5_
open Int renaming reduceToNat -> i1_, reduceAdd -> i2_, reduceSub -> i3_, reduceMul -> i4_, reduceNeg -> i5_, reduceLT -> i6_, reduceLE -> i7_
open Go Go.Proofs
def a6D : CA := (.seq (.reg [i_X 0 2 (.alloc [fl 0, fl 0] 83)] [0, 2]) (.seq (.reg [i_M 0 3 0, i_M 1 4 0, i_X 2 5 (.h (.build [fl 0, fl 0] [(0, (1, (.t 3))), (1, (1, (.t 4)))])), i_S 3 2 5 2] [2]) .ret))
theorem a6C : f7 Tryz.prog 238 = some ⟨6, [(2, (some (2, true)))], a6D.strip⟩ := by kernel_rfl
def a6B : CA := (.seq (.reg [i_X 0 2 (.alloc [fl 0, fl 0] 83)] [0, 2]) (.seq (.seq (.reg [i_M 0 3 0, i_B 1 4 .rem 3 2, i_B 2 5 .eql 4 0] [2, 5]) (.cond (.t 5) (.seq (.reg [i_X 0 6 (.h (.build [fl 0, fl 0] [(0, (1, (.k (.d (.flt 0))))), (1, (1, (.k (.d (.flt 4607182418800017408)))))])), i_S 1 2 6 2] [2]) .ret) .skip)) (.seq (.reg [i_X 0 7 (.h (.build [fl 0, fl 0] [(0, (1, (.k (.d (.flt 13830554455654793216))))), (1, (1, (.k (.d (.flt 0)))))])), i_S 1 2 7 2] [2]) .ret)))
theorem a6A : f7 Tryz.prog 262 = some ⟨8, [(2, (some (2, true)))], a6B.strip⟩ := by kernel_rfl
def a05 : CA := (.seq (.reg [i_B 0 4 .lss 3 9] [0, 1, 3, 4]) (.seq (.cond (.t 4) .skip (.exit 0)) (.seq (.block 1 (.seq (.reg [i_M 0 5 3, i_M 1 2 5] [0, 1, 2, 3]) (.reg [i_M 0 6 2, i_M 1 7 2, i_X 2 8 (.callA (kF 262) [(.t 7)]), i_X 3 9 (.h (.idxa (.t 1) (.t 6) 9 2)), i_S 4 9 8 2] [0, 1, 3]))) (.reg [i_B 0 10 .add 3 1, i_M 1 3 10] [0, 1, 3]))))
def a4p : CA := (.seq (.reg [i_X 0 0 (.alloc z_18 261)] [0]) (.seq (.reg [i_X 0 1 (.alloc z_18 261)] [0, 1]) (.seq (.seq (.reg [i_K 0 3 0] [0, 1, 3]) (.block 0 (.loop a05))) (.seq (.reg [i_A 0 11 1 18, i_S 1 0 11 18] [0]) .ret))))
theorem a5c : f7 Tryz.prog 264 = some ⟨12, [(0, (some (18, true)))], a4p.strip⟩ := by kernel_rfl
def a1M : CA := (.seq (.reg [i_B 0 8 .lss 7 9] [0, 2, 3, 7, 8]) (.seq (.cond (.t 8) .skip (.exit 0)) (.seq (.block 1 (.seq (.reg [i_M 0 9 7, i_M 1 4 9] [0, 2, 3, 4, 7]) (.seq (.reg [i_M 0 10 4, i_X 1 11 (.callA (kF 238) [(.k (.d (.flt 0)))]), i_P 2 12 3 0, i_X 3 13 (.h (.idxa (.t 12) (.t 10) 9 2)), i_S 4 13 11 2] [0, 2, 3, 4, 7]) (.seq (.reg [i_M 0 14 4, i_M 1 15 0, i_X 2 16 (.h (.len (.t 15))), i_N 3 17 .lss 14 16] [0, 2, 3, 4, 7, 17]) (.cond (.t 17) (.reg [i_M 0 18 4, i_M 1 19 0, i_M 2 20 4, i_I 3 21 19 20 1, i_L 4 22 21 1, i_X 5 23 (.callA (kF 238) [(.t 22)]), i_P 6 24 3 0, i_X 7 25 (.h (.idxa (.t 24) (.t 18) 9 2)), i_S 8 25 23 2] [0, 2, 3, 7]) .skip))))) (.reg [i_B 0 26 .add 7 1, i_M 1 7 26] [0, 2, 3, 7]))))
def a7s : CA := (.seq (.reg [i_X 0 2 (.alloc z_20 123)] [0, 2]) (.seq (.reg [i_X 0 5 (.callA (kF 238) [(.k (.d (.flt 0)))]), i_X 1 6 (.h (.build z_20 [(18, (2, (.t 5)))])), i_X 2 3 (.alloc z_20 123), i_S 3 3 6 20] [0, 2, 3]) (.seq (.seq (.reg [i_K 0 7 0] [0, 2, 3, 7]) (.block 0 (.loop a1M))) (.seq (.reg [i_A 0 27 3 20, i_S 1 2 27 20] [2]) .ret))))
theorem a27 : f7 Tryz.prog 187 = some ⟨28, [(2, (some (20, true)))], a7s.strip⟩ := by kernel_rfl
def a25 : CA := (.seq (.seq (.reg [i_M 0 9 5, i_B 1 10 .leq 9 8] [1, 2, 3, 4, 5, 10]) (.cond (.t 10) .skip (.exit 0))) (.seq (.block 1 (.reg [i_A 0 13 4 2, i_M 1 14 5, i_X 2 15 (.h (.idxa (.t 1) (.t 14) 9 2)), i_A 3 16 15 2, i_M 4 17 5, i_X 5 18 (.h (.idxa (.t 3) (.t 17) 9 2)), i_A 6 19 18 2, i_X 7 20 (.callS 7 (kF 208) [(.t 16), (.t 19)]), i_X 8 21 (.callA (kF 200) [(.t 13), (.t 20)]), i_S 9 4 21 2] [1, 2, 3, 4, 5])) (.reg [i_M 0 11 5, i_B 1 12 .add 11 1, i_M 2 5 12] [1, 2, 3, 4, 5])))
def a8g : CA := (.seq (.reg [i_X 0 1 (.box (.t 0) 18 261), i_X 1 2 (.alloc [fl 0, fl 0] 83)] [1, 2]) (.seq (.reg [i_X 0 6 (.callA (kF 264) []), i_X 1 3 (.alloc z_18 261), i_S 2 3 6 18] [1, 2, 3]) (.seq (.reg [i_X 0 7 (.h (.idxa (.t 1) (kI 0) 9 2)), i_A 1 8 7 2, i_X 2 4 (.alloc [fl 0, fl 0] 83), i_S 3 4 8 2] [1, 2, 3, 4]) (.seq (.seq (.reg [i_K 0 5 1] [1, 2, 3, 4, 5]) (.block 0 (.loop a25))) (.seq (.reg [i_A 0 22 4 2, i_S 1 2 22 2] [2]) .ret)))))
theorem a7p : f7 Tryz.prog 246 = some ⟨23, [(2, (some (2, true)))], a8g.strip⟩ := by kernel_rfl
def a6F : CA := (.seq (.reg [i_X 0 1 (.box (.t 0) 20 123), i_X 1 2 (.alloc [fl 0, fl 0] 83)] [1, 2]) (.seq (.reg [i_P 0 3 1 0, i_A 1 4 3 18, i_X 2 5 (.callS 0 (kF 246) [(.t 4)]), i_P 3 6 1 18, i_A 4 7 6 2, i_X 5 8 (.callA (kF 200) [(.t 5), (.t 7)]), i_S 6 2 8 2] [2]) .ret))
theorem a6E : f7 Tryz.prog 198 = some ⟨9, [(2, (some (2, true)))], a6F.strip⟩ := by kernel_rfl
def a26 : CA := (.seq (.reg [i_B 0 10 .lss 9 9] [2, 3, 4, 6, 7, 9, 10]) (.seq (.cond (.t 10) .skip (.exit 0)) (.seq (.block 1 (.seq (.reg [i_M 0 11 9, i_M 1 8 11] [2, 3, 4, 6, 7, 8, 9]) (.reg [i_M 0 12 8, i_M 1 13 2, i_M 2 14 8, i_P 3 15 3 0, i_X 4 16 (.h (.idxa (.t 15) (.t 14) 9 2)), i_A 5 17 16 2, i_M 6 18 8, i_P 7 19 4 0, i_X 8 20 (.h (.idxa (.t 19) (.t 18) 9 2)), i_A 9 21 20 2, i_X 10 22 (.callA (.t 13) [(.t 17), (.t 21)]), i_P 11 23 7 0, i_X 12 24 (.h (.idxa (.t 23) (.t 12) 9 2)), i_S 13 24 22 2] [2, 3, 4, 6, 7, 9]))) (.reg [i_B 0 25 .add 9 1, i_M 1 9 25] [2, 3, 4, 6, 7, 9]))))
def a8k : CA := (.seq (.reg [i_X 0 3 (.box (.t 0) 20 123), i_X 1 4 (.box (.t 1) 20 123), i_X 2 6 (.alloc z_20 123)] [2, 3, 4, 6]) (.seq (.reg [i_X 0 7 (.alloc z_20 123)] [2, 3, 4, 6, 7]) (.seq (.seq (.reg [i_K 0 9 0] [2, 3, 4, 6, 7, 9]) (.block 0 (.loop a26))) (.seq (.reg [i_M 0 26 2, i_P 1 27 3 18, i_A 2 28 27 2, i_P 3 29 4 18, i_A 4 30 29 2, i_X 5 31 (.callA (.t 26) [(.t 28), (.t 30)]), i_P 6 32 7 18, i_S 7 32 31 2] [6, 7]) (.seq (.reg [i_A 0 33 7 20, i_S 1 6 33 20] [6]) .ret)))))
theorem a7r : f7 Tryz.prog 245 = some ⟨34, [(6, (some (20, true)))], a8k.strip⟩ := by kernel_rfl
def b0Z : CA := (.seq (.reg [i_X 0 2 (.box (.t 0) 20 123), i_X 1 3 (.box (.t 1) 20 123), i_X 2 4 (.alloc z_20 123)] [2, 3, 4]) (.seq (.reg [i_A 0 5 2 20, i_A 1 6 3 20, i_X 2 7 (.callA (kF 245) [(.t 5), (.t 6), (kF 200)]), i_S 3 4 7 20] [4]) .ret))
theorem a83 : f7 Tryz.prog 241 = some ⟨8, [(4, (some (20, true)))], b0Z.strip⟩ := by kernel_rfl
def b0W : CA := (.seq (.reg [i_X 0 2 (.box (.t 0) 20 123), i_X 1 3 (.box (.t 1) 20 123), i_X 2 4 (.alloc z_20 123)] [2, 3, 4]) (.seq (.reg [i_A 0 5 2 20, i_A 1 6 3 20, i_X 2 7 (.callA (kF 245) [(.t 5), (.t 6), (kF 190)]), i_S 3 4 7 20] [4]) .ret))
theorem a80 : f7 Tryz.prog 196 = some ⟨8, [(4, (some (20, true)))], b0W.strip⟩ := by kernel_rfl
def a8j : CA := (.seq (.reg [i_X 0 0 (.alloc z_20 123)] [0]) (.seq (.reg [i_X 0 2 (.callA (kF 187) [(.k .nil)]), i_X 1 1 (.alloc z_20 123), i_S 2 1 2 20] [0, 1]) (.seq (.reg [i_X 0 3 (.callA (kF 87) [(.k (.d (.int .i64 (-1))))]), i_X 1 4 (.callA (kF 87) [(kI 1)]), i_X 2 5 (.callA (kF 201) [(.t 3), (.t 4)]), i_P 3 6 1 18, i_S 4 6 5 2] [0, 1]) (.seq (.reg [i_A 0 7 1 20, i_S 1 0 7 20] [0]) .ret))))
theorem a7q : f7 Tryz.prog 263 = some ⟨8, [(0, (some (20, true)))], a8j.strip⟩ := by kernel_rfl
def filI (f z : Nat -> Iv) (n i : Nat) : List Iv := (List.range n).map λj => if j < i then f j else z j
theorem a1D (f z : Nat -> Iv) (n i : Nat) : (filI f z n i).length = n := by simp [filI]
theorem a0f (f z : Nat -> Iv) (n i : Nat) (p : Iv) (hp : p = f i) : (filI f z n i).set i p = filI f z n (i + 1) := by
 subst hp
 refine List.ext_getElem (by simp [filI]) λj h1 h2 => ?_
 simp only [filI, List.getElem_set, List.getElem_map, List.getElem_range]
 by_cases e : i = j
 ·subst e; rw [if_pos rfl, if_pos (by omega)]
 ·rw [if_neg e]
  by_cases h : j < i
  ·rw [if_pos h, if_pos (by omega)]
  ·rw [if_neg h, if_neg (by omega)]
theorem b9f (f z : Nat -> Iv) (n : Nat) : filI f z n n = tabI f n := by
 refine List.ext_getElem (by simp [filI, tabI]) λj h1 h2 => ?_
 have : j < n := by simpa [filI] using h1
 simp [filI, tabI, this]
theorem b4j (f z : Nat -> Iv) (n i j : Nat) (h : j < n) : mG (filI f z n i) j = if j < i then f j else z j := by
 simp [mG, filI, d2d, h]
theorem K6 (ps : List Iv) (i a b : Nat) (h : i < ps.length) : ((ivC ps).set (i * 2) (fl a)).set (i * 2 + 1) (fl b) = ivC (ps.set i (a, b)) := c8M ps i a b h
theorem b1K (m : Md) (h : m.length = 10) : ((ivC m).drop 18).take 2 = [fl (mG m 9).1, fl (mG m 9).2] := H1 m 9 (by omega)
theorem c56 (m : Md) (h : 0 < m.length) : (ivC m).take 2 = [fl (mG m 0).1, fl (mG m 0).2] := H1 m 0 h
theorem c7f (m : Md) (h : m.length = 10) : (ivC m).take 18 = ivC (m.take 9) := by
 match m, h with
 | [a, b, c, d, e, f, g, h, i, j], _ => rfl
theorem C7 (m : Md) (h : m.length = 10) : (ivC m).take 20 = ivC m := d2r (by rw [j9]; omega)
theorem a9t (ps : List Iv) (n : Nat) (h : ps.length * 2 = n) : (ivC ps).take n = ivC ps := d2r (by rw [j9]; omega)
theorem j4 (ps : List Iv) : (V.agg (ivC ps)).bareB = true := by
 rw [V.bareB, P5, List.all_map]
 exact List.all_eq_true.2 λx _ => rfl
theorem r4 (x : D) : (V.d x).bareB = true := rfl
theorem x5 (L : Heap) (ps : List Iv) : KpA L (ivC ps) := by rw [P5]; exact b9B _
theorem C8 {nt t n row X ver : Nat} {s : T} (ps : List Iv) (hn : ps.length * 2 = n) (ht : t < nt) (h1 : look s.sl t = .ptr X row 0 ver) (h2 : s.L.get X row = some (ivC ps)) (h3 : n = ver) : M4 (λ_ => False) nt [(t, some (n, true))] (.agg (ivC ps)) [] .ret s :=
 f9 (j4 ps) ht h1 h2 (by rw [j9]; omega) (by rw [j9]; omega) (by rw [c3j, List.drop_zero, a9t _ _ hn])
theorem A8 (x : Nat) : Con Tryz.prog 238 [fl x] (ivV (pt x)) := by
 refine b7 a6C rfl f5 ?_
 refine evx @a6D.eq_1 ?_
 exact f9 rfl (by decide) rfl rfl rfl (by simp) (by simp [ldv, pt])
theorem a2w (k : Nat) (hk : k < 2 ^ 40) : Con Tryz.prog 262 [fI k] (ivV (pwI k)) := by
 refine b7 a6A rfl f5 ?_
 refine evx @a6B.eq_1 ?_
 have e : Int.tmod (k : Int) 2 = ((k % 2 : Nat) : Int) := by rw [Int.tmod_eq_emod_of_nonneg (by omega)]; omega
 refine evx e ?_
 unfold pwI
 by_cases h : k % 2 = 0
 ·rw [h, if_pos rfl]
  refine ev ?_
  refine ⟨by decide, ?_⟩
  exact f9 rfl (by decide) rfl rfl rfl (by simp) (by simp [ldv, oneW])
 ·have h1 : k % 2 = 1 := by omega
  rw [if_neg h, h1]
  refine evb ?_
  refine ⟨by decide, ?_⟩
  exact f9 rfl (by decide) rfl rfl rfl (by simp) (by simp [ldv, negW])
theorem a8M : Con Tryz.prog 264 [] (.agg (ivC (tabI pwI 9))) := by
 refine b7 a5c rfl f5 ?_
 refine evx @a4p.eq_1 ?_
 refine j5 (n := 9) (λc s => ∃ i, c + i = 9 /\ s = ⟨[(0, .ptr 0 0 0 18), (1, .ptr 1 0 0 18), (3, fI i)], [(1, [ivC (filI pwI (λ_ => (0, 0)) 9 i)]), (0, [ivC (List.replicate 9 (0, 0))])]⟩) (Le.refl _) ⟨0, by omega, rfl⟩ ?_
 rintro c s ⟨i, hc, rfl⟩
 have hl := a1D pwI (λ_ => (0, 0)) 9 i
 refine evx @a05.eq_1 ?_
 refine b9 (λh => ?_) (λh => ?_)
 ·replace h := d2b h
  have h9 : i < 9 := by omega
  refine ev ?_
  refine a0 (a2w i (by omega)) rfl ?_
  refine ev ?_
  refine ⟨by omega, by omega, ?_⟩
  rw [f0 (by omega) (by omega), K6 _ _ _ _ (by omega), a0f _ _ _ _ _ rfl]
  exact ⟨c - 1, _, by omega, LeT.only (λX => decide (X <= 1)) (λ_ h => h) rfl (by simp (maxDischargeDepth := 6) [kpS, d6, d9, x5]) (by simp (maxDischargeDepth := 6) [kpS, d6, d9, x5]), i + 1, by omega, rfl⟩
 ·replace h := d2c h
  obtain rfl : i = 9 := by omega
  refine ev ?_
  rw [b9f, a9t _ 18 (by simp [tabI]), s4 _ _ (by simp [j9, tabI])]
  refine ⟨by simp [tabI], ⟨by simp [j9, tabI], a5Y _⟩, ?_⟩
  exact C8 _ (by simp [tabI]) (by decide) rfl rfl rfl
theorem b3y (ps : List Iv) (i : Nat) (h : mG ps i = (0, 0)) (hi : i < ps.length) : ps.set i (0, 0) = ps := by
 have : ps[i] = (0, 0) := by simpa [mG, d2d, hi] using h
 rw [<- this]; exact List.set_getElem_self hi
def ofF (z : List Nat) (i : Nat) : Iv := if i < z.length /\ i < 9 then pt (z.getD i 0) else (0, 0)
theorem c2T (z : List Nat) : filI (ofF z) (λ_ => (0, 0)) 10 9 = ofM z := by
 refine List.ext_getElem (by simp [filI, ofM]) λj h1 h2 => ?_
 simp only [filI, ofM, List.getElem_map, List.getElem_range, ofF]
 by_cases h : j < 9
 ·rw [if_pos h]
 ·rw [if_neg h, if_neg (λe => h e.2)]
theorem a7T (z : List Nat) (hz : z.length < 2 ^ 40) : Con Tryz.prog 187 [.d (rowD z)] (mdV (ofM z)) := by
 refine b7 a27 rfl f5 ?_
 refine evx @a7s.eq_1 ?_
 refine a0 (A8 0) rfl ?_
 refine ev ?_
 refine j5 (n := 9) (λc s => ∃ i, c + i = 9 /\ s = ⟨[(0, .d (rowD z)), (2, .ptr 0 0 0 20), (3, .ptr 3 0 0 20), (7, fI i)], [(3, [ivC (filI (ofF z) (λ_ => (0, 0)) 10 i)]), (0, [ivC (List.replicate 10 (0, 0))])]⟩) (Le.refl _) ⟨0, by omega, rfl⟩ ?_
 rintro c s ⟨i, hc, rfl⟩
 have hl := a1D (ofF z) (λ_ => (0, 0)) 10 i
 refine evx @a1M.eq_1 ?_
 refine b9 (λh => ?_) (λh => ?_)
 ·replace h := d2b h
  have h9 : i < 9 := by omega
  refine ev ?_
  refine a0 (A8 0) rfl ?_
  refine ev ?_
  refine ⟨by omega, by omega, ?_⟩
  have hg := b4j (ofF z) (λ_ => (0, 0)) 10 i i (by omega)
  rw [if_neg (by omega)] at hg
  have e0 := b3y _ _ hg (by omega)
  rw [K6 _ _ _ _ (by omega)]
  unfold pt
  rw [e0]
  refine b9 (λh2 => ?_) (λh2 => ?_)
  ·replace h2 := d2b h2
   have h3 : i < z.length := by omega
   refine ev ?_
   repeat with_reducible refine andO ?_
   refine a0 (A8 (z.getD i 0)) rfl ?_
   refine ev ?_
   refine ⟨by omega, by omega, ?_⟩
   rw [f0 (by omega) (by omega), K6 _ _ _ _ (by omega), a0f _ _ _ _ _ (by unfold ofF; rw [if_pos ⟨h3, h9⟩])]
   exact ⟨c - 1, _, by omega, LeT.only (λX => decide (X <= 3)) (λ_ h => h) rfl (by simp (maxDischargeDepth := 6) [kpS, d6, d9, x5]) (by simp (maxDischargeDepth := 6) [kpS, d6, d9, x5]), i + 1, by omega, rfl⟩
  ·replace h2 := d2c h2
   refine ev ?_
   have e1 := a0f (ofF z) (λ_ => (0, 0)) 10 i (0, 0) (by unfold ofF; rw [if_neg (by omega)])
   rw [f0 (by omega) (by omega), <- e0, e1]
   exact ⟨c - 1, _, by omega, LeT.only (λX => decide (X <= 3)) (λ_ h => h) rfl (by simp (maxDischargeDepth := 6) [kpS, d6, d9, x5]) (by simp (maxDischargeDepth := 6) [kpS, d6, d9, x5]), i + 1, by omega, rfl⟩
 ·replace h := d2c h
  obtain rfl : i = 9 := by omega
  refine ev ?_
  have hol := a1y z
  rw [c2T, a9t _ 20 (by omega), s4 _ _ (by simp [j9, hol])]
  refine ⟨by omega, ⟨by simp [j9, hol], a5Y _⟩, ?_⟩
  exact C8 _ (by omega) (by decide) rfl rfl rfl
theorem b2u (m : Md) (k : Nat) (hk : k < 9) : Y7 (m.take 9) k = Y7 m k := by
 have hg : ∀ i, i < 9 -> mG (m.take 9) i = mG m i := λi hi => by
  unfold mG
  rw [d2d, d2d, List.getElem?_take_of_lt hi]
 induction k with
 | zero => exact hg 0 hk
 | succ k ih => simp only [Y7, ih (by omega), hg (k + 1) hk]
theorem D1 (c : List Iv) (hc : c.length = 9) : Con Tryz.prog 246 [.agg (ivC c)] (ivV (Y7 c 8)) := by
 have hp : (tabI pwI 9).length = 9 := by simp [tabI]
 refine b7 a7p rfl f5 ?_
 refine evx @a8g.eq_1 ?_
 repeat with_reducible refine andO ?_
 refine a0 (a8M) rfl ?_
 simp -implicitDefEqProofs only [evI, hv, effC, reduceCtorEq, ↓reduceIte, n1_, n2_, n3_, n4_, n5_, i1_, i2_, i3_, i4_, i5_, i6_, i7_, c56 c (by omega)]
 refine ⟨by omega, by omega, ?_⟩
 rw [s4 _ _ (by rw [j9, hp]; rfl)]
 refine j5 (n := 8) (λn s => ∃ k, n + k = 8 /\ s = ⟨[(1, .ptr 0 0 0 18), (2, .ptr 1 0 0 2), (3, .ptr 3 0 0 18), (4, .ptr 6 0 0 2), (5, fI (k + 1 : Nat))],
  [(6, [[fl (Y7 c k).1, fl (Y7 c k).2]]), (3, [ivC (tabI pwI 9)]), (1, [[fl 0, fl 0]]), (0, [ivC c])]⟩) (Le.refl _) ⟨0, by omega, rfl⟩ ?_
 rintro n s ⟨k, hk, rfl⟩
 refine evx @a25.eq_1 ?_
 refine b9 (λh => ?_) (λh => ?_)
 ·replace h := d2b h
  have h8 : k < 8 := by omega
  simp -implicitDefEqProofs only [evI, hv, effC, reduceCtorEq, ↓reduceIte, n1_, n2_, n3_, n4_, n5_, i1_, i2_, i3_, i4_, i5_, i6_, i7_, H1 c (k + 1) (by omega), H1 (tabI pwI 9) (k + 1) (by omega), b7J pwI 9 (k + 1) (by omega)]
  repeat with_reducible refine andO ?_
  refine d5 (u8 (mG c (k + 1)) (pwI (k + 1))) rfl ?_
  refine ev ?_
  refine a0 (v7 (Y7 c k) (s9 (mG c (k + 1)) (pwI (k + 1)))) rfl ?_
  refine ev ?_
  rw [show IntKind.i64.wrap (((k + 1 : Nat) : Int) + 1) = ((k + 1 + 1 : Nat) : Int) by rw [f0 (by omega) (by omega)]; omega]
  exact ⟨n - 1, _, by omega, Le.refl _, k + 1, by omega, rfl⟩
 ·replace h := d2c h
  obtain rfl : k = 8 := by omega
  refine ev ?_
  exact f9 rfl (by decide) rfl rfl rfl (by simp) (by simp [ldv])
theorem m6 (m : Md) (hm : m.length = 10) : Con Tryz.prog 198 [mdV m] (ivV (rngM m)) := by
 refine b7 a6E rfl f5 ?_
 refine evx @a6F.eq_1 ?_
 refine evx (And.intro (c7f m hm) (b1K m hm)) ?_
 repeat with_reducible refine andO ?_
 have h9 : (m.take 9).length = 9 := by rw [List.length_take]; omega
 first | refine a0 (D1 (m.take 9) h9) (by simp [r4, j4]) ?_ | refine d7 (D1 (m.take 9) h9) (by simp [r4, j4]) ?_ | refine d5 (D1 (m.take 9) h9) (by simp [r4, j4]) ?_
 rw [b2u m 8 (by decide)]
 refine evx (b1K m hm) ?_
 repeat with_reducible refine andO ?_
 refine a0 (v7 (Y7 m 8) (mG m 9)) rfl ?_
 refine ev ?_
 exact f9 rfl (by decide) rfl rfl rfl (by simp) (by simp [ldv, rngM, c0g])
theorem c4P (F : Iv -> Iv -> Iv) (a b : Md) : (filI (λi => F (mG a i) (mG b i)) (λ_ => (0, 0)) 10 9).set 9 (F (mG a 9) (mG b 9)) = zipM F a b := by
 rw [a0f _ _ _ _ _ rfl, b9f]; rfl
theorem D2 (g : Nat) (F : Iv -> Iv -> Iv) (hF : ∀ a b, Con Tryz.prog g [ivV a, ivV b] (ivV (F a b))) (a b : Md) (ha : a.length = 10) (hb : b.length = 10) : Con Tryz.prog 245 [mdV a, mdV b, .d (.fn g [] [])] (mdV (zipM F a b)) := by
 refine b7 a7r rfl f5 ?_
 refine evx @a8k.eq_1 ?_
 repeat with_reducible refine andO ?_
 refine j5 (n := 9) (λc s => ∃ i, c + i = 9 /\ s = ⟨[(2, .d (.fn g [] [])), (3, .ptr 0 0 0 20), (4, .ptr 1 0 0 20), (6, .ptr 2 0 0 20), (7, .ptr 3 0 0 20), (9, fI i)],
  [(3, [ivC (filI (λi => F (mG a i) (mG b i)) (λ_ => (0, 0)) 10 i)]), (2, [ivC (List.replicate 10 (0, 0))]), (1, [ivC b]), (0, [ivC a])]⟩) (Le.refl _) ⟨0, by omega, rfl⟩ ?_
 rintro c s ⟨i, hc, rfl⟩
 have hl := a1D (λi => F (mG a i) (mG b i)) (λ_ => (0, 0)) 10 i
 refine evx @a26.eq_1 ?_
 refine b9 (λh => ?_) (λh => ?_)
 ·replace h := d2b h
  have h9 : i < 9 := by omega
  simp -implicitDefEqProofs only [evI, hv, effC, reduceCtorEq, ↓reduceIte, n1_, n2_, n3_, n4_, n5_, i1_, i2_, i3_, i4_, i5_, i6_, i7_, H1 a i (by omega), H1 b i (by omega)]
  repeat with_reducible refine andO ?_
  refine a0 (hF (mG a i) (mG b i)) rfl ?_
  refine ev ?_
  refine ⟨by omega, by omega, ?_⟩
  rw [f0 (by omega) (by omega), K6 _ _ _ _ (by omega), a0f _ _ _ _ _ rfl]
  exact ⟨c - 1, _, by omega, LeT.only (λX => decide (X <= 3)) (λ_ h => h) rfl (by simp (maxDischargeDepth := 6) [kpS, d6, d9, x5]) (by simp (maxDischargeDepth := 6) [kpS, d6, d9, x5]), i + 1, by omega, rfl⟩
 ·replace h := d2c h
  obtain rfl : i = 9 := by omega
  refine evx (And.intro (b1K a ha) (b1K b hb)) ?_
  repeat with_reducible refine andO ?_
  refine a0 (hF (mG a 9) (mG b 9)) rfl ?_
  refine ev ?_
  have e := K6 (filI (λi => F (mG a i) (mG b i)) (λ_ => (0, 0)) 10 9) 9 (F (mG a 9) (mG b 9)).1 (F (mG a 9) (mG b 9)).2 (by omega)
  rw [c4P] at e
  have e' : ((ivC (filI (λi => F (mG a i) (mG b i)) (λ_ => (0, 0)) 10 9)).set 18 (fl (F (mG a 9) (mG b 9)).1)).set 19 (fl (F (mG a 9) (mG b 9)).2) = ivC (zipM F a b) := e
  have hz := G3 F a b
  rw [e']
  simp -implicitDefEqProofs only [evI, hv, effC, reduceCtorEq, ↓reduceIte, n1_, n2_, n3_, n4_, n5_, i1_, i2_, i3_, i4_, i5_, i6_, i7_, C7 _ hz]
  refine ⟨by omega, by omega, by omega, ?_⟩
  rw [s4 _ _ (by rw [j9, hz]; rfl)]
  exact C8 _ (by omega) (by decide) rfl rfl rfl
theorem a1A (a b : Md) (ha : a.length = 10) (hb : b.length = 10) : Con Tryz.prog 241 [mdV a, mdV b] (mdV (zipM y7 a b)) := by
 have hz := G3 y7 a b
 refine b7 a83 rfl f5 ?_
 refine evx @b0Z.eq_1 ?_
 repeat with_reducible refine andO ?_
 rw [C7 a ha, C7 b hb]
 first | refine a0 (D2 200 y7 v7 a b ha hb) (by simp [r4, j4]) ?_ | refine d7 (D2 200 y7 v7 a b ha hb) (by simp [r4, j4]) ?_ | refine d5 (D2 200 y7 v7 a b ha hb) (by simp [r4, j4]) ?_
 refine ev ?_
 refine ⟨by omega, ?_⟩
 rw [s4 _ _ (by rw [j9, hz]; rfl)]
 exact C8 _ (by omega) (by decide) rfl rfl rfl
theorem x9 (a b : Md) (ha : a.length = 10) (hb : b.length = 10) : Con Tryz.prog 196 [mdV a, mdV b] (mdV (zipM z4 a b)) := by
 have hz := G3 z4 a b
 refine b7 a80 rfl f5 ?_
 refine evx @b0W.eq_1 ?_
 repeat with_reducible refine andO ?_
 rw [C7 a ha, C7 b hb]
 first | refine a0 (D2 190 z4 D3 a b ha hb) (by simp [r4, j4]) ?_ | refine d7 (D2 190 z4 D3 a b ha hb) (by simp [r4, j4]) ?_ | refine d5 (D2 190 z4 D3 a b ha hb) (by simp [r4, j4]) ?_
 refine ev ?_
 refine ⟨by omega, ?_⟩
 rw [s4 _ _ (by rw [j9, hz]; rfl)]
 exact C8 _ (by omega) (by decide) rfl rfl rfl
theorem T1 : Con Tryz.prog 187 [.nil] (mdV (ofM [])) := by
 refine b7 a27 rfl f5 ?_
 refine evx @a7s.eq_1 ?_
 refine a0 (A8 0) rfl ?_
 refine ev ?_
 refine j5 (n := 9) (λc s => ∃ i, c + i = 9 /\ s = ⟨[(0, .nil), (2, .ptr 0 0 0 20), (3, .ptr 3 0 0 20), (7, fI i)], [(3, [ivC (filI (ofF []) (λ_ => (0, 0)) 10 i)]), (0, [ivC (List.replicate 10 (0, 0))])]⟩) (Le.refl _) ⟨0, by omega, rfl⟩ ?_
 rintro c s ⟨i, hc, rfl⟩
 have hl := a1D (ofF []) (λ_ => (0, 0)) 10 i
 refine evx @a1M.eq_1 ?_
 refine b9 (λh => ?_) (λh => ?_)
 ·replace h := d2b h
  have h9 : i < 9 := by omega
  refine ev ?_
  refine a0 (A8 0) rfl ?_
  refine ev ?_
  refine ⟨by omega, by omega, ?_⟩
  have hg := b4j (ofF []) (λ_ => (0, 0)) 10 i i (by omega)
  rw [if_neg (by omega)] at hg
  have e0 := b3y _ _ hg (by omega)
  rw [K6 _ _ _ _ (by omega)]
  unfold pt
  rw [e0]
  have h2 : decide ((i : Int) < 0) = false := decide_eq_false (by omega)
  refine evx h2 ?_
  have e1 := a0f (ofF []) (λ_ => (0, 0)) 10 i (0, 0) (by unfold ofF; rw [if_neg (by simp)])
  rw [f0 (by omega) (by omega), <- e0, e1]
  exact ⟨c - 1, _, by omega, LeT.only (λX => decide (X <= 3)) (λ_ h => h) rfl (by simp (maxDischargeDepth := 6) [kpS, d6, d9, x5]) (by simp (maxDischargeDepth := 6) [kpS, d6, d9, x5]), i + 1, by omega, rfl⟩
 ·replace h := d2c h
  obtain rfl : i = 9 := by omega
  refine ev ?_
  have hol := a1y []
  rw [c2T, a9t _ 20 (by omega), s4 _ _ (by simp [j9, hol])]
  refine ⟨by omega, ⟨by simp [j9, hol], a5Y _⟩, ?_⟩
  exact C8 _ (by omega) (by decide) rfl rfl rfl
theorem b1F : Con Tryz.prog 263 [] (mdV noneM) := by
 have hol := a1y []
 refine b7 a7q rfl f5 ?_
 refine evx @a8j.eq_1 ?_
 refine a0 (T1) rfl ?_
 refine ev ?_
 refine ⟨by omega, ?_⟩
 rw [s4 _ _ (by rw [j9, hol]; rfl)]
 refine a0 (Q2) rfl ?_
 refine ev ?_
 refine a0 (y3) rfl ?_
 refine ev ?_
 refine a0 (a4W s8 finf) rfl ?_
 have e1 : F0 s8 finf = (s8, finf) := by decide
 rw [e1]
 refine ev ?_
 have e : ((ivC (ofM [])).set 18 (fl s8)).set 19 (fl finf) = ivC noneM := by rfl
 rw [e]
 have hn : noneM.length = 10 := by rfl
 simp -implicitDefEqProofs only [evI, hv, effC, reduceCtorEq, ↓reduceIte, n1_, n2_, n3_, n4_, n5_, i1_, i2_, i3_, i4_, i5_, i6_, i7_, C7 _ hn]
 refine ⟨by omega, by omega, by omega, ?_⟩
 rw [s4 _ _ (by rw [j9, hn]; rfl)]
 exact C8 _ (by omega) (by decide) rfl rfl rfl
def a0B : CA := (.seq (.seq (.reg [i_M 0 26 7, i_M 1 27 6, i_N 2 28 .leq 26 27] [2, 3, 4, 5, 6, 7, 12, 28]) (.cond (.t 28) .skip (.exit 2))) (.seq (.block 3 (.reg [i_M 0 31 6, i_M 1 32 6, i_P 2 33 5 0, i_X 3 34 (.h (.idxa (.t 33) (.t 32) 9 2)), i_A 4 35 34 2, i_M 5 36 7, i_P 6 37 2 0, i_X 7 38 (.h (.idxa (.t 37) (.t 36) 9 2)), i_A 8 39 38 2, i_M 9 40 6, i_M 10 41 7, i_N 11 42 .sub 40 41, i_P 12 43 3 0, i_X 13 44 (.h (.idxa (.t 43) (.t 42) 9 2)), i_A 14 45 44 2, i_X 15 46 (.callS 15 (kF 208) [(.t 39), (.t 45)]), i_X 16 47 (.callA (kF 200) [(.t 35), (.t 46)]), i_P 17 48 5 0, i_X 18 49 (.h (.idxa (.t 48) (.t 31) 9 2)), i_S 19 49 47 2] [2, 3, 4, 5, 6, 7, 12])) (.reg [i_M 0 29 7, i_B 1 30 .add 29 1, i_M 2 7 30] [2, 3, 4, 5, 6, 7, 12])))
def a0C : CA := (.seq (.reg [i_B 0 13 .lss 12 9] [2, 3, 4, 5, 12, 13]) (.seq (.cond (.t 13) .skip (.exit 0)) (.seq (.block 1 (.seq (.reg [i_M 0 14 12, i_M 1 6 14] [2, 3, 4, 5, 6, 12]) (.seq (.reg [i_M 0 15 6, i_P 1 16 2 0, i_X 2 17 (.h (.idxa (.t 16) (kI 0) 9 2)), i_A 3 18 17 2, i_M 4 19 6, i_P 5 20 3 0, i_X 6 21 (.h (.idxa (.t 20) (.t 19) 9 2)), i_A 7 22 21 2, i_X 8 23 (.callA (kF 208) [(.t 18), (.t 22)]), i_P 9 24 5 0, i_X 10 25 (.h (.idxa (.t 24) (.t 15) 9 2)), i_S 11 25 23 2] [2, 3, 4, 5, 6, 12]) (.seq (.reg [i_K 0 7 1] [2, 3, 4, 5, 6, 7, 12]) (.block 2 (.loop a0B)))))) (.reg [i_B 0 50 .add 12 1, i_M 1 12 50] [2, 3, 4, 5, 12]))))
def a0z : CA := (.seq (.reg [i_B 0 55 .lss 54 9] [2, 3, 4, 5, 8, 51, 54, 55]) (.seq (.cond (.t 55) .skip (.exit 6)) (.seq (.block 7 (.seq (.reg [i_M 0 56 54, i_M 1 9 56] [2, 3, 4, 5, 8, 9, 51, 54]) (.seq (.reg [i_M 0 57 8, i_M 1 58 9, i_N 2 59 .add 57 58, i_B 3 60 .gtr 59 8] [2, 3, 4, 5, 8, 9, 51, 54, 60]) (.cond (.t 60) (.reg [i_P 0 61 5 18, i_A 1 62 61 2, i_M 2 63 8, i_P 3 64 2 0, i_X 4 65 (.h (.idxa (.t 64) (.t 63) 9 2)), i_A 5 66 65 2, i_M 6 67 9, i_P 7 68 3 0, i_X 8 69 (.h (.idxa (.t 68) (.t 67) 9 2)), i_A 9 70 69 2, i_X 10 71 (.callS 10 (kF 208) [(.t 66), (.t 70)]), i_M 11 72 8, i_M 12 73 9, i_N 13 74 .add 72 73, i_X 14 75 (.callS 14 (kF 262) [(.t 74)]), i_X 15 76 (.callS 15 (kF 208) [(.t 71), (.t 75)]), i_X 16 77 (.callA (kF 200) [(.t 62), (.t 76)]), i_P 17 78 5 18, i_S 18 78 77 2] [2, 3, 4, 5, 8, 51, 54]) .skip)))) (.reg [i_B 0 79 .add 54 1, i_M 1 54 79] [2, 3, 4, 5, 8, 51, 54]))))
def a0A : CA := (.seq (.reg [i_B 0 52 .lss 51 9] [2, 3, 4, 5, 51, 52]) (.seq (.cond (.t 52) .skip (.exit 4)) (.seq (.block 5 (.seq (.reg [i_M 0 53 51, i_M 1 8 53] [2, 3, 4, 5, 8, 51]) (.seq (.reg [i_K 0 54 0] [2, 3, 4, 5, 8, 51, 54]) (.block 6 (.loop a0z))))) (.reg [i_B 0 80 .add 51 1, i_M 1 51 80] [2, 3, 4, 5, 51]))))
def b0X : CA := (.seq (.reg [i_X 0 2 (.box (.t 0) 20 123), i_X 1 3 (.box (.t 1) 20 123), i_X 2 4 (.alloc z_20 123)] [2, 3, 4]) (.seq (.reg [i_X 0 10 (.callA (kF 238) [(.k (.d (.flt 0)))]), i_X 1 11 (.h (.build z_20 [(18, (2, (.t 10)))])), i_X 2 5 (.alloc z_20 123), i_S 3 5 11 20] [2, 3, 4, 5]) (.seq (.seq (.reg [i_K 0 12 0] [2, 3, 4, 5, 12]) (.block 0 (.loop a0C))) (.seq (.seq (.reg [i_K 0 51 0] [2, 3, 4, 5, 51]) (.block 4 (.loop a0A))) (.seq (.reg [i_P 0 81 5 18, i_A 1 82 81 2, i_P 2 83 2 18, i_A 3 84 83 2, i_A 4 85 3 20, i_X 5 86 (.callS 5 (kF 198) [(.t 85)]), i_X 6 87 (.callS 6 (kF 208) [(.t 84), (.t 86)]), i_X 7 88 (.callA (kF 200) [(.t 82), (.t 87)]), i_P 8 89 5 18, i_S 9 89 88 2] [2, 3, 4, 5]) (.seq (.reg [i_P 0 90 5 18, i_A 1 91 90 2, i_P 2 92 2 0, i_A 3 93 92 18, i_X 4 94 (.callS 4 (kF 246) [(.t 93)]), i_P 5 95 3 18, i_A 6 96 95 2, i_X 7 97 (.callS 7 (kF 208) [(.t 94), (.t 96)]), i_X 8 98 (.callA (kF 200) [(.t 91), (.t 97)]), i_P 9 99 5 18, i_S 10 99 98 2] [4, 5]) (.seq (.reg [i_A 0 100 5 20, i_S 1 4 100 20] [4]) .ret)))))))
theorem a81 : f7 Tryz.prog 242 = some ⟨101, [(4, (some (20, true)))], b0X.strip⟩ := by kernel_rfl
def a0D : CA := (.seq (.seq (.reg [i_M 0 30 9, i_M 1 31 7, i_N 2 32 .leq 30 31] [2, 3, 4, 5, 6, 7, 8, 9, 23, 32]) (.cond (.t 32) .skip (.exit 2))) (.seq (.block 3 (.reg [i_A 0 35 8 2, i_M 1 36 9, i_P 2 37 3 0, i_X 3 38 (.h (.idxa (.t 37) (.t 36) 9 2)), i_A 4 39 38 2, i_M 5 40 7, i_M 6 41 9, i_N 7 42 .sub 40 41, i_P 8 43 6 0, i_X 9 44 (.h (.idxa (.t 43) (.t 42) 9 2)), i_A 10 45 44 2, i_X 11 46 (.callS 11 (kF 208) [(.t 39), (.t 45)]), i_X 12 47 (.callA (kF 190) [(.t 35), (.t 46)]), i_S 13 8 47 2] [2, 3, 4, 5, 6, 7, 8, 9, 23])) (.reg [i_M 0 33 9, i_B 1 34 .add 33 1, i_M 2 9 34] [2, 3, 4, 5, 6, 7, 8, 9, 23])))
def a0E : CA := (.seq (.reg [i_B 0 24 .lss 23 9] [2, 3, 4, 5, 6, 23, 24]) (.seq (.cond (.t 24) .skip (.exit 0)) (.seq (.block 1 (.seq (.reg [i_M 0 25 23, i_M 1 7 25] [2, 3, 4, 5, 6, 7, 23]) (.seq (.reg [i_M 0 26 7, i_P 1 27 2 0, i_X 2 28 (.h (.idxa (.t 27) (.t 26) 9 2)), i_A 3 29 28 2, i_X 4 8 (.alloc [fl 0, fl 0] 83), i_S 5 8 29 2] [2, 3, 4, 5, 6, 7, 8, 23]) (.seq (.seq (.reg [i_K 0 9 1] [2, 3, 4, 5, 6, 7, 8, 9, 23]) (.block 2 (.loop a0D))) (.reg [i_M 0 48 7, i_A 1 49 8 2, i_P 2 50 3 0, i_X 3 51 (.h (.idxa (.t 50) (kI 0) 9 2)), i_A 4 52 51 2, i_X 5 53 (.callA (kF 244) [(.t 49), (.t 52)]), i_P 6 54 6 0, i_X 7 55 (.h (.idxa (.t 54) (.t 48) 9 2)), i_S 8 55 53 2] [2, 3, 4, 5, 6, 23]))))) (.reg [i_B 0 56 .add 23 1, i_M 1 23 56] [2, 3, 4, 5, 6, 23]))))
def b0Y : CA := (.seq (.reg [i_X 0 2 (.box (.t 0) 20 123), i_X 1 3 (.box (.t 1) 20 123), i_X 2 4 (.alloc z_20 123)] [2, 3, 4]) (.seq (.reg [i_A 0 10 3 20, i_X 1 11 (.callA (kF 198) [(.t 10)]), i_X 2 5 (.alloc [fl 0, fl 0] 83), i_S 3 5 11 2] [2, 3, 4, 5]) (.seq (.seq (.reg [i_P 0 12 3 0, i_X 1 13 (.h (.idxa (.t 12) (kI 0) 9 2)), i_A 2 14 13 2, i_X 3 15 (.callS 0 (kF 84) [(.k (.d (.flt 0))), (.t 14)]), i_A 4 16 5 2, i_X 5 17 (.callA (kF 84) [(.k (.d (.flt 0))), (.t 16)]), i_X 6 18 (.h (.build [(.d (.bool false)), (.d (.bool false))] [(0, (1, (.t 15))), (1, (1, (.t 17)))])), i_X 7 19 (.h (.build [(.d (.bool false)), (.d (.bool false))] [])), i_X 8 20 (.h (.acmp true (.t 18) (.t 19) [(0, false), (1, false)]))] [2, 3, 4, 5, 20]) (.cond (.t 20) (.seq (.reg [i_X 0 21 (.callA (kF 263) []), i_S 1 4 21 20] [4]) .ret) .skip)) (.seq (.reg [i_X 0 22 (.callA (kF 187) [(.k .nil)]), i_X 1 6 (.alloc z_20 123), i_S 2 6 22 20] [2, 3, 4, 5, 6]) (.seq (.seq (.reg [i_K 0 23 0] [2, 3, 4, 5, 6, 23]) (.block 0 (.loop a0E))) (.seq (.reg [i_A 0 57 2 20, i_A 1 58 3 20, i_A 2 59 6 20, i_X 3 60 (.callS 3 (kF 242) [(.t 58), (.t 59)]), i_X 4 61 (.callS 0 (kF 196) [(.t 57), (.t 60)]), i_X 5 62 (.callS 0 (kF 198) [(.t 61)]), i_A 6 63 5 2, i_X 7 64 (.callA (kF 244) [(.t 62), (.t 63)]), i_P 8 65 6 18, i_S 9 65 64 2] [4, 6]) (.seq (.reg [i_A 0 66 6 20, i_S 1 4 66 20] [4]) .ret)))))))
theorem a82 : f7 Tryz.prog 243 = some ⟨67, [(4, (some (20, true)))], b0Y.strip⟩ := by kernel_rfl
abbrev mulH (a b c : Md) : Heap := [(5, [ivC c]), (2, [ivC (List.replicate 10 (0, 0))]), (1, [ivC b]), (0, [ivC a])]
abbrev mulS (r : Sl) : Sl := (2, .ptr 0 0 0 20) :: (3, .ptr 1 0 0 20) :: (4, .ptr 2 0 0 20) :: (5, .ptr 5 0 0 20) :: r
theorem a1B (m : Md) (i : Nat) (p : Iv) (hi : i < m.length) : mG (m.set i p) i = p := by rw [d0f _ _ _ _ hi, if_pos rfl]
theorem d0a (a b C : Md) (k : Nat) (ha : a.length = 10) (hb : b.length = 10) (hC : C.length = 10) (hk : k < 9) (Q : Ex -> T -> Prop)
  (hQ : ∀ v w, Q (.exit 2) ⟨mulS [(6, fI k), (7, v), (12, fI k), (28, w)], mulH a b (C.set k (mulK a b k k))⟩) :
  WA Tryz.prog (λ_ => False) 101 (.loop a0B) Q ⟨mulS [(6, fI k), (7, fI 1), (12, fI k)], mulH a b (C.set k (mulK a b k 0))⟩ := by
 refine r5 (n := k) (λc s => ∃ i, c + i = k /\ s = ⟨mulS [(6, fI k), (7, fI (i + 1 : Nat)), (12, fI k)], mulH a b (C.set k (mulK a b k i))⟩) ⟨0, by omega, rfl⟩ ?_
 rintro c s ⟨i, hc, rfl⟩
 have hl : (C.set k (mulK a b k i)).length = 10 := by rw [List.length_set]; exact hC
 refine evx @a0B.eq_1 ?_
 refine b9 (λh => ?_) (λh => ?_)
 ·replace h := d2b h
  have hik : i + 1 <= k := by omega
  have w1 : IntKind.i64.wrap ((k : Int) - ((i + 1 : Nat) : Int)) = ((k - (i + 1) : Nat) : Int) := by rw [f0 (by omega) (by omega)]; omega
  simp -implicitDefEqProofs only [evI, hv, effC, reduceCtorEq, ↓reduceIte, n1_, n2_, n3_, n4_, n5_, i1_, i2_, i3_, i4_, i5_, i6_, i7_, w1, H1 (C.set k (mulK a b k i)) k (by omega), a1B C k (mulK a b k i) (by omega), H1 a (i + 1) (by omega), H1 b (k - (i + 1)) (by omega)]
  repeat with_reducible refine andO ?_
  refine d5 (u8 (mG a (i + 1)) (mG b (k - (i + 1)))) rfl ?_
  refine ev ?_
  refine a0 (v7 (mulK a b k i) (s9 (mG a (i + 1)) (mG b (k - (i + 1))))) rfl ?_
  refine ev ?_
  repeat with_reducible refine andO ?_
  rw [K6 _ _ _ _ (by omega), List.set_set, show IntKind.i64.wrap (((i + 1 : Nat) : Int) + 1) = ((i + 1 + 1 : Nat) : Int) by rw [f0 (by omega) (by omega)]; omega]
  exact ⟨c - 1, by omega, i + 1, by omega, rfl⟩
 ·replace h := d2c h
  obtain rfl : i = k := by omega
  refine ev ?_
  exact hQ _ _
theorem d0b (a b : Md) (ha : a.length = 10) (hb : b.length = 10) (Q : Ex -> T -> Prop)
  (hQ : ∀ v w, Q (.exit 0) ⟨mulS [(12, v), (13, w)], mulH a b (filI (λk => mulK a b k k) (λ_ => (0, 0)) 10 9)⟩) :
  WA Tryz.prog (λ_ => False) 101 (.loop a0C) Q ⟨mulS [(12, fI 0)], mulH a b (filI (λk => mulK a b k k) (λ_ => (0, 0)) 10 0)⟩ := by
 refine r5 (n := 9) (λc s => ∃ k, c + k = 9 /\ s = ⟨mulS [(12, fI k)], mulH a b (filI (λk => mulK a b k k) (λ_ => (0, 0)) 10 k)⟩) ⟨0, by omega, rfl⟩ ?_
 rintro c s ⟨k, hc, rfl⟩
 have hl := a1D (λk => mulK a b k k) (λ_ => (0, 0)) 10 k
 refine evx @a0C.eq_1 ?_
 refine b9 (λh => ?_) (λh => ?_)
 ·replace h := d2b h
  have hk : k < 9 := by omega
  simp -implicitDefEqProofs only [evI, hv, effC, reduceCtorEq, ↓reduceIte, n1_, n2_, n3_, n4_, n5_, i1_, i2_, i3_, i4_, i5_, i6_, i7_, c56 a (by omega), H1 b k (by omega)]
  repeat with_reducible refine andO ?_
  refine a0 (u8 (mG a 0) (mG b k)) rfl ?_
  refine ev ?_
  repeat with_reducible refine andO ?_
  rw [K6 _ _ _ _ (by omega)]
  refine d0a a b _ k ha hb hl hk _ λv w => ?_
  rw [a0f _ _ _ _ _ rfl]
  refine ev ?_
  rw [f0 (by omega) (by omega)]
  exact ⟨c - 1, by omega, k + 1, by omega, rfl⟩
 ·replace h := d2c h
  obtain rfl : k = 9 := by omega
  refine ev ?_
  exact hQ _ _
theorem c98 (a b C : Md) (i : Nat) (r : Iv) (ha : a.length = 10) (hb : b.length = 10) (hC : C.length = 10) (hi : i < 9) (Q : Ex -> T -> Prop)
  (hQ : ∀ v w, Q (.exit 6) ⟨mulS [(8, fI i), (51, fI i), (54, v), (55, w)], mulH a b (C.set 9 (mulJ a b i r 9))⟩) :
  WA Tryz.prog (λ_ => False) 101 (.loop a0z) Q ⟨mulS [(8, fI i), (51, fI i), (54, fI 0)], mulH a b (C.set 9 r)⟩ := by
 refine r5 (n := 9) (λc s => ∃ j, c + j = 9 /\ s = ⟨mulS [(8, fI i), (51, fI i), (54, fI j)], mulH a b (C.set 9 (mulJ a b i r j))⟩) ⟨0, by omega, rfl⟩ ?_
 rintro c s ⟨j, hc, rfl⟩
 have hl : (C.set 9 (mulJ a b i r j)).length = 10 := by rw [List.length_set]; exact hC
 refine evx @a0z.eq_1 ?_
 refine b9 (λh => ?_) (λh => ?_)
 ·replace h := d2b h
  have hj : j < 9 := by omega
  have w1 : IntKind.i64.wrap ((i : Int) + (j : Int)) = ((i + j : Nat) : Int) := by rw [f0 (by omega) (by omega)]; omega
  have w2 : IntKind.i64.wrap ((j : Int) + 1) = ((j + 1 : Nat) : Int) := by rw [f0 (by omega) (by omega)]; omega
  have er := b1K (C.set 9 (mulJ a b i r j)) hl
  rw [a1B _ _ _ (by omega)] at er
  refine evx w1 ?_
  refine b9 (λh8 => ?_) (λh8 => ?_)
  ·replace h8 := d2b h8
   have h8' : 8 < i + j := by omega
   simp -implicitDefEqProofs only [evI, hv, effC, reduceCtorEq, ↓reduceIte, n1_, n2_, n3_, n4_, n5_, i1_, i2_, i3_, i4_, i5_, i6_, i7_, w1, er, H1 a i (by omega), H1 b j (by omega)]
   repeat with_reducible refine andO ?_
   refine d5 (u8 (mG a i) (mG b j)) rfl ?_
   refine evx w1 ?_
   refine d5 (a2w (i + j) (by omega)) rfl ?_
   refine ev ?_
   refine d5 (u8 (s9 (mG a i) (mG b j)) (pwI (i + j))) rfl ?_
   refine ev ?_
   refine a0 (v7 (mulJ a b i r j) (s9 (s9 (mG a i) (mG b j)) (pwI (i + j)))) rfl ?_
   refine ev ?_
   repeat with_reducible refine andO ?_
   have e := K6 (C.set 9 (mulJ a b i r j)) 9 (y7 (mulJ a b i r j) (s9 (s9 (mG a i) (mG b j)) (pwI (i + j)))).1 (y7 (mulJ a b i r j) (s9 (s9 (mG a i) (mG b j)) (pwI (i + j)))).2 (by omega)
   rw [List.set_set] at e
   have e2 : mulJ a b i r (j + 1) = y7 (mulJ a b i r j) (s9 (s9 (mG a i) (mG b j)) (pwI (i + j))) := by rw [mulJ, if_pos h8']
   rw [w2]
   refine ⟨c - 1, by omega, j + 1, by omega, ?_⟩
   rw [e2]
   exact congrArg (λz => (⟨mulS [(8, fI i), (51, fI i), (54, fI (j + 1 : Nat))], [(5, [z]), (2, [ivC (List.replicate 10 (0, 0))]), (1, [ivC b]), (0, [ivC a])]⟩ : T)) e
  ·replace h8 := d2c h8
   have e2 : mulJ a b i r (j + 1) = mulJ a b i r j := by rw [mulJ, if_neg (by omega)]
   refine ev ?_
   rw [w2]
   exact ⟨c - 1, by omega, j + 1, by omega, by rw [e2]⟩
 ·replace h := d2c h
  obtain rfl : j = 9 := by omega
  refine ev ?_
  exact hQ _ _
theorem c99 (a b C : Md) (ha : a.length = 10) (hb : b.length = 10) (hC : C.length = 10) (Q : Ex -> T -> Prop)
  (hQ : ∀ v w, Q (.exit 4) ⟨mulS [(51, v), (52, w)], mulH a b (C.set 9 (mulI a b 9))⟩) :
  WA Tryz.prog (λ_ => False) 101 (.loop a0A) Q ⟨mulS [(51, fI 0)], mulH a b (C.set 9 (0, 0))⟩ := by
 refine r5 (n := 9) (λc s => ∃ i, c + i = 9 /\ s = ⟨mulS [(51, fI i)], mulH a b (C.set 9 (mulI a b i))⟩) ⟨0, by omega, rfl⟩ ?_
 rintro c s ⟨i, hc, rfl⟩
 refine evx @a0A.eq_1 ?_
 refine b9 (λh => ?_) (λh => ?_)
 ·replace h := d2b h
  have hi : i < 9 := by omega
  refine ev ?_
  refine c98 a b C i (mulI a b i) ha hb hC hi _ λv w => ?_
  refine ev ?_
  rw [f0 (by omega) (by omega)]
  exact ⟨c - 1, by omega, i + 1, by omega, rfl⟩
 ·replace h := d2c h
  obtain rfl : i = 9 := by omega
  refine ev ?_
  exact hQ _ _
theorem c5M (f : Nat -> Iv) (r : Iv) : (filI f (λ_ => (0, 0)) 10 9).set 9 r = (List.range 9).map f ++ [r] := by
 refine List.ext_getElem (by simp [filI]) λj h1 h2 => ?_
 have hj : j < 10 := by simpa [filI] using h1
 rw [List.getElem_set]
 by_cases e : 9 = j
 ·subst e; simp
 ·have h9 : j < 9 := by omega
  rw [if_neg e]
  simp [filI, List.getElem_append, h9]
theorem E9 (a b : Md) (ha : a.length = 10) (hb : b.length = 10) : Con Tryz.prog 242 [mdV a, mdV b] (mdV (mulM a b)) := by
 refine b7 a81 rfl f5 ?_
 refine evx @b0X.eq_1 ?_
 repeat with_reducible refine andO ?_
 refine a0 (A8 0) rfl ?_
 refine ev ?_
 refine d0b a b ha hb _ λv w => ?_
 have hl := a1D (λk => mulK a b k k) (λ_ => (0, 0)) 10 9
 have hm := a3H a b
 have hset : (filI (λk => mulK a b k k) (λ_ => (0, 0)) 10 9).set 9 (y7 (y7 (mulI a b 9) (s9 (mG a 9) (rngM b))) (s9 (Y7 a 8) (mG b 9))) = mulM a b := by
  rw [c5M]; unfold mulM c0g; rfl
 have hz : (filI (λk => mulK a b k k) (λ_ => (0, 0)) 10 9).set 9 (0, 0) = filI (λk => mulK a b k k) (λ_ => (0, 0)) 10 9 := b3y _ _ (by rw [b4j _ _ _ _ _ (by decide), if_neg (by decide)]) (by omega)
 generalize filI (λk => mulK a b k k) (λ_ => (0, 0)) 10 9 = C at hl hset hz
 refine ev ?_
 rw [<- hz]
 refine c99 a b C ha hb hl _ λv w => ?_
 have hl2 : (C.set 9 (mulI a b 9)).length = 10 := by rw [List.length_set]; exact hl
 have er := b1K (C.set 9 (mulI a b 9)) hl2
 rw [a1B _ _ _ (by omega)] at er
 refine evx (And.intro er (And.intro (b1K a ha) (C7 b hb))) ?_
 repeat with_reducible refine andO ?_
 first | refine a0 (m6 b hb) (by simp [r4, j4]) ?_ | refine d7 (m6 b hb) (by simp [r4, j4]) ?_ | refine d5 (m6 b hb) (by simp [r4, j4]) ?_
 refine ev ?_
 refine d5 (u8 (mG a 9) (rngM b)) rfl ?_
 refine ev ?_
 refine a0 (v7 (mulI a b 9) (s9 (mG a 9) (rngM b))) rfl ?_
 refine ev ?_
 generalize y7 (mulI a b 9) (s9 (mG a 9) (rngM b)) = r1 at hset ⊢
 have e := K6 (C.set 9 (mulI a b 9)) 9 r1.1 r1.2 (by omega)
 rw [List.set_set] at e
 have e' : ((ivC (C.set 9 (mulI a b 9))).set 18 (fl r1.1)).set 19 (fl r1.2) = ivC (C.set 9 r1) := e
 rw [e']
 have hl3 : (C.set 9 r1).length = 10 := by rw [List.length_set]; exact hl
 have er3 := b1K (C.set 9 r1) hl3
 rw [a1B _ _ _ (by omega)] at er3
 have h9 : (a.take 9).length = 9 := by rw [List.length_take]; omega
 refine evx (And.intro er3 (And.intro (c7f a ha) (b1K b hb))) ?_
 repeat with_reducible refine andO ?_
 first | refine a0 (D1 (a.take 9) h9) (by simp [r4, j4]) ?_ | refine d7 (D1 (a.take 9) h9) (by simp [r4, j4]) ?_ | refine d5 (D1 (a.take 9) h9) (by simp [r4, j4]) ?_
 rw [b2u a 8 (by decide)]
 refine evx (b1K b hb) ?_
 repeat with_reducible refine andO ?_
 refine d5 (u8 (Y7 a 8) (mG b 9)) rfl ?_
 refine ev ?_
 refine a0 (v7 r1 (s9 (Y7 a 8) (mG b 9))) rfl ?_
 refine ev ?_
 generalize y7 r1 (s9 (Y7 a 8) (mG b 9)) = r2 at hset ⊢
 have f := K6 (C.set 9 r1) 9 r2.1 r2.2 (by omega)
 rw [List.set_set] at f
 have f' : ((ivC (C.set 9 r1)).set 18 (fl r2.1)).set 19 (fl r2.2) = ivC (mulM a b) := f.trans (by rw [<- hset])
 rw [f']
 simp -implicitDefEqProofs only [evI, hv, effC, reduceCtorEq, ↓reduceIte, n1_, n2_, n3_, n4_, n5_, i1_, i2_, i3_, i4_, i5_, i6_, i7_, C7 _ hm]
 repeat with_reducible refine andO ?_
 rw [s4 _ _ (by rw [j9, hm]; rfl)]
 exact C8 _ (by omega) (by decide) rfl rfl rfl
theorem c7g (p : Iv) : (fcmp .le p.1 0 && fcmp .le 0 p.2) = in0 p := rfl
def qC (a b : Md) (k : Nat) : Md := divQ a b k ++ List.replicate (10 - k) (0, 0)
theorem c2w (a b : Md) (k : Nat) (h : k <= 10) : (qC a b k).length = 10 := by simp [qC, a6a]; omega
theorem c9Z (a b : Md) (k j : Nat) (h : j < k) : mG (qC a b k) j = mG (divQ a b k) j := by
 unfold mG qC
 rw [d2d, d2g (by rw [a6a]; exact h), <- d2d]
theorem c9Y (a b : Md) (k : Nat) (h : k < 10) (p : Iv) (hp : p = T2 (divW a b (divQ a b k) k k) (mG b 0)) : (qC a b k).set k p = qC a b (k + 1) := by
 have hl := a6a a b k
 subst hp
 obtain ⟨m, hm⟩ : ∃ m, 10 - k = m + 1 := ⟨9 - k, by omega⟩
 unfold qC
 rw [List.set_append_right _ _ (by omega), hl, Nat.sub_self, hm, List.replicate_succ, List.set_cons_zero, divQ, show 10 - (k + 1) = m by omega]
 simp
abbrev divH (a b q : Md) : Heap := [(7, [ivC q]), (5, [[fl (rngM b).1, fl (rngM b).2]]), (2, [ivC (List.replicate 10 (0, 0))]), (1, [ivC b]), (0, [ivC a])]
abbrev divS (r : Sl) : Sl := (2, .ptr 0 0 0 20) :: (3, .ptr 1 0 0 20) :: (4, .ptr 2 0 0 20) :: (5, .ptr 5 0 0 2) :: (6, .ptr 7 0 0 20) :: r
theorem d0J (a b : Md) (k : Nat) (hb : b.length = 10) (hk : k < 9) (Q : Ex -> T -> Prop)
  (hQ : ∀ v w, Q (.exit 2) ⟨divS [(7, fI k), (8, .ptr 12 0 0 2), (9, v), (23, fI k), (32, w)], (12, [[fl (divW a b (divQ a b k) k k).1, fl (divW a b (divQ a b k) k k).2]]) :: divH a b (qC a b k)⟩) :
  WA Tryz.prog (λ_ => False) 67 (.loop a0D) Q ⟨divS [(7, fI k), (8, .ptr 12 0 0 2), (9, fI 1), (23, fI k)], (12, [[fl (divW a b (divQ a b k) k 0).1, fl (divW a b (divQ a b k) k 0).2]]) :: divH a b (qC a b k)⟩ := by
 have hl := c2w a b k (by omega)
 refine r5 (n := k) (λc s => ∃ i, c + i = k /\ s = ⟨divS [(7, fI k), (8, .ptr 12 0 0 2), (9, fI (i + 1 : Nat)), (23, fI k)], (12, [[fl (divW a b (divQ a b k) k i).1, fl (divW a b (divQ a b k) k i).2]]) :: divH a b (qC a b k)⟩) ⟨0, by omega, rfl⟩ ?_
 rintro c s ⟨i, hc, rfl⟩
 refine evx @a0D.eq_1 ?_
 refine b9 (λh => ?_) (λh => ?_)
 ·replace h := d2b h
  have hik : i + 1 <= k := by omega
  have w1 : IntKind.i64.wrap ((k : Int) - ((i + 1 : Nat) : Int)) = ((k - (i + 1) : Nat) : Int) := by rw [f0 (by omega) (by omega)]; omega
  simp -implicitDefEqProofs only [evI, hv, effC, reduceCtorEq, ↓reduceIte, n1_, n2_, n3_, n4_, n5_, i1_, i2_, i3_, i4_, i5_, i6_, i7_, w1, H1 b (i + 1) (by omega), H1 (qC a b k) (k - (i + 1)) (by omega), c9Z a b k (k - (i + 1)) (by omega)]
  repeat with_reducible refine andO ?_
  refine d5 (u8 (mG b (i + 1)) (mG (divQ a b k) (k - (i + 1)))) rfl ?_
  refine ev ?_
  refine a0 (D3 (divW a b (divQ a b k) k i) (s9 (mG b (i + 1)) (mG (divQ a b k) (k - (i + 1))))) rfl ?_
  refine ev ?_
  rw [show IntKind.i64.wrap (((i + 1 : Nat) : Int) + 1) = ((i + 1 + 1 : Nat) : Int) by rw [f0 (by omega) (by omega)]; omega]
  exact ⟨c - 1, by omega, i + 1, by omega, rfl⟩
 ·replace h := d2c h
  obtain rfl : i = k := by omega
  refine ev ?_
  exact hQ _ _
theorem d0K (a b : Md) (ha : a.length = 10) (hb : b.length = 10) (Q : Ex -> T -> Prop)
  (hQ : ∀ v w, Q (.exit 0) ⟨divS [(23, v), (24, w)], divH a b (qC a b 9)⟩) :
  WA Tryz.prog (λ_ => False) 67 (.loop a0E) Q ⟨divS [(23, fI 0)], divH a b (qC a b 0)⟩ := by
 refine j5 (n := 9) (λc s => ∃ k, c + k = 9 /\ s = ⟨divS [(23, fI k)], divH a b (qC a b k)⟩) (Le.refl _) ⟨0, by omega, rfl⟩ ?_
 rintro c s ⟨k, hc, rfl⟩
 refine evx @a0E.eq_1 ?_
 refine b9 (λh => ?_) (λh => ?_)
 ·replace h := d2b h
  have hk : k < 9 := by omega
  have hl := c2w a b k (by omega)
  simp -implicitDefEqProofs only [evI, hv, effC, reduceCtorEq, ↓reduceIte, n1_, n2_, n3_, n4_, n5_, i1_, i2_, i3_, i4_, i5_, i6_, i7_, H1 a k (by omega)]
  repeat with_reducible refine andO ?_
  refine d0J a b k hb hk _ λv w => ?_
  simp -implicitDefEqProofs only [evI, hv, effC, reduceCtorEq, ↓reduceIte, n1_, n2_, n3_, n4_, n5_, i1_, i2_, i3_, i4_, i5_, i6_, i7_, c56 b (by omega)]
  repeat with_reducible refine andO ?_
  refine a0 (N8 (divW a b (divQ a b k) k k) (mG b 0)) rfl ?_
  refine ev ?_
  repeat with_reducible refine andO ?_
  rw [f0 (by omega) (by omega), K6 _ _ _ _ (by omega), c9Y a b k (by omega) _ rfl]
  exact ⟨c - 1, _, by omega, LeT.only (λX => decide (X <= 7)) (λ_ h => h) rfl (by simp (maxDischargeDepth := 6) [kpS, d6, d9, x5]) (by simp (maxDischargeDepth := 6) [kpS, d6, d9, x5]), k + 1, by omega, rfl⟩
 ·replace h := d2c h
  obtain rfl : k = 9 := by omega
  refine ev ?_
  exact hQ _ _
theorem a1z (a b : Md) (ha : a.length = 10) (hb : b.length = 10) : Con Tryz.prog 243 [mdV a, mdV b] (mdV (divM a b)) := by
 refine b7 a82 rfl f5 ?_
 refine evx @b0Y.eq_1 ?_
 repeat with_reducible refine andO ?_
 rw [C7 b hb]
 first | refine a0 (m6 b hb) (by simp [r4, j4]) ?_ | refine d7 (m6 b hb) (by simp [r4, j4]) ?_ | refine d5 (m6 b hb) (by simp [r4, j4]) ?_
 refine ev ?_
 rw [c56 b (by omega)]
 repeat with_reducible refine andO ?_
 refine d5 (a5W 0 (mG b 0)) rfl ?_
 rw [c7g]
 refine ev ?_
 refine a0 (a5W 0 (rngM b)) rfl ?_
 rw [c7g]
 simp -implicitDefEqProofs only [evI, hv, effC, reduceCtorEq, ↓reduceIte, n1_, n2_, n3_, n4_, n5_, i1_, i2_, i3_, i4_, i5_, i6_, i7_, aeq, Option.map_some]
 have e0 : (in0 (mG b 0) == false && in0 (rngM b) == false ^^ true) = (in0 (mG b 0) || in0 (rngM b)) := by cases in0 (mG b 0) <;> cases in0 (rngM b) <;> rfl
 rw [e0]
 unfold divM
 cases hd : (in0 (mG b 0) || in0 (rngM b))
 ·have e1 : qC a b 0 = List.replicate 10 (0, 0) := rfl
  have e2 : ofM [] = List.replicate 10 (0, 0) := by rfl
  refine ev ?_
  refine a0 (T1) rfl ?_
  refine ev ?_
  rw [e2]
  repeat with_reducible refine andO ?_
  rw [s4 _ _ (by rw [j9]; rfl), <- e1]
  refine ⟨by rw [e1]; rfl, ?_⟩
  refine d0K a b ha hb _ λv w => ?_
  have hl := c2w a b 9 (by decide)
  have hq : divQ a b 9 ++ [(0, 0)] = qC a b 9 := rfl
  have hset : (qC a b 9).set 9 (T2 (rngM (zipM z4 a (mulM b (qC a b 9)))) (rngM b)) = divQ a b 9 ++ [T2 (rngM (zipM z4 a (mulM b (qC a b 9)))) (rngM b)] := by
   have := a6a a b 9
   unfold qC
   rw [List.set_append_right _ _ (by omega), this]; rfl
  rw [hq, <- hset]
  generalize qC a b 9 = q at hl ⊢
  refine evx (And.intro (C7 a ha) (And.intro (C7 b hb) (C7 q hl))) ?_
  repeat with_reducible refine andO ?_
  first | refine a0 (E9 b q hb hl) (by simp [r4, j4]) ?_ | refine d7 (E9 b q hb hl) (by simp [r4, j4]) ?_ | refine d5 (E9 b q hb hl) (by simp [r4, j4]) ?_
  refine ev ?_
  first | refine a0 (x9 a (mulM b q) ha (a3H b q)) (by simp [r4, j4]) ?_ | refine d7 (x9 a (mulM b q) ha (a3H b q)) (by simp [r4, j4]) ?_ | refine d5 (x9 a (mulM b q) ha (a3H b q)) (by simp [r4, j4]) ?_
  refine ev ?_
  first | refine a0 (m6 (zipM z4 a (mulM b q)) (G3 _ _ _)) (by simp [r4, j4]) ?_ | refine d7 (m6 (zipM z4 a (mulM b q)) (G3 _ _ _)) (by simp [r4, j4]) ?_ | refine d5 (m6 (zipM z4 a (mulM b q)) (G3 _ _ _)) (by simp [r4, j4]) ?_
  refine ev ?_
  refine a0 (N8 (rngM (zipM z4 a (mulM b q))) (rngM b)) rfl ?_
  generalize T2 (rngM (zipM z4 a (mulM b q))) (rngM b) = r
  refine ev ?_
  have f : ((ivC q).set 18 (fl r.1)).set 19 (fl r.2) = ivC (q.set 9 r) := K6 q 9 r.1 r.2 (by omega)
  have hl2 : (q.set 9 r).length = 10 := by rw [List.length_set]; exact hl
  rw [f]
  simp -implicitDefEqProofs only [evI, hv, effC, reduceCtorEq, ↓reduceIte, n1_, n2_, n3_, n4_, n5_, i1_, i2_, i3_, i4_, i5_, i6_, i7_, C7 _ hl2]
  repeat with_reducible refine andO ?_
  rw [s4 _ _ (by rw [j9, hl2]; rfl)]
  exact C8 _ (by omega) (by decide) rfl rfl rfl
 ·have hn : noneM.length = 10 := by rfl
  refine ev ?_
  refine a0 (b1F) rfl ?_
  refine ev ?_
  repeat with_reducible refine andO ?_
  rw [s4 _ _ (by rw [j9, hn]; rfl)]
  exact C8 _ (by omega) (by decide) rfl rfl rfl
def a29 : CA := (.seq (.reg [i_N 0 15 .lss 14 13] [1, 2, 5, 12, 13, 14, 15]) (.seq (.cond (.t 15) .skip (.exit 0)) (.seq (.block 1 (.seq (.reg [i_I 0 16 12 14 4, i_A 1 17 16 4, i_X 2 7 (.alloc [fI 0, fI 0, fI 0, fl 0] 81), i_S 3 7 17 4] [1, 2, 5, 7, 12, 13, 14]) (.seq (.reg [i_P 0 18 7 0, i_L 1 19 18 1] [1, 2, 5, 7, 12, 13, 14, 19]) (.block 2 (.seq (.reg [i_B 0 21 .eql 19 0, i_M 1 20 21] [1, 2, 5, 7, 12, 13, 14, 19, 20]) (.cond (.t 20) (.reg [i_M 0 22 5, i_P 1 23 7 3, i_L 2 24 23 1, i_X 3 25 (.bslice [fl 0] 1 1 [(0, (1, (.t 24)))] 31), i_X 4 26 (.callA (kF 187) [(.t 25)]), i_X 5 27 (.bslice z_20 1 20 [(0, (20, (.t 26)))] 123), i_X 6 28 (.app (.t 22) (.t 27) 20 160), i_M 7 5 28] [1, 2, 5, 12, 13, 14]) (.seq (.reg [i_B 0 30 .eql 19 1, i_M 1 29 30] [1, 2, 5, 7, 12, 13, 14, 19, 29]) (.cond (.t 29) (.reg [i_M 0 31 5, i_M 1 32 1, i_P 2 33 7 1, i_L 3 34 33 1, i_I 4 35 32 34 20, i_A 5 36 35 20, i_X 6 37 (.bslice z_20 1 20 [(0, (20, (.t 36)))] 123), i_X 7 38 (.app (.t 31) (.t 37) 20 160), i_M 8 5 38] [1, 2, 5, 12, 13, 14]) (.seq (.reg [i_B 0 40 .eql 19 2, i_M 1 39 40] [1, 2, 5, 7, 12, 13, 14, 19, 39]) (.cond (.t 39) (.reg [i_M 0 41 5, i_M 1 42 5, i_P 2 43 7 1, i_L 3 44 43 1, i_I 4 45 42 44 20, i_A 5 46 45 20, i_M 6 47 5, i_P 7 48 7 2, i_L 8 49 48 1, i_I 9 50 47 49 20, i_A 10 51 50 20, i_X 11 52 (.callA (kF 241) [(.t 46), (.t 51)]), i_X 12 53 (.bslice z_20 1 20 [(0, (20, (.t 52)))] 123), i_X 13 54 (.app (.t 41) (.t 53) 20 160), i_M 14 5 54] [1, 2, 5, 12, 13, 14]) (.seq (.reg [i_B 0 56 .eql 19 3, i_M 1 55 56] [1, 2, 5, 7, 12, 13, 14, 19, 55]) (.cond (.t 55) (.reg [i_M 0 57 5, i_M 1 58 5, i_P 2 59 7 1, i_L 3 60 59 1, i_I 4 61 58 60 20, i_A 5 62 61 20, i_M 6 63 5, i_P 7 64 7 2, i_L 8 65 64 1, i_I 9 66 63 65 20, i_A 10 67 66 20, i_X 11 68 (.callA (kF 196) [(.t 62), (.t 67)]), i_X 12 69 (.bslice z_20 1 20 [(0, (20, (.t 68)))] 123), i_X 13 70 (.app (.t 57) (.t 69) 20 160), i_M 14 5 70] [1, 2, 5, 12, 13, 14]) (.seq (.reg [i_B 0 72 .eql 19 4, i_M 1 71 72] [1, 2, 5, 7, 12, 13, 14, 19, 71]) (.cond (.t 71) (.reg [i_M 0 73 5, i_M 1 74 5, i_P 2 75 7 1, i_L 3 76 75 1, i_I 4 77 74 76 20, i_A 5 78 77 20, i_M 6 79 5, i_P 7 80 7 2, i_L 8 81 80 1, i_I 9 82 79 81 20, i_A 10 83 82 20, i_X 11 84 (.callA (kF 242) [(.t 78), (.t 83)]), i_X 12 85 (.bslice z_20 1 20 [(0, (20, (.t 84)))] 123), i_X 13 86 (.app (.t 73) (.t 85) 20 160), i_M 14 5 86] [1, 2, 5, 12, 13, 14]) (.seq (.reg [i_B 0 88 .eql 19 5, i_M 1 87 88] [1, 2, 5, 7, 12, 13, 14, 87]) (.cond (.t 87) (.reg [i_M 0 89 5, i_M 1 90 5, i_P 2 91 7 1, i_L 3 92 91 1, i_I 4 93 90 92 20, i_A 5 94 93 20, i_M 6 95 5, i_P 7 96 7 2, i_L 8 97 96 1, i_I 9 98 95 97 20, i_A 10 99 98 20, i_X 11 100 (.callA (kF 243) [(.t 94), (.t 99)]), i_X 12 101 (.bslice z_20 1 20 [(0, (20, (.t 100)))] 123), i_X 13 102 (.app (.t 89) (.t 101) 20 160), i_M 14 5 102] [1, 2, 5, 12, 13, 14]) .skip)))))))))))))))) (.reg [i_B 0 103 .add 14 1, i_M 1 14 103] [1, 2, 5, 12, 13, 14]))))
def a28 : CA := (.seq (.reg [i_N 0 111 .lss 110 109] [5, 8, 108, 109, 110, 111]) (.seq (.cond (.t 111) .skip (.exit 3)) (.seq (.block 4 (.seq (.reg [i_M 0 112 110, i_I 1 113 108 110 1, i_L 2 114 113 1, i_M 3 9 112, i_M 4 10 114] [5, 8, 9, 10, 108, 109, 110]) (.reg [i_M 0 115 8, i_M 1 116 9, i_M 2 117 5, i_M 3 118 10, i_I 4 119 117 118 20, i_A 5 120 119 20, i_I 6 121 115 116 20, i_S 7 121 120 20] [5, 8, 108, 109, 110]))) (.reg [i_B 0 122 .add 110 1, i_M 1 110 122] [5, 8, 108, 109, 110]))))
def a8m : CA := (.seq (.reg [i_X 0 2 (.box (.t 0) 3 28), i_X 1 4 (.h (.mov (.k .nil)))] [1, 2]) (.seq (.reg [i_X 0 5 (.h (.mov (.k .nil)))] [1, 2, 5]) (.seq (.seq (.reg [i_P 0 11 2 1, i_L 1 12 11 1, i_X 2 13 (.h (.len (.t 12))), i_K 3 14 0] [1, 2, 5, 12, 13, 14]) (.block 0 (.loop a29))) (.seq (.reg [i_P 0 104 2 0, i_L 1 105 104 1, i_X 2 106 (.mksl z_20 20 160 (.t 105) (.t 105) 123), i_M 3 8 106] [2, 5, 8]) (.seq (.seq (.reg [i_P 0 107 2 2, i_L 1 108 107 1, i_X 2 109 (.h (.len (.t 108))), i_K 3 110 0] [5, 8, 108, 109, 110]) (.block 3 (.loop a28))) (.seq (.reg [i_M 0 123 8, i_M 1 4 123] [4]) .ret))))))
theorem a7t : f7 Tryz.prog 193 = some ⟨124, [(4, none)], a8m.strip⟩ := by kernel_rfl
theorem a5D (ps : List Iv) : Scalar (.agg (ivC ps)) := by
 refine .agg λj hj => ?_
 rw [P5, d2d, List.getElem?_map]
 have hj2 : j < (ivDs ps).length := by rw [P5, List.length_map] at hj; exact hj
 rw [d2f hj2]
 show Scalar (.d (ivDs ps)[j])
 have : ∀ d ∈ ivDs ps, Scalar (.d d) := λd hd => by
  unfold ivDs at hd
  obtain ⟨p, _, hp⟩ := List.mem_flatMap.1 hd
  simp at hp
  rcases hp with rfl | rfl <;> exact .flt _
 exact this _ (List.getElem_mem hj2)
theorem a4Q (r : List Md) (i : Nat) (h : (r.getD i []).length = 10) : (mdG r i).length = 20 := by show (ivDs _).length = 20; rw [a9s, h]
theorem c5r (t : Tp) (x : List Md) (i j : Nat) (h : j < i) : (regM t x (i + 1)).getD j [] = (regM t x i).getD j [] := by
 have hl := a9p t x i
 rw [regM, d2d, d2g (by omega), <- d2d]
theorem c2q (t : Tp) (x : List Md) (i : Nat) : (regM t x (i + 1)).getD i [] = opM (t.ops.getD i ⟨0, 0, 0, 0⟩) x (regM t x i) := by
 have hl := a9p t x i
 rw [regM, d2d, d2j (by omega), hl, Nat.sub_self]; rfl
theorem c2p (t : Tp) (x : List Md) (i : Nat) : g7 (i + 1) (mdG (regM t x (i + 1))) = g7 i (mdG (regM t x i)) ++ ivC (opM (t.ops.getD i ⟨0, 0, 0, 0⟩) x (regM t x i)) := by
 rw [E1]
 have e : g7 i (mdG (regM t x (i + 1))) = g7 i (mdG (regM t x i)) := by
  unfold g7
  rw [a2E λj hj => ?_]
  simp only [mdG, c5r t x i j hj]
 rw [e, P5, mdG, c2q]
def outG (g : Nat -> Md) (i j : Nat) : List D := if j < i then ivDs (g j) else ivDs (List.replicate 10 (0, 0))
theorem b3P (g : Nat -> Md) (i j : Nat) (h : (g j).length = 10) : (outG g i j).length = 20 := by
 unfold outG; split
 ·rw [a9s, h]
 ·rw [a9s]; rfl
theorem b5m {get get' : Nat -> List D} {esz : Nat} (n : Nat) (h : ∀ i, i < n -> (get i).length = esz) (h' : ∀ i, i < n -> (get' i).length = esz) (i : Nat) (hi : i < n) (he : ∀ j, j < n -> j ≠ i -> get' j = get j) : t6 (g7 n get) (i * esz) ((get' i).map .d) = g7 n get' := by
 have l1 := u9 n h
 have l2 := u9 n h'
 refine List.ext_getElem? λk => ?_
 rw [a5B, List.length_map, h' i hi, l1]
 by_cases hk : k < n * esz
 ·have e0 : 0 < esz := by
   rcases Nat.eq_zero_or_pos esz with h0 | h0
   ·subst h0; simp at hk
   ·exact h0
  have e1 : k / esz < n := (Nat.div_lt_iff_lt_mul e0).2 hk
  have e2 : k % esz < esz := Nat.mod_lt _ e0
  have e3 : k / esz * esz + k % esz = k := Nat.div_add_mod' k esz
  have g1 := P0 n h (k / esz) (k % esz) e1 e2
  have g2 := P0 n h' (k / esz) (k % esz) e1 e2
  rw [e3, d2d, d2f (by omega)] at g1 g2
  rw [d2f (by omega : k < (g7 n get').length)]
  by_cases hb : i * esz <= k /\ k < i * esz + esz /\ k < n * esz
  ·rw [if_pos hb]
   have ei : k / esz = i := by
    refine Nat.div_eq_of_lt_le (by omega) ?_
    rw [Nat.succ_mul]; omega
   have ej : k - i * esz = k % esz := by rw [<- ei]; omega
   rw [ej, List.getElem?_map, d2f (by rw [h' i hi]; exact e2)]
   simp only [Option.getD_some] at g2
   rw [g2, ei]
   simp [d2d, h' i hi, e2]
  ·rw [if_neg hb, d2f (by omega)]
   have en : k / esz ≠ i := λe => hb ⟨by rw [<- e]; omega, by rw [<- e]; omega, hk⟩
   simp only [Option.getD_some] at g1 g2
   rw [g1, g2, he _ e1 en]
 ·rw [if_neg (by omega), d2n (by omega), d2n (by omega)]
theorem c2L (g : Nat -> Md) (n : Nat) : repl n [fl 0, fl 0, fl 0, fl 0, fl 0, fl 0, fl 0, fl 0, fl 0, fl 0, fl 0, fl 0, fl 0, fl 0, fl 0, fl 0, fl 0, fl 0, fl 0, fl 0] = g7 n (outG g 0) := by
 induction n with
 | zero => rfl
 | succ n ih =>
  rw [E1, <- ih]
  unfold repl
  rw [List.replicate_succ', List.flatten_append]
  rfl
theorem c5E (g : Nat -> Md) (n : Nat) : g7 n (outG g n) = g7 n λj => ivDs (g j) := by
 unfold g7
 rw [a2E λj hj => by unfold outG; rw [if_pos hj]]
theorem b7F (r : List Md) (i : Nat) : (mdG r i).map V.d = ivC (r.getD i []) := (P5 _).symm
theorem K7 (p : Md) (h : p.length = 10) : (ivC p).length = 20 := by rw [j9, h]
theorem H7 (p : Md) (h : p.length = 10) : t6 [fl 0, fl 0, fl 0, fl 0, fl 0, fl 0, fl 0, fl 0, fl 0, fl 0, fl 0, fl 0, fl 0, fl 0, fl 0, fl 0, fl 0, fl 0, fl 0, fl 0] 0 (ivC p) = ivC p := s4 _ _ (by rw [j9, h]; rfl)
theorem b1G (t : Tp) (x : List Md) (ht : Tok t) (hx : x.length = t.n) (hxr : ∀ i, i < t.n -> (x.getD i []).length = 10) (hlen : t.ops.length < 2 ^ 39) : Con Tryz.prog 193 [R7 t, .d (mdD x)] (.d (mdD (Y9 t x))) := by
 refine b7 a7t rfl f5 ?_
 refine evx @a8m.eq_1 ?_
 refine evx @opsD.eq_1 ?_
 refine j5 (n := t.ops.length) (λc s => ∃ i, c + i = t.ops.length /\ s = ⟨[(1, .d (mdD x)), (2, .ptr 0 0 0 3), (5, .sl 100 0 0 i 20 (i * 20)), (12, .d (opsD t.ops)), (13, fI t.ops.length), (14, fI i)],
   [(100, [g7 i (mdG (regM t x i))]), (0, [[fI t.n, .d (opsD t.ops), .d (rowI t.out)]])]⟩)
  (s0 := ⟨_, _⟩) (LeT.nilrow (X := 100) (esz := 20) (as' := [(1, .d (mdD x)), (2, .ptr 0 0 0 3), (5, .sl 100 0 0 0 20 0), (12, .d (opsD t.ops)), (13, fI t.ops.length), (14, fI 0)]) (by simp [d6, d9]) (λh => h) λi => ?_) ⟨0, by omega, rfl⟩ ?_
 ·simp only [look]
  repeat' split
  all_goals simp [opsD]
 rintro c s ⟨i, hc, rfl⟩
 have hl := a9p t x i
 have hrr : ∀ j, j < i -> ((regM t x i).getD j []).length = 10 := b5v t x ht hxr i (by omega)
 have hcl : (g7 i (mdG (regM t x i))).length = i * 20 := u9 i λj hj => a4Q _ _ (hrr j hj)
 refine evx (And.intro @a29.eq_1 @opsD.eq_1) ?_
 refine b9 (λh => ?_) (λh => ?_)
 ·replace h := d2b h
  have hop := ht.op i h
  have hstep := c2p t x i
  generalize ho : t.ops.getD i ⟨0, 0, 0, 0⟩ = o at hop hstep
  refine evx (And.intro @opG.eq_1 ho) ?_
  rcases hop with hk | ⟨hk, ha⟩ | ⟨hk, ha, hb⟩
  ·have hp := a1y [o.c]
   have e : g7 (i + 1) (mdG (regM t x (i + 1))) = g7 i (mdG (regM t x i)) ++ ivC (ofM [o.c]) := by rw [hstep]; simp [opM, hk]
   refine evx hk ?_
   repeat with_reducible refine andO ?_
   refine B6 [.d (rowD [o.c])] (a7T [o.c] (by simp)) ⟨N3 rfl rfl rfl, trivial⟩ (a5D _) ?_
   generalize ofM [o.c] = p at hp e ⊢
   refine evx (And.intro (K7 p hp) (And.intro (H7 p hp) (C7 p hp))) ?_
   repeat with_reducible refine andO ?_
   rw [show i * 20 + 20 = (i + 1) * 20 by omega, f0 (by omega) (by omega), <- e]
   exact ⟨c - 1, _, by omega, LeT.only (λX => decide (X <= 100)) (λ_ h => h) rfl (by simp [kpS]) (by simp [kpS]), i + 1, by omega, rfl⟩
  ·have hp := hxr o.a.toNat (by omega)
   have e : g7 (i + 1) (mdG (regM t x (i + 1))) = g7 i (mdG (regM t x i)) ++ ivC (x.getD o.a.toNat []) := by rw [hstep]; simp [opM, hk]
   have hg := a4Q x o.a.toNat hp
   simp -implicitDefEqProofs only [evI, hv, effC, reduceCtorEq, ↓reduceIte, n1_, n2_, n3_, n4_, n5_, i1_, i2_, i3_, i4_, i5_, i6_, i7_, hk, Int.reduceBEq, mdD, b7F, hg, C7 _ hp, K7 _ hp, H7 _ hp]
   repeat with_reducible refine andO ?_
   rw [show i * 20 + 20 = (i + 1) * 20 by omega, f0 (by omega) (by omega), <- e]
   exact ⟨c - 1, _, by omega, LeT.only (λX => decide (X <= 100)) (λ_ h => h) rfl (by simp [kpS]) (by simp [kpS]), i + 1, by omega, rfl⟩
  ·have ga := b3Z (regM t x i) i hrr o.a.toNat (by omega)
   have gb := b3Z (regM t x i) i hrr o.b.toNat (by omega)
   have la := hrr o.a.toNat (by omega)
   have lb := hrr o.b.toNat (by omega)
   rcases hk with hk | hk | hk | hk
   ·have hp := G3 y7 ((regM t x i).getD o.a.toNat []) ((regM t x i).getD o.b.toNat [])
    have e : g7 (i + 1) (mdG (regM t x (i + 1))) = g7 i (mdG (regM t x i)) ++ ivC (zipM y7 ((regM t x i).getD o.a.toNat []) ((regM t x i).getD o.b.toNat [])) := by rw [hstep]; simp [opM, hk]
    refine evbx (And.intro hk (And.intro ga gb)) ?_
    repeat with_reducible refine andO ?_
    first | refine a0 (a1A _ _ la lb) (by simp [r4, j4]) ?_ | refine d7 (a1A _ _ la lb) (by simp [r4, j4]) ?_ | refine d5 (a1A _ _ la lb) (by simp [r4, j4]) ?_
    generalize zipM y7 ((regM t x i).getD o.a.toNat []) ((regM t x i).getD o.b.toNat []) = p at hp e ⊢
    refine evx (And.intro (K7 p hp) (And.intro (H7 p hp) (C7 p hp))) ?_
    repeat with_reducible refine andO ?_
    rw [show i * 20 + 20 = (i + 1) * 20 by omega, f0 (by omega) (by omega), <- e]
    exact ⟨c - 1, _, by omega, LeT.only (λX => decide (X <= 100)) (λ_ h => h) rfl (by simp [kpS]) (by simp [kpS]), i + 1, by omega, rfl⟩
   ·have hp := G3 z4 ((regM t x i).getD o.a.toNat []) ((regM t x i).getD o.b.toNat [])
    have e : g7 (i + 1) (mdG (regM t x (i + 1))) = g7 i (mdG (regM t x i)) ++ ivC (zipM z4 ((regM t x i).getD o.a.toNat []) ((regM t x i).getD o.b.toNat [])) := by rw [hstep]; simp [opM, hk]
    refine evbx (And.intro hk (And.intro ga gb)) ?_
    repeat with_reducible refine andO ?_
    first | refine a0 (x9 _ _ la lb) (by simp [r4, j4]) ?_ | refine d7 (x9 _ _ la lb) (by simp [r4, j4]) ?_ | refine d5 (x9 _ _ la lb) (by simp [r4, j4]) ?_
    generalize zipM z4 ((regM t x i).getD o.a.toNat []) ((regM t x i).getD o.b.toNat []) = p at hp e ⊢
    refine evx (And.intro (K7 p hp) (And.intro (H7 p hp) (C7 p hp))) ?_
    repeat with_reducible refine andO ?_
    rw [show i * 20 + 20 = (i + 1) * 20 by omega, f0 (by omega) (by omega), <- e]
    exact ⟨c - 1, _, by omega, LeT.only (λX => decide (X <= 100)) (λ_ h => h) rfl (by simp [kpS]) (by simp [kpS]), i + 1, by omega, rfl⟩
   ·have hp := a3H ((regM t x i).getD o.a.toNat []) ((regM t x i).getD o.b.toNat [])
    have e : g7 (i + 1) (mdG (regM t x (i + 1))) = g7 i (mdG (regM t x i)) ++ ivC (mulM ((regM t x i).getD o.a.toNat []) ((regM t x i).getD o.b.toNat [])) := by rw [hstep]; simp [opM, hk]
    refine evbx (And.intro hk (And.intro ga gb)) ?_
    repeat with_reducible refine andO ?_
    first | refine a0 (E9 _ _ la lb) (by simp [r4, j4]) ?_ | refine d7 (E9 _ _ la lb) (by simp [r4, j4]) ?_ | refine d5 (E9 _ _ la lb) (by simp [r4, j4]) ?_
    generalize mulM ((regM t x i).getD o.a.toNat []) ((regM t x i).getD o.b.toNat []) = p at hp e ⊢
    refine evx (And.intro (K7 p hp) (And.intro (H7 p hp) (C7 p hp))) ?_
    repeat with_reducible refine andO ?_
    rw [show i * 20 + 20 = (i + 1) * 20 by omega, f0 (by omega) (by omega), <- e]
    exact ⟨c - 1, _, by omega, LeT.only (λX => decide (X <= 100)) (λ_ h => h) rfl (by simp [kpS]) (by simp [kpS]), i + 1, by omega, rfl⟩
   ·have hp := b9q ((regM t x i).getD o.a.toNat []) ((regM t x i).getD o.b.toNat [])
    have e : g7 (i + 1) (mdG (regM t x (i + 1))) = g7 i (mdG (regM t x i)) ++ ivC (divM ((regM t x i).getD o.a.toNat []) ((regM t x i).getD o.b.toNat [])) := by rw [hstep]; simp [opM, hk]
    refine evbx (And.intro hk (And.intro ga gb)) ?_
    repeat with_reducible refine andO ?_
    first | refine a0 (a1z _ _ la lb) (by simp [r4, j4]) ?_ | refine d7 (a1z _ _ la lb) (by simp [r4, j4]) ?_ | refine d5 (a1z _ _ la lb) (by simp [r4, j4]) ?_
    generalize divM ((regM t x i).getD o.a.toNat []) ((regM t x i).getD o.b.toNat []) = p at hp e ⊢
    refine evx (And.intro (K7 p hp) (And.intro (H7 p hp) (C7 p hp))) ?_
    repeat with_reducible refine andO ?_
    rw [show i * 20 + 20 = (i + 1) * 20 by omega, f0 (by omega) (by omega), <- e]
    exact ⟨c - 1, _, by omega, LeT.only (λX => decide (X <= 100)) (λ_ h => h) rfl (by simp [kpS]) (by simp [kpS]), i + 1, by omega, rfl⟩
 ·replace h := d2c h
  have e : i = t.ops.length := by omega
  subst e
  have hn := ht.n
  have hol := ht.outl
  have hev := b2N t x ht hxr
  have hel := b6c t x
  have hg0 : ∀ j, j < t.n -> (Y9 t x).getD j [] = (regM t x t.ops.length).getD (t.out.getD j 0).toNat [] := λj hj => by
   unfold Y9
   rw [d2d, List.getElem?_map, List.getElem?_range hj]; rfl
  refine ev ?_
  repeat with_reducible refine andO ?_
  rw [c2L (λj => (Y9 t x).getD j [])]
  refine r5 (n := t.n) (λc s => ∃ i, c + i = t.n /\ s = ⟨[(5, .sl 100 0 0 t.ops.length 20 (t.ops.length * 20)), (8, .sl 103 0 0 t.n 20 (t.n * 20)), (108, .d (rowI t.out)), (109, fI t.n), (110, fI i)],
   [(103, [g7 t.n (outG (λj => (Y9 t x).getD j []) i)]), (100, [g7 t.ops.length (mdG (regM t x t.ops.length))]), (0, [[fI t.n, .d (opsD t.ops), .d (rowI t.out)]])]⟩) ⟨0, by omega, by rw [<- hol]; rfl⟩ ?_
  rintro c s ⟨i, hc, rfl⟩
  have hlo := λi => u9 (esz := 20) t.n (get := outG (λj => (Y9 t x).getD j []) i) (λj hj => b3P _ _ _ (hev j hj))
  have hli := hlo i
  refine evx @a28.eq_1 ?_
  refine b9 (λh => ?_) (λh => ?_)
  ·replace h := d2b h
   have hi : i < t.n := by omega
   have ho := ht.out i hi
   have gb := b3Z (regM t x t.ops.length) t.ops.length hrr (t.out.getD i 0).toNat (by omega)
   rw [<- hg0 i hi] at gb
   have hp := hev i hi
   simp -implicitDefEqProofs only [evI, hv, effC, reduceCtorEq, ↓reduceIte, n1_, n2_, n3_, n4_, n5_, i1_, i2_, i3_, i4_, i5_, i6_, i7_, gb, K7 _ hp]
   repeat with_reducible refine andO ?_
   have es : t6 (g7 t.n (outG (λj => (Y9 t x).getD j []) i)) (i * 20) (ivC ((Y9 t x).getD i [])) = g7 t.n (outG (λj => (Y9 t x).getD j []) (i + 1)) := by
    have := b5m (esz := 20) t.n (get := outG (λj => (Y9 t x).getD j []) i) (get' := outG (λj => (Y9 t x).getD j []) (i + 1)) (λj hj => b3P _ _ _ (hev j hj)) (λj hj => b3P _ _ _ (hev j hj)) i hi (λj _ hne => by
     unfold outG
     by_cases e : j < i
     ·rw [if_pos e, if_pos (by omega)]
     ·rw [if_neg e, if_neg (by omega)])
    rw [<- this]
    unfold outG
    rw [if_pos (by omega), <- P5]
   rw [f0 (by omega) (by omega), es]
   exact ⟨c - 1, by omega, i + 1, by omega, rfl⟩
  ·replace h := d2c h
   have e : i = t.n := by omega
   subst e
   refine evx @Nat.lt_irrefl ?_
   rw [c5E]
   refine j6 (.sl 103 0 0 t.n 20 (t.n * 20)) (λ_ h => h) (f8 (t := 4) (by decide) rfl) ?_
   unfold mdD
   rw [hel]
   exact .d (y6 (esz := 20) (λY q h => by simp [g5] at h) (by simp [d8]; rfl) (λj hj => a4Q _ _ (hev j hj)) rfl)
section
variable (o : OpN) (r : List Nat) (dr : List (List Nat)) (n i q : Nat)
theorem c3v (hk : o.k = 0) : Con Tryz.prog 273 [jfV, opA o, fI i, fl q, .d (P7 r dr)] (fl (slo o q r dr i)) := by
 refine b7 m9 rfl f5 ?_
 refine evx @p8.eq_1 ?_
 refine evbx hk ?_
 first | refine a0 (v6 0) rfl ?_ | refine d7 (v6 0) rfl ?_ | refine d5 (v6 0) rfl ?_
 refine ev ?_
 have e : slo o q r dr i = 0 := by simp [slo, hk]
 rw [e]
 exact g9
theorem c3u (hk : o.k = 1) : Con Tryz.prog 273 [jfV, opA o, fI i, fl q, .d (P7 r dr)] (fl (slo o q r dr i)) := by
 refine b7 m9 rfl f5 ?_
 refine evx @p8.eq_1 ?_
 refine evbx hk ?_
 by_cases hai : o.a = (i : Int)
 ·have h' : (o.a == (i : Int)) = true := by simpa using hai
  refine evx h' ?_
  first | refine a0 (v6 4607182418800017408) rfl ?_ | refine d7 (v6 4607182418800017408) rfl ?_ | refine d5 (v6 4607182418800017408) rfl ?_
  refine ev ?_
  have e : slo o q r dr i = 4607182418800017408 := by simp [slo, hk, hai, oneW]
  rw [e]
  exact g9
 ·have h' : (o.a == (i : Int)) = false := by simpa using hai
  refine evbx h' ?_
  first | refine a0 (v6 0) rfl ?_ | refine d7 (v6 0) rfl ?_ | refine d5 (v6 0) rfl ?_
  refine ev ?_
  have e : slo o q r dr i = 0 := by simp [slo, hk, hai]
  rw [e]
  exact g9
variable (ha : 0 <= o.a /\ o.a < r.length) (hb : 0 <= o.b /\ o.b < r.length) (la : (dr.getD o.a.toNat []).length = n) (lb : (dr.getD o.b.toNat []).length = n) (hi : i < n)
include ha hb la lb hi
theorem c3t (hk : o.k = 2) : Con Tryz.prog 273 [jfV, opA o, fI i, fl q, .d (P7 r dr)] (fl (slo o q r dr i)) := by
 refine b7 m9 rfl f5 ?_
 refine evx @p8.eq_1 ?_
 refine evbx (And.intro hk (And.intro @P7.eq_1 @Y6.eq_1)) ?_
 refine ⟨ha, hb, by omega, by omega, ?_⟩
 first | refine a0 (A2 ((dr.getD o.a.toNat []).getD i 0) ((dr.getD o.b.toNat []).getD i 0)) rfl ?_ | refine d7 (A2 ((dr.getD o.a.toNat []).getD i 0) ((dr.getD o.b.toNat []).getD i 0)) rfl ?_ | refine d5 (A2 ((dr.getD o.a.toNat []).getD i 0) ((dr.getD o.b.toNat []).getD i 0)) rfl ?_
 refine ev ?_
 have e : slo o q r dr i = fop .add ((dr.getD o.a.toNat []).getD i 0) ((dr.getD o.b.toNat []).getD i 0) := by simp [slo, hk]
 rw [e]
 exact g9
theorem c3s (hk : o.k = 3) : Con Tryz.prog 273 [jfV, opA o, fI i, fl q, .d (P7 r dr)] (fl (slo o q r dr i)) := by
 refine b7 m9 rfl f5 ?_
 refine evx @p8.eq_1 ?_
 refine evbx (And.intro hk (And.intro @P7.eq_1 @Y6.eq_1)) ?_
 refine ⟨ha, hb, by omega, by omega, ?_⟩
 first | refine a0 (A1 ((dr.getD o.a.toNat []).getD i 0) ((dr.getD o.b.toNat []).getD i 0)) rfl ?_ | refine d7 (A1 ((dr.getD o.a.toNat []).getD i 0) ((dr.getD o.b.toNat []).getD i 0)) rfl ?_ | refine d5 (A1 ((dr.getD o.a.toNat []).getD i 0) ((dr.getD o.b.toNat []).getD i 0)) rfl ?_
 refine ev ?_
 have e : slo o q r dr i = fop .sub ((dr.getD o.a.toNat []).getD i 0) ((dr.getD o.b.toNat []).getD i 0) := by simp [slo, hk]
 rw [e]
 exact g9
theorem c3r (hk : o.k = 4) : Con Tryz.prog 273 [jfV, opA o, fI i, fl q, .d (P7 r dr)] (fl (slo o q r dr i)) := by
 refine b7 m9 rfl f5 ?_
 refine evx @p8.eq_1 ?_
 refine evbx (And.intro hk (And.intro @P7.eq_1 @Y6.eq_1)) ?_
 refine ⟨ha, hb, by omega, ?_⟩
 first | refine a0 (v5 ((dr.getD o.a.toNat []).getD i 0) (r.getD o.b.toNat 0)) rfl ?_ | refine d7 (v5 ((dr.getD o.a.toNat []).getD i 0) (r.getD o.b.toNat 0)) rfl ?_ | refine d5 (v5 ((dr.getD o.a.toNat []).getD i 0) (r.getD o.b.toNat 0)) rfl ?_
 refine ev ?_
 repeat with_reducible refine andO ?_
 first | refine a0 (v5 (r.getD o.a.toNat 0) ((dr.getD o.b.toNat []).getD i 0)) rfl ?_ | refine d7 (v5 (r.getD o.a.toNat 0) ((dr.getD o.b.toNat []).getD i 0)) rfl ?_ | refine d5 (v5 (r.getD o.a.toNat 0) ((dr.getD o.b.toNat []).getD i 0)) rfl ?_
 refine ev ?_
 first | refine a0 (A2 (fop .mul ((dr.getD o.a.toNat []).getD i 0) (r.getD o.b.toNat 0)) (fop .mul (r.getD o.a.toNat 0) ((dr.getD o.b.toNat []).getD i 0))) rfl ?_ | refine d7 (A2 (fop .mul ((dr.getD o.a.toNat []).getD i 0) (r.getD o.b.toNat 0)) (fop .mul (r.getD o.a.toNat 0) ((dr.getD o.b.toNat []).getD i 0))) rfl ?_ | refine d5 (A2 (fop .mul ((dr.getD o.a.toNat []).getD i 0) (r.getD o.b.toNat 0)) (fop .mul (r.getD o.a.toNat 0) ((dr.getD o.b.toNat []).getD i 0))) rfl ?_
 refine ev ?_
 have e : slo o q r dr i = fop .add (fop .mul ((dr.getD o.a.toNat []).getD i 0) (r.getD o.b.toNat 0)) (fop .mul (r.getD o.a.toNat 0) ((dr.getD o.b.toNat []).getD i 0)) := by simp [slo, hk]
 rw [e]
 exact g9
theorem c3q (hk : o.k = 5) : Con Tryz.prog 273 [jfV, opA o, fI i, fl q, .d (P7 r dr)] (fl (slo o q r dr i)) := by
 refine b7 m9 rfl f5 ?_
 refine evx @p8.eq_1 ?_
 refine evbx (And.intro hk (And.intro @P7.eq_1 @Y6.eq_1)) ?_
 refine ⟨ha, hb, by omega, by omega, ?_⟩
 first | refine a0 (v5 q ((dr.getD o.b.toNat []).getD i 0)) rfl ?_ | refine d7 (v5 q ((dr.getD o.b.toNat []).getD i 0)) rfl ?_ | refine d5 (v5 q ((dr.getD o.b.toNat []).getD i 0)) rfl ?_
 refine ev ?_
 first | refine a0 (A1 ((dr.getD o.a.toNat []).getD i 0) (fop .mul q ((dr.getD o.b.toNat []).getD i 0))) rfl ?_ | refine d7 (A1 ((dr.getD o.a.toNat []).getD i 0) (fop .mul q ((dr.getD o.b.toNat []).getD i 0))) rfl ?_ | refine d5 (A1 ((dr.getD o.a.toNat []).getD i 0) (fop .mul q ((dr.getD o.b.toNat []).getD i 0))) rfl ?_
 refine ev ?_
 first | refine a0 (H9 (fop .sub ((dr.getD o.a.toNat []).getD i 0) (fop .mul q ((dr.getD o.b.toNat []).getD i 0))) (r.getD o.b.toNat 0)) rfl ?_ | refine d7 (H9 (fop .sub ((dr.getD o.a.toNat []).getD i 0) (fop .mul q ((dr.getD o.b.toNat []).getD i 0))) (r.getD o.b.toNat 0)) rfl ?_ | refine d5 (H9 (fop .sub ((dr.getD o.a.toNat []).getD i 0) (fop .mul q ((dr.getD o.b.toNat []).getD i 0))) (r.getD o.b.toNat 0)) rfl ?_
 refine ev ?_
 have e : slo o q r dr i = fop .div (fop .sub ((dr.getD o.a.toNat []).getD i 0) (fop .mul q ((dr.getD o.b.toNat []).getD i 0))) (r.getD o.b.toNat 0) := by simp [slo, hk]
 rw [e]
 exact g9
end
theorem c0F (o : OpN) (r : List Nat) (dr : List (List Nat)) (n i q : Nat) (ho : Oko o r.length n) (hdr : ∀ j, j < r.length -> (dr.getD j []).length = n) (hi : i < n) : Con Tryz.prog 273 [jfV, opA o, fI i, fl q, .d (P7 r dr)] (fl (slo o q r dr i)) := by
 rcases ho with hk | ⟨hk, ha⟩ | ⟨hk, ha, hb⟩
 ·exact c3v o r dr i q hk
 ·exact c3u o r dr i q hk
 ·have la := hdr o.a.toNat (by omega)
  have lb := hdr o.b.toNat (by omega)
  rcases hk with hk | hk | hk | hk
  ·exact c3t o r dr n i q ha hb la lb hi hk
  ·exact c3s o r dr n i q ha hb la lb hi hk
  ·exact c3r o r dr n i q ha hb la lb hi hk
  ·exact c3q o r dr n i q ha hb la lb hi hk
theorem a9G (r : List Nat) (dr : List (List Nat)) (i : Nat) : (Y6 r dr i).length = 2 := rfl
theorem c2m (t : Tp) (x : List Nat) (i : Nat) : g7 (i + 1) (Y6 (regs t x (i + 1)) (drs t x (i + 1))) = g7 i (Y6 (regs t x i) (drs t x i)) ++ [fl ((regs t x (i + 1)).getD i 0), .d (rowD ((drs t x (i + 1)).getD i []))] := by
 rw [E1]
 have h1 := Z7 t x i
 have h2 := b0n t x i
 have e : g7 i (Y6 (regs t x (i + 1)) (drs t x (i + 1))) = g7 i (Y6 (regs t x i) (drs t x i)) := by
  unfold g7
  rw [a2E λj hj => ?_]
  have a : (regs t x (i + 1)).getD j 0 = (regs t x i).getD j 0 := by
   rw [regs, d2d, d2g (by omega), <- d2d]
  have b : (drs t x (i + 1)).getD j [] = (drs t x i).getD j [] := by
   rw [drs, d2d, d2g (by omega), <- d2d]
  simp only [Y6, a, b]
 rw [e]; rfl
theorem c2n (t : Tp) (x : List Nat) (i : Nat) : (regs t x (i + 1)).getD i 0 = opV (t.ops.getD i ⟨0, 0, 0, 0⟩) x (regs t x i) := by
 have h1 := Z7 t x i
 rw [regs, d2d, d2j (by omega), h1, Nat.sub_self]; rfl
theorem c6v (t : Tp) (x : List Nat) (i : Nat) : (drs t x (i + 1)).getD i [] = tabR (slo (t.ops.getD i ⟨0, 0, 0, 0⟩) (opV (t.ops.getD i ⟨0, 0, 0, 0⟩) x (regs t x i)) (regs t x i) (drs t x i)) t.n := by
 have h1 := b0n t x i
 rw [drs, d2d, d2j (by omega), h1, Nat.sub_self]; rfl
abbrev jtT (t : Tp) : List V := [fI t.n, .d (opsD t.ops), .d (rowI t.out)]
abbrev jfC : List V := [.d (.fn 267 [] []), .d (.fn 268 [] []), .d (.fn 269 [] []), .d (.fn 270 [] []), .d (.fn 271 [] [])]
abbrev jR (t : Tp) (x : List Nat) (i : Nat) : T := ⟨[(2, .d (rowD x)), (3, .ptr 0 0 0 5), (4, .ptr 1 0 0 3), (7, .sl 10 0 0 i 2 (i * 2)), (16, .d (opsD t.ops)), (17, fI t.ops.length), (18, fI i)],
 [(10, [g7 i (Y6 (regs t x i) (drs t x i))]), (1, [jtT t]), (0, [jfC])]⟩
abbrev opC (o : OpN) : List V := [fI o.k, fI o.a, fI o.b, fl o.c]
abbrev jS1 (t : Tp) (x : List Nat) (i k : Nat) : Sl := [(2, .d (rowD x)), (3, .ptr 0 0 0 5), (4, .ptr 1 0 0 3), (7, .sl 10 0 0 i 2 (i * 2)), (9, .ptr 13 0 0 4), (10, .ptr 20 0 0 2), (16, .d (opsD t.ops)), (17, fI t.ops.length), (18, fI i), (29, fI t.n), (30, fI k)]
abbrev jH1 (t : Tp) (x : List Nat) (i : Nat) (o : OpN) : Heap := [(13, [opC o]), (10, [g7 i (Y6 (regs t x i) (drs t x i))]), (1, [jtT t]), (0, [jfC])]
abbrev jT0 (t : Tp) (x : List Nat) (i : Nat) (o : OpN) (v : Nat) : T := ⟨jS1 t x i 0, (20, [[fl v, .nil]]) :: jH1 t x i o⟩
abbrev jT1 (t : Tp) (x : List Nat) (i : Nat) (o : OpN) (v : Nat) (f : Nat -> Nat) (k : Nat) : T := ⟨jS1 t x i k, (15, [rowV (tabR f k)]) :: (20, [[fl v, .sl 15 0 0 k 1 k]]) :: jH1 t x i o⟩
theorem c8K (t : Tp) (x : List Nat) (i : Nat) (o : OpN) (v : Nat) (f : Nat -> Nat) (hn : t.n < 2 ^ 20) (hn0 : 0 < t.n) (hi : i < 2 ^ 40) (hop : Oko o i t.n) (hf : f = slo o v (regs t x i) (drs t x i)) (Q : Ex -> T -> Prop)
  (hQ : Q (.exit 2) ⟨[(2, .d (rowD x)), (3, .ptr 0 0 0 5), (4, .ptr 1 0 0 3), (7, .sl 10 0 0 i 2 (i * 2)), (9, .ptr 13 0 0 4), (10, .ptr 20 0 0 2), (16, .d (opsD t.ops)), (17, fI t.ops.length), (18, fI i), (29, fI t.n), (30, fI t.n), (31, fB false)],
   (15, [rowV (tabR f t.n)]) :: (20, [[fl v, .sl 15 0 0 t.n 1 t.n]]) :: jH1 t x i o⟩) :
  WA Tryz.prog (λ_ => False) 73 A_jac_kind_float64_run_L1.loop Q (jT0 t x i o v) := by
 have hl := Z7 t x i
 have hdl := b0n t x i
 have hrow := b4r t x i
 have hcl := u9 i (λj _ => a9G (regs t x i) (drs t x i) j)
 have hcon : ∀ k, k < t.n -> Con Tryz.prog 273 [jfV, opA o, fI k, fl v, .d (P7 (regs t x i) (drs t x i))] (fl (f k)) := λk hk => by
  rw [hf]; exact c0F o _ _ t.n k v (by rw [hl]; exact hop) (λj hj => hrow j (by omega)) hk
 clear hf hrow
 refine j5 (n := t.n) (λc s => ∃ k, c + k = t.n /\ ((k = 0 /\ s = jT0 t x i o v) \/ (0 < k /\ s = jT1 t x i o v f k))) (Le.refl _) ⟨0, by omega, .inl ⟨rfl, rfl⟩⟩ ?_
 rintro c s ⟨k, hc, ⟨rfl, rfl⟩ | ⟨hk, rfl⟩⟩
 ·refine evx @A_jac_kind_float64_run_L1.eq_1 ?_
  have h0 : decide ((0 : Int) < (t.n : Int)) = true := by simpa using hn0
  refine evx h0 ?_
  refine a1G [jfV, opA o, fI (0 : Nat), fl v, .d (P7 (regs t x i) (drs t x i))] (hcon 0 hn0) ⟨.aggs ⟨.bare _, .bare _, .bare _, .bare _, .bare _, trivial⟩, .aggs ⟨.bare _, .bare _, .bare _, .bare _, trivial⟩, .bare _, .bare _, ?_, trivial⟩ (.flt _) ?_
  ·have e : P7 (regs t x i) (drs t x i) = .bor i (Y6 (regs t x i) (drs t x i)) := by unfold P7; rw [hl]
   rw [e]
   exact a3D (by simp [b0c, d8, g5]) (λj _ => rfl) rfl
  refine ev ?_
  refine ⟨c - 1, jT1 t x i o v f 1, by omega, ?_, 1, by omega, .inr ⟨by decide, rfl⟩⟩
  refine Le.trans (LeT.only (L' := (31, [[fl (f 0)]]) :: (20, [[fl v, .sl 31 0 0 1 1 1]]) :: jH1 t x i o) (λX => X != 30) (λ_ h => h) rfl (by simp [kpS]) (by simp [kpS])) ?_
  refine Le.trans (LeT.move 15 (by decide) (by simp [d6, d9]) (by simp [d6, d9]) (λh => h)) ?_
  have e1 : renS (absF 31 15 0) (jS1 t x i 1) = jS1 t x i 1 := by simp [renS, V.ren, absF]
  have e2 : Heap.renH (absF 31 15 0) ((20, [[fl v, .sl 31 0 0 1 1 1]]) :: jH1 t x i o) = (20, [[fl v, .sl 15 0 0 1 1 1]]) :: jH1 t x i o := by
   simp [Heap.renH, V.ren, absF, b2t]
  have e3 : [fl (f 0)].map (V.ren (absF 31 15 0)) = rowV (tabR f 1) := by simp [V.ren, tabR, rowV]
  rw [e2, e3]
  exact (congrArg (λz => Le (λ_ => False) (T.s 73 ⟨z, (jT1 t x i o v f 1).L⟩) (T.s 73 (jT1 t x i o v f 1))) e1).mpr (Le.refl _)
 ·have hrl := k8 f k
  refine evx @A_jac_kind_float64_run_L1.eq_1 ?_
  refine b9 (λh => ?_) (λh => ?_)
  ·replace h := d2b h
   refine ev ?_
   refine a1G [jfV, opA o, fI k, fl v, .d (P7 (regs t x i) (drs t x i))] (hcon k h) ⟨.aggs ⟨.bare _, .bare _, .bare _, .bare _, .bare _, trivial⟩, .aggs ⟨.bare _, .bare _, .bare _, .bare _, trivial⟩, .bare _, .bare _, ?_, trivial⟩ (.flt _) ?_
   ·have e : P7 (regs t x i) (drs t x i) = .bor i (Y6 (regs t x i) (drs t x i)) := by unfold P7; rw [hl]
    rw [e]
    exact a3D (by simp [b0c, d8, g5]) (λj _ => rfl) rfl
   refine ev ?_
   repeat with_reducible refine andO ?_
   have e1 : rowV (tabR f k) ++ [fl (f k)] = rowV (tabR f (k + 1)) := (J6 f k).symm
   rw [f0 (by omega) (by omega), e1]
   exact ⟨c - 1, _, by omega, LeT.only (λX => decide (X <= 20)) (λ_ h => h) rfl (by simp [kpS]) (by simp [kpS]), k + 1, by omega, .inr ⟨by omega, rfl⟩⟩
  ·replace h := d2c h
   have e : k = t.n := by omega
   subst e
   refine evx @Nat.lt_irrefl ?_
   exact hQ
def jacG (t : Tp) (x : List Nat) (i : Nat) : D := rowD ((jacT t x).getD i [])
theorem c8J (t : Tp) (x : List Nat) (ht : Tok t) (hx : x.length = t.n) (hn0 : 0 < t.n) : AC Tryz.prog 260 [jfV, R7 t, .d (rowD x)] [] [(13, [g7 t.n (a1w (jacT t x))])] (.sl 13 0 0 t.n 1 t.n) := by
 have hn := ht.n
 have hlen := ht.len
 refine k9 X3 rfl f5 (λ_ => False) (by simp [g5]) ?_
 refine evx (And.intro @M8.eq_1 @opsD.eq_1) ?_
 refine j5 (n := t.ops.length) (λc s => ∃ i, c + i = t.ops.length /\ s = jR t x i)
  (LeT.nilrow (X := 10) (esz := 2) (as' := (jR t x 0).sl) (by simp [d6, d9]) (λh => h) λi => ?_) ⟨0, by omega, rfl⟩ ?_
 ·simp only [look]
  repeat' split
  all_goals simp [rowD, opsD]
 rintro c s ⟨i, hc, rfl⟩
 have hl := Z7 t x i
 have hdl := b0n t x i
 have hcl := u9 i (λj _ => a9G (regs t x i) (drs t x i) j)
 refine evx (And.intro @G1.eq_1 @opsD.eq_1) ?_
 refine b9 (λh => ?_) (λh => ?_)
 ·replace h := d2b h
  have hop := ht.op i h
  have hra := c2n t x i
  have hda := c6v t x i
  generalize ho : t.ops.getD i ⟨0, 0, 0, 0⟩ = o at hop hra hda
  refine evx (And.intro @opG.eq_1 ho) ?_
  repeat with_reducible refine andO ?_
  refine B6 [jfV, opA o, .d (rowD x), .d (P7 (regs t x i) (drs t x i))] (c0E o x (regs t x i) (drs t x i) t.n (by rw [hl]; exact hop) hx) ⟨.aggs ⟨.bare _, .bare _, .bare _, .bare _, .bare _, trivial⟩, .aggs ⟨.bare _, .bare _, .bare _, .bare _, trivial⟩, .bare _, ?_, trivial⟩ (.flt _) ?_
  ·have e : P7 (regs t x i) (drs t x i) = .bor i (Y6 (regs t x i) (drs t x i)) := by unfold P7; rw [hl]
   rw [e]
   exact a3D (by simp [d8, g5]) (λj _ => rfl) rfl
  refine ev ?_
  have hr1 := c2m t x i
  rw [hra, hda] at hr1
  generalize hv1 : opV o x (regs t x i) = v at hr1
  refine c8K t x i o v _ ht.n hn0 (by omega) hop rfl _ ?_
  generalize slo o v (regs t x i) (drs t x i) = f at hr1
  have hfl := k8 f t.n
  refine ev ?_
  repeat with_reducible refine andO ?_
  have e2 : i * 2 + 2 = (i + 1) * 2 := by omega
  rw [f0 (by omega) (by omega), e2]
  have hz : ∀ L L' : Heap, L.get 15 0 = some (rowV (tabR f t.n)) -> L'.get 15 0 = none -> Fz L L' (.sl 15 0 0 t.n 1 t.n) (.d (rowD (tabR f t.n))) := λL L' a b => b0C a hfl rfl b
  refine ⟨c - 1, jR t x (i + 1), by omega, ?_, i + 1, by omega, rfl⟩
  unfold jR
  rw [hr1]
  exact LeT.weak (λ_ h => h) (by simp (maxDischargeDepth := 6) [fzS]) (by simp (maxDischargeDepth := 6) [fzS, hz])
 ·replace h := d2c h
  have e : i = t.ops.length := by omega
  subst e
  refine ev ?_
  repeat with_reducible refine andO ?_
  rw [b5K t.n (jacG t x)]
  have hgl := ht.outl
  refine j5 (n := t.n) (λc s => ∃ i, c + i = t.n /\ s = ⟨[(7, .sl 10 0 0 t.ops.length 2 (t.ops.length * 2)), (12, .sl 13 0 0 t.n 1 t.n), (55, .d (rowI t.out)), (56, fI t.n), (57, fI i)],
   [(13, [outC t.n (jacG t x) i]), (10, [g7 t.ops.length (Y6 (regs t x t.ops.length) (drs t x t.ops.length))]), (1, [jtT t]), (0, [jfC])]⟩) (by rw [<- hgl]; exact Le.refl _) ⟨0, by omega, rfl⟩ ?_
  rintro c s ⟨i, hc, rfl⟩
  have hol := a5K t.n (jacG t x) i
  refine evx @G0.eq_1 ?_
  refine b9 (λh => ?_) (λh => ?_)
  ·replace h := d2b h
   have hgo := ht.out i h
   have hjr : (jacT t x).getD i [] = (drs t x t.ops.length).getD (t.out.getD i 0).toNat [] := by
    unfold jacT
    rw [d2d, List.getElem?_map, List.getElem?_range h]; rfl
   have hjl : ((jacT t x).getD i []).length = t.n := by rw [hjr]; exact b4r t x _ _ (by omega)
   have hcg := P0 t.ops.length (λj _ => a9G (regs t x t.ops.length) (drs t x t.ops.length) j) (t.out.getD i 0).toNat 1 (by omega) (by decide)
   have hg2 : (Y6 (regs t x t.ops.length) (drs t x t.ops.length) (t.out.getD i 0).toNat).getD 1 default = rowD ((jacT t x).getD i []) := by rw [hjr]; rfl
   rw [hg2] at hcg
   refine evx hcg ?_
   refine ⟨by omega, by omega, ⟨hcl, by omega⟩, ?_⟩
   refine ⟨by omega, h, ⟨hol, by omega⟩, ?_⟩
   rw [hjl, f0 (by omega) (by omega)]
   have hz : ∀ L L' : Heap, L.get 21 0 = some (rowV ((jacT t x).getD i [])) -> L'.get 21 0 = none -> Fz L L' (.sl 21 0 0 t.n 1 t.n) (.d (jacG t x i)) := λL L' a b => b0C a hjl rfl b
   refine ⟨c - 1, _, by omega, ?_, i + 1, by omega, rfl⟩
   exact LeT.weak (λ_ h => h) (by simp (maxDischargeDepth := 6) [fzS]) (by simp (maxDischargeDepth := 6) [fzS, hz, a71])
  ·replace h := d2c h
   have e : i = t.n := by omega
   subst e
   refine ev ?_
   rw [b8N]
   exact m5 (λX => X == 13) (λ_ h => h) (f8 (t := 6) (by decide) rfl) rfl (by simp [kpS]) (by simp [kpS])
theorem b82 (t : Tp) (x : List Nat) : (jacT t x).length = t.n := by simp [jacT]
theorem b36 (t : Tp) (x : List Nat) (ht : Tok t) (hx : x.length = t.n) (hn0 : 0 < t.n) : Con Tryz.prog 260 [jfV, R7 t, .d (rowD x)] (.d (g6 (jacT t x))) :=
 a00 (c8J t x ht hx hn0) (.d (by unfold g6; rw [b82]; exact y6 (esz := 1) (λY q h => by simp [g5] at h) (by simp [d8]) (λ_ _ => rfl) (by omega)))
theorem a4V (t : Tp) (x : List Nat) (ht : Tok t) (hx : x.length = t.n) (hn0 : 0 < t.n) : Con Tryz.prog 231 [R7 t, .d (rowD x)] (.d (g6 (jacT t x))) := by
 refine b7 b17 rfl f5 ?_
 refine evx @b6L.eq_1 ?_
 first | refine a0 (a4U) rfl ?_ | refine d7 (a4U) rfl ?_ | refine d5 (a4U) rfl ?_
 refine ev ?_
 first | refine a0 (b36 t x ht hx hn0) rfl ?_ | refine d7 (b36 t x ht hx hn0) rfl ?_ | refine d5 (b36 t x ht hx hn0) rfl ?_
 refine ev ?_
 exact g9
end Go.Ab
