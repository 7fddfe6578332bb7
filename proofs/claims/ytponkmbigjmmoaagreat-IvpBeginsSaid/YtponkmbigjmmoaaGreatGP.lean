/- Part 16: BM, BO, BW, BX, KB, BN. -/
import Derived.Test.YtponkmbigjmmoaaGreatGO
set_option maxRecDepth 16000
namespace Go.Ab
set_option linter.unusedSimpArgs false
set_option linter.unusedVariables false
open Nat renaming reduceEqDiff → n1_, reduceAdd → n2_, reduceMul → n3_, reduceLT → n4_, reduceLeDiff → n5_
open Int renaming reduceToNat → i1_, reduceAdd → i2_, reduceSub → i3_, reduceMul → i4_, reduceNeg → i5_, reduceLT → i6_, reduceLE → i7_
open Go Go.Proofs
def a5n : CA := (.seq (.reg [i_X 0 2 (.alloc [fl 0, fl 0] 83)] [0, 2]) (.seq (.reg [i_M 0 3 0, i_M 1 4 0, i_X 2 5 (.h (.build [fl 0, fl 0] [(0, (1, (.t 3))), (1, (1, (.t 4)))])), i_S 3 2 5 2] [2]) .ret))
theorem a5m : d6 Tryz.prog 191 = some ⟨6, [(2, (some (2, true)))], a5n.strip⟩ := by kernel_rfl
def A0 : CA := (.seq (.reg [i_X 0 4 (.box (.t 1) 2 83)] [0, 2, 4]) (.seq (.reg [i_M 0 7 2, i_A 1 8 4 2, i_X 2 9 (.callA (.t 7) [(.t 8)]), i_M 3 6 9] [0, 6]) (.seq (.reg [i_M 0 10 0, i_X 1 11 (.h (.nilck (.t 10))), i_P 2 12 11 1, i_L 3 13 12 1, i_X 4 14 (.h (.un .not (.t 13))), i_M 5 15 14, g_F 6 16 15 (.h (.mov (.t 6))), g_F 7 17 15 (.h (.mov (.t 0))), g_F 8 18 15 (.h (.nilck (.t 17))), g_F 9 19 15 (.h (.padd (.t 18) 0)), g_F 10 20 15 (.load (.t 19) 1 false), g_F 11 21 15 (.h (.fcmp .gt (.t 16) (.t 20))), i_X 12 22 (.h (.pick (.t 15) (.k (.d (.bool true))) (.t 21)))] [0, 6, 22]) (.cond (.t 22) (.reg [i_M 0 23 0, i_M 1 24 0, i_M 2 25 6, i_X 3 26 (.h (.nilck (.t 23))), i_P 4 27 26 0, i_S 5 27 25 1, i_X 6 28 (.h (.nilck (.t 24))), i_P 7 29 28 1, ⟨8, none, none, [], [], (.store (.t 29) (.k (.d (.bool true))) 1)⟩] []) .skip))))
theorem G1 : d6 Tryz.prog 189 = some ⟨30, [], A0.strip⟩ := by kernel_rfl
def v7 : CA := (.seq (.reg [i_X 0 4 (.box (.t 1) 20 123)] [0, 2, 4]) (.seq (.reg [i_M 0 7 2, i_A 1 8 4 20, i_X 2 9 (.callA (.t 7) [(.t 8)]), i_M 3 6 9] [0, 6]) (.seq (.reg [i_M 0 10 0, i_X 1 11 (.h (.nilck (.t 10))), i_P 2 12 11 1, i_L 3 13 12 1, i_X 4 14 (.h (.un .not (.t 13))), i_M 5 15 14, g_F 6 16 15 (.h (.mov (.t 6))), g_F 7 17 15 (.h (.mov (.t 0))), g_F 8 18 15 (.h (.nilck (.t 17))), g_F 9 19 15 (.h (.padd (.t 18) 0)), g_F 10 20 15 (.load (.t 19) 1 false), g_F 11 21 15 (.h (.fcmp .gt (.t 16) (.t 20))), i_X 12 22 (.h (.pick (.t 15) (.k (.d (.bool true))) (.t 21)))] [0, 6, 22]) (.cond (.t 22) (.reg [i_M 0 23 0, i_M 1 24 0, i_M 2 25 6, i_X 3 26 (.h (.nilck (.t 23))), i_P 4 27 26 0, i_S 5 27 25 1, i_X 6 28 (.h (.nilck (.t 24))), i_P 7 29 28 1, ⟨8, none, none, [], [], (.store (.t 29) (.k (.d (.bool true))) 1)⟩] []) .skip))))
theorem C5 : d6 Tryz.prog 195 = some ⟨30, [], v7.strip⟩ := by kernel_rfl
def U8 : CA := (.seq (.seq (.reg [i_M 0 22 5, i_B 1 23 .geq 22 0] [1, 2, 4, 5, 23]) (.cond (.t 23) .skip (.exit 0))) (.seq (.block 1 (.reg [i_A 0 26 4 2, i_X 1 27 (.callS 1 (kF 191) [(.k (.d (.flt 13830554455654793216)))]), i_X 2 28 (.callS 0 (kF 208) [(.t 26), (.t 27)]), i_P 3 29 1 0, i_L 4 30 29 1, i_M 5 31 5, i_I 6 32 30 31 1, i_L 7 33 32 1, i_P 8 34 1 1, i_L 9 35 34 1, i_I 10 36 33 35 1, i_L 11 37 36 1, i_X 12 38 (.callA (kF 191) [(.t 37)]), i_X 13 39 (.callA (kF 200) [(.t 28), (.t 38)]), i_S 14 4 39 2] [1, 2, 4, 5])) (.reg [i_M 0 24 5, i_B 1 25 .sub 24 1, i_M 2 5 25] [1, 2, 4, 5])))
def a2g : CA := (.seq (.reg [i_X 0 1 (.box (.t 0) 2 191), i_X 1 2 (.alloc [fl 0, fl 0] 83)] [1, 2]) (.seq (.reg [i_P 0 6 1 0, i_L 1 7 6 1, i_X 2 8 (.h (.len (.t 7))), i_B 3 9 .sub 8 1, i_M 4 3 9] [1, 2, 3]) (.seq (.reg [i_P 0 10 1 0, i_L 1 11 10 1, i_M 2 12 3, i_I 3 13 11 12 1, i_L 4 14 13 1, i_P 5 15 1 1, i_L 6 16 15 1, i_I 7 17 14 16 1, i_L 8 18 17 1, i_X 9 19 (.callS 0 (kF 191) [(.t 18)]), i_X 10 4 (.alloc [fl 0, fl 0] 83), i_S 11 4 19 2] [1, 2, 3, 4]) (.seq (.seq (.reg [i_M 0 20 3, i_B 1 21 .sub 20 1, i_M 2 5 21] [1, 2, 4, 5]) (.block 0 (.loop U8))) (.seq (.reg [i_A 0 40 4 2, i_S 1 2 40 2] [2]) .ret)))))
theorem a2P : d6 Tryz.prog 188 = some ⟨41, [(2, (some (2, true)))], a2g.strip⟩ := by kernel_rfl
def K2 : CA := (.seq (.reg [i_N 0 10 .lss 9 8] [1, 2, 3, 7, 8, 9, 10]) (.seq (.cond (.t 10) .skip (.exit 0)) (.seq (.block 1 (.seq (.reg [i_I 0 11 7 9 1, i_L 1 12 11 1, i_M 2 5 12] [1, 2, 3, 5, 7, 8, 9]) (.reg [i_M 0 13 3, i_M 1 14 5, i_P 2 15 1 1, i_L 3 16 15 1, i_I 4 17 14 16 1, i_L 5 18 17 1, i_X 6 19 (.bslice [fl 0] 1 1 [(0, (1, (.t 18)))] 31), i_X 7 20 (.app (.t 13) (.t 19) 1 8), i_M 8 3 20] [1, 2, 3, 7, 8, 9]))) (.reg [i_B 0 21 .add 9 1, i_M 1 9 21] [1, 2, 3, 7, 8, 9]))))
def U7 : CA := (.seq (.reg [i_X 0 1 (.box (.t 0) 2 191), i_X 1 2 (.alloc z_20 123)] [1, 2]) (.seq (.reg [i_X 0 3 (.h (.mov (.k .nil)))] [1, 2, 3]) (.seq (.seq (.reg [i_P 0 6 1 0, i_L 1 7 6 1, i_X 2 8 (.h (.len (.t 7))), i_K 3 9 0] [1, 2, 3, 7, 8, 9]) (.block 0 (.loop K2))) (.seq (.reg [i_M 0 22 3, i_X 1 23 (.callA (kF 187) [(.t 22)]), i_S 2 2 23 20] [2]) .ret))))
theorem a0L : d6 Tryz.prog 145 = some ⟨24, [(2, (some (20, true)))], U7.strip⟩ := by kernel_rfl
def K1 : CA := (.seq (.reg [i_N 0 13 .lss 12 11] [1, 2, 4, 5, 11, 12, 13]) (.seq (.cond (.t 13) .skip (.exit 0)) (.seq (.block 1 (.seq (.reg [i_M 0 14 12, i_M 1 6 14] [1, 2, 4, 5, 6, 11, 12]) (.reg [i_M 0 15 6, i_M 1 16 6, i_B 2 17 .add 16 1, i_X 3 18 (.h (.i2f (.t 17))), i_X 4 19 (.callS 0 (kF 191) [(.t 18)]), i_P 5 20 2 0, i_L 6 21 20 1, i_M 7 22 6, i_B 8 23 .add 22 1, i_I 9 24 21 23 1, i_L 10 25 24 1, i_P 11 26 2 1, i_L 12 27 26 1, i_I 13 28 25 27 1, i_L 14 29 28 1, i_X 15 30 (.callA (kF 191) [(.t 29)]), i_X 16 31 (.callA (kF 208) [(.t 19), (.t 30)]), i_M 17 32 1, i_X 18 33 (.callA (kF 191) [(.t 32)]), i_X 19 34 (.callA (kF 244) [(.t 31), (.t 33)]), i_P 20 35 5 0, i_X 21 36 (.h (.idxa (.t 35) (.t 15) 9 2)), i_S 22 36 34 2] [1, 2, 4, 5, 11, 12]))) (.reg [i_B 0 37 .add 12 1, i_M 1 12 37] [1, 2, 4, 5, 11, 12]))))
def U6 : CA := (.seq (.reg [i_X 0 2 (.box (.t 0) 2 191), i_X 1 4 (.alloc z_20 123)] [1, 2, 4]) (.seq (.reg [i_X 0 7 (.callA (kF 187) [(.k .nil)]), i_X 1 5 (.alloc z_20 123), i_S 2 5 7 20] [1, 2, 4, 5]) (.seq (.seq (.reg [i_P 0 8 2 0, i_L 1 9 8 1, i_X 2 10 (.h (.len (.t 9))), i_B 3 11 .sub 10 1, i_K 4 12 0] [1, 2, 4, 5, 11, 12]) (.block 0 (.loop K1))) (.seq (.reg [i_A 0 38 5 20, i_S 1 4 38 20] [4]) .ret))))
theorem a0K : d6 Tryz.prog 194 = some ⟨39, [(4, (some (20, true)))], U6.strip⟩ := by kernel_rfl
def a0V : CA := (.seq (.reg [i_N 0 11 .lss 10 9] [1, 3, 9, 10, 11]) (.seq (.cond (.t 11) .skip (.exit 0)) (.seq (.block 1 (.seq (.reg [i_M 0 12 10, i_M 1 4 12] [1, 3, 4, 9, 10]) (.reg [i_M 0 13 3, i_P 1 14 1 4, i_L 2 15 14 1, i_M 3 16 4, i_X 4 17 (.h (.build [.nil, fI 0] [(0, (1, (.t 15))), (1, (1, (.t 16)))])), i_X 5 18 (.bslice [.nil, fI 0] 1 2 [(0, (2, (.t 17)))] 191), i_X 6 19 (.app (.t 13) (.t 18) 2 32), i_M 7 3 19] [1, 3, 9, 10]))) (.reg [i_B 0 20 .add 10 1, i_M 1 10 20] [1, 3, 9, 10]))))
def a5q : CA := (.seq (.reg [i_X 0 1 (.box (.t 0) 5 40), i_X 1 2 (.h (.mov (.k .nil)))] [1]) (.seq (.reg [i_X 0 3 (.h (.mov (.k .nil)))] [1, 3]) (.seq (.seq (.reg [i_P 0 5 1 4, i_L 1 6 5 1, i_X 2 7 (.h (.idx (.t 6) (kI 0) 1)), i_L 3 8 7 1, i_X 4 9 (.h (.len (.t 8))), i_K 5 10 0] [1, 3, 9, 10]) (.block 0 (.loop a0V))) (.seq (.reg [i_M 0 21 3, i_M 1 2 21] [2]) .ret))))
theorem a5p : d6 Tryz.prog 144 = some ⟨22, [(2, none)], a5q.strip⟩ := by kernel_rfl
def a2j : CA := (.seq (.reg [i_N 0 12 .lss 11 10] [1, 5, 6, 9, 10, 11, 12]) (.seq (.cond (.t 12) .skip (.exit 0)) (.seq (.block 1 (.seq (.reg [i_M 0 13 11, i_I 1 14 9 11 2, i_A 2 15 14 2, i_X 3 8 (.alloc [.nil, fI 0] 191), i_M 4 7 13, i_S 5 8 15 2] [1, 5, 6, 7, 8, 9, 10, 11]) (.reg [i_M 0 16 6, i_A 1 17 8 2, i_X 2 18 (.callS 0 (.t 16) [(.t 17)]), i_M 3 19 1, i_M 4 20 7, i_I 5 21 19 20 1, i_L 6 22 21 1, i_X 7 23 (.callA (kF 191) [(.t 22)]), i_X 8 24 (.callA (kF 190) [(.t 18), (.t 23)]), i_X 9 25 (.callA (kF 189) [(.t 5), (.t 24), (kF 192)])] [1, 5, 6, 9, 10, 11]))) (.reg [i_B 0 26 .add 11 1, i_M 1 11 26] [1, 5, 6, 9, 10, 11]))))
def a7f : CA := (.seq (.reg [i_X 0 4 (.h (.mov (.k (.d (.flt 0)))))] [0, 1]) (.seq (.reg [i_X 0 5 (.alloc [fl 0, (.d (.bool false))] 229)] [0, 1, 5]) (.seq (.reg [i_X 0 6 (.h (.mov (kF 188)))] [0, 1, 5, 6]) (.seq (.seq (.reg [i_M 0 9 0, i_X 1 10 (.h (.len (.t 9))), i_K 2 11 0] [1, 5, 6, 9, 10, 11]) (.block 0 (.loop a2j))) (.seq (.reg [i_P 0 27 5 0, i_L 1 28 27 1, i_M 2 4 28] [4]) .ret)))))
theorem a6j : d6 Tryz.prog 146 = some ⟨29, [(4, none)], a7f.strip⟩ := by kernel_rfl
def a0c : CA := (.seq (.reg [i_N 0 20 .lss 19 18] [3, 9, 10, 11, 17, 18, 19, 20]) (.seq (.cond (.t 20) .skip (.exit 0)) (.seq (.block 1 (.seq (.reg [i_M 0 21 19, i_I 1 22 17 19 2, i_A 2 23 22 2, i_X 3 13 (.alloc [.nil, fI 0] 191), i_M 4 12 21, i_S 5 13 23 2] [3, 9, 10, 11, 12, 13, 17, 18, 19]) (.reg [i_M 0 24 10, i_M 1 25 12, i_I 2 26 24 25 20, i_A 3 27 26 20, i_M 4 28 11, i_A 5 29 13 2, i_M 6 30 3, i_X 7 31 (.callS 7 (.t 28) [(.t 29), (.t 30)]), i_X 8 32 (.callA (kF 196) [(.t 27), (.t 31)]), i_X 9 33 (.callA (kF 195) [(.t 9), (.t 32), (kF 197)])] [3, 9, 10, 11, 17, 18, 19]))) (.reg [i_B 0 34 .add 19 1, i_M 1 19 34] [3, 9, 10, 11, 17, 18, 19]))))
def a3t : CA := (.seq (.reg [i_X 0 4 (.box (.t 0) 3 28), i_X 1 8 (.h (.mov (.k (.d (.flt 0)))))] [1, 2, 3, 4]) (.seq (.reg [i_X 0 9 (.alloc [fl 0, (.d (.bool false))] 232)] [1, 2, 3, 4, 9]) (.seq (.reg [i_A 0 14 4 3, i_M 1 15 2, i_X 2 16 (.callA (kF 193) [(.t 14), (.t 15)]), i_M 3 10 16] [1, 3, 9, 10]) (.seq (.reg [i_X 0 11 (.h (.mov (kF 194)))] [1, 3, 9, 10, 11]) (.seq (.seq (.reg [i_M 0 17 1, i_X 1 18 (.h (.len (.t 17))), i_K 2 19 0] [3, 9, 10, 11, 17, 18, 19]) (.block 0 (.loop a0c))) (.seq (.reg [i_P 0 35 9 0, i_L 1 36 35 1, i_M 2 8 36] [8]) .ret))))))
theorem a4d : d6 Tryz.prog 147 = some ⟨37, [(8, none)], a3t.strip⟩ := by kernel_rfl
def a0W : CA := (.seq (.reg [i_X 0 1 (.box (.t 0) 20 123), i_X 1 2 (.h (.mov (.k (.d (.flt 0)))))] [1]) (.seq (.reg [i_A 0 3 1 20, i_X 1 4 (.callA (kF 198) [(.t 3)]), i_X 2 5 (.callA (kF 192) [(.t 4)]), i_M 3 2 5] [2]) .ret))
theorem a2k : d6 Tryz.prog 197 = some ⟨6, [(2, none)], a0W.strip⟩ := by kernel_rfl
def a2f : CA := (.seq (.reg [i_N 0 11 .lss 10 9] [1, 5, 8, 9, 10, 11]) (.seq (.cond (.t 11) .skip (.exit 0)) (.seq (.block 1 (.seq (.reg [i_I 0 12 8 10 20, i_A 1 13 12 20, i_X 2 7 (.alloc z_20 123), i_S 3 7 13 20] [1, 5, 7, 8, 9, 10]) (.reg [i_M 0 14 5, i_A 1 15 7 20, i_X 2 16 (.callA (kF 198) [(.t 15)]), i_M 3 17 1, i_X 4 18 (.h (.un .neg (.t 17))), i_M 5 19 1, i_X 6 20 (.callA (kF 201) [(.t 18), (.t 19)]), i_X 7 21 (.callA (kF 200) [(.t 16), (.t 20)]), i_X 8 22 (.bslice [fl 0, fl 0] 1 2 [(0, (2, (.t 21)))] 83), i_X 9 23 (.app (.t 14) (.t 22) 2 16), i_M 10 5 23] [1, 5, 8, 9, 10]))) (.reg [i_B 0 24 .add 10 1, i_M 1 10 24] [1, 5, 8, 9, 10]))))
def a7d : CA := (.seq (.reg [i_X 0 4 (.h (.mov (.k .nil)))] [0, 1]) (.seq (.reg [i_X 0 5 (.h (.mov (.k .nil)))] [0, 1, 5]) (.seq (.seq (.reg [i_M 0 8 0, i_X 1 9 (.h (.len (.t 8))), i_K 2 10 0] [1, 5, 8, 9, 10]) (.block 0 (.loop a2f))) (.seq (.reg [i_M 0 25 5, i_M 1 4 25] [4]) .ret))))
theorem a6g : d6 Tryz.prog 149 = some ⟨26, [(4, none)], a7d.strip⟩ := by kernel_rfl
def a0b : CA := (.seq (.reg [i_N 0 10 .lss 9 8] [1, 7, 8, 9, 10]) (.seq (.cond (.t 10) .skip (.exit 0)) (.seq (.block 1 (.seq (.reg [i_M 0 11 9, i_I 1 12 7 9 2, i_A 2 13 12 2, i_X 3 6 (.alloc [fl 0, fl 0] 83), i_M 4 5 11, i_S 5 6 13 2] [1, 5, 6, 7, 8, 9]) (.seq (.reg [i_A 0 14 6 2, i_M 1 15 1, i_M 2 16 5, i_I 3 17 15 16 2, i_A 4 18 17 2, i_X 5 19 (.callA (kF 202) [(.t 14), (.t 18)]), i_X 6 20 (.h (.un .not (.t 19)))] [1, 7, 8, 9, 20]) (.cond (.t 20) (.seq (.reg [i_X 0 4 (.h (.mov (.k (.d (.bool false)))))] [4]) .ret) .skip)))) (.reg [i_B 0 21 .add 9 1, i_M 1 9 21] [1, 7, 8, 9]))))
def a3r : CA := (.seq (.reg [i_X 0 4 (.h (.mov (.k (.d (.bool false)))))] [0, 1]) (.seq (.seq (.reg [i_M 0 7 0, i_X 1 8 (.h (.len (.t 7))), i_K 2 9 0] [1, 7, 8, 9]) (.block 0 (.loop a0b))) (.seq (.reg [i_X 0 4 (.h (.mov (.k (.d (.bool true)))))] [4]) .ret)))
theorem a4b : d6 Tryz.prog 150 = some ⟨22, [(4, none)], a3r.strip⟩ := by kernel_rfl
def a3s : CA := (.seq (.reg [i_X 0 4 (.h (.mov (.k (.d (.flt 0)))))] [0, 1]) (.seq (.seq (.reg [i_M 0 5 1, i_X 1 6 (.h (.fcmp .le (.t 5) (.k (.d (.flt 0)))))] [0, 1, 6]) (.cond (.t 6) (.seq (.reg [i_X 0 4 (.h (.mov (.k (.d (.flt 4607182418800017408)))))] [4]) .ret) .skip)) (.seq (.reg [i_M 0 7 0, i_M 1 8 1, i_F 2 9 .mul 7 8, i_X 3 10 (.callA (kF 148) [(.t 9)]), i_X 4 11 (.callA (kF 206) [(.t 10)]), i_X 5 12 (.h (.mm true (.k (.d (.flt 4607182418800017408))) (.t 11))), i_M 6 4 12] [4]) .ret)))
theorem a4c : d6 Tryz.prog 153 = some ⟨13, [(4, none)], a3s.strip⟩ := by kernel_rfl
theorem t6 (x : Nat) : Con Tryz.prog 191 [fl x] (ivV (pt x)) := by
 refine a3 a5m rfl d5 ?_
 refine evx @a5n.eq_1 ?_
 exact d8 rfl (by decide) rfl rfl rfl (by simp) (by simp [ldv, pt])
def gr (m : Nat) (s : Bool) (n : Nat) : Nat := if s = true then (if fcmp .gt n m = true then n else m) else n
theorem b9Z (m : Nat) (s : Bool) (n : Nat) (p : Iv) (sz : Nat) (hsz : Con Tryz.prog sz [ivV p] (fl n)) (z : D) (i : Int) : AC Tryz.prog 189 [.ptr 0 0 0 2, ivV p, .d (.fn sz [] [])] [(4, [[.d z, fI i]]), (0, [[fl m, fB s]])]
  [(4, [[.d z, fI i]]), (0, [[fl (gr m s n), fB true]])] (.tup []) := by
 refine g7 G1 rfl d5 (fun X => X = 4 ∨ X = 0) ?_ ?_
 ·intro X q
  simp only [b6, d9]
  grind
 refine evx @A0.eq_1 ?_
 refine a0 (hsz) rfl ?_
 unfold gr
 cases s
 ·refine ev ?_
  show P6 _ _ _ _ _ _ _
  exact j4 (fun X => X == 4 || X == 0) (fun X h => by simp; omega) rfl rfl (by simp [kpS]) (by simp [kpS])
 ·refine ev ?_
  refine a9 (fun h => ?_) (fun h => ?_)
  ·refine evx h ?_
   show P6 _ _ _ _ _ _ _
   exact j4 (fun X => X == 4 || X == 0) (fun X h => by simp; omega) rfl rfl (by simp [kpS]) (by simp [kpS])
  ·refine evx h ?_
   show P6 _ _ _ _ _ _ _
   exact j4 (fun X => X == 4 || X == 0) (fun X h => by simp; omega) rfl rfl (by simp [kpS]) (by simp [kpS])
theorem b9Y (m : Nat) (s : Bool) (n : Nat) (p : Md) (hp : p.length = 10) (sz : Nat) (hsz : Con Tryz.prog sz [mdV p] (fl n)) (z : D) (i : Int) (c0 : List V) (hc0 : ∀ L, KpA L c0) : AC Tryz.prog 195 [.ptr 1 0 0 2, mdV p, .d (.fn sz [] [])] [(5, [[.d z, fI i]]), (1, [[fl m, fB s]]), (0, [c0])]
  [(5, [[.d z, fI i]]), (1, [[fl (gr m s n), fB true]]), (0, [c0])] (.tup []) := by
 refine g7 C5 rfl d5 (fun X => X = 5 ∨ X = 1 ∨ X = 0) ?_ ?_
 ·intro X q
  simp only [b6, d9]
  grind
 refine evx (And.intro @v7.eq_1 (y0 p hp)) ?_
 (repeat (with_reducible refine And.intro (by omega) ?_))
 first | refine a0 (hsz) (by simp [m5, f6]) ?_ | refine b5 (hsz) (by simp [m5, f6]) ?_ | refine a8 (hsz) (by simp [m5, f6]) ?_
 unfold gr
 cases s
 ·refine ev ?_
  show P6 _ _ _ _ _ _ _
  exact j4 (fun X => X == 5 || X == 1 || X == 0) (fun X h => by simp; omega) rfl rfl (by simp [kpS]) (by simp (maxDischargeDepth := 6) [kpS, b4, b7, hc0])
 ·refine ev ?_
  refine a9 (fun h => ?_) (fun h => ?_)
  ·refine evx h ?_
   show P6 _ _ _ _ _ _ _
   exact j4 (fun X => X == 5 || X == 1 || X == 0) (fun X h => by simp; omega) rfl rfl (by simp [kpS]) (by simp (maxDischargeDepth := 6) [kpS, b4, b7, hc0])
  ·refine evx h ?_
   show P6 _ _ _ _ _ _ _
   exact j4 (fun X => X == 5 || X == 1 || X == 0) (fun X h => by simp; omega) rfl rfl (by simp [kpS]) (by simp (maxDischargeDepth := 6) [kpS, b4, b7, hc0])
abbrev ptV (Z : List (List Nat)) (i : Nat) : V := .agg [.d (f0 Z), fI i]
def ptG (Z : List (List Nat)) (i : Nat) : List D := [f0 Z, .int .i64 i]
def ptD (Z : List (List Nat)) (n : Nat) : D := .bor n (ptG Z)
theorem b3m (c : List Nat) (s k : Nat) : valK c s (k + 1) = y9 (r5 (valK c s k) (pt s)) (pt (c.getD (c.length - 2 - k) 0)) := rfl
theorem b5H (Z : List (List Nat)) (m n i : Nat) (hZ : Rk (m + 1) n Z) (hi : i < n) (hm : m < 1000) : Con Tryz.prog 188 [ptV Z i] (ivV (valC (colT Z i) negW)) := by
 have hl := hZ.1
 have hcl := a78 Z i
 have hr := fun k h => hZ.2 k h
 have hca := fun k h => b6j Z i k h
 unfold valC
 rw [hcl, hl, show m + 1 - 1 = m from rfl]
 refine a3 a2P rfl d5 ?_
 refine evx @a2g.eq_1 ?_
 have w1 : IntKind.i64.wrap ((Z.length : Int) - 1) = (m : Int) := by rw [b9 (by omega) (by omega)]; omega
 have r0 := hr m (by omega)
 refine evx (And.intro @f0.eq_1 (And.intro @a0m.eq_1 w1)) ?_
 (repeat (with_reducible refine And.intro (by omega) ?_))
 refine a8 (t6 ((Z.getD m []).getD i 0)) rfl ?_
 refine ev ?_
 have e0 : valK (colT Z i) negW 0 = pt ((Z.getD m []).getD i 0) := by rw [valK, hcl, hl, show m + 1 - 1 = m from rfl, hca m (by omega)]
 rw [← e0]
 have e5 : IntKind.i64.wrap ((m : Int) - 1) = (m : Int) - 1 - ((0 : Nat) : Int) := by rw [b9 (by omega) (by omega)]; omega
 rw [e5]
 refine f9 (n := m) (fun c s => ∃ k, c + k = m ∧ s = ⟨[(1, .ptr 0 0 0 2), (2, .ptr 1 0 0 2), (4, .ptr 12 0 0 2), (5, fI ((m : Int) - 1 - (k : Int)))],
  [(12, [[fl (valK (colT Z i) negW k).1, fl (valK (colT Z i) negW k).2]]), (1, [[fl 0, fl 0]]), (0, [[.d (f0 Z), fI i]])]⟩) (Le.refl _) ⟨0, by omega, rfl⟩ ?_
 rintro c s ⟨k, hc, rfl⟩
 refine evx @U8.eq_1 ?_
 refine a9 (fun h => ?_) (fun h => ?_)
 ·replace h := of_decide_eq_true h
  obtain ⟨j, hj⟩ : ∃ j : Nat, (m : Int) - 1 - (k : Int) = j := ⟨m - 1 - k, by omega⟩
  have hj2 : j = (colT Z i).length - 2 - k := by omega
  have rj := hr j (by omega)
  rw [hj]
  refine evx (And.intro @f0.eq_1 @a0m.eq_1) ?_
  refine a8 (t6 13830554455654793216) rfl ?_
  refine ev ?_
  refine a8 (p7 (valK (colT Z i) negW k) (pt 13830554455654793216)) rfl ?_
  refine evx (And.intro @f0.eq_1 @a0m.eq_1) ?_
  (repeat (with_reducible refine And.intro (by omega) ?_))
  refine a0 (t6 ((Z.getD j []).getD i 0)) rfl ?_
  refine ev ?_
  refine a0 (q7 (r5 (valK (colT Z i) negW k) (pt 13830554455654793216)) (pt ((Z.getD j []).getD i 0))) rfl ?_
  have e1 : y9 (r5 (valK (colT Z i) negW k) (pt 13830554455654793216)) (pt ((Z.getD j []).getD i 0)) = valK (colT Z i) negW (k + 1) := by
   rw [b3m, ← hj2, hca j (by omega)]; rfl
  rw [e1]
  refine ev ?_
  rw [show IntKind.i64.wrap ((j : Int) - 1) = (m : Int) - 1 - ((k + 1 : Nat) : Int) by rw [b9 (by omega) (by omega)]; omega]
  exact ⟨c - 1, _, by omega, Le.refl _, k + 1, by omega, rfl⟩
 ·replace h := of_decide_eq_false h
  obtain rfl : k = m := by omega
  refine ev ?_
  exact d8 rfl (by decide) rfl rfl rfl (by simp) (by simp [ldv])
theorem c35 (Z : List (List Nat)) (i : Nat) : tabR (fun k => (Z.getD k []).getD i 0) Z.length = colT Z i := by
 refine List.ext_getElem (by simp [g6, colT]) fun k h1 h2 => ?_
 rw [g6] at h1
 simp [tabR, colT, c8U, h1]
theorem a97 (Z : List (List Nat)) (m n i : Nat) (hZ : Rk (m + 1) n Z) (hi : i < n) (hm : m < 1000) : Con Tryz.prog 145 [ptV Z i] (mdV (ofM (colT Z i))) := by
 have hl := hZ.1
 have hcl := a78 Z i
 have hr := fun k h => hZ.2 k h
 rw [← c35]
 refine a3 a0L rfl d5 ?_
 refine evx @U7.eq_1 ?_
 have hz0 : ∀ L : Heap, KpA L [.d (f0 Z), fI i] := fun L => by rw [F4, F4]; exact ⟨Kp_d _, Kp_d _, a0B⟩
 refine f9 (n := m + 1) (fun c s => ∃ k, c + k = m + 1 ∧ s = ⟨[(1, .ptr 0 0 0 2), (2, .ptr 1 0 0 20), (3, .sl 100 0 0 k 1 k), (7, .d (f0 Z)), (8, fI Z.length), (9, fI k)],
  [(100, [rowV (tabR (fun k => (Z.getD k []).getD i 0) k)]), (1, [ivC (List.replicate 10 (0, 0))]), (0, [[.d (f0 Z), fI i]])]⟩) (s0 := ⟨_, _⟩)
  (LeT.nilrow (X := 100) (esz := 1) (as' := [(1, .ptr 0 0 0 2), (2, .ptr 1 0 0 20), (3, .sl 100 0 0 0 1 0), (7, .d (f0 Z)), (8, fI Z.length), (9, fI 0)]) (by simp [b4, b7]) (fun h => h) fun i => ?_) ⟨0, by omega, rfl⟩ ?_
 ·simp only [look]
  repeat' split
  all_goals simp [f0]
 rintro c s ⟨k, hc, rfl⟩
 have htl := g6 (fun k => (Z.getD k []).getD i 0) k
 refine evx @K2.eq_1 ?_
 refine a9 (fun h => ?_) (fun h => ?_)
 ·replace h := of_decide_eq_true h
  have hk : k < m + 1 := by omega
  have rk := hr k hk
  refine evx (And.intro @f0.eq_1 @a0m.eq_1) ?_
  (repeat (with_reducible refine And.intro (by omega) ?_))
  have e : rowV (tabR (fun k => (Z.getD k []).getD i 0) k) ++ [fl ((Z.getD k []).getD i 0)] = rowV (tabR (fun k => (Z.getD k []).getD i 0) (k + 1)) := (D8 _ _).symm
  rw [b9 (by omega) (by omega), e]
  exact ⟨c - 1, _, by omega, LeT.only (fun X => decide (X ≤ 100)) (fun _ h => h) rfl (by simp (maxDischargeDepth := 6) [kpS, b4, b7, r9]) (by simp (maxDischargeDepth := 6) [kpS, b4, b7, r9]), k + 1, by omega, rfl⟩
 ·replace h := of_decide_eq_false h
  obtain rfl : k = m + 1 := by omega
  rw [← hl] at htl ⊢
  refine ev ?_
  refine w9 [.d (rowD (tabR (fun k => (Z.getD k []).getD i 0) Z.length))] (a6u _ (by omega)) ⟨H0 rfl (g6 _ _) rfl, trivial⟩ (a4p _) ?_
  have hp := a0p (tabR (fun k => (Z.getD k []).getD i 0) Z.length)
  refine ev ?_
  (repeat (with_reducible refine And.intro (by omega) ?_))
  rw [m8 _ _ (by rw [g4, g4, hp]; rfl)]
  exact y1 _ (by omega) (by decide) rfl rfl rfl
def sloF (c : List Nat) (h k : Nat) : Iv := K8 (r5 (pt (FloatKind.nearest .f64 ((k : Int) + 1))) (pt (c.getD (k + 1) 0))) (pt h)
theorem c2M (c : List Nat) (h m : Nat) (hc : c.length = m + 1) (hm : m < 9) : filI (sloF c h) zI 10 m = sloM c h := by
 refine List.ext_getElem (by simp [filI, sloM]) fun j h1 h2 => ?_
 simp only [filI, sloM, List.getElem_map, List.getElem_range, sloF]
 by_cases e : j < m
 ·rw [if_pos e, if_pos (by omega)]
 ·rw [if_neg e, if_neg (by omega)]
theorem a96 (Z : List (List Nat)) (m n i h : Nat) (hZ : Rk (m + 1) n Z) (hi : i < n) (hm : m < 9) : Con Tryz.prog 194 [ptV Z i, fl h] (mdV (sloM (colT Z i) h)) := by
 have hl := hZ.1
 have hcl := a78 Z i
 have hr := fun k h => hZ.2 k h
 have hca := fun k h => b6j Z i k h
 have hfil := c2M (colT Z i) h m (by omega) hm
 have e2 : ofM [] = List.replicate 10 (0, 0) := by rfl
 have w1 : IntKind.i64.wrap ((Z.length : Int) - 1) = (m : Int) := by rw [b9 (by omega) (by omega)]; omega
 refine a3 a0K rfl d5 ?_
 refine evx @U6.eq_1 ?_
 refine a0 (K7) rfl ?_
 refine evx (And.intro @f0.eq_1 w1) ?_
 (repeat (with_reducible refine And.intro (by omega) ?_))
 rw [m8 _ _ (by rw [g4, a0p]; rfl), e2]
 refine ⟨rfl, ?_⟩
 refine f9 (n := m) (fun c s => ∃ k, c + k = m ∧ s = ⟨[(1, fl h), (2, .ptr 0 0 0 2), (4, .ptr 1 0 0 20), (5, .ptr 3 0 0 20), (11, fI m), (12, fI k)],
  [(3, [ivC (filI (sloF (colT Z i) h) zI 10 k)]), (1, [ivC (List.replicate 10 (0, 0))]), (0, [[.d (f0 Z), fI i]])]⟩) (Le.refl _) ⟨0, by omega, rfl⟩ ?_
 rintro c s ⟨k, hc, rfl⟩
 have hfl := a0u (sloF (colT Z i) h) zI 10 k
 refine evx @K1.eq_1 ?_
 refine a9 (fun h2 => ?_) (fun h2 => ?_)
 ·replace h2 := of_decide_eq_true h2
  have hk : k < m := by omega
  have rk := hr (k + 1) (by omega)
  have w2 : IntKind.i64.wrap ((k : Int) + 1) = ((k + 1 : Nat) : Int) := by rw [b9 (by omega) (by omega)]; omega
  refine evx (And.intro @f0.eq_1 (And.intro @a0m.eq_1 w2)) ?_
  refine a8 (t6 (FloatKind.nearest .f64 ((k + 1 : Nat) : Int))) rfl ?_
  refine evx (And.intro @f0.eq_1 (And.intro @a0m.eq_1 w2)) ?_
  (repeat (with_reducible refine And.intro (by omega) ?_))
  refine a0 (t6 ((Z.getD (k + 1) []).getD i 0)) rfl ?_
  refine ev ?_
  refine a0 (p7 (pt (FloatKind.nearest .f64 ((k + 1 : Nat) : Int))) (pt ((Z.getD (k + 1) []).getD i 0))) rfl ?_
  refine ev ?_
  refine a0 (t6 h) rfl ?_
  refine ev ?_
  refine a0 (H3 (r5 (pt (FloatKind.nearest .f64 ((k + 1 : Nat) : Int))) (pt ((Z.getD (k + 1) []).getD i 0))) (pt h)) rfl ?_
  have e1 : K8 (r5 (pt (FloatKind.nearest .f64 ((k + 1 : Nat) : Int))) (pt ((Z.getD (k + 1) []).getD i 0))) (pt h) = sloF (colT Z i) h k := by
   unfold sloF; rw [hca (k + 1) (by omega)]; rfl
  rw [e1]
  refine evx w2 ?_
  (repeat (with_reducible refine And.intro (by omega) ?_))
  rw [E8 _ _ _ _ (by omega), U1 _ _ _ _ _ rfl]
  exact ⟨c - 1, _, by omega, LeT.only (fun X => decide (X ≤ 3)) (fun _ h => h) rfl (by simp (maxDischargeDepth := 6) [kpS, b4, b7, r9]) (by simp (maxDischargeDepth := 6) [kpS, b4, b7, r9]), k + 1, by omega, rfl⟩
 ·replace h2 := of_decide_eq_false h2
  obtain rfl : k = m := by omega
  rw [hfil] at hfl ⊢
  simp -implicitDefEqProofs only [evI, hv, effC, reduceCtorEq, ↓reduceIte, n1_, n2_, n3_, n4_, n5_, i1_, i2_, i3_, i4_, i5_, i6_, i7_, y0 _ hfl]
  (repeat (with_reducible refine And.intro (by omega) ?_))
  rw [m8 _ _ (by rw [g4, g4, hfl]; rfl)]
  exact y1 _ (by omega) (by decide) rfl rfl rfl
theorem a81 (v : Nd) (n : Nat) (hl : 0 < v.z.length) (hz : (v.z.getD 0 []).length = n) (hn : n < 2 ^ 40) : Con Tryz.prog 144 [ndV v] (.d (ptD v.z n)) := by
 refine a3 a5p rfl d5 ?_
 refine evx @a5q.eq_1 ?_
 (repeat (with_reducible refine And.intro (by omega) ?_))
 refine f9 (n := n) (fun c s => ∃ k, c + k = n ∧ s = ⟨[(1, .ptr 0 0 0 5), (3, .sl 100 0 0 k 2 (k * 2)), (9, fI (v.z.getD 0 []).length), (10, fI k)],
  [(100, [f4 k (ptG v.z)]), (0, [ndC v])]⟩) (s0 := ⟨_, _⟩)
  (LeT.nilrow (X := 100) (esz := 2) (as' := [(1, .ptr 0 0 0 5), (3, .sl 100 0 0 0 2 0), (9, fI (v.z.getD 0 []).length), (10, fI 0)]) (by simp [b4, b7]) (fun h => h) fun i => ?_) ⟨0, by omega, rfl⟩ ?_
 ·simp only [look]
  repeat' split
  all_goals simp
 rintro c s ⟨k, hc, rfl⟩
 have hdl : (f4 k (ptG v.z)).length = k * 2 := p8 k fun _ _ => rfl
 refine evx @a0V.eq_1 ?_
 refine a9 (fun h => ?_) (fun h => ?_)
 ·replace h := of_decide_eq_true h
  refine ev ?_
  (repeat (with_reducible refine And.intro (by omega) ?_))
  have e : f4 k (ptG v.z) ++ [.d (.bor v.z.length (a0m v.z)), .d (.int .i64 (k : Int))] = f4 (k + 1) (ptG v.z) := by rw [z3]; rfl
  rw [e, b9 (by omega) (by omega), show k * 2 + 2 = (k + 1) * 2 by omega]
  exact ⟨c - 1, _, by omega, LeT.only (fun X => decide (X ≤ 100)) (fun _ h => h) rfl (by simp [kpS]) (by simp [kpS]), k + 1, by omega, rfl⟩
 ·replace h := of_decide_eq_false h
  obtain rfl : k = n := by omega
  refine ev ?_
  refine f7 (.sl 100 0 0 k 2 (k * 2)) (fun _ h => h) (d7 (t := 2) (by decide) rfl) ?_
  exact .d (s8 (esz := 2) (fun Y q h => by simp [d9] at h) (by simp [b6]) (fun j hj => rfl) rfl)
theorem b7v (f : Nat → Nat) (k : Nat) : gr (if k = 0 then 0 else D6 f (k - 1)) (decide (0 < k)) (f k) = D6 f k := by
 rcases k with _ | k
 ·rfl
 ·rw [if_neg (by omega), Nat.add_sub_cancel, decide_eq_true (by omega)]; rfl
theorem b0q (Z : List (List Nat)) (y : List Nat) (m n : Nat) (hZ : Rk (m + 1) n Z) (hy : y.length = n) (hn : 0 < n ∧ n < 2 ^ 40) (hm : m < 1000) : Con Tryz.prog 146 [.d (ptD Z n), .d (rowD y)] (fl (D6 (jmpI Z y) (n - 1))) := by
 refine a3 a6j rfl d5 ?_
 refine evx @a7f.eq_1 ?_
 refine evx @ptD.eq_1 ?_
 refine f9 (n := n) (fun c s => ∃ k, c + k = n ∧ s = ⟨[(1, .d (rowD y)), (5, .ptr 0 0 0 2), (6, .d (.fn 188 [] [])), (9, .d (ptD Z n)), (10, fI n), (11, fI k)],
  [(0, [[fl (if k = 0 then 0 else D6 (jmpI Z y) (k - 1)), fB (decide (0 < k))]])]⟩) (Le.refl _) ⟨0, by omega, rfl⟩ ?_
 rintro c s ⟨k, hc, rfl⟩
 refine evx (And.intro @a2j.eq_1 @ptD.eq_1) ?_
 refine a9 (fun h => ?_) (fun h => ?_)
 ·replace h := of_decide_eq_true h
  have hk : k < n := by omega
  refine evx @ptG.eq_1 ?_
  (repeat (with_reducible refine And.intro (by omega) ?_))
  refine a8 (b5H Z m n k hZ hk hm) rfl ?_
  refine ev ?_
  (repeat (with_reducible refine And.intro (by omega) ?_))
  refine a0 (t6 (y.getD k 0)) rfl ?_
  refine ev ?_
  refine a0 (y8 (valC (colT Z k) negW) (pt (y.getD k 0))) rfl ?_
  refine ev ?_
  refine x0 (b9Z _ _ (jmpI Z y k) (x9 (valC (colT Z k) negW) (pt (y.getD k 0))) 192 (a2v _) (f0 Z) k) ?_
  rw [b7v]
  refine ev ?_
  rw [b9 (by omega) (by omega)]
  refine ⟨c - 1, _, by omega, LeT.only (fun X => X == 0) (fun _ h => h) rfl (by simp [kpS]) (by simp [kpS]), k + 1, by omega, ?_⟩
  rw [if_neg (by omega), Nat.add_sub_cancel, decide_eq_true (by omega : 0 < k + 1)]
  rfl
 ·replace h := of_decide_eq_false h
  obtain rfl : k = n := by omega
  rw [if_neg (by omega)]
  refine ev ?_
  exact a4 rfl (by decide) (by simp [look])
theorem b59 (m : Md) (hm : m.length = 10) : Con Tryz.prog 197 [mdV m] (fl (a8K (rngM m))) := by
 refine a3 a2k rfl d5 ?_
 refine evx @a0W.eq_1 ?_
 refine evx (y0 m hm) ?_
 (repeat (with_reducible refine And.intro (by omega) ?_))
 first | refine a0 (j0 m hm) (by simp [m5, f6]) ?_ | refine b5 (j0 m hm) (by simp [m5, f6]) ?_ | refine a8 (j0 m hm) (by simp [m5, f6]) ?_
 refine ev ?_
 refine a0 (a2v (rngM m)) rfl ?_
 refine ev ?_
 exact a4 rfl (by decide) (by simp [look])
theorem b1T (c : List Nat) (h : Nat) : (sloM c h).length = 10 := by simp [sloM]
theorem a7t (t : Tp) (Z : List (List Nat)) (q : List Md) (h m n : Nat) (ht : Tok t) (htn : t.n = n) (hlen : t.ops.length < 2 ^ 39) (hZ : Rk (m + 1) n Z) (hq : q.length = n) (hqr : ∀ i, i < n → (q.getD i []).length = 10) (hn : 0 < n ∧ n < 2 ^ 40) (hm : m < 9) :
  Con Tryz.prog 147 [K3 t, .d (ptD Z n), .d (mdD q), fl h] (fl (D6 (dftI t Z q h) (n - 1))) := by
 have hcon := a99 t q ht (by omega) (by rw [htn]; exact hqr) hlen
 have hel := b4t t q
 have her := b1f t q ht (by rw [htn]; exact hqr)
 refine a3 a4d rfl d5 ?_
 refine evx @a3t.eq_1 ?_
 refine a0 (hcon) rfl ?_
 refine evx @ptD.eq_1 ?_
 refine f9 (n := n) (fun c s => ∃ k, c + k = n ∧ s = ⟨[(3, fl h), (9, .ptr 1 0 0 2), (10, .d (mdD (R4 t q))), (11, .d (.fn 194 [] [])), (17, .d (ptD Z n)), (18, fI n), (19, fI k)],
  [(1, [[fl (if k = 0 then 0 else D6 (dftI t Z q h) (k - 1)), fB (decide (0 < k))]]), (0, [[fI t.n, .d (opsD t.ops), .d (rowI t.out)]])]⟩) (Le.refl _) ⟨0, by omega, rfl⟩ ?_
 rintro c s ⟨k, hc, rfl⟩
 refine evx (And.intro @a0c.eq_1 @ptD.eq_1) ?_
 refine a9 (fun h2 => ?_) (fun h2 => ?_)
 ·replace h2 := of_decide_eq_true h2
  have hk : k < n := by omega
  have hp := her k (by omega)
  have hgm := a3C (R4 t q) k hp
  simp -implicitDefEqProofs only [evI, hv, effC, reduceCtorEq, ↓reduceIte, n1_, n2_, n3_, n4_, n5_, i1_, i2_, i3_, i4_, i5_, i6_, i7_, ptG, mdD, b5R, hgm, y0 _ hp]
  (repeat (with_reducible refine And.intro (by omega) ?_))
  refine a8 (a96 Z m n k h hZ hk hm) rfl ?_
  refine ev ?_
  first | refine a0 (s3 ((R4 t q).getD k []) (sloM (colT Z k) h) hp (b1T _ _)) (by simp [m5, f6]) ?_ | refine b5 (s3 ((R4 t q).getD k []) (sloM (colT Z k) h) hp (b1T _ _)) (by simp [m5, f6]) ?_ | refine a8 (s3 ((R4 t q).getD k []) (sloM (colT Z k) h) hp (b1T _ _)) (by simp [m5, f6]) ?_
  refine ev ?_
  refine x0 (b9Y _ _ (dftI t Z q h k) (zipM x9 ((R4 t q).getD k []) (sloM (colT Z k) h)) (B6 _ _ _) 197 (b59 _ (B6 _ _ _)) (f0 Z) k _ (fun L => by simp [F4, a0B, Kp_d])) ?_
  rw [b7v]
  refine ev ?_
  rw [b9 (by omega) (by omega)]
  refine ⟨c - 1, _, by omega, LeT.only (fun X => X == 0 || X == 1) (fun _ h => h) rfl (by simp [kpS]) (by simp [kpS]), k + 1, by omega, ?_⟩
  rw [if_neg (by omega), Nat.add_sub_cancel, decide_eq_true (by omega : 0 < k + 1)]
  rfl
 ·replace h2 := of_decide_eq_false h2
  obtain rfl : k = n := by omega
  rw [if_neg (by omega)]
  refine ev ?_
  exact a4 rfl (by decide) (by simp [look])
theorem c2n {r : Nat} (h : Pw r) : cf (r ^^^ 9223372036854775808) = 9223372036854775808 + r := by
 unfold Pw at h
 have e : r ^^^ 9223372036854775808 = 9223372036854775808 + r := by
  have h2 : 9223372036854775808 + r = 2 ^ 63 ||| r := by
   have := Nat.two_pow_add_eq_or_of_lt (i := 63) (b := r) (by omega) 1
   simpa using this
  rw [h2, show (9223372036854775808 : Nat) = 2 ^ 63 from rfl]
  refine Nat.eq_of_testBit_eq fun i => ?_
  rw [Nat.testBit_xor, Nat.testBit_or, Nat.testBit_two_pow]
  by_cases hi : 63 = i
  ·subst hi
   have : r.testBit 63 = false := Nat.testBit_lt_two_pow (by omega)
   simp [this]
  ·simp [hi]
 rw [e]
 refine r7 ?_
 unfold j3
 simp only [decide_eq_false_iff_not]
 omega
theorem c6Y {r : Nat} (h : Pw r) (h0 : 0 < r) : T8 (cf (r ^^^ 9223372036854775808)) r = (fop .sub 0 r, r) := by
 obtain ⟨h1, h2⟩ := c6Z h h0
 rw [c2n h, h1]
 unfold T8
 rw [if_pos h2]
theorem b0p (q : List Md) (r n : Nat) (hq : q.length = n) (hqr : ∀ i, i < n → (q.getD i []).length = 10) (hn : n < 2 ^ 40) (hr : Pw r) (h0 : 0 < r) : Con Tryz.prog 149 [.d (mdD q), fl r] (.d (ivD (tabI (tubI q r) n))) := by
 have htl := a0d (tubI q r) n
 refine a3 a6g rfl d5 ?_
 refine evx @a7d.eq_1 ?_
 refine evx @mdD.eq_1 ?_
 refine f9 (n := n) (fun c s => ∃ k, c + k = n ∧ s = ⟨[(1, fl r), (5, .sl 100 0 0 k 2 (k * 2)), (8, .d (mdD q)), (9, fI q.length), (10, fI k)], [(100, [ivC (tabI (tubI q r) k)])]⟩) (s0 := ⟨_, _⟩)
  (LeT.nilrow (X := 100) (esz := 2) (as' := [(1, fl r), (5, .sl 100 0 0 0 2 0), (8, .d (mdD q)), (9, fI q.length), (10, fI 0)]) (by simp [b4, b7]) (fun h => h) fun i => ?_) ⟨0, by omega, rfl⟩ ?_
 ·simp only [look]
  repeat' split
  all_goals simp [mdD]
 rintro c s ⟨k, hc, rfl⟩
 have hkl := a0d (tubI q r) k
 refine evx (And.intro @a2f.eq_1 @mdD.eq_1) ?_
 refine a9 (fun h => ?_) (fun h => ?_)
 ·replace h := of_decide_eq_true h
  have hk : k < n := by omega
  have hp := hqr k hk
  have hgm := a3C q k hp
  simp -implicitDefEqProofs only [evI, hv, effC, reduceCtorEq, ↓reduceIte, n1_, n2_, n3_, n4_, n5_, i1_, i2_, i3_, i4_, i5_, i6_, i7_, b5R, hgm, y0 _ hp, E9 _ hp, C8 _ hp]
  (repeat (with_reducible refine And.intro (by omega) ?_))
  first | refine a0 (j0 (q.getD k []) hp) (by simp [m5, f6]) ?_ | refine b5 (j0 (q.getD k []) hp) (by simp [m5, f6]) ?_ | refine a8 (j0 (q.getD k []) hp) (by simp [m5, f6]) ?_
  refine ev ?_
  refine a0 (a3H (cf (r ^^^ 9223372036854775808)) r) rfl ?_
  rw [c6Y hr h0]
  refine ev ?_
  refine a0 (q7 (rngM (q.getD k [])) (fop .sub 0 r, r)) rfl ?_
  refine ev ?_
  (repeat (with_reducible refine And.intro (by omega) ?_))
  have e : y9 (rngM (q.getD k [])) (fop .sub 0 r, r) = tubI q r k := rfl
  rw [e, b9 (by omega) (by omega), b68, show k * 2 + 2 = (k + 1) * 2 by omega]
  exact ⟨c - 1, _, by omega, LeT.only (fun X => X == 100) (fun _ h => h) rfl (by simp (maxDischargeDepth := 6) [kpS, b4, b7, r9]) (by simp (maxDischargeDepth := 6) [kpS, b4, b7, r9]), k + 1, by omega, rfl⟩
 ·replace h := of_decide_eq_false h
  obtain rfl : k = n := by omega
  refine ev ?_
  refine f7 (.sl 100 0 0 k 2 (k * 2)) (fun _ h => h) (d7 (t := 4) (by decide) rfl) ?_
  exact .d (b5u (fun Y q h => by simp [d9] at h) (by simp [b6]) htl rfl)
def insL (l box : List Iv) (k : Nat) : Bool := (List.range k).all fun i => a5t (mG l i) (mG box i)
theorem b4m (l box : List Iv) (k : Nat) : insL l box (k + 1) = (insL l box k && a5t (mG l k) (mG box k)) := by simp [insL, List.range_succ]
theorem b8L (l box : List Iv) (k n : Nat) (h : k ≤ n) (hf : insL l box k = false) : insL l box n = false := by
  induction n with
  | zero => obtain rfl : k = 0 := by omega
            exact hf
  | succ n ih =>
    by_cases e : k = n + 1
    · subst e; exact hf
    · rw [b4m, ih (by omega)]; rfl
theorem a7r (l box : List Iv) (n : Nat) (hl : l.length = n) (hb : n ≤ box.length) (hn : n < 2 ^ 40) : Con Tryz.prog 150 [.d (ivD l), .d (ivD box)] (fB (insL l box n)) := by
 refine a3 a4b rfl d5 ?_
 refine evx @a3r.eq_1 ?_
 refine f9 (n := n) (fun c s => ∃ k, c + k = n ∧ insL l box k = true ∧ s = ⟨[(1, .d (ivD box)), (7, .d (ivD l)), (8, fI l.length), (9, fI k)], []⟩) (Le.refl _) ⟨0, by omega, rfl, rfl⟩ ?_
 rintro c s ⟨k, hc, hin, rfl⟩
 refine evx @a0b.eq_1 ?_
 refine a9 (fun h => ?_) (fun h => ?_)
 ·replace h := of_decide_eq_true h
  have hk : k < n := by omega
  have e := b4m l box k
  rw [hin] at e
  refine evx @a4G ?_
  (repeat (with_reducible refine And.intro (by omega) ?_))
  refine a0 (b2x (mG l k) (mG box k)) rfl ?_
  cases hw : a5t (mG l k) (mG box k)
  ·rw [hw] at e
   refine ev ?_
   rw [b8L l box (k + 1) n (by omega) e]
   exact a4 rfl (by decide) (by simp [look])
  ·rw [hw] at e
   refine ev ?_
   rw [b9 (by omega) (by omega)]
   exact ⟨c - 1, _, by omega, LeT.only (fun X => false) (fun _ h => h) rfl (by simp [kpS]) (by simp [kpS]), k + 1, by omega, e, rfl⟩
 ·replace h := of_decide_eq_false h
  obtain rfl : k = n := by omega
  refine ev ?_
  rw [hin]
  exact a4 rfl (by decide) (by simp [look])
theorem max1 {g : Nat} (h : j3 g = false) : a8U true 4607182418800017408 g = if fcmp .gt g 4607182418800017408 = true then g else 4607182418800017408 := by
 have f1 : fin 4607182418800017408 := ⟨false, 4503599627370496, -52, by decide +kernel⟩
 have r1 : Ieee.double.read 4607182418800017408 = .number false 4503599627370496 (-52) := by decide +kernel
 have rn : (Ieee.double.read 4607182418800017408).neg = false := by rw [r1]; rfl
 unfold a8U fcmp
 simp only [rn]
 cases hd : Ieee.double.read g with
 | nan s t =>
  have : j3 g = true := by rw [← E5, hd]; rfl
  rw [this] at h; cases h
 | infinity s =>
  unfold Ieee.Format.order
  rw [hd, r1]
  cases s <;> simp [Ieee.Datum.order]
 | number s m i =>
  have fg : fin g := ⟨s, m, i, hd⟩
  rcases P2 f1 fg with ⟨h1, e1⟩ | ⟨h1, e1⟩ | ⟨h1, e1⟩ <;> rcases P2 fg f1 with ⟨h2, e2⟩ | ⟨h2, e2⟩ | ⟨h2, e2⟩ <;> first | (rw [e1, e2]; simp; done) | (exfalso; grind)
theorem b8F (lo hi : Nat) : j3 (T8 lo hi).2 = false := by
 unfold T8
 split
 ·rename_i h
  show j3 hi = false
  cases hn : j3 hi with
  | false => rfl
  | true =>
   unfold fcmp at h
   rw [a6s hn] at h
   simp at h
 ·decide
theorem b9N (l : List Nat) : ∀ lo hi, j3 (a8g l lo hi).2 = false := by
 induction l with
 | nil => intro lo hi; exact b8F _ _
 | cons x l ih =>
  intro lo hi
  unfold a8g
  split
  ·decide
  ·exact ih _ _
theorem c02 (x : Nat) : j3 (b4k x) = false := by
 unfold b4k
 split
 ·decide
 ·exact b9N _ _ _
theorem a7s (h m : Nat) : Con Tryz.prog 153 [fl h, fl m] (fl (a8P h m)) := by
 unfold a8P
 rw [show oneW = 4607182418800017408 from rfl]
 refine a3 a4c rfl d5 ?_
 refine evx @a3s.eq_1 ?_
 refine a9 (fun h2 => ?_) (fun h2 => ?_)
 ·rw [if_pos h2]
  refine ev ?_
  exact a4 rfl (by decide) (by simp [look])
 ·rw [if_neg (by simp [h2])]
  refine ev ?_
  refine a0 (A9 _) rfl ?_
  refine ev ?_
  refine a0 (b8E _) rfl ?_
  refine ev ?_
  rw [max1 (c02 _)]
  exact a4 rfl (by decide) (by simp [look])
end Go.Ab
namespace Go.Ab
set_option linter.unusedSimpArgs false
set_option linter.unusedVariables false
open Go Go.Proofs
theorem a8J {lo hi : Nat} (h : cw hi) : cw (T8 lo hi).2 := by
 unfold T8; split
 ·exact h
 ·exact .inr (.inl rfl)
theorem b6E (l : List Nat) : ∀ lo hi, (∀ x ∈ l, cw x) → cw hi → cw (a8g l lo hi).2 := by
 induction l with
 | nil => intro lo hi _ h; exact a8J (c2x h)
 | cons x l ih =>
  intro lo hi hl h
  unfold a8g
  split
  ·exact .inr (.inl rfl)
  ·refine ih _ _ (fun y hy => hl y (List.mem_cons_of_mem _ hy)) ?_
   split
   ·exact hl x (List.mem_cons_self ..)
   ·exact h
theorem b69 (a b : Iv) : cw (y9 a b).2 := a8J (c2x (U0 _ _ _))
theorem c3y (a b : Iv) : cw (x9 a b).2 := a8J (c2x (U0 _ _ _))
theorem c3z (a b : Iv) : cw (r5 a b).2 := by
 refine b6E _ _ _ (fun x hx => ?_) (U0 _ _ _)
 simp at hx
 rcases hx with rfl | rfl | rfl | rfl <;> exact U0 _ _ _
theorem c3A (a b : Iv) : cw (K8 a b).2 := by
 unfold K8; split
 ·exact .inr (.inl rfl)
 ·refine b6E _ _ _ (fun x hx => ?_) (U0 _ _ _)
  simp at hx
  rcases hx with rfl | rfl | rfl | rfl <;> exact U0 _ _ _
theorem c1G : cw oneW := .inr (.inr (.inr ⟨false, 4607182418800017408, by decide, by decide⟩))
theorem c5j (o : OpN) (q : Iv) (r : List Iv) (dr : List (List Iv)) (k : Nat) : cw (sloI o q r dr k).2 := by
 unfold sloI
 repeat' split
 ·exact c1G
 ·exact a0v
 ·exact b69 _ _
 ·exact c3y _ _
 ·exact b69 _ _
 ·exact c3A _ _
theorem c7w (t : Tp) (x : List Iv) (i : Nat) : ∀ j k, cw (mG ((drI t x i).getD j []) k).2 := by
 induction i with
 | zero => intro j k; exact a0v
 | succ i ih =>
  intro j k
  have hl := a5M t x i
  unfold drI
  by_cases h : j < i
  ·rw [c8U, c8W (by omega), ← c8U]
   exact ih j k
  ·rw [c8U, c8X (by omega), hl]
   by_cases h2 : j - i = 0
   ·rw [h2]
    show cw (mG (tabI _ t.n) k).2
    by_cases hk : k < t.n
    ·rw [b5V _ _ _ hk]; exact c5j _ _ _ _ _
    ·have : mG (tabI (sloI (t.ops.getD i ⟨0, 0, 0, 0⟩) (opI (t.ops.getD i ⟨0, 0, 0, 0⟩) x (regI t x i)) (regI t x i) (drI t x i)) t.n) k = (0, 0) := by
      unfold mG
      rw [c8U, c80 (by rw [a0d]; omega)]; rfl
     rw [this]; exact a0v
   ·rw [c80 (by simp; omega)]; exact a0v
theorem c5R (t : Tp) (x : List Iv) : Jcw (jacI t x) := fun i => by
 unfold jacI
 by_cases h : i < t.n
 ·rw [c8U, List.getElem?_map, List.getElem?_range h]
  exact c7w t x _ _ _
 ·rw [c8U, c80 (by simp; omega)]; exact a0v
theorem c01 (t : Tp) (x : List Iv) (ht : Tok t) (i : Nat) (h : i < t.n) : ((jacI t x).getD i []).length = t.n := by
 unfold jacI
 rw [c8U, List.getElem?_map, List.getElem?_range h]
 have := ht.out i h
 exact b2M t x _ _ (by omega)
theorem c6K (y : Iv) (k : Nat) : cw (sqI y (k + 1)).2 := c3z _ _
theorem b67 (x : Nat) : cw (b4k x) := by
 unfold b4k; split
 ·exact .inr (.inl rfl)
 ·exact c6K _ 9
theorem f1W : fin oneW := ⟨false, 4503599627370496, -52, by decide +kernel⟩
theorem v1W : val oneW = 1 := by
 have h : Ieee.double.read oneW = .number false 4503599627370496 (-52) := by decide +kernel
 rw [A8 h]; decide +kernel
theorem c4P {x : Nat} (h : cw x) (hg : fcmp .gt x oneW = true) : Pw x ∧ 0 < x := by
 rcases h with rfl | rfl | rfl | ⟨s, r, hr, rfl⟩
 ·have : fcmp .gt qnan oneW = false := by decide +kernel
  rw [this] at hg; cases hg
 ·exact ⟨c85 _, by decide⟩
 ·have : fcmp .gt C3 oneW = false := by decide +kernel
  rw [this] at hg; cases hg
 ·have hf := u4 s r hr
  rw [a5H hf f1W, u8 s r hr, v1W] at hg
  have h0 := H9 r
  cases s
  ·rw [C6]
   unfold Pw
   refine ⟨by omega, ?_⟩
   rcases Nat.eq_zero_or_pos r with rfl | h1
   ·rw [B8] at hg; simp at hg; grind
   ·exact h1
  ·simp at hg; grind
theorem b7b (h m : Nat) : Pw (a8P h m) ∧ 0 < a8P h m := by
 unfold a8P
 split
 ·exact ⟨by unfold Pw; decide, by decide⟩
 ·split
  ·rename_i h2; exact c4P (b67 _) h2
  ·exact ⟨by unfold Pw; decide, by decide⟩
theorem b4M {x : Nat} (h : x < 9218868437227405312) (h0 : 0 < x) : fin x ∧ 0 < val x := by
 refine ⟨a85 h, ?_⟩
 rw [a6B h]
 have := a5w h0
 rwa [B8] at this
theorem c17 {x y : Nat} (hx : Pw x) (h0 : 0 < x) (hy : Pw y) (hy0 : 0 < y) : Pw (fop .mul x y) := by
 by_cases e : x = 9218868437227405312
 ·subst e
  unfold fop Ieee.Format.mul
  simp only
  rcases a0A hy with ⟨n, j, h2⟩ | rfl
  ·rw [t9, h2]
   have hn : n ≠ 0 := by
    rintro rfl
    by_cases e2 : y = 9218868437227405312
    ·subst e2; rw [t9] at h2; cases h2
    ·unfold Pw at hy
     have := (b4M (by omega) hy0).2
     rw [A8 h2] at this
     simp at this
   have e : Ieee.Datum.product (.infinity false) (.number false n j) = some (.infinity false) := by simp only [Ieee.Datum.product, hn, if_false, Bool.xor_self]
   rw [e]; exact a1x _ b1n
  ·rw [t9, show Ieee.Datum.product (.infinity false) (.infinity false) = some (.infinity false) from rfl]; exact a1x _ b1n
 ·unfold Pw at hx
  obtain ⟨f, v⟩ := b4M (by omega) h0
  exact b7z f (by unfold Pw; omega) v hy
theorem c1z {x : Nat} (h : m6 (fabs x) = true) : Pw (fabs x) := by
 unfold m6 at h
 simp only [Bool.and_eq_true, Bool.not_eq_true'] at h
 have hn := h.1
 unfold fabs at hn ⊢
 rw [a74] at hn
 rw [r7 hn]
 have hb : F2 x < 9223372036854775808 := Nat.mod_lt _ (by decide)
 unfold j3 at hn
 simp only [decide_eq_false_iff_not] at hn
 unfold Pw
 omega
theorem b61 {p : Iv} (h : m6 (a8K p) = true) : Pw (a8K p) := by
 unfold a8K at h ⊢
 split at h
 ·rename_i h1; rw [if_pos h1]; exact c1z h
 ·rename_i h1; rw [if_neg h1]; exact c1z h
theorem a79 (f : Nat → Nat) (k : Nat) : ∃ i, i ≤ k ∧ D6 f k = f i := by
 induction k with
 | zero => exact ⟨0, c85 _, rfl⟩
 | succ k ih =>
  rw [D6]; split
  ·exact ⟨k + 1, c85 _, rfl⟩
  ·obtain ⟨i, h, e⟩ := ih; exact ⟨i, by omega, e⟩
theorem c7s : ((List.range 60).all fun j => decide (0 < hW (2 ^ j)) && decide (hW (2 ^ j) < 9218868437227405312)) = true := by kernel_rfl
theorem c7u (j : Nat) (h : j < 60) : 0 < hW (2 ^ j) ∧ hW (2 ^ j) < 9218868437227405312 := by
 have := List.all_eq_true.1 c7s j (by simpa using h)
 simpa using this
theorem b2E {x : Nat} (h : Pw x) : Pw (up (fop .mul 4616189618054758400 x)) ∧ 0 < up (fop .mul 4616189618054758400 x) := by
 obtain ⟨f, v⟩ := b4M (x := 4616189618054758400) (by decide) (by decide)
 exact a2R (b7z f (by unfold Pw; decide) v h)
theorem b4G {w j d h : Nat} (hw : Pw w) (hj : Pw j) (hd : Pw d) (h0 : 0 < h ∧ h < 9218868437227405312) :
  Pw (up (fop .add (up (fop .add w j)) (up (fop .mul h d)))) ∧ 0 < up (fop .add (up (fop .add w j)) (up (fop .mul h d))) := by
 obtain ⟨f, v⟩ := b4M h0.2 h0.1
 exact a2R (b7A (a2R (b7A hw hj)).1 (a2R (b7z f (by unfold Pw; omega) v hd)).1)
theorem c5W (q : List Md) (box : List Iv) (r n : Nat) : insK q box r n = insL (tabI (tubI q r) n) box n := by
 unfold insK insL
 rw [Bool.eq_iff_iff, List.all_eq_true, List.all_eq_true]
 constructor <;> intro h i hi <;> have := h i hi <;> rw [List.mem_range] at hi <;> rw [b5V _ _ _ hi] at * <;> exact this
end Go.Ab
namespace Go.Ab
set_option linter.unusedSimpArgs false
set_option linter.unusedVariables false
open Go
theorem c3d (s : Bool) (m : Nat) (i : Int) : ∃ A, Ieee.double.nearest s m i = Ieee.double.word s (min A 9218868437227405312) ∧ (∀ x, rv x ≤ (m : Rat) * pw i → x ≤ A) ∧ (∀ x, (m : Rat) * pw i ≤ rv x → A ≤ x) := by
 by_cases h0 : m = 0
 ·subst h0
  have h00 : ((0 : Nat) : Rat) * pw i = 0 := by simp
  refine ⟨0, by simp [Ieee.Format.nearest], fun x hx => ?_, fun x _ => Nat.zero_le _⟩
  by_cases h : x = 0
  ·omega
  ·have := a5w (show 0 < x by omega)
   rw [B8] at this
   rw [h00] at hx
   grind
 have q1 : Ieee.double.fractionBits = 52 := rfl
 have q2 : Ieee.double.leastPlace = -1074 := rfl
 have q3 : Ieee.double.binade = 4503599627370496 := rfl
 have q4 : Ieee.double.infRung = 9218868437227405312 := rfl
 have e0 : Ieee.double.nearest s m i = Ieee.double.word s (min (((max (i + (m.log2 : Int) - (52 : Nat)) (-1074)) - (-1074)).toNat * 4503599627370496 +
   Ieee.Toward.even.cut s (m <<< (i - max (i + (m.log2 : Int) - (52 : Nat)) (-1074)).toNat) (max (i + (m.log2 : Int) - (52 : Nat)) (-1074) - i).toNat) 9218868437227405312) := by
  unfold Ieee.Format.nearest
  rw [if_neg h0, q1, q2, q3, q4]
 have hl1 : 2 ^ m.log2 ≤ m := Nat.log2_self_le h0
 have hl2 : m < 2 ^ (m.log2 + 1) := Nat.lt_log2_self
 generalize m.log2 = L at e0 hl1 hl2
 generalize hlast : max (i + (L : Int) - (52 : Nat)) (-1074) = last at e0
 generalize hkept : Ieee.Toward.even.cut s (m <<< (i - last).toNat) (last - i).toNat = kept at e0
 have hP := n8 last
 -- v between powers
 have b1 : pw (i + L) ≤ (m : Rat) * pw i := by
  rw [V2]
  exact c81 (by exact_mod_cast c86.2 hl1) (c82 (n8 i))
 have b2 : (m : Rat) * pw i < pw (i + L + 1) := by
  rw [Int.add_assoc, show (L : Int) + 1 = ((L + 1 : Nat) : Int) from by omega, V2]
  exact Rat.mul_lt_mul_of_pos_right (by exact_mod_cast Rat.natCast_lt_natCast.2 hl2) (n8 i)
 -- kept
 have hk : 2 * ((kept : Rat) * pw last) ≤ 2 * ((m : Rat) * pw i) + pw last ∧ 2 * ((m : Rat) * pw i) ≤ 2 * ((kept : Rat) * pw last) + pw last := by
  by_cases h : last ≤ i
  ·have e1 : (last - i).toNat = 0 := by omega
   rw [e1, b7t] at hkept
   have e2 : pw i = ((2 ^ (i - last).toNat : Nat) : Rat) * pw last := by
    have h7 : i = last + ((i - last).toNat : Nat) := by omega
    exact (congrArg pw h7).trans (V2 _ _)
   have e3 : (kept : Rat) * pw last = (m : Rat) * pw i := by
    rw [← hkept, Nat.shiftLeft_eq, Rat.natCast_mul, e2]; grind
   grind
  ·have e1 : (i - last).toNat = 0 := by omega
   rw [e1, Nat.shiftLeft_zero] at hkept
   have hc := b2P s m (last - i).toNat
   rw [hkept] at hc
   have e2 : pw last = ((2 ^ (last - i).toNat : Nat) : Rat) * pw i := by
    have h7 : last = i + ((last - i).toNat : Nat) := by omega
    exact (congrArg pw h7).trans (V2 _ _)
   rw [e2]
   generalize 2 ^ (last - i).toNat = g at hc
   have h1 : (2 : Rat) * ((kept : Rat) * g) ≤ 2 * m + g := by exact_mod_cast c86.2 hc.1
   have h2 : (2 : Rat) * m ≤ 2 * ((kept : Rat) * g) + g := by exact_mod_cast c86.2 hc.2
   have hi := c82 (n8 i)
   have h3 := c81 h1 hi
   have h4 := c81 h2 hi
   grind
 have hlow : -1074 ≤ last := by omega
 have hll : i + L ≤ last + 52 := by omega
 have cast_le : ∀ a b : Nat, (a : Rat) ≤ (b : Rat) → a ≤ b := fun a b h => c86.1 h
 have cast_lt : ∀ a b : Nat, (a : Rat) < (b : Rat) → a < b := fun a b h => Rat.natCast_lt_natCast.1 h
 have k1 : kept ≤ 9007199254740992 := by
  have h1 := a1f (show i + L + 1 ≤ last + 53 by omega)
  rw [pw53] at h1
  have h2 : (kept : Rat) * pw last < 9007199254740993 * pw last := by grind
  have h3 := c84 h2 (c82 hP)
  have := cast_lt kept 9007199254740993 (by exact_mod_cast h3)
  omega
 have k2 : last = -1074 ∨ (i + L = last + 52 ∧ 4503599627370496 ≤ kept) := by
  by_cases e : last = -1074
  ·exact .inl e
  ·refine .inr ⟨by omega, ?_⟩
   have h1 : i + L = last + 52 := by omega
   rw [h1, pw52] at b1
   have h2 : (4503599627370495 : Rat) * pw last < kept * pw last := by grind
   have h3 := c84 h2 (c82 hP)
   have := cast_lt 4503599627370495 kept (by exact_mod_cast h3)
   omega
 obtain ⟨E, hE⟩ : ∃ E : Nat, last = -1074 + E := ⟨(last + 1074).toNat, by omega⟩
 have hEk : E = 0 ∨ 4503599627370496 ≤ kept := by omega
 have e1 : (last - -1074).toNat = E := by omega
 have hrv := K5 E kept k1 hEk
 rw [← hE] at hrv
 rw [e1] at e0
 have hhi : (m : Rat) * pw i < rv (E * 4503599627370496 + kept + 1) := by
  by_cases h5 : kept < 9007199254740992
  ·have e3 := b5y E kept h5 hEk
   rw [e3, hrv, ← hE]; grind
  ·have hk5 : kept = 9007199254740992 := by omega
   subst hk5
   have e3 := K5 (E + 1) 4503599627370497 (by omega) (by omega)
   rw [show E * 4503599627370496 + 9007199254740992 + 1 = (E + 1) * 4503599627370496 + 4503599627370497 from by omega, e3]
   have e4 : (-1074 : Int) + ((E + 1 : Nat) : Int) = last + 1 := by omega
   have e5 := a5z last
   rw [e4, e5]
   have h6 : ((9007199254740992 : Nat) : Rat) = 9007199254740992 := rfl
   have h7 : ((4503599627370497 : Nat) : Rat) = 4503599627370497 := rfl
   rw [h6] at hk
   rw [h7]
   grind
 refine ⟨_, e0, fun x hx => ?_, fun x hx => ?_⟩
 ·by_cases h : x ≤ E * 4503599627370496 + kept
  ·exact h
  ·have h2 := a3x (show E * 4503599627370496 + kept + 1 ≤ x by omega)
   grind
 ·by_cases h : E * 4503599627370496 + kept ≤ x
  ·exact h
  ·exfalso
   have hlt : x ≤ E * 4503599627370496 + kept - 1 := by omega
   have hx2 := a3x hlt
   by_cases h5 : E = 0 ∨ 4503599627370497 ≤ kept
   ·obtain ⟨q, rfl⟩ : ∃ q, kept = q + 1 := ⟨kept - 1, by omega⟩
    have e3 := K5 E q (by omega) (by omega)
    rw [show E * 4503599627370496 + (q + 1) - 1 = E * 4503599627370496 + q from by omega, e3, ← hE] at hx2
    rw [Rat.natCast_add] at hk
    grind
   ·have hk5 : kept = 4503599627370496 := by omega
    subst hk5
    obtain ⟨F, rfl⟩ : ∃ F, E = F + 1 := ⟨E - 1, by omega⟩
    have e3 := K5 F 9007199254740991 (by omega) (by omega)
    rw [show (F + 1) * 4503599627370496 + 4503599627370496 - 1 = F * 4503599627370496 + 9007199254740991 from by omega, e3] at hx2
    have e4 : (-1074 : Int) + F = last - 1 := by omega
    have e5 := a1d last
    rw [e4] at hx2
    have h6 : ((9007199254740991 : Nat) : Rat) = 9007199254740991 := rfl
    rw [h6] at hx2
    have e6 : i + L = last + 52 := by omega
    rw [e6, pw52] at b1
    have := n8 (last - 1)
    grind
end Go.Ab
namespace Go.Ab
set_option linter.unusedSimpArgs false
set_option linter.unusedVariables false
open Go Go.Proofs
theorem c5d (m n : Nat) (i j : Int) : ∃ a b, Ieee.Datum.sum (.number false m i) (.number false n j) = some (.number false a b) ∧ (a : Rat) * pw b = (m : Rat) * pw i + (n : Rat) * pw j := by
 have hs := N4 false m i (min i j) (by omega)
 have ht := N4 false n j (min i j) (by omega)
 simp only [Bool.false_eq_true, if_false] at hs ht
 simp only [Ieee.Datum.sum]
 have n1 : 0 ≤ Ieee.signed false m (i - min i j).toNat := by simp only [Ieee.signed, Bool.false_eq_true, if_false]; exact Int.natCast_nonneg _
 have n2 : 0 ≤ Ieee.signed false n (j - min i j).toNat := by simp only [Ieee.signed, Bool.false_eq_true, if_false]; exact Int.natCast_nonneg _
 generalize Ieee.signed false m (i - min i j).toNat = a at hs n1
 generalize Ieee.signed false n (j - min i j).toNat = b at ht n2
 have q1 : decide (a + b < 0) = false := decide_eq_false (by omega)
 refine ⟨(a + b).natAbs, min i j, ?_, ?_⟩
 ·rw [q1]; simp
 ·rw [← hs, ← ht]
  have e : (((a + b).natAbs : Nat) : Rat) = (a : Rat) + (b : Rat) := by
   rw [← Rat.intCast_add, ← Rat.intCast_natCast]
   exact congrArg (fun z : Int => (z : Rat)) (by omega)
  rw [e]; grind
theorem c7B (A : Nat) : cf (Ieee.double.word false (min A 9218868437227405312)) = min A 9218868437227405312 := by
 rw [C6]
 exact r7 (c15 (Nat.min_le_right _ _))
theorem b2Y {m : Nat} {i : Int} {x : Nat} (hx : Pw x) (h : rv x ≤ (m : Rat) * pw i) : x ≤ cf (Ieee.double.write (.number false m i)) := by
 obtain ⟨A, e, h1, h2⟩ := c3d false m i
 have : Ieee.double.write (.number false m i) = Ieee.double.nearest false m i := rfl
 rw [this, e, c7B]
 have := h1 x h
 unfold Pw at hx
 omega
theorem b01 {x m : Nat} {i : Int} (hx : Pw x) (h : Ieee.double.read x = .number false m i) : x < 9218868437227405312 ∧ rv x = (m : Rat) * pw i := by
 have hne : x ≠ 9218868437227405312 := by rintro rfl; rw [t9] at h; cases h
 have hlt : x < 9218868437227405312 := by unfold Pw at hx; omega
 have := A8 h
 rw [a6B hlt] at this
 exact ⟨hlt, by simpa using this⟩
theorem b4N {x y : Nat} (hx : Pw x) (hy : Pw y) : x ≤ fop .add x y ∧ y ≤ fop .add x y := by
 have h9 : cf (Ieee.double.write (.infinity false)) = 9218868437227405312 := by decide
 unfold fop Ieee.Format.add
 simp only
 rcases a0A hx with ⟨m, i, h1⟩ | rfl <;> rcases a0A hy with ⟨n, j, h2⟩ | rfl
 ·obtain ⟨l1, v1⟩ := b01 hx h1
  obtain ⟨l2, v2⟩ := b01 hy h2
  have p1 := H9 x
  have p2 := H9 y
  rw [h1, h2]
  obtain ⟨a, b, e, hv⟩ := c5d m n i j
  rw [e]
  exact ⟨b2Y hx (by rw [hv, ← v1, ← v2]; grind), b2Y hy (by rw [hv, ← v1, ← v2]; grind)⟩
 ·rw [h1, t9, show Ieee.Datum.sum (.number false m i) (.infinity false) = some (.infinity false) from rfl]
  simp only [Option.map_some, Option.getD_some, h9]
  exact ⟨hx, c85 _⟩
 ·rw [h2, t9, show Ieee.Datum.sum (.infinity false) (.number false n j) = some (.infinity false) from rfl]
  simp only [Option.map_some, Option.getD_some, h9]
  exact ⟨c85 _, hy⟩
 ·rw [t9, show Ieee.Datum.sum (.infinity false) (.infinity false) = some (.infinity false) from rfl]
  simp only [Option.map_some, Option.getD_some, h9]
  exact ⟨c85 _, c85 _⟩
theorem c16 {g y : Nat} (hg : Pw g) (h1 : oneW ≤ g) (hy : Pw y) (h0 : 0 < y) : y ≤ fop .mul g y := by
 have h9 : cf (Ieee.double.write (.infinity false)) = 9218868437227405312 := by decide
 have o1 : (0 : Nat) < oneW := by decide
 unfold fop Ieee.Format.mul
 simp only
 rcases a0A hg with ⟨m, i, r1⟩ | rfl <;> rcases a0A hy with ⟨n, j, r2⟩ | rfl
 ·obtain ⟨l1, v1⟩ := b01 hg r1
  obtain ⟨l2, v2⟩ := b01 hy r2
  have p2 := H9 y
  have p1 := a3x h1
  have e1 : rv oneW = 1 := by rw [← a6B (by decide : oneW < _)]; exact v1W
  rw [e1] at p1
  rw [r1, r2, show Ieee.Datum.product (.number false m i) (.number false n j) = some (.number false (m * n) (i + j)) from rfl]
  refine b2Y hy ?_
  rw [a8s, Rat.natCast_mul]
  have := c81 p1 p2
  have e : (m : Rat) * n * (pw i * pw j) = (m * pw i) * (n * pw j) := by grind
  rw [e, ← v1, ← v2]
  grind
 ·rw [r1, t9]
  obtain ⟨l1, v1⟩ := b01 hg r1
  have hm : m ≠ 0 := by
   rintro rfl
   have := a5w (show 0 < g by omega)
   rw [B8, v1] at this
   simp at this
  have e : Ieee.Datum.product (.number false m i) (.infinity false) = some (.infinity false) := by simp only [Ieee.Datum.product, hm, if_false, Bool.xor_self]
  rw [e]
  simp only [Option.map_some, Option.getD_some, h9]
  exact c85 _
 ·rw [r2, t9]
  obtain ⟨l2, v2⟩ := b01 hy r2
  have hm : n ≠ 0 := by
   rintro rfl
   have := a5w h0
   rw [B8, v2] at this
   simp at this
  have e : Ieee.Datum.product (.infinity false) (.number false n j) = some (.infinity false) := by simp only [Ieee.Datum.product, hm, if_false, Bool.xor_self]
  rw [e]
  simp only [Option.map_some, Option.getD_some, h9]
  exact hy
 ·rw [t9, show Ieee.Datum.product (.infinity false) (.infinity false) = some (.infinity false) from rfl]
  simp only [Option.map_some, Option.getD_some, h9]
  exact c85 _
theorem c2w {x : Nat} (h : Pw x) : x ≤ up x := by
 by_cases e : x = 9218868437227405312
 ·subst e; rw [c4x]; exact c85 _
 ·unfold Pw at h; rw [c6F (by omega)]; omega
theorem b2Z {x y : Nat} (hx : Pw x) (hy : Pw y) : Ieee.double.order x y = some (compare x y) := by
 by_cases e1 : x = 9218868437227405312
 ·subst e1
  by_cases e2 : y = 9218868437227405312
  ·subst e2; decide
  ·unfold Pw at hy
   obtain ⟨s, m, i, hd⟩ := a85 (x := y) (by omega)
   have : compare (9218868437227405312 : Nat) y = .gt := Nat.compare_eq_gt.2 (by omega)
   rw [this]
   simp [Ieee.Format.order, hd, t9, Ieee.Datum.order]
 ·by_cases e2 : y = 9218868437227405312
  ·subst e2
   unfold Pw at hx
   obtain ⟨s, m, i, hd⟩ := a85 (x := x) (by omega)
   have : compare x (9218868437227405312 : Nat) = .lt := Nat.compare_eq_lt.2 (by omega)
   rw [this]
   simp [Ieee.Format.order, hd, t9, Ieee.Datum.order]
  ·unfold Pw at hx hy
   have l1 : x < 9218868437227405312 := by omega
   have l2 : y < 9218868437227405312 := by omega
   have o := P2 (a85 l1) (a85 l2)
   rw [a6B l1, a6B l2] at o
   rcases Nat.lt_trichotomy x y with h | h | h
   ·have := a5w h
    rw [Nat.compare_eq_lt.2 h]
    rcases o with ⟨_, o⟩ | ⟨o, _⟩ | ⟨o, _⟩
    ·exact o
    ·grind
    ·grind
   ·subst h
    rw [Nat.compare_eq_eq.2 rfl]
    rcases o with ⟨o, _⟩ | ⟨_, o⟩ | ⟨o, _⟩
    ·grind
    ·exact o
    ·grind
   ·have := a5w h
    rw [Nat.compare_eq_gt.2 h]
    rcases o with ⟨o, _⟩ | ⟨o, _⟩ | ⟨_, o⟩
    ·grind
    ·grind
    ·exact o
theorem c8T {x y : Nat} (hx : Pw x) (hy : Pw y) : fcmp .ge x y = true ↔ y ≤ x := by
 simp only [fcmp, b2Z hx hy]
 rcases Nat.lt_trichotomy x y with h | h | h
 ·rw [Nat.compare_eq_lt.2 h]; simp; omega
 ·subst h; rw [Nat.compare_eq_eq.2 rfl]; simp
 ·rw [Nat.compare_eq_gt.2 h]; simp; omega
theorem c8J {x y : Nat} (hx : Pw x) (hy : Pw y) : fcmp .lt x y = true ↔ x < y := by
 simp only [fcmp, b2Z hx hy]
 rcases Nat.lt_trichotomy x y with h | h | h
 ·rw [Nat.compare_eq_lt.2 h]; simp; omega
 ·subst h; rw [Nat.compare_eq_eq.2 rfl]; simp
 ·rw [Nat.compare_eq_gt.2 h]; simp; omega
theorem c8K {x y : Nat} (hx : Pw x) (hy : Pw y) : fcmp .gt x y = true ↔ y < x := by
 simp only [fcmp, b2Z hx hy]
 rcases Nat.lt_trichotomy x y with h | h | h
 ·rw [Nat.compare_eq_lt.2 h]; simp; omega
 ·subst h; rw [Nat.compare_eq_eq.2 rfl]; simp
 ·rw [Nat.compare_eq_gt.2 h]; simp; omega
theorem c1s (h m : Nat) : oneW ≤ a8P h m := by
 unfold a8P
 split
 ·exact c85 _
 ·split
  ·rename_i h2
   have hp := (c4P (b67 _) h2).1
   have := (c8K hp (by unfold Pw; decide : Pw oneW)).1 h2
   omega
  ·exact c85 _
def c73 (R : Bnd × Int) (w h : Nat) : Prop := (R.2 = 0 ∧ Pw R.1.jump ∧ Pw R.1.defect ∧ Pw R.1.growth ∧ oneW ≤ R.1.growth ∧ R.1.bound < 9218868437227405312 ∧ w ≤ R.1.bound ∧ fop .add w R.1.jump ≤ R.1.bound ∧ fop .mul h R.1.defect ≤ R.1.bound) ∨ (R.1 = ⟨0, 0, 0, 0, 0⟩ ∧ (R.2 = 3 ∨ R.2 = 7))
theorem b9a (t : Tp) (box : List Iv) (q : List Md) (h e j d w : Nat) (hj : Pw j) (hd : Pw d) (he : Pw e) (he0 : 0 < e) (h1 : w ≤ e) (h2 : fop .add w j ≤ e) (h3 : fop .mul h d ≤ e) : ∀ k r, Pw r → c73 (bndK t box q h e j d k r) w h := by
 intro k
 induction k with
 | zero => intro r _; exact .inr ⟨rfl, .inr rfl⟩
 | succ k ih =>
  intro r hr
  rw [bndK]
  split
  ·exact .inr ⟨rfl, .inl rfl⟩
  ·simp only
   have hg := b7b h (b30 (jacI t (tabI (tubI q r) t.n)))
   have hg1 := c1s h (b30 (jacI t (tabI (tubI q r) t.n)))
   generalize a8P h (b30 (jacI t (tabI (tubI q r) t.n))) = g at hg hg1 ⊢
   have hb := c17 hg.1 hg.2 he he0
   have hbe := c16 hg.1 hg1 he he0
   have hub := a2R hb
   have hue := c2w hb
   generalize up (fop .mul g e) = b at hub hue ⊢
   split
   ·rename_i hlt
    have hl := (c8J hub.1 hr).1 hlt
    unfold Pw at hr
    exact .inl ⟨rfl, hj, hd, hg.1, hg1, by show b < _; omega, by show w ≤ b; omega, by show fop .add w j ≤ b; omega, by show fop .mul h d ≤ b; omega⟩
   ·split
    ·exact .inr ⟨rfl, .inr rfl⟩
    ·exact ih _ (b2E hub.1).1
theorem b89 (t : Tp) (box : List Iv) (z : List (List Nat)) (h : Nat) (y : List Nat) (w : Nat) (hw : Pw w) (h0 : 0 < h ∧ h < 9218868437227405312) : c73 (bndP t box z h y w) w h := by
 unfold bndP
 simp only
 split
 ·exact .inr ⟨rfl, .inr rfl⟩
 ·rename_i hf
  have hf2 : m6 (D6 (jmpI z y) (t.n - 1)) = true ∧ m6 (D6 (dftI t z (J4 z t.n) h) (t.n - 1)) = true := by
   simpa using hf
  have hj : Pw (D6 (jmpI z y) (t.n - 1)) := by
   obtain ⟨i, _, e⟩ := a79 (jmpI z y) (t.n - 1)
   rw [e] at hf2 ⊢; exact b61 hf2.1
  have hd : Pw (D6 (dftI t z (J4 z t.n) h) (t.n - 1)) := by
   obtain ⟨i, _, e⟩ := a79 (dftI t z (J4 z t.n) h) (t.n - 1)
   rw [e] at hf2 ⊢; exact b61 hf2.2
  generalize D6 (jmpI z y) (t.n - 1) = j at hj hf2 ⊢
  generalize D6 (dftI t z (J4 z t.n) h) (t.n - 1) = d at hd hf2 ⊢
  obtain ⟨f, v⟩ := b4M h0.2 h0.1
  have he := b4G hw hj hd h0
  have a1 := b7A hw hj
  have a2 := b7z f (by unfold Pw; omega) v hd
  have b1 := b4N (a2R a1).1 (a2R a2).1
  have c1 := c2w (b7A (a2R a1).1 (a2R a2).1)
  have c2 := c2w a1
  have c3 := c2w a2
  have c4 := b4N hw hj
  refine b9a _ _ _ _ _ _ _ _ hj hd he.1 he.2 ?_ ?_ ?_ _ _ (b2E he.1).1
  ·omega
  ·omega
  ·omega
def Fi (p : Iv) : Prop := fin p.1 ∧ fin p.2
end Go.Ab
namespace Go.Ab
set_option linter.unusedSimpArgs false
set_option linter.unusedVariables false
open Nat renaming reduceEqDiff → n1_, reduceAdd → n2_, reduceMul → n3_, reduceLT → n4_, reduceLeDiff → n5_
open Int renaming reduceToNat → i1_, reduceAdd → i2_, reduceSub → i3_, reduceMul → i4_, reduceNeg → i5_, reduceLT → i6_, reduceLE → i7_
open Go Go.Proofs
def G0 : CA := (.seq (.reg [i_N 0 30 .lss 29 28] [2, 3, 4, 8, 10, 11, 12, 27, 28, 29, 30]) (.seq (.cond (.t 30) .skip (.exit 0)) (.seq (.block 1 (.seq (.reg [i_I 0 31 27 29 2, i_A 1 32 31 2, i_X 2 14 (.alloc [.nil, fI 0] 191), i_S 3 14 32 2] [2, 3, 4, 8, 10, 11, 12, 14, 27, 28, 29]) (.reg [i_M 0 33 12, i_A 1 34 14 2, i_X 2 35 (.callA (kF 145) [(.t 34)]), i_X 3 36 (.bslice z_20 1 20 [(0, (20, (.t 35)))] 123), i_X 4 37 (.app (.t 33) (.t 36) 20 160), i_M 5 12 37] [2, 3, 4, 8, 10, 11, 12, 27, 28, 29]))) (.reg [i_B 0 38 .add 29 1, i_M 1 29 38] [2, 3, 4, 8, 10, 11, 12, 27, 28, 29]))))
def R1 : CA := (.seq (.reg [i_B 0 77 .lss 76 3] [4, 8, 10, 12, 15, 17, 18, 76, 77]) (.seq (.cond (.t 77) .skip (.exit 2)) (.seq (.block 3 (.seq (.reg [i_M 0 78 12, i_M 1 79 18, i_X 2 80 (.callA (kF 149) [(.t 78), (.t 79)]), i_M 3 19 80] [4, 8, 10, 12, 15, 17, 18, 19, 76]) (.seq (.seq (.reg [i_M 0 81 19, i_P 1 82 4 3, i_L 2 83 82 1, i_X 3 84 (.callA (kF 150) [(.t 81), (.t 83)]), i_X 4 85 (.h (.un .not (.t 84)))] [4, 8, 10, 12, 15, 17, 18, 19, 76, 85]) (.cond (.t 85) (.seq (.reg [i_X 0 86 (.h (.build z_5 [])), i_S 1 8 86 5, i_K 2 9 3] [8, 9]) .ret) .skip)) (.seq (.reg [i_P 0 87 4 0, i_A 1 88 87 3, i_M 2 89 19, i_X 3 90 (.callA (kF 152) [(.t 88), (.t 89)]), i_X 4 91 (.callA (kF 151) [(.t 90)]), i_P 5 92 15 2, i_S 6 92 91 1] [4, 8, 10, 12, 15, 17, 18, 76]) (.seq (.reg [i_M 0 93 10, i_P 1 94 15 2, i_L 2 95 94 1, i_X 3 96 (.callA (kF 153) [(.t 93), (.t 95)]), i_P 4 97 15 3, i_S 5 97 96 1] [4, 8, 10, 12, 15, 17, 18, 76]) (.seq (.reg [i_P 0 98 15 3, i_L 1 99 98 1, i_M 2 100 17, i_F 3 101 .mul 99 100, i_X 4 102 (.callA (kF 148) [(.t 101)]), i_M 5 20 102] [4, 8, 10, 12, 15, 17, 18, 20, 76]) (.seq (.seq (.reg [i_M 0 103 20, i_M 1 104 18, i_X 2 105 (.h (.fcmp .lt (.t 103) (.t 104)))] [4, 8, 10, 12, 15, 17, 20, 76, 105]) (.cond (.t 105) (.seq (.reg [i_M 0 106 20, i_P 1 107 15 4, i_S 2 107 106 1] [8, 15]) (.seq (.reg [i_A 0 108 15 5, i_S 1 8 108 5, i_K 2 9 0] [8, 9]) .ret)) .skip)) (.seq (.seq (.reg [i_M 0 109 20, i_X 1 110 (.callA (kF 83) [(.t 109)]), i_X 2 111 (.h (.un .not (.t 110)))] [4, 8, 10, 12, 15, 17, 20, 76, 111]) (.cond (.t 111) (.exit 2) .skip)) (.reg [i_M 0 112 20, i_X 1 113 (.h (.fbin .mul (.k (.d (.flt 4616189618054758400))) (.t 112))), i_X 2 114 (.callA (kF 148) [(.t 113)]), i_M 3 18 114] [4, 8, 10, 12, 15, 17, 18, 76]))))))))) (.reg [i_B 0 115 .add 76 1, i_M 1 76 115] [4, 8, 10, 12, 15, 17, 18, 76]))))
def a7g : CA := (.seq (.reg [i_X 0 4 (.box (.t 0) 13 33), i_X 1 5 (.box (.t 1) 5 40), i_X 2 8 (.alloc z_5 143), i_K 3 9 0] [2, 3, 4, 5, 8]) (.seq (.reg [i_P 0 21 5 1, i_L 1 22 21 1, i_X 2 23 (.h (.i2f (.t 22))), i_X 3 24 (.callA (kF 96) [(.t 23), (.k (.d (.int .i64 (-30))))]), i_M 4 10 24] [2, 3, 4, 5, 8, 10]) (.seq (.reg [i_A 0 25 5 5, i_X 1 26 (.callA (kF 144) [(.t 25)]), i_M 2 11 26] [2, 3, 4, 8, 10, 11]) (.seq (.reg [i_X 0 12 (.h (.mov (.k .nil)))] [2, 3, 4, 8, 10, 11, 12]) (.seq (.seq (.reg [i_M 0 27 11, i_X 1 28 (.h (.len (.t 27))), i_K 2 29 0] [2, 3, 4, 8, 10, 11, 12, 27, 28, 29]) (.block 0 (.loop G0))) (.seq (.reg [i_M 0 39 11, i_M 1 40 2, i_X 2 41 (.callS 0 (kF 146) [(.t 39), (.t 40)]), i_P 3 42 4 0, i_A 4 43 42 3, i_M 5 44 11, i_M 6 45 12, i_M 7 46 10, i_X 8 47 (.callS 0 (kF 147) [(.t 43), (.t 44), (.t 45), (.t 46)]), i_X 9 48 (.h (.build z_5 [(0, (1, (.t 41))), (1, (1, (.t 47)))])), i_X 10 15 (.alloc z_5 143), i_S 11 15 48 5] [3, 4, 8, 10, 12, 15]) (.seq (.seq (.reg [i_P 0 49 15 0, i_L 1 50 49 1, i_X 2 51 (.callA (kF 83) [(.t 50)]), i_X 3 52 (.h (.un .not (.t 51))), i_M 4 53 52, g_F 5 54 53 (.h (.padd (.t 15) 1)), g_F 6 55 53 (.load (.t 54) 1 false), g_F 7 56 53 (.callA (kF 83) [(.t 55)]), g_F 8 57 53 (.h (.un .not (.t 56))), i_X 9 58 (.h (.pick (.t 53) (.k (.d (.bool true))) (.t 57)))] [3, 4, 8, 10, 12, 15, 58]) (.cond (.t 58) (.seq (.reg [i_X 0 59 (.h (.build z_5 [])), i_S 1 8 59 5, i_K 2 9 7] [8, 9]) .ret) .skip)) (.seq (.reg [i_M 0 60 3, i_P 1 61 15 0, i_L 2 62 61 1, i_F 3 63 .add 60 62, i_X 4 64 (.callA (kF 148) [(.t 63)]), i_M 5 16 64] [4, 8, 10, 12, 15, 16]) (.seq (.reg [i_M 0 65 16, i_M 1 66 10, i_P 2 67 15 1, i_L 3 68 67 1, i_F 4 69 .mul 66 68, i_X 5 70 (.callA (kF 148) [(.t 69)]), i_F 6 71 .add 65 70, i_X 7 72 (.callA (kF 148) [(.t 71)]), i_M 8 17 72] [4, 8, 10, 12, 15, 17]) (.seq (.reg [i_M 0 73 17, i_X 1 74 (.h (.fbin .mul (.k (.d (.flt 4616189618054758400))) (.t 73))), i_X 2 75 (.callA (kF 148) [(.t 74)]), i_M 3 18 75] [4, 8, 10, 12, 15, 17, 18]) (.seq (.seq (.reg [i_K 0 76 0] [4, 8, 10, 12, 15, 17, 18, 76]) (.block 2 (.loop R1))) (.seq (.reg [i_X 0 116 (.h (.build z_5 [])), i_S 1 8 116 5, i_K 2 9 7] [8, 9]) .ret))))))))))))
theorem a6k : d6 Tryz.prog 94 = some ⟨117, [(8, (some (5, true))), (9, none)], a7g.strip⟩ := by kernel_rfl
abbrev bdV (b : Bnd) : V := .agg [fl b.jump, fl b.defect, fl b.norm, fl b.growth, fl b.bound]
theorem b4B (z : List (List Nat)) (n i : Nat) (h : i < n) : (J4 z n).getD i [] = ofM (colT z i) := by
 simp [J4, c8U, h]
theorem b1g (z : List (List Nat)) (n i : Nat) (h : i < n) : ((J4 z n).getD i []).length = 10 := by rw [b4B z n i h]; exact a0p _
structure Bok (p : Pb) (v : Nd) (y : List Nat) (w : Nat) : Prop where
 t : Tok p.t
 n : 0 < p.t.n
 len : p.t.ops.length < 2 ^ 39
 rk : Rk (v.order.toNat + 1) p.t.n v.z
 ord : v.order.toNat < 9
 step : ∃ j : Nat, j < 60 ∧ v.step = (2 ^ j : Nat)
 y : y.length = p.t.n
 w : Pw w
 box : p.box.length = p.t.n
theorem c8P {L L' : Heap} {Y r n : Nat} {q : List Md} (h : L.get Y r = some (f4 n (mdG q))) (hn : q.length = n) (hr : ∀ i, i < n → (q.getD i []).length = 10) (h' : L'.get Y r = none) : Fz L L' (.sl Y r 0 n 20 (n * 20)) (.d (mdD q)) := by
 unfold mdD
 rw [hn]
 exact .d (s8 (esz := 20) (fun Z q hZ e => by cases e; exact hZ h') h (fun j hj => a3C _ _ (hr j hj)) rfl)
def NilTo (v : V) : Sl → Sl → Prop
 | [], [] => True
 | (i, a) :: s, (j, b) :: s' => i = j ∧ (b = a ∨ (a = .nil ∧ b = v)) ∧ NilTo v s s'
 | _, _ => False
theorem NilTo.look {v : V} {s s' : Sl} (h : NilTo v s s') (i : Nat) : look s' i = look s i ∨ (look s i = .nil ∧ look s' i = v) := by
 induction s generalizing s' with
 | nil => cases s' with
  | nil => exact .inl rfl
  | cons u us => exact h.elim
 | cons p s ih => cases s' with
  | nil => exact h.elim
  | cons q s' =>
   obtain ⟨k, a⟩ := p
   obtain ⟨k', b⟩ := q
   obtain ⟨rfl, hv, h2⟩ := h
   simp only [Ab.look]
   split
   ·exact hv
   ·exact ih h2
abbrev bsS0 (y : List Nat) (w H : Nat) (Z : List (List Nat)) (n : Nat) (v : V) (k : Nat) : Sl := [(2, .d (rowD y)), (3, fl w), (4, .ptr 0 0 0 13), (8, .ptr 2 0 0 5), (10, fl H), (11, .d (ptD Z n)), (12, v), (27, .d (ptD Z n)), (28, fI n), (29, fI k)]
abbrev bsH (nd pb : List V) : Heap := [(2, [[fl 0, fl 0, fl 0, fl 0, fl 0]]), (1, [nd]), (0, [pb])]
theorem c37 (nd pb : List V) (hnd : ∀ L, KpA L nd) (hpb : ∀ L, KpA L pb) (hndF : ∀ L L', FzA L L' nd nd) (hpbF : ∀ L L', FzA L L' pb pb) (y : List Nat) (w H : Nat) (Z : List (List Nat)) (n m : Nat) (hk : Rk (m + 1) n Z) (hn : 0 < n ∧ n < 2 ^ 20) (ho : m < 9) (Q : Ex → T → Prop)
  (hQ : ∀ a, Q (.exit 0) ⟨bsS0 y w H Z n (.d (mdD (J4 Z n))) n ++ [(30, a)], bsH nd pb⟩) :
  WA Tryz.prog (fun _ => False) 117 (.loop G0) Q ⟨bsS0 y w H Z n .nil 0, bsH nd pb⟩ := by
 have hqr := b1g Z n
 have hql := b4C Z n
 have hrow := b4B Z n
 refine f9 (n := n) (fun c s => ∃ k, c + k = n ∧ ((k < n ∧ s = ⟨bsS0 y w H Z n (.sl 100 0 0 k 20 (k * 20)) k, (100, [f4 k (mdG (J4 Z n))]) :: bsH nd pb⟩) ∨ (k = n ∧ s = ⟨bsS0 y w H Z n (.d (mdD (J4 Z n))) k, bsH nd pb⟩))) (s0 := ⟨_, _⟩)
  (LeT.nilrow (X := 100) (esz := 20) (as' := bsS0 y w H Z n (.sl 100 0 0 0 20 0) 0) (by simp [b4, b7]) (fun h => h) (NilTo.look ?_)) ⟨0, by omega, .inl ⟨by omega, rfl⟩⟩ ?_
 ·repeat (first | exact trivial | refine ⟨rfl, .inl rfl, ?_⟩ | refine ⟨rfl, .inr ⟨rfl, rfl⟩, ?_⟩)
 rintro c s ⟨k, hc, ⟨hkn, rfl⟩ | ⟨hkn, rfl⟩⟩
 ·have hcl : (f4 k (mdG (J4 Z n))).length = k * 20 := p8 k fun j hj => a3C _ _ (hqr j (by omega))
  have hpo := a0p (colT Z k)
  refine evx (And.intro @G0.eq_1 @ptD.eq_1) ?_
  have h2 : decide (k < n) = true := decide_eq_true (by omega)
  refine evx (And.intro h2 @ptG.eq_1) ?_
  (repeat (with_reducible refine And.intro (by omega) ?_))
  refine a0 (a97 Z m n k hk hkn (by omega)) rfl ?_
  simp -implicitDefEqProofs only [evI, hv, effC, reduceCtorEq, ↓reduceIte, n1_, n2_, n3_, n4_, n5_, i1_, i2_, i3_, i4_, i5_, i6_, i7_, E9 _ hpo, C8 _ hpo, y0 _ hpo]
  (repeat (with_reducible refine And.intro (by omega) ?_))
  have e : f4 k (mdG (J4 Z n)) ++ ivC (ofM (colT Z k)) = f4 (k + 1) (mdG (J4 Z n)) := by rw [z3, H8, mdG, hrow k hkn]
  rw [e, b9 (by omega) (by omega), show k * 20 + 20 = (k + 1) * 20 by omega]
  by_cases hlast : k + 1 = n
  ·have hz : ∀ L : Heap, L.get 100 0 = some (f4 (k + 1) (mdG (J4 Z n))) → Fz L (bsH nd pb) (.sl 100 0 0 (k + 1) 20 ((k + 1) * 20)) (.d (mdD (J4 Z n))) := fun L a => c8P a (by omega) (fun i hi => hqr i (by omega)) (by simp [b6, d9])
   have hpt : ∀ L L' : Heap, Fz L L' (.d (.bor n (ptG Z))) (.d (ptD Z n)) := fun L L' => .d (.d _)
   refine ⟨c - 1, _, by omega, ?_, k + 1, by omega, .inr ⟨hlast, rfl⟩⟩
   have hz2 := hz ((107, [ivC (ofM (colT Z k))]) :: (103, [[.d (.bor Z.length (a0m Z)), .d (.int .i64 (k : Int))]]) :: (100, [f4 (k + 1) (mdG (J4 Z n))]) :: bsH nd pb) (by simp [b6])
   exact LeT.weak (fun _ h => h) (by simp (maxDischargeDepth := 6) [fzS, hpt, hz2]) (by simp (maxDischargeDepth := 6) [fzS, hpt, hndF, hpbF])
  ·refine ⟨c - 1, _, by omega, LeT.only (fun X => decide (X ≤ 100)) (fun _ h => h) rfl (by simp (maxDischargeDepth := 6) [kpS, b4, b7, hnd, hpb]) (by simp (maxDischargeDepth := 6) [kpS, b4, b7, hnd, hpb]), k + 1, by omega, .inl ⟨by omega, rfl⟩⟩
 ·subst hkn
  refine evx (And.intro @G0.eq_1 (And.intro @ptD.eq_1 @Nat.lt_irrefl)) ?_
  exact hQ _
abbrev bsS1 (h e r : Nat) (q : List Md) (k : Nat) : Sl := [(4, .ptr 0 0 0 13), (8, .ptr 2 0 0 5), (10, fl h), (12, .d (mdD q)), (15, .ptr 13 0 0 5), (17, fl e), (18, fl r), (76, fI k)]
abbrev bsH1 (nd : List V) (p : Pb) (od : D) (o : List Nat) : Heap := [(13, [rowV o]), (2, [[fl 0, fl 0, fl 0, fl 0, fl 0]]), (1, [nd]), (0, [pbCo p od])]
theorem c36 (nd : List V) (p : Pb) (od : D) (q : List Md) (h e j d : Nat) (ht : Tok p.t) (hn : 0 < p.t.n) (hb : p.box.length = p.t.n) (hq : q.length = p.t.n) (hqr : ∀ i, i < p.t.n → (q.getD i []).length = 10) (he : Pw e ∧ 0 < e) (r0 : Nat) (hr0 : Pw r0 ∧ 0 < r0) (Q : Ex → T → Prop) (R : Bnd × Int) (hR : bndK p.t p.box q h e j d 3 r0 = R)
  (hQ1 : ∀ o : List Nat, o.length = 5 → Q .ret ⟨[(8, .ptr 2 0 0 5), (9, fI R.2)], [(13, [rowV o]), (2, [[fl R.1.jump, fl R.1.defect, fl R.1.norm, fl R.1.growth, fl R.1.bound]]), (1, [nd]), (0, [pbCo p od])]⟩)
  (hQ2 : R = (⟨0, 0, 0, 0, 0⟩, 7) → ∀ (o : List Nat) r k a, Q (.exit 2) ⟨bsS1 h e r q k ++ [(77, a)], bsH1 nd p od o⟩)
  (hQ3 : R = (⟨0, 0, 0, 0, 0⟩, 7) → ∀ (o : List Nat) b k a, Q (.exit 2) ⟨[(4, .ptr 0 0 0 13), (8, .ptr 2 0 0 5), (10, fl h), (12, .d (mdD q)), (15, .ptr 13 0 0 5), (17, fl e), (20, fl b), (76, k), (111, a)], bsH1 nd p od o⟩) :
  WA Tryz.prog (fun _ => False) 117 (.loop R1) Q ⟨bsS1 h e r0 q 0, bsH1 nd p od [j, d, 0, 0, 0]⟩ := by
 have hn20 := ht.n
 refine m7 (n := 3) (fun c s => ∃ k r a b, c + k = 3 ∧ Pw r ∧ 0 < r ∧ bndK p.t p.box q h e j d c r = R ∧ s = ⟨bsS1 h e r q k, bsH1 nd p od [j, d, a, b, 0]⟩) ⟨0, r0, 0, 0, by omega, hr0.1, hr0.2, hR, rfl⟩ ?_
 rintro c s ⟨k, r, a, b, hc, hr, hrp, hR, rfl⟩
 refine evx @R1.eq_1 ?_
 refine a9 (fun h2 => ?_) (fun h2 => ?_)
 ·replace h2 := of_decide_eq_true h2
  obtain ⟨c', rfl⟩ : ∃ c', c = c' + 1 := ⟨c - 1, by omega⟩
  have htl := a0d (tubI q r) p.t.n
  have hjl := b66 p.t (tabI (tubI q r) p.t.n)
  have hjr := fun i hi => c01 p.t (tabI (tubI q r) p.t.n) ht i hi
  have hcw := c5R p.t (tabI (tubI q r) p.t.n)
  rw [bndK, c5W] at hR
  refine ev ?_
  refine a0 (b0p q r p.t.n hq hqr (by omega) hr hrp) rfl ?_
  refine ev ?_
  refine a0 (a7r (tabI (tubI q r) p.t.n) p.box p.t.n htl (by omega) (by omega)) rfl ?_
  cases hin : insL (tabI (tubI q r) p.t.n) p.box p.t.n
  ·rw [hin, if_pos rfl] at hR
   subst hR
   refine ev ?_
   exact hQ1 [j, d, a, b, 0] rfl
  ·rw [hin, if_neg (by decide)] at hR
   simp only at hR
   refine ev ?_
   refine a0 (c2a p.t (tabI (tubI q r) p.t.n) ht htl hn) rfl ?_
   refine ev ?_
   refine a0 (b4c (jacI p.t (tabI (tubI q r) p.t.n)) p.t.n hjl hjr (by omega) hcw) rfl ?_
   generalize b30 (jacI p.t (tabI (tubI q r) p.t.n)) = nm at hR ⊢
   refine ev ?_
   refine a0 (a7s h nm) rfl ?_
   obtain ⟨g1, g2⟩ := b7b h nm
   generalize a8P h nm = g at hR g1 g2 ⊢
   refine ev ?_
   refine a0 (A9 (fop .mul g e)) rfl ?_
   have hb1 := a2R (c17 g1 g2 he.1 he.2)
   generalize up (fop .mul g e) = b2 at hR hb1 ⊢
   refine ev ?_
   refine a9 (fun h3 => ?_) (fun h3 => ?_)
   ·rw [if_pos h3] at hR
    subst hR
    refine ev ?_
    exact hQ1 [j, d, nm, g, b2] rfl
   ·rw [if_neg (by simp [h3])] at hR
    refine ev ?_
    refine a0 (k8 b2) rfl ?_
    cases hf : m6 b2
    ·rw [hf, if_pos rfl] at hR
     refine ev ?_
     exact hQ3 hR.symm [j, d, nm, g, 0] _ _ _
    ·rw [hf, if_neg (by decide)] at hR
     obtain ⟨f1, f2⟩ := b2E hb1.1
     refine ev ?_
     refine a0 (A9 (fop .mul 4616189618054758400 b2)) rfl ?_
     refine ev ?_
     rw [b9 (by omega) (by omega)]
     exact ⟨c', by omega, k + 1, _, nm, g, by omega, f1, f2, hR, rfl⟩
 ·replace h2 := of_decide_eq_false h2
  obtain rfl : c = 0 := by omega
  rw [bndK] at hR
  refine ev ?_
  exact hQ2 hR.symm [j, d, a, b, 0] _ _ _
theorem a4T {s : T} {R : Bnd × Int} (h1 : look s.sl 8 = .ptr 2 0 0 5) (h2 : look s.sl 9 = fI R.2) (h3 : s.L.get 2 0 = some [fl R.1.jump, fl R.1.defect, fl R.1.norm, fl R.1.growth, fl R.1.bound]) : P6 (fun _ => False) 117 [(8, some (5, true)), (9, none)] (.tup [bdV R.1, fI R.2]) [] .ret s :=
 X8 rfl ⟨_, _, E4 (by decide) h1 h3 rfl (by simp) (by simp [ldv]), by rw [← h2]; exact d7 (by decide) rfl, rfl⟩
theorem a82 (p : Pb) (od : D) (v : Nd) (y : List Nat) (w : Nat) (h : Bok p v y w) : Con Tryz.prog 94 [pbVo p od, ndV v, .d (rowD y), fl w] (.tup [bdV (bndP p.t p.box v.z (hW v.step.toNat) y w).1, fI (bndP p.t p.box v.z (hW v.step.toNat) y w).2]) := by
 obtain ⟨ht, hn, hlen, hk, ho, ⟨j, hj, hst⟩, hy, hw, hb⟩ := h
 have hn20 := ht.n
 have hp := a81 v p.t.n (by have := hk.1; omega) (hk.2 0 (by omega)) (by omega)
 refine a3 a6k rfl d5 ?_
 refine evx @a7g.eq_1 ?_
 rw [hst]
 refine a0 (Y0 j hj) rfl ?_
 refine ev ?_
 refine a0 (hp) rfl ?_
 have hH := c7u j hj
 generalize hW (2 ^ j) = H at hH ⊢
 obtain ⟨pos, st, o, mt, Z⟩ := v
 simp only at hst hk ho hp ⊢
 obtain ⟨m, hm⟩ : ∃ m, o.toNat = m := ⟨_, rfl⟩
 rw [hm] at hk ho
 have hqr := b1g Z p.t.n
 have hql := b4C Z p.t.n
 refine evx @ptD.eq_1 ?_
 refine c37 (ndC ⟨pos, st, o, mt, Z⟩) (pbCo p od) (fun L => by simp [F4, a0B, Kp_d]) (fun L => by simp [F4, a0B, Kp_d]) (fun L L' => by simp [b23, b6x, Fz_d]) (fun L L' => by simp [b23, b6x, Fz_d]) y w H Z p.t.n m hk ⟨hn, hn20⟩ (by omega) _ fun a => ?_
 have hj1 := b0q Z y m p.t.n hk hy ⟨hn, by omega⟩ (by omega)
 have hd1 := a7t p.t Z (J4 Z p.t.n) H m p.t.n ht rfl hlen hk hql hqr ⟨hn, by omega⟩ (by omega)
 obtain ⟨ji, _, jE⟩ := a79 (jmpI Z y) (p.t.n - 1)
 obtain ⟨di, _, dE⟩ := a79 (dftI p.t Z (J4 Z p.t.n) H) (p.t.n - 1)
 have hjP : m6 (D6 (jmpI Z y) (p.t.n - 1)) = true → Pw (D6 (jmpI Z y) (p.t.n - 1)) := fun hf => by rw [jE] at hf ⊢; exact b61 hf
 have hdP : m6 (D6 (dftI p.t Z (J4 Z p.t.n) H) (p.t.n - 1)) = true → Pw (D6 (dftI p.t Z (J4 Z p.t.n) H) (p.t.n - 1)) := fun hf => by rw [dE] at hf ⊢; exact b61 hf
 unfold bndP
 simp only
 clear jE dE
 refine ev ?_
 refine a8 (hj1) rfl ?_
 refine ev ?_
 refine a8 (hd1) rfl ?_
 generalize D6 (jmpI Z y) (p.t.n - 1) = jj at hjP ⊢
 generalize D6 (dftI p.t Z (J4 Z p.t.n) H) (p.t.n - 1) = dd at hdP ⊢
 refine ev ?_
 refine a0 (k8 jj) rfl ?_
 generalize hR : (if (m6 jj && m6 dd) = false then ((⟨0, 0, 0, 0, 0⟩, 7) : Bnd × Int) else bndK p.t p.box (J4 Z p.t.n) H (up (fop .add (up (fop .add w jj)) (up (fop .mul H dd)))) jj dd 3 (up (fop .mul 4616189618054758400 (up (fop .add (up (fop .add w jj)) (up (fop .mul H dd))))))) = R
 cases h1 : m6 jj
 ·rw [h1, Bool.false_and, if_pos rfl] at hR
  subst hR
  refine ev ?_
  exact a4T (R := (⟨0, 0, 0, 0, 0⟩, 7)) rfl rfl rfl
 ·refine ev ?_
  refine a0 (k8 dd) rfl ?_
  cases h2 : m6 dd
  ·rw [h1, h2, Bool.and_false, if_pos rfl] at hR
   subst hR
   refine ev ?_
   exact a4T (R := (⟨0, 0, 0, 0, 0⟩, 7)) rfl rfl rfl
  ·rw [h1, h2, Bool.and_self, if_neg (by decide)] at hR
   have hb1 := b4G hw (hjP h1) (hdP h2) hH
   refine ev ?_
   refine a0 (A9 (fop .add w jj)) rfl ?_
   refine ev ?_
   refine a0 (A9 (fop .mul H dd)) rfl ?_
   refine ev ?_
   refine a0 (A9 (fop .add (up (fop .add w jj)) (up (fop .mul H dd)))) rfl ?_
   generalize up (fop .add (up (fop .add w jj)) (up (fop .mul H dd))) = e at hb1 hR ⊢
   have hr1 := b2E hb1.1
   refine ev ?_
   refine a0 (A9 (fop .mul 4616189618054758400 e)) rfl ?_
   generalize up (fop .mul 4616189618054758400 e) = r at hr1 hR ⊢
   refine ev ?_
   refine c36 _ p od (J4 Z p.t.n) H e jj dd ht hn hb hql hqr hb1 r hr1 _ R hR ?_ ?_ ?_
   ·intro ov ho5
    refine ev ?_
    exact a4T rfl rfl rfl
   ·rintro rfl ov r' k' a'
    refine ev ?_
    exact a4T (R := (⟨0, 0, 0, 0, 0⟩, 7)) rfl rfl rfl
   ·rintro rfl ov b' k' a'
    refine ev ?_
    exact a4T (R := (⟨0, 0, 0, 0, 0⟩, 7)) rfl rfl rfl
theorem b0r (p : Pb) (v : Nd) (y : List Nat) (w : Nat) (h : Bok p v y w) : Con Tryz.prog 94 [pbV p, ndV v, .d (rowD y), fl w] (.tup [bdV (bndP p.t p.box v.z (hW v.step.toNat) y w).1, fI (bndP p.t p.box v.z (hW v.step.toNat) y w).2]) := a82 p (rowI p.outs) v y w h
end Go.Ab
