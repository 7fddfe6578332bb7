import Derived.Test.YtponkmbigjmmoaaGreatGO
set_option linter.unusedSimpArgs false
set_option linter.unusedVariables false
set_option maxRecDepth 8000
namespace Go.Ab
open Nat renaming reduceEqDiff -> n1_, reduceAdd -> n2_, reduceMul -> n3_, reduceLT -> n4_, reduceLeDiff -> n5_
open Int renaming reduceToNat -> i1_, reduceAdd -> i2_, reduceSub -> i3_, reduceMul -> i4_, reduceNeg -> i5_, reduceLT -> i6_, reduceLE -> i7_
open Go Go.Proofs
def a6K : CA := (.seq (.reg [i_X 0 2 (.alloc [fl 0, fl 0] 83)] [0, 2]) (.seq (.reg [i_M 0 3 0, i_M 1 4 0, i_X 2 5 (.h (.build [fl 0, fl 0] [(0, (1, (.t 3))), (1, (1, (.t 4)))])), i_S 3 2 5 2] [2]) .ret))
theorem a6J : f7 Tryz.prog 191 = some ⟨6, [(2, (some (2, true)))], a6K.strip⟩ := by kernel_rfl
def E6 : CA := (.seq (.reg [i_X 0 4 (.box (.t 1) 2 83)] [0, 2, 4]) (.seq (.reg [i_M 0 7 2, i_A 1 8 4 2, i_X 2 9 (.callA (.t 7) [(.t 8)]), i_M 3 6 9] [0, 6]) (.seq (.reg [i_M 0 10 0, i_X 1 11 (.h (.nilck (.t 10))), i_P 2 12 11 1, i_L 3 13 12 1, i_X 4 14 (.h (.un .not (.t 13))), i_M 5 15 14, g_F 6 16 15 (.h (.mov (.t 6))), g_F 7 17 15 (.h (.mov (.t 0))), g_F 8 18 15 (.h (.nilck (.t 17))), g_F 9 19 15 (.h (.padd (.t 18) 0)), g_F 10 20 15 (.load (.t 19) 1 false), g_F 11 21 15 (.h (.fcmp .gt (.t 16) (.t 20))), i_X 12 22 (.h (.pick (.t 15) (.k (.d (.bool true))) (.t 21)))] [0, 6, 22]) (.cond (.t 22) (.reg [i_M 0 23 0, i_M 1 24 0, i_M 2 25 6, i_X 3 26 (.h (.nilck (.t 23))), i_P 4 27 26 0, i_S 5 27 25 1, i_X 6 28 (.h (.nilck (.t 24))), i_P 7 29 28 1, ⟨8, none, none, [], [], (.store (.t 29) (.k (.d (.bool true))) 1)⟩] []) .skip))))
theorem M5 : f7 Tryz.prog 189 = some ⟨30, [], E6.strip⟩ := by kernel_rfl
def B4 : CA := (.seq (.reg [i_X 0 4 (.box (.t 1) 20 123)] [0, 2, 4]) (.seq (.reg [i_M 0 7 2, i_A 1 8 4 20, i_X 2 9 (.callA (.t 7) [(.t 8)]), i_M 3 6 9] [0, 6]) (.seq (.reg [i_M 0 10 0, i_X 1 11 (.h (.nilck (.t 10))), i_P 2 12 11 1, i_L 3 13 12 1, i_X 4 14 (.h (.un .not (.t 13))), i_M 5 15 14, g_F 6 16 15 (.h (.mov (.t 6))), g_F 7 17 15 (.h (.mov (.t 0))), g_F 8 18 15 (.h (.nilck (.t 17))), g_F 9 19 15 (.h (.padd (.t 18) 0)), g_F 10 20 15 (.load (.t 19) 1 false), g_F 11 21 15 (.h (.fcmp .gt (.t 16) (.t 20))), i_X 12 22 (.h (.pick (.t 15) (.k (.d (.bool true))) (.t 21)))] [0, 6, 22]) (.cond (.t 22) (.reg [i_M 0 23 0, i_M 1 24 0, i_M 2 25 6, i_X 3 26 (.h (.nilck (.t 23))), i_P 4 27 26 0, i_S 5 27 25 1, i_X 6 28 (.h (.nilck (.t 24))), i_P 7 29 28 1, ⟨8, none, none, [], [], (.store (.t 29) (.k (.d (.bool true))) 1)⟩] []) .skip))))
theorem H6 : f7 Tryz.prog 195 = some ⟨30, [], B4.strip⟩ := by kernel_rfl
def a0p : CA := (.seq (.seq (.reg [i_M 0 22 5, i_B 1 23 .geq 22 0] [1, 2, 4, 5, 23]) (.cond (.t 23) .skip (.exit 0))) (.seq (.block 1 (.reg [i_A 0 26 4 2, i_X 1 27 (.callS 1 (kF 191) [(.k (.d (.flt 13830554455654793216)))]), i_X 2 28 (.callS 0 (kF 208) [(.t 26), (.t 27)]), i_P 3 29 1 0, i_L 4 30 29 1, i_M 5 31 5, i_I 6 32 30 31 1, i_L 7 33 32 1, i_P 8 34 1 1, i_L 9 35 34 1, i_I 10 36 33 35 1, i_L 11 37 36 1, i_X 12 38 (.callA (kF 191) [(.t 37)]), i_X 13 39 (.callA (kF 200) [(.t 28), (.t 38)]), i_S 14 4 39 2] [1, 2, 4, 5])) (.reg [i_M 0 24 5, i_B 1 25 .sub 24 1, i_M 2 5 25] [1, 2, 4, 5])))
def a3w : CA := (.seq (.reg [i_X 0 1 (.box (.t 0) 2 191), i_X 1 2 (.alloc [fl 0, fl 0] 83)] [1, 2]) (.seq (.reg [i_P 0 6 1 0, i_L 1 7 6 1, i_X 2 8 (.h (.len (.t 7))), i_B 3 9 .sub 8 1, i_M 4 3 9] [1, 2, 3]) (.seq (.reg [i_P 0 10 1 0, i_L 1 11 10 1, i_M 2 12 3, i_I 3 13 11 12 1, i_L 4 14 13 1, i_P 5 15 1 1, i_L 6 16 15 1, i_I 7 17 14 16 1, i_L 8 18 17 1, i_X 9 19 (.callS 0 (kF 191) [(.t 18)]), i_X 10 4 (.alloc [fl 0, fl 0] 83), i_S 11 4 19 2] [1, 2, 3, 4]) (.seq (.seq (.reg [i_M 0 20 3, i_B 1 21 .sub 20 1, i_M 2 5 21] [1, 2, 4, 5]) (.block 0 (.loop a0p))) (.seq (.reg [i_A 0 40 4 2, i_S 1 2 40 2] [2]) .ret)))))
theorem a32 : f7 Tryz.prog 188 = some ⟨41, [(2, (some (2, true)))], a3w.strip⟩ := by kernel_rfl
def R6 : CA := (.seq (.reg [i_N 0 10 .lss 9 8] [1, 2, 3, 7, 8, 9, 10]) (.seq (.cond (.t 10) .skip (.exit 0)) (.seq (.block 1 (.seq (.reg [i_I 0 11 7 9 1, i_L 1 12 11 1, i_M 2 5 12] [1, 2, 3, 5, 7, 8, 9]) (.reg [i_M 0 13 3, i_M 1 14 5, i_P 2 15 1 1, i_L 3 16 15 1, i_I 4 17 14 16 1, i_L 5 18 17 1, i_X 6 19 (.bslice [fl 0] 1 1 [(0, (1, (.t 18)))] 31), i_X 7 20 (.app (.t 13) (.t 19) 1 8), i_M 8 3 20] [1, 2, 3, 7, 8, 9]))) (.reg [i_B 0 21 .add 9 1, i_M 1 9 21] [1, 2, 3, 7, 8, 9]))))
def a0n : CA := (.seq (.reg [i_X 0 1 (.box (.t 0) 2 191), i_X 1 2 (.alloc z_20 123)] [1, 2]) (.seq (.reg [i_X 0 3 (.h (.mov (.k .nil)))] [1, 2, 3]) (.seq (.seq (.reg [i_P 0 6 1 0, i_L 1 7 6 1, i_X 2 8 (.h (.len (.t 7))), i_K 3 9 0] [1, 2, 3, 7, 8, 9]) (.block 0 (.loop R6))) (.seq (.reg [i_M 0 22 3, i_X 1 23 (.callA (kF 187) [(.t 22)]), i_S 2 2 23 20] [2]) .ret))))
theorem a1V : f7 Tryz.prog 145 = some ⟨24, [(2, (some (20, true)))], a0n.strip⟩ := by kernel_rfl
def R5 : CA := (.seq (.reg [i_N 0 13 .lss 12 11] [1, 2, 4, 5, 11, 12, 13]) (.seq (.cond (.t 13) .skip (.exit 0)) (.seq (.block 1 (.seq (.reg [i_M 0 14 12, i_M 1 6 14] [1, 2, 4, 5, 6, 11, 12]) (.reg [i_M 0 15 6, i_M 1 16 6, i_B 2 17 .add 16 1, i_X 3 18 (.h (.i2f (.t 17))), i_X 4 19 (.callS 0 (kF 191) [(.t 18)]), i_P 5 20 2 0, i_L 6 21 20 1, i_M 7 22 6, i_B 8 23 .add 22 1, i_I 9 24 21 23 1, i_L 10 25 24 1, i_P 11 26 2 1, i_L 12 27 26 1, i_I 13 28 25 27 1, i_L 14 29 28 1, i_X 15 30 (.callA (kF 191) [(.t 29)]), i_X 16 31 (.callA (kF 208) [(.t 19), (.t 30)]), i_M 17 32 1, i_X 18 33 (.callA (kF 191) [(.t 32)]), i_X 19 34 (.callA (kF 244) [(.t 31), (.t 33)]), i_P 20 35 5 0, i_X 21 36 (.h (.idxa (.t 35) (.t 15) 9 2)), i_S 22 36 34 2] [1, 2, 4, 5, 11, 12]))) (.reg [i_B 0 37 .add 12 1, i_M 1 12 37] [1, 2, 4, 5, 11, 12]))))
def a0m : CA := (.seq (.reg [i_X 0 2 (.box (.t 0) 2 191), i_X 1 4 (.alloc z_20 123)] [1, 2, 4]) (.seq (.reg [i_X 0 7 (.callA (kF 187) [(.k .nil)]), i_X 1 5 (.alloc z_20 123), i_S 2 5 7 20] [1, 2, 4, 5]) (.seq (.seq (.reg [i_P 0 8 2 0, i_L 1 9 8 1, i_X 2 10 (.h (.len (.t 9))), i_B 3 11 .sub 10 1, i_K 4 12 0] [1, 2, 4, 5, 11, 12]) (.block 0 (.loop R5))) (.seq (.reg [i_A 0 38 5 20, i_S 1 4 38 20] [4]) .ret))))
theorem a1U : f7 Tryz.prog 194 = some ⟨39, [(4, (some (20, true)))], a0m.strip⟩ := by kernel_rfl
def a14 : CA := (.seq (.reg [i_N 0 11 .lss 10 9] [1, 3, 9, 10, 11]) (.seq (.cond (.t 11) .skip (.exit 0)) (.seq (.block 1 (.seq (.reg [i_M 0 12 10, i_M 1 4 12] [1, 3, 4, 9, 10]) (.reg [i_M 0 13 3, i_P 1 14 1 4, i_L 2 15 14 1, i_M 3 16 4, i_X 4 17 (.h (.build [.nil, fI 0] [(0, (1, (.t 15))), (1, (1, (.t 16)))])), i_X 5 18 (.bslice [.nil, fI 0] 1 2 [(0, (2, (.t 17)))] 191), i_X 6 19 (.app (.t 13) (.t 18) 2 32), i_M 7 3 19] [1, 3, 9, 10]))) (.reg [i_B 0 20 .add 10 1, i_M 1 10 20] [1, 3, 9, 10]))))
def a6M : CA := (.seq (.reg [i_X 0 1 (.box (.t 0) 5 40), i_X 1 2 (.h (.mov (.k .nil)))] [1]) (.seq (.reg [i_X 0 3 (.h (.mov (.k .nil)))] [1, 3]) (.seq (.seq (.reg [i_P 0 5 1 4, i_L 1 6 5 1, i_X 2 7 (.h (.idx (.t 6) (kI 0) 1)), i_L 3 8 7 1, i_X 4 9 (.h (.len (.t 8))), i_K 5 10 0] [1, 3, 9, 10]) (.block 0 (.loop a14))) (.seq (.reg [i_M 0 21 3, i_M 1 2 21] [2]) .ret))))
theorem a6L : f7 Tryz.prog 144 = some ⟨22, [(2, none)], a6M.strip⟩ := by kernel_rfl
def a3x : CA := (.seq (.reg [i_N 0 12 .lss 11 10] [1, 5, 6, 9, 10, 11, 12]) (.seq (.cond (.t 12) .skip (.exit 0)) (.seq (.block 1 (.seq (.reg [i_M 0 13 11, i_I 1 14 9 11 2, i_A 2 15 14 2, i_X 3 8 (.alloc [.nil, fI 0] 191), i_M 4 7 13, i_S 5 8 15 2] [1, 5, 6, 7, 8, 9, 10, 11]) (.reg [i_M 0 16 6, i_A 1 17 8 2, i_X 2 18 (.callS 0 (.t 16) [(.t 17)]), i_M 3 19 1, i_M 4 20 7, i_I 5 21 19 20 1, i_L 6 22 21 1, i_X 7 23 (.callA (kF 191) [(.t 22)]), i_X 8 24 (.callA (kF 190) [(.t 18), (.t 23)]), i_X 9 25 (.callA (kF 189) [(.t 5), (.t 24), (kF 192)])] [1, 5, 6, 9, 10, 11]))) (.reg [i_B 0 26 .add 11 1, i_M 1 11 26] [1, 5, 6, 9, 10, 11]))))
def a8E : CA := (.seq (.reg [i_X 0 4 (.h (.mov (.k (.d (.flt 0)))))] [0, 1]) (.seq (.reg [i_X 0 5 (.alloc [fl 0, (.d (.bool false))] 229)] [0, 1, 5]) (.seq (.reg [i_X 0 6 (.h (.mov (kF 188)))] [0, 1, 5, 6]) (.seq (.seq (.reg [i_M 0 9 0, i_X 1 10 (.h (.len (.t 9))), i_K 2 11 0] [1, 5, 6, 9, 10, 11]) (.block 0 (.loop a3x))) (.seq (.reg [i_P 0 27 5 0, i_L 1 28 27 1, i_M 2 4 28] [4]) .ret)))))
theorem a7K : f7 Tryz.prog 146 = some ⟨29, [(4, none)], a8E.strip⟩ := by kernel_rfl
def a1q : CA := (.seq (.reg [i_N 0 20 .lss 19 18] [3, 9, 10, 11, 17, 18, 19, 20]) (.seq (.cond (.t 20) .skip (.exit 0)) (.seq (.block 1 (.seq (.reg [i_M 0 21 19, i_I 1 22 17 19 2, i_A 2 23 22 2, i_X 3 13 (.alloc [.nil, fI 0] 191), i_M 4 12 21, i_S 5 13 23 2] [3, 9, 10, 11, 12, 13, 17, 18, 19]) (.reg [i_M 0 24 10, i_M 1 25 12, i_I 2 26 24 25 20, i_A 3 27 26 20, i_M 4 28 11, i_A 5 29 13 2, i_M 6 30 3, i_X 7 31 (.callS 7 (.t 28) [(.t 29), (.t 30)]), i_X 8 32 (.callA (kF 196) [(.t 27), (.t 31)]), i_X 9 33 (.callA (kF 195) [(.t 9), (.t 32), (kF 197)])] [3, 9, 10, 11, 17, 18, 19]))) (.reg [i_B 0 34 .add 19 1, i_M 1 19 34] [3, 9, 10, 11, 17, 18, 19]))))
def a4F : CA := (.seq (.reg [i_X 0 4 (.box (.t 0) 3 28), i_X 1 8 (.h (.mov (.k (.d (.flt 0)))))] [1, 2, 3, 4]) (.seq (.reg [i_X 0 9 (.alloc [fl 0, (.d (.bool false))] 232)] [1, 2, 3, 4, 9]) (.seq (.reg [i_A 0 14 4 3, i_M 1 15 2, i_X 2 16 (.callA (kF 193) [(.t 14), (.t 15)]), i_M 3 10 16] [1, 3, 9, 10]) (.seq (.reg [i_X 0 11 (.h (.mov (kF 194)))] [1, 3, 9, 10, 11]) (.seq (.seq (.reg [i_M 0 17 1, i_X 1 18 (.h (.len (.t 17))), i_K 2 19 0] [3, 9, 10, 11, 17, 18, 19]) (.block 0 (.loop a1q))) (.seq (.reg [i_P 0 35 9 0, i_L 1 36 35 1, i_M 2 8 36] [8]) .ret))))))
theorem a5u : f7 Tryz.prog 147 = some ⟨37, [(8, none)], a4F.strip⟩ := by kernel_rfl
def a15 : CA := (.seq (.reg [i_X 0 1 (.box (.t 0) 20 123), i_X 1 2 (.h (.mov (.k (.d (.flt 0)))))] [1]) (.seq (.reg [i_A 0 3 1 20, i_X 1 4 (.callA (kF 198) [(.t 3)]), i_X 2 5 (.callA (kF 192) [(.t 4)]), i_M 3 2 5] [2]) .ret))
theorem a3y : f7 Tryz.prog 197 = some ⟨6, [(2, none)], a15.strip⟩ := by kernel_rfl
def a3v : CA := (.seq (.reg [i_N 0 11 .lss 10 9] [1, 5, 8, 9, 10, 11]) (.seq (.cond (.t 11) .skip (.exit 0)) (.seq (.block 1 (.seq (.reg [i_I 0 12 8 10 20, i_A 1 13 12 20, i_X 2 7 (.alloc z_20 123), i_S 3 7 13 20] [1, 5, 7, 8, 9, 10]) (.reg [i_M 0 14 5, i_A 1 15 7 20, i_X 2 16 (.callA (kF 198) [(.t 15)]), i_M 3 17 1, i_X 4 18 (.h (.un .neg (.t 17))), i_M 5 19 1, i_X 6 20 (.callA (kF 201) [(.t 18), (.t 19)]), i_X 7 21 (.callA (kF 200) [(.t 16), (.t 20)]), i_X 8 22 (.bslice [fl 0, fl 0] 1 2 [(0, (2, (.t 21)))] 83), i_X 9 23 (.app (.t 14) (.t 22) 2 16), i_M 10 5 23] [1, 5, 8, 9, 10]))) (.reg [i_B 0 24 .add 10 1, i_M 1 10 24] [1, 5, 8, 9, 10]))))
def a8D : CA := (.seq (.reg [i_X 0 4 (.h (.mov (.k .nil)))] [0, 1]) (.seq (.reg [i_X 0 5 (.h (.mov (.k .nil)))] [0, 1, 5]) (.seq (.seq (.reg [i_M 0 8 0, i_X 1 9 (.h (.len (.t 8))), i_K 2 10 0] [1, 5, 8, 9, 10]) (.block 0 (.loop a3v))) (.seq (.reg [i_M 0 25 5, i_M 1 4 25] [4]) .ret))))
theorem a7J : f7 Tryz.prog 149 = some ⟨26, [(4, none)], a8D.strip⟩ := by kernel_rfl
def a1p : CA := (.seq (.reg [i_N 0 10 .lss 9 8] [1, 7, 8, 9, 10]) (.seq (.cond (.t 10) .skip (.exit 0)) (.seq (.block 1 (.seq (.reg [i_M 0 11 9, i_I 1 12 7 9 2, i_A 2 13 12 2, i_X 3 6 (.alloc [fl 0, fl 0] 83), i_M 4 5 11, i_S 5 6 13 2] [1, 5, 6, 7, 8, 9]) (.seq (.reg [i_A 0 14 6 2, i_M 1 15 1, i_M 2 16 5, i_I 3 17 15 16 2, i_A 4 18 17 2, i_X 5 19 (.callA (kF 202) [(.t 14), (.t 18)]), i_X 6 20 (.h (.un .not (.t 19)))] [1, 7, 8, 9, 20]) (.cond (.t 20) (.seq (.reg [i_X 0 4 (.h (.mov (.k (.d (.bool false)))))] [4]) .ret) .skip)))) (.reg [i_B 0 21 .add 9 1, i_M 1 9 21] [1, 7, 8, 9]))))
def a4D : CA := (.seq (.reg [i_X 0 4 (.h (.mov (.k (.d (.bool false)))))] [0, 1]) (.seq (.seq (.reg [i_M 0 7 0, i_X 1 8 (.h (.len (.t 7))), i_K 2 9 0] [1, 7, 8, 9]) (.block 0 (.loop a1p))) (.seq (.reg [i_X 0 4 (.h (.mov (.k (.d (.bool true)))))] [4]) .ret)))
theorem a5s : f7 Tryz.prog 150 = some ⟨22, [(4, none)], a4D.strip⟩ := by kernel_rfl
def a4E : CA := (.seq (.reg [i_X 0 4 (.h (.mov (.k (.d (.flt 0)))))] [0, 1]) (.seq (.seq (.reg [i_M 0 5 1, i_X 1 6 (.h (.fcmp .le (.t 5) (.k (.d (.flt 0)))))] [0, 1, 6]) (.cond (.t 6) (.seq (.reg [i_X 0 4 (.h (.mov (.k (.d (.flt 4607182418800017408)))))] [4]) .ret) .skip)) (.seq (.reg [i_M 0 7 0, i_M 1 8 1, i_F 2 9 .mul 7 8, i_X 3 10 (.callA (kF 148) [(.t 9)]), i_X 4 11 (.callA (kF 206) [(.t 10)]), i_X 5 12 (.h (.mm true (.k (.d (.flt 4607182418800017408))) (.t 11))), i_M 6 4 12] [4]) .ret)))
theorem a5t : f7 Tryz.prog 153 = some ⟨13, [(4, none)], a4E.strip⟩ := by kernel_rfl
theorem z3 (x : Nat) : Con Tryz.prog 191 [fl x] (ivV (pt x)) := by
 refine b7 a6J rfl f5 ?_
 refine evx @a6K.eq_1 ?_
 exact f9 rfl (by decide) rfl rfl rfl (by simp) (by simp [ldv, pt])
def gr (m : Nat) (s : Bool) (n : Nat) : Nat := if s = true then (if fcmp .gt n m = true then n else m) else n
theorem c2g (m : Nat) (s : Bool) (n : Nat) (p : Iv) (sz : Nat) (hsz : Con Tryz.prog sz [ivV p] (fl n)) (z : D) (i : Int) : AC Tryz.prog 189 [.ptr 0 0 0 2, ivV p, .d (.fn sz [] [])] [(4, [[.d z, fI i]]), (0, [[fl m, fB s]])]
  [(4, [[.d z, fI i]]), (0, [[fl (gr m s n), fB true]])] (.tup []) := by
 refine k9 M5 rfl f5 (λX => X = 4 \/ X = 0) ?_ ?_
 ·intro X q
  simp only [d8, g5]
  grind
 refine evx @E6.eq_1 ?_
 refine a0 (hsz) rfl ?_
 unfold gr
 cases s
 ·refine ev ?_
  show M4 _ _ _ _ _ _ _
  exact m7 (λX => X == 4 || X == 0) (λX h => by simp; omega) rfl rfl (by simp [kpS]) (by simp [kpS])
 ·refine ev ?_
  refine b9 (λh => ?_) (λh => ?_)
  ·refine evx h ?_
   show M4 _ _ _ _ _ _ _
   exact m7 (λX => X == 4 || X == 0) (λX h => by simp; omega) rfl rfl (by simp [kpS]) (by simp [kpS])
  ·refine evx h ?_
   show M4 _ _ _ _ _ _ _
   exact m7 (λX => X == 4 || X == 0) (λX h => by simp; omega) rfl rfl (by simp [kpS]) (by simp [kpS])
theorem c2f (m : Nat) (s : Bool) (n : Nat) (p : Md) (hp : p.length = 10) (sz : Nat) (hsz : Con Tryz.prog sz [mdV p] (fl n)) (z : D) (i : Int) (c0 : List V) (hc0 : ∀ L, KpA L c0) : AC Tryz.prog 195 [.ptr 1 0 0 2, mdV p, .d (.fn sz [] [])] [(5, [[.d z, fI i]]), (1, [[fl m, fB s]]), (0, [c0])]
  [(5, [[.d z, fI i]]), (1, [[fl (gr m s n), fB true]]), (0, [c0])] (.tup []) := by
 refine k9 H6 rfl f5 (λX => X = 5 \/ X = 1 \/ X = 0) ?_ ?_
 ·intro X q
  simp only [d8, g5]
  grind
 refine evx (And.intro @B4.eq_1 (C7 p hp)) ?_
 repeat with_reducible refine andO ?_
 first | refine a0 (hsz) (by simp [r4, j4]) ?_ | refine d7 (hsz) (by simp [r4, j4]) ?_ | refine d5 (hsz) (by simp [r4, j4]) ?_
 unfold gr
 cases s
 ·refine ev ?_
  show M4 _ _ _ _ _ _ _
  exact m7 (λX => X == 5 || X == 1 || X == 0) (λX h => by simp; omega) rfl rfl (by simp [kpS]) (by simp (maxDischargeDepth := 6) [kpS, d6, d9, hc0])
 ·refine ev ?_
  refine b9 (λh => ?_) (λh => ?_)
  ·refine evx h ?_
   show M4 _ _ _ _ _ _ _
   exact m7 (λX => X == 5 || X == 1 || X == 0) (λX h => by simp; omega) rfl rfl (by simp [kpS]) (by simp (maxDischargeDepth := 6) [kpS, d6, d9, hc0])
  ·refine evx h ?_
   show M4 _ _ _ _ _ _ _
   exact m7 (λX => X == 5 || X == 1 || X == 0) (λX h => by simp; omega) rfl rfl (by simp [kpS]) (by simp (maxDischargeDepth := 6) [kpS, d6, d9, hc0])
abbrev ptV (Z : List (List Nat)) (i : Nat) : V := .agg [.d (g6 Z), fI i]
def ptG (Z : List (List Nat)) (i : Nat) : List D := [g6 Z, .int .i64 i]
def ptD (Z : List (List Nat)) (n : Nat) : D := .bor n (ptG Z)
theorem b42 (c : List Nat) (s k : Nat) : valK c s (k + 1) = y7 (s9 (valK c s k) (pt s)) (pt (c.getD (c.length - 2 - k) 0)) := rfl
theorem b7w (Z : List (List Nat)) (m n i : Nat) (hZ : Rk (m + 1) n Z) (hi : i < n) (hm : m < 1000) : Con Tryz.prog 188 [ptV Z i] (ivV (valC (colT Z i) negW)) := by
 have hl := hZ.1
 have hcl := V0 Z i
 have hr := λk h => hZ.2 k h
 have hca := λk h => a7a Z i k h
 unfold valC
 rw [hcl, hl, show m + 1 - 1 = m from rfl]
 refine b7 a32 rfl f5 ?_
 refine evx @a3w.eq_1 ?_
 have w1 : IntKind.i64.wrap ((Z.length : Int) - 1) = (m : Int) := by rw [f0 (by omega) (by omega)]; omega
 have r0 := hr m (by omega)
 refine evx (And.intro @g6.eq_1 (And.intro @a1w.eq_1 w1)) ?_
 repeat with_reducible refine andO ?_
 refine d5 (z3 ((Z.getD m []).getD i 0)) rfl ?_
 refine ev ?_
 have e0 : valK (colT Z i) negW 0 = pt ((Z.getD m []).getD i 0) := by rw [valK, hcl, hl, show m + 1 - 1 = m from rfl, hca m (by omega)]
 rw [<- e0]
 have e5 : IntKind.i64.wrap ((m : Int) - 1) = (m : Int) - 1 - ((0 : Nat) : Int) := by rw [f0 (by omega) (by omega)]; omega
 rw [e5]
 refine j5 (n := m) (λc s => ∃ k, c + k = m /\ s = ⟨[(1, .ptr 0 0 0 2), (2, .ptr 1 0 0 2), (4, .ptr 12 0 0 2), (5, fI ((m : Int) - 1 - (k : Int)))],
  [(12, [[fl (valK (colT Z i) negW k).1, fl (valK (colT Z i) negW k).2]]), (1, [[fl 0, fl 0]]), (0, [[.d (g6 Z), fI i]])]⟩) (Le.refl _) ⟨0, by omega, rfl⟩ ?_
 rintro c s ⟨k, hc, rfl⟩
 refine evx @a0p.eq_1 ?_
 refine b9 (λh => ?_) (λh => ?_)
 ·replace h := d2b h
  obtain ⟨j, hj⟩ : ∃ j : Nat, (m : Int) - 1 - (k : Int) = j := ⟨m - 1 - k, by omega⟩
  have hj2 : j = (colT Z i).length - 2 - k := by omega
  have rj := hr j (by omega)
  rw [hj]
  refine evx (And.intro @g6.eq_1 @a1w.eq_1) ?_
  refine d5 (z3 13830554455654793216) rfl ?_
  refine ev ?_
  refine d5 (u8 (valK (colT Z i) negW k) (pt 13830554455654793216)) rfl ?_
  refine evx (And.intro @g6.eq_1 @a1w.eq_1) ?_
  repeat with_reducible refine andO ?_
  refine a0 (z3 ((Z.getD j []).getD i 0)) rfl ?_
  refine ev ?_
  refine a0 (v7 (s9 (valK (colT Z i) negW k) (pt 13830554455654793216)) (pt ((Z.getD j []).getD i 0))) rfl ?_
  have e1 : y7 (s9 (valK (colT Z i) negW k) (pt 13830554455654793216)) (pt ((Z.getD j []).getD i 0)) = valK (colT Z i) negW (k + 1) := by
   rw [b42, <- hj2, hca j (by omega)]; rfl
  rw [e1]
  refine ev ?_
  rw [show IntKind.i64.wrap ((j : Int) - 1) = (m : Int) - 1 - ((k + 1 : Nat) : Int) by rw [f0 (by omega) (by omega)]; omega]
  exact ⟨c - 1, _, by omega, Le.refl _, k + 1, by omega, rfl⟩
 ·replace h := d2c h
  obtain rfl : k = m := by omega
  refine ev ?_
  exact f9 rfl (by decide) rfl rfl rfl (by simp) (by simp [ldv])
theorem c6B (Z : List (List Nat)) (i : Nat) : tabR (λk => (Z.getD k []).getD i 0) Z.length = colT Z i := by
 refine List.ext_getElem (by simp [k8, colT]) λk h1 h2 => ?_
 rw [k8] at h1
 simp [tabR, colT, d2d, h1]
theorem b1E (Z : List (List Nat)) (m n i : Nat) (hZ : Rk (m + 1) n Z) (hi : i < n) (hm : m < 1000) : Con Tryz.prog 145 [ptV Z i] (mdV (ofM (colT Z i))) := by
 have hl := hZ.1
 have hcl := V0 Z i
 have hr := λk h => hZ.2 k h
 rw [<- c6B]
 refine b7 a1V rfl f5 ?_
 refine evx @a0n.eq_1 ?_
 have hz0 : ∀ L : Heap, KpA L [.d (g6 Z), fI i] := λL => by rw [G5, G5]; exact ⟨Kp_d _, Kp_d _, a0x⟩
 refine j5 (n := m + 1) (λc s => ∃ k, c + k = m + 1 /\ s = ⟨[(1, .ptr 0 0 0 2), (2, .ptr 1 0 0 20), (3, .sl 100 0 0 k 1 k), (7, .d (g6 Z)), (8, fI Z.length), (9, fI k)],
  [(100, [rowV (tabR (λk => (Z.getD k []).getD i 0) k)]), (1, [ivC (List.replicate 10 (0, 0))]), (0, [[.d (g6 Z), fI i]])]⟩) (s0 := ⟨_, _⟩)
  (LeT.nilrow (X := 100) (esz := 1) (as' := [(1, .ptr 0 0 0 2), (2, .ptr 1 0 0 20), (3, .sl 100 0 0 0 1 0), (7, .d (g6 Z)), (8, fI Z.length), (9, fI 0)]) (by simp [d6, d9]) (λh => h) λi => ?_) ⟨0, by omega, rfl⟩ ?_
 ·simp only [look]
  repeat' split
  all_goals simp [g6]
 rintro c s ⟨k, hc, rfl⟩
 have htl := k8 (λk => (Z.getD k []).getD i 0) k
 refine evx @R6.eq_1 ?_
 refine b9 (λh => ?_) (λh => ?_)
 ·replace h := d2b h
  have hk : k < m + 1 := by omega
  have rk := hr k hk
  refine evx (And.intro @g6.eq_1 @a1w.eq_1) ?_
  repeat with_reducible refine andO ?_
  have e : rowV (tabR (λk => (Z.getD k []).getD i 0) k) ++ [fl ((Z.getD k []).getD i 0)] = rowV (tabR (λk => (Z.getD k []).getD i 0) (k + 1)) := (J6 _ _).symm
  rw [f0 (by omega) (by omega), e]
  exact ⟨c - 1, _, by omega, LeT.only (λX => decide (X <= 100)) (λ_ h => h) rfl (by simp (maxDischargeDepth := 6) [kpS, d6, d9, x5]) (by simp (maxDischargeDepth := 6) [kpS, d6, d9, x5]), k + 1, by omega, rfl⟩
 ·replace h := d2c h
  obtain rfl : k = m + 1 := by omega
  rw [<- hl] at htl ⊢
  refine ev ?_
  refine B6 [.d (rowD (tabR (λk => (Z.getD k []).getD i 0) Z.length))] (a7T _ (by omega)) ⟨N3 rfl (k8 _ _) rfl, trivial⟩ (a5D _) ?_
  have hp := a1y (tabR (λk => (Z.getD k []).getD i 0) Z.length)
  refine ev ?_
  repeat with_reducible refine andO ?_
  rw [s4 _ _ (by rw [j9, j9, hp]; rfl)]
  exact C8 _ (by omega) (by decide) rfl rfl rfl
def sloF (c : List Nat) (h k : Nat) : Iv := T2 (s9 (pt (FloatKind.nearest .f64 ((k : Int) + 1))) (pt (c.getD (k + 1) 0))) (pt h)
theorem c5g (c : List Nat) (h m : Nat) (hc : c.length = m + 1) (hm : m < 9) : filI (sloF c h) zI 10 m = sloM c h := by
 refine List.ext_getElem (by simp [filI, sloM]) λj h1 h2 => ?_
 simp only [filI, sloM, List.getElem_map, List.getElem_range, sloF]
 by_cases e : j < m
 ·rw [if_pos e, if_pos (by omega)]
 ·rw [if_neg e, if_neg (by omega)]
theorem b1D (Z : List (List Nat)) (m n i h : Nat) (hZ : Rk (m + 1) n Z) (hi : i < n) (hm : m < 9) : Con Tryz.prog 194 [ptV Z i, fl h] (mdV (sloM (colT Z i) h)) := by
 have hl := hZ.1
 have hcl := V0 Z i
 have hr := λk h => hZ.2 k h
 have hca := λk h => a7a Z i k h
 have hfil := c5g (colT Z i) h m (by omega) hm
 have e2 : ofM [] = List.replicate 10 (0, 0) := by rfl
 have w1 : IntKind.i64.wrap ((Z.length : Int) - 1) = (m : Int) := by rw [f0 (by omega) (by omega)]; omega
 refine b7 a1U rfl f5 ?_
 refine evx @a0m.eq_1 ?_
 refine a0 (T1) rfl ?_
 refine evx (And.intro @g6.eq_1 w1) ?_
 repeat with_reducible refine andO ?_
 rw [s4 _ _ (by rw [j9, a1y]; rfl), e2]
 refine ⟨rfl, ?_⟩
 refine j5 (n := m) (λc s => ∃ k, c + k = m /\ s = ⟨[(1, fl h), (2, .ptr 0 0 0 2), (4, .ptr 1 0 0 20), (5, .ptr 3 0 0 20), (11, fI m), (12, fI k)],
  [(3, [ivC (filI (sloF (colT Z i) h) zI 10 k)]), (1, [ivC (List.replicate 10 (0, 0))]), (0, [[.d (g6 Z), fI i]])]⟩) (Le.refl _) ⟨0, by omega, rfl⟩ ?_
 rintro c s ⟨k, hc, rfl⟩
 have hfl := a1D (sloF (colT Z i) h) zI 10 k
 refine evx @R5.eq_1 ?_
 refine b9 (λh2 => ?_) (λh2 => ?_)
 ·replace h2 := d2b h2
  have hk : k < m := by omega
  have rk := hr (k + 1) (by omega)
  have w2 : IntKind.i64.wrap ((k : Int) + 1) = ((k + 1 : Nat) : Int) := by rw [f0 (by omega) (by omega)]; omega
  refine evx (And.intro @g6.eq_1 (And.intro @a1w.eq_1 w2)) ?_
  refine d5 (z3 (FloatKind.nearest .f64 ((k + 1 : Nat) : Int))) rfl ?_
  refine evx (And.intro @g6.eq_1 (And.intro @a1w.eq_1 w2)) ?_
  repeat with_reducible refine andO ?_
  refine a0 (z3 ((Z.getD (k + 1) []).getD i 0)) rfl ?_
  refine ev ?_
  refine a0 (u8 (pt (FloatKind.nearest .f64 ((k + 1 : Nat) : Int))) (pt ((Z.getD (k + 1) []).getD i 0))) rfl ?_
  refine ev ?_
  refine a0 (z3 h) rfl ?_
  refine ev ?_
  refine a0 (N8 (s9 (pt (FloatKind.nearest .f64 ((k + 1 : Nat) : Int))) (pt ((Z.getD (k + 1) []).getD i 0))) (pt h)) rfl ?_
  have e1 : T2 (s9 (pt (FloatKind.nearest .f64 ((k + 1 : Nat) : Int))) (pt ((Z.getD (k + 1) []).getD i 0))) (pt h) = sloF (colT Z i) h k := by
   unfold sloF; rw [hca (k + 1) (by omega)]; rfl
  rw [e1]
  refine evx w2 ?_
  repeat with_reducible refine andO ?_
  rw [K6 _ _ _ _ (by omega), a0f _ _ _ _ _ rfl]
  exact ⟨c - 1, _, by omega, LeT.only (λX => decide (X <= 3)) (λ_ h => h) rfl (by simp (maxDischargeDepth := 6) [kpS, d6, d9, x5]) (by simp (maxDischargeDepth := 6) [kpS, d6, d9, x5]), k + 1, by omega, rfl⟩
 ·replace h2 := d2c h2
  obtain rfl : k = m := by omega
  rw [hfil] at hfl ⊢
  simp -implicitDefEqProofs only [evI, hv, effC, reduceCtorEq, ↓reduceIte, n1_, n2_, n3_, n4_, n5_, i1_, i2_, i3_, i4_, i5_, i6_, i7_, C7 _ hfl]
  repeat with_reducible refine andO ?_
  rw [s4 _ _ (by rw [j9, j9, hfl]; rfl)]
  exact C8 _ (by omega) (by decide) rfl rfl rfl
theorem b0u (v : Nd) (n : Nat) (hl : 0 < v.z.length) (hz : (v.z.getD 0 []).length = n) (hn : n < 2 ^ 40) : Con Tryz.prog 144 [ndV v] (.d (ptD v.z n)) := by
 refine b7 a6L rfl f5 ?_
 refine evx @a6M.eq_1 ?_
 repeat with_reducible refine andO ?_
 refine j5 (n := n) (λc s => ∃ k, c + k = n /\ s = ⟨[(1, .ptr 0 0 0 5), (3, .sl 100 0 0 k 2 (k * 2)), (9, fI (v.z.getD 0 []).length), (10, fI k)],
  [(100, [g7 k (ptG v.z)]), (0, [ndC v])]⟩) (s0 := ⟨_, _⟩)
  (LeT.nilrow (X := 100) (esz := 2) (as' := [(1, .ptr 0 0 0 5), (3, .sl 100 0 0 0 2 0), (9, fI (v.z.getD 0 []).length), (10, fI 0)]) (by simp [d6, d9]) (λh => h) λi => ?_) ⟨0, by omega, rfl⟩ ?_
 ·simp only [look]
  repeat' split
  all_goals simp
 rintro c s ⟨k, hc, rfl⟩
 have hdl : (g7 k (ptG v.z)).length = k * 2 := u9 k λ_ _ => rfl
 refine evx @a14.eq_1 ?_
 refine b9 (λh => ?_) (λh => ?_)
 ·replace h := d2b h
  refine ev ?_
  repeat with_reducible refine andO ?_
  have e : g7 k (ptG v.z) ++ [.d (.bor v.z.length (a1w v.z)), .d (.int .i64 (k : Int))] = g7 (k + 1) (ptG v.z) := by rw [E1]; rfl
  rw [e, f0 (by omega) (by omega), show k * 2 + 2 = (k + 1) * 2 by omega]
  exact ⟨c - 1, _, by omega, LeT.only (λX => decide (X <= 100)) (λ_ h => h) rfl (by simp [kpS]) (by simp [kpS]), k + 1, by omega, rfl⟩
 ·replace h := d2c h
  obtain rfl : k = n := by omega
  refine ev ?_
  refine j6 (.sl 100 0 0 k 2 (k * 2)) (λ_ h => h) (f8 (t := 2) (by decide) rfl) ?_
  exact .d (y6 (esz := 2) (λY q h => by simp [g5] at h) (by simp [d8]) (λj hj => rfl) rfl)
theorem b9t (f : Nat -> Nat) (k : Nat) : gr (if k = 0 then 0 else A5 f (k - 1)) (decide (0 < k)) (f k) = A5 f k := by
 rcases k with _ | k
 ·rfl
 ·rw [if_neg (by omega), Nat.add_sub_cancel, decide_eq_true (by omega)]; rfl
theorem b1W (Z : List (List Nat)) (y : List Nat) (m n : Nat) (hZ : Rk (m + 1) n Z) (hy : y.length = n) (hn : 0 < n /\ n < 2 ^ 40) (hm : m < 1000) : Con Tryz.prog 146 [.d (ptD Z n), .d (rowD y)] (fl (A5 (jmpI Z y) (n - 1))) := by
 refine b7 a7K rfl f5 ?_
 refine evx @a8E.eq_1 ?_
 refine evx @ptD.eq_1 ?_
 refine j5 (n := n) (λc s => ∃ k, c + k = n /\ s = ⟨[(1, .d (rowD y)), (5, .ptr 0 0 0 2), (6, .d (.fn 188 [] [])), (9, .d (ptD Z n)), (10, fI n), (11, fI k)],
  [(0, [[fl (if k = 0 then 0 else A5 (jmpI Z y) (k - 1)), fB (decide (0 < k))]])]⟩) (Le.refl _) ⟨0, by omega, rfl⟩ ?_
 rintro c s ⟨k, hc, rfl⟩
 refine evx (And.intro @a3x.eq_1 @ptD.eq_1) ?_
 refine b9 (λh => ?_) (λh => ?_)
 ·replace h := d2b h
  have hk : k < n := by omega
  refine evx @ptG.eq_1 ?_
  repeat with_reducible refine andO ?_
  refine d5 (b7w Z m n k hZ hk hm) rfl ?_
  refine ev ?_
  repeat with_reducible refine andO ?_
  refine a0 (z3 (y.getD k 0)) rfl ?_
  refine ev ?_
  refine a0 (D3 (valC (colT Z k) negW) (pt (y.getD k 0))) rfl ?_
  refine ev ?_
  refine B7 (c2g _ _ (jmpI Z y k) (z4 (valC (colT Z k) negW) (pt (y.getD k 0))) 192 (a3K _) (g6 Z) k) ?_
  rw [b9t]
  refine ev ?_
  rw [f0 (by omega) (by omega)]
  refine ⟨c - 1, _, by omega, LeT.only (λX => X == 0) (λ_ h => h) rfl (by simp [kpS]) (by simp [kpS]), k + 1, by omega, ?_⟩
  rw [if_neg (by omega), Nat.add_sub_cancel, decide_eq_true (by omega : 0 < k + 1)]
  rfl
 ·replace h := d2c h
  obtain rfl : k = n := by omega
  rw [if_neg (by omega)]
  refine ev ?_
  exact g9
theorem b71 (m : Md) (hm : m.length = 10) : Con Tryz.prog 197 [mdV m] (fl (Q4 (rngM m))) := by
 refine b7 a3y rfl f5 ?_
 refine evx @a15.eq_1 ?_
 refine evx (C7 m hm) ?_
 repeat with_reducible refine andO ?_
 first | refine a0 (m6 m hm) (by simp [r4, j4]) ?_ | refine d7 (m6 m hm) (by simp [r4, j4]) ?_ | refine d5 (m6 m hm) (by simp [r4, j4]) ?_
 refine ev ?_
 refine a0 (a3K (rngM m)) rfl ?_
 refine ev ?_
 exact g9
theorem b3x (c : List Nat) (h : Nat) : (sloM c h).length = 10 := by simp [sloM]
theorem a8U (t : Tp) (Z : List (List Nat)) (q : List Md) (h m n : Nat) (ht : Tok t) (htn : t.n = n) (hlen : t.ops.length < 2 ^ 39) (hZ : Rk (m + 1) n Z) (hq : q.length = n) (hqr : ∀ i, i < n -> (q.getD i []).length = 10) (hn : 0 < n /\ n < 2 ^ 40) (hm : m < 9) :
  Con Tryz.prog 147 [R7 t, .d (ptD Z n), .d (mdD q), fl h] (fl (A5 (dftI t Z q h) (n - 1))) := by
 have hcon := b1G t q ht (by omega) (by rw [htn]; exact hqr) hlen
 have hel := b6c t q
 have her := b2N t q ht (by rw [htn]; exact hqr)
 refine b7 a5u rfl f5 ?_
 refine evx @a4F.eq_1 ?_
 refine a0 (hcon) rfl ?_
 refine evx @ptD.eq_1 ?_
 refine j5 (n := n) (λc s => ∃ k, c + k = n /\ s = ⟨[(3, fl h), (9, .ptr 1 0 0 2), (10, .d (mdD (Y9 t q))), (11, .d (.fn 194 [] [])), (17, .d (ptD Z n)), (18, fI n), (19, fI k)],
  [(1, [[fl (if k = 0 then 0 else A5 (dftI t Z q h) (k - 1)), fB (decide (0 < k))]]), (0, [[fI t.n, .d (opsD t.ops), .d (rowI t.out)]])]⟩) (Le.refl _) ⟨0, by omega, rfl⟩ ?_
 rintro c s ⟨k, hc, rfl⟩
 refine evx (And.intro @a1q.eq_1 @ptD.eq_1) ?_
 refine b9 (λh2 => ?_) (λh2 => ?_)
 ·replace h2 := d2b h2
  have hk : k < n := by omega
  have hp := her k (by omega)
  have hgm := a4Q (Y9 t q) k hp
  simp -implicitDefEqProofs only [evI, hv, effC, reduceCtorEq, ↓reduceIte, n1_, n2_, n3_, n4_, n5_, i1_, i2_, i3_, i4_, i5_, i6_, i7_, ptG, mdD, b7F, hgm, C7 _ hp]
  repeat with_reducible refine andO ?_
  refine d5 (b1D Z m n k h hZ hk hm) rfl ?_
  refine ev ?_
  first | refine a0 (x9 ((Y9 t q).getD k []) (sloM (colT Z k) h) hp (b3x _ _)) (by simp [r4, j4]) ?_ | refine d7 (x9 ((Y9 t q).getD k []) (sloM (colT Z k) h) hp (b3x _ _)) (by simp [r4, j4]) ?_ | refine d5 (x9 ((Y9 t q).getD k []) (sloM (colT Z k) h) hp (b3x _ _)) (by simp [r4, j4]) ?_
  refine ev ?_
  refine B7 (c2f _ _ (dftI t Z q h k) (zipM z4 ((Y9 t q).getD k []) (sloM (colT Z k) h)) (G3 _ _ _) 197 (b71 _ (G3 _ _ _)) (g6 Z) k _ (λL => by simp [G5, a0x, Kp_d])) ?_
  rw [b9t]
  refine ev ?_
  rw [f0 (by omega) (by omega)]
  refine ⟨c - 1, _, by omega, LeT.only (λX => X == 0 || X == 1) (λ_ h => h) rfl (by simp [kpS]) (by simp [kpS]), k + 1, by omega, ?_⟩
  rw [if_neg (by omega), Nat.add_sub_cancel, decide_eq_true (by omega : 0 < k + 1)]
  rfl
 ·replace h2 := d2c h2
  obtain rfl : k = n := by omega
  rw [if_neg (by omega)]
  refine ev ?_
  exact g9
theorem c4R {r : Nat} (h : Pw r) : cf (r ^^^ 9223372036854775808) = 9223372036854775808 + r := by
 unfold Pw at h
 have e : r ^^^ 9223372036854775808 = 9223372036854775808 + r := by
  have h2 : 9223372036854775808 + r = 2 ^ 63 ||| r := by
   have := Nat.two_pow_add_eq_or_of_lt (i := 63) (b := r) (by omega) 1
   simpa using this
  rw [h2, show (9223372036854775808 : Nat) = 2 ^ 63 from rfl]
  refine Nat.eq_of_testBit_eq λi => ?_
  rw [Nat.testBit_xor, Nat.testBit_or, Nat.testBit_two_pow]
  by_cases hi : 63 = i
  ·subst hi
   have : r.testBit 63 = false := Nat.testBit_lt_two_pow (by omega)
   simp [this]
  ·simp [hi]
 rw [e]
 refine u7 ?_
 unfold j7
 simp only [decide_eq_false_iff_not]
 omega
theorem c94 {r : Nat} (h : Pw r) (h0 : 0 < r) : F0 (cf (r ^^^ 9223372036854775808)) r = (fop .sub 0 r, r) := by
 obtain ⟨h1, h2⟩ := c20 h h0
 rw [c4R h, h1]
 unfold F0
 rw [if_pos h2]
theorem b1V (q : List Md) (r n : Nat) (hq : q.length = n) (hqr : ∀ i, i < n -> (q.getD i []).length = 10) (hn : n < 2 ^ 40) (hr : Pw r) (h0 : 0 < r) : Con Tryz.prog 149 [.d (mdD q), fl r] (.d (ivD (tabI (tubI q r) n))) := by
 have htl := a1s (tubI q r) n
 refine b7 a7J rfl f5 ?_
 refine evx @a8D.eq_1 ?_
 refine evx @mdD.eq_1 ?_
 refine j5 (n := n) (λc s => ∃ k, c + k = n /\ s = ⟨[(1, fl r), (5, .sl 100 0 0 k 2 (k * 2)), (8, .d (mdD q)), (9, fI q.length), (10, fI k)], [(100, [ivC (tabI (tubI q r) k)])]⟩) (s0 := ⟨_, _⟩)
  (LeT.nilrow (X := 100) (esz := 2) (as' := [(1, fl r), (5, .sl 100 0 0 0 2 0), (8, .d (mdD q)), (9, fI q.length), (10, fI 0)]) (by simp [d6, d9]) (λh => h) λi => ?_) ⟨0, by omega, rfl⟩ ?_
 ·simp only [look]
  repeat' split
  all_goals simp [mdD]
 rintro c s ⟨k, hc, rfl⟩
 have hkl := a1s (tubI q r) k
 refine evx (And.intro @a3v.eq_1 @mdD.eq_1) ?_
 refine b9 (λh => ?_) (λh => ?_)
 ·replace h := d2b h
  have hk : k < n := by omega
  have hp := hqr k hk
  have hgm := a4Q q k hp
  simp -implicitDefEqProofs only [evI, hv, effC, reduceCtorEq, ↓reduceIte, n1_, n2_, n3_, n4_, n5_, i1_, i2_, i3_, i4_, i5_, i6_, i7_, b7F, hgm, C7 _ hp, K7 _ hp, H7 _ hp]
  repeat with_reducible refine andO ?_
  first | refine a0 (m6 (q.getD k []) hp) (by simp [r4, j4]) ?_ | refine d7 (m6 (q.getD k []) hp) (by simp [r4, j4]) ?_ | refine d5 (m6 (q.getD k []) hp) (by simp [r4, j4]) ?_
  refine ev ?_
  refine a0 (a4W (cf (r ^^^ 9223372036854775808)) r) rfl ?_
  rw [c94 hr h0]
  refine ev ?_
  refine a0 (v7 (rngM (q.getD k [])) (fop .sub 0 r, r)) rfl ?_
  refine ev ?_
  repeat with_reducible refine andO ?_
  have e : y7 (rngM (q.getD k [])) (fop .sub 0 r, r) = tubI q r k := rfl
  rw [e, f0 (by omega) (by omega), b85, show k * 2 + 2 = (k + 1) * 2 by omega]
  exact ⟨c - 1, _, by omega, LeT.only (λX => X == 100) (λ_ h => h) rfl (by simp (maxDischargeDepth := 6) [kpS, d6, d9, x5]) (by simp (maxDischargeDepth := 6) [kpS, d6, d9, x5]), k + 1, by omega, rfl⟩
 ·replace h := d2c h
  obtain rfl : k = n := by omega
  refine ev ?_
  refine j6 (.sl 100 0 0 k 2 (k * 2)) (λ_ h => h) (f8 (t := 4) (by decide) rfl) ?_
  exact .d (b7g (λY q h => by simp [g5] at h) (by simp [d8]) htl rfl)
def insL (l box : List Iv) (k : Nat) : Bool := (List.range k).all λi => a2j (mG l i) (mG box i)
theorem b53 (l box : List Iv) (k : Nat) : insL l box (k + 1) = (insL l box k && a2j (mG l k) (mG box k)) := by simp [insL, List.range_succ]
theorem c0Q (l box : List Iv) (k n : Nat) (h : k <= n) (hf : insL l box k = false) : insL l box n = false := by
  induction n with
  | zero => obtain rfl : k = 0 := by omega
            exact hf
  | succ n ih =>
    by_cases e : k = n + 1
    · subst e; exact hf
    · rw [b53, ih (by omega)]; rfl
theorem a8R (l box : List Iv) (n : Nat) (hl : l.length = n) (hb : n <= box.length) (hn : n < 2 ^ 40) : Con Tryz.prog 150 [.d (ivD l), .d (ivD box)] (fB (insL l box n)) := by
 refine b7 a5s rfl f5 ?_
 refine evx @a4D.eq_1 ?_
 refine j5 (n := n) (λc s => ∃ k, c + k = n /\ insL l box k = true /\ s = ⟨[(1, .d (ivD box)), (7, .d (ivD l)), (8, fI l.length), (9, fI k)], []⟩) (Le.refl _) ⟨0, by omega, rfl, rfl⟩ ?_
 rintro c s ⟨k, hc, hin, rfl⟩
 refine evx @a1p.eq_1 ?_
 refine b9 (λh => ?_) (λh => ?_)
 ·replace h := d2b h
  have hk : k < n := by omega
  have e := b53 l box k
  rw [hin] at e
  refine evx @a5X ?_
  repeat with_reducible refine andO ?_
  refine a0 (b39 (mG l k) (mG box k)) rfl ?_
  cases hw : a2j (mG l k) (mG box k)
  ·rw [hw] at e
   refine ev ?_
   rw [c0Q l box (k + 1) n (by omega) e]
   exact g9
  ·rw [hw] at e
   refine ev ?_
   rw [f0 (by omega) (by omega)]
   exact ⟨c - 1, _, by omega, LeT.only (λX => false) (λ_ h => h) rfl (by simp [kpS]) (by simp [kpS]), k + 1, by omega, e, rfl⟩
 ·replace h := d2c h
  obtain rfl : k = n := by omega
  refine ev ?_
  rw [hin]
  exact g9
theorem max1 {g : Nat} (h : j7 g = false) : b0j true 4607182418800017408 g = if fcmp .gt g 4607182418800017408 = true then g else 4607182418800017408 := by
 have f1 : fin 4607182418800017408 := ⟨false, 4503599627370496, -52, by decide +kernel⟩
 have r1 : Ieee.double.read 4607182418800017408 = .number false 4503599627370496 (-52) := by decide +kernel
 have rn : (Ieee.double.read 4607182418800017408).neg = false := by rw [r1]; rfl
 unfold b0j fcmp
 simp only [rn]
 cases hd : Ieee.double.read g with
 | nan s t =>
  have : j7 g = true := by rw [<- K2, hd]; rfl
  rw [this] at h; cases h
 | infinity s =>
  unfold Ieee.Format.order
  rw [hd, r1]
  cases s <;> simp [Ieee.Datum.order]
 | number s m i =>
  have fg : fin g := ⟨s, m, i, hd⟩
  rcases W4 f1 fg with ⟨h1, e1⟩ | ⟨h1, e1⟩ | ⟨h1, e1⟩ <;> rcases W4 fg f1 with ⟨h2, e2⟩ | ⟨h2, e2⟩ | ⟨h2, e2⟩ <;> first | (rw [e1, e2]; simp; done) | (exfalso; grind)
theorem c0K (lo hi : Nat) : j7 (F0 lo hi).2 = false := by
 unfold F0
 split
 ·rename_i h
  show j7 hi = false
  cases hn : j7 hi with
  | false => rfl
  | true =>
   unfold fcmp at h
   rw [a2t hn] at h
   simp at h
 ·decide
theorem c13 (l : List Nat) : ∀ lo hi, j7 (Y4 l lo hi).2 = false := by
 induction l with
 | nil => intro lo hi; exact c0K _ _
 | cons x l ih =>
  intro lo hi
  unfold Y4
  split
  ·decide
  ·exact ih _ _
theorem c3x (x : Nat) : j7 (b52 x) = false := by
 unfold b52
 split
 ·decide
 ·exact c13 _ _ _
theorem a8T (h m : Nat) : Con Tryz.prog 153 [fl h, fl m] (fl (a8P h m)) := by
 unfold a8P
 rw [show oneW = 4607182418800017408 from rfl]
 refine b7 a5t rfl f5 ?_
 refine evx @a4E.eq_1 ?_
 refine b9 (λh2 => ?_) (λh2 => ?_)
 ·rw [if_pos h2]
  refine ev ?_
  exact g9
 ·rw [if_neg (by simp [h2])]
  refine ev ?_
  refine a0 (F6 _) rfl ?_
  refine ev ?_
  refine a0 (c0J _) rfl ?_
  refine ev ?_
  rw [max1 (c3x _)]
  exact g9
theorem a96 {lo hi : Nat} (h : cw hi) : cw (F0 lo hi).2 := by
 unfold F0; split
 ·exact h
 ·exact .inr (.inl rfl)
theorem b8y (l : List Nat) : ∀ lo hi, (∀ x ∈ l, cw x) -> cw hi -> cw (Y4 l lo hi).2 := by
 induction l with
 | nil => intro lo hi _ h; exact a96 (b61 h)
 | cons x l ih =>
  intro lo hi hl h
  unfold Y4
  split
  ·exact .inr (.inl rfl)
  ·refine ih _ _ (λy hy => hl y (List.mem_cons_of_mem _ hy)) ?_
   split
   ·exact hl x (List.mem_cons_self ..)
   ·exact h
theorem b86 (a b : Iv) : cw (y7 a b).2 := a96 (b61 (A9 _ _ _))
theorem c52 (a b : Iv) : cw (z4 a b).2 := a96 (b61 (A9 _ _ _))
theorem c53 (a b : Iv) : cw (s9 a b).2 := by
 refine b8y _ _ _ (λx hx => ?_) (A9 _ _ _)
 simp at hx
 rcases hx with rfl | rfl | rfl | rfl <;> exact A9 _ _ _
theorem c54 (a b : Iv) : cw (T2 a b).2 := by
 unfold T2; split
 ·exact .inr (.inl rfl)
 ·refine b8y _ _ _ (λx hx => ?_) (A9 _ _ _)
  simp at hx
  rcases hx with rfl | rfl | rfl | rfl <;> exact A9 _ _ _
theorem b74 : cw oneW := .inr (.inr (.inr ⟨false, 4607182418800017408, by decide, by decide⟩))
theorem c72 (o : OpN) (q : Iv) (r : List Iv) (dr : List (List Iv)) (k : Nat) : cw (sloI o q r dr k).2 := by
 unfold sloI
 repeat' split
 ·exact b74
 ·exact L4
 ·exact b86 _ _
 ·exact c52 _ _
 ·exact b86 _ _
 ·exact c54 _ _
theorem d0G (t : Tp) (x : List Iv) (i : Nat) : ∀ j k, cw (mG ((drI t x i).getD j []) k).2 := by
 induction i with
 | zero => intro j k; exact L4
 | succ i ih =>
  intro j k
  have hl := a69 t x i
  unfold drI
  by_cases h : j < i
  ·rw [d2d, d2g (by omega), <- d2d]
   exact ih j k
  ·rw [d2d, d2j (by omega), hl]
   by_cases h2 : j - i = 0
   ·rw [h2]
    show cw (mG (tabI _ t.n) k).2
    by_cases hk : k < t.n
    ·rw [b7J _ _ _ hk]; exact c72 _ _ _ _ _
    ·have : mG (tabI (sloI (t.ops.getD i ⟨0, 0, 0, 0⟩) (opI (t.ops.getD i ⟨0, 0, 0, 0⟩) x (regI t x i)) (regI t x i) (drI t x i)) t.n) k = (0, 0) := by
      unfold mG
      rw [d2d, d2n (by rw [a1s]; omega)]; rfl
     rw [this]; exact L4
   ·rw [d2n (by simp; omega)]; exact L4
theorem c8L (t : Tp) (x : List Iv) : Jcw (jacI t x) := λi => by
 unfold jacI
 by_cases h : i < t.n
 ·rw [d2d, List.getElem?_map, List.getElem?_range h]
  exact d0G t x _ _ _
 ·rw [d2d, d2n (by simp; omega)]; exact L4
theorem c3w (t : Tp) (x : List Iv) (ht : Tok t) (i : Nat) (h : i < t.n) : ((jacI t x).getD i []).length = t.n := by
 unfold jacI
 rw [d2d, List.getElem?_map, List.getElem?_range h]
 have := ht.out i h
 exact b4s t x _ _ (by omega)
theorem c9N (y : Iv) (k : Nat) : cw (sqI y (k + 1)).2 := c53 _ _
theorem b84 (x : Nat) : cw (b52 x) := by
 unfold b52; split
 ·exact .inr (.inl rfl)
 ·exact c9N _ 9
theorem f1W : fin oneW := ⟨false, 4503599627370496, -52, by decide +kernel⟩
theorem v1W : val oneW = 1 := by
 have h : Ieee.double.read oneW = .number false 4503599627370496 (-52) := by decide +kernel
 rw [B3 h]; decide +kernel
theorem c7v {x : Nat} (h : cw x) (hg : fcmp .gt x oneW = true) : Pw x /\ 0 < x := by
 rcases h with rfl | rfl | rfl | ⟨s, r, hr, rfl⟩
 ·have : fcmp .gt qnan oneW = false := by decide +kernel
  rw [this] at hg; cases hg
 ·exact ⟨d2t _, by decide⟩
 ·have : fcmp .gt s8 oneW = false := by decide +kernel
  rw [this] at hg; cases hg
 ·have hf := m8 s r hr
  rw [K9 hf f1W, k6 s r hr, v1W] at hg
  have h0 := s6 r
  cases s
  ·rw [E7]
   unfold Pw
   refine ⟨by omega, ?_⟩
   rcases Nat.eq_zero_or_pos r with rfl | h1
   ·rw [u5] at hg; simp at hg; grind
   ·exact h1
  ·simp at hg; grind
theorem a51 (h m : Nat) : Pw (a8P h m) /\ 0 < a8P h m := by
 unfold a8P
 split
 ·exact ⟨by unfold Pw; decide, by decide⟩
 ·split
  ·rename_i h2; exact c7v (b84 _) h2
  ·exact ⟨by unfold Pw; decide, by decide⟩
theorem a6n {x : Nat} (h : x < 9218868437227405312) (h0 : 0 < x) : fin x /\ 0 < val x := by
 refine ⟨L6 h, ?_⟩
 rw [Q6 h]
 have := Y5 h0
 rwa [u5] at this
theorem b4G {x y : Nat} (hx : Pw x) (h0 : 0 < x) (hy : Pw y) (hy0 : 0 < y) : Pw (fop .mul x y) := by
 by_cases e : x = 9218868437227405312
 ·subst e
  unfold fop Ieee.Format.mul
  simp only
  rcases a0w hy with ⟨n, j, h2⟩ | rfl
  ·rw [x7, h2]
   have hn : n ≠ 0 := by
    rintro rfl
    by_cases e2 : y = 9218868437227405312
    ·subst e2; rw [x7] at h2; cases h2
    ·unfold Pw at hy
     have := (a6n (by omega) hy0).2
     rw [B3 h2] at this
     simp at this
   have e : Ieee.Datum.product (.infinity false) (.number false n j) = some (.infinity false) := by simp only [Ieee.Datum.product, hn, if_false, Bool.xor_self]
   rw [e]; exact a2K _ b2U
  ·rw [x7, show Ieee.Datum.product (.infinity false) (.infinity false) = some (.infinity false) from rfl]; exact a2K _ b2U
 ·unfold Pw at hx
  obtain ⟨f, v⟩ := a6n (by omega) h0
  exact b0A f (by unfold Pw; omega) v hy
theorem c31 {x : Nat} (h : p9 (fabs x) = true) : Pw (fabs x) := by
 unfold p9 at h
 simp only [Bool.and_eq_true, Bool.not_eq_true'] at h
 have hn := h.1
 unfold fabs at hn ⊢
 rw [a9u] at hn
 rw [u7 hn]
 have hb : L5 x < 9223372036854775808 := Nat.mod_lt _ (by decide)
 unfold j7 at hn
 simp only [decide_eq_false_iff_not] at hn
 unfold Pw
 omega
theorem a90 {p : Iv} (h : p9 (Q4 p) = true) : Pw (Q4 p) := by
 unfold Q4 at h ⊢
 split at h
 ·rename_i h1; rw [if_pos h1]; exact c31 h
 ·rename_i h1; rw [if_neg h1]; exact c31 h
theorem a1H (f : Nat -> Nat) (k : Nat) : ∃ i, i <= k /\ A5 f k = f i := by
 induction k with
 | zero => exact ⟨0, d2t _, rfl⟩
 | succ k ih =>
  rw [A5]; split
  ·exact ⟨k + 1, d2t _, rfl⟩
  ·obtain ⟨i, h, e⟩ := ih; exact ⟨i, by omega, e⟩
theorem d0A : ((List.range 60).all λj => decide (0 < hW (2 ^ j)) && decide (hW (2 ^ j) < 9218868437227405312)) = true := by kernel_rfl
theorem c8T (j : Nat) (h : j < 60) : 0 < hW (2 ^ j) /\ hW (2 ^ j) < 9218868437227405312 := by
 have := List.all_eq_true.1 d0A j (by simpa using h)
 simpa using this
theorem a64 {x : Nat} (h : Pw x) : Pw (up (fop .mul 4616189618054758400 x)) /\ 0 < up (fop .mul 4616189618054758400 x) := by
 obtain ⟨f, v⟩ := a6n (x := 4616189618054758400) (by decide) (by decide)
 exact Z3 (b0A f (by unfold Pw; decide) v h)
theorem b0w {w j d h : Nat} (hw : Pw w) (hj : Pw j) (hd : Pw d) (h0 : 0 < h /\ h < 9218868437227405312) :
  Pw (up (fop .add (up (fop .add w j)) (up (fop .mul h d)))) /\ 0 < up (fop .add (up (fop .add w j)) (up (fop .mul h d))) := by
 obtain ⟨f, v⟩ := a6n h0.2 h0.1
 exact Z3 (b0B (Z3 (b0B hw hj)).1 (Z3 (b0A f (by unfold Pw; omega) v hd)).1)
theorem c8Q (q : List Md) (box : List Iv) (r n : Nat) : insK q box r n = insL (tabI (tubI q r) n) box n := by
 unfold insK insL
 rw [Bool.eq_iff_iff, List.all_eq_true, List.all_eq_true]
 constructor <;> intro h i hi <;> have := h i hi <;> rw [List.mem_range] at hi <;> rw [b7J _ _ _ hi] at * <;> exact this
end Go.Ab
namespace Go.Ab
open Go
theorem b8T (s : Bool) (m : Nat) (i : Int) : ∃ A, Ieee.double.nearest s m i = Ieee.double.word s (min A 9218868437227405312) /\ (∀ x, rv x <= (m : Rat) * pw i -> x <= A) /\ (∀ x, (m : Rat) * pw i <= rv x -> A <= x) := by
 by_cases h0 : m = 0
 ·subst h0
  have h00 : ((0 : Nat) : Rat) * pw i = 0 := by simp
  refine ⟨0, by simp [Ieee.Format.nearest], λx hx => ?_, λx _ => Nat.zero_le _⟩
  by_cases h : x = 0
  ·omega
  ·have := Y5 (show 0 < x by omega)
   rw [u5] at this
   rw [h00] at hx
   grind
 have q1 : Ieee.double.fractionBits = 52 := rfl
 have q2 : Ieee.double.leastPlace = -1074 := rfl
 have q3 : Ieee.double.binade = 4503599627370496 := rfl
 have q4 : Ieee.double.infRung = 9218868437227405312 := rfl
 have e0 : Ieee.double.nearest s m i = Ieee.double.word s (min (((max (i + (m.log2 : Int) - (52 : Nat)) (-1074)) - (-1074)).toNat * 4503599627370496 +
   Ieee.Toward.even.cut s (m <<< (i - max (i + (m.log2 : Int) - (52 : Nat)) (-1074)).toNat) (max (i + (m.log2 : Int) - (52 : Nat)) (-1074) - i).toNat) 9218868437227405312) := by
  unfold Ieee.Format.nearest
  rw [if_neg h0, q1, q2, q3, q4]
 have hl1 : 2 ^ m.log2 <= m := Nat.log2_self_le h0
 have hl2 : m < 2 ^ (m.log2 + 1) := Nat.lt_log2_self
 generalize m.log2 = L at e0 hl1 hl2
 generalize hlast : max (i + (L : Int) - (52 : Nat)) (-1074) = last at e0
 generalize hkept : Ieee.Toward.even.cut s (m <<< (i - last).toNat) (last - i).toNat = kept at e0
 have hP := q8 last
 -- v between powers
 have b1 : pw (i + L) <= (m : Rat) * pw i := by
  rw [Q0]
  exact d2p (by exact_mod_cast d2u.2 hl1) (d2q (q8 i))
 have b2 : (m : Rat) * pw i < pw (i + L + 1) := by
  rw [Int.add_assoc, show (L : Int) + 1 = ((L + 1 : Nat) : Int) from by omega, Q0]
  exact Rat.mul_lt_mul_of_pos_right (by exact_mod_cast Rat.natCast_lt_natCast.2 hl2) (q8 i)
 -- kept
 have hk : 2 * ((kept : Rat) * pw last) <= 2 * ((m : Rat) * pw i) + pw last /\ 2 * ((m : Rat) * pw i) <= 2 * ((kept : Rat) * pw last) + pw last := by
  by_cases h : last <= i
  ·have e1 : (last - i).toNat = 0 := by omega
   rw [e1, b9r] at hkept
   have e2 : pw i = ((2 ^ (i - last).toNat : Nat) : Rat) * pw last := by
    have h7 : i = last + ((i - last).toNat : Nat) := by omega
    exact (congrArg pw h7).trans (Q0 _ _)
   have e3 : (kept : Rat) * pw last = (m : Rat) * pw i := by
    rw [<- hkept, Nat.shiftLeft_eq, Rat.natCast_mul, e2]; grind
   grind
  ·have e1 : (i - last).toNat = 0 := by omega
   rw [e1, Nat.shiftLeft_zero] at hkept
   have hc := b4v s m (last - i).toNat
   rw [hkept] at hc
   have e2 : pw last = ((2 ^ (last - i).toNat : Nat) : Rat) * pw i := by
    have h7 : last = i + ((last - i).toNat : Nat) := by omega
    exact (congrArg pw h7).trans (Q0 _ _)
   rw [e2]
   generalize 2 ^ (last - i).toNat = g at hc
   have h1 : (2 : Rat) * ((kept : Rat) * g) <= 2 * m + g := by exact_mod_cast d2u.2 hc.1
   have h2 : (2 : Rat) * m <= 2 * ((kept : Rat) * g) + g := by exact_mod_cast d2u.2 hc.2
   have hi := d2q (q8 i)
   have h3 := d2p h1 hi
   have h4 := d2p h2 hi
   grind
 have hlow : -1074 <= last := by omega
 have hll : i + L <= last + 52 := by omega
 have cast_le : ∀ a b : Nat, (a : Rat) <= (b : Rat) -> a <= b := λa b h => d2u.1 h
 have cast_lt : ∀ a b : Nat, (a : Rat) < (b : Rat) -> a < b := λa b h => Rat.natCast_lt_natCast.1 h
 have k1 : kept <= 9007199254740992 := by
  have h1 := G8 (show i + L + 1 <= last + 53 by omega)
  rw [pw53] at h1
  have h2 : (kept : Rat) * pw last < 9007199254740993 * pw last := by grind
  have h3 := d2s h2 (d2q hP)
  have := cast_lt kept 9007199254740993 (by exact_mod_cast h3)
  omega
 have k2 : last = -1074 \/ (i + L = last + 52 /\ 4503599627370496 <= kept) := by
  by_cases e : last = -1074
  ·exact .inl e
  ·refine .inr ⟨by omega, ?_⟩
   have h1 : i + L = last + 52 := by omega
   rw [h1, pw52] at b1
   have h2 : (4503599627370495 : Rat) * pw last < kept * pw last := by grind
   have h3 := d2s h2 (d2q hP)
   have := cast_lt 4503599627370495 kept (by exact_mod_cast h3)
   omega
 obtain ⟨E, hE⟩ : ∃ E : Nat, last = -1074 + E := ⟨(last + 1074).toNat, by omega⟩
 have hEk : E = 0 \/ 4503599627370496 <= kept := by omega
 have e1 : (last - -1074).toNat = E := by omega
 have hrv := N4 E kept k1 hEk
 rw [<- hE] at hrv
 rw [e1] at e0
 have hhi : (m : Rat) * pw i < rv (E * 4503599627370496 + kept + 1) := by
  by_cases h5 : kept < 9007199254740992
  ·have e3 := b3B E kept h5 hEk
   rw [e3, hrv, <- hE]; grind
  ·have hk5 : kept = 9007199254740992 := by omega
   subst hk5
   have e3 := N4 (E + 1) 4503599627370497 (by omega) (by omega)
   rw [show E * 4503599627370496 + 9007199254740992 + 1 = (E + 1) * 4503599627370496 + 4503599627370497 from by omega, e3]
   have e4 : (-1074 : Int) + ((E + 1 : Nat) : Int) = last + 1 := by omega
   have e5 := N6 last
   rw [e4, e5]
   have h6 : ((9007199254740992 : Nat) : Rat) = 9007199254740992 := rfl
   have h7 : ((4503599627370497 : Nat) : Rat) = 4503599627370497 := rfl
   rw [h6] at hk
   rw [h7]
   grind
 refine ⟨_, e0, λx hx => ?_, λx hx => ?_⟩
 ·by_cases h : x <= E * 4503599627370496 + kept
  ·exact h
  ·have h2 := D8 (show E * 4503599627370496 + kept + 1 <= x by omega)
   grind
 ·by_cases h : E * 4503599627370496 + kept <= x
  ·exact h
  ·exfalso
   have hlt : x <= E * 4503599627370496 + kept - 1 := by omega
   have hx2 := D8 hlt
   by_cases h5 : E = 0 \/ 4503599627370497 <= kept
   ·obtain ⟨q, rfl⟩ : ∃ q, kept = q + 1 := ⟨kept - 1, by omega⟩
    have e3 := N4 E q (by omega) (by omega)
    rw [show E * 4503599627370496 + (q + 1) - 1 = E * 4503599627370496 + q from by omega, e3, <- hE] at hx2
    rw [Rat.natCast_add] at hk
    grind
   ·have hk5 : kept = 4503599627370496 := by omega
    subst hk5
    obtain ⟨F, rfl⟩ : ∃ F, E = F + 1 := ⟨E - 1, by omega⟩
    have e3 := N4 F 9007199254740991 (by omega) (by omega)
    rw [show (F + 1) * 4503599627370496 + 4503599627370496 - 1 = F * 4503599627370496 + 9007199254740991 from by omega, e3] at hx2
    have e4 : (-1074 : Int) + F = last - 1 := by omega
    have e5 := a2p last
    rw [e4] at hx2
    have h6 : ((9007199254740991 : Nat) : Rat) = 9007199254740991 := rfl
    rw [h6] at hx2
    have e6 : i + L = last + 52 := by omega
    rw [e6, pw52] at b1
    have := q8 (last - 1)
    grind
end Go.Ab
namespace Go.Ab
open Go Go.Proofs
theorem c7W (m n : Nat) (i j : Int) : ∃ a b, Ieee.Datum.sum (.number false m i) (.number false n j) = some (.number false a b) /\ (a : Rat) * pw b = (m : Rat) * pw i + (n : Rat) * pw j := by
 have hs := H8 false m i (min i j) (by omega)
 have ht := H8 false n j (min i j) (by omega)
 simp only [Bool.false_eq_true, if_false] at hs ht
 simp only [Ieee.Datum.sum]
 have n1 : 0 <= Ieee.signed false m (i - min i j).toNat := by simp only [Ieee.signed, Bool.false_eq_true, if_false]; exact Int.natCast_nonneg _
 have n2 : 0 <= Ieee.signed false n (j - min i j).toNat := by simp only [Ieee.signed, Bool.false_eq_true, if_false]; exact Int.natCast_nonneg _
 generalize Ieee.signed false m (i - min i j).toNat = a at hs n1
 generalize Ieee.signed false n (j - min i j).toNat = b at ht n2
 have q1 : decide (a + b < 0) = false := decide_eq_false (by omega)
 refine ⟨(a + b).natAbs, min i j, ?_, ?_⟩
 ·rw [q1]; simp
 ·rw [<- hs, <- ht]
  have e : (((a + b).natAbs : Nat) : Rat) = (a : Rat) + (b : Rat) := by
   rw [<- Rat.intCast_add, <- Rat.intCast_natCast]
   exact congrArg (λz : Int => (z : Rat)) (by omega)
  rw [e]; grind
theorem d0M (A : Nat) : cf (Ieee.double.word false (min A 9218868437227405312)) = min A 9218868437227405312 := by
 rw [E7]
 exact u7 (b9z (Nat.min_le_right _ _))
theorem b4E {m : Nat} {i : Int} {x : Nat} (hx : Pw x) (h : rv x <= (m : Rat) * pw i) : x <= cf (Ieee.double.write (.number false m i)) := by
 obtain ⟨A, e, h1, h2⟩ := b8T false m i
 have : Ieee.double.write (.number false m i) = Ieee.double.nearest false m i := rfl
 rw [this, e, d0M]
 have := h1 x h
 unfold Pw at hx
 omega
theorem a9R {x m : Nat} {i : Int} (hx : Pw x) (h : Ieee.double.read x = .number false m i) : x < 9218868437227405312 /\ rv x = (m : Rat) * pw i := by
 have hne : x ≠ 9218868437227405312 := by rintro rfl; rw [x7] at h; cases h
 have hlt : x < 9218868437227405312 := by unfold Pw at hx; omega
 have := B3 h
 rw [Q6 hlt] at this
 exact ⟨hlt, by simpa using this⟩
theorem a6q {x y : Nat} (hx : Pw x) (hy : Pw y) : x <= fop .add x y /\ y <= fop .add x y := by
 have h9 : cf (Ieee.double.write (.infinity false)) = 9218868437227405312 := by decide
 unfold fop Ieee.Format.add
 simp only
 rcases a0w hx with ⟨m, i, h1⟩ | rfl <;> rcases a0w hy with ⟨n, j, h2⟩ | rfl
 ·obtain ⟨l1, v1⟩ := a9R hx h1
  obtain ⟨l2, v2⟩ := a9R hy h2
  have p1 := s6 x
  have p2 := s6 y
  rw [h1, h2]
  obtain ⟨a, b, e, hv⟩ := c7W m n i j
  rw [e]
  exact ⟨b4E hx (by rw [hv, <- v1, <- v2]; grind), b4E hy (by rw [hv, <- v1, <- v2]; grind)⟩
 ·rw [h1, x7, show Ieee.Datum.sum (.number false m i) (.infinity false) = some (.infinity false) from rfl]
  simp only [Option.map_some, Option.getD_some, h9]
  exact ⟨hx, d2t _⟩
 ·rw [h2, x7, show Ieee.Datum.sum (.infinity false) (.number false n j) = some (.infinity false) from rfl]
  simp only [Option.map_some, Option.getD_some, h9]
  exact ⟨d2t _, hy⟩
 ·rw [x7, show Ieee.Datum.sum (.infinity false) (.infinity false) = some (.infinity false) from rfl]
  simp only [Option.map_some, Option.getD_some, h9]
  exact ⟨d2t _, d2t _⟩
theorem a6p {g y : Nat} (hg : Pw g) (h1 : oneW <= g) (hy : Pw y) (h0 : 0 < y) : y <= fop .mul g y := by
 have h9 : cf (Ieee.double.write (.infinity false)) = 9218868437227405312 := by decide
 have o1 : (0 : Nat) < oneW := by decide
 unfold fop Ieee.Format.mul
 simp only
 rcases a0w hg with ⟨m, i, r1⟩ | rfl <;> rcases a0w hy with ⟨n, j, r2⟩ | rfl
 ·obtain ⟨l1, v1⟩ := a9R hg r1
  obtain ⟨l2, v2⟩ := a9R hy r2
  have p2 := s6 y
  have p1 := D8 h1
  have e1 : rv oneW = 1 := by rw [<- Q6 (by decide : oneW < _)]; exact v1W
  rw [e1] at p1
  rw [r1, r2, show Ieee.Datum.product (.number false m i) (.number false n j) = some (.number false (m * n) (i + j)) from rfl]
  refine b4E hy ?_
  rw [a2q, Rat.natCast_mul]
  have := d2p p1 p2
  have e : (m : Rat) * n * (pw i * pw j) = (m * pw i) * (n * pw j) := by grind
  rw [e, <- v1, <- v2]
  grind
 ·rw [r1, x7]
  obtain ⟨l1, v1⟩ := a9R hg r1
  have hm : m ≠ 0 := by
   rintro rfl
   have := Y5 (show 0 < g by omega)
   rw [u5, v1] at this
   simp at this
  have e : Ieee.Datum.product (.number false m i) (.infinity false) = some (.infinity false) := by simp only [Ieee.Datum.product, hm, if_false, Bool.xor_self]
  rw [e]
  simp only [Option.map_some, Option.getD_some, h9]
  exact d2t _
 ·rw [r2, x7]
  obtain ⟨l2, v2⟩ := a9R hy r2
  have hm : n ≠ 0 := by
   rintro rfl
   have := Y5 h0
   rw [u5, v2] at this
   simp at this
  have e : Ieee.Datum.product (.infinity false) (.number false n j) = some (.infinity false) := by simp only [Ieee.Datum.product, hm, if_false, Bool.xor_self]
  rw [e]
  simp only [Option.map_some, Option.getD_some, h9]
  exact hy
 ·rw [x7, show Ieee.Datum.product (.infinity false) (.infinity false) = some (.infinity false) from rfl]
  simp only [Option.map_some, Option.getD_some, h9]
  exact d2t _
theorem b3p {x : Nat} (h : Pw x) : x <= up x := by
 by_cases e : x = 9218868437227405312
 ·subst e; rw [c1C]; exact d2t _
 ·unfold Pw at h; rw [c9H (by omega)]; omega
theorem b4F {x y : Nat} (hx : Pw x) (hy : Pw y) : Ieee.double.order x y = some (compare x y) := by
 by_cases e1 : x = 9218868437227405312
 ·subst e1
  by_cases e2 : y = 9218868437227405312
  ·subst e2; decide
  ·unfold Pw at hy
   obtain ⟨s, m, i, hd⟩ := L6 (x := y) (by omega)
   have : compare (9218868437227405312 : Nat) y = .gt := Nat.compare_eq_gt.2 (by omega)
   rw [this]
   simp [Ieee.Format.order, hd, x7, Ieee.Datum.order]
 ·by_cases e2 : y = 9218868437227405312
  ·subst e2
   unfold Pw at hx
   obtain ⟨s, m, i, hd⟩ := L6 (x := x) (by omega)
   have : compare x (9218868437227405312 : Nat) = .lt := Nat.compare_eq_lt.2 (by omega)
   rw [this]
   simp [Ieee.Format.order, hd, x7, Ieee.Datum.order]
  ·unfold Pw at hx hy
   have l1 : x < 9218868437227405312 := by omega
   have l2 : y < 9218868437227405312 := by omega
   have o := W4 (L6 l1) (L6 l2)
   rw [Q6 l1, Q6 l2] at o
   rcases Nat.lt_trichotomy x y with h | h | h
   ·have := Y5 h
    rw [Nat.compare_eq_lt.2 h]
    rcases o with ⟨_, o⟩ | ⟨o, _⟩ | ⟨o, _⟩
    ·exact o
    ·grind
    ·grind
   ·subst h
    rw [Nat.compare_eq_eq.2 rfl]
    rcases o with ⟨o, _⟩ | ⟨_, o⟩ | ⟨o, _⟩
    ·grind
    ·exact o
    ·grind
   ·have := Y5 h
    rw [Nat.compare_eq_gt.2 h]
    rcases o with ⟨o, _⟩ | ⟨o, _⟩ | ⟨_, o⟩
    ·grind
    ·grind
    ·exact o
theorem d2a {x y : Nat} (hx : Pw x) (hy : Pw y) : fcmp .ge x y = true ↔ y <= x := by
 simp only [fcmp, b4F hx hy]
 rcases Nat.lt_trichotomy x y with h | h | h
 ·rw [Nat.compare_eq_lt.2 h]; simp; omega
 ·subst h; rw [Nat.compare_eq_eq.2 rfl]; simp
 ·rw [Nat.compare_eq_gt.2 h]; simp; omega
theorem d09 {x y : Nat} (hx : Pw x) (hy : Pw y) : fcmp .lt x y = true ↔ x < y := by
 simp only [fcmp, b4F hx hy]
 rcases Nat.lt_trichotomy x y with h | h | h
 ·rw [Nat.compare_eq_lt.2 h]; simp; omega
 ·subst h; rw [Nat.compare_eq_eq.2 rfl]; simp
 ·rw [Nat.compare_eq_gt.2 h]; simp; omega
theorem d12 {x y : Nat} (hx : Pw x) (hy : Pw y) : fcmp .gt x y = true ↔ y < x := by
 simp only [fcmp, b4F hx hy]
 rcases Nat.lt_trichotomy x y with h | h | h
 ·rw [Nat.compare_eq_lt.2 h]; simp; omega
 ·subst h; rw [Nat.compare_eq_eq.2 rfl]; simp
 ·rw [Nat.compare_eq_gt.2 h]; simp; omega
theorem b0a (h m : Nat) : oneW <= a8P h m := by
 unfold a8P
 split
 ·exact d2t _
 ·split
  ·rename_i h2
   have hp := (c7v (b84 _) h2).1
   have := (d12 hp (by unfold Pw; decide : Pw oneW)).1 h2
   omega
  ·exact d2t _
def d1f (R : Bnd × Int) (w h : Nat) : Prop := (R.2 = 0 /\ Pw R.1.jump /\ Pw R.1.defect /\ Pw R.1.growth /\ oneW <= R.1.growth /\ R.1.bound < 9218868437227405312 /\ w <= R.1.bound /\ fop .add w R.1.jump <= R.1.bound /\ fop .mul h R.1.defect <= R.1.bound) \/ (R.1 = ⟨0, 0, 0, 0, 0⟩ /\ (R.2 = 3 \/ R.2 = 7))
theorem c1j (t : Tp) (box : List Iv) (q : List Md) (h e j d w : Nat) (hj : Pw j) (hd : Pw d) (he : Pw e) (he0 : 0 < e) (h1 : w <= e) (h2 : fop .add w j <= e) (h3 : fop .mul h d <= e) : ∀ k r, Pw r -> d1f (bndK t box q h e j d k r) w h := by
 intro k
 induction k with
 | zero => intro r _; exact .inr ⟨rfl, .inr rfl⟩
 | succ k ih =>
  intro r hr
  rw [bndK]
  split
  ·exact .inr ⟨rfl, .inl rfl⟩
  ·simp only
   have hg := a51 h (a6X (jacI t (tabI (tubI q r) t.n)))
   have hg1 := b0a h (a6X (jacI t (tabI (tubI q r) t.n)))
   generalize a8P h (a6X (jacI t (tabI (tubI q r) t.n))) = g at hg hg1 ⊢
   have hb := b4G hg.1 hg.2 he he0
   have hbe := a6p hg.1 hg1 he he0
   have hub := Z3 hb
   have hue := b3p hb
   generalize up (fop .mul g e) = b at hub hue ⊢
   split
   ·rename_i hlt
    have hl := (d09 hub.1 hr).1 hlt
    unfold Pw at hr
    exact .inl ⟨rfl, hj, hd, hg.1, hg1, by show b < _; omega, by show w <= b; omega, by show fop .add w j <= b; omega, by show fop .mul h d <= b; omega⟩
   ·split
    ·exact .inr ⟨rfl, .inr rfl⟩
    ·exact ih _ (a64 hub.1).1
theorem c1g (t : Tp) (box : List Iv) (z : List (List Nat)) (h : Nat) (y : List Nat) (w : Nat) (hw : Pw w) (h0 : 0 < h /\ h < 9218868437227405312) : d1f (bndP t box z h y w) w h := by
 unfold bndP
 simp only
 split
 ·exact .inr ⟨rfl, .inr rfl⟩
 ·rename_i hf
  have hf2 : p9 (A5 (jmpI z y) (t.n - 1)) = true /\ p9 (A5 (dftI t z (D7 z t.n) h) (t.n - 1)) = true := by
   simpa using hf
  have hj : Pw (A5 (jmpI z y) (t.n - 1)) := by
   obtain ⟨i, _, e⟩ := a1H (jmpI z y) (t.n - 1)
   rw [e] at hf2 ⊢; exact a90 hf2.1
  have hd : Pw (A5 (dftI t z (D7 z t.n) h) (t.n - 1)) := by
   obtain ⟨i, _, e⟩ := a1H (dftI t z (D7 z t.n) h) (t.n - 1)
   rw [e] at hf2 ⊢; exact a90 hf2.2
  generalize A5 (jmpI z y) (t.n - 1) = j at hj hf2 ⊢
  generalize A5 (dftI t z (D7 z t.n) h) (t.n - 1) = d at hd hf2 ⊢
  obtain ⟨f, v⟩ := a6n h0.2 h0.1
  have he := b0w hw hj hd h0
  have a1 := b0B hw hj
  have a2 := b0A f (by unfold Pw; omega) v hd
  have b1 := a6q (Z3 a1).1 (Z3 a2).1
  have c1 := b3p (b0B (Z3 a1).1 (Z3 a2).1)
  have c2 := b3p a1
  have c3 := b3p a2
  have c4 := a6q hw hj
  refine c1j _ _ _ _ _ _ _ _ hj hd he.1 he.2 ?_ ?_ ?_ _ _ (a64 he.1).1
  ·omega
  ·omega
  ·omega
end Go.Ab
namespace Go.Ab
open Go
theorem a9x (s : Bool) (r : Nat) (h : r + 1 < 9218868437227405312) : fin (down (Ieee.double.word s r)) /\ val (down (Ieee.double.word s r)) = if s then -rv (r + 1) else if r = 0 then -rv 1 else rv (r - 1) := by
 have h1 : Ieee.double.signWeight = 9223372036854775808 := rfl
 have hf := m8 s r (by omega)
 have hn := E0 hf
 have hv := k6 s r (by omega)
 have n1 : j7 s8 = false := by decide
 have rd : Ieee.double.read s8 = .infinity true := by decide
 have o1 : fcmp .eq (Ieee.double.word s r) s8 = false := by
  obtain ⟨s', m, i, hd⟩ := hf
  simp [fcmp, Ieee.Format.order, hd, rd, Ieee.Datum.order]
 have o2 : fcmp .gt s8 (Ieee.double.word s r) = false := by
  obtain ⟨s', m, i, hd⟩ := hf
  simp [fcmp, Ieee.Format.order, hd, rd, Ieee.Datum.order]
 unfold down a8L
 rw [hn, n1, o1, o2]
 simp only [Bool.false_eq_true, or_self, if_false]
 by_cases hr : r = 0
 ·subst hr
  have z : fcmp .eq (Ieee.double.word s 0) 0 = true := by
   rw [a0s hf t8, hv, r9, u5]; split <;> rfl
  have e : b1N 1 s8 = Ieee.double.word true 1 := by decide
  rw [if_pos z, e]
  refine ⟨m8 true 1 (by decide), ?_⟩
  rw [k6 true 1 (by decide)]
  simp
 ·have hp : 0 < rv r := by have := Y5 (show 0 < r by omega); rwa [u5] at this
  have z : ¬ fcmp .eq (Ieee.double.word s r) 0 = true := by
   rw [a0s hf t8, hv, r9]; split <;> grind
  rw [if_neg z]
  cases s
  ·have g : fcmp .gt (Ieee.double.word false r) 0 = true := by
    rw [K9 hf t8, hv, r9]; simpa using hp
   have e : Ieee.double.word false r = r := by simp [Ieee.Format.word]
   rw [g]
   have b1 : (false == true) = false := rfl
   rw [b1, e]
   simp only [Bool.false_eq_true, if_false]
   have w : (IntKind.wrap .u64 ((r : Int) - 1)).toNat = r - 1 := by rw [a1r (by omega) (by omega)]; omega
   rw [w, if_neg hr]
   have e2 : r - 1 = Ieee.double.word false (r - 1) := by simp [Ieee.Format.word]
   rw [e2, u7 (r6 false _ (by omega))]
   refine ⟨m8 _ _ (by omega), ?_⟩
   rw [k6 _ _ (by omega)]
   simp [Ieee.Format.word]
  ·have g : fcmp .gt (Ieee.double.word true r) 0 = false := by
    have : ¬ fcmp .gt (Ieee.double.word true r) 0 = true := by
     rw [K9 hf t8, hv, r9]; simp only [if_true]; grind
    simpa using this
   have e : Ieee.double.word true r = 9223372036854775808 + r := by simp [Ieee.Format.word, h1]
   rw [g]
   have b1 : (false == false) = true := rfl
   rw [b1, e]
   simp only [if_true]
   have w : (IntKind.wrap .u64 (((9223372036854775808 + r : Nat) : Int) + 1)).toNat = 9223372036854775808 + (r + 1) := by rw [a1r (by omega) (by omega)]; omega
   rw [w]
   have e2 : 9223372036854775808 + (r + 1) = Ieee.double.word true (r + 1) := by simp [Ieee.Format.word, h1]
   rw [e2, u7 (r6 true _ (by omega))]
   refine ⟨m8 _ _ (by omega), ?_⟩
   rw [k6 _ _ (by omega)]
   simp
theorem b8u (s : Bool) (r : Nat) (h : r + 1 < 9218868437227405312) : fin (up (Ieee.double.word s r)) /\ val (up (Ieee.double.word s r)) = if s then (if r = 0 then rv 1 else -rv (r - 1)) else rv (r + 1) := by
 have h1 : Ieee.double.signWeight = 9223372036854775808 := rfl
 have hf := m8 s r (by omega)
 have hn := E0 hf
 have hv := k6 s r (by omega)
 have n1 : j7 finf = false := by decide
 have rd : Ieee.double.read finf = .infinity false := by decide
 have o1 : fcmp .eq (Ieee.double.word s r) finf = false := by
  obtain ⟨s', m, i, hd⟩ := hf
  simp [fcmp, Ieee.Format.order, hd, rd, Ieee.Datum.order]
 have o2 : fcmp .gt finf (Ieee.double.word s r) = true := by
  obtain ⟨s', m, i, hd⟩ := hf
  simp [fcmp, Ieee.Format.order, hd, rd, Ieee.Datum.order]
 unfold up a8L
 rw [hn, n1, o1, o2]
 simp only [Bool.false_eq_true, or_self, if_false]
 by_cases hr : r = 0
 ·subst hr
  have z : fcmp .eq (Ieee.double.word s 0) 0 = true := by
   rw [a0s hf t8, hv, r9, u5]; split <;> rfl
  have e : b1N 1 finf = Ieee.double.word false 1 := by decide
  rw [if_pos z, e]
  refine ⟨m8 false 1 (by decide), ?_⟩
  rw [k6 false 1 (by decide)]
  simp
 ·have hp : 0 < rv r := by have := Y5 (show 0 < r by omega); rwa [u5] at this
  have z : ¬ fcmp .eq (Ieee.double.word s r) 0 = true := by
   rw [a0s hf t8, hv, r9]; split <;> grind
  rw [if_neg z]
  cases s
  ·have g : fcmp .gt (Ieee.double.word false r) 0 = true := by
    rw [K9 hf t8, hv, r9]; simpa using hp
   have e : Ieee.double.word false r = r := by simp [Ieee.Format.word]
   rw [g]
   have b1 : (true == true) = true := rfl
   rw [b1, e]
   simp only [if_true]
   have w : (IntKind.wrap .u64 ((r : Int) + 1)).toNat = r + 1 := by rw [a1r (by omega) (by omega)]; omega
   rw [w]
   have e2 : r + 1 = Ieee.double.word false (r + 1) := by simp [Ieee.Format.word]
   rw [e2, u7 (r6 false _ (by omega))]
   refine ⟨m8 _ _ (by omega), ?_⟩
   rw [k6 _ _ (by omega)]
   simp [Ieee.Format.word]
  ·have g : fcmp .gt (Ieee.double.word true r) 0 = false := by
    have : ¬ fcmp .gt (Ieee.double.word true r) 0 = true := by
     rw [K9 hf t8, hv, r9]; simp only [if_true]; grind
    simpa using this
   have e : Ieee.double.word true r = 9223372036854775808 + r := by simp [Ieee.Format.word, h1]
   rw [g]
   have b1 : (true == false) = false := rfl
   rw [b1, e]
   simp only [Bool.false_eq_true, if_false, if_true]
   have w : (IntKind.wrap .u64 (((9223372036854775808 + r : Nat) : Int) - 1)).toNat = 9223372036854775808 + (r - 1) := by rw [a1r (by omega) (by omega)]; omega
   rw [w, if_neg hr]
   have e2 : 9223372036854775808 + (r - 1) = Ieee.double.word true (r - 1) := by simp [Ieee.Format.word, h1]
   rw [e2, u7 (r6 true _ (by omega))]
   refine ⟨m8 _ _ (by omega), ?_⟩
   rw [k6 _ _ (by omega)]
   simp
theorem c6C {s : Bool} {r : Nat} (h : r <= 9218868437227405312) : cf (Ieee.double.word s r) = Ieee.double.word s r := by
 by_cases e : r = 9218868437227405312
 ·subst e; cases s <;> decide
 ·exact u7 (r6 s r (by omega))
theorem c1z (s : Bool) (m : Nat) (i : Int) : ∃ r, r <= 9218868437227405312 /\ cf (Ieee.double.write (.number s m i)) = Ieee.double.word s r /\ (∀ x, rv x <= (m : Rat) * pw i -> x <= r \/ r = 9218868437227405312) /\ (∀ x, (m : Rat) * pw i <= rv x -> r <= x) := by
 obtain ⟨A, e, h1, h2⟩ := b8T s m i
 have : Ieee.double.write (.number s m i) = Ieee.double.nearest s m i := rfl
 rw [this, e]
 refine ⟨_, Nat.min_le_right _ _, c6C (Nat.min_le_right _ _), λx hx => ?_, λx hx => ?_⟩
 ·have := h1 x hx; omega
 ·have := h2 x hx; omega
structure Wide (w : Nat) (v : Rat) : Prop where
 lo : fin (down w) -> val (down w) <= v
 hi : fin (up w) -> v <= val (up w)
 is : fin (down w) -> fin (up w) -> fin w
theorem b3m {w a b : Nat} {v : Rat} (e1 : down w = a) (e2 : up w = b) (h1 : fin a -> val a <= v) (h2 : fin b -> v <= val b) (h3 : fin a -> fin b -> fin w) : Wide w v := by
 subst e1 e2; exact ⟨h1, h2, h3⟩
theorem P4 : ¬ fin finf := by
 rintro ⟨s, m, i, h⟩
 rw [show Ieee.double.read finf = .infinity false by decide] at h
 cases h
theorem C5 : ¬ fin s8 := by
 rintro ⟨s, m, i, h⟩
 rw [show Ieee.double.read s8 = .infinity true by decide] at h
 cases h
theorem b2g (s : Bool) (m : Nat) (i : Int) {v : Rat} (hv : v = (if s then -(m : Rat) else m) * pw i) : Wide (cf (Ieee.double.write (.number s m i))) v := by
 obtain ⟨r, hr, e, h1, h2⟩ := c1z s m i
 have hv0 : 0 <= (m : Rat) * pw i := Rat.mul_nonneg Rat.natCast_nonneg (d2q (q8 i))
 generalize hu : (m : Rat) * pw i = u at h1 h2 hv0
 have hv' : v = if s then -u else u := by rw [hv, <- hu]; cases s <;> simp; grind
 rw [e]
 have lo : r ≠ 0 -> rv (r - 1) <= u := λh0 => by
  have := h2 (r - 1)
  have h3 : ¬ u <= rv (r - 1) := λh => by have := this h; omega
  grind
 have hi : r ≠ 9218868437227405312 -> u <= rv (r + 1) := λh0 => by
  have := h1 (r + 1)
  have h3 : ¬ rv (r + 1) <= u := λh => by have := this h; omega
  grind
 have r1 := s6 1
 by_cases c1 : r + 1 < 9218868437227405312
 ·have f := m8 s r (by omega)
  obtain ⟨_, d1⟩ := a9x s r c1
  obtain ⟨_, u1⟩ := b8u s r c1
  have hi := hi (by omega)
  refine ⟨λ_ => ?_, λ_ => ?_, λ_ _ => f⟩
  ·rw [d1, hv']
   cases s
   ·simp only [Bool.false_eq_true, if_false]
    split
    ·grind
    ·rename_i h; exact lo h
   ·simp only [if_true]; grind
  ·rw [u1, hv']
   cases s
   ·simp only [Bool.false_eq_true, if_false]; exact hi
   ·simp only [if_true]
    split
    ·grind
    ·rename_i h; have := lo h; grind
 ·by_cases c2 : r = 9218868437227405312
  ·have lo := lo (by omega)
   subst c2
   cases s
   ·have e1 : down (Ieee.double.word false 9218868437227405312) = Ieee.double.word false 9218868437227405311 := by decide
    have e2 : up (Ieee.double.word false 9218868437227405312) = finf := by decide
    refine b3m e1 e2 (λ_ => ?_) (λh => absurd h P4) (λ_ h => absurd h P4)
    rw [k6 _ _ (by decide), hv']; exact lo
   ·have e1 : down (Ieee.double.word true 9218868437227405312) = s8 := by decide
    have e2 : up (Ieee.double.word true 9218868437227405312) = Ieee.double.word true 9218868437227405311 := by decide
    refine b3m e1 e2 (λh => absurd h C5) (λ_ => ?_) (λh => absurd h C5)
    rw [k6 _ _ (by decide), hv']
    simp only [if_true]
    have : rv 9218868437227405311 <= u := lo
    grind
  ·have c3 : r = 9218868437227405311 := by omega
   have lo := lo (by omega)
   subst c3
   have f := m8 s 9218868437227405311 (by decide)
   cases s
   ·have e1 : down (Ieee.double.word false 9218868437227405311) = Ieee.double.word false 9218868437227405310 := by decide
    have e2 : up (Ieee.double.word false 9218868437227405311) = finf := by decide
    refine b3m e1 e2 (λ_ => ?_) (λh => absurd h P4) (λ_ _ => f)
    rw [k6 _ _ (by decide), hv']; exact lo
   ·have e1 : down (Ieee.double.word true 9218868437227405311) = s8 := by decide
    have e2 : up (Ieee.double.word true 9218868437227405311) = Ieee.double.word true 9218868437227405310 := by decide
    refine b3m e1 e2 (λh => absurd h C5) (λ_ => ?_) (λ_ _ => f)
    rw [k6 _ _ (by decide), hv']
    simp only [if_true]
    have : rv 9218868437227405310 <= u := lo
    grind
theorem b9w {x y : Nat} (hx : fin x) (hy : fin y) : Wide (fop .add x y) (val x + val y) := by
 obtain ⟨s, m, i, hx⟩ := hx
 obtain ⟨t, n, j, hy⟩ := hy
 have hu := B3 hx
 have hv := B3 hy
 have : fop .add x y = cf (Ieee.double.write ((Ieee.Datum.sum (.number s m i) (.number t n j)).getD (.number false 0 0))) := by
  simp [fop, Ieee.Format.add, hx, hy, Ieee.Datum.sum]
 rw [this]
 simp only [Ieee.Datum.sum, Option.getD_some]
 refine b2g _ _ _ ?_
 rw [hu, hv, <- H8 s m i (min i j) (by omega), <- H8 t n j (min i j) (by omega)]
 generalize Ieee.signed s m (i - min i j).toNat = a
 generalize Ieee.signed t n (j - min i j).toNat = b
 have e : (a : Rat) * pw (min i j) + (b : Rat) * pw (min i j) = ((a + b : Int) : Rat) * pw (min i j) := by rw [Rat.intCast_add]; grind
 rw [e]
 refine congrArg (λz : Rat => z * pw (min i j)) ?_
 by_cases h0 : a + b = 0
 ·rw [h0]; simp
 ·rw [if_neg h0]
  by_cases h1 : a + b < 0
  ·rw [if_pos (by simpa using h1), <- Rat.intCast_natCast, <- Rat.intCast_neg]; exact congrArg (λz : Int => (z : Rat)) (by omega)
  ·rw [if_neg (by simpa using h1), <- Rat.intCast_natCast]; exact congrArg (λz : Int => (z : Rat)) (by omega)
theorem a5M {x y : Nat} (hx : fin x) (hy : fin y) : Wide (fop .mul x y) (val x * val y) := by
 obtain ⟨s, m, i, hx⟩ := hx
 obtain ⟨t, n, j, hy⟩ := hy
 have : fop .mul x y = cf (Ieee.double.write (.number (s ^^ t) (m * n) (i + j))) := by simp [fop, Ieee.Format.mul, hx, hy, Ieee.Datum.product]
 rw [this]
 refine b2g _ _ _ ?_
 rw [B3 hx, B3 hy, a2q, Rat.natCast_mul]
 cases s <;> cases t <;> simp <;> grind
end Go.Ab
namespace Go.Ab
open Go Go.Proofs
def Fi (p : Iv) : Prop := fin p.1 /\ fin p.2
structure Enc (p : Iv) (v : Rat) : Prop where
 f1 : fin p.1
 f2 : fin p.2
 lo : val p.1 <= v
 hi : v <= val p.2
theorem a5L : ¬ fin qnan := λh => by
 have := E0 h
 have e : j7 qnan = true := by decide
 rw [e] at this; cases this
theorem b0q : down s8 = s8 := by decide
theorem b60 : up finf = finf := by decide
theorem b9p : down qnan = qnan := by decide
theorem c64 : up qnan = qnan := by decide
theorem c37 {w y : Nat} (hw : fin w) (hw2 : w < 2 ^ 64) (hy : fin y) (hy2 : y < 2 ^ 64) (h : val y < val w) : fin (down w) /\ val y <= val (down w) := by
 obtain ⟨s, r, hr, rfl⟩ := a3N hw hw2
 obtain ⟨t, k, hk, rfl⟩ := a3N hy hy2
 rw [k6 s r hr, k6 t k hk] at h
 rw [k6 t k hk]
 have k0 := s6 k
 have r0 := s6 r
 have key : ∀ a b : Nat, rv a < rv b -> a < b := λa b h => by
  rcases Nat.lt_or_ge a b with h1 | h1
  ·exact h1
  ·have := D8 h1; grind
 cases s
 ·simp only [Bool.false_eq_true, if_false] at h
  have hd : fin (down (Ieee.double.word false r)) /\ val (down (Ieee.double.word false r)) = if r = 0 then -rv 1 else rv (r - 1) := by
   by_cases c : r + 1 < 9218868437227405312
   ·have := a9x false r c
    simpa using this
   ·obtain rfl : r = 9218868437227405311 := by omega
    rw [show down (Ieee.double.word false 9218868437227405311) = Ieee.double.word false 9218868437227405310 by decide]
    exact ⟨m8 _ _ (by decide), by rw [k6 _ _ (by decide)]; rfl⟩
  refine ⟨hd.1, ?_⟩
  rw [hd.2]
  cases t
  ·simp only [Bool.false_eq_true, if_false] at h ⊢
   have := key _ _ h
   rw [if_neg (by omega)]
   exact D8 (by omega)
  ·simp only [if_true] at h ⊢
   split
   ·rename_i e
    subst e
    rw [u5] at h
    have : 0 < k := by
     rcases Nat.eq_zero_or_pos k with e | e
     ·subst e; rw [u5] at h; grind
     ·exact e
    have := D8 (show 1 <= k by omega)
    grind
   ·have := s6 (r - 1); grind
 ·simp only [if_true] at h
  cases t
  ·simp only [Bool.false_eq_true, if_false] at h
   exfalso; grind
  ·simp only [if_true] at h ⊢
   have := key r k (by grind)
   have hd := a9x true r (by omega)
   refine ⟨hd.1, ?_⟩
   rw [hd.2]
   simp only [if_true]
   have := D8 (show r + 1 <= k by omega)
   grind
theorem c7T {w y : Nat} (hw : fin w) (hw2 : w < 2 ^ 64) (hy : fin y) (hy2 : y < 2 ^ 64) (h : val w < val y) : fin (up w) /\ val (up w) <= val y := by
 obtain ⟨s, r, hr, rfl⟩ := a3N hw hw2
 obtain ⟨t, k, hk, rfl⟩ := a3N hy hy2
 rw [k6 s r hr, k6 t k hk] at h
 rw [k6 t k hk]
 have k0 := s6 k
 have r0 := s6 r
 have key : ∀ a b : Nat, rv a < rv b -> a < b := λa b h => by
  rcases Nat.lt_or_ge a b with h1 | h1
  ·exact h1
  ·have := D8 h1; grind
 cases s
 ·simp only [Bool.false_eq_true, if_false] at h
  cases t
  ·simp only [Bool.false_eq_true, if_false] at h ⊢
   have := key _ _ h
   have hd := b8u false r (by omega)
   refine ⟨hd.1, ?_⟩
   rw [hd.2]
   simp only [Bool.false_eq_true, if_false]
   exact D8 (by omega)
  ·simp only [if_true] at h
   exfalso; grind
 ·simp only [if_true] at h
  have hd : fin (up (Ieee.double.word true r)) /\ val (up (Ieee.double.word true r)) = if r = 0 then rv 1 else -rv (r - 1) := by
   by_cases c : r + 1 < 9218868437227405312
   ·have := b8u true r c
    simpa using this
   ·obtain rfl : r = 9218868437227405311 := by omega
    rw [show up (Ieee.double.word true 9218868437227405311) = Ieee.double.word true 9218868437227405310 by decide]
    exact ⟨m8 _ _ (by decide), by rw [k6 _ _ (by decide)]; rfl⟩
  refine ⟨hd.1, ?_⟩
  rw [hd.2]
  cases t
  ·simp only [Bool.false_eq_true, if_false] at h ⊢
   split
   ·rename_i e
    subst e
    rw [u5] at h
    have : 0 < k := by
     rcases Nat.eq_zero_or_pos k with e | e
     ·subst e; rw [u5] at h; grind
     ·exact e
    have := D8 (show 1 <= k by omega)
    grind
   ·have := s6 (r - 1); grind
  ·simp only [if_true] at h ⊢
   have := key k r (by grind)
   rw [if_neg (by omega)]
   have := D8 (show k <= r - 1 by omega)
   grind
theorem c8X {x : Nat} (hx : fin x) (hx2 : x < 2 ^ 64) (h : fin (down x)) : val (down x) < val x := by
 obtain ⟨s, r, hr, rfl⟩ := a3N hx hx2
 have r1 := Y5 (show 0 < 1 by omega)
 rw [u5] at r1
 by_cases c : r + 1 < 9218868437227405312
 ·obtain ⟨_, d⟩ := a9x s r c
  rw [d, k6 s r hr]
  have a1 := V5 r
  cases s
  ·simp only [Bool.false_eq_true, if_false]
   split
   ·rename_i e; subst e; rw [u5]; grind
   ·exact Y5 (by omega)
  ·simp only [if_true]; grind
 ·obtain rfl : r = 9218868437227405311 := by omega
  cases s
  ·rw [show down (Ieee.double.word false 9218868437227405311) = Ieee.double.word false 9218868437227405310 by decide, k6 false 9218868437227405310 (by decide), k6 false 9218868437227405311 (by decide)]
   exact Y5 (show 9218868437227405310 < 9218868437227405311 by decide)
  ·rw [show down (Ieee.double.word true 9218868437227405311) = s8 by decide] at h
   exact absurd h C5
theorem d1u {x : Nat} (hx : fin x) (hx2 : x < 2 ^ 64) (h : fin (up x)) : val x < val (up x) := by
 obtain ⟨s, r, hr, rfl⟩ := a3N hx hx2
 have r1 := Y5 (show 0 < 1 by omega)
 rw [u5] at r1
 by_cases c : r + 1 < 9218868437227405312
 ·obtain ⟨_, d⟩ := b8u s r c
  rw [d, k6 s r hr]
  have a1 := V5 r
  cases s
  ·simp only [Bool.false_eq_true, if_false]; exact a1
  ·simp only [if_true]
   split
   ·rename_i e; subst e; rw [u5]; grind
   ·have := Y5 (show r - 1 < r by omega); grind
 ·obtain rfl : r = 9218868437227405311 := by omega
  cases s
  ·rw [show up (Ieee.double.word false 9218868437227405311) = finf by decide] at h
   exact absurd h P4
  ·rw [show up (Ieee.double.word true 9218868437227405311) = Ieee.double.word true 9218868437227405310 by decide, k6 true 9218868437227405310 (by decide), k6 true 9218868437227405311 (by decide)]
   have := Y5 (show 9218868437227405310 < 9218868437227405311 by decide)
   simp only [if_true]; grind
theorem c4b {x : Nat} (h : cw x) : x < 2 ^ 64 := by
 have h1 : Ieee.double.signWeight = 9223372036854775808 := rfl
 rcases h with rfl | rfl | rfl | ⟨s, r, hr, rfl⟩
 ·decide
 ·decide
 ·decide
 ·cases s <;> simp [Ieee.Format.word, h1] <;> omega
theorem c7w {x : Nat} (h : cw x) (h1 : j7 x = false) (h2 : x ≠ finf) (h3 : x ≠ s8) : fin x := by
 rcases h with rfl | rfl | rfl | ⟨s, r, hr, rfl⟩
 ·exact absurd h1 (by decide)
 ·exact absurd rfl h2
 ·exact absurd rfl h3
 ·exact m8 s r hr
theorem P8 : Ieee.double.read finf = .infinity false := by decide
theorem P9 : Ieee.double.read s8 = .infinity true := by decide
theorem a5F : ∃ a b, Ieee.double.read qnan = .nan a b := ⟨_, _, rfl⟩
theorem b4u {x : Nat} (h : cw x) : x = qnan \/ x = finf \/ x = s8 \/ ∃ s m i, Ieee.double.read x = .number s m i := by
 rcases h with rfl | rfl | rfl | ⟨s, r, hr, rfl⟩
 ·exact .inl rfl
 ·exact .inr (.inl rfl)
 ·exact .inr (.inr (.inl rfl))
 ·exact .inr (.inr (.inr (m8 s r hr)))
abbrev R3 (d : Option Ieee.Datum) : Nat := ((d.map Ieee.double.write).map cf).getD qnan
theorem a7b : R3 (some (.infinity false)) = finf := by decide
theorem a7c : R3 (some (.infinity true)) = s8 := by decide
theorem b58 (x y : Nat) : fop .add x y = R3 (Ieee.Datum.sum (Ieee.double.read x) (Ieee.double.read y)) := rfl
theorem b57 (x y : Nat) : fop .mul x y = R3 (Ieee.Datum.product (Ieee.double.read x) (Ieee.double.read y)) := rfl
def Nf (x : Nat) : Prop := x = qnan \/ x = finf \/ x = s8
theorem Nf.not {x : Nat} (h : Nf x) : ¬ fin x := by
 rcases h with rfl | rfl | rfl
 ·exact a5L
 ·exact P4
 ·exact C5
theorem b1M {x : Nat} (h : cw x) (hn : ¬ Nf x) : fin x := c7w h (by
  cases e : j7 x with
  | false => rfl
  | true =>
   exfalso
   rcases h with rfl | rfl | rfl | ⟨s, r, hr, rfl⟩
   ·exact hn (.inl rfl)
   ·exact hn (.inr (.inl rfl))
   ·exact hn (.inr (.inr rfl))
   ·rw [r6 s r hr] at e; cases e) (λe => hn (.inr (.inl e))) (λe => hn (.inr (.inr e)))
theorem c9b {x y : Nat} (hx : Nf x) (hy : cw y) : fop .add x y = x \/ fop .add x y = qnan := by
 rw [b58]
 rcases hx with rfl | rfl | rfl <;> rcases b4u hy with rfl | rfl | rfl | ⟨s, m, i, hd⟩
 all_goals first | (left; decide) | (right; decide) | skip
 ·rw [hd]; obtain ⟨a, b, e⟩ := a5F; rw [e]; exact .inl rfl
 ·rw [hd, P8]; exact .inl a7b
 ·rw [hd, P9]; exact .inl a7c
theorem c9a {x y : Nat} (hx : Nf x) (hy : cw y) : fop .add y x = x \/ fop .add y x = qnan := by
 rw [b58]
 rcases hx with rfl | rfl | rfl <;> rcases b4u hy with rfl | rfl | rfl | ⟨s, m, i, hd⟩
 all_goals first | (left; decide) | (right; decide) | skip
 ·rw [hd]; obtain ⟨a, b, e⟩ := a5F; rw [e]; exact .inl rfl
 ·rw [hd, P8]; exact .inl a7b
 ·rw [hd, P9]; exact .inl a7c
theorem c96 {x y : Nat} (hx : Nf x) (hy : cw y) : Nf (fop .mul x y) := by
 rw [b57]
 rcases hx with rfl | rfl | rfl <;> rcases b4u hy with rfl | rfl | rfl | ⟨s, m, i, hd⟩
 all_goals first | (unfold Nf; decide) | skip
 ·rw [hd]; obtain ⟨a, b, e⟩ := a5F; rw [e]; exact .inl rfl
 ·rw [hd, P8]
  simp only [Ieee.Datum.product]
  split
  ·exact .inl rfl
  ·cases s
   ·exact .inr (.inl a7b)
   ·exact .inr (.inr a7c)
 ·rw [hd, P9]
  simp only [Ieee.Datum.product]
  split
  ·exact .inl rfl
  ·cases s
   ·exact .inr (.inr a7c)
   ·exact .inr (.inl a7b)
theorem c95 {x y : Nat} (hx : Nf x) (hy : cw y) : Nf (fop .mul y x) := by
 rw [b57]
 rcases hx with rfl | rfl | rfl <;> rcases b4u hy with rfl | rfl | rfl | ⟨s, m, i, hd⟩
 all_goals first | (unfold Nf; decide) | skip
 ·rw [hd]; obtain ⟨a, b, e⟩ := a5F; rw [e]; exact .inl rfl
 ·rw [hd, P8]
  simp only [Ieee.Datum.product]
  split
  ·exact .inl rfl
  ·cases s
   ·exact .inr (.inl a7b)
   ·exact .inr (.inr a7c)
 ·rw [hd, P9]
  simp only [Ieee.Datum.product]
  split
  ·exact .inl rfl
  ·cases s
   ·exact .inr (.inr a7c)
   ·exact .inr (.inl a7b)
structure Wf (p : Iv) : Prop where
 c1 : cw p.1
 c2 : cw p.2
 i1 : p.1 = finf -> p.2 = finf
 i2 : p.2 = s8 -> p.1 = s8
theorem b5G {x : Nat} (h : cw x) : Wf (pt x) := ⟨h, h, λe => e, λe => e⟩
theorem a4T {lo hi : Nat} (h : Fi (F0 lo hi)) : fin lo /\ fin hi /\ F0 lo hi = (lo, hi) /\ val lo <= val hi := by
 unfold F0 at h ⊢
 split at h
 ·rename_i e
  rw [if_pos e]
  exact ⟨h.1, h.2, rfl, (a2D h.1 h.2).1 e⟩
 ·exact absurd h.1 C5
theorem c8m {x : Nat} (hx : cw x) (h : fcmp .le x s8 = true) : x = s8 := by
 rcases hx with rfl | rfl | rfl | ⟨s, r, hr, rfl⟩
 ·exact absurd h (by decide)
 ·exact absurd h (by decide)
 ·rfl
 ·obtain ⟨s', m, i, hd⟩ := m8 s r hr
  simp [fcmp, Ieee.Format.order, hd, P9, Ieee.Datum.order] at h
theorem c8D {x : Nat} (hx : cw x) (h : fcmp .le finf x = true) : x = finf := by
 rcases hx with rfl | rfl | rfl | ⟨s, r, hr, rfl⟩
 ·exact absurd h (by decide)
 ·rfl
 ·exact absurd h (by decide)
 ·obtain ⟨s', m, i, hd⟩ := m8 s r hr
  simp [fcmp, Ieee.Format.order, hd, P8, Ieee.Datum.order] at h
theorem c29 {lo hi : Nat} (h1 : cw lo) (h2 : cw hi) : Wf (F0 lo hi) := by
 unfold F0
 split
 ·rename_i e
  exact ⟨h1, h2, λe1 => by simp only at e1 ⊢; rw [e1] at e; exact c8D h2 e, λe1 => by simp only at e1 ⊢; rw [e1] at e; exact c8m h1 e⟩
 ·exact ⟨.inr (.inr (.inl rfl)), .inr (.inl rfl), λe => absurd e (by decide), λe => absurd e (by decide)⟩
theorem b70 {x : Nat} (h : cw x) : cw (down x) := by
 have key : ∀ b : Int, cw (cf (IntKind.wrap .u64 b).toNat) := λb => c4a (by have := P2 b; omega)
 unfold down a8L
 repeat' split
 ·exact .inl rfl
 ·exact h
 ·exact c4a (by decide)
 ·exact key _
 ·exact key _
theorem c7Y (l : List Nat) : ∀ lo hi, (∀ x ∈ l, cw x) -> cw lo -> cw hi -> Wf (Y4 l lo hi) := by
 induction l with
 | nil => intro lo hi _ h1 h2; exact c29 (b70 h1) (b61 h2)
 | cons x l ih =>
  intro lo hi hl h1 h2
  unfold Y4
  split
  ·exact ⟨.inr (.inr (.inl rfl)), .inr (.inl rfl), λe => absurd e (by decide), λe => absurd e (by decide)⟩
  ·have hx := hl x (List.mem_cons_self ..)
   refine ih _ _ (λy hy => hl y (List.mem_cons_of_mem _ hy)) ?_ ?_
   ·split
    ·exact hx
    ·exact h1
   ·split
    ·exact hx
    ·exact h2
theorem b9x (p q : Iv) : Wf (y7 p q) := c29 (b70 (A9 _ _ _)) (b61 (A9 _ _ _))
theorem c7b (p q : Iv) : Wf (s9 p q) := by
 refine c7Y _ _ _ (λx hx => ?_) (A9 _ _ _) (A9 _ _ _)
 simp at hx
 rcases hx with rfl | rfl | rfl | rfl <;> exact A9 _ _ _
theorem b6a {p q : Iv} (hp : Wf p) (hq : Wf q) (h : Fi (y7 p q)) : Fi p /\ Fi q := by
 obtain ⟨f1, f2, _, _⟩ := a4T h
 have d0 : ∀ x, Nf x -> fin (down x) -> x = finf := λx hx hf => by
  rcases hx with rfl | rfl | rfl
  ·rw [b9p] at hf; exact absurd hf a5L
  ·rfl
  ·rw [b0q] at hf; exact absurd hf C5
 have u0 : ∀ x, Nf x -> fin (up x) -> x = s8 := λx hx hf => by
  rcases hx with rfl | rfl | rfl
  ·rw [c64] at hf; exact absurd hf a5L
  ·rw [b60] at hf; exact absurd hf P4
  ·rfl
 have dn : ¬ fin (down qnan) := by rw [b9p]; exact a5L
 have un : ¬ fin (up qnan) := by rw [c64]; exact a5L
 have uf : ¬ fin (up finf) := by rw [b60]; exact P4
 have df : ¬ fin (down s8) := by rw [b0q]; exact C5
 have p1 : ¬ Nf p.1 := λhn => by
  rcases c9b hn hq.c1 with e | e
  ·rw [e] at f1
   have e2 := d0 _ hn f1
   have e3 := hp.i1 e2
   rcases c9b (x := p.2) (.inr (.inl e3)) hq.c2 with e4 | e4
   ·rw [e4, e3] at f2; exact uf f2
   ·rw [e4] at f2; exact un f2
  ·rw [e] at f1; exact dn f1
 have p2 : ¬ Nf p.2 := λhn => by
  rcases c9b hn hq.c2 with e | e
  ·rw [e] at f2
   have e2 := u0 _ hn f2
   exact p1 (.inr (.inr (hp.i2 e2)))
  ·rw [e] at f2; exact un f2
 have q1 : ¬ Nf q.1 := λhn => by
  rcases c9a hn hp.c1 with e | e
  ·rw [e] at f1
   have e2 := d0 _ hn f1
   have e3 := hq.i1 e2
   rcases c9a (x := q.2) (.inr (.inl e3)) hp.c2 with e4 | e4
   ·rw [e4, e3] at f2; exact uf f2
   ·rw [e4] at f2; exact un f2
  ·rw [e] at f1; exact dn f1
 have q2 : ¬ Nf q.2 := λhn => by
  rcases c9a hn hp.c2 with e | e
  ·rw [e] at f2
   have e2 := u0 _ hn f2
   exact q1 (.inr (.inr (hq.i2 e2)))
  ·rw [e] at f2; exact un f2
 exact ⟨⟨b1M hp.c1 p1, b1M hp.c2 p2⟩, b1M hq.c1 q1, b1M hq.c2 q2⟩
theorem b4n {p q : Iv} {u v : Rat} (hp : Enc p u) (hq : Enc q v) (h : Fi (y7 p q)) : Enc (y7 p q) (u + v) := by
 obtain ⟨f1, f2, e, _⟩ := a4T h
 have w1 := (b9w hp.f1 hq.f1).lo f1
 have w2 := (b9w hp.f2 hq.f2).hi f2
 have a1 := hp.lo
 have a2 := hp.hi
 have b1 := hq.lo
 have b2 := hq.hi
 unfold y7
 rw [e]
 exact ⟨f1, f2, by simp only; grind, by simp only; grind⟩
theorem c8z {x : Nat} (hx : cw x) : fcmp .lt x s8 = false := by
 rcases hx with rfl | rfl | rfl | ⟨s, r, hr, rfl⟩
 ·decide
 ·decide
 ·decide
 ·obtain ⟨s', m, i, hd⟩ := m8 s r hr
  simp [fcmp, Ieee.Format.order, hd, P9, Ieee.Datum.order]
theorem c8k {x : Nat} (hx : cw x) (hn : j7 x = false) (h : x ≠ s8) : fcmp .lt s8 x = true := by
 rcases hx with rfl | rfl | rfl | ⟨s, r, hr, rfl⟩
 ·exact absurd hn (by decide)
 ·decide
 ·exact absurd rfl h
 ·obtain ⟨s', m, i, hd⟩ := m8 s r hr
  simp [fcmp, Ieee.Format.order, hd, P9, Ieee.Datum.order]
theorem c8U {x : Nat} (hx : cw x) : fcmp .gt x finf = false := by
 rcases hx with rfl | rfl | rfl | ⟨s, r, hr, rfl⟩
 ·decide
 ·decide
 ·decide
 ·obtain ⟨s', m, i, hd⟩ := m8 s r hr
  simp [fcmp, Ieee.Format.order, hd, P8, Ieee.Datum.order]
theorem c78 {x : Nat} (hx : cw x) (hn : j7 x = false) (h : x ≠ finf) : fcmp .gt finf x = true := by
 rcases hx with rfl | rfl | rfl | ⟨s, r, hr, rfl⟩
 ·exact absurd hn (by decide)
 ·exact absurd rfl h
 ·decide
 ·obtain ⟨s', m, i, hd⟩ := m8 s r hr
  simp [fcmp, Ieee.Format.order, hd, P8, Ieee.Datum.order]
theorem c5b (l : List Nat) : ∀ lo hi, Fi (Y4 l lo hi) -> ∀ x ∈ l, j7 x = false := by
 induction l with
 | nil => intro lo hi _ x hx; cases hx
 | cons y l ih =>
  intro lo hi h x hx
  unfold Y4 at h
  split at h
  ·exact absurd h.1 C5
  ·rename_i hy
   rcases List.mem_cons.1 hx with rfl | hx
   ·simpa using hy
   ·exact ih _ _ h x hx
theorem c7Z (l : List Nat) : ∀ lo hi, (∀ x ∈ l, cw x) -> cw lo -> j7 lo = false -> (lo = s8 \/ s8 ∈ l) -> ¬ Fi (Y4 l lo hi) := by
 induction l with
 | nil =>
  intro lo hi _ _ _ h hf
  rcases h with rfl | h
  ·obtain ⟨f, _⟩ := a4T hf
   rw [b0q] at f; exact C5 f
  ·cases h
 | cons y l ih =>
  intro lo hi hl hc hn h hf
  have hy := hl y (List.mem_cons_self ..)
  unfold Y4 at hf
  split at hf
  ·exact C5 hf.1
  ·rename_i hyn
   have hyn : j7 y = false := by simpa using hyn
   refine ih _ _ (λz hz => hl z (List.mem_cons_of_mem _ hz)) ?_ ?_ ?_ hf
   ·split
    ·exact hy
    ·exact hc
   ·split
    ·exact hyn
    ·exact hn
   ·rcases h with rfl | h
    ·left; rw [c8z hy]; rfl
    ·rcases List.mem_cons.1 h with rfl | h
     ·left
      by_cases e : lo = s8
      ·subst e; split <;> rfl
      ·rw [c8k hc hn e]; rfl
     ·exact .inr h
theorem c70 (l : List Nat) : ∀ lo hi, (∀ x ∈ l, cw x) -> cw hi -> j7 hi = false -> (hi = finf \/ finf ∈ l) -> ¬ Fi (Y4 l lo hi) := by
 induction l with
 | nil =>
  intro lo hi _ _ _ h hf
  rcases h with rfl | h
  ·obtain ⟨_, f, _⟩ := a4T hf
   rw [b60] at f; exact P4 f
  ·cases h
 | cons y l ih =>
  intro lo hi hl hc hn h hf
  have hy := hl y (List.mem_cons_self ..)
  unfold Y4 at hf
  split at hf
  ·exact C5 hf.1
  ·rename_i hyn
   have hyn : j7 y = false := by simpa using hyn
   refine ih _ _ (λz hz => hl z (List.mem_cons_of_mem _ hz)) ?_ ?_ ?_ hf
   ·split
    ·exact hy
    ·exact hc
   ·split
    ·exact hyn
    ·exact hn
   ·rcases h with rfl | h
    ·left; rw [c8U hy]; rfl
    ·rcases List.mem_cons.1 h with rfl | h
     ·left
      by_cases e : hi = finf
      ·subst e; split <;> rfl
      ·rw [c78 hc hn e]; rfl
     ·exact .inr h
theorem b8x (l : List Nat) : ∀ lo hi, (∀ x ∈ l, fin x) -> fin lo -> fin hi -> ∃ a b, Y4 l lo hi = F0 (down a) (up b) /\ (a = lo \/ a ∈ l) /\ (b = hi \/ b ∈ l) /\ fin a /\ fin b /\ val a <= val lo /\ val hi <= val b /\ ∀ x ∈ l, val a <= val x /\ val x <= val b := by
 induction l with
 | nil => intro lo hi _ h1 h2; exact ⟨lo, hi, rfl, .inl rfl, .inl rfl, h1, h2, Rat.le_refl, Rat.le_refl, λx hx => by cases hx⟩
 | cons y l ih =>
  intro lo hi hl h1 h2
  have hy := hl y (List.mem_cons_self ..)
  unfold Y4
  rw [E0 hy]
  simp only [Bool.false_eq_true, if_false]
  have m1 : fin (if fcmp .lt y lo = true then y else lo) := by split <;> assumption
  have m2 : fin (if fcmp .gt y hi = true then y else hi) := by split <;> assumption
  obtain ⟨a, b, e, ha, hb, fa, fb, la, lb, hall⟩ := ih _ _ (λz hz => hl z (List.mem_cons_of_mem _ hz)) m1 m2
  have l1 : val (if fcmp .lt y lo = true then y else lo) <= val y /\ val (if fcmp .lt y lo = true then y else lo) <= val lo := by
   split
   ·rename_i h; have := (b4k hy h1).1 h; exact ⟨Rat.le_refl, by grind⟩
   ·rename_i h; have : ¬ val y < val lo := λh3 => h ((b4k hy h1).2 h3); exact ⟨by grind, Rat.le_refl⟩
  have l2 : val y <= val (if fcmp .gt y hi = true then y else hi) /\ val hi <= val (if fcmp .gt y hi = true then y else hi) := by
   split
   ·rename_i h; have := (K9 hy h2).1 h; exact ⟨Rat.le_refl, by grind⟩
   ·rename_i h; have : ¬ val hi < val y := λh3 => h ((K9 hy h2).2 h3); exact ⟨by grind, Rat.le_refl⟩
  refine ⟨a, b, e, ?_, ?_, fa, fb, by grind, by grind, λx hx => ?_⟩
  ·rcases ha with ha | ha
   ·rw [ha]; split
    ·exact .inr (List.mem_cons_self ..)
    ·exact .inl rfl
   ·exact .inr (List.mem_cons_of_mem _ ha)
  ·rcases hb with hb | hb
   ·rw [hb]; split
    ·exact .inr (List.mem_cons_self ..)
    ·exact .inl rfl
   ·exact .inr (List.mem_cons_of_mem _ hb)
  ·rcases List.mem_cons.1 hx with rfl | hx
   ·grind
   ·exact hall x hx
theorem c23 {p q : Iv} (hp : Wf p) (hq : Wf q) (h : Fi (s9 p q)) : fin (fop .mul p.1 q.1) /\ fin (fop .mul p.1 q.2) /\ fin (fop .mul p.2 q.1) /\ fin (fop .mul p.2 q.2) := by
 unfold s9 at h
 have hn := c5b _ _ _ h
 have hcw : ∀ x ∈ [fop .mul p.1 q.1, fop .mul p.1 q.2, fop .mul p.2 q.1, fop .mul p.2 q.2], cw x := λx hx => by
  simp at hx
  rcases hx with rfl | rfl | rfl | rfl <;> exact A9 _ _ _
 have h0 := hn _ (List.mem_cons_self ..)
 have all : ∀ x ∈ [fop .mul p.1 q.1, fop .mul p.1 q.2, fop .mul p.2 q.1, fop .mul p.2 q.2], fin x := λx hx => by
  refine c7w (hcw x hx) (hn x hx) (λe => ?_) (λe => ?_)
  ·exact c70 _ _ _ hcw (A9 _ _ _) h0 (.inr (e ▸ hx)) h
  ·exact c7Z _ _ _ hcw (A9 _ _ _) h0 (.inr (e ▸ hx)) h
 exact ⟨all _ (by simp), all _ (by simp), all _ (by simp), all _ (by simp)⟩
theorem c7r {p q : Iv} (hp : Wf p) (hq : Wf q) (h : Fi (s9 p q)) : Fi p /\ Fi q := by
 obtain ⟨a, b, c, d⟩ := c23 hp hq h
 exact ⟨⟨b1M hp.c1 λhn => (c96 hn hq.c1).not a, b1M hp.c2 λhn => (c96 hn hq.c1).not c⟩, b1M hq.c1 λhn => (c95 hn hp.c1).not a, b1M hq.c2 λhn => (c95 hn hp.c1).not b⟩
theorem b6m {a b c d u v L : Rat} (h1 : a <= u) (h2 : u <= b) (h3 : c <= v) (h4 : v <= d) (l1 : L <= a * c) (l2 : L <= a * d) (l3 : L <= b * c) (l4 : L <= b * d) : L <= u * v := by
 have side : ∀ x, L <= x * c -> L <= x * d -> L <= x * v := λx m1 m2 => by
  by_cases hx : 0 <= x
  ·have := d2w h3 hx; grind
  ·have := d2w h4 (show (0 : Rat) <= -x by grind); grind
 have s1 := side a l1 l2
 have s2 := side b l3 l4
 by_cases hv : 0 <= v
 ·have := d2p h1 hv; grind
 ·have := d2p h2 (show (0 : Rat) <= -v by grind); grind
theorem c33 {p q : Iv} {u v : Rat} (hp : Enc p u) (hq : Enc q v) (hpw : Wf p) (hqw : Wf q) (h : Fi (s9 p q)) : Enc (s9 p q) (u * v) := by
 obtain ⟨a, b, c, d⟩ := c23 hpw hqw h
 have w1 := a5M hp.f1 hq.f1
 have w2 := a5M hp.f1 hq.f2
 have w3 := a5M hp.f2 hq.f1
 have w4 := a5M hp.f2 hq.f2
 have h8 := h
 unfold s9 at h8 ⊢
 obtain ⟨x, y, e, mx, my, fx, fy, lx, ly, hall⟩ := b8x [fop .mul p.1 q.1, fop .mul p.1 q.2, fop .mul p.2 q.1, fop .mul p.2 q.2] (fop .mul p.1 q.1) (fop .mul p.1 q.1) (λz hz => by simp at hz; rcases hz with rfl | rfl | rfl | rfl <;> assumption) a a
 rw [e] at h8 ⊢
 obtain ⟨f1, f2, e2, _⟩ := a4T h8
 rw [e2]
 have hcw : ∀ z ∈ [fop .mul p.1 q.1, fop .mul p.1 q.2, fop .mul p.2 q.1, fop .mul p.2 q.2], cw z := λz hz => by
  simp at hz
  rcases hz with rfl | rfl | rfl | rfl <;> exact A9 _ _ _
 have cx : cw x := by
  rcases mx with rfl | mx
  ·exact A9 _ _ _
  ·exact hcw _ mx
 have cy : cw y := by
  rcases my with rfl | my
  ·exact A9 _ _ _
  ·exact hcw _ my
 have x64 := c4b cx
 have y64 := c4b cy
 have dx := c8X fx x64 f1
 have uy := d1u fy y64 f2
 have dx64 := c4b (b70 cx)
 have uy64 := c4b (b61 cy)
 have lo : ∀ w V, w ∈ [fop .mul p.1 q.1, fop .mul p.1 q.2, fop .mul p.2 q.1, fop .mul p.2 q.2] -> fin w -> Wide w V -> val (down x) <= V /\ V <= val (up y) := λw V hw fw W => by
  have h3 := hall w hw
  have w64 := c4b (hcw w hw)
  have h4 := c37 fw w64 f1 dx64 (by grind)
  have h5 := c7T fw w64 f2 uy64 (by grind)
  have h6 := W.lo h4.1
  have h7 := W.hi h5.1
  exact ⟨by grind, by grind⟩
 have c1 := lo _ _ (by simp) a w1
 have c2 := lo _ _ (by simp) b w2
 have c3 := lo _ _ (by simp) c w3
 have c4 := lo _ _ (by simp) d w4
 refine ⟨f1, f2, b6m hp.lo hp.hi hq.lo hq.hi c1.1 c2.1 c3.1 c4.1, ?_⟩
 have := b6m (L := -val (up y)) (u := -u) (v := v) (a := -val p.2) (b := -val p.1) (by have := hp.hi; grind) (by have := hp.lo; grind) hq.lo hq.hi (by have := c3.2; grind) (by have := c4.2; grind) (by have := c1.2; grind) (by have := c2.2; grind)
 show u * v <= val (up y)
 grind
structure BSpec (t : Tp) (box : List Iv) (q : List Md) (h e j d : Nat) (R : Bnd × Int) (r : Nat) : Prop where
 hr : Pw r
 er : e <= r
 ins : insK q box r t.n = true
 lt : R.1.bound < r
 jump : R.1.jump = j
 defect : R.1.defect = d
 norm : R.1.norm = a6X (jacI t (tabI (tubI q r) t.n))
 growth : R.1.growth = a8P h R.1.norm
 bound : R.1.bound = up (fop .mul R.1.growth e)
theorem c4r (t : Tp) (box : List Iv) (q : List Md) (h e j d : Nat) (he : Pw e) (he0 : 0 < e) : ∀ k r, Pw r -> e <= r -> (bndK t box q h e j d k r).2 = 0 -> ∃ r', BSpec t box q h e j d (bndK t box q h e j d k r) r' := by
 intro k
 induction k with
 | zero => intro r _ _ h0; simp [bndK] at h0
 | succ k ih =>
  intro r hr hle h0
  rw [bndK] at h0 ⊢
  split at h0
  ·simp at h0
  ·rename_i hin
   rw [if_neg hin]
   have hin : insK q box r t.n = true := by simpa using hin
   simp only at h0 ⊢
   have hg := a51 h (a6X (jacI t (tabI (tubI q r) t.n)))
   have hg1 := b0a h (a6X (jacI t (tabI (tubI q r) t.n)))
   have hb := b4G hg.1 hg.2 he he0
   have hbe := a6p hg.1 hg1 he he0
   have hub := Z3 hb
   have hue := b3p hb
   split at h0
   ·rename_i hlt
    rw [if_pos hlt]
    exact ⟨r, hr, hle, hin, (d09 hub.1 hr).1 hlt, rfl, rfl, rfl, rfl, rfl⟩
   ·rename_i hlt
    rw [if_neg hlt]
    split at h0
    ·simp at h0
    ·rename_i hf
     rw [if_neg hf]
     refine ih _ (a64 hub.1).1 ?_ h0
     obtain ⟨f, v⟩ := a6n (x := 4616189618054758400) (by decide) (by decide)
     have a1 := a6p (g := 4616189618054758400) (by unfold Pw; decide) (by decide) hub.1 hub.2
     have a2 := b3p (b0A f (by unfold Pw; decide) v hub.1)
     omega
structure PSpec (t : Tp) (box : List Iv) (z : List (List Nat)) (h : Nat) (y : List Nat) (w e r : Nat) (R : Bnd × Int) : Prop where
 b : BSpec t box (D7 z t.n) h e (A5 (jmpI z y) (t.n - 1)) (A5 (dftI t z (D7 z t.n) h) (t.n - 1)) R r
 j : Pw R.1.jump
 jf : p9 R.1.jump = true
 d : Pw R.1.defect
 he : e = up (fop .add (up (fop .add w R.1.jump)) (up (fop .mul h R.1.defect)))
 ep : Pw e
 e0 : 0 < e
theorem b6v (t : Tp) (box : List Iv) (z : List (List Nat)) (h : Nat) (y : List Nat) (w : Nat) (hw : Pw w) (h0 : 0 < h /\ h < 9218868437227405312) (hR : (bndP t box z h y w).2 = 0) : ∃ e r, PSpec t box z h y w e r (bndP t box z h y w) := by
 unfold bndP at hR ⊢
 simp only at hR ⊢
 split at hR
 ·simp at hR
 ·rename_i hf
  rw [if_neg hf]
  have hf2 : p9 (A5 (jmpI z y) (t.n - 1)) = true /\ p9 (A5 (dftI t z (D7 z t.n) h) (t.n - 1)) = true := by
   simpa using hf
  have hj : Pw (A5 (jmpI z y) (t.n - 1)) := by
   obtain ⟨i, _, e⟩ := a1H (jmpI z y) (t.n - 1)
   rw [e] at hf2 ⊢; exact a90 hf2.1
  have hd : Pw (A5 (dftI t z (D7 z t.n) h) (t.n - 1)) := by
   obtain ⟨i, _, e⟩ := a1H (dftI t z (D7 z t.n) h) (t.n - 1)
   rw [e] at hf2 ⊢; exact a90 hf2.2
  have he := b0w hw hj hd h0
  have a1 := a6p (g := 4616189618054758400) (by unfold Pw; decide) (by decide) he.1 he.2
  obtain ⟨f, v⟩ := a6n (x := 4616189618054758400) (by decide) (by decide)
  have a2 := b3p (b0A f (by unfold Pw; decide) v he.1)
  obtain ⟨r, hs⟩ := c4r t box (D7 z t.n) h _ (A5 (jmpI z y) (t.n - 1)) (A5 (dftI t z (D7 z t.n) h) (t.n - 1)) he.1 he.2 3 _ (a64 he.1).1 (by omega) hR
  exact ⟨_, r, hs, by rw [hs.jump]; exact hj, by rw [hs.jump]; exact hf2.1, by rw [hs.defect]; exact hd, by rw [hs.jump, hs.defect], he.1, he.2⟩
theorem c8y {p : Iv} (h : Fi p) : fin (Q4 p) /\ rabs (val p.1) <= val (Q4 p) /\ rabs (val p.2) <= val (Q4 p) /\ (val (Q4 p) = rabs (val p.1) \/ val (Q4 p) = rabs (val p.2)) := by
 obtain ⟨f1, v1⟩ := b3n h.1
 obtain ⟨f2, v2⟩ := b3n h.2
 have hg := K9 f2 f1
 unfold Q4
 by_cases c : fcmp .gt (fabs p.2) (fabs p.1) = true
 ·rw [if_pos c]
  have := hg.1 c
  rw [v1, v2] at this
  exact ⟨f2, by rw [v2]; grind, by rw [v2]; exact Rat.le_refl, .inr v2⟩
 ·rw [if_neg c]
  have : ¬ val (fabs p.1) < val (fabs p.2) := λh => c (hg.2 h)
  rw [v1, v2] at this
  exact ⟨f1, by rw [v1]; exact Rat.le_refl, by rw [v1]; grind, .inl v1⟩
end Go.Ab
