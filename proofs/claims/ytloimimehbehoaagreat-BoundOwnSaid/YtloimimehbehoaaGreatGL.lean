/- Part 12: OA, OB, SD, SF, CH, SH, SI, SG. -/
import Derived.Test.YtloimimehbehoaaGreatGK
namespace Go.Ab
set_option linter.unusedSimpArgs false
set_option linter.unusedVariables false
open Nat renaming reduceEqDiff → n1_, reduceAdd → n2_, reduceMul → n3_, reduceLT → n4_, reduceLeDiff → n5_
open Int renaming reduceToNat → i1_, reduceAdd → i2_, reduceSub → i3_, reduceMul → i4_, reduceNeg → i5_, reduceLT → i6_, reduceLE → i7_
open Go Go.Proofs
def A_r7_gcd_L0 : CA := (.seq (.seq (.reg [i_M 0 9 1, i_B 1 10 .neq 9 0] [0, 1, 10]) (.cond (.t 10) .skip (.exit 0))) (.block 1 (.reg [i_M 0 11 1, i_M 1 12 0, i_M 2 13 1, i_N 3 14 .rem 12 13, i_M 4 0 11, i_M 5 1 14] [0, 1])))
def A_r7_gcd : CA := (.seq (.reg [i_K 0 4 0] [0, 1]) (.seq (.seq (.reg [i_M 0 5 0, i_B 1 6 .lss 5 0] [0, 1, 6]) (.cond (.t 6) (.reg [i_M 0 7 0, i_X 1 8 (.h (.ibin .sub (kI 0) (.t 7))), i_M 2 0 8] [0, 1]) .skip)) (.seq (.block 0 (.loop A_r7_gcd_L0)) (.seq (.reg [i_M 0 15 0, i_M 1 4 15] [4]) .ret))))
theorem A_r7_gcd_comp : compF Tryz.prog 163 = some ⟨16, [(4, none)], A_r7_gcd.strip⟩ := by kernel_rfl
def A_r7_low : CA := (.seq (.reg [i_K 0 4 0, i_K 1 5 0] [0, 1]) (.seq (.seq (.reg [i_M 0 7 1, i_B 1 8 .lss 7 0] [0, 1, 8]) (.cond (.t 8) (.reg [i_M 0 9 0, i_X 1 10 (.h (.ibin .sub (kI 0) (.t 9))), i_M 2 11 1, i_X 3 12 (.h (.ibin .sub (kI 0) (.t 11))), i_M 4 0 10, i_M 5 1 12] [0, 1]) .skip)) (.seq (.seq (.reg [i_M 0 13 0, i_B 1 14 .eql 13 0] [0, 1, 14]) (.cond (.t 14) (.seq (.reg [i_K 0 4 0, i_K 1 5 1] [4, 5]) .ret) .skip)) (.seq (.reg [i_M 0 15 0, i_M 1 16 1, i_X 2 17 (.callA (kF 163) [(.t 15), (.t 16)]), i_M 3 6 17] [0, 1, 6]) (.seq (.seq (.reg [i_M 0 18 6, i_B 1 19 .lss 18 0] [0, 1, 6, 19]) (.cond (.t 19) (.reg [i_M 0 20 6, i_X 1 21 (.h (.ibin .sub (kI 0) (.t 20))), i_M 2 6 21] [0, 1, 6]) .skip)) (.seq (.reg [i_M 0 22 0, i_M 1 23 6, i_N 2 24 .quo 22 23, i_M 3 25 1, i_M 4 26 6, i_N 5 27 .quo 25 26, i_M 6 4 24, i_M 7 5 27] [4, 5]) .ret))))))
theorem A_r7_low_comp : compF Tryz.prog 150 = some ⟨28, [(4, none), (5, none)], A_r7_low.strip⟩ := by kernel_rfl
def A_r7_product_L1 : CA := (.seq (.seq (.reg [i_M 0 17 6, i_M 1 18 3, i_X 2 19 (.h (.len (.t 18))), i_N 3 20 .lss 17 19] [0, 3, 4, 5, 6, 20]) (.cond (.t 20) .skip (.exit 2))) (.seq (.block 3 (.seq (.reg [i_M 0 23 5, i_M 1 24 6, i_M 2 25 5, i_M 3 26 6, i_I 4 27 25 26 1, i_L 5 28 27 1, i_M 6 29 4, i_M 7 30 3, i_M 8 31 6, i_I 9 32 30 31 1, i_L 10 33 32 1, i_N 11 34 .mul 29 33, i_N 12 35 .add 28 34, i_I 13 36 23 24 1, i_S 14 36 35 1] [0, 3, 4, 5, 6]) (.reg [i_M 0 37 5, i_M 1 38 6, i_B 2 39 .add 38 1, i_M 3 40 5, i_M 4 41 6, i_B 5 42 .add 41 1, i_I 6 43 40 42 1, i_L 7 44 43 1, i_M 8 45 3, i_M 9 46 6, i_I 10 47 45 46 1, i_L 11 48 47 1, i_N 12 49 .add 44 48, i_I 13 50 37 39 1, i_S 14 50 49 1] [0, 3, 4, 5, 6]))) (.reg [i_M 0 21 6, i_B 1 22 .add 21 1, i_M 2 6 22] [0, 3, 4, 5, 6])))
def A_r7_product_L0 : CA := (.seq (.seq (.reg [i_M 0 8 4, i_M 1 9 0, i_N 2 10 .leq 8 9] [0, 3, 4, 10]) (.cond (.t 10) .skip (.exit 0))) (.seq (.block 1 (.seq (.reg [i_M 0 13 3, i_X 1 14 (.h (.len (.t 13))), i_B 2 15 .add 14 1, i_X 3 16 (.mksl [(.d (.int .i64 0))] 1 8 (.t 15) (.t 15) 3), i_M 4 5 16] [0, 3, 4, 5]) (.seq (.seq (.reg [i_K 0 6 0] [0, 3, 4, 5, 6]) (.block 2 (.loop A_r7_product_L1))) (.reg [i_M 0 51 5, i_M 1 3 51] [0, 3, 4])))) (.reg [i_M 0 11 4, i_B 1 12 .add 11 1, i_M 2 4 12] [0, 3, 4])))
def A_r7_product : CA := (.seq (.reg [i_X 0 2 (.h (.mov (.k .nil)))] [0]) (.seq (.reg [i_X 0 7 (.bslice [(.d (.int .i64 0))] 1 1 [(0, (1, (kI 1)))] 3), i_M 1 3 7] [0, 3]) (.seq (.seq (.reg [i_K 0 4 1] [0, 3, 4]) (.block 0 (.loop A_r7_product_L0))) (.seq (.reg [i_M 0 52 3, i_M 1 2 52] [2]) .ret))))
theorem A_r7_product_comp : compF Tryz.prog 149 = some ⟨53, [(2, none)], A_r7_product.strip⟩ := by kernel_rfl
def A_r7_adams_L0 : CA := (.seq (.seq (.reg [i_M 0 24 7, i_M 1 25 0, i_N 2 26 .leq 24 25] [0, 2, 3, 4, 5, 6, 7, 26]) (.cond (.t 26) .skip (.exit 0))) (.seq (.block 1 (.seq (.reg [i_M 0 30 3, i_M 1 31 7, i_B 2 32 .sub 31 1, i_I 3 33 30 32 1, i_L 4 34 33 1, i_M 5 35 3, i_X 6 36 (.h (.idx (.t 35) (kI 0) 1)), i_L 7 37 36 1, i_M 8 38 7, i_N 9 39 .mul 37 38, i_X 10 40 (.callA (kF 150) [(.t 34), (.t 39)]), i_M 11 29 40, i_X 12 41 (.h (.ext (.t 29) 0)), i_X 13 42 (.h (.ext (.t 29) 1)), i_M 14 8 41, i_M 15 9 42] [0, 2, 3, 4, 5, 6, 7, 8, 9]) (.seq (.reg [i_P 0 43 4 0, i_L 1 44 43 1, i_M 2 45 8, i_X 3 46 (.bslice [(.d (.int .i64 0))] 1 1 [(0, (1, (.t 45)))] 3), ⟨4, (some 47), none, [], [(.t 4)], (.app (.t 44) (.t 46) 1 8)⟩, i_P 5 48 4 1, ⟨6, (some 49), none, [(.t 4)], [], (.load (.t 48) 1 false)⟩, i_M 7 50 9, i_X 8 51 (.bslice [(.d (.int .i64 0))] 1 1 [(0, (1, (.t 50)))] 3), i_X 9 52 (.app (.t 49) (.t 51) 1 8), i_P 10 53 4 0, i_S 11 53 47 1, i_P 12 54 4 1, i_S 13 54 52 1] [0, 2, 3, 4, 5, 6, 7, 8, 9]) (.seq (.reg [i_K 0 10 1] [0, 2, 3, 4, 5, 6, 7, 8, 9, 10]) (.seq (.seq (.reg [i_M 0 55 7, i_B 1 56 .rem 55 2, i_B 2 57 .eql 56 1] [0, 2, 3, 4, 5, 6, 7, 8, 9, 10, 57]) (.cond (.t 57) (.reg [i_X 0 10 (.h (.mov (.k (.d (.int .i64 (-1))))))] [0, 2, 3, 4, 5, 6, 7, 8, 9, 10]) .skip)) (.reg [i_M 0 59 5, i_M 1 60 9, i_N 2 61 .mul 59 60, i_M 3 62 10, i_M 4 63 8, i_N 5 64 .mul 62 63, i_M 6 65 6, i_N 7 66 .mul 64 65, i_N 8 67 .add 61 66, i_M 9 68 6, i_M 10 69 9, i_N 11 70 .mul 68 69, i_X 12 71 (.callA (kF 150) [(.t 67), (.t 70)]), i_M 13 58 71, i_X 14 72 (.h (.ext (.t 58) 0)), i_X 15 73 (.h (.ext (.t 58) 1)), i_M 16 5 72, i_M 17 6 73] [0, 2, 3, 4, 5, 6, 7])))))) (.reg [i_M 0 27 7, i_B 1 28 .add 27 1, i_M 2 7 28] [0, 2, 3, 4, 5, 6, 7])))
def A_r7_adams : CA := (.seq (.reg [i_X 0 2 (.alloc [.nil, .nil] 110)] [0, 2]) (.seq (.reg [i_M 0 11 0, i_B 1 12 .sub 11 1, i_X 2 13 (.callA (kF 149) [(.t 12)]), i_M 3 3 13] [0, 2, 3]) (.seq (.reg [i_X 0 4 (.alloc [.nil, .nil] 110)] [0, 2, 3, 4]) (.seq (.reg [i_P 0 14 4 0, i_L 1 15 14 1, i_X 2 16 (.bslice [(.d (.int .i64 0))] 1 1 [(0, (1, (kI 0)))] 3), ⟨3, (some 17), none, [], [(.t 4)], (.app (.t 15) (.t 16) 1 8)⟩, i_P 4 18 4 1, ⟨5, (some 19), none, [(.t 4)], [], (.load (.t 18) 1 false)⟩, i_X 6 20 (.bslice [(.d (.int .i64 0))] 1 1 [(0, (1, (kI 1)))] 3), i_X 7 21 (.app (.t 19) (.t 20) 1 8), i_P 8 22 4 0, i_S 9 22 17 1, i_P 10 23 4 1, i_S 11 23 21 1] [0, 2, 3, 4]) (.seq (.reg [i_K 0 5 0, i_K 1 6 1] [0, 2, 3, 4, 5, 6]) (.seq (.seq (.reg [i_K 0 7 1] [0, 2, 3, 4, 5, 6, 7]) (.block 0 (.loop A_r7_adams_L0))) (.seq (.reg [i_P 0 75 4 0, i_L 1 76 75 1, i_P 2 77 4 1, ⟨3, (some 78), none, [(.t 4)], [], (.load (.t 77) 1 false)⟩, i_M 4 79 5, i_X 5 80 (.h (.ibin .sub (kI 0) (.t 79))), i_M 6 81 6, i_X 7 82 (.callS 7 (kF 150) [(.t 80), (.t 81)]), i_M 8 74 82, i_X 9 83 (.h (.ext (.t 74) 0)), i_X 10 84 (.h (.ext (.t 74) 1)), i_X 11 85 (.h (.idx (.t 76) (kI 0) 1)), ⟨12, none, none, [], [(.t 4)], (.store (.t 85) (.t 83) 1)⟩, i_X 13 86 (.h (.idx (.t 78) (kI 0) 1)), i_S 14 86 84 1] [2, 4]) (.seq (.reg [i_A 0 87 4 2, i_S 1 2 87 2] [2]) .ret))))))))
theorem A_r7_adams_comp : compF Tryz.prog 116 = some ⟨88, [(2, (some (2, true)))], A_r7_adams.strip⟩ := by kernel_rfl
def A_r7_bdf_L0 : CA := (.seq (.seq (.reg [i_M 0 10 5, i_M 1 11 0, i_N 2 12 .leq 10 11] [0, 2, 3, 4, 5, 12]) (.cond (.t 12) .skip (.exit 0))) (.seq (.block 1 (.seq (.reg [i_M 0 16 3, i_M 1 17 5, i_I 2 18 16 17 1, i_L 3 19 18 1, i_M 4 20 3, i_X 5 21 (.h (.idx (.t 20) (kI 1) 1)), i_L 6 22 21 1, i_X 7 23 (.callA (kF 150) [(.t 19), (.t 22)]), i_M 8 15 23, i_X 9 24 (.h (.ext (.t 15) 0)), i_X 10 25 (.h (.ext (.t 15) 1)), i_M 11 6 24, i_M 12 7 25] [0, 2, 3, 4, 5, 6, 7]) (.reg [i_P 0 26 4 0, i_L 1 27 26 1, i_M 2 28 6, i_X 3 29 (.bslice [(.d (.int .i64 0))] 1 1 [(0, (1, (.t 28)))] 3), ⟨4, (some 30), none, [], [(.t 4)], (.app (.t 27) (.t 29) 1 8)⟩, i_P 5 31 4 1, ⟨6, (some 32), none, [(.t 4)], [], (.load (.t 31) 1 false)⟩, i_M 7 33 7, i_X 8 34 (.bslice [(.d (.int .i64 0))] 1 1 [(0, (1, (.t 33)))] 3), i_X 9 35 (.app (.t 32) (.t 34) 1 8), i_P 10 36 4 0, i_S 11 36 30 1, i_P 12 37 4 1, i_S 13 37 35 1] [0, 2, 3, 4, 5]))) (.reg [i_M 0 13 5, i_B 1 14 .add 13 1, i_M 2 5 14] [0, 2, 3, 4, 5])))
def A_r7_bdf : CA := (.seq (.reg [i_X 0 2 (.alloc [.nil, .nil] 110)] [0, 2]) (.seq (.reg [i_M 0 8 0, i_X 1 9 (.callA (kF 149) [(.t 8)]), i_M 2 3 9] [0, 2, 3]) (.seq (.reg [i_X 0 4 (.alloc [.nil, .nil] 110)] [0, 2, 3, 4]) (.seq (.seq (.reg [i_K 0 5 0] [0, 2, 3, 4, 5]) (.block 0 (.loop A_r7_bdf_L0))) (.seq (.reg [i_A 0 38 4 2, i_S 1 2 38 2] [2]) .ret)))))
theorem A_r7_bdf_comp : compF Tryz.prog 117 = some ⟨39, [(2, (some (2, true)))], A_r7_bdf.strip⟩ := by kernel_rfl
def A_r7_Exact : CA := (.seq (.reg [i_X 0 4 (.alloc [.nil, .nil] 110), i_X 1 5 (.h (.mov (.k (.d (.bool false)))))] [0, 1, 4]) (.seq (.block 0 (.seq (.reg [i_M 0 7 0, i_B 1 8 .eql 7 0, i_M 2 9 8, ⟨3, (some 10), (some (9, true)), [], [], (.h (.mov (.t 1)))⟩, ⟨4, (some 11), (some (9, true)), [], [], (.h (.ibin .geq (.t 10) (kI 1)))⟩, i_X 5 12 (.h (.pick (.t 9) (.t 11) (.k (.d (.bool false))))), i_M 6 13 12, ⟨7, (some 14), (some (13, true)), [], [], (.h (.mov (.t 1)))⟩, ⟨8, (some 15), (some (13, true)), [], [], (.h (.ibin .leq (.t 14) (kI 5)))⟩, i_X 9 16 (.h (.pick (.t 13) (.t 15) (.k (.d (.bool false))))), i_M 10 6 16] [0, 1, 4, 6]) (.cond (.t 6) (.seq (.reg [i_M 0 17 1, i_X 1 18 (.callA (kF 116) [(.t 17)]), i_S 2 4 18 2, i_X 3 5 (.h (.mov (.k (.d (.bool true)))))] [4, 5]) .ret) (.seq (.reg [i_M 0 20 0, i_B 1 21 .eql 20 1, i_M 2 22 21, ⟨3, (some 23), (some (22, true)), [], [], (.h (.mov (.t 1)))⟩, ⟨4, (some 24), (some (22, true)), [], [], (.h (.ibin .geq (.t 23) (kI 1)))⟩, i_X 5 25 (.h (.pick (.t 22) (.t 24) (.k (.d (.bool false))))), i_M 6 26 25, ⟨7, (some 27), (some (26, true)), [], [], (.h (.mov (.t 1)))⟩, ⟨8, (some 28), (some (26, true)), [], [], (.h (.ibin .leq (.t 27) (kI 4)))⟩, i_X 9 29 (.h (.pick (.t 26) (.t 28) (.k (.d (.bool false))))), i_M 10 19 29] [1, 4, 19]) (.cond (.t 19) (.seq (.reg [i_M 0 30 1, i_X 1 31 (.callA (kF 117) [(.t 30)]), i_S 2 4 31 2, i_X 3 5 (.h (.mov (.k (.d (.bool true)))))] [4, 5]) .ret) .skip))))) (.seq (.reg [i_X 0 32 (.h (.build [.nil, .nil] [])), i_S 1 4 32 2, i_X 2 5 (.h (.mov (.k (.d (.bool false)))))] [4, 5]) .ret)))
theorem A_r7_Exact_comp : compF Tryz.prog 62 = some ⟨33, [(4, (some (2, true))), (5, none)], A_r7_Exact.strip⟩ := by kernel_rfl
def A_r7_Of_L0 : CA := (.seq (.seq (.reg [i_M 0 18 9, i_P 1 19 6 0, i_L 2 20 19 1, i_X 3 21 (.h (.len (.t 20))), i_N 4 22 .lss 18 21] [6, 8, 9, 22]) (.cond (.t 22) .skip (.exit 0))) (.seq (.block 1 (.reg [i_M 0 25 8, i_P 1 26 6 0, i_L 2 27 26 1, i_M 3 28 9, i_I 4 29 27 28 1, i_L 5 30 29 1, i_X 6 31 (.h (.i2f (.t 30))), i_P 7 32 6 1, i_L 8 33 32 1, i_M 9 34 9, i_I 10 35 33 34 1, i_L 11 36 35 1, i_X 12 37 (.h (.i2f (.t 36))), i_F 13 38 .div 31 37, i_X 14 39 (.bslice [(.d (.flt 0))] 1 1 [(0, (1, (.t 38)))] 31), i_X 15 40 (.app (.t 25) (.t 39) 1 8), i_M 16 8 40] [6, 8, 9])) (.reg [i_M 0 23 9, i_B 1 24 .add 23 1, i_M 2 9 24] [6, 8, 9])))
def A_r7_Of : CA := (.seq (.reg [i_X 0 4 (.h (.mov (.k .nil))), i_X 1 5 (.h (.mov (.k (.d (.bool false)))))] [0, 1]) (.seq (.reg [i_M 0 11 0, i_M 1 12 1, i_X 2 13 (.callA (kF 62) [(.t 11), (.t 12)]), i_M 3 10 13, i_X 4 14 (.h (.ext (.t 10) 0)), i_X 5 15 (.h (.ext (.t 10) 1)), i_X 6 6 (.alloc [.nil, .nil] 110), i_S 7 6 14 2, i_M 8 7 15] [6, 7]) (.seq (.seq (.reg [i_M 0 16 7, i_X 1 17 (.h (.un .not (.t 16)))] [6, 17]) (.cond (.t 17) (.seq (.reg [i_X 0 4 (.h (.mov (.k .nil))), i_X 1 5 (.h (.mov (.k (.d (.bool false)))))] [4, 5]) .ret) .skip)) (.seq (.reg [i_X 0 8 (.h (.mov (.k .nil)))] [6, 8]) (.seq (.seq (.reg [i_K 0 9 0] [6, 8, 9]) (.block 0 (.loop A_r7_Of_L0))) (.seq (.reg [i_M 0 41 8, i_M 1 4 41, i_X 2 5 (.h (.mov (.k (.d (.bool true)))))] [4, 5]) .ret))))))
theorem A_r7_Of_comp : compF Tryz.prog 28 = some ⟨42, [(4, none), (5, none)], A_r7_Of.strip⟩ := by kernel_rfl
abbrev w64 (a : Int) : Int := IntKind.i64.wrap a
def gcdF : Nat → Int → Int → Option Int
  | 0, _, _ => none
  | f + 1, a, b => if b = 0 then some a else gcdF f b (a.tmod b)
theorem gcd_L0 (a b r : Int) (f : Nat) (h : gcdF f a b = some r) (Q : Ex → T → Prop) (hQ : Q (.exit 0) ⟨[(0, fI r), (1, fI 0), (10, fB false)], []⟩) : WA Tryz.prog (fun _ => False) 16 (.loop A_r7_gcd_L0) Q ⟨[(0, fI a), (1, fI b)], []⟩ := by
  refine WA_for (n := f) (fun c s => ∃ a b, gcdF c a b = some r ∧ s = ⟨[(0, fI a), (1, fI b)], []⟩) ⟨a, b, h, rfl⟩ ?_
  rintro c s ⟨a, b, hg, rfl⟩
  cases c with
  | zero => cases hg
  | succ c =>
    simp only [gcdF] at hg
    refine evx @A_r7_gcd_L0.eq_1 ?_
    by_cases hb : b = 0
    · subst hb
      rw [if_pos rfl] at hg
      obtain rfl := Option.some.inj hg
      refine ev ?_
      exact hQ
    · rw [if_neg hb] at hg
      have h' : (b != 0) = true := by simpa using hb
      refine evx h' ?_
      exact ⟨hb, c, by omega, b, _, hg, rfl⟩
set_option maxRecDepth 8000 in
theorem r7_gcd_con (a b r : Int) (f : Nat) (h : gcdF f (if a < 0 then w64 (0 - a) else a) b = some r) : Con Tryz.prog 163 [fI a, fI b] (fI r) := by
  refine Con_introA A_r7_gcd_comp rfl mixed ?_
  refine evx @A_r7_gcd.eq_1 ?_
  by_cases ha : a < 0
  · have h' : decide (a < 0) = true := decide_eq_true ha
    rw [if_pos ha] at h
    refine evx h' ?_
    refine gcd_L0 _ _ r f h _ ?_
    refine ev ?_
    exact endsT_rett rfl (by decide) (by simp [look])
  · have h' : decide (a < 0) = false := decide_eq_false ha
    rw [if_neg ha] at h
    refine evx h' ?_
    refine WA_le (Le.keep ⟨_, []⟩ [0, 1]) (gcd_L0 _ _ r f h _ ?_)
    refine ev ?_
    exact endsT_rett rfl (by decide) (by simp [look])
def lowF (f : Nat) (n d : Int) : Option (Int × Int) :=
  if d < 0 then none else if n = 0 then some (0, 1) else
  (gcdF f (if n < 0 then w64 (0 - n) else n) d).bind fun g => if g ≤ 0 then none else some (w64 (n.tdiv g), w64 (d.tdiv g))
set_option maxRecDepth 8000 in
theorem r7_low_con (n d x y : Int) (f : Nat) (h : lowF f n d = some (x, y)) : Con Tryz.prog 150 [fI n, fI d] (.tup [fI x, fI y]) := by
  unfold lowF at h
  refine Con_introA A_r7_low_comp rfl mixed ?_
  refine evx @A_r7_low.eq_1 ?_
  by_cases hd : d < 0
  · rw [if_pos hd] at h; cases h
  · have h' : decide (d < 0) = false := decide_eq_false hd
    rw [if_neg hd] at h
    refine evx h' ?_
    by_cases hn : n = 0
    · rw [if_pos hn] at h
      obtain ⟨rfl, rfl⟩ : 0 = x ∧ 1 = y := by simpa using h
      have h2 : (n == 0) = true := by simpa using hn
      refine evx h2 ?_
      exact endsT_only (fun _ => false) (fun _ h => h) ⟨_, _, resV_tmpI (t := 4) (by decide) rfl, resV_tmpI (t := 5) (by decide) rfl, rfl⟩ rfl (by simp [kpS]) (by simp [kpS])
    · rw [if_neg hn] at h
      have h2 : (n == 0) = false := by simpa using hn
      refine evx h2 ?_
      obtain ⟨g, hg, h3⟩ := Option.bind_eq_some_iff.1 h
      refine callG_con (r7_gcd_con n d g f hg) rfl ?_
      split at h3
      · cases h3
      · rename_i hg0
        obtain ⟨rfl, rfl⟩ : w64 (n.tdiv g) = x ∧ w64 (d.tdiv g) = y := by simpa using h3
        have h4 : decide (g < 0) = false := by simp; omega
        refine evx h4 ?_
        refine ⟨by omega, by omega, ?_⟩
        exact endsT_only (fun _ => false) (fun _ h => h) ⟨_, _, resV_tmpI (t := 4) (by decide) rfl, resV_tmpI (t := 5) (by decide) rfl, rfl⟩ rfl (by simp [kpS]) (by simp [kpS])
def prodJ (i : Int) (p : List Int) : Nat → List Int
  | 0 => List.replicate (p.length + 1) 0
  | j + 1 => let q := prodJ i p j; let q1 := q.set j (w64 (q.getD j 0 + w64 (i * p.getD j 0))); q1.set (j + 1) (w64 (q1.getD (j + 1) 0 + p.getD j 0))
def prodP : Nat → List Int
  | 0 => [1]
  | i + 1 => prodJ ((i + 1 : Nat) : Int) (prodP i) (prodP i).length
theorem prodJ_len (i : Int) (p : List Int) (j : Nat) : (prodJ i p j).length = p.length + 1 := by
  induction j with
  | zero => simp [prodJ]
  | succ j ih => simp [prodJ, ih]
theorem prodP_len (i : Nat) : (prodP i).length = i + 1 := by
  induction i with
  | zero => rfl
  | succ i ih => simp only [prodP, prodJ_len, ih]
theorem getD_map_fI (xs : List Int) (j : Nat) (h : j < xs.length) : (rowIV xs).getD j .any = fI (xs.getD j 0) := by
  simp [rowIV, List.getD_eq_getElem?_getD, h]
set_option maxRecDepth 8000 in
theorem r7_product_ac (z : Int) (k : Nat) (hz : z = k) (hk : k < 2 ^ 20) : AC Tryz.prog 149 [fI z] [] [(0, [rowIV (prodP k)])] (.sl 0 0 0 (k + 1) 1 (k + 1)) := by
  subst hz
  refine AC_introA A_r7_product_comp rfl mixed (fun _ => False) (by simp [get_nil]) ?_
  refine evx @A_r7_product.eq_1 ?_
  refine WA_forW (n := k) (fun c s => ∃ i, c + i = k ∧ s = ⟨[(0, fI k), (3, .sl 0 0 0 (i + 1) 1 (i + 1)), (4, fI (i + 1 : Nat))], [(0, [rowIV (prodP i)])]⟩) (Le.refl _) ⟨0, by omega, rfl⟩ ?_
  rintro c s ⟨i, hc, rfl⟩
  have hl := prodP_len i
  refine evx @A_r7_product_L0.eq_1 ?_
  refine condC_intro (fun h => ?_) (fun h => ?_)
  · replace h := of_decide_eq_true h
    have w1 : IntKind.i64.wrap (((i + 1 : Nat) : Int) + 1) = ((i + 2 : Nat) : Int) := by rw [wrapI (by omega) (by omega)]; omega
    refine evx w1 ?_
    (repeat (with_reducible refine And.intro (by omega) ?_))
    have hp : prodP (i + 1) = prodJ ((i + 1 : Nat) : Int) (prodP i) (i + 1) := by simp only [prodP]; rw [hl]
    generalize prodP i = p at hl hp
    have e0 : rowIV (List.replicate (i + 2) 0) = rowIV (prodJ ((i + 1 : Nat) : Int) p 0) := by simp [prodJ, hl]
    refine WA_for (n := i + 1) (fun c s => ∃ j, c + j = i + 1 ∧ s = ⟨[(0, fI k), (3, .sl 0 0 0 (i + 1) 1 (i + 1)), (4, fI (i + 1 : Nat)), (5, .sl 4 0 0 (i + 2) 1 (i + 2)), (6, fI j)], [(4, [rowIV (prodJ ((i + 1 : Nat) : Int) p j)]), (0, [rowIV p])]⟩) ⟨0, by omega, by rw [← e0]; rfl⟩ ?_
    rintro c' s ⟨j, hc', rfl⟩
    have hjl := prodJ_len ((i + 1 : Nat) : Int) p j
    refine evx @A_r7_product_L1.eq_1 ?_
    refine condC_intro (fun hj => ?_) (fun hj => ?_)
    · replace hj := of_decide_eq_true hj
      have w2 : IntKind.i64.wrap ((j : Int) + 1) = ((j + 1 : Nat) : Int) := by rw [wrapI (by omega) (by omega)]; omega
      have hnx : prodJ ((i + 1 : Nat) : Int) p (j + 1) = _ := rfl
      generalize hq : prodJ ((i + 1 : Nat) : Int) p j = q at hjl
      have hq1 : (q.set j (w64 (q.getD j 0 + w64 (((i + 1 : Nat) : Int) * p.getD j 0)))).length = p.length + 1 := by rw [List.length_set]; exact hjl
      have g3 : (rowIV (q.set j (IntKind.i64.wrap (q.getD j 0 + IntKind.i64.wrap (((i + 1 : Nat) : Int) * p.getD j 0))))).getD (j + 1) .any = fI ((q.set j (w64 (q.getD j 0 + w64 (((i + 1 : Nat) : Int) * p.getD j 0)))).getD (j + 1) 0) := getD_map_fI _ _ (by rw [List.length_set]; omega)
      have hx : prodJ ((i + 1 : Nat) : Int) p (j + 1) = (q.set j (w64 (q.getD j 0 + w64 (((i + 1 : Nat) : Int) * p.getD j 0)))).set (j + 1) (w64 ((q.set j (w64 (q.getD j 0 + w64 (((i + 1 : Nat) : Int) * p.getD j 0)))).getD (j + 1) 0 + p.getD j 0)) := by rw [← hq]; rfl
      simp -implicitDefEqProofs only [evI, hv, effC, reduceCtorEq, ↓reduceIte, n1_, n2_, n3_, n4_, n5_, i1_, i2_, i3_, i4_, i5_, i6_, i7_, w2, getD_map_fI q j (by omega), getD_map_fI p j (by omega), g3]
      (repeat (with_reducible refine And.intro (by omega) ?_))
      refine ⟨c' - 1, by omega, j + 1, by omega, ?_⟩
      rw [hx]
    · replace hj := of_decide_eq_false hj
      have e : j = i + 1 := by omega
      subst e
      refine ev ?_
      rw [wrapI (by omega) (by omega)]
      rw [← hp] at *
      refine ⟨c - 1, _, by omega, ?_, i + 1, by omega, rfl⟩
      refine Le.trans (LeT.only (L' := [(4, [rowIV (prodP (i + 1))])]) (fun X => X == 4) (fun _ h => h) rfl (by simp [kpS]) (by simp [kpS])) ?_
      exact LeT.move (Y := 4) (cells := rowIV (prodP (i + 1))) 0 (by decide) (by simp [fam_nil]) (by simp [fam_nil]) (fun h => h) |>.trans (by
        have e1 : renS (absF 4 0 0) [(0, fI k), (3, .sl 4 0 0 (i + 2) 1 (i + 2)), (4, fI ((i + 1 : Nat) + 1 : Int))] = [(0, fI k), (3, .sl 0 0 0 (i + 1 + 1) 1 (i + 1 + 1)), (4, fI (i + 1 + 1 : Nat))] := by
          simp [renS, V.ren, absF]
        rw [e1, ren_rowIV]
        exact Le.refl _)
  · replace h := of_decide_eq_false h
    have e : i = k := by omega
    subst e
    refine ev ?_
    exact endsT_only (fun X => X == 0) (fun _ h => h) (resV_tmpI (t := 2) (by decide) rfl) rfl (by simp [kpS]) (by simp [kpS])
theorem r7_product_con (z : Int) (k : Nat) (hz : z = k) (hk : k < 2 ^ 20) : Con Tryz.prog 149 [fI z] (.d (rowI (prodP k))) :=
  Con_of_AC (r7_product_ac z k hz hk) (.d (snap_rowI (fun Y q h => by simp [get_nil] at h) (by simp [get_cons]) (prodP_len k) rfl))
end Go.Ab
namespace Go.Ab
set_option linter.unusedSimpArgs false
set_option linter.unusedVariables false
open Go Go.Proofs
abbrev AdT := List Int × List Int × Int × Int
def adStep (p : List Int) (k : Nat) (s : AdT) : Option AdT :=
  (lowF 64 (p.getD k 0) (w64 (p.getD 0 0 * ((k + 1 : Nat) : Int)))).bind fun ab =>
    (lowF 64 (w64 (w64 (s.2.2.1 * ab.2) + w64 (w64 ((if (k + 1) % 2 = 1 then -1 else 1) * ab.1) * s.2.2.2))) (w64 (s.2.2.2 * ab.2))).map fun nd => (s.1 ++ [ab.1], s.2.1 ++ [ab.2], nd.1, nd.2)
def adS (p : List Int) : Nat → Option AdT
  | 0 => some ([0], [1], 0, 1)
  | k + 1 => (adS p k).bind (adStep p k)
theorem adS_prev (p : List Int) (k : Nat) : ∀ d s, adS p (k + d) = some s → ∃ s', adS p k = some s'
  | 0, s, h => ⟨s, h⟩
  | d + 1, s, h => by
    obtain ⟨s1, h1, _⟩ := Option.bind_eq_some_iff.1 (show (adS p (k + d)).bind (adStep p (k + d)) = some s from h)
    exact adS_prev p k d s1 h1
theorem adS_len (p : List Int) (k : Nat) : ∀ s, adS p k = some s → s.1.length = k + 1 ∧ s.2.1.length = k + 1 := by
  induction k with
  | zero => intro s h; simp only [adS, Option.some.injEq] at h; subst h; exact ⟨rfl, rfl⟩
  | succ k ih =>
    intro s h
    obtain ⟨s1, h1, h2⟩ := Option.bind_eq_some_iff.1 (show (adS p k).bind (adStep p k) = some s from h)
    obtain ⟨a, b⟩ := ih s1 h1
    simp only [adStep, Option.bind_eq_some_iff, Option.map_eq_some_iff] at h2
    obtain ⟨ab, _, nd, _, rfl⟩ := h2
    exact ⟨by simp [a], by simp [b]⟩
theorem tmod2 (n : Nat) : ((n : Nat) : Int).tmod 2 = ((n % 2 : Nat) : Int) := rfl
set_option maxRecDepth 8000 in
theorem r7_adams_con (z : Int) (o : Nat) (hz : z = (o + 1 : Nat)) (ho : o < 2 ^ 20) (N E : List Int) (n d x y : Int) (h : adS (prodP o) (o + 1) = some (N, E, n, d)) (hl : lowF 64 (w64 (0 - n)) d = some (x, y)) :
    Con Tryz.prog 116 [fI z] (.agg [.d (rowI (N.set 0 x)), .d (rowI (E.set 0 y))]) := by
  subst hz
  refine Con_introA A_r7_adams_comp rfl mixed ?_
  refine evx @A_r7_adams.eq_1 ?_
  have w1 : IntKind.i64.wrap (((o + 1 : Nat) : Int) - 1) = (o : Int) := by rw [wrapI (by omega) (by omega)]; omega
  refine evx w1 ?_
  refine callG_con (r7_product_con (o : Int) o rfl (by omega)) rfl ?_
  have hp := prodP_len o
  generalize prodP o = p at hp h
  refine ev ?_
  refine WA_forW (n := o + 1) (fun c s => ∃ k N' E' n' d', c + k = o + 1 ∧ adS p k = some (N', E', n', d') ∧ s = ⟨[(0, fI (o + 1 : Nat)), (2, .ptr 0 0 0 2), (3, .d (rowI p)), (4, .ptr 1 0 0 2), (5, fI n'), (6, fI d'), (7, fI (k + 1 : Nat))],
      [(9, [rowIV E']), (5, [rowIV N']), (1, [[.sl 5 0 0 (k + 1) 1 (k + 1), .sl 9 0 0 (k + 1) 1 (k + 1)]]), (0, [[.nil, .nil]])]⟩) (s0 := ⟨_, _⟩) (LeT.only (fun X => X != 8 && X != 4) (fun _ h => h) rfl (by simp [kpS]) (by simp [kpS])) ⟨0, _, _, _, _, by omega, rfl, rfl⟩ ?_
  rintro c s ⟨k, N', E', n', d', hc, hs, rfl⟩
  obtain ⟨l1, l2⟩ := adS_len p k _ hs
  simp only at l1 l2
  refine evx @A_r7_adams_L0.eq_1 ?_
  refine condC_intro (fun hk => ?_) (fun hk => ?_)
  · replace hk := of_decide_eq_true hk
    obtain ⟨⟨N2, E2, n2, d2⟩, hs2⟩ := adS_prev p (k + 1) (o - k) _ (by rw [show k + 1 + (o - k) = o + 1 by omega]; exact h)
    have hst : adStep p k (N', E', n', d') = some (N2, E2, n2, d2) := by
      have : (adS p k).bind (adStep p k) = some (N2, E2, n2, d2) := hs2
      rw [hs] at this; exact this
    simp only [adStep, Option.bind_eq_some_iff, Option.map_eq_some_iff] at hst
    obtain ⟨⟨a, b⟩, hab, ⟨n3, d3⟩, hnd, e⟩ := hst
    simp only [Prod.mk.injEq] at e
    obtain ⟨rfl, rfl, rfl, rfl⟩ := e
    have w2 : IntKind.i64.wrap (((k + 1 : Nat) : Int) - 1) = (k : Int) := by rw [wrapI (by omega) (by omega)]; omega
    refine evx w2 ?_
    (repeat (with_reducible refine And.intro (by omega) ?_))
    refine callG_con (r7_low_con (p.getD k 0) (w64 (p.getD 0 0 * ((k + 1 : Nat) : Int))) a b 64 hab) rfl ?_
    refine ev ?_
    (repeat (with_reducible refine And.intro (by omega) ?_))
    simp only [] at hnd
    have e1 : rowIV N' ++ [fI a] = rowIV (N' ++ [a]) := by simp [rowIV]
    have e2 : rowIV E' ++ [fI b] = rowIV (E' ++ [b]) := by simp [rowIV]
    by_cases h2 : (k + 1) % 2 = 1
    · have h' : (((k + 1 : Nat) : Int).tmod 2 == 1) = true := by rw [tmod2]; simp; omega
      rw [if_pos h2] at hnd
      refine evx h' ?_
      refine callG_con (r7_low_con (w64 (w64 (n' * b) + w64 (w64 (-1 * a) * d'))) (w64 (d' * b)) n3 d3 64 hnd) rfl ?_
      refine ev ?_
      rw [wrapI (by omega) (by omega)]
      rw [e1, e2]
      exact ⟨c - 1, _, by omega, LeT.only (fun X => decide (X ≤ 5) || X == 9) (fun _ h => h) rfl (by simp [kpS]) (by simp [kpS]), k + 1, _, _, _, _, by omega, hs2, rfl⟩
    · have h' : (((k + 1 : Nat) : Int).tmod 2 == 1) = false := by rw [tmod2]; simp; omega
      rw [if_neg h2] at hnd
      refine evx h' ?_
      refine callG_con (r7_low_con (w64 (w64 (n' * b) + w64 (w64 (1 * a) * d'))) (w64 (d' * b)) n3 d3 64 hnd) rfl ?_
      refine ev ?_
      rw [wrapI (by omega) (by omega)]
      rw [e1, e2]
      exact ⟨c - 1, _, by omega, LeT.only (fun X => decide (X ≤ 5) || X == 9) (fun _ h => h) rfl (by simp [kpS]) (by simp [kpS]), k + 1, _, _, _, _, by omega, hs2, rfl⟩
  · replace hk := of_decide_eq_false hk
    have e : k = o + 1 := by omega
    subst e
    rw [h] at hs
    simp only [Option.some.injEq, Prod.mk.injEq] at hs
    obtain ⟨rfl, rfl, rfl, rfl⟩ := hs
    refine ev ?_
    refine callSG_con (r7_low_con (w64 (0 - n)) d x y 64 hl) rfl ?_
    refine ev ?_
    (repeat (with_reducible refine And.intro (by omega) ?_))
    have hz1 : ∀ L L' : Heap, L.get 5 0 = some (rowIV (N.set 0 x)) → L'.fam 5 = none → Fz L L' (.sl 5 0 0 (o + 1 + 1) 1 (o + 1 + 1)) (.d (rowI (N.set 0 x))) := fun L L' a b => Fz_rowN a (by rw [List.length_set]; exact l1) rfl b
    have hz2 : ∀ L L' : Heap, L.get 9 0 = some (rowIV (E.set 0 y)) → L'.fam 9 = none → Fz L L' (.sl 9 0 0 (o + 1 + 1) 1 (o + 1 + 1)) (.d (rowI (E.set 0 y))) := fun L L' a b => Fz_rowN a (by rw [List.length_set]; exact l2) rfl b
    have e3 : D.bor N.length (rowIG (N.set 0 x)) = rowI (N.set 0 x) := by unfold rowI; rw [List.length_set]
    have e4 : D.bor E.length (rowIG (E.set 0 y)) = rowI (E.set 0 y) := by unfold rowI; rw [List.length_set]
    rw [e3, e4]
    exact endsT_le (.agg [.sl 5 0 0 (o + 1 + 1) 1 (o + 1 + 1), .sl 9 0 0 (o + 1 + 1) 1 (o + 1 + 1)]) (fun _ h => h) (resV_cellI (by decide) rfl rfl rfl (by simp) rfl) (Fz_agg _ _ ⟨hz1 _ _ (by simp [get_cons]) (by simp [fam_nil]), hz2 _ _ (by simp [get_cons]) (by simp [fam_nil]), trivial⟩)
def bdS (p : List Int) : Nat → Option (List Int × List Int)
  | 0 => some ([], [])
  | k + 1 => (bdS p k).bind fun s => (lowF 64 (p.getD k 0) (p.getD 1 0)).map fun ab => (s.1 ++ [ab.1], s.2 ++ [ab.2])
theorem bdS_prev (p : List Int) (k : Nat) : ∀ d s, bdS p (k + d) = some s → ∃ s', bdS p k = some s'
  | 0, s, h => ⟨s, h⟩
  | d + 1, s, h => by
    obtain ⟨s1, h1, _⟩ := Option.bind_eq_some_iff.1 (show (bdS p (k + d)).bind _ = some s from h)
    exact bdS_prev p k d s1 h1
theorem bdS_len (p : List Int) (k : Nat) : ∀ s, bdS p k = some s → s.1.length = k ∧ s.2.length = k := by
  induction k with
  | zero => intro s h; simp only [bdS, Option.some.injEq] at h; subst h; exact ⟨rfl, rfl⟩
  | succ k ih =>
    intro s h
    obtain ⟨s1, h1, h2⟩ := Option.bind_eq_some_iff.1 (show (bdS p k).bind _ = some s from h)
    obtain ⟨a, b⟩ := ih s1 h1
    obtain ⟨ab, _, rfl⟩ := Option.map_eq_some_iff.1 h2
    exact ⟨by simp [a], by simp [b]⟩
set_option maxRecDepth 8000 in
theorem r7_bdf_con (z : Int) (o : Nat) (hz : z = (o + 1 : Nat)) (ho1 : o + 1 < 2 ^ 20) (N E : List Int) (h : bdS (prodP (o + 1)) (o + 2) = some (N, E)) :
    Con Tryz.prog 117 [fI z] (.agg [.d (rowI N), .d (rowI E)]) := by
  subst hz
  refine Con_introA A_r7_bdf_comp rfl mixed ?_
  refine evx @A_r7_bdf.eq_1 ?_
  refine callG_con (r7_product_con ((o + 1 : Nat) : Int) (o + 1) rfl ho1) rfl ?_
  have hp := prodP_len (o + 1)
  generalize prodP (o + 1) = p at hp h
  refine ev ?_
  refine WA_forW (n := o + 2) (fun c s => ∃ k N' E', c + k = o + 2 ∧ bdS p k = some (N', E') ∧ ((k = 0 ∧ s = ⟨[(0, fI (o + 1 : Nat)), (2, .ptr 0 0 0 2), (3, .d (rowI p)), (4, .ptr 1 0 0 2), (5, fI k)], [(1, [[.nil, .nil]]), (0, [[.nil, .nil]])]⟩) ∨
      (0 < k ∧ s = ⟨[(0, fI (o + 1 : Nat)), (2, .ptr 0 0 0 2), (3, .d (rowI p)), (4, .ptr 1 0 0 2), (5, fI k)], [(11, [rowIV E']), (6, [rowIV N']), (1, [[.sl 6 0 0 k 1 k, .sl 11 0 0 k 1 k]]), (0, [[.nil, .nil]])]⟩))) (Le.refl _) ⟨0, [], [], rfl, rfl, .inl ⟨rfl, rfl⟩⟩ ?_
  rintro c s ⟨k, N', E', hc, hs, ⟨rfl, rfl⟩ | ⟨hk0, rfl⟩⟩
  · refine evx @A_r7_bdf_L0.eq_1 ?_
    obtain ⟨⟨N2, E2⟩, hs2⟩ := bdS_prev p (0 + 1) (o + 2 - (0 + 1)) _ (by rw [show 0 + 1 + (o + 2 - (0 + 1)) = o + 2 by omega]; exact h)
    have hst := hs2
    rw [show bdS p (0 + 1) = (bdS p 0).bind fun s => (lowF 64 (p.getD 0 0) (p.getD 1 0)).map fun ab => (s.1 ++ [ab.1], s.2 ++ [ab.2]) from rfl, hs] at hst
    simp only [Option.bind_some, Option.map_eq_some_iff] at hst
    obtain ⟨⟨a, b⟩, hab, e⟩ := hst
    simp only [Prod.mk.injEq] at e
    obtain ⟨rfl, rfl⟩ := e
    (repeat (with_reducible refine And.intro (by omega) ?_))
    refine callG_con (r7_low_con (p.getD 0 0) (p.getD 1 0) a b 64 hab) rfl ?_
    refine ev ?_
    obtain ⟨rfl, rfl⟩ : [] = N' ∧ [] = E' := by simpa [bdS] using hs
    rw [show IntKind.i64.wrap 1 = ((0 + 1 : Nat) : Int) from by decide]
    exact ⟨c - 1, _, by omega, LeT.only (fun X => X != 10 && X != 5) (fun _ h => h) rfl (by simp [kpS]) (by simp [kpS]), 0 + 1, _, _, by omega, hs2, .inr ⟨by omega, rfl⟩⟩
  · obtain ⟨l1, l2⟩ := bdS_len p k _ hs
    simp only at l1 l2
    refine evx @A_r7_bdf_L0.eq_1 ?_
    refine condC_intro (fun hk => ?_) (fun hk => ?_)
    · replace hk := of_decide_eq_true hk
      refine ev ?_
      obtain ⟨⟨N2, E2⟩, hs2⟩ := bdS_prev p (k + 1) (o + 2 - (k + 1)) _ (by rw [show k + 1 + (o + 2 - (k + 1)) = o + 2 by omega]; exact h)
      have hst := hs2
      rw [show bdS p (k + 1) = (bdS p k).bind fun s => (lowF 64 (p.getD k 0) (p.getD 1 0)).map fun ab => (s.1 ++ [ab.1], s.2 ++ [ab.2]) from rfl, hs] at hst
      simp only [Option.bind_some, Option.map_eq_some_iff] at hst
      obtain ⟨⟨a, b⟩, hab, e⟩ := hst
      simp only [Prod.mk.injEq] at e
      obtain ⟨rfl, rfl⟩ := e
      (repeat (with_reducible refine And.intro (by omega) ?_))
      refine callG_con (r7_low_con (p.getD k 0) (p.getD 1 0) a b 64 hab) rfl ?_
      refine ev ?_
      (repeat (with_reducible refine And.intro (by omega) ?_))
      have e1 : rowIV N' ++ [fI a] = rowIV (N' ++ [a]) := by simp [rowIV]
      have e2 : rowIV E' ++ [fI b] = rowIV (E' ++ [b]) := by simp [rowIV]
      rw [wrapI (by omega) (by omega), e1, e2]
      exact ⟨c - 1, _, by omega, LeT.only (fun X => decide (X ≤ 6) || X == 11) (fun _ h => h) rfl (by simp [kpS]) (by simp [kpS]), k + 1, _, _, by omega, hs2, .inr ⟨by omega, rfl⟩⟩
    · replace hk := of_decide_eq_false hk
      have e : k = o + 2 := by omega
      subst e
      rw [h] at hs
      simp only [Option.some.injEq, Prod.mk.injEq] at hs
      obtain ⟨rfl, rfl⟩ := hs
      refine ev ?_
      have hz1 : ∀ L L' : Heap, L.get 6 0 = some (rowIV N) → L'.fam 6 = none → Fz L L' (.sl 6 0 0 (o + 2) 1 (o + 2)) (.d (rowI N)) := fun L L' a b => Fz_rowN a l1 rfl b
      have hz2 : ∀ L L' : Heap, L.get 11 0 = some (rowIV E) → L'.fam 11 = none → Fz L L' (.sl 11 0 0 (o + 2) 1 (o + 2)) (.d (rowI E)) := fun L L' a b => Fz_rowN a l2 rfl b
      exact endsT_le (.agg [.sl 6 0 0 (o + 2) 1 (o + 2), .sl 11 0 0 (o + 2) 1 (o + 2)]) (fun _ h => h) (resV_cellI (by decide) rfl rfl rfl (by simp) rfl) (Fz_agg _ _ ⟨hz1 _ _ (by simp [get_cons]) (by simp [fam_nil]), hz2 _ _ (by simp [get_cons]) (by simp [fam_nil]), trivial⟩)
def exS (m : Int) (q : Nat) : Option (List Int × List Int) :=
  if m = 0 then (adS (prodP (q - 1)) q).bind fun s => (lowF 64 (w64 (0 - s.2.2.1)) s.2.2.2).map fun xy => (s.1.set 0 xy.1, s.2.1.set 0 xy.2)
  else bdS (prodP q) (q + 1)
set_option maxRecDepth 8000 in
theorem r7_Exact_con (m : Int) (q : Nat) (hm : (m = 0 ∧ 1 ≤ q ∧ q ≤ 5) ∨ (m = 1 ∧ 1 ≤ q ∧ q ≤ 4)) (N E : List Int) (h : exS m q = some (N, E)) :
    Con Tryz.prog 62 [fI m, fI q] (.tup [.agg [.d (rowI N), .d (rowI E)], fB true]) := by
  refine Con_introA A_r7_Exact_comp rfl mixed ?_
  refine evx @A_r7_Exact.eq_1 ?_
  obtain ⟨o, rfl⟩ : ∃ o, q = o + 1 := ⟨q - 1, by omega⟩
  rcases hm with ⟨rfl, h1, h2⟩ | ⟨rfl, h1, h2⟩
  · have g1 : decide ((1 : Int) ≤ ((o + 1 : Nat) : Int)) = true := by simp; omega
    have g2 : decide (((o + 1 : Nat) : Int) ≤ 5) = true := by simp; omega
    unfold exS at h
    rw [if_pos rfl] at h
    obtain ⟨⟨N', E', n, d⟩, hs, h3⟩ := Option.bind_eq_some_iff.1 h
    obtain ⟨⟨x, y⟩, hl, e⟩ := Option.map_eq_some_iff.1 h3
    simp only [Prod.mk.injEq] at e
    obtain ⟨rfl, rfl⟩ := e
    refine evx (And.intro g1 g2) ?_
    refine callG_con (r7_adams_con ((o + 1 : Nat) : Int) o rfl (by omega) N' E' n d x y hs hl) rfl ?_
    refine ev ?_
    exact endsT_only (fun _ => false) (fun _ h => h) ⟨_, _, resV_cell (by decide) rfl (cells := [_, _]) (by simp [get_cons]) rfl (by simp) rfl, resV_tmpI (t := 5) (by decide) rfl, rfl⟩ rfl (by simp [kpS]) (by simp [kpS])
  · have g1 : decide ((1 : Int) ≤ ((o + 1 : Nat) : Int)) = true := by simp; omega
    have g2 : decide (((o + 1 : Nat) : Int) ≤ 4) = true := by simp; omega
    unfold exS at h
    rw [if_neg (by decide)] at h
    refine evbx (And.intro g1 g2) ?_
    refine callG_con (r7_bdf_con ((o + 1 : Nat) : Int) o rfl (by omega) N E h) rfl ?_
    refine ev ?_
    exact endsT_only (fun _ => false) (fun _ h => h) ⟨_, _, resV_cell (by decide) rfl (cells := [_, _]) (by simp [get_cons]) rfl (by simp) rfl, resV_tmpI (t := 5) (by decide) rfl, rfl⟩ rfl (by simp [kpS]) (by simp [kpS])
def ofP (N E : List Int) : List Nat := tabR (fun i => fop .div (FloatKind.nearest .f64 (N.getD i 0)) (FloatKind.nearest .f64 (E.getD i 0))) N.length
theorem exS_len (m : Int) (q : Nat) (hq : 1 ≤ q) (N E : List Int) (h : exS m q = some (N, E)) : N.length = q + 1 ∧ E.length = q + 1 := by
  unfold exS at h
  split at h
  · obtain ⟨⟨N', E', n, d⟩, hs, h3⟩ := Option.bind_eq_some_iff.1 h
    obtain ⟨⟨x, y⟩, hl, e⟩ := Option.map_eq_some_iff.1 h3
    simp only [Prod.mk.injEq] at e
    obtain ⟨rfl, rfl⟩ := e
    obtain ⟨a, b⟩ := adS_len _ _ _ hs
    exact ⟨by simpa using a, by simpa using b⟩
  · exact bdS_len _ _ _ h
set_option maxRecDepth 8000 in
theorem r7_Of_con (m : Int) (q : Nat) (hm : (m = 0 ∧ 1 ≤ q ∧ q ≤ 5) ∨ (m = 1 ∧ 1 ≤ q ∧ q ≤ 4)) (N E : List Int) (h : exS m q = some (N, E)) :
    Con Tryz.prog 28 [fI m, fI q] (.tup [.d (rowD (ofP N E)), fB true]) := by
  obtain ⟨l1, l2⟩ := exS_len m q (by omega) N E h
  refine Con_introA A_r7_Of_comp rfl mixed ?_
  refine evx @A_r7_Of.eq_1 ?_
  refine callG_con (r7_Exact_con m q hm N E h) rfl ?_
  refine evx @Bool.not_true ?_
  refine WA_forW (n := q + 1) (fun c s => ∃ i, c + i = q + 1 ∧ s = ⟨[(6, .ptr 6 0 0 2), (8, .sl 20 0 0 i 1 i), (9, fI i)], [(20, [rowV (tabR (fun i => fop .div (FloatKind.nearest .f64 (N.getD i 0)) (FloatKind.nearest .f64 (E.getD i 0))) i)]), (6, [[.d (rowI N), .d (rowI E)]])]⟩) (s0 := ⟨_, _⟩)
    (LeT.nilrow (X := 20) (esz := 1) (as' := [(6, .ptr 6 0 0 2), (8, .sl 20 0 0 0 1 0), (9, fI 0)]) (by simp [fam_cons, fam_nil]) (fun h => h) fun i => ?_) ⟨0, by omega, rfl⟩ ?_
  · simp only [look]
    repeat' split
    all_goals simp
  rintro c s ⟨i, hc, rfl⟩
  have hl := tabR_len (fun i => fop .div (FloatKind.nearest .f64 (N.getD i 0)) (FloatKind.nearest .f64 (E.getD i 0))) i
  have hsc := tabR_succ (fun i => fop .div (FloatKind.nearest .f64 (N.getD i 0)) (FloatKind.nearest .f64 (E.getD i 0))) i
  refine evx @A_r7_Of_L0.eq_1 ?_
  refine condC_intro (fun hi => ?_) (fun hi => ?_)
  · replace hi := of_decide_eq_true hi
    refine ev ?_
    (repeat (with_reducible refine And.intro (by omega) ?_))
    rw [wrapI (by omega) (by omega)]
    have e : rowV (tabR (fun i => fop .div (FloatKind.nearest .f64 (N.getD i 0)) (FloatKind.nearest .f64 (E.getD i 0))) i) ++ [fl (fop .div (FloatKind.nearest .f64 (N.getD i 0)) (FloatKind.nearest .f64 (E.getD i 0)))] = rowV (tabR (fun i => fop .div (FloatKind.nearest .f64 (N.getD i 0)) (FloatKind.nearest .f64 (E.getD i 0))) (i + 1)) := hsc.symm
    rw [e]
    exact ⟨c - 1, _, by omega, LeT.only (fun X => decide (X ≤ 20)) (fun _ h => h) rfl (by simp [kpS]) (by simp [kpS]), i + 1, by omega, rfl⟩
  · replace hi := of_decide_eq_false hi
    have e : i = q + 1 := by omega
    subst e
    refine ev ?_
    have ho : ofP N E = tabR (fun i => fop .div (FloatKind.nearest .f64 (N.getD i 0)) (FloatKind.nearest .f64 (E.getD i 0))) (q + 1) := by unfold ofP; rw [l1]
    rw [← ho]
    rw [← ho] at hl
    have hz : Fz [(20, [rowV (ofP N E)]), (6, [[.d (rowI N), .d (rowI E)]])] [] (.sl 20 0 0 (q + 1) 1 (q + 1)) (.d (rowD (ofP N E))) := Fz_row (by simp [get_cons]) hl rfl (by simp [get_nil])
    refine endsT_le (.tup [.sl 20 0 0 (q + 1) 1 (q + 1), fB true]) (fun _ h => h) ⟨_, _, resV_tmpI (t := 4) (by decide) rfl, resV_tmpI (t := 5) (by decide) rfl, rfl⟩ (.tup rfl fun j hj => ?_)
    rcases j with _ | _ | j
    · exact hz
    · exact Fz_d _
    · simp at hj; omega
theorem exS_some (m : Int) (q : Nat) (hm : (m = 0 ∧ 1 ≤ q ∧ q ≤ 5) ∨ (m = 1 ∧ 1 ≤ q ∧ q ≤ 4)) : ∃ N E, exS m q = some (N, E) := by
  have h0 : ((List.range 5).all fun i => (exS 0 (i + 1)).isSome) = true := by kernel_rfl
  have h1 : ((List.range 4).all fun i => (exS 1 (i + 1)).isSome) = true := by kernel_rfl
  have : (exS m q).isSome = true := by
    obtain ⟨o, rfl⟩ : ∃ o, q = o + 1 := ⟨q - 1, by omega⟩
    rcases hm with ⟨rfl, a, b⟩ | ⟨rfl, a, b⟩
    · exact List.all_eq_true.1 h0 o (by simp; omega)
    · exact List.all_eq_true.1 h1 o (by simp; omega)
  obtain ⟨⟨N, E⟩, h⟩ := Option.isSome_iff_exists.1 this
  exact ⟨N, E, h⟩
def ofL (m : Int) (q : Nat) : List Nat := match exS m q with
  | some s => ofP s.1 s.2
  | none => []
theorem r7_Of_ok (m : Int) (q : Nat) (hm : (m = 0 ∧ 1 ≤ q ∧ q ≤ 5) ∨ (m = 1 ∧ 1 ≤ q ∧ q ≤ 4)) : Con Tryz.prog 28 [fI m, fI q] (.tup [.d (rowD (ofL m q)), fB true]) ∧ (ofL m q).length = q + 1 := by
  obtain ⟨N, E, h⟩ := exS_some m q hm
  obtain ⟨l1, l2⟩ := exS_len m q (by omega) N E h
  have e : ofL m q = ofP N E := by unfold ofL; rw [h]
  rw [e]
  exact ⟨r7_Of_con m q hm N E h, by unfold ofP; rw [tabR_len]; exact l1⟩
structure Pb where
  t : Tp
  box : List (Nat × Nat)
  y : List Nat
  fin : Int
  first : Int
  least : Int
  atol : Nat
  rtol : Nat
  cap : Nat
  most : Int
  outs : List Int
abbrev pbC (p : Pb) : List V := [fI p.t.n, .d (opsD p.t.ops), .d (rowI p.t.out), .d (ivD p.box), .d (rowD p.y), fI p.fin, fI p.first, fI p.least, fl p.atol, fl p.rtol, fl p.cap, fI p.most, .d (rowI p.outs)]
abbrev pbV (p : Pb) : V := .agg (pbC p)
abbrev pbCo (p : Pb) (od : D) : List V := [fI p.t.n, .d (opsD p.t.ops), .d (rowI p.t.out), .d (ivD p.box), .d (rowD p.y), fI p.fin, fI p.first, fI p.least, fl p.atol, fl p.rtol, fl p.cap, fI p.most, .d od]
abbrev pbVo (p : Pb) (od : D) : V := .agg (pbCo p od)
structure Nd where
  pos : Int
  step : Int
  order : Int
  method : Int
  z : List (List Nat)
abbrev ndC (n : Nd) : List V := [fI n.pos, fI n.step, fI n.order, fI n.method, .d (rowsD n.z)]
abbrev ndV (n : Nd) : V := .agg (ndC n)
structure Sta where
  n : Nd
  good : Int
  fails : Int
  slow : Int
abbrev staC (s : Sta) : List V := [fI s.n.pos, fI s.n.step, fI s.n.order, fI s.n.method, .d (rowsD s.n.z), fI s.good, fI s.fails, fI s.slow]
abbrev staV (s : Sta) : V := .agg (staC s)
structure Trd where
  s : Sta
  n : Nd
  taken : Bool
  err : Nat
  e : Int
abbrev trdC (r : Trd) : List V := [fI r.s.n.pos, fI r.s.n.step, fI r.s.n.order, fI r.s.n.method, .d (rowsD r.s.n.z), fI r.s.good, fI r.s.fails, fI r.s.slow,
  fI r.n.pos, fI r.n.step, fI r.n.order, fI r.n.method, .d (rowsD r.n.z), fB r.taken, fl r.err, fI r.e]
abbrev trdV (r : Trd) : V := .agg (trdC r)
def freshP (p : Pb) (n : Nd) : Nd := ⟨n.pos, n.step, 1, n.method, startZ p.t (n.z.getD 0 []) (hW n.step.toNat)⟩
def lessW (k : Nat) : Nat := scl 4607182418800017408 (-(k : Int))
def mostO (m : Int) : Int := if m = 0 then 5 else 4
def nextR (l d : List Nat) (q : Nat) : List Nat := tabR (fun i => fop .div (fop .mul (l.getD q 0) (d.getD i 0)) (FloatKind.nearest .f64 ((q : Int) + 1))) d.length
def takeP (p : Pb) (s : Sta) (z : List (List Nat)) (l d : List Nat) (err : Nat) : Trd :=
  let q := s.n.order.toNat
  let n : Nd := { s.n with pos := s.n.pos + s.n.step, z := corrP z l d (q + 1) p.t.n }
  let s' : Sta :=
    if s.good + 1 ≤ s.n.order + 1 then ⟨n, s.good + 1, 0, s.slow⟩
    else if fcmp .le err (lessW (q + 3)) = true ∧ s.n.step ≤ p.fin then ⟨{ n with step := 2 * s.n.step, z := scaleP n.z 1 (q + 1) p.t.n }, 0, 0, s.slow⟩
    else if fcmp .le err 4598175219545276416 = true ∧ s.n.order < mostO s.n.method then ⟨{ n with order := s.n.order + 1, z := n.z ++ [nextR l d q] }, 0, 0, s.slow⟩
    else ⟨n, s.good + 1, 0, s.slow⟩
  ⟨s', n, true, err, 0⟩
def failP (p : Pb) (s : Sta) (e : Int) (err : Nat) : Trd :=
  let q := s.n.order.toNat
  if s.n.step ≤ p.least then ⟨s, ⟨0, 0, 0, 0, []⟩, false, err, if e = 4 ∨ e = 2 then e else 5⟩
  else
    let slow := if e = 6 ∧ s.n.method = 0 then s.slow + 1 else s.slow
    let n : Nd := { s.n with step := s.n.step / 2, z := scaleP s.n.z (-1) (q + 1) p.t.n }
    let s' : Sta :=
      if 2 ≤ slow then ⟨freshP p { n with method := 1 }, 0, 0, 0⟩
      else if s.fails + 1 < 3 then ⟨n, 0, s.fails + 1, slow⟩
      else ⟨freshP p n, 0, 0, slow⟩
    ⟨s', ⟨0, 0, 0, 0, []⟩, false, err, 0⟩
def tryP (p : Pb) (s : Sta) : Trd :=
  let q := s.n.order.toNat
  let z := predP s.n.z p.t.n q
  let l := ofL s.n.method q
  let w := wtP (s.n.z.getD 0 []) p.atol p.rtol
  let c := solG p.t z l (hW s.n.step.toNat) w s.n.method
  if c.2.2 ≠ 0 then failP p s c.2.2 0
  else
    let err := fop .div (szP c.1 w) (FloatKind.nearest .f64 (s.n.order + 1))
    if fcmp .le err 4607182418800017408 = true then takeP p s z l c.1 err else failP p s 0 err
structure Pok (p : Pb) : Prop where
  t : Tok p.t
  n : 0 < p.t.n
  least : 1 ≤ p.least
structure Nok (t : Tp) (n : Nd) : Prop where
  m : (n.method = 0 ∧ 1 ≤ n.order ∧ n.order ≤ 5) ∨ (n.method = 1 ∧ 1 ≤ n.order ∧ n.order ≤ 4)
  step : ∃ j : Nat, j < 60 ∧ n.step = (2 ^ j : Nat)
  rk : Rk (n.order.toNat + 1) t.n n.z
  cw : Cw n.z
  pos : 0 ≤ n.pos ∧ n.pos < 2305843009213693952
structure Sta.ok (t : Tp) (s : Sta) : Prop where
  n : Nok t s.n
  good : 0 ≤ s.good ∧ s.good < 1000000000
  fails : 0 ≤ s.fails ∧ s.fails < 1000000000
  slow : 0 ≤ s.slow ∧ s.slow < 1000000000
def A_r8_copied_L0 : CA := (.seq (.seq (.reg [i_M 0 5 4, i_M 1 6 0, i_X 2 7 (.h (.len (.t 6))), i_N 3 8 .lss 5 7] [0, 3, 4, 8]) (.cond (.t 8) .skip (.exit 0))) (.seq (.block 1 (.reg [i_M 0 11 3, i_X 1 12 (.bslice [] 0 1 [] 31), i_M 2 13 0, i_M 3 14 4, i_I 4 15 13 14 1, i_L 5 16 15 1, i_X 6 17 (.app (.t 12) (.t 16) 1 8), i_X 7 18 (.bslice [.nil] 1 1 [(0, (1, (.t 17)))] 30), i_X 8 19 (.app (.t 11) (.t 18) 1 24), i_M 9 3 19] [0, 3, 4])) (.reg [i_M 0 9 4, i_B 1 10 .add 9 1, i_M 2 4 10] [0, 3, 4])))
def A_r8_copied : CA := (.seq (.reg [i_X 0 2 (.h (.mov (.k .nil)))] [0]) (.seq (.reg [i_X 0 3 (.h (.mov (.k .nil)))] [0, 3]) (.seq (.seq (.reg [i_K 0 4 0] [0, 3, 4]) (.block 0 (.loop A_r8_copied_L0))) (.seq (.reg [i_M 0 20 3, i_M 1 2 20] [2]) .ret))))
theorem A_r8_copied_comp : compF Tryz.prog 61 = some ⟨21, [(2, none)], A_r8_copied.strip⟩ := by kernel_rfl
def A_r8_Predict_L2 : CA := (.seq (.seq (.reg [i_M 0 26 7, i_M 1 27 3, i_M 2 28 6, i_I 3 29 27 28 1, i_L 4 30 29 1, i_X 5 31 (.h (.len (.t 30))), i_N 6 32 .lss 26 31] [3, 4, 5, 6, 7, 32]) (.cond (.t 32) .skip (.exit 4))) (.seq (.block 5 (.reg [i_M 0 35 3, i_M 1 36 6, i_I 2 37 35 36 1, i_L 3 38 37 1, i_M 4 39 7, i_M 5 40 3, i_M 6 41 6, i_I 7 42 40 41 1, i_L 8 43 42 1, i_M 9 44 7, i_I 10 45 43 44 1, i_L 11 46 45 1, i_M 12 47 3, i_M 13 48 6, i_B 14 49 .add 48 1, i_I 15 50 47 49 1, i_L 16 51 50 1, i_M 17 52 7, i_I 18 53 51 52 1, i_L 19 54 53 1, i_F 20 55 .add 46 54, i_I 21 56 38 39 1, i_S 22 56 55 1] [3, 4, 5, 6, 7])) (.reg [i_M 0 33 7, i_B 1 34 .add 33 1, i_M 2 7 34] [3, 4, 5, 6, 7])))
def A_r8_Predict_L1 : CA := (.seq (.seq (.reg [i_M 0 20 6, i_M 1 21 5, i_B 2 22 .sub 21 1, i_N 3 23 .geq 20 22] [3, 4, 5, 6, 23]) (.cond (.t 23) .skip (.exit 2))) (.seq (.block 3 (.seq (.reg [i_K 0 7 0] [3, 4, 5, 6, 7]) (.block 4 (.loop A_r8_Predict_L2)))) (.reg [i_M 0 24 6, i_B 1 25 .sub 24 1, i_M 2 6 25] [3, 4, 5, 6])))
def A_r8_Predict_L0 : CA := (.seq (.seq (.reg [i_M 0 13 5, i_M 1 14 4, i_N 2 15 .leq 13 14] [3, 4, 5, 15]) (.cond (.t 15) .skip (.exit 0))) (.seq (.block 1 (.seq (.reg [i_M 0 18 4, i_B 1 19 .sub 18 1, i_M 2 6 19] [3, 4, 5, 6]) (.block 2 (.loop A_r8_Predict_L1)))) (.reg [i_M 0 16 5, i_B 1 17 .add 16 1, i_M 2 5 17] [3, 4, 5])))
def A_r8_Predict : CA := (.seq (.reg [i_X 0 2 (.h (.mov (.k .nil)))] [0]) (.seq (.reg [i_M 0 8 0, i_X 1 9 (.callA (kF 61) [(.t 8)]), i_M 2 3 9] [3]) (.seq (.reg [i_M 0 10 3, i_X 1 11 (.h (.len (.t 10))), i_B 2 12 .sub 11 1, i_M 3 4 12] [3, 4]) (.seq (.seq (.reg [i_K 0 5 1] [3, 4, 5]) (.block 0 (.loop A_r8_Predict_L0))) (.seq (.reg [i_M 0 57 3, i_M 1 2 57] [2]) .ret)))))
theorem A_r8_Predict_comp : compF Tryz.prog 27 = some ⟨58, [(2, none)], A_r8_Predict.strip⟩ := by kernel_rfl
def A_r8_Correct_L1 : CA := (.seq (.seq (.reg [i_M 0 19 9, i_M 1 20 2, i_X 2 21 (.h (.len (.t 20))), i_N 3 22 .lss 19 21] [1, 2, 7, 8, 9, 22]) (.cond (.t 22) .skip (.exit 2))) (.seq (.block 3 (.seq (.reg [i_M 0 25 1, i_M 1 26 8, i_I 2 27 25 26 1, i_L 3 28 27 1, i_M 4 29 2, i_M 5 30 9, i_I 6 31 29 30 1, i_L 7 32 31 1, i_F 8 33 .mul 28 32, i_M 9 10 33] [1, 2, 7, 8, 9, 10]) (.reg [i_M 0 34 7, i_M 1 35 8, i_I 2 36 34 35 1, i_L 3 37 36 1, i_M 4 38 9, i_M 5 39 7, i_M 6 40 8, i_I 7 41 39 40 1, i_L 8 42 41 1, i_M 9 43 9, i_I 10 44 42 43 1, i_L 11 45 44 1, i_M 12 46 10, i_F 13 47 .add 45 46, i_I 14 48 37 38 1, i_S 15 48 47 1] [1, 2, 7, 8, 9]))) (.reg [i_M 0 23 9, i_B 1 24 .add 23 1, i_M 2 9 24] [1, 2, 7, 8, 9])))
def A_r8_Correct_L0 : CA := (.seq (.seq (.reg [i_M 0 13 8, i_M 1 14 7, i_X 2 15 (.h (.len (.t 14))), i_N 3 16 .lss 13 15] [1, 2, 7, 8, 16]) (.cond (.t 16) .skip (.exit 0))) (.seq (.block 1 (.seq (.reg [i_K 0 9 0] [1, 2, 7, 8, 9]) (.block 2 (.loop A_r8_Correct_L1)))) (.reg [i_M 0 17 8, i_B 1 18 .add 17 1, i_M 2 8 18] [1, 2, 7, 8])))
def A_r8_Correct : CA := (.seq (.reg [i_X 0 6 (.h (.mov (.k .nil)))] [0, 1, 2]) (.seq (.reg [i_M 0 11 0, i_X 1 12 (.callA (kF 61) [(.t 11)]), i_M 2 7 12] [1, 2, 7]) (.seq (.seq (.reg [i_K 0 8 0] [1, 2, 7, 8]) (.block 0 (.loop A_r8_Correct_L0))) (.seq (.reg [i_M 0 49 7, i_M 1 6 49] [6]) .ret))))
theorem A_r8_Correct_comp : compF Tryz.prog 72 = some ⟨50, [(6, none)], A_r8_Correct.strip⟩ := by kernel_rfl
def A_r8_Rescale_L1 : CA := (.seq (.seq (.reg [i_M 0 16 7, i_M 1 17 5, i_M 2 18 6, i_I 3 19 17 18 1, i_L 4 20 19 1, i_X 5 21 (.h (.len (.t 20))), i_N 6 22 .lss 16 21] [1, 5, 6, 7, 22]) (.cond (.t 22) .skip (.exit 2))) (.seq (.block 3 (.reg [i_M 0 25 5, i_M 1 26 6, i_I 2 27 25 26 1, i_L 3 28 27 1, i_M 4 29 7, i_M 5 30 5, i_M 6 31 6, i_I 7 32 30 31 1, i_L 8 33 32 1, i_M 9 34 7, i_I 10 35 33 34 1, i_L 11 36 35 1, i_M 12 37 6, i_M 13 38 1, i_N 14 39 .mul 37 38, i_X 15 40 (.callS 15 (kF 121) [(.t 36), (.t 39)]), i_I 16 41 28 29 1, i_S 17 41 40 1] [1, 5, 6, 7])) (.reg [i_M 0 23 7, i_B 1 24 .add 23 1, i_M 2 7 24] [1, 5, 6, 7])))
def A_r8_Rescale_L0 : CA := (.seq (.seq (.reg [i_M 0 10 6, i_M 1 11 5, i_X 2 12 (.h (.len (.t 11))), i_N 3 13 .lss 10 12] [1, 5, 6, 13]) (.cond (.t 13) .skip (.exit 0))) (.seq (.block 1 (.seq (.reg [i_K 0 7 0] [1, 5, 6, 7]) (.block 2 (.loop A_r8_Rescale_L1)))) (.reg [i_M 0 14 6, i_B 1 15 .add 14 1, i_M 2 6 15] [1, 5, 6])))
def A_r8_Rescale : CA := (.seq (.reg [i_X 0 4 (.h (.mov (.k .nil)))] [0, 1]) (.seq (.reg [i_M 0 8 0, i_X 1 9 (.callA (kF 61) [(.t 8)]), i_M 2 5 9] [1, 5]) (.seq (.seq (.reg [i_K 0 6 0] [1, 5, 6]) (.block 0 (.loop A_r8_Rescale_L0))) (.seq (.reg [i_M 0 42 5, i_M 1 4 42] [4]) .ret))))
theorem A_r8_Rescale_comp : compF Tryz.prog 69 = some ⟨43, [(4, none)], A_r8_Rescale.strip⟩ := by kernel_rfl
def A_r8_Start_L0 : CA := (.seq (.seq (.reg [i_M 0 13 9, i_M 1 14 7, i_X 2 15 (.h (.len (.t 14))), i_N 3 16 .lss 13 15] [1, 2, 6, 7, 8, 9, 16]) (.cond (.t 16) .skip (.exit 0))) (.seq (.block 1 (.reg [i_M 0 19 8, i_M 1 20 2, i_X 2 21 (.callS 0 (kF 49) [(.t 20)]), i_M 3 22 7, i_M 4 23 9, i_I 5 24 22 23 1, i_L 6 25 24 1, i_F 7 26 .mul 21 25, i_X 8 27 (.bslice [(.d (.flt 0))] 1 1 [(0, (1, (.t 26)))] 31), i_X 9 28 (.app (.t 19) (.t 27) 1 8), i_M 10 8 28] [1, 2, 6, 7, 8, 9])) (.reg [i_M 0 17 9, i_B 1 18 .add 17 1, i_M 2 9 18] [1, 2, 6, 7, 8, 9])))
def A_r8_Start : CA := (.seq (.reg [i_X 0 3 (.box (.t 0) 3 28), i_X 1 6 (.alloc [(.d (.int .i64 0)), (.d (.int .i64 0)), (.d (.int .i64 0)), (.d (.int .i64 0)), .nil] 37)] [1, 2, 3, 6]) (.seq (.reg [i_A 0 10 3 3, i_M 1 11 1, i_X 2 12 (.callA (kF 60) [(.t 10), (.t 11)]), i_M 3 7 12] [1, 2, 6, 7]) (.seq (.reg [i_X 0 8 (.h (.mov (.k .nil)))] [1, 2, 6, 7, 8]) (.seq (.seq (.reg [i_K 0 9 0] [1, 2, 6, 7, 8, 9]) (.block 0 (.loop A_r8_Start_L0))) (.seq (.reg [i_M 0 29 2, i_X 1 30 (.bslice [] 0 1 [] 31), i_M 2 31 1, i_X 3 32 (.app (.t 30) (.t 31) 1 8), i_M 4 33 8, i_X 5 34 (.bslice [.nil, .nil] 2 1 [(0, (1, (.t 32))), (1, (1, (.t 33)))] 30), i_X 6 35 (.h (.build [(.d (.int .i64 0)), (.d (.int .i64 0)), (.d (.int .i64 0)), (.d (.int .i64 0)), .nil] [(1, (1, (.t 29))), (2, (1, (kI 1))), (4, (1, (.t 34)))])), i_S 7 6 35 5] [6]) .ret)))))
theorem A_r8_Start_comp : compF Tryz.prog 26 = some ⟨36, [(6, (some (5, true)))], A_r8_Start.strip⟩ := by kernel_rfl
def A_r1_Scale : CA := (.seq (.reg [i_X 0 4 (.h (.mov (.k (.d (.flt 0)))))] [0, 1]) (.seq (.reg [i_M 0 5 0, i_M 1 6 1, i_X 2 7 (.callA (kF 75) [(.t 5), (.t 6)]), i_M 3 4 7] [4]) .ret))
theorem A_r1_Scale_comp : compF Tryz.prog 121 = some ⟨8, [(4, none)], A_r1_Scale.strip⟩ := by kernel_rfl
theorem Rk_get {m n : Nat} {A : List (List Nat)} (hA : Rk m n A) {L : Heap} {X : Nat} (h : L.fam X = some (A.map rowV)) (r : Nat) (hr : r < m) : L.get X (r + 0) = some (rowV (A.getD r [])) ∧ (A.getD r []).length = n := by
  refine ⟨?_, hA.2 r hr⟩
  unfold Heap.get
  have : r < A.length := by rw [hA.1]; exact hr
  rw [h, Nat.add_zero]
  simp [List.getD_eq_getElem?_getD, this]
theorem Fz_rk {L L' : Heap} {H X m n : Nat} {A : List (List Nat)} (hA : Rk m n A) (h : L.get H 0 = some (hdo X 0 m n)) (hX : L.fam X = some (A.map rowV)) (h1 : L'.fam H = none) (h2 : L'.fam X = none) : Fz L L' (.sl H 0 0 m 1 m) (.d (rowsD A)) :=
  Fz_rows (o := 0) (len := n) h (fun r hr => Rk_get hA hX r hr) hA.1 rfl h1 h2
theorem Con_of_rows {P : Program} {f : FuncId} {vs : List V} {X Y m n : Nat} {A : List (List Nat)} (h : AC P f vs [] [(X, A.map rowV), (Y, [hdo X 0 m n])] (.sl Y 0 0 m 1 m)) (hA : Rk m n A) (hXY : X ≠ Y) : Con P f vs (.d (rowsD A)) :=
  Con_of_AC h (Fz_rk hA (by rw [get_cons, get_cons, if_neg (Ne.symm hXY), if_pos rfl]; rfl) (by rw [fam_cons, if_pos rfl]) (fam_nil _) (fam_nil _))
theorem Fz_rk_app {L L' : Heap} {H X R m n : Nat} {A : List (List Nat)} {xs : List Nat} (hA : Rk m n A) (h : L.get H 0 = some (hdo X 0 m n ++ [.sl R 0 0 n 1 n])) (hX : L.fam X = some (A.map rowV)) (hR : L.get R 0 = some (rowV xs)) (hxs : xs.length = n)
    (h1 : L'.fam H = none) (h2 : L'.fam X = none) (h3 : L'.fam R = none) : Fz L L' (.sl H 0 0 (m + 1) 1 (m + 1)) (.d (rowsD (A ++ [xs]))) := by
  have nf : ∀ X, L'.fam X = none → ∀ r, ∀ Y q, L'.get Y q ≠ none → (Y, q) ≠ (X, r) := fun X hX r Y q hY e => by cases e; exact hY (get_of_fam_none hX _)
  have hl : (A ++ [xs]).length = m + 1 := by simp [hA.1]
  have e : rowsD (A ++ [xs]) = .bor (m + 1) (rowsG (A ++ [xs])) := by unfold rowsD; rw [hl]
  rw [e]
  refine .d (.sl (fun _ Y q hY => nf H h1 0 Y q hY) h (by simp [hdo_length]) (by simp [hdo_length]) (fun i hi => rfl) fun i j hi hj => ?_)
  obtain rfl : j = 0 := by omega
  rw [show 0 + i * 1 + 0 = i by omega, List.getD_eq_getElem?_getD]
  by_cases hi2 : i < m
  · rw [List.getElem?_append_left (by rw [hdo_length]; exact hi2), ← List.getD_eq_getElem?_getD, hdo_getD _ _ _ _ _ hi2]
    have hg := Rk_get hA hX i hi2
    have e2 : (rowsG (A ++ [xs]) i).getD 0 default = rowD (A.getD i []) := by
      show rowD ((A ++ [xs]).getD i []) = _
      rw [List.getD_eq_getElem?_getD, List.getElem?_append_left (by rw [hA.1]; exact hi2), ← List.getD_eq_getElem?_getD]
    rw [e2]
    exact snap_row (fun Y q hY => nf X h2 _ Y q hY) hg.1 hg.2 rfl
  · obtain rfl : i = m := by omega
    rw [List.getElem?_append_right (by rw [hdo_length]; omega), hdo_length, Nat.sub_self]
    have e2 : (rowsG (A ++ [xs]) i).getD 0 default = rowD xs := by
      show rowD ((A ++ [xs]).getD i []) = _
      rw [List.getD_eq_getElem?_getD, List.getElem?_append_right (by rw [hA.1]; omega), hA.1, Nat.sub_self]
      rfl
    rw [e2]
    exact snap_row (fun Y q hY => nf R h3 0 Y q hY) hR hxs rfl
def A_r8_H : CA := (.seq (.reg [i_X 0 2 (.h (.mov (.k (.d (.flt 0)))))] [0]) (.seq (.reg [i_M 0 3 0, i_X 1 4 (.h (.i2f (.t 3))), i_X 2 5 (.h (.fbin .div (.t 4) (.k (.d (.flt 4742290407621132288))))), i_M 3 2 5] [2]) .ret))
theorem A_r8_H_comp : compF Tryz.prog 49 = some ⟨6, [(2, none)], A_r8_H.strip⟩ := by kernel_rfl
def A_r9_minus_L0 : CA := (.seq (.seq (.reg [i_M 0 7 6, i_M 1 8 0, i_X 2 9 (.h (.len (.t 8))), i_N 3 10 .lss 7 9] [0, 1, 5, 6, 10]) (.cond (.t 10) .skip (.exit 0))) (.seq (.block 1 (.reg [i_M 0 13 5, i_M 1 14 0, i_M 2 15 6, i_I 3 16 14 15 1, i_L 4 17 16 1, i_M 5 18 1, i_M 6 19 6, i_I 7 20 18 19 1, i_L 8 21 20 1, i_F 9 22 .sub 17 21, i_X 10 23 (.bslice [(.d (.flt 0))] 1 1 [(0, (1, (.t 22)))] 31), i_X 11 24 (.app (.t 13) (.t 23) 1 8), i_M 12 5 24] [0, 1, 5, 6])) (.reg [i_M 0 11 6, i_B 1 12 .add 11 1, i_M 2 6 12] [0, 1, 5, 6])))
def A_r9_minus : CA := (.seq (.reg [i_X 0 4 (.h (.mov (.k .nil)))] [0, 1]) (.seq (.reg [i_X 0 5 (.h (.mov (.k .nil)))] [0, 1, 5]) (.seq (.seq (.reg [i_K 0 6 0] [0, 1, 5, 6]) (.block 0 (.loop A_r9_minus_L0))) (.seq (.reg [i_M 0 25 5, i_M 1 4 25] [4]) .ret))))
theorem A_r9_minus_comp : compF Tryz.prog 67 = some ⟨26, [(4, none)], A_r9_minus.strip⟩ := by kernel_rfl
def A_r9_plus_L0 : CA := (.seq (.seq (.reg [i_M 0 7 6, i_M 1 8 0, i_X 2 9 (.h (.len (.t 8))), i_N 3 10 .lss 7 9] [0, 1, 5, 6, 10]) (.cond (.t 10) .skip (.exit 0))) (.seq (.block 1 (.reg [i_M 0 13 5, i_M 1 14 0, i_M 2 15 6, i_I 3 16 14 15 1, i_L 4 17 16 1, i_M 5 18 1, i_M 6 19 6, i_I 7 20 18 19 1, i_L 8 21 20 1, i_F 9 22 .add 17 21, i_X 10 23 (.bslice [(.d (.flt 0))] 1 1 [(0, (1, (.t 22)))] 31), i_X 11 24 (.app (.t 13) (.t 23) 1 8), i_M 12 5 24] [0, 1, 5, 6])) (.reg [i_M 0 11 6, i_B 1 12 .add 11 1, i_M 2 6 12] [0, 1, 5, 6])))
def A_r9_plus : CA := (.seq (.reg [i_X 0 4 (.h (.mov (.k .nil)))] [0, 1]) (.seq (.reg [i_X 0 5 (.h (.mov (.k .nil)))] [0, 1, 5]) (.seq (.seq (.reg [i_K 0 6 0] [0, 1, 5, 6]) (.block 0 (.loop A_r9_plus_L0))) (.seq (.reg [i_M 0 25 5, i_M 1 4 25] [4]) .ret))))
theorem A_r9_plus_comp : compF Tryz.prog 68 = some ⟨26, [(4, none)], A_r9_plus.strip⟩ := by kernel_rfl
def A_r9_left_L0 : CA := (.seq (.seq (.reg [i_M 0 18 13, i_M 1 19 4, i_X 2 20 (.h (.len (.t 19))), i_N 3 21 .lss 18 20] [1, 2, 3, 4, 5, 11, 12, 13, 21]) (.cond (.t 21) .skip (.exit 0))) (.seq (.block 1 (.seq (.reg [i_M 0 24 2, i_M 1 25 4, i_M 2 26 13, i_I 3 27 25 26 1, i_L 4 28 27 1, i_F 5 29 .mul 24 28, i_M 6 14 29] [1, 2, 3, 4, 5, 11, 12, 13, 14]) (.reg [i_M 0 30 11, i_M 1 31 1, i_X 2 32 (.h (.idx (.t 31) (kI 0) 1)), i_L 3 33 32 1, i_M 4 34 13, i_I 5 35 33 34 1, i_L 6 36 35 1, i_M 7 37 14, i_F 8 38 .add 36 37, i_X 9 39 (.bslice [(.d (.flt 0))] 1 1 [(0, (1, (.t 38)))] 31), i_X 10 40 (.app (.t 30) (.t 39) 1 8), i_M 11 11 40] [1, 2, 3, 4, 5, 11, 12, 13]))) (.reg [i_M 0 22 13, i_B 1 23 .add 22 1, i_M 2 13 23] [1, 2, 3, 4, 5, 11, 12, 13])))
def A_r9_left_L1 : CA := (.seq (.seq (.reg [i_M 0 44 16, i_M 1 45 4, i_X 2 46 (.h (.len (.t 45))), i_N 3 47 .lss 44 46] [1, 3, 4, 12, 15, 16, 47]) (.cond (.t 47) .skip (.exit 2))) (.seq (.block 3 (.seq (.reg [i_M 0 50 3, i_M 1 51 15, i_M 2 52 16, i_I 3 53 51 52 1, i_L 4 54 53 1, i_F 5 55 .mul 50 54, i_M 6 17 55] [1, 3, 4, 12, 15, 16, 17]) (.reg [i_M 0 56 12, i_M 1 57 17, i_M 2 58 1, i_X 3 59 (.h (.idx (.t 58) (kI 1) 1)), i_L 4 60 59 1, i_M 5 61 16, i_I 6 62 60 61 1, i_L 7 63 62 1, i_F 8 64 .sub 57 63, i_X 9 65 (.bslice [(.d (.flt 0))] 1 1 [(0, (1, (.t 64)))] 31), i_X 10 66 (.app (.t 56) (.t 65) 1 8), i_M 11 12 66] [1, 3, 4, 12, 15, 16]))) (.reg [i_M 0 48 16, i_B 1 49 .add 48 1, i_M 2 16 49] [1, 3, 4, 12, 15, 16])))
def A_r9_left : CA := (.seq (.reg [i_X 0 5 (.box (.t 0) 3 28), i_X 1 10 (.h (.mov (.k .nil)))] [1, 2, 3, 4, 5]) (.seq (.reg [i_X 0 11 (.h (.mov (.k .nil))), i_X 1 12 (.h (.mov (.k .nil)))] [1, 2, 3, 4, 5, 11, 12]) (.seq (.seq (.reg [i_K 0 13 0] [1, 2, 3, 4, 5, 11, 12, 13]) (.block 0 (.loop A_r9_left_L0))) (.seq (.reg [i_A 0 41 5 3, i_M 1 42 11, i_X 2 43 (.callA (kF 60) [(.t 41), (.t 42)]), i_M 3 15 43] [1, 3, 4, 12, 15]) (.seq (.seq (.reg [i_K 0 16 0] [1, 3, 4, 12, 15, 16]) (.block 2 (.loop A_r9_left_L1))) (.seq (.reg [i_M 0 67 12, i_M 1 10 67] [10]) .ret))))))
theorem A_r9_left_comp : compF Tryz.prog 65 = some ⟨68, [(10, none)], A_r9_left.strip⟩ := by kernel_rfl
theorem r8_H_con (step : Int) : Con Tryz.prog 49 [fI step] (fl (fop .div (FloatKind.nearest .f64 step) 4742290407621132288)) := by
  refine Con_introA A_r8_H_comp rfl mixed ?_
  refine evx @A_r8_H.eq_1 ?_
  exact endsT_rett rfl (by decide) (by simp [look])
theorem r3_one_con (k : Int) (x y : Nat) (hk : k = 2 ∨ k = 3 ∨ k = 4 ∨ k = 5) : Con Tryz.prog 115 [fI k, fl x, fl y] (fl (if k = 2 then fop .add x y else if k = 3 then fop .sub x y else if k = 4 then fop .mul x y else fop .div x y)) := by
  refine Con_introA A_r3_one_comp rfl mixed ?_
  refine evx @A_r3_one.eq_1 ?_
  rcases hk with rfl | rfl | rfl | rfl
  · refine evb ?_
    exact endsT_rett rfl (by decide) (by simp [look])
  · refine evb ?_
    exact endsT_rett rfl (by decide) (by simp [look])
  · refine evb ?_
    exact endsT_rett rfl (by decide) (by simp [look])
  · refine evb ?_
    exact endsT_rett rfl (by decide) (by simp [look])
def padR (t : Tp) (x : List Nat) (i : Nat) : List Nat := regs t x i ++ List.replicate (t.ops.length - i) 0
theorem padR_len (t : Tp) (x : List Nat) (i : Nat) (hi : i ≤ t.ops.length) : (padR t x i).length = t.ops.length := by simp [padR, regs_len]; omega
theorem padR_set (t : Tp) (x : List Nat) (i : Nat) (hi : i < t.ops.length) : (padR t x i).set i (opV (t.ops.getD i ⟨0, 0, 0, 0⟩) x (regs t x i)) = padR t x (i + 1) := by
  have hl := regs_len t x i
  unfold padR
  rw [List.set_append_right _ _ (by omega), hl, Nat.sub_self]
  obtain ⟨m, hm⟩ : ∃ m, t.ops.length - i = m + 1 := ⟨t.ops.length - i - 1, by omega⟩
  rw [hm, show t.ops.length - (i + 1) = m from by omega, List.replicate_succ, List.set_cons_zero]
  simp [regs]
theorem padR_at (t : Tp) (x : List Nat) (i j : Nat) (hj : j < i) : (padR t x i).getD j 0 = (regs t x i).getD j 0 := by
  have hl := regs_len t x i
  unfold padR
  rw [List.getD_eq_getElem?_getD, List.getD_eq_getElem?_getD, List.getElem?_append_left (by omega)]
set_option maxRecDepth 8000 in
theorem r3_Eval_ac (t : Tp) (x : List Nat) (ht : Tok t) (hx : x.length = t.n) : AC Tryz.prog 60 [tapeV t, .d (rowD x)] [] [(0, [rowV (evalT t x)])] (.sl 0 0 0 t.n 1 t.n) := by
  refine AC_row0 (X := 100) ?_
  refine AC_introA A_r3_Eval_comp rfl mixed (fun _ => False) (by simp [get_nil]) ?_
  have hlen := ht.len
  refine evx (And.intro @A_r3_Eval.eq_1 @opsD.eq_1) ?_
  (repeat (with_reducible refine And.intro (by omega) ?_))
  have hp0 : List.replicate t.ops.length 0 = padR t x 0 := by simp [padR, regs]
  rw [hp0]
  refine WA_forW (n := t.ops.length) (fun c s => ∃ i, c + i = t.ops.length ∧ s = ⟨[(1, .d (rowD x)), (2, .ptr 0 0 0 3), (5, .sl 4 0 0 t.ops.length 1 t.ops.length), (6, fI i)],
      [(4, [rowV (padR t x i)]), (0, [[fI t.n, .d (opsD t.ops), .d (rowI t.out)]])]⟩) (Le.refl _) ⟨0, by omega, rfl⟩ ?_
  rintro c s ⟨i, hc, rfl⟩
  have hl := padR_len t x i (by omega)
  refine evx (And.intro @A_r3_Eval_L0.eq_1 @opsD.eq_1) ?_
  refine condC_intro (fun h => ?_) (fun h => ?_)
  · replace h := of_decide_eq_true h
    have hop := ht.op i h
    have hset := padR_set t x i h
    generalize ho : t.ops.getD i ⟨0, 0, 0, 0⟩ = o at hop hset
    refine evx (And.intro @opG.eq_1 ho) ?_
    (repeat (with_reducible refine And.intro (by omega) ?_))
    rcases hop with hk | ⟨hk, ha⟩ | ⟨hk, ha, hb⟩
    · have hvv : opV o x (regs t x i) = o.c := by simp [opV, hk]
      rw [hvv] at hset
      refine evbx hk ?_
      (repeat (with_reducible refine And.intro (by omega) ?_))
      rw [wrapI (by omega) (by omega), hset]
      rw [show List.map fl (padR t x (i + 1)) = rowV (padR t x (i + 1)) from rfl]
      exact ⟨c - 1, _, by omega, LeT.only (fun X => decide (X ≤ 4)) (fun _ h => h) rfl (by simp [kpS]) (by simp [kpS]), i + 1, by omega, rfl⟩
    · have hvv : opV o x (regs t x i) = x.getD o.a.toNat 0 := by simp [opV, hk]
      rw [hvv] at hset
      refine evbx hk ?_
      (repeat (with_reducible refine And.intro (by omega) ?_))
      rw [wrapI (by omega) (by omega), hset]
      rw [show List.map fl (padR t x (i + 1)) = rowV (padR t x (i + 1)) from rfl]
      exact ⟨c - 1, _, by omega, LeT.only (fun X => decide (X ≤ 4)) (fun _ h => h) rfl (by simp [kpS]) (by simp [kpS]), i + 1, by omega, rfl⟩
    · have k0 : (o.k == 0) = false := by simp; omega
      have k1 : (o.k == 1) = false := by simp; omega
      have ga : (rowV (padR t x i)).getD o.a.toNat .any = fl ((regs t x i).getD o.a.toNat 0) := by
        rw [← padR_at t x i _ (by omega)]; exact getD_map_fl _ _ (by omega)
      have gb : (rowV (padR t x i)).getD o.b.toNat .any = fl ((regs t x i).getD o.b.toNat 0) := by
        rw [← padR_at t x i _ (by omega)]; exact getD_map_fl _ _ (by omega)
      have hvv : opV o x (regs t x i) = (if o.k = 2 then fop .add ((regs t x i).getD o.a.toNat 0) ((regs t x i).getD o.b.toNat 0) else if o.k = 3 then fop .sub ((regs t x i).getD o.a.toNat 0) ((regs t x i).getD o.b.toNat 0) else if o.k = 4 then fop .mul ((regs t x i).getD o.a.toNat 0) ((regs t x i).getD o.b.toNat 0) else fop .div ((regs t x i).getD o.a.toNat 0) ((regs t x i).getD o.b.toNat 0)) := by
        unfold opV; rw [if_neg (by omega), if_neg (by omega)]
      have hone := r3_one_con o.k ((regs t x i).getD o.a.toNat 0) ((regs t x i).getD o.b.toNat 0) hk
      rw [← hvv] at hone
      refine evx (And.intro k0 (And.intro k1 (And.intro ga gb))) ?_
      (repeat (with_reducible refine And.intro (by omega) ?_))
      refine callG_con (hone) rfl ?_
      refine ev ?_
      (repeat (with_reducible refine And.intro (by omega) ?_))
      rw [wrapI (by omega) (by omega), hset]
      rw [show List.map fl (padR t x (i + 1)) = rowV (padR t x (i + 1)) from rfl]
      exact ⟨c - 1, _, by omega, LeT.only (fun X => decide (X ≤ 4)) (fun _ h => h) rfl (by simp [kpS]) (by simp [kpS]), i + 1, by omega, rfl⟩
  · replace h := of_decide_eq_false h
    have e : i = t.ops.length := by omega
    subst e
    have hfull : padR t x t.ops.length = regs t x t.ops.length := by simp [padR]
    rw [hfull] at hl ⊢
    have hn := ht.n
    refine ev ?_
    refine WA_forW (n := t.n) (fun c s => ∃ i, c + i = t.n ∧ s = ⟨[(2, .ptr 0 0 0 3), (5, .sl 4 0 0 t.ops.length 1 t.ops.length), (8, .sl 100 0 0 i 1 i), (9, fI i)],
      [(100, [rowV (tabR (fun i => (regs t x t.ops.length).getD (t.out.getD i 0).toNat 0) i)]), (4, [rowV (regs t x t.ops.length)]), (0, [[fI t.n, .d (opsD t.ops), .d (rowI t.out)]])]⟩)
      (s0 := ⟨_, _⟩) (LeT.nilrow (X := 100) (esz := 1) (as' := [(2, .ptr 0 0 0 3), (5, .sl 4 0 0 t.ops.length 1 t.ops.length), (8, .sl 100 0 0 0 1 0), (9, fI 0)]) (by simp [fam_cons, fam_nil]) (fun h => h) fun i => ?_) ⟨0, by omega, rfl⟩ ?_
    · simp only [look]
      repeat' split
      all_goals simp
    rintro c s ⟨i, hc, rfl⟩
    have hl2 := tabR_len (fun i => (regs t x t.ops.length).getD (t.out.getD i 0).toNat 0) i
    refine evx @A_r3_Eval_L1.eq_1 ?_
    refine condC_intro (fun h2 => ?_) (fun h2 => ?_)
    · replace h2 := of_decide_eq_true h2
      have ho := ht.out i h2
      have hol := ht.outl
      have ga : (rowV (regs t x t.ops.length)).getD (t.out.getD i 0).toNat .any = fl ((regs t x t.ops.length).getD (t.out.getD i 0).toNat 0) := getD_map_fl _ _ (by omega)
      refine evx ga ?_
      (repeat (with_reducible refine And.intro (by omega) ?_))
      have e2 : rowV (tabR (fun i => (regs t x t.ops.length).getD (t.out.getD i 0).toNat 0) i) ++ [fl ((regs t x t.ops.length).getD (t.out.getD i 0).toNat 0)] = rowV (tabR (fun i => (regs t x t.ops.length).getD (t.out.getD i 0).toNat 0) (i + 1)) := (tabR_succ _ _).symm
      rw [wrapI (by omega) (by omega), e2]
      exact ⟨c - 1, _, by omega, LeT.only (fun X => decide (X ≤ 100)) (fun _ h => h) rfl (by simp [kpS]) (by simp [kpS]), i + 1, by omega, rfl⟩
    · replace h2 := of_decide_eq_false h2
      have e : i = t.n := by omega
      subst e
      refine ev ?_
      exact endsT_only (fun X => X == 100) (fun _ h => h) (resV_tmpI (t := 4) (by decide) rfl) rfl (by simp [kpS]) (by simp [kpS])
theorem r9_minus_ac (a b : List Nat) (n : Nat) (ha : a.length = n) (hb : b.length = n) (hn : n < 2 ^ 40) : AC Tryz.prog 67 [.d (rowD a), .d (rowD b)] [] [(0, [rowV (tabR (fun i => fop .sub (a.getD i 0) (b.getD i 0)) n)])] (.sl 0 0 0 n 1 n) := by
  refine AC_row0 (X := 100) ?_
  refine AC_introA A_r9_minus_comp rfl mixed (fun _ => False) (by simp [get_nil]) ?_
  refine evx @A_r9_minus.eq_1 ?_
  refine WA_forW (n := n) (fun c s => ∃ i, c + i = n ∧ s = ⟨[(0, .d (rowD a)), (1, .d (rowD b)), (5, .sl 100 0 0 i 1 i), (6, fI i)], [(100, [rowV (tabR (fun i => fop .sub (a.getD i 0) (b.getD i 0)) i)])]⟩)
    (s0 := ⟨_, _⟩) (LeT.nilrow (X := 100) (esz := 1) (as' := [(0, .d (rowD a)), (1, .d (rowD b)), (5, .sl 100 0 0 0 1 0), (6, fI 0)]) (by simp [fam_nil]) (fun h => h) fun i => ?_) ⟨0, by omega, rfl⟩ ?_
  · simp only [look]
    repeat' split
    all_goals simp [rowD]
  rintro c s ⟨i, hc, rfl⟩
  have hl := tabR_len (fun i => fop .sub (a.getD i 0) (b.getD i 0)) i
  refine evx @A_r9_minus_L0.eq_1 ?_
  refine condC_intro (fun h => ?_) (fun h => ?_)
  · replace h := of_decide_eq_true h
    refine ev ?_
    (repeat (with_reducible refine And.intro (by omega) ?_))
    have e2 : rowV (tabR (fun i => fop .sub (a.getD i 0) (b.getD i 0)) i) ++ [fl (fop .sub (a.getD i 0) (b.getD i 0))] = rowV (tabR (fun i => fop .sub (a.getD i 0) (b.getD i 0)) (i + 1)) := (tabR_succ _ _).symm
    rw [wrapI (by omega) (by omega), e2]
    exact ⟨c - 1, _, by omega, LeT.only (fun X => decide (X ≤ 100)) (fun _ h => h) rfl (by simp [kpS]) (by simp [kpS]), i + 1, by omega, rfl⟩
  · replace h := of_decide_eq_false h
    have e : i = n := by omega
    subst e
    refine ev ?_
    exact endsT_only (fun X => X == 100) (fun _ h => h) (resV_tmpI (t := 4) (by decide) rfl) rfl (by simp [kpS]) (by simp [kpS])
theorem r9_plus_ac (a b : List Nat) (n : Nat) (ha : a.length = n) (hb : b.length = n) (hn : n < 2 ^ 40) : AC Tryz.prog 68 [.d (rowD a), .d (rowD b)] [] [(0, [rowV (tabR (fun i => fop .add (a.getD i 0) (b.getD i 0)) n)])] (.sl 0 0 0 n 1 n) := by
  refine AC_row0 (X := 100) ?_
  refine AC_introA A_r9_plus_comp rfl mixed (fun _ => False) (by simp [get_nil]) ?_
  refine evx @A_r9_plus.eq_1 ?_
  refine WA_forW (n := n) (fun c s => ∃ i, c + i = n ∧ s = ⟨[(0, .d (rowD a)), (1, .d (rowD b)), (5, .sl 100 0 0 i 1 i), (6, fI i)], [(100, [rowV (tabR (fun i => fop .add (a.getD i 0) (b.getD i 0)) i)])]⟩)
    (s0 := ⟨_, _⟩) (LeT.nilrow (X := 100) (esz := 1) (as' := [(0, .d (rowD a)), (1, .d (rowD b)), (5, .sl 100 0 0 0 1 0), (6, fI 0)]) (by simp [fam_nil]) (fun h => h) fun i => ?_) ⟨0, by omega, rfl⟩ ?_
  · simp only [look]
    repeat' split
    all_goals simp [rowD]
  rintro c s ⟨i, hc, rfl⟩
  have hl := tabR_len (fun i => fop .add (a.getD i 0) (b.getD i 0)) i
  refine evx @A_r9_plus_L0.eq_1 ?_
  refine condC_intro (fun h => ?_) (fun h => ?_)
  · replace h := of_decide_eq_true h
    refine ev ?_
    (repeat (with_reducible refine And.intro (by omega) ?_))
    have e2 : rowV (tabR (fun i => fop .add (a.getD i 0) (b.getD i 0)) i) ++ [fl (fop .add (a.getD i 0) (b.getD i 0))] = rowV (tabR (fun i => fop .add (a.getD i 0) (b.getD i 0)) (i + 1)) := (tabR_succ _ _).symm
    rw [wrapI (by omega) (by omega), e2]
    exact ⟨c - 1, _, by omega, LeT.only (fun X => decide (X ≤ 100)) (fun _ h => h) rfl (by simp [kpS]) (by simp [kpS]), i + 1, by omega, rfl⟩
  · replace h := of_decide_eq_false h
    have e : i = n := by omega
    subst e
    refine ev ?_
    exact endsT_only (fun X => X == 100) (fun _ h => h) (resV_tmpI (t := 4) (by decide) rfl) rfl (by simp [kpS]) (by simp [kpS])
set_option maxRecDepth 8000 in
theorem r9_left_ac (t : Tp) (z : List (List Nat)) (l : List Nat) (h : Nat) (w d : List Nat) (ok : Sok t z l w d) : AC Tryz.prog 65 [tapeV t, .d (rowsD z), fl (l.getD 0 0), fl h, .d (rowD d)] [] [(0, [rowV (gS t z l h d)])] (.sl 0 0 0 t.n 1 t.n) := by
  obtain ⟨ht, hz, hzl, hl, hw, hd⟩ := ok
  have hn := ht.n
  have hz0 := hzl 0 (by omega)
  have hz1 := hzl 1 (by omega)
  refine AC_row0 (X := 200) ?_
  refine AC_introA A_r9_left_comp rfl mixed (fun _ => False) (by simp [get_nil]) ?_
  refine evx @A_r9_left.eq_1 ?_
  generalize hfy : (fun i => fop .add ((z.getD 0 []).getD i 0) (fop .mul (l.getD 0 0) (d.getD i 0))) = fy
  have fy' : ∀ i, fy i = fop .add ((z.getD 0 []).getD i 0) (fop .mul (l.getD 0 0) (d.getD i 0)) := fun i => by rw [← hfy]
  have hy : yS z l d t.n = tabR fy t.n := by unfold yS; rw [hfy]
  refine WA_forW (n := t.n) (fun c s => ∃ i, c + i = t.n ∧ s = ⟨[(1, .d (rowsD z)), (2, fl (l.getD 0 0)), (3, fl h), (4, .d (rowD d)), (5, .ptr 0 0 0 3), (11, .sl 101 0 0 i 1 i), (12, .nil), (13, fI i)], [(101, [rowV (tabR fy i)]), (0, [[fI t.n, .d (opsD t.ops), .d (rowI t.out)]])]⟩)
    (s0 := ⟨_, _⟩) (LeT.nilrow (X := 101) (esz := 1) (as' := [(1, .d (rowsD z)), (2, fl (l.getD 0 0)), (3, fl h), (4, .d (rowD d)), (5, .ptr 0 0 0 3), (11, .sl 101 0 0 0 1 0), (12, .nil), (13, fI 0)]) (by simp [fam_cons, fam_nil]) (fun h => h) fun i => ?_) ⟨0, by omega, rfl⟩ ?_
  · simp only [look]
    repeat' split
    all_goals simp [rowD, rowsD]
  rintro c s ⟨i, hc, rfl⟩
  have hl1 := tabR_len fy i
  refine evx @A_r9_left_L0.eq_1 ?_
  refine condC_intro (fun h1 => ?_) (fun h1 => ?_)
  · replace h1 := of_decide_eq_true h1
    refine ev ?_
    (repeat (with_reducible refine And.intro (by omega) ?_))
    have e2 : rowV (tabR fy i) ++ [fl (fop .add ((z.getD 0 []).getD i 0) (fop .mul (l.getD 0 0) (d.getD i 0)))] = rowV (tabR fy (i + 1)) := by rw [← fy']; exact (tabR_succ _ _).symm
    rw [wrapI (by omega) (by omega), e2]
    exact ⟨c - 1, _, by omega, LeT.only (fun X => decide (X ≤ 101)) (fun _ h => h) rfl (by simp [kpS]) (by simp [kpS]), i + 1, by omega, rfl⟩
  · replace h1 := of_decide_eq_false h1
    have e : i = t.n := by omega
    subst e
    refine ev ?_
    refine callG_row 110 [tapeV t, .d (rowD (tabR fy t.n))] (by simp [Heap.next]) (r3_Eval_ac t (tabR fy t.n) ht hl1) ⟨.aggs ⟨.bare _, .bare _, .bare _, trivial⟩, snp_row rfl hl1 rfl, trivial⟩ ?_
    have hfl := evalT_len t (tabR fy t.n)
    generalize hf : evalT t (tabR fy t.n) = f at hfl
    generalize hfg : (fun i => fop .sub (fop .mul h (f.getD i 0)) ((z.getD 1 []).getD i 0)) = fg
    have fg' : ∀ i, fg i = fop .sub (fop .mul h (f.getD i 0)) ((z.getD 1 []).getD i 0) := fun i => by rw [← hfg]
    have hg : gS t z l h d = tabR fg t.n := by unfold gS; rw [hy, hf, hfg]
    rw [hg]
    refine ev ?_
    refine WA_forW (n := t.n) (fun c s => ∃ i, c + i = t.n ∧ s = ⟨[(1, .d (rowsD z)), (3, fl h), (4, .d (rowD d)), (12, .sl 200 0 0 i 1 i), (15, .sl 110 0 0 t.n 1 t.n), (16, fI i)], [(200, [rowV (tabR fg i)]), (110, [rowV f]), (101, [rowV (tabR fy t.n)]), (0, [[fI t.n, .d (opsD t.ops), .d (rowI t.out)]])]⟩)
      (s0 := ⟨_, _⟩) (LeT.nilrow (X := 200) (esz := 1) (as' := [(1, .d (rowsD z)), (3, fl h), (4, .d (rowD d)), (12, .sl 200 0 0 0 1 0), (15, .sl 110 0 0 t.n 1 t.n), (16, fI 0)]) (by simp [fam_cons, fam_nil]) (fun h => h) fun i => ?_) ⟨0, by omega, rfl⟩ ?_
    · simp only [look]
      repeat' split
      all_goals simp [rowD, rowsD]
    rintro c s ⟨i, hc, rfl⟩
    have hl2 := tabR_len fg i
    refine evx @A_r9_left_L1.eq_1 ?_
    refine condC_intro (fun h2 => ?_) (fun h2 => ?_)
    · replace h2 := of_decide_eq_true h2
      have ga : (rowV f).getD i .any = fl (f.getD i 0) := getD_map_fl _ _ (by omega)
      refine evx ga ?_
      (repeat (with_reducible refine And.intro (by omega) ?_))
      have e2 : rowV (tabR fg i) ++ [fl (fop .sub (fop .mul h (f.getD i 0)) ((z.getD 1 []).getD i 0))] = rowV (tabR fg (i + 1)) := by rw [← fg']; exact (tabR_succ _ _).symm
      rw [wrapI (by omega) (by omega), e2]
      exact ⟨c - 1, _, by omega, LeT.only (fun X => decide (X ≤ 110) || X == 200) (fun _ h => h) rfl (by simp [kpS]) (by simp [kpS]), i + 1, by omega, rfl⟩
    · replace h2 := of_decide_eq_false h2
      have e : i = t.n := by omega
      subst e
      refine ev ?_
      exact endsT_only (fun X => X == 200) (fun _ h => h) (resV_tmpI (t := 10) (by decide) rfl) rfl (by simp [kpS]) (by simp [kpS])
end Go.Ab
namespace Go.Ab
set_option linter.unusedSimpArgs false
set_option linter.unusedVariables false
open Nat renaming reduceEqDiff → n1_, reduceAdd → n2_, reduceMul → n3_, reduceLT → n4_, reduceLeDiff → n5_
open Int renaming reduceToNat → i1_, reduceAdd → i2_, reduceSub → i3_, reduceMul → i4_, reduceNeg → i5_, reduceLT → i6_, reduceLE → i7_
open Go Go.Proofs
set_option maxRecDepth 8000 in
theorem r8_copied_ac (A : List (List Nat)) (m n : Nat) (hA : Rk m n A) (hm : m < 2 ^ 30) (hn : n < 2 ^ 40) :
    AC Tryz.prog 61 [.d (rowsD A)] [] [(200, A.map rowV), (100, [hdo 200 0 m n])] (.sl 100 0 0 m 1 m) := by
  obtain ⟨hl, hr⟩ := hA
  refine AC_introA A_r8_copied_comp rfl mixed (fun _ => False) (by simp [get_nil]) ?_
  refine evx @A_r8_copied.eq_1 ?_
  refine WA_forW (n := m) (fun c s => ∃ i, c + i = m ∧ s = ⟨[(0, .d (rowsD A)), (3, .sl 100 0 0 i 1 i), (4, fI i)], [(200, (A.take i).map rowV), (100, [hdo 200 0 i n])]⟩)
    (s0 := ⟨_, _⟩) (Le.trans (LeT.nilrow (X := 100) (esz := 1) (as' := [(0, .d (rowsD A)), (3, .sl 100 0 0 0 1 0), (4, fI 0)]) rfl (fun h => h) fun i => ?_) (LeT.empty (X := 200) (L1 := []) (by simp [fam_cons, fam_nil]))) ⟨0, by omega, rfl⟩ ?_
  · simp only [look]
    repeat' split
    all_goals simp [rowsD]
  rintro c s ⟨i, hc, rfl⟩
  refine evx @A_r8_copied_L0.eq_1 ?_
  refine condC_intro (fun h => ?_) (fun h => ?_)
  · replace h := of_decide_eq_true h
    have hin : i < m := by omega
    have g1 := hr i hin
    refine evx (And.intro @Nat.zero_mul @Nat.zero_le) ?_
    (repeat (with_reducible refine And.intro (by omega) ?_))
    rw [wrapI (by omega) (by omega), g1]
    have hk1 : ∀ L : Heap, L.fam 200 = some ((A.take i).map rowV) → KpA L (hdo 200 0 i n) := fun L hL => KpA_hdoF hL (by simp; omega)
    have htk := take_fam A i h
    refine ⟨c - 1, _, by omega, ?_, i + 1, by omega, rfl⟩
    rw [← htk]
    generalize hB : A.take i = B at hk1
    have e2 : (B.map rowV).length = i := by rw [← hB]; simp; omega
    generalize hxs : A.getD i [] = xs
    refine Le.trans (LeT.only (L' := [(202, [rowV xs]), (200, B.map rowV), (100, [hdo 200 0 i n ++ [.sl 202 0 0 n 1 n]])]) (fun X => X != 208) (fun _ h => h) rfl (by simp (maxDischargeDepth := 6) [kpS, fam_cons, fam_nil]) (by simp (maxDischargeDepth := 6) [kpS, fam_cons, fam_nil, hk1])) ?_
    have := LeT.absorb (N := fun _ => False) (nt := 21) (Y := 202) (X := 200) (cells := rowV xs) (fam := B.map rowV) (L := [(100, [hdo 200 0 i n ++ [.sl 202 0 0 n 1 n]])])
      (sls := [(0, .d (rowsD A)), (3, .sl 100 0 0 (i + 1) 1 (i + 1)), (4, fI ((i : Int) + 1))]) (by decide) (by simp [fam_cons, fam_nil]) (by simp [fam_cons, fam_nil]) (fun h => h)
    have e3 : Heap.renH (absF 202 200 i) [(100, [hdo 200 0 i n ++ [.sl 202 0 0 n 1 n]])] = [(100, [hdo 200 0 (i + 1) n])] := by
      simp only [Heap.renH, List.map_cons, List.map_nil, hdo_absorbL 202 200 _ _ (by decide)]
    rw [e2, ren_fam, ren_rowV, e3] at this
    exact this
  · replace h := of_decide_eq_false h
    refine ev ?_
    obtain rfl : m = i := by omega
    have e : A.take m = A := List.take_of_length_le (by omega)
    rw [e]
    have hk1 : ∀ L : Heap, L.fam 200 = some (A.map rowV) → KpA L (hdo 200 0 m n) := fun L hL => KpA_hdoF hL (by omega)
    exact endsT_only (fun X => decide (X ≤ 200)) (fun _ h => h) (resV_tmpI (t := 2) (by decide) rfl) rfl (by simp (maxDischargeDepth := 6) [kpS, fam_cons, fam_nil]) (by simp (maxDischargeDepth := 6) [kpS, fam_cons, fam_nil, hk1])
theorem r1_Scale_con (x : Nat) (k : Int) (hk : -1000000 < k ∧ k < 1000000) : Con Tryz.prog 121 [fl x, fI k] (fl (scl x k)) := by
  refine Con_introA A_r1_Scale_comp rfl mixed ?_
  refine evx @A_r1_Scale.eq_1 ?_
  refine callG_con (math_Ldexp_all x k hk) rfl ?_
  refine ev ?_
  exact endsT_rett rfl (by decide) (by simp [look])
set_option maxRecDepth 8000 in
theorem r8_Correct_con (A : List (List Nat)) (m n : Nat) (hA : Rk m n A) (hm : m < 1000) (hn : n < 2 ^ 40) (l d : List Nat) (hl : l.length = m) (hd : d.length = n) :
    Con Tryz.prog 72 [.d (rowsD A), .d (rowD l), .d (rowD d)] (.d (rowsD (corrP A l d m n))) := by
  refine Con_introA A_r8_Correct_comp rfl mixed ?_
  refine evx @A_r8_Correct.eq_1 ?_
  refine callG_rows 0 [.d (rowsD A)] (by simp [Heap.next]) (r8_copied_ac A m n hA (by omega) hn) ⟨.bare _, trivial⟩ ?_
  refine ev ?_
  unfold corrP
  generalize hg : (fun k i x => fop .add x (fop .mul (l.getD k 0) (d.getD i 0))) = g
  have hg' : ∀ k i x, fop .add x (fop .mul (l.getD k 0) (d.getD i 0)) = g k i x := fun k i x => by rw [← hg]
  refine WA_for (n := m) (fun c s => ∃ j, c + j = m ∧ s = ⟨[(1, .d (rowD l)), (2, .d (rowD d)), (7, .sl 100 0 0 m 1 m), (8, fI j)], [(200, (mapJ g A n j).map rowV), (100, [hdo 200 0 m n])]⟩) ⟨0, by omega, rfl⟩ ?_
  rintro c s ⟨j, hc, rfl⟩
  have hZ := mapJ_rk g hA n j
  refine evx @A_r8_Correct_L0.eq_1 ?_
  refine condC_intro (fun hj => ?_) (fun hj => ?_)
  · replace hj := of_decide_eq_true hj
    refine ev ?_
    refine WA_for (n := n) (fun c s => ∃ i, c + i = n ∧ s = ⟨[(1, .d (rowD l)), (2, .d (rowD d)), (7, .sl 100 0 0 m 1 m), (8, fI j), (9, fI i)], [(200, (mapI g (mapJ g A n j) j i).map rowV), (100, [hdo 200 0 m n])]⟩) ⟨0, by omega, rfl⟩ ?_
    rintro c' s ⟨i, hc', rfl⟩
    have hZ2 := mapI_rk g hZ j i
    have hnx : mapI g (mapJ g A n j) j (i + 1) = up2 (mapI g (mapJ g A n j) j i) j i (g j i (at2 (mapI g (mapJ g A n j) j i) j i)) := rfl
    generalize hZe : mapI g (mapJ g A n j) j i = Z at hZ2 hnx
    have hzl := hZ2.1
    have hzj := hZ2.2 j hj
    refine evx @A_r8_Correct_L1.eq_1 ?_
    refine condC_intro (fun hi => ?_) (fun hi => ?_)
    · replace hi := of_decide_eq_true hi
      have gk := getD_map_fl (Z.getD j []) i (by omega)
      simp -implicitDefEqProofs only [evI, hv, effC, reduceCtorEq, ↓reduceIte, n1_, n2_, n3_, n4_, n5_, i1_, i2_, i3_, i4_, i5_, i6_, i7_, hdo_getD 200 0 m n j hj, getE Z j (by omega), gk, setE, hg']
      (repeat (with_reducible refine And.intro (by omega) ?_))
      rw [wrapI (by omega) (by omega)]
      refine ⟨c' - 1, by omega, i + 1, by omega, ?_⟩
      rw [hnx]
      rfl
    · replace hi := of_decide_eq_false hi
      have e : i = n := by omega
      subst e
      refine ev ?_
      rw [wrapI (by omega) (by omega), ← hZe]
      exact ⟨c - 1, by omega, j + 1, by omega, rfl⟩
  · replace hj := of_decide_eq_false hj
    have e : j = m := by omega
    subst e
    refine ev ?_
    exact endsT_le (.sl 100 0 0 j 1 j) (fun _ h => h) (resV_tmpI (t := 6) (by decide) rfl) (Fz_rk (X := 200) hZ rfl rfl rfl rfl)
set_option maxRecDepth 8000 in
theorem r8_Rescale_ac (A : List (List Nat)) (m n : Nat) (hA : Rk m n A) (hm : m < 1000) (hn : n < 2 ^ 40) (k : Int) (hk : -10 ≤ k ∧ k ≤ 10) :
    AC Tryz.prog 69 [.d (rowsD A), fI k] [] [(200, (scaleP A k m n).map rowV), (100, [hdo 200 0 m n])] (.sl 100 0 0 m 1 m) := by
  refine AC_introA A_r8_Rescale_comp rfl mixed (fun _ => False) (by simp [get_nil]) ?_
  refine evx @A_r8_Rescale.eq_1 ?_
  refine callG_rows 0 [.d (rowsD A)] (by simp [Heap.next]) (r8_copied_ac A m n hA (by omega) hn) ⟨.bare _, trivial⟩ ?_
  refine ev ?_
  unfold scaleP
  generalize hg : (fun (j : Nat) (_ : Nat) x => scl x ((j : Int) * k)) = g
  have hg' : ∀ (j i : Nat) x, scl x ((j : Int) * k) = g j i x := fun j i x => by rw [← hg]
  refine WA_for (n := m) (fun c s => ∃ j, c + j = m ∧ s = ⟨[(1, fI k), (5, .sl 100 0 0 m 1 m), (6, fI j)], [(200, (mapJ g A n j).map rowV), (100, [hdo 200 0 m n])]⟩) ⟨0, by omega, rfl⟩ ?_
  rintro c s ⟨j, hc, rfl⟩
  have hZ := mapJ_rk g hA n j
  refine evx @A_r8_Rescale_L0.eq_1 ?_
  refine condC_intro (fun hj => ?_) (fun hj => ?_)
  · replace hj := of_decide_eq_true hj
    have hjk : -10000 ≤ (j : Int) * k ∧ (j : Int) * k ≤ 10000 := by
      constructor
      · have := Int.mul_le_mul_of_nonneg_left hk.1 (show (0 : Int) ≤ (j : Int) by omega)
        omega
      · have := Int.mul_le_mul_of_nonneg_left hk.2 (show (0 : Int) ≤ (j : Int) by omega)
        omega
    have w1 : IntKind.i64.wrap ((j : Int) * k) = (j : Int) * k := wrapI (by omega) (by omega)
    refine ev ?_
    refine WA_for (n := n) (fun c s => ∃ i, c + i = n ∧ s = ⟨[(1, fI k), (5, .sl 100 0 0 m 1 m), (6, fI j), (7, fI i)], [(200, (mapI g (mapJ g A n j) j i).map rowV), (100, [hdo 200 0 m n])]⟩) ⟨0, by omega, rfl⟩ ?_
    rintro c' s ⟨i, hc', rfl⟩
    have hZ2 := mapI_rk g hZ j i
    have hnx : mapI g (mapJ g A n j) j (i + 1) = up2 (mapI g (mapJ g A n j) j i) j i (g j i (at2 (mapI g (mapJ g A n j) j i) j i)) := rfl
    generalize hZe : mapI g (mapJ g A n j) j i = Z at hZ2 hnx
    have hzl := hZ2.1
    have hzj := hZ2.2 j hj
    refine evx (And.intro @A_r8_Rescale_L1.eq_1 (hdo_getD 200 0 m n j hj)) ?_
    (repeat (with_reducible refine And.intro (by omega) ?_))
    refine condC_intro (fun hi => ?_) (fun hi => ?_)
    · replace hi := of_decide_eq_true hi
      have gk := getD_map_fl (Z.getD j []) i (by omega)
      simp -implicitDefEqProofs only [evI, hv, effC, reduceCtorEq, ↓reduceIte, n1_, n2_, n3_, n4_, n5_, i1_, i2_, i3_, i4_, i5_, i6_, i7_, hdo_getD 200 0 m n j hj, getE Z j (by omega), gk, setE, w1]
      (repeat (with_reducible refine And.intro (by omega) ?_))
      refine callSG_con (r1_Scale_con ((Z.getD j []).getD i 0) ((j : Int) * k) (by omega)) rfl ?_
      simp -implicitDefEqProofs only [evI, hv, effC, reduceCtorEq, ↓reduceIte, n1_, n2_, n3_, n4_, n5_, i1_, i2_, i3_, i4_, i5_, i6_, i7_, hdo_getD 200 0 m n j hj, getE Z j (by omega), setE, hg' j i]
      (repeat (with_reducible refine And.intro (by omega) ?_))
      rw [wrapI (by omega) (by omega)]
      refine ⟨c' - 1, by omega, i + 1, by omega, ?_⟩
      rw [hnx]
      rfl
    · replace hi := of_decide_eq_false hi
      have e : i = n := by omega
      subst e
      refine ev ?_
      rw [wrapI (by omega) (by omega), ← hZe]
      exact ⟨c - 1, by omega, j + 1, by omega, rfl⟩
  · replace hj := of_decide_eq_false hj
    have e : j = m := by omega
    subst e
    refine ev ?_
    have hk1 : ∀ L : Heap, L.fam 200 = some ((mapJ g A n j).map rowV) → KpA L (hdo 200 0 j n) := fun L hL => KpA_hdoF hL (by have := hZ.1; omega)
    exact endsT_only (fun X => X == 200 || X == 100) (fun _ h => h) (resV_tmpI (t := 4) (by decide) rfl) rfl (by simp (maxDischargeDepth := 6) [kpS, fam_cons, fam_nil]) (by simp (maxDischargeDepth := 6) [kpS, fam_cons, fam_nil, hk1])
theorem r8_Rescale_con (A : List (List Nat)) (m n : Nat) (hA : Rk m n A) (hm : m < 1000) (hn : n < 2 ^ 40) (k : Int) (hk : -10 ≤ k ∧ k ≤ 10) :
    Con Tryz.prog 69 [.d (rowsD A), fI k] (.d (rowsD (scaleP A k m n))) :=
  Con_of_rows (r8_Rescale_ac A m n hA hm hn k hk) (scaleP_rk hA k m n) (by decide)
set_option maxRecDepth 8000 in
theorem r8_Predict_con (A : List (List Nat)) (q n : Nat) (hA : Rk (q + 1) n A) (hm : q < 1000) (hn : n < 2 ^ 40) : Con Tryz.prog 27 [.d (rowsD A)] (.d (rowsD (predP A n q))) := by
  refine Con_introA A_r8_Predict_comp rfl mixed ?_
  refine evx @A_r8_Predict.eq_1 ?_
  refine callG_rows 0 [.d (rowsD A)] (by simp [Heap.next]) (r8_copied_ac A (q + 1) n hA (by omega) hn) ⟨.bare _, trivial⟩ ?_
  have w1 : IntKind.i64.wrap (((q + 1 : Nat) : Int) - 1) = (q : Int) := by rw [wrapI (by omega) (by omega)]; omega
  refine evx w1 ?_
  refine WA_for (n := q + 1) (fun c s => ∃ j, c + j = q + 1 ∧ j ≤ q ∧ s = ⟨[(3, .sl 100 0 0 (q + 1) 1 (q + 1)), (4, fI q), (5, fI (j + 1 : Nat))], [(200, (predJ A n q j).map rowV), (100, [hdo 200 0 (q + 1) n])]⟩) ⟨0, by omega, by omega, rfl⟩ ?_
  rintro c s ⟨j, hc, hjq, rfl⟩
  have hZ := predJ_rk hA q j
  have hnx : predJ A n q (j + 1) = predK (predJ A n q j) n (q - 1) (q - j) := rfl
  generalize hJ : predJ A n q j = Z at hZ hnx
  refine evx @A_r8_Predict_L0.eq_1 ?_
  refine condC_intro (fun hj => ?_) (fun hj => ?_)
  · replace hj := of_decide_eq_true hj
    have w2 : IntKind.i64.wrap ((q : Int) - 1) = (q : Int) - 1 := wrapI (by omega) (by omega)
    have w3 : IntKind.i64.wrap (((j + 1 : Nat) : Int) - 1) = (j : Int) := by rw [wrapI (by omega) (by omega)]; omega
    refine evx w2 ?_
    refine WA_for (n := q - j + 1) (fun c s => ∃ k, c + k = q - j + 1 ∧ k ≤ q - j ∧ s = ⟨[(3, .sl 100 0 0 (q + 1) 1 (q + 1)), (4, fI q), (5, fI (j + 1 : Nat)), (6, fI ((q : Int) - 1 - k))], [(200, (predK Z n (q - 1) k).map rowV), (100, [hdo 200 0 (q + 1) n])]⟩) ⟨0, by omega, by omega, by simp [predK]⟩ ?_
    rintro c' s ⟨k, hc', hkq, rfl⟩
    have hZk := predK_rk hZ (q - 1) k
    have hnk : predK Z n (q - 1) (k + 1) = addI (predK Z n (q - 1) k) (q - 1 - k) n := rfl
    generalize hK : predK Z n (q - 1) k = Y at hZk hnk
    refine evx (And.intro @A_r8_Predict_L1.eq_1 w3) ?_
    refine condC_intro (fun hk => ?_) (fun hk => ?_)
    · replace hk := of_decide_eq_true hk
      obtain ⟨r, hr⟩ : ∃ r : Nat, (q : Int) - 1 - k = r := ⟨((q : Int) - 1 - k).toNat, by omega⟩
      have hrq : r < q + 1 := by omega
      have hr1 : r + 1 < q + 1 := by omega
      have hrk : q - 1 - k = r := by omega
      rw [hrk] at hnk
      rw [hr]
      have w4 : IntKind.i64.wrap ((r : Int) + 1) = ((r + 1 : Nat) : Int) := by rw [wrapI (by omega) (by omega)]; omega
      refine evx (hdo_getD 200 0 (q + 1) n r hrq) ?_
      refine WA_for (n := n) (fun c s => ∃ i, c + i = n ∧ s = ⟨[(3, .sl 100 0 0 (q + 1) 1 (q + 1)), (4, fI q), (5, fI (j + 1 : Nat)), (6, fI r), (7, fI i)], [(200, (addI Y r i).map rowV), (100, [hdo 200 0 (q + 1) n])]⟩) ⟨0, by omega, rfl⟩ ?_
      rintro c2 s ⟨i, hc2, rfl⟩
      have hZi := addI_rk hZk r i
      have hni : addI Y r (i + 1) = up2 (addI Y r i) r i (fop .add (at2 (addI Y r i) r i) (at2 (addI Y r i) (r + 1) i)) := rfl
      generalize hI : addI Y r i = X at hZi hni
      have l0 := hZi.1
      have l1 := hZi.2 r hrq
      have l2 := hZi.2 (r + 1) hr1
      refine evx (And.intro @A_r8_Predict_L2.eq_1 (hdo_getD 200 0 (q + 1) n r hrq)) ?_
      (repeat (with_reducible refine And.intro (by omega) ?_))
      refine condC_intro (fun hi => ?_) (fun hi => ?_)
      · replace hi := of_decide_eq_true hi
        have g1 := getD_map_fl (X.getD r []) i (by omega)
        have g2 := getD_map_fl (X.getD (r + 1) []) i (by omega)
        simp -implicitDefEqProofs only [evI, hv, effC, reduceCtorEq, ↓reduceIte, n1_, n2_, n3_, n4_, n5_, i1_, i2_, i3_, i4_, i5_, i6_, i7_, hdo_getD 200 0 (q + 1) n r hrq, hdo_getD 200 0 (q + 1) n (r + 1) hr1, w4, getE X r (by omega), getE X (r + 1) (by omega), g1, g2, setE]
        (repeat (with_reducible refine And.intro (by omega) ?_))
        rw [wrapI (by omega) (by omega)]
        refine ⟨c2 - 1, by omega, i + 1, by omega, ?_⟩
        rw [hni]
        rfl
      · replace hi := of_decide_eq_false hi
        have e : i = n := by omega
        subst e
        refine ev ?_
        rw [wrapI (by omega) (by omega)]
        refine ⟨c' - 1, by omega, k + 1, by omega, by omega, ?_⟩
        rw [hnk, hI]
        have e2 : (r : Int) - 1 = (q : Int) - 1 - ((k + 1 : Nat) : Int) := by omega
        rw [e2]
    · replace hk := of_decide_eq_false hk
      have e : k = q - j := by omega
      subst e
      refine ev ?_
      rw [wrapI (by omega) (by omega)]
      refine ⟨c - 1, by omega, j + 1, by omega, by omega, ?_⟩
      rw [hnx, hK]
      rfl
  · replace hj := of_decide_eq_false hj
    have e : j = q := by omega
    subst e
    refine ev ?_
    have hp : predP A n j = Z := hJ
    rw [hp]
    exact endsT_le (.sl 100 0 0 (j + 1) 1 (j + 1)) (fun _ h => h) (resV_tmpI (t := 2) (by decide) rfl) (Fz_rk (X := 200) hZ rfl rfl rfl rfl)
end Go.Ab
namespace Go.Ab
set_option linter.unusedSimpArgs false
set_option linter.unusedVariables false
open Go Go.Proofs
theorem Fz_two {L L' : Heap} {H A B n m : Nat} {xs ys : List Nat} (h : L.get H 0 = some [.sl A 0 0 n 1 n, .sl B 0 0 m 1 m]) (hA : L.get A 0 = some (rowV xs)) (hB : L.get B 0 = some (rowV ys)) (ha : xs.length = n) (hb : ys.length = m)
    (h1 : L'.fam H = none) (h2 : L'.fam A = none) (h3 : L'.fam B = none) : Fz L L' (.sl H 0 0 2 1 2) (.d (rowsD [xs, ys])) := by
  have nf : ∀ X, L'.fam X = none → ∀ r, ∀ Y q, L'.get Y q ≠ none → (Y, q) ≠ (X, r) := fun X hX r Y q hY e => by cases e; exact hY (get_of_fam_none hX _)
  refine .d (.sl (fun _ Y q hY => nf H h1 0 Y q hY) h rfl (by simp) (fun i hi => rfl) fun i j hi hj => ?_)
  obtain rfl : j = 0 := by omega
  have hi : i < 2 := hi
  rcases i with _ | _ | i
  · exact snap_row (fun Y q hY => nf A h2 0 Y q hY) hA ha rfl
  · exact snap_row (fun Y q hY => nf B h3 0 Y q hY) hB hb rfl
  · omega
theorem hW_all : ((List.range 60).all fun j => scl (FloatKind.nearest .f64 ((2 ^ j : Nat) : Int)) (-30) == hW (2 ^ j)) = true := by kernel_rfl
theorem Scale_step (j : Nat) (hj : j < 60) : Con Tryz.prog 34 [fl (FloatKind.nearest .f64 ((2 ^ j : Nat) : Int)), fI (-30)] (fl (hW (2 ^ j))) := by
  have h := List.all_eq_true.1 hW_all j (by simpa using hj)
  rw [← eq_of_beq h]
  exact fp_Scale_all _ _ (by decide)
theorem r8_H_step (j : Nat) : Con Tryz.prog 49 [fI ((2 ^ j : Nat) : Int)] (fl (hW (2 ^ j))) := by
  have h := r8_H_con ((2 ^ j : Nat) : Int)
  have e : fop .div (FloatKind.nearest .f64 ((2 ^ j : Nat) : Int)) 4742290407621132288 = hW (2 ^ j) := by
    unfold hW; rw [show FloatKind.nearest .f64 1073741824 = 4742290407621132288 by kernel_rfl]
  rwa [e] at h
set_option maxRecDepth 8000 in
theorem r8_Start_con (t : Tp) (y : List Nat) (j : Nat) (ht : Tok t) (hy : y.length = t.n) (hj : j < 60) :
    Con Tryz.prog 26 [tapeV t, .d (rowD y), fI ((2 ^ j : Nat) : Int)] (ndV ⟨0, ((2 ^ j : Nat) : Int), 1, 0, startZ t y (hW (2 ^ j))⟩) := by
  have hn := ht.n
  have hH := r8_H_step j
  refine Con_introA A_r8_Start_comp rfl mixed ?_
  refine evx @A_r8_Start.eq_1 ?_
  generalize hW (2 ^ j) = h at hH
  generalize ((2 ^ j : Nat) : Int) = st at hH
  refine callG_row 100 [tapeV t, .d (rowD y)] (by simp [Heap.next]) (r3_Eval_ac t y ht hy) ⟨.aggs ⟨.bare _, .bare _, .bare _, trivial⟩, .bare _, trivial⟩ ?_
  have hfl := evalT_len t y
  unfold startZ
  generalize evalT t y = f at hfl
  generalize hg : (fun i => fop .mul h (f.getD i 0)) = g
  have hg' : ∀ i, fop .mul h (f.getD i 0) = g i := fun i => by rw [← hg]
  refine ev ?_
  refine WA_forW (n := t.n) (fun c s => ∃ i, c + i = t.n ∧ s = ⟨[(1, .d (rowD y)), (2, fI st), (6, .ptr 1 0 0 5), (7, .sl 100 0 0 t.n 1 t.n), (8, .sl 101 0 0 i 1 i), (9, fI i)],
    [(101, [rowV (tabR g i)]), (100, [rowV f]), (1, [[fI 0, fI 0, fI 0, fI 0, .nil]])]⟩) (s0 := ⟨_, _⟩) (Le.trans (LeT.nilrow (X := 101) (esz := 1) (as' := [(1, .d (rowD y)), (2, fI st), (6, .ptr 1 0 0 5), (7, .sl 100 0 0 t.n 1 t.n), (8, .sl 101 0 0 0 1 0), (9, fI 0)]) (by simp [fam_cons, fam_nil]) (fun h => h) fun i => ?_)
      (LeT.only (L' := [(101, [rowV (tabR g 0)]), (100, [rowV f]), (1, [[fI 0, fI 0, fI 0, fI 0, .nil]])]) (fun X => X != 0) (fun _ h => h) rfl (by simp [kpS]) (by simp [kpS]))) ⟨0, by omega, rfl⟩ ?_
  · simp only [look]
    repeat' split
    all_goals simp [rowD]
  rintro c s ⟨i, hc, rfl⟩
  have hl := tabR_len g i
  refine evx @A_r8_Start_L0.eq_1 ?_
  refine condC_intro (fun hi => ?_) (fun hi => ?_)
  · replace hi := of_decide_eq_true hi
    have gk := getD_map_fl f i (by omega)
    refine evx gk ?_
    refine callSG_con (hH) rfl ?_
    refine evx (And.intro gk hg') ?_
    (repeat (with_reducible refine And.intro (by omega) ?_))
    have e2 : rowV (tabR g i) ++ [fl (g i)] = rowV (tabR g (i + 1)) := (tabR_succ _ _).symm
    rw [wrapI (by omega) (by omega), e2]
    exact ⟨c - 1, _, by omega, LeT.only (fun X => X == 101 || X == 100 || X == 1) (fun _ h => h) rfl (by simp [kpS]) (by simp [kpS]), i + 1, by omega, rfl⟩
  · replace hi := of_decide_eq_false hi
    have e : i = t.n := by omega
    subst e
    refine evx (And.intro @srcCells_row @srcLen_bor) ?_
    (repeat (with_reducible refine And.intro (by omega) ?_))
    exact endsT_le (.agg [fI 0, fI st, fI 1, fI 0, .sl 107 0 0 2 1 2]) (fun _ h => h) (resV_cellI (by decide) rfl rfl rfl (by simp) rfl)
      (Fz_agg _ _ ⟨Fz_d _, Fz_d _, Fz_d _, Fz_d _, Fz_two (A := 103) (B := 101) rfl rfl rfl rfl hl rfl rfl rfl, trivial⟩)
def A_r10_less_L0 : CA := (.seq (.seq (.reg [i_M 0 5 4, i_M 1 6 0, i_N 2 7 .lss 5 6] [0, 3, 4, 7]) (.cond (.t 7) .skip (.exit 0))) (.seq (.block 1 (.reg [i_M 0 10 3, i_X 1 11 (.h (.fbin .div (.t 10) (.k (.d (.flt 4611686018427387904))))), i_M 2 3 11] [0, 3, 4])) (.reg [i_M 0 8 4, i_B 1 9 .add 8 1, i_M 2 4 9] [0, 3, 4])))
def A_r10_less : CA := (.seq (.reg [i_X 0 2 (.h (.mov (.k (.d (.flt 0)))))] [0]) (.seq (.reg [i_X 0 3 (.h (.mov (.k (.d (.flt 4607182418800017408)))))] [0, 3]) (.seq (.seq (.reg [i_K 0 4 0] [0, 3, 4]) (.block 0 (.loop A_r10_less_L0))) (.seq (.reg [i_M 0 12 3, i_M 1 2 12] [2]) .ret))))
theorem A_r10_less_comp : compF Tryz.prog 73 = some ⟨13, [(2, none)], A_r10_less.strip⟩ := by kernel_rfl
def A_r10_most : CA := (.seq (.reg [i_K 0 2 0] [0]) (.seq (.seq (.reg [i_M 0 3 0, i_B 1 4 .eql 3 0] [4]) (.cond (.t 4) (.seq (.reg [i_K 0 2 5] [2]) .ret) .skip)) (.seq (.reg [i_K 0 2 4] [2]) .ret)))
theorem A_r10_most_comp : compF Tryz.prog 74 = some ⟨5, [(2, none)], A_r10_most.strip⟩ := by kernel_rfl
def A_r10_anew : CA := (.seq (.reg [i_X 0 2 (.box (.t 0) 13 33), i_X 1 3 (.box (.t 1) 8 39), i_X 2 4 (.alloc [(.d (.int .i64 0)), (.d (.int .i64 0)), (.d (.int .i64 0)), (.d (.int .i64 0)), .nil, (.d (.int .i64 0)), (.d (.int .i64 0)), (.d (.int .i64 0))] 39)] [2, 3, 4]) (.seq (.reg [i_P 0 6 2 0, i_A 1 7 6 3, i_P 2 8 3 0, i_P 3 9 8 4, i_L 4 10 9 1, i_X 5 11 (.h (.idx (.t 10) (kI 0) 1)), i_L 6 12 11 1, i_P 7 13 3 0, i_P 8 14 13 1, i_L 9 15 14 1, i_X 10 16 (.callS 0 (kF 26) [(.t 7), (.t 12), (.t 15)]), i_X 11 5 (.alloc [(.d (.int .i64 0)), (.d (.int .i64 0)), (.d (.int .i64 0)), (.d (.int .i64 0)), .nil] 37), i_S 12 5 16 5] [3, 4, 5]) (.seq (.reg [i_P 0 17 3 0, i_P 1 18 17 0, i_L 2 19 18 1, i_P 3 20 3 0, i_P 4 21 20 3, ⟨5, (some 22), none, [(.t 3)], [], (.load (.t 21) 1 false)⟩, i_P 6 23 5 0, ⟨7, none, none, [], [(.t 3)], (.store (.t 23) (.t 19) 1)⟩, i_P 8 24 5 3, i_S 9 24 22 1] [3, 4, 5]) (.seq (.reg [i_A 0 25 5 5, i_P 1 26 3 0, i_S 2 26 25 5, i_P 3 27 3 6, ⟨4, none, none, [], [], (.store (.t 27) (kI 0) 1)⟩] [3, 4]) (.seq (.reg [i_A 0 28 3 8, i_S 1 4 28 8] [4]) .ret)))))
theorem A_r10_anew_comp : compF Tryz.prog 70 = some ⟨29, [(4, (some (8, true)))], A_r10_anew.strip⟩ := by kernel_rfl
theorem r10_less_con (k : Nat) (hk : k < 1000) : Con Tryz.prog 73 [fI k] (fl (((List.range k).foldl (fun x _ => fop .div x 4611686018427387904) 4607182418800017408))) := by
  refine Con_introA A_r10_less_comp rfl mixed ?_
  refine evx @A_r10_less.eq_1 ?_
  refine WA_for (n := k) (fun c s => ∃ i, c + i = k ∧ s = ⟨[(0, fI k), (3, fl ((List.range i).foldl (fun x _ => fop .div x 4611686018427387904) 4607182418800017408)), (4, fI i)], []⟩) ⟨0, by omega, rfl⟩ ?_
  rintro c s ⟨i, hc, rfl⟩
  refine evx @A_r10_less_L0.eq_1 ?_
  refine condC_intro (fun h => ?_) (fun h => ?_)
  · replace h := of_decide_eq_true h
    refine ev ?_
    rw [wrapI (by omega) (by omega)]
    refine ⟨c - 1, by omega, i + 1, by omega, ?_⟩
    rw [List.range_succ, List.foldl_append]
    rfl
  · replace h := of_decide_eq_false h
    have e : i = k := by omega
    subst e
    refine ev ?_
    exact endsT_rett rfl (by decide) (by simp [look])
theorem less_ok (k : Nat) (hk : k < 12) : ((List.range k).foldl (fun x _ => fop .div x 4611686018427387904) 4607182418800017408) = lessW k := by
  have h : ((List.range 12).all fun k => ((List.range k).foldl (fun x _ => fop .div x 4611686018427387904) 4607182418800017408) == lessW k) = true := by kernel_rfl
  exact eq_of_beq (List.all_eq_true.1 h k (by simpa using hk))
theorem r10_most_con (m : Int) : Con Tryz.prog 74 [fI m] (fI (mostO m)) := by
  refine Con_introA A_r10_most_comp rfl mixed ?_
  refine evx @A_r10_most.eq_1 ?_
  unfold mostO
  by_cases h : m = 0
  · subst h
    refine evb ?_
    exact endsT_rett rfl (by decide) (by simp [look])
  · have h' : (m == 0) = false := by simpa using h
    rw [if_neg h]
    refine evx h' ?_
    exact endsT_rett rfl (by decide) (by simp [look])
set_option maxRecDepth 8000 in
theorem r10_anew_con (p : Pb) (s : Sta) (hp : Pok p) (hns : ∃ j : Nat, j < 60 ∧ s.n.step = (2 ^ j : Nat)) (hnr : Rk (s.n.order.toNat + 1) p.t.n s.n.z) : Con Tryz.prog 70 [pbV p, staV s] (staV ⟨freshP p s.n, s.good, 0, s.slow⟩) := by
  obtain ⟨j, hj, hst⟩ := hns
  obtain ⟨r1, r2⟩ := hnr
  obtain ⟨⟨pos, st, o, m, z⟩, g, f, sl⟩ := s
  simp only at hst r1 r2
  subst hst
  refine Con_introA A_r10_anew_comp rfl mixed ?_
  refine evx @A_r10_anew.eq_1 ?_
  (repeat (with_reducible refine And.intro (by omega) ?_))
  refine callSG_con (r8_Start_con p.t (z.getD 0 []) j hp.t (r2 0 (by omega)) hj) rfl ?_
  refine ev ?_
  exact endsT_retm rfl (by decide) rfl rfl rfl (by simp) rfl
theorem pow_range (j : Nat) (hj : j < 60) : (0 : Int) < ((2 ^ j : Nat) : Int) ∧ ((2 ^ j : Nat) : Int) < 1152921504606846976 := by
  have h1 : 2 ^ j < 2 ^ 60 := Nat.pow_lt_pow_right (by decide) hj
  have h2 : 0 < 2 ^ j := Nat.pow_pos (by decide)
  generalize 2 ^ j = w at h1 h2
  have h3 : w < 1152921504606846976 := h1
  omega
end Go.Ab
