import Derived.Test.YtponkmbigjmmoaaGreatGM
set_option linter.unusedSimpArgs false
set_option linter.unusedVariables false
set_option maxRecDepth 8000
namespace Go.Ab
open Go Go.Proofs
def a8u : CA := (.seq (.reg [i_X 0 0 (.alloc [(.d .nilf), (.d .nilf), (.d .nilf), (.d .nilf), (.d .nilf)] 238)] [0]) (.seq (.reg [i_X 0 1 (.h (.build [(.d .nilf), (.d .nilf), (.d .nilf), (.d .nilf), (.d .nilf)] [(0, (1, (kF 248))), (1, (1, (kF 200))), (2, (1, (kF 190))), (3, (1, (kF 208))), (4, (1, (kF 244)))])), i_S 1 0 1 5] [0]) .ret))
theorem a7C : f7 Tryz.prog 204 = some ⟨2, [(0, (some (5, true)))], a8u.strip⟩ := by kernel_rfl
def a4u : CA := (.seq (.reg [i_X 0 2 (.alloc [fl 0, fl 0] 83)] [0, 2]) (.seq (.reg [i_M 0 3 0, i_M 1 4 0, i_X 2 5 (.h (.build [fl 0, fl 0] [(0, (1, (.t 3))), (1, (1, (.t 4)))])), i_S 3 2 5 2] [2]) .ret))
theorem a5d : f7 Tryz.prog 248 = some ⟨6, [(2, (some (2, true)))], a4u.strip⟩ := by kernel_rfl
def M0 : CA := (.seq (.reg [i_X 0 4 (.box (.t 0) 5 238), i_X 1 5 (.box (.t 1) 4 81), i_X 2 8 (.alloc [fl 0, fl 0] 83)] [2, 3, 4, 5, 8]) (.seq (.seq (.reg [i_P 0 11 5 0, i_L 1 12 11 1] [2, 3, 4, 5, 8, 12]) (.block 0 (.seq (.reg [i_B 0 14 .eql 12 0, i_M 1 13 14] [2, 3, 4, 5, 8, 12, 13]) (.cond (.t 13) (.seq (.reg [i_P 0 15 4 0, i_L 1 16 15 1, i_P 2 17 5 3, i_L 3 18 17 1, i_X 4 19 (.callA (.t 16) [(.t 18)]), i_S 5 8 19 2] [8]) .ret) (.seq (.reg [i_B 0 21 .eql 12 1, i_M 1 20 21] [2, 3, 4, 5, 8, 20]) (.cond (.t 20) (.seq (.reg [i_M 0 22 2, i_P 1 23 5 1, i_L 2 24 23 1, i_I 3 25 22 24 2, i_A 4 26 25 2, i_S 5 8 26 2] [8]) .ret) .skip)))))) (.seq (.reg [i_M 0 27 3, i_P 1 28 5 1, i_L 2 29 28 1, i_I 3 30 27 29 3, i_P 4 31 30 0, i_A 5 32 31 2, i_M 6 33 3, i_P 7 34 5 2, ⟨8, (some 35), none, [(.t 5)], [], (.load (.t 34) 1 false)⟩, i_I 9 36 33 35 3, i_P 10 37 36 0, ⟨11, (some 38), none, [(.t 3)], [], (.load (.t 37) 2 true)⟩, i_X 12 9 (.alloc [fl 0, fl 0] 83), i_X 13 10 (.alloc [fl 0, fl 0] 83), ⟨14, none, none, [], [(.t 5), (.t 3)], (.store (.t 9) (.t 32) 2)⟩, i_S 15 10 38 2] [4, 5, 8, 9, 10]) (.seq (.seq (.reg [i_P 0 39 5 0, i_L 1 40 39 1] [4, 8, 9, 10, 40]) (.block 1 (.seq (.reg [i_B 0 42 .eql 40 2, i_M 1 41 42] [4, 8, 9, 10, 40, 41]) (.cond (.t 41) (.seq (.reg [i_P 0 43 4 1, i_L 1 44 43 1, i_A 2 45 9 2, i_A 3 46 10 2, i_X 4 47 (.callA (.t 44) [(.t 45), (.t 46)]), i_S 5 8 47 2] [8]) .ret) (.seq (.reg [i_B 0 49 .eql 40 3, i_M 1 48 49] [4, 8, 9, 10, 40, 48]) (.cond (.t 48) (.seq (.reg [i_P 0 50 4 2, i_L 1 51 50 1, i_A 2 52 9 2, i_A 3 53 10 2, i_X 4 54 (.callA (.t 51) [(.t 52), (.t 53)]), i_S 5 8 54 2] [8]) .ret) (.seq (.reg [i_B 0 56 .eql 40 4, i_M 1 55 56] [4, 8, 9, 10, 55]) (.cond (.t 55) (.seq (.reg [i_P 0 57 4 3, i_L 1 58 57 1, i_A 2 59 9 2, i_A 3 60 10 2, i_X 4 61 (.callA (.t 58) [(.t 59), (.t 60)]), i_S 5 8 61 2] [8]) .ret) .skip)))))))) (.seq (.reg [i_P 0 62 4 4, i_L 1 63 62 1, i_A 2 64 9 2, i_A 3 65 10 2, i_X 4 66 (.callA (.t 63) [(.t 64), (.t 65)]), i_S 5 8 66 2] [8]) .ret)))))
theorem V3 : f7 Tryz.prog 249 = some ⟨67, [(8, (some (2, true)))], M0.strip⟩ := by kernel_rfl
def q7 : CA := (.seq (.reg [i_X 0 5 (.box (.t 0) 5 238), i_X 1 6 (.box (.t 1) 4 81), i_X 2 8 (.box (.t 3) 2 83), i_X 3 10 (.alloc [fl 0, fl 0] 83)] [2, 4, 5, 6, 8, 10]) (.seq (.block 0 (.seq (.reg [i_P 0 14 6 0, i_L 1 15 14 1, i_B 2 16 .eql 15 1, i_M 3 17 16, g_T 4 18 17 (.h (.padd (.t 6) 1)), g_T 5 19 17 (.load (.t 18) 1 false), g_T 6 20 17 (.h (.mov (.t 2))), g_T 7 21 17 (.h (.ibin .eql (.t 19) (.t 20))), i_X 8 22 (.h (.pick (.t 17) (.t 21) (.k (.d (.bool false))))), i_M 9 13 22] [2, 4, 5, 6, 8, 10, 13]) (.cond (.t 13) (.seq (.reg [i_P 0 23 5 0, i_L 1 24 23 1, i_X 2 25 (.callA (.t 24) [(.k (.d (.flt 4607182418800017408)))]), i_S 3 10 25 2] [10]) .ret) (.seq (.reg [i_P 0 27 6 0, i_L 1 28 27 1, i_B 2 29 .eql 28 0, i_M 3 30 29, g_F 4 31 30 (.h (.padd (.t 6) 0)), g_F 5 32 30 (.load (.t 31) 1 false), g_F 6 33 30 (.h (.ibin .eql (.t 32) (kI 1))), i_X 7 34 (.h (.pick (.t 30) (.k (.d (.bool true))) (.t 33))), i_M 8 26 34] [2, 4, 5, 6, 8, 10, 26]) (.cond (.t 26) (.seq (.reg [i_P 0 35 5 0, i_L 1 36 35 1, i_X 2 37 (.callA (.t 36) [(.k (.d (.flt 0)))]), i_S 3 10 37 2] [10]) .ret) .skip))))) (.seq (.reg [i_M 0 38 4, i_P 1 39 6 1, i_L 2 40 39 1, i_I 3 41 38 40 3, i_A 4 42 41 3, i_M 5 43 4, i_P 6 44 6 2, ⟨7, (some 45), none, [(.t 6)], [], (.load (.t 44) 1 false)⟩, i_I 8 46 43 45 3, ⟨9, (some 47), none, [(.t 4)], [], (.load (.t 46) 3 true)⟩, i_X 10 11 (.alloc [fl 0, fl 0, .nil] 265), i_X 11 12 (.alloc [fl 0, fl 0, .nil] 265), ⟨12, none, none, [], [(.t 6), (.t 4)], (.store (.t 11) (.t 42) 3)⟩, i_S 13 12 47 3] [2, 5, 6, 8, 10, 11, 12]) (.seq (.seq (.reg [i_P 0 48 6 0, i_L 1 49 48 1] [2, 5, 8, 10, 11, 12, 49]) (.block 1 (.seq (.reg [i_B 0 51 .eql 49 2, i_M 1 50 51] [2, 5, 8, 10, 11, 12, 49, 50]) (.cond (.t 50) (.seq (.reg [i_P 0 52 5 1, i_L 1 53 52 1, i_P 2 54 11 2, i_L 3 55 54 1, i_M 4 56 2, i_I 5 57 55 56 2, i_A 6 58 57 2, i_P 7 59 12 2, i_L 8 60 59 1, i_M 9 61 2, i_I 10 62 60 61 2, i_A 11 63 62 2, i_X 12 64 (.callA (.t 53) [(.t 58), (.t 63)]), i_S 13 10 64 2] [10]) .ret) (.seq (.reg [i_B 0 66 .eql 49 3, i_M 1 65 66] [2, 5, 8, 10, 11, 12, 49, 65]) (.cond (.t 65) (.seq (.reg [i_P 0 67 5 2, i_L 1 68 67 1, i_P 2 69 11 2, i_L 3 70 69 1, i_M 4 71 2, i_I 5 72 70 71 2, i_A 6 73 72 2, i_P 7 74 12 2, i_L 8 75 74 1, i_M 9 76 2, i_I 10 77 75 76 2, i_A 11 78 77 2, i_X 12 79 (.callA (.t 68) [(.t 73), (.t 78)]), i_S 13 10 79 2] [10]) .ret) (.seq (.reg [i_B 0 81 .eql 49 4, i_M 1 80 81] [2, 5, 8, 10, 11, 12, 80]) (.cond (.t 80) (.seq (.reg [i_P 0 82 5 1, i_L 1 83 82 1, i_P 2 84 5 3, i_L 3 85 84 1, i_P 4 86 11 2, i_L 5 87 86 1, i_M 6 88 2, i_I 7 89 87 88 2, i_A 8 90 89 2, i_P 9 91 12 0, i_A 10 92 91 2, i_X 11 93 (.callS 11 (.t 85) [(.t 90), (.t 92)]), i_P 12 94 5 3, i_L 13 95 94 1, i_P 14 96 11 0, i_A 15 97 96 2, i_P 16 98 12 2, i_L 17 99 98 1, i_M 18 100 2, i_I 19 101 99 100 2, i_A 20 102 101 2, i_X 21 103 (.callS 21 (.t 95) [(.t 97), (.t 102)]), i_X 22 104 (.callA (.t 83) [(.t 93), (.t 103)]), i_S 23 10 104 2] [10]) .ret) .skip)))))))) (.seq (.reg [i_P 0 105 5 4, i_L 1 106 105 1, i_P 2 107 5 2, i_L 3 108 107 1, i_P 4 109 11 2, i_L 5 110 109 1, i_M 6 111 2, i_I 7 112 110 111 2, i_A 8 113 112 2, i_P 9 114 5 3, i_L 10 115 114 1, i_A 11 116 8 2, i_P 12 117 12 2, i_L 13 118 117 1, i_M 14 119 2, i_I 15 120 118 119 2, i_A 16 121 120 2, i_X 17 122 (.callS 17 (.t 115) [(.t 116), (.t 121)]), i_X 18 123 (.callS 18 (.t 108) [(.t 113), (.t 122)]), i_P 19 124 12 0, i_A 20 125 124 2, i_X 21 126 (.callA (.t 106) [(.t 123), (.t 125)]), i_S 22 10 126 2] [10]) .ret)))))
theorem n8 : f7 Tryz.prog 250 = some ⟨127, [(10, (some (2, true)))], q7.strip⟩ := by kernel_rfl
def A_jac_kind_api_Iv_run_L1 : CA := (.seq (.reg [i_N 0 31 .lss 30 29] [2, 3, 4, 7, 9, 10, 16, 17, 18, 29, 30, 31]) (.seq (.cond (.t 31) .skip (.exit 2)) (.seq (.block 3 (.seq (.reg [i_M 0 32 30, i_M 1 11 32] [2, 3, 4, 7, 9, 10, 11, 16, 17, 18, 29, 30]) (.reg [i_P 0 33 10 2, i_L 1 34 33 1, i_A 2 35 3 5, i_A 3 36 9 4, i_M 4 37 11, i_P 5 38 10 0, i_A 6 39 38 2, i_M 7 40 7, i_X 8 41 (.callS 8 (kF 250) [(.t 35), (.t 36), (.t 37), (.t 39), (.t 40)]), i_X 9 42 (.bslice [fl 0, fl 0] 1 2 [(0, (2, (.t 41)))] 83), i_X 10 43 (.app (.t 34) (.t 42) 2 16), i_P 11 44 10 2, i_S 12 44 43 1] [2, 3, 4, 7, 9, 10, 16, 17, 18, 29, 30]))) (.reg [i_B 0 45 .add 30 1, i_M 1 30 45] [2, 3, 4, 7, 9, 10, 16, 17, 18, 29, 30]))))
def J4 : CA := (.seq (.reg [i_N 0 19 .lss 18 17] [2, 3, 4, 7, 16, 17, 18, 19]) (.seq (.cond (.t 19) .skip (.exit 0)) (.seq (.block 1 (.seq (.reg [i_I 0 20 16 18 4, i_A 1 21 20 4, i_X 2 9 (.alloc [fI 0, fI 0, fI 0, fl 0] 81), i_S 3 9 21 4] [2, 3, 4, 7, 9, 16, 17, 18]) (.seq (.reg [i_A 0 22 3 5, i_A 1 23 9 4, i_M 2 24 2, i_M 3 25 7, i_X 4 26 (.callA (kF 249) [(.t 22), (.t 23), (.t 24), (.t 25)]), i_X 5 27 (.h (.build [fl 0, fl 0, .nil] [(0, (2, (.t 26)))])), i_X 6 10 (.alloc [fl 0, fl 0, .nil] 265), i_S 7 10 27 3] [2, 3, 4, 7, 9, 10, 16, 17, 18]) (.seq (.seq (.reg [i_P 0 28 4 0, i_L 1 29 28 1, i_K 2 30 0] [2, 3, 4, 7, 9, 10, 16, 17, 18, 29, 30]) (.block 2 (.loop A_jac_kind_api_Iv_run_L1))) (.reg [i_M 0 46 7, i_A 1 47 10 3, i_X 2 48 (.bslice [fl 0, fl 0, .nil] 1 3 [(0, (3, (.t 47)))] 265), i_X 3 49 (.app (.t 46) (.t 48) 3 40), i_M 4 7 49] [2, 3, 4, 7, 16, 17, 18]))))) (.reg [i_B 0 50 .add 18 1, i_M 1 18 50] [2, 3, 4, 7, 16, 17, 18]))))
def J3 : CA := (.seq (.reg [i_N 0 58 .lss 57 56] [7, 12, 55, 56, 57, 58]) (.seq (.cond (.t 58) .skip (.exit 4)) (.seq (.block 5 (.seq (.reg [i_M 0 59 57, i_I 1 60 55 57 1, i_L 2 61 60 1, i_M 3 13 59, i_M 4 14 61] [7, 12, 13, 14, 55, 56, 57]) (.reg [i_M 0 62 12, i_M 1 63 13, i_M 2 64 7, i_M 3 65 14, i_I 4 66 64 65 3, i_P 5 67 66 2, i_L 6 68 67 1, i_X 7 69 (.app (.k .nil) (.t 68) 2 16), i_I 8 70 62 63 1, i_S 9 70 69 1] [7, 12, 55, 56, 57]))) (.reg [i_B 0 71 .add 57 1, i_M 1 57 71] [7, 12, 55, 56, 57]))))
def Q8 : CA := (.seq (.reg [i_X 0 3 (.box (.t 0) 5 238), i_X 1 4 (.box (.t 1) 3 28), i_X 2 6 (.h (.mov (.k .nil)))] [2, 3, 4]) (.seq (.reg [i_X 0 7 (.h (.mov (.k .nil)))] [2, 3, 4, 7]) (.seq (.seq (.reg [i_P 0 15 4 1, i_L 1 16 15 1, i_X 2 17 (.h (.len (.t 16))), i_K 3 18 0] [2, 3, 4, 7, 16, 17, 18]) (.block 0 (.loop J4))) (.seq (.reg [i_P 0 51 4 0, i_L 1 52 51 1, i_X 2 53 (.mksl [.nil] 1 24 (.t 52) (.t 52) 29), i_M 3 12 53] [4, 7, 12]) (.seq (.seq (.reg [i_P 0 54 4 2, i_L 1 55 54 1, i_X 2 56 (.h (.len (.t 55))), i_K 3 57 0] [7, 12, 55, 56, 57]) (.block 4 (.loop J3))) (.seq (.reg [i_M 0 72 12, i_M 1 6 72] [6]) .ret))))))
theorem Z0 : f7 Tryz.prog 205 = some ⟨73, [(6, none)], Q8.strip⟩ := by kernel_rfl
def b07 : CA := (.seq (.reg [i_X 0 2 (.box (.t 0) 3 28), i_X 1 4 (.h (.mov (.k .nil)))] [1, 2]) (.seq (.reg [i_X 0 5 (.callS 0 (kF 204) []), i_A 1 6 2 3, i_M 2 7 1, i_X 3 8 (.callA (kF 205) [(.t 5), (.t 6), (.t 7)]), i_M 4 4 8] [4]) .ret))
theorem a89 : f7 Tryz.prog 152 = some ⟨9, [(4, none)], b07.strip⟩ := by kernel_rfl
theorem a0a (x : Nat) : Con Tryz.prog 248 [fl x] (ivV (pt x)) := by
 refine b7 a5d rfl f5 ?_
 refine evx @a4u.eq_1 ?_
 exact f9 rfl (by decide) rfl rfl rfl (by simp) (by simp [ldv, pt])
abbrev jrV : V := .agg [.d (.fn 248 [] []), .d (.fn 200 [] []), .d (.fn 190 [] []), .d (.fn 208 [] []), .d (.fn 244 [] [])]
theorem b7N : Con Tryz.prog 204 [] jrV := by
 refine b7 a7C rfl f5 ?_
 refine evx @a8u.eq_1 ?_
 exact f9 rfl (by decide) rfl rfl rfl (by simp) (by simp [ldv])
def riG (r : List Iv) (dr : List (List Iv)) (i : Nat) : List D := [.flt (mG r i).1, .flt (mG r i).2, ivD (dr.getD i [])]
def riD (r : List Iv) (dr : List (List Iv)) : D := .bor r.length (riG r dr)
theorem a5X (x : List Iv) (i : Nat) : ivG x i = [.flt (mG x i).1, .flt (mG x i).2] := rfl
section
variable (o : OpN) (x r : List Iv) (dr : List (List Iv)) (n : Nat) (ho : Oko o r.length n) (hx : x.length = n)
include ho hx
theorem c0H : Con Tryz.prog 249 [jrV, opA o, .d (ivD x), .d (riD r dr)] (ivV (opI o x r)) := by
 refine b7 V3 rfl f5 ?_
 refine evx @M0.eq_1 ?_
 rcases ho with hk | ⟨hk, ha⟩ | ⟨hk, ha, hb⟩
 ·refine evx hk ?_
  refine a0 (a0a o.c) rfl ?_
  refine ev ?_
  have e : opI o x r = pt o.c := by simp [opI, hk]
  rw [e]
  exact f9 rfl (by decide) rfl rfl rfl (by simp) (by simp [ldv])
 ·refine evbx (And.intro hk (And.intro @ivD.eq_1 @a5X)) ?_
  refine ⟨by omega, ?_⟩
  have e : opI o x r = mG x o.a.toNat := by simp [opI, hk]
  rw [e]
  exact f9 rfl (by decide) rfl rfl rfl (by simp) (by simp [ldv, mG])
 ·rcases hk with hk | hk | hk | hk
  ·refine evbx (And.intro hk (And.intro @riD.eq_1 @riG.eq_1)) ?_
   refine ⟨by omega, by omega, ?_⟩
   refine a0 (v7 (mG r o.a.toNat) (mG r o.b.toNat)) rfl ?_
   refine ev ?_
   have e : opI o x r = y7 (mG r o.a.toNat) (mG r o.b.toNat) := by simp [opI, hk]
   rw [e]
   exact f9 rfl (by decide) rfl rfl rfl (by simp) (by simp [ldv])
  ·refine evbx (And.intro hk (And.intro @riD.eq_1 @riG.eq_1)) ?_
   refine ⟨by omega, by omega, ?_⟩
   refine a0 (D3 (mG r o.a.toNat) (mG r o.b.toNat)) rfl ?_
   refine ev ?_
   have e : opI o x r = z4 (mG r o.a.toNat) (mG r o.b.toNat) := by simp [opI, hk]
   rw [e]
   exact f9 rfl (by decide) rfl rfl rfl (by simp) (by simp [ldv])
  ·refine evbx (And.intro hk (And.intro @riD.eq_1 @riG.eq_1)) ?_
   refine ⟨by omega, by omega, ?_⟩
   refine a0 (u8 (mG r o.a.toNat) (mG r o.b.toNat)) rfl ?_
   refine ev ?_
   have e : opI o x r = s9 (mG r o.a.toNat) (mG r o.b.toNat) := by simp [opI, hk]
   rw [e]
   exact f9 rfl (by decide) rfl rfl rfl (by simp) (by simp [ldv])
  ·refine evbx (And.intro hk (And.intro @riD.eq_1 @riG.eq_1)) ?_
   refine ⟨by omega, by omega, ?_⟩
   refine a0 (N8 (mG r o.a.toNat) (mG r o.b.toNat)) rfl ?_
   refine ev ?_
   have e : opI o x r = T2 (mG r o.a.toNat) (mG r o.b.toNat) := by simp [opI, hk]
   rw [e]
   exact f9 rfl (by decide) rfl rfl rfl (by simp) (by simp [ldv])
end
section
variable (o : OpN) (r : List Iv) (dr : List (List Iv)) (n i : Nat) (q : Iv)
theorem c3E (hk : o.k = 0) : Con Tryz.prog 250 [jrV, opA o, fI i, ivV q, .d (riD r dr)] (ivV (sloI o q r dr i)) := by
 refine b7 n8 rfl f5 ?_
 refine evx @q7.eq_1 ?_
 refine evbx hk ?_
 refine a0 (a0a 0) rfl ?_
 refine ev ?_
 have e : sloI o q r dr i = pt 0 := by simp [sloI, hk, pt]
 rw [e]
 exact f9 rfl (by decide) rfl rfl rfl (by simp) (by simp [ldv])
theorem c3D (hk : o.k = 1) : Con Tryz.prog 250 [jrV, opA o, fI i, ivV q, .d (riD r dr)] (ivV (sloI o q r dr i)) := by
 refine b7 n8 rfl f5 ?_
 refine evx @q7.eq_1 ?_
 refine evbx hk ?_
 by_cases hai : o.a = (i : Int)
 ·have h' : (o.a == (i : Int)) = true := by simpa using hai
  refine evx h' ?_
  refine a0 (a0a 4607182418800017408) rfl ?_
  refine ev ?_
  have e : sloI o q r dr i = pt 4607182418800017408 := by simp [sloI, hk, hai, oneW]
  rw [e]
  exact f9 rfl (by decide) rfl rfl rfl (by simp) (by simp [ldv])
 ·have h' : (o.a == (i : Int)) = false := by simpa using hai
  refine evbx h' ?_
  refine a0 (a0a 0) rfl ?_
  refine ev ?_
  have e : sloI o q r dr i = pt 0 := by simp [sloI, hk, hai, pt]
  rw [e]
  exact f9 rfl (by decide) rfl rfl rfl (by simp) (by simp [ldv])
variable (ha : 0 <= o.a /\ o.a < r.length) (hb : 0 <= o.b /\ o.b < r.length) (la : (dr.getD o.a.toNat []).length = n) (lb : (dr.getD o.b.toNat []).length = n) (hi : i < n)
include ha hb la lb hi
theorem c3C (hk : o.k = 2) : Con Tryz.prog 250 [jrV, opA o, fI i, ivV q, .d (riD r dr)] (ivV (sloI o q r dr i)) := by
 refine b7 n8 rfl f5 ?_
 refine evx @q7.eq_1 ?_
 refine evbx (And.intro hk (And.intro @riD.eq_1 (And.intro @riG.eq_1 (And.intro @ivD.eq_1 @a5X)))) ?_
 repeat with_reducible refine andO ?_
 refine a0 (v7 (dI dr o.a i) (dI dr o.b i)) rfl ?_
 refine ev ?_
 have e : sloI o q r dr i = y7 (dI dr o.a i) (dI dr o.b i) := by simp [sloI, hk]
 rw [e]
 exact f9 rfl (by decide) rfl rfl rfl (by simp) (by simp [ldv])
theorem c3B (hk : o.k = 3) : Con Tryz.prog 250 [jrV, opA o, fI i, ivV q, .d (riD r dr)] (ivV (sloI o q r dr i)) := by
 refine b7 n8 rfl f5 ?_
 refine evx @q7.eq_1 ?_
 refine evbx (And.intro hk (And.intro @riD.eq_1 (And.intro @riG.eq_1 (And.intro @ivD.eq_1 @a5X)))) ?_
 repeat with_reducible refine andO ?_
 refine a0 (D3 (dI dr o.a i) (dI dr o.b i)) rfl ?_
 refine ev ?_
 have e : sloI o q r dr i = z4 (dI dr o.a i) (dI dr o.b i) := by simp [sloI, hk]
 rw [e]
 exact f9 rfl (by decide) rfl rfl rfl (by simp) (by simp [ldv])
theorem c3A (hk : o.k = 4) : Con Tryz.prog 250 [jrV, opA o, fI i, ivV q, .d (riD r dr)] (ivV (sloI o q r dr i)) := by
 refine b7 n8 rfl f5 ?_
 refine evx @q7.eq_1 ?_
 refine evbx (And.intro hk (And.intro @riD.eq_1 (And.intro @riG.eq_1 (And.intro @ivD.eq_1 @a5X)))) ?_
 repeat with_reducible refine andO ?_
 refine d5 (u8 (dI dr o.a i) (mG r o.b.toNat)) rfl ?_
 refine ev ?_
 repeat with_reducible refine andO ?_
 refine d5 (u8 (mG r o.a.toNat) (dI dr o.b i)) rfl ?_
 refine ev ?_
 repeat with_reducible refine andO ?_
 refine a0 (v7 (s9 (dI dr o.a i) (mG r o.b.toNat)) (s9 (mG r o.a.toNat) (dI dr o.b i))) rfl ?_
 refine ev ?_
 have e : sloI o q r dr i = y7 (s9 (dI dr o.a i) (mG r o.b.toNat)) (s9 (mG r o.a.toNat) (dI dr o.b i)) := by simp [sloI, hk]
 rw [e]
 exact f9 rfl (by decide) rfl rfl rfl (by simp) (by simp [ldv])
theorem c3z (hk : o.k = 5) : Con Tryz.prog 250 [jrV, opA o, fI i, ivV q, .d (riD r dr)] (ivV (sloI o q r dr i)) := by
 refine b7 n8 rfl f5 ?_
 refine evx @q7.eq_1 ?_
 refine evbx (And.intro hk (And.intro @riD.eq_1 (And.intro @riG.eq_1 (And.intro @ivD.eq_1 @a5X)))) ?_
 repeat with_reducible refine andO ?_
 refine d5 (u8 q (dI dr o.b i)) rfl ?_
 refine ev ?_
 repeat with_reducible refine andO ?_
 refine d5 (D3 (dI dr o.a i) (s9 q (dI dr o.b i))) rfl ?_
 refine ev ?_
 repeat with_reducible refine andO ?_
 refine a0 (N8 (z4 (dI dr o.a i) (s9 q (dI dr o.b i))) (mG r o.b.toNat)) rfl ?_
 refine ev ?_
 have e : sloI o q r dr i = T2 (z4 (dI dr o.a i) (s9 q (dI dr o.b i))) (mG r o.b.toNat) := by simp [sloI, hk]
 rw [e]
 exact f9 rfl (by decide) rfl rfl rfl (by simp) (by simp [ldv])
end
theorem c0L (o : OpN) (r : List Iv) (dr : List (List Iv)) (n i : Nat) (q : Iv) (ho : Oko o r.length n) (hdr : ∀ j, j < r.length -> (dr.getD j []).length = n) (hi : i < n) : Con Tryz.prog 250 [jrV, opA o, fI i, ivV q, .d (riD r dr)] (ivV (sloI o q r dr i)) := by
 rcases ho with hk | ⟨hk, ha⟩ | ⟨hk, ha, hb⟩
 ·exact c3E o r dr i q hk
 ·exact c3D o r dr i q hk
 ·have la := hdr o.a.toNat (by omega)
  have lb := hdr o.b.toNat (by omega)
  rcases hk with hk | hk | hk | hk
  ·exact c3C o r dr n i q ha hb la lb hi hk
  ·exact c3B o r dr n i q ha hb la lb hi hk
  ·exact c3A o r dr n i q ha hb la lb hi hk
  ·exact c3z o r dr n i q ha hb la lb hi hk
theorem b7n (r : List Iv) (dr : List (List Iv)) (i : Nat) : (riG r dr i).length = 3 := rfl
theorem c2r (t : Tp) (x : List Iv) (i : Nat) : g7 (i + 1) (riG (regI t x (i + 1)) (drI t x (i + 1))) = g7 i (riG (regI t x i) (drI t x i)) ++ [fl (mG (regI t x (i + 1)) i).1, fl (mG (regI t x (i + 1)) i).2, .d (ivD ((drI t x (i + 1)).getD i []))] := by
 rw [E1]
 have h1 := a9q t x i
 have h2 := a69 t x i
 have e : g7 i (riG (regI t x (i + 1)) (drI t x (i + 1))) = g7 i (riG (regI t x i) (drI t x i)) := by
  unfold g7
  rw [a2E λj hj => ?_]
  have a : mG (regI t x (i + 1)) j = mG (regI t x i) j := by
   unfold mG
   rw [regI, d2d, d2g (by omega), <- d2d]
  have b : (drI t x (i + 1)).getD j [] = (drI t x i).getD j [] := by
   rw [drI, d2d, d2g (by omega), <- d2d]
  simp only [riG, a, b]
 rw [e]; rfl
theorem c2s (t : Tp) (x : List Iv) (i : Nat) : mG (regI t x (i + 1)) i = opI (t.ops.getD i ⟨0, 0, 0, 0⟩) x (regI t x i) := by
 have h1 := a9q t x i
 unfold mG
 rw [regI, d2d, d2j (by omega), h1, Nat.sub_self]; rfl
theorem c6x (t : Tp) (x : List Iv) (i : Nat) : (drI t x (i + 1)).getD i [] = tabI (sloI (t.ops.getD i ⟨0, 0, 0, 0⟩) (opI (t.ops.getD i ⟨0, 0, 0, 0⟩) x (regI t x i)) (regI t x i) (drI t x i)) t.n := by
 have h1 := a69 t x i
 rw [drI, d2d, d2j (by omega), h1, Nat.sub_self]; rfl
theorem b85 (f : Nat -> Iv) (k : Nat) : ivC (tabI f k) ++ [fl (f k).1, fl (f k).2] = ivC (tabI f (k + 1)) := by rw [c1Q, c3y]
theorem c7E {L L' : Heap} {Y r n ver : Nat} {ps : List Iv} (h : L.get Y r = some (ivC ps)) (hn : ps.length = n) (hv : n * 2 = ver) (h' : L'.get Y r = none) : Fz L L' (.sl Y r 0 n 2 ver) (.d (ivD ps)) :=
 .d (b7g (λZ q hZ e => by cases e; exact hZ h') h hn hv)
theorem c39 (ps : List Iv) : g7 ps.length (ivG ps) = ivC ps := by
 have key : ∀ n, n <= ps.length -> g7 n (ivG ps) = ivC (ps.take n) := λn => by
  induction n with
  | zero => intro _; rfl
  | succ n ih =>
   intro h
   rw [E1, ih (by omega), List.take_succ_eq_append_getElem (by omega), <- c3y]
   have e : mG ps n = ps[n] := by simp [mG, d2d, show n < ps.length by omega]
   rw [a5X, e]; rfl
 rw [key _ (d2t _), List.take_length]
theorem b7c (L : Heap) (esz : Nat) (ps : List Iv) : s7 L esz (.d (.bor ps.length (ivG ps))) = some (ivC ps) := by
 simp only [s7]
 rw [<- c39]; rfl
theorem d1j {L L' : Heap} (x : List Iv) : Fz L L' (.d (.bor x.length (ivG x))) (.d (ivD x)) := .d (.d _)
abbrev jrC : List V := [.d (.fn 248 [] []), .d (.fn 200 [] []), .d (.fn 190 [] []), .d (.fn 208 [] []), .d (.fn 244 [] [])]
abbrev jiR (t : Tp) (x : List Iv) (i : Nat) : T := ⟨[(2, .d (ivD x)), (3, .ptr 0 0 0 5), (4, .ptr 1 0 0 3), (7, .sl 10 0 0 i 3 (i * 3)), (16, .d (opsD t.ops)), (17, fI t.ops.length), (18, fI i)],
 [(10, [g7 i (riG (regI t x i) (drI t x i))]), (1, [jtT t]), (0, [jrC])]⟩
abbrev jiS (t : Tp) (x : List Iv) (i k : Nat) : Sl := [(2, .d (ivD x)), (3, .ptr 0 0 0 5), (4, .ptr 1 0 0 3), (7, .sl 10 0 0 i 3 (i * 3)), (9, .ptr 13 0 0 4), (10, .ptr 20 0 0 3), (16, .d (opsD t.ops)), (17, fI t.ops.length), (18, fI i), (29, fI t.n), (30, fI k)]
abbrev jiH (t : Tp) (x : List Iv) (i : Nat) (o : OpN) : Heap := [(13, [opC o]), (10, [g7 i (riG (regI t x i) (drI t x i))]), (1, [jtT t]), (0, [jrC])]
abbrev jiT0 (t : Tp) (x : List Iv) (i : Nat) (o : OpN) (v : Iv) : T := ⟨jiS t x i 0, (20, [[fl v.1, fl v.2, .nil]]) :: jiH t x i o⟩
abbrev jiT1 (t : Tp) (x : List Iv) (i : Nat) (o : OpN) (v : Iv) (f : Nat -> Iv) (k : Nat) : T := ⟨jiS t x i k, (15, [ivC (tabI f k)]) :: (20, [[fl v.1, fl v.2, .sl 15 0 0 k 2 (k * 2)]]) :: jiH t x i o⟩
theorem c8N (t : Tp) (x : List Iv) (i : Nat) (o : OpN) (v : Iv) (f : Nat -> Iv) (hn : t.n < 2 ^ 20) (hn0 : 0 < t.n) (hi : i < 2 ^ 40) (hop : Oko o i t.n) (hf : f = sloI o v (regI t x i) (drI t x i)) (Q : Ex -> T -> Prop)
  (hQ : Q (.exit 2) ⟨[(2, .d (ivD x)), (3, .ptr 0 0 0 5), (4, .ptr 1 0 0 3), (7, .sl 10 0 0 i 3 (i * 3)), (9, .ptr 13 0 0 4), (10, .ptr 20 0 0 3), (16, .d (opsD t.ops)), (17, fI t.ops.length), (18, fI i), (29, fI t.n), (30, fI t.n), (31, fB false)],
   (15, [ivC (tabI f t.n)]) :: (20, [[fl v.1, fl v.2, .sl 15 0 0 t.n 2 (t.n * 2)]]) :: jiH t x i o⟩) :
  WA Tryz.prog (λ_ => False) 73 A_jac_kind_api_Iv_run_L1.loop Q (jiT0 t x i o v) := by
 have hl := a9q t x i
 have hdl := a69 t x i
 have hrow := b4s t x i
 have hcl := u9 i (λj _ => b7n (regI t x i) (drI t x i) j)
 have hcon : ∀ k, k < t.n -> Con Tryz.prog 250 [jrV, opA o, fI k, ivV v, .d (riD (regI t x i) (drI t x i))] (ivV (f k)) := λk hk => by
  rw [hf]; exact c0L o _ _ t.n k v (by rw [hl]; exact hop) (λj hj => hrow j (by omega)) hk
 have sc : ∀ p : Iv, Scalar (ivV p) := λp => a5D [p]
 clear hf hrow
 refine j5 (n := t.n) (λc s => ∃ k, c + k = t.n /\ ((k = 0 /\ s = jiT0 t x i o v) \/ (0 < k /\ s = jiT1 t x i o v f k))) (Le.refl _) ⟨0, by omega, .inl ⟨rfl, rfl⟩⟩ ?_
 rintro c s ⟨k, hc, ⟨rfl, rfl⟩ | ⟨hk, rfl⟩⟩
 ·refine evx @A_jac_kind_api_Iv_run_L1.eq_1 ?_
  have h0 : decide ((0 : Int) < (t.n : Int)) = true := by simpa using hn0
  refine evx h0 ?_
  refine a1G [jrV, opA o, fI (0 : Nat), ivV v, .d (riD (regI t x i) (drI t x i))] (hcon 0 hn0) ⟨.aggs ⟨.bare _, .bare _, .bare _, .bare _, .bare _, trivial⟩, .aggs ⟨.bare _, .bare _, .bare _, .bare _, trivial⟩, .bare _, .aggs ⟨.bare _, .bare _, trivial⟩, ?_, trivial⟩ (sc _) ?_
  ·have e : riD (regI t x i) (drI t x i) = .bor i (riG (regI t x i) (drI t x i)) := by unfold riD; rw [hl]
   rw [e]
   exact a3D (by simp [b0c, d8, g5]) (λj _ => rfl) rfl
  refine ev ?_
  refine ⟨c - 1, jiT1 t x i o v f 1, by omega, ?_, 1, by omega, .inr ⟨by decide, rfl⟩⟩
  refine Le.trans (LeT.only (L' := (31, [[fl (f 0).1, fl (f 0).2]]) :: (20, [[fl v.1, fl v.2, .sl 31 0 0 1 2 2]]) :: jiH t x i o) (λX => X != 30) (λ_ h => h) rfl (by simp [kpS]) (by simp [kpS])) ?_
  refine Le.trans (LeT.move 15 (by decide) (by simp [d6, d9]) (by simp [d6, d9]) (λh => h)) ?_
  have e1 : renS (absF 31 15 0) (jiS t x i 1) = jiS t x i 1 := by simp [renS, V.ren, absF]
  have e2 : Heap.renH (absF 31 15 0) ((20, [[fl v.1, fl v.2, .sl 31 0 0 1 2 2]]) :: jiH t x i o) = (20, [[fl v.1, fl v.2, .sl 15 0 0 1 2 2]]) :: jiH t x i o := by
   simp [Heap.renH, V.ren, absF, b2t]
  have e3 : [fl (f 0).1, fl (f 0).2].map (V.ren (absF 31 15 0)) = ivC (tabI f 1) := by simp [V.ren, tabI, ivC]
  rw [e2, e3]
  exact (congrArg (λz => Le (λ_ => False) (T.s 73 ⟨z, (jiT1 t x i o v f 1).L⟩) (T.s 73 (jiT1 t x i o v f 1))) e1).mpr (Le.refl _)
 ·have hrl := a1s f k
  refine evx @A_jac_kind_api_Iv_run_L1.eq_1 ?_
  refine b9 (λh => ?_) (λh => ?_)
  ·replace h := d2b h
   refine ev ?_
   refine a1G [jrV, opA o, fI k, ivV v, .d (riD (regI t x i) (drI t x i))] (hcon k h) ⟨.aggs ⟨.bare _, .bare _, .bare _, .bare _, .bare _, trivial⟩, .aggs ⟨.bare _, .bare _, .bare _, .bare _, trivial⟩, .bare _, .aggs ⟨.bare _, .bare _, trivial⟩, ?_, trivial⟩ (sc _) ?_
   ·have e : riD (regI t x i) (drI t x i) = .bor i (riG (regI t x i) (drI t x i)) := by unfold riD; rw [hl]
    rw [e]
    exact a3D (by simp [b0c, d8, g5]) (λj _ => rfl) rfl
   refine ev ?_
   repeat with_reducible refine andO ?_
   rw [f0 (by omega) (by omega), b85, show k * 2 + 2 = (k + 1) * 2 by omega]
   exact ⟨c - 1, _, by omega, LeT.only (λX => decide (X <= 20)) (λ_ h => h) rfl (by simp (maxDischargeDepth := 6) [kpS, d6, d9, x5]) (by simp (maxDischargeDepth := 6) [kpS, d6, d9, x5]), k + 1, by omega, .inr ⟨by omega, rfl⟩⟩
  ·replace h := d2c h
   have e : k = t.n := by omega
   subst e
   refine evx @Nat.lt_irrefl ?_
   exact hQ
def ivsD (J : List (List Iv)) : D := .bor J.length λi => [ivD (J.getD i [])]
def jiG (t : Tp) (x : List Iv) (i : Nat) : D := ivD ((jacI t x).getD i [])
theorem c58 (t : Tp) (x : List Iv) (ht : Tok t) (hx : x.length = t.n) (hn0 : 0 < t.n) : Con Tryz.prog 205 [jrV, R7 t, .d (ivD x)] (.d (ivsD (jacI t x))) := by
 have hn := ht.n
 have hlen := ht.len
 refine b7 Z0 rfl f5 ?_
 refine evx @Q8.eq_1 ?_
 refine evx @opsD.eq_1 ?_
 refine j5 (n := t.ops.length) (λc s => ∃ i, c + i = t.ops.length /\ s = jiR t x i)
  (LeT.nilrow (X := 10) (esz := 3) (as' := (jiR t x 0).sl) (by simp [d6, d9]) (λh => h) λi => ?_) ⟨0, by omega, rfl⟩ ?_
 ·simp only [look]
  repeat' split
  all_goals simp [ivD, opsD]
 rintro c s ⟨i, hc, rfl⟩
 have hl := a9q t x i
 have hdl := a69 t x i
 have hcl := u9 i (λj _ => b7n (regI t x i) (drI t x i) j)
 refine evx (And.intro @J4.eq_1 @opsD.eq_1) ?_
 refine b9 (λh => ?_) (λh => ?_)
 ·replace h := d2b h
  have hop := ht.op i h
  have hra := c2s t x i
  have hda := c6x t x i
  generalize ho : t.ops.getD i ⟨0, 0, 0, 0⟩ = o at hop hra hda
  refine evx (And.intro @opG.eq_1 ho) ?_
  repeat with_reducible refine andO ?_
  refine B6 [jrV, opA o, .d (ivD x), .d (riD (regI t x i) (drI t x i))] (c0H o x (regI t x i) (drI t x i) t.n (by rw [hl]; exact hop) hx) ⟨.aggs ⟨.bare _, .bare _, .bare _, .bare _, .bare _, trivial⟩, .aggs ⟨.bare _, .bare _, .bare _, .bare _, trivial⟩, .bare _, ?_, trivial⟩ (a5D [opI o x (regI t x i)]) ?_
  ·have e : riD (regI t x i) (drI t x i) = .bor i (riG (regI t x i) (drI t x i)) := by unfold riD; rw [hl]
   rw [e]
   exact a3D (by simp [d8, g5]) (λj _ => rfl) rfl
  refine ev ?_
  have hr1 := c2r t x i
  rw [hra, hda] at hr1
  generalize hv1 : opI o x (regI t x i) = v at hr1
  refine c8N t x i o v _ ht.n hn0 (by omega) hop rfl _ ?_
  generalize sloI o v (regI t x i) (drI t x i) = f at hr1
  have hfl := a1s f t.n
  refine ev ?_
  repeat with_reducible refine andO ?_
  have e2 : i * 3 + 3 = (i + 1) * 3 := by omega
  rw [f0 (by omega) (by omega), e2]
  have hz : ∀ L L' : Heap, L.get 15 0 = some (ivC (tabI f t.n)) -> L'.get 15 0 = none -> Fz L L' (.sl 15 0 0 t.n 2 (t.n * 2)) (.d (ivD (tabI f t.n))) := λL L' a b => c7E a hfl rfl b
  refine ⟨c - 1, jiR t x (i + 1), by omega, ?_, i + 1, by omega, rfl⟩
  unfold jiR
  rw [hr1]
  exact LeT.weak (λ_ h => h) (by simp (maxDischargeDepth := 6) [fzS, d1j]) (by simp (maxDischargeDepth := 6) [fzS, hz])
 ·replace h := d2c h
  have e : i = t.ops.length := by omega
  subst e
  refine ev ?_
  repeat with_reducible refine andO ?_
  rw [b5K t.n (jiG t x)]
  have hgl := ht.outl
  refine j5 (n := t.n) (λc s => ∃ i, c + i = t.n /\ s = ⟨[(7, .sl 10 0 0 t.ops.length 3 (t.ops.length * 3)), (12, .sl 13 0 0 t.n 1 t.n), (55, .d (rowI t.out)), (56, fI t.n), (57, fI i)],
   [(13, [outC t.n (jiG t x) i]), (10, [g7 t.ops.length (riG (regI t x t.ops.length) (drI t x t.ops.length))]), (1, [jtT t]), (0, [jrC])]⟩) (by rw [<- hgl]; exact Le.refl _) ⟨0, by omega, rfl⟩ ?_
  rintro c s ⟨i, hc, rfl⟩
  have hol := a5K t.n (jiG t x) i
  refine evx @J3.eq_1 ?_
  refine b9 (λh => ?_) (λh => ?_)
  ·replace h := d2b h
   have hgo := ht.out i h
   have hjr : (jacI t x).getD i [] = (drI t x t.ops.length).getD (t.out.getD i 0).toNat [] := by
    unfold jacI
    rw [d2d, List.getElem?_map, List.getElem?_range h]; rfl
   have hjl : ((jacI t x).getD i []).length = t.n := by rw [hjr]; exact b4s t x _ _ (by omega)
   have hcg := P0 t.ops.length (λj _ => b7n (regI t x t.ops.length) (drI t x t.ops.length) j) (t.out.getD i 0).toNat 2 (by omega) (by decide)
   have hg2 : (riG (regI t x t.ops.length) (drI t x t.ops.length) (t.out.getD i 0).toNat).getD 2 default = ivD ((jacI t x).getD i []) := by rw [hjr]; rfl
   rw [hg2] at hcg
   refine evx (And.intro hcg @b7c) ?_
   repeat with_reducible refine andO ?_
   rw [hjl, f0 (by omega) (by omega)]
   have hz : ∀ L L' : Heap, L.get 21 0 = some (ivC ((jacI t x).getD i [])) -> L'.get 21 0 = none -> Fz L L' (.sl 21 0 0 t.n 2 (t.n * 2)) (.d (jiG t x i)) := λL L' a b => c7E a hjl rfl b
   refine ⟨c - 1, _, by omega, ?_, i + 1, by omega, rfl⟩
   exact LeT.weak (λ_ h => h) (by simp (maxDischargeDepth := 6) [fzS]) (by simp (maxDischargeDepth := 6) [fzS, hz, a71])
  ·replace h := d2c h
   have e : i = t.n := by omega
   subst e
   refine ev ?_
   rw [b8N]
   refine j6 (.sl 13 0 0 t.n 1 t.n) (λ_ h => h) (f8 (t := 6) (by decide) rfl) ?_
   unfold ivsD
   rw [b83]
   exact .d (y6 (esz := 1) (λY q h => by simp [g5] at h) (by simp [d8]; rfl) (λj hj => rfl) (by simp))
theorem c4G (t : Tp) (x : List Iv) (ht : Tok t) (hx : x.length = t.n) (hn0 : 0 < t.n) : Con Tryz.prog 152 [R7 t, .d (ivD x)] (.d (ivsD (jacI t x))) := by
 refine b7 a89 rfl f5 ?_
 refine evx @b07.eq_1 ?_
 refine d5 (b7N) rfl ?_
 refine ev ?_
 refine a0 (c58 t x ht hx hn0) rfl ?_
 refine ev ?_
 exact g9
end Go.Ab
namespace Go.Ab
open Go Go.Proofs
def Rk (m k : Nat) (Z : List (List Nat)) : Prop := Z.length = m /\ ∀ r, r < m -> (Z.getD r []).length = k
theorem c7z {m k : Nat} {Z : List (List Nat)} (h : Rk m k Z) (i j v : Nat) : Rk m k (up2 Z i j v) := by
 refine ⟨by simp [up2, h.1], λr hr => ?_⟩
 have := h.2 r hr
 simp only [up2, d2d, List.getElem?_set]
 by_cases e : i = r
 ·subst e
  have hl : i < Z.length := by rw [h.1]; exact hr
  have hr2 := h.2 i hr
  rw [d2d] at hr2
  simp only [hl, d2f, Option.getD_some] at hr2
  simp [hl, hr2]
 ·rw [if_neg e, <- d2d]; exact this
theorem c82 (s : Bool) (r : Nat) (h : r < 9218868437227405312) : cf (Ieee.double.word s r) = Ieee.double.word s r := u7 (r6 s r h)
theorem b0r (s : Bool) (r : Nat) (h : r <= 9218868437227405312) : cw (cf (Ieee.double.word s r)) := by
 by_cases e : r = 9218868437227405312
 ·subst e
  cases s
  ·exact .inr (.inl (by decide +kernel))
  ·exact .inr (.inr (.inl (by decide +kernel)))
 ·exact .inr (.inr (.inr ⟨s, r, by omega, c82 s r (by omega)⟩))
theorem c6y (d : Ieee.Datum) : cw (cf (Ieee.double.write d)) := by
 cases d with
 | number s m i =>
  show cw (cf (Ieee.double.nearest s m i))
  unfold Ieee.Format.nearest
  have q4 : Ieee.double.infRung = 9218868437227405312 := rfl
  split
  ·exact b0r s 0 (by decide)
  ·simp only [q4]; exact b0r s _ (Nat.min_le_right _ _)
 | infinity s => exact b0r s _ (d2t _)
 | nan s t =>
  have q3 : Ieee.double.binade = 4503599627370496 := rfl
  have q4 : Ieee.double.infRung = 9218868437227405312 := rfl
  show cw (cf (Ieee.double.word s (Ieee.double.infRung + t % Ieee.double.binade)))
  rw [q3, q4]
  by_cases h : t % 4503599627370496 = 0
  ·rw [h]; exact b0r s _ (by decide)
  ·refine .inl (a7Y ?_)
   have hs : s.toNat <= 1 := by cases s <;> decide
   unfold j7
   rw [a2g]
   simp only [decide_eq_true_eq]
   omega
theorem A9 (o : FOp) (x y : Nat) : cw (fop o x y) := by
 have key : ∀ r : Option Ieee.Datum, cw (((r.map Ieee.double.write).map cf).getD qnan) := λr => by
  cases r with
  | none => exact .inl rfl
  | some d => exact c6y d
 unfold fop
 cases o <;> exact key _
theorem L4 : cw 0 := .inr (.inr (.inr ⟨false, 0, by decide, rfl⟩))
def Cw (Z : List (List Nat)) : Prop := ∀ r i, cw (at2 Z r i)
theorem c4x (A : List (List Nat)) (i j v r c : Nat) : at2 (up2 A i j v) r c = if r = i /\ c = j /\ i < A.length /\ j < (A.getD i []).length then v else at2 A r c := by
 unfold at2 up2
 simp only [d2d, List.getElem?_set]
 by_cases e : i = r
 ·subst e
  by_cases h1 : i < A.length
  ·simp only [h1, if_true, Option.getD_some, true_and, List.getElem?_set]
   by_cases e2 : j = c
   ·subst e2
    by_cases h2 : j < (A[i]?.getD []).length
    ·simp [h2]
    ·simp only [h2, if_false, and_false, if_true]
     simp [show A[i].length <= j by simp [h1] at h2; omega, h1]
   ·simp only [e2, if_false, h1, d2f, Option.getD_some]
    rw [if_neg (λh => e2 h.1.symm)]
  ·simp only [h1, if_true, if_false, false_and, and_false]
   simp [show A.length <= i by omega]
 ·rw [if_neg e, if_neg (λh => e h.1.symm)]
theorem c7F {Z : List (List Nat)} (h : Cw Z) (i j v : Nat) (hv : cw v) : Cw (up2 Z i j v) := λr c => by
 rw [c4x]; split
 ·exact hv
 ·exact h r c
def addI (Z : List (List Nat)) (k : Nat) : Nat -> List (List Nat)
 | 0 => Z
 | i + 1 => up2 (addI Z k i) k i (fop .add (at2 (addI Z k i) k i) (at2 (addI Z k i) (k + 1) i))
def b1C (Z : List (List Nat)) (n hi : Nat) : Nat -> List (List Nat)
 | 0 => Z
 | c + 1 => addI (b1C Z n hi c) (hi - c) n
def b5H (Z : List (List Nat)) (n q : Nat) : Nat -> List (List Nat)
 | 0 => Z
 | j + 1 => b1C (b5H Z n q j) n (q - 1) (q - j)
def a16 (Z : List (List Nat)) (n q : Nat) : List (List Nat) := b5H Z n q q
def mapI (g : Nat -> Nat -> Nat -> Nat) (Z : List (List Nat)) (j : Nat) : Nat -> List (List Nat)
 | 0 => Z
 | i + 1 => up2 (mapI g Z j i) j i (g j i (at2 (mapI g Z j i) j i))
def mapJ (g : Nat -> Nat -> Nat -> Nat) (Z : List (List Nat)) (n : Nat) : Nat -> List (List Nat)
 | 0 => Z
 | j + 1 => mapI g (mapJ g Z n j) j n
theorem c4B {m n : Nat} {Z : List (List Nat)} (h : Rk m n Z) (k i : Nat) : Rk m n (addI Z k i) := by
 induction i with
 | zero => exact h
 | succ i ih => exact c7z ih _ _ _
theorem b8H {m n : Nat} {Z : List (List Nat)} (h : Rk m n Z) (hi c : Nat) : Rk m n (b1C Z n hi c) := by
 induction c with
 | zero => exact h
 | succ c ih => exact c4B ih _ _
theorem b8J {m n : Nat} {Z : List (List Nat)} (h : Rk m n Z) (q j : Nat) : Rk m n (b5H Z n q j) := by
 induction j with
 | zero => exact h
 | succ j ih => exact b8H ih _ _
theorem a9Z {m n : Nat} (g : Nat -> Nat -> Nat -> Nat) {Z : List (List Nat)} (h : Rk m n Z) (j i : Nat) : Rk m n (mapI g Z j i) := by
 induction i with
 | zero => exact h
 | succ i ih => exact c7z ih _ _ _
theorem a4R {m n : Nat} (g : Nat -> Nat -> Nat -> Nat) {Z : List (List Nat)} (h : Rk m n Z) (k j : Nat) : Rk m n (mapJ g Z k j) := by
 induction j with
 | zero => exact h
 | succ j ih => exact a9Z g ih _ _
theorem c9c {Z : List (List Nat)} (h : Cw Z) (k i : Nat) : Cw (addI Z k i) := by
 induction i with
 | zero => exact h
 | succ i ih => exact c7F ih _ _ _ (A9 _ _ _)
theorem c5x {Z : List (List Nat)} (h : Cw Z) (n hi c : Nat) : Cw (b1C Z n hi c) := by
 induction c with
 | zero => exact h
 | succ c ih => exact c9c ih _ _
theorem c5y {Z : List (List Nat)} (h : Cw Z) (n q j : Nat) : Cw (b5H Z n q j) := by
 induction j with
 | zero => exact h
 | succ j ih => exact c5x ih _ _ _
theorem c8w {g : Nat -> Nat -> Nat -> Nat} (hg : ∀ j i x, cw x -> cw (g j i x)) {Z : List (List Nat)} (h : Cw Z) (j i : Nat) : Cw (mapI g Z j i) := by
 induction i with
 | zero => exact h
 | succ i ih => exact c7F ih _ _ _ (hg _ _ _ (ih _ _))
theorem c27 {g : Nat -> Nat -> Nat -> Nat} (hg : ∀ j i x, cw x -> cw (g j i x)) {Z : List (List Nat)} (h : Cw Z) (n j : Nat) : Cw (mapJ g Z n j) := by
 induction j with
 | zero => exact h
 | succ j ih => exact c8w hg ih _ _
theorem c8x {m n : Nat} (g : Nat -> Nat -> Nat -> Nat) {Z : List (List Nat)} (h : Rk m n Z) (j i : Nat) (hj : j < m) (hi : i <= n) : ∀ r c, at2 (mapI g Z j i) r c = if r = j /\ c < i then g j c (at2 Z j c) else at2 Z r c := by
 induction i with
 | zero => intro r c; simp [mapI]
 | succ i ih =>
  intro r c
  have hk := a9Z g h j i
  have ih := ih (by omega)
  show at2 (up2 (mapI g Z j i) j i (g j i (at2 (mapI g Z j i) j i))) r c = _
  have e0 : at2 (mapI g Z j i) j i = at2 Z j i := by rw [ih j i, if_neg (by omega)]
  rw [c4x, e0, ih r c, hk.1, hk.2 j hj]
  by_cases e : r = j
  ·subst e
   by_cases e2 : c = i
   ·subst e2
    rw [if_pos ⟨rfl, rfl, hj, by omega⟩, if_pos ⟨rfl, by omega⟩]
   ·rw [if_neg (by omega)]
    by_cases e3 : c < i
    ·rw [if_pos ⟨rfl, e3⟩, if_pos ⟨rfl, by omega⟩]
    ·rw [if_neg (by omega), if_neg (by omega)]
  ·rw [if_neg (by omega), if_neg (by omega), if_neg (by omega)]
theorem c28 {m n : Nat} (g : Nat -> Nat -> Nat -> Nat) {Z : List (List Nat)} (h : Rk m n Z) (k : Nat) (hk : k <= m) : ∀ r c, at2 (mapJ g Z n k) r c = if r < k /\ c < n then g r c (at2 Z r c) else at2 Z r c := by
 induction k with
 | zero => intro r c; simp [mapJ]
 | succ k ih =>
  intro r c
  have ih := ih (by omega)
  show at2 (mapI g (mapJ g Z n k) k n) r c = _
  have e0 : at2 (mapJ g Z n k) k c = at2 Z k c := by rw [ih k c, if_neg (by omega)]
  rw [c8x g (a4R g h n k) k n (by omega) (d2t _), e0, ih r c]
  by_cases e : r = k
  ·subst e
   by_cases e2 : c < n
   ·rw [if_pos ⟨rfl, e2⟩, if_pos ⟨by omega, e2⟩]
   ·rw [if_neg (by omega), if_neg (by omega), if_neg (by omega)]
  ·rw [if_neg (by omega)]
   by_cases e2 : r < k /\ c < n
   ·rw [if_pos e2, if_pos ⟨by omega, e2.2⟩]
   ·rw [if_neg e2, if_neg (by omega)]
theorem d07 {m n : Nat} {A B : List (List Nat)} (hA : Rk m n A) (hB : Rk m n B) (h : ∀ r c, r < m -> c < n -> at2 A r c = at2 B r c) : A = B := by
 refine List.ext_getElem (hA.1.trans hB.1.symm) λr h1 h2 => ?_
 have hr : r < m := by have := hA.1; omega
 have e1 := hA.2 r hr
 have e2 := hB.2 r hr
 have g1 : A.getD r [] = A[r] := by simp [d2d, h1]
 have g2 : B.getD r [] = B[r] := by simp [d2d, h2]
 rw [g1] at e1
 rw [g2] at e2
 refine List.ext_getElem (e1.trans e2.symm) λc h3 h4 => ?_
 have k1 := h r c hr (by omega)
 unfold at2 at k1
 rw [g1, g2] at k1
 simpa [d2d, h3, h4] using k1
def a44 (Z : List (List Nat)) (l d : List Nat) (m n : Nat) : List (List Nat) := mapJ (λk i x => fop .add x (fop .mul (l.getD k 0) (d.getD i 0))) Z n m
def J9 (Z : List (List Nat)) (k : Int) (m n : Nat) : List (List Nat) := mapJ (λj _ x => scl x (j * k)) Z n m
theorem a6R {Z : List (List Nat)} {m n : Nat} (h : Rk m n Z) (hc : Cw Z) : J9 Z 0 m n = Z := by
 refine d07 (a4R _ h _ _) h λr c hr hc' => ?_
 unfold J9
 rw [c28 _ h m (d2t _), if_pos ⟨hr, hc'⟩, Int.mul_zero]
 exact b8B (hc r c)
theorem a3R {m n : Nat} {Z : List (List Nat)} (h : Rk m n Z) (l d : List Nat) (a b : Nat) : Rk m n (a44 Z l d a b) := a4R _ h _ _
theorem J8 {m n : Nat} {Z : List (List Nat)} (h : Rk m n Z) (k : Int) (a b : Nat) : Rk m n (J9 Z k a b) := a4R _ h _ _
theorem a9r {m n : Nat} {Z : List (List Nat)} (h : Rk m n Z) (q : Nat) : Rk m n (a16 Z n q) := b8J h _ _
theorem a6b {Z : List (List Nat)} (h : Cw Z) (l d : List Nat) (m n : Nat) : Cw (a44 Z l d m n) := c27 (λ_ _ _ _ => A9 _ _ _) h _ _
theorem c4a {b : Nat} (h : b < 2 ^ 64) : cw (cf b) := by
 by_cases hn : j7 b = true
 ·exact .inl (a7Y hn)
 ·have hr : b % 9223372036854775808 <= 9218868437227405312 := by
   unfold j7 at hn; simp at hn; exact hn
  have e : b = Ieee.double.word (decide (9223372036854775808 <= b)) (b % 9223372036854775808) := by
   rw [a2g]
   by_cases h1 : 9223372036854775808 <= b
   ·simp [h1]; omega
   ·simp [h1]; omega
  rw [e]
  exact b0r _ _ hr
theorem c6z (f : Nat) : cw (b1N 0 f) := by
 unfold b1N
 have := a3T .or (A6 .andNot .u64 ((0 : Nat) : Int) 9223372036854775808) (A6 .and .u64 (f : Int) 9223372036854775808)
 exact c4a (by omega)
theorem c9Q (x : Nat) (k : Int) (h : cw x) : cw (scl x k) := by
 unfold scl
 split
 ·exact h
 split
 ·exact h
 simp only
 split
 ·exact c6z _
 split
 ·split
  ·exact .inr (.inr (.inl rfl))
  ·exact .inr (.inl rfl)
 split
 ·exact A9 _ _ _
 ·exact A9 _ _ _
theorem b5r {Z : List (List Nat)} (h : Cw Z) (k : Int) (m n : Nat) : Cw (J9 Z k m n) := c27 (λ_ _ x hx => c9Q x _ hx) h _ _
theorem a5H {Z : List (List Nat)} (h : Cw Z) (n q : Nat) : Cw (a16 Z n q) := c5y h _ _ _
def hor (Z : List (List Nat)) (q s i : Nat) : Nat -> Nat
 | 0 => at2 Z q i
 | c + 1 => fop .add (fop .mul (hor Z q s i c) s) (at2 Z (q - 1 - c) i)
def atP (Z : List (List Nat)) (q n s : Nat) : List Nat := tabR (λi => hor Z q s i q) n
def a5z (t : Tp) (y : List Nat) (h : Nat) : List (List Nat) := [y, tabR (λi => fop .mul h ((b4m t y).getD i 0)) t.n]
theorem a9m {L : Heap} {X : Nat} {x : D} (h : L.get X 0 = some [.d x]) : Snap L (.ptr X 0 0 1) (.d (.bptr [x])) :=
 .ptr h rfl (by simp) (by simp) λj hj => by
  rcases j with _ | j
  ·exact .d x
  ·simp at hj
end Go.Ab
namespace Go.Ab
open Nat renaming reduceEqDiff -> n1_, reduceAdd -> n2_, reduceMul -> n3_, reduceLT -> n4_, reduceLeDiff -> n5_
open Int renaming reduceToNat -> i1_, reduceAdd -> i2_, reduceSub -> i3_, reduceMul -> i4_, reduceNeg -> i5_, reduceLT -> i6_, reduceLE -> i7_
open Go Go.Proofs
def a6H : CA := (.seq (.reg [i_N 0 12 .lss 11 10] [3, 4, 10, 11, 12]) (.seq (.cond (.t 12) .skip (.exit 0)) (.seq (.block 1 (.seq (.reg [i_M 0 13 11, i_M 1 5 13] [3, 4, 5, 10, 11]) (.seq (.reg [i_M 0 14 3, i_M 1 15 5, i_X 2 16 (.callA (.t 14) [(.t 15)]), i_M 3 6 16] [3, 4, 5, 6, 10, 11]) (.seq (.seq (.reg [i_M 0 17 6, i_X 1 18 (.callA (kF 130) [(.t 17)])] [3, 4, 5, 6, 10, 11, 18]) (.cond (.t 18) (.seq (.reg [i_X 0 19 (.callA (kF 87) [(kI 1)]), i_M 1 2 19] [2]) .ret) .skip)) (.seq (.reg [i_M 0 20 5, i_B 1 21 .eql 20 0, i_M 2 22 21, g_F 3 23 22 (.h (.mov (.t 6))), g_F 4 24 22 (.h (.mov (.t 4))), g_F 5 25 22 (.h (.fcmp .gt (.t 23) (.t 24))), i_X 6 26 (.h (.pick (.t 22) (.k (.d (.bool true))) (.t 25)))] [3, 4, 6, 10, 11, 26]) (.cond (.t 26) (.reg [i_M 0 27 6, i_M 1 4 27] [3, 4, 10, 11]) .skip)))))) (.reg [i_B 0 28 .add 11 1, i_M 1 11 28] [3, 4, 10, 11]))))
def b3c : CA := (.seq (.reg [i_X 0 1 (.box (.t 0) 1 131), i_X 1 2 (.h (.mov (.k (.d (.flt 0)))))] [1]) (.seq (.reg [i_X 0 7 (.h (.mkfn 203 [] [(.t 1)])), i_M 1 3 7] [1, 3]) (.seq (.reg [i_X 0 8 (.callA (kF 87) [(.k (.d (.int .i64 (-1))))]), i_M 1 4 8] [1, 3, 4]) (.seq (.seq (.reg [i_L 0 9 1 1, i_X 1 10 (.h (.len (.t 9))), i_K 2 11 0] [3, 4, 10, 11]) (.block 0 (.loop a6H))) (.seq (.reg [i_M 0 29 4, i_M 1 2 29] [2]) .ret)))))
theorem b06 : f7 Tryz.prog 151 = some ⟨30, [(2, none)], b3c.strip⟩ := by kernel_rfl
def a3n : CA := (.seq (.reg [i_N 0 21 .lss 20 19] [0, 4, 18, 19, 20, 21]) (.seq (.cond (.t 21) .skip (.exit 0)) (.seq (.block 1 (.seq (.reg [i_M 0 22 20, i_I 1 23 18 20 2, i_A 2 24 23 2, i_X 3 6 (.alloc [fl 0, fl 0] 83), i_M 4 5 22, i_S 5 6 24 2] [0, 4, 5, 6, 18, 19, 20]) (.seq (.reg [i_M 0 25 5, i_M 1 26 0, i_N 2 27 .neq 25 26] [0, 4, 6, 18, 19, 20, 27]) (.cond (.t 27) (.reg [i_M 0 28 4, i_A 1 29 6 2, i_X 2 30 (.callA (kF 192) [(.t 29)]), i_F 3 31 .add 28 30, i_X 4 32 (.callA (kF 148) [(.t 31)]), i_M 5 4 32] [0, 4, 18, 19, 20]) .skip)))) (.reg [i_B 0 33 .add 20 1, i_M 1 20 33] [0, 4, 18, 19, 20]))))
def a8w : CA := (.seq (.reg [i_X 0 3 (.h (.mov (.k (.d (.flt 0)))))] [0, 1]) (.seq (.reg [i_L 0 7 1 1, i_M 1 8 0, i_I 2 9 7 8 1, i_L 3 10 9 1, i_M 4 11 0, i_I 5 12 10 11 2, i_P 6 13 12 1, i_L 7 14 13 1, i_M 8 4 14] [0, 1, 4]) (.seq (.seq (.reg [i_L 0 15 1 1, i_M 1 16 0, i_I 2 17 15 16 1, i_L 3 18 17 1, i_X 4 19 (.h (.len (.t 18))), i_K 5 20 0] [0, 4, 18, 19, 20]) (.block 0 (.loop a3n))) (.seq (.reg [i_M 0 34 4, i_M 1 3 34] [3]) .ret))))
theorem a7E : f7 Tryz.prog 203 = some ⟨35, [(3, none)], a8w.strip⟩ := by kernel_rfl
theorem b37 (J : List (List Iv)) (n i : Nat) (hJ : J.length = n) (hr : ∀ i, i < n -> (J.getD i []).length = n) (hn : n < 2 ^ 40) (hi : i < n) : Con Tryz.prog 203 [fI i, .d (.bptr [ivsD J])] (fl (rowS (J.getD i []) i n)) := by
 have hl := hr i hi
 refine b7 a7E rfl f5 ?_
 refine evx @a8w.eq_1 ?_
 refine evx (And.intro @ivsD.eq_1 (And.intro @ivD.eq_1 @a5X)) ?_
 repeat with_reducible refine andO ?_
 generalize J.getD i [] = l at hl ⊢
 refine j5 (n := n) (λc s => ∃ k, c + k = n /\ s = ⟨[(0, fI i), (4, fl (rowS l i k)), (18, .d (ivD l)), (19, fI n), (20, fI k)], []⟩) (s0 := ⟨_, _⟩) (by rw [<- hl]; exact Le.refl _) ⟨0, by omega, rfl⟩ ?_
 rintro c s ⟨k, hc, rfl⟩
 refine evx @a3n.eq_1 ?_
 refine b9 (λh => ?_) (λh => ?_)
 ·replace h := d2b h
  have hk : k < n := by omega
  refine evx (And.intro @ivD.eq_1 @a5X) ?_
  repeat with_reducible refine andO ?_
  by_cases hki : k = i
  ·subst hki
   refine ev ?_
   rw [f0 (by omega) (by omega)]
   have e : rowS l k (k + 1) = rowS l k k := by rw [rowS, if_pos rfl]
   refine ⟨c - 1, _, by omega, LeT.only (λX => false) (λ_ h => h) rfl (by simp [kpS]) (by simp [kpS]), k + 1, by omega, ?_⟩
   rw [e]; rfl
  ·have h2 : ((k : Int) != (i : Int)) = true := by simp; omega
   refine evx h2 ?_
   refine a0 (a3K (l.getD k (0, 0))) rfl ?_
   refine ev ?_
   refine a0 (F6 _) rfl ?_
   refine ev ?_
   rw [f0 (by omega) (by omega)]
   have e : rowS l i (k + 1) = up (fop .add (rowS l i k) (Q4 (mG l k))) := by rw [rowS, if_neg hki]
   refine ⟨c - 1, _, by omega, LeT.only (λX => false) (λ_ h => h) rfl (by simp [kpS]) (by simp [kpS]), k + 1, by omega, ?_⟩
   rw [e]; rfl
 ·replace h := d2c h
  obtain rfl : k = n := by omega
  refine ev ?_
  exact g9
theorem c8Y {s : Nat} (h : cw s) (hn : j7 s = false) (hg : fcmp .gt s s8 = false) : s = s8 := by
 have rd : Ieee.double.read s8 = .infinity true := by decide
 rcases h with rfl | rfl | rfl | ⟨b, r, hr, rfl⟩
 ·have : j7 qnan = true := by decide
  rw [this] at hn; cases hn
 ·have : fcmp .gt finf s8 = true := by decide
  rw [this] at hg; cases hg
 ·rfl
 ·obtain ⟨s', m, i, hd⟩ := m8 b r hr
  have : fcmp .gt (Ieee.double.word b r) s8 = true := by simp [fcmp, Ieee.Format.order, hd, rd, Ieee.Datum.order]
  rw [this] at hg; cases hg
def Jcw (J : List (List Iv)) : Prop := ∀ i, cw (mG (J.getD i []) i).2
theorem b61 {x : Nat} (h : cw x) : cw (up x) := by
 have key : ∀ b : Int, cw (cf (IntKind.wrap .u64 b).toNat) := λb => c4a (by have := P2 b; omega)
 unfold up a8L
 repeat' split
 ·exact .inl rfl
 ·exact h
 ·exact c4a (by decide)
 ·exact key _
 ·exact key _
theorem c74 (l : List Iv) (i k : Nat) (h : cw (mG l i).2) : cw (rowS l i k) := by
 induction k with
 | zero => exact h
 | succ k ih =>
  rw [rowS]; split
  ·exact ih
  ·exact b61 (A9 _ _ _)
theorem b5X (J : List (List Iv)) (n : Nat) (hJ : J.length = n) (hr : ∀ i, i < n -> (J.getD i []).length = n) (hn : n < 2 ^ 40) (hcw : Jcw J) : Con Tryz.prog 151 [.d (ivsD J)] (fl (a6X J)) := by
 have e1 : a6X J = (a6W J n).getD finf := by unfold a6X; rw [hJ]
 rw [e1]
 refine b7 b06 rfl f5 ?_
 refine evx @b3c.eq_1 ?_
 refine a0 (Q2) rfl ?_
 simp -implicitDefEqProofs only [evI, hv, effC, reduceCtorEq, ↓reduceIte, n1_, n2_, n3_, n4_, n5_, i1_, i2_, i3_, i4_, i5_, i6_, i7_, ivsD, fnOf, allD]
 refine j5 (n := n) (λc s => ∃ i b, c + i = n /\ a6W J i = some b /\ (i = 0 -> b = s8) /\ s = ⟨[(3, .fn 203 [] [.ptr 0 0 0 1]), (4, fl b), (10, fI n), (11, fI i)], [(0, [[.d (ivsD J)]])]⟩) (s0 := ⟨_, _⟩) (by rw [<- hJ]; exact Le.refl _) ⟨0, s8, by omega, rfl, λ_ => rfl, rfl⟩ ?_
 rintro c s ⟨i, b, hc, hb, hb0, rfl⟩
 refine evx @a6H.eq_1 ?_
 refine b9 (λh => ?_) (λh => ?_)
 ·replace h := d2b h
  have hi : i < n := by omega
  have hs : ∀ s, rowS (J.getD i []) i n = s -> a6W J (i + 1) = if j7 s = true then none else some (if fcmp .gt s b = true then s else b) := λs e => by
   rw [a6W, hb, hJ, e]
  have hk := b37 J n i hJ hr hn hi
  have hc1 := c74 (J.getD i []) i n (hcw i)
  refine ev ?_
  refine B6 [fI i, .d (.bptr [ivsD J])] hk ⟨.bare _, a9m rfl, trivial⟩ (.flt _) ?_
  generalize hs1 : rowS (J.getD i []) i n = s at hc1 ⊢
  have hs2 := hs s hs1
  refine ev ?_
  refine a0 (t9 s) rfl ?_
  refine ev ?_
  refine b9 (λh3 => ?_) (λh3 => ?_)
  ·rw [if_pos h3] at hs2
   refine ev ?_
   refine a0 (y3) rfl ?_
   refine ev ?_
   have : a6W J n = none := by
    have key : ∀ m, i + 1 <= m -> a6W J m = none := λm hm => by
     induction m with
     | zero => omega
     | succ m ih =>
      by_cases e : i = m
      ·subst e; exact hs2
      ·rw [a6W, ih (by omega)]
    exact key n (by omega)
   rw [this]
   exact g9
  ·rw [if_neg (by simp [h3])] at hs2
   by_cases hi0 : i = 0
   ·subst hi0
    have hb1 := hb0 rfl
    subst hb1
    refine ev ?_
    rw [f0 (by omega) (by omega)]
    have e2 : (if fcmp .gt s s8 = true then s else s8) = s := by
     split
     ·rfl
     ·rename_i h4; exact (c8Y hc1 h3 (by simpa using h4)).symm
    rw [e2] at hs2
    exact ⟨c - 1, _, by omega, Le.refl _, 0 + 1, s, by omega, hs2, λh => by omega, rfl⟩
   ·have h4 : ((i : Int) == 0) = false := by simp; omega
    refine evx h4 ?_
    refine b9 (λh5 => ?_) (λh5 => ?_)
    ·rw [if_pos h5] at hs2
     refine ev ?_
     rw [f0 (by omega) (by omega)]
     exact ⟨c - 1, _, by omega, Le.refl _, i + 1, s, by omega, hs2, λh => by omega, rfl⟩
    ·rw [if_neg (by simp [h5])] at hs2
     refine ev ?_
     rw [f0 (by omega) (by omega)]
     exact ⟨c - 1, _, by omega, Le.refl _, i + 1, b, by omega, hs2, λh => by omega, rfl⟩
 ·replace h := d2c h
  obtain rfl : i = n := by omega
  refine ev ?_
  rw [hb]
  exact g9
theorem c0J (x : Nat) : Con Tryz.prog 206 [fl x] (fl (b52 x)) := by
 unfold b52
 refine b7 b4X rfl f5 ?_
 refine evx @b9N.eq_1 ?_
 refine a0 (t9 x) rfl ?_
 refine ev ?_
 cases hx : j7 x
 ·refine ev ?_
  cases h2 : fcmp .ge x 4647714815446351872
  ·refine ev ?_
   rw [if_neg (by decide)]
   generalize hy : T2 (pt oneW) (z4 (pt oneW) (T2 (pt x) (pt 4652218415073722368))) = y
   refine a0 (a0b 4607182418800017408) rfl ?_
   refine ev ?_
   refine a0 (a0b 4607182418800017408) rfl ?_
   refine ev ?_
   refine a0 (a0b x) rfl ?_
   refine ev ?_
   refine a0 (a0b 4652218415073722368) rfl ?_
   refine ev ?_
   refine a0 (N8 (pt x) (pt 4652218415073722368)) rfl ?_
   refine ev ?_
   refine a0 (D3 (pt 4607182418800017408) (T2 (pt x) (pt 4652218415073722368))) rfl ?_
   refine ev ?_
   refine a0 (N8 (pt 4607182418800017408) (z4 (pt 4607182418800017408) (T2 (pt x) (pt 4652218415073722368)))) rfl ?_
   have hy' : T2 (pt 4607182418800017408) (z4 (pt 4607182418800017408) (T2 (pt x) (pt 4652218415073722368))) = y := hy
   rw [hy']
   refine ev ?_
   refine r5 (n := 10) (λc s => ∃ k, c + k = 10 /\ s = ⟨[(3, .ptr 8 0 0 2), (19, fI k)], [(8, [[fl (sqI y k).1, fl (sqI y k).2]])]⟩) ⟨0, by omega, rfl⟩ ?_
   rintro c s ⟨k, hc, rfl⟩
   refine evx @b1j.eq_1 ?_
   refine b9 (λh => ?_) (λh => ?_)
   ·replace h := d2b h
    refine ev ?_
    refine a0 (u8 (sqI y k) (sqI y k)) rfl ?_
    refine ev ?_
    rw [f0 (by omega) (by omega)]
    exact ⟨c - 1, by omega, k + 1, by omega, rfl⟩
   ·replace h := d2c h
    obtain rfl : k = 10 := by omega
    refine ev ?_
    exact g9
  ·refine ev ?_
   refine a0 (y3) rfl ?_
   refine ev ?_
   exact g9
 ·refine ev ?_
  refine a0 (y3) rfl ?_
  refine ev ?_
  exact g9
abbrev zI : Nat -> Iv := λ_ => (0, 0)
def J5 : CA := (.seq (.reg [i_X 0 5 (.h (.mov (.k (.d (.flt 0)))))] [0, 1, 2, 3]) (.seq (.reg [i_X 0 6 (.h (.mov (.k (.d (.flt 0)))))] [0, 1, 2, 3, 6]) (.seq (.seq (.reg [i_L 0 7 1 1, i_M 1 8 0, i_N 2 9 .eql 7 8] [0, 1, 2, 3, 6, 9]) (.cond (.t 9) (.reg [i_X 0 6 (.h (.mov (.k (.d (.flt 4607182418800017408)))))] [0, 1, 2, 3, 6]) .skip)) (.seq (.reg [i_M 0 10 6, i_L 1 11 2 1, i_L 2 12 3 1, i_L 3 13 1 1, i_I 4 14 12 13 1, i_L 5 15 14 1, i_M 6 16 0, i_I 7 17 15 16 1, i_L 8 18 17 1, i_F 9 19 .mul 11 18, i_F 10 20 .sub 10 19, i_M 11 5 20] [5]) .ret))))
theorem T8 : f7 Tryz.prog 234 = some ⟨21, [(5, none)], J5.strip⟩ := by kernel_rfl
def N1 : CA := (.seq (.reg [i_X 0 4 (.box (.t 0) 1 3), i_X 1 5 (.h (.mov (.k .nil)))] [1, 2, 3, 4]) (.seq (.reg [i_L 0 6 1 1, i_X 1 7 (.h (.nilck (.t 6))), i_P 2 8 7 0, i_A 3 9 8 1, i_X 4 10 (.h (.mkfn 234 [] [(.t 4), (.t 2), (.t 3)])), i_X 5 11 (.callA (kF 227) [(.t 9), (.t 10)]), i_M 6 5 11] [5]) .ret))
theorem X7 : f7 Tryz.prog 233 = some ⟨12, [(5, none)], N1.strip⟩ := by kernel_rfl
def U5 : CA := (.seq (.reg [i_X 0 1 (.box (.t 0) 1 217), i_X 1 2 (.h (.mov (.k .nil)))] [1]) (.seq (.reg [i_L 0 5 1 1, i_X 1 6 (.h (.nilck (.t 5))), i_P 2 7 6 1, i_A 3 8 7 3, i_L 4 9 1 1, i_X 5 10 (.h (.nilck (.t 9))), i_P 6 11 10 4, i_L 7 12 11 1, i_X 8 13 (.h (.idx (.t 12) (kI 0) 1)), i_L 9 14 13 1, i_X 10 15 (.callS 0 (kF 231) [(.t 8), (.t 14)]), i_X 11 3 (.alloc [.nil] 38), i_S 12 3 15 1] [1, 3]) (.seq (.reg [i_L 0 16 1 1, i_X 1 17 (.h (.nilck (.t 16))), i_P 2 18 17 6, i_L 3 19 18 1, i_L 4 20 1 1, i_X 5 21 (.h (.nilck (.t 20))), i_P 6 22 21 5, i_L 7 23 22 1, i_X 8 24 (.h (.idx (.t 23) (kI 0) 1)), i_L 9 25 24 1, i_F 10 26 .mul 19 25, i_X 11 4 (.alloc [fl 0] 31), i_S 12 4 26 1] [1, 3, 4]) (.seq (.reg [i_L 0 27 1 1, i_X 1 28 (.h (.nilck (.t 27))), i_P 2 29 28 0, i_P 3 30 29 0, i_L 4 31 30 1, i_X 5 32 (.h (.build [fI 0] [(0, (1, (.t 31)))])), i_X 6 33 (.h (.mkfn 233 [] [(.t 1), (.t 4), (.t 3)])), i_X 7 34 (.callA (kF 232) [(.t 32), (.t 33)]), i_M 8 2 34] [2]) .ret))))
theorem a0M : f7 Tryz.prog 182 = some ⟨35, [(2, none)], U5.strip⟩ := by kernel_rfl
def C9 : CA := (.seq (.reg [i_N 0 13 .lss 12 11] [1, 5, 11, 12, 13]) (.seq (.cond (.t 13) .skip (.exit 0)) (.seq (.block 1 (.seq (.reg [i_M 0 14 12, i_M 1 6 14] [1, 5, 6, 11, 12]) (.reg [i_M 0 15 5, i_M 1 16 6, i_M 2 17 1, i_M 3 18 6, i_X 4 19 (.callA (.t 17) [(.t 18)]), i_I 5 20 15 16 1, i_S 6 20 19 1] [1, 5, 11, 12]))) (.reg [i_B 0 21 .add 12 1, i_M 1 12 21] [1, 5, 11, 12]))))
def F4 : CA := (.seq (.reg [i_X 0 2 (.box (.t 0) 1 250), i_X 1 4 (.h (.mov (.k .nil)))] [1, 2]) (.seq (.reg [i_P 0 7 2 0, i_L 1 8 7 1, i_X 2 9 (.mksl [.nil] 1 24 (.t 8) (.t 8) 30), i_M 3 5 9] [1, 5]) (.seq (.seq (.reg [i_M 0 10 5, i_X 1 11 (.h (.len (.t 10))), i_K 2 12 0] [1, 5, 11, 12]) (.block 0 (.loop C9))) (.seq (.reg [i_M 0 22 5, i_M 1 4 22] [4]) .ret))))
theorem P1 : f7 Tryz.prog 232 = some ⟨23, [(4, none)], F4.strip⟩ := by kernel_rfl
def matE (t : Tp) (z : List (List Nat)) (l : List Nat) (h i k : Nat) : Nat := fop .sub (if i = k then oneW else 0) (fop .mul (fop .mul h (l.getD 0 0)) (((jacT t (z.getD 0 [])).getD i []).getD k 0))
def matT (t : Tp) (z : List (List Nat)) (l : List Nat) (h : Nat) : List (List Nat) := (List.range t.n).map λi => tabR (matE t z l h i) t.n
theorem b8X (t : Tp) (z : List (List Nat)) (l : List Nat) (h i : Nat) (hi : i < t.n) : (matT t z l h).getD i [] = tabR (matE t z l h i) t.n := by
 unfold matT
 rw [d2d, List.getElem?_map, List.getElem?_range hi]; rfl
theorem c26 (t : Tp) (z : List (List Nat)) (l : List Nat) (h : Nat) : Sq t.n (matT t z l h) := ⟨by simp [matT], λi hi => by rw [b8X _ _ _ _ _ hi]; exact k8 _ _⟩
theorem c51 (t : Tp) (x : List Nat) (ht : Tok t) (i : Nat) (hi : i < t.n) : ((jacT t x).getD i []).length = t.n := by
 have hgo := ht.out i hi
 have hjr : (jacT t x).getD i [] = (drs t x t.ops.length).getD (t.out.getD i 0).toNat [] := by
  unfold jacT
  rw [d2d, List.getElem?_map, List.getElem?_range hi]; rfl
 rw [hjr]; exact b4r t x _ _ (by omega)
theorem b6g (f : FuncId) (cap : List D) (n : Nat) (A : List (List Nat)) (hA : Sq n A) (hn : n < 2 ^ 20) (hf : ∀ i : Nat, i < n -> AC Tryz.prog f (fI i :: cap.map .d) [] [(0, [rowV (A.getD i [])])] (.sl 0 0 0 n 1 n)) :
  AC Tryz.prog 232 [.agg [fI n], .d (.fn f [] cap)] [] [(20, A.map rowV), (3, [hdo 20 0 n n])] (.sl 3 0 0 n 1 n) := by
 obtain ⟨hl, hr⟩ := hA
 refine k9 P1 rfl f5 (λ_ => False) (by simp [g5]) ?_
 refine evx @F4.eq_1 ?_
 repeat with_reducible refine andO ?_
 refine j5 (n := n) (λc s => ∃ i, c + i = n /\ s = ⟨[(1, .d (.fn f [] cap)), (5, .sl 3 0 0 n 1 n), (11, fI n), (12, fI i)], [(20, (A.take i).map rowV), (3, [hd 20 n i n]), (0, [[fI n]])]⟩) (s0 := ⟨_, _⟩) ?_ ⟨0, by omega, rfl⟩ ?_
 ·rw [b7U]
  exact LeT.empty (L1 := []) (by simp [d6, d9])
 rintro c s ⟨i, hc, rfl⟩
 refine evx @C9.eq_1 ?_
 refine b9 (λh => ?_) (λh => ?_)
 ·replace h := d2b h
  refine ev ?_
  have e1 := hr i h
  refine F7 110 (fI i :: cap.map .d) (by simp [Heap.next]) (hf i h) ⟨.bare _, b93 _ _⟩ ?_
  refine ev ?_
  refine ⟨h, by omega, ?_⟩
  rw [f0 (by omega) (by omega)]
  refine ⟨c - 1, _, by omega, LeT.absorb (by decide) rfl rfl (λh => h), i + 1, by omega, ?_⟩
  have e2 : ((A.take i).map rowV).length = i := by simp; omega
  rw [e2, a2n, Z5, a9k A i (by omega)]
  simp only [renS, Heap.renH, a4L _ _ _ _ _ _ _ _ _ (by decide : (3 : Nat) ≠ 110), c75, List.map_cons, List.map_nil, a98 110 20 _ _ _ (by decide) h]
  rfl
 ·replace h := d2c h
  have e : i = n := by omega
  subst e
  refine ev ?_
  have e : A.take i = A := d2r (by omega)
  have hk1 : ∀ L : Heap, L.fam 20 = some (A.map rowV) -> KpA L (hdo 20 0 i i) := λL hL => L7 hL (by omega)
  rw [e, c7j]
  exact m5 (λX => X == 20 || X == 3) (λ_ h => h) (f8 (t := 4) (by decide) rfl) rfl (by simp (maxDischargeDepth := 6) [kpS, d6, d9]) (by simp (maxDischargeDepth := 6) [kpS, d6, d9, hk1])
section
variable (t : Tp) (z : List (List Nat)) (l : List Nat) (h : Nat) (w d : List Nat) (p q : D) (ok : Sok t z l w d)
include ok
theorem b5U (i k : Nat) (hi : i < t.n) (hk : k < t.n) : Con Tryz.prog 234 [fI k, .d (.bptr [.int .i64 i]), .d (.bptr [.flt (fop .mul h (l.getD 0 0))]), .d (.bptr [g6 (jacT t (z.getD 0 []))])] (fl (matE t z l h i k)) := by
 obtain ⟨ht, hz, hzl, hl, hw, hd⟩ := ok
 have j1 := b82 t (z.getD 0 [])
 have j2 := c51 t (z.getD 0 []) ht i hi
 refine b7 T8 rfl f5 ?_
 refine evx @J5.eq_1 ?_
 by_cases hik : i = k
 ·have h' : ((i : Int) == (k : Int)) = true := by simp [hik]
  refine evx h' ?_
  repeat with_reducible refine andO ?_
  have e : matE t z l h i k = fop .sub 4607182418800017408 (fop .mul (fop .mul h (l.getD 0 0)) (((jacT t (z.getD 0 [])).getD i []).getD k 0)) := by unfold matE; rw [if_pos hik]; rfl
  rw [e]
  exact g9
 ·have h' : ((i : Int) == (k : Int)) = false := by simp; omega
  refine evx h' ?_
  repeat with_reducible refine andO ?_
  have e : matE t z l h i k = fop .sub 0 (fop .mul (fop .mul h (l.getD 0 0)) (((jacT t (z.getD 0 [])).getD i []).getD k 0)) := by unfold matE; rw [if_neg hik]
  rw [e]
  exact g9
theorem c0z (i : Nat) (hi : i < t.n) : AC Tryz.prog 233 [fI i, .d (.bptr [.bptr (svC t z l h w d p q)]), .d (.bptr [.flt (fop .mul h (l.getD 0 0))]), .d (.bptr [g6 (jacT t (z.getD 0 []))])] [] [(0, [rowV ((matT t z l h).getD i [])])] (.sl 0 0 0 t.n 1 t.n) := by
 have ok' := ok
 obtain ⟨ht, hz, hzl, hl, hw, hd⟩ := ok'
 have hn := ht.n
 rw [b8X _ _ _ _ _ hi]
 refine a5v (X := 120) ?_
 refine k9 X7 rfl f5 (λ_ => False) (by simp [g5]) ?_
 refine evx (And.intro @N1.eq_1 (And.intro @svC.eq_1 @c6q)) ?_
 have e1 := a68 234 [.bptr [.int .i64 i], .bptr [.flt (fop .mul h (l.getD 0 0))], .bptr [g6 (jacT t (z.getD 0 []))]] t.n (matE t z l h i) (by omega) (λk hk => b5U t z l h w d ok i k hi hk)
 refine F7 120 _ (by simp [Heap.next]) e1 ⟨.aggs ⟨.bare _, trivial⟩, .fun3 (.box rfl (.bare _)) (.bare _) (.bare _), trivial⟩ ?_
 refine ev ?_
 exact m5 (λX => X == 120) (λ_ h => h) (f8 (t := 5) (by decide) rfl) rfl (by simp [kpS]) (by simp [kpS])
theorem c25 (hn0 : 0 < t.n) : AC Tryz.prog 182 [.d (.bptr (svC t z l h w d p q))] [] [(120, (matT t z l h).map rowV), (103, [hdo 120 0 t.n t.n])] (.sl 103 0 0 t.n 1 t.n) := by
 have ok' := ok
 obtain ⟨ht, hz, hzl, hl, hw, hd⟩ := ok'
 have hn := ht.n
 have hz0 := hzl 0 (by omega)
 have hsq := c26 t z l h
 refine k9 a0M rfl f5 (λ_ => False) (by simp [g5]) ?_
 refine evx (And.intro @U5.eq_1 @svC.eq_1) ?_
 repeat with_reducible refine andO ?_
 first | refine a0 (a4V t (z.getD 0 []) ht hz0 hn0) rfl ?_ | refine d7 (a4V t (z.getD 0 []) ht hz0 hn0) rfl ?_ | refine d5 (a4V t (z.getD 0 []) ht hz0 hn0) rfl ?_
 refine evx @svC.eq_1 ?_
 repeat with_reducible refine andO ?_
 refine evx @c3X ?_
 have e1 := b6g 233 [.bptr [.bptr (svC t z l h w d p q)], .bptr [.flt (fop .mul h (l.getD 0 0))], .bptr [g6 (jacT t (z.getD 0 []))]] t.n (matT t z l h) hsq hn (λi hi => c0z t z l h w d p q ok i hi)
 refine B0 100 _ (by simp [Heap.next]) e1 ⟨.aggs ⟨.bare _, trivial⟩, .fun3 (.box rfl (.bare _)) (.box rfl (.bare _)) (.box rfl (.bare _)), trivial⟩ ?_
 refine ev ?_
 have hk1 : ∀ L : Heap, L.fam 120 = some ((matT t z l h).map rowV) -> KpA L (hdo 120 0 t.n t.n) := λL hL => L7 hL (by rw [hsq.1]; exact d2t _)
 exact m5 (λX => X == 120 || X == 103) (λ_ h => h) (f8 (t := 2) (by decide) rfl) rfl (by simp (maxDischargeDepth := 6) [kpS, d6, d9]) (by simp (maxDischargeDepth := 6) [kpS, d6, d9, hk1])
end
end Go.Ab
namespace Go.Ab
open Go Go.Proofs
def X9 : CA := (.seq (.reg [i_X 0 4 (.h (.mov (.k (.d (.flt 0)))))] [0, 1, 2]) (.seq (.reg [i_L 0 5 1 1, i_M 1 6 0, i_I 2 7 5 6 1, i_L 3 8 7 1, i_L 4 9 2 1, i_X 5 10 (.h (.nilck (.t 9))), i_P 6 11 10 8, i_L 7 12 11 1, i_M 8 13 0, i_I 9 14 12 13 1, i_L 10 15 14 1, i_F 11 16 .sub 8 15, i_M 12 4 16] [4]) .ret))
theorem a1d : f7 Tryz.prog 236 = some ⟨17, [(4, none)], X9.strip⟩ := by kernel_rfl
def X8 : CA := (.seq (.reg [i_X 0 4 (.h (.mov (.k (.d (.flt 0)))))] [0, 1, 2]) (.seq (.reg [i_L 0 5 1 1, i_M 1 6 0, i_I 2 7 5 6 1, i_L 3 8 7 1, i_L 4 9 2 1, i_M 5 10 0, i_I 6 11 9 10 1, i_L 7 12 11 1, i_F 8 13 .add 8 12, i_M 9 4 13] [4]) .ret))
theorem a1c : f7 Tryz.prog 237 = some ⟨14, [(4, none)], X8.strip⟩ := by kernel_rfl
def a1f : CA := (.seq (.reg [i_X 0 1 (.box (.t 0) 1 217), i_X 1 2 (.h (.mov (.k (.d (.flt 0)))))] [1]) (.seq (.reg [i_L 0 6 1 1, i_X 1 7 (.callA (kF 226) [(.t 6)]), i_X 2 3 (.alloc [.nil] 30), i_S 3 3 7 1] [1, 3]) (.seq (.reg [i_L 0 8 1 1, i_X 1 9 (.h (.nilck (.t 8))), i_P 2 10 9 9, i_A 3 11 10 2, i_L 4 12 1 1, i_X 5 13 (.h (.nilck (.t 12))), i_P 6 14 13 0, i_A 7 15 14 1, i_X 8 16 (.h (.mkfn 236 [] [(.t 3), (.t 1)])), i_X 9 17 (.callS 9 (kF 227) [(.t 15), (.t 16)]), i_X 10 18 (.callS 0 (kF 235) [(.t 11), (.t 17)]), i_X 11 4 (.alloc [.nil] 30), i_S 12 4 18 1] [1, 4]) (.seq (.reg [i_L 0 19 1 1, i_X 1 20 (.h (.nilck (.t 19))), i_P 2 21 20 8, i_L 3 22 21 1, i_X 4 5 (.alloc [.nil] 30), i_S 5 5 22 1] [1, 4, 5]) (.seq (.reg [i_L 0 23 1 1, i_L 1 24 1 1, i_X 2 25 (.h (.nilck (.t 24))), i_P 3 26 25 0, i_A 4 27 26 1, i_X 5 28 (.h (.mkfn 237 [] [(.t 5), (.t 4)])), i_X 6 29 (.callS 6 (kF 227) [(.t 27), (.t 28)]), i_X 7 30 (.h (.nilck (.t 23))), i_P 8 31 30 8, i_S 9 31 29 1] [1, 4]) (.seq (.reg [i_L 0 32 4 1, i_L 1 33 1 1, i_X 2 34 (.h (.nilck (.t 33))), i_P 3 35 34 7, i_L 4 36 35 1, i_X 5 37 (.callA (kF 139) [(.t 32), (.t 36)]), i_M 6 2 37] [2]) .ret))))))
theorem a2d : f7 Tryz.prog 183 = some ⟨38, [(2, none)], a1f.strip⟩ := by kernel_rfl
def gdS (t : Tp) (z : List (List Nat)) (l : List Nat) (h : Nat) (d : List Nat) : List Nat := tabR (λi => fop .sub ((gS t z l h d).getD i 0) (d.getD i 0)) t.n
def xB (t : Tp) (z : List (List Nat)) (l : List Nat) (h : Nat) (B : List (List Nat)) (π : List Int) (d : List Nat) : List Nat := b2m B π (gdS t z l h d) t.n
def dB (t : Tp) (z : List (List Nat)) (l : List Nat) (h : Nat) (B : List (List Nat)) (π : List Int) (d : List Nat) : List Nat := tabR (λi => fop .add (d.getD i 0) ((xB t z l h B π d).getD i 0)) t.n
def tryB (t : Tp) (z : List (List Nat)) (l : List Nat) (h : Nat) (w : List Nat) (B : List (List Nat)) (π : List Int) (d : List Nat) : List Nat × Nat := (dB t z l h B π d, szP (xB t z l h B π d) w)
theorem b92 (B : List (List Nat)) (π : List Int) (b : List Nat) (n : Nat) : (b2m B π b n).length = n := by unfold b2m; rw [b9u, b88]
section
variable (t : Tp) (z : List (List Nat)) (l : List Nat) (h : Nat) (w d : List Nat) (p q : D) (ok : Sok t z l w d)
include ok
theorem c6G (g : List Nat) (hg : g.length = t.n) (i : Nat) (hi : i < t.n) : Con Tryz.prog 236 [fI i, .d (.bptr [rowD g]), .d (.bptr [.bptr (svC t z l h w d p q)])] (fl (fop .sub (g.getD i 0) (d.getD i 0))) := by
 obtain ⟨ht, hz, hzl, hl, hw, hd⟩ := ok
 refine b7 a1d rfl f5 ?_
 refine evx @X9.eq_1 ?_
 refine evx @svC.eq_1 ?_
 repeat with_reducible refine andO ?_
 exact g9
omit ok in
theorem c6F (x y : List Nat) (n : Nat) (hx : x.length = n) (hy : y.length = n) (i : Nat) (hi : i < n) : Con Tryz.prog 237 [fI i, .d (.bptr [rowD x]), .d (.bptr [rowD y])] (fl (fop .add (x.getD i 0) (y.getD i 0))) := by
 refine b7 a1c rfl f5 ?_
 refine evx @X8.eq_1 ?_
 repeat with_reducible refine andO ?_
 exact g9
variable (B : List (List Nat)) (π : List Int) (hB : Sq t.n B) (hπ : Pm t.n π)
include hB hπ
theorem d0X : AC Tryz.prog 183 [.ptr 16 0 0 11] [(16, [svV t z l h w 14 (.d (g6 B)) (.d (rowI π))]), (14, [rowV d]), (1, [[.nil, fI 0, fI 0]]), (0, [[fI t.n, .d (opsD t.ops), .d (rowI t.out)]])]
  [(124, [rowV (dB t z l h B π d)]), (16, [svV t z l h w 124 (.d (g6 B)) (.d (rowI π))]), (14, [rowV d]), (1, [[.nil, fI 0, fI 0]]), (0, [[fI t.n, .d (opsD t.ops), .d (rowI t.out)]])] (fl (szP (xB t z l h B π d) w)) := by
 have ok' := ok
 obtain ⟨ht, hz, hzl, hl, hw, hd⟩ := ok'
 have hn := ht.n
 refine k9 a2d rfl f5 (λX => X <= 16) ?_ ?_
 ·intro X q
  simp only [d8, g5]
  repeat' split
  all_goals simp
  all_goals omega
 refine evx @a1f.eq_1 ?_
 have hg : (gS t z l h d).length = t.n := k8 _ _
 have hgd : (gdS t z l h d).length = t.n := k8 _ _
 refine F7 100 [.d (.bptr (svC t z l h w d (g6 B) (rowI π)))] (by simp [Heap.next]) (b5p t z l h w d (g6 B) (rowI π) ok) ⟨a4H t z l h w d (g6 B) (rowI π) (X := 14) (pv := .d (g6 B)) (qv := .d (rowI π)) rfl rfl hd (.bare _) (.bare _), trivial⟩ ?_
 refine evx @a2A ?_
 have e2 := a68 236 [.bptr [rowD (gS t z l h d)], .bptr [.bptr (svC t z l h w d (g6 B) (rowI π))]] t.n _ (by omega) (λi hi => c6G t z l h w d (g6 B) (rowI π) ok _ hg i hi)
 refine a6f _ e2 ⟨.aggs ⟨.bare _, trivial⟩, .fun2 (.box rfl (N3 rfl hg rfl)) (.box rfl (a4H t z l h w d (g6 B) (rowI π) (X := 14) (pv := .d (g6 B)) (qv := .d (rowI π)) rfl rfl hd (.bare _) (.bare _))), trivial⟩ rfl ?_
 refine ev ?_
 have e3 := a5v (b32 B π (gdS t z l h d) t.n hB hπ hgd (by omega))
 change AC Tryz.prog 235 _ [] [(0, [rowV (xB t z l h B π d)])] _ at e3
 have hx : (xB t z l h B π d).length = t.n := b92 _ _ _ _
 rw [show tabR (λi => fop .sub ((gS t z l h d).getD i 0) (d.getD i 0)) t.n = gdS t z l h d from rfl]
 refine a6f _ e3 ⟨.aggs ⟨.bare _, .bare _, trivial⟩, N3 (by simp [b0c, d8]) hgd rfl, trivial⟩ rfl ?_
 refine evx @a2A ?_
 have e4 := a68 237 [.bptr [rowD d], .bptr [rowD (xB t z l h B π d)]] t.n _ (by omega) (λi hi => c6F d (xB t z l h B π d) t.n hd hx i hi)
 refine a6f _ e4 ⟨.aggs ⟨.bare _, trivial⟩, .fun2 (.box rfl (N3 rfl hd rfl)) (.box rfl (N3 rfl hx rfl)), trivial⟩ rfl ?_
 refine ev ?_
 refine B6 [.d (rowD (xB t z l h B π d)), .d (rowD w)] (a1E _ w (by omega) (by omega)) ⟨N3 rfl hx rfl, .bare _, trivial⟩ (.flt _) ?_
 refine ev ?_
 refine m7 (λX => decide (X <= 16) || X == 124) (λX h => by simp [h]) (f8 (t := 2) (by decide) rfl) rfl (by simp [kpS]) (by simp [kpS])
end
end Go.Ab
namespace Go.Ab
open Go Go.Proofs
theorem c2H (A : List (List Nat)) (n : Nat) : ∀ m, m <= n -> ∀ B π, K4 A n m = some (B, π) -> Pm n π := by
 intro m
 induction m with
 | zero =>
  intro _ B π h
  simp only [K4, Option.some.injEq, Prod.mk.injEq] at h
  obtain ⟨_, rfl⟩ := h
  exact ⟨by simp, λi hi => by simp [d2d, hi]⟩
 | succ m ih =>
  intro hm B π h
  simp only [K4, Option.bind_eq_some_iff] at h
  obtain ⟨⟨C, σ⟩, h1, h2⟩ := h
  obtain ⟨h3, h4⟩ := ih (by omega) C σ h1
  simp only [c1Z] at h2
  split at h2
  ·cases h2
  ·simp only [Option.some.injEq, Prod.mk.injEq] at h2
   obtain ⟨_, rfl⟩ := h2
   have hp := b8G C m (n - 1 - m)
   generalize pvP C m (n - 1 - m) = p at hp
   refine ⟨by simp [a5y, h3], λi hi => ?_⟩
   have a := h4 m (by omega)
   have b := h4 p (by omega)
   have c := h4 i hi
   simp only [d2d] at a b c
   simp only [a5y, d2d, List.getElem?_set, List.length_set]
   by_cases e : p = i
   ·subst e; simpa [h3, hi] using a
   ·rw [if_neg e]
    by_cases e2 : m = i
    ·subst e2; simpa [h3, hi] using b
    ·rw [if_neg e2]; exact c
theorem c2B (n : Nat) (b : Bool) : PureV (.tup [luV n, fB b]) := by
 refine .tup λj hj => ?_
 rcases j with _ | _ | j
 ·refine .agg λj hj => ?_
  rcases j with _ | _ | j
  ·exact .sl ..
  ·exact .sl ..
  ·simp at hj; omega
 ·exact .bool _
 ·simp at hj; omega
theorem c0f (xs : List Nat) : ∀ j, j < (rowV xs).length -> PureV ((rowV xs).getD j .any) := by
 intro j hj
 have : j < xs.length := by simpa using hj
 rw [j8 _ _ this]; exact .flt _
theorem c5w (B : List (List Nat)) (π : List Int) (n : Nat) : ∀ X q cells, Heap.get (luH B π n) X q = some cells -> ∀ j, j < cells.length -> PureV (cells.getD j .any) := by
 have two : ∀ j, j < 2 -> PureV ([V.sl 2 0 0 n 1 n, V.sl 5 0 0 n 1 n].getD j .any) := by
  intro j hj
  rcases j with _ | _ | j
  ·exact .sl ..
  ·exact .sl ..
  ·omega
 intro X q cells hX j hj
 simp only [luH, d8, g5] at hX
 split at hX
 ·rcases q with _ | q <;> simp at hX; subst hX; exact two j (by simpa using hj)
 ·split at hX
  ·rcases q with _ | q <;> simp at hX; subst hX
   have hj' : j < π.length := by simpa using hj
   have := a3L π j hj'
   rw [this]; exact .int _ _
  ·split at hX
   ·rcases q with _ | q
    ·simp at hX; subst hX
     have hj' : j < n := by simpa [y8] using hj
     rw [u6 _ _ _ _ _ hj']; exact .sl ..
    ·simp only [List.getElem?_cons_succ, List.getElem?_map] at hX
     obtain ⟨xs, _, rfl⟩ := Option.map_eq_some_iff.1 hX
     exact c0f xs j hj
   ·split at hX
    ·rcases q with _ | q <;> simp at hX; subst hX; exact two j (by simpa using hj)
    ·cases hX
theorem b7v {L : Heap} {H r0 X o n : Nat} {A B : List (List Nat)} {π : List Int} (k : Nat) (hk : L.next <= k) (hA : Sq n A) (hn : n < 2 ^ 40) (hH : L.get H r0 = some (hdo X o n n)) (hX : ∀ r, r < n -> L.get X (r + o) = some (rowV (A.getD r [])))
  (hp : K4 A n n = some (B, π)) (K : V -> Heap -> Prop)
  (h : K (.tup [.agg [.sl (2 + k) 0 0 n 1 n, .sl (5 + k) 0 0 n 1 n], fB true]) ((7 + k, [[.sl (2 + k) 0 0 n 1 n, .sl (5 + k) 0 0 n 1 n]]) :: (5 + k, [k7 π]) :: (2 + k, hdo (2 + k) 1 n n :: B.map rowV) :: (0 + k, [[.sl (2 + k) 0 0 n 1 n, .sl (5 + k) 0 0 n 1 n]]) :: L)) :
  b1U Tryz.prog 181 [.sl H r0 0 n 1 n] L K := by
 refine B7 (a6N k hk (us := [.d (g6 A)]) (b33 A n hA hn B π hp) rfl (.inr ⟨λj hj => ?_, c2B n true, c5w B π n⟩)) ?_
 ·obtain rfl : j = 0 := by simpa using hj
  exact b3w hH (λr hr => ⟨hX r hr, hA.2 r hr⟩) hA.1 rfl
 have hh : (hdo 2 1 n n).map (V.ren (upF k)) = hdo (2 + k) 1 n n := b4f _ 2 1 n n (2 + k) 1 (λj _ => rfl)
 have hf : (B.map rowV).map (λc => c.map (V.ren (upF k))) = B.map rowV := a2n _ B
 have hi' : (k7 π).map (V.ren (upF k)) = k7 π := a9F _ _
 simpa only [Heap.up, luH, luV, V.ren, V.renL, hh, hf, hi', upF, List.map_cons, List.map_nil, List.cons_append, List.nil_append] using h
theorem a9L {L : Heap} {H r0 X o n : Nat} {A : List (List Nat)} (hA : Sq n A) (hn : n < 2 ^ 40) (hH : L.get H r0 = some (hdo X o n n)) (hX : ∀ r, r < n -> L.get X (r + o) = some (rowV (A.getD r [])))
  (hp : K4 A n n = none) (K : V -> Heap -> Prop) (h : K (.tup [.agg [.nil, .nil], fB false]) L) : b1U Tryz.prog 181 [.sl H r0 0 n 1 n] L K := by
 refine B7 (c63 (us := [.d (g6 A)]) (b5W A n hA hn hp) rfl (.inr ⟨λj hj => ?_, .tup λj hj => ?_, λX q cells h => by simp [g5] at h⟩)) ?_
 ·obtain rfl : j = 0 := by simpa using hj
  exact b3w hH (λr hr => ⟨hX r hr, hA.2 r hr⟩) hA.1 rfl
 ·rcases j with _ | _ | j
  ·refine .agg λj hj => ?_
   rcases j with _ | _ | j
   ·exact .nil
   ·exact .nil
   ·simp at hj; omega
  ·exact .bool _
  ·simp at hj; omega
 ·simpa [Heap.up, V.ren, V.renL] using h
def solB (t : Tp) (z : List (List Nat)) (l : List Nat) (h : Nat) (w : List Nat) : List Nat × Nat × Int := match K4 (matT t z l h) t.n t.n with
 | none => ([], 0, 4)
 | some (B, π) => seek (tryB t z l h w B π) 4 1 (List.replicate t.n 0)
theorem d18 {L L' : Heap} (g : FuncId) (a b a' b' : List V) (h1 : FzA L L' a a') (h2 : FzA L L' b b') : Fz L L' (.fn g a b) (.fn g a' b') :=
 .fn (a72 h1).1 (a72 h2).1 (a72 h1).2 (a72 h2).2
abbrev c71 (t : Tp) (z : List (List Nat)) (l : List Nat) (h : Nat) (w d : List Nat) (B : List (List Nat)) (π : List Int) (k : Nat) : T := ⟨[(12, .ptr 1 0 0 3), (13, .ptr 16 0 0 11), (14, .fn 183 [.ptr 16 0 0 11] []), (16, fI k)],
  [(16, [svV t z l h w 14 (.d (g6 B)) (.d (rowI π))]), (14, [rowV d]), (1, [[.nil, fI 0, fI 0]]), (0, [[fI t.n, .d (opsD t.ops), .d (rowI t.out)]])]⟩
theorem c16 (t : Tp) (z : List (List Nat)) (l : List Nat) (h : Nat) (w d g : List Nat) (B : List (List Nat)) (π : List Int) (k : Nat) : Le (λ_ => False) (T.s 76 ⟨[(12, .ptr 1 0 0 3), (13, .ptr 16 0 0 11), (14, .fn 183 [.ptr 16 0 0 11] []), (16, fI k)],
  [(124, [rowV g]), (16, [svV t z l h w 124 (.d (g6 B)) (.d (rowI π))]), (14, [rowV d]), (1, [[.nil, fI 0, fI 0]]), (0, [[fI t.n, .d (opsD t.ops), .d (rowI t.out)]])]⟩) (T.s 76 (c71 t z l h w g B π k)) := by
 refine Le.trans (LeT.only (L' := [(124, [rowV g]), (16, [svV t z l h w 124 (.d (g6 B)) (.d (rowI π))]), (1, [[.nil, fI 0, fI 0]]), (0, [[fI t.n, .d (opsD t.ops), .d (rowI t.out)]])]) (λX => X != 14) (λ_ h => h) rfl (by simp [kpS]) (by simp [kpS])) ?_
 refine Le.trans (LeT.move 14 (by decide) (by simp [d6, d9]) (by simp [d6, d9]) (λh => h)) ?_
 have e : renS (absF 124 14 0) [(12, .ptr 1 0 0 3), (13, .ptr 16 0 0 11), (14, .fn 183 [.ptr 16 0 0 11] []), (16, fI k)] = [(12, .ptr 1 0 0 3), (13, .ptr 16 0 0 11), (14, .fn 183 [.ptr 16 0 0 11] []), (16, fI k)] := by
  simp [renS, V.ren, V.renL, absF]
 have e2 : Heap.renH (absF 124 14 0) [(16, [svV t z l h w 124 (.d (g6 B)) (.d (rowI π))]), (1, [[.nil, fI 0, fI 0]]), (0, [[fI t.n, .d (opsD t.ops), .d (rowI t.out)]])] = [(16, [svV t z l h w 14 (.d (g6 B)) (.d (rowI π))]), (1, [[.nil, fI 0, fI 0]]), (0, [[fI t.n, .d (opsD t.ops), .d (rowI t.out)]])] := by
  simp [Heap.renH, V.ren, absF]
 rw [e, e2, Z5]
 exact LeT.perm (λ_ h => h) (λX => .inr (by simp only [d6, d9]; grind)) (by simp [kpS]) (by simp [kpS])
theorem b2p (t : Tp) (z : List (List Nat)) (l : List Nat) (h : Nat) (w : List Nat) (B : List (List Nat)) (π : List Int) (f k : Nat) (d : List Nat) : seek (tryB t z l h w B π) (f + 1) k d =
 if a2B (dB t z l h B π d) = false then ([], k, 2) else if fcmp .le (szP (xB t z l h B π d) w) 4562146422526312448 = true then (dB t z l h B π d, k, 0) else if 4 <= k then ([], k, 6) else seek (tryB t z l h w B π) f (k + 1) (dB t z l h B π d) := rfl
theorem b8z (L' : Heap) (r : V) (t : Tp) (z : List (List Nat)) (l : List Nat) (h : Nat) (w : List Nat)
  (h1 : ∀ k g, g.length = t.n -> solB t z l h w = (g, k, 0) -> r = .agg [.sl 129 0 0 t.n 1 t.n, fI k, fI 0] /\ L' = [(129, [rowV g])])
  (h2 : ∀ k e, solB t z l h w = ([], k, e) -> e ≠ 0 -> r = .agg [.nil, fI k, fI e] /\ L' = [])
  (step : Int) (hn0 : 0 < t.n) (ok : Sok t z l w (List.replicate t.n 0)) (hs : Con Tryz.prog 96 [fl (FloatKind.nearest .f64 step), fI (-30)] (fl h)) :
  AC Tryz.prog 138 [R7 t, .d (g6 z), .d (rowD l), fI step, fI 1, .d (rowD w)] [] L' r := by
 have ok' := ok
 obtain ⟨ht, hz, hzl, hl, hw, hd⟩ := ok'
 have hn := ht.n
 have hsq := c26 t z l h
 refine k9 a1k rfl f5 (λ_ => False) (by simp [g5]) ?_
 refine evx @a3p.eq_1 ?_
 first | refine a0 (hs) rfl ?_ | refine d7 (hs) rfl ?_ | refine d5 (hs) rfl ?_
 refine evx @a3M ?_
 repeat with_reducible refine andO ?_
 refine B0 200 [.d (.bptr (svC t z l h w (List.replicate t.n 0) .nils .nils))] (by simp [Heap.next]) (c25 t z l h w (List.replicate t.n 0) .nils .nils ok hn0) ⟨a4H t z l h w _ .nils .nils (X := 14) (pv := .nil) (qv := .nil) rfl rfl hd .nil .nil, trivial⟩ ?_
 refine ev ?_
 have hX : ∀ (L : Heap) r, L.fam 320 = some ((matT t z l h).map rowV) -> r < t.n -> L.get 320 (r + 0) = some (rowV ((matT t z l h).getD r [])) := λL r hL hr => by
  unfold Heap.get
  rw [hL, Nat.add_zero]
  have : r < (matT t z l h).length := by rw [hsq.1]; exact hr
  simp [d2d, this]
 obtain hp | ⟨⟨B, π⟩, hp⟩ : K4 (matT t z l h) t.n t.n = none \/ ∃ s, K4 (matT t z l h) t.n t.n = some s := by cases K4 (matT t z l h) t.n t.n <;> simp
 ·have he : solB t z l h w = ([], 0, 4) := by unfold solB; rw [hp]
  obtain ⟨rfl, rfl⟩ := h2 0 4 he (by decide)
  refine a9L (X := 320) (o := 0) (A := matT t z l h) hsq (by omega) (by simp [d8]) (λr hr => hX _ r (by simp [d6]) hr) hp _ ?_
  refine evx @Bool.not_false ?_
  exact m5 (λ_ => false) (λ_ h => h) (g8 (by decide) rfl rfl rfl (by simp) rfl) rfl (by simp [kpS]) (by simp [kpS])
 ·obtain ⟨hB, hπl⟩ := b8L _ _ hsq t.n (d2t _) B π hp
  have hπ := c2H _ _ t.n (d2t _) B π hp
  have he : solB t z l h w = seek (tryB t z l h w B π) 4 1 (List.replicate t.n 0) := by unfold solB; rw [hp]
  refine b7v (X := 320) (o := 0) (A := matT t z l h) 400 (by simp [Heap.next]) hsq (by omega) (by simp [d8]) (λr hr => hX _ r (by simp [d6]) hr) hp _ ?_
  refine evx (And.intro @Bool.not_true @a3M) ?_
  have hz1 : ∀ L L' : Heap, L.fam 402 = some (hdo 402 1 t.n t.n :: B.map rowV) -> L'.fam 402 = none -> Fz L L' (.sl 402 0 0 t.n 1 t.n) (.d (g6 B)) := λL L' a b =>
   c4H (X := 402) (o := 1) (len := t.n) (by unfold Heap.get; rw [a]; rfl) (λr hr => ⟨by
    unfold Heap.get
    rw [a]
    have : r < B.length := by rw [hB.1]; exact hr
    simp [d2d, this], hB.2 r hr⟩) hB.1 rfl b b
  have hz2 : ∀ L L' : Heap, L.get 405 0 = some (k7 π) -> L'.fam 405 = none -> Fz L L' (.sl 405 0 0 t.n 1 t.n) (.d (rowI π)) := λL L' a b => H3 a hπl rfl b
  rw [he] at h1 h2
  clear he
  generalize List.replicate t.n 0 = d0 at h1 h2 hd
  refine j5 (n := 4) (λc s => ∃ k d, c + k = 5 /\ (1 <= k /\ k <= 4) /\ d.length = t.n /\ seek (tryB t z l h w B π) c k d = seek (tryB t z l h w B π) 4 1 d0 /\ s = c71 t z l h w d B π k) (s0 := c71 t z l h w d0 B π 1) ?_ ⟨1, _, by omega, by omega, hd, rfl, rfl⟩ ?_
  ·exact LeT.weak (λ_ h => h) (by simp (maxDischargeDepth := 6) [fzS, d18]) (by simp (maxDischargeDepth := 6) [fzS, hz1, hz2])
  rintro c s ⟨k, d, hc, hk, hdl, he, rfl⟩
  have okd : Sok t z l w d := ⟨ht, hz, hzl, hl, hw, hdl⟩
  have hgl : (dB t z l h B π d).length = t.n := k8 _ _
  have okg : Sok t z l w (dB t z l h B π d) := ⟨ht, hz, hzl, hl, hw, hgl⟩
  obtain ⟨f, rfl⟩ : ∃ f, c = f + 1 := ⟨c - 1, by omega⟩
  refine evx @Y1.eq_1 ?_
  refine B7 (d0X t z l h w d okd B π hB hπ) ?_
  refine ev ?_
  refine B6 [.d (.bptr (svC t z l h w (dB t z l h B π d) (g6 B) (rowI π)))] (b2M t z l h w _ (g6 B) (rowI π) okg) ⟨a4H t z l h w _ (g6 B) (rowI π) (X := 124) (pv := .d (g6 B)) (qv := .d (rowI π)) rfl rfl hgl (.bare _) (.bare _), trivial⟩ (.bool _) ?_
  refine ev ?_
  rw [b2p] at he
  cases hf : a2B (dB t z l h B π d)
  ·rw [if_pos hf] at he
   refine evx @Bool.not_false ?_
   obtain ⟨rfl, rfl⟩ := h2 k 2 he.symm (by decide)
   exact m5 (λ_ => false) (λ_ h => h) (g8 (by decide) rfl rfl rfl (by simp) rfl) rfl (by simp [kpS]) (by simp [kpS])
  ·rw [if_neg (by rw [hf]; decide)] at he
   refine evx @Bool.not_true ?_
   cases hle : fcmp .le (szP (xB t z l h B π d) w) 4562146422526312448
   ·rw [if_neg (by rw [hle]; decide)] at he
    refine ev ?_
    by_cases h4 : 4 <= k
    ·rw [if_pos h4] at he
     have h4' : decide ((4 : Int) <= (k : Int)) = true := by simp; omega
     refine evx h4' ?_
     obtain ⟨rfl, rfl⟩ := h2 k 6 he.symm (by decide)
     exact m5 (λ_ => false) (λ_ h => h) (g8 (by decide) rfl rfl rfl (by simp) rfl) rfl (by simp [kpS]) (by simp [kpS])
    ·rw [if_neg h4] at he
     have h4' : decide ((4 : Int) <= (k : Int)) = false := by simp; omega
     refine evx h4' ?_
     rw [f0 (by omega) (by omega)]
     exact ⟨f, _, by omega, c16 t z l h w d (dB t z l h B π d) B π (k + 1), k + 1, _, by omega, by omega, hgl, he, rfl⟩
   ·rw [if_pos hle] at he
    refine ev ?_
    have htk : List.take t.n (rowV (dB t z l h B π d)) = rowV (dB t z l h B π d) := d2r (by simp [hgl])
    have hrl : (rowV (dB t z l h B π d)).length = t.n := by simp [hgl]
    rw [if_pos ⟨hgl, by omega⟩, htk]
    simp only []
    repeat with_reducible refine andO ?_
    obtain ⟨rfl, rfl⟩ := h1 k _ hgl he.symm
    refine ⟨⟨by omega, hrl, by simp [rowV, V.isCell]⟩, ?_⟩
    exact m5 (λX => X == 129) (λ_ h => h) (g8 (by decide) rfl rfl rfl (by simp) rfl) rfl (by simp [kpS]) (by simp [kpS])
theorem c2c (t : Tp) (z : List (List Nat)) (l : List Nat) (h : Nat) (w : List Nat) (B : List (List Nat)) (π : List Int) (f : Nat) : ∀ (k : Nat) (d g : List Nat) (a : Nat), seek (tryB t z l h w B π) f k d = (g, a, 0) -> g.length = t.n := by
 induction f with
 | zero => intro k d g a he; simp [seek] at he
 | succ f ih =>
  intro k d g a he
  rw [b2p] at he
  split at he
  ·simp at he
  ·split at he
   ·injection he with h1 h2
    rw [<- h1]; exact k8 _ _
   ·split at he
    ·simp at he
    ·exact ih _ _ _ _ he
def solG (t : Tp) (z : List (List Nat)) (l : List Nat) (h : Nat) (w : List Nat) (m : Int) : List Nat × Nat × Int := if m = 1 then solB t z l h w else solA t z l h w
theorem b5q (tr : List Nat -> List Nat × Nat) (f : Nat) : ∀ k d, (∃ g a, seek tr f k d = (g, a, 0)) \/ ∃ a e, e ≠ 0 /\ seek tr f k d = ([], a, e) := by
 induction f with
 | zero => intro k d; exact .inr ⟨k, 6, by decide, rfl⟩
 | succ f ih =>
  intro k d
  simp only [seek]
  split
  ·exact .inr ⟨k, 2, by decide, rfl⟩
  ·split
   ·exact .inl ⟨_, _, rfl⟩
   ·split
    ·exact .inr ⟨k, 6, by decide, rfl⟩
    ·exact ih _ _
theorem a9C (t : Tp) (z : List (List Nat)) (l : List Nat) (h : Nat) (w : List Nat) (m : Int) : (∃ g k, g.length = t.n /\ solG t z l h w m = (g, k, 0)) \/ ∃ k e, e ≠ 0 /\ solG t z l h w m = ([], k, e) := by
 unfold solG
 split
 ·unfold solB
  cases K4 (matT t z l h) t.n t.n with
  | none => exact .inr ⟨0, 4, by decide, rfl⟩
  | some s =>
   obtain ⟨B, π⟩ := s
   rcases b5q (tryB t z l h w B π) 4 1 (List.replicate t.n 0) with ⟨g, k, hg⟩ | ⟨k, e, he, hk⟩
   ·exact .inl ⟨g, k, c2c _ _ _ _ _ _ _ _ _ _ _ _ hg, hg⟩
   ·exact .inr ⟨k, e, he, hk⟩
 ·rcases b5q (tryA t z l h w) 4 1 (List.replicate t.n 0) with ⟨g, k, hg⟩ | ⟨k, e, he, hk⟩
  ·exact .inl ⟨g, k, c2d _ _ _ _ _ _ _ _ _ _ hg, hg⟩
  ·exact .inr ⟨k, e, he, hk⟩
theorem b1Q (t : Tp) (z : List (List Nat)) (l : List Nat) (h : Nat) (w : List Nat) (step : Int) (m : Int) (hn0 : 0 < t.n) (ok : Sok t z l w (List.replicate t.n 0)) (hs : Con Tryz.prog 96 [fl (FloatKind.nearest .f64 step), fI (-30)] (fl h))
  (g : List Nat) (k : Nat) (hg : solG t z l h w m = (g, k, 0)) : AC Tryz.prog 138 [R7 t, .d (g6 z), .d (rowD l), fI step, fI m, .d (rowD w)] [] [(0, [rowV g])] (.agg [.sl 0 0 0 t.n 1 t.n, fI k, fI 0]) := by
 unfold solG at hg
 split at hg
 ·rename_i e
  subst e
  refine c4N (X := 129) (b8z _ _ t z l h w (λk' g' _ he => ?_) (λk' e he hne => ?_) step hn0 ok hs)
  ·rw [hg] at he
   simp only [Prod.mk.injEq] at he
   obtain ⟨rfl, rfl, _⟩ := he
   exact ⟨rfl, rfl⟩
  ·rw [hg] at he
   simp only [Prod.mk.injEq] at he
   exact absurd he.2.2.symm hne
 ·rename_i e
  exact b4w t z l h w step m e ok hs g k hg
theorem b1R (t : Tp) (z : List (List Nat)) (l : List Nat) (h : Nat) (w : List Nat) (step : Int) (m : Int) (hn0 : 0 < t.n) (ok : Sok t z l w (List.replicate t.n 0)) (hs : Con Tryz.prog 96 [fl (FloatKind.nearest .f64 step), fI (-30)] (fl h))
  (k : Nat) (e : Int) (hne : e ≠ 0) (hg : solG t z l h w m = ([], k, e)) : AC Tryz.prog 138 [R7 t, .d (g6 z), .d (rowD l), fI step, fI m, .d (rowD w)] [] [] (.agg [.nil, fI k, fI e]) := by
 unfold solG at hg
 split at hg
 ·rename_i e
  subst e
  refine b8z _ _ t z l h w (λk' g' _ he => ?_) (λk' e' he hne' => ?_) step hn0 ok hs
  ·rw [hg] at he
   simp only [Prod.mk.injEq] at he
   exact absurd he.2.2 hne
  ·rw [hg] at he
   simp only [Prod.mk.injEq] at he
   obtain ⟨_, rfl, rfl⟩ := he
   exact ⟨rfl, rfl⟩
 ·rename_i e'
  exact b4x t z l h w step m e' ok hs k e hne hg
end Go.Ab
namespace Go.Ab
open Nat renaming reduceEqDiff -> n1_, reduceAdd -> n2_, reduceMul -> n3_, reduceLT -> n4_, reduceLeDiff -> n5_
open Int renaming reduceToNat -> i1_, reduceAdd -> i2_, reduceSub -> i3_, reduceMul -> i4_, reduceNeg -> i5_, reduceLT -> i6_, reduceLE -> i7_
open Go Go.Proofs
def a47 : CA := (.seq (.seq (.reg [i_M 0 9 1, i_B 1 10 .neq 9 0] [0, 1, 10]) (.cond (.t 10) .skip (.exit 0))) (.block 1 (.reg [i_M 0 11 1, i_M 1 12 0, i_M 2 13 1, i_N 3 14 .rem 12 13, i_M 4 0 11, i_M 5 1 14] [0, 1])))
def b9F : CA := (.seq (.reg [i_K 0 4 0] [0, 1]) (.seq (.seq (.reg [i_M 0 5 0, i_B 1 6 .lss 5 0] [0, 1, 6]) (.cond (.t 6) (.reg [i_M 0 7 0, i_X 1 8 (.h (.ibin .sub (kI 0) (.t 7))), i_M 2 0 8] [0, 1]) .skip)) (.seq (.block 0 (.loop a47)) (.seq (.reg [i_M 0 15 0, i_M 1 4 15] [4]) .ret))))
theorem b4P : f7 Tryz.prog 254 = some ⟨16, [(4, none)], b9F.strip⟩ := by kernel_rfl
def b9E : CA := (.seq (.reg [i_K 0 4 0, i_K 1 5 0] [0, 1]) (.seq (.seq (.reg [i_M 0 7 1, i_B 1 8 .lss 7 0] [0, 1, 8]) (.cond (.t 8) (.reg [i_M 0 9 0, i_X 1 10 (.h (.ibin .sub (kI 0) (.t 9))), i_M 2 11 1, i_X 3 12 (.h (.ibin .sub (kI 0) (.t 11))), i_M 4 0 10, i_M 5 1 12] [0, 1]) .skip)) (.seq (.seq (.reg [i_M 0 13 0, i_B 1 14 .eql 13 0] [0, 1, 14]) (.cond (.t 14) (.seq (.reg [i_K 0 4 0, i_K 1 5 1] [4, 5]) .ret) .skip)) (.seq (.reg [i_M 0 15 0, i_M 1 16 1, i_X 2 17 (.callA (kF 254) [(.t 15), (.t 16)]), i_M 3 6 17] [0, 1, 6]) (.seq (.seq (.reg [i_M 0 18 6, i_B 1 19 .lss 18 0] [0, 1, 6, 19]) (.cond (.t 19) (.reg [i_M 0 20 6, i_X 1 21 (.h (.ibin .sub (kI 0) (.t 20))), i_M 2 6 21] [0, 1, 6]) .skip)) (.seq (.reg [i_M 0 22 0, i_M 1 23 6, i_N 2 24 .quo 22 23, i_M 3 25 1, i_M 4 26 6, i_N 5 27 .quo 25 26, i_M 6 4 24, i_M 7 5 27] [4, 5]) .ret))))))
theorem b4N : f7 Tryz.prog 217 = some ⟨28, [(4, none), (5, none)], b9E.strip⟩ := by kernel_rfl
def a20 : CA := (.seq (.seq (.reg [i_M 0 17 6, i_M 1 18 3, i_X 2 19 (.h (.len (.t 18))), i_N 3 20 .lss 17 19] [0, 3, 4, 5, 6, 20]) (.cond (.t 20) .skip (.exit 2))) (.seq (.block 3 (.seq (.reg [i_M 0 23 5, i_M 1 24 6, i_M 2 25 5, i_M 3 26 6, i_I 4 27 25 26 1, i_L 5 28 27 1, i_M 6 29 4, i_M 7 30 3, i_M 8 31 6, i_I 9 32 30 31 1, i_L 10 33 32 1, i_N 11 34 .mul 29 33, i_N 12 35 .add 28 34, i_I 13 36 23 24 1, i_S 14 36 35 1] [0, 3, 4, 5, 6]) (.reg [i_M 0 37 5, i_M 1 38 6, i_B 2 39 .add 38 1, i_M 3 40 5, i_M 4 41 6, i_B 5 42 .add 41 1, i_I 6 43 40 42 1, i_L 7 44 43 1, i_M 8 45 3, i_M 9 46 6, i_I 10 47 45 46 1, i_L 11 48 47 1, i_N 12 49 .add 44 48, i_I 13 50 37 39 1, i_S 14 50 49 1] [0, 3, 4, 5, 6]))) (.reg [i_M 0 21 6, i_B 1 22 .add 21 1, i_M 2 6 22] [0, 3, 4, 5, 6])))
def a21 : CA := (.seq (.seq (.reg [i_M 0 8 4, i_M 1 9 0, i_N 2 10 .leq 8 9] [0, 3, 4, 10]) (.cond (.t 10) .skip (.exit 0))) (.seq (.block 1 (.seq (.reg [i_M 0 13 3, i_X 1 14 (.h (.len (.t 13))), i_B 2 15 .add 14 1, i_X 3 16 (.mksl [fI 0] 1 8 (.t 15) (.t 15) 3), i_M 4 5 16] [0, 3, 4, 5]) (.seq (.seq (.reg [i_K 0 6 0] [0, 3, 4, 5, 6]) (.block 2 (.loop a20))) (.reg [i_M 0 51 5, i_M 1 3 51] [0, 3, 4])))) (.reg [i_M 0 11 4, i_B 1 12 .add 11 1, i_M 2 4 12] [0, 3, 4])))
def a77 : CA := (.seq (.reg [i_X 0 2 (.h (.mov (.k .nil)))] [0]) (.seq (.reg [i_X 0 7 (.bslice [fI 0] 1 1 [(0, (1, (kI 1)))] 3), i_M 1 3 7] [0, 3]) (.seq (.seq (.reg [i_K 0 4 1] [0, 3, 4]) (.block 0 (.loop a21))) (.seq (.reg [i_M 0 52 3, i_M 1 2 52] [2]) .ret))))
theorem a7k : f7 Tryz.prog 216 = some ⟨53, [(2, none)], a77.strip⟩ := by kernel_rfl
def a6x : CA := (.seq (.seq (.reg [i_M 0 24 7, i_M 1 25 0, i_N 2 26 .leq 24 25] [0, 2, 3, 4, 5, 6, 7, 26]) (.cond (.t 26) .skip (.exit 0))) (.seq (.block 1 (.seq (.reg [i_M 0 30 3, i_M 1 31 7, i_B 2 32 .sub 31 1, i_I 3 33 30 32 1, i_L 4 34 33 1, i_M 5 35 3, i_X 6 36 (.h (.idx (.t 35) (kI 0) 1)), i_L 7 37 36 1, i_M 8 38 7, i_N 9 39 .mul 37 38, i_X 10 40 (.callA (kF 217) [(.t 34), (.t 39)]), i_M 11 29 40, i_X 12 41 (.h (.ext (.t 29) 0)), i_X 13 42 (.h (.ext (.t 29) 1)), i_M 14 8 41, i_M 15 9 42] [0, 2, 3, 4, 5, 6, 7, 8, 9]) (.seq (.reg [i_P 0 43 4 0, i_L 1 44 43 1, i_M 2 45 8, i_X 3 46 (.bslice [fI 0] 1 1 [(0, (1, (.t 45)))] 3), ⟨4, (some 47), none, [], [(.t 4)], (.app (.t 44) (.t 46) 1 8)⟩, i_P 5 48 4 1, ⟨6, (some 49), none, [(.t 4)], [], (.load (.t 48) 1 false)⟩, i_M 7 50 9, i_X 8 51 (.bslice [fI 0] 1 1 [(0, (1, (.t 50)))] 3), i_X 9 52 (.app (.t 49) (.t 51) 1 8), i_P 10 53 4 0, i_S 11 53 47 1, i_P 12 54 4 1, i_S 13 54 52 1] [0, 2, 3, 4, 5, 6, 7, 8, 9]) (.seq (.reg [i_K 0 10 1] [0, 2, 3, 4, 5, 6, 7, 8, 9, 10]) (.seq (.seq (.reg [i_M 0 55 7, i_B 1 56 .rem 55 2, i_B 2 57 .eql 56 1] [0, 2, 3, 4, 5, 6, 7, 8, 9, 10, 57]) (.cond (.t 57) (.reg [i_X 0 10 (.h (.mov (.k (.d (.int .i64 (-1))))))] [0, 2, 3, 4, 5, 6, 7, 8, 9, 10]) .skip)) (.reg [i_M 0 59 5, i_M 1 60 9, i_N 2 61 .mul 59 60, i_M 3 62 10, i_M 4 63 8, i_N 5 64 .mul 62 63, i_M 6 65 6, i_N 7 66 .mul 64 65, i_N 8 67 .add 61 66, i_M 9 68 6, i_M 10 69 9, i_N 11 70 .mul 68 69, i_X 12 71 (.callA (kF 217) [(.t 67), (.t 70)]), i_M 13 58 71, i_X 14 72 (.h (.ext (.t 58) 0)), i_X 15 73 (.h (.ext (.t 58) 1)), i_M 16 5 72, i_M 17 6 73] [0, 2, 3, 4, 5, 6, 7])))))) (.reg [i_M 0 27 7, i_B 1 28 .add 27 1, i_M 2 7 28] [0, 2, 3, 4, 5, 6, 7])))
def b20 : CA := (.seq (.reg [i_X 0 2 (.alloc [.nil, .nil] 151)] [0, 2]) (.seq (.reg [i_M 0 11 0, i_B 1 12 .sub 11 1, i_X 2 13 (.callA (kF 216) [(.t 12)]), i_M 3 3 13] [0, 2, 3]) (.seq (.reg [i_X 0 4 (.alloc [.nil, .nil] 151)] [0, 2, 3, 4]) (.seq (.reg [i_P 0 14 4 0, i_L 1 15 14 1, i_X 2 16 (.bslice [fI 0] 1 1 [(0, (1, (kI 0)))] 3), ⟨3, (some 17), none, [], [(.t 4)], (.app (.t 15) (.t 16) 1 8)⟩, i_P 4 18 4 1, ⟨5, (some 19), none, [(.t 4)], [], (.load (.t 18) 1 false)⟩, i_X 6 20 (.bslice [fI 0] 1 1 [(0, (1, (kI 1)))] 3), i_X 7 21 (.app (.t 19) (.t 20) 1 8), i_P 8 22 4 0, i_S 9 22 17 1, i_P 10 23 4 1, i_S 11 23 21 1] [0, 2, 3, 4]) (.seq (.reg [i_K 0 5 0, i_K 1 6 1] [0, 2, 3, 4, 5, 6]) (.seq (.seq (.reg [i_K 0 7 1] [0, 2, 3, 4, 5, 6, 7]) (.block 0 (.loop a6x))) (.seq (.reg [i_P 0 75 4 0, i_L 1 76 75 1, i_P 2 77 4 1, ⟨3, (some 78), none, [(.t 4)], [], (.load (.t 77) 1 false)⟩, i_M 4 79 5, i_X 5 80 (.h (.ibin .sub (kI 0) (.t 79))), i_M 6 81 6, i_X 7 82 (.callS 7 (kF 217) [(.t 80), (.t 81)]), i_M 8 74 82, i_X 9 83 (.h (.ext (.t 74) 0)), i_X 10 84 (.h (.ext (.t 74) 1)), i_X 11 85 (.h (.idx (.t 76) (kI 0) 1)), ⟨12, none, none, [], [(.t 4)], (.store (.t 85) (.t 83) 1)⟩, i_X 13 86 (.h (.idx (.t 78) (kI 0) 1)), i_S 14 86 84 1] [2, 4]) (.seq (.reg [i_A 0 87 4 2, i_S 1 2 87 2] [2]) .ret))))))))
theorem b0J : f7 Tryz.prog 160 = some ⟨88, [(2, (some (2, true)))], b20.strip⟩ := by kernel_rfl
def a48 : CA := (.seq (.seq (.reg [i_M 0 10 5, i_M 1 11 0, i_N 2 12 .leq 10 11] [0, 2, 3, 4, 5, 12]) (.cond (.t 12) .skip (.exit 0))) (.seq (.block 1 (.seq (.reg [i_M 0 16 3, i_M 1 17 5, i_I 2 18 16 17 1, i_L 3 19 18 1, i_M 4 20 3, i_X 5 21 (.h (.idx (.t 20) (kI 1) 1)), i_L 6 22 21 1, i_X 7 23 (.callA (kF 217) [(.t 19), (.t 22)]), i_M 8 15 23, i_X 9 24 (.h (.ext (.t 15) 0)), i_X 10 25 (.h (.ext (.t 15) 1)), i_M 11 6 24, i_M 12 7 25] [0, 2, 3, 4, 5, 6, 7]) (.reg [i_P 0 26 4 0, i_L 1 27 26 1, i_M 2 28 6, i_X 3 29 (.bslice [fI 0] 1 1 [(0, (1, (.t 28)))] 3), ⟨4, (some 30), none, [], [(.t 4)], (.app (.t 27) (.t 29) 1 8)⟩, i_P 5 31 4 1, ⟨6, (some 32), none, [(.t 4)], [], (.load (.t 31) 1 false)⟩, i_M 7 33 7, i_X 8 34 (.bslice [fI 0] 1 1 [(0, (1, (.t 33)))] 3), i_X 9 35 (.app (.t 32) (.t 34) 1 8), i_P 10 36 4 0, i_S 11 36 30 1, i_P 12 37 4 1, i_S 13 37 35 1] [0, 2, 3, 4, 5]))) (.reg [i_M 0 13 5, i_B 1 14 .add 13 1, i_M 2 5 14] [0, 2, 3, 4, 5])))
def b9G : CA := (.seq (.reg [i_X 0 2 (.alloc [.nil, .nil] 151)] [0, 2]) (.seq (.reg [i_M 0 8 0, i_X 1 9 (.callA (kF 216) [(.t 8)]), i_M 2 3 9] [0, 2, 3]) (.seq (.reg [i_X 0 4 (.alloc [.nil, .nil] 151)] [0, 2, 3, 4]) (.seq (.seq (.reg [i_K 0 5 0] [0, 2, 3, 4, 5]) (.block 0 (.loop a48))) (.seq (.reg [i_A 0 38 4 2, i_S 1 2 38 2] [2]) .ret)))))
theorem b4Q : f7 Tryz.prog 161 = some ⟨39, [(2, (some (2, true)))], b9G.strip⟩ := by kernel_rfl
def b22 : CA := (.seq (.reg [i_X 0 4 (.alloc [.nil, .nil] 151), i_X 1 5 (.h (.mov (.k (.d (.bool false)))))] [0, 1, 4]) (.seq (.block 0 (.seq (.reg [i_M 0 7 0, i_B 1 8 .eql 7 0, i_M 2 9 8, g_T 3 10 9 (.h (.mov (.t 1))), g_T 4 11 9 (.h (.ibin .geq (.t 10) (kI 1))), i_X 5 12 (.h (.pick (.t 9) (.t 11) (.k (.d (.bool false))))), i_M 6 13 12, g_T 7 14 13 (.h (.mov (.t 1))), g_T 8 15 13 (.h (.ibin .leq (.t 14) (kI 5))), i_X 9 16 (.h (.pick (.t 13) (.t 15) (.k (.d (.bool false))))), i_M 10 6 16] [0, 1, 4, 6]) (.cond (.t 6) (.seq (.reg [i_M 0 17 1, i_X 1 18 (.callA (kF 160) [(.t 17)]), i_S 2 4 18 2, i_X 3 5 (.h (.mov (.k (.d (.bool true)))))] [4, 5]) .ret) (.seq (.reg [i_M 0 20 0, i_B 1 21 .eql 20 1, i_M 2 22 21, g_T 3 23 22 (.h (.mov (.t 1))), g_T 4 24 22 (.h (.ibin .geq (.t 23) (kI 1))), i_X 5 25 (.h (.pick (.t 22) (.t 24) (.k (.d (.bool false))))), i_M 6 26 25, g_T 7 27 26 (.h (.mov (.t 1))), g_T 8 28 26 (.h (.ibin .leq (.t 27) (kI 4))), i_X 9 29 (.h (.pick (.t 26) (.t 28) (.k (.d (.bool false))))), i_M 10 19 29] [1, 4, 19]) (.cond (.t 19) (.seq (.reg [i_M 0 30 1, i_X 1 31 (.callA (kF 161) [(.t 30)]), i_S 2 4 31 2, i_X 3 5 (.h (.mov (.k (.d (.bool true)))))] [4, 5]) .ret) .skip))))) (.seq (.reg [i_X 0 32 (.h (.build [.nil, .nil] [])), i_S 1 4 32 2, i_X 2 5 (.h (.mov (.k (.d (.bool false)))))] [4, 5]) .ret)))
theorem b0K : f7 Tryz.prog 100 = some ⟨33, [(4, (some (2, true))), (5, none)], b22.strip⟩ := by kernel_rfl
def b21 : CA := (.seq (.seq (.reg [i_M 0 18 9, i_P 1 19 6 0, i_L 2 20 19 1, i_X 3 21 (.h (.len (.t 20))), i_N 4 22 .lss 18 21] [6, 8, 9, 22]) (.cond (.t 22) .skip (.exit 0))) (.seq (.block 1 (.reg [i_M 0 25 8, i_P 1 26 6 0, i_L 2 27 26 1, i_M 3 28 9, i_I 4 29 27 28 1, i_L 5 30 29 1, i_X 6 31 (.h (.i2f (.t 30))), i_P 7 32 6 1, i_L 8 33 32 1, i_M 9 34 9, i_I 10 35 33 34 1, i_L 11 36 35 1, i_X 12 37 (.h (.i2f (.t 36))), i_F 13 38 .div 31 37, i_X 14 39 (.bslice [fl 0] 1 1 [(0, (1, (.t 38)))] 31), i_X 15 40 (.app (.t 25) (.t 39) 1 8), i_M 16 8 40] [6, 8, 9])) (.reg [i_M 0 23 9, i_B 1 24 .add 23 1, i_M 2 9 24] [6, 8, 9])))
def c4K : CA := (.seq (.reg [i_X 0 4 (.h (.mov (.k .nil))), i_X 1 5 (.h (.mov (.k (.d (.bool false)))))] [0, 1]) (.seq (.reg [i_M 0 11 0, i_M 1 12 1, i_X 2 13 (.callA (kF 100) [(.t 11), (.t 12)]), i_M 3 10 13, i_X 4 14 (.h (.ext (.t 10) 0)), i_X 5 15 (.h (.ext (.t 10) 1)), i_X 6 6 (.alloc [.nil, .nil] 151), i_S 7 6 14 2, i_M 8 7 15] [6, 7]) (.seq (.seq (.reg [i_M 0 16 7, i_X 1 17 (.h (.un .not (.t 16)))] [6, 17]) (.cond (.t 17) (.seq (.reg [i_X 0 4 (.h (.mov (.k .nil))), i_X 1 5 (.h (.mov (.k (.d (.bool false)))))] [4, 5]) .ret) .skip)) (.seq (.reg [i_X 0 8 (.h (.mov (.k .nil)))] [6, 8]) (.seq (.seq (.reg [i_K 0 9 0] [6, 8, 9]) (.block 0 (.loop b21))) (.seq (.reg [i_M 0 41 8, i_M 1 4 41, i_X 2 5 (.h (.mov (.k (.d (.bool true)))))] [4, 5]) .ret))))))
theorem b6D : f7 Tryz.prog 62 = some ⟨42, [(4, none), (5, none)], c4K.strip⟩ := by kernel_rfl
abbrev w64 (a : Int) : Int := IntKind.i64.wrap a
def gcdF : Nat -> Int -> Int -> Option Int
 | 0, _, _ => none
 | f + 1, a, b => if b = 0 then some a else gcdF f b (a.tmod b)
theorem c7q (a b r : Int) (f : Nat) (h : gcdF f a b = some r) (Q : Ex -> T -> Prop) (hQ : Q (.exit 0) ⟨[(0, fI r), (1, fI 0), (10, fB false)], []⟩) : WA Tryz.prog (λ_ => False) 16 (.loop a47) Q ⟨[(0, fI a), (1, fI b)], []⟩ := by
 refine r5 (n := f) (λc s => ∃ a b, gcdF c a b = some r /\ s = ⟨[(0, fI a), (1, fI b)], []⟩) ⟨a, b, h, rfl⟩ ?_
 rintro c s ⟨a, b, hg, rfl⟩
 cases c with
 | zero => cases hg
 | succ c =>
  simp only [gcdF] at hg
  refine evx @a47.eq_1 ?_
  by_cases hb : b = 0
  ·subst hb
   rw [if_pos rfl] at hg
   obtain rfl := Option.some.inj hg
   refine ev ?_
   exact hQ
  ·rw [if_neg hb] at hg
   have h' : (b != 0) = true := by simpa using hb
   refine evx h' ?_
   exact ⟨hb, c, by omega, b, _, hg, rfl⟩
theorem c0a (a b r : Int) (f : Nat) (h : gcdF f (if a < 0 then w64 (0 - a) else a) b = some r) : Con Tryz.prog 254 [fI a, fI b] (fI r) := by
 refine b7 b4P rfl f5 ?_
 refine evx @b9F.eq_1 ?_
 by_cases ha : a < 0
 ·have h' : decide (a < 0) = true := decide_eq_true ha
  rw [if_pos ha] at h
  refine evx h' ?_
  refine c7q _ _ r f h _ ?_
  refine ev ?_
  exact g9
 ·have h' : decide (a < 0) = false := decide_eq_false ha
  rw [if_neg ha] at h
  refine evx h' ?_
  refine c6M (Le.keep ⟨_, []⟩ [0, 1]) (c7q _ _ r f h _ ?_)
  refine ev ?_
  exact g9
def lowF (f : Nat) (n d : Int) : Option (Int × Int) :=
 if d < 0 then none else if n = 0 then some (0, 1) else
 (gcdF f (if n < 0 then w64 (0 - n) else n) d).bind λg => if g <= 0 then none else some (w64 (n.tdiv g), w64 (d.tdiv g))
theorem V6 (n d x y : Int) (f : Nat) (h : lowF f n d = some (x, y)) : Con Tryz.prog 217 [fI n, fI d] (.tup [fI x, fI y]) := by
 unfold lowF at h
 refine b7 b4N rfl f5 ?_
 refine evx @b9E.eq_1 ?_
 by_cases hd : d < 0
 ·rw [if_pos hd] at h; cases h
 ·have h' : decide (d < 0) = false := decide_eq_false hd
  rw [if_neg hd] at h
  refine evx h' ?_
  by_cases hn : n = 0
  ·rw [if_pos hn] at h
   obtain ⟨rfl, rfl⟩ : 0 = x /\ 1 = y := by simpa using h
   have h2 : (n == 0) = true := by simpa using hn
   refine evx h2 ?_
   exact m5 (λ_ => false) (λ_ h => h) ⟨_, _, f8 (t := 4) (by decide) rfl, f8 (t := 5) (by decide) rfl, rfl⟩ rfl (by simp [kpS]) (by simp [kpS])
  ·rw [if_neg hn] at h
   have h2 : (n == 0) = false := by simpa using hn
   refine evx h2 ?_
   obtain ⟨g, hg, h3⟩ := Option.bind_eq_some_iff.1 h
   refine a0 (c0a n d g f hg) rfl ?_
   split at h3
   ·cases h3
   ·rename_i hg0
    obtain ⟨rfl, rfl⟩ : w64 (n.tdiv g) = x /\ w64 (d.tdiv g) = y := by simpa using h3
    have h4 : decide (g < 0) = false := by simp; omega
    refine evx h4 ?_
    refine ⟨by omega, by omega, ?_⟩
    exact m5 (λ_ => false) (λ_ h => h) ⟨_, _, f8 (t := 4) (by decide) rfl, f8 (t := 5) (by decide) rfl, rfl⟩ rfl (by simp [kpS]) (by simp [kpS])
def a2r (i : Int) (p : List Int) : Nat -> List Int
 | 0 => List.replicate (p.length + 1) 0
 | j + 1 => let q := a2r i p j; let q1 := q.set j (w64 (q.getD j 0 + w64 (i * p.getD j 0))); q1.set (j + 1) (w64 (q1.getD (j + 1) 0 + p.getD j 0))
def G9 : Nat -> List Int
 | 0 => [1]
 | i + 1 => a2r ((i + 1 : Nat) : Int) (G9 i) (G9 i).length
theorem a9J (i : Int) (p : List Int) (j : Nat) : (a2r i p j).length = p.length + 1 := by
 induction j with
 | zero => simp [a2r]
 | succ j ih => simp [a2r, ih]
theorem W2 (i : Nat) : (G9 i).length = i + 1 := by
 induction i with
 | zero => rfl
 | succ i ih => simp only [G9, a9J, ih]
theorem W7 (xs : List Int) (j : Nat) (h : j < xs.length) : (k7 xs).getD j .any = fI (xs.getD j 0) := by
 simp [k7, d2d, h]
theorem b3F (z : Int) (k : Nat) (hz : z = k) (hk : k < 2 ^ 20) : AC Tryz.prog 216 [fI z] [] [(0, [k7 (G9 k)])] (.sl 0 0 0 (k + 1) 1 (k + 1)) := by
 subst hz
 refine k9 a7k rfl f5 (λ_ => False) (by simp [g5]) ?_
 refine evx @a77.eq_1 ?_
 refine j5 (n := k) (λc s => ∃ i, c + i = k /\ s = ⟨[(0, fI k), (3, .sl 0 0 0 (i + 1) 1 (i + 1)), (4, fI (i + 1 : Nat))], [(0, [k7 (G9 i)])]⟩) (Le.refl _) ⟨0, by omega, rfl⟩ ?_
 rintro c s ⟨i, hc, rfl⟩
 have hl := W2 i
 refine evx @a21.eq_1 ?_
 refine b9 (λh => ?_) (λh => ?_)
 ·replace h := d2b h
  have w1 : IntKind.i64.wrap (((i + 1 : Nat) : Int) + 1) = ((i + 2 : Nat) : Int) := by rw [f0 (by omega) (by omega)]; omega
  refine evx w1 ?_
  repeat with_reducible refine andO ?_
  have hp : G9 (i + 1) = a2r ((i + 1 : Nat) : Int) (G9 i) (i + 1) := by simp only [G9]; rw [hl]
  generalize G9 i = p at hl hp
  have e0 : k7 (List.replicate (i + 2) 0) = k7 (a2r ((i + 1 : Nat) : Int) p 0) := by simp [a2r, hl]
  refine r5 (n := i + 1) (λc s => ∃ j, c + j = i + 1 /\ s = ⟨[(0, fI k), (3, .sl 0 0 0 (i + 1) 1 (i + 1)), (4, fI (i + 1 : Nat)), (5, .sl 4 0 0 (i + 2) 1 (i + 2)), (6, fI j)], [(4, [k7 (a2r ((i + 1 : Nat) : Int) p j)]), (0, [k7 p])]⟩) ⟨0, by omega, by rw [<- e0]; rfl⟩ ?_
  rintro c' s ⟨j, hc', rfl⟩
  have hjl := a9J ((i + 1 : Nat) : Int) p j
  refine evx @a20.eq_1 ?_
  refine b9 (λhj => ?_) (λhj => ?_)
  ·replace hj := d2b hj
   have w2 : IntKind.i64.wrap ((j : Int) + 1) = ((j + 1 : Nat) : Int) := by rw [f0 (by omega) (by omega)]; omega
   have hnx : a2r ((i + 1 : Nat) : Int) p (j + 1) = _ := rfl
   generalize hq : a2r ((i + 1 : Nat) : Int) p j = q at hjl
   have hq1 : (q.set j (w64 (q.getD j 0 + w64 (((i + 1 : Nat) : Int) * p.getD j 0)))).length = p.length + 1 := by rw [List.length_set]; exact hjl
   have g3 : (k7 (q.set j (IntKind.i64.wrap (q.getD j 0 + IntKind.i64.wrap (((i + 1 : Nat) : Int) * p.getD j 0))))).getD (j + 1) .any = fI ((q.set j (w64 (q.getD j 0 + w64 (((i + 1 : Nat) : Int) * p.getD j 0)))).getD (j + 1) 0) := W7 _ _ (by rw [List.length_set]; omega)
   have hx : a2r ((i + 1 : Nat) : Int) p (j + 1) = (q.set j (w64 (q.getD j 0 + w64 (((i + 1 : Nat) : Int) * p.getD j 0)))).set (j + 1) (w64 ((q.set j (w64 (q.getD j 0 + w64 (((i + 1 : Nat) : Int) * p.getD j 0)))).getD (j + 1) 0 + p.getD j 0)) := by rw [<- hq]; rfl
   simp -implicitDefEqProofs only [evI, hv, effC, reduceCtorEq, ↓reduceIte, n1_, n2_, n3_, n4_, n5_, i1_, i2_, i3_, i4_, i5_, i6_, i7_, w2, W7 q j (by omega), W7 p j (by omega), g3]
   repeat with_reducible refine andO ?_
   refine ⟨c' - 1, by omega, j + 1, by omega, ?_⟩
   rw [hx]
  ·replace hj := d2c hj
   have e : j = i + 1 := by omega
   subst e
   refine ev ?_
   rw [f0 (by omega) (by omega)]
   rw [<- hp] at *
   refine ⟨c - 1, _, by omega, ?_, i + 1, by omega, rfl⟩
   refine Le.trans (LeT.only (L' := [(4, [k7 (G9 (i + 1))])]) (λX => X == 4) (λ_ h => h) rfl (by simp [kpS]) (by simp [kpS])) ?_
   exact LeT.move (Y := 4) (cells := k7 (G9 (i + 1))) 0 (by decide) (by simp [d9]) (by simp [d9]) (λh => h) |>.trans (by
    have e1 : renS (absF 4 0 0) [(0, fI k), (3, .sl 4 0 0 (i + 2) 1 (i + 2)), (4, fI ((i + 1 : Nat) + 1 : Int))] = [(0, fI k), (3, .sl 0 0 0 (i + 1 + 1) 1 (i + 1 + 1)), (4, fI (i + 1 + 1 : Nat))] := by
     simp [renS, V.ren, absF]
    rw [e1, a9F]
    exact Le.refl _)
 ·replace h := d2c h
  have e : i = k := by omega
  subst e
  refine ev ?_
  exact m5 (λX => X == 0) (λ_ h => h) (f8 (t := 2) (by decide) rfl) rfl (by simp [kpS]) (by simp [kpS])
theorem a37 (z : Int) (k : Nat) (hz : z = k) (hk : k < 2 ^ 20) : Con Tryz.prog 216 [fI z] (.d (rowI (G9 k))) :=
 a00 (b3F z k hz hk) (.d (a5C (λY q h => by simp [g5] at h) (by simp [d8]) (W2 k) rfl))
end Go.Ab
