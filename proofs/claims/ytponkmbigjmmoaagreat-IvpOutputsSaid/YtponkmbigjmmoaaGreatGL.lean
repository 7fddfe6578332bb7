import Derived.Test.YtponkmbigjmmoaaGreatGK
set_option linter.unusedSimpArgs false
set_option linter.unusedVariables false
set_option maxRecDepth 8000
namespace Go.Ab
open Go Go.Proofs
def N0 : CA := (.seq (.reg [i_X 0 3 (.h (.mov (.k (.d (.flt 0)))))] [0, 1]) (.seq (.reg [i_L 0 4 1 1, i_X 1 5 (.h (.nilck (.t 4))), i_P 2 6 5 4, i_L 3 7 6 1, i_X 4 8 (.h (.idx (.t 7) (kI 0) 1)), i_L 5 9 8 1, i_M 6 10 0, i_I 7 11 9 10 1, i_L 8 12 11 1, i_L 9 13 1 1, i_X 10 14 (.h (.nilck (.t 13))), i_P 11 15 14 5, i_L 12 16 15 1, i_X 13 17 (.h (.idx (.t 16) (kI 0) 1)), i_L 14 18 17 1, i_L 15 19 1 1, i_X 16 20 (.h (.nilck (.t 19))), i_P 17 21 20 8, i_L 18 22 21 1, i_M 19 23 0, i_I 20 24 22 23 1, i_L 21 25 24 1, i_F 22 26 .mul 18 25, i_F 23 27 .add 12 26, i_M 24 3 27] [3]) .ret))
theorem X6 : f7 Tryz.prog 257 = some ⟨28, [(3, none)], N0.strip⟩ := by kernel_rfl
def M9 : CA := (.seq (.reg [i_X 0 4 (.h (.mov (.k (.d (.flt 0)))))] [0, 1, 2]) (.seq (.reg [i_L 0 5 1 1, i_X 1 6 (.h (.nilck (.t 5))), i_P 2 7 6 6, i_L 3 8 7 1, i_L 4 9 2 1, i_M 5 10 0, i_I 6 11 9 10 1, i_L 7 12 11 1, i_F 8 13 .mul 8 12, i_L 9 14 1 1, i_X 10 15 (.h (.nilck (.t 14))), i_P 11 16 15 4, i_L 12 17 16 1, i_X 13 18 (.h (.idx (.t 17) (kI 1) 1)), i_L 14 19 18 1, i_M 15 20 0, i_I 16 21 19 20 1, i_L 17 22 21 1, i_F 18 23 .sub 13 22, i_M 19 4 23] [4]) .ret))
theorem X5 : f7 Tryz.prog 258 = some ⟨24, [(4, none)], M9.strip⟩ := by kernel_rfl
def U4 : CA := (.seq (.reg [i_X 0 1 (.box (.t 0) 1 217), i_X 1 2 (.h (.mov (.k .nil)))] [1]) (.seq (.reg [i_L 0 5 1 1, i_X 1 6 (.h (.nilck (.t 5))), i_P 2 7 6 0, i_A 3 8 7 1, i_X 4 9 (.h (.mkfn 257 [] [(.t 1)])), i_X 5 10 (.callA (kF 227) [(.t 8), (.t 9)]), i_M 6 3 10] [1, 3]) (.seq (.reg [i_L 0 11 1 1, i_X 1 12 (.h (.nilck (.t 11))), i_P 2 13 12 1, i_A 3 14 13 3, i_M 4 15 3, i_X 5 16 (.callA (kF 97) [(.t 14), (.t 15)]), i_X 6 4 (.alloc [.nil] 30), i_S 7 4 16 1] [1, 4]) (.seq (.reg [i_L 0 17 1 1, i_X 1 18 (.h (.nilck (.t 17))), i_P 2 19 18 0, i_A 3 20 19 1, i_X 4 21 (.h (.mkfn 258 [] [(.t 1), (.t 4)])), i_X 5 22 (.callA (kF 227) [(.t 20), (.t 21)]), i_M 6 2 22] [2]) .ret))))
theorem a0L : f7 Tryz.prog 226 = some ⟨23, [(2, none)], U4.strip⟩ := by kernel_rfl
def R2 : CA := (.seq (.reg [i_X 0 4 (.h (.mov (.k (.d (.flt 0)))))] [0, 1, 2]) (.seq (.reg [i_L 0 5 1 1, i_M 1 6 0, i_I 2 7 5 6 1, i_L 3 8 7 1, i_L 4 9 2 1, i_X 5 10 (.h (.nilck (.t 9))), i_P 6 11 10 8, i_L 7 12 11 1, i_M 8 13 0, i_I 9 14 12 13 1, i_L 10 15 14 1, i_F 11 16 .sub 8 15, i_M 12 4 16] [4]) .ret))
theorem Z2 : f7 Tryz.prog 228 = some ⟨17, [(4, none)], R2.strip⟩ := by kernel_rfl
def Y0 : CA := (.seq (.reg [i_X 0 1 (.box (.t 0) 1 217), i_X 1 2 (.h (.mov (.k (.d (.flt 0)))))] [1]) (.seq (.reg [i_L 0 5 1 1, i_X 1 6 (.callA (kF 226) [(.t 5)]), i_X 2 3 (.alloc [.nil] 30), i_S 3 3 6 1] [1, 3]) (.seq (.reg [i_L 0 7 1 1, i_X 1 8 (.h (.nilck (.t 7))), i_P 2 9 8 0, i_A 3 10 9 1, i_X 4 11 (.h (.mkfn 228 [] [(.t 3), (.t 1)])), i_X 5 12 (.callS 0 (kF 227) [(.t 10), (.t 11)]), i_L 6 13 1 1, i_X 7 14 (.h (.nilck (.t 13))), i_P 8 15 14 7, i_L 9 16 15 1, i_X 10 17 (.callA (kF 139) [(.t 12), (.t 16)]), i_M 11 4 17] [1, 3, 4]) (.seq (.reg [i_L 0 18 1 1, i_L 1 19 3 1, i_X 2 20 (.h (.nilck (.t 18))), i_P 3 21 20 8, i_S 4 21 19 1] [4]) (.seq (.reg [i_M 0 22 4, i_M 1 2 22] [2]) .ret)))))
theorem a1g : f7 Tryz.prog 180 = some ⟨23, [(2, none)], Y0.strip⟩ := by kernel_rfl
def M2 : CA := (.seq (.reg [i_N 0 11 .lss 10 9] [8, 9, 10, 11]) (.seq (.cond (.t 11) .skip (.exit 0)) (.seq (.block 1 (.seq (.reg [i_I 0 12 8 10 1, i_L 1 13 12 1, i_M 2 4 13] [4, 8, 9, 10]) (.seq (.reg [i_M 0 14 4, i_X 1 15 (.callA (kF 83) [(.t 14)]), i_X 2 16 (.h (.un .not (.t 15)))] [8, 9, 10, 16]) (.cond (.t 16) (.seq (.reg [i_X 0 2 (.h (.mov (.k (.d (.bool false)))))] [2]) .ret) .skip)))) (.reg [i_B 0 17 .add 10 1, i_M 1 10 17] [8, 9, 10]))))
def U6 : CA := (.seq (.reg [i_X 0 2 (.h (.mov (.k (.d (.bool false)))))] [0]) (.seq (.seq (.reg [i_M 0 5 0, i_X 1 6 (.h (.nilck (.t 5))), i_P 2 7 6 8, i_L 3 8 7 1, i_X 4 9 (.h (.len (.t 8))), i_K 5 10 0] [8, 9, 10]) (.block 0 (.loop M2))) (.seq (.reg [i_X 0 2 (.h (.mov (.k (.d (.bool true)))))] [2]) .ret)))
theorem a0N : f7 Tryz.prog 184 = some ⟨18, [(2, none)], U6.strip⟩ := by kernel_rfl
def Y1 : CA := (.seq (.block 1 (.seq (.reg [i_M 0 53 14, i_X 1 54 (.callA (.t 53) []), i_M 2 17 54] [12, 13, 14, 16, 17]) (.block 2 (.seq (.reg [i_M 0 56 13, i_X 1 57 (.callA (kF 184) [(.t 56)]), i_X 2 58 (.h (.un .not (.t 57))), i_M 3 55 58] [12, 13, 14, 16, 17, 55]) (.cond (.t 55) (.seq (.reg [i_M 0 59 16, i_X 1 60 (.h (.build [.nil, fI 0, fI 0] [(1, (1, (.t 59))), (2, (1, (kI 2)))])), i_S 2 12 60 3] [12]) .ret) (.seq (.reg [i_M 0 62 17, i_X 1 63 (.h (.fcmp .le (.t 62) (.k (.d (.flt 4562146422526312448))))), i_M 2 61 63] [12, 13, 14, 16, 61]) (.cond (.t 61) (.seq (.reg [i_M 0 64 13, i_X 1 65 (.h (.nilck (.t 64))), i_P 2 66 65 8, i_L 3 67 66 1, i_X 4 68 (.app (.k .nil) (.t 67) 1 8), i_M 5 69 16, i_X 6 70 (.h (.build [.nil, fI 0, fI 0] [(0, (1, (.t 68))), (1, (1, (.t 69))), (2, (1, (kI 0)))])), i_S 7 12 70 3] [12]) .ret) (.seq (.reg [i_M 0 72 16, i_B 1 73 .geq 72 4, i_M 2 71 73] [12, 13, 14, 16, 71]) (.cond (.t 71) (.seq (.reg [i_M 0 74 16, i_X 1 75 (.h (.build [.nil, fI 0, fI 0] [(1, (1, (.t 74))), (2, (1, (kI 6)))])), i_S 2 12 75 3] [12]) .ret) .skip))))))))) (.reg [i_M 0 51 16, i_B 1 52 .add 51 1, i_M 2 16 52] [12, 13, 14, 16]))
def a3p : CA := (.seq (.reg [i_X 0 6 (.box (.t 0) 3 28), i_X 1 12 (.alloc [.nil, fI 0, fI 0] 184)] [1, 2, 3, 4, 5, 6, 12]) (.seq (.reg [i_P 0 18 6 0, i_L 1 19 18 1, i_X 2 20 (.h (.build [fI 0] [(0, (1, (.t 19)))])), i_A 3 21 6 3, i_M 4 22 1, i_M 5 23 2, i_M 6 24 3, i_X 7 25 (.h (.i2f (.t 24))), i_X 8 26 (.callS 8 (kF 96) [(.t 25), (.k (.d (.int .i64 (-30))))]), i_M 9 27 5, i_P 10 28 6 0, i_L 11 29 28 1, i_X 12 30 (.mksl [fl 0] 1 8 (.t 29) (.t 29) 31), i_X 13 31 (.h (.build [fI 0, fI 0, .nil, .nil, .nil, .nil, fl 0, .nil, .nil, .nil, .nil] [(0, (1, (.t 20))), (1, (3, (.t 21))), (4, (1, (.t 22))), (5, (1, (.t 23))), (6, (1, (.t 26))), (7, (1, (.t 27))), (8, (1, (.t 30)))])), i_X 14 32 (.box (.t 31) 11 222), i_M 15 13 32] [4, 12, 13]) (.seq (.reg [i_M 0 33 13, i_X 1 34 (.h (.mkfn 180 [(.t 33)] [])), i_M 2 14 34] [4, 12, 13, 14]) (.seq (.seq (.reg [i_M 0 35 4, i_B 1 36 .eql 35 1] [12, 13, 14, 36]) (.cond (.t 36) (.seq (.reg [i_X 0 15 (.h (.mov (.k (.d (.bool false)))))] [12, 13]) (.seq (.seq (.reg [i_M 0 38 13, i_M 1 39 13, i_X 2 40 (.callA (kF 182) [(.t 39)]), i_X 3 41 (.callA (kF 181) [(.t 40)]), i_M 4 37 41, i_X 5 42 (.h (.ext (.t 37) 0)), i_X 6 43 (.h (.ext (.t 37) 1)), i_X 7 44 (.h (.nilck (.t 38))), i_P 8 45 44 9, i_S 9 45 42 2, i_M 10 15 43] [12, 13, 15]) (.seq (.reg [i_M 0 46 15, i_X 1 47 (.h (.un .not (.t 46)))] [12, 13, 47]) (.cond (.t 47) (.seq (.reg [i_X 0 48 (.h (.build [.nil, fI 0, fI 0] [(2, (1, (kI 4)))])), i_S 1 12 48 3] [12]) .ret) .skip))) (.reg [i_M 0 49 13, i_X 1 50 (.h (.mkfn 183 [(.t 49)] [])), i_M 2 14 50] [12, 13, 14]))) .skip)) (.seq (.reg [i_K 0 16 1] [12, 13, 14, 16]) (.block 0 (.loop Y1)))))))
theorem a1k : f7 Tryz.prog 138 = some ⟨76, [(12, (some (3, true)))], a3p.strip⟩ := by kernel_rfl
def D6 : CA := (.seq (.reg [i_N 0 13 .lss 12 11] [1, 5, 11, 12, 13]) (.seq (.cond (.t 13) .skip (.exit 0)) (.seq (.block 1 (.seq (.reg [i_M 0 14 12, i_M 1 6 14] [1, 5, 6, 11, 12]) (.reg [i_M 0 15 5, i_M 1 16 6, i_M 2 17 1, i_M 3 18 6, i_X 4 19 (.callA (.t 17) [(.t 18)]), i_I 5 20 15 16 1, i_S 6 20 19 1] [1, 5, 11, 12]))) (.reg [i_B 0 21 .add 12 1, i_M 1 12 21] [1, 5, 11, 12]))))
def G2 : CA := (.seq (.reg [i_X 0 2 (.box (.t 0) 1 219), i_X 1 4 (.h (.mov (.k .nil)))] [1, 2]) (.seq (.reg [i_P 0 7 2 0, i_L 1 8 7 1, i_X 2 9 (.mksl [fl 0] 1 8 (.t 8) (.t 8) 31), i_M 3 5 9] [1, 5]) (.seq (.seq (.reg [i_M 0 10 5, i_X 1 11 (.h (.len (.t 10))), i_K 2 12 0] [1, 5, 11, 12]) (.block 0 (.loop D6))) (.seq (.reg [i_M 0 22 5, i_M 1 4 22] [4]) .ret))))
theorem R4 : f7 Tryz.prog 227 = some ⟨23, [(4, none)], G2.strip⟩ := by kernel_rfl
theorem a68 (f : FuncId) (cap : List D) (n : Nat) (g : Nat -> Nat) (hn : n < 2 ^ 40) (hf : ∀ i : Nat, i < n -> Con Tryz.prog f (fI i :: cap.map .d) (fl (g i))) :
  AC Tryz.prog 227 [.agg [fI n], .d (.fn f [] cap)] [] [(0, [rowV (tabR g n)])] (.sl 0 0 0 n 1 n) := by
 refine a5v (X := 3) ?_
 refine k9 R4 rfl f5 (λ_ => False) (by simp [g5]) ?_
 refine evx @G2.eq_1 ?_
 repeat with_reducible refine andO ?_
 rw [<- a3P g]
 refine r5 (n := n) (λc s => ∃ i, c + i = n /\ s = ⟨[(1, .d (.fn f [] cap)), (5, .sl 3 0 0 n 1 n), (11, fI n), (12, fI i)], [(3, [rowV (a42 g n i)]), (0, [[fI n]])]⟩) ⟨0, by omega, rfl⟩ ?_
 rintro c s ⟨i, hc, rfl⟩
 have hl := a55 g n i
 refine evx @D6.eq_1 ?_
 refine b9 (λh => ?_) (λh => ?_)
 ·replace h := d2b h
  have hs := a54 g n i (by omega)
  generalize a42 g n i = x at hl hs
  refine ev ?_
  repeat with_reducible refine andO ?_
  refine a0 (hf i (by omega)) (by simp [V.bareB, List.all_map]) ?_
  refine ev ?_
  repeat with_reducible refine andO ?_
  rw [f0 (by omega) (by omega)]
  refine ⟨c - 1, by omega, i + 1, by omega, ?_⟩
  rw [<- hs]; rfl
 ·replace h := d2c h
  have e : i = n := by omega
  subst e
  rw [a56]
  refine ev ?_
  exact m5 (λX => X == 3) (λ_ h => h) (f8 (t := 4) (by decide) rfl) rfl (by simp [kpS]) (by simp [kpS])
def svC (t : Tp) (z : List (List Nat)) (l : List Nat) (h : Nat) (w d : List Nat) (p q : D) : List D := [.int .i64 t.n, .int .i64 t.n, opsD t.ops, rowI t.out, g6 z, rowD l, .flt h, rowD w, rowD d, p, q]
structure Sok (t : Tp) (z : List (List Nat)) (l w d : List Nat) : Prop where
 ht : Tok t
 hz : 2 <= z.length
 hzl : ∀ i, i < 2 -> (z.getD i []).length = t.n
 hl : 1 <= l.length
 hw : w.length = t.n
 hd : d.length = t.n
def yS (z : List (List Nat)) (l d : List Nat) (n : Nat) : List Nat := tabR (λi => fop .add ((z.getD 0 []).getD i 0) (fop .mul (l.getD 0 0) (d.getD i 0))) n
def gS (t : Tp) (z : List (List Nat)) (l : List Nat) (h : Nat) (d : List Nat) : List Nat := tabR (λi => fop .sub (fop .mul h ((b4m t (yS z l d t.n)).getD i 0)) ((z.getD 1 []).getD i 0)) t.n
section
variable (t : Tp) (z : List (List Nat)) (l : List Nat) (h : Nat) (w d : List Nat) (p q : D) (ok : Sok t z l w d)
include ok
theorem b7m (i : Nat) (hi : i < t.n) : Con Tryz.prog 257 [fI i, .d (.bptr [.bptr (svC t z l h w d p q)])] (fl (fop .add ((z.getD 0 []).getD i 0) (fop .mul (l.getD 0 0) (d.getD i 0)))) := by
 obtain ⟨ht, hz, hzl, hl, hw, hd⟩ := ok
 have hz0 := hzl 0 (by omega)
 refine b7 X6 rfl f5 ?_
 refine evx @N0.eq_1 ?_
 refine evx @svC.eq_1 ?_
 repeat with_reducible refine andO ?_
 exact g9
theorem b7k (f : List Nat) (hf : f.length = t.n) (i : Nat) (hi : i < t.n) : Con Tryz.prog 258 [fI i, .d (.bptr [.bptr (svC t z l h w d p q)]), .d (.bptr [rowD f])] (fl (fop .sub (fop .mul h (f.getD i 0)) ((z.getD 1 []).getD i 0))) := by
 obtain ⟨ht, hz, hzl, hl, hw, hd⟩ := ok
 have hz0 := hzl 1 (by omega)
 refine b7 X5 rfl f5 ?_
 refine evx @M9.eq_1 ?_
 refine evx @svC.eq_1 ?_
 repeat with_reducible refine andO ?_
 exact g9
theorem b5p : AC Tryz.prog 226 [.d (.bptr (svC t z l h w d p q))] [] [(0, [rowV (gS t z l h d)])] (.sl 0 0 0 t.n 1 t.n) := by
 have ok' := ok
 obtain ⟨ht, hz, hzl, hl, hw, hd⟩ := ok'
 have hn := ht.n
 refine a5v (X := 120) ?_
 refine k9 a0L rfl f5 (λ_ => False) (by simp [g5]) ?_
 refine evx (And.intro @U4.eq_1 (And.intro @svC.eq_1 @b9a)) ?_
 have e1 := a68 257 [.bptr [.bptr (svC t z l h w d p q)]] t.n _ (by omega) (λi hi => b7m t z l h w d p q ok i hi)
 refine F7 100 _ (by simp [Heap.next]) e1 ⟨.aggs ⟨.bare _, trivial⟩, .fun1 (.box rfl (.bare _)), trivial⟩ ?_
 refine ev ?_
 have hy : (yS z l d t.n).length = t.n := k8 _ _
 refine F7 101 [R7 t, .d (rowD (yS z l d t.n))] (by simp [Heap.next]) (a7M t _ ht hy) ⟨.aggs ⟨.bare _, .bare _, .bare _, trivial⟩, N3 rfl hy rfl, trivial⟩ ?_
 refine evx @a2A ?_
 have e2 := a68 258 [.bptr [.bptr (svC t z l h w d p q)], .bptr [rowD (b4m t (yS z l d t.n))]] t.n _ (by omega) (λi hi => b7k t z l h w d p q ok _ (a57 _ _) i hi)
 refine F7 120 _ (by simp [Heap.next]) e2 ⟨.aggs ⟨.bare _, trivial⟩, .fun2 (.box rfl (.bare _)) (.box rfl (N3 rfl (a57 _ _) rfl)), trivial⟩ ?_
 refine ev ?_
 exact m5 (λX => X == 120) (λ_ h => h) (f8 (t := 2) (by decide) rfl) rfl (by simp [kpS]) (by simp [kpS])
def c6j (t : Tp) (z : List (List Nat)) (l : List Nat) (h : Nat) (w d : List Nat) : Nat := szP (tabR (λi => fop .sub ((gS t z l h d).getD i 0) (d.getD i 0)) t.n) w
theorem c1r (g : List Nat) (hg : g.length = t.n) (i : Nat) (hi : i < t.n) : Con Tryz.prog 228 [fI i, .d (.bptr [rowD g]), .d (.bptr [.bptr (svC t z l h w d p q)])] (fl (fop .sub (g.getD i 0) (d.getD i 0))) := by
 obtain ⟨ht, hz, hzl, hl, hw, hd⟩ := ok
 refine b7 Z2 rfl f5 ?_
 refine evx @R2.eq_1 ?_
 refine evx @svC.eq_1 ?_
 repeat with_reducible refine andO ?_
 exact g9
abbrev svV (t : Tp) (z : List (List Nat)) (l : List Nat) (h : Nat) (w : List Nat) (X : Nat) (p q : V) : List V := [fI t.n, fI t.n, .d (opsD t.ops), .d (rowI t.out), .d (g6 z), .d (rowD l), fl h, .d (rowD w), .sl X 0 0 t.n 1 t.n, p, q]
omit ok in
theorem a4H {L : Heap} {S X : Nat} {pv qv : V} (hS : L.get S 0 = some (svV t z l h w X pv qv)) (hX : L.get X 0 = some (rowV d)) (hd : d.length = t.n) (hp : Snap L pv (.d p)) (hq : Snap L qv (.d q)) : Snap L (.ptr S 0 0 11) (.d (.bptr (svC t z l h w d p q))) := by
 refine .ptr hS rfl (by simp [svC]) (by simp) λj hj => ?_
 have hj : j < 11 := by simpa [svC] using hj
 rcases j with _ | _ | _ | _ | _ | _ | _ | _ | _ | _ | _ | j
 all_goals first | exact .d _ | exact hp | exact hq | exact N3 hX hd rfl | omega
theorem c6J : AC Tryz.prog 180 [.ptr 16 0 0 11] [(16, [svV t z l h w 14 .nil .nil]), (14, [rowV d]), (1, [[.nil, fI 0, fI 0]]), (0, [[fI t.n, .d (opsD t.ops), .d (rowI t.out)]])]
  [(100, [rowV (gS t z l h d)]), (16, [svV t z l h w 100 .nil .nil]), (14, [rowV d]), (1, [[.nil, fI 0, fI 0]]), (0, [[fI t.n, .d (opsD t.ops), .d (rowI t.out)]])] (fl (c6j t z l h w d)) := by
 have ok' := ok
 obtain ⟨ht, hz, hzl, hl, hw, hd⟩ := ok'
 have hn := ht.n
 refine k9 a1g rfl f5 (λX => X <= 16) ?_ ?_
 ·intro X q
  simp only [d8, g5]
  repeat' split
  all_goals simp
  all_goals omega
 refine evx @Y0.eq_1 ?_
 have hg : (gS t z l h d).length = t.n := k8 _ _
 refine F7 100 [.d (.bptr (svC t z l h w d .nils .nils))] (by simp [Heap.next]) (b5p t z l h w d .nils .nils ok) ⟨a4H t z l h w d .nils .nils (X := 14) (pv := .nil) (qv := .nil) rfl rfl hd .nil .nil, trivial⟩ ?_
 refine evx @a2A ?_
 have e2 := a68 228 [.bptr [rowD (gS t z l h d)], .bptr [.bptr (svC t z l h w d .nils .nils)]] t.n _ (by omega) (λi hi => c1r t z l h w d .nils .nils ok _ hg i hi)
 refine a6f _ e2 ⟨.aggs ⟨.bare _, trivial⟩, .fun2 (.box rfl (N3 rfl hg rfl)) (.box rfl (a4H t z l h w d .nils .nils (X := 14) (pv := .nil) (qv := .nil) rfl rfl hd .nil .nil)), trivial⟩ rfl ?_
 refine ev ?_
 refine B6 [.d (rowD (tabR (λi => fop .sub ((gS t z l h d).getD i 0) (d.getD i 0)) t.n)), .d (rowD w)] (a1E _ w (by rw [k8]; exact hw) (by rw [k8]; omega)) ⟨N3 rfl (k8 _ _) rfl, .bare _, trivial⟩ (.flt _) ?_
 refine ev ?_
 refine m7 (λX => decide (X <= 16) || X == 100) (λX h => by simp [h]) (f8 (t := 2) (by decide) rfl) rfl (by simp [kpS]) (by simp [kpS])
def a2B (d : List Nat) : Bool := d.all p9
omit ok in
theorem d0F {d : List Nat} (h : ∀ j, j < d.length -> p9 (d.getD j 0) = true) : a2B d = true := by
 simp only [a2B, List.all_eq_true]
 intro x hx
 obtain ⟨j, hj, rfl⟩ := List.mem_iff_getElem.1 hx
 have := h j hj
 rwa [d2d, d2f hj] at this
omit ok in
theorem c8V {d : List Nat} (j : Nat) (hj : j < d.length) (h : p9 (d.getD j 0) = false) : a2B d = false := by
 cases hf : a2B d
 ·rfl
 ·simp only [a2B, List.all_eq_true] at hf
  have := hf (d.getD j 0) (by rw [d2d, d2f hj]; exact List.getElem_mem hj)
  rw [h] at this; cases this
theorem b2M : Con Tryz.prog 184 [.d (.bptr (svC t z l h w d p q))] (fB (a2B d)) := by
 obtain ⟨ht, hz, hzl, hl, hw, hd⟩ := ok
 have hn := ht.n
 refine b7 a0N rfl f5 ?_
 refine evx @U6.eq_1 ?_
 refine evx @svC.eq_1 ?_
 refine r5 (n := d.length) (λc s => ∃ i, c + i = d.length /\ (∀ j, j < i -> p9 (d.getD j 0) = true) /\ s = ⟨[(8, .d (rowD d)), (9, fI d.length), (10, fI i)], []⟩) ⟨0, by omega, λj hj => by omega, rfl⟩ ?_
 rintro c s ⟨i, hc, hf, rfl⟩
 refine evx @M2.eq_1 ?_
 refine b9 (λh => ?_) (λh => ?_)
 ·replace h := d2b h
  refine ev ?_
  repeat with_reducible refine andO ?_
  first | refine a0 (q6 (d.getD i 0)) rfl ?_ | refine d7 (q6 (d.getD i 0)) rfl ?_ | refine d5 (q6 (d.getD i 0)) rfl ?_
  refine ev ?_
  cases hi : p9 (d.getD i 0)
  ·rw [c8V i (by omega) hi]
   refine ev ?_
   exact g9
  ·refine ev ?_
   rw [f0 (by omega) (by omega)]
   exact ⟨c - 1, by omega, i + 1, by omega, λj hj => by rcases Nat.lt_succ_iff_lt_or_eq.1 hj with h1 | rfl; exact hf j h1; exact hi, rfl⟩
 ·replace h := d2c h
  rw [d0F λj hj => hf j (by omega)]
  refine ev ?_
  exact g9
end
def seek (tr : List Nat -> List Nat × Nat) : Nat -> Nat -> List Nat -> List Nat × Nat × Int
 | 0, k, _ => ([], k, 6)
 | f + 1, k, d => if a2B (tr d).1 = false then ([], k, 2) else if fcmp .le (tr d).2 4562146422526312448 = true then ((tr d).1, k, 0) else if 4 <= k then ([], k, 6) else seek tr f (k + 1) (tr d).1
def tryA (t : Tp) (z : List (List Nat)) (l : List Nat) (h : Nat) (w d : List Nat) : List Nat × Nat := (gS t z l h d, c6j t z l h w d)
def solA (t : Tp) (z : List (List Nat)) (l : List Nat) (h : Nat) (w : List Nat) : List Nat × Nat × Int := seek (tryA t z l h w) 4 1 (List.replicate t.n 0)
abbrev sumV (r : List Nat × Nat × Int) : V := .agg [.d (rowD r.1), fI r.2.1, fI r.2.2]
abbrev solT (t : Tp) (z : List (List Nat)) (l : List Nat) (h : Nat) (w d : List Nat) (k : Nat) : T := ⟨[(12, .ptr 1 0 0 3), (13, .ptr 16 0 0 11), (14, .fn 180 [.ptr 16 0 0 11] []), (16, fI k)],
 [(16, [svV t z l h w 14 .nil .nil]), (14, [rowV d]), (1, [[.nil, fI 0, fI 0]]), (0, [[fI t.n, .d (opsD t.ops), .d (rowI t.out)]])]⟩
theorem c5f (t : Tp) (z : List (List Nat)) (l : List Nat) (h : Nat) (w d g : List Nat) (k : Nat) : Le (λ_ => False) (T.s 76 ⟨[(12, .ptr 1 0 0 3), (13, .ptr 16 0 0 11), (14, .fn 180 [.ptr 16 0 0 11] []), (16, fI k)],
  [(100, [rowV g]), (16, [svV t z l h w 100 .nil .nil]), (14, [rowV d]), (1, [[.nil, fI 0, fI 0]]), (0, [[fI t.n, .d (opsD t.ops), .d (rowI t.out)]])]⟩) (T.s 76 (solT t z l h w g k)) := by
 refine Le.trans (LeT.only (L' := [(100, [rowV g]), (16, [svV t z l h w 100 .nil .nil]), (1, [[.nil, fI 0, fI 0]]), (0, [[fI t.n, .d (opsD t.ops), .d (rowI t.out)]])]) (λX => X != 14) (λ_ h => h) rfl (by simp [kpS]) (by simp [kpS])) ?_
 refine Le.trans (LeT.move 14 (by decide) (by simp [d6, d9]) (by simp [d6, d9]) (λh => h)) ?_
 have e : renS (absF 100 14 0) [(12, .ptr 1 0 0 3), (13, .ptr 16 0 0 11), (14, .fn 180 [.ptr 16 0 0 11] []), (16, fI k)] = [(12, .ptr 1 0 0 3), (13, .ptr 16 0 0 11), (14, .fn 180 [.ptr 16 0 0 11] []), (16, fI k)] := by
  simp [renS, V.ren, V.renL, absF]
 have e2 : Heap.renH (absF 100 14 0) [(16, [svV t z l h w 100 .nil .nil]), (1, [[.nil, fI 0, fI 0]]), (0, [[fI t.n, .d (opsD t.ops), .d (rowI t.out)]])] = [(16, [svV t z l h w 14 .nil .nil]), (1, [[.nil, fI 0, fI 0]]), (0, [[fI t.n, .d (opsD t.ops), .d (rowI t.out)]])] := by
  simp [Heap.renH, V.ren, absF]
 rw [e, e2, Z5]
 exact LeT.perm (λ_ h => h) (λX => .inr (by simp only [d6, d9]; grind)) (by simp [kpS]) (by simp [kpS])
theorem b2q (t : Tp) (z : List (List Nat)) (l : List Nat) (h : Nat) (w : List Nat) (f k : Nat) (d : List Nat) : seek (tryA t z l h w) (f + 1) k d =
 if a2B (gS t z l h d) = false then ([], k, 2) else if fcmp .le (c6j t z l h w d) 4562146422526312448 = true then (gS t z l h d, k, 0) else if 4 <= k then ([], k, 6) else seek (tryA t z l h w) f (k + 1) (gS t z l h d) := rfl
theorem c15 (L' : Heap) (r : V) (t : Tp) (z : List (List Nat)) (l : List Nat) (h : Nat) (w : List Nat)
  (h1 : ∀ k g, g.length = t.n -> solA t z l h w = (g, k, 0) -> r = .agg [.sl 105 0 0 t.n 1 t.n, fI k, fI 0] /\ L' = [(105, [rowV g])])
  (h2 : ∀ k e, solA t z l h w = ([], k, e) -> e ≠ 0 -> r = .agg [.nil, fI k, fI e] /\ L' = [])
  (step : Int) (m : Int) (hm : m ≠ 1) (ok : Sok t z l w (List.replicate t.n 0)) (hs : Con Tryz.prog 96 [fl (FloatKind.nearest .f64 step), fI (-30)] (fl h)) :
  AC Tryz.prog 138 [R7 t, .d (g6 z), .d (rowD l), fI step, fI m, .d (rowD w)] [] L' r := by
 obtain ⟨ht, hz, hzl, hl, hw, hd⟩ := ok
 have hn := ht.n
 have hm1 : (m == 1) = false := by simpa using hm
 refine k9 a1k rfl f5 (λ_ => False) (by simp [g5]) ?_
 refine evx @a3p.eq_1 ?_
 first | refine a0 (hs) rfl ?_ | refine d7 (hs) rfl ?_ | refine d5 (hs) rfl ?_
 refine evx (And.intro hm1 @a3M) ?_
 repeat with_reducible refine andO ?_
 refine j5 (n := 4) (λc s => ∃ k d, c + k = 5 /\ (1 <= k /\ k <= 4) /\ d.length = t.n /\ seek (tryA t z l h w) c k d = solA t z l h w /\ s = solT t z l h w d k) (Le.refl _) ⟨1, _, by omega, by omega, hd, rfl, rfl⟩ ?_
 rintro c s ⟨k, d, hc, hk, hdl, he, rfl⟩
 have okd : Sok t z l w d := ⟨ht, hz, hzl, hl, hw, hdl⟩
 have hgl : (gS t z l h d).length = t.n := k8 _ _
 have okg : Sok t z l w (gS t z l h d) := ⟨ht, hz, hzl, hl, hw, hgl⟩
 obtain ⟨f, rfl⟩ : ∃ f, c = f + 1 := ⟨c - 1, by omega⟩
 refine evx @Y1.eq_1 ?_
 refine B7 (c6J t z l h w d okd) ?_
 refine ev ?_
 refine B6 [.d (.bptr (svC t z l h w (gS t z l h d) .nils .nils))] (b2M t z l h w _ .nils .nils okg) ⟨a4H t z l h w _ .nils .nils (X := 100) (pv := .nil) (qv := .nil) rfl rfl hgl .nil .nil, trivial⟩ (.bool _) ?_
 refine ev ?_
 rw [b2q] at he
 cases hf : a2B (gS t z l h d)
 ·rw [if_pos hf] at he
  refine evx @Bool.not_false ?_
  obtain ⟨rfl, rfl⟩ := h2 k 2 he.symm (by decide)
  exact m5 (λ_ => false) (λ_ h => h) (g8 (by decide) rfl rfl rfl (by simp) rfl) rfl (by simp [kpS]) (by simp [kpS])
 ·rw [if_neg (by rw [hf]; decide)] at he
  refine evx @Bool.not_true ?_
  cases hle : fcmp .le (c6j t z l h w d) 4562146422526312448
  ·rw [if_neg (by rw [hle]; decide)] at he
   refine ev ?_
   by_cases h4 : 4 <= k
   ·rw [if_pos h4] at he
    have h4' : decide ((4 : Int) <= (k : Int)) = true := by simp; omega
    refine evx h4' ?_
    obtain ⟨rfl, rfl⟩ := h2 k 6 he.symm (by decide)
    exact m5 (λ_ => false) (λ_ h => h) (g8 (by decide) rfl rfl rfl (by simp) rfl) rfl (by simp [kpS]) (by simp [kpS])
   ·rw [if_neg h4] at he
    have h4' : decide ((4 : Int) <= (k : Int)) = false := by simp; omega
    refine evx h4' ?_
    rw [f0 (by omega) (by omega)]
    exact ⟨f, _, by omega, c5f t z l h w d (gS t z l h d) (k + 1), k + 1, _, by omega, by omega, hgl, he, rfl⟩
  ·rw [if_pos hle] at he
   refine ev ?_
   have htk : List.take t.n (rowV (gS t z l h d)) = rowV (gS t z l h d) := d2r (by simp [hgl])
   have hrl : (rowV (gS t z l h d)).length = t.n := by simp [hgl]
   rw [if_pos ⟨hgl, by omega⟩, htk]
   simp only []
   repeat with_reducible refine andO ?_
   obtain ⟨rfl, rfl⟩ := h1 k _ hgl he.symm
   refine ⟨⟨by omega, hrl, by simp [rowV, V.isCell]⟩, ?_⟩
   exact m5 (λX => X == 105) (λ_ h => h) (g8 (by decide) rfl rfl rfl (by simp) rfl) rfl (by simp [kpS]) (by simp [kpS])
theorem c4N {P : Program} {f : FuncId} {vs : List V} {X n : Nat} {xs : List Nat} {a b : Int} (h : AC P f vs [] [(X, [rowV xs])] (.agg [.sl X 0 0 n 1 n, fI a, fI b])) : AC P f vs [] [(0, [rowV xs])] (.agg [.sl 0 0 0 n 1 n, fI a, fI b]) := by
 have hle := Le.ren (N := λ_ => False) (L := [(X, [rowV xs])]) (L2 := [(0, [rowV xs])]) (sl := [.agg [.sl X 0 0 n 1 n, fI a, fI b]]) (λ_ r => (0, r)) (λ_ r => (X, r)) ?_ ?_ (λ_ _ h => h.elim)
 ·exact c61 h (by simpa [V.ren, V.renL] using hle)
 ·intro Z r c h
  obtain ⟨rfl, rfl, rfl⟩ := a6V (L := []) h
  simp [d8, V.ren]
 ·intro Z r c h
  obtain ⟨rfl, rfl, rfl⟩ := a6V (L := []) h
  simp [d8]
theorem c2d (t : Tp) (z : List (List Nat)) (l : List Nat) (h : Nat) (w : List Nat) (f : Nat) : ∀ (k : Nat) (d g : List Nat) (a : Nat), seek (tryA t z l h w) f k d = (g, a, 0) -> g.length = t.n := by
 induction f with
 | zero => intro k d g a he; simp [seek] at he
 | succ f ih =>
  intro k d g a he
  rw [b2q] at he
  split at he
  ·simp at he
  ·split at he
   ·injection he with h1 h2
    rw [<- h1]; exact k8 _ _
   ·split at he
    ·simp at he
    ·exact ih _ _ _ _ he
theorem b4w (t : Tp) (z : List (List Nat)) (l : List Nat) (h : Nat) (w : List Nat) (step : Int) (m : Int) (hm : m ≠ 1) (ok : Sok t z l w (List.replicate t.n 0)) (hs : Con Tryz.prog 96 [fl (FloatKind.nearest .f64 step), fI (-30)] (fl h))
  (g : List Nat) (k : Nat) (hg : solA t z l h w = (g, k, 0)) : AC Tryz.prog 138 [R7 t, .d (g6 z), .d (rowD l), fI step, fI m, .d (rowD w)] [] [(0, [rowV g])] (.agg [.sl 0 0 0 t.n 1 t.n, fI k, fI 0]) := by
 refine c4N (X := 105) (c15 _ _ t z l h w (λk' g' _ he => ?_) (λk' e he hne => ?_) step m hm ok hs)
 ·rw [hg] at he
  simp only [Prod.mk.injEq] at he
  obtain ⟨rfl, rfl, _⟩ := he
  exact ⟨rfl, rfl⟩
 ·rw [hg] at he
  simp only [Prod.mk.injEq] at he
  exact absurd he.2.2.symm hne
theorem b4x (t : Tp) (z : List (List Nat)) (l : List Nat) (h : Nat) (w : List Nat) (step : Int) (m : Int) (hm : m ≠ 1) (ok : Sok t z l w (List.replicate t.n 0)) (hs : Con Tryz.prog 96 [fl (FloatKind.nearest .f64 step), fI (-30)] (fl h))
  (k : Nat) (e : Int) (hne : e ≠ 0) (hg : solA t z l h w = ([], k, e)) : AC Tryz.prog 138 [R7 t, .d (g6 z), .d (rowD l), fI step, fI m, .d (rowD w)] [] [] (.agg [.nil, fI k, fI e]) := by
 refine c15 _ _ t z l h w (λk' g' _ he => ?_) (λk' e' he hne' => ?_) step m hm ok hs
 ·rw [hg] at he
  simp only [Prod.mk.injEq] at he
  exact absurd he.2.2 hne
 ·rw [hg] at he
  simp only [Prod.mk.injEq] at he
  obtain ⟨_, rfl, rfl⟩ := he
  exact ⟨rfl, rfl⟩
end Go.Ab
namespace Go.Ab
open Go Go.Proofs
def a4z : CA := (.seq (.reg [i_X 0 2 (.h (.mov (.k (.d (.flt 0)))))] [0]) (.seq (.reg [i_M 0 3 0, i_M 1 2 3] [2]) .ret))
theorem a5m : f7 Tryz.prog 267 = some ⟨4, [(2, none)], a4z.strip⟩ := by kernel_rfl
def a4y : CA := (.seq (.reg [i_X 0 4 (.h (.mov (.k (.d (.flt 0)))))] [0, 1]) (.seq (.reg [i_M 0 5 0, i_M 1 6 1, i_F 2 7 .add 5 6, i_M 3 4 7] [4]) .ret))
theorem a5k : f7 Tryz.prog 268 = some ⟨8, [(4, none)], a4y.strip⟩ := by kernel_rfl
def a4x : CA := (.seq (.reg [i_X 0 4 (.h (.mov (.k (.d (.flt 0)))))] [0, 1]) (.seq (.reg [i_M 0 5 0, i_M 1 6 1, i_F 2 7 .sub 5 6, i_M 3 4 7] [4]) .ret))
theorem a5j : f7 Tryz.prog 269 = some ⟨8, [(4, none)], a4x.strip⟩ := by kernel_rfl
def a4w : CA := (.seq (.reg [i_X 0 4 (.h (.mov (.k (.d (.flt 0)))))] [0, 1]) (.seq (.reg [i_M 0 5 0, i_M 1 6 1, i_F 2 7 .mul 5 6, i_M 3 4 7] [4]) .ret))
theorem a5g : f7 Tryz.prog 270 = some ⟨8, [(4, none)], a4w.strip⟩ := by kernel_rfl
def a4v : CA := (.seq (.reg [i_X 0 4 (.h (.mov (.k (.d (.flt 0)))))] [0, 1]) (.seq (.reg [i_M 0 5 0, i_M 1 6 1, i_F 2 7 .div 5 6, i_M 3 4 7] [4]) .ret))
theorem a5f : f7 Tryz.prog 271 = some ⟨8, [(4, none)], a4v.strip⟩ := by kernel_rfl
def a8v : CA := (.seq (.reg [i_X 0 0 (.alloc [(.d .nilf), (.d .nilf), (.d .nilf), (.d .nilf), (.d .nilf)] 271)] [0]) (.seq (.reg [i_X 0 1 (.h (.build [(.d .nilf), (.d .nilf), (.d .nilf), (.d .nilf), (.d .nilf)] [(0, (1, (kF 267))), (1, (1, (kF 268))), (2, (1, (kF 269))), (3, (1, (kF 270))), (4, (1, (kF 271)))])), i_S 1 0 1 5] [0]) .ret))
theorem a7D : f7 Tryz.prog 259 = some ⟨2, [(0, (some (5, true)))], a8v.strip⟩ := by kernel_rfl
def J2 : CA := (.seq (.reg [i_X 0 4 (.box (.t 0) 5 271), i_X 1 5 (.box (.t 1) 4 81), i_X 2 8 (.h (.mov (.k (.d (.flt 0)))))] [2, 3, 4, 5]) (.seq (.seq (.reg [i_P 0 11 5 0, i_L 1 12 11 1] [2, 3, 4, 5, 12]) (.block 0 (.seq (.reg [i_B 0 14 .eql 12 0, i_M 1 13 14] [2, 3, 4, 5, 12, 13]) (.cond (.t 13) (.seq (.reg [i_P 0 15 4 0, i_L 1 16 15 1, i_P 2 17 5 3, i_L 3 18 17 1, i_X 4 19 (.callA (.t 16) [(.t 18)]), i_M 5 8 19] [8]) .ret) (.seq (.reg [i_B 0 21 .eql 12 1, i_M 1 20 21] [2, 3, 4, 5, 20]) (.cond (.t 20) (.seq (.reg [i_M 0 22 2, i_P 1 23 5 1, i_L 2 24 23 1, i_I 3 25 22 24 1, i_L 4 26 25 1, i_M 5 8 26] [8]) .ret) .skip)))))) (.seq (.reg [i_M 0 27 3, i_P 1 28 5 1, i_L 2 29 28 1, i_I 3 30 27 29 2, i_P 4 31 30 0, i_L 5 32 31 1, i_M 6 33 3, i_P 7 34 5 2, i_L 8 35 34 1, i_I 9 36 33 35 2, i_P 10 37 36 0, i_L 11 38 37 1, i_M 12 9 32, i_M 13 10 38] [4, 5, 9, 10]) (.seq (.seq (.reg [i_P 0 39 5 0, i_L 1 40 39 1] [4, 9, 10, 40]) (.block 1 (.seq (.reg [i_B 0 42 .eql 40 2, i_M 1 41 42] [4, 9, 10, 40, 41]) (.cond (.t 41) (.seq (.reg [i_P 0 43 4 1, i_L 1 44 43 1, i_M 2 45 9, i_M 3 46 10, i_X 4 47 (.callA (.t 44) [(.t 45), (.t 46)]), i_M 5 8 47] [8]) .ret) (.seq (.reg [i_B 0 49 .eql 40 3, i_M 1 48 49] [4, 9, 10, 40, 48]) (.cond (.t 48) (.seq (.reg [i_P 0 50 4 2, i_L 1 51 50 1, i_M 2 52 9, i_M 3 53 10, i_X 4 54 (.callA (.t 51) [(.t 52), (.t 53)]), i_M 5 8 54] [8]) .ret) (.seq (.reg [i_B 0 56 .eql 40 4, i_M 1 55 56] [4, 9, 10, 55]) (.cond (.t 55) (.seq (.reg [i_P 0 57 4 3, i_L 1 58 57 1, i_M 2 59 9, i_M 3 60 10, i_X 4 61 (.callA (.t 58) [(.t 59), (.t 60)]), i_M 5 8 61] [8]) .ret) .skip)))))))) (.seq (.reg [i_P 0 62 4 4, i_L 1 63 62 1, i_M 2 64 9, i_M 3 65 10, i_X 4 66 (.callA (.t 63) [(.t 64), (.t 65)]), i_M 5 8 66] [8]) .ret)))))
theorem T7 : f7 Tryz.prog 272 = some ⟨67, [(8, none)], J2.strip⟩ := by kernel_rfl
def p8 : CA := (.seq (.reg [i_X 0 5 (.box (.t 0) 5 271), i_X 1 6 (.box (.t 1) 4 81), i_X 2 10 (.h (.mov (.k (.d (.flt 0)))))] [2, 3, 4, 5, 6]) (.seq (.block 0 (.seq (.reg [i_P 0 14 6 0, i_L 1 15 14 1, i_B 2 16 .eql 15 1, i_M 3 17 16, g_T 4 18 17 (.h (.padd (.t 6) 1)), g_T 5 19 17 (.load (.t 18) 1 false), g_T 6 20 17 (.h (.mov (.t 2))), g_T 7 21 17 (.h (.ibin .eql (.t 19) (.t 20))), i_X 8 22 (.h (.pick (.t 17) (.t 21) (.k (.d (.bool false))))), i_M 9 13 22] [2, 3, 4, 5, 6, 13]) (.cond (.t 13) (.seq (.reg [i_P 0 23 5 0, i_L 1 24 23 1, i_X 2 25 (.callA (.t 24) [(.k (.d (.flt 4607182418800017408)))]), i_M 3 10 25] [10]) .ret) (.seq (.reg [i_P 0 27 6 0, i_L 1 28 27 1, i_B 2 29 .eql 28 0, i_M 3 30 29, g_F 4 31 30 (.h (.padd (.t 6) 0)), g_F 5 32 30 (.load (.t 31) 1 false), g_F 6 33 30 (.h (.ibin .eql (.t 32) (kI 1))), i_X 7 34 (.h (.pick (.t 30) (.k (.d (.bool true))) (.t 33))), i_M 8 26 34] [2, 3, 4, 5, 6, 26]) (.cond (.t 26) (.seq (.reg [i_P 0 35 5 0, i_L 1 36 35 1, i_X 2 37 (.callA (.t 36) [(.k (.d (.flt 0)))]), i_M 3 10 37] [10]) .ret) .skip))))) (.seq (.reg [i_M 0 38 4, i_P 1 39 6 1, i_L 2 40 39 1, i_I 3 41 38 40 2, i_A 4 42 41 2, i_M 5 43 4, i_P 6 44 6 2, ⟨7, (some 45), none, [(.t 6)], [], (.load (.t 44) 1 false)⟩, i_I 8 46 43 45 2, ⟨9, (some 47), none, [(.t 4)], [], (.load (.t 46) 2 true)⟩, i_X 10 11 (.alloc [fl 0, .nil] 280), i_X 11 12 (.alloc [fl 0, .nil] 280), ⟨12, none, none, [], [(.t 6), (.t 4)], (.store (.t 11) (.t 42) 2)⟩, i_S 13 12 47 2] [2, 3, 5, 6, 11, 12]) (.seq (.seq (.reg [i_P 0 48 6 0, i_L 1 49 48 1] [2, 3, 5, 11, 12, 49]) (.block 1 (.seq (.reg [i_B 0 51 .eql 49 2, i_M 1 50 51] [2, 3, 5, 11, 12, 49, 50]) (.cond (.t 50) (.seq (.reg [i_P 0 52 5 1, i_L 1 53 52 1, i_P 2 54 11 1, i_L 3 55 54 1, i_M 4 56 2, i_I 5 57 55 56 1, i_L 6 58 57 1, i_P 7 59 12 1, i_L 8 60 59 1, i_M 9 61 2, i_I 10 62 60 61 1, i_L 11 63 62 1, i_X 12 64 (.callA (.t 53) [(.t 58), (.t 63)]), i_M 13 10 64] [10]) .ret) (.seq (.reg [i_B 0 66 .eql 49 3, i_M 1 65 66] [2, 3, 5, 11, 12, 49, 65]) (.cond (.t 65) (.seq (.reg [i_P 0 67 5 2, i_L 1 68 67 1, i_P 2 69 11 1, i_L 3 70 69 1, i_M 4 71 2, i_I 5 72 70 71 1, i_L 6 73 72 1, i_P 7 74 12 1, i_L 8 75 74 1, i_M 9 76 2, i_I 10 77 75 76 1, i_L 11 78 77 1, i_X 12 79 (.callA (.t 68) [(.t 73), (.t 78)]), i_M 13 10 79] [10]) .ret) (.seq (.reg [i_B 0 81 .eql 49 4, i_M 1 80 81] [2, 3, 5, 11, 12, 80]) (.cond (.t 80) (.seq (.reg [i_P 0 82 5 1, i_L 1 83 82 1, i_P 2 84 5 3, i_L 3 85 84 1, i_P 4 86 11 1, i_L 5 87 86 1, i_M 6 88 2, i_I 7 89 87 88 1, i_L 8 90 89 1, i_P 9 91 12 0, i_L 10 92 91 1, i_X 11 93 (.callS 11 (.t 85) [(.t 90), (.t 92)]), i_P 12 94 5 3, i_L 13 95 94 1, i_P 14 96 11 0, i_L 15 97 96 1, i_P 16 98 12 1, i_L 17 99 98 1, i_M 18 100 2, i_I 19 101 99 100 1, i_L 20 102 101 1, i_X 21 103 (.callS 21 (.t 95) [(.t 97), (.t 102)]), i_X 22 104 (.callA (.t 83) [(.t 93), (.t 103)]), i_M 23 10 104] [10]) .ret) .skip)))))))) (.seq (.reg [i_P 0 105 5 4, i_L 1 106 105 1, i_P 2 107 5 2, i_L 3 108 107 1, i_P 4 109 11 1, i_L 5 110 109 1, i_M 6 111 2, i_I 7 112 110 111 1, i_L 8 113 112 1, i_P 9 114 5 3, i_L 10 115 114 1, i_M 11 116 3, i_P 12 117 12 1, i_L 13 118 117 1, i_M 14 119 2, i_I 15 120 118 119 1, i_L 16 121 120 1, i_X 17 122 (.callS 17 (.t 115) [(.t 116), (.t 121)]), i_X 18 123 (.callS 18 (.t 108) [(.t 113), (.t 122)]), i_P 19 124 12 0, i_L 20 125 124 1, i_X 21 126 (.callA (.t 106) [(.t 123), (.t 125)]), i_M 22 10 126] [10]) .ret)))))
theorem m9 : f7 Tryz.prog 273 = some ⟨127, [(10, none)], p8.strip⟩ := by kernel_rfl
def A_jac_kind_float64_run_L1 : CA := (.seq (.reg [i_N 0 31 .lss 30 29] [2, 3, 4, 7, 9, 10, 16, 17, 18, 29, 30, 31]) (.seq (.cond (.t 31) .skip (.exit 2)) (.seq (.block 3 (.seq (.reg [i_M 0 32 30, i_M 1 11 32] [2, 3, 4, 7, 9, 10, 11, 16, 17, 18, 29, 30]) (.reg [i_P 0 33 10 1, i_L 1 34 33 1, i_A 2 35 3 5, i_A 3 36 9 4, i_M 4 37 11, i_P 5 38 10 0, i_L 6 39 38 1, i_M 7 40 7, i_X 8 41 (.callS 8 (kF 273) [(.t 35), (.t 36), (.t 37), (.t 39), (.t 40)]), i_X 9 42 (.bslice [fl 0] 1 1 [(0, (1, (.t 41)))] 31), i_X 10 43 (.app (.t 34) (.t 42) 1 8), i_P 11 44 10 1, i_S 12 44 43 1] [2, 3, 4, 7, 9, 10, 16, 17, 18, 29, 30]))) (.reg [i_B 0 45 .add 30 1, i_M 1 30 45] [2, 3, 4, 7, 9, 10, 16, 17, 18, 29, 30]))))
def G1 : CA := (.seq (.reg [i_N 0 19 .lss 18 17] [2, 3, 4, 7, 16, 17, 18, 19]) (.seq (.cond (.t 19) .skip (.exit 0)) (.seq (.block 1 (.seq (.reg [i_I 0 20 16 18 4, i_A 1 21 20 4, i_X 2 9 (.alloc [fI 0, fI 0, fI 0, fl 0] 81), i_S 3 9 21 4] [2, 3, 4, 7, 9, 16, 17, 18]) (.seq (.reg [i_A 0 22 3 5, i_A 1 23 9 4, i_M 2 24 2, i_M 3 25 7, i_X 4 26 (.callA (kF 272) [(.t 22), (.t 23), (.t 24), (.t 25)]), i_X 5 27 (.h (.build [fl 0, .nil] [(0, (1, (.t 26)))])), i_X 6 10 (.alloc [fl 0, .nil] 280), i_S 7 10 27 2] [2, 3, 4, 7, 9, 10, 16, 17, 18]) (.seq (.seq (.reg [i_P 0 28 4 0, i_L 1 29 28 1, i_K 2 30 0] [2, 3, 4, 7, 9, 10, 16, 17, 18, 29, 30]) (.block 2 (.loop A_jac_kind_float64_run_L1))) (.reg [i_M 0 46 7, i_A 1 47 10 2, i_X 2 48 (.bslice [fl 0, .nil] 1 2 [(0, (2, (.t 47)))] 280), i_X 3 49 (.app (.t 46) (.t 48) 2 32), i_M 4 7 49] [2, 3, 4, 7, 16, 17, 18]))))) (.reg [i_B 0 50 .add 18 1, i_M 1 18 50] [2, 3, 4, 7, 16, 17, 18]))))
def G0 : CA := (.seq (.reg [i_N 0 58 .lss 57 56] [7, 12, 55, 56, 57, 58]) (.seq (.cond (.t 58) .skip (.exit 4)) (.seq (.block 5 (.seq (.reg [i_M 0 59 57, i_I 1 60 55 57 1, i_L 2 61 60 1, i_M 3 13 59, i_M 4 14 61] [7, 12, 13, 14, 55, 56, 57]) (.reg [i_M 0 62 12, i_M 1 63 13, i_M 2 64 7, i_M 3 65 14, i_I 4 66 64 65 2, i_P 5 67 66 1, i_L 6 68 67 1, i_X 7 69 (.app (.k .nil) (.t 68) 1 8), i_I 8 70 62 63 1, i_S 9 70 69 1] [7, 12, 55, 56, 57]))) (.reg [i_B 0 71 .add 57 1, i_M 1 57 71] [7, 12, 55, 56, 57]))))
def M8 : CA := (.seq (.reg [i_X 0 3 (.box (.t 0) 5 271), i_X 1 4 (.box (.t 1) 3 28), i_X 2 6 (.h (.mov (.k .nil)))] [2, 3, 4]) (.seq (.reg [i_X 0 7 (.h (.mov (.k .nil)))] [2, 3, 4, 7]) (.seq (.seq (.reg [i_P 0 15 4 1, i_L 1 16 15 1, i_X 2 17 (.h (.len (.t 16))), i_K 3 18 0] [2, 3, 4, 7, 16, 17, 18]) (.block 0 (.loop G1))) (.seq (.reg [i_P 0 51 4 0, i_L 1 52 51 1, i_X 2 53 (.mksl [.nil] 1 24 (.t 52) (.t 52) 30), i_M 3 12 53] [4, 7, 12]) (.seq (.seq (.reg [i_P 0 54 4 2, i_L 1 55 54 1, i_X 2 56 (.h (.len (.t 55))), i_K 3 57 0] [7, 12, 55, 56, 57]) (.block 4 (.loop G0))) (.seq (.reg [i_M 0 72 12, i_M 1 6 72] [6]) .ret))))))
theorem X3 : f7 Tryz.prog 260 = some ⟨73, [(6, none)], M8.strip⟩ := by kernel_rfl
def b6L : CA := (.seq (.reg [i_X 0 2 (.box (.t 0) 3 28), i_X 1 4 (.h (.mov (.k .nil)))] [1, 2]) (.seq (.reg [i_X 0 5 (.callS 0 (kF 259) []), i_A 1 6 2 3, i_M 2 7 1, i_X 3 8 (.callA (kF 260) [(.t 5), (.t 6), (.t 7)]), i_M 4 4 8] [4]) .ret))
theorem b17 : f7 Tryz.prog 231 = some ⟨9, [(4, none)], b6L.strip⟩ := by kernel_rfl
theorem v6 (x : Nat) : Con Tryz.prog 267 [fl x] (fl x) := by
 refine b7 a5m rfl f5 ?_
 refine evx @a4z.eq_1 ?_
 exact g9
theorem A2 (x y : Nat) : Con Tryz.prog 268 [fl x, fl y] (fl (fop .add x y)) := by
 refine b7 a5k rfl f5 ?_
 refine evx @a4y.eq_1 ?_
 exact g9
theorem A1 (x y : Nat) : Con Tryz.prog 269 [fl x, fl y] (fl (fop .sub x y)) := by
 refine b7 a5j rfl f5 ?_
 refine evx @a4x.eq_1 ?_
 exact g9
theorem v5 (x y : Nat) : Con Tryz.prog 270 [fl x, fl y] (fl (fop .mul x y)) := by
 refine b7 a5g rfl f5 ?_
 refine evx @a4w.eq_1 ?_
 exact g9
theorem H9 (x y : Nat) : Con Tryz.prog 271 [fl x, fl y] (fl (fop .div x y)) := by
 refine b7 a5f rfl f5 ?_
 refine evx @a4v.eq_1 ?_
 exact g9
abbrev jfV : V := .agg [.d (.fn 267 [] []), .d (.fn 268 [] []), .d (.fn 269 [] []), .d (.fn 270 [] []), .d (.fn 271 [] [])]
theorem a4U : Con Tryz.prog 259 [] jfV := by
 refine b7 a7D rfl f5 ?_
 refine evx @a8v.eq_1 ?_
 exact f9 rfl (by decide) rfl rfl rfl (by simp) (by simp [ldv])
def oneW : Nat := 4607182418800017408
def slo (o : OpN) (q : Nat) (r : List Nat) (dr : List (List Nat)) (k : Nat) : Nat :=
 if o.k = 1 /\ o.a = k then oneW else if o.k = 0 \/ o.k = 1 then 0 else
 if o.k = 2 then fop .add ((dr.getD o.a.toNat []).getD k 0) ((dr.getD o.b.toNat []).getD k 0) else if o.k = 3 then fop .sub ((dr.getD o.a.toNat []).getD k 0) ((dr.getD o.b.toNat []).getD k 0) else
 if o.k = 4 then fop .add (fop .mul ((dr.getD o.a.toNat []).getD k 0) (r.getD o.b.toNat 0)) (fop .mul (r.getD o.a.toNat 0) ((dr.getD o.b.toNat []).getD k 0)) else
 fop .div (fop .sub ((dr.getD o.a.toNat []).getD k 0) (fop .mul q ((dr.getD o.b.toNat []).getD k 0))) (r.getD o.b.toNat 0)
def drs (t : Tp) (x : List Nat) : Nat -> List (List Nat)
 | 0 => []
 | i + 1 => drs t x i ++ [tabR (slo (t.ops.getD i ⟨0, 0, 0, 0⟩) (opV (t.ops.getD i ⟨0, 0, 0, 0⟩) x (regs t x i)) (regs t x i) (drs t x i)) t.n]
theorem b0n (t : Tp) (x : List Nat) (i : Nat) : (drs t x i).length = i := by
 induction i with
 | zero => rfl
 | succ i ih => simp [drs, ih]
theorem b4r (t : Tp) (x : List Nat) (i : Nat) : ∀ j, j < i -> ((drs t x i).getD j []).length = t.n := by
 induction i with
 | zero => intro j hj; omega
 | succ i ih =>
  intro j hj
  have hl := b0n t x i
  unfold drs
  by_cases h : j < i
  ·have := ih j h
   rw [d2d] at this ⊢
   rwa [d2g (by omega)]
  ·obtain rfl : j = i := by omega
   rw [d2d, d2j (by omega), hl, Nat.sub_self]
   exact k8 _ _
def jacT (t : Tp) (x : List Nat) : List (List Nat) := (List.range t.n).map λi => (drs t x t.ops.length).getD (t.out.getD i 0).toNat []
def Y6 (r : List Nat) (dr : List (List Nat)) (i : Nat) : List D := [.flt (r.getD i 0), rowD (dr.getD i [])]
def P7 (r : List Nat) (dr : List (List Nat)) : D := .bor r.length (Y6 r dr)
abbrev opA (o : OpN) : V := .agg [fI o.k, fI o.a, fI o.b, fl o.c]
def Oko (o : OpN) (i n : Nat) : Prop := o.k = 0 \/ (o.k = 1 /\ 0 <= o.a /\ o.a < n) \/ ((o.k = 2 \/ o.k = 3 \/ o.k = 4 \/ o.k = 5) /\ (0 <= o.a /\ o.a < i) /\ 0 <= o.b /\ o.b < i)
section
variable (o : OpN) (x r : List Nat) (dr : List (List Nat)) (n : Nat) (ho : Oko o r.length n) (hx : x.length = n)
include ho hx
theorem c0E : Con Tryz.prog 272 [jfV, opA o, .d (rowD x), .d (P7 r dr)] (fl (opV o x r)) := by
 refine b7 T7 rfl f5 ?_
 refine evx @J2.eq_1 ?_
 rcases ho with hk | ⟨hk, ha⟩ | ⟨hk, ha, hb⟩
 ·refine evx hk ?_
  first | refine a0 (v6 o.c) rfl ?_ | refine d7 (v6 o.c) rfl ?_ | refine d5 (v6 o.c) rfl ?_
  refine ev ?_
  have e : opV o x r = o.c := by simp [opV, hk]
  rw [e]
  exact g9
 ·refine evbx hk ?_
  refine ⟨by omega, ?_⟩
  have e : opV o x r = x.getD o.a.toNat 0 := by simp [opV, hk]
  rw [e]
  exact g9
 ·rcases hk with hk | hk | hk | hk
  ·refine evbx (And.intro hk (And.intro @P7.eq_1 @Y6.eq_1)) ?_
   refine ⟨by omega, by omega, ?_⟩
   first | refine a0 (A2 (r.getD o.a.toNat 0) (r.getD o.b.toNat 0)) rfl ?_ | refine d7 (A2 (r.getD o.a.toNat 0) (r.getD o.b.toNat 0)) rfl ?_ | refine d5 (A2 (r.getD o.a.toNat 0) (r.getD o.b.toNat 0)) rfl ?_
   refine ev ?_
   have e : opV o x r = fop .add (r.getD o.a.toNat 0) (r.getD o.b.toNat 0) := by simp [opV, hk]
   rw [e]
   exact g9
  ·refine evbx (And.intro hk (And.intro @P7.eq_1 @Y6.eq_1)) ?_
   refine ⟨by omega, by omega, ?_⟩
   first | refine a0 (A1 (r.getD o.a.toNat 0) (r.getD o.b.toNat 0)) rfl ?_ | refine d7 (A1 (r.getD o.a.toNat 0) (r.getD o.b.toNat 0)) rfl ?_ | refine d5 (A1 (r.getD o.a.toNat 0) (r.getD o.b.toNat 0)) rfl ?_
   refine ev ?_
   have e : opV o x r = fop .sub (r.getD o.a.toNat 0) (r.getD o.b.toNat 0) := by simp [opV, hk]
   rw [e]
   exact g9
  ·refine evbx (And.intro hk (And.intro @P7.eq_1 @Y6.eq_1)) ?_
   refine ⟨by omega, by omega, ?_⟩
   first | refine a0 (v5 (r.getD o.a.toNat 0) (r.getD o.b.toNat 0)) rfl ?_ | refine d7 (v5 (r.getD o.a.toNat 0) (r.getD o.b.toNat 0)) rfl ?_ | refine d5 (v5 (r.getD o.a.toNat 0) (r.getD o.b.toNat 0)) rfl ?_
   refine ev ?_
   have e : opV o x r = fop .mul (r.getD o.a.toNat 0) (r.getD o.b.toNat 0) := by simp [opV, hk]
   rw [e]
   exact g9
  ·refine evbx (And.intro hk (And.intro @P7.eq_1 @Y6.eq_1)) ?_
   refine ⟨by omega, by omega, ?_⟩
   first | refine a0 (H9 (r.getD o.a.toNat 0) (r.getD o.b.toNat 0)) rfl ?_ | refine d7 (H9 (r.getD o.a.toNat 0) (r.getD o.b.toNat 0)) rfl ?_ | refine d5 (H9 (r.getD o.a.toNat 0) (r.getD o.b.toNat 0)) rfl ?_
   refine ev ?_
   have e : opV o x r = fop .div (r.getD o.a.toNat 0) (r.getD o.b.toNat 0) := by simp [opV, hk]
   rw [e]
   exact g9
end
end Go.Ab
namespace Go.Ab
open Go Go.Proofs
abbrev Iv := Nat × Nat
def negW : Nat := 13830554455654793216
def y7 (a b : Iv) : Iv := F0 (down (fop .add a.1 b.1)) (up (fop .add a.2 b.2))
def in0 (a : Iv) : Bool := fcmp .le a.1 0 && fcmp .le 0 a.2
def T2 (a b : Iv) : Iv := if in0 b = true then (s8, finf) else Y4 [fop .div a.1 b.1, fop .div a.1 b.2, fop .div a.2 b.1, fop .div a.2 b.2] (fop .div a.1 b.1) (fop .div a.1 b.1)
def Q4 (a : Iv) : Nat := if fcmp .gt (fabs a.2) (fabs a.1) = true then fabs a.2 else fabs a.1
def pt (x : Nat) : Iv := (x, x)
abbrev Md := List Iv
def mG (m : Md) (i : Nat) : Iv := m.getD i (0, 0)
def pwI (k : Nat) : Iv := if k % 2 = 0 then (0, oneW) else (negW, 0)
def Y7 (m : Md) : Nat -> Iv
 | 0 => mG m 0
 | k + 1 => y7 (Y7 m k) (s9 (mG m (k + 1)) (pwI (k + 1)))
def c0g (m : Md) : Iv := Y7 m 8
def rngM (m : Md) : Iv := y7 (c0g m) (mG m 9)
def zipM (f : Iv -> Iv -> Iv) (a b : Md) : Md := (List.range 10).map λi => f (mG a i) (mG b i)
def mulK (a b : Md) (k : Nat) : Nat -> Iv
 | 0 => s9 (mG a 0) (mG b k)
 | i + 1 => y7 (mulK a b k i) (s9 (mG a (i + 1)) (mG b (k - (i + 1))))
def mulJ (a b : Md) (i : Nat) (r : Iv) : Nat -> Iv
 | 0 => r
 | j + 1 => if 8 < i + j then y7 (mulJ a b i r j) (s9 (s9 (mG a i) (mG b j)) (pwI (i + j))) else mulJ a b i r j
def mulI (a b : Md) : Nat -> Iv
 | 0 => (0, 0)
 | i + 1 => mulJ a b i (mulI a b i) 9
def mulM (a b : Md) : Md := (List.range 9).map (λk => mulK a b k k) ++ [y7 (y7 (mulI a b 9) (s9 (mG a 9) (rngM b))) (s9 (c0g a) (mG b 9))]
def divW (a b : Md) (q : Md) (k : Nat) : Nat -> Iv
 | 0 => mG a k
 | i + 1 => z4 (divW a b q k i) (s9 (mG b (i + 1)) (mG q (k - (i + 1))))
def divQ (a b : Md) : Nat -> Md
 | 0 => []
 | k + 1 => divQ a b k ++ [T2 (divW a b (divQ a b k) k k) (mG b 0)]
def noneM : Md := List.replicate 9 (0, 0) ++ [(s8, finf)]
def divM (a b : Md) : Md := if (in0 (mG b 0) || in0 (rngM b)) = true then noneM else divQ a b 9 ++ [T2 (rngM (zipM z4 a (mulM b (divQ a b 9 ++ [(0, 0)])))) (rngM b)]
def ofM (z : List Nat) : Md := (List.range 10).map λi => if i < z.length /\ i < 9 then pt (z.getD i 0) else (0, 0)
def opM (o : OpN) (x r : List Md) : Md :=
 if o.k = 0 then ofM [o.c] else if o.k = 1 then x.getD o.a.toNat [] else
 if o.k = 2 then zipM y7 (r.getD o.a.toNat []) (r.getD o.b.toNat []) else if o.k = 3 then zipM z4 (r.getD o.a.toNat []) (r.getD o.b.toNat []) else
 if o.k = 4 then mulM (r.getD o.a.toNat []) (r.getD o.b.toNat []) else divM (r.getD o.a.toNat []) (r.getD o.b.toNat [])
def regM (t : Tp) (x : List Md) : Nat -> List Md
 | 0 => []
 | i + 1 => regM t x i ++ [opM (t.ops.getD i ⟨0, 0, 0, 0⟩) x (regM t x i)]
def Y9 (t : Tp) (x : List Md) : List Md := (List.range t.n).map λi => (regM t x t.ops.length).getD (t.out.getD i 0).toNat []
def ivDs (ps : List Iv) : List D := ps.flatMap λp => [.flt p.1, .flt p.2]
theorem P5 (ps : List Iv) : ivC ps = (ivDs ps).map .d := by
 induction ps with
 | nil => rfl
 | cons p ps ih =>
  show fl p.1 :: fl p.2 :: ivC ps = _
  rw [ih]; rfl
theorem a9s (ps : List Iv) : (ivDs ps).length = ps.length * 2 := by
 have := congrArg List.length (P5 ps)
 rw [j9, List.length_map] at this
 exact this.symm
abbrev mdV (m : Md) : V := .agg (ivC m)
def mdG (r : List Md) (i : Nat) : List D := ivDs (r.getD i [])
def mdD (r : List Md) : D := .bor r.length (mdG r)
theorem a1y (z : List Nat) : (ofM z).length = 10 := by simp [ofM]
theorem G3 (f : Iv -> Iv -> Iv) (a b : Md) : (zipM f a b).length = 10 := by simp [zipM]
theorem a3H (a b : Md) : (mulM a b).length = 10 := by simp [mulM]
theorem a6a (a b : Md) (k : Nat) : (divQ a b k).length = k := by
 induction k with
 | zero => rfl
 | succ k ih => simp [divQ, ih]
theorem b9q (a b : Md) : (divM a b).length = 10 := by
 unfold divM; split
 ·rfl
 ·simp [a6a]
theorem a9p (t : Tp) (x : List Md) (i : Nat) : (regM t x i).length = i := by
 induction i with
 | zero => rfl
 | succ i ih => simp [regM, ih]
theorem b6c (t : Tp) (x : List Md) : (Y9 t x).length = t.n := by simp [Y9]
theorem c8f (o : OpN) (x r : List Md) (hx : ∀ i, 0 <= o.a -> o.a.toNat = i -> o.k = 1 -> (x.getD i []).length = 10) (h : o.k = 1 -> 0 <= o.a) : (opM o x r).length = 10 := by
 unfold opM
 repeat' split
 ·exact a1y _
 ·rename_i h1; exact hx _ (h h1) rfl h1
 ·exact G3 _ _ _
 ·exact G3 _ _ _
 ·exact a3H _ _
 ·exact b9q _ _
theorem b5v (t : Tp) (x : List Md) (ht : Tok t) (hx : ∀ i, i < t.n -> (x.getD i []).length = 10) (i : Nat) (hi : i <= t.ops.length) : ∀ j, j < i -> ((regM t x i).getD j []).length = 10 := by
 induction i with
 | zero => intro j hj; omega
 | succ i ih =>
  intro j hj
  have hl := a9p t x i
  unfold regM
  by_cases h : j < i
  ·have := ih (by omega) j h
   rw [d2d] at this ⊢
   rwa [d2g (by omega)]
  ·obtain rfl : j = i := by omega
   rw [d2d, d2j (by omega), hl, Nat.sub_self]
   have := ht.op j (by omega)
   refine c8f _ _ _ (λa h0 h1 h2 => hx a ?_) (λh2 => ?_)
   ·rcases this with h | h | h
    ·omega
    ·omega
    ·omega
   ·omega
theorem b2N (t : Tp) (x : List Md) (ht : Tok t) (hx : ∀ i, i < t.n -> (x.getD i []).length = 10) (i : Nat) (hi : i < t.n) : ((Y9 t x).getD i []).length = 10 := by
 unfold Y9
 rw [d2d, List.getElem?_map, List.getElem?_range hi]
 have := ht.out i hi
 exact b5v t x ht hx _ (d2t _) _ (by omega)
theorem b6k {get : Nat -> List D} {esz : Nat} (n : Nat) (h : ∀ i, i < n -> (get i).length = esz) (i : Nat) (hi : i < n) : ((g7 n get).drop (i * esz)).take esz = (get i).map .d := by
 have hl := u9 n h
 have hm : (i + 1) * esz <= n * esz := Nat.mul_le_mul_right _ hi
 rw [Nat.succ_mul] at hm
 refine List.ext_getElem (by rw [List.length_take, List.length_drop, List.length_map, h i hi, hl]; omega) λj h1 h2 => ?_
 rw [List.length_map, h i hi] at h2
 have := P0 n h i j hi h2
 rw [d2d, d2f (by omega)] at this
 rw [List.getElem_take, List.getElem_drop, List.getElem_map]
 have e : ((get i).getD j default) = (get i)[j]'(by rw [h i hi]; exact h2) := by simp [d2d, h i hi, h2]
 rw [<- e]
 simpa using this
theorem b3Z (r : List Md) (n : Nat) (h : ∀ i, i < n -> (r.getD i []).length = 10) (i : Nat) (hi : i < n) : ((g7 n (mdG r)).drop (i * 20)).take 20 = ivC (r.getD i []) := by
 rw [b6k n (λj hj => by show (ivDs _).length = 20; rw [a9s, h j hj]) i hi, P5]; rfl
theorem d0f (m : Md) (i j : Nat) (p : Iv) (hi : i < m.length) : mG (m.set i p) j = if j = i then p else mG m j := by
 unfold mG
 rw [d2d, List.getElem?_set]
 by_cases e : i = j
 ·subst e; simp [hi]
 ·rw [if_neg e, if_neg (λh => e h.symm), d2d]
theorem d0m (ps : List Iv) (i : Nat) (h : i < ps.length) : (ivC ps).getD (i * 2) .any = fl (mG ps i).1 /\ (ivC ps).getD (i * 2 + 1) .any = fl (mG ps i).2 := by
 have e : ivG ps i = [.flt (mG ps i).1, .flt (mG ps i).2] := rfl
 have h0 := b4a ps i 0 h (by decide)
 have h1 := b4a ps i 1 h (by decide)
 rw [e] at h0 h1
 exact ⟨h0, h1⟩
theorem H1 (ps : List Iv) (i : Nat) (h : i < ps.length) : ((ivC ps).drop (i * 2)).take 2 = [fl (mG ps i).1, fl (mG ps i).2] := by
 obtain ⟨h0, h1⟩ := d0m ps i h
 have hl := j9 ps
 refine List.ext_getElem (by rw [List.length_take, List.length_drop, hl]; simp; omega) λj h2 h3 => ?_
 have h3 : j < 2 := h3
 rw [List.getElem_take, List.getElem_drop]
 rw [d2d, d2f (by omega)] at h0 h1
 rcases j with _ | _ | j
 ·simpa using h0
 ·simpa using h1
 ·omega
def opI (o : OpN) (x r : List Iv) : Iv :=
 if o.k = 0 then pt o.c else if o.k = 1 then mG x o.a.toNat else
 if o.k = 2 then y7 (mG r o.a.toNat) (mG r o.b.toNat) else if o.k = 3 then z4 (mG r o.a.toNat) (mG r o.b.toNat) else
 if o.k = 4 then s9 (mG r o.a.toNat) (mG r o.b.toNat) else T2 (mG r o.a.toNat) (mG r o.b.toNat)
def regI (t : Tp) (x : List Iv) : Nat -> List Iv
 | 0 => []
 | i + 1 => regI t x i ++ [opI (t.ops.getD i ⟨0, 0, 0, 0⟩) x (regI t x i)]
abbrev dI (dr : List (List Iv)) (i : Int) (k : Nat) : Iv := mG (dr.getD i.toNat []) k
def sloI (o : OpN) (q : Iv) (r : List Iv) (dr : List (List Iv)) (k : Nat) : Iv :=
 if o.k = 1 /\ o.a = k then pt oneW else if o.k = 0 \/ o.k = 1 then (0, 0) else
 if o.k = 2 then y7 (dI dr o.a k) (dI dr o.b k) else if o.k = 3 then z4 (dI dr o.a k) (dI dr o.b k) else
 if o.k = 4 then y7 (s9 (dI dr o.a k) (mG r o.b.toNat)) (s9 (mG r o.a.toNat) (dI dr o.b k)) else
 T2 (z4 (dI dr o.a k) (s9 q (dI dr o.b k))) (mG r o.b.toNat)
def tabI (f : Nat -> Iv) (n : Nat) : List Iv := (List.range n).map f
def drI (t : Tp) (x : List Iv) : Nat -> List (List Iv)
 | 0 => []
 | i + 1 => drI t x i ++ [tabI (sloI (t.ops.getD i ⟨0, 0, 0, 0⟩) (opI (t.ops.getD i ⟨0, 0, 0, 0⟩) x (regI t x i)) (regI t x i) (drI t x i)) t.n]
def jacI (t : Tp) (x : List Iv) : List (List Iv) := (List.range t.n).map λi => (drI t x t.ops.length).getD (t.out.getD i 0).toNat []
def rowS (l : List Iv) (i : Nat) : Nat -> Nat
 | 0 => (mG l i).2
 | k + 1 => if k = i then rowS l i k else up (fop .add (rowS l i k) (Q4 (mG l k)))
def a6W (j : List (List Iv)) : Nat -> Option Nat
 | 0 => some s8
 | i + 1 => match a6W j i with
  | none => none
  | some b => let s := rowS (j.getD i []) i j.length; if j7 s = true then none else some (if fcmp .gt s b = true then s else b)
def a6X (j : List (List Iv)) : Nat := (a6W j j.length).getD finf
def sqI (y : Iv) : Nat -> Iv
 | 0 => y
 | k + 1 => s9 (sqI y k) (sqI y k)
def b52 (x : Nat) : Nat := if (j7 x || fcmp .ge x 4647714815446351872) = true then finf else
 (sqI (T2 (pt oneW) (z4 (pt oneW) (T2 (pt x) (pt 4652218415073722368)))) 10).2
def colT (z : List (List Nat)) (i : Nat) : List Nat := z.map λr => r.getD i 0
def valK (c : List Nat) (s : Nat) : Nat -> Iv
 | 0 => pt (c.getD (c.length - 1) 0)
 | m + 1 => y7 (s9 (valK c s m) (pt s)) (pt (c.getD (c.length - 2 - m) 0))
def valC (c : List Nat) (s : Nat) : Iv := valK c s (c.length - 1)
def sloM (c : List Nat) (h : Nat) : Md := (List.range 10).map λk => if k + 1 < c.length /\ k < 9 then T2 (s9 (pt (FloatKind.nearest .f64 ((k : Int) + 1))) (pt (c.getD (k + 1) 0))) (pt h) else (0, 0)
def A5 (f : Nat -> Nat) : Nat -> Nat
 | 0 => f 0
 | i + 1 => if fcmp .gt (f (i + 1)) (A5 f i) = true then f (i + 1) else A5 f i
def jmpI (z : List (List Nat)) (y : List Nat) (i : Nat) : Nat := Q4 (z4 (valC (colT z i) negW) (pt (y.getD i 0)))
def dftI (t : Tp) (z : List (List Nat)) (q : List Md) (h : Nat) (i : Nat) : Nat := Q4 (rngM (zipM z4 ((Y9 t q).getD i []) (sloM (colT z i) h)))
def D7 (z : List (List Nat)) (n : Nat) : List Md := (List.range n).map λi => ofM (colT z i)
def tubI (q : List Md) (r : Nat) (i : Nat) : Iv := y7 (rngM (q.getD i [])) (fop .sub 0 r, r)
def a2j (a b : Iv) : Bool := fcmp .le b.1 a.1 && fcmp .le a.2 b.2
def insK (q : List Md) (box : List Iv) (r : Nat) (n : Nat) : Bool := (List.range n).all λi => a2j (tubI q r i) (mG box i)
def a8P (h m : Nat) : Nat := if fcmp .le m 0 = true then oneW else if fcmp .gt (b52 (up (fop .mul h m))) oneW = true then b52 (up (fop .mul h m)) else oneW
structure Bnd where
 jump : Nat
 defect : Nat
 norm : Nat
 growth : Nat
 bound : Nat
def bndK (t : Tp) (box : List Iv) (q : List Md) (h e j d : Nat) : Nat -> Nat -> Bnd × Int
 | 0, _ => (⟨0, 0, 0, 0, 0⟩, 7)
 | k + 1, r => if insK q box r t.n = false then (⟨0, 0, 0, 0, 0⟩, 3) else
  let m := a6X (jacI t (tabI (tubI q r) t.n))
  let b := up (fop .mul (a8P h m) e)
  if fcmp .lt b r = true then (⟨j, d, m, a8P h m, b⟩, 0) else if p9 b = false then (⟨0, 0, 0, 0, 0⟩, 7) else bndK t box q h e j d k (up (fop .mul 4616189618054758400 b))
def bndP (t : Tp) (box : List Iv) (z : List (List Nat)) (h : Nat) (y : List Nat) (before : Nat) : Bnd × Int :=
 let q := D7 z t.n
 let j := A5 (jmpI z y) (t.n - 1)
 let d := A5 (dftI t z q h) (t.n - 1)
 if (p9 j && p9 d) = false then (⟨0, 0, 0, 0, 0⟩, 7) else
 let e := up (fop .add (up (fop .add before j)) (up (fop .mul h d)))
 bndK t box q h e j d 3 (up (fop .mul 4616189618054758400 e))
theorem a9q (t : Tp) (x : List Iv) (i : Nat) : (regI t x i).length = i := by
 induction i with
 | zero => rfl
 | succ i ih => simp [regI, ih]
theorem a69 (t : Tp) (x : List Iv) (i : Nat) : (drI t x i).length = i := by
 induction i with
 | zero => rfl
 | succ i ih => simp [drI, ih]
theorem a1s (f : Nat -> Iv) (n : Nat) : (tabI f n).length = n := by simp [tabI]
theorem c1Q (f : Nat -> Iv) (n : Nat) : tabI f (n + 1) = tabI f n ++ [f n] := by simp [tabI, List.range_succ]
theorem b4s (t : Tp) (x : List Iv) (i : Nat) : ∀ j, j < i -> ((drI t x i).getD j []).length = t.n := by
 induction i with
 | zero => intro j hj; omega
 | succ i ih =>
  intro j hj
  have hl := a69 t x i
  unfold drI
  by_cases h : j < i
  ·have := ih j h
   rw [d2d] at this ⊢
   rwa [d2g (by omega)]
  ·obtain rfl : j = i := by omega
   rw [d2d, d2j (by omega), hl, Nat.sub_self]
   exact a1s _ _
theorem b83 (t : Tp) (x : List Iv) : (jacI t x).length = t.n := by simp [jacI]
theorem V0 (z : List (List Nat)) (i : Nat) : (colT z i).length = z.length := by simp [colT]
theorem b6r (z : List (List Nat)) (n : Nat) : (D7 z n).length = n := by simp [D7]
theorem b7J (f : Nat -> Iv) (n i : Nat) (h : i < n) : mG (tabI f n) i = f i := by
 simp [mG, tabI, d2d, h]
theorem a7a (z : List (List Nat)) (i k : Nat) (h : k < z.length) : (colT z i).getD k 0 = (z.getD k []).getD i 0 := by
 simp [colT, d2d, h]
theorem c88 (a : Int) : 0 <= A6 .and .i64 a 2047 /\ A6 .and .i64 a 2047 <= 2047 := by
 unfold A6
 simp only
 have h : (BitVec.ofInt IntKind.i64.bits a &&& BitVec.ofInt IntKind.i64.bits 2047).toNat <= 2047 := by
  rw [BitVec.toNat_and]
  exact Nat.le_trans Nat.and_le_right (by decide)
 rw [f0 (by omega) (by omega)]
 omega
theorem c9L {x : Nat} (hx : fin x) (h : fcmp .lt (fabs x) 4503599627370496 = true) : fin (fop .mul x 4841369599423283200) := by
 have r1 : Ieee.double.read 4503599627370496 = .number false 4503599627370496 (-1074) := by decide +kernel
 have r2 : Ieee.double.read 4841369599423283200 = .number false 4503599627370496 0 := by decide +kernel
 obtain ⟨f1, v1⟩ := b3n hx
 rw [b4k f1 ⟨_, _, _, r1⟩, B3 r1, v1] at h
 refine (b0g hx ⟨_, _, _, r2⟩ ?_).fin
 rw [B3 r2, U8]
 have h1 : (4503599627370496 : Rat) * pw (-1074) <= 1 := by decide +kernel
 have h2 : rabs (val x) <= 1 := by simp at h; grind
 have h3 : rabs ((if false = true then -((4503599627370496 : Nat) : Rat) else ((4503599627370496 : Nat) : Rat)) * pw 0) = 4503599627370496 := by
  rw [D4]; decide +kernel
 rw [h3]
 have h4 : (4503599627370496 : Rat) <= big := by
  have a1 : (4503599627370496 : Rat) <= pw 60 := by decide +kernel
  have a2 : pw 60 <= big := G8 (by decide)
  grind
 grind
def nrmF (x : Nat) : Nat := if fcmp .lt (fabs x) 4503599627370496 = true then fop .mul x 4841369599423283200 else x
def nrmE (x : Nat) : Int := if fcmp .lt (fabs x) 4503599627370496 = true then -52 else 0
theorem a5P (x : Nat) : Con Tryz.prog 253 [fl x] (.tup [fl (nrmF x), fI (nrmE x)]) := by
 refine b7 Q7 rfl f5 ?_
 refine evx @T6.eq_1 ?_
 refine a0 (q5 x) rfl ?_
 refine ev ?_
 unfold nrmF nrmE
 refine b9 (λh => ?_) (λh => ?_)
 ·rw [if_pos h, if_pos h]
  refine ev ?_
  refine a0W rfl ⟨_, _, ?_, ?_, rfl⟩
  ·exact f8 (by decide) rfl
  ·exact f8 (by decide) rfl
 ·rw [if_neg (by simp [h]), if_neg (by simp [h])]
  refine ev ?_
  refine a0W rfl ⟨_, _, ?_, ?_, rfl⟩
  ·exact f8 (by decide) rfl
  ·exact f8 (by decide) rfl
def exF (f : Nat) : Int := A6 .and .i64 (IntKind.i64.wrap ((f : Int).fdiv (2 ^ 52))) 2047 - 1023
def layW (f : Nat) (e : Int) : Nat := cf (A6 .or .u64 (A6 .andNot .u64 f 9218868437227405312) (IntKind.u64.wrap (IntKind.u64.wrap (e + 1023) * 2 ^ 52))).toNat
def scl (x : Nat) (k : Int) : Nat :=
 if fcmp .eq x 0 = true then x else if p9 x = false then x else
 let f := nrmF x
 let e := k + nrmE x + exF f
 if e < -1075 then b1N 0 f else if 1023 < e then (if fcmp .lt f 0 = true then s8 else finf) else
 if e < -1022 then fop .mul 4368491638549381120 (layW f (e + 53)) else fop .mul 4607182418800017408 (layW f e)
theorem c8j {x : Nat} (hx : fin x) : fin (nrmF x) := by
 unfold nrmF; split
 ·rename_i h; exact c9L hx h
 ·exact hx
theorem b1H (x : Nat) (k : Int) (hk : -1000000 < k /\ k < 1000000) : Con Tryz.prog 210 [fl x, fI k] (fl (scl x k)) := by
 refine b7 a7u rfl f5 ?_
 refine evx @a8n.eq_1 ?_
 unfold scl
 refine b9 (λh1 => ?_) (λh1 => ?_)
 ·rw [if_pos h1]
  refine ev ?_
  exact g9
 ·rw [if_neg (by simp [h1])]
  refine ev ?_
  refine a0 (a4a x) rfl ?_
  refine ev ?_
  have hfi : p9 x = (!j7 x && !b4b x) := rfl
  cases hi : b4b x with
  | true =>
   rw [if_pos (by rw [hfi, hi]; simp)]
   refine ev ?_
   exact g9
  | false =>
   refine ev ?_
   refine a0 (t9 x) rfl ?_
   refine ev ?_
   cases hn : j7 x with
   | true =>
    rw [if_pos (by rw [hfi, hn]; simp)]
    refine ev ?_
    exact g9
   | false =>
    have hx : fin x := c00 (by rw [hfi, hi, hn]; rfl)
    rw [if_neg (by rw [hfi, hi, hn]; simp)]
    refine ev ?_
    refine a0 (a5P x) rfl ?_
    refine ev ?_
    have hf := c8j hx
    have hE : nrmE x = -52 \/ nrmE x = 0 := by unfold nrmE; split <;> simp
    generalize nrmF x = f at hf
    generalize nrmE x = e0 at hE
    have hfn := E0 hf
    refine ⟨hfn, ?_⟩
    have h2 := c88 (IntKind.i64.wrap ((f : Int).fdiv (2 ^ 52)))
    have w1 : IntKind.i64.wrap (k + e0) = k + e0 := f0 (by omega) (by omega)
    simp only [show Int.toNat 52 = 52 from rfl, show min 52 IntKind.u64.bits = 52 from rfl, w1]
    have w2 : IntKind.i64.wrap (k + e0 + IntKind.i64.wrap (A6 .and .i64 (IntKind.i64.wrap ((f : Int).fdiv (2 ^ 52))) 2047 - 1023)) = k + e0 + exF f := by
     unfold exF
     rw [f0 (a := A6 .and .i64 (IntKind.i64.wrap ((f : Int).fdiv (2 ^ 52))) 2047 - 1023) (by omega) (by omega)]
     exact f0 (by omega) (by omega)
    rw [w2]
    have he : -1023 <= exF f /\ exF f <= 1024 := by unfold exF; omega
    have hlay : ∀ e : Int, layW f e = cf (A6 .or .u64 (A6 .andNot .u64 f 9218868437227405312) (IntKind.u64.wrap (IntKind.u64.wrap (e + 1023) * 2 ^ 52))).toNat := λ_ => rfl
    generalize exF f = ex at he
    generalize hEE : k + e0 + ex = e
    refine b9 (λh3 => ?_) (λh3 => ?_)
    ·replace h3 := d2b h3
     rw [if_pos h3]
     refine ev ?_
     refine a0 (a0T 0 f (by decide) hfn) rfl ?_
     refine ev ?_
     exact g9
    ·replace h3 := d2c h3
     rw [if_neg h3]
     refine ev ?_
     refine b9 (λh4 => ?_) (λh4 => ?_)
     ·replace h4 := d2b h4
      rw [if_pos (by omega)]
      refine ev ?_
      refine b9 (λh5 => ?_) (λh5 => ?_)
      ·rw [if_pos h5]
       refine ev ?_
       refine a0 (Q2) rfl ?_
       refine ev ?_
       exact g9
      ·rw [if_neg (by simp [h5])]
       refine ev ?_
       refine a0 (y3) rfl ?_
       refine ev ?_
       exact g9
     ·replace h4 := d2c h4
      rw [if_neg (by omega)]
      refine ev ?_
      refine b9 (λh5 => ?_) (λh5 => ?_)
      ·replace h5 := d2b h5
       rw [if_pos (by omega)]
       have w3 : IntKind.i64.wrap (e + 53) = e + 53 := f0 (by omega) (by omega)
       have w4 : IntKind.i64.wrap (e + 53 + 1023) = e + 53 + 1023 := f0 (by omega) (by omega)
       refine evx (And.intro w3 (And.intro w4 (show min (Int.toNat 52) IntKind.u64.bits = 52 from rfl))) ?_
       refine ⟨a3T _ _ _, a0V rfl (by decide) ?_⟩
       rw [hlay]
       rfl
      ·replace h5 := d2c h5
       rw [if_neg (by omega)]
       have w4 : IntKind.i64.wrap (e + 1023) = e + 1023 := f0 (by omega) (by omega)
       refine evx (And.intro w4 (show min (Int.toNat 52) IntKind.u64.bits = 52 from rfl)) ?_
       refine ⟨a3T _ _ _, a0V rfl (by decide) ?_⟩
       rw [hlay]
       rfl
theorem a39 (x : Nat) (k : Int) (hk : -1000000 < k /\ k < 1000000) : Con Tryz.prog 156 [fl x, fI k] (fl (scl x k)) := by
 refine b7 a7v rfl f5 ?_
 refine evx @a8p.eq_1 ?_
 refine a0 (b1H x k hk) rfl ?_
 refine ev ?_
 exact g9
theorem Q5 (x : Nat) (k : Int) (hk : -1000000 < k /\ k < 1000000) : Con Tryz.prog 96 [fl x, fI k] (fl (scl x k)) := by
 refine b7 b1k rfl f5 ?_
 refine evx @b3j.eq_1 ?_
 refine a0 (a39 x k hk) rfl ?_
 refine ev ?_
 exact g9
theorem c4c (s : Bool) (k d : Nat) : Ieee.Toward.even.cut s (k * 2 ^ d) d = k := by
 obtain ⟨h1, h2⟩ := b4v s (k * 2 ^ d) d
 generalize Ieee.Toward.even.cut s (k * 2 ^ d) d = c at h1 h2
 have hp : 0 < 2 ^ d := Nat.pow_pos (by decide)
 generalize 2 ^ d = P at *
 have a1 : 2 * c <= 2 * k + 1 := Nat.le_of_mul_le_mul_right (by rw [Nat.add_mul]; simp only [Nat.mul_assoc, Nat.one_mul]; omega) hp
 have a2 : 2 * k <= 2 * c + 1 := Nat.le_of_mul_le_mul_right (by rw [Nat.add_mul]; simp only [Nat.mul_assoc, Nat.one_mul]; omega) hp
 omega
theorem N7 (s : Bool) (k d L : Nat) (i last : Int) (hk : k ≠ 0) (hL : (k * 2 ^ d).log2 = L) (hl : max (i + L - 52) (-1074) = last) (hd : last - i = d) :
  Ieee.double.nearest s (k * 2 ^ d) i = Ieee.double.word s (min ((last + 1074).toNat * 4503599627370496 + k) 9218868437227405312) := by
 have q1 : Ieee.double.fractionBits = 52 := rfl
 have q2 : Ieee.double.leastPlace = -1074 := rfl
 have q3 : Ieee.double.binade = 4503599627370496 := rfl
 have q4 : Ieee.double.infRung = 9218868437227405312 := rfl
 have h0 : k * 2 ^ d ≠ 0 := Nat.mul_ne_zero hk (Nat.pos_iff_ne_zero.1 (Nat.pow_pos (by decide)))
 unfold Ieee.Format.nearest
 rw [if_neg h0, q1, q2, q3, q4, hL]
 simp only [show ((52 : Nat) : Int) = 52 from rfl, hl]
 have e1 : (i - last).toNat = 0 := by omega
 have e2 : (last - i).toNat = d := by omega
 rw [e1, e2, Nat.shiftLeft_zero, c4c]
 rw [show last - -1074 = last + 1074 by omega]
theorem a5T (k d t : Nat) (h1 : 2 ^ t <= k) (h2 : k < 2 ^ (t + 1)) : (k * 2 ^ d).log2 = t + d := by
 have hp : 0 < 2 ^ d := Nat.pow_pos (by decide)
 have hk : k ≠ 0 := by have : 0 < 2 ^ t := Nat.pow_pos (by decide); omega
 have h0 : k * 2 ^ d ≠ 0 := Nat.mul_ne_zero hk (by omega)
 rw [Nat.log2_eq_iff h0]
 constructor
 ·rw [Nat.pow_add]; exact Nat.mul_le_mul_right _ h1
 ·rw [show t + d + 1 = t + 1 + d by omega, Nat.pow_add]; exact Nat.mul_lt_mul_of_pos_right h2 hp
theorem a9W (a : Nat) (d : Nat) (j : Int) (ha : Ieee.double.read a = .number false d j) (s : Bool) (m : Nat) (i : Int) (y : Nat) (hy : Ieee.double.read y = .number s m i) :
  fop .mul a y = cf (Ieee.double.nearest s (m * d) (j + i)) := by
 simp only [fop, Ieee.Format.mul, ha, hy, Ieee.Datum.product, Option.map_some, Option.getD_some, Bool.false_bne, Bool.xor_false, Bool.false_xor, Ieee.Format.write]
 rw [Nat.mul_comm d m]
theorem c0w (a : Nat) (d : Nat) (j : Int) (ha : Ieee.double.read a = .number false d j) (s : Bool) (m : Nat) (i : Int) (y : Nat) (hy : Ieee.double.read y = .number s m i) :
  fop .mul y a = cf (Ieee.double.nearest s (m * d) (i + j)) := by
 simp only [fop, Ieee.Format.mul, ha, hy, Ieee.Datum.product, Option.map_some, Option.getD_some, Bool.xor_false, Ieee.Format.write]
theorem a2g (s : Bool) (r : Nat) : Ieee.double.word s r = 2 ^ 63 * s.toNat + r := by
 have h1 : Ieee.double.signWeight = 2 ^ 63 := rfl
 unfold Ieee.Format.word; rw [h1]; cases s <;> simp
theorem b44 {x : Nat} (h : x < 2 ^ 64) : (BitVec.ofInt 64 (x : Int)).toNat = x := by
 rw [BitVec.ofInt_natCast, BitVec.toNat_ofNat]; omega
theorem c1n (s : Bool) (r : Nat) (h : r < 2 ^ 63) : A6 .andNot .u64 (Ieee.double.word s r : Nat) 9218868437227405312 = (2 ^ 63 * s.toNat + r % 2 ^ 52 : Nat) := by
 have hs : s.toNat <= 1 := by cases s <;> decide
 rw [a2g]
 unfold A6
 have e : (BitVec.ofInt IntKind.u64.bits ((2 ^ 63 * s.toNat + r : Nat) : Int) &&& ~~~ BitVec.ofInt IntKind.u64.bits 9218868437227405312).toNat = 2 ^ 63 * s.toNat + r % 2 ^ 52 := by
  show (BitVec.ofInt 64 ((2 ^ 63 * s.toNat + r : Nat) : Int) &&& ~~~ BitVec.ofInt 64 9218868437227405312).toNat = _
  have e1 : ~~~ BitVec.ofInt 64 9218868437227405312 = (9227875636482146303#64 : BitVec 64) := by decide
  rw [e1, BitVec.toNat_and, b44 (by omega)]
  show (2 ^ 63 * s.toNat + r) &&& (2 ^ 63 * 1 + (2 ^ 52 - 1)) = _
  refine Nat.eq_of_testBit_eq λj => ?_
  have l1 : r % 2 ^ 52 < 2 ^ 63 := Nat.lt_of_le_of_lt (Nat.mod_le _ _) h
  rw [Nat.testBit_and, Nat.testBit_two_pow_mul_add _ h, Nat.testBit_two_pow_mul_add _ (by decide : 2 ^ 52 - 1 < 2 ^ 63), Nat.testBit_two_pow_mul_add _ l1]
  by_cases hj : j < 63
  ·simp only [hj, if_true, Nat.testBit_two_pow_sub_one, Nat.testBit_mod_two_pow, Bool.and_comm]
  ·simp only [hj, if_false]
   cases s
   ·simp
   ·simp
 simp only [e]
 exact a1r (by omega) (by omega)
theorem b81 (s : Bool) (r : Nat) (h : r < 2 ^ 63) (e : Int) (h1 : -1022 <= e) (h2 : e <= 1023) : layW (Ieee.double.word s r) e = Ieee.double.word s ((e + 1023).toNat * 2 ^ 52 + r % 2 ^ 52) := by
 obtain ⟨E, hE⟩ : ∃ E : Nat, e + 1023 = E := ⟨(e + 1023).toNat, by omega⟩
 have hE2 : 1 <= E /\ E <= 2046 := by omega
 have hs : s.toNat <= 1 := by cases s <;> decide
 have hr : r % 2 ^ 52 < 2 ^ 52 := Nat.mod_lt _ (by decide)
 unfold layW
 rw [c1n s r h, hE, a1r (a := (E : Int)) (by omega) (by omega), a1r (a := (E : Int) * 2 ^ 52) (by omega) (by omega)]
 have e1 : ((E : Int) * 2 ^ 52) = ((E * 2 ^ 52 : Nat) : Int) := by omega
 rw [e1]
 have e2 : A6 .or .u64 ((2 ^ 63 * s.toNat + r % 2 ^ 52 : Nat) : Int) ((E * 2 ^ 52 : Nat) : Int) = (2 ^ 63 * s.toNat + (E * 2 ^ 52 + r % 2 ^ 52) : Nat) := by
  unfold A6
  have e : (BitVec.ofInt IntKind.u64.bits ((2 ^ 63 * s.toNat + r % 2 ^ 52 : Nat) : Int) ||| BitVec.ofInt IntKind.u64.bits ((E * 2 ^ 52 : Nat) : Int)).toNat = 2 ^ 63 * s.toNat + (E * 2 ^ 52 + r % 2 ^ 52) := by
   show (BitVec.ofInt 64 ((2 ^ 63 * s.toNat + r % 2 ^ 52 : Nat) : Int) ||| BitVec.ofInt 64 ((E * 2 ^ 52 : Nat) : Int)).toNat = _
   rw [BitVec.toNat_or, b44 (by omega), b44 (by omega)]
   rw [Nat.two_pow_add_eq_or_of_lt (show E * 2 ^ 52 + r % 2 ^ 52 < 2 ^ 63 by omega), Nat.two_pow_add_eq_or_of_lt (show r % 2 ^ 52 < 2 ^ 63 by omega), Nat.mul_comm E, Nat.two_pow_add_eq_or_of_lt hr, Nat.or_assoc, Nat.or_comm (r % 2 ^ 52)]
  simp only [e]
  exact a1r (by omega) (by omega)
 rw [e2, Int.toNat_natCast, <- a2g]
 have e3 : (e + 1023).toNat = E := by omega
 exact u7 (r6 _ _ (by omega))
theorem b9j (s : Bool) (r : Nat) (h : r < 2 ^ 63) : exF (Ieee.double.word s r) = ((r / 2 ^ 52 : Nat) : Int) - 1023 := by
 have hs : s.toNat <= 1 := by cases s <;> decide
 unfold exF
 have e1 : ((Ieee.double.word s r : Nat) : Int).fdiv (2 ^ 52) = ((2 ^ 11 * s.toNat + r / 2 ^ 52 : Nat) : Int) := by
  rw [a2g, Int.fdiv_eq_ediv_of_nonneg _ (by decide)]
  omega
 rw [e1, f0 (by omega) (by omega)]
 have e2 : A6 .and .i64 ((2 ^ 11 * s.toNat + r / 2 ^ 52 : Nat) : Int) 2047 = ((r / 2 ^ 52 : Nat) : Int) := by
  unfold A6
  have e : (BitVec.ofInt IntKind.i64.bits ((2 ^ 11 * s.toNat + r / 2 ^ 52 : Nat) : Int) &&& BitVec.ofInt IntKind.i64.bits 2047).toNat = r / 2 ^ 52 := by
   show (BitVec.ofInt 64 ((2 ^ 11 * s.toNat + r / 2 ^ 52 : Nat) : Int) &&& BitVec.ofInt 64 ((2047 : Nat) : Int)).toNat = _
   rw [BitVec.toNat_and, b44 (by omega), b44 (by omega)]
   show _ &&& (2 ^ 11 - 1) = _
   rw [Nat.and_two_pow_sub_one_eq_mod]; omega
  simp only [e]
  exact f0 (by omega) (by omega)
 rw [e2]
theorem c30 (s : Bool) (r : Nat) (h : r < 9218868437227405312) : fabs (Ieee.double.word s r) = Ieee.double.word false r := by
 have hs : s.toNat <= 1 := by cases s <;> decide
 unfold fabs L5
 rw [a2g, a2g]
 have e : (2 ^ 63 * s.toNat + r) % 9223372036854775808 = 2 ^ 63 * false.toNat + r := by simp; omega
 rw [e, <- a2g]
 exact u7 (r6 _ _ h)
theorem b95 (s : Bool) (r : Nat) (h : r < 9218868437227405312) : fcmp .lt (fabs (Ieee.double.word s r)) 4503599627370496 = decide (r < 4503599627370496) := by
 rw [c30 s r h, Bool.eq_iff_iff, decide_eq_true_eq]
 have e : (4503599627370496 : Nat) = Ieee.double.word false 4503599627370496 := rfl
 rw [e, b4k (m8 _ _ h) (m8 _ _ (by decide)), k6 _ _ h, k6 _ _ (by decide)]
 simp only [Bool.false_eq_true, if_false]
 constructor
 ·intro hl
  by_cases h1 : r < 4503599627370496
  ·exact h1
  ·have := D8 (show 4503599627370496 <= r by omega); grind
 ·intro h1; exact Y5 h1
theorem b5R (s : Bool) (r : Nat) (h : r < 9218868437227405312) : fop .mul 4607182418800017408 (Ieee.double.word s r) = Ieee.double.word s r := by
 have ho : Ieee.double.read 4607182418800017408 = .number false 4503599627370496 (-52) := by decide +kernel
 have hw := W1 s r h
 have hc : cf (Ieee.double.word s r) = Ieee.double.word s r := u7 (r6 _ _ h)
 by_cases h1 : r < 4503599627370496
 ·rw [if_pos h1] at hw
  rw [a9W _ _ _ ho _ _ _ _ hw]
  by_cases h0 : r = 0
  ·subst h0
   have e : Ieee.double.nearest s (0 * 4503599627370496) (-52 + -1074) = Ieee.double.word s 0 := by simp [Ieee.Format.nearest]
   rw [e, hc]
  ·have hr0 : r ≠ 0 := h0
   have hL : (r * 2 ^ 52).log2 = r.log2 + 52 := a5T r 52 r.log2 (Nat.log2_self_le h0) Nat.lt_log2_self
   have hl2 : r.log2 < 52 := (Nat.log2_lt h0).2 h1
   have := N7 s r 52 _ (-52 + -1074) (-1074) hr0 hL (by omega) (by omega)
   rw [show r * 4503599627370496 = r * 2 ^ 52 from rfl, this]
   rw [show min ((-1074 + 1074 : Int).toNat * 4503599627370496 + r) 9218868437227405312 = r by simp; omega, hc]
 ·rw [if_neg h1] at hw
  rw [a9W _ _ _ ho _ _ _ _ hw]
  have hm1 : 2 ^ 52 <= 4503599627370496 + r % 4503599627370496 := by omega
  have hm2 : 4503599627370496 + r % 4503599627370496 < 2 ^ 53 := by omega
  have hL := a5T _ 52 52 hm1 hm2
  have := N7 s (4503599627370496 + r % 4503599627370496) 52 _ (-52 + (-1074 + (r / 4503599627370496 - 1 : Nat))) (-1074 + (r / 4503599627370496 - 1 : Nat)) (by omega) hL (by omega) (by omega)
  rw [show (4503599627370496 + r % 4503599627370496) * 4503599627370496 = (4503599627370496 + r % 4503599627370496) * 2 ^ 52 from rfl, this]
  rw [show min ((-1074 + ((r / 4503599627370496 - 1 : Nat) : Int) + 1074).toNat * 4503599627370496 + (4503599627370496 + r % 4503599627370496)) 9218868437227405312 = r by omega, hc]
def cw (x : Nat) : Prop := x = qnan \/ x = finf \/ x = s8 \/ ∃ s r, r < 9218868437227405312 /\ x = Ieee.double.word s r
theorem c1U (r : Nat) (h0 : r ≠ 0) (h1 : r < 4503599627370496) : ∃ t K : Nat, t <= 51 /\ 2 ^ t <= r /\ r < 2 ^ (t + 1) /\ 4503599627370496 <= K /\ K < 9007199254740992 /\ r * 4503599627370496 = K * 2 ^ t /\ K * 4503599627370496 = r * 2 ^ (104 - t) := by
 have t1 := Nat.log2_self_le h0
 have t2 : r < 2 ^ (r.log2 + 1) := Nat.lt_log2_self
 have t3 : r.log2 < 52 := (Nat.log2_lt (k := 52) h0).2 h1
 generalize r.log2 = t at t1 t2 t3
 have hsplit : (4503599627370496 : Nat) = 2 ^ (52 - t) * 2 ^ t := by
  rw [<- Nat.pow_add, show 52 - t + t = 52 by omega]
 have hs2 : (9007199254740992 : Nat) = 2 ^ (t + 1) * 2 ^ (52 - t) := by
  rw [<- Nat.pow_add, show t + 1 + (52 - t) = 53 by omega]
 refine ⟨t, r * 2 ^ (52 - t), by omega, t1, t2, ?_, ?_, ?_, ?_⟩
 ·rw [hsplit, Nat.mul_comm]; exact Nat.mul_le_mul_right _ t1
 ·rw [hs2]; exact Nat.mul_lt_mul_of_pos_right t2 (Nat.pow_pos (by decide))
 ·rw [Nat.mul_assoc, <- hsplit]
 ·rw [Nat.mul_assoc]
  congr 1
  rw [show (4503599627370496 : Nat) = 2 ^ 52 from rfl, <- Nat.pow_add, show 52 - t + 52 = 104 - t by omega]
theorem b66 (s : Bool) (r t K : Nat) (h1 : r < 4503599627370496) (ht : t <= 51) (k1 : 4503599627370496 <= K) (k2 : K < 9007199254740992) (e1 : r * 4503599627370496 = K * 2 ^ t) :
  fop .mul (Ieee.double.word s r) 4841369599423283200 = Ieee.double.word s (t * 4503599627370496 + K) := by
 have hw := W1 s r (by omega)
 rw [if_pos h1] at hw
 have r2 : Ieee.double.read 4841369599423283200 = .number false 4503599627370496 0 := by decide +kernel
 rw [c0w _ _ _ r2 _ _ _ _ hw, e1]
 have hL : (K * 2 ^ t).log2 = 52 + t := a5T K t 52 k1 k2
 rw [N7 s K t _ (-1074 + 0) (-1074 + t) (by omega) hL (by omega) (by omega)]
 have e2 : min ((-1074 + (t : Int) + 1074).toNat * 4503599627370496 + K) 9218868437227405312 = t * 4503599627370496 + K := by omega
 rw [e2]
 exact u7 (r6 _ _ (by omega))
theorem b67 (s : Bool) (r t K : Nat) (h0 : r ≠ 0) (h1 : r < 4503599627370496) (ht : t <= 51) (t1 : 2 ^ t <= r) (t2 : r < 2 ^ (t + 1)) (k1 : 4503599627370496 <= K) (k2 : K < 9007199254740992) (e1 : K * 4503599627370496 = r * 2 ^ (104 - t)) :
  fop .mul 4368491638549381120 (Ieee.double.word s ((t + 1) * 4503599627370496 + K)) = Ieee.double.word s r := by
 have r3 : Ieee.double.read 4368491638549381120 = .number false 4503599627370496 (-105) := by decide +kernel
 have hw2 := W1 s ((t + 1) * 4503599627370496 + K) (by omega)
 rw [if_neg (by omega)] at hw2
 rw [a9W _ _ _ r3 _ _ _ _ hw2]
 have e3 : 4503599627370496 + ((t + 1) * 4503599627370496 + K) % 4503599627370496 = K := by omega
 have e4 : ((t + 1) * 4503599627370496 + K) / 4503599627370496 = t + 2 := by omega
 rw [e3, e4, e1]
 have hL := a5T r (104 - t) t t1 t2
 rw [N7 s r (104 - t) _ _ (-1074) h0 hL (by omega) (by omega)]
 have e5 : min ((-1074 + 1074 : Int).toNat * 4503599627370496 + r) 9218868437227405312 = r := by
  rw [show (-1074 + 1074 : Int) = 0 from rfl, Int.toNat_zero, Nat.zero_mul, Nat.zero_add]
  exact Nat.min_eq_left (by omega)
 rw [e5]
 exact u7 (r6 _ _ (by omega))
theorem b3A (s : Bool) (r : Nat) (h : r < 9218868437227405312) : scl (Ieee.double.word s r) 0 = Ieee.double.word s r := by
 have hx := m8 s r h
 unfold scl
 split
 ·rfl
 rename_i hz
 rw [if_neg (by rw [V8 hx]; simp)]
 have hr0 : r ≠ 0 := by
  rintro rfl
  refine hz ((a0s hx t8).2 ?_)
  rw [k6 _ _ h, r9, u5]; cases s <;> decide
 have hsm := b95 s r h
 by_cases h1 : r < 4503599627370496
 ·obtain ⟨t, K, ht, t1, t2, k1, k2, e1, e2⟩ := c1U r hr0 h1
  have hN : nrmF (Ieee.double.word s r) = Ieee.double.word s (t * 4503599627370496 + K) := by
   unfold nrmF; rw [hsm, if_pos (by simpa using h1)]; exact b66 s r t K h1 ht k1 k2 e1
  have hE : nrmE (Ieee.double.word s r) = -52 := by unfold nrmE; rw [hsm, if_pos (by simpa using h1)]
  have hl : (t * 4503599627370496 + K) / 2 ^ 52 = t + 1 := by omega
  have hm : (t * 4503599627370496 + K) % 2 ^ 52 = K - 4503599627370496 := by omega
  have hd := b67 s r t K hr0 h1 ht t1 t2 k1 k2 e2
  have hx2 := b9j s (t * 4503599627370496 + K) (by omega)
  rw [hl] at hx2
  have hly := λe a b => b81 s (t * 4503599627370496 + K) (by omega) e a b
  rw [hm] at hly
  simp only [hN, hE, hx2]
  have c1 : ¬ (0 + -52 + (((t + 1 : Nat) : Int) - 1023) < -1075) := by omega
  have c2 : ¬ (1023 < 0 + -52 + (((t + 1 : Nat) : Int) - 1023)) := by omega
  have c3 : 0 + -52 + (((t + 1 : Nat) : Int) - 1023) < -1022 := by omega
  rw [if_neg c1, if_neg c2, if_pos c3, hly _ (by omega) (by omega)]
  have e3 : (0 + -52 + (((t + 1 : Nat) : Int) - 1023) + 53 + 1023 : Int).toNat = t + 2 := by omega
  have e2 : ∀ B, B <= K -> (t + 2) * B + (K - B) = (t + 1) * B + K := λB hB => by
   rw [Nat.add_mul, Nat.add_mul]; omega
  have e2 : (t + 2) * 2 ^ 52 + (K - 4503599627370496) = (t + 1) * 4503599627370496 + K := e2 4503599627370496 k1
  rw [e3, e2]
  exact hd
 ·have hN : nrmF (Ieee.double.word s r) = Ieee.double.word s r := by unfold nrmF; rw [hsm, if_neg (by simpa using h1)]
  have hE : nrmE (Ieee.double.word s r) = 0 := by unfold nrmE; rw [hsm, if_neg (by simpa using h1)]
  simp only [hN, hE, b9j s r (show r < 2 ^ 63 by omega)]
  have c1 : ¬ (0 + 0 + (((r / 2 ^ 52 : Nat) : Int) - 1023) < -1075) := by omega
  have c2 : ¬ (1023 < 0 + 0 + (((r / 2 ^ 52 : Nat) : Int) - 1023)) := by omega
  have c3 : ¬ (0 + 0 + (((r / 2 ^ 52 : Nat) : Int) - 1023) < -1022) := by omega
  rw [if_neg c1, if_neg c2, if_neg c3, b81 s _ (by omega) _ (by omega) (by omega)]
  have e2 : (0 + 0 + (((r / 2 ^ 52 : Nat) : Int) - 1023) + 1023 : Int).toNat * 2 ^ 52 + r % 2 ^ 52 = r := by omega
  rw [e2]
  exact b5R s r h
theorem b8B {x : Nat} (h : cw x) : scl x 0 = x := by
 rcases h with rfl | rfl | rfl | ⟨s, r, hr, rfl⟩
 ·decide +kernel
 ·decide +kernel
 ·decide +kernel
 ·exact b3A s r hr
def Pw (x : Nat) : Prop := x <= 9218868437227405312
theorem b9z {x : Nat} (h : Pw x) : j7 x = false := by
 unfold Pw at h
 unfold j7
 simp only [decide_eq_false_iff_not]
 omega
theorem E7 (r : Nat) : Ieee.double.word false r = r := by simp [Ieee.Format.word]
theorem L6 {x : Nat} (h : x < 9218868437227405312) : fin x := by
 have := m8 false x h
 rwa [E7] at this
theorem Q6 {x : Nat} (h : x < 9218868437227405312) : val x = rv x := by
 have := k6 false x h
 rwa [E7] at this
theorem x7 : Ieee.double.read 9218868437227405312 = .infinity false := by decide
theorem a0w {x : Nat} (h : Pw x) : (∃ m i, Ieee.double.read x = .number false m i) \/ x = 9218868437227405312 := by
 by_cases e : x = 9218868437227405312
 ·exact .inr e
 ·left
  unfold Pw at h
  have := W1 false x (by omega)
  rw [E7] at this
  rw [this]
  split <;> exact ⟨_, _, rfl⟩
theorem c9n (m : Nat) (i : Int) : Pw (cf (Ieee.double.nearest false m i)) := by
 have key : ∀ r, Pw r -> Pw (cf r) := λr h => by rw [u7 (b9z h)]; exact h
 unfold Ieee.Format.nearest
 split
 ·rw [E7]; exact key 0 (Nat.zero_le _)
 ·have q4 : Ieee.double.infRung = 9218868437227405312 := rfl
  simp only [q4]
  rw [E7]
  exact key _ (Nat.min_le_right _ _)
theorem b2U : Pw (cf (Ieee.double.write (.infinity false))) := by
 have : cf (Ieee.double.write (.infinity false)) = 9218868437227405312 := by decide
 rw [this]; exact d2t _
theorem a2K (d : Ieee.Datum) (h : Pw (cf (Ieee.double.write d))) : Pw ((((some d).map Ieee.double.write).map cf).getD qnan) := h
theorem c7B (m : Nat) (i : Int) : Pw (cf (Ieee.double.write (.number false m i))) := c9n m i
theorem c7X (m n : Nat) (i j : Int) : ∃ a b, Ieee.Datum.sum (.number false m i) (.number false n j) = some (.number false a b) := by
 have key : ∀ a b : Nat, (if ((a : Int) + b) = 0 then (false && false) else decide ((a : Int) + b < 0)) = false := λa b => by
  split
  ·rfl
  ·simp; omega
 simp only [Ieee.Datum.sum, Ieee.signed, Bool.false_eq_true, if_false]
 rw [key]
 exact ⟨_, _, rfl⟩
theorem b0B {x y : Nat} (hx : Pw x) (hy : Pw y) : Pw (fop .add x y) := by
 unfold fop Ieee.Format.add
 simp only
 rcases a0w hx with ⟨m, i, h1⟩ | rfl <;> rcases a0w hy with ⟨n, j, h2⟩ | rfl
 ·rw [h1, h2]
  obtain ⟨a, b, e⟩ := c7X m n i j
  rw [e]
  exact a2K _ (c7B _ _)
 ·rw [h1, x7, show Ieee.Datum.sum (.number false m i) (.infinity false) = some (.infinity false) from rfl]; exact a2K _ b2U
 ·rw [h2, x7, show Ieee.Datum.sum (.infinity false) (.number false n j) = some (.infinity false) from rfl]; exact a2K _ b2U
 ·rw [x7, show Ieee.Datum.sum (.infinity false) (.infinity false) = some (.infinity false) from rfl]; exact a2K _ b2U
theorem b0A {x y : Nat} (hx : fin x) (h0 : Pw x) (hp : 0 < val x) (hy : Pw y) : Pw (fop .mul x y) := by
 unfold fop Ieee.Format.mul
 simp only
 obtain ⟨s, m0, i0, hd⟩ := hx
 rcases a0w h0 with ⟨m, i, h1⟩ | rfl
 ·rcases a0w hy with ⟨n, j, h2⟩ | rfl
  ·rw [h1, h2]
   rw [show Ieee.Datum.product (.number false m i) (.number false n j) = some (.number false (m * n) (i + j)) from rfl]
   exact a2K _ (c7B _ _)
  ·rw [h1, x7]
   have hm : m ≠ 0 := by
    rintro rfl
    have := B3 h1
    rw [this] at hp
    simp at hp
   have e : Ieee.Datum.product (.number false m i) (.infinity false) = some (.infinity false) := by simp only [Ieee.Datum.product, hm, if_false, Bool.xor_self]
   rw [e]
   exact a2K _ b2U
 ·rw [x7] at hd; cases hd
theorem c1C : up 9218868437227405312 = 9218868437227405312 := by decide
theorem c9H {x : Nat} (h : x < 9218868437227405312) : up x = x + 1 := by
 have hf := L6 h
 have hn := E0 hf
 have n1 : j7 finf = false := by decide
 have rd : Ieee.double.read finf = .infinity false := by decide
 have o1 : fcmp .eq x finf = false := by
  obtain ⟨s', m, i, hd⟩ := hf
  simp [fcmp, Ieee.Format.order, hd, rd, Ieee.Datum.order]
 have o2 : fcmp .gt finf x = true := by
  obtain ⟨s', m, i, hd⟩ := hf
  simp [fcmp, Ieee.Format.order, hd, rd, Ieee.Datum.order]
 unfold up a8L
 rw [hn, n1, o1, o2]
 simp only [Bool.false_eq_true, or_self, if_false]
 by_cases hr : x = 0
 ·subst hr; decide
 ·have hp : 0 < rv x := by have := Y5 (show 0 < x by omega); rwa [u5] at this
  have z : ¬ fcmp .eq x 0 = true := by
   rw [a0s hf t8, Q6 h, r9]; grind
  have g : fcmp .gt x 0 = true := by
   rw [K9 hf t8, Q6 h, r9]; exact hp
  rw [if_neg z, g]
  simp only [beq_self_eq_true, if_true]
  have w : (IntKind.wrap .u64 ((x : Int) + 1)).toNat = x + 1 := by rw [a1r (by omega) (by omega)]; omega
  rw [w]
  exact u7 (b9z (by unfold Pw; omega))
theorem Z3 {x : Nat} (h : Pw x) : Pw (up x) /\ 0 < up x := by
 by_cases e : x = 9218868437227405312
 ·subst e; rw [c1C]; exact ⟨d2t _, by decide⟩
 ·unfold Pw at h ⊢
  rw [c9H (by omega)]
  omega
theorem c20 {r : Nat} (h : Pw r) (h0 : 0 < r) : fop .sub 0 r = 9223372036854775808 + r /\ fcmp .le (9223372036854775808 + r) r = true := by
 by_cases e : r = 9218868437227405312
 ·subst e; decide
 ·unfold Pw at h
  have hr : r < 9218868437227405312 := by omega
  have h1 : Ieee.double.signWeight = 9223372036854775808 := rfl
  have e2 : 9223372036854775808 + r = Ieee.double.word true r := by simp [Ieee.Format.word, h1]
  have hp : 0 < rv r := by have := Y5 h0; rwa [u5] at this
  refine ⟨?_, ?_⟩
  ·have hw := W1 false r hr
   rw [E7] at hw
   have r0 : Ieee.double.read 0 = .number false 0 (-1074) := by decide
   have hc : cf (Ieee.double.word true r) = Ieee.double.word true r := u7 (r6 _ _ hr)
   have key : ∀ (m d : Nat) (i : Int), m ≠ 0 -> i = -1074 + d -> Ieee.double.read r = .number false m i -> fop .sub 0 r = cf (Ieee.double.nearest true (m * 2 ^ d) (-1074)) := λm d i hm hi hd => by
    unfold fop Ieee.Format.sub
    rw [r0, hd]
    have e1 : min (-1074 : Int) i = -1074 := by omega
    have e3 : (i - -1074).toNat = d := by omega
    have hp : 0 < 2 ^ d := Nat.pow_pos (by decide)
    have hmp : 0 < m * 2 ^ d := Nat.mul_pos (by omega) hp
    simp only [Ieee.Datum.opposite, Ieee.Datum.sum, e1, e3, Option.map_some, Option.getD_some, Ieee.Format.write, Ieee.signed]
    generalize hx : m * 2 ^ d = x at hmp
    simp only [Bool.false_eq_true, if_false, Bool.not_false, if_true, Nat.zero_mul, Nat.zero_shiftLeft, Nat.shiftLeft_eq, hx]
    have q1 : ((0 : Nat) : Int) + -(x : Int) ≠ 0 := by omega
    have q2 : decide (((0 : Nat) : Int) + -(x : Int) < 0) = true := decide_eq_true (by omega)
    have q3 : (((0 : Nat) : Int) + -(x : Int)).natAbs = x := by omega
    first | rw [if_neg q1, q2, q3] | (simp [q1, q2, q3]; done)
   rw [e2]
   by_cases h3 : r < 4503599627370496
   ·rw [if_pos h3] at hw
    rw [key r 0 _ (by omega) (by omega) hw]
    have hl2 : r.log2 < 52 := (Nat.log2_lt (by omega)).2 h3
    have := N7 true r 0 _ (-1074) (-1074) (by omega) rfl (by rw [Nat.pow_zero, Nat.mul_one]; omega) (by omega)
    rw [this, show min ((-1074 + 1074 : Int).toNat * 4503599627370496 + r) 9218868437227405312 = r by simp; omega, hc]
   ·rw [if_neg h3] at hw
    rw [key _ (r / 4503599627370496 - 1) _ (by omega) (by omega) hw]
    have hm1 : 2 ^ 52 <= 4503599627370496 + r % 4503599627370496 := by omega
    have hm2 : 4503599627370496 + r % 4503599627370496 < 2 ^ 53 := by omega
    have hL := a5T _ (r / 4503599627370496 - 1) 52 hm1 hm2
    have := N7 true (4503599627370496 + r % 4503599627370496) (r / 4503599627370496 - 1) _ (-1074) (-1074 + (r / 4503599627370496 - 1 : Nat)) (by omega) hL (by omega) (by omega)
    rw [this, show min ((-1074 + ((r / 4503599627370496 - 1 : Nat) : Int) + 1074).toNat * 4503599627370496 + (4503599627370496 + r % 4503599627370496)) 9218868437227405312 = r by omega, hc]
  ·rw [e2, a2D (m8 true r hr) (L6 hr), k6 true r hr, Q6 hr]
   simp only [if_true]
   grind
def b9Q : CA := (.seq (.reg [i_X 0 2 (.box (.t 0) 2 83), i_X 1 3 (.box (.t 1) 2 83), i_X 2 4 (.alloc [fl 0, fl 0] 83)] [2, 3, 4]) (.seq (.reg [i_P 0 5 2 0, i_L 1 6 5 1, i_P 2 7 3 0, i_L 3 8 7 1, i_F 4 9 .add 6 8, i_P 5 10 2 1, i_L 6 11 10 1, i_P 7 12 3 1, i_L 8 13 12 1, i_F 9 14 .add 11 13, i_X 10 15 (.h (.build [fl 0, fl 0] [(0, (1, (.t 9))), (1, (1, (.t 14)))])), i_X 11 16 (.callA (kF 239) [(.t 15), (kF 240)]), i_S 12 4 16 2] [4]) .ret))
theorem b4Z : f7 Tryz.prog 200 = some ⟨17, [(4, (some (2, true)))], b9Q.strip⟩ := by kernel_rfl
def b9P : CA := (.seq (.reg [i_X 0 2 (.box (.t 0) 2 83), i_X 1 3 (.box (.t 1) 2 83), i_X 2 4 (.alloc [fl 0, fl 0] 83)] [2, 3, 4]) (.seq (.seq (.reg [i_A 0 5 3 2, i_X 1 6 (.callA (kF 84) [(.k (.d (.flt 0))), (.t 5)])] [2, 3, 4, 6]) (.cond (.t 6) (.seq (.reg [i_X 0 7 (.callA (kF 247) []), i_S 1 4 7 2] [4]) .ret) .skip)) (.seq (.reg [i_P 0 8 2 0, i_L 1 9 8 1, i_P 2 10 3 0, i_L 3 11 10 1, i_F 4 12 .div 9 11, i_P 5 13 2 0, i_L 6 14 13 1, i_P 7 15 3 1, i_L 8 16 15 1, i_F 9 17 .div 14 16, i_P 10 18 2 1, i_L 11 19 18 1, i_P 12 20 3 0, i_L 13 21 20 1, i_F 14 22 .div 19 21, i_P 15 23 2 1, i_L 16 24 23 1, i_P 17 25 3 1, i_L 18 26 25 1, i_F 19 27 .div 24 26, i_X 20 28 (.h (.build z_4 [(0, (1, (.t 12))), (1, (1, (.t 17))), (2, (1, (.t 22))), (3, (1, (.t 27)))])), i_X 21 29 (.callA (kF 252) [(.t 28)]), i_S 22 4 29 2] [4]) .ret)))
theorem b4Y : f7 Tryz.prog 244 = some ⟨30, [(4, (some (2, true)))], b9P.strip⟩ := by kernel_rfl
def c4L : CA := (.seq (.reg [i_X 0 3 (.box (.t 1) 2 83), i_X 1 4 (.h (.mov (.k (.d (.bool false)))))] [0, 3]) (.seq (.reg [i_P 0 5 3 0, i_L 1 6 5 1, i_M 2 7 0, i_X 3 8 (.h (.fcmp .le (.t 6) (.t 7))), i_M 4 9 8, g_T 5 10 9 (.h (.mov (.t 0))), g_T 6 11 9 (.h (.padd (.t 3) 1)), g_T 7 12 9 (.load (.t 11) 1 false), g_T 8 13 9 (.h (.fcmp .le (.t 10) (.t 12))), i_X 9 14 (.h (.pick (.t 9) (.t 13) (.k (.d (.bool false))))), i_M 10 4 14] [4]) .ret))
theorem b6T : f7 Tryz.prog 84 = some ⟨15, [(4, none)], c4L.strip⟩ := by kernel_rfl
def b9M : CA := (.seq (.reg [i_X 0 1 (.box (.t 0) 2 83), i_X 1 2 (.h (.mov (.k (.d (.flt 0)))))] [1]) (.seq (.reg [i_P 0 5 1 0, i_L 1 6 5 1, i_X 2 7 (.callS 0 (kF 162) [(.t 6)]), i_P 3 8 1 1, i_L 4 9 8 1, i_X 5 10 (.callA (kF 162) [(.t 9)]), i_M 6 3 7, i_M 7 4 10] [3, 4]) (.seq (.seq (.reg [i_M 0 11 4, i_M 1 12 3, i_X 2 13 (.h (.fcmp .gt (.t 11) (.t 12)))] [3, 4, 13]) (.cond (.t 13) (.seq (.reg [i_M 0 14 4, i_M 1 2 14] [2]) .ret) .skip)) (.seq (.reg [i_M 0 15 3, i_M 1 2 15] [2]) .ret))))
theorem b4W : f7 Tryz.prog 192 = some ⟨16, [(2, none)], b9M.strip⟩ := by kernel_rfl
def b1f : CA := (.seq (.reg [i_X 0 2 (.box (.t 0) 2 83), i_X 1 3 (.box (.t 1) 2 83), i_X 2 4 (.h (.mov (.k (.d (.bool false)))))] [2, 3]) (.seq (.reg [i_P 0 5 3 0, i_L 1 6 5 1, i_P 2 7 2 0, i_L 3 8 7 1, i_X 4 9 (.h (.fcmp .le (.t 6) (.t 8))), i_M 5 10 9, g_T 6 11 10 (.h (.padd (.t 2) 1)), g_T 7 12 10 (.load (.t 11) 1 false), g_T 8 13 10 (.h (.padd (.t 3) 1)), g_T 9 14 10 (.load (.t 13) 1 false), g_T 10 15 10 (.h (.fcmp .le (.t 12) (.t 14))), i_X 11 16 (.h (.pick (.t 10) (.t 15) (.k (.d (.bool false))))), i_M 12 4 16] [4]) .ret))
theorem a9d : f7 Tryz.prog 202 = some ⟨17, [(4, none)], b1f.strip⟩ := by kernel_rfl
def b3f : CA := (.seq (.reg [i_X 0 2 (.alloc [fl 0, fl 0] 83)] [0, 2]) (.seq (.reg [i_M 0 3 0, i_M 1 4 0, i_X 2 5 (.h (.build [fl 0, fl 0] [(0, (1, (.t 3))), (1, (1, (.t 4)))])), i_S 3 2 5 2] [2]) .ret))
theorem b1d : f7 Tryz.prog 251 = some ⟨6, [(2, (some (2, true)))], b3f.strip⟩ := by kernel_rfl
def b1j : CA := (.seq (.reg [i_B 0 20 .lss 19 10] [3, 19, 20]) (.seq (.cond (.t 20) .skip (.exit 0)) (.seq (.block 1 (.reg [i_A 0 21 3 2, i_A 1 22 3 2, i_X 2 23 (.callA (kF 208) [(.t 21), (.t 22)]), i_S 3 3 23 2] [3, 19])) (.reg [i_B 0 24 .add 19 1, i_M 1 19 24] [3, 19]))))
def b9N : CA := (.seq (.reg [i_X 0 2 (.h (.mov (.k (.d (.flt 0)))))] [0]) (.seq (.seq (.reg [i_M 0 4 0, i_X 1 5 (.callA (kF 130) [(.t 4)]), i_M 2 6 5, g_F 3 7 6 (.h (.mov (.t 0))), g_F 4 8 6 (.h (.fcmp .ge (.t 7) (.k (.d (.flt 4647714815446351872))))), i_X 5 9 (.h (.pick (.t 6) (.k (.d (.bool true))) (.t 8)))] [0, 9]) (.cond (.t 9) (.seq (.reg [i_X 0 10 (.callA (kF 87) [(kI 1)]), i_M 1 2 10] [2]) .ret) .skip)) (.seq (.reg [i_X 0 11 (.callA (kF 251) [(.k (.d (.flt 4607182418800017408)))]), i_X 1 12 (.callA (kF 251) [(.k (.d (.flt 4607182418800017408)))]), i_M 2 13 0, i_X 3 14 (.callA (kF 251) [(.t 13)]), i_X 4 15 (.callA (kF 251) [(.k (.d (.flt 4652218415073722368)))]), i_X 5 16 (.callA (kF 244) [(.t 14), (.t 15)]), i_X 6 17 (.callA (kF 190) [(.t 12), (.t 16)]), i_X 7 18 (.callA (kF 244) [(.t 11), (.t 17)]), i_X 8 3 (.alloc [fl 0, fl 0] 83), i_S 9 3 18 2] [3]) (.seq (.seq (.reg [i_K 0 19 0] [3, 19]) (.block 0 (.loop b1j))) (.seq (.reg [i_P 0 25 3 1, i_L 1 26 25 1, i_M 2 2 26] [2]) .ret)))))
theorem b4X : f7 Tryz.prog 206 = some ⟨27, [(2, none)], b9N.strip⟩ := by kernel_rfl
theorem v7 (a b : Iv) : Con Tryz.prog 200 [ivV a, ivV b] (ivV (y7 a b)) := by
 refine b7 b4Z rfl f5 ?_
 refine evx @b9Q.eq_1 ?_
 refine a0 (a61 (fop .add a.1 b.1) (fop .add a.2 b.2)) rfl ?_
 refine ev ?_
 exact f9 rfl (by decide) rfl rfl rfl (by simp) (by simp [ldv, y7])
theorem a5W (x : Nat) (a : Iv) : Con Tryz.prog 84 [fl x, ivV a] (fB (fcmp .le a.1 x && fcmp .le x a.2)) := by
 refine b7 b6T rfl f5 ?_
 refine evx @c4L.eq_1 ?_
 cases h : fcmp .le a.1 x
 ·refine ev ?_
  exact g9
 ·refine ev ?_
  exact g9
theorem b39 (a b : Iv) : Con Tryz.prog 202 [ivV a, ivV b] (fB (a2j a b)) := by
 unfold a2j
 refine b7 a9d rfl f5 ?_
 refine evx @b1f.eq_1 ?_
 cases h : fcmp .le b.1 a.1
 ·refine ev ?_
  exact g9
 ·refine ev ?_
  exact g9
theorem N8 (a b : Iv) : Con Tryz.prog 244 [ivV a, ivV b] (ivV (T2 a b)) := by
 refine b7 b4Y rfl f5 ?_
 refine evx @b9P.eq_1 ?_
 refine a0 (a5W 0 b) rfl ?_
 have e : (fcmp .le b.1 0 && fcmp .le 0 b.2) = in0 b := rfl
 rw [e]
 unfold T2
 cases h : in0 b
 ·refine ev ?_
  refine a0 (a93 (fop .div a.1 b.1) (fop .div a.1 b.2) (fop .div a.2 b.1) (fop .div a.2 b.2)) rfl ?_
  refine ev ?_
  exact f9 rfl (by decide) rfl rfl rfl (by simp) (by simp [ldv])
 ·refine ev ?_
  refine a0 (a2x) rfl ?_
  refine ev ?_
  exact f9 rfl (by decide) rfl rfl rfl (by simp) (by simp [ldv])
theorem a3K (a : Iv) : Con Tryz.prog 192 [ivV a] (fl (Q4 a)) := by
 refine b7 b4W rfl f5 ?_
 refine evx @b9M.eq_1 ?_
 refine d5 (q5 a.1) rfl ?_
 refine ev ?_
 refine a0 (q5 a.2) rfl ?_
 refine ev ?_
 unfold Q4
 refine b9 (λh => ?_) (λh => ?_)
 ·refine ev ?_
  rw [if_pos h]
  exact g9
 ·refine ev ?_
  rw [if_neg (by simp [h])]
  exact g9
theorem a0b (x : Nat) : Con Tryz.prog 251 [fl x] (ivV (pt x)) := by
 refine b7 b1d rfl f5 ?_
 refine evx @b3f.eq_1 ?_
 exact f9 rfl (by decide) rfl rfl rfl (by simp) (by simp [ldv, pt])
end Go.Ab
