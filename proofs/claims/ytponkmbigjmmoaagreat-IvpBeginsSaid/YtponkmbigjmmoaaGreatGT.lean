/- Part 20: IJ. -/
import Derived.Test.YtponkmbigjmmoaaGreatGS
set_option maxRecDepth 8000
namespace Go.Ab
set_option linter.unusedSimpArgs false
set_option linter.unusedVariables false
open Go Go.Proofs
def b40 : CA := (.seq (.reg [i_X 0 1 (.box (.t 0) 12 51), i_X 1 2 (.alloc [fI 0, fI 0, fI 0, fI 0, .nil, fI 0, fI 0, fI 0, .nil, fl 0, fI 0, fI 0] 44)] [1, 2]) (.seq (.reg [i_P 0 3 1 0, i_P 1 4 3 0, i_A 2 5 4 5, i_P 3 6 1 0, i_P 4 7 6 5, i_L 5 8 7 1, i_P 6 9 1 0, i_P 7 10 9 6, i_L 8 11 10 1, i_P 9 12 1 0, i_P 10 13 12 7, i_L 11 14 13 1, i_X 12 15 (.h (.build [fI 0, fI 0, fI 0, fI 0, .nil, fI 0, fI 0, fI 0] [(0, (5, (.t 5))), (5, (1, (.t 8))), (6, (1, (.t 11))), (7, (1, (.t 14)))])), i_P 13 16 1 8, i_L 14 17 16 1, i_P 15 18 1 9, i_L 16 19 18 1, i_P 17 20 1 10, i_L 18 21 20 1, i_P 19 22 1 11, i_L 20 23 22 1, i_X 21 24 (.h (.build [fI 0, fI 0, fI 0, fI 0, .nil, fI 0, fI 0, fI 0, .nil, fl 0, fI 0, fI 0] [(0, (8, (.t 15))), (8, (1, (.t 17))), (9, (1, (.t 19))), (10, (1, (.t 21))), (11, (1, (.t 23)))])), i_S 22 2 24 12] [2]) .ret))
theorem b0z : d6 Tryz.prog 31 = some ⟨25, [(2, (some (12, true)))], b40.strip⟩ := by kernel_rfl
def b1x : CA := (.seq (.reg [i_X 0 2 (.box (.t 0) 12 44), i_X 1 3 (.box (.t 1) 12 44), i_X 2 4 (.h (.mov (.k (.d (.bool false)))))] [2, 3]) (.seq (.reg [i_P 0 5 2 0, i_A 1 6 5 8, i_P 2 7 3 0, i_A 3 8 7 8, i_X 4 9 (.callA (kF 60) [(.t 6), (.t 8)]), i_M 5 10 9, g_T 6 11 10 (.h (.padd (.t 2) 8)), g_T 7 12 10 (.load (.t 11) 1 false), g_T 8 13 10 (.h (.padd (.t 3) 8)), g_T 9 14 10 (.load (.t 13) 1 false), g_T 10 15 10 (.callA (kF 58) [(.t 12), (.t 14)]), i_X 11 16 (.h (.pick (.t 10) (.t 15) (.k (.d (.bool false))))), i_M 12 17 16, g_T 13 18 17 (.h (.padd (.t 2) 9)), g_T 14 19 17 (.load (.t 18) 1 false), g_T 15 20 17 (.h (.padd (.t 3) 9)), g_T 16 21 17 (.load (.t 20) 1 false), g_T 17 22 17 (.callA (kF 59) [(.t 19), (.t 21)]), i_X 18 23 (.h (.pick (.t 17) (.t 22) (.k (.d (.bool false))))), i_M 19 24 23, g_T 20 25 24 (.h (.padd (.t 2) 10)), g_T 21 26 24 (.load (.t 25) 1 false), g_T 22 27 24 (.h (.padd (.t 3) 10)), g_T 23 28 24 (.load (.t 27) 1 false), g_T 24 29 24 (.h (.ibin .eql (.t 26) (.t 28))), i_X 25 30 (.h (.pick (.t 24) (.t 29) (.k (.d (.bool false))))), i_M 26 31 30, g_T 27 32 31 (.h (.padd (.t 2) 11)), g_T 28 33 31 (.load (.t 32) 1 false), g_T 29 34 31 (.h (.padd (.t 3) 11)), g_T 30 35 31 (.load (.t 34) 1 false), g_T 31 36 31 (.h (.ibin .eql (.t 33) (.t 35))), i_X 32 37 (.h (.pick (.t 31) (.t 36) (.k (.d (.bool false))))), i_M 33 4 37] [4]) .ret))
theorem a9g : d6 Tryz.prog 30 = some ⟨38, [(4, none)], b1x.strip⟩ := by kernel_rfl
def a9j : CA := (.seq (.reg [i_X 0 1 (.box (.t 0) 13 33), i_X 1 2 (.alloc [fI 0, fI 0, fI 0, fI 0, .nil, fI 0, fI 0, fI 0, .nil, fl 0, fI 0, fI 0] 44)] [1, 2]) (.seq (.reg [i_P 0 3 1 0, i_A 1 4 3 3, i_P 2 5 1 4, i_L 3 6 5 1, i_P 4 7 1 6, i_L 5 8 7 1, i_X 6 9 (.callS 0 (kF 77) [(.t 4), (.t 6), (.t 8)]), i_X 7 10 (.h (.build [fI 0, fI 0, fI 0, fI 0, .nil, fI 0, fI 0, fI 0] [(0, (5, (.t 9)))])), i_X 8 11 (.bslice [] 0 1 [] 31), i_P 9 12 1 4, i_L 10 13 12 1, i_X 11 14 (.app (.t 11) (.t 13) 1 8), i_X 12 15 (.h (.build [fI 0, fI 0, fI 0, fI 0, .nil, fI 0, fI 0, fI 0, .nil, fl 0, fI 0, fI 0] [(0, (8, (.t 10))), (8, (1, (.t 14)))])), i_S 13 2 15 12] [2]) .ret))
theorem a7y : d6 Tryz.prog 34 = some ⟨16, [(2, (some (12, true)))], a9j.strip⟩ := by kernel_rfl
def U4 : CA := (.seq (.seq (.reg [i_M 0 28 9, i_P 1 29 5 12, i_L 2 30 29 1, i_X 3 31 (.h (.len (.t 30))), i_N 4 32 .lss 28 31, i_M 5 33 32, g_T 6 34 33 (.h (.padd (.t 5) 12)), g_T 7 35 33 (.load (.t 34) 1 false), g_T 8 36 33 (.h (.mov (.t 9))), g_T 9 37 33 (.h (.idx (.t 35) (.t 36) 1)), g_T 10 38 33 (.load (.t 37) 1 false), g_T 11 39 33 (.h (.ibin .eql (.t 38) (kI 0))), i_X 12 40 (.h (.pick (.t 33) (.t 39) (.k (.d (.bool false)))))] [5, 6, 7, 8, 9, 40]) (.cond (.t 40) .skip (.exit 0))) (.block 1 (.reg [i_M 0 41 9, i_B 1 42 .add 41 1, i_M 2 9 42] [5, 6, 7, 8, 9])))
def a14 : CA := (.seq (.reg [i_X 0 2 (.box (.t 0) 9 24), i_X 1 4 (.h (.mov (.k (.d (.bool false)))))] [1, 2]) (.seq (.seq (.reg [i_X 0 10 (.callA (kF 15) []), i_X 1 11 (.h (.un .not (.t 10)))] [1, 2, 11]) (.cond (.t 11) (.seq (.reg [i_X 0 4 (.h (.mov (.k (.d (.bool false)))))] [4]) .ret) .skip)) (.seq (.seq (.reg [i_A 0 12 2 9, i_X 1 13 (.callA (kF 16) [(.t 12)]), i_X 2 14 (.h (.un .not (.t 13)))] [1, 2, 14]) (.cond (.t 14) (.seq (.reg [i_X 0 4 (.h (.mov (.k (.d (.bool true)))))] [4]) .ret) .skip)) (.seq (.reg [i_A 0 15 2 9, i_X 1 16 (.callA (kF 17) [(.t 15)]), i_X 2 5 (.alloc [fI 0, .nil, .nil, .nil, .nil, fI 0, fI 0, fI 0, fl 0, fl 0, fl 0, fI 0, .nil] 33), i_S 3 5 16 13] [1, 5]) (.seq (.reg [i_A 0 17 5 13, i_X 1 18 (.callA (kF 27) [(.t 17)]), i_X 2 6 (.alloc [fI 0, fI 0, fI 0, fI 0, .nil, fI 0, fI 0, fI 0, .nil, fl 0, fI 0, fI 0] 51), i_S 3 6 18 12] [1, 5, 6]) (.seq (.reg [i_A 0 19 5 13, i_A 1 20 6 12, i_M 2 21 1, i_X 3 22 (.callS 3 (kF 28) [(.t 21), (kI 5)]), i_X 4 23 (.h (.ibin .sub (kI 0) (.t 22))), i_X 5 24 (.callS 0 (kF 26) [(.t 19), (.t 20), (.t 23)]), i_X 6 7 (.alloc [.nil, fI 0, fI 0, fI 0, fI 0, fI 0, .nil, fI 0, fI 0, fI 0, .nil, fl 0, fI 0, fI 0] 53), i_S 7 7 24 14] [5, 6, 7]) (.seq (.reg [i_P 0 25 7 2, i_A 1 26 25 12, i_X 2 27 (.callA (kF 31) [(.t 26)]), i_X 3 8 (.alloc [fI 0, fI 0, fI 0, fI 0, .nil, fI 0, fI 0, fI 0, .nil, fl 0, fI 0, fI 0] 44), i_S 4 8 27 12] [5, 6, 7, 8]) (.seq (.reg [i_K 0 9 0] [5, 6, 7, 8, 9]) (.seq (.block 0 (.loop U4)) (.seq (.seq (.reg [i_P 0 43 8 11, i_L 1 44 43 1, i_M 2 45 9, i_N 3 46 .neq 44 45, i_M 4 47 46, g_F 5 48 47 (.h (.padd (.t 7) 0)), g_F 6 49 47 (.load (.t 48) 1 false), g_F 7 50 47 (.h (.len (.t 49))), g_F 8 51 47 (.h (.mov (.t 9))), g_F 9 52 47 (.h (.ibin .neq (.t 50) (.t 51))), i_X 10 53 (.h (.pick (.t 47) (.k (.d (.bool true))) (.t 52)))] [5, 6, 7, 8, 53]) (.cond (.t 53) (.seq (.reg [i_X 0 4 (.h (.mov (.k (.d (.bool false)))))] [4]) .ret) .skip)) (.seq (.reg [i_P 0 54 8 11, ⟨1, none, none, [], [], (.store (.t 54) (kI 0) 1)⟩] [5, 6, 7, 8]) (.seq (.reg [i_A 0 55 6 12, i_X 1 56 (.callS 0 (kF 31) [(.t 55)]), i_A 2 57 5 13, i_X 3 58 (.callA (kF 34) [(.t 57)]), i_X 4 59 (.callA (kF 30) [(.t 56), (.t 58)]), i_M 5 60 59, g_T 6 61 60 (.load (.t 8) 12 true), g_T 7 62 60 (.load (.t 5) 13 true), g_T 8 63 60 (.callS 8 (kF 34) [(.t 62)]), g_T 9 64 60 (.callA (kF 30) [(.t 61), (.t 63)]), i_X 10 65 (.h (.pick (.t 60) (.t 64) (.k (.d (.bool false))))), i_M 11 66 65, g_T 12 67 66 (.h (.padd (.t 7) 1)), g_T 13 68 66 (.load (.t 67) 1 false), g_T 14 69 66 (.h (.ibin .eql (.t 68) (kI 0))), i_X 15 70 (.h (.pick (.t 66) (.t 69) (.k (.d (.bool false))))), i_M 16 4 70] [4]) .ret))))))))))))
theorem a2L : d6 Tryz.prog 11 = some ⟨71, [(4, none)], a14.strip⟩ := by kernel_rfl
theorem a3E (r : Rn) : Con Tryz.prog 31 [rnV r] (rnV r) := by
 refine a3 b0z rfl d5 ?_
 refine evx @b40.eq_1 ?_
 exact d8 rfl (by decide) rfl rfl rfl (by simp) (by simp [ldv, f0, rowD])
structure Rl (r : Rn) : Prop where
 z : Zl r.s.n.z
 last : r.last.length < 2 ^ 62
theorem T3 (r : Rn) (h : Rl r) : Con Tryz.prog 30 [rnV r, rnV r] (fB true) := by
 refine a3 a9g rfl d5 ?_
 refine evx @b1x.eq_1 ?_
 refine a0 (b3T r.s h.z) rfl ?_
 refine ev ?_
 refine a0 (a8r r.last h.last) rfl ?_
 refine ev ?_
 refine a0 (a8q r.bound r.bound) rfl ?_
 rw [b1b]
 refine ev ?_
 exact a4 rfl (by decide) (by simp [look])
theorem M8 (p : Pb) (hp : Pk p) : Con Tryz.prog 34 [pbV p] (rnV (r8 p)) := by
 obtain ⟨a, ha, hfa⟩ := hp.fst
 have hst := a6q p.t p.y a hp.ok.t hp.yl (by omega)
 have hn2 := hp.ok.t.n
 have hyl := hp.yl
 have e : r8 p = ⟨⟨⟨0, p.first, 1, 0, a08 p.t p.y (hW (2 ^ a))⟩, 0, 0, 0⟩, p.y, 0, 0, 0⟩ := by
  unfold r8 a6A; rw [hfa, Int.toNat_natCast]
 rw [e]
 refine a3 a7y rfl d5 ?_
 refine evx @a9j.eq_1 ?_
 rw [hfa]
 refine a8 (hst) rfl ?_
 refine evx (And.intro @C7 @G9) ?_
 refine ⟨by omega, ?_⟩
 exact f7 (.agg [fI 0, fI ((2 ^ a : Nat) : Int), fI 1, fI 0, .d (f0 (a08 p.t p.y (hW (2 ^ a)))), fI 0, fI 0, fI 0, .sl 10 0 0 p.y.length 1 p.y.length, fl 0, fI 0, fI 0]) (fun _ h => h) (f5 (by decide) rfl rfl rfl (by simp) rfl)
  (y3 _ _ ⟨Fz_d _, Fz_d _, Fz_d _, Fz_d _, Fz_d _, Fz_d _, Fz_d _, Fz_d _, a6C rfl rfl rfl (d9 _ _), Fz_d _, Fz_d _, Fz_d _, trivial⟩)
theorem a8a {p : Pb} (hp : Pk2 p) : Rl (r8 p) := by
 have h := b4J hp.pk
 have := hp.n
 have := hp.pk.yl
 exact ⟨c8E h.ok.n.rk (by have := h.ok.n.m; omega) (by omega), by show p.y.length < _; omega⟩
theorem l12_IvpBegins_con (n first least tol fin : Int) (ns ms outs : List Int) (dv : Bool) (k : Int) : Con Tryz.prog 11 [.agg (shC n first least tol fin ns ms outs dv), fI k] (fB true) := by
 refine a3 a2L rfl d5 ?_
 refine evx @a14.eq_1 ?_
 refine a0 (b2t) rfl ?_
 refine ev ?_
 refine a0 (b5X n first least tol fin ns ms outs dv) rfl ?_
 by_cases hfew : ns.length ≤ 60 ∧ ms.length ≤ 60 ∧ outs.length ≤ 60
 ·rw [decide_eq_true hfew]
  refine ev ?_
  refine a0 (b4b n first least tol fin ns ms outs dv hfew.1 hfew.2.1 hfew.2.2) rfl ?_
  have hp2 := c3g n first least tol fin ns ms outs dv
  have hvp := c65 n first least tol fin ns ms outs dv
  generalize mkPb n first least tol fin ns ms outs dv = p at hp2 hvp
  have hp := hp2.pk
  refine ev ?_
  refine a0 (a4E p hp) rfl ?_
  refine ev ?_
  refine a8 (b0b k 5 (by decide) (by decide)) rfl ?_
  have k1 := c8Z k (by decide : (5 : Int) ≠ 0)
  have k2 := c8Y k (by decide : (0 : Int) < 5)
  have wk : IntKind.i64.wrap (0 - k % 5) = 0 - k % 5 := b9 (by omega) (by omega)
  have km : (0 - k % 5).toNat = 0 := by omega
  refine evx wk ?_
  refine a8 (b08 p (r8 p) (0 - k % 5) 0 hp2 (c18 hvp) (b1m hp2) (by omega) (c85 _) (by omega) hvp.yl) rfl ?_
  rw [km]
  have eg : goP p (r8 p) 0 = (⟨a6A p, p.y, 0, 0, (t0 p (r8 p)).length⟩, t0 p (r8 p), 0) := by
   show (_, _, _) = _
   unfold r8
   simp
  rw [eg]
  refine ev ?_
  refine a0 (a3E ⟨a6A p, p.y, 0, 0, (t0 p (r8 p)).length⟩) rfl ?_
  refine ev ?_
  have hat := fun i hi => b7j p (r8 p) i hi
  have hfl := a8V p (r8 p)
  have hol := hvp.outsl
  have hpos0 : (r8 p).s.n.pos = 0 := rfl
  have hnx0 : (r8 p).next = 0 := rfl
  generalize t0 p (r8 p) = TT at hat hfl ⊢
  refine m7 (n := TT.length) (fun c t => ∃ i : Nat, c + i = TT.length ∧ t = ⟨[(5, .ptr 3 0 0 13), (6, .ptr 6 0 0 12), (7, .ptr 13 0 0 14), (8, .ptr 17 0 0 12), (9, fI i)], [(17, [rnC ⟨a6A p, p.y, 0, 0, TT.length⟩]), (13, [edC (⟨a6A p, p.y, 0, 0, TT.length⟩, TT, 0)]), (6, [rnC (r8 p)]), (3, [pbC p]), (0, [shC n first least tol fin ns ms outs dv])]⟩) ⟨0, by omega, rfl⟩ ?_
  rintro c t ⟨i, hc, rfl⟩
  have hi := hat i (by omega)
  rw [hpos0, hnx0, Nat.zero_add] at hi
  refine evx @U4.eq_1 ?_
  by_cases c2 : i < p.outs.length
  ·have c2b : decide (i < p.outs.length) = true := decide_eq_true c2
   refine evx c2b ?_
   refine ⟨c2, ?_⟩
   by_cases c3 : p.outs.getD i 0 = 0
   ·have c3b : (p.outs.getD i 0 == 0) = true := by simpa using c3
    refine evx c3b ?_
    have := hi.2 ⟨rfl, c2, c3⟩
    rw [b9 (by omega) (by omega)]
    exact ⟨c - 1, by omega, i + 1, by omega, rfl⟩
   ·have c3b : (p.outs.getD i 0 == 0) = false := by simpa using c3
    refine evx c3b ?_
    have hie : i = TT.length := by
     by_cases h : i < TT.length
     ·exact absurd (hi.1 h).2.2 c3
     ·omega
    have hnb : (((TT.length : Nat) : Int) != (i : Int)) = false := by simp; omega
    refine evx hnb ?_
    refine a8 (a3E (r8 p)) rfl ?_
    refine ev ?_
    refine a0 (M8 p hp) rfl ?_
    refine ev ?_
    refine a0 (T3 (r8 p) (a8a hp2)) rfl ?_
    refine ev ?_
    refine a8 (M8 p hp) rfl ?_
    refine ev ?_
    refine a0 (T3 (r8 p) (a8a hp2)) rfl ?_
    refine ev ?_
    exact a4 rfl (by decide) (by simp [look])
  ·have c2b : decide (i < p.outs.length) = false := decide_eq_false c2
   refine evx c2b ?_
   have hie : i = TT.length := by
    by_cases h : i < TT.length
    ·exact absurd (hi.1 h).2.1 c2
    ·omega
   have hnb : (((TT.length : Nat) : Int) != (i : Int)) = false := by simp; omega
   refine evx hnb ?_
   refine a8 (a3E (r8 p)) rfl ?_
   refine ev ?_
   refine a0 (M8 p hp) rfl ?_
   refine ev ?_
   refine a0 (T3 (r8 p) (a8a hp2)) rfl ?_
   refine ev ?_
   refine a8 (M8 p hp) rfl ?_
   refine ev ?_
   refine a0 (T3 (r8 p) (a8a hp2)) rfl ?_
   refine ev ?_
   exact a4 rfl (by decide) (by simp [look])
 ·rw [decide_eq_false hfew]
  refine ev ?_
  exact a4 rfl (by decide) (by simp [look])
end Go.Ab
