/- Part 18: MA, SM, SN, SO, SP, SU, BT, KE, KG, KH, IA, IB. -/
import Derived.Test.YtponkmbigjmmoaaGreatGQ
set_option maxRecDepth 8000
namespace Go.Ab
set_option linter.unusedSimpArgs false
set_option linter.unusedVariables false
open Go Go.Proofs
def a9y : CA := (.seq (.reg [i_K 0 4 0] [0, 1]) (.seq (.reg [i_M 0 6 0, i_M 1 7 1, i_N 2 8 .rem 6 7, i_M 3 5 8] [1, 5]) (.seq (.seq (.reg [i_M 0 9 5, i_B 1 10 .lss 9 0] [1, 5, 10]) (.cond (.t 10) (.reg [i_M 0 11 5, i_M 1 12 1, i_N 2 13 .add 11 12, i_M 3 5 13] [5]) .skip)) (.seq (.reg [i_M 0 14 5, i_M 1 4 14] [4]) .ret))))
theorem a7G : d6 Tryz.prog 79 = some ⟨15, [(4, none)], a9y.strip⟩ := by kernel_rfl
def U3 : CA := (.seq (.seq (.reg [i_M 0 18 8, i_P 1 19 7 0, i_L 2 20 19 1, i_N 3 21 .lss 18 20] [0, 1, 2, 6, 7, 8, 21]) (.cond (.t 21) .skip (.exit 0))) (.seq (.block 1 (.reg [i_P 0 24 7 1, i_L 1 25 24 1, i_M 2 26 8, i_X 3 27 (.h (.build [fI 0, fI 0, fI 0, fl 0] [(0, (1, (kI 1))), (1, (1, (.t 26)))])), i_X 4 28 (.bslice [fI 0, fI 0, fI 0, fl 0] 1 4 [(0, (4, (.t 27)))] 81), i_X 5 29 (.app (.t 25) (.t 28) 4 32), i_P 6 30 7 1, i_S 7 30 29 1] [0, 1, 2, 6, 7, 8])) (.reg [i_M 0 22 8, i_B 1 23 .add 22 1, i_M 2 8 23] [0, 1, 2, 6, 7, 8])))
def a13 : CA := (.seq (.seq (.reg [i_M 0 42 9, i_M 1 43 1, i_X 2 44 (.h (.len (.t 43))), i_N 3 45 .lss 42 44, i_M 4 46 45, g_T 5 47 46 (.h (.mov (.t 9))), g_T 6 48 46 (.h (.ibin .lss (.t 47) (kI 8))), i_X 7 49 (.h (.pick (.t 46) (.t 48) (.k (.d (.bool false)))))] [0, 1, 2, 6, 7, 9, 49]) (.cond (.t 49) .skip (.exit 2))) (.seq (.block 3 (.seq (.reg [i_M 0 52 1, i_M 1 53 9, i_I 2 54 52 53 1, i_L 3 55 54 1, i_M 4 10 55] [0, 1, 2, 6, 7, 9, 10]) (.seq (.reg [i_P 0 56 7 1, i_L 1 57 56 1, i_X 2 58 (.h (.len (.t 57))), i_M 3 11 58] [0, 1, 2, 6, 7, 9, 10, 11]) (.seq (.reg [i_M 0 59 10, i_X 1 60 (.callA (kF 79) [(.t 59), (kI 3)]), i_X 2 61 (.h (.ibin .add (kI 2) (.t 60))), i_M 3 62 10, i_B 4 63 .quo 62 4, i_M 5 64 11, i_X 6 65 (.callA (kF 79) [(.t 63), (.t 64)]), i_M 7 66 10, i_B 8 67 .quo 66 40, i_M 9 68 11, i_X 10 69 (.callA (kF 79) [(.t 67), (.t 68)]), i_X 11 70 (.h (.build [fI 0, fI 0, fI 0, fl 0] [(0, (1, (.t 61))), (1, (1, (.t 65))), (2, (1, (.t 69)))])), i_X 12 12 (.alloc [fI 0, fI 0, fI 0, fl 0] 81), i_S 13 12 70 4] [0, 1, 2, 6, 7, 9, 10, 12]) (.seq (.seq (.reg [i_M 0 71 2, i_M 1 72 71, g_T 2 73 72 (.h (.mov (.t 10))), g_T 3 74 72 (.callA (kF 79) [(.t 73), (kI 7)]), g_T 4 75 72 (.h (.ibin .eql (.t 74) (kI 0))), i_X 5 76 (.h (.pick (.t 72) (.t 75) (.k (.d (.bool false)))))] [0, 1, 2, 6, 7, 9, 10, 12, 76]) (.cond (.t 76) (.reg [i_P 0 77 12 0, ⟨1, none, none, [], [], (.store (.t 77) (kI 5) 1)⟩] [0, 1, 2, 6, 7, 9, 10, 12]) .skip)) (.seq (.seq (.reg [i_M 0 78 10, i_X 1 79 (.callA (kF 79) [(.t 78), (kI 11)]), i_B 2 80 .eql 79 0] [0, 1, 2, 6, 7, 9, 10, 12, 80]) (.cond (.t 80) (.reg [i_M 0 81 10, i_B 1 82 .quo 81 11, i_X 2 83 (.callA (kF 79) [(.t 82), (kI 33)]), i_B 3 84 .sub 83 16, i_X 4 85 (.h (.i2f (.t 84))), i_X 5 86 (.h (.fbin .div (.t 85) (.k (.d (.flt 4620693217682128896))))), i_X 6 87 (.h (.build [fI 0, fI 0, fI 0, fl 0] [(0, (1, (kI 0))), (3, (1, (.t 86)))])), i_S 7 12 87 4] [0, 1, 2, 6, 7, 9, 12]) .skip)) (.reg [i_P 0 88 7 1, i_L 1 89 88 1, i_A 2 90 12 4, i_X 3 91 (.bslice [fI 0, fI 0, fI 0, fl 0] 1 4 [(0, (4, (.t 90)))] 81), i_X 4 92 (.app (.t 89) (.t 91) 4 32), i_P 5 93 7 1, i_S 6 93 92 1] [0, 1, 2, 6, 7, 9]))))))) (.reg [i_M 0 50 9, i_B 1 51 .add 50 1, i_M 2 9 51] [0, 1, 2, 6, 7, 9])))
def U2 : CA := (.seq (.seq (.reg [i_M 0 94 13, i_P 1 95 7 0, i_L 2 96 95 1, i_N 3 97 .lss 94 96] [0, 6, 7, 13, 97]) (.cond (.t 97) .skip (.exit 4))) (.seq (.block 5 (.reg [i_P 0 100 7 2, i_L 1 101 100 1, i_P 2 102 7 1, i_L 3 103 102 1, i_X 4 104 (.h (.len (.t 103))), i_B 5 105 .sub 104 1, i_M 6 106 0, i_B 7 107 .quo 106 3, i_M 8 108 13, i_N 9 109 .add 107 108, i_P 10 110 7 1, i_L 11 111 110 1, i_X 12 112 (.h (.len (.t 111))), i_X 13 113 (.h (.mm false (kI 3) (.t 112))), i_X 14 114 (.callS 14 (kF 79) [(.t 109), (.t 113)]), i_N 15 115 .sub 105 114, i_X 16 116 (.bslice [fI 0] 1 1 [(0, (1, (.t 115)))] 3), i_X 17 117 (.app (.t 101) (.t 116) 1 8), i_P 18 118 7 2, i_S 19 118 117 1] [0, 6, 7, 13])) (.reg [i_M 0 98 13, i_B 1 99 .add 98 1, i_M 2 13 99] [0, 6, 7, 13])))
def b4Z : CA := (.seq (.reg [i_X 0 6 (.alloc [fI 0, .nil, .nil] 28)] [0, 1, 2, 6]) (.seq (.reg [i_M 0 14 0, i_X 1 15 (.callA (kF 79) [(.t 14), (kI 3)]), i_X 2 16 (.h (.ibin .add (kI 1) (.t 15))), i_X 3 17 (.h (.build [fI 0, .nil, .nil] [(0, (1, (.t 16)))])), i_X 4 7 (.alloc [fI 0, .nil, .nil] 28), i_S 5 7 17 3] [0, 1, 2, 6, 7]) (.seq (.seq (.reg [i_K 0 8 0] [0, 1, 2, 6, 7, 8]) (.block 0 (.loop U3))) (.seq (.reg [i_P 0 31 7 1, i_L 1 32 31 1, i_M 2 33 0, i_X 3 34 (.callS 3 (kF 79) [(.t 33), (kI 17)]), i_B 4 35 .sub 34 8, i_X 5 36 (.h (.i2f (.t 35))), i_X 6 37 (.h (.fbin .div (.t 36) (.k (.d (.flt 4616189618054758400))))), i_X 7 38 (.h (.build [fI 0, fI 0, fI 0, fl 0] [(0, (1, (kI 0))), (3, (1, (.t 37)))])), i_X 8 39 (.bslice [fI 0, fI 0, fI 0, fl 0] 1 4 [(0, (4, (.t 38)))] 81), i_X 9 40 (.app (.t 32) (.t 39) 4 32), i_P 10 41 7 1, i_S 11 41 40 1] [0, 1, 2, 6, 7]) (.seq (.seq (.reg [i_K 0 9 0] [0, 1, 2, 6, 7, 9]) (.block 2 (.loop a13))) (.seq (.seq (.reg [i_K 0 13 0] [0, 6, 7, 13]) (.block 4 (.loop U2))) (.seq (.reg [i_A 0 119 7 3, i_S 1 6 119 3] [6]) .ret)))))))
theorem b0y : d6 Tryz.prog 36 = some ⟨120, [(6, (some (3, true)))], b4Z.strip⟩ := by kernel_rfl
theorem j7 (a n : Int) (hn : 0 < n) (hn2 : n < 2 ^ 62) : Con Tryz.prog 79 [fI a, fI n] (fI (a % n)) := by
 rw [← b1M a n hn]
 refine a3 a7G rfl d5 ?_
 refine evx @a9y.eq_1 ?_
 refine ⟨by omega, ?_⟩
 have h1 := Int.tmod_lt_of_pos a hn
 have h6 := Int.lt_tmod_of_pos a hn
 refine a9 (fun h => ?_) (fun h => ?_)
 ·refine ev ?_
  replace h := of_decide_eq_true h
  rw [b9 (by omega) (by omega), if_pos h]
  exact a4 rfl (by decide) (by simp [look])
 ·replace h := of_decide_eq_false h
  refine ev ?_
  rw [if_neg h]
  exact a4 rfl (by decide) (by simp [look])
def mkOp (ns : List Int) (div : Bool) (at' : Nat) (i : Nat) : OpN :=
 let k := ns.getD i 0
 if k % 11 = 0 then ⟨0, 0, 0, fop .div (FloatKind.nearest .f64 (IntKind.i64.wrap (k.tdiv 11) % 33 - 16)) 4620693217682128896⟩
 else ⟨if div = true ∧ k % 7 = 0 then 5 else 2 + k % 3, IntKind.i64.wrap (k.tdiv 4) % at', IntKind.i64.wrap (k.tdiv 40) % at', 0⟩
def G2 (N : Nat) : List OpN := (List.range N).map fun (i : Nat) => ⟨1, i, 0, 0⟩
def b2X (n : Int) (N : Nat) : List OpN := G2 N ++ [⟨0, 0, 0, fop .div (FloatKind.nearest .f64 (n % 17 - 8)) 4616189618054758400⟩]
def E7 (n : Int) (ns : List Int) (div : Bool) (N : Nat) : Nat → List OpN
 | 0 => b2X n N
 | i + 1 => E7 n ns div N i ++ [mkOp ns div (N + 1 + i) i]
def b2f (n : Int) (L : Nat) (i : Nat) : Int := (L : Int) - 1 - (IntKind.i64.wrap (IntKind.i64.wrap (n.tdiv 3) + i)) % (min 3 L : Nat)
def mkT (n : Int) (ns : List Int) (div : Bool) : Tp :=
 let N := (n % 3).toNat + 1
 let m := min ns.length 8
 ⟨N, E7 n ns div N m, (List.range N).map fun i => b2f n (N + 1 + m) i⟩
theorem P4 (n : Int) (ns : List Int) (div : Bool) (N i : Nat) : (E7 n ns div N i).length = N + 1 + i := by
 induction i with
 | zero => simp [E7, b2X, G2]
 | succ i ih => simp [E7, ih]; omega
def Oko' (o : OpN) (i n : Nat) : Prop := o.k = 0 ∨ (o.k = 1 ∧ 0 ≤ o.a ∧ o.a < n) ∨ ((o.k = 2 ∨ o.k = 3 ∨ o.k = 4 ∨ o.k = 5) ∧ (0 ≤ o.a ∧ o.a < i) ∧ 0 ≤ o.b ∧ o.b < i)
theorem T4 (xs : List OpN) (o : OpN) (i : Nat) (h : xs.length = i) : f4 i (opG xs) ++ [fI o.k, fI o.a, fI o.b, fl o.c] = f4 (i + 1) (opG (xs ++ [o])) := by
 rw [z3]
 have e : f4 i (opG (xs ++ [o])) = f4 i (opG xs) := by
  unfold f4
  rw [a1s fun j hj => ?_]
  have : (xs ++ [o]).getD j ⟨0, 0, 0, 0⟩ = xs.getD j ⟨0, 0, 0, 0⟩ := by rw [c8U, c8W (by omega), ← c8U]
  simp only [opG, this]
 have e2 : (xs ++ [o]).getD i ⟨0, 0, 0, 0⟩ = o := by rw [c8U, c8X (by omega), h, Nat.sub_self]; rfl
 rw [e]
 congr 1
 simp only [opG, e2, List.map_cons, List.map_nil]
theorem b19 (xs : List OpN) (i : Nat) : (f4 i (opG xs)).length = i * 4 := p8 i fun _ _ => rfl
theorem b5d (i : Nat) : G2 (i + 1) = G2 i ++ [⟨1, i, 0, 0⟩] := by simp [G2, List.range_succ]
theorem a2p (i : Nat) : (G2 i).length = i := by simp [G2]
abbrev m0S (n : Int) (ns : List Int) (div : Bool) (i : Nat) : Sl := [(0, fI n), (1, .d (rowI ns)), (2, fB div), (6, .ptr 0 0 0 3), (7, .ptr 5 0 0 3), (8, fI i)]
abbrev m1S (n : Int) (ns : List Int) (div : Bool) (i : Nat) : Sl := [(0, fI n), (1, .d (rowI ns)), (2, fB div), (6, .ptr 0 0 0 3), (7, .ptr 5 0 0 3), (9, fI i)]
abbrev mTop : List V := [fI 0, .nil, .nil]
theorem c3t (n : Int) (ns : List Int) (div : Bool) (N : Nat) (hN : 0 < N ∧ N ≤ 3) (Q : Ex → T → Prop)
  (hQ : ∀ w, Q (.exit 0) ⟨m0S n ns div N ++ [w], [(11, [f4 N (opG (G2 N))]), (5, [[fI N, .sl 11 0 0 N 4 (N * 4), .nil]]), (0, [mTop])]⟩) :
  WA Tryz.prog (fun _ => False) 120 (.loop U3) Q ⟨m0S n ns div 0, [(5, [[fI N, .nil, .nil]]), (0, [mTop])]⟩ := by
 refine f9 (n := N) (fun c s => ∃ i, c + i = N ∧ ((i = 0 ∧ s = ⟨m0S n ns div 0, [(5, [[fI N, .nil, .nil]]), (0, [mTop])]⟩) ∨ (0 < i ∧ s = ⟨m0S n ns div i, [(11, [f4 i (opG (G2 i))]), (5, [[fI N, .sl 11 0 0 i 4 (i * 4), .nil]]), (0, [mTop])]⟩))) (Le.refl _) ⟨0, rfl, .inl ⟨rfl, rfl⟩⟩ ?_
 rintro c s ⟨i, hc, ⟨rfl, rfl⟩ | ⟨hi, rfl⟩⟩
 ·refine evx @U3.eq_1 ?_
  have h0 : decide ((0 : Int) < (N : Int)) = true := by simp; omega
  refine evx h0 ?_
  rw [show IntKind.i64.wrap 1 = ((0 + 1 : Nat) : Int) from by decide]
  exact ⟨c - 1, _, by omega, LeT.only (L' := [(11, [f4 (0 + 1) (opG (G2 (0 + 1)))]), (5, [[fI N, .sl 11 0 0 (0 + 1) 4 ((0 + 1) * 4), .nil]]), (0, [mTop])]) (fun X => X != 10) (fun _ h => h) rfl (by simp [kpS]) (by simp [kpS]), 0 + 1, by omega, .inr ⟨by omega, rfl⟩⟩
 ·have hl := b19 (G2 i) i
  refine evx @U3.eq_1 ?_
  refine a9 (fun h => ?_) (fun h => ?_)
  ·replace h := of_decide_eq_true h
   refine ev ?_
   (repeat (with_reducible refine And.intro (by omega) ?_))
   have e := T4 (G2 i) ⟨1, i, 0, 0⟩ i (a2p i)
   rw [← b5d] at e
   have e4 : i * 4 + 4 = (i + 1) * 4 := by omega
   rw [b9 (by omega) (by omega), e4]
   simp only [] at e
   rw [e]
   exact ⟨c - 1, _, by omega, LeT.only (fun X => decide (X ≤ 11)) (fun _ h => h) rfl (by simp [kpS]) (by simp [kpS]), i + 1, by omega, .inr ⟨by omega, rfl⟩⟩
  ·replace h := of_decide_eq_false h
   have e : i = N := by omega
   subst e
   refine ev ?_
   exact hQ _
abbrev m1T (n : Int) (ns : List Int) (div : Bool) (N i : Nat) : T := ⟨m1S n ns div i, [(11, [f4 (N + 1 + i) (opG (E7 n ns div N i))]), (5, [[fI N, .sl 11 0 0 (N + 1 + i) 4 ((N + 1 + i) * 4), .nil]]), (0, [mTop])]⟩
theorem c3s (n : Int) (ns : List Int) (div : Bool) (N : Nat) (hN : 0 < N ∧ N ≤ 3) (hns : ns.length < 2 ^ 62) (Q : Ex → T → Prop)
  (hQ : ∀ w, Q (.exit 2) ⟨m1S n ns div (min ns.length 8) ++ [w], (m1T n ns div N (min ns.length 8)).L⟩) :
  WA Tryz.prog (fun _ => False) 120 (.loop a13) Q (m1T n ns div N 0) := by
 refine f9 (n := min ns.length 8) (fun c s => ∃ i, c + i = min ns.length 8 ∧ s = m1T n ns div N i) (Le.refl _) ⟨0, by omega, rfl⟩ ?_
 rintro c s ⟨i, hc, rfl⟩
 have hl := P4 n ns div N i
 have hcl := b19 (E7 n ns div N i) (N + 1 + i)
 have hnx : E7 n ns div N (i + 1) = E7 n ns div N i ++ [mkOp ns div (N + 1 + i) i] := rfl
 refine evx @a13.eq_1 ?_
 by_cases h1 : i < ns.length
 ·have h1' : decide (i < ns.length) = true := decide_eq_true h1
  by_cases h2 : i < 8
  ·have h2' : decide ((i : Int) < 8) = true := by simp; omega
   refine evx (And.intro h1' h2') ?_
   (repeat (with_reducible refine And.intro (by omega) ?_))
   generalize hk : ns.getD i 0 = k
   have ho : mkOp ns div (N + 1 + i) i = if k % 11 = 0 then ⟨0, 0, 0, fop .div (FloatKind.nearest .f64 (IntKind.i64.wrap (k.tdiv 11) % 33 - 16)) 4620693217682128896⟩ else ⟨if div = true ∧ k % 7 = 0 then 5 else 2 + k % 3, IntKind.i64.wrap (k.tdiv 4) % (N + 1 + i : Nat), IntKind.i64.wrap (k.tdiv 40) % (N + 1 + i : Nat), 0⟩ := by unfold mkOp; rw [hk]
   generalize mkOp ns div (N + 1 + i) i = o at ho hnx
   refine a0 (j7 k 3 (by decide) (by decide)) rfl ?_
   have q1 := c8Z k (by decide : (3 : Int) ≠ 0)
   have q2 := c8Y k (by decide : (0 : Int) < 3)
   have w2 : IntKind.i64.wrap (2 + k % 3) = 2 + k % 3 := b9 (by omega) (by omega)
   refine evx w2 ?_
   refine ⟨by decide, ?_⟩
   refine a0 (j7 (IntKind.i64.wrap (k.tdiv 4)) (N + 1 + i : Nat) (by omega) (by omega)) rfl ?_
   refine ev ?_
   refine ⟨by decide, ?_⟩
   refine a0 (j7 (IntKind.i64.wrap (k.tdiv 40)) (N + 1 + i : Nat) (by omega) (by omega)) rfl ?_
   refine ev ?_
   cases div
   ·rw [if_neg (by simp : ¬ (false = true ∧ k % 7 = 0))] at ho
    refine evx hcl ?_
    refine a0 (j7 k 11 (by decide) (by decide)) rfl ?_
    by_cases h11 : k % 11 = 0
    ·rw [if_pos h11] at ho
     have h11' : (k % 11 == 0) = true := by simpa using h11
     refine evx h11' ?_
     refine ⟨by decide, ?_⟩
     refine a0 (j7 (IntKind.i64.wrap (k.tdiv 11)) 33 (by decide) (by decide)) rfl ?_
     have v1 := c8Z (IntKind.i64.wrap (k.tdiv 11)) (by decide : (33 : Int) ≠ 0)
     have v2 := c8Y (IntKind.i64.wrap (k.tdiv 11)) (by decide : (0 : Int) < 33)
     have v3 : IntKind.i64.wrap (IntKind.i64.wrap (k.tdiv 11) % 33 - 16) = IntKind.i64.wrap (k.tdiv 11) % 33 - 16 := b9 (by omega) (by omega)
     refine evx v3 ?_
     have e := T4 (E7 n ns _ N i) o (N + 1 + i) hl
     rw [← hnx, ho] at e
     simp only [] at e
     have e4 : (N + 1 + i) * 4 + 4 = (N + 1 + (i + 1)) * 4 := by omega
     have e5 : N + 1 + i + 1 = N + 1 + (i + 1) := by omega
     (repeat (with_reducible refine And.intro (by omega) ?_))
     rw [b9 (by omega) (by omega), e4, e, e5]
     exact ⟨c - 1, _, by omega, LeT.only (fun X => X == 11 || X == 5 || X == 0) (fun _ h => h) rfl (by simp [kpS]) (by simp [kpS]), i + 1, by omega, rfl⟩
    ·rw [if_neg h11] at ho
     have h11' : (k % 11 == 0) = false := by simpa using h11
     refine evx h11' ?_
     have e := T4 (E7 n ns _ N i) o (N + 1 + i) hl
     rw [← hnx, ho] at e
     simp only [] at e
     have e4 : (N + 1 + i) * 4 + 4 = (N + 1 + (i + 1)) * 4 := by omega
     have e5 : N + 1 + i + 1 = N + 1 + (i + 1) := by omega
     (repeat (with_reducible refine And.intro (by omega) ?_))
     rw [b9 (by omega) (by omega), e4, e, e5]
     exact ⟨c - 1, _, by omega, LeT.only (fun X => X == 11 || X == 5 || X == 0) (fun _ h => h) rfl (by simp [kpS]) (by simp [kpS]), i + 1, by omega, rfl⟩
   ·by_cases h7 : k % 7 = 0
    ·have hd : (true = true ∧ k % 7 = 0) := ⟨rfl, h7⟩
     rw [if_pos hd] at ho
     have h7' : (k % 7 == 0) = true := by simpa using h7
     refine ev ?_
     refine a0 (j7 k 7 (by decide) (by decide)) rfl ?_
     refine evx h7' ?_
     refine a0 (j7 k 11 (by decide) (by decide)) rfl ?_
     by_cases h11 : k % 11 = 0
     ·rw [if_pos h11] at ho
      have h11' : (k % 11 == 0) = true := by simpa using h11
      refine evx h11' ?_
      refine ⟨by decide, ?_⟩
      refine a0 (j7 (IntKind.i64.wrap (k.tdiv 11)) 33 (by decide) (by decide)) rfl ?_
      have v1 := c8Z (IntKind.i64.wrap (k.tdiv 11)) (by decide : (33 : Int) ≠ 0)
      have v2 := c8Y (IntKind.i64.wrap (k.tdiv 11)) (by decide : (0 : Int) < 33)
      have v3 : IntKind.i64.wrap (IntKind.i64.wrap (k.tdiv 11) % 33 - 16) = IntKind.i64.wrap (k.tdiv 11) % 33 - 16 := b9 (by omega) (by omega)
      refine evx v3 ?_
      have e := T4 (E7 n ns _ N i) o (N + 1 + i) hl
      rw [← hnx, ho] at e
      simp only [] at e
      have e4 : (N + 1 + i) * 4 + 4 = (N + 1 + (i + 1)) * 4 := by omega
      have e5 : N + 1 + i + 1 = N + 1 + (i + 1) := by omega
      (repeat (with_reducible refine And.intro (by omega) ?_))
      rw [b9 (by omega) (by omega), e4, e, e5]
      exact ⟨c - 1, _, by omega, LeT.only (fun X => X == 11 || X == 5 || X == 0) (fun _ h => h) rfl (by simp [kpS]) (by simp [kpS]), i + 1, by omega, rfl⟩
     ·rw [if_neg h11] at ho
      have h11' : (k % 11 == 0) = false := by simpa using h11
      refine evx h11' ?_
      have e := T4 (E7 n ns _ N i) o (N + 1 + i) hl
      rw [← hnx, ho] at e
      simp only [] at e
      have e4 : (N + 1 + i) * 4 + 4 = (N + 1 + (i + 1)) * 4 := by omega
      have e5 : N + 1 + i + 1 = N + 1 + (i + 1) := by omega
      (repeat (with_reducible refine And.intro (by omega) ?_))
      rw [b9 (by omega) (by omega), e4, e, e5]
      exact ⟨c - 1, _, by omega, LeT.only (fun X => X == 11 || X == 5 || X == 0) (fun _ h => h) rfl (by simp [kpS]) (by simp [kpS]), i + 1, by omega, rfl⟩
    ·have hd : ¬ (true = true ∧ k % 7 = 0) := fun h => h7 h.2
     rw [if_neg hd] at ho
     have h7' : (k % 7 == 0) = false := by simpa using h7
     refine ev ?_
     refine a0 (j7 k 7 (by decide) (by decide)) rfl ?_
     refine evx h7' ?_
     refine a0 (j7 k 11 (by decide) (by decide)) rfl ?_
     by_cases h11 : k % 11 = 0
     ·rw [if_pos h11] at ho
      have h11' : (k % 11 == 0) = true := by simpa using h11
      refine evx h11' ?_
      refine ⟨by decide, ?_⟩
      refine a0 (j7 (IntKind.i64.wrap (k.tdiv 11)) 33 (by decide) (by decide)) rfl ?_
      have v1 := c8Z (IntKind.i64.wrap (k.tdiv 11)) (by decide : (33 : Int) ≠ 0)
      have v2 := c8Y (IntKind.i64.wrap (k.tdiv 11)) (by decide : (0 : Int) < 33)
      have v3 : IntKind.i64.wrap (IntKind.i64.wrap (k.tdiv 11) % 33 - 16) = IntKind.i64.wrap (k.tdiv 11) % 33 - 16 := b9 (by omega) (by omega)
      refine evx v3 ?_
      have e := T4 (E7 n ns _ N i) o (N + 1 + i) hl
      rw [← hnx, ho] at e
      simp only [] at e
      have e4 : (N + 1 + i) * 4 + 4 = (N + 1 + (i + 1)) * 4 := by omega
      have e5 : N + 1 + i + 1 = N + 1 + (i + 1) := by omega
      (repeat (with_reducible refine And.intro (by omega) ?_))
      rw [b9 (by omega) (by omega), e4, e, e5]
      exact ⟨c - 1, _, by omega, LeT.only (fun X => X == 11 || X == 5 || X == 0) (fun _ h => h) rfl (by simp [kpS]) (by simp [kpS]), i + 1, by omega, rfl⟩
     ·rw [if_neg h11] at ho
      have h11' : (k % 11 == 0) = false := by simpa using h11
      refine evx h11' ?_
      have e := T4 (E7 n ns _ N i) o (N + 1 + i) hl
      rw [← hnx, ho] at e
      simp only [] at e
      have e4 : (N + 1 + i) * 4 + 4 = (N + 1 + (i + 1)) * 4 := by omega
      have e5 : N + 1 + i + 1 = N + 1 + (i + 1) := by omega
      (repeat (with_reducible refine And.intro (by omega) ?_))
      rw [b9 (by omega) (by omega), e4, e, e5]
      exact ⟨c - 1, _, by omega, LeT.only (fun X => X == 11 || X == 5 || X == 0) (fun _ h => h) rfl (by simp [kpS]) (by simp [kpS]), i + 1, by omega, rfl⟩
  ·have h2' : decide ((i : Int) < 8) = false := by simp; omega
   have e : i = min ns.length 8 := by omega
   refine evx (And.intro h1' h2') ?_
   rw [e]
   exact hQ _
 ·have h1' : decide (i < ns.length) = false := decide_eq_false h1
  have e : i = min ns.length 8 := by omega
  refine evx h1' ?_
  rw [e]
  exact hQ _
def a2X (n : Int) (L i : Nat) : List Int := (List.range i).map fun j => b2f n L j
theorem b5P (n : Int) (L i : Nat) : g8 (a2X n L i) ++ [fI (b2f n L i)] = g8 (a2X n L (i + 1)) := by simp [a2X, g8, List.range_succ]
theorem b04 (n : Int) (L i : Nat) : (a2X n L i).length = i := by simp [a2X]
abbrev m2S (n : Int) (i : Nat) : Sl := [(0, fI n), (6, .ptr 0 0 0 3), (7, .ptr 5 0 0 3), (13, fI i)]
theorem c3r (n : Int) (N M : Nat) (ops : List OpN) (hM : ops.length = M) (hN : 0 < N ∧ N ≤ 3) (hM2 : 2 ≤ M ∧ M ≤ 100) (Q : Ex → T → Prop)
  (hQ : ∀ w, Q (.exit 4) ⟨m2S n N ++ [w], [(29, [g8 (a2X n M N)]), (11, [f4 M (opG ops)]), (5, [[fI N, .sl 11 0 0 M 4 (M * 4), .sl 29 0 0 N 1 N]]), (0, [mTop])]⟩) :
  WA Tryz.prog (fun _ => False) 120 (.loop U2) Q ⟨m2S n 0, [(11, [f4 M (opG ops)]), (5, [[fI N, .sl 11 0 0 M 4 (M * 4), .nil]]), (0, [mTop])]⟩ := by
 have hcl := b19 ops M
 refine f9 (n := N) (fun c s => ∃ i, c + i = N ∧ ((i = 0 ∧ s = ⟨m2S n 0, [(11, [f4 M (opG ops)]), (5, [[fI N, .sl 11 0 0 M 4 (M * 4), .nil]]), (0, [mTop])]⟩) ∨ (0 < i ∧ s = ⟨m2S n i, [(29, [g8 (a2X n M i)]), (11, [f4 M (opG ops)]), (5, [[fI N, .sl 11 0 0 M 4 (M * 4), .sl 29 0 0 i 1 i]]), (0, [mTop])]⟩))) (Le.refl _) ⟨0, rfl, .inl ⟨rfl, rfl⟩⟩ ?_
 have hmm : (if (M : Int) < 3 then (M : Int) else 3) = ((min 3 M : Nat) : Int) := by split <;> omega
 have wM : IntKind.i64.wrap ((M : Int) - 1) = (M : Int) - 1 := b9 (by omega) (by omega)
 rintro c s ⟨i, hc, ⟨rfl, rfl⟩ | ⟨hi, rfl⟩⟩
 ·refine evx @U2.eq_1 ?_
  have h0 : decide ((0 : Int) < (N : Int)) = true := by simp; omega
  refine evx (And.intro h0 (And.intro wM hmm)) ?_
  refine ⟨by decide, ?_⟩
  refine a8 (j7 (IntKind.i64.wrap (IntKind.i64.wrap (n.tdiv 3) + 0)) (min 3 M : Nat) (by omega) (by omega)) rfl ?_
  have u1 := c8Z (IntKind.i64.wrap (IntKind.i64.wrap (n.tdiv 3) + 0)) (by omega : ((min 3 M : Nat) : Int) ≠ 0)
  have u2 := c8Y (IntKind.i64.wrap (IntKind.i64.wrap (n.tdiv 3) + 0)) (by omega : (0 : Int) < ((min 3 M : Nat) : Int))
  have hmo : b2f n M 0 = (M : Int) - 1 - IntKind.i64.wrap (IntKind.i64.wrap (n.tdiv 3) + 0) % ((min 3 M : Nat) : Int) := rfl
  have wu : IntKind.i64.wrap ((M : Int) - 1 - IntKind.i64.wrap (IntKind.i64.wrap (n.tdiv 3) + 0) % ((min 3 M : Nat) : Int)) = b2f n M 0 := by rw [hmo]; exact b9 (by omega) (by omega)
  refine evx wu ?_
  rw [show IntKind.i64.wrap 1 = ((0 + 1 : Nat) : Int) from by decide]
  exact ⟨c - 1, _, by omega, LeT.only (L' := [(29, [g8 (a2X n M (0 + 1))]), (11, [f4 M (opG ops)]), (5, [[fI N, .sl 11 0 0 M 4 (M * 4), .sl 29 0 0 (0 + 1) 1 (0 + 1)]]), (0, [mTop])]) (fun X => X != 28) (fun _ h => h) rfl (by simp [kpS]) (by simp [kpS]), 0 + 1, by omega, .inr ⟨by omega, rfl⟩⟩
 ·have hol := b04 n M i
  refine evx @U2.eq_1 ?_
  refine a9 (fun h => ?_) (fun h => ?_)
  ·replace h := of_decide_eq_true h
   refine evx (And.intro wM hmm) ?_
   refine ⟨by decide, ?_⟩
   refine a8 (j7 (IntKind.i64.wrap (IntKind.i64.wrap (n.tdiv 3) + (i : Int))) (min 3 M : Nat) (by omega) (by omega)) rfl ?_
   have u1 := c8Z (IntKind.i64.wrap (IntKind.i64.wrap (n.tdiv 3) + (i : Int))) (by omega : ((min 3 M : Nat) : Int) ≠ 0)
   have u2 := c8Y (IntKind.i64.wrap (IntKind.i64.wrap (n.tdiv 3) + (i : Int))) (by omega : (0 : Int) < ((min 3 M : Nat) : Int))
   have hmo : b2f n M i = (M : Int) - 1 - IntKind.i64.wrap (IntKind.i64.wrap (n.tdiv 3) + (i : Int)) % ((min 3 M : Nat) : Int) := rfl
   have wu : IntKind.i64.wrap ((M : Int) - 1 - IntKind.i64.wrap (IntKind.i64.wrap (n.tdiv 3) + (i : Int)) % ((min 3 M : Nat) : Int)) = b2f n M i := by rw [hmo]; exact b9 (by omega) (by omega)
   refine evx wu ?_
   (repeat (with_reducible refine And.intro (by omega) ?_))
   have e1 := b5P n M i
   rw [b9 (by omega) (by omega), e1]
   exact ⟨c - 1, _, by omega, LeT.only (fun X => decide (X ≤ 29)) (fun _ h => h) rfl (by simp [kpS]) (by simp [kpS]), i + 1, by omega, .inr ⟨by omega, rfl⟩⟩
  ·replace h := of_decide_eq_false h
   have e : i = N := by omega
   subst e
   refine ev ?_
   exact hQ _
theorem b5W (n : Int) (ns : List Int) (div : Bool) (hns : ns.length < 2 ^ 62) : Con Tryz.prog 36 [fI n, .d (rowI ns), fB div] (K3 (mkT n ns div)) := by
 have m1 := c8Z n (by decide : (3 : Int) ≠ 0)
 have m2 := c8Y n (by decide : (0 : Int) < 3)
 refine a3 b0y rfl d5 ?_
 refine evx @b4Z.eq_1 ?_
 refine a0 (j7 n 3 (by decide) (by decide)) rfl ?_
 obtain ⟨N, hN⟩ : ∃ N : Nat, N = (n % 3).toNat + 1 := ⟨_, rfl⟩
 have w1 : IntKind.i64.wrap (1 + n % 3) = (N : Int) := by rw [b9 (by omega) (by omega)]; omega
 refine evx w1 ?_
 refine c3t n ns div N (by omega) _ fun w => ?_
 have hl := b19 (G2 N) N
 refine ev ?_
 refine a8 (j7 n 17 (by decide) (by decide)) rfl ?_
 have r1 := c8Z n (by decide : (17 : Int) ≠ 0)
 have r2 := c8Y n (by decide : (0 : Int) < 17)
 have w2 : IntKind.i64.wrap (n % 17 - 8) = n % 17 - 8 := b9 (by omega) (by omega)
 refine evx w2 ?_
 (repeat (with_reducible refine And.intro (by omega) ?_))
 have e := T4 (G2 N) ⟨0, 0, 0, fop .div (FloatKind.nearest .f64 (n % 17 - 8)) 4616189618054758400⟩ N (a2p N)
 simp only [] at e
 rw [e]
 have e4 : N * 4 + 4 = (N + 1 + 0) * 4 := by omega
 rw [e4]
 refine c4c (s' := m1T n ns div N 0) (LeT.only (fun X => X == 11 || X == 5 || X == 0) (fun _ h => h) rfl (by simp [kpS]) (by simp [kpS])) ?_
 refine c3s n ns div N (by omega) hns _ fun w => ?_
 obtain ⟨M, hM⟩ : ∃ M, M = N + 1 + min ns.length 8 := ⟨_, rfl⟩
 have hol := P4 n ns div N (min ns.length 8)
 rw [← hM] at hol
 simp only [← hM]
 have hT : mkT n ns div = ⟨N, E7 n ns div N (min ns.length 8), a2X n M N⟩ := by unfold mkT a2X; rw [← hN, hM]
 rw [hT]
 generalize E7 n ns div N (min ns.length 8) = ops at hol
 refine ev ?_
 refine c3r n N M ops hol (by omega) (by omega) _ fun w => ?_
 have hul := b04 n M N
 refine ev ?_
 refine f7 (.agg [fI N, .sl 11 0 0 M 4 (M * 4), .sl 29 0 0 N 1 N]) (fun _ h => h) (f5 (by decide) rfl rfl rfl (by simp) rfl) (LeV.agg3 (.d (.d _)) (.d ?_) (.d ?_))
 ·unfold opsD
  rw [hol]
  exact s8 (esz := 4) (fun Y q h => by simp [d9] at h) (by simp [b6]) (fun _ _ => rfl) rfl
 ·exact a4n (fun Y q h => by simp [d9] at h) (by simp [b6]) hul rfl
theorem b8v (n : Int) (ns : List Int) (div : Bool) : (mkT n ns div).n = (n % 3).toNat + 1 := rfl
theorem c3k (n : Int) (ns : List Int) (div : Bool) (N i : Nat) : ∀ j, j < N + 1 + i → Oko' ((E7 n ns div N i).getD j ⟨0, 0, 0, 0⟩) j N := by
 induction i with
 | zero =>
  intro j hj
  have hl := a2p N
  unfold E7 b2X
  by_cases h : j < N
  ·rw [c8U, c8W (by omega)]
   have : (G2 N)[j]? = some ⟨1, j, 0, 0⟩ := by simp [G2, h]
   rw [this]
   exact .inr (.inl ⟨rfl, by simp, by simpa using h⟩)
  ·obtain rfl : j = N := by omega
   rw [c8U, c8X (by omega), hl, Nat.sub_self]
   exact .inl rfl
 | succ i ih =>
  intro j hj
  have hl := P4 n ns div N i
  unfold E7
  by_cases h : j < N + 1 + i
  ·have := ih j h
   rw [c8U] at this ⊢
   rwa [c8W (by omega)]
  ·obtain rfl : j = N + 1 + i := by omega
   rw [c8U, c8X (by omega), hl, Nat.sub_self]
   show Oko' (mkOp ns div (N + 1 + i) i) (N + 1 + i) N
   unfold mkOp
   simp only
   split
   ·exact .inl rfl
   ·have a1 := c8Z (IntKind.i64.wrap ((ns.getD i 0).tdiv 4)) (by omega : ((N + 1 + i : Nat) : Int) ≠ 0)
    have a2 := c8Y (IntKind.i64.wrap ((ns.getD i 0).tdiv 4)) (by omega : (0 : Int) < ((N + 1 + i : Nat) : Int))
    have b1 := c8Z (IntKind.i64.wrap ((ns.getD i 0).tdiv 40)) (by omega : ((N + 1 + i : Nat) : Int) ≠ 0)
    have b2 := c8Y (IntKind.i64.wrap ((ns.getD i 0).tdiv 40)) (by omega : (0 : Int) < ((N + 1 + i : Nat) : Int))
    have c1 := c8Z (ns.getD i 0) (by decide : (3 : Int) ≠ 0)
    have c2 := c8Y (ns.getD i 0) (by decide : (0 : Int) < 3)
    refine .inr (.inr ⟨?_, ⟨a1, a2⟩, b1, b2⟩)
    simp only
    split <;> omega
theorem c4B (n : Int) (ns : List Int) (div : Bool) : Tok (mkT n ns div) := by
 have m1 := c8Z n (by decide : (3 : Int) ≠ 0)
 have m2 := c8Y n (by decide : (0 : Int) < 3)
 have hl := P4 n ns div ((n % 3).toNat + 1) (min ns.length 8)
 refine ⟨?_, ?_, ?_, ?_, ?_⟩
 ·rw [b8v]; omega
 ·show (E7 n ns div ((n % 3).toNat + 1) (min ns.length 8)).length < 2 ^ 40
  omega
 ·intro i hi
  have hi' : i < (E7 n ns div ((n % 3).toNat + 1) (min ns.length 8)).length := hi
  exact c3k n ns div ((n % 3).toNat + 1) (min ns.length 8) i (by omega)
 ·simp [mkT]
 ·intro i hi
  rw [b8v] at hi
  have hx : (mkT n ns div).out.getD i 0 = b2f n ((n % 3).toNat + 1 + 1 + min ns.length 8) i := by
   unfold mkT
   simp only
   rw [c8U, List.getElem?_map, List.getElem?_range hi]; rfl
  rw [hx]
  show _ ∧ _ < ((E7 n ns div ((n % 3).toNat + 1) (min ns.length 8)).length : Int)
  rw [hl]
  have hM : 2 ≤ (n % 3).toNat + 1 + 1 + min ns.length 8 := by omega
  generalize (n % 3).toNat + 1 + 1 + min ns.length 8 = M at hM
  have u1 := c8Z (IntKind.i64.wrap (IntKind.i64.wrap (n.tdiv 3) + (i : Int))) (by omega : ((min 3 M : Nat) : Int) ≠ 0)
  have u2 := c8Y (IntKind.i64.wrap (IntKind.i64.wrap (n.tdiv 3) + (i : Int))) (by omega : (0 : Int) < ((min 3 M : Nat) : Int))
  unfold b2f
  omega
def a63 : CA := (.seq (.reg [i_K 0 4 0] [0, 1]) (.seq (.reg [i_M 0 6 0, i_M 1 7 1, i_N 2 8 .rem 6 7, i_M 3 5 8] [1, 5]) (.seq (.seq (.reg [i_M 0 9 5, i_B 1 10 .lss 9 0] [1, 5, 10]) (.cond (.t 10) (.reg [i_M 0 11 5, i_M 1 12 1, i_N 2 13 .add 11 12, i_M 3 5 13] [5]) .skip)) (.seq (.reg [i_M 0 14 5, i_M 1 4 14] [4]) .ret))))
theorem a58 : d6 Tryz.prog 38 = some ⟨15, [(4, none)], a63.strip⟩ := by kernel_rfl
def a16 : CA := (.seq (.reg [i_X 0 1 (.box (.t 0) 9 24), i_X 1 2 (.h (.mov (.k (.d (.bool false)))))] [1]) (.seq (.reg [i_P 0 3 1 5, i_L 1 4 3 1, i_X 2 5 (.h (.len (.t 4))), i_B 3 6 .leq 5 60, i_M 4 7 6, g_T 5 8 7 (.h (.padd (.t 1) 6)), g_T 6 9 7 (.load (.t 8) 1 false), g_T 7 10 7 (.h (.len (.t 9))), g_T 8 11 7 (.h (.ibin .leq (.t 10) (kI 60))), i_X 9 12 (.h (.pick (.t 7) (.t 11) (.k (.d (.bool false))))), i_M 10 13 12, g_T 11 14 13 (.h (.padd (.t 1) 7)), g_T 12 15 13 (.load (.t 14) 1 false), g_T 13 16 13 (.h (.len (.t 15))), g_T 14 17 13 (.h (.ibin .leq (.t 16) (kI 60))), i_X 15 18 (.h (.pick (.t 13) (.t 17) (.k (.d (.bool false))))), i_M 16 2 18] [2]) .ret))
theorem a2M : d6 Tryz.prog 16 = some ⟨19, [(2, none)], a16.strip⟩ := by kernel_rfl
def a3c : CA := (.seq (.seq (.reg [i_M 0 8 6, i_M 1 9 0, i_N 2 10 .lss 8 9] [0, 1, 5, 6, 10]) (.cond (.t 10) .skip (.exit 0))) (.seq (.block 1 (.seq (.reg [i_M 0 13 6, i_M 1 7 13] [0, 1, 5, 6, 7]) (.seq (.seq (.reg [i_M 0 14 6, i_M 1 15 1, i_X 2 16 (.h (.len (.t 15))), i_N 3 17 .lss 14 16] [0, 1, 5, 6, 7, 17]) (.cond (.t 17) (.reg [i_M 0 18 1, i_M 1 19 6, i_I 2 20 18 19 1, i_L 3 21 20 1, i_M 4 7 21] [0, 1, 5, 6, 7]) .skip)) (.reg [i_M 0 22 5, i_M 1 23 7, i_X 2 24 (.callA (kF 79) [(.t 23), (kI 65)]), i_B 3 25 .sub 24 32, i_X 4 26 (.h (.i2f (.t 25))), i_X 5 27 (.h (.fbin .div (.t 26) (.k (.d (.flt 4620693217682128896))))), i_X 6 28 (.bslice [fl 0] 1 1 [(0, (1, (.t 27)))] 31), i_X 7 29 (.app (.t 22) (.t 28) 1 8), i_M 8 5 29] [0, 1, 5, 6])))) (.reg [i_M 0 11 6, i_B 1 12 .add 11 1, i_M 2 6 12] [0, 1, 5, 6])))
def a9z : CA := (.seq (.reg [i_X 0 4 (.h (.mov (.k .nil)))] [0, 1]) (.seq (.reg [i_X 0 5 (.h (.mov (.k .nil)))] [0, 1, 5]) (.seq (.seq (.reg [i_K 0 6 0] [0, 1, 5, 6]) (.block 0 (.loop a3c))) (.seq (.reg [i_M 0 30 5, i_M 1 4 30] [4]) .ret))))
theorem a7H : d6 Tryz.prog 37 = some ⟨31, [(4, none)], a9z.strip⟩ := by kernel_rfl
theorem s6 (a n : Int) (hn : 0 < n) (hn2 : n < 2 ^ 62) : Con Tryz.prog 38 [fI a, fI n] (fI (a % n)) := by
 rw [← b1M a n hn]
 refine a3 a58 rfl d5 ?_
 refine evx @a63.eq_1 ?_
 refine ⟨by omega, ?_⟩
 have h1 := Int.tmod_lt_of_pos a hn
 have h6 := Int.lt_tmod_of_pos a hn
 refine a9 (fun h => ?_) (fun h => ?_)
 ·refine ev ?_
  replace h := of_decide_eq_true h
  rw [b9 (by omega) (by omega), if_pos h]
  exact a4 rfl (by decide) (by simp [look])
 ·replace h := of_decide_eq_false h
  refine ev ?_
  rw [if_neg h]
  exact a4 rfl (by decide) (by simp [look])
def Zl (z : List (List Nat)) : Prop := z.length < 2 ^ 62 ∧ ∀ i, i < z.length → (z.getD i []).length < 2 ^ 62
theorem c8E {m n : Nat} {z : List (List Nat)} (h : Rk m n z) (hm : m < 1000) (hn : n < 2 ^ 40) : Zl z :=
 ⟨by have := h.1; omega, fun i hi => by have := h.2 i (by have := h.1; omega); omega⟩
theorem b3T (s : Sta) (h : Zl s.n.z) : Con Tryz.prog 60 [staV s, staV s] (fB true) := by
 obtain ⟨n, g, f, sl⟩ := s
 refine a3 a9q rfl d5 ?_
 refine evx @b1B.eq_1 ?_
 first | refine a0 (a3B n h.1 h.2) rfl ?_ | refine b5 (a3B n h.1 h.2) rfl ?_ | refine a8 (a3B n h.1 h.2) rfl ?_
 refine ev ?_
 exact a4 rfl (by decide) (by simp [look])
abbrev shC (n first least tol fin : Int) (ns ms outs : List Int) (dv : Bool) : List V := [fI n, fI first, fI least, fI tol, fI fin, .d (rowI ns), .d (rowI ms), .d (rowI outs), fB dv]
theorem b5X (n first least tol fin : Int) (ns ms outs : List Int) (dv : Bool) : Con Tryz.prog 16 [.agg (shC n first least tol fin ns ms outs dv)] (fB (decide (ns.length ≤ 60 ∧ ms.length ≤ 60 ∧ outs.length ≤ 60))) := by
 refine a3 a2M rfl d5 ?_
 refine evx @a16.eq_1 ?_
 by_cases h1 : ns.length ≤ 60
 ·by_cases h2 : ms.length ≤ 60
  ·by_cases h3 : outs.length ≤ 60
   ·have k1 : decide ((ns.length : Int) ≤ 60) = true := decide_eq_true (by omega)
    have k2 : decide ((ms.length : Int) ≤ 60) = true := decide_eq_true (by omega)
    have k3 : decide ((outs.length : Int) ≤ 60) = true := decide_eq_true (by omega)
    refine evx (And.intro k1 (And.intro k2 k3)) ?_
    rw [decide_eq_true ⟨h1, h2, h3⟩]
    exact a4 rfl (by decide) (by simp [look])
   ·have k1 : decide ((ns.length : Int) ≤ 60) = true := decide_eq_true (by omega)
    have k2 : decide ((ms.length : Int) ≤ 60) = true := decide_eq_true (by omega)
    have k3 : decide ((outs.length : Int) ≤ 60) = false := decide_eq_false (by omega)
    refine evx (And.intro k1 (And.intro k2 k3)) ?_
    rw [decide_eq_false (fun h => h3 h.2.2)]
    exact a4 rfl (by decide) (by simp [look])
  ·have k1 : decide ((ns.length : Int) ≤ 60) = true := decide_eq_true (by omega)
   have k2 : decide ((ms.length : Int) ≤ 60) = false := decide_eq_false (by omega)
   refine evx (And.intro k1 k2) ?_
   rw [decide_eq_false (fun h => h2 h.2.1)]
   exact a4 rfl (by decide) (by simp [look])
 ·have k1 : decide ((ns.length : Int) ≤ 60) = false := decide_eq_false (by omega)
  refine evx k1 ?_
  rw [decide_eq_false (fun h => h1 h.1)]
  exact a4 rfl (by decide) (by simp [look])
def valN (k : Int) : Nat := fop .div (FloatKind.nearest .f64 (k % 65 - 32)) 4620693217682128896
def a8b (n : Nat) (ms : List Int) : List Nat := tabR (fun i => valN (if i < ms.length then ms.getD i 0 else i)) n
theorem b2s (n : Nat) (ms : List Int) (hn : n < 1000) (hms : ms.length < 2 ^ 62) : Con Tryz.prog 37 [fI n, .d (rowI ms)] (.d (rowD (a8b n ms))) := by
 have numw : ∀ k : Int, IntKind.i64.wrap (k % 65 - 32) = k % 65 - 32 := by
  intro k
  have h1 := c8Z k (by decide : (65 : Int) ≠ 0)
  have h2 := c8Y k (by decide : (0 : Int) < 65)
  exact b9 (by omega) (by omega)
 refine b1p (X := 100) (n := n) ?_ (g6 _ _)
 refine g7 a7H rfl d5 (fun _ => False) (by simp [d9]) ?_
 refine evx @a9z.eq_1 ?_
 unfold a8b
 refine f9 (n := n) (fun c s => ∃ i, c + i = n ∧ s = ⟨[(0, fI n), (1, .d (rowI ms)), (5, .sl 100 0 0 i 1 i), (6, fI i)], [(100, [rowV (tabR (fun i => valN (if i < ms.length then ms.getD i 0 else i)) i)])]⟩)
  (s0 := ⟨_, _⟩) (LeT.nilrow (X := 100) (esz := 1) (as' := [(0, fI n), (1, .d (rowI ms)), (5, .sl 100 0 0 0 1 0), (6, fI 0)]) rfl (fun h => h) fun i => ?_) ⟨0, by omega, rfl⟩ ?_
 ·simp only [look]
  repeat' split
  all_goals simp [rowI]
 rintro c s ⟨i, hc, rfl⟩
 have hl := g6 (fun i => valN (if i < ms.length then ms.getD i 0 else i)) i
 refine evx @a3c.eq_1 ?_
 refine a9 (fun h => ?_) (fun h => ?_)
 ·replace h := of_decide_eq_true h
  refine ev ?_
  have e := D8 (fun i => valN (if i < ms.length then ms.getD i 0 else i)) i
  refine a9 (fun h3 => ?_) (fun h3 => ?_)
  ·replace h3 := of_decide_eq_true h3
   refine ev ?_
   (repeat (with_reducible refine And.intro (by omega) ?_))
   refine a0 (j7 (ms.getD i 0) 65 (by decide) (by decide)) rfl ?_
   refine evx numw ?_
   (repeat (with_reducible refine And.intro (by omega) ?_))
   have e2 : V.d (.flt (fop .div (FloatKind.nearest .f64 (ms.getD i 0 % 65 - 32)) 4620693217682128896)) = fl (valN (if i < ms.length then ms.getD i 0 else i)) := by rw [if_pos h3]; rfl
   rw [b9 (by omega) (by omega), e2, ← e]
   exact ⟨c - 1, _, by omega, LeT.only (fun X => decide (X ≤ 100)) (fun _ h => h) rfl (by simp [kpS]) (by simp [kpS]), i + 1, by omega, rfl⟩
  ·replace h3 := of_decide_eq_false h3
   refine ev ?_
   refine a0 (j7 i 65 (by decide) (by decide)) rfl ?_
   refine evx numw ?_
   (repeat (with_reducible refine And.intro (by omega) ?_))
   have e2 : V.d (.flt (fop .div (FloatKind.nearest .f64 ((i : Int) % 65 - 32)) 4620693217682128896)) = fl (valN (if i < ms.length then ms.getD i 0 else i)) := by rw [if_neg (by omega)]; rfl
   rw [b9 (by omega) (by omega), e2, ← e]
   exact ⟨c - 1, _, by omega, LeT.only (fun X => decide (X ≤ 100)) (fun _ h => h) rfl (by simp [kpS]) (by simp [kpS]), i + 1, by omega, rfl⟩
 ·replace h := of_decide_eq_false h
  have e : i = n := by omega
  subst e
  refine ev ?_
  exact b4u (fun _ h => h) (d7 (t := 4) (by decide) rfl) rfl
end Go.Ab
namespace Go.Ab
set_option linter.unusedSimpArgs false
set_option linter.unusedVariables false
open Nat renaming reduceEqDiff → n1_, reduceAdd → n2_, reduceMul → n3_, reduceLT → n4_, reduceLeDiff → n5_
open Int renaming reduceToNat → i1_, reduceAdd → i2_, reduceSub → i3_, reduceMul → i4_, reduceNeg → i5_, reduceLT → i6_, reduceLE → i7_
open Go Go.Proofs
def x6 : CA := (.seq (.seq (.reg [i_M 0 22 4, i_P 1 23 3 0, i_P 2 24 23 0, i_L 3 25 24 1, i_N 4 26 .lss 22 25] [1, 2, 3, 4, 26]) (.cond (.t 26) .skip (.exit 0))) (.seq (.block 1 (.reg [i_P 0 29 3 3, i_L 1 30 29 1, i_P 2 31 3 4, i_L 3 32 31 1, i_M 4 33 4, i_I 5 34 32 33 1, i_L 6 35 34 1, i_X 7 36 (.h (.fbin .sub (.t 35) (.k (.d (.flt 4625196817309499392))))), i_P 8 37 3 4, i_L 9 38 37 1, i_M 10 39 4, i_I 11 40 38 39 1, i_L 12 41 40 1, i_X 13 42 (.h (.fbin .add (.t 41) (.k (.d (.flt 4625196817309499392))))), i_X 14 43 (.h (.build [fl 0, fl 0] [(0, (1, (.t 36))), (1, (1, (.t 42)))])), i_X 15 44 (.bslice [fl 0, fl 0] 1 2 [(0, (2, (.t 43)))] 83), i_X 16 45 (.app (.t 30) (.t 44) 2 16), i_P 17 46 3 3, i_S 18 46 45 1] [1, 2, 3, 4])) (.reg [i_M 0 27 4, i_B 1 28 .add 27 1, i_M 2 4 28] [1, 2, 3, 4])))
def x5 : CA := (.seq (.seq (.reg [i_M 0 92 5, i_P 1 93 1 7, i_L 2 94 93 1, i_X 3 95 (.h (.len (.t 94))), i_N 4 96 .lss 92 95, i_M 5 97 96, g_T 6 98 97 (.h (.mov (.t 5))), g_T 7 99 97 (.h (.ibin .lss (.t 98) (kI 8))), i_X 8 100 (.h (.pick (.t 97) (.t 99) (.k (.d (.bool false)))))] [1, 2, 3, 5, 100]) (.cond (.t 100) .skip (.exit 2))) (.seq (.block 3 (.reg [i_P 0 103 3 12, i_L 1 104 103 1, i_P 2 105 1 7, i_L 3 106 105 1, i_M 4 107 5, i_I 5 108 106 107 1, i_L 6 109 108 1, i_P 7 110 3 5, i_L 8 111 110 1, i_B 9 112 .add 111 1, i_X 10 113 (.callS 10 (kF 38) [(.t 109), (.t 112)]), i_X 11 114 (.bslice [fI 0] 1 1 [(0, (1, (.t 113)))] 3), i_X 12 115 (.app (.t 104) (.t 114) 1 8), i_P 13 116 3 12, i_S 14 116 115 1] [1, 2, 3, 5])) (.reg [i_M 0 101 5, i_B 1 102 .add 101 1, i_M 2 5 102] [1, 2, 3, 5])))
def x4 : CA := (.seq (.seq (.reg [i_M 0 117 6, i_P 1 118 3 12, i_L 2 119 118 1, i_X 3 120 (.h (.len (.t 119))), i_N 4 121 .lss 117 120] [2, 3, 6, 121]) (.cond (.t 121) .skip (.exit 4))) (.seq (.block 5 (.reg [i_P 0 124 3 12, i_L 1 125 124 1, i_M 2 126 6, i_P 3 127 3 12, i_L 4 128 127 1, i_M 5 129 6, i_I 6 130 128 129 1, i_L 7 131 130 1, i_P 8 132 3 12, i_L 9 133 132 1, i_M 10 134 6, i_B 11 135 .sub 134 1, i_I 12 136 133 135 1, i_L 13 137 136 1, i_X 14 138 (.h (.mm true (.t 131) (.t 137))), i_I 15 139 125 126 1, i_S 16 139 138 1] [2, 3, 6])) (.reg [i_M 0 122 6, i_B 1 123 .add 122 1, i_M 2 6 123] [2, 3, 6])))
def a0R : CA := (.seq (.reg [i_X 0 1 (.box (.t 0) 9 24), i_X 1 2 (.alloc [fI 0, .nil, .nil, .nil, .nil, fI 0, fI 0, fI 0, fl 0, fl 0, fl 0, fI 0, .nil] 33)] [1, 2]) (.seq (.reg [i_P 0 7 1 0, i_L 1 8 7 1, i_P 2 9 1 5, i_L 3 10 9 1, i_P 4 11 1 8, i_L 5 12 11 1, i_X 6 13 (.callA (kF 36) [(.t 8), (.t 10), (.t 12)]), i_X 7 14 (.h (.build [fI 0, .nil, .nil, .nil, .nil, fI 0, fI 0, fI 0, fl 0, fl 0, fl 0, fI 0, .nil] [(0, (3, (.t 13)))])), i_X 8 3 (.alloc [fI 0, .nil, .nil, .nil, .nil, fI 0, fI 0, fI 0, fl 0, fl 0, fl 0, fI 0, .nil] 33), i_S 9 3 14 13] [1, 2, 3]) (.seq (.reg [i_P 0 15 3 0, i_P 1 16 15 0, i_L 2 17 16 1, i_P 3 18 1 6, i_L 4 19 18 1, i_X 5 20 (.callA (kF 37) [(.t 17), (.t 19)]), i_P 6 21 3 4, i_S 7 21 20 1] [1, 2, 3]) (.seq (.seq (.reg [i_K 0 4 0] [1, 2, 3, 4]) (.block 0 (.loop x6))) (.seq (.reg [i_P 0 47 1 1, i_L 1 48 47 1, i_X 2 49 (.callA (kF 38) [(.t 48), (kI 13)]), i_X 3 50 (.h (.ibin .add (kI 16) (.t 49))), i_X 4 51 (.h (.icv .u64 (.t 50))), i_X 5 52 (.h (.ibin .shl (kI 1) (.t 51))), i_P 6 53 3 6, i_S 7 53 52 1] [1, 2, 3]) (.seq (.reg [i_P 0 54 3 6, i_L 1 55 54 1, i_P 2 56 1 2, i_L 3 57 56 1, i_X 4 58 (.callS 4 (kF 38) [(.t 57), (kI 10)]), i_X 5 59 (.h (.icv .u64 (.t 58))), i_N 6 60 .shr 55 59, i_P 7 61 3 7, i_S 8 61 60 1] [1, 2, 3]) (.seq (.reg [i_P 0 62 1 4, i_L 1 63 62 1, i_X 2 64 (.callA (kF 38) [(.t 63), (kI 536870912)]), i_X 3 65 (.h (.ibin .add (kI 1) (.t 64))), i_P 4 66 3 5, i_S 5 66 65 1] [1, 2, 3]) (.seq (.seq (.reg [i_P 0 67 1 4, i_L 1 68 67 1, i_X 2 69 (.callA (kF 38) [(.t 68), (kI 4)]), i_B 3 70 .eql 69 0] [1, 2, 3, 70]) (.cond (.t 70) (.reg [i_P 0 71 3 6, i_L 1 72 71 1, i_X 2 73 (.h (.ibin .mul (kI 4) (.t 72))), i_P 3 74 3 5, i_S 4 74 73 1] [1, 2, 3]) .skip)) (.seq (.reg [i_P 0 75 1 3, i_L 1 76 75 1, i_X 2 77 (.callA (kF 38) [(.t 76), (kI 24)]), i_X 3 78 (.h (.icv .u64 (.t 77))), i_X 4 79 (.h (.ibin .shl (kI 1) (.t 78))), i_X 5 80 (.h (.i2f (.t 79))), i_X 6 81 (.h (.fbin .div (.k (.d (.flt 4607182418800017408))) (.t 80))), i_P 7 82 3 8, i_S 8 82 81 1] [1, 2, 3]) (.seq (.reg [i_P 0 83 1 3, i_L 1 84 83 1, i_B 2 85 .quo 84 24, i_X 3 86 (.callA (kF 38) [(.t 85), (kI 3)]), i_X 4 87 (.h (.i2f (.t 86))), i_X 5 88 (.h (.fbin .div (.t 87) (.k (.d (.flt 4652218415073722368))))), i_P 6 89 3 9, i_S 7 89 88 1] [1, 2, 3]) (.seq (.reg [i_P 0 90 3 10, ⟨1, none, none, [], [], (.store (.t 90) (.k (.d (.flt 4616189618054758400))) 1)⟩] [1, 2, 3]) (.seq (.reg [i_P 0 91 3 11, ⟨1, none, none, [], [], (.store (.t 91) (kI 24) 1)⟩] [1, 2, 3]) (.seq (.seq (.reg [i_K 0 5 0] [1, 2, 3, 5]) (.block 2 (.loop x5))) (.seq (.seq (.reg [i_K 0 6 1] [2, 3, 6]) (.block 4 (.loop x4))) (.seq (.reg [i_A 0 140 3 13, i_S 1 2 140 13] [2]) .ret)))))))))))))))
theorem a15 : d6 Tryz.prog 17 = some ⟨141, [(2, (some (13, true)))], a0R.strip⟩ := by kernel_rfl
theorem b6H (m : Nat) (h : m < 62) : IntKind.i64.wrap (1 * 2 ^ min (IntKind.u64.wrap (m : Int)).toNat IntKind.i64.bits) = ((2 ^ m : Nat) : Int) := by
 rw [a3u (by omega) (by omega)]
 have e : min ((m : Int).toNat) IntKind.i64.bits = m := by
  have : IntKind.i64.bits = 64 := rfl
  rw [this]; omega
 rw [e, Int.one_mul]
 have h1 : (2 : Nat) ^ m ≤ 2 ^ 61 := c87 (by decide) (by omega)
 have h2 : (2 : Int) ^ m = ((2 ^ m : Nat) : Int) := by simp
 rw [h2]
 generalize (2 : Nat) ^ m = x at h1
 exact b9 (by omega) (by omega)
theorem c5k (a b : Nat) (hb : b ≤ a) (h : b < 62) : (((2 ^ a : Nat) : Int)).fdiv (2 ^ min (IntKind.u64.wrap (b : Int)).toNat IntKind.i64.bits) = ((2 ^ (a - b) : Nat) : Int) := by
 rw [a3u (by omega) (by omega)]
 have e : min ((b : Int).toNat) IntKind.i64.bits = b := by
  have : IntKind.i64.bits = 64 := rfl
  rw [this]; omega
 rw [e]
 have h3 : ((2 : Int) ^ b) = ((2 ^ b : Nat) : Int) := by push_cast; rfl
 rw [h3, Int.fdiv_eq_ediv_of_nonneg _ (Int.natCast_nonneg _)]
 have h4 : 2 ^ a = 2 ^ (a - b) * 2 ^ b := by rw [← Nat.pow_add]; congr 1; omega
 rw [h4]
 have h5 : 0 < 2 ^ b := Nat.pow_pos (by decide)
 rw [← Int.natCast_ediv, Nat.mul_div_cancel _ h5]
theorem a1y (L : Heap) (ps : List (Nat × Nat)) : KpA L (ivC ps) := by
 induction ps with
 | nil => exact a0B
 | cons p ps ih =>
  show KpA L (fl p.1 :: fl p.2 :: ivC ps)
  rw [F4, F4]
  exact ⟨Kp_d _, Kp_d _, ih⟩
def boxE (y : List Nat) (j : Nat) : Nat × Nat := (fop .sub (y.getD j 0) 4625196817309499392, fop .add (y.getD j 0) 4625196817309499392)
def boxL (y : List Nat) (i : Nat) : List (Nat × Nat) := (List.range i).map (boxE y)
theorem c1R (y : List Nat) (i : Nat) : ivC (boxL y i) ++ [fl (boxE y i).1, fl (boxE y i).2] = ivC (boxL y (i + 1)) := by simp [boxL, ivC, List.range_succ]
theorem a4Z (y : List Nat) (i : Nat) : (boxL y i).length = i := by simp [boxL]
abbrev mkC (t : Tp) (b : V) (y : List Nat) (fin first least : Int) (atol rtol cap : Nat) (most : Int) (o : V) : List V := [fI t.n, .d (opsD t.ops), .d (rowI t.out), b, .d (rowD y), fI fin, fI first, fI least, fl atol, fl rtol, fl cap, fI most, o]
abbrev mkZ : List V := [fI 0, .nil, .nil, .nil, .nil, fI 0, fI 0, fI 0, fl 0, fl 0, fl 0, fI 0, .nil]
abbrev mkS0 (i : Nat) : Sl := [(1, .ptr 0 0 0 9), (2, .ptr 1 0 0 13), (3, .ptr 10 0 0 13), (4, fI i)]
theorem c0L (sh : List V) (t : Tp) (y : List Nat) (hy : y.length = t.n) (hN : 0 < t.n ∧ t.n ≤ 3) (hsh : ∀ L, KpA L sh) (Q : Ex → T → Prop)
  (hQ : ∀ w, Q (.exit 0) ⟨mkS0 t.n ++ [w], [(27, [ivC (boxL y t.n)]), (10, [mkC t (.sl 27 0 0 t.n 2 (t.n * 2)) y 0 0 0 0 0 0 0 .nil]), (1, [mkZ]), (0, [sh])]⟩) :
  WA Tryz.prog (fun _ => False) 141 (.loop x6) Q ⟨mkS0 0, [(10, [mkC t .nil y 0 0 0 0 0 0 0 .nil]), (1, [mkZ]), (0, [sh])]⟩ := by
 refine f9 (n := t.n) (fun c s => ∃ i, c + i = t.n ∧ ((i = 0 ∧ s = ⟨mkS0 0, [(10, [mkC t .nil y 0 0 0 0 0 0 0 .nil]), (1, [mkZ]), (0, [sh])]⟩) ∨ (0 < i ∧ s = ⟨mkS0 i, [(27, [ivC (boxL y i)]), (10, [mkC t (.sl 27 0 0 i 2 (i * 2)) y 0 0 0 0 0 0 0 .nil]), (1, [mkZ]), (0, [sh])]⟩))) (Le.refl _) ⟨0, by omega, .inl ⟨rfl, rfl⟩⟩ ?_
 rintro c s ⟨i, hc, ⟨rfl, rfl⟩ | ⟨hi, rfl⟩⟩
 ·refine evx @x6.eq_1 ?_
  have h0 : decide ((0 : Int) < (t.n : Int)) = true := by simp; omega
  refine evx h0 ?_
  refine ⟨by omega, by omega, ?_⟩
  rw [show IntKind.i64.wrap 1 = ((0 + 1 : Nat) : Int) from by decide]
  exact ⟨c - 1, _, by omega, LeT.only (L' := [(27, [ivC (boxL y (0 + 1))]), (10, [mkC t (.sl 27 0 0 (0 + 1) 2 ((0 + 1) * 2)) y 0 0 0 0 0 0 0 .nil]), (1, [mkZ]), (0, [sh])]) (fun X => X != 26) (fun _ h => h) rfl (by simp (maxDischargeDepth := 6) [kpS, b4, b7, a1y, hsh]) (by simp (maxDischargeDepth := 6) [kpS, b4, b7, a1y, hsh]), 0 + 1, by omega, .inr ⟨by omega, rfl⟩⟩
 ·have hl : (ivC (boxL y i)).length = i * 2 := by rw [g4, a4Z]
  refine evx @x6.eq_1 ?_
  refine a9 (fun h => ?_) (fun h => ?_)
  ·replace h := of_decide_eq_true h
   refine ev ?_
   (repeat (with_reducible refine And.intro (by omega) ?_))
   have e := c1R y i
   unfold boxE at e
   simp only [] at e
   have e2 : (boxL y i).length * 2 = i * 2 ∧ (i + 1) * 16 ≤ 140737488355328 := by rw [a4Z]; exact ⟨rfl, by omega⟩
   refine ⟨e2, ?_⟩
   rw [b9 (by omega) (by omega), e, show i * 2 + 2 = (i + 1) * 2 by omega]
   exact ⟨c - 1, _, by omega, LeT.only (fun X => decide (X ≤ 27)) (fun _ h => h) rfl (by simp (maxDischargeDepth := 6) [kpS, b4, b7, a1y, hsh]) (by simp (maxDischargeDepth := 6) [kpS, b4, b7, a1y, hsh]), i + 1, by omega, .inr ⟨by omega, rfl⟩⟩
  ·replace h := of_decide_eq_false h
   have e : i = t.n := by omega
   subst e
   refine ev ?_
   exact hQ _
def outE (outs : List Int) (E : Int) (j : Nat) : Int := outs.getD j 0 % (E + 1)
def a2D (outs : List Int) (E : Int) (i : Nat) : List Int := (List.range i).map (outE outs E)
theorem b8n (outs : List Int) (E : Int) (i : Nat) : g8 (a2D outs E i) ++ [fI (outE outs E i)] = g8 (a2D outs E (i + 1)) := by simp [a2D, g8, List.range_succ]
theorem a4v (outs : List Int) (E : Int) (i : Nat) : (a2D outs E i).length = i := by simp [a2D]
abbrev mkS1 (i : Nat) : Sl := [(1, .ptr 0 0 0 9), (2, .ptr 1 0 0 13), (3, .ptr 10 0 0 13), (5, fI i)]
abbrev mkH (t : Tp) (box : List (Nat × Nat)) (y : List Nat) (E : Int) (c : List V) (sh : List V) : Heap := [(27, [ivC box]), (10, [[fI t.n, .d (opsD t.ops), .d (rowI t.out), .sl 27 0 0 t.n 2 (t.n * 2), .d (rowD y), fI E] ++ c]), (1, [mkZ]), (0, [sh])]
theorem c0K (n first least tol fin : Int) (ns ms outs : List Int) (dv : Bool) (t : Tp) (box : List (Nat × Nat)) (y : List Nat) (E : Int) (hE : 0 ≤ E ∧ E < 2 ^ 40) (F B : Int) (ra rb rc : Nat) (hmo : Int) (ho : outs.length ≤ 60) (Q : Ex → T → Prop)
  (hQ0 : outs.length = 0 → ∀ w, Q (.exit 2) ⟨mkS1 0 ++ [w], mkH t box y E [fI F, fI B, fl ra, fl rb, fl rc, fI hmo, .nil] (shC n first least tol fin ns ms outs dv)⟩)
  (hQ : 0 < outs.length → ∀ w, Q (.exit 2) ⟨mkS1 (min outs.length 8) ++ [w], (40, [g8 (a2D outs E (min outs.length 8))]) :: mkH t box y E [fI F, fI B, fl ra, fl rb, fl rc, fI hmo, .sl 40 0 0 (min outs.length 8) 1 (min outs.length 8)] (shC n first least tol fin ns ms outs dv)⟩) :
  WA Tryz.prog (fun _ => False) 141 (.loop x5) Q ⟨mkS1 0, mkH t box y E [fI F, fI B, fl ra, fl rb, fl rc, fI hmo, .nil] (shC n first least tol fin ns ms outs dv)⟩ := by
 refine f9 (n := min outs.length 8) (fun c s => ∃ i, c + i = min outs.length 8 ∧ ((i = 0 ∧ s = ⟨mkS1 0, mkH t box y E [fI F, fI B, fl ra, fl rb, fl rc, fI hmo, .nil] (shC n first least tol fin ns ms outs dv)⟩) ∨ (0 < i ∧ s = ⟨mkS1 i, (40, [g8 (a2D outs E i)]) :: mkH t box y E [fI F, fI B, fl ra, fl rb, fl rc, fI hmo, .sl 40 0 0 i 1 i] (shC n first least tol fin ns ms outs dv)⟩))) (Le.refl _) ⟨0, by omega, .inl ⟨rfl, rfl⟩⟩ ?_
 have wE : IntKind.i64.wrap (E + 1) = E + 1 := b9 (by omega) (by omega)
 rintro c s ⟨i, hc, ⟨rfl, rfl⟩ | ⟨hi, rfl⟩⟩
 ·refine evx @x5.eq_1 ?_
  by_cases h0 : 0 < outs.length
  ·have h0' : decide ((0 : Int) < (outs.length : Int)) = true := decide_eq_true (by omega)
   refine evx (And.intro h0' wE) ?_
   refine ⟨by omega, ?_⟩
   refine a8 (s6 (outs.getD 0 0) (E + 1) (by omega) (by omega)) rfl ?_
   refine ev ?_
   rw [show IntKind.i64.wrap 1 = ((0 + 1 : Nat) : Int) from by decide]
   exact ⟨c - 1, _, by omega, LeT.only (L' := (40, [g8 (a2D outs E (0 + 1))]) :: mkH t box y E [fI F, fI B, fl ra, fl rb, fl rc, fI hmo, .sl 40 0 0 (0 + 1) 1 (0 + 1)] (shC n first least tol fin ns ms outs dv)) (fun X => X != 39) (fun _ h => h) rfl (by simp (maxDischargeDepth := 6) [kpS, b4, b7, a1y]) (by simp (maxDischargeDepth := 6) [kpS, b4, b7, a1y]), 0 + 1, by omega, .inr ⟨by omega, rfl⟩⟩
  ·have h0' : decide ((0 : Int) < (outs.length : Int)) = false := decide_eq_false (by omega)
   refine evx h0' ?_
   exact hQ0 (by omega) _
 ·have hol := a4v outs E i
  refine evx @x5.eq_1 ?_
  by_cases h1 : i < outs.length
  ·have h1' : decide (i < outs.length) = true := decide_eq_true h1
   by_cases h2 : i < 8
   ·have h2' : decide ((i : Int) < 8) = true := by simp; omega
    refine evx (And.intro h1' (And.intro h2' wE)) ?_
    (repeat (with_reducible refine And.intro (by omega) ?_))
    refine a8 (s6 (outs.getD i 0) (E + 1) (by omega) (by omega)) rfl ?_
    refine ev ?_
    have e1 := b8n outs E i
    unfold outE at e1
    have e2 : (a2D outs E i).length = i ∧ (i + 1) * 8 ≤ 140737488355328 := ⟨hol, by omega⟩
    refine ⟨e2, ?_⟩
    rw [b9 (by omega) (by omega), e1]
    exact ⟨c - 1, _, by omega, LeT.only (fun X => decide (X ≤ 40)) (fun _ h => h) rfl (by simp (maxDischargeDepth := 6) [kpS, b4, b7, a1y]) (by simp (maxDischargeDepth := 6) [kpS, b4, b7, a1y]), i + 1, by omega, .inr ⟨by omega, rfl⟩⟩
   ·have h2' : decide ((i : Int) < 8) = false := by simp; omega
    have e : i = min outs.length 8 := by omega
    refine evx (And.intro h1' h2') ?_
    rw [e]
    exact hQ (by omega) _
  ·have h1' : decide (i < outs.length) = false := decide_eq_false h1
   have e : i = min outs.length 8 := by omega
   refine evx h1' ?_
   rw [e]
   exact hQ (by omega) _
theorem b0U {A : List Int} {i : Nat} (h : i < A.length) : (g8 A).getD i .any = fI (A.getD i 0) := by
 simp [g8, c8U, c8V h]
def maxL (A : List Int) : Nat → List Int
 | 0 => A
 | i + 1 => (maxL A i).set (i + 1) (if (maxL A i).getD (i + 1) 0 < (maxL A i).getD i 0 then (maxL A i).getD i 0 else (maxL A i).getD (i + 1) 0)
theorem a71 (A : List Int) (i : Nat) : (maxL A i).length = A.length := by
 induction i with
 | zero => rfl
 | succ i ih => simp [maxL, ih]
abbrev mkS2 (i : Nat) : Sl := [(2, .ptr 1 0 0 13), (3, .ptr 10 0 0 13), (6, fI i)]
theorem c0J (A : List Int) (m : Nat) (hA : A.length = m) (hm : 0 < m ∧ m ≤ 8) (t : Tp) (box : List (Nat × Nat)) (y : List Nat) (E : Int) (F B : Int) (ra rb rc : Nat) (hmo : Int) (sh : List V) (hsh : ∀ L, KpA L sh) (Q : Ex → T → Prop)
  (hQ : ∀ w, Q (.exit 4) ⟨mkS2 m ++ [w], (40, [g8 (maxL A (m - 1))]) :: mkH t box y E [fI F, fI B, fl ra, fl rb, fl rc, fI hmo, .sl 40 0 0 m 1 m] sh⟩) :
  WA Tryz.prog (fun _ => False) 141 (.loop x4) Q ⟨mkS2 1, (40, [g8 A]) :: mkH t box y E [fI F, fI B, fl ra, fl rb, fl rc, fI hmo, .sl 40 0 0 m 1 m] sh⟩ := by
 refine f9 (n := m - 1) (fun c s => ∃ i, c + i = m - 1 ∧ s = ⟨mkS2 (i + 1), (40, [g8 (maxL A i)]) :: mkH t box y E [fI F, fI B, fl ra, fl rb, fl rc, fI hmo, .sl 40 0 0 m 1 m] sh⟩) (Le.refl _) ⟨0, by omega, rfl⟩ ?_
 rintro c s ⟨i, hc, rfl⟩
 have hl := a71 A i
 rw [hA] at hl
 refine evx @x4.eq_1 ?_
 refine a9 (fun h => ?_) (fun h => ?_)
 ·replace h := of_decide_eq_true h
  have wi : IntKind.i64.wrap (((i + 1 : Nat) : Int) - 1) = (i : Int) := by rw [b9 (by omega) (by omega)]; omega
  have g1 : (g8 (maxL A i)).getD (i + 1) .any = fI ((maxL A i).getD (i + 1) 0) := b0U (by omega)
  have g2 : (g8 (maxL A i)).getD i .any = fI ((maxL A i).getD i 0) := b0U (by omega)
  refine evx (And.intro wi (And.intro g1 g2)) ?_
  refine ⟨h, ⟨hl, by omega⟩, by omega, ⟨hl, by omega⟩, h, ⟨hl, by omega⟩, ?_⟩
  rw [b9 (by omega) (by omega)]
  exact ⟨c - 1, _, by omega, Le.refl _, i + 1, by omega, rfl⟩
 ·replace h := of_decide_eq_false h
  have e : i = m - 1 := by omega
  refine ev ?_
  rw [show i + 1 = m by omega, show i = m - 1 by omega]
  exact hQ _
theorem c76 {L L' : Heap} {X n : Nat} {ps : List (Nat × Nat)} (h : L.get X 0 = some (ivC ps)) (hn : ps.length = n) (h2 : L'.get X 0 = none) : LeV L L' (fun X r => (X, r)) (.sl X 0 0 n 2 (n * 2)) (.d (ivD ps)) :=
 .d (b5u (fun Z q hZ e => by cases e; exact hZ h2) h hn rfl)
theorem c6u {L L' : Heap} {X n : Nat} {xs : List Int} (h : L.get X 0 = some (g8 xs)) (hn : xs.length = n) (h2 : L'.get X 0 = none) : LeV L L' (fun X r => (X, r)) (.sl X 0 0 n 1 n) (.d (rowI xs)) :=
 .d (a4n (fun Z q hZ e => by cases e; exact hZ h2) h hn rfl)
def mkE (fin : Int) (F : Nat) : Int := if fin % 4 = 0 then 4 * (F : Int) else 1 + fin % 536870912
def mkA (first : Int) : Nat := (16 + first % 13).toNat
def mkB (least : Int) : Nat := (least % 10).toNat
def mkAt (tol : Int) : Nat := fop .div 4607182418800017408 (FloatKind.nearest .f64 ((2 ^ (tol % 24).toNat : Nat) : Int))
def mkRt (tol : Int) : Nat := fop .div (FloatKind.nearest .f64 (IntKind.i64.wrap (tol.tdiv 24) % 3)) 4652218415073722368
def mkO (outs : List Int) (E : Int) : List Int := maxL (a2D outs E (min outs.length 8)) (min outs.length 8 - 1)
def mkPb (n first least tol fin : Int) (ns ms outs : List Int) (dv : Bool) : Pb :=
 ⟨mkT n ns dv, boxL (a8b (mkT n ns dv).n ms) (mkT n ns dv).n, a8b (mkT n ns dv).n ms, mkE fin (2 ^ mkA first), ((2 ^ mkA first : Nat) : Int), ((2 ^ (mkA first - mkB least) : Nat) : Int),
  mkAt tol, mkRt tol, 4616189618054758400, 24, mkO outs (mkE fin (2 ^ mkA first))⟩
theorem c5z (outs : List Int) (E : Int) (h : outs.length = 0) : mkO outs E = [] := by
 unfold mkO; rw [h]; rfl
theorem b5Q (outs : List Int) (E : Int) : (mkO outs E).length = min outs.length 8 := by
 unfold mkO; rw [a71, a4v]
theorem b4b (n first least tol fin : Int) (ns ms outs : List Int) (dv : Bool) (h1 : ns.length ≤ 60) (h2 : ms.length ≤ 60) (h3 : outs.length ≤ 60) : Con Tryz.prog 17 [.agg (shC n first least tol fin ns ms outs dv)] (pbV (mkPb n first least tol fin ns ms outs dv)) := by
 unfold mkPb
 refine a3 a15 rfl d5 ?_
 refine evx @a0R.eq_1 ?_
 refine a0 (b5W n ns dv (by omega)) rfl ?_
 have hT := b8v n ns dv
 generalize mkT n ns dv = t at hT
 refine ev ?_
 refine a0 (b2s t.n ms (by omega) (by omega)) rfl ?_
 have hy : (a8b t.n ms).length = t.n := g6 _ _
 generalize a8b t.n ms = y at hy
 refine ev ?_
 refine c0L _ t y hy (by omega) (fun L => ?_) _ fun w => ?_
 ·simp only [F4]; exact ⟨Kp_d _, Kp_d _, Kp_d _, Kp_d _, Kp_d _, Kp_d _, Kp_d _, Kp_d _, Kp_d _, a0B⟩
 have hbl : (boxL y t.n).length = t.n := a4Z _ _
 generalize boxL y t.n = box at hbl
 refine ev ?_
 refine a0 (s6 first 13 (by decide) (by decide)) rfl ?_
 have f1 := c8Z first (by decide : (13 : Int) ≠ 0)
 have f2 := c8Y first (by decide : (0 : Int) < 13)
 obtain ⟨a, ha⟩ : ∃ a : Nat, 16 + first % 13 = a := ⟨(16 + first % 13).toNat, by omega⟩
 have haA : mkA first = a := by unfold mkA; rw [ha]; rfl
 rw [haA]
 have wa : IntKind.i64.wrap (16 + first % 13) = (a : Int) := by rw [ha]; exact b9 (by omega) (by omega)
 have wu : 0 ≤ IntKind.u64.wrap (a : Int) := by rw [a3u (by omega) (by omega)]; omega
 simp -implicitDefEqProofs only [evI, hv, effC, reduceCtorEq, ↓reduceIte, n1_, n2_, n3_, n4_, n5_, i1_, i2_, i3_, i4_, i5_, i6_, i7_, wa, b6H a (by omega)]
 refine ⟨wu, ?_⟩
 refine a8 (s6 least 10 (by decide) (by decide)) rfl ?_
 have g1 := c8Z least (by decide : (10 : Int) ≠ 0)
 have g2 := c8Y least (by decide : (0 : Int) < 10)
 obtain ⟨b, hb⟩ : ∃ b : Nat, least % 10 = b := ⟨(least % 10).toNat, by omega⟩
 have hbB : mkB least = b := by unfold mkB; rw [hb]; rfl
 rw [hb, hbB]
 have wu2 : 0 ≤ IntKind.u64.wrap (b : Int) := by rw [a3u (by omega) (by omega)]; omega
 simp -implicitDefEqProofs only [evI, hv, effC, reduceCtorEq, ↓reduceIte, n1_, n2_, n3_, n4_, n5_, i1_, i2_, i3_, i4_, i5_, i6_, i7_, c5k a b (by omega) (by omega)]
 refine ⟨wu2, ?_⟩
 refine a0 (s6 fin 536870912 (by decide) (by decide)) rfl ?_
 have e1 := c8Z fin (by decide : (536870912 : Int) ≠ 0)
 have e2 := c8Y fin (by decide : (0 : Int) < 536870912)
 have we : IntKind.i64.wrap (1 + fin % 536870912) = 1 + fin % 536870912 := b9 (by omega) (by omega)
 refine evx we ?_
 refine a0 (s6 fin 4 (by decide) (by decide)) rfl ?_
 obtain ⟨F, hF⟩ : ∃ F : Nat, 2 ^ a = F := ⟨_, rfl⟩
 rw [hF]
 have w4 : IntKind.i64.wrap (4 * (F : Int)) = 4 * (F : Int) := by
  have : 2 ^ a ≤ 2 ^ 28 := c87 (by decide) (by omega)
  exact b9 (by omega) (by omega)
 obtain ⟨E, hE⟩ : ∃ E : Int, E = mkE fin F := ⟨_, rfl⟩
 have hFb : 0 < F ∧ F ≤ 2 ^ 28 := by rw [← hF]; exact ⟨Nat.pow_pos (by decide), c87 (by decide) (by omega)⟩
 have hEb : 0 ≤ E ∧ E < 2 ^ 40 := by rw [hE]; unfold mkE; split <;> omega
 rw [← hE]
 unfold mkE at hE
 by_cases c1 : fin % 4 = 0
 case' pos =>
  have c1' : (fin % 4 == 0) = true := by simpa using c1
  refine evx (And.intro c1' w4) ?_
  rw [if_pos c1] at hE
  rw [← hE]
 case' neg =>
  have c1' : (fin % 4 == 0) = false := by simpa using c1
  refine evx c1' ?_
  rw [if_neg c1] at hE
  rw [← hE]
 all_goals
  refine a0 (s6 tol 24 (by decide) (by decide)) rfl ?_
  have t1 := c8Z tol (by decide : (24 : Int) ≠ 0)
  have t2 := c8Y tol (by decide : (0 : Int) < 24)
  obtain ⟨k, hk⟩ : ∃ k : Nat, tol % 24 = k := ⟨(tol % 24).toNat, by omega⟩
  have hkA : mkAt tol = fop .div 4607182418800017408 (FloatKind.nearest .f64 ((2 ^ k : Nat) : Int)) := by unfold mkAt; rw [hk]; rfl
  rw [hk, hkA]
  have wu3 : 0 ≤ IntKind.u64.wrap (k : Int) := by rw [a3u (by omega) (by omega)]; omega
  simp -implicitDefEqProofs only [evI, hv, effC, reduceCtorEq, ↓reduceIte, n1_, n2_, n3_, n4_, n5_, i1_, i2_, i3_, i4_, i5_, i6_, i7_, b6H k (by omega)]
  refine ⟨wu3, by decide, ?_⟩
  refine a0 (s6 (IntKind.i64.wrap (tol.tdiv 24)) 3 (by decide) (by decide)) rfl ?_
  refine ev ?_
  refine c0K n first least tol fin ns ms outs dv t box y E hEb F ((2 ^ (a - b) : Nat) : Int) _ _ _ 24 h3 _ (fun h w => ?_) (fun h w => ?_)
  ·refine ev ?_
   refine m7 (n := 0) (fun c s => s = ⟨_, _⟩) rfl ?_
   rintro c s rfl
   refine evx @x4.eq_1 ?_
   rw [c5z _ _ h]
   exact f7 (.agg [fI t.n, .d (opsD t.ops), .d (rowI t.out), .sl 27 0 0 t.n 2 (t.n * 2), .d (rowD y), fI E, fI F, fI ((2 ^ (a - b) : Nat) : Int), fl _, fl _, fl _, fI 24, .nil]) (fun _ h => h) (f5 (by decide) rfl rfl rfl (by simp) rfl)
    (y3 _ _ ⟨Fz_d _, Fz_d _, Fz_d _, c76 rfl hbl (d9 _ _), Fz_d _, Fz_d _, Fz_d _, Fz_d _, Fz_d _, Fz_d _, Fz_d _, Fz_d _, .d (.nil _), trivial⟩)
  ·refine ev ?_
   refine c0J _ _ (a4v _ _ _) (by omega) t box y E F ((2 ^ (a - b) : Nat) : Int) _ _ _ 24 _ ?_ _ fun w => ?_
   ·intro L; simp only [F4]; exact ⟨Kp_d _, Kp_d _, Kp_d _, Kp_d _, Kp_d _, Kp_d _, Kp_d _, Kp_d _, Kp_d _, a0B⟩
   refine ev ?_
   exact f7 (.agg [fI t.n, .d (opsD t.ops), .d (rowI t.out), .sl 27 0 0 t.n 2 (t.n * 2), .d (rowD y), fI E, fI F, fI ((2 ^ (a - b) : Nat) : Int), fl _, fl _, fl _, fI 24, .sl 40 0 0 (min outs.length 8) 1 (min outs.length 8)]) (fun _ h => h) (f5 (by decide) rfl rfl rfl (by simp) rfl)
    (y3 _ _ ⟨Fz_d _, Fz_d _, Fz_d _, c76 rfl hbl (d9 _ _), Fz_d _, Fz_d _, Fz_d _, Fz_d _, Fz_d _, Fz_d _, Fz_d _, Fz_d _, c6u rfl (b5Q _ _) (d9 _ _), trivial⟩)
end Go.Ab
namespace Go.Ab
set_option linter.unusedSimpArgs false
set_option linter.unusedVariables false
open Go Go.Proofs
theorem b0Q {Z : List (List Nat)} {m n : Nat} (h : Rk m n Z) (hm : 0 < m) (hc : Cw Z) (k : Int) : (E1 Z k m n).getD 0 [] = Z.getD 0 [] := by
 have hs := E0 h k m n
 have l1 := hs.2 0 hm
 have l2 := h.2 0 hm
 refine List.ext_getElem (by omega) fun i h1 h2 => ?_
 have e := c0H (fun j _ x => scl x (j * k)) h m (c85 _) 0 i
 rw [if_pos ⟨hm, by omega⟩] at e
 have e2 : at2 (E1 Z k m n) 0 i = at2 Z 0 i := by
  show at2 (mapJ _ Z n m) 0 i = _
  rw [e]
  show scl _ ((0 : Nat) * k) = _
  rw [show (((0 : Nat) : Int) * k) = 0 by simp]
  exact b6J (hc 0 i)
 unfold at2 at e2
 rw [c8U (i := i), c8U (i := i), c8V h1, c8V h2] at e2
 exact e2
theorem c0B (l d : List Nat) (q : Nat) : (b8r l d q).length = d.length := g6 _ _
theorem c7Y {Z : List (List Nat)} {m n : Nat} (h : Rk m n Z) (x : List Nat) (hx : x.length = n) : Rk (m + 1) n (Z ++ [x]) := by
 refine ⟨by simp [h.1], fun i hi => ?_⟩
 by_cases hi2 : i < m
 ·rw [c8U, c8W (by rw [h.1]; exact hi2), ← c8U]
  exact h.2 i hi2
 ·obtain rfl : i = m := by omega
  rw [c8U, c8X (by rw [h.1]; exact c85 _), h.1, Nat.sub_self]
  exact hx
theorem c8b {Z : List (List Nat)} (h : Cw Z) (x : List Nat) (hx : ∀ i, cw (x.getD i 0)) : Cw (Z ++ [x]) := fun r i => by
 unfold at2
 by_cases hr : r < Z.length
 ·rw [c8U (l := Z ++ [x]), c8W hr, ← c8U]
  exact h r i
 ·rw [c8U (l := Z ++ [x]), c8X (by omega)]
  by_cases hr2 : r - Z.length = 0
  ·rw [hr2]; exact hx i
  ·rw [show ([x] : List (List Nat))[r - Z.length]? = none from c80 (by simp; omega)]
   exact a0v
theorem b5j (f : Nat → Nat) (n : Nat) (h : ∀ i, cw (f i)) (i : Nat) : cw ((tabR f n).getD i 0) := by
 by_cases hi : i < n
 ·rw [a8c _ _ _ hi]; exact h i
 ·rw [c8U, c80 (by rw [g6]; omega)]
  exact a0v
theorem b3y (t : Tp) (y : List Nat) (h : Nat) (hy : y.length = t.n) : Rk 2 t.n (a08 t y h) := by
 refine ⟨rfl, fun i hi => ?_⟩
 rcases i with _ | _ | i
 ·exact hy
 ·exact g6 _ _
 ·omega
theorem b3z (t : Tp) (y : List Nat) (h : Nat) (hy : ∀ i, cw (y.getD i 0)) : Cw (a08 t y h) := fun r i => by
 rcases r with _ | _ | r
 ·exact hy i
 ·exact b5j _ _ (fun i => U0 _ _ _) i
 ·exact a0v
structure Pk (p : Pb) : Prop where
 ok : Pok p
 fst : ∃ a, a ≤ 28 ∧ p.first = (2 ^ a : Nat)
 lst : ∃ b, b ≤ 28 ∧ p.least = (2 ^ b : Nat)
 le : p.least ≤ p.first
 fin : 0 ≤ p.fin ∧ p.fin ≤ 2147483648
 yl : p.y.length = p.t.n
 yc : ∀ i, cw (p.y.getD i 0)
structure Inv (p : Pb) (k : Nat) (s : Sta) : Prop where
 ok : s.ok p.t
 pos : s.n.pos ≤ k * 4294967296
 good : s.good ≤ k
 fails : s.fails ≤ 2
 slow : s.slow ≤ 1
 lo : p.least ≤ s.n.step
 hi : s.n.step ≤ 2 * p.fin ∨ s.n.step ≤ 2 * p.first
def a6A (p : Pb) : Sta := ⟨⟨0, p.first, 1, 0, a08 p.t p.y (hW p.first.toNat)⟩, 0, 0, 0⟩
theorem b4J {p : Pb} (h : Pk p) : Inv p 0 (a6A p) := by
 obtain ⟨a, ha, hfa⟩ := h.fst
 have hl := h.ok.least
 have hle := h.le
 refine ⟨⟨⟨.inl ⟨rfl, Int.le_refl _, by show (1 : Int) ≤ 5; decide⟩, ⟨a, by omega, hfa⟩, b3y _ _ _ h.yl, b3z _ _ _ h.yc, ⟨Int.le_refl _, by show (0 : Int) < _; decide⟩⟩, ⟨Int.le_refl _, by show (0 : Int) < _; decide⟩, ⟨Int.le_refl _, by show (0 : Int) < _; decide⟩, ⟨Int.le_refl _, by show (0 : Int) < _; decide⟩⟩, by show (0 : Int) ≤ _; decide, by show (0 : Int) ≤ _; decide, by show (0 : Int) ≤ _; decide, by show (0 : Int) ≤ _; decide, hle, .inr ?_⟩
 show p.first ≤ 2 * p.first
 omega
theorem b6R {a b : Nat} (h : 2 ^ a < 2 ^ b) : a + 1 ≤ b := by
 rcases Nat.lt_or_ge a b with h1 | h1
 ·exact h1
 ·exact absurd (c87 (by decide : 0 < 2) h1) (by omega)
theorem b7d {p : Pb} {n : Nd} (hp : Pk p) (hm : n.method = 0 ∨ n.method = 1) (hst : ∃ j : Nat, j < 60 ∧ n.step = (2 ^ j : Nat)) (hr : (n.z.getD 0 []).length = p.t.n) (hc : ∀ i, cw ((n.z.getD 0 []).getD i 0)) (hpos : 0 ≤ n.pos ∧ n.pos < 2305843009213693952) : Nok p.t (a4M p n) := by
 refine ⟨?_, hst, b3y _ _ _ hr, b3z _ _ _ hc, hpos⟩
 show (n.method = 0 ∧ (1 : Int) ≤ 1 ∧ (1 : Int) ≤ 5) ∨ (n.method = 1 ∧ (1 : Int) ≤ 1 ∧ (1 : Int) ≤ 4)
 omega
theorem c2F {p : Pb} {k : Nat} {s : Sta} (hp : Pk p) (h : Inv p k s) (hk : k < 100000) (z : List (List Nat)) (l d : List Nat) (err : Nat) (hz : Rk (s.n.order.toNat + 1) p.t.n z) (hzc : Cw z) (hd : d.length = p.t.n) : Inv p (k + 1) (a3v p s z l d err).s := by
 obtain ⟨⟨⟨hm, ⟨j, hj, hst⟩, hr, hc, hpos⟩, hg, hf, hsl⟩, hps, hgd, hfl, hsw, hlo, hhi⟩ := h
 obtain ⟨a, ha, hfa⟩ := hp.fst
 have hfin := hp.fin
 have pa : 2 ^ a ≤ 2 ^ 28 := c87 (by decide) ha
 have hl1 := hp.ok.least
 obtain ⟨⟨pos, st, o, m, z0⟩, g, f, sl⟩ := s
 simp only at *
 have hst2 : st ≤ 4294967296 := by omega
 have hr' := a2A hz l d (o.toNat + 1) p.t.n
 have hc' := a77 hzc l d (o.toNat + 1) p.t.n
 have hpos' : 0 ≤ pos + st ∧ pos + st < 2305843009213693952 := by omega
 have hps' : pos + st ≤ ((k + 1 : Nat) : Int) * 4294967296 := by omega
 unfold a3v
 simp only
 split
 ·exact ⟨⟨⟨hm, ⟨j, hj, hst⟩, hr', hc', hpos'⟩, by simp only; omega, by simp only; omega, by simp only; omega⟩, hps', by simp only; omega, by simp only; omega, by simp only; omega, hlo, hhi⟩
 ·split
  ·rename_i h2
   have hj2 : j + 1 < 60 := by
    have : 2 ^ j < 2 ^ 40 := by omega
    have := b6R this
    omega
   refine ⟨⟨⟨hm, ⟨j + 1, hj2, ?_⟩, E0 hr' 1 _ _, b3F hc' 1 _ _, hpos'⟩, by simp only; omega, by simp only; omega, by simp only; omega⟩, hps', by simp only; omega, by simp only; omega, by simp only; omega, by simp only; omega, .inl (by simp only; omega)⟩
   show 2 * st = _
   rw [hst, Nat.pow_succ]; omega
  ·split
   ·rename_i h3
    have hmo : a8D m = if m = 0 then 5 else 4 := rfl
    have h4 := h3.2
    rw [hmo] at h4
    have ho1 : (o + 1).toNat + 1 = o.toNat + 1 + 1 := by omega
    refine ⟨⟨⟨?_, ⟨j, hj, hst⟩, ?_, c8b hc' _ (b5j _ _ fun i => U0 _ _ _), hpos'⟩, by simp only; omega, by simp only; omega, by simp only; omega⟩, hps', by simp only; omega, by simp only; omega, by simp only; omega, hlo, hhi⟩
    ·simp only
     split at h4 <;> omega
    ·simp only
     rw [ho1]
     exact c7Y hr' _ (by rw [c0B]; exact hd)
   ·exact ⟨⟨⟨hm, ⟨j, hj, hst⟩, hr', hc', hpos'⟩, by simp only; omega, by simp only; omega, by simp only; omega⟩, hps', by simp only; omega, by simp only; omega, by simp only; omega, hlo, hhi⟩
theorem c3W {p : Pb} {k : Nat} {s : Sta} (hp : Pk p) (h : Inv p k s) (hk : k < 100000) (e : Int) (err : Nat) : Inv p (k + 1) (a5K p s e err).s := by
 obtain ⟨⟨⟨hm, ⟨j, hj, hst⟩, hr, hc, hpos⟩, hg, hf, hsl⟩, hps, hgd, hfl, hsw, hlo, hhi⟩ := h
 obtain ⟨b, hb, hlb⟩ := hp.lst
 have hl1 := hp.ok.least
 obtain ⟨⟨pos, st, o, m, z0⟩, g, f, sl⟩ := s
 simp only at *
 have hps' : pos ≤ ((k + 1 : Nat) : Int) * 4294967296 := by omega
 unfold a5K
 simp only
 split
 ·exact ⟨⟨⟨hm, ⟨j, hj, hst⟩, hr, hc, hpos⟩, hg, hf, hsl⟩, hps', by simp only; omega, hfl, hsw, hlo, hhi⟩
 ·rename_i h1
  have hbj : 2 ^ b < 2 ^ j := by omega
  have hbj2 := b6R hbj
  obtain ⟨i, rfl⟩ : ∃ i, j = i + 1 := ⟨j - 1, by omega⟩
  have hst' : st / 2 = ((2 ^ i : Nat) : Int) := by rw [hst, Nat.pow_succ]; omega
  have hlo' : p.least ≤ st / 2 := by
   rw [hst', hlb]
   have : 2 ^ b ≤ 2 ^ i := c87 (by decide) (by omega)
   omega
  have hhi' : st / 2 ≤ 2 * p.fin ∨ st / 2 ≤ 2 * p.first := by
   have : 0 ≤ st := by omega
   omega
  have hr' := E0 hr (-1) (o.toNat + 1) p.t.n
  have hc' := b3F hc (-1) (o.toNat + 1) p.t.n
  have hsl' : 0 ≤ (if e = 6 ∧ m = 0 then sl + 1 else sl) ∧ (if e = 6 ∧ m = 0 then sl + 1 else sl) ≤ 2 := by split <;> omega
  generalize (if e = 6 ∧ m = 0 then sl + 1 else sl) = sl' at hsl'
  split
  ·exact ⟨⟨b7d hp (.inr rfl) ⟨i, by omega, hst'⟩ (hr'.2 0 (by omega)) (fun c => hc' 0 c) hpos, by simp only; omega, by simp only; omega, by simp only; omega⟩, hps', by simp only; omega, by simp only; omega, by simp only; omega, hlo', hhi'⟩
  ·split
   ·exact ⟨⟨⟨hm, ⟨i, by omega, hst'⟩, hr', hc', hpos⟩, by simp only; omega, by simp only; omega, by simp only; omega⟩, hps', by simp only; omega, by simp only; omega, by simp only; omega, hlo', hhi'⟩
   ·exact ⟨⟨b7d hp (by simp only; omega) ⟨i, by omega, hst'⟩ (hr'.2 0 (by omega)) (fun c => hc' 0 c) hpos, by simp only; omega, by simp only; omega, by simp only; omega⟩, hps', by simp only; omega, by simp only; omega, by simp only; omega, hlo', hhi'⟩
theorem b0J {p : Pb} {k : Nat} {s : Sta} (hp : Pk p) (h : Inv p k s) :
  (∃ d kk err, solG p.t (a0Y s.n.z p.t.n s.n.order.toNat) (ofL s.n.method s.n.order.toNat) (hW s.n.step.toNat) (wtP (s.n.z.getD 0 []) p.atol p.rtol) s.n.method = (d, kk, 0) ∧ d.length = p.t.n ∧ fcmp .le err 4607182418800017408 = true ∧ tryP p s = a3v p s (a0Y s.n.z p.t.n s.n.order.toNat) (ofL s.n.method s.n.order.toNat) d err) ∨ ∃ e err, tryP p s = a5K p s e err := by
 unfold tryP
 rcases a8j p.t (a0Y s.n.z p.t.n s.n.order.toNat) (ofL s.n.method s.n.order.toNat) (hW s.n.step.toNat) (wtP (s.n.z.getD 0 []) p.atol p.rtol) s.n.method with ⟨g, kk, hg, he⟩ | ⟨kk, e, hne, he⟩
 ·simp only [he, ne_eq, not_true_eq_false, if_false]
  split
  ·rename_i h1
   exact .inl ⟨g, kk, _, rfl, hg, h1, rfl⟩
  ·exact .inr ⟨_, _, rfl⟩
 ·simp only [he, ne_eq, hne, not_false_eq_true, if_true]
  exact .inr ⟨_, _, rfl⟩
theorem b1L {p : Pb} {k : Nat} {s : Sta} (hp : Pk p) (h : Inv p k s) (hk : k < 100000) : Inv p (k + 1) (tryP p s).s := by
 rcases b0J hp h with ⟨d, kk, err, _, hd, _, e⟩ | ⟨e', err, e⟩
 ·rw [e]
  exact c2F hp h hk _ _ _ _ (a7Z h.ok.n.rk _) (a70 h.ok.n.cw _ _) hd
 ·rw [e]
  exact c3W hp h hk _ _
theorem c0D (n first least tol fin : Int) (ns ms outs : List Int) (dv : Bool) : Pk (mkPb n first least tol fin ns ms outs dv) := by
 have m1 := c8Z n (by decide : (3 : Int) ≠ 0)
 have f1 := c8Z first (by decide : (13 : Int) ≠ 0)
 have f2 := c8Y first (by decide : (0 : Int) < 13)
 have g1 := c8Z least (by decide : (10 : Int) ≠ 0)
 have g2 := c8Y least (by decide : (0 : Int) < 10)
 have e1 := c8Z fin (by decide : (536870912 : Int) ≠ 0)
 have e2 := c8Y fin (by decide : (0 : Int) < 536870912)
 have ha : mkA first ≤ 28 := by unfold mkA; omega
 have hl : (2 : Nat) ^ (mkA first - mkB least) ≤ 2 ^ mkA first := c87 (by decide) (Nat.sub_le _ _)
 have hpos : 0 < (2 : Nat) ^ (mkA first - mkB least) := Nat.pow_pos (by decide)
 have hp28 : (2 : Nat) ^ mkA first ≤ 2 ^ 28 := c87 (by decide) ha
 refine ⟨⟨c4B n ns dv, ?_, ?_⟩, ⟨mkA first, ha, rfl⟩, ⟨mkA first - mkB least, by omega, rfl⟩, ?_, ?_, g6 _ _, b5j _ _ fun i => U0 _ _ _⟩
 ·show 0 < (mkT n ns dv).n
  rw [b8v]; omega
 ·show (1 : Int) ≤ ((2 ^ (mkA first - mkB least) : Nat) : Int)
  omega
 ·show ((2 ^ (mkA first - mkB least) : Nat) : Int) ≤ ((2 ^ mkA first : Nat) : Int)
  omega
 ·show 0 ≤ mkE fin (2 ^ mkA first) ∧ mkE fin (2 ^ mkA first) ≤ 2147483648
  generalize 2 ^ mkA first = F at hp28
  unfold mkE
  split <;> omega
structure SpecT (p : Pb) (x : Sta) (r : Trd) : Prop where
 err : fcmp .le r.err 4607182418800017408 = true
 e : r.e = 0
 npos : r.n.pos = x.n.pos + x.n.step
 nord : r.n.order = x.n.order
 nmet : r.n.method = x.n.method
 nstep : r.n.step = x.n.step
 pos : r.s.n.pos = x.n.pos + x.n.step
 fails : r.s.fails = 0
 step : (r.s.n.step = x.n.step ∧ (r.s.n.order = x.n.order ∨ r.s.n.order = x.n.order + 1)) ∨ (r.s.n.step = 2 * x.n.step ∧ r.s.n.order = x.n.order)
 met : r.s.n.method = x.n.method
 len : r.n.z.length = x.n.order.toNat + 1
 row : r.s.n.z.getD 0 [] = r.n.z.getD 0 []
 sol : ∃ d k, d.length = p.t.n ∧ solG p.t (a0Y x.n.z p.t.n x.n.order.toNat) (ofL x.n.method x.n.order.toNat) (hW x.n.step.toNat) (wtP (x.n.z.getD 0 []) p.atol p.rtol) x.n.method = (d, k, 0) ∧ r.n.z = a3R (a0Y x.n.z p.t.n x.n.order.toNat) (ofL x.n.method x.n.order.toNat) d (x.n.order.toNat + 1) p.t.n
structure SpecF (p : Pb) (x : Sta) (r : Trd) : Prop where
 nz : r.n.z = []
 pos : r.s.n.pos = x.n.pos
 half : r.e = 0 → 2 * r.s.n.step = x.n.step
 stay : r.e ≠ 0 → r.s = x ∧ x.n.step ≤ p.least ∧ (r.e = 5 ∨ r.e = 4 ∨ r.e = 2)
 anew : r.e = 0 → r.s.fails = 0 → r.s.n.order = 1
 ord : r.s.n.order = x.n.order ∨ r.s.n.order = 1
 met : x.n.method ≤ r.s.n.method
 row : r.s.n.z.getD 0 [] = x.n.z.getD 0 []
theorem c2E {Z : List (List Nat)} {m n : Nat} (h : Rk m n Z) (hm : 0 < m) (x : List Nat) : (Z ++ [x]).getD 0 [] = Z.getD 0 [] := by
 rw [c8U, c8W (by rw [h.1]; exact hm), ← c8U]
theorem b6C {p : Pb} {k : Nat} {x : Sta} (hp : Pk p) (h : Inv p k x) : ((tryP p x).taken = true ∧ SpecT p x (tryP p x)) ∨ ((tryP p x).taken = false ∧ SpecF p x (tryP p x)) := by
 rcases b0J hp h with ⟨d, kk, err, hsg, hd, hle, e⟩ | ⟨e', err, e⟩
 ·left
  rw [e]
  have hz := a2A (a7Z h.ok.n.rk x.n.order.toNat) (ofL x.n.method x.n.order.toNat) d (x.n.order.toNat + 1) p.t.n
  have hc := a77 (a70 h.ok.n.cw p.t.n x.n.order.toNat) (ofL x.n.method x.n.order.toNat) d (x.n.order.toNat + 1) p.t.n
  unfold a3v
  simp only
  split
  ·exact ⟨trivial, hle, rfl, rfl, rfl, rfl, rfl, rfl, rfl, .inl ⟨rfl, .inl rfl⟩, rfl, hz.1, rfl, d, kk, hd, hsg, rfl⟩
  ·split
   ·exact ⟨trivial, hle, rfl, rfl, rfl, rfl, rfl, rfl, rfl, .inr ⟨rfl, rfl⟩, rfl, hz.1, b0Q hz (by omega) hc _, d, kk, hd, hsg, rfl⟩
   ·split
    ·exact ⟨trivial, hle, rfl, rfl, rfl, rfl, rfl, rfl, rfl, .inl ⟨rfl, .inr rfl⟩, rfl, hz.1, c2E hz (by omega) _, d, kk, hd, hsg, rfl⟩
    ·exact ⟨trivial, hle, rfl, rfl, rfl, rfl, rfl, rfl, rfl, .inl ⟨rfl, .inl rfl⟩, rfl, hz.1, rfl, d, kk, hd, hsg, rfl⟩
 ·right
  rw [e]
  obtain ⟨⟨hm, ⟨j, hj, hst⟩, hr, hc, hpos⟩, hg, hf, hsl⟩ := h.ok
  obtain ⟨b, hb, hlb⟩ := hp.lst
  have hl1 := hp.ok.least
  unfold a5K
  simp only
  split
  ·rename_i h1
   refine ⟨rfl, rfl, rfl, fun h2 => ?_, fun _ => ⟨rfl, h1, ?_⟩, fun h2 => ?_, .inl rfl, Int.le_refl _, rfl⟩
   ·replace h2 : (if e' = 4 ∨ e' = 2 then e' else 5) = 0 := h2
    split at h2 <;> omega
   ·show (if e' = 4 ∨ e' = 2 then e' else 5) = 5 ∨ (if e' = 4 ∨ e' = 2 then e' else 5) = 4 ∨ (if e' = 4 ∨ e' = 2 then e' else 5) = 2
    split <;> omega
   ·replace h2 : (if e' = 4 ∨ e' = 2 then e' else 5) = 0 := h2
    split at h2 <;> omega
  ·rename_i h1
   have hhalf : 2 * (x.n.step / 2) = x.n.step := by
    obtain ⟨i, rfl⟩ : ∃ i, j = i + 1 := ⟨j - 1, by
     rcases j with _ | j
     ·simp at hst; omega
     ·omega⟩
    rw [hst, Nat.pow_succ]; omega
   have hrow := b0Q hr (by omega) hc (-1)
   generalize (if e' = 6 ∧ x.n.method = 0 then x.slow + 1 else x.slow) = sl'
   split
   ·refine ⟨rfl, rfl, rfl, fun _ => hhalf, fun h2 => absurd rfl h2, fun _ _ => rfl, .inr rfl, ?_, hrow⟩
    show x.n.method ≤ 1
    omega
   ·split
    ·refine ⟨rfl, rfl, rfl, fun _ => hhalf, fun h2 => absurd rfl h2, fun _ h2 => ?_, .inl rfl, Int.le_refl _, hrow⟩
     have h2 : x.fails + 1 = 0 := h2
     omega
    ·exact ⟨rfl, rfl, rfl, fun _ => hhalf, fun h2 => absurd rfl h2, fun _ _ => rfl, .inr rfl, Int.le_refl _, hrow⟩
structure Pk2 (p : Pb) : Prop where
 pk : Pk p
 len : p.t.ops.length < 2 ^ 39
 box : p.box.length = p.t.n
 n : p.t.n ≤ 3
theorem c3g (n first least tol fin : Int) (ns ms outs : List Int) (dv : Bool) : Pk2 (mkPb n first least tol fin ns ms outs dv) := by
 have m1 := c8Z n (by decide : (3 : Int) ≠ 0)
 have m2 := c8Y n (by decide : (0 : Int) < 3)
 have hl := P4 n ns dv ((n % 3).toNat + 1) (min ns.length 8)
 refine ⟨c0D _ _ _ _ _ _ _ _ _, ?_, a4Z _ _, ?_⟩
 ·show (E7 n ns dv ((n % 3).toNat + 1) (min ns.length 8)).length < 2 ^ 39
  omega
 ·show (mkT n ns dv).n ≤ 3
  rw [b8v]; omega
theorem b3t {p : Pb} {k : Nat} {x : Sta} (hp : Pk2 p) (hi : Inv p k x) (ht : (tryP p x).taken = true) (y : List Nat) (w : Nat) (hy : y.length = p.t.n) (hw : Pw w) : Bok p (tryP p x).n y w := by
 rcases b6C hp.pk hi with ⟨_, sp⟩ | ⟨h, _⟩
 ·obtain ⟨d, kk, hd, hs, hz⟩ := sp.sol
  have hm := hi.ok.n.m
  refine ⟨hp.pk.ok.t, hp.pk.ok.n, hp.len, ?_, ?_, ?_, hy, hw, hp.box⟩
  ·rw [sp.nord, hz]; exact a2A (a7Z hi.ok.n.rk _) _ _ _ _
  ·rw [sp.nord]; omega
  ·rw [sp.nstep]; exact hi.ok.n.step
 ·rw [h] at ht; cases ht
structure Pbx (p : Pb) : Prop where
 y : ∀ i, i < p.t.n → ∃ k : Int, Ix (-3) (p.y.getD i 0) k ∧ k.natAbs ≤ 400
 box : ∀ i, i < p.t.n → Fi (mG p.box i) ∧ val (mG p.box i).1 = val (p.y.getD i 0) - 16 ∧ val (mG p.box i).2 = val (p.y.getD i 0) + 16
theorem c69 : Ix (-3) 4625196817309499392 128 := by
 have r : Ieee.double.read 4625196817309499392 = .number false 4503599627370496 (-48) := by decide
 refine ⟨⟨_, _, _, r⟩, ?_⟩
 rw [A8 r]
 have h7 : (-3 : Int) = -48 + (45 : Nat) := by decide
 have := (congrArg pw h7).trans (V2 _ _)
 rw [this]; simp; grind
theorem ix_8 : Ix 3 4620693217682128896 1 := by
 have r : Ieee.double.read 4620693217682128896 = .number false 4503599627370496 (-49) := by decide
 refine ⟨⟨_, _, _, r⟩, ?_⟩
 rw [A8 r]
 have h7 : (3 : Int) = -49 + (52 : Nat) := by decide
 have := (congrArg pw h7).trans (V2 _ _)
 rw [this]; simp
theorem c47 (k : Int) : Ix (-3) (valN k) (k % 65 - 32) := by
 have h1 := c8Z k (by decide : (65 : Int) ≠ 0)
 have h2 := c8Y k (by decide : (0 : Int) < 65)
 exact Ix.div (Ix.ofInt _ (by omega)) ix_8 (by decide) (by decide) (by omega) (by omega) (by decide) (by decide)
theorem c3j (n first least tol fin : Int) (ns ms outs : List Int) (dv : Bool) : Pbx (mkPb n first least tol fin ns ms outs dv) := by
 have hy : ∀ i, i < (mkT n ns dv).n → ∃ k : Int, Ix (-3) ((a8b (mkT n ns dv).n ms).getD i 0) k ∧ k.natAbs ≤ 32 := fun i hi => by
  unfold a8b
  rw [a8c _ _ _ hi]
  generalize (if i < ms.length then ms.getD i 0 else (i : Int)) = w
  have h1 := c8Z w (by decide : (65 : Int) ≠ 0)
  have h2 := c8Y w (by decide : (0 : Int) < 65)
  exact ⟨_, c47 w, by omega⟩
 refine ⟨fun i hi => ?_, fun i hi => ?_⟩
 ·obtain ⟨k, h1, h2⟩ := hy i hi
  exact ⟨k, h1, by omega⟩
 ·obtain ⟨k, h1, h2⟩ := hy i hi
  have e : mG (mkPb n first least tol fin ns ms outs dv).box i = boxE (a8b (mkT n ns dv).n ms) i := by
   show (boxL _ _).getD i _ = _
   unfold boxL
   rw [c8U, List.getElem?_map, List.getElem?_range (show i < (mkT n ns dv).n from hi)]; rfl
  rw [e]
  have a := h1.sub c69 (by omega) (by decide) (by decide)
  have b := h1.add c69 (by omega) (by decide) (by decide)
  have p16 : (128 : Rat) * pw (-3) = 16 := by
   have := V2 (-3) 3
   rw [show (-3 : Int) + (3 : Nat) = 0 from rfl, a1c] at this
   have e : ((2 ^ 3 : Nat) : Rat) = 8 := rfl
   grind
  refine ⟨⟨a.fin, b.fin⟩, ?_, ?_⟩
  ·show val (fop .sub _ _) = val ((a8b (mkT n ns dv).n ms).getD i 0) - 16
   rw [a.val, h1.val, Rat.intCast_sub]
   have : ((128 : Int) : Rat) = 128 := rfl
   grind
  ·show val (fop .add _ _) = val ((a8b (mkT n ns dv).n ms).getD i 0) + 16
   rw [b.val, h1.val, Rat.intCast_add]
   have : ((128 : Int) : Rat) = 128 := rfl
   grind
def c9 : Nat := 4472406533629990549
def ps (f : Nat → Rat) (s : Rat) : Nat → Nat → Rat
 | _, 0 => 0
 | i, k + 1 => f i + s * ps f s (i + 1) k
abbrev atN (z : List (List Nat)) (n s : Nat) : List Nat := atP z (z.length - 1) n s
def offP (z : List (List Nat)) (i s told : Nat) : Nat := a8K (x9 (valC (colT z i) s) (pt told))
structure Ou where
 pos : Int
 y : List Nat
 bound : Nat
structure Rn where
 s : Sta
 last : List Nat
 bound : Nat
 att : Nat
 next : Nat
def sP (v : Nd) (a : Int) : Nat := fop .div (FloatKind.nearest .f64 (a - v.pos)) (FloatKind.nearest .f64 v.step)
def outB (v : Nd) (n : Nat) (s b : Nat) (i : Nat) : Nat := up (fop .add b (offP v.z i s ((atN v.z n s).getD i 0)))
def outP (v : Nd) (n : Nat) (b : Nat) (a : Int) : Ou := ⟨a, atN v.z n (sP v a), D6 (outB v n (sP v a) b) (n - 1)⟩
def a8u (outs : List Int) (pos : Int) (k : Nat) : List Int := (outs.drop k).takeWhile fun a => decide (a ≤ pos)
def G8 (p : Pb) (v : Nd) (b k : Nat) : List Ou := (a8u p.outs v.pos k).map (outP v p.t.n b)
def bdR (p : Pb) (r : Rn) : Bnd × Int := bndP p.t p.box (tryP p r.s).n.z (hW (tryP p r.s).n.step.toNat) r.last r.bound
def errR (p : Pb) (r : Rn) : Int := if (bdR p r).2 = 0 ∧ fcmp .gt (bdR p r).1.bound p.cap = true then 8 else (bdR p r).2
def c49 (p : Pb) (r : Rn) : Rn := ⟨(tryP p r.s).s, (tryP p r.s).n.z.getD 0 [], (bdR p r).1.bound, r.att + 1, r.next + (G8 p (tryP p r.s).n (bdR p r).1.bound r.next).length⟩
def a0X (p : Pb) (r : Rn) : Rn × List Ou × Int :=
 if p.most ≤ r.att then (r, [], 6) else
 if (tryP p r.s).e ≠ 0 ∨ (tryP p r.s).taken = false then (⟨(tryP p r.s).s, r.last, r.bound, r.att + 1, r.next⟩, [], (tryP p r.s).e) else
 if errR p r ≠ 0 then (⟨r.s, r.last, r.bound, r.att + 1, r.next⟩, [], errR p r) else
 (c49 p r, G8 p (tryP p r.s).n (bdR p r).1.bound r.next, 0)
theorem a0g (p : Pb) (r : Rn) : (p.most ≤ r.att ∧ a0X p r = (r, [], 6)) ∨
  (r.att < p.most ∧ ((tryP p r.s).e ≠ 0 ∨ (tryP p r.s).taken = false) ∧ a0X p r = (⟨(tryP p r.s).s, r.last, r.bound, r.att + 1, r.next⟩, [], (tryP p r.s).e)) ∨
  (r.att < p.most ∧ (tryP p r.s).e = 0 ∧ (tryP p r.s).taken = true ∧ errR p r ≠ 0 ∧ a0X p r = (⟨r.s, r.last, r.bound, r.att + 1, r.next⟩, [], errR p r)) ∨
  (r.att < p.most ∧ (tryP p r.s).e = 0 ∧ (tryP p r.s).taken = true ∧ (bdR p r).2 = 0 ∧ fcmp .gt (bdR p r).1.bound p.cap = false ∧ a0X p r = (c49 p r, G8 p (tryP p r.s).n (bdR p r).1.bound r.next, 0)) := by
 unfold a0X
 by_cases h1 : p.most ≤ r.att
 ·left; rw [if_pos h1]; exact ⟨h1, rfl⟩
 ·right
  rw [if_neg h1]
  by_cases h2 : (tryP p r.s).e ≠ 0 ∨ (tryP p r.s).taken = false
  ·left; rw [if_pos h2]; exact ⟨by omega, h2, rfl⟩
  ·right
   rw [if_neg h2]
   have h3 : (tryP p r.s).e = 0 ∧ (tryP p r.s).taken = true := by
    refine ⟨?_, ?_⟩
    ·by_cases e : (tryP p r.s).e = 0
     ·exact e
     ·exact absurd (.inl e) h2
    ·cases e : (tryP p r.s).taken with
     | true => rfl
     | false => exact absurd (.inr e) h2
   by_cases h4 : errR p r ≠ 0
   ·left; rw [if_pos h4]; exact ⟨by omega, h3.1, h3.2, h4, rfl⟩
   ·right
    rw [if_neg h4]
    have h5 : errR p r = 0 := by simpa using h4
    have h6 : (bdR p r).2 = 0 ∧ fcmp .gt (bdR p r).1.bound p.cap = false := by
     unfold errR at h5
     split at h5
     ·cases h5
     ·rename_i h7
      refine ⟨h5, ?_⟩
      cases e : fcmp .gt (bdR p r).1.bound p.cap with
      | false => rfl
      | true => exact absurd ⟨h5, e⟩ h7
    exact ⟨by omega, h3.1, h3.2, h6.1, h6.2, rfl⟩
def t0 (p : Pb) (r : Rn) : List Ou := if r.s.n.pos = 0 then ((p.outs.drop r.next).takeWhile fun a => decide (a = 0)).map fun _ => ⟨0, p.y, 0⟩ else []
def goK (p : Pb) : Nat → Rn × List Ou × Int → Rn × List Ou × Int
 | 0, x => x
 | k + 1, x => if x.2.2 = 0 ∧ x.1.s.n.pos < p.fin then goK p k ((a0X p x.1).1, x.2.1 ++ (a0X p x.1).2.1, (a0X p x.1).2.2) else x
def goP (p : Pb) (r : Rn) (most : Nat) : Rn × List Ou × Int := goK p most (⟨r.s, r.last, r.bound, r.att, r.next + (t0 p r).length⟩, t0 p r, 0)
def r8 (p : Pb) : Rn := ⟨a6A p, p.y, 0, 0, 0⟩
def b6F (p : Pb) : Rn × List Ou × Int :=
 let x := goP p (r8 p) p.most.toNat
 (x.1, x.2.1, if x.2.2 = 0 ∧ x.1.s.n.pos < p.fin then 6 else x.2.2)
structure RInv (p : Pb) (k : Nat) (r : Rn) : Prop where
 s : Inv p k r.s
 last : r.last.length = p.t.n
 bound : Pw r.bound
 next : r.next ≤ p.outs.length
theorem b1m {p : Pb} (hp : Pk2 p) : RInv p 0 (r8 p) := ⟨b4J hp.pk, hp.pk.yl, Nat.zero_le _, Nat.zero_le _⟩
theorem b0X (outs : List Int) (pos : Int) (k : Nat) : k + (a8u outs pos k).length ≤ outs.length ∨ outs.length < k := by
 by_cases h : outs.length < k
 ·exact .inr h
 ·left
  have h1 := (List.takeWhile_prefix (l := outs.drop k) fun a => decide (a ≤ pos)).length_le
  rw [List.length_drop] at h1
  unfold a8u
  omega
theorem a6n {q : Int → Bool} : ∀ (l : List Int) (i : Nat), i ≤ (l.takeWhile q).length → (i < (l.takeWhile q).length ↔ i < l.length ∧ q (l.getD i 0) = true) := by
 intro l
 induction l with
 | nil => intro i hi; simp at hi ⊢
 | cons a l ih =>
  intro i hi
  by_cases ha : q a = true
  ·rw [List.takeWhile_cons_of_pos ha] at hi ⊢
   rcases i with _ | i
   ·simp [ha]
   ·have := ih i (by simpa using hi)
    simpa using this
  ·rw [List.takeWhile_cons_of_neg ha] at hi ⊢
   have hi0 : i = 0 := by simpa using hi
   subst hi0
   simp [ha]
theorem b1P {q : Int → Bool} : ∀ (l : List Int) (i : Nat), i < (l.takeWhile q).length → (l.takeWhile q).getD i 0 = l.getD i 0 := by
 intro l
 induction l with
 | nil => intro i hi; simp at hi
 | cons a l ih =>
  intro i hi
  by_cases ha : q a = true
  ·rw [List.takeWhile_cons_of_pos ha] at hi ⊢
   rcases i with _ | i
   ·rfl
   ·have := ih i (by simpa using hi)
    simpa using this
  ·rw [List.takeWhile_cons_of_neg ha] at hi
   simp at hi
theorem c3F {p : Pb} {k : Nat} {s : Sta} (h : Inv p k s) : Inv p (k + 1) s := ⟨h.ok, by have := h.pos; omega, by have := h.good; omega, h.fails, h.slow, h.lo, h.hi⟩
theorem b9F {p : Pb} {k : Nat} {r : Rn} (hp : Pk2 p) (hr : RInv p k r) (hk : k < 100000) : RInv p (k + 1) (a0X p r).1 := by
 have hs := b1L hp.pk hr.s hk
 have mono := c3F hr.s
 rcases a0g p r with ⟨_, e⟩ | ⟨_, _, e⟩ | ⟨_, _, _, _, e⟩ | ⟨_, _, ht, h1, h2, e⟩ <;> rw [e]
 ·exact ⟨mono, hr.last, hr.bound, hr.next⟩
 ·exact ⟨hs, hr.last, hr.bound, hr.next⟩
 ·exact ⟨mono, hr.last, hr.bound, hr.next⟩
 ·have hb := b3t hp hr.s ht r.last r.bound hr.last hr.bound
  refine ⟨hs, ?_, ?_, ?_⟩
  ·exact hb.rk.2 0 (by have := hb.rk.1; omega)
  ·have hg := b89 p.t p.box (tryP p r.s).n.z (hW (tryP p r.s).n.step.toNat) r.last r.bound hr.bound (by obtain ⟨j, hj, hst⟩ := hb.step; rw [hst, Int.toNat_natCast]; exact c7u j hj)
   rcases hg with ⟨_, _, _, _, _, n5, _⟩ | ⟨e, _⟩
   ·exact Nat.le_of_lt n5
   ·show Pw (bndP _ _ _ _ _ _).1.bound
    rw [e]; exact Nat.zero_le _
  ·have h2 := b0X p.outs (tryP p r.s).n.pos r.next
   have h3 := hr.next
   show r.next + (G8 _ _ _ _).length ≤ _
   unfold G8
   rw [List.length_map]
   omega
def v6 : CA := (.seq (.reg [i_X 0 2 (.h (.mov (.k .nil)))] [0]) (.seq (.seq (.reg [i_M 0 3 0, i_X 1 4 (.h (.nilq false (.t 3)))] [0, 4]) (.cond (.t 4) (.seq (.reg [i_X 0 2 (.h (.mov (.k .nil)))] [2]) .ret) .skip)) (.seq (.reg [i_X 0 5 (.bslice [] 0 1 [] 31), i_M 1 6 0, i_X 2 7 (.app (.t 5) (.t 6) 1 8), i_M 3 2 7] [2]) .ret)))
theorem B1 : d6 Tryz.prog 57 = some ⟨8, [(2, none)], v6.strip⟩ := by kernel_rfl
def q8 : CA := (.seq (.reg [i_X 0 2 (.h (.mov (.k .nil)))] [0]) (.seq (.seq (.reg [i_M 0 3 0, i_X 1 4 (.h (.nilq false (.t 3)))] [0, 4]) (.cond (.t 4) (.seq (.reg [i_X 0 2 (.h (.mov (.k .nil)))] [2]) .ret) .skip)) (.seq (.reg [i_X 0 5 (.bslice [] 0 3 [] 67), i_M 1 6 0, i_X 2 7 (.app (.t 5) (.t 6) 3 40), i_M 3 2 7] [2]) .ret)))
theorem s7 : d6 Tryz.prog 55 = some ⟨8, [(2, none)], q8.strip⟩ := by kernel_rfl
def a6R : CA := (.seq (.reg [i_N 0 26 .lss 25 24] [0, 1, 6, 7, 24, 25, 26]) (.seq (.cond (.t 26) .skip (.exit 2)) (.seq (.block 3 (.seq (.reg [i_M 0 27 25, i_M 1 8 27] [0, 1, 6, 7, 8, 24, 25]) (.reg [i_M 0 28 6, i_M 1 29 8, i_M 2 30 6, i_M 3 31 8, i_I 4 32 30 31 1, i_L 5 33 32 1, i_M 6 34 1, i_F 7 35 .mul 33 34, i_M 8 36 0, i_M 9 37 7, i_I 10 38 36 37 1, i_L 11 39 38 1, i_M 12 40 8, i_I 13 41 39 40 1, i_L 14 42 41 1, i_F 15 43 .add 35 42, i_I 16 44 28 29 1, i_S 17 44 43 1] [0, 1, 6, 7, 24, 25]))) (.reg [i_B 0 45 .add 25 1, i_M 1 25 45] [0, 1, 6, 7, 24, 25]))))
def a6T : CA := (.seq (.seq (.reg [i_M 0 19 7, i_B 1 20 .geq 19 0] [0, 1, 6, 7, 20]) (.cond (.t 20) .skip (.exit 0))) (.seq (.block 1 (.seq (.reg [i_M 0 23 6, i_X 1 24 (.h (.len (.t 23))), i_K 2 25 0] [0, 1, 6, 7, 24, 25]) (.block 2 (.loop a6R)))) (.reg [i_M 0 21 7, i_B 1 22 .sub 21 1, i_M 2 7 22] [0, 1, 6, 7])))
def b4Y : CA := (.seq (.reg [i_X 0 4 (.h (.mov (.k .nil)))] [0, 1]) (.seq (.reg [i_M 0 9 0, i_X 1 10 (.h (.len (.t 9))), i_B 2 11 .sub 10 1, i_M 3 5 11] [0, 1, 5]) (.seq (.reg [i_M 0 12 0, i_M 1 13 5, i_I 2 14 12 13 1, i_L 3 15 14 1, i_X 4 16 (.app (.k .nil) (.t 15) 1 8), i_M 5 6 16] [0, 1, 5, 6]) (.seq (.seq (.reg [i_M 0 17 5, i_B 1 18 .sub 17 1, i_M 2 7 18] [0, 1, 6, 7]) (.block 0 (.loop a6T))) (.seq (.reg [i_M 0 46 6, i_M 1 4 46] [4]) .ret)))))
theorem b0x : d6 Tryz.prog 154 = some ⟨47, [(4, none)], b4Y.strip⟩ := by kernel_rfl
def a9E : CA := (.seq (.reg [i_X 0 2 (.alloc [fl 0, fl 0] 83)] [0, 2]) (.seq (.reg [i_M 0 3 0, i_M 1 4 0, i_X 2 5 (.h (.build [fl 0, fl 0] [(0, (1, (.t 3))), (1, (1, (.t 4)))])), i_S 3 2 5 2] [2]) .ret))
theorem a7M : d6 Tryz.prog 207 = some ⟨6, [(2, (some (2, true)))], a9E.strip⟩ := by kernel_rfl
def a67 : CA := (.seq (.seq (.reg [i_M 0 27 12, i_B 1 28 .geq 27 0] [0, 1, 2, 3, 9, 11, 12, 28]) (.cond (.t 28) .skip (.exit 0))) (.seq (.block 1 (.reg [i_A 0 31 11 2, i_M 1 32 9, i_M 2 33 2, i_X 3 34 (.callS 3 (.t 32) [(.t 33)]), i_X 4 35 (.callS 0 (kF 208) [(.t 31), (.t 34)]), i_M 5 36 9, i_M 6 37 0, i_M 7 38 12, i_I 8 39 37 38 1, i_L 9 40 39 1, i_M 10 41 1, i_I 11 42 40 41 1, i_L 12 43 42 1, i_X 13 44 (.callA (.t 36) [(.t 43)]), i_X 14 45 (.callA (kF 200) [(.t 35), (.t 44)]), i_S 15 11 45 2] [0, 1, 2, 3, 9, 11, 12])) (.reg [i_M 0 29 12, i_B 1 30 .sub 29 1, i_M 2 12 30] [0, 1, 2, 3, 9, 11, 12])))
def b43 : CA := (.seq (.reg [i_X 0 8 (.h (.mov (.k (.d (.flt 0)))))] [0, 1, 2, 3]) (.seq (.reg [i_X 0 9 (.h (.mov (kF 207)))] [0, 1, 2, 3, 9]) (.seq (.reg [i_M 0 13 0, i_X 1 14 (.h (.len (.t 13))), i_B 2 15 .sub 14 1, i_M 3 10 15] [0, 1, 2, 3, 9, 10]) (.seq (.reg [i_M 0 16 9, i_M 1 17 0, i_M 2 18 10, i_I 3 19 17 18 1, i_L 4 20 19 1, i_M 5 21 1, i_I 6 22 20 21 1, i_L 7 23 22 1, i_X 8 24 (.callA (.t 16) [(.t 23)]), i_X 9 11 (.alloc [fl 0, fl 0] 83), i_S 10 11 24 2] [0, 1, 2, 3, 9, 10, 11]) (.seq (.seq (.reg [i_M 0 25 10, i_B 1 26 .sub 25 1, i_M 2 12 26] [0, 1, 2, 3, 9, 11, 12]) (.block 0 (.loop a67))) (.seq (.reg [i_A 0 46 11 2, i_M 1 47 9, i_M 2 48 3, i_X 3 49 (.callS 3 (.t 47) [(.t 48)]), i_X 4 50 (.callA (kF 190) [(.t 46), (.t 49)]), i_X 5 51 (.callA (kF 192) [(.t 50)]), i_M 6 8 51] [8]) .ret))))))
theorem b0C : d6 Tryz.prog 155 = some ⟨52, [(8, none)], b43.strip⟩ := by kernel_rfl
theorem P7 (xs : List Nat) (h0 : 0 < xs.length) (h1 : xs.length < 2 ^ 40) : Con Tryz.prog 57 [.d (rowD xs)] (.d (rowD xs)) := by
 refine a3 B1 rfl d5 ?_
 refine evx @v6.eq_1 ?_
 exact ⟨h0, by omega, f7 (.sl 0 0 0 xs.length 1 xs.length) (fun _ h => h) (d7 (by decide) rfl) (a6C rfl rfl rfl (d9 _ _))⟩
def mixR (f g : Nat → Nat) (i : Nat) : Nat → Nat := fun k => if k < i then g k else f k
theorem c5B (f g : Nat → Nat) (n i : Nat) : (tabR (mixR f g i) n).set i (g i) = tabR (mixR f g (i + 1)) n := by
 refine List.ext_getElem? fun j => ?_
 unfold tabR mixR
 simp only [List.getElem?_set, List.length_map, List.length_range, List.getElem?_map]
 by_cases h : i = j
 ·subst h
  by_cases hi : i < n
  ·simp [hi]
  ·simp [hi]
 ·by_cases hj : j < n
  ·have h3 : (List.range n)[j]? = some j := by simp [hj]
   rw [if_neg h, h3]
   simp only [Option.map_some]
   by_cases h4 : j < i
   ·rw [if_pos h4, if_pos (by omega)]
   ·rw [if_neg h4, if_neg (by omega)]
  ·have h3 : (List.range n)[j]? = none := by simp; omega
   rw [if_neg h, h3]; rfl
theorem c3m (f g : Nat → Nat) (n : Nat) : tabR (mixR f g 0) n = tabR f n := b0K fun i _ => by simp [mixR]
theorem c5C (f g : Nat → Nat) (n : Nat) : tabR (mixR f g n) n = tabR g n := b0K fun i hi => by simp [mixR, hi]
theorem b9A (xs : List Nat) (n : Nat) (h : xs.length = n) : tabR (fun i => xs.getD i 0) n = xs := by
 subst h
 refine List.ext_getElem? fun j => ?_
 unfold tabR
 rw [List.getElem?_map]
 by_cases hj : j < xs.length
 ·simp [hj, c8U]
 ·simp [hj]
theorem b5M (z : List (List Nat)) (q n s : Nat) (hz : Rk (q + 1) n z) (hq : q < 1000) (hn0 : 0 < n) (hn : n < 2 ^ 40) : Con Tryz.prog 154 [.d (f0 z), fl s] (.d (rowD (atP z q n s))) := by
 have hl := hz.1
 have hq0 := hz.2 q (by omega)
 have wq : IntKind.i64.wrap ((q + 1 : Nat) - 1) = (q : Int) := by rw [b9 (by omega) (by omega)]; omega
 have wq1 : IntKind.i64.wrap ((q : Int) - 1) = ((q : Int) - 1 - (0 : Nat)) := by rw [b9 (by omega) (by omega)]; omega
 refine a3 b0x rfl d5 ?_
 refine evx @b4Y.eq_1 ?_
 rw [hl]
 refine evx (And.intro wq wq1) ?_
 have e0 : z.getD q [] = tabR (fun i => hor z q s i 0) n := (b9A _ n hq0).symm
 refine ⟨by omega, ?_⟩
 rw [hq0, e0]
 refine m7 (n := q) (fun k t => ∃ c, k + c = q ∧ t = ⟨[(0, .d (.bor (q + 1) (a0m z))), (1, fl s), (6, .sl 4 0 0 n 1 n), (7, fI ((q : Int) - 1 - (c : Nat)))], [(4, [rowV (tabR (fun i => hor z q s i c) n)])]⟩) ⟨0, by omega, rfl⟩ ?_
 rintro k t ⟨c, hc, rfl⟩
 refine evx @a6T.eq_1 ?_
 refine a9 (fun h => ?_) (fun h => ?_)
 ·replace h := of_decide_eq_true h
  refine ev ?_
  have hj : ((q : Int) - 1 - (c : Nat)).toNat = q - 1 - c := by omega
  have hzj := hz.2 (q - 1 - c) (by omega)
  have wc : IntKind.i64.wrap ((q : Int) - 1 - (c : Nat) - 1) = (q : Int) - 1 - ((c + 1 : Nat) : Int) := by rw [b9 (by omega) (by omega)]; omega
  rw [← c3m (fun i => hor z q s i c) (fun i => hor z q s i (c + 1)) n]
  refine m7 (n := n) (fun k t => ∃ i : Nat, k + i = n ∧ t = ⟨[(0, .d (.bor (q + 1) (a0m z))), (1, fl s), (6, .sl 4 0 0 n 1 n), (7, fI ((q : Int) - 1 - (c : Nat))), (24, fI n), (25, fI i)], [(4, [rowV (tabR (mixR (fun i => hor z q s i c) (fun i => hor z q s i (c + 1)) i) n)])]⟩) ⟨0, by omega, rfl⟩ ?_
  rintro k2 t ⟨i, hi, rfl⟩
  refine evx @a6R.eq_1 ?_
  refine a9 (fun h2 => ?_) (fun h2 => ?_)
  ·replace h2 := of_decide_eq_true h2
   have wi : IntKind.i64.wrap ((i : Int) + 1) = ((i + 1 : Nat) : Int) := by rw [b9 (by omega) (by omega)]; omega
   have hlen := g6 (mixR (fun i => hor z q s i c) (fun i => hor z q s i (c + 1)) i) n
   have gi : (rowV (tabR (mixR (fun i => hor z q s i c) (fun i => hor z q s i (c + 1)) i) n)).getD i .any = fl (hor z q s i c) := by
    rw [f8 _ _ (by rw [hlen]; exact h2), a8c _ _ _ h2]; simp [mixR]
   refine evx (And.intro gi (And.intro hj wi)) ?_
   refine ⟨h2, ⟨hlen, by omega⟩, ⟨by omega, by omega⟩, by omega, h2, ⟨hlen, by omega⟩, k2 - 1, by omega, i + 1, by omega, ?_⟩
   rw [← c5B]
   rfl
  ·replace h2 := of_decide_eq_false h2
   refine evx wc ?_
   exact ⟨k - 1, by omega, c + 1, by omega, by rw [show i = n by omega, c5C]⟩
 ·replace h := of_decide_eq_false h
  refine ev ?_
  have ec : c = q := by omega
  subst ec
  exact f7 (.sl 4 0 0 n 1 n) (fun _ h => h) (d7 (by decide) rfl) (a6C rfl (g6 _ _) rfl (d9 _ _))
theorem M9 (x : Nat) : Con Tryz.prog 207 [fl x] (ivV (x, x)) := by
 refine a3 a7M rfl d5 ?_
 refine evx @a9E.eq_1 ?_
 exact d8 rfl (by decide) rfl rfl rfl (by simp) (by simp [ldv])
theorem b52 (z : List (List Nat)) (q n i s told : Nat) (hz : Rk (q + 1) n z) (hq : q < 1000) (hi : i < n) (hn : n < 2 ^ 40) : Con Tryz.prog 155 [.d (f0 z), fI i, fl s, fl told] (fl (offP z i s told)) := by
 have hl := hz.1
 have hcl := a78 z i
 have hr := fun k h => hz.2 k h
 have hca := fun k h => b6j z i k h
 have w1 : IntKind.i64.wrap ((z.length : Int) - 1) = (q : Int) := by rw [b9 (by omega) (by omega)]; omega
 have r0 := hr q (by omega)
 unfold offP valC
 rw [hcl, hl, show q + 1 - 1 = q from rfl]
 refine a3 b0C rfl d5 ?_
 refine evx @b43.eq_1 ?_
 refine evx w1 ?_
 (repeat (with_reducible refine And.intro (by omega) ?_))
 refine a0 (M9 ((z.getD q []).getD i 0)) rfl ?_
 refine ev ?_
 have e0 : valK (colT z i) s 0 = pt ((z.getD q []).getD i 0) := by rw [valK, hcl, hl, show q + 1 - 1 = q from rfl, hca q (by omega)]
 have e1 : (z.getD q []).getD i 0 = (valK (colT z i) s 0).1 := by rw [e0]; rfl
 have e2 : (z.getD q []).getD i 0 = (valK (colT z i) s 0).2 := by rw [e0]; rfl
 have e5 : IntKind.i64.wrap ((q : Int) - 1) = (q : Int) - 1 - ((0 : Nat) : Int) := by rw [b9 (by omega) (by omega)]; omega
 rw [e5]
 refine f9 (n := q) (fun c t => ∃ k, c + k = q ∧ t = ⟨[(0, .d (f0 z)), (1, fI i), (2, fl s), (3, fl told), (9, .d (.fn 207 [] [])), (11, .ptr 9 0 0 2), (12, fI ((q : Int) - 1 - (k : Int)))],
  [(9, [[fl (valK (colT z i) s k).1, fl (valK (colT z i) s k).2]])]⟩) (Le.refl _) ⟨0, by omega, by rw [← e1, ← e2]; rfl⟩ ?_
 rintro c t ⟨k, hc, rfl⟩
 refine evx @a67.eq_1 ?_
 refine a9 (fun h => ?_) (fun h => ?_)
 ·replace h := of_decide_eq_true h
  obtain ⟨j, hj⟩ : ∃ j : Nat, (q : Int) - 1 - (k : Int) = j := ⟨q - 1 - k, by omega⟩
  have hj2 : j = (colT z i).length - 2 - k := by omega
  have rj := hr j (by omega)
  rw [hj]
  refine evx (And.intro @f0.eq_1 @a0m.eq_1) ?_
  refine a8 (M9 s) rfl ?_
  refine ev ?_
  refine a8 (p7 (valK (colT z i) s k) (pt s)) rfl ?_
  refine evx (And.intro @f0.eq_1 @a0m.eq_1) ?_
  (repeat (with_reducible refine And.intro (by omega) ?_))
  refine a0 (M9 ((z.getD j []).getD i 0)) rfl ?_
  refine ev ?_
  refine a0 (q7 (r5 (valK (colT z i) s k) (pt s)) (pt ((z.getD j []).getD i 0))) rfl ?_
  have e1 : y9 (r5 (valK (colT z i) s k) (pt s)) (pt ((z.getD j []).getD i 0)) = valK (colT z i) s (k + 1) := by
   rw [b3m, ← hj2, hca j (by omega)]
  rw [e1]
  refine ev ?_
  rw [show IntKind.i64.wrap ((j : Int) - 1) = (q : Int) - 1 - ((k + 1 : Nat) : Int) by rw [b9 (by omega) (by omega)]; omega]
  exact ⟨c - 1, _, by omega, Le.refl _, k + 1, by omega, by first | rfl | (rw [hl]; rfl)⟩
 ·replace h := of_decide_eq_false h
  obtain rfl : k = q := by omega
  refine ev ?_
  refine a8 (M9 told) rfl ?_
  refine ev ?_
  refine a0 (y8 (valK (colT z i) s k) (pt told)) rfl ?_
  refine ev ?_
  refine a0 (a2v (x9 (valK (colT z i) s k) (pt told))) rfl ?_
  refine ev ?_
  exact a4 rfl (by decide) (by simp [look])
end Go.Ab
