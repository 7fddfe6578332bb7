/- What the statements are made of: fields. -/
import Derived.Test.YtdckmpaakheppaaCB
namespace Go.Ab
set_option linter.unusedSimpArgs false
set_option linter.unusedVariables false
open Go Go.Proofs
def A_l3_within : CA := (.seq (.reg [⟨0, (some 4), none, [], [], (.h (.mov (.k (.d (.int .i64 0)))))⟩] [0, 1]) (.seq (.reg [⟨0, (some 6), none, [], [], (.h (.mov (.t 0)))⟩, ⟨1, (some 7), none, [], [], (.h (.mov (.t 1)))⟩, ⟨2, (some 8), none, [], [], (.h (.ibin .rem (.t 6) (.t 7)))⟩, ⟨3, (some 5), none, [], [], (.h (.mov (.t 8)))⟩] [1, 5]) (.seq (.seq (.reg [⟨0, (some 9), none, [], [], (.h (.mov (.t 5)))⟩, ⟨1, (some 10), none, [], [], (.h (.ibin .lss (.t 9) (.k (.d (.int .i64 0)))))⟩] [1, 5, 10]) (.cond (.t 10) (.reg [⟨0, (some 11), none, [], [], (.h (.mov (.t 5)))⟩, ⟨1, (some 12), none, [], [], (.h (.mov (.t 1)))⟩, ⟨2, (some 13), none, [], [], (.h (.ibin .add (.t 11) (.t 12)))⟩, ⟨3, (some 5), none, [], [], (.h (.mov (.t 13)))⟩] [5]) .skip)) (.seq (.reg [⟨0, (some 14), none, [], [], (.h (.mov (.t 5)))⟩, ⟨1, (some 4), none, [], [], (.h (.mov (.t 14)))⟩] [4]) .ret))))
theorem A_l3_within_comp : compF Try.prog 33 = some ⟨15, [(4, none)], A_l3_within.strip⟩ := by kernel_rfl
def A_l3_Make_L0 : CA := (.seq (.seq (.reg [⟨0, (some 18), none, [], [], (.h (.mov (.t 8)))⟩, ⟨1, (some 19), none, [], [], (.h (.padd (.t 7) 0))⟩, ⟨2, (some 20), none, [], [], (.load (.t 19) 1 false)⟩, ⟨3, (some 21), none, [], [], (.h (.ibin .lss (.t 18) (.t 20)))⟩] [0, 1, 2, 6, 7, 8, 21]) (.cond (.t 21) .skip (.exit 0))) (.seq (.block 1 (.reg [⟨0, (some 24), none, [], [], (.h (.padd (.t 7) 1))⟩, ⟨1, (some 25), none, [], [], (.load (.t 24) 1 false)⟩, ⟨2, (some 26), none, [], [], (.h (.mov (.t 8)))⟩, ⟨3, (some 27), none, [], [], (.h (.build [(.d (.int .i64 0)), (.d (.int .i64 0)), (.d (.int .i64 0)), (.d (.flt 0))] [(0, (1, (.k (.d (.int .i64 1))))), (1, (1, (.t 26)))]))⟩, ⟨4, (some 28), none, [], [], (.bslice [(.d (.int .i64 0)), (.d (.int .i64 0)), (.d (.int .i64 0)), (.d (.flt 0))] 1 4 [(0, (4, (.t 27)))] 53)⟩, ⟨5, (some 29), none, [], [], (.app (.t 25) (.t 28) 4 32)⟩, ⟨6, (some 30), none, [], [], (.h (.padd (.t 7) 1))⟩, ⟨7, none, none, [], [], (.store (.t 30) (.t 29) 1)⟩] [0, 1, 2, 6, 7, 8])) (.reg [⟨0, (some 22), none, [], [], (.h (.mov (.t 8)))⟩, ⟨1, (some 23), none, [], [], (.h (.ibin .add (.t 22) (.k (.d (.int .i64 1)))))⟩, ⟨2, (some 8), none, [], [], (.h (.mov (.t 23)))⟩] [0, 1, 2, 6, 7, 8])))
def A_l3_Make_L1 : CA := (.seq (.seq (.reg [⟨0, (some 42), none, [], [], (.h (.mov (.t 9)))⟩, ⟨1, (some 43), none, [], [], (.h (.mov (.t 1)))⟩, ⟨2, (some 44), none, [], [], (.h (.len (.t 43)))⟩, ⟨3, (some 45), none, [], [], (.h (.ibin .lss (.t 42) (.t 44)))⟩, ⟨4, (some 46), none, [], [], (.h (.mov (.t 45)))⟩, ⟨5, (some 47), (some (46, true)), [], [], (.h (.mov (.t 9)))⟩, ⟨6, (some 48), (some (46, true)), [], [], (.h (.ibin .lss (.t 47) (.k (.d (.int .i64 8)))))⟩, ⟨7, (some 49), none, [], [], (.h (.pick (.t 46) (.t 48) (.k (.d (.bool false)))))⟩] [0, 1, 2, 6, 7, 9, 49]) (.cond (.t 49) .skip (.exit 2))) (.seq (.block 3 (.seq (.reg [⟨0, (some 52), none, [], [], (.h (.mov (.t 1)))⟩, ⟨1, (some 53), none, [], [], (.h (.mov (.t 9)))⟩, ⟨2, (some 54), none, [], [], (.h (.idx (.t 52) (.t 53) 1))⟩, ⟨3, (some 55), none, [], [], (.load (.t 54) 1 false)⟩, ⟨4, (some 10), none, [], [], (.h (.mov (.t 55)))⟩] [0, 1, 2, 6, 7, 9, 10]) (.seq (.reg [⟨0, (some 56), none, [], [], (.h (.padd (.t 7) 1))⟩, ⟨1, (some 57), none, [], [], (.load (.t 56) 1 false)⟩, ⟨2, (some 58), none, [], [], (.h (.len (.t 57)))⟩, ⟨3, (some 11), none, [], [], (.h (.mov (.t 58)))⟩] [0, 1, 2, 6, 7, 9, 10, 11]) (.seq (.reg [⟨0, (some 59), none, [], [], (.h (.mov (.t 10)))⟩, ⟨1, (some 60), none, [], [], (.callA (.k (.d (.fn 33 [] []))) [(.t 59), (.k (.d (.int .i64 3)))])⟩, ⟨2, (some 61), none, [], [], (.h (.ibin .add (.k (.d (.int .i64 2))) (.t 60)))⟩, ⟨3, (some 62), none, [], [], (.h (.mov (.t 10)))⟩, ⟨4, (some 63), none, [], [], (.h (.ibin .quo (.t 62) (.k (.d (.int .i64 4)))))⟩, ⟨5, (some 64), none, [], [], (.h (.mov (.t 11)))⟩, ⟨6, (some 65), none, [], [], (.callA (.k (.d (.fn 33 [] []))) [(.t 63), (.t 64)])⟩, ⟨7, (some 66), none, [], [], (.h (.mov (.t 10)))⟩, ⟨8, (some 67), none, [], [], (.h (.ibin .quo (.t 66) (.k (.d (.int .i64 40)))))⟩, ⟨9, (some 68), none, [], [], (.h (.mov (.t 11)))⟩, ⟨10, (some 69), none, [], [], (.callA (.k (.d (.fn 33 [] []))) [(.t 67), (.t 68)])⟩, ⟨11, (some 70), none, [], [], (.h (.build [(.d (.int .i64 0)), (.d (.int .i64 0)), (.d (.int .i64 0)), (.d (.flt 0))] [(0, (1, (.t 61))), (1, (1, (.t 65))), (2, (1, (.t 69)))]))⟩, ⟨12, (some 12), none, [], [], (.alloc [(.d (.int .i64 0)), (.d (.int .i64 0)), (.d (.int .i64 0)), (.d (.flt 0))] 53)⟩, ⟨13, none, none, [], [], (.store (.t 12) (.t 70) 4)⟩] [0, 1, 2, 6, 7, 9, 10, 12]) (.seq (.seq (.reg [⟨0, (some 71), none, [], [], (.h (.mov (.t 2)))⟩, ⟨1, (some 72), none, [], [], (.h (.mov (.t 71)))⟩, ⟨2, (some 73), (some (72, true)), [], [], (.h (.mov (.t 10)))⟩, ⟨3, (some 74), (some (72, true)), [], [], (.callA (.k (.d (.fn 33 [] []))) [(.t 73), (.k (.d (.int .i64 7)))])⟩, ⟨4, (some 75), (some (72, true)), [], [], (.h (.ibin .eql (.t 74) (.k (.d (.int .i64 0)))))⟩, ⟨5, (some 76), none, [], [], (.h (.pick (.t 72) (.t 75) (.k (.d (.bool false)))))⟩] [0, 1, 2, 6, 7, 9, 10, 12, 76]) (.cond (.t 76) (.reg [⟨0, (some 77), none, [], [], (.h (.padd (.t 12) 0))⟩, ⟨1, none, none, [], [], (.store (.t 77) (.k (.d (.int .i64 5))) 1)⟩] [0, 1, 2, 6, 7, 9, 10, 12]) .skip)) (.seq (.seq (.reg [⟨0, (some 78), none, [], [], (.h (.mov (.t 10)))⟩, ⟨1, (some 79), none, [], [], (.callA (.k (.d (.fn 33 [] []))) [(.t 78), (.k (.d (.int .i64 11)))])⟩, ⟨2, (some 80), none, [], [], (.h (.ibin .eql (.t 79) (.k (.d (.int .i64 0)))))⟩] [0, 1, 2, 6, 7, 9, 10, 12, 80]) (.cond (.t 80) (.reg [⟨0, (some 81), none, [], [], (.h (.mov (.t 10)))⟩, ⟨1, (some 82), none, [], [], (.h (.ibin .quo (.t 81) (.k (.d (.int .i64 11)))))⟩, ⟨2, (some 83), none, [], [], (.callA (.k (.d (.fn 33 [] []))) [(.t 82), (.k (.d (.int .i64 33)))])⟩, ⟨3, (some 84), none, [], [], (.h (.ibin .sub (.t 83) (.k (.d (.int .i64 16)))))⟩, ⟨4, (some 85), none, [], [], (.h (.i2f (.t 84)))⟩, ⟨5, (some 86), none, [], [], (.h (.fbin .div (.t 85) (.k (.d (.flt 4620693217682128896)))))⟩, ⟨6, (some 87), none, [], [], (.h (.build [(.d (.int .i64 0)), (.d (.int .i64 0)), (.d (.int .i64 0)), (.d (.flt 0))] [(0, (1, (.k (.d (.int .i64 0))))), (3, (1, (.t 86)))]))⟩, ⟨7, none, none, [], [], (.store (.t 12) (.t 87) 4)⟩] [0, 1, 2, 6, 7, 9, 12]) .skip)) (.reg [⟨0, (some 88), none, [], [], (.h (.padd (.t 7) 1))⟩, ⟨1, (some 89), none, [], [], (.load (.t 88) 1 false)⟩, ⟨2, (some 90), none, [], [], (.load (.t 12) 4 true)⟩, ⟨3, (some 91), none, [], [], (.bslice [(.d (.int .i64 0)), (.d (.int .i64 0)), (.d (.int .i64 0)), (.d (.flt 0))] 1 4 [(0, (4, (.t 90)))] 53)⟩, ⟨4, (some 92), none, [], [], (.app (.t 89) (.t 91) 4 32)⟩, ⟨5, (some 93), none, [], [], (.h (.padd (.t 7) 1))⟩, ⟨6, none, none, [], [], (.store (.t 93) (.t 92) 1)⟩] [0, 1, 2, 6, 7, 9]))))))) (.reg [⟨0, (some 50), none, [], [], (.h (.mov (.t 9)))⟩, ⟨1, (some 51), none, [], [], (.h (.ibin .add (.t 50) (.k (.d (.int .i64 1)))))⟩, ⟨2, (some 9), none, [], [], (.h (.mov (.t 51)))⟩] [0, 1, 2, 6, 7, 9])))
def A_l3_Make_L2 : CA := (.seq (.seq (.reg [⟨0, (some 94), none, [], [], (.h (.mov (.t 13)))⟩, ⟨1, (some 95), none, [], [], (.h (.padd (.t 7) 0))⟩, ⟨2, (some 96), none, [], [], (.load (.t 95) 1 false)⟩, ⟨3, (some 97), none, [], [], (.h (.ibin .lss (.t 94) (.t 96)))⟩] [0, 6, 7, 13, 97]) (.cond (.t 97) .skip (.exit 4))) (.seq (.block 5 (.reg [⟨0, (some 100), none, [], [], (.h (.padd (.t 7) 2))⟩, ⟨1, (some 101), none, [], [], (.load (.t 100) 1 false)⟩, ⟨2, (some 102), none, [], [], (.h (.padd (.t 7) 1))⟩, ⟨3, (some 103), none, [], [], (.load (.t 102) 1 false)⟩, ⟨4, (some 104), none, [], [], (.h (.len (.t 103)))⟩, ⟨5, (some 105), none, [], [], (.h (.ibin .sub (.t 104) (.k (.d (.int .i64 1)))))⟩, ⟨6, (some 106), none, [], [], (.h (.mov (.t 0)))⟩, ⟨7, (some 107), none, [], [], (.h (.ibin .quo (.t 106) (.k (.d (.int .i64 3)))))⟩, ⟨8, (some 108), none, [], [], (.h (.mov (.t 13)))⟩, ⟨9, (some 109), none, [], [], (.h (.ibin .add (.t 107) (.t 108)))⟩, ⟨10, (some 110), none, [], [], (.h (.padd (.t 7) 1))⟩, ⟨11, (some 111), none, [], [], (.load (.t 110) 1 false)⟩, ⟨12, (some 112), none, [], [], (.h (.len (.t 111)))⟩, ⟨13, (some 113), none, [], [], (.h (.mm false (.k (.d (.int .i64 3))) (.t 112)))⟩, ⟨14, (some 114), none, [], [], (.callS 14 (.k (.d (.fn 33 [] []))) [(.t 109), (.t 113)])⟩, ⟨15, (some 115), none, [], [], (.h (.ibin .sub (.t 105) (.t 114)))⟩, ⟨16, (some 116), none, [], [], (.bslice [(.d (.int .i64 0))] 1 1 [(0, (1, (.t 115)))] 3)⟩, ⟨17, (some 117), none, [], [], (.app (.t 101) (.t 116) 1 8)⟩, ⟨18, (some 118), none, [], [], (.h (.padd (.t 7) 2))⟩, ⟨19, none, none, [], [], (.store (.t 118) (.t 117) 1)⟩] [0, 6, 7, 13])) (.reg [⟨0, (some 98), none, [], [], (.h (.mov (.t 13)))⟩, ⟨1, (some 99), none, [], [], (.h (.ibin .add (.t 98) (.k (.d (.int .i64 1)))))⟩, ⟨2, (some 13), none, [], [], (.h (.mov (.t 99)))⟩] [0, 6, 7, 13])))
def A_l3_Make : CA := (.seq (.reg [⟨0, (some 6), none, [], [], (.alloc [(.d (.int .i64 0)), .nil, .nil] 26)⟩] [0, 1, 2, 6]) (.seq (.reg [⟨0, (some 14), none, [], [], (.h (.mov (.t 0)))⟩, ⟨1, (some 15), none, [], [], (.callA (.k (.d (.fn 33 [] []))) [(.t 14), (.k (.d (.int .i64 3)))])⟩, ⟨2, (some 16), none, [], [], (.h (.ibin .add (.k (.d (.int .i64 1))) (.t 15)))⟩, ⟨3, (some 17), none, [], [], (.h (.build [(.d (.int .i64 0)), .nil, .nil] [(0, (1, (.t 16)))]))⟩, ⟨4, (some 7), none, [], [], (.alloc [(.d (.int .i64 0)), .nil, .nil] 26)⟩, ⟨5, none, none, [], [], (.store (.t 7) (.t 17) 3)⟩] [0, 1, 2, 6, 7]) (.seq (.seq (.reg [⟨0, (some 8), none, [], [], (.h (.mov (.k (.d (.int .i64 0)))))⟩] [0, 1, 2, 6, 7, 8]) (.block 0 (.loop A_l3_Make_L0))) (.seq (.reg [⟨0, (some 31), none, [], [], (.h (.padd (.t 7) 1))⟩, ⟨1, (some 32), none, [], [], (.load (.t 31) 1 false)⟩, ⟨2, (some 33), none, [], [], (.h (.mov (.t 0)))⟩, ⟨3, (some 34), none, [], [], (.callS 3 (.k (.d (.fn 33 [] []))) [(.t 33), (.k (.d (.int .i64 17)))])⟩, ⟨4, (some 35), none, [], [], (.h (.ibin .sub (.t 34) (.k (.d (.int .i64 8)))))⟩, ⟨5, (some 36), none, [], [], (.h (.i2f (.t 35)))⟩, ⟨6, (some 37), none, [], [], (.h (.fbin .div (.t 36) (.k (.d (.flt 4616189618054758400)))))⟩, ⟨7, (some 38), none, [], [], (.h (.build [(.d (.int .i64 0)), (.d (.int .i64 0)), (.d (.int .i64 0)), (.d (.flt 0))] [(0, (1, (.k (.d (.int .i64 0))))), (3, (1, (.t 37)))]))⟩, ⟨8, (some 39), none, [], [], (.bslice [(.d (.int .i64 0)), (.d (.int .i64 0)), (.d (.int .i64 0)), (.d (.flt 0))] 1 4 [(0, (4, (.t 38)))] 53)⟩, ⟨9, (some 40), none, [], [], (.app (.t 32) (.t 39) 4 32)⟩, ⟨10, (some 41), none, [], [], (.h (.padd (.t 7) 1))⟩, ⟨11, none, none, [], [], (.store (.t 41) (.t 40) 1)⟩] [0, 1, 2, 6, 7]) (.seq (.seq (.reg [⟨0, (some 9), none, [], [], (.h (.mov (.k (.d (.int .i64 0)))))⟩] [0, 1, 2, 6, 7, 9]) (.block 2 (.loop A_l3_Make_L1))) (.seq (.seq (.reg [⟨0, (some 13), none, [], [], (.h (.mov (.k (.d (.int .i64 0)))))⟩] [0, 6, 7, 13]) (.block 4 (.loop A_l3_Make_L2))) (.seq (.reg [⟨0, (some 119), none, [], [], (.load (.t 7) 3 true)⟩, ⟨1, none, none, [], [], (.store (.t 6) (.t 119) 3)⟩] [6]) .ret)))))))
theorem A_l3_Make_comp : compF Try.prog 15 = some ⟨120, [(6, (some (3, true)))], A_l3_Make.strip⟩ := by kernel_rfl
theorem l3_within_con (a n : Int) (hn : 0 < n) (hn2 : n < 2 ^ 62) : Con Try.prog 33 [fI a, fI n] (fI (a % n)) := by
  rw [← tmod_fix a n hn]
  refine Con_introA A_l3_within_comp rfl mixed ?_
  simp -implicitDefEqProofs only [xC_skip, evS, evT, evU, hv, effC, reduceCtorEq, ↓reduceIte, Nat.reduceEqDiff, Nat.reduceAdd, Nat.reduceMul, Int.reduceToNat, Int.reduceAdd, Int.reduceSub, Int.reduceMul, Int.reduceNeg, Int.reduceLT, Int.reduceLE, Nat.reduceLT, Nat.reduceLeDiff, A_l3_within]
  refine ⟨by omega, ?_⟩
  have h1 := Int.tmod_lt_of_pos a hn
  have h6 := Int.lt_tmod_of_pos a hn
  refine condC_intro (fun h => ?_) (fun h => ?_)
  · simp -implicitDefEqProofs only [xC_skip, evS, evT, evU, hv, effC, reduceCtorEq, ↓reduceIte, Nat.reduceEqDiff, Nat.reduceAdd, Nat.reduceMul, Int.reduceToNat, Int.reduceAdd, Int.reduceSub, Int.reduceMul, Int.reduceNeg, Int.reduceLT, Int.reduceLE, Nat.reduceLT, Nat.reduceLeDiff]
    replace h := of_decide_eq_true h
    rw [wrapI (by omega) (by omega), if_pos h]
    exact endsT_rett rfl (by decide) (by simp [look])
  · replace h := of_decide_eq_false h
    simp -implicitDefEqProofs only [xC_skip, evS, evT, evU, hv, effC, reduceCtorEq, ↓reduceIte, Nat.reduceEqDiff, Nat.reduceAdd, Nat.reduceMul, Int.reduceToNat, Int.reduceAdd, Int.reduceSub, Int.reduceMul, Int.reduceNeg, Int.reduceLT, Int.reduceLE, Nat.reduceLT, Nat.reduceLeDiff]
    rw [if_neg h]
    exact endsT_rett rfl (by decide) (by simp [look])
/-- The i-th operation behind the variables. -/
def mkOp (ns : List Int) (div : Bool) (at' : Nat) (i : Nat) : OpN :=
  let k := ns.getD i 0
  if k % 11 = 0 then ⟨0, 0, 0, fop .div (FloatKind.nearest .f64 (IntKind.i64.wrap (k.tdiv 11) % 33 - 16)) 4620693217682128896⟩
  else ⟨if div = true ∧ k % 7 = 0 then 5 else 2 + k % 3, IntKind.i64.wrap (k.tdiv 4) % at', IntKind.i64.wrap (k.tdiv 40) % at', 0⟩
def varOps (N : Nat) : List OpN := (List.range N).map fun (i : Nat) => ⟨1, i, 0, 0⟩
def baseOps (n : Int) (N : Nat) : List OpN := varOps N ++ [⟨0, 0, 0, fop .div (FloatKind.nearest .f64 (n % 17 - 8)) 4616189618054758400⟩]
def mkOps (n : Int) (ns : List Int) (div : Bool) (N : Nat) : Nat → List OpN
  | 0 => baseOps n N
  | i + 1 => mkOps n ns div N i ++ [mkOp ns div (N + 1 + i) i]
def mkOut (n : Int) (L : Nat) (i : Nat) : Int := (L : Int) - 1 - (IntKind.i64.wrap (IntKind.i64.wrap (n.tdiv 3) + i)) % (min 3 L : Nat)
def mkT (n : Int) (ns : List Int) (div : Bool) : Tp :=
  let N := (n % 3).toNat + 1
  let m := min ns.length 8
  ⟨N, mkOps n ns div N m, (List.range N).map fun i => mkOut n (N + 1 + m) i⟩
theorem mkOps_len (n : Int) (ns : List Int) (div : Bool) (N i : Nat) : (mkOps n ns div N i).length = N + 1 + i := by
  induction i with
  | zero => simp [mkOps, baseOps, varOps]
  | succ i ih => simp [mkOps, ih]; omega
def Oko' (o : OpN) (i n : Nat) : Prop := o.k = 0 ∨ (o.k = 1 ∧ 0 ≤ o.a ∧ o.a < n) ∨ ((o.k = 2 ∨ o.k = 3 ∨ o.k = 4 ∨ o.k = 5) ∧ (0 ≤ o.a ∧ o.a < i) ∧ 0 ≤ o.b ∧ o.b < i)
theorem opc_succ (xs : List OpN) (o : OpN) (i : Nat) (h : xs.length = i) : dcells i (opG xs) ++ [fI o.k, fI o.a, fI o.b, fl o.c] = dcells (i + 1) (opG (xs ++ [o])) := by
  rw [dcells_succ]
  have e : dcells i (opG (xs ++ [o])) = dcells i (opG xs) := by
    unfold dcells
    rw [dcB_congr fun j hj => ?_]
    have : (xs ++ [o]).getD j ⟨0, 0, 0, 0⟩ = xs.getD j ⟨0, 0, 0, 0⟩ := by rw [List.getD_eq_getElem?_getD, List.getElem?_append_left (by omega), ← List.getD_eq_getElem?_getD]
    simp only [opG, this]
  have e2 : (xs ++ [o]).getD i ⟨0, 0, 0, 0⟩ = o := by rw [List.getD_eq_getElem?_getD, List.getElem?_append_right (by omega), h, Nat.sub_self]; rfl
  rw [e]
  congr 1
  simp only [opG, e2, List.map_cons, List.map_nil]
theorem opc_len (xs : List OpN) (i : Nat) : (dcells i (opG xs)).length = i * 4 := dcells_len i fun _ _ => rfl
theorem varOps_succ (i : Nat) : varOps (i + 1) = varOps i ++ [⟨1, i, 0, 0⟩] := by simp [varOps, List.range_succ]
theorem varOps_len (i : Nat) : (varOps i).length = i := by simp [varOps]
abbrev m0S (n : Int) (ns : List Int) (div : Bool) (i : Nat) : Sl := [(0, fI n), (1, .d (rowI ns)), (2, fB div), (6, .ptr 0 0 0 3), (7, .ptr 5 0 0 3), (8, fI i)]
abbrev m1S (n : Int) (ns : List Int) (div : Bool) (i : Nat) : Sl := [(0, fI n), (1, .d (rowI ns)), (2, fB div), (6, .ptr 0 0 0 3), (7, .ptr 5 0 0 3), (9, fI i)]
abbrev mTop : List V := [fI 0, .nil, .nil]
set_option maxRecDepth 8000 in
theorem make3_L0 (n : Int) (ns : List Int) (div : Bool) (N : Nat) (hN : 0 < N ∧ N ≤ 3) (Q : Ex → T → Prop)
    (hQ : ∀ w, Q (.exit 0) ⟨m0S n ns div N ++ [w], [(11, [dcells N (opG (varOps N))]), (5, [[fI N, .sl 11 0 0 N 4 (N * 4), .nil]]), (0, [mTop])]⟩) :
    WA Try.prog (fun _ => False) 120 (.loop A_l3_Make_L0) Q ⟨m0S n ns div 0, [(5, [[fI N, .nil, .nil]]), (0, [mTop])]⟩ := by
  refine WA_forW (n := N) (fun c s => ∃ i, c + i = N ∧ ((i = 0 ∧ s = ⟨m0S n ns div 0, [(5, [[fI N, .nil, .nil]]), (0, [mTop])]⟩) ∨ (0 < i ∧ s = ⟨m0S n ns div i, [(11, [dcells i (opG (varOps i))]), (5, [[fI N, .sl 11 0 0 i 4 (i * 4), .nil]]), (0, [mTop])]⟩))) (Le.refl _) ⟨0, rfl, .inl ⟨rfl, rfl⟩⟩ ?_
  rintro c s ⟨i, hc, ⟨rfl, rfl⟩ | ⟨hi, rfl⟩⟩
  · simp -implicitDefEqProofs only [xC_skip, evS, evT, evU, hv, effC, reduceCtorEq, ↓reduceIte, Nat.reduceEqDiff, Nat.reduceAdd, Nat.reduceMul, Int.reduceToNat, Int.reduceAdd, Int.reduceSub, Int.reduceMul, Int.reduceNeg, Int.reduceLT, Int.reduceLE, Nat.reduceLT, Nat.reduceLeDiff, A_l3_Make_L0]
    have h0 : decide ((0 : Int) < (N : Int)) = true := by simp; omega
    simp -implicitDefEqProofs only [xC_skip, evS, evT, evU, hv, effC, reduceCtorEq, ↓reduceIte, Nat.reduceEqDiff, Nat.reduceAdd, Nat.reduceMul, Int.reduceToNat, Int.reduceAdd, Int.reduceSub, Int.reduceMul, Int.reduceNeg, Int.reduceLT, Int.reduceLE, Nat.reduceLT, Nat.reduceLeDiff, h0]
    rw [show IntKind.i64.wrap 1 = ((0 + 1 : Nat) : Int) from by decide]
    exact ⟨c - 1, _, by omega, LeT.only (L' := [(11, [dcells (0 + 1) (opG (varOps (0 + 1)))]), (5, [[fI N, .sl 11 0 0 (0 + 1) 4 ((0 + 1) * 4), .nil]]), (0, [mTop])]) (fun X => X != 10) (fun _ h => h) rfl (by simp [KpS_cons, KpS_nil, KpH_cons, KpH_nil, KpF_cons, KpF_nil, KpF_rows, KpA_cons, KpA_nil, KpA_app, KpA_rowV, KpA_rowIV, KpA_dcells, KpA_outC, Kp_any, Kp_nilv, Kp_d, Kp_ptr, Kp_sl, Kp_agg, Kp_tup, Kp_fn, get_cons, get_nil]) (by simp [KpS_cons, KpS_nil, KpH_cons, KpH_nil, KpF_cons, KpF_nil, KpF_rows, KpA_cons, KpA_nil, KpA_app, KpA_rowV, KpA_rowIV, KpA_dcells, KpA_outC, Kp_any, Kp_nilv, Kp_d, Kp_ptr, Kp_sl, Kp_agg, Kp_tup, Kp_fn, get_cons, get_nil]), 0 + 1, by omega, .inr ⟨by omega, rfl⟩⟩
  · have hl := opc_len (varOps i) i
    simp -implicitDefEqProofs only [xC_skip, evS, evT, evU, hv, effC, reduceCtorEq, ↓reduceIte, Nat.reduceEqDiff, Nat.reduceAdd, Nat.reduceMul, Int.reduceToNat, Int.reduceAdd, Int.reduceSub, Int.reduceMul, Int.reduceNeg, Int.reduceLT, Int.reduceLE, Nat.reduceLT, Nat.reduceLeDiff, A_l3_Make_L0]
    refine condC_intro (fun h => ?_) (fun h => ?_)
    · replace h := of_decide_eq_true h
      simp -implicitDefEqProofs only [xC_skip, evS, evT, evU, hv, effC, reduceCtorEq, ↓reduceIte, Nat.reduceEqDiff, Nat.reduceAdd, Nat.reduceMul, Int.reduceToNat, Int.reduceAdd, Int.reduceSub, Int.reduceMul, Int.reduceNeg, Int.reduceLT, Int.reduceLE, Nat.reduceLT, Nat.reduceLeDiff]
      (repeat (with_reducible refine And.intro (by omega) ?_))
      have e := opc_succ (varOps i) ⟨1, i, 0, 0⟩ i (varOps_len i)
      rw [← varOps_succ] at e
      have e4 : i * 4 + 4 = (i + 1) * 4 := by omega
      rw [wrapI (by omega) (by omega), e4]
      simp only [] at e
      rw [e]
      exact ⟨c - 1, _, by omega, LeT.only (fun X => decide (X ≤ 11)) (fun _ h => h) rfl (by simp [KpS_cons, KpS_nil, KpH_cons, KpH_nil, KpF_cons, KpF_nil, KpF_rows, KpA_cons, KpA_nil, KpA_app, KpA_rowV, KpA_rowIV, KpA_dcells, KpA_outC, Kp_any, Kp_nilv, Kp_d, Kp_ptr, Kp_sl, Kp_agg, Kp_tup, Kp_fn, get_cons, get_nil]) (by simp [KpS_cons, KpS_nil, KpH_cons, KpH_nil, KpF_cons, KpF_nil, KpF_rows, KpA_cons, KpA_nil, KpA_app, KpA_rowV, KpA_rowIV, KpA_dcells, KpA_outC, Kp_any, Kp_nilv, Kp_d, Kp_ptr, Kp_sl, Kp_agg, Kp_tup, Kp_fn, get_cons, get_nil]), i + 1, by omega, .inr ⟨by omega, rfl⟩⟩
    · replace h := of_decide_eq_false h
      have e : i = N := by omega
      subst e
      simp -implicitDefEqProofs only [xC_skip, evS, evT, evU, hv, effC, reduceCtorEq, ↓reduceIte, Nat.reduceEqDiff, Nat.reduceAdd, Nat.reduceMul, Int.reduceToNat, Int.reduceAdd, Int.reduceSub, Int.reduceMul, Int.reduceNeg, Int.reduceLT, Int.reduceLE, Nat.reduceLT, Nat.reduceLeDiff]
      exact hQ _
abbrev m1T (n : Int) (ns : List Int) (div : Bool) (N i : Nat) : T := ⟨m1S n ns div i, [(11, [dcells (N + 1 + i) (opG (mkOps n ns div N i))]), (5, [[fI N, .sl 11 0 0 (N + 1 + i) 4 ((N + 1 + i) * 4), .nil]]), (0, [mTop])]⟩
set_option maxRecDepth 8000 in
theorem make3_L1 (n : Int) (ns : List Int) (div : Bool) (N : Nat) (hN : 0 < N ∧ N ≤ 3) (hns : ns.length < 2 ^ 62) (Q : Ex → T → Prop)
    (hQ : ∀ w, Q (.exit 2) ⟨m1S n ns div (min ns.length 8) ++ [w], (m1T n ns div N (min ns.length 8)).L⟩) :
    WA Try.prog (fun _ => False) 120 (.loop A_l3_Make_L1) Q (m1T n ns div N 0) := by
  refine WA_forW (n := min ns.length 8) (fun c s => ∃ i, c + i = min ns.length 8 ∧ s = m1T n ns div N i) (Le.refl _) ⟨0, by omega, rfl⟩ ?_
  rintro c s ⟨i, hc, rfl⟩
  have hl := mkOps_len n ns div N i
  have hcl := opc_len (mkOps n ns div N i) (N + 1 + i)
  have hnx : mkOps n ns div N (i + 1) = mkOps n ns div N i ++ [mkOp ns div (N + 1 + i) i] := rfl
  simp -implicitDefEqProofs only [xC_skip, evS, evT, evU, hv, effC, reduceCtorEq, ↓reduceIte, Nat.reduceEqDiff, Nat.reduceAdd, Nat.reduceMul, Int.reduceToNat, Int.reduceAdd, Int.reduceSub, Int.reduceMul, Int.reduceNeg, Int.reduceLT, Int.reduceLE, Nat.reduceLT, Nat.reduceLeDiff, A_l3_Make_L1]
  by_cases h1 : i < ns.length
  · have h1' : decide (i < ns.length) = true := decide_eq_true h1
    by_cases h2 : i < 8
    · have h2' : decide ((i : Int) < 8) = true := by simp; omega
      simp -implicitDefEqProofs only [xC_skip, evS, evT, evU, hv, effC, reduceCtorEq, ↓reduceIte, Nat.reduceEqDiff, Nat.reduceAdd, Nat.reduceMul, Int.reduceToNat, Int.reduceAdd, Int.reduceSub, Int.reduceMul, Int.reduceNeg, Int.reduceLT, Int.reduceLE, Nat.reduceLT, Nat.reduceLeDiff, h1', h2']
      (repeat (with_reducible refine And.intro (by omega) ?_))
      generalize hk : ns.getD i 0 = k
      have ho : mkOp ns div (N + 1 + i) i = if k % 11 = 0 then ⟨0, 0, 0, fop .div (FloatKind.nearest .f64 (IntKind.i64.wrap (k.tdiv 11) % 33 - 16)) 4620693217682128896⟩ else ⟨if div = true ∧ k % 7 = 0 then 5 else 2 + k % 3, IntKind.i64.wrap (k.tdiv 4) % (N + 1 + i : Nat), IntKind.i64.wrap (k.tdiv 40) % (N + 1 + i : Nat), 0⟩ := by unfold mkOp; rw [hk]
      generalize mkOp ns div (N + 1 + i) i = o at ho hnx
      first | refine callG_con (l3_within_con k 3 (by decide) (by decide)) rfl ?_ | refine callCG_con (l3_within_con k 3 (by decide) (by decide)) rfl ?_ | refine callSG_con (l3_within_con k 3 (by decide) (by decide)) rfl ?_
      have q1 := Int.emod_nonneg k (by decide : (3 : Int) ≠ 0)
      have q2 := Int.emod_lt_of_pos k (by decide : (0 : Int) < 3)
      have w2 : IntKind.i64.wrap (2 + k % 3) = 2 + k % 3 := wrapI (by omega) (by omega)
      simp -implicitDefEqProofs only [xC_skip, evS, evT, evU, hv, effC, reduceCtorEq, ↓reduceIte, Nat.reduceEqDiff, Nat.reduceAdd, Nat.reduceMul, Int.reduceToNat, Int.reduceAdd, Int.reduceSub, Int.reduceMul, Int.reduceNeg, Int.reduceLT, Int.reduceLE, Nat.reduceLT, Nat.reduceLeDiff, w2]
      refine ⟨by decide, ?_⟩
      first | refine callG_con (l3_within_con (IntKind.i64.wrap (k.tdiv 4)) (N + 1 + i : Nat) (by omega) (by omega)) rfl ?_ | refine callCG_con (l3_within_con (IntKind.i64.wrap (k.tdiv 4)) (N + 1 + i : Nat) (by omega) (by omega)) rfl ?_ | refine callSG_con (l3_within_con (IntKind.i64.wrap (k.tdiv 4)) (N + 1 + i : Nat) (by omega) (by omega)) rfl ?_
      simp -implicitDefEqProofs only [xC_skip, evS, evT, evU, hv, effC, reduceCtorEq, ↓reduceIte, Nat.reduceEqDiff, Nat.reduceAdd, Nat.reduceMul, Int.reduceToNat, Int.reduceAdd, Int.reduceSub, Int.reduceMul, Int.reduceNeg, Int.reduceLT, Int.reduceLE, Nat.reduceLT, Nat.reduceLeDiff]
      refine ⟨by decide, ?_⟩
      first | refine callG_con (l3_within_con (IntKind.i64.wrap (k.tdiv 40)) (N + 1 + i : Nat) (by omega) (by omega)) rfl ?_ | refine callCG_con (l3_within_con (IntKind.i64.wrap (k.tdiv 40)) (N + 1 + i : Nat) (by omega) (by omega)) rfl ?_ | refine callSG_con (l3_within_con (IntKind.i64.wrap (k.tdiv 40)) (N + 1 + i : Nat) (by omega) (by omega)) rfl ?_
      simp -implicitDefEqProofs only [xC_skip, evS, evT, evU, hv, effC, reduceCtorEq, ↓reduceIte, Nat.reduceEqDiff, Nat.reduceAdd, Nat.reduceMul, Int.reduceToNat, Int.reduceAdd, Int.reduceSub, Int.reduceMul, Int.reduceNeg, Int.reduceLT, Int.reduceLE, Nat.reduceLT, Nat.reduceLeDiff]
      cases div
      · rw [if_neg (by simp : ¬ (false = true ∧ k % 7 = 0))] at ho
        simp -implicitDefEqProofs only [xC_skip, evS, evT, evU, hv, effC, reduceCtorEq, ↓reduceIte, Nat.reduceEqDiff, Nat.reduceAdd, Nat.reduceMul, Int.reduceToNat, Int.reduceAdd, Int.reduceSub, Int.reduceMul, Int.reduceNeg, Int.reduceLT, Int.reduceLE, Nat.reduceLT, Nat.reduceLeDiff, hcl]
        first | refine callG_con (l3_within_con k 11 (by decide) (by decide)) rfl ?_ | refine callCG_con (l3_within_con k 11 (by decide) (by decide)) rfl ?_ | refine callSG_con (l3_within_con k 11 (by decide) (by decide)) rfl ?_
        by_cases h11 : k % 11 = 0
        · rw [if_pos h11] at ho
          have h11' : (k % 11 == 0) = true := by simpa using h11
          simp -implicitDefEqProofs only [xC_skip, evS, evT, evU, hv, effC, reduceCtorEq, ↓reduceIte, Nat.reduceEqDiff, Nat.reduceAdd, Nat.reduceMul, Int.reduceToNat, Int.reduceAdd, Int.reduceSub, Int.reduceMul, Int.reduceNeg, Int.reduceLT, Int.reduceLE, Nat.reduceLT, Nat.reduceLeDiff, h11']
          refine ⟨by decide, ?_⟩
          first | refine callG_con (l3_within_con (IntKind.i64.wrap (k.tdiv 11)) 33 (by decide) (by decide)) rfl ?_ | refine callCG_con (l3_within_con (IntKind.i64.wrap (k.tdiv 11)) 33 (by decide) (by decide)) rfl ?_ | refine callSG_con (l3_within_con (IntKind.i64.wrap (k.tdiv 11)) 33 (by decide) (by decide)) rfl ?_
          have v1 := Int.emod_nonneg (IntKind.i64.wrap (k.tdiv 11)) (by decide : (33 : Int) ≠ 0)
          have v2 := Int.emod_lt_of_pos (IntKind.i64.wrap (k.tdiv 11)) (by decide : (0 : Int) < 33)
          have v3 : IntKind.i64.wrap (IntKind.i64.wrap (k.tdiv 11) % 33 - 16) = IntKind.i64.wrap (k.tdiv 11) % 33 - 16 := wrapI (by omega) (by omega)
          simp -implicitDefEqProofs only [xC_skip, evS, evT, evU, hv, effC, reduceCtorEq, ↓reduceIte, Nat.reduceEqDiff, Nat.reduceAdd, Nat.reduceMul, Int.reduceToNat, Int.reduceAdd, Int.reduceSub, Int.reduceMul, Int.reduceNeg, Int.reduceLT, Int.reduceLE, Nat.reduceLT, Nat.reduceLeDiff, v3]
          have e := opc_succ (mkOps n ns _ N i) o (N + 1 + i) hl
          rw [← hnx, ho] at e
          simp only [] at e
          have e4 : (N + 1 + i) * 4 + 4 = (N + 1 + (i + 1)) * 4 := by omega
          have e5 : N + 1 + i + 1 = N + 1 + (i + 1) := by omega
          (repeat (with_reducible refine And.intro (by omega) ?_))
          rw [wrapI (by omega) (by omega), e4, e, e5]
          exact ⟨c - 1, _, by omega, LeT.only (fun X => X == 11 || X == 5 || X == 0) (fun _ h => h) rfl (by simp [KpS_cons, KpS_nil, KpH_cons, KpH_nil, KpF_cons, KpF_nil, KpF_rows, KpA_cons, KpA_nil, KpA_app, KpA_rowV, KpA_rowIV, KpA_dcells, KpA_outC, Kp_any, Kp_nilv, Kp_d, Kp_ptr, Kp_sl, Kp_agg, Kp_tup, Kp_fn, get_cons, get_nil]) (by simp [KpS_cons, KpS_nil, KpH_cons, KpH_nil, KpF_cons, KpF_nil, KpF_rows, KpA_cons, KpA_nil, KpA_app, KpA_rowV, KpA_rowIV, KpA_dcells, KpA_outC, Kp_any, Kp_nilv, Kp_d, Kp_ptr, Kp_sl, Kp_agg, Kp_tup, Kp_fn, get_cons, get_nil]), i + 1, by omega, rfl⟩
        · rw [if_neg h11] at ho
          have h11' : (k % 11 == 0) = false := by simpa using h11
          simp -implicitDefEqProofs only [xC_skip, evS, evT, evU, hv, effC, reduceCtorEq, ↓reduceIte, Nat.reduceEqDiff, Nat.reduceAdd, Nat.reduceMul, Int.reduceToNat, Int.reduceAdd, Int.reduceSub, Int.reduceMul, Int.reduceNeg, Int.reduceLT, Int.reduceLE, Nat.reduceLT, Nat.reduceLeDiff, h11']
          have e := opc_succ (mkOps n ns _ N i) o (N + 1 + i) hl
          rw [← hnx, ho] at e
          simp only [] at e
          have e4 : (N + 1 + i) * 4 + 4 = (N + 1 + (i + 1)) * 4 := by omega
          have e5 : N + 1 + i + 1 = N + 1 + (i + 1) := by omega
          (repeat (with_reducible refine And.intro (by omega) ?_))
          rw [wrapI (by omega) (by omega), e4, e, e5]
          exact ⟨c - 1, _, by omega, LeT.only (fun X => X == 11 || X == 5 || X == 0) (fun _ h => h) rfl (by simp [KpS_cons, KpS_nil, KpH_cons, KpH_nil, KpF_cons, KpF_nil, KpF_rows, KpA_cons, KpA_nil, KpA_app, KpA_rowV, KpA_rowIV, KpA_dcells, KpA_outC, Kp_any, Kp_nilv, Kp_d, Kp_ptr, Kp_sl, Kp_agg, Kp_tup, Kp_fn, get_cons, get_nil]) (by simp [KpS_cons, KpS_nil, KpH_cons, KpH_nil, KpF_cons, KpF_nil, KpF_rows, KpA_cons, KpA_nil, KpA_app, KpA_rowV, KpA_rowIV, KpA_dcells, KpA_outC, Kp_any, Kp_nilv, Kp_d, Kp_ptr, Kp_sl, Kp_agg, Kp_tup, Kp_fn, get_cons, get_nil]), i + 1, by omega, rfl⟩
      · by_cases h7 : k % 7 = 0
        · have hd : (true = true ∧ k % 7 = 0) := ⟨rfl, h7⟩
          rw [if_pos hd] at ho
          have h7' : (k % 7 == 0) = true := by simpa using h7
          simp -implicitDefEqProofs only [xC_skip, evS, evT, evU, hv, effC, reduceCtorEq, ↓reduceIte, Nat.reduceEqDiff, Nat.reduceAdd, Nat.reduceMul, Int.reduceToNat, Int.reduceAdd, Int.reduceSub, Int.reduceMul, Int.reduceNeg, Int.reduceLT, Int.reduceLE, Nat.reduceLT, Nat.reduceLeDiff]
          first | refine callG_con (l3_within_con k 7 (by decide) (by decide)) rfl ?_ | refine callCG_con (l3_within_con k 7 (by decide) (by decide)) rfl ?_ | refine callSG_con (l3_within_con k 7 (by decide) (by decide)) rfl ?_
          simp -implicitDefEqProofs only [xC_skip, evS, evT, evU, hv, effC, reduceCtorEq, ↓reduceIte, Nat.reduceEqDiff, Nat.reduceAdd, Nat.reduceMul, Int.reduceToNat, Int.reduceAdd, Int.reduceSub, Int.reduceMul, Int.reduceNeg, Int.reduceLT, Int.reduceLE, Nat.reduceLT, Nat.reduceLeDiff, h7']
          first | refine callG_con (l3_within_con k 11 (by decide) (by decide)) rfl ?_ | refine callCG_con (l3_within_con k 11 (by decide) (by decide)) rfl ?_ | refine callSG_con (l3_within_con k 11 (by decide) (by decide)) rfl ?_
          by_cases h11 : k % 11 = 0
          · rw [if_pos h11] at ho
            have h11' : (k % 11 == 0) = true := by simpa using h11
            simp -implicitDefEqProofs only [xC_skip, evS, evT, evU, hv, effC, reduceCtorEq, ↓reduceIte, Nat.reduceEqDiff, Nat.reduceAdd, Nat.reduceMul, Int.reduceToNat, Int.reduceAdd, Int.reduceSub, Int.reduceMul, Int.reduceNeg, Int.reduceLT, Int.reduceLE, Nat.reduceLT, Nat.reduceLeDiff, h11']
            refine ⟨by decide, ?_⟩
            first | refine callG_con (l3_within_con (IntKind.i64.wrap (k.tdiv 11)) 33 (by decide) (by decide)) rfl ?_ | refine callCG_con (l3_within_con (IntKind.i64.wrap (k.tdiv 11)) 33 (by decide) (by decide)) rfl ?_ | refine callSG_con (l3_within_con (IntKind.i64.wrap (k.tdiv 11)) 33 (by decide) (by decide)) rfl ?_
            have v1 := Int.emod_nonneg (IntKind.i64.wrap (k.tdiv 11)) (by decide : (33 : Int) ≠ 0)
            have v2 := Int.emod_lt_of_pos (IntKind.i64.wrap (k.tdiv 11)) (by decide : (0 : Int) < 33)
            have v3 : IntKind.i64.wrap (IntKind.i64.wrap (k.tdiv 11) % 33 - 16) = IntKind.i64.wrap (k.tdiv 11) % 33 - 16 := wrapI (by omega) (by omega)
            simp -implicitDefEqProofs only [xC_skip, evS, evT, evU, hv, effC, reduceCtorEq, ↓reduceIte, Nat.reduceEqDiff, Nat.reduceAdd, Nat.reduceMul, Int.reduceToNat, Int.reduceAdd, Int.reduceSub, Int.reduceMul, Int.reduceNeg, Int.reduceLT, Int.reduceLE, Nat.reduceLT, Nat.reduceLeDiff, v3]
            have e := opc_succ (mkOps n ns _ N i) o (N + 1 + i) hl
            rw [← hnx, ho] at e
            simp only [] at e
            have e4 : (N + 1 + i) * 4 + 4 = (N + 1 + (i + 1)) * 4 := by omega
            have e5 : N + 1 + i + 1 = N + 1 + (i + 1) := by omega
            (repeat (with_reducible refine And.intro (by omega) ?_))
            rw [wrapI (by omega) (by omega), e4, e, e5]
            exact ⟨c - 1, _, by omega, LeT.only (fun X => X == 11 || X == 5 || X == 0) (fun _ h => h) rfl (by simp [KpS_cons, KpS_nil, KpH_cons, KpH_nil, KpF_cons, KpF_nil, KpF_rows, KpA_cons, KpA_nil, KpA_app, KpA_rowV, KpA_rowIV, KpA_dcells, KpA_outC, Kp_any, Kp_nilv, Kp_d, Kp_ptr, Kp_sl, Kp_agg, Kp_tup, Kp_fn, get_cons, get_nil]) (by simp [KpS_cons, KpS_nil, KpH_cons, KpH_nil, KpF_cons, KpF_nil, KpF_rows, KpA_cons, KpA_nil, KpA_app, KpA_rowV, KpA_rowIV, KpA_dcells, KpA_outC, Kp_any, Kp_nilv, Kp_d, Kp_ptr, Kp_sl, Kp_agg, Kp_tup, Kp_fn, get_cons, get_nil]), i + 1, by omega, rfl⟩
          · rw [if_neg h11] at ho
            have h11' : (k % 11 == 0) = false := by simpa using h11
            simp -implicitDefEqProofs only [xC_skip, evS, evT, evU, hv, effC, reduceCtorEq, ↓reduceIte, Nat.reduceEqDiff, Nat.reduceAdd, Nat.reduceMul, Int.reduceToNat, Int.reduceAdd, Int.reduceSub, Int.reduceMul, Int.reduceNeg, Int.reduceLT, Int.reduceLE, Nat.reduceLT, Nat.reduceLeDiff, h11']
            have e := opc_succ (mkOps n ns _ N i) o (N + 1 + i) hl
            rw [← hnx, ho] at e
            simp only [] at e
            have e4 : (N + 1 + i) * 4 + 4 = (N + 1 + (i + 1)) * 4 := by omega
            have e5 : N + 1 + i + 1 = N + 1 + (i + 1) := by omega
            (repeat (with_reducible refine And.intro (by omega) ?_))
            rw [wrapI (by omega) (by omega), e4, e, e5]
            exact ⟨c - 1, _, by omega, LeT.only (fun X => X == 11 || X == 5 || X == 0) (fun _ h => h) rfl (by simp [KpS_cons, KpS_nil, KpH_cons, KpH_nil, KpF_cons, KpF_nil, KpF_rows, KpA_cons, KpA_nil, KpA_app, KpA_rowV, KpA_rowIV, KpA_dcells, KpA_outC, Kp_any, Kp_nilv, Kp_d, Kp_ptr, Kp_sl, Kp_agg, Kp_tup, Kp_fn, get_cons, get_nil]) (by simp [KpS_cons, KpS_nil, KpH_cons, KpH_nil, KpF_cons, KpF_nil, KpF_rows, KpA_cons, KpA_nil, KpA_app, KpA_rowV, KpA_rowIV, KpA_dcells, KpA_outC, Kp_any, Kp_nilv, Kp_d, Kp_ptr, Kp_sl, Kp_agg, Kp_tup, Kp_fn, get_cons, get_nil]), i + 1, by omega, rfl⟩
        · have hd : ¬ (true = true ∧ k % 7 = 0) := fun h => h7 h.2
          rw [if_neg hd] at ho
          have h7' : (k % 7 == 0) = false := by simpa using h7
          simp -implicitDefEqProofs only [xC_skip, evS, evT, evU, hv, effC, reduceCtorEq, ↓reduceIte, Nat.reduceEqDiff, Nat.reduceAdd, Nat.reduceMul, Int.reduceToNat, Int.reduceAdd, Int.reduceSub, Int.reduceMul, Int.reduceNeg, Int.reduceLT, Int.reduceLE, Nat.reduceLT, Nat.reduceLeDiff]
          first | refine callG_con (l3_within_con k 7 (by decide) (by decide)) rfl ?_ | refine callCG_con (l3_within_con k 7 (by decide) (by decide)) rfl ?_ | refine callSG_con (l3_within_con k 7 (by decide) (by decide)) rfl ?_
          simp -implicitDefEqProofs only [xC_skip, evS, evT, evU, hv, effC, reduceCtorEq, ↓reduceIte, Nat.reduceEqDiff, Nat.reduceAdd, Nat.reduceMul, Int.reduceToNat, Int.reduceAdd, Int.reduceSub, Int.reduceMul, Int.reduceNeg, Int.reduceLT, Int.reduceLE, Nat.reduceLT, Nat.reduceLeDiff, h7']
          first | refine callG_con (l3_within_con k 11 (by decide) (by decide)) rfl ?_ | refine callCG_con (l3_within_con k 11 (by decide) (by decide)) rfl ?_ | refine callSG_con (l3_within_con k 11 (by decide) (by decide)) rfl ?_
          by_cases h11 : k % 11 = 0
          · rw [if_pos h11] at ho
            have h11' : (k % 11 == 0) = true := by simpa using h11
            simp -implicitDefEqProofs only [xC_skip, evS, evT, evU, hv, effC, reduceCtorEq, ↓reduceIte, Nat.reduceEqDiff, Nat.reduceAdd, Nat.reduceMul, Int.reduceToNat, Int.reduceAdd, Int.reduceSub, Int.reduceMul, Int.reduceNeg, Int.reduceLT, Int.reduceLE, Nat.reduceLT, Nat.reduceLeDiff, h11']
            refine ⟨by decide, ?_⟩
            first | refine callG_con (l3_within_con (IntKind.i64.wrap (k.tdiv 11)) 33 (by decide) (by decide)) rfl ?_ | refine callCG_con (l3_within_con (IntKind.i64.wrap (k.tdiv 11)) 33 (by decide) (by decide)) rfl ?_ | refine callSG_con (l3_within_con (IntKind.i64.wrap (k.tdiv 11)) 33 (by decide) (by decide)) rfl ?_
            have v1 := Int.emod_nonneg (IntKind.i64.wrap (k.tdiv 11)) (by decide : (33 : Int) ≠ 0)
            have v2 := Int.emod_lt_of_pos (IntKind.i64.wrap (k.tdiv 11)) (by decide : (0 : Int) < 33)
            have v3 : IntKind.i64.wrap (IntKind.i64.wrap (k.tdiv 11) % 33 - 16) = IntKind.i64.wrap (k.tdiv 11) % 33 - 16 := wrapI (by omega) (by omega)
            simp -implicitDefEqProofs only [xC_skip, evS, evT, evU, hv, effC, reduceCtorEq, ↓reduceIte, Nat.reduceEqDiff, Nat.reduceAdd, Nat.reduceMul, Int.reduceToNat, Int.reduceAdd, Int.reduceSub, Int.reduceMul, Int.reduceNeg, Int.reduceLT, Int.reduceLE, Nat.reduceLT, Nat.reduceLeDiff, v3]
            have e := opc_succ (mkOps n ns _ N i) o (N + 1 + i) hl
            rw [← hnx, ho] at e
            simp only [] at e
            have e4 : (N + 1 + i) * 4 + 4 = (N + 1 + (i + 1)) * 4 := by omega
            have e5 : N + 1 + i + 1 = N + 1 + (i + 1) := by omega
            (repeat (with_reducible refine And.intro (by omega) ?_))
            rw [wrapI (by omega) (by omega), e4, e, e5]
            exact ⟨c - 1, _, by omega, LeT.only (fun X => X == 11 || X == 5 || X == 0) (fun _ h => h) rfl (by simp [KpS_cons, KpS_nil, KpH_cons, KpH_nil, KpF_cons, KpF_nil, KpF_rows, KpA_cons, KpA_nil, KpA_app, KpA_rowV, KpA_rowIV, KpA_dcells, KpA_outC, Kp_any, Kp_nilv, Kp_d, Kp_ptr, Kp_sl, Kp_agg, Kp_tup, Kp_fn, get_cons, get_nil]) (by simp [KpS_cons, KpS_nil, KpH_cons, KpH_nil, KpF_cons, KpF_nil, KpF_rows, KpA_cons, KpA_nil, KpA_app, KpA_rowV, KpA_rowIV, KpA_dcells, KpA_outC, Kp_any, Kp_nilv, Kp_d, Kp_ptr, Kp_sl, Kp_agg, Kp_tup, Kp_fn, get_cons, get_nil]), i + 1, by omega, rfl⟩
          · rw [if_neg h11] at ho
            have h11' : (k % 11 == 0) = false := by simpa using h11
            simp -implicitDefEqProofs only [xC_skip, evS, evT, evU, hv, effC, reduceCtorEq, ↓reduceIte, Nat.reduceEqDiff, Nat.reduceAdd, Nat.reduceMul, Int.reduceToNat, Int.reduceAdd, Int.reduceSub, Int.reduceMul, Int.reduceNeg, Int.reduceLT, Int.reduceLE, Nat.reduceLT, Nat.reduceLeDiff, h11']
            have e := opc_succ (mkOps n ns _ N i) o (N + 1 + i) hl
            rw [← hnx, ho] at e
            simp only [] at e
            have e4 : (N + 1 + i) * 4 + 4 = (N + 1 + (i + 1)) * 4 := by omega
            have e5 : N + 1 + i + 1 = N + 1 + (i + 1) := by omega
            (repeat (with_reducible refine And.intro (by omega) ?_))
            rw [wrapI (by omega) (by omega), e4, e, e5]
            exact ⟨c - 1, _, by omega, LeT.only (fun X => X == 11 || X == 5 || X == 0) (fun _ h => h) rfl (by simp [KpS_cons, KpS_nil, KpH_cons, KpH_nil, KpF_cons, KpF_nil, KpF_rows, KpA_cons, KpA_nil, KpA_app, KpA_rowV, KpA_rowIV, KpA_dcells, KpA_outC, Kp_any, Kp_nilv, Kp_d, Kp_ptr, Kp_sl, Kp_agg, Kp_tup, Kp_fn, get_cons, get_nil]) (by simp [KpS_cons, KpS_nil, KpH_cons, KpH_nil, KpF_cons, KpF_nil, KpF_rows, KpA_cons, KpA_nil, KpA_app, KpA_rowV, KpA_rowIV, KpA_dcells, KpA_outC, Kp_any, Kp_nilv, Kp_d, Kp_ptr, Kp_sl, Kp_agg, Kp_tup, Kp_fn, get_cons, get_nil]), i + 1, by omega, rfl⟩
    · have h2' : decide ((i : Int) < 8) = false := by simp; omega
      have e : i = min ns.length 8 := by omega
      simp -implicitDefEqProofs only [xC_skip, evS, evT, evU, hv, effC, reduceCtorEq, ↓reduceIte, Nat.reduceEqDiff, Nat.reduceAdd, Nat.reduceMul, Int.reduceToNat, Int.reduceAdd, Int.reduceSub, Int.reduceMul, Int.reduceNeg, Int.reduceLT, Int.reduceLE, Nat.reduceLT, Nat.reduceLeDiff, h1', h2']
      rw [e]
      exact hQ _
  · have h1' : decide (i < ns.length) = false := decide_eq_false h1
    have e : i = min ns.length 8 := by omega
    simp -implicitDefEqProofs only [xC_skip, evS, evT, evU, hv, effC, reduceCtorEq, ↓reduceIte, Nat.reduceEqDiff, Nat.reduceAdd, Nat.reduceMul, Int.reduceToNat, Int.reduceAdd, Int.reduceSub, Int.reduceMul, Int.reduceNeg, Int.reduceLT, Int.reduceLE, Nat.reduceLT, Nat.reduceLeDiff, h1']
    rw [e]
    exact hQ _
def mkOutL (n : Int) (L i : Nat) : List Int := (List.range i).map fun j => mkOut n L j
theorem mkOutL_succ (n : Int) (L i : Nat) : rowIV (mkOutL n L i) ++ [fI (mkOut n L i)] = rowIV (mkOutL n L (i + 1)) := by simp [mkOutL, rowIV, List.range_succ]
theorem mkOutL_len (n : Int) (L i : Nat) : (mkOutL n L i).length = i := by simp [mkOutL]
abbrev m2S (n : Int) (i : Nat) : Sl := [(0, fI n), (6, .ptr 0 0 0 3), (7, .ptr 5 0 0 3), (13, fI i)]
set_option maxRecDepth 8000 in
theorem make3_L2 (n : Int) (N M : Nat) (ops : List OpN) (hM : ops.length = M) (hN : 0 < N ∧ N ≤ 3) (hM2 : 2 ≤ M ∧ M ≤ 100) (Q : Ex → T → Prop)
    (hQ : ∀ w, Q (.exit 4) ⟨m2S n N ++ [w], [(29, [rowIV (mkOutL n M N)]), (11, [dcells M (opG ops)]), (5, [[fI N, .sl 11 0 0 M 4 (M * 4), .sl 29 0 0 N 1 N]]), (0, [mTop])]⟩) :
    WA Try.prog (fun _ => False) 120 (.loop A_l3_Make_L2) Q ⟨m2S n 0, [(11, [dcells M (opG ops)]), (5, [[fI N, .sl 11 0 0 M 4 (M * 4), .nil]]), (0, [mTop])]⟩ := by
  have hcl := opc_len ops M
  refine WA_forW (n := N) (fun c s => ∃ i, c + i = N ∧ ((i = 0 ∧ s = ⟨m2S n 0, [(11, [dcells M (opG ops)]), (5, [[fI N, .sl 11 0 0 M 4 (M * 4), .nil]]), (0, [mTop])]⟩) ∨ (0 < i ∧ s = ⟨m2S n i, [(29, [rowIV (mkOutL n M i)]), (11, [dcells M (opG ops)]), (5, [[fI N, .sl 11 0 0 M 4 (M * 4), .sl 29 0 0 i 1 i]]), (0, [mTop])]⟩))) (Le.refl _) ⟨0, rfl, .inl ⟨rfl, rfl⟩⟩ ?_
  have hmm : (if (M : Int) < 3 then (M : Int) else 3) = ((min 3 M : Nat) : Int) := by split <;> omega
  have wM : IntKind.i64.wrap ((M : Int) - 1) = (M : Int) - 1 := wrapI (by omega) (by omega)
  rintro c s ⟨i, hc, ⟨rfl, rfl⟩ | ⟨hi, rfl⟩⟩
  · simp -implicitDefEqProofs only [xC_skip, evS, evT, evU, hv, effC, reduceCtorEq, ↓reduceIte, Nat.reduceEqDiff, Nat.reduceAdd, Nat.reduceMul, Int.reduceToNat, Int.reduceAdd, Int.reduceSub, Int.reduceMul, Int.reduceNeg, Int.reduceLT, Int.reduceLE, Nat.reduceLT, Nat.reduceLeDiff, A_l3_Make_L2]
    have h0 : decide ((0 : Int) < (N : Int)) = true := by simp; omega
    simp -implicitDefEqProofs only [xC_skip, evS, evT, evU, hv, effC, reduceCtorEq, ↓reduceIte, Nat.reduceEqDiff, Nat.reduceAdd, Nat.reduceMul, Int.reduceToNat, Int.reduceAdd, Int.reduceSub, Int.reduceMul, Int.reduceNeg, Int.reduceLT, Int.reduceLE, Nat.reduceLT, Nat.reduceLeDiff, h0, wM, hmm]
    refine ⟨by decide, ?_⟩
    first | refine callG_con (l3_within_con (IntKind.i64.wrap (IntKind.i64.wrap (n.tdiv 3) + 0)) (min 3 M : Nat) (by omega) (by omega)) rfl ?_ | refine callCG_con (l3_within_con (IntKind.i64.wrap (IntKind.i64.wrap (n.tdiv 3) + 0)) (min 3 M : Nat) (by omega) (by omega)) rfl ?_ | refine callSG_con (l3_within_con (IntKind.i64.wrap (IntKind.i64.wrap (n.tdiv 3) + 0)) (min 3 M : Nat) (by omega) (by omega)) rfl ?_
    have u1 := Int.emod_nonneg (IntKind.i64.wrap (IntKind.i64.wrap (n.tdiv 3) + 0)) (by omega : ((min 3 M : Nat) : Int) ≠ 0)
    have u2 := Int.emod_lt_of_pos (IntKind.i64.wrap (IntKind.i64.wrap (n.tdiv 3) + 0)) (by omega : (0 : Int) < ((min 3 M : Nat) : Int))
    have hmo : mkOut n M 0 = (M : Int) - 1 - IntKind.i64.wrap (IntKind.i64.wrap (n.tdiv 3) + 0) % ((min 3 M : Nat) : Int) := rfl
    have wu : IntKind.i64.wrap ((M : Int) - 1 - IntKind.i64.wrap (IntKind.i64.wrap (n.tdiv 3) + 0) % ((min 3 M : Nat) : Int)) = mkOut n M 0 := by rw [hmo]; exact wrapI (by omega) (by omega)
    simp -implicitDefEqProofs only [xC_skip, evS, evT, evU, hv, effC, reduceCtorEq, ↓reduceIte, Nat.reduceEqDiff, Nat.reduceAdd, Nat.reduceMul, Int.reduceToNat, Int.reduceAdd, Int.reduceSub, Int.reduceMul, Int.reduceNeg, Int.reduceLT, Int.reduceLE, Nat.reduceLT, Nat.reduceLeDiff, wu]
    rw [show IntKind.i64.wrap 1 = ((0 + 1 : Nat) : Int) from by decide]
    exact ⟨c - 1, _, by omega, LeT.only (L' := [(29, [rowIV (mkOutL n M (0 + 1))]), (11, [dcells M (opG ops)]), (5, [[fI N, .sl 11 0 0 M 4 (M * 4), .sl 29 0 0 (0 + 1) 1 (0 + 1)]]), (0, [mTop])]) (fun X => X != 28) (fun _ h => h) rfl (by simp [KpS_cons, KpS_nil, KpH_cons, KpH_nil, KpF_cons, KpF_nil, KpF_rows, KpA_cons, KpA_nil, KpA_app, KpA_rowV, KpA_rowIV, KpA_dcells, KpA_outC, Kp_any, Kp_nilv, Kp_d, Kp_ptr, Kp_sl, Kp_agg, Kp_tup, Kp_fn, get_cons, get_nil]) (by simp [KpS_cons, KpS_nil, KpH_cons, KpH_nil, KpF_cons, KpF_nil, KpF_rows, KpA_cons, KpA_nil, KpA_app, KpA_rowV, KpA_rowIV, KpA_dcells, KpA_outC, Kp_any, Kp_nilv, Kp_d, Kp_ptr, Kp_sl, Kp_agg, Kp_tup, Kp_fn, get_cons, get_nil]), 0 + 1, by omega, .inr ⟨by omega, rfl⟩⟩
  · have hol := mkOutL_len n M i
    simp -implicitDefEqProofs only [xC_skip, evS, evT, evU, hv, effC, reduceCtorEq, ↓reduceIte, Nat.reduceEqDiff, Nat.reduceAdd, Nat.reduceMul, Int.reduceToNat, Int.reduceAdd, Int.reduceSub, Int.reduceMul, Int.reduceNeg, Int.reduceLT, Int.reduceLE, Nat.reduceLT, Nat.reduceLeDiff, A_l3_Make_L2]
    refine condC_intro (fun h => ?_) (fun h => ?_)
    · replace h := of_decide_eq_true h
      simp -implicitDefEqProofs only [xC_skip, evS, evT, evU, hv, effC, reduceCtorEq, ↓reduceIte, Nat.reduceEqDiff, Nat.reduceAdd, Nat.reduceMul, Int.reduceToNat, Int.reduceAdd, Int.reduceSub, Int.reduceMul, Int.reduceNeg, Int.reduceLT, Int.reduceLE, Nat.reduceLT, Nat.reduceLeDiff, wM, hmm]
      refine ⟨by decide, ?_⟩
      first | refine callG_con (l3_within_con (IntKind.i64.wrap (IntKind.i64.wrap (n.tdiv 3) + (i : Int))) (min 3 M : Nat) (by omega) (by omega)) rfl ?_ | refine callCG_con (l3_within_con (IntKind.i64.wrap (IntKind.i64.wrap (n.tdiv 3) + (i : Int))) (min 3 M : Nat) (by omega) (by omega)) rfl ?_ | refine callSG_con (l3_within_con (IntKind.i64.wrap (IntKind.i64.wrap (n.tdiv 3) + (i : Int))) (min 3 M : Nat) (by omega) (by omega)) rfl ?_
      have u1 := Int.emod_nonneg (IntKind.i64.wrap (IntKind.i64.wrap (n.tdiv 3) + (i : Int))) (by omega : ((min 3 M : Nat) : Int) ≠ 0)
      have u2 := Int.emod_lt_of_pos (IntKind.i64.wrap (IntKind.i64.wrap (n.tdiv 3) + (i : Int))) (by omega : (0 : Int) < ((min 3 M : Nat) : Int))
      have hmo : mkOut n M i = (M : Int) - 1 - IntKind.i64.wrap (IntKind.i64.wrap (n.tdiv 3) + (i : Int)) % ((min 3 M : Nat) : Int) := rfl
      have wu : IntKind.i64.wrap ((M : Int) - 1 - IntKind.i64.wrap (IntKind.i64.wrap (n.tdiv 3) + (i : Int)) % ((min 3 M : Nat) : Int)) = mkOut n M i := by rw [hmo]; exact wrapI (by omega) (by omega)
      simp -implicitDefEqProofs only [xC_skip, evS, evT, evU, hv, effC, reduceCtorEq, ↓reduceIte, Nat.reduceEqDiff, Nat.reduceAdd, Nat.reduceMul, Int.reduceToNat, Int.reduceAdd, Int.reduceSub, Int.reduceMul, Int.reduceNeg, Int.reduceLT, Int.reduceLE, Nat.reduceLT, Nat.reduceLeDiff, wu]
      (repeat (with_reducible refine And.intro (by omega) ?_))
      have e1 := mkOutL_succ n M i
      rw [wrapI (by omega) (by omega), e1]
      exact ⟨c - 1, _, by omega, LeT.only (fun X => decide (X ≤ 29)) (fun _ h => h) rfl (by simp [KpS_cons, KpS_nil, KpH_cons, KpH_nil, KpF_cons, KpF_nil, KpF_rows, KpA_cons, KpA_nil, KpA_app, KpA_rowV, KpA_rowIV, KpA_dcells, KpA_outC, Kp_any, Kp_nilv, Kp_d, Kp_ptr, Kp_sl, Kp_agg, Kp_tup, Kp_fn, get_cons, get_nil]) (by simp [KpS_cons, KpS_nil, KpH_cons, KpH_nil, KpF_cons, KpF_nil, KpF_rows, KpA_cons, KpA_nil, KpA_app, KpA_rowV, KpA_rowIV, KpA_dcells, KpA_outC, Kp_any, Kp_nilv, Kp_d, Kp_ptr, Kp_sl, Kp_agg, Kp_tup, Kp_fn, get_cons, get_nil]), i + 1, by omega, .inr ⟨by omega, rfl⟩⟩
    · replace h := of_decide_eq_false h
      have e : i = N := by omega
      subst e
      simp -implicitDefEqProofs only [xC_skip, evS, evT, evU, hv, effC, reduceCtorEq, ↓reduceIte, Nat.reduceEqDiff, Nat.reduceAdd, Nat.reduceMul, Int.reduceToNat, Int.reduceAdd, Int.reduceSub, Int.reduceMul, Int.reduceNeg, Int.reduceLT, Int.reduceLE, Nat.reduceLT, Nat.reduceLeDiff]
      exact hQ _
set_option maxRecDepth 8000 in
theorem l3_Make_con (n : Int) (ns : List Int) (div : Bool) (hns : ns.length < 2 ^ 62) : Con Try.prog 15 [fI n, .d (rowI ns), fB div] (tapeV (mkT n ns div)) := by
  have m1 := Int.emod_nonneg n (by decide : (3 : Int) ≠ 0)
  have m2 := Int.emod_lt_of_pos n (by decide : (0 : Int) < 3)
  refine Con_introA A_l3_Make_comp rfl mixed ?_
  simp -implicitDefEqProofs only [xC_skip, evS, evT, evU, hv, effC, reduceCtorEq, ↓reduceIte, Nat.reduceEqDiff, Nat.reduceAdd, Nat.reduceMul, Int.reduceToNat, Int.reduceAdd, Int.reduceSub, Int.reduceMul, Int.reduceNeg, Int.reduceLT, Int.reduceLE, Nat.reduceLT, Nat.reduceLeDiff, A_l3_Make]
  first | refine callG_con (l3_within_con n 3 (by decide) (by decide)) rfl ?_ | refine callCG_con (l3_within_con n 3 (by decide) (by decide)) rfl ?_ | refine callSG_con (l3_within_con n 3 (by decide) (by decide)) rfl ?_
  obtain ⟨N, hN⟩ : ∃ N : Nat, N = (n % 3).toNat + 1 := ⟨_, rfl⟩
  have w1 : IntKind.i64.wrap (1 + n % 3) = (N : Int) := by rw [wrapI (by omega) (by omega)]; omega
  simp -implicitDefEqProofs only [xC_skip, evS, evT, evU, hv, effC, reduceCtorEq, ↓reduceIte, Nat.reduceEqDiff, Nat.reduceAdd, Nat.reduceMul, Int.reduceToNat, Int.reduceAdd, Int.reduceSub, Int.reduceMul, Int.reduceNeg, Int.reduceLT, Int.reduceLE, Nat.reduceLT, Nat.reduceLeDiff, w1]
  refine make3_L0 n ns div N (by omega) _ fun w => ?_
  have hl := opc_len (varOps N) N
  simp -implicitDefEqProofs only [xC_skip, evS, evT, evU, hv, effC, reduceCtorEq, ↓reduceIte, Nat.reduceEqDiff, Nat.reduceAdd, Nat.reduceMul, Int.reduceToNat, Int.reduceAdd, Int.reduceSub, Int.reduceMul, Int.reduceNeg, Int.reduceLT, Int.reduceLE, Nat.reduceLT, Nat.reduceLeDiff]
  first | refine callG_con (l3_within_con n 17 (by decide) (by decide)) rfl ?_ | refine callCG_con (l3_within_con n 17 (by decide) (by decide)) rfl ?_ | refine callSG_con (l3_within_con n 17 (by decide) (by decide)) rfl ?_
  have r1 := Int.emod_nonneg n (by decide : (17 : Int) ≠ 0)
  have r2 := Int.emod_lt_of_pos n (by decide : (0 : Int) < 17)
  have w2 : IntKind.i64.wrap (n % 17 - 8) = n % 17 - 8 := wrapI (by omega) (by omega)
  simp -implicitDefEqProofs only [xC_skip, evS, evT, evU, hv, effC, reduceCtorEq, ↓reduceIte, Nat.reduceEqDiff, Nat.reduceAdd, Nat.reduceMul, Int.reduceToNat, Int.reduceAdd, Int.reduceSub, Int.reduceMul, Int.reduceNeg, Int.reduceLT, Int.reduceLE, Nat.reduceLT, Nat.reduceLeDiff, w2]
  (repeat (with_reducible refine And.intro (by omega) ?_))
  have e := opc_succ (varOps N) ⟨0, 0, 0, fop .div (FloatKind.nearest .f64 (n % 17 - 8)) 4616189618054758400⟩ N (varOps_len N)
  simp only [] at e
  rw [e]
  have e4 : N * 4 + 4 = (N + 1 + 0) * 4 := by omega
  rw [e4]
  refine WA_le (s' := m1T n ns div N 0) (LeT.only (fun X => X == 11 || X == 5 || X == 0) (fun _ h => h) rfl (by simp [KpS_cons, KpS_nil, KpH_cons, KpH_nil, KpF_cons, KpF_nil, KpF_rows, KpA_cons, KpA_nil, KpA_app, KpA_rowV, KpA_rowIV, KpA_dcells, KpA_outC, Kp_any, Kp_nilv, Kp_d, Kp_ptr, Kp_sl, Kp_agg, Kp_tup, Kp_fn, get_cons, get_nil]) (by simp [KpS_cons, KpS_nil, KpH_cons, KpH_nil, KpF_cons, KpF_nil, KpF_rows, KpA_cons, KpA_nil, KpA_app, KpA_rowV, KpA_rowIV, KpA_dcells, KpA_outC, Kp_any, Kp_nilv, Kp_d, Kp_ptr, Kp_sl, Kp_agg, Kp_tup, Kp_fn, get_cons, get_nil])) ?_
  refine make3_L1 n ns div N (by omega) hns _ fun w => ?_
  obtain ⟨M, hM⟩ : ∃ M, M = N + 1 + min ns.length 8 := ⟨_, rfl⟩
  have hol := mkOps_len n ns div N (min ns.length 8)
  rw [← hM] at hol
  simp only [← hM]
  have hT : mkT n ns div = ⟨N, mkOps n ns div N (min ns.length 8), mkOutL n M N⟩ := by unfold mkT mkOutL; rw [← hN, hM]
  rw [hT]
  generalize mkOps n ns div N (min ns.length 8) = ops at hol
  simp -implicitDefEqProofs only [xC_skip, evS, evT, evU, hv, effC, reduceCtorEq, ↓reduceIte, Nat.reduceEqDiff, Nat.reduceAdd, Nat.reduceMul, Int.reduceToNat, Int.reduceAdd, Int.reduceSub, Int.reduceMul, Int.reduceNeg, Int.reduceLT, Int.reduceLE, Nat.reduceLT, Nat.reduceLeDiff]
  refine make3_L2 n N M ops hol (by omega) (by omega) _ fun w => ?_
  have hul := mkOutL_len n M N
  simp -implicitDefEqProofs only [xC_skip, evS, evT, evU, hv, effC, reduceCtorEq, ↓reduceIte, Nat.reduceEqDiff, Nat.reduceAdd, Nat.reduceMul, Int.reduceToNat, Int.reduceAdd, Int.reduceSub, Int.reduceMul, Int.reduceNeg, Int.reduceLT, Int.reduceLE, Nat.reduceLT, Nat.reduceLeDiff]
  refine endsT_le (.agg [fI N, .sl 11 0 0 M 4 (M * 4), .sl 29 0 0 N 1 N]) (fun _ h => h) (resV_cellI (by decide) rfl rfl rfl (by simp) rfl) (LeV.agg3 (.d (.d _)) (.d ?_) (.d ?_))
  · unfold opsD
    rw [hol]
    exact snapF_data (esz := 4) (fun Y q h => by simp [get_nil] at h) (by simp [get_cons]) (fun _ _ => rfl) rfl
  · exact snap_rowI (fun Y q h => by simp [get_nil] at h) (by simp [get_cons]) hul rfl
theorem mkT_n (n : Int) (ns : List Int) (div : Bool) : (mkT n ns div).n = (n % 3).toNat + 1 := rfl
theorem mkOps_ok (n : Int) (ns : List Int) (div : Bool) (N i : Nat) : ∀ j, j < N + 1 + i → Oko' ((mkOps n ns div N i).getD j ⟨0, 0, 0, 0⟩) j N := by
  induction i with
  | zero =>
    intro j hj
    have hl := varOps_len N
    unfold mkOps baseOps
    by_cases h : j < N
    · rw [List.getD_eq_getElem?_getD, List.getElem?_append_left (by omega)]
      have : (varOps N)[j]? = some ⟨1, j, 0, 0⟩ := by simp [varOps, h]
      rw [this]
      exact .inr (.inl ⟨rfl, by simp, by simpa using h⟩)
    · obtain rfl : j = N := by omega
      rw [List.getD_eq_getElem?_getD, List.getElem?_append_right (by omega), hl, Nat.sub_self]
      exact .inl rfl
  | succ i ih =>
    intro j hj
    have hl := mkOps_len n ns div N i
    unfold mkOps
    by_cases h : j < N + 1 + i
    · have := ih j h
      rw [List.getD_eq_getElem?_getD] at this ⊢
      rwa [List.getElem?_append_left (by omega)]
    · obtain rfl : j = N + 1 + i := by omega
      rw [List.getD_eq_getElem?_getD, List.getElem?_append_right (by omega), hl, Nat.sub_self]
      show Oko' (mkOp ns div (N + 1 + i) i) (N + 1 + i) N
      unfold mkOp
      simp only
      split
      · exact .inl rfl
      · have a1 := Int.emod_nonneg (IntKind.i64.wrap ((ns.getD i 0).tdiv 4)) (by omega : ((N + 1 + i : Nat) : Int) ≠ 0)
        have a2 := Int.emod_lt_of_pos (IntKind.i64.wrap ((ns.getD i 0).tdiv 4)) (by omega : (0 : Int) < ((N + 1 + i : Nat) : Int))
        have b1 := Int.emod_nonneg (IntKind.i64.wrap ((ns.getD i 0).tdiv 40)) (by omega : ((N + 1 + i : Nat) : Int) ≠ 0)
        have b2 := Int.emod_lt_of_pos (IntKind.i64.wrap ((ns.getD i 0).tdiv 40)) (by omega : (0 : Int) < ((N + 1 + i : Nat) : Int))
        have c1 := Int.emod_nonneg (ns.getD i 0) (by decide : (3 : Int) ≠ 0)
        have c2 := Int.emod_lt_of_pos (ns.getD i 0) (by decide : (0 : Int) < 3)
        refine .inr (.inr ⟨?_, ⟨a1, a2⟩, b1, b2⟩)
        simp only
        split <;> omega
theorem mkT_ok (n : Int) (ns : List Int) (div : Bool) : Tok (mkT n ns div) := by
  have m1 := Int.emod_nonneg n (by decide : (3 : Int) ≠ 0)
  have m2 := Int.emod_lt_of_pos n (by decide : (0 : Int) < 3)
  have hl := mkOps_len n ns div ((n % 3).toNat + 1) (min ns.length 8)
  refine ⟨?_, ?_, ?_, ?_, ?_⟩
  · rw [mkT_n]; omega
  · show (mkOps n ns div ((n % 3).toNat + 1) (min ns.length 8)).length < 2 ^ 40
    omega
  · intro i hi
    have hi' : i < (mkOps n ns div ((n % 3).toNat + 1) (min ns.length 8)).length := hi
    exact mkOps_ok n ns div ((n % 3).toNat + 1) (min ns.length 8) i (by omega)
  · simp [mkT]
  · intro i hi
    rw [mkT_n] at hi
    have hx : (mkT n ns div).out.getD i 0 = mkOut n ((n % 3).toNat + 1 + 1 + min ns.length 8) i := by
      unfold mkT
      simp only
      rw [List.getD_eq_getElem?_getD, List.getElem?_map, List.getElem?_range hi]; rfl
    rw [hx]
    show _ ∧ _ < ((mkOps n ns div ((n % 3).toNat + 1) (min ns.length 8)).length : Int)
    rw [hl]
    have hM : 2 ≤ (n % 3).toNat + 1 + 1 + min ns.length 8 := by omega
    generalize (n % 3).toNat + 1 + 1 + min ns.length 8 = M at hM
    have u1 := Int.emod_nonneg (IntKind.i64.wrap (IntKind.i64.wrap (n.tdiv 3) + (i : Int))) (by omega : ((min 3 M : Nat) : Int) ≠ 0)
    have u2 := Int.emod_lt_of_pos (IntKind.i64.wrap (IntKind.i64.wrap (n.tdiv 3) + (i : Int))) (by omega : (0 : Int) < ((min 3 M : Nat) : Int))
    unfold mkOut
    omega
end Go.Ab
