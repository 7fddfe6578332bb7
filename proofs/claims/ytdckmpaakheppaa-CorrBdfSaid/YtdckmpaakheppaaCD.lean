/- What chapter 9's laws begin with. -/
import Derived.Test.YtdckmpaakheppaaCC
namespace Go.Ab
set_option linter.unusedSimpArgs false
set_option linter.unusedVariables false
open Go Go.Proofs
def A_l9_known : CA := (.seq (.reg [⟨0, (some 0), none, [], [], (.h (.mov (.k (.d (.bool false)))))⟩] []) (.seq (.reg [⟨0, (some 3), none, [], [], (.h (.build [(.d (.int .i64 0)), (.d (.int .i64 0)), (.d (.int .i64 0)), (.d (.flt 0))] []))⟩, ⟨1, (some 4), none, [], [], (.bslice [(.d (.int .i64 0)), (.d (.int .i64 0)), (.d (.int .i64 0)), (.d (.flt 0))] 1 4 [(0, (4, (.t 3)))] 53)⟩, ⟨2, (some 5), none, [], [], (.bslice [(.d (.int .i64 0))] 1 1 [(0, (1, (.k (.d (.int .i64 0)))))] 3)⟩, ⟨3, (some 6), none, [], [], (.h (.build [(.d (.int .i64 0)), .nil, .nil] [(0, (1, (.k (.d (.int .i64 1))))), (1, (1, (.t 4))), (2, (1, (.t 5)))]))⟩, ⟨4, (some 1), none, [], [], (.alloc [(.d (.int .i64 0)), .nil, .nil] 26)⟩, ⟨5, none, none, [], [], (.store (.t 1) (.t 6) 3)⟩] [1]) (.seq (.reg [⟨0, (some 7), none, [], [], (.load (.t 1) 3 true)⟩, ⟨1, (some 8), none, [], [], (.bslice [(.d (.flt 0))] 1 1 [(0, (1, (.k (.d (.flt 4607182418800017408)))))] 32)⟩, ⟨2, (some 9), none, [], [], (.bslice [(.d (.flt 0))] 1 1 [(0, (1, (.k (.d (.flt 0)))))] 32)⟩, ⟨3, (some 10), none, [], [], (.bslice [.nil, .nil] 2 1 [(0, (1, (.t 8))), (1, (1, (.t 9)))] 31)⟩, ⟨4, (some 11), none, [], [], (.bslice [(.d (.flt 0)), (.d (.flt 0))] 2 1 [(0, (1, (.k (.d (.flt 4607182418800017408))))), (1, (1, (.k (.d (.flt 4607182418800017408)))))] 32)⟩, ⟨5, (some 12), none, [], [], (.bslice [(.d (.flt 0))] 1 1 [(0, (1, (.k (.d (.flt 4607182418800017408)))))] 32)⟩, ⟨6, (some 13), none, [], [], (.callA (.k (.d (.fn 20 [] []))) [(.t 7), (.t 10), (.t 11), (.k (.d (.int .i64 1048576))), (.k (.d (.int .i64 0))), (.t 12)])⟩, ⟨7, (some 2), none, [], [], (.alloc [.nil, (.d (.int .i64 0)), (.d (.int .i64 0))] 39)⟩, ⟨8, none, none, [], [], (.store (.t 2) (.t 13) 3)⟩] [2]) (.seq (.reg [⟨0, (some 14), none, [], [], (.callA (.k (.d (.fn 23 [] []))) [(.k .nil), (.k .nil)])⟩, ⟨1, (some 15), none, [], [], (.h (.fcmp .eq (.t 14) (.k (.d (.flt 0)))))⟩, ⟨2, (some 16), none, [], [], (.h (.mov (.t 15)))⟩, ⟨3, (some 17), (some (16, true)), [], [], (.bslice [(.d (.flt 0))] 1 1 [(0, (1, (.k (.d (.flt 13837309855095848960)))))] 32)⟩, ⟨4, (some 18), (some (16, true)), [], [], (.bslice [(.d (.flt 0))] 1 1 [(0, (1, (.k (.d (.flt 4611686018427387904)))))] 32)⟩, ⟨5, (some 19), (some (16, true)), [], [], (.callA (.k (.d (.fn 23 [] []))) [(.t 17), (.t 18)])⟩, ⟨6, (some 20), (some (16, true)), [], [], (.h (.fcmp .eq (.t 19) (.k (.d (.flt 4609434218613702656)))))⟩, ⟨7, (some 21), none, [], [], (.h (.pick (.t 16) (.t 20) (.k (.d (.bool false)))))⟩, ⟨8, (some 22), none, [], [], (.h (.mov (.t 21)))⟩, ⟨9, (some 23), (some (22, true)), [], [], (.h (.padd (.t 2) 2))⟩, ⟨10, (some 24), (some (22, true)), [], [], (.load (.t 23) 1 false)⟩, ⟨11, (some 25), (some (22, true)), [], [], (.h (.ibin .eql (.t 24) (.k (.d (.int .i64 0)))))⟩, ⟨12, (some 26), none, [], [], (.h (.pick (.t 22) (.t 25) (.k (.d (.bool false)))))⟩, ⟨13, (some 27), none, [], [], (.h (.mov (.t 26)))⟩, ⟨14, (some 28), (some (27, true)), [], [], (.h (.padd (.t 2) 1))⟩, ⟨15, (some 29), (some (27, true)), [], [], (.load (.t 28) 1 false)⟩, ⟨16, (some 30), (some (27, true)), [], [], (.h (.ibin .eql (.t 29) (.k (.d (.int .i64 1)))))⟩, ⟨17, (some 31), none, [], [], (.h (.pick (.t 27) (.t 30) (.k (.d (.bool false)))))⟩, ⟨18, (some 32), none, [], [], (.h (.mov (.t 31)))⟩, ⟨19, (some 33), (some (32, true)), [], [], (.h (.padd (.t 2) 0))⟩, ⟨20, (some 34), (some (32, true)), [], [], (.load (.t 33) 1 false)⟩, ⟨21, (some 35), (some (32, true)), [], [], (.h (.len (.t 34)))⟩, ⟨22, (some 36), (some (32, true)), [], [], (.h (.ibin .eql (.t 35) (.k (.d (.int .i64 1)))))⟩, ⟨23, (some 37), none, [], [], (.h (.pick (.t 32) (.t 36) (.k (.d (.bool false)))))⟩, ⟨24, (some 38), none, [], [], (.h (.mov (.t 37)))⟩, ⟨25, (some 39), (some (38, true)), [], [], (.h (.padd (.t 2) 0))⟩, ⟨26, (some 40), (some (38, true)), [], [], (.load (.t 39) 1 false)⟩, ⟨27, (some 41), (some (38, true)), [], [], (.h (.idx (.t 40) (.k (.d (.int .i64 0))) 1))⟩, ⟨28, (some 42), (some (38, true)), [], [], (.load (.t 41) 1 false)⟩, ⟨29, (some 43), (some (38, true)), [], [], (.h (.fcmp .eq (.t 42) (.k (.d (.flt 0)))))⟩, ⟨30, (some 44), none, [], [], (.h (.pick (.t 38) (.t 43) (.k (.d (.bool false)))))⟩, ⟨31, (some 0), none, [], [], (.h (.mov (.t 44)))⟩] [0]) .ret))))
theorem A_l9_known_comp : compF Try.prog 14 = some ⟨45, [(0, none)], A_l9_known.strip⟩ := by kernel_rfl
def A_l9_within : CA := (.seq (.reg [⟨0, (some 4), none, [], [], (.h (.mov (.k (.d (.int .i64 0)))))⟩] [0, 1]) (.seq (.reg [⟨0, (some 6), none, [], [], (.h (.mov (.t 0)))⟩, ⟨1, (some 7), none, [], [], (.h (.mov (.t 1)))⟩, ⟨2, (some 8), none, [], [], (.h (.ibin .rem (.t 6) (.t 7)))⟩, ⟨3, (some 5), none, [], [], (.h (.mov (.t 8)))⟩] [1, 5]) (.seq (.seq (.reg [⟨0, (some 9), none, [], [], (.h (.mov (.t 5)))⟩, ⟨1, (some 10), none, [], [], (.h (.ibin .lss (.t 9) (.k (.d (.int .i64 0)))))⟩] [1, 5, 10]) (.cond (.t 10) (.reg [⟨0, (some 11), none, [], [], (.h (.mov (.t 5)))⟩, ⟨1, (some 12), none, [], [], (.h (.mov (.t 1)))⟩, ⟨2, (some 13), none, [], [], (.h (.ibin .add (.t 11) (.t 12)))⟩, ⟨3, (some 5), none, [], [], (.h (.mov (.t 13)))⟩] [5]) .skip)) (.seq (.reg [⟨0, (some 14), none, [], [], (.h (.mov (.t 5)))⟩, ⟨1, (some 4), none, [], [], (.h (.mov (.t 14)))⟩] [4]) .ret))))
theorem A_l9_within_comp : compF Try.prog 16 = some ⟨15, [(4, none)], A_l9_within.strip⟩ := by kernel_rfl
def knT : Tp := ⟨1, [⟨0, 0, 0, 0⟩], [0]⟩
abbrev one1 : Nat := 4607182418800017408
theorem kn_sol : solA knT [[one1], [0]] [one1, one1] (hW (2 ^ 20)) [one1] = ([0], 1, 0) := by kernel_rfl
theorem kn_ok : Sok knT [[one1], [0]] [one1, one1] [one1] (List.replicate 1 0) where
  ht := ⟨by decide, by decide, fun i hi => by
      obtain rfl : i = 0 := by simpa [knT] using hi
      exact .inl rfl, rfl, fun i hi => by
      obtain rfl : i = 0 := by simpa [knT] using hi
      decide⟩
  hz := by decide
  hzl := fun i hi => by rcases i with _ | _ | i; rfl; rfl; omega
  hl := by decide
  hw := rfl
  hd := rfl
theorem snap_two {L : Heap} {X A B : Nat} {a b : Nat} (h : L.get X 0 = some [.sl A 0 0 1 1 1, .sl B 0 0 1 1 1]) (hA : L.get A 0 = some (rowV [a])) (hB : L.get B 0 = some (rowV [b])) : Snap L (.sl X 0 0 2 1 2) (.d (rowsD [[a], [b]])) := by
  refine .sl h rfl (by simp) (fun i hi => rfl) fun i j hi hj => ?_
  obtain rfl : j = 0 := by omega
  have hi : i < 2 := hi
  rcases i with _ | _ | i
  · exact snp_row hA rfl rfl
  · exact snp_row hB rfl rfl
  · omega
theorem snap_ops1 {L : Heap} {X : Nat} (h : L.get X 0 = some [fI 0, fI 0, fI 0, fl 0]) : Snap L (.sl X 0 0 1 4 4) (.d (opsD knT.ops)) := by
  refine .sl h rfl (by simp) (fun i hi => rfl) fun i j hi hj => ?_
  have hi : i < 1 := hi
  obtain rfl : i = 0 := by omega
  rcases j with _ | _ | _ | _ | j
  · exact .d _
  · exact .d _
  · exact .d _
  · exact .d _
  · omega
theorem snap_out1 {L : Heap} {X : Nat} (h : L.get X 0 = some [fI 0]) : Snap L (.sl X 0 0 1 1 1) (.d (rowI [0])) := by
  refine .sl h rfl (by simp) (fun i hi => rfl) fun i j hi hj => ?_
  obtain rfl : j = 0 := by omega
  have hi : i < 1 := hi
  obtain rfl : i = 0 := by omega
  exact .d _
set_option maxRecDepth 8000 in
theorem corr_Size_nil : Con Try.prog 23 [.d .nils, .d .nils] (fl 0) := by
  refine Con_introA A_corr_Size_comp rfl mixed ?_
  simp -implicitDefEqProofs only [xC_skip, evS, evT, evU, hv, effC, reduceCtorEq, ↓reduceIte, Nat.reduceEqDiff, Nat.reduceAdd, Nat.reduceMul, Int.reduceToNat, Int.reduceAdd, Int.reduceSub, Int.reduceMul, Int.reduceNeg, Int.reduceLT, Int.reduceLE, Nat.reduceLT, Nat.reduceLeDiff, A_corr_Size]
  refine WA_for (n := 0) (fun c s => s = ⟨_, []⟩) rfl ?_
  rintro c s rfl
  simp -implicitDefEqProofs only [xC_skip, evS, evT, evU, hv, effC, reduceCtorEq, ↓reduceIte, Nat.reduceEqDiff, Nat.reduceAdd, Nat.reduceMul, Int.reduceToNat, Int.reduceAdd, Int.reduceSub, Int.reduceMul, Int.reduceNeg, Int.reduceLT, Int.reduceLE, Nat.reduceLT, Nat.reduceLeDiff, A_corr_Size_L0]
  exact endsT_rett rfl (by decide) (by simp [look])
theorem kn_eq0 : fcmp .eq 0 0 = true := by kernel_rfl
theorem kn_size : fcmp .eq (szP [13837309855095848960] [4611686018427387904]) 4609434218613702656 = true := by kernel_rfl
set_option maxRecDepth 8000 in
theorem l9_known_con : Con Try.prog 14 [] (fB true) := by
  have hsol := corr_Solve_ok knT [[one1], [0]] [one1, one1] (hW (2 ^ 20)) [one1] 1048576 0 (by decide) kn_ok (Scale_pow 20 (by decide)) _ _ kn_sol
  refine Con_introA A_l9_known_comp rfl mixed ?_
  simp -implicitDefEqProofs only [xC_skip, evS, evT, evU, hv, effC, reduceCtorEq, ↓reduceIte, Nat.reduceEqDiff, Nat.reduceAdd, Nat.reduceMul, Int.reduceToNat, Int.reduceAdd, Int.reduceSub, Int.reduceMul, Int.reduceNeg, Int.reduceLT, Int.reduceLE, Nat.reduceLT, Nat.reduceLeDiff, A_l9_known]
  refine callG_sum 100 _ (by simp [Heap.next]) hsol ⟨.aggs ⟨.bare _, snap_ops1 rfl, snap_out1 rfl, trivial⟩, snap_two (A := 6) (B := 7) rfl rfl rfl, snp_row rfl rfl rfl, .bare _, .bare _, snp_row rfl rfl rfl, trivial⟩ ?_
  simp -implicitDefEqProofs only [xC_skip, evS, evT, evU, hv, effC, reduceCtorEq, ↓reduceIte, Nat.reduceEqDiff, Nat.reduceAdd, Nat.reduceMul, Int.reduceToNat, Int.reduceAdd, Int.reduceSub, Int.reduceMul, Int.reduceNeg, Int.reduceLT, Int.reduceLE, Nat.reduceLT, Nat.reduceLeDiff]
  refine callG_snaps [.d .nils, .d .nils] corr_Size_nil ⟨.nil, .nil, trivial⟩ (.flt _) ?_
  simp -implicitDefEqProofs only [xC_skip, evS, evT, evU, hv, effC, reduceCtorEq, ↓reduceIte, Nat.reduceEqDiff, Nat.reduceAdd, Nat.reduceMul, Int.reduceToNat, Int.reduceAdd, Int.reduceSub, Int.reduceMul, Int.reduceNeg, Int.reduceLT, Int.reduceLE, Nat.reduceLT, Nat.reduceLeDiff, kn_eq0]
  refine callG_snaps [.d (rowD [13837309855095848960]), .d (rowD [4611686018427387904])] (corr_Size_con _ _ rfl (by decide)) ⟨snp_row rfl rfl rfl, snp_row rfl rfl rfl, trivial⟩ (.flt _) ?_
  simp -implicitDefEqProofs only [xC_skip, evS, evT, evU, hv, effC, reduceCtorEq, ↓reduceIte, Nat.reduceEqDiff, Nat.reduceAdd, Nat.reduceMul, Int.reduceToNat, Int.reduceAdd, Int.reduceSub, Int.reduceMul, Int.reduceNeg, Int.reduceLT, Int.reduceLE, Nat.reduceLT, Nat.reduceLeDiff, kn_size, knT, kn_eq0]
  exact endsT_rett rfl (by decide) (by simp [look])
theorem l9_within_con (a n : Int) (hn : 0 < n) (hn2 : n < 2 ^ 62) : Con Try.prog 16 [fI a, fI n] (fI (a % n)) := by
  rw [← tmod_fix a n hn]
  refine Con_introA A_l9_within_comp rfl mixed ?_
  simp -implicitDefEqProofs only [xC_skip, evS, evT, evU, hv, effC, reduceCtorEq, ↓reduceIte, Nat.reduceEqDiff, Nat.reduceAdd, Nat.reduceMul, Int.reduceToNat, Int.reduceAdd, Int.reduceSub, Int.reduceMul, Int.reduceNeg, Int.reduceLT, Int.reduceLE, Nat.reduceLT, Nat.reduceLeDiff, A_l9_within]
  refine ⟨by omega, ?_⟩
  have h1 := Int.tmod_lt_of_pos a hn
  have h6 := Int.lt_tmod_of_pos a hn
  refine condC_intro (fun h => ?_) (fun h => ?_)
  · simp -implicitDefEqProofs only [xC_skip, evS, evT, evU, hv, effC, reduceCtorEq, ↓reduceIte, Nat.reduceEqDiff, Nat.reduceAdd, Nat.reduceMul, Int.reduceToNat, Int.reduceAdd, Int.reduceSub, Int.reduceMul, Int.reduceNeg, Int.reduceLT, Int.reduceLE, Nat.reduceLT, Nat.reduceLeDiff]
    replace h := of_decide_eq_true h
    rw [wrapI (by omega) (by omega), if_pos h]
    exact endsT_rett rfl (by decide) (by simp [look])
  · replace h := of_decide_eq_false h
    simp -implicitDefEqProofs only [xC_skip, evS, evT, evU, hv, effC, reduceCtorEq, ↓reduceIte, Nat.reduceEqDiff, Nat.reduceAdd, Nat.reduceMul, Int.reduceToNat, Int.reduceAdd, Int.reduceSub, Int.reduceMul, Int.reduceNeg, Int.reduceLT, Int.reduceLE, Nat.reduceLT, Nat.reduceLeDiff]
    rw [if_neg h]
    exact endsT_rett rfl (by decide) (by simp [look])
end Go.Ab
