/- CorrSize. -/
import Derived.Test.YtdckmpaakheppaaCD
import Derived.Test.YtdckmpaakheppaaZV
namespace Go.Ab
set_option linter.unusedSimpArgs false
set_option linter.unusedVariables false
open Go Go.Proofs
def A_l9_CorrSize_L0 : CA := (.seq (.seq (.reg [⟨0, (some 17), none, [], [], (.h (.mov (.t 8)))⟩, ⟨1, (some 18), none, [], [], (.h (.mov (.t 0)))⟩, ⟨2, (some 19), none, [], [], (.h (.len (.t 18)))⟩, ⟨3, (some 20), none, [], [], (.h (.ibin .lss (.t 17) (.t 19)))⟩, ⟨4, (some 21), none, [], [], (.h (.mov (.t 20)))⟩, ⟨5, (some 22), (some (21, true)), [], [], (.h (.mov (.t 8)))⟩, ⟨6, (some 23), (some (21, true)), [], [], (.h (.ibin .lss (.t 22) (.k (.d (.int .i64 9)))))⟩, ⟨7, (some 24), none, [], [], (.h (.pick (.t 21) (.t 23) (.k (.d (.bool false)))))⟩] [0, 1, 5, 6, 7, 8, 24]) (.cond (.t 24) .skip (.exit 0))) (.seq (.block 1 (.seq (.reg [⟨0, (some 9), none, [], [], (.h (.mov (.k (.d (.int .i64 1)))))⟩] [0, 1, 5, 6, 7, 8, 9]) (.seq (.seq (.reg [⟨0, (some 27), none, [], [], (.h (.mov (.t 8)))⟩, ⟨1, (some 28), none, [], [], (.h (.mov (.t 1)))⟩, ⟨2, (some 29), none, [], [], (.h (.len (.t 28)))⟩, ⟨3, (some 30), none, [], [], (.h (.ibin .lss (.t 27) (.t 29)))⟩] [0, 1, 5, 6, 7, 8, 9, 30]) (.cond (.t 30) (.reg [⟨0, (some 31), none, [], [], (.h (.mov (.t 1)))⟩, ⟨1, (some 32), none, [], [], (.h (.mov (.t 8)))⟩, ⟨2, (some 33), none, [], [], (.h (.idx (.t 31) (.t 32) 1))⟩, ⟨3, (some 34), none, [], [], (.load (.t 33) 1 false)⟩, ⟨4, (some 35), none, [], [], (.callA (.k (.d (.fn 16 [] []))) [(.t 34), (.k (.d (.int .i64 50)))])⟩, ⟨5, (some 36), none, [], [], (.h (.ibin .add (.k (.d (.int .i64 1))) (.t 35)))⟩, ⟨6, (some 9), none, [], [], (.h (.mov (.t 36)))⟩] [0, 1, 5, 6, 7, 8, 9]) .skip)) (.seq (.reg [⟨0, (some 37), none, [], [], (.h (.mov (.t 0)))⟩, ⟨1, (some 38), none, [], [], (.h (.mov (.t 8)))⟩, ⟨2, (some 39), none, [], [], (.h (.idx (.t 37) (.t 38) 1))⟩, ⟨3, (some 40), none, [], [], (.load (.t 39) 1 false)⟩, ⟨4, (some 41), none, [], [], (.callA (.k (.d (.fn 16 [] []))) [(.t 40), (.k (.d (.int .i64 2001)))])⟩, ⟨5, (some 42), none, [], [], (.h (.ibin .sub (.t 41) (.k (.d (.int .i64 1000)))))⟩, ⟨6, (some 43), none, [], [], (.h (.i2f (.t 42)))⟩, ⟨7, (some 10), none, [], [], (.h (.mov (.t 43)))⟩] [0, 1, 5, 6, 7, 8, 9, 10]) (.reg [⟨0, (some 44), none, [], [], (.h (.mov (.t 5)))⟩, ⟨1, (some 45), none, [], [], (.h (.mov (.t 10)))⟩, ⟨2, (some 46), none, [], [], (.bslice [(.d (.flt 0))] 1 1 [(0, (1, (.t 45)))] 32)⟩, ⟨3, (some 47), none, [], [], (.app (.t 44) (.t 46) 1 8)⟩, ⟨4, (some 48), none, [], [], (.h (.mov (.t 6)))⟩, ⟨5, (some 49), none, [], [], (.h (.mov (.t 10)))⟩, ⟨6, (some 50), none, [], [], (.h (.fbin .mul (.k (.d (.flt 4611686018427387904))) (.t 49)))⟩, ⟨7, (some 51), none, [], [], (.bslice [(.d (.flt 0))] 1 1 [(0, (1, (.t 50)))] 32)⟩, ⟨8, (some 52), none, [], [], (.app (.t 48) (.t 51) 1 8)⟩, ⟨9, (some 53), none, [], [], (.h (.mov (.t 7)))⟩, ⟨10, (some 54), none, [], [], (.h (.mov (.t 9)))⟩, ⟨11, (some 55), none, [], [], (.h (.i2f (.t 54)))⟩, ⟨12, (some 56), none, [], [], (.bslice [(.d (.flt 0))] 1 1 [(0, (1, (.t 55)))] 32)⟩, ⟨13, (some 57), none, [], [], (.app (.t 53) (.t 56) 1 8)⟩, ⟨14, (some 5), none, [], [], (.h (.mov (.t 47)))⟩, ⟨15, (some 6), none, [], [], (.h (.mov (.t 52)))⟩, ⟨16, (some 7), none, [], [], (.h (.mov (.t 57)))⟩] [0, 1, 5, 6, 7, 8]))))) (.reg [⟨0, (some 25), none, [], [], (.h (.mov (.t 8)))⟩, ⟨1, (some 26), none, [], [], (.h (.ibin .add (.t 25) (.k (.d (.int .i64 1)))))⟩, ⟨2, (some 8), none, [], [], (.h (.mov (.t 26)))⟩] [0, 1, 5, 6, 7, 8])))
def A_l9_CorrSize_L1 : CA := (.seq (.seq (.reg [⟨0, (some 68), none, [], [], (.h (.mov (.t 13)))⟩, ⟨1, (some 69), none, [], [], (.h (.mov (.t 5)))⟩, ⟨2, (some 70), none, [], [], (.h (.len (.t 69)))⟩, ⟨3, (some 71), none, [], [], (.h (.ibin .lss (.t 68) (.t 70)))⟩] [5, 6, 7, 11, 12, 13, 71]) (.cond (.t 71) .skip (.exit 2))) (.seq (.block 3 (.seq (.reg [⟨0, (some 74), none, [], [], (.h (.mov (.t 5)))⟩, ⟨1, (some 75), none, [], [], (.h (.mov (.t 13)))⟩, ⟨2, (some 76), none, [], [], (.h (.idx (.t 74) (.t 75) 1))⟩, ⟨3, (some 77), none, [], [], (.load (.t 76) 1 false)⟩, ⟨4, (some 78), none, [], [], (.callS 4 (.k (.d (.fn 24 [] []))) [(.t 77)])⟩, ⟨5, (some 79), none, [], [], (.h (.mov (.t 7)))⟩, ⟨6, (some 80), none, [], [], (.h (.mov (.t 13)))⟩, ⟨7, (some 81), none, [], [], (.h (.idx (.t 79) (.t 80) 1))⟩, ⟨8, (some 82), none, [], [], (.load (.t 81) 1 false)⟩, ⟨9, (some 83), none, [], [], (.h (.fbin .div (.t 78) (.t 82)))⟩, ⟨10, (some 14), none, [], [], (.h (.mov (.t 83)))⟩] [5, 6, 7, 11, 12, 13, 14]) (.seq (.seq (.reg [⟨0, (some 84), none, [], [], (.h (.mov (.t 14)))⟩, ⟨1, (some 85), none, [], [], (.h (.mov (.t 11)))⟩, ⟨2, (some 86), none, [], [], (.h (.fcmp .le (.t 84) (.t 85)))⟩, ⟨3, (some 87), none, [], [], (.h (.un .not (.t 86)))⟩] [5, 6, 7, 11, 12, 13, 14, 87]) (.cond (.t 87) (.seq (.reg [⟨0, (some 4), none, [], [], (.h (.mov (.k (.d (.bool false)))))⟩] [4]) .ret) .skip)) (.reg [⟨0, (some 88), none, [], [], (.h (.mov (.t 12)))⟩, ⟨1, (some 89), none, [], [], (.h (.mov (.t 88)))⟩, ⟨2, (some 90), (some (89, false)), [], [], (.h (.mov (.t 14)))⟩, ⟨3, (some 91), (some (89, false)), [], [], (.h (.mov (.t 11)))⟩, ⟨4, (some 92), (some (89, false)), [], [], (.h (.fcmp .eq (.t 90) (.t 91)))⟩, ⟨5, (some 93), none, [], [], (.h (.pick (.t 89) (.k (.d (.bool true))) (.t 92)))⟩, ⟨6, (some 12), none, [], [], (.h (.mov (.t 93)))⟩] [5, 6, 7, 11, 12, 13])))) (.reg [⟨0, (some 72), none, [], [], (.h (.mov (.t 13)))⟩, ⟨1, (some 73), none, [], [], (.h (.ibin .add (.t 72) (.k (.d (.int .i64 1)))))⟩, ⟨2, (some 13), none, [], [], (.h (.mov (.t 73)))⟩] [5, 6, 7, 11, 12, 13])))
def A_l9_CorrSize : CA := (.seq (.reg [⟨0, (some 4), none, [], [], (.h (.mov (.k (.d (.bool false)))))⟩] [0, 1]) (.seq (.seq (.reg [⟨0, (some 15), none, [], [], (.callA (.k (.d (.fn 14 [] []))) [])⟩, ⟨1, (some 16), none, [], [], (.h (.un .not (.t 15)))⟩] [0, 1, 16]) (.cond (.t 16) (.seq (.reg [⟨0, (some 4), none, [], [], (.h (.mov (.k (.d (.bool false)))))⟩] [4]) .ret) .skip)) (.seq (.reg [⟨0, (some 5), none, [], [], (.h (.mov (.k .nil)))⟩, ⟨1, (some 6), none, [], [], (.h (.mov (.k .nil)))⟩, ⟨2, (some 7), none, [], [], (.h (.mov (.k .nil)))⟩] [0, 1, 5, 6, 7]) (.seq (.seq (.reg [⟨0, (some 8), none, [], [], (.h (.mov (.k (.d (.int .i64 0)))))⟩] [0, 1, 5, 6, 7, 8]) (.block 0 (.loop A_l9_CorrSize_L0))) (.seq (.reg [⟨0, (some 58), none, [], [], (.h (.mov (.t 5)))⟩, ⟨1, (some 59), none, [], [], (.h (.mov (.t 7)))⟩, ⟨2, (some 60), none, [], [], (.callA (.k (.d (.fn 23 [] []))) [(.t 58), (.t 59)])⟩, ⟨3, (some 11), none, [], [], (.h (.mov (.t 60)))⟩] [5, 6, 7, 11]) (.seq (.reg [⟨0, (some 61), none, [], [], (.h (.mov (.t 5)))⟩, ⟨1, (some 62), none, [], [], (.h (.len (.t 61)))⟩, ⟨2, (some 63), none, [], [], (.h (.ibin .eql (.t 62) (.k (.d (.int .i64 0)))))⟩, ⟨3, (some 64), none, [], [], (.h (.mov (.t 63)))⟩, ⟨4, (some 65), (some (64, true)), [], [], (.h (.mov (.t 11)))⟩, ⟨5, (some 66), (some (64, true)), [], [], (.h (.fcmp .eq (.t 65) (.k (.d (.flt 0)))))⟩, ⟨6, (some 67), none, [], [], (.h (.pick (.t 64) (.t 66) (.k (.d (.bool false)))))⟩, ⟨7, (some 12), none, [], [], (.h (.mov (.t 67)))⟩] [5, 6, 7, 11, 12]) (.seq (.seq (.reg [⟨0, (some 13), none, [], [], (.h (.mov (.k (.d (.int .i64 0)))))⟩] [5, 6, 7, 11, 12, 13]) (.block 2 (.loop A_l9_CorrSize_L1))) (.seq (.reg [⟨0, (some 94), none, [], [], (.h (.mov (.t 12)))⟩, ⟨1, (some 95), none, [], [], (.h (.mov (.t 94)))⟩, ⟨2, (some 96), (some (95, true)), [], [], (.h (.mov (.t 6)))⟩, ⟨3, (some 97), (some (95, true)), [], [], (.h (.mov (.t 7)))⟩, ⟨4, (some 98), (some (95, true)), [], [], (.callA (.k (.d (.fn 23 [] []))) [(.t 96), (.t 97)])⟩, ⟨5, (some 99), (some (95, true)), [], [], (.h (.mov (.t 11)))⟩, ⟨6, (some 100), (some (95, true)), [], [], (.h (.fbin .mul (.k (.d (.flt 4611686018427387904))) (.t 99)))⟩, ⟨7, (some 101), (some (95, true)), [], [], (.h (.fcmp .eq (.t 98) (.t 100)))⟩, ⟨8, (some 102), none, [], [], (.h (.pick (.t 95) (.t 101) (.k (.d (.bool false)))))⟩, ⟨9, (some 4), none, [], [], (.h (.mov (.t 102)))⟩] [4]) .ret))))))))
theorem A_l9_CorrSize_comp : compF Try.prog 4 = some ⟨103, [(4, none)], A_l9_CorrSize.strip⟩ := by kernel_rfl
def cD (ns : List Int) (i : Nat) : Nat := FloatKind.nearest .f64 (ns.getD i 0 % 2001 - 1000)
def cE (ns : List Int) (i : Nat) : Nat := fop .mul 4611686018427387904 (cD ns i)
def cK (ws : List Int) (i : Nat) : Int := if i < ws.length then 1 + ws.getD i 0 % 50 else 1
def cW (ws : List Int) (i : Nat) : Nat := FloatKind.nearest .f64 (cK ws i)
abbrev csT (ns ws : List Int) (i : Nat) : T := ⟨[(0, .d (rowI ns)), (1, .d (rowI ws)), (5, .sl 100 0 0 i 1 i), (6, .sl 101 0 0 i 1 i), (7, .sl 102 0 0 i 1 i), (8, fI i)],
  [(102, [rowV (tabR (cW ws) i)]), (101, [rowV (tabR (cE ns) i)]), (100, [rowV (tabR (cD ns) i)])]⟩
theorem cs_begin (ns ws : List Int) : Le (fun _ => False) (T.s 103 ⟨[(0, .d (rowI ns)), (1, .d (rowI ws)), (5, .nil), (6, .nil), (7, .nil), (8, fI 0)], []⟩) (T.s 103 (csT ns ws 0)) := by
  refine Le.trans (LeT.nilrow (X := 100) (esz := 1) (as' := [(0, .d (rowI ns)), (1, .d (rowI ws)), (5, .sl 100 0 0 0 1 0), (6, .nil), (7, .nil), (8, fI 0)]) (by simp [fam_nil]) (fun h => h) fun i => ?_) ?_
  · simp only [look]
    repeat' split
    all_goals simp
  refine Le.trans (LeT.nilrow (X := 101) (esz := 1) (as' := [(0, .d (rowI ns)), (1, .d (rowI ws)), (5, .sl 100 0 0 0 1 0), (6, .sl 101 0 0 0 1 0), (7, .nil), (8, fI 0)]) (by simp [fam_cons, fam_nil]) (fun h => h) fun i => ?_) ?_
  · simp only [look]
    repeat' split
    all_goals simp
  refine (LeT.nilrow (X := 102) (esz := 1) (as' := [(0, .d (rowI ns)), (1, .d (rowI ws)), (5, .sl 100 0 0 0 1 0), (6, .sl 101 0 0 0 1 0), (7, .sl 102 0 0 0 1 0), (8, fI 0)]) (by simp [fam_cons, fam_nil]) (fun h => h) fun i => ?_)
  · simp only [look]
    repeat' split
    all_goals simp
def nS (ns : List Int) : Nat := min ns.length 9
def cQ (ns ws : List Int) (i : Nat) : Nat := fop .div (fabs (cD ns i)) (cW ws i)
def cS (ns ws : List Int) : Nat := szP (tabR (cD ns) (nS ns)) (tabR (cW ws) (nS ns))
def cIs (ns ws : List Int) (i : Nat) : Bool := (nS ns == 0) || (List.range i).any fun j => fcmp .eq (cQ ns ws j) (cS ns ws)
theorem cIs_succ (ns ws : List Int) (i : Nat) : cIs ns ws (i + 1) = (cIs ns ws i || fcmp .eq (cQ ns ws i) (cS ns ws)) := by simp [cIs, List.range_succ, Bool.or_assoc]
def cQe (ns ws : List Int) (i : Nat) : Nat := fop .div (fabs (cE ns i)) (cW ws i)
theorem big_ge : (8000 : Rat) ≤ big := by
  have h1 := pw_mono (show (13 : Int) ≤ bigE by rw [bigE_eq]; decide)
  have h2 := pw_nat 13
  rw [show ((13 : Nat) : Int) = 13 from rfl] at h2
  rw [h2] at h1
  have h3 : (8000 : Rat) ≤ ((2 ^ 13 : Nat) : Rat) := by decide +kernel
  exact Rat.le_trans h3 h1
theorem pw_tiny : 2 * pw (-1000) ≤ 1 / 64 ∧ pw (-52) ≤ 1 ∧ pw (-1075) ≤ 1 := by
  have h1 := pw_mono (show (-1000 : Int) ≤ -7 by decide)
  have h2 : pw (-7) = 1 / 128 := by decide +kernel
  have h3 := pw_mono (show (-52 : Int) ≤ 0 by decide)
  have h4 := pw_mono (show (-1075 : Int) ≤ 0 by decide)
  rw [pw_zero] at h3 h4
  rw [h2] at h1
  exact ⟨by grind, h3, h4⟩
theorem cs_num (ns ws : List Int) (i : Nat) : fin (cQ ns ws i) ∧ fin (cQe ns ws i) ∧ val (cQe ns ws i) = 2 * val (cQ ns ws i) ∧ rabs (val (cQ ns ws i)) ≤ 3000 := by
  have w2 := Int.emod_nonneg (ns.getD i 0) (by decide : (2001 : Int) ≠ 0)
  have w3 := Int.emod_lt_of_pos (ns.getD i 0) (by decide : (0 : Int) < 2001)
  have w4 := Int.emod_nonneg (ws.getD i 0) (by decide : (50 : Int) ≠ 0)
  have w5 := Int.emod_lt_of_pos (ws.getD i 0) (by decide : (0 : Int) < 50)
  have hk : 1 ≤ cK ws i ∧ cK ws i ≤ 50 := by unfold cK; split <;> omega
  have xD := Ix.ofInt (ns.getD i 0 % 2001 - 1000) (by omega)
  have xW := Ix.ofInt (cK ws i) (by omega)
  change Ix 0 (cD ns i) _ at xD
  change Ix 0 (cW ws i) _ at xW
  have ha : -1000 ≤ ns.getD i 0 % 2001 - 1000 ∧ ns.getD i 0 % 2001 - 1000 ≤ 1000 := by omega
  generalize ns.getD i 0 % 2001 - 1000 = a at xD ha
  generalize cK ws i = k at xW hk
  have hb := big_ge
  obtain ⟨t1, t2, t3⟩ := pw_tiny
  have vD : val (cD ns i) = a := by rw [xD.val, pw_zero]; grind
  have vW : val (cW ws i) = k := by rw [xW.val, pw_zero]; grind
  have k1 : (1 : Rat) ≤ k := by exact_mod_cast Rat.intCast_le_intCast.2 hk.1
  have k2 : (k : Rat) ≤ ((50 : Int) : Rat) := Rat.intCast_le_intCast.2 hk.2
  have a1 : ((-1000 : Int) : Rat) ≤ a := Rat.intCast_le_intCast.2 ha.1
  have a2 : (a : Rat) ≤ ((1000 : Int) : Rat) := Rat.intCast_le_intCast.2 ha.2
  rw [show ((50 : Int) : Rat) = 50 from rfl] at k2
  rw [show ((-1000 : Int) : Rat) = -1000 from rfl] at a1
  rw [show ((1000 : Int) : Rat) = 1000 from rfl] at a2
  have ra : rabs (a : Rat) ≤ 1000 := by refine rabs_le ?_ ?_ <;> grind
  obtain ⟨fD1, fD2⟩ := val_fabs xD.fin
  obtain ⟨rE, vE⟩ := mul_two xD.fin (by rw [rabs_mul, rabs_of_nonneg (show (0 : Rat) ≤ 2 by decide), vD]; grind)
  change Rnd (cE ns i) _ at rE
  change val (cE ns i) = _ at vE
  obtain ⟨fE1, fE2⟩ := val_fabs rE.fin
  rw [vD] at fD2 vE
  rw [vE, rabs_mul, rabs_of_nonneg (show (0 : Rat) ≤ 2 by decide)] at fE2
  have kne : val (cW ws i) ≠ 0 := by rw [vW]; grind
  have hq : rabs (a : Rat) / k * val (cW ws i) = val (fabs (cD ns i)) := by
    rw [vW, fD2]; exact Rat.div_mul_cancel (by grind)
  have hqe : 2 * (rabs (a : Rat) / k) * val (cW ws i) = val (fabs (cE ns i)) := by
    rw [fE2, ← fD2, ← hq]; grind
  generalize hqd : rabs (a : Rat) / k = q at hq hqe
  have hqk : q * k = rabs (a : Rat) := by rw [← hqd]; exact Rat.div_mul_cancel (by grind)
  have ra0 := rabs_nonneg (a : Rat)
  have q0 : 0 ≤ q := by
    by_cases h : 0 ≤ q
    · exact h
    · have := Rat.mul_pos (show 0 < -q by grind) (show (0 : Rat) < k by grind)
      grind
  have q1 : q ≤ 1000 := by
    have := Rat.mul_le_mul_of_nonneg_left k1 q0
    grind
  have hra : rabs q = q := rabs_of_nonneg q0
  have Q1 := fop_div fD1 xW.fin kne hq (by rw [hra]; grind)
  have Q2 := fop_div fE1 xW.fin kne hqe (by rw [rabs_mul, hra, rabs_of_nonneg (show (0 : Rat) ≤ 2 by decide)]; grind)
  refine ⟨Q1.fin, Q2.fin, ?_, ?_⟩
  · by_cases h0 : a = 0
    · subst h0
      have hr0 : rabs ((0 : Int) : Rat) = 0 := by decide +kernel
      have hq00 : q = 0 := by rw [← hqd, hr0]; simp [Rat.div_def]
      have z : ((0 : Int) : Rat) = 0 := rfl
      have v1 := Q1.exact 0 0 (by decide) (by decide) (by rw [hq00, z, Rat.zero_mul])
      have v2 := Q2.exact 0 0 (by decide) (by decide) (by rw [hq00, z, Rat.zero_mul, Rat.mul_zero])
      show val (fop .div (fabs (cE ns i)) (cW ws i)) = 2 * val (fop .div (fabs (cD ns i)) (cW ws i))
      rw [v1, v2]
    · have hra1 : 1 ≤ rabs (a : Rat) := by
        rw [rabs_int]
        have h1 : 1 ≤ a.natAbs := by omega
        have h2 : ((1 : Nat) : Rat) ≤ ((a.natAbs : Nat) : Rat) := Rat.natCast_le_natCast.2 h1
        exact h2
      have hq50 : 1 ≤ q * 50 := by
        have := Rat.mul_le_mul_of_nonneg_left k2 q0
        grind
      refine fop_div_dbl (fabs_form xD.fin (by rw [vD]; grind)) (fabs_form rE.fin (by rw [vE, rabs_mul, rabs_of_nonneg (show (0 : Rat) ≤ 2 by decide)]; grind)) xW.fin (by rw [fE2, fD2]) ?_ kne hq ?_ ?_
      · rw [fD2, rabs_of_nonneg ra0]; have := pw_pos (-1000); grind
      · rw [hra]; grind
      · rw [hra]; grind
  · have h1 := Q1.err
    rw [hra] at h1
    have h2 := rabs_add (val (fop .div (fabs (cD ns i)) (cW ws i)) - q) q
    rw [hra] at h2
    have h3 : val (fop .div (fabs (cD ns i)) (cW ws i)) - q + q = val (fop .div (fabs (cD ns i)) (cW ws i)) := by grind
    rw [h3] at h2
    have h4 := Rat.mul_le_mul_of_nonneg_left t2 q0
    show rabs (val (fop .div (fabs (cD ns i)) (cW ws i))) ≤ 3000
    grind
/-- The greatest of each, alike. -/
theorem cs_max (ns ws : List Int) (n i : Nat) (hi : i ≤ n) : ∃ o o', szF (tabR (cD ns) n) (tabR (cW ws) n) i = some o ∧ szF (tabR (cE ns) n) (tabR (cW ws) n) i = some o' ∧ fin o ∧ fin o' ∧ val o' = 2 * val o ∧ rabs (val o) ≤ 3000 ∧
    (∀ j, j < i → val (cQ ns ws j) ≤ val o) ∧ (0 < i → ∃ j, j < i ∧ val (cQ ns ws j) = val o) := by
  induction i with
  | zero => exact ⟨0, 0, rfl, rfl, fin_zero, fin_zero, by rw [val_zero]; grind, by rw [val_zero]; decide, fun j hj => by omega, fun h => by omega⟩
  | succ i ih =>
    obtain ⟨o, o', h1, h2, h3, h4, h5, h6, h7, h8⟩ := ih (by omega)
    obtain ⟨n1, n2, n3, n4⟩ := cs_num ns ws i
    have g1 := tabR_getD (cD ns) n i (by omega)
    have g2 := tabR_getD (cE ns) n i (by omega)
    have g3 := tabR_getD (cW ws) n i (by omega)
    have s1 : szF (tabR (cD ns) n) (tabR (cW ws) n) (i + 1) = some (if (i == 0 || fcmp .gt (cQ ns ws i) o) = true then cQ ns ws i else o) := by
      simp only [szF, h1, Option.bind_some, g1, g3]
      rw [show fop .div (fabs (cD ns i)) (cW ws i) = cQ ns ws i from rfl, fin_not_nan n1]; rfl
    have s2 : szF (tabR (cE ns) n) (tabR (cW ws) n) (i + 1) = some (if (i == 0 || fcmp .gt (cQe ns ws i) o') = true then cQe ns ws i else o') := by
      simp only [szF, h2, Option.bind_some, g2, g3]
      rw [show fop .div (fabs (cE ns i)) (cW ws i) = cQe ns ws i from rfl, fin_not_nan n2]; rfl
    have hgt : fcmp .gt (cQe ns ws i) o' = fcmp .gt (cQ ns ws i) o := by
      have c1 := fcmp_gt n2 h4
      have c2 := fcmp_gt n1 h3
      rw [n3, h5] at c1
      cases hx : fcmp .gt (cQ ns ws i) o
      · rw [hx] at c2
        cases hy : fcmp .gt (cQe ns ws i) o'
        · rfl
        · rw [hy] at c1
          have := c1.1 rfl
          exact (c2.2 (by grind)).symm
      · have := c2.1 hx
        exact c1.2 (by grind)
    rw [hgt] at s2
    have c2 := fcmp_gt n1 h3
    cases hc : (i == 0 || fcmp .gt (cQ ns ws i) o)
    · rw [hc] at s1 s2
      simp only [Bool.or_eq_false_iff] at hc
      have hle : val (cQ ns ws i) ≤ val o := by
        by_cases hh : val o < val (cQ ns ws i)
        · rw [c2.2 hh] at hc; exact absurd hc.2 (by decide)
        · grind
      have hi0 : 0 < i := by
        have := hc.1
        simp at this; omega
      obtain ⟨j, hj, hj2⟩ := h8 hi0
      refine ⟨o, o', s1, s2, h3, h4, h5, h6, fun j hj => ?_, fun _ => ⟨j, by omega, hj2⟩⟩
      rcases Nat.lt_succ_iff_lt_or_eq.1 hj with h | rfl
      · exact h7 j h
      · exact hle
    · rw [hc] at s1 s2
      refine ⟨_, _, s1, s2, n1, n2, n3, n4, fun j hj => ?_, fun _ => ⟨i, by omega, rfl⟩⟩
      simp only [if_true]
      rcases Nat.lt_succ_iff_lt_or_eq.1 hj with h | rfl
      · simp only [Bool.or_eq_true, beq_iff_eq] at hc
        rcases hc with hc | hc
        · omega
        · have := c2.1 hc
          have := h7 j h
          grind
      · exact Rat.le_refl
theorem cs_all (ns ws : List Int) : fin (cS ns ws) ∧ (∀ j, j < nS ns → val (cQ ns ws j) ≤ val (cS ns ws)) ∧ (0 < nS ns → ∃ j, j < nS ns ∧ val (cQ ns ws j) = val (cS ns ws)) ∧ rabs (val (cS ns ws)) ≤ 3000 ∧
    fin (szP (tabR (cE ns) (nS ns)) (tabR (cW ws) (nS ns))) ∧ val (szP (tabR (cE ns) (nS ns)) (tabR (cW ws) (nS ns))) = 2 * val (cS ns ws) := by
  obtain ⟨o, o', h1, h2, h3, h4, h5, h6, h7, h8⟩ := cs_max ns ws (nS ns) (nS ns) (Nat.le_refl _)
  have e1 : cS ns ws = o := by unfold cS szP; rw [tabR_len, h1]; rfl
  have e2 : szP (tabR (cE ns) (nS ns)) (tabR (cW ws) (nS ns)) = o' := by unfold szP; rw [tabR_len, h2]; rfl
  rw [e1, e2]
  exact ⟨h3, h7, h8, h6, h4, h5⟩
theorem cs_F1 (ns ws : List Int) (i : Nat) (hi : i < nS ns) : fcmp .le (cQ ns ws i) (cS ns ws) = true :=
  (fcmp_le (cs_num ns ws i).1 (cs_all ns ws).1).2 ((cs_all ns ws).2.1 i hi)
theorem cs_F2 (ns ws : List Int) : cIs ns ws (nS ns) = true := by
  unfold cIs
  by_cases h : nS ns = 0
  · simp [h]
  · obtain ⟨j, hj, he⟩ := (cs_all ns ws).2.2.1 (by omega)
    have := (fcmp_eq (cs_num ns ws j).1 (cs_all ns ws).1).2 he
    simp only [Bool.or_eq_true, List.any_eq_true, List.mem_range]
    exact .inr ⟨j, hj, this⟩
theorem cs_F3 (ns ws : List Int) : fcmp .eq (szP (tabR (cE ns) (nS ns)) (tabR (cW ws) (nS ns))) (fop .mul 4611686018427387904 (cS ns ws)) = true := by
  obtain ⟨h1, h2, h3, h4, h5, h6⟩ := cs_all ns ws
  obtain ⟨r, hv⟩ := mul_two h1 (by rw [rabs_mul, rabs_of_nonneg (show (0 : Rat) ≤ 2 by decide)]; have := big_ge; grind)
  rw [fcmp_eq h5 r.fin, hv, h6]
theorem cs_zero (ns ws : List Int) (h : nS ns = 0) : fcmp .eq (cS ns ws) 0 = true := by
  unfold cS; rw [h]; kernel_rfl
set_option maxRecDepth 8000 in
theorem cs_L1 (ns ws : List Int) (b0 : Bool) (hb : b0 = cIs ns ws 0) (Q : Ex → T → Prop) (hQ : Q (.exit 2) ⟨[(5, .sl 100 0 0 (nS ns) 1 (nS ns)), (6, .sl 101 0 0 (nS ns) 1 (nS ns)), (7, .sl 102 0 0 (nS ns) 1 (nS ns)), (11, fl (cS ns ws)), (12, fB (cIs ns ws (nS ns))), (13, fI (nS ns)), (71, fB false)], [(102, [rowV (tabR (cW ws) (nS ns))]), (101, [rowV (tabR (cE ns) (nS ns))]), (100, [rowV (tabR (cD ns) (nS ns))])]⟩) :
    WA Try.prog (fun _ => False) 103 A_l9_CorrSize_L1.loop Q ⟨[(5, .sl 100 0 0 (nS ns) 1 (nS ns)), (6, .sl 101 0 0 (nS ns) 1 (nS ns)), (7, .sl 102 0 0 (nS ns) 1 (nS ns)), (11, fl (cS ns ws)), (12, fB b0), (13, fI 0)], [(102, [rowV (tabR (cW ws) (nS ns))]), (101, [rowV (tabR (cE ns) (nS ns))]), (100, [rowV (tabR (cD ns) (nS ns))])]⟩ := by
  subst hb
  have hm : nS ns = min ns.length 9 := rfl
  have l1 := tabR_len (cD ns) (nS ns)
  have l2 := tabR_len (cE ns) (nS ns)
  have l3 := tabR_len (cW ws) (nS ns)
  refine WA_for (n := nS ns) (fun c s => ∃ i, c + i = nS ns ∧ s = ⟨[(5, .sl 100 0 0 (nS ns) 1 (nS ns)), (6, .sl 101 0 0 (nS ns) 1 (nS ns)), (7, .sl 102 0 0 (nS ns) 1 (nS ns)), (11, fl (cS ns ws)), (12, fB (cIs ns ws i)), (13, fI i)], [(102, [rowV (tabR (cW ws) (nS ns))]), (101, [rowV (tabR (cE ns) (nS ns))]), (100, [rowV (tabR (cD ns) (nS ns))])]⟩) ⟨0, by omega, rfl⟩ ?_
  rintro c s ⟨i, hc, rfl⟩
  simp -implicitDefEqProofs only [xC_skip, evS, decide_true, decide_false, decide_eq_true_eq, sides, Inst.places, List.zip_cons_cons, List.zip_nil_right, List.zip_nil_left, List.mem_cons, List.not_mem_nil, forall_eq_or_imp, forall_eq, false_implies, implies_true, Apart, xeff, xhv, hv, effC, xev, look, argSl, atL, drops, keep, inBlockT, pickX, callX, callCX, callSX, callee, List.map_cons, List.map_nil, List.append_nil, List.nil_append, List.cons_append, reduceCtorEq, ↓reduceIte, Nat.reduceEqDiff, Nat.reduceAdd, Nat.reduceMul, eq_self, List.length_replicate, Int.reduceToNat, Int.reduceAdd, Int.reduceSub, Int.reduceMul, Int.reduceNeg, Int.reduceLT, Int.reduceLE, rowD, rowI, rowsD, ivD, rowG, rowIG, rowsG, ivG, bne_self_eq_false, beq_self_eq_true, List.length_map, List.getD_cons_zero, List.getD_cons_succ, List.drop_succ_cons, List.drop_zero, List.take_succ_cons, List.take_zero, List.take_nil, List.getElem?_cons_zero, List.getElem?_cons_succ, List.length_cons, List.length_nil, List.length_set, List.set_cons_zero, List.set_cons_succ, List.all_cons, List.all_nil, Nat.reduceLT, Nat.reduceLeDiff, ne_eq, Option.some.injEq, fillV, partsV, V.okPart, gt_iff_lt, ge_iff_le, A_l9_CorrSize_L1]
  refine condC_intro (fun h => ?_) (fun h => ?_)
  · replace h := of_decide_eq_true h
    simp -implicitDefEqProofs only [xC_skip, evS, decide_true, decide_false, decide_eq_true_eq, sides, Inst.places, List.zip_cons_cons, List.zip_nil_right, List.zip_nil_left, List.mem_cons, List.not_mem_nil, forall_eq_or_imp, forall_eq, false_implies, implies_true, Apart, xeff, xhv, hv, effC, xev, look, argSl, atL, drops, keep, inBlockT, pickX, callX, callCX, callSX, callee, List.map_cons, List.map_nil, List.append_nil, List.nil_append, List.cons_append, reduceCtorEq, ↓reduceIte, Nat.reduceEqDiff, Nat.reduceAdd, Nat.reduceMul, eq_self, List.length_replicate, Int.reduceToNat, Int.reduceAdd, Int.reduceSub, Int.reduceMul, Int.reduceNeg, Int.reduceLT, Int.reduceLE, rowD, rowI, rowsD, ivD, rowG, rowIG, rowsG, ivG, bne_self_eq_false, beq_self_eq_true, List.length_map, List.getD_cons_zero, List.getD_cons_succ, List.drop_succ_cons, List.drop_zero, List.take_succ_cons, List.take_zero, List.take_nil, List.getElem?_cons_zero, List.getElem?_cons_succ, List.length_cons, List.length_nil, List.length_set, List.set_cons_zero, List.set_cons_succ, List.all_cons, List.all_nil, Nat.reduceLT, Nat.reduceLeDiff, ne_eq, Option.some.injEq, fillV, partsV, V.okPart, gt_iff_lt, ge_iff_le]
    (repeat (with_reducible refine And.intro (by omega) ?_))
    have ga : (rowV (tabR (cD ns) (nS ns))).getD i .any = fl (cD ns i) := by
      rw [← tabR_getD (cD ns) (nS ns) i h]; exact getD_map_fl _ _ (by omega)
    have gw : (rowV (tabR (cW ws) (nS ns))).getD i .any = fl (cW ws i) := by
      rw [← tabR_getD (cW ws) (nS ns) i h]; exact getD_map_fl _ _ (by omega)
    rw [ga]
    first | refine callG_con (math_Abs_con (cD ns i)) rfl ?_ | refine callCG_con (math_Abs_con (cD ns i)) rfl ?_ | refine callSG_con (math_Abs_con (cD ns i)) rfl ?_
    simp -implicitDefEqProofs only [xC_skip, evS, decide_true, decide_false, decide_eq_true_eq, sides, Inst.places, List.zip_cons_cons, List.zip_nil_right, List.zip_nil_left, List.mem_cons, List.not_mem_nil, forall_eq_or_imp, forall_eq, false_implies, implies_true, Apart, xeff, xhv, hv, effC, xev, look, argSl, atL, drops, keep, inBlockT, pickX, callX, callCX, callSX, callee, List.map_cons, List.map_nil, List.append_nil, List.nil_append, List.cons_append, reduceCtorEq, ↓reduceIte, Nat.reduceEqDiff, Nat.reduceAdd, Nat.reduceMul, eq_self, List.length_replicate, Int.reduceToNat, Int.reduceAdd, Int.reduceSub, Int.reduceMul, Int.reduceNeg, Int.reduceLT, Int.reduceLE, rowD, rowI, rowsD, ivD, rowG, rowIG, rowsG, ivG, bne_self_eq_false, beq_self_eq_true, List.length_map, List.getD_cons_zero, List.getD_cons_succ, List.drop_succ_cons, List.drop_zero, List.take_succ_cons, List.take_zero, List.take_nil, List.getElem?_cons_zero, List.getElem?_cons_succ, List.length_cons, List.length_nil, List.length_set, List.set_cons_zero, List.set_cons_succ, List.all_cons, List.all_nil, Nat.reduceLT, Nat.reduceLeDiff, ne_eq, Option.some.injEq, fillV, partsV, V.okPart, gt_iff_lt, ge_iff_le, gw]
    (repeat (with_reducible refine And.intro (by omega) ?_))
    have hq : fop .div (fabs (cD ns i)) (cW ws i) = cQ ns ws i := rfl
    simp -implicitDefEqProofs only [xC_skip, evS, decide_true, decide_false, decide_eq_true_eq, sides, Inst.places, List.zip_cons_cons, List.zip_nil_right, List.zip_nil_left, List.mem_cons, List.not_mem_nil, forall_eq_or_imp, forall_eq, false_implies, implies_true, Apart, xeff, xhv, hv, effC, xev, look, argSl, atL, drops, keep, inBlockT, pickX, callX, callCX, callSX, callee, List.map_cons, List.map_nil, List.append_nil, List.nil_append, List.cons_append, reduceCtorEq, ↓reduceIte, Nat.reduceEqDiff, Nat.reduceAdd, Nat.reduceMul, eq_self, List.length_replicate, Int.reduceToNat, Int.reduceAdd, Int.reduceSub, Int.reduceMul, Int.reduceNeg, Int.reduceLT, Int.reduceLE, rowD, rowI, rowsD, ivD, rowG, rowIG, rowsG, ivG, bne_self_eq_false, beq_self_eq_true, List.length_map, List.getD_cons_zero, List.getD_cons_succ, List.drop_succ_cons, List.drop_zero, List.take_succ_cons, List.take_zero, List.take_nil, List.getElem?_cons_zero, List.getElem?_cons_succ, List.length_cons, List.length_nil, List.length_set, List.set_cons_zero, List.set_cons_succ, List.all_cons, List.all_nil, Nat.reduceLT, Nat.reduceLeDiff, ne_eq, Option.some.injEq, fillV, partsV, V.okPart, gt_iff_lt, ge_iff_le, hq, cs_F1 ns ws i h, Bool.not_true]
    have hn := cIs_succ ns ws i
    cases hi : cIs ns ws i
    · rw [hi, Bool.false_or] at hn
      simp -implicitDefEqProofs only [xC_skip, evS, decide_true, decide_false, decide_eq_true_eq, sides, Inst.places, List.zip_cons_cons, List.zip_nil_right, List.zip_nil_left, List.mem_cons, List.not_mem_nil, forall_eq_or_imp, forall_eq, false_implies, implies_true, Apart, xeff, xhv, hv, effC, xev, look, argSl, atL, drops, keep, inBlockT, pickX, callX, callCX, callSX, callee, List.map_cons, List.map_nil, List.append_nil, List.nil_append, List.cons_append, reduceCtorEq, ↓reduceIte, Nat.reduceEqDiff, Nat.reduceAdd, Nat.reduceMul, eq_self, List.length_replicate, Int.reduceToNat, Int.reduceAdd, Int.reduceSub, Int.reduceMul, Int.reduceNeg, Int.reduceLT, Int.reduceLE, rowD, rowI, rowsD, ivD, rowG, rowIG, rowsG, ivG, bne_self_eq_false, beq_self_eq_true, List.length_map, List.getD_cons_zero, List.getD_cons_succ, List.drop_succ_cons, List.drop_zero, List.take_succ_cons, List.take_zero, List.take_nil, List.getElem?_cons_zero, List.getElem?_cons_succ, List.length_cons, List.length_nil, List.length_set, List.set_cons_zero, List.set_cons_succ, List.all_cons, List.all_nil, Nat.reduceLT, Nat.reduceLeDiff, ne_eq, Option.some.injEq, fillV, partsV, V.okPart, gt_iff_lt, ge_iff_le, ← hn]
      rw [wrapI (by omega) (by omega)]
      exact ⟨c - 1, by omega, i + 1, by omega, rfl⟩
    · rw [hi, Bool.true_or] at hn
      simp -implicitDefEqProofs only [xC_skip, evS, decide_true, decide_false, decide_eq_true_eq, sides, Inst.places, List.zip_cons_cons, List.zip_nil_right, List.zip_nil_left, List.mem_cons, List.not_mem_nil, forall_eq_or_imp, forall_eq, false_implies, implies_true, Apart, xeff, xhv, hv, effC, xev, look, argSl, atL, drops, keep, inBlockT, pickX, callX, callCX, callSX, callee, List.map_cons, List.map_nil, List.append_nil, List.nil_append, List.cons_append, reduceCtorEq, ↓reduceIte, Nat.reduceEqDiff, Nat.reduceAdd, Nat.reduceMul, eq_self, List.length_replicate, Int.reduceToNat, Int.reduceAdd, Int.reduceSub, Int.reduceMul, Int.reduceNeg, Int.reduceLT, Int.reduceLE, rowD, rowI, rowsD, ivD, rowG, rowIG, rowsG, ivG, bne_self_eq_false, beq_self_eq_true, List.length_map, List.getD_cons_zero, List.getD_cons_succ, List.drop_succ_cons, List.drop_zero, List.take_succ_cons, List.take_zero, List.take_nil, List.getElem?_cons_zero, List.getElem?_cons_succ, List.length_cons, List.length_nil, List.length_set, List.set_cons_zero, List.set_cons_succ, List.all_cons, List.all_nil, Nat.reduceLT, Nat.reduceLeDiff, ne_eq, Option.some.injEq, fillV, partsV, V.okPart, gt_iff_lt, ge_iff_le]
      rw [wrapI (by omega) (by omega)]
      exact ⟨c - 1, by omega, i + 1, by omega, by rw [hn]; rfl⟩
  · replace h := of_decide_eq_false h
    have e : i = nS ns := by omega
    subst e
    have e3 : decide (nS ns < nS ns) = false := by simp
    simp -implicitDefEqProofs only [xC_skip, evS, decide_true, decide_false, decide_eq_true_eq, sides, Inst.places, List.zip_cons_cons, List.zip_nil_right, List.zip_nil_left, List.mem_cons, List.not_mem_nil, forall_eq_or_imp, forall_eq, false_implies, implies_true, Apart, xeff, xhv, hv, effC, xev, look, argSl, atL, drops, keep, inBlockT, pickX, callX, callCX, callSX, callee, List.map_cons, List.map_nil, List.append_nil, List.nil_append, List.cons_append, reduceCtorEq, ↓reduceIte, Nat.reduceEqDiff, Nat.reduceAdd, Nat.reduceMul, eq_self, List.length_replicate, Int.reduceToNat, Int.reduceAdd, Int.reduceSub, Int.reduceMul, Int.reduceNeg, Int.reduceLT, Int.reduceLE, rowD, rowI, rowsD, ivD, rowG, rowIG, rowsG, ivG, bne_self_eq_false, beq_self_eq_true, List.length_map, List.getD_cons_zero, List.getD_cons_succ, List.drop_succ_cons, List.drop_zero, List.take_succ_cons, List.take_zero, List.take_nil, List.getElem?_cons_zero, List.getElem?_cons_succ, List.length_cons, List.length_nil, List.length_set, List.set_cons_zero, List.set_cons_succ, List.all_cons, List.all_nil, Nat.reduceLT, Nat.reduceLeDiff, ne_eq, Option.some.injEq, fillV, partsV, V.okPart, gt_iff_lt, ge_iff_le, e3]
    exact hQ
set_option maxRecDepth 8000 in
theorem l9_CorrSize_con (ns ws : List Int) (hns : ns.length < 2 ^ 62) (hws : ws.length < 2 ^ 62) : Con Try.prog 4 [.d (rowI ns), .d (rowI ws)] (fB true) := by
  refine Con_introA A_l9_CorrSize_comp rfl mixed ?_
  simp -implicitDefEqProofs only [xC_skip, evS, decide_true, decide_false, decide_eq_true_eq, sides, Inst.places, List.zip_cons_cons, List.zip_nil_right, List.zip_nil_left, List.mem_cons, List.not_mem_nil, forall_eq_or_imp, forall_eq, false_implies, implies_true, Apart, xeff, xhv, hv, effC, xev, look, argSl, atL, drops, keep, inBlockT, pickX, callX, callCX, callSX, callee, List.map_cons, List.map_nil, List.append_nil, List.nil_append, List.cons_append, reduceCtorEq, ↓reduceIte, Nat.reduceEqDiff, Nat.reduceAdd, Nat.reduceMul, eq_self, List.length_replicate, Int.reduceToNat, Int.reduceAdd, Int.reduceSub, Int.reduceMul, Int.reduceNeg, Int.reduceLT, Int.reduceLE, rowD, rowI, rowsD, ivD, rowG, rowIG, rowsG, ivG, bne_self_eq_false, beq_self_eq_true, List.length_map, List.getD_cons_zero, List.getD_cons_succ, List.drop_succ_cons, List.drop_zero, List.take_succ_cons, List.take_zero, List.take_nil, List.getElem?_cons_zero, List.getElem?_cons_succ, List.length_cons, List.length_nil, List.length_set, List.set_cons_zero, List.set_cons_succ, List.all_cons, List.all_nil, Nat.reduceLT, Nat.reduceLeDiff, ne_eq, Option.some.injEq, fillV, partsV, V.okPart, gt_iff_lt, ge_iff_le, A_l9_CorrSize]
  first | refine callG_con (l9_known_con) rfl ?_ | refine callCG_con (l9_known_con) rfl ?_ | refine callSG_con (l9_known_con) rfl ?_
  simp -implicitDefEqProofs only [xC_skip, evS, decide_true, decide_false, decide_eq_true_eq, sides, Inst.places, List.zip_cons_cons, List.zip_nil_right, List.zip_nil_left, List.mem_cons, List.not_mem_nil, forall_eq_or_imp, forall_eq, false_implies, implies_true, Apart, xeff, xhv, hv, effC, xev, look, argSl, atL, drops, keep, inBlockT, pickX, callX, callCX, callSX, callee, List.map_cons, List.map_nil, List.append_nil, List.nil_append, List.cons_append, reduceCtorEq, ↓reduceIte, Nat.reduceEqDiff, Nat.reduceAdd, Nat.reduceMul, eq_self, List.length_replicate, Int.reduceToNat, Int.reduceAdd, Int.reduceSub, Int.reduceMul, Int.reduceNeg, Int.reduceLT, Int.reduceLE, rowD, rowI, rowsD, ivD, rowG, rowIG, rowsG, ivG, bne_self_eq_false, beq_self_eq_true, List.length_map, List.getD_cons_zero, List.getD_cons_succ, List.drop_succ_cons, List.drop_zero, List.take_succ_cons, List.take_zero, List.take_nil, List.getElem?_cons_zero, List.getElem?_cons_succ, List.length_cons, List.length_nil, List.length_set, List.set_cons_zero, List.set_cons_succ, List.all_cons, List.all_nil, Nat.reduceLT, Nat.reduceLeDiff, ne_eq, Option.some.injEq, fillV, partsV, V.okPart, gt_iff_lt, ge_iff_le]
  refine WA_forW (n := nS ns) (fun c s => ∃ i, c + i = nS ns ∧ s = csT ns ws i) (cs_begin ns ws) ⟨0, by omega, rfl⟩ ?_
  rintro c s ⟨i, hc, rfl⟩
  have hm : nS ns = min ns.length 9 := rfl
  have l1 := tabR_len (cD ns) i
  have l2 := tabR_len (cE ns) i
  have l3 := tabR_len (cW ws) i
  simp -implicitDefEqProofs only [xC_skip, evS, decide_true, decide_false, decide_eq_true_eq, sides, Inst.places, List.zip_cons_cons, List.zip_nil_right, List.zip_nil_left, List.mem_cons, List.not_mem_nil, forall_eq_or_imp, forall_eq, false_implies, implies_true, Apart, xeff, xhv, hv, effC, xev, look, argSl, atL, drops, keep, inBlockT, pickX, callX, callCX, callSX, callee, List.map_cons, List.map_nil, List.append_nil, List.nil_append, List.cons_append, reduceCtorEq, ↓reduceIte, Nat.reduceEqDiff, Nat.reduceAdd, Nat.reduceMul, eq_self, List.length_replicate, Int.reduceToNat, Int.reduceAdd, Int.reduceSub, Int.reduceMul, Int.reduceNeg, Int.reduceLT, Int.reduceLE, rowD, rowI, rowsD, ivD, rowG, rowIG, rowsG, ivG, bne_self_eq_false, beq_self_eq_true, List.length_map, List.getD_cons_zero, List.getD_cons_succ, List.drop_succ_cons, List.drop_zero, List.take_succ_cons, List.take_zero, List.take_nil, List.getElem?_cons_zero, List.getElem?_cons_succ, List.length_cons, List.length_nil, List.length_set, List.set_cons_zero, List.set_cons_succ, List.all_cons, List.all_nil, Nat.reduceLT, Nat.reduceLeDiff, ne_eq, Option.some.injEq, fillV, partsV, V.okPart, gt_iff_lt, ge_iff_le, A_l9_CorrSize_L0]
  by_cases h1 : i < ns.length
  · have h1' : decide (i < ns.length) = true := decide_eq_true h1
    by_cases h2 : i < 9
    · have h2' : decide ((i : Int) < 9) = true := by simp; omega
      simp -implicitDefEqProofs only [xC_skip, evS, decide_true, decide_false, decide_eq_true_eq, sides, Inst.places, List.zip_cons_cons, List.zip_nil_right, List.zip_nil_left, List.mem_cons, List.not_mem_nil, forall_eq_or_imp, forall_eq, false_implies, implies_true, Apart, xeff, xhv, hv, effC, xev, look, argSl, atL, drops, keep, inBlockT, pickX, callX, callCX, callSX, callee, List.map_cons, List.map_nil, List.append_nil, List.nil_append, List.cons_append, reduceCtorEq, ↓reduceIte, Nat.reduceEqDiff, Nat.reduceAdd, Nat.reduceMul, eq_self, List.length_replicate, Int.reduceToNat, Int.reduceAdd, Int.reduceSub, Int.reduceMul, Int.reduceNeg, Int.reduceLT, Int.reduceLE, rowD, rowI, rowsD, ivD, rowG, rowIG, rowsG, ivG, bne_self_eq_false, beq_self_eq_true, List.length_map, List.getD_cons_zero, List.getD_cons_succ, List.drop_succ_cons, List.drop_zero, List.take_succ_cons, List.take_zero, List.take_nil, List.getElem?_cons_zero, List.getElem?_cons_succ, List.length_cons, List.length_nil, List.length_set, List.set_cons_zero, List.set_cons_succ, List.all_cons, List.all_nil, Nat.reduceLT, Nat.reduceLeDiff, ne_eq, Option.some.injEq, fillV, partsV, V.okPart, gt_iff_lt, ge_iff_le, h1', h2']
      have w2 := Int.emod_nonneg (ns.getD i 0) (by decide : (2001 : Int) ≠ 0)
      have w3 := Int.emod_lt_of_pos (ns.getD i 0) (by decide : (0 : Int) < 2001)
      refine condC_intro (fun h3 => ?_) (fun h3 => ?_)
      · replace h3 := of_decide_eq_true h3
        have hk : cK ws i = 1 + ws.getD i 0 % 50 := if_pos h3
        have w4 := Int.emod_nonneg (ws.getD i 0) (by decide : (50 : Int) ≠ 0)
        have w5 := Int.emod_lt_of_pos (ws.getD i 0) (by decide : (0 : Int) < 50)
        simp -implicitDefEqProofs only [xC_skip, evS, decide_true, decide_false, decide_eq_true_eq, sides, Inst.places, List.zip_cons_cons, List.zip_nil_right, List.zip_nil_left, List.mem_cons, List.not_mem_nil, forall_eq_or_imp, forall_eq, false_implies, implies_true, Apart, xeff, xhv, hv, effC, xev, look, argSl, atL, drops, keep, inBlockT, pickX, callX, callCX, callSX, callee, List.map_cons, List.map_nil, List.append_nil, List.nil_append, List.cons_append, reduceCtorEq, ↓reduceIte, Nat.reduceEqDiff, Nat.reduceAdd, Nat.reduceMul, eq_self, List.length_replicate, Int.reduceToNat, Int.reduceAdd, Int.reduceSub, Int.reduceMul, Int.reduceNeg, Int.reduceLT, Int.reduceLE, rowD, rowI, rowsD, ivD, rowG, rowIG, rowsG, ivG, bne_self_eq_false, beq_self_eq_true, List.length_map, List.getD_cons_zero, List.getD_cons_succ, List.drop_succ_cons, List.drop_zero, List.take_succ_cons, List.take_zero, List.take_nil, List.getElem?_cons_zero, List.getElem?_cons_succ, List.length_cons, List.length_nil, List.length_set, List.set_cons_zero, List.set_cons_succ, List.all_cons, List.all_nil, Nat.reduceLT, Nat.reduceLeDiff, ne_eq, Option.some.injEq, fillV, partsV, V.okPart, gt_iff_lt, ge_iff_le]
        (repeat (with_reducible refine And.intro (by omega) ?_))
        first | refine callG_con (l9_within_con (ws.getD i 0) 50 (by decide) (by decide)) rfl ?_ | refine callCG_con (l9_within_con (ws.getD i 0) 50 (by decide) (by decide)) rfl ?_ | refine callSG_con (l9_within_con (ws.getD i 0) 50 (by decide) (by decide)) rfl ?_
        simp -implicitDefEqProofs only [xC_skip, evS, decide_true, decide_false, decide_eq_true_eq, sides, Inst.places, List.zip_cons_cons, List.zip_nil_right, List.zip_nil_left, List.mem_cons, List.not_mem_nil, forall_eq_or_imp, forall_eq, false_implies, implies_true, Apart, xeff, xhv, hv, effC, xev, look, argSl, atL, drops, keep, inBlockT, pickX, callX, callCX, callSX, callee, List.map_cons, List.map_nil, List.append_nil, List.nil_append, List.cons_append, reduceCtorEq, ↓reduceIte, Nat.reduceEqDiff, Nat.reduceAdd, Nat.reduceMul, eq_self, List.length_replicate, Int.reduceToNat, Int.reduceAdd, Int.reduceSub, Int.reduceMul, Int.reduceNeg, Int.reduceLT, Int.reduceLE, rowD, rowI, rowsD, ivD, rowG, rowIG, rowsG, ivG, bne_self_eq_false, beq_self_eq_true, List.length_map, List.getD_cons_zero, List.getD_cons_succ, List.drop_succ_cons, List.drop_zero, List.take_succ_cons, List.take_zero, List.take_nil, List.getElem?_cons_zero, List.getElem?_cons_succ, List.length_cons, List.length_nil, List.length_set, List.set_cons_zero, List.set_cons_succ, List.all_cons, List.all_nil, Nat.reduceLT, Nat.reduceLeDiff, ne_eq, Option.some.injEq, fillV, partsV, V.okPart, gt_iff_lt, ge_iff_le]
        rw [wrapI (by omega) (by omega)]
        (repeat (with_reducible refine And.intro (by omega) ?_))
        first | refine callG_con (l9_within_con (ns.getD i 0) 2001 (by decide) (by decide)) rfl ?_ | refine callCG_con (l9_within_con (ns.getD i 0) 2001 (by decide) (by decide)) rfl ?_ | refine callSG_con (l9_within_con (ns.getD i 0) 2001 (by decide) (by decide)) rfl ?_
        simp -implicitDefEqProofs only [xC_skip, evS, decide_true, decide_false, decide_eq_true_eq, sides, Inst.places, List.zip_cons_cons, List.zip_nil_right, List.zip_nil_left, List.mem_cons, List.not_mem_nil, forall_eq_or_imp, forall_eq, false_implies, implies_true, Apart, xeff, xhv, hv, effC, xev, look, argSl, atL, drops, keep, inBlockT, pickX, callX, callCX, callSX, callee, List.map_cons, List.map_nil, List.append_nil, List.nil_append, List.cons_append, reduceCtorEq, ↓reduceIte, Nat.reduceEqDiff, Nat.reduceAdd, Nat.reduceMul, eq_self, List.length_replicate, Int.reduceToNat, Int.reduceAdd, Int.reduceSub, Int.reduceMul, Int.reduceNeg, Int.reduceLT, Int.reduceLE, rowD, rowI, rowsD, ivD, rowG, rowIG, rowsG, ivG, bne_self_eq_false, beq_self_eq_true, List.length_map, List.getD_cons_zero, List.getD_cons_succ, List.drop_succ_cons, List.drop_zero, List.take_succ_cons, List.take_zero, List.take_nil, List.getElem?_cons_zero, List.getElem?_cons_succ, List.length_cons, List.length_nil, List.length_set, List.set_cons_zero, List.set_cons_succ, List.all_cons, List.all_nil, Nat.reduceLT, Nat.reduceLeDiff, ne_eq, Option.some.injEq, fillV, partsV, V.okPart, gt_iff_lt, ge_iff_le]
        rw [wrapI (by omega) (by omega)]
        (repeat (with_reducible refine And.intro (by omega) ?_))
        have e1 : rowV (tabR (cD ns) i) ++ [fl (FloatKind.nearest .f64 (ns.getD i 0 % 2001 - 1000))] = rowV (tabR (cD ns) (i + 1)) := (tabR_succ (cD ns) i).symm
        have e2 : rowV (tabR (cE ns) i) ++ [fl (fop .mul 4611686018427387904 (FloatKind.nearest .f64 (ns.getD i 0 % 2001 - 1000)))] = rowV (tabR (cE ns) (i + 1)) := (tabR_succ (cE ns) i).symm
        have e3 : rowV (tabR (cW ws) i) ++ [fl (FloatKind.nearest .f64 (cK ws i))] = rowV (tabR (cW ws) (i + 1)) := (tabR_succ (cW ws) i).symm
        rw [hk] at e3
        simp -implicitDefEqProofs (disch := omega) only [wrapI]
        rw [e1, e2, e3]
        exact ⟨c - 1, _, by omega, LeT.only (fun X => decide (X ≤ 102)) (fun _ h => h) rfl (by simp [KpS_cons, KpS_nil, KpH_cons, KpH_nil, KpF_cons, KpF_nil, KpF_rows, KpA_cons, KpA_nil, KpA_app, KpA_rowV, KpA_rowIV, Kp_any, Kp_nilv, Kp_d, Kp_ptr, Kp_sl, Kp_agg, Kp_tup, Kp_fn, get_cons, get_nil]) (by simp [KpS_cons, KpS_nil, KpH_cons, KpH_nil, KpF_cons, KpF_nil, KpF_rows, KpA_cons, KpA_nil, KpA_app, KpA_rowV, KpA_rowIV, Kp_any, Kp_nilv, Kp_d, Kp_ptr, Kp_sl, Kp_agg, Kp_tup, Kp_fn, get_cons, get_nil]), i + 1, by omega, rfl⟩
      · replace h3 := of_decide_eq_false h3
        have hk : cK ws i = 1 := if_neg h3
        simp -implicitDefEqProofs only [xC_skip, evS, decide_true, decide_false, decide_eq_true_eq, sides, Inst.places, List.zip_cons_cons, List.zip_nil_right, List.zip_nil_left, List.mem_cons, List.not_mem_nil, forall_eq_or_imp, forall_eq, false_implies, implies_true, Apart, xeff, xhv, hv, effC, xev, look, argSl, atL, drops, keep, inBlockT, pickX, callX, callCX, callSX, callee, List.map_cons, List.map_nil, List.append_nil, List.nil_append, List.cons_append, reduceCtorEq, ↓reduceIte, Nat.reduceEqDiff, Nat.reduceAdd, Nat.reduceMul, eq_self, List.length_replicate, Int.reduceToNat, Int.reduceAdd, Int.reduceSub, Int.reduceMul, Int.reduceNeg, Int.reduceLT, Int.reduceLE, rowD, rowI, rowsD, ivD, rowG, rowIG, rowsG, ivG, bne_self_eq_false, beq_self_eq_true, List.length_map, List.getD_cons_zero, List.getD_cons_succ, List.drop_succ_cons, List.drop_zero, List.take_succ_cons, List.take_zero, List.take_nil, List.getElem?_cons_zero, List.getElem?_cons_succ, List.length_cons, List.length_nil, List.length_set, List.set_cons_zero, List.set_cons_succ, List.all_cons, List.all_nil, Nat.reduceLT, Nat.reduceLeDiff, ne_eq, Option.some.injEq, fillV, partsV, V.okPart, gt_iff_lt, ge_iff_le]
        (repeat (with_reducible refine And.intro (by omega) ?_))
        first | refine callG_con (l9_within_con (ns.getD i 0) 2001 (by decide) (by decide)) rfl ?_ | refine callCG_con (l9_within_con (ns.getD i 0) 2001 (by decide) (by decide)) rfl ?_ | refine callSG_con (l9_within_con (ns.getD i 0) 2001 (by decide) (by decide)) rfl ?_
        simp -implicitDefEqProofs only [xC_skip, evS, decide_true, decide_false, decide_eq_true_eq, sides, Inst.places, List.zip_cons_cons, List.zip_nil_right, List.zip_nil_left, List.mem_cons, List.not_mem_nil, forall_eq_or_imp, forall_eq, false_implies, implies_true, Apart, xeff, xhv, hv, effC, xev, look, argSl, atL, drops, keep, inBlockT, pickX, callX, callCX, callSX, callee, List.map_cons, List.map_nil, List.append_nil, List.nil_append, List.cons_append, reduceCtorEq, ↓reduceIte, Nat.reduceEqDiff, Nat.reduceAdd, Nat.reduceMul, eq_self, List.length_replicate, Int.reduceToNat, Int.reduceAdd, Int.reduceSub, Int.reduceMul, Int.reduceNeg, Int.reduceLT, Int.reduceLE, rowD, rowI, rowsD, ivD, rowG, rowIG, rowsG, ivG, bne_self_eq_false, beq_self_eq_true, List.length_map, List.getD_cons_zero, List.getD_cons_succ, List.drop_succ_cons, List.drop_zero, List.take_succ_cons, List.take_zero, List.take_nil, List.getElem?_cons_zero, List.getElem?_cons_succ, List.length_cons, List.length_nil, List.length_set, List.set_cons_zero, List.set_cons_succ, List.all_cons, List.all_nil, Nat.reduceLT, Nat.reduceLeDiff, ne_eq, Option.some.injEq, fillV, partsV, V.okPart, gt_iff_lt, ge_iff_le]
        rw [wrapI (by omega) (by omega)]
        (repeat (with_reducible refine And.intro (by omega) ?_))
        have e1 : rowV (tabR (cD ns) i) ++ [fl (FloatKind.nearest .f64 (ns.getD i 0 % 2001 - 1000))] = rowV (tabR (cD ns) (i + 1)) := (tabR_succ (cD ns) i).symm
        have e2 : rowV (tabR (cE ns) i) ++ [fl (fop .mul 4611686018427387904 (FloatKind.nearest .f64 (ns.getD i 0 % 2001 - 1000)))] = rowV (tabR (cE ns) (i + 1)) := (tabR_succ (cE ns) i).symm
        have e3 : rowV (tabR (cW ws) i) ++ [fl (FloatKind.nearest .f64 (cK ws i))] = rowV (tabR (cW ws) (i + 1)) := (tabR_succ (cW ws) i).symm
        rw [hk] at e3
        simp -implicitDefEqProofs (disch := omega) only [wrapI]
        rw [e1, e2, e3]
        exact ⟨c - 1, _, by omega, LeT.only (fun X => decide (X ≤ 102)) (fun _ h => h) rfl (by simp [KpS_cons, KpS_nil, KpH_cons, KpH_nil, KpF_cons, KpF_nil, KpF_rows, KpA_cons, KpA_nil, KpA_app, KpA_rowV, KpA_rowIV, Kp_any, Kp_nilv, Kp_d, Kp_ptr, Kp_sl, Kp_agg, Kp_tup, Kp_fn, get_cons, get_nil]) (by simp [KpS_cons, KpS_nil, KpH_cons, KpH_nil, KpF_cons, KpF_nil, KpF_rows, KpA_cons, KpA_nil, KpA_app, KpA_rowV, KpA_rowIV, Kp_any, Kp_nilv, Kp_d, Kp_ptr, Kp_sl, Kp_agg, Kp_tup, Kp_fn, get_cons, get_nil]), i + 1, by omega, rfl⟩
    · have h2' : decide ((i : Int) < 9) = false := by simp; omega
      simp -implicitDefEqProofs only [xC_skip, evS, decide_true, decide_false, decide_eq_true_eq, sides, Inst.places, List.zip_cons_cons, List.zip_nil_right, List.zip_nil_left, List.mem_cons, List.not_mem_nil, forall_eq_or_imp, forall_eq, false_implies, implies_true, Apart, xeff, xhv, hv, effC, xev, look, argSl, atL, drops, keep, inBlockT, pickX, callX, callCX, callSX, callee, List.map_cons, List.map_nil, List.append_nil, List.nil_append, List.cons_append, reduceCtorEq, ↓reduceIte, Nat.reduceEqDiff, Nat.reduceAdd, Nat.reduceMul, eq_self, List.length_replicate, Int.reduceToNat, Int.reduceAdd, Int.reduceSub, Int.reduceMul, Int.reduceNeg, Int.reduceLT, Int.reduceLE, rowD, rowI, rowsD, ivD, rowG, rowIG, rowsG, ivG, bne_self_eq_false, beq_self_eq_true, List.length_map, List.getD_cons_zero, List.getD_cons_succ, List.drop_succ_cons, List.drop_zero, List.take_succ_cons, List.take_zero, List.take_nil, List.getElem?_cons_zero, List.getElem?_cons_succ, List.length_cons, List.length_nil, List.length_set, List.set_cons_zero, List.set_cons_succ, List.all_cons, List.all_nil, Nat.reduceLT, Nat.reduceLeDiff, ne_eq, Option.some.injEq, fillV, partsV, V.okPart, gt_iff_lt, ge_iff_le, h1', h2']
      have e : i = nS ns := by omega
      subst e
      refine callG_snaps [.d (rowD (tabR (cD ns) (nS ns))), .d (rowD (tabR (cW ws) (nS ns)))] (corr_Size_con _ _ (by rw [l1, l3]) (by omega)) ⟨snp_row rfl l1 rfl, snp_row rfl l3 rfl, trivial⟩ (.flt _) ?_
      have hs0 : szP (tabR (cD ns) (nS ns)) (tabR (cW ws) (nS ns)) = cS ns ws := rfl
      rw [hs0]
      have hn0 : ((nS ns : Int) == 0) = (nS ns == 0) := by
        by_cases h : nS ns = 0
        · rw [h]; rfl
        · have a : (nS ns == 0) = false := by simp [h]
          have b : ((nS ns : Int) == 0) = false := by simp; omega
          rw [a, b]
      by_cases hz : nS ns = 0
      · have hz' : (nS ns == 0) = true := by simp [hz]
        have c0 := cs_zero ns ws hz
        simp -implicitDefEqProofs only [xC_skip, evS, decide_true, decide_false, decide_eq_true_eq, sides, Inst.places, List.zip_cons_cons, List.zip_nil_right, List.zip_nil_left, List.mem_cons, List.not_mem_nil, forall_eq_or_imp, forall_eq, false_implies, implies_true, Apart, xeff, xhv, hv, effC, xev, look, argSl, atL, drops, keep, inBlockT, pickX, callX, callCX, callSX, callee, List.map_cons, List.map_nil, List.append_nil, List.nil_append, List.cons_append, reduceCtorEq, ↓reduceIte, Nat.reduceEqDiff, Nat.reduceAdd, Nat.reduceMul, eq_self, List.length_replicate, Int.reduceToNat, Int.reduceAdd, Int.reduceSub, Int.reduceMul, Int.reduceNeg, Int.reduceLT, Int.reduceLE, rowD, rowI, rowsD, ivD, rowG, rowIG, rowsG, ivG, bne_self_eq_false, beq_self_eq_true, List.length_map, List.getD_cons_zero, List.getD_cons_succ, List.drop_succ_cons, List.drop_zero, List.take_succ_cons, List.take_zero, List.take_nil, List.getElem?_cons_zero, List.getElem?_cons_succ, List.length_cons, List.length_nil, List.length_set, List.set_cons_zero, List.set_cons_succ, List.all_cons, List.all_nil, Nat.reduceLT, Nat.reduceLeDiff, ne_eq, Option.some.injEq, fillV, partsV, V.okPart, gt_iff_lt, ge_iff_le, hn0, hz', c0]
        refine cs_L1 ns ws true (by simp [cIs, hz]) _ ?_
        simp -implicitDefEqProofs only [xC_skip, evS, decide_true, decide_false, decide_eq_true_eq, sides, Inst.places, List.zip_cons_cons, List.zip_nil_right, List.zip_nil_left, List.mem_cons, List.not_mem_nil, forall_eq_or_imp, forall_eq, false_implies, implies_true, Apart, xeff, xhv, hv, effC, xev, look, argSl, atL, drops, keep, inBlockT, pickX, callX, callCX, callSX, callee, List.map_cons, List.map_nil, List.append_nil, List.nil_append, List.cons_append, reduceCtorEq, ↓reduceIte, Nat.reduceEqDiff, Nat.reduceAdd, Nat.reduceMul, eq_self, List.length_replicate, Int.reduceToNat, Int.reduceAdd, Int.reduceSub, Int.reduceMul, Int.reduceNeg, Int.reduceLT, Int.reduceLE, rowD, rowI, rowsD, ivD, rowG, rowIG, rowsG, ivG, bne_self_eq_false, beq_self_eq_true, List.length_map, List.getD_cons_zero, List.getD_cons_succ, List.drop_succ_cons, List.drop_zero, List.take_succ_cons, List.take_zero, List.take_nil, List.getElem?_cons_zero, List.getElem?_cons_succ, List.length_cons, List.length_nil, List.length_set, List.set_cons_zero, List.set_cons_succ, List.all_cons, List.all_nil, Nat.reduceLT, Nat.reduceLeDiff, ne_eq, Option.some.injEq, fillV, partsV, V.okPart, gt_iff_lt, ge_iff_le, cs_F2]
        refine callG_snaps [.d (rowD (tabR (cE ns) (nS ns))), .d (rowD (tabR (cW ws) (nS ns)))] (corr_Size_con _ _ (by rw [l2, l3]) (by omega)) ⟨snp_row rfl l2 rfl, snp_row rfl l3 rfl, trivial⟩ (.flt _) ?_
        simp -implicitDefEqProofs only [xC_skip, evS, decide_true, decide_false, decide_eq_true_eq, sides, Inst.places, List.zip_cons_cons, List.zip_nil_right, List.zip_nil_left, List.mem_cons, List.not_mem_nil, forall_eq_or_imp, forall_eq, false_implies, implies_true, Apart, xeff, xhv, hv, effC, xev, look, argSl, atL, drops, keep, inBlockT, pickX, callX, callCX, callSX, callee, List.map_cons, List.map_nil, List.append_nil, List.nil_append, List.cons_append, reduceCtorEq, ↓reduceIte, Nat.reduceEqDiff, Nat.reduceAdd, Nat.reduceMul, eq_self, List.length_replicate, Int.reduceToNat, Int.reduceAdd, Int.reduceSub, Int.reduceMul, Int.reduceNeg, Int.reduceLT, Int.reduceLE, rowD, rowI, rowsD, ivD, rowG, rowIG, rowsG, ivG, bne_self_eq_false, beq_self_eq_true, List.length_map, List.getD_cons_zero, List.getD_cons_succ, List.drop_succ_cons, List.drop_zero, List.take_succ_cons, List.take_zero, List.take_nil, List.getElem?_cons_zero, List.getElem?_cons_succ, List.length_cons, List.length_nil, List.length_set, List.set_cons_zero, List.set_cons_succ, List.all_cons, List.all_nil, Nat.reduceLT, Nat.reduceLeDiff, ne_eq, Option.some.injEq, fillV, partsV, V.okPart, gt_iff_lt, ge_iff_le, cs_F3]
        exact endsT_rett rfl (by decide) (by simp [look])
      · have hz' : (nS ns == 0) = false := by simp [hz]
        simp -implicitDefEqProofs only [xC_skip, evS, decide_true, decide_false, decide_eq_true_eq, sides, Inst.places, List.zip_cons_cons, List.zip_nil_right, List.zip_nil_left, List.mem_cons, List.not_mem_nil, forall_eq_or_imp, forall_eq, false_implies, implies_true, Apart, xeff, xhv, hv, effC, xev, look, argSl, atL, drops, keep, inBlockT, pickX, callX, callCX, callSX, callee, List.map_cons, List.map_nil, List.append_nil, List.nil_append, List.cons_append, reduceCtorEq, ↓reduceIte, Nat.reduceEqDiff, Nat.reduceAdd, Nat.reduceMul, eq_self, List.length_replicate, Int.reduceToNat, Int.reduceAdd, Int.reduceSub, Int.reduceMul, Int.reduceNeg, Int.reduceLT, Int.reduceLE, rowD, rowI, rowsD, ivD, rowG, rowIG, rowsG, ivG, bne_self_eq_false, beq_self_eq_true, List.length_map, List.getD_cons_zero, List.getD_cons_succ, List.drop_succ_cons, List.drop_zero, List.take_succ_cons, List.take_zero, List.take_nil, List.getElem?_cons_zero, List.getElem?_cons_succ, List.length_cons, List.length_nil, List.length_set, List.set_cons_zero, List.set_cons_succ, List.all_cons, List.all_nil, Nat.reduceLT, Nat.reduceLeDiff, ne_eq, Option.some.injEq, fillV, partsV, V.okPart, gt_iff_lt, ge_iff_le, hn0, hz']
        refine cs_L1 ns ws false (by simp [cIs, hz]) _ ?_
        simp -implicitDefEqProofs only [xC_skip, evS, decide_true, decide_false, decide_eq_true_eq, sides, Inst.places, List.zip_cons_cons, List.zip_nil_right, List.zip_nil_left, List.mem_cons, List.not_mem_nil, forall_eq_or_imp, forall_eq, false_implies, implies_true, Apart, xeff, xhv, hv, effC, xev, look, argSl, atL, drops, keep, inBlockT, pickX, callX, callCX, callSX, callee, List.map_cons, List.map_nil, List.append_nil, List.nil_append, List.cons_append, reduceCtorEq, ↓reduceIte, Nat.reduceEqDiff, Nat.reduceAdd, Nat.reduceMul, eq_self, List.length_replicate, Int.reduceToNat, Int.reduceAdd, Int.reduceSub, Int.reduceMul, Int.reduceNeg, Int.reduceLT, Int.reduceLE, rowD, rowI, rowsD, ivD, rowG, rowIG, rowsG, ivG, bne_self_eq_false, beq_self_eq_true, List.length_map, List.getD_cons_zero, List.getD_cons_succ, List.drop_succ_cons, List.drop_zero, List.take_succ_cons, List.take_zero, List.take_nil, List.getElem?_cons_zero, List.getElem?_cons_succ, List.length_cons, List.length_nil, List.length_set, List.set_cons_zero, List.set_cons_succ, List.all_cons, List.all_nil, Nat.reduceLT, Nat.reduceLeDiff, ne_eq, Option.some.injEq, fillV, partsV, V.okPart, gt_iff_lt, ge_iff_le, cs_F2]
        refine callG_snaps [.d (rowD (tabR (cE ns) (nS ns))), .d (rowD (tabR (cW ws) (nS ns)))] (corr_Size_con _ _ (by rw [l2, l3]) (by omega)) ⟨snp_row rfl l2 rfl, snp_row rfl l3 rfl, trivial⟩ (.flt _) ?_
        simp -implicitDefEqProofs only [xC_skip, evS, decide_true, decide_false, decide_eq_true_eq, sides, Inst.places, List.zip_cons_cons, List.zip_nil_right, List.zip_nil_left, List.mem_cons, List.not_mem_nil, forall_eq_or_imp, forall_eq, false_implies, implies_true, Apart, xeff, xhv, hv, effC, xev, look, argSl, atL, drops, keep, inBlockT, pickX, callX, callCX, callSX, callee, List.map_cons, List.map_nil, List.append_nil, List.nil_append, List.cons_append, reduceCtorEq, ↓reduceIte, Nat.reduceEqDiff, Nat.reduceAdd, Nat.reduceMul, eq_self, List.length_replicate, Int.reduceToNat, Int.reduceAdd, Int.reduceSub, Int.reduceMul, Int.reduceNeg, Int.reduceLT, Int.reduceLE, rowD, rowI, rowsD, ivD, rowG, rowIG, rowsG, ivG, bne_self_eq_false, beq_self_eq_true, List.length_map, List.getD_cons_zero, List.getD_cons_succ, List.drop_succ_cons, List.drop_zero, List.take_succ_cons, List.take_zero, List.take_nil, List.getElem?_cons_zero, List.getElem?_cons_succ, List.length_cons, List.length_nil, List.length_set, List.set_cons_zero, List.set_cons_succ, List.all_cons, List.all_nil, Nat.reduceLT, Nat.reduceLeDiff, ne_eq, Option.some.injEq, fillV, partsV, V.okPart, gt_iff_lt, ge_iff_le, cs_F3]
        exact endsT_rett rfl (by decide) (by simp [look])
  · have h1' : decide (i < ns.length) = false := decide_eq_false h1
    simp -implicitDefEqProofs only [xC_skip, evS, decide_true, decide_false, decide_eq_true_eq, sides, Inst.places, List.zip_cons_cons, List.zip_nil_right, List.zip_nil_left, List.mem_cons, List.not_mem_nil, forall_eq_or_imp, forall_eq, false_implies, implies_true, Apart, xeff, xhv, hv, effC, xev, look, argSl, atL, drops, keep, inBlockT, pickX, callX, callCX, callSX, callee, List.map_cons, List.map_nil, List.append_nil, List.nil_append, List.cons_append, reduceCtorEq, ↓reduceIte, Nat.reduceEqDiff, Nat.reduceAdd, Nat.reduceMul, eq_self, List.length_replicate, Int.reduceToNat, Int.reduceAdd, Int.reduceSub, Int.reduceMul, Int.reduceNeg, Int.reduceLT, Int.reduceLE, rowD, rowI, rowsD, ivD, rowG, rowIG, rowsG, ivG, bne_self_eq_false, beq_self_eq_true, List.length_map, List.getD_cons_zero, List.getD_cons_succ, List.drop_succ_cons, List.drop_zero, List.take_succ_cons, List.take_zero, List.take_nil, List.getElem?_cons_zero, List.getElem?_cons_succ, List.length_cons, List.length_nil, List.length_set, List.set_cons_zero, List.set_cons_succ, List.all_cons, List.all_nil, Nat.reduceLT, Nat.reduceLeDiff, ne_eq, Option.some.injEq, fillV, partsV, V.okPart, gt_iff_lt, ge_iff_le, h1']
    have e : i = nS ns := by omega
    subst e
    refine callG_snaps [.d (rowD (tabR (cD ns) (nS ns))), .d (rowD (tabR (cW ws) (nS ns)))] (corr_Size_con _ _ (by rw [l1, l3]) (by omega)) ⟨snp_row rfl l1 rfl, snp_row rfl l3 rfl, trivial⟩ (.flt _) ?_
    have hs0 : szP (tabR (cD ns) (nS ns)) (tabR (cW ws) (nS ns)) = cS ns ws := rfl
    rw [hs0]
    have hn0 : ((nS ns : Int) == 0) = (nS ns == 0) := by
      by_cases h : nS ns = 0
      · rw [h]; rfl
      · have a : (nS ns == 0) = false := by simp [h]
        have b : ((nS ns : Int) == 0) = false := by simp; omega
        rw [a, b]
    by_cases hz : nS ns = 0
    · have hz' : (nS ns == 0) = true := by simp [hz]
      have c0 := cs_zero ns ws hz
      simp -implicitDefEqProofs only [xC_skip, evS, decide_true, decide_false, decide_eq_true_eq, sides, Inst.places, List.zip_cons_cons, List.zip_nil_right, List.zip_nil_left, List.mem_cons, List.not_mem_nil, forall_eq_or_imp, forall_eq, false_implies, implies_true, Apart, xeff, xhv, hv, effC, xev, look, argSl, atL, drops, keep, inBlockT, pickX, callX, callCX, callSX, callee, List.map_cons, List.map_nil, List.append_nil, List.nil_append, List.cons_append, reduceCtorEq, ↓reduceIte, Nat.reduceEqDiff, Nat.reduceAdd, Nat.reduceMul, eq_self, List.length_replicate, Int.reduceToNat, Int.reduceAdd, Int.reduceSub, Int.reduceMul, Int.reduceNeg, Int.reduceLT, Int.reduceLE, rowD, rowI, rowsD, ivD, rowG, rowIG, rowsG, ivG, bne_self_eq_false, beq_self_eq_true, List.length_map, List.getD_cons_zero, List.getD_cons_succ, List.drop_succ_cons, List.drop_zero, List.take_succ_cons, List.take_zero, List.take_nil, List.getElem?_cons_zero, List.getElem?_cons_succ, List.length_cons, List.length_nil, List.length_set, List.set_cons_zero, List.set_cons_succ, List.all_cons, List.all_nil, Nat.reduceLT, Nat.reduceLeDiff, ne_eq, Option.some.injEq, fillV, partsV, V.okPart, gt_iff_lt, ge_iff_le, hn0, hz', c0]
      refine cs_L1 ns ws true (by simp [cIs, hz]) _ ?_
      simp -implicitDefEqProofs only [xC_skip, evS, decide_true, decide_false, decide_eq_true_eq, sides, Inst.places, List.zip_cons_cons, List.zip_nil_right, List.zip_nil_left, List.mem_cons, List.not_mem_nil, forall_eq_or_imp, forall_eq, false_implies, implies_true, Apart, xeff, xhv, hv, effC, xev, look, argSl, atL, drops, keep, inBlockT, pickX, callX, callCX, callSX, callee, List.map_cons, List.map_nil, List.append_nil, List.nil_append, List.cons_append, reduceCtorEq, ↓reduceIte, Nat.reduceEqDiff, Nat.reduceAdd, Nat.reduceMul, eq_self, List.length_replicate, Int.reduceToNat, Int.reduceAdd, Int.reduceSub, Int.reduceMul, Int.reduceNeg, Int.reduceLT, Int.reduceLE, rowD, rowI, rowsD, ivD, rowG, rowIG, rowsG, ivG, bne_self_eq_false, beq_self_eq_true, List.length_map, List.getD_cons_zero, List.getD_cons_succ, List.drop_succ_cons, List.drop_zero, List.take_succ_cons, List.take_zero, List.take_nil, List.getElem?_cons_zero, List.getElem?_cons_succ, List.length_cons, List.length_nil, List.length_set, List.set_cons_zero, List.set_cons_succ, List.all_cons, List.all_nil, Nat.reduceLT, Nat.reduceLeDiff, ne_eq, Option.some.injEq, fillV, partsV, V.okPart, gt_iff_lt, ge_iff_le, cs_F2]
      refine callG_snaps [.d (rowD (tabR (cE ns) (nS ns))), .d (rowD (tabR (cW ws) (nS ns)))] (corr_Size_con _ _ (by rw [l2, l3]) (by omega)) ⟨snp_row rfl l2 rfl, snp_row rfl l3 rfl, trivial⟩ (.flt _) ?_
      simp -implicitDefEqProofs only [xC_skip, evS, decide_true, decide_false, decide_eq_true_eq, sides, Inst.places, List.zip_cons_cons, List.zip_nil_right, List.zip_nil_left, List.mem_cons, List.not_mem_nil, forall_eq_or_imp, forall_eq, false_implies, implies_true, Apart, xeff, xhv, hv, effC, xev, look, argSl, atL, drops, keep, inBlockT, pickX, callX, callCX, callSX, callee, List.map_cons, List.map_nil, List.append_nil, List.nil_append, List.cons_append, reduceCtorEq, ↓reduceIte, Nat.reduceEqDiff, Nat.reduceAdd, Nat.reduceMul, eq_self, List.length_replicate, Int.reduceToNat, Int.reduceAdd, Int.reduceSub, Int.reduceMul, Int.reduceNeg, Int.reduceLT, Int.reduceLE, rowD, rowI, rowsD, ivD, rowG, rowIG, rowsG, ivG, bne_self_eq_false, beq_self_eq_true, List.length_map, List.getD_cons_zero, List.getD_cons_succ, List.drop_succ_cons, List.drop_zero, List.take_succ_cons, List.take_zero, List.take_nil, List.getElem?_cons_zero, List.getElem?_cons_succ, List.length_cons, List.length_nil, List.length_set, List.set_cons_zero, List.set_cons_succ, List.all_cons, List.all_nil, Nat.reduceLT, Nat.reduceLeDiff, ne_eq, Option.some.injEq, fillV, partsV, V.okPart, gt_iff_lt, ge_iff_le, cs_F3]
      exact endsT_rett rfl (by decide) (by simp [look])
    · have hz' : (nS ns == 0) = false := by simp [hz]
      simp -implicitDefEqProofs only [xC_skip, evS, decide_true, decide_false, decide_eq_true_eq, sides, Inst.places, List.zip_cons_cons, List.zip_nil_right, List.zip_nil_left, List.mem_cons, List.not_mem_nil, forall_eq_or_imp, forall_eq, false_implies, implies_true, Apart, xeff, xhv, hv, effC, xev, look, argSl, atL, drops, keep, inBlockT, pickX, callX, callCX, callSX, callee, List.map_cons, List.map_nil, List.append_nil, List.nil_append, List.cons_append, reduceCtorEq, ↓reduceIte, Nat.reduceEqDiff, Nat.reduceAdd, Nat.reduceMul, eq_self, List.length_replicate, Int.reduceToNat, Int.reduceAdd, Int.reduceSub, Int.reduceMul, Int.reduceNeg, Int.reduceLT, Int.reduceLE, rowD, rowI, rowsD, ivD, rowG, rowIG, rowsG, ivG, bne_self_eq_false, beq_self_eq_true, List.length_map, List.getD_cons_zero, List.getD_cons_succ, List.drop_succ_cons, List.drop_zero, List.take_succ_cons, List.take_zero, List.take_nil, List.getElem?_cons_zero, List.getElem?_cons_succ, List.length_cons, List.length_nil, List.length_set, List.set_cons_zero, List.set_cons_succ, List.all_cons, List.all_nil, Nat.reduceLT, Nat.reduceLeDiff, ne_eq, Option.some.injEq, fillV, partsV, V.okPart, gt_iff_lt, ge_iff_le, hn0, hz']
      refine cs_L1 ns ws false (by simp [cIs, hz]) _ ?_
      simp -implicitDefEqProofs only [xC_skip, evS, decide_true, decide_false, decide_eq_true_eq, sides, Inst.places, List.zip_cons_cons, List.zip_nil_right, List.zip_nil_left, List.mem_cons, List.not_mem_nil, forall_eq_or_imp, forall_eq, false_implies, implies_true, Apart, xeff, xhv, hv, effC, xev, look, argSl, atL, drops, keep, inBlockT, pickX, callX, callCX, callSX, callee, List.map_cons, List.map_nil, List.append_nil, List.nil_append, List.cons_append, reduceCtorEq, ↓reduceIte, Nat.reduceEqDiff, Nat.reduceAdd, Nat.reduceMul, eq_self, List.length_replicate, Int.reduceToNat, Int.reduceAdd, Int.reduceSub, Int.reduceMul, Int.reduceNeg, Int.reduceLT, Int.reduceLE, rowD, rowI, rowsD, ivD, rowG, rowIG, rowsG, ivG, bne_self_eq_false, beq_self_eq_true, List.length_map, List.getD_cons_zero, List.getD_cons_succ, List.drop_succ_cons, List.drop_zero, List.take_succ_cons, List.take_zero, List.take_nil, List.getElem?_cons_zero, List.getElem?_cons_succ, List.length_cons, List.length_nil, List.length_set, List.set_cons_zero, List.set_cons_succ, List.all_cons, List.all_nil, Nat.reduceLT, Nat.reduceLeDiff, ne_eq, Option.some.injEq, fillV, partsV, V.okPart, gt_iff_lt, ge_iff_le, cs_F2]
      refine callG_snaps [.d (rowD (tabR (cE ns) (nS ns))), .d (rowD (tabR (cW ws) (nS ns)))] (corr_Size_con _ _ (by rw [l2, l3]) (by omega)) ⟨snp_row rfl l2 rfl, snp_row rfl l3 rfl, trivial⟩ (.flt _) ?_
      simp -implicitDefEqProofs only [xC_skip, evS, decide_true, decide_false, decide_eq_true_eq, sides, Inst.places, List.zip_cons_cons, List.zip_nil_right, List.zip_nil_left, List.mem_cons, List.not_mem_nil, forall_eq_or_imp, forall_eq, false_implies, implies_true, Apart, xeff, xhv, hv, effC, xev, look, argSl, atL, drops, keep, inBlockT, pickX, callX, callCX, callSX, callee, List.map_cons, List.map_nil, List.append_nil, List.nil_append, List.cons_append, reduceCtorEq, ↓reduceIte, Nat.reduceEqDiff, Nat.reduceAdd, Nat.reduceMul, eq_self, List.length_replicate, Int.reduceToNat, Int.reduceAdd, Int.reduceSub, Int.reduceMul, Int.reduceNeg, Int.reduceLT, Int.reduceLE, rowD, rowI, rowsD, ivD, rowG, rowIG, rowsG, ivG, bne_self_eq_false, beq_self_eq_true, List.length_map, List.getD_cons_zero, List.getD_cons_succ, List.drop_succ_cons, List.drop_zero, List.take_succ_cons, List.take_zero, List.take_nil, List.getElem?_cons_zero, List.getElem?_cons_succ, List.length_cons, List.length_nil, List.length_set, List.set_cons_zero, List.set_cons_succ, List.all_cons, List.all_nil, Nat.reduceLT, Nat.reduceLeDiff, ne_eq, Option.some.injEq, fillV, partsV, V.okPart, gt_iff_lt, ge_iff_le, cs_F3]
      exact endsT_rett rfl (by decide) (by simp [look])
end Go.Ab
