/- CorrScales: numbers, weights, twice as great. -/
import Derived.Test.YtdckmpaakheppaaCS
namespace Go.Ab
set_option linter.unusedSimpArgs false
set_option linter.unusedVariables false
open Go Go.Proofs
def A_l9_CorrScales_L0 : CA := (.seq (.seq (.reg [⟨0, (some 21), none, [], [], (.h (.mov (.t 10)))⟩, ⟨1, (some 22), none, [], [], (.h (.mov (.t 5)))⟩, ⟨2, (some 23), none, [], [], (.h (.ibin .lss (.t 21) (.t 22)))⟩] [0, 1, 5, 6, 7, 8, 9, 10, 23]) (.cond (.t 23) .skip (.exit 0))) (.seq (.block 1 (.seq (.reg [⟨0, (some 26), none, [], [], (.h (.mov (.t 0)))⟩, ⟨1, (some 27), none, [], [], (.h (.mov (.t 10)))⟩, ⟨2, (some 28), none, [], [], (.h (.idx (.t 26) (.t 27) 1))⟩, ⟨3, (some 29), none, [], [], (.load (.t 28) 1 false)⟩, ⟨4, (some 30), none, [], [], (.callS 4 (.k (.d (.fn 28 [] []))) [(.t 29)])⟩, ⟨5, (some 31), none, [], [], (.h (.mov (.t 1)))⟩, ⟨6, (some 32), none, [], [], (.h (.mov (.t 10)))⟩, ⟨7, (some 33), none, [], [], (.h (.idx (.t 31) (.t 32) 1))⟩, ⟨8, (some 34), none, [], [], (.load (.t 33) 1 false)⟩, ⟨9, (some 35), none, [], [], (.callA (.k (.d (.fn 28 [] []))) [(.t 34)])⟩, ⟨10, (some 11), none, [], [], (.h (.mov (.t 30)))⟩, ⟨11, (some 12), none, [], [], (.h (.mov (.t 35)))⟩] [0, 1, 5, 6, 7, 8, 9, 10, 11, 12]) (.seq (.seq (.reg [⟨0, (some 36), none, [], [], (.h (.mov (.t 11)))⟩, ⟨1, (some 37), none, [], [], (.h (.fcmp .lt (.t 36) (.k (.d (.flt 6103021453049119613)))))⟩, ⟨2, (some 38), none, [], [], (.h (.un .not (.t 37)))⟩, ⟨3, (some 39), none, [], [], (.h (.mov (.t 38)))⟩, ⟨4, (some 40), (some (39, false)), [], [], (.h (.mov (.t 12)))⟩, ⟨5, (some 41), (some (39, false)), [], [], (.h (.fcmp .lt (.t 40) (.k (.d (.flt 6103021453049119613)))))⟩, ⟨6, (some 42), (some (39, false)), [], [], (.h (.un .not (.t 41)))⟩, ⟨7, (some 43), none, [], [], (.h (.pick (.t 39) (.k (.d (.bool true))) (.t 42)))⟩, ⟨8, (some 44), none, [], [], (.h (.mov (.t 43)))⟩, ⟨9, (some 45), (some (44, false)), [], [], (.h (.mov (.t 12)))⟩, ⟨10, (some 46), (some (44, false)), [], [], (.h (.fcmp .gt (.t 45) (.k (.d (.flt 3110860544497550640)))))⟩, ⟨11, (some 47), (some (44, false)), [], [], (.h (.un .not (.t 46)))⟩, ⟨12, (some 48), none, [], [], (.h (.pick (.t 44) (.k (.d (.bool true))) (.t 47)))⟩, ⟨13, (some 49), none, [], [], (.h (.mov (.t 48)))⟩, ⟨14, (some 50), (some (49, false)), [], [], (.h (.mov (.t 11)))⟩, ⟨15, (some 51), (some (49, false)), [], [], (.h (.fcmp .gt (.t 50) (.k (.d (.flt 3110860544497550640)))))⟩, ⟨16, (some 52), (some (49, false)), [], [], (.h (.un .not (.t 51)))⟩, ⟨17, (some 53), none, [], [], (.h (.pick (.t 49) (.k (.d (.bool true))) (.t 52)))⟩] [0, 1, 5, 6, 7, 8, 9, 10, 12, 53]) (.cond (.t 53) (.seq (.reg [⟨0, (some 4), none, [], [], (.h (.mov (.k (.d (.bool true)))))⟩] [4]) .ret) .skip)) (.reg [⟨0, (some 54), none, [], [], (.h (.mov (.t 6)))⟩, ⟨1, (some 55), none, [], [], (.h (.mov (.t 0)))⟩, ⟨2, (some 56), none, [], [], (.h (.mov (.t 10)))⟩, ⟨3, (some 57), none, [], [], (.h (.idx (.t 55) (.t 56) 1))⟩, ⟨4, (some 58), none, [], [], (.load (.t 57) 1 false)⟩, ⟨5, (some 59), none, [], [], (.bslice [(.d (.flt 0))] 1 1 [(0, (1, (.t 58)))] 32)⟩, ⟨6, (some 60), none, [], [(.t 0)], (.app (.t 54) (.t 59) 1 8)⟩, ⟨7, (some 61), none, [], [], (.h (.mov (.t 7)))⟩, ⟨8, (some 62), none, [], [], (.h (.mov (.t 12)))⟩, ⟨9, (some 63), none, [], [], (.bslice [(.d (.flt 0))] 1 1 [(0, (1, (.t 62)))] 32)⟩, ⟨10, (some 64), none, [], [(.t 0)], (.app (.t 61) (.t 63) 1 8)⟩, ⟨11, (some 65), none, [], [], (.h (.mov (.t 8)))⟩, ⟨12, (some 66), none, [], [], (.h (.mov (.t 0)))⟩, ⟨13, (some 67), none, [], [], (.h (.mov (.t 10)))⟩, ⟨14, (some 68), none, [], [], (.h (.idx (.t 66) (.t 67) 1))⟩, ⟨15, (some 69), none, [(.t 0)], [], (.load (.t 68) 1 false)⟩, ⟨16, (some 70), none, [], [], (.h (.fbin .mul (.k (.d (.flt 4611686018427387904))) (.t 69)))⟩, ⟨17, (some 71), none, [], [], (.bslice [(.d (.flt 0))] 1 1 [(0, (1, (.t 70)))] 32)⟩, ⟨18, (some 72), none, [], [], (.app (.t 65) (.t 71) 1 8)⟩, ⟨19, (some 73), none, [], [], (.h (.mov (.t 9)))⟩, ⟨20, (some 74), none, [], [], (.h (.mov (.t 12)))⟩, ⟨21, (some 75), none, [], [], (.h (.fbin .mul (.k (.d (.flt 4611686018427387904))) (.t 74)))⟩, ⟨22, (some 76), none, [], [], (.bslice [(.d (.flt 0))] 1 1 [(0, (1, (.t 75)))] 32)⟩, ⟨23, (some 77), none, [], [], (.app (.t 73) (.t 76) 1 8)⟩, ⟨24, (some 6), none, [], [], (.h (.mov (.t 60)))⟩, ⟨25, (some 7), none, [], [], (.h (.mov (.t 64)))⟩, ⟨26, (some 8), none, [], [], (.h (.mov (.t 72)))⟩, ⟨27, (some 9), none, [], [], (.h (.mov (.t 77)))⟩] [0, 1, 5, 6, 7, 8, 9, 10])))) (.reg [⟨0, (some 24), none, [], [], (.h (.mov (.t 10)))⟩, ⟨1, (some 25), none, [], [], (.h (.ibin .add (.t 24) (.k (.d (.int .i64 1)))))⟩, ⟨2, (some 10), none, [], [], (.h (.mov (.t 25)))⟩] [0, 1, 5, 6, 7, 8, 9, 10])))
def A_l9_CorrScales : CA := (.seq (.reg [⟨0, (some 4), none, [], [], (.h (.mov (.k (.d (.bool false)))))⟩] [0, 1]) (.seq (.seq (.reg [⟨0, (some 14), none, [], [], (.callA (.k (.d (.fn 14 [] []))) [])⟩, ⟨1, (some 15), none, [], [], (.h (.un .not (.t 14)))⟩] [0, 1, 15]) (.cond (.t 15) (.seq (.reg [⟨0, (some 4), none, [], [], (.h (.mov (.k (.d (.bool false)))))⟩] [4]) .ret) .skip)) (.seq (.reg [⟨0, (some 16), none, [], [], (.h (.mov (.t 0)))⟩, ⟨1, (some 17), none, [], [], (.h (.len (.t 16)))⟩, ⟨2, (some 18), none, [], [], (.h (.mov (.t 1)))⟩, ⟨3, (some 19), none, [], [], (.h (.len (.t 18)))⟩, ⟨4, (some 20), none, [], [], (.h (.mm3 (.t 17) (.t 19) (.k (.d (.int .i64 12)))))⟩, ⟨5, (some 5), none, [], [], (.h (.mov (.t 20)))⟩] [0, 1, 5]) (.seq (.reg [⟨0, (some 6), none, [], [], (.h (.mov (.k .nil)))⟩, ⟨1, (some 7), none, [], [], (.h (.mov (.k .nil)))⟩, ⟨2, (some 8), none, [], [], (.h (.mov (.k .nil)))⟩, ⟨3, (some 9), none, [], [], (.h (.mov (.k .nil)))⟩] [0, 1, 5, 6, 7, 8, 9]) (.seq (.seq (.reg [⟨0, (some 10), none, [], [], (.h (.mov (.k (.d (.int .i64 0)))))⟩] [0, 1, 5, 6, 7, 8, 9, 10]) (.block 0 (.loop A_l9_CorrScales_L0))) (.seq (.reg [⟨0, (some 78), none, [], [], (.h (.mov (.t 6)))⟩, ⟨1, (some 79), none, [], [], (.h (.mov (.t 7)))⟩, ⟨2, (some 80), none, [], [], (.callA (.k (.d (.fn 23 [] []))) [(.t 78), (.t 79)])⟩, ⟨3, (some 13), none, [], [], (.h (.mov (.t 80)))⟩] [6, 7, 8, 9, 13]) (.seq (.reg [⟨0, (some 81), none, [], [], (.h (.mov (.t 8)))⟩, ⟨1, (some 82), none, [], [], (.h (.mov (.t 9)))⟩, ⟨2, (some 83), none, [], [], (.callA (.k (.d (.fn 23 [] []))) [(.t 81), (.t 82)])⟩, ⟨3, (some 84), none, [], [], (.h (.mov (.t 13)))⟩, ⟨4, (some 85), none, [], [], (.h (.fcmp .eq (.t 83) (.t 84)))⟩, ⟨5, (some 86), none, [], [], (.h (.mov (.t 85)))⟩, ⟨6, (some 87), (some (86, true)), [], [], (.h (.mov (.t 6)))⟩, ⟨7, (some 88), (some (86, true)), [], [], (.h (.mov (.t 9)))⟩, ⟨8, (some 89), (some (86, true)), [], [], (.callA (.k (.d (.fn 23 [] []))) [(.t 87), (.t 88)])⟩, ⟨9, (some 90), (some (86, true)), [], [], (.h (.mov (.t 13)))⟩, ⟨10, (some 91), (some (86, true)), [], [], (.h (.fbin .div (.t 90) (.k (.d (.flt 4611686018427387904)))))⟩, ⟨11, (some 92), (some (86, true)), [], [], (.h (.fcmp .eq (.t 89) (.t 91)))⟩, ⟨12, (some 93), none, [], [], (.h (.pick (.t 86) (.t 92) (.k (.d (.bool false)))))⟩, ⟨13, (some 94), none, [], [], (.h (.mov (.t 93)))⟩, ⟨14, (some 95), (some (94, true)), [], [], (.h (.mov (.t 13)))⟩, ⟨15, (some 96), (some (94, true)), [], [], (.h (.mov (.t 6)))⟩, ⟨16, (some 97), (some (94, true)), [], [], (.h (.mov (.t 7)))⟩, ⟨17, (some 98), (some (94, true)), [], [], (.callA (.k (.d (.fn 30 [] []))) [(.t 96), (.t 97)])⟩, ⟨18, (some 99), (some (94, true)), [], [], (.callA (.k (.d (.fn 29 [] []))) [(.t 95), (.t 98)])⟩, ⟨19, (some 100), none, [], [], (.h (.pick (.t 94) (.t 99) (.k (.d (.bool false)))))⟩, ⟨20, (some 4), none, [], [], (.h (.mov (.t 100)))⟩] [4]) .ret)))))))
theorem A_l9_CorrScales_comp : compF Try.prog 11 = some ⟨101, [(4, none)], A_l9_CorrScales.strip⟩ := by kernel_rfl
def c100 : Nat := 6103021453049119613
def two : Nat := 4611686018427387904
def cm100 : Nat := 3110860544497550640
theorem c100_val : fin c100 ∧ val c100 ≤ pw 333 := by
  have h : Ieee.double.read c100 = .number false 5147557589468029 280 := by decide +kernel
  refine ⟨⟨_, _, _, h⟩, ?_⟩
  rw [val_eq h]
  have h1 : pw 333 = ((2 ^ 53 : Nat) : Rat) * pw 280 := by rw [← pw_up 280 53]; rfl
  rw [h1]
  exact Rat.mul_le_mul_of_nonneg_right (by decide +kernel) (Rat.le_of_lt (pw_pos _))
theorem cm100_val : fin cm100 ∧ pw (-333) ≤ val cm100 := by
  have h : Ieee.double.read cm100 = .number false 7880401239278896 (-385) := by decide +kernel
  refine ⟨⟨_, _, _, h⟩, ?_⟩
  rw [val_eq h]
  have h1 : pw (-333) = ((2 ^ 52 : Nat) : Rat) * pw (-385) := by rw [← pw_up (-385) 52]; rfl
  rw [h1]
  exact Rat.mul_le_mul_of_nonneg_right (by decide +kernel) (Rat.le_of_lt (pw_pos _))
theorem fin_read_lt {x c : Nat} (hc : fin c) {d : Nat} (hd : fin d) (h1 : fcmp .lt x c = true) (h2 : fcmp .gt x d = true) : fin x := by
  obtain ⟨s, m, i, hc⟩ := hc
  obtain ⟨t, n, j, hd⟩ := hd
  cases hx : Ieee.double.read x with
  | number a b e => exact ⟨a, b, e, hx⟩
  | nan a b => simp [fcmp, Ieee.Format.order, hx, hc, Ieee.Datum.order] at h1
  | infinity a =>
    cases a
    · simp [fcmp, Ieee.Format.order, hx, hc, Ieee.Datum.order] at h1
    · simp [fcmp, Ieee.Format.order, hx, hd, Ieee.Datum.order] at h2
theorem fabs_fabs (x : Nat) : fabs (fabs x) = fabs x := by
  have h : fabs (fabs x) = cf (bits0 (bits0 x)) := by rw [show fabs x = cf (bits0 x) from rfl, ← fabs_raw]
  rw [h]
  unfold fabs bits0
  rw [Nat.mod_mod]
theorem fin_of_fabs {x : Nat} (h : fin (fabs x)) : fin x := by
  refine finite_fin ?_
  have h1 := fin_finite h
  unfold finite isInf at h1 ⊢
  rw [fabs_fabs] at h1
  have h2 : isNan (fabs x) = isNan x := by
    unfold fabs
    rw [isNan_cf]
    unfold isNan bits0
    rw [Nat.mod_mod]
  rw [h2] at h1
  exact h1
theorem sc_in {x : Nat} (h1 : fcmp .lt (fabs x) c100 = true) (h2 : fcmp .gt (fabs x) cm100 = true) : fin x ∧ fin (fabs x) ∧ val (fabs x) = rabs (val x) ∧ pw (-333) ≤ val (fabs x) ∧ val (fabs x) ≤ pw 333 := by
  have hf := fin_read_lt c100_val.1 cm100_val.1 h1 h2
  have hx := fin_of_fabs hf
  have a := (fcmp_lt hf c100_val.1).1 h1
  have b := (fcmp_gt hf cm100_val.1).1 h2
  have c := c100_val.2
  have d := cm100_val.2
  exact ⟨hx, hf, (val_fabs hx).2, by grind, by grind⟩
theorem pw_big : pw 1000 = big := by rw [big, bigE_eq]
theorem sc_num {x y : Nat} (x1 : fcmp .lt (fabs x) c100 = true) (x2 : fcmp .gt (fabs x) cm100 = true) (y1 : fcmp .lt (fabs y) c100 = true) (y2 : fcmp .gt (fabs y) cm100 = true) :
    let Q := fop .div (fabs x) (fabs y); let Qe := fop .div (fabs (fop .mul two x)) (fop .mul two (fabs y)); let Qd := fop .div (fabs x) (fop .mul two (fabs y))
    fin Q ∧ fin Qe ∧ fin Qd ∧ val Qe = val Q ∧ val Q = 2 * val Qd ∧ pw (-900) ≤ val Q ∧ val Q ≤ pw 900 := by
  intro Q Qe Qd
  obtain ⟨fx, fx', vx, bx1, bx2⟩ := sc_in x1 x2
  obtain ⟨fy, fy', vy, by1, by2⟩ := sc_in y1 y2
  have hb := pw_big
  have p334 : pw 334 = 2 * pw 333 := pw_succ 333
  have hb1 : pw 334 ≤ big := by rw [← hb]; exact pw_mono (by decide)
  have hb2 : pw 333 ≤ big := by rw [← hb]; exact pw_mono (by decide)
  have hxb : rabs (2 * val x) ≤ big := by rw [rabs_mul, ← vx, rabs_of_nonneg (show (0 : Rat) ≤ 2 by decide)]; grind
  have ny : 0 ≤ val (fabs y) := by rw [vy]; exact rabs_nonneg _
  have nx : 0 ≤ val (fabs x) := by rw [vx]; exact rabs_nonneg _
  have hyb : rabs (2 * val (fabs y)) ≤ big := by rw [rabs_mul, rabs_of_nonneg ny, rabs_of_nonneg (show (0 : Rat) ≤ 2 by decide)]; grind
  obtain ⟨rx, wx⟩ := mul_two fx hxb
  obtain ⟨ry, wy⟩ := mul_two fy' hyb
  obtain ⟨fe, ve⟩ := val_fabs rx.fin
  have ve2 : val (fabs (fop .mul two x)) = 2 * val (fabs x) := by
    rw [show fop .mul two x = fop .mul 4611686018427387904 x from rfl, ve, wx, rabs_mul, vx, rabs_of_nonneg (show (0 : Rat) ≤ 2 by decide)]
  have pp := pw_pos (-333)
  have hy0 : val (fop .mul two (fabs y)) ≠ 0 := by rw [show fop .mul two (fabs y) = fop .mul 4611686018427387904 (fabs y) from rfl, wy]; grind
  have hy00 : val (fabs y) ≠ 0 := by grind
  -- the least quotient
  obtain ⟨q, hq⟩ : ∃ q : Rat, q * val (fop .mul two (fabs y)) = val (fabs x) := ⟨val (fabs x) / val (fop .mul two (fabs y)), Rat.div_mul_cancel hy0⟩
  have wy' : val (fop .mul two (fabs y)) = 2 * val (fabs y) := wy
  have hq0 : q * (2 * val (fabs y)) = val (fabs x) := by rw [← wy']; exact hq
  have q0 : 0 < q := by
    by_cases h : 0 < q
    · exact h
    · have := Rat.mul_nonneg (show 0 ≤ -q by grind) (show (0 : Rat) ≤ 2 * val (fabs y) by grind)
      rw [Rat.neg_mul, hq0] at this
      grind
  have q1 : q ≤ pw 665 := by
    have e1 := Rat.mul_le_mul_of_nonneg_left by1 (Rat.le_of_lt q0)
    have e2 : q * pw (-333) * 2 ≤ pw 333 := by clear vx vy ve wx ve2; grind
    have e3 := Rat.mul_le_mul_of_nonneg_right e2 (Rat.le_of_lt (pw_pos 332))
    have e4 : pw (-333) * pw 332 = pw (-1) := (pw_add _ _).symm
    have e5 : pw 333 * pw 332 = pw 665 := (pw_add _ _).symm
    have e6 : pw (-1) * 2 = 1 := by decide +kernel
    have e7 : q * pw (-333) * 2 * pw 332 = q * (pw (-333) * pw 332 * 2) := by grind
    rw [e7, e4, e6, e5] at e3
    grind
  have q2 : pw (-667) ≤ q := by
    have e1 := Rat.mul_le_mul_of_nonneg_left by2 (Rat.le_of_lt q0)
    have e2 : pw (-333) ≤ q * pw 333 * 2 := by clear vx vy ve wx ve2; grind
    have e3 := Rat.mul_le_mul_of_nonneg_right e2 (Rat.le_of_lt (pw_pos (-334)))
    have e4 : pw 333 * pw (-334) = pw (-1) := (pw_add _ _).symm
    have e5 : pw (-333) * pw (-334) = pw (-667) := (pw_add _ _).symm
    have e6 : pw (-1) * 2 = 1 := by decide +kernel
    have e7 : q * pw 333 * 2 * pw (-334) = q * (pw 333 * pw (-334) * 2) := by grind
    rw [e7, e4, e6, e5] at e3
    grind
  have rq : rabs q = q := rabs_of_nonneg (Rat.le_of_lt q0)
  have hq' : 2 * q * val (fabs y) = val (fabs x) := by rw [← hq, wy']; grind
  have hqe : 2 * q * val (fop .mul two (fabs y)) = val (fabs (fop .mul two x)) := by rw [ve2, ← hq]; grind
  have m1 : pw 665 + pw 665 + (pw 665 + pw 665) ≤ big := by
    have a1 := pw_succ 665
    have a2 := pw_succ 666
    have a3 : pw (666 + 1) ≤ big := by rw [← hb]; exact pw_mono (by decide)
    rw [show (665 : Int) + 1 = 666 from rfl] at a1
    grind
  have m2 : 2 * pw (-1000) ≤ pw (-667) := by
    have a1 := pw_succ (-1000)
    rw [← a1]; exact pw_mono (by decide)
  have r2 : rabs (2 * q) = 2 * q := rabs_of_nonneg (by grind)
  have F1 := fop_div fx' fy' hy00 hq' (by rw [r2]; grind)
  have F2 := fop_div fe ry.fin hy0 hqe (by rw [r2]; grind)
  have F3 := fop_div fx' ry.fin hy0 hq (by rw [rq]; grind)
  have formx := fabs_form fx (by rw [← vx]; grind)
  have formx2 := fabs_form rx.fin (by rw [wx]; exact hxb)
  have formy := fabs_form fy (by rw [← vy]; grind)
  have D1 := fop_div_dbl formx formx2 ry.fin ve2 (by rw [rabs_of_nonneg nx]; have := pw_mono (show (-1000 : Int) ≤ -333 by decide); grind) hy0 hq (by rw [rq]; grind) (by rw [rq]; grind)
  have D2 := fop_div_half fx' formy ry.wd wy (by rw [rabs_of_nonneg ny]; have := pw_mono (show (-1000 : Int) ≤ -333 by decide); grind) hq (by rw [rq]; grind) (by rw [rq]; grind)
  have E := F1.err
  have g1 : pw (-52) ≤ 1 / 4 := by
    have : pw (-52) ≤ pw (-2) := pw_mono (by decide)
    have h2 : pw (-2) = 1 / 4 := by decide +kernel
    grind
  have g2 := Rat.mul_le_mul_of_nonneg_left g1 (show (0 : Rat) ≤ 2 * q by grind)
  have g3 : pw (-1075) ≤ pw (-667) := pw_mono (by decide)
  rw [r2] at E
  have k1 := le_rabs (val (fop .div (fabs x) (fabs y)) - 2 * q)
  have k2 := le_rabs (-(val (fop .div (fabs x) (fabs y)) - 2 * q))
  rw [rabs_neg] at k2
  have g4 : pw (-669) + pw (-669) + (pw (-669) + pw (-669)) = pw (-667) := by
    have a1 := pw_succ (-669)
    have a2 := pw_succ (-668)
    rw [show (-669 : Int) + 1 = -668 from rfl] at a1
    rw [show (-668 : Int) + 1 = -667 from rfl] at a2
    grind
  have g5 : pw (-900) ≤ pw (-669) := pw_mono (by decide)
  have g6 : pw (-1075) ≤ pw (-669) := pw_mono (by decide)
  have g7 : pw 665 + pw 665 + (pw 665 + pw 665) ≤ pw 900 := by
    have a1 := pw_succ 665
    have a2 := pw_succ 666
    have a3 : pw (666 + 1) ≤ pw 900 := pw_mono (by decide)
    rw [show (665 : Int) + 1 = 666 from rfl] at a1
    grind
  refine ⟨F1.fin, F2.fin, F3.fin, ?_, D2, ?_, ?_⟩
  · show val (fop .div (fabs (fop .mul two x)) (fop .mul two (fabs y))) = val (fop .div (fabs x) (fabs y))
    rw [D2]; exact D1
  · show pw (-900) ≤ val (fop .div (fabs x) (fabs y))
    grind
  · show val (fop .div (fabs x) (fabs y)) ≤ pw 900
    grind
theorem sz_ratio (d w d' w' : List Nat) (c : Rat) (hc : c = 1 ∨ c = 2) (n : Nat) (hQ : ∀ i, i < n → fin (fop .div (fabs (d.getD i 0)) (w.getD i 0)) ∧ fin (fop .div (fabs (d'.getD i 0)) (w'.getD i 0)) ∧
    val (fop .div (fabs (d.getD i 0)) (w.getD i 0)) = c * val (fop .div (fabs (d'.getD i 0)) (w'.getD i 0)) ∧ rabs (val (fop .div (fabs (d'.getD i 0)) (w'.getD i 0))) ≤ pw 900) (i : Nat) (hi : i ≤ n) :
    ∃ o o', szF d w i = some o ∧ szF d' w' i = some o' ∧ fin o ∧ fin o' ∧ val o = c * val o' ∧ rabs (val o') ≤ pw 900 := by
  induction i with
  | zero => exact ⟨0, 0, rfl, rfl, fin_zero, fin_zero, by rw [val_zero]; grind, by rw [val_zero]; exact Rat.le_trans (show rabs 0 ≤ 0 by decide) (Rat.le_of_lt (pw_pos 900))⟩
  | succ i ih =>
    obtain ⟨o, o', h1, h2, h3, h4, h5, h6⟩ := ih (by omega)
    obtain ⟨n1, n2, n3, n4⟩ := hQ i (by omega)
    simp only [szF, h1, h2, Option.bind_some]
    generalize fop .div (fabs (d.getD i 0)) (w.getD i 0) = q at *
    generalize fop .div (fabs (d'.getD i 0)) (w'.getD i 0) = q' at *
    rw [fin_not_nan n1, fin_not_nan n2]
    have hgt : fcmp .gt q o = fcmp .gt q' o' := by
      have c1 := fcmp_gt n1 h3
      have c2 := fcmp_gt n2 h4
      rw [n3, h5] at c1
      have e : c * val o' < c * val q' ↔ val o' < val q' := by rcases hc with rfl | rfl <;> grind
      rw [e] at c1
      cases hx : fcmp .gt q o <;> cases hy : fcmp .gt q' o' <;> simp_all
    rw [hgt]
    cases hcc : (i == 0 || fcmp .gt q' o')
    · exact ⟨o, o', rfl, rfl, h3, h4, h5, h6⟩
    · exact ⟨q, q', rfl, rfl, n1, n2, n3, n4⟩
def scD (a : List Nat) (i : Nat) : Nat := a.getD i 0
def scW (b : List Nat) (i : Nat) : Nat := fabs (b.getD i 0)
def scE (a : List Nat) (i : Nat) : Nat := fop .mul two (a.getD i 0)
def scV (b : List Nat) (i : Nat) : Nat := fop .mul two (fabs (b.getD i 0))
def ScOk (a b : List Nat) (i : Nat) : Prop := ∀ j, j < i → fcmp .lt (fabs (a.getD j 0)) c100 = true ∧ fcmp .gt (fabs (a.getD j 0)) cm100 = true ∧ fcmp .lt (fabs (b.getD j 0)) c100 = true ∧ fcmp .gt (fabs (b.getD j 0)) cm100 = true
theorem sc_F (a b : List Nat) (n : Nat) (h : ScOk a b n) : fcmp .eq (szP (tabR (scE a) n) (tabR (scV b) n)) (szP (tabR (scD a) n) (tabR (scW b) n)) = true ∧
    fcmp .eq (szP (tabR (scD a) n) (tabR (scV b) n)) (fop .div (szP (tabR (scD a) n) (tabR (scW b) n)) two) = true := by
  have num : ∀ i, i < n → _ := fun i hi => sc_num (h i hi).1 (h i hi).2.1 (h i hi).2.2.1 (h i hi).2.2.2
  have gD : ∀ i, i < n → (tabR (scD a) n).getD i 0 = a.getD i 0 := fun i hi => tabR_getD (scD a) n i hi
  have gE : ∀ i, i < n → (tabR (scE a) n).getD i 0 = fop .mul two (a.getD i 0) := fun i hi => tabR_getD (scE a) n i hi
  have gW : ∀ i, i < n → (tabR (scW b) n).getD i 0 = fabs (b.getD i 0) := fun i hi => tabR_getD (scW b) n i hi
  have gV : ∀ i, i < n → (tabR (scV b) n).getD i 0 = fop .mul two (fabs (b.getD i 0)) := fun i hi => tabR_getD (scV b) n i hi
  have p9 := pw_pos (-900)
  obtain ⟨o, o', h1, h2, h3, h4, h5, h6⟩ := sz_ratio (tabR (scE a) n) (tabR (scV b) n) (tabR (scD a) n) (tabR (scW b) n) 1 (.inl rfl) n (fun i hi => by
    rw [gE i hi, gV i hi, gD i hi, gW i hi]
    obtain ⟨a1, a2, a3, a4, a5, a6, a7⟩ := num i hi
    refine ⟨a2, a1, by grind, ?_⟩
    rw [rabs_of_nonneg (by grind)]; exact a7) n (Nat.le_refl _)
  obtain ⟨u, u', g1, g2, g3, g4, g5, g6⟩ := sz_ratio (tabR (scD a) n) (tabR (scW b) n) (tabR (scD a) n) (tabR (scV b) n) 2 (.inr rfl) n (fun i hi => by
    rw [gV i hi, gD i hi, gW i hi]
    obtain ⟨a1, a2, a3, a4, a5, a6, a7⟩ := num i hi
    refine ⟨a1, a3, a5, ?_⟩
    rw [rabs_of_nonneg (by grind)]; grind) n (Nat.le_refl _)
  rw [h2] at g1
  obtain rfl : o' = u := Option.some.inj g1
  unfold szP
  simp only [tabR_len, h1, h2, g2, Option.getD_some]
  refine ⟨(fcmp_eq h3 h4).2 (by grind), ?_⟩
  obtain ⟨f2, v2⟩ := val_two
  change fin two at f2
  change val two = 2 at v2
  have hb : pw 900 + pw 900 ≤ big := by
    have a1 := pw_succ 900
    have a3 : pw (900 + 1) ≤ big := by rw [← pw_big]; exact pw_mono (by decide)
    grind
  have D := fop_div h4 f2 (by rw [v2]; decide) (q := val u') (by rw [v2, g5]; grind) (by grind)
  obtain ⟨k, e, k1, k2, k3⟩ := fin_ix g4
  rw [fcmp_eq g4 D.fin, D.exact k e k1 k2 k3]
theorem min12 (a b : Nat) : (if (12 : Int) < (if b < a then (b : Int) else (a : Int)) then 12 else (if b < a then (b : Int) else (a : Int))) = ((min (min a b) 12 : Nat) : Int) := by
  split <;> split <;> omega
abbrev scS (a b : List Nat) (n i : Nat) (v1 v2 v3 v4 : V) : Sl := [(0, .d (rowD a)), (1, .d (rowD b)), (5, fI n), (6, v1), (7, v2), (8, v3), (9, v4), (10, fI i)]
abbrev scT (a b : List Nat) (n i : Nat) : T := ⟨scS a b n i (.sl 100 0 0 i 1 i) (.sl 101 0 0 i 1 i) (.sl 102 0 0 i 1 i) (.sl 103 0 0 i 1 i),
  [(103, [rowV (tabR (scV b) i)]), (102, [rowV (tabR (scE a) i)]), (101, [rowV (tabR (scW b) i)]), (100, [rowV (tabR (scD a) i)])]⟩
theorem sc_begin (a b : List Nat) (n : Nat) : Le (fun _ => False) (T.s 101 ⟨scS a b n 0 .nil .nil .nil .nil, []⟩) (T.s 101 (scT a b n 0)) := by
  refine Le.trans (LeT.nilrow (X := 100) (esz := 1) (as' := scS a b n 0 (.sl 100 0 0 0 1 0) .nil .nil .nil) (by simp [fam_nil]) (fun h => h) fun i => ?_) ?_
  · simp only [look]
    repeat' split
    all_goals simp
  refine Le.trans (LeT.nilrow (X := 101) (esz := 1) (as' := scS a b n 0 (.sl 100 0 0 0 1 0) (.sl 101 0 0 0 1 0) .nil .nil) (by simp [fam_cons, fam_nil]) (fun h => h) fun i => ?_) ?_
  · simp only [look]
    repeat' split
    all_goals simp
  refine Le.trans (LeT.nilrow (X := 102) (esz := 1) (as' := scS a b n 0 (.sl 100 0 0 0 1 0) (.sl 101 0 0 0 1 0) (.sl 102 0 0 0 1 0) .nil) (by simp [fam_cons, fam_nil]) (fun h => h) fun i => ?_) ?_
  · simp only [look]
    repeat' split
    all_goals simp
  refine (LeT.nilrow (X := 103) (esz := 1) (as' := scS a b n 0 (.sl 100 0 0 0 1 0) (.sl 101 0 0 0 1 0) (.sl 102 0 0 0 1 0) (.sl 103 0 0 0 1 0)) (by simp [fam_cons, fam_nil]) (fun h => h) fun i => ?_)
  · simp only [look]
    repeat' split
    all_goals simp
set_option maxRecDepth 8000 in
theorem l9_CorrScales_con (a b : List Nat) (ha : a.length < 2 ^ 62) (hb : b.length < 2 ^ 62) : Con Try.prog 11 [.d (rowD a), .d (rowD b)] (fB true) := by
  refine Con_introA A_l9_CorrScales_comp rfl mixed ?_
  simp -implicitDefEqProofs only [xC_skip, evS, decide_true, decide_false, decide_eq_true_eq, sides, Inst.places, List.zip_cons_cons, List.zip_nil_right, List.zip_nil_left, List.mem_cons, List.not_mem_nil, forall_eq_or_imp, forall_eq, false_implies, implies_true, Apart, xeff, xhv, hv, effC, xev, look, argSl, atL, drops, keep, inBlockT, pickX, callX, callCX, callSX, callee, List.map_cons, List.map_nil, List.append_nil, List.nil_append, List.cons_append, reduceCtorEq, ↓reduceIte, Nat.reduceEqDiff, Nat.reduceAdd, Nat.reduceMul, eq_self, List.length_replicate, Int.reduceToNat, Int.reduceAdd, Int.reduceSub, Int.reduceMul, Int.reduceNeg, Int.reduceLT, Int.reduceLE, rowD, rowI, rowsD, ivD, rowG, rowIG, rowsG, ivG, bne_self_eq_false, beq_self_eq_true, List.length_map, List.getD_cons_zero, List.getD_cons_succ, List.drop_succ_cons, List.drop_zero, List.take_succ_cons, List.take_zero, List.take_nil, List.getElem?_cons_zero, List.getElem?_cons_succ, List.length_cons, List.length_nil, List.length_set, List.set_cons_zero, List.set_cons_succ, List.all_cons, List.all_nil, Nat.reduceLT, Nat.reduceLeDiff, ne_eq, Option.some.injEq, fillV, partsV, V.okPart, gt_iff_lt, ge_iff_le, A_l9_CorrScales]
  first | refine callG_con (l9_known_con) rfl ?_ | refine callCG_con (l9_known_con) rfl ?_ | refine callSG_con (l9_known_con) rfl ?_
  simp -implicitDefEqProofs only [xC_skip, evS, decide_true, decide_false, decide_eq_true_eq, sides, Inst.places, List.zip_cons_cons, List.zip_nil_right, List.zip_nil_left, List.mem_cons, List.not_mem_nil, forall_eq_or_imp, forall_eq, false_implies, implies_true, Apart, xeff, xhv, hv, effC, xev, look, argSl, atL, drops, keep, inBlockT, pickX, callX, callCX, callSX, callee, List.map_cons, List.map_nil, List.append_nil, List.nil_append, List.cons_append, reduceCtorEq, ↓reduceIte, Nat.reduceEqDiff, Nat.reduceAdd, Nat.reduceMul, eq_self, List.length_replicate, Int.reduceToNat, Int.reduceAdd, Int.reduceSub, Int.reduceMul, Int.reduceNeg, Int.reduceLT, Int.reduceLE, rowD, rowI, rowsD, ivD, rowG, rowIG, rowsG, ivG, bne_self_eq_false, beq_self_eq_true, List.length_map, List.getD_cons_zero, List.getD_cons_succ, List.drop_succ_cons, List.drop_zero, List.take_succ_cons, List.take_zero, List.take_nil, List.getElem?_cons_zero, List.getElem?_cons_succ, List.length_cons, List.length_nil, List.length_set, List.set_cons_zero, List.set_cons_succ, List.all_cons, List.all_nil, Nat.reduceLT, Nat.reduceLeDiff, ne_eq, Option.some.injEq, fillV, partsV, V.okPart, gt_iff_lt, ge_iff_le]
  rw [min12]
  have hn : min (min a.length b.length) 12 ≤ a.length ∧ min (min a.length b.length) 12 ≤ b.length ∧ min (min a.length b.length) 12 ≤ 12 := by omega
  generalize min (min a.length b.length) 12 = n at hn
  refine WA_forW (n := n) (fun c s => ∃ i, c + i = n ∧ ScOk a b i ∧ s = scT a b n i) (sc_begin a b n) ⟨0, by omega, fun j hj => by omega, rfl⟩ ?_
  rintro c s ⟨i, hc, ok, rfl⟩
  have l1 := tabR_len (scD a) i
  have l2 := tabR_len (scW b) i
  have l3 := tabR_len (scE a) i
  have l4 := tabR_len (scV b) i
  simp -implicitDefEqProofs only [xC_skip, evS, decide_true, decide_false, decide_eq_true_eq, sides, Inst.places, List.zip_cons_cons, List.zip_nil_right, List.zip_nil_left, List.mem_cons, List.not_mem_nil, forall_eq_or_imp, forall_eq, false_implies, implies_true, Apart, xeff, xhv, hv, effC, xev, look, argSl, atL, drops, keep, inBlockT, pickX, callX, callCX, callSX, callee, List.map_cons, List.map_nil, List.append_nil, List.nil_append, List.cons_append, reduceCtorEq, ↓reduceIte, Nat.reduceEqDiff, Nat.reduceAdd, Nat.reduceMul, eq_self, List.length_replicate, Int.reduceToNat, Int.reduceAdd, Int.reduceSub, Int.reduceMul, Int.reduceNeg, Int.reduceLT, Int.reduceLE, rowD, rowI, rowsD, ivD, rowG, rowIG, rowsG, ivG, bne_self_eq_false, beq_self_eq_true, List.length_map, List.getD_cons_zero, List.getD_cons_succ, List.drop_succ_cons, List.drop_zero, List.take_succ_cons, List.take_zero, List.take_nil, List.getElem?_cons_zero, List.getElem?_cons_succ, List.length_cons, List.length_nil, List.length_set, List.set_cons_zero, List.set_cons_succ, List.all_cons, List.all_nil, Nat.reduceLT, Nat.reduceLeDiff, ne_eq, Option.some.injEq, fillV, partsV, V.okPart, gt_iff_lt, ge_iff_le, A_l9_CorrScales_L0]
  refine condC_intro (fun h => ?_) (fun h => ?_)
  · replace h := of_decide_eq_true h
    simp -implicitDefEqProofs only [xC_skip, evS, decide_true, decide_false, decide_eq_true_eq, sides, Inst.places, List.zip_cons_cons, List.zip_nil_right, List.zip_nil_left, List.mem_cons, List.not_mem_nil, forall_eq_or_imp, forall_eq, false_implies, implies_true, Apart, xeff, xhv, hv, effC, xev, look, argSl, atL, drops, keep, inBlockT, pickX, callX, callCX, callSX, callee, List.map_cons, List.map_nil, List.append_nil, List.nil_append, List.cons_append, reduceCtorEq, ↓reduceIte, Nat.reduceEqDiff, Nat.reduceAdd, Nat.reduceMul, eq_self, List.length_replicate, Int.reduceToNat, Int.reduceAdd, Int.reduceSub, Int.reduceMul, Int.reduceNeg, Int.reduceLT, Int.reduceLE, rowD, rowI, rowsD, ivD, rowG, rowIG, rowsG, ivG, bne_self_eq_false, beq_self_eq_true, List.length_map, List.getD_cons_zero, List.getD_cons_succ, List.drop_succ_cons, List.drop_zero, List.take_succ_cons, List.take_zero, List.take_nil, List.getElem?_cons_zero, List.getElem?_cons_succ, List.length_cons, List.length_nil, List.length_set, List.set_cons_zero, List.set_cons_succ, List.all_cons, List.all_nil, Nat.reduceLT, Nat.reduceLeDiff, ne_eq, Option.some.injEq, fillV, partsV, V.okPart, gt_iff_lt, ge_iff_le]
    (repeat (with_reducible refine And.intro (by omega) ?_))
    first | refine callG_con (r1_Abs_con (a.getD i 0)) rfl ?_ | refine callCG_con (r1_Abs_con (a.getD i 0)) rfl ?_ | refine callSG_con (r1_Abs_con (a.getD i 0)) rfl ?_
    simp -implicitDefEqProofs only [xC_skip, evS, decide_true, decide_false, decide_eq_true_eq, sides, Inst.places, List.zip_cons_cons, List.zip_nil_right, List.zip_nil_left, List.mem_cons, List.not_mem_nil, forall_eq_or_imp, forall_eq, false_implies, implies_true, Apart, xeff, xhv, hv, effC, xev, look, argSl, atL, drops, keep, inBlockT, pickX, callX, callCX, callSX, callee, List.map_cons, List.map_nil, List.append_nil, List.nil_append, List.cons_append, reduceCtorEq, ↓reduceIte, Nat.reduceEqDiff, Nat.reduceAdd, Nat.reduceMul, eq_self, List.length_replicate, Int.reduceToNat, Int.reduceAdd, Int.reduceSub, Int.reduceMul, Int.reduceNeg, Int.reduceLT, Int.reduceLE, rowD, rowI, rowsD, ivD, rowG, rowIG, rowsG, ivG, bne_self_eq_false, beq_self_eq_true, List.length_map, List.getD_cons_zero, List.getD_cons_succ, List.drop_succ_cons, List.drop_zero, List.take_succ_cons, List.take_zero, List.take_nil, List.getElem?_cons_zero, List.getElem?_cons_succ, List.length_cons, List.length_nil, List.length_set, List.set_cons_zero, List.set_cons_succ, List.all_cons, List.all_nil, Nat.reduceLT, Nat.reduceLeDiff, ne_eq, Option.some.injEq, fillV, partsV, V.okPart, gt_iff_lt, ge_iff_le]
    (repeat (with_reducible refine And.intro (by omega) ?_))
    first | refine callG_con (r1_Abs_con (b.getD i 0)) rfl ?_ | refine callCG_con (r1_Abs_con (b.getD i 0)) rfl ?_ | refine callSG_con (r1_Abs_con (b.getD i 0)) rfl ?_
    simp -implicitDefEqProofs only [xC_skip, evS, decide_true, decide_false, decide_eq_true_eq, sides, Inst.places, List.zip_cons_cons, List.zip_nil_right, List.zip_nil_left, List.mem_cons, List.not_mem_nil, forall_eq_or_imp, forall_eq, false_implies, implies_true, Apart, xeff, xhv, hv, effC, xev, look, argSl, atL, drops, keep, inBlockT, pickX, callX, callCX, callSX, callee, List.map_cons, List.map_nil, List.append_nil, List.nil_append, List.cons_append, reduceCtorEq, ↓reduceIte, Nat.reduceEqDiff, Nat.reduceAdd, Nat.reduceMul, eq_self, List.length_replicate, Int.reduceToNat, Int.reduceAdd, Int.reduceSub, Int.reduceMul, Int.reduceNeg, Int.reduceLT, Int.reduceLE, rowD, rowI, rowsD, ivD, rowG, rowIG, rowsG, ivG, bne_self_eq_false, beq_self_eq_true, List.length_map, List.getD_cons_zero, List.getD_cons_succ, List.drop_succ_cons, List.drop_zero, List.take_succ_cons, List.take_zero, List.take_nil, List.getElem?_cons_zero, List.getElem?_cons_succ, List.length_cons, List.length_nil, List.length_set, List.set_cons_zero, List.set_cons_succ, List.all_cons, List.all_nil, Nat.reduceLT, Nat.reduceLeDiff, ne_eq, Option.some.injEq, fillV, partsV, V.okPart, gt_iff_lt, ge_iff_le]
    cases h1 : fcmp .lt (fabs (a.getD i 0)) 6103021453049119613
    · simp -implicitDefEqProofs only [xC_skip, evS, decide_true, decide_false, decide_eq_true_eq, sides, Inst.places, List.zip_cons_cons, List.zip_nil_right, List.zip_nil_left, List.mem_cons, List.not_mem_nil, forall_eq_or_imp, forall_eq, false_implies, implies_true, Apart, xeff, xhv, hv, effC, xev, look, argSl, atL, drops, keep, inBlockT, pickX, callX, callCX, callSX, callee, List.map_cons, List.map_nil, List.append_nil, List.nil_append, List.cons_append, reduceCtorEq, ↓reduceIte, Nat.reduceEqDiff, Nat.reduceAdd, Nat.reduceMul, eq_self, List.length_replicate, Int.reduceToNat, Int.reduceAdd, Int.reduceSub, Int.reduceMul, Int.reduceNeg, Int.reduceLT, Int.reduceLE, rowD, rowI, rowsD, ivD, rowG, rowIG, rowsG, ivG, bne_self_eq_false, beq_self_eq_true, List.length_map, List.getD_cons_zero, List.getD_cons_succ, List.drop_succ_cons, List.drop_zero, List.take_succ_cons, List.take_zero, List.take_nil, List.getElem?_cons_zero, List.getElem?_cons_succ, List.length_cons, List.length_nil, List.length_set, List.set_cons_zero, List.set_cons_succ, List.all_cons, List.all_nil, Nat.reduceLT, Nat.reduceLeDiff, ne_eq, Option.some.injEq, fillV, partsV, V.okPart, gt_iff_lt, ge_iff_le, Bool.not_false]
      exact endsT_rett rfl (by decide) (by simp [look])
    · simp -implicitDefEqProofs only [xC_skip, evS, decide_true, decide_false, decide_eq_true_eq, sides, Inst.places, List.zip_cons_cons, List.zip_nil_right, List.zip_nil_left, List.mem_cons, List.not_mem_nil, forall_eq_or_imp, forall_eq, false_implies, implies_true, Apart, xeff, xhv, hv, effC, xev, look, argSl, atL, drops, keep, inBlockT, pickX, callX, callCX, callSX, callee, List.map_cons, List.map_nil, List.append_nil, List.nil_append, List.cons_append, reduceCtorEq, ↓reduceIte, Nat.reduceEqDiff, Nat.reduceAdd, Nat.reduceMul, eq_self, List.length_replicate, Int.reduceToNat, Int.reduceAdd, Int.reduceSub, Int.reduceMul, Int.reduceNeg, Int.reduceLT, Int.reduceLE, rowD, rowI, rowsD, ivD, rowG, rowIG, rowsG, ivG, bne_self_eq_false, beq_self_eq_true, List.length_map, List.getD_cons_zero, List.getD_cons_succ, List.drop_succ_cons, List.drop_zero, List.take_succ_cons, List.take_zero, List.take_nil, List.getElem?_cons_zero, List.getElem?_cons_succ, List.length_cons, List.length_nil, List.length_set, List.set_cons_zero, List.set_cons_succ, List.all_cons, List.all_nil, Nat.reduceLT, Nat.reduceLeDiff, ne_eq, Option.some.injEq, fillV, partsV, V.okPart, gt_iff_lt, ge_iff_le, Bool.not_true]
      cases h2 : fcmp .lt (fabs (b.getD i 0)) 6103021453049119613
      · simp -implicitDefEqProofs only [xC_skip, evS, decide_true, decide_false, decide_eq_true_eq, sides, Inst.places, List.zip_cons_cons, List.zip_nil_right, List.zip_nil_left, List.mem_cons, List.not_mem_nil, forall_eq_or_imp, forall_eq, false_implies, implies_true, Apart, xeff, xhv, hv, effC, xev, look, argSl, atL, drops, keep, inBlockT, pickX, callX, callCX, callSX, callee, List.map_cons, List.map_nil, List.append_nil, List.nil_append, List.cons_append, reduceCtorEq, ↓reduceIte, Nat.reduceEqDiff, Nat.reduceAdd, Nat.reduceMul, eq_self, List.length_replicate, Int.reduceToNat, Int.reduceAdd, Int.reduceSub, Int.reduceMul, Int.reduceNeg, Int.reduceLT, Int.reduceLE, rowD, rowI, rowsD, ivD, rowG, rowIG, rowsG, ivG, bne_self_eq_false, beq_self_eq_true, List.length_map, List.getD_cons_zero, List.getD_cons_succ, List.drop_succ_cons, List.drop_zero, List.take_succ_cons, List.take_zero, List.take_nil, List.getElem?_cons_zero, List.getElem?_cons_succ, List.length_cons, List.length_nil, List.length_set, List.set_cons_zero, List.set_cons_succ, List.all_cons, List.all_nil, Nat.reduceLT, Nat.reduceLeDiff, ne_eq, Option.some.injEq, fillV, partsV, V.okPart, gt_iff_lt, ge_iff_le, Bool.not_false]
        exact endsT_rett rfl (by decide) (by simp [look])
      · simp -implicitDefEqProofs only [xC_skip, evS, decide_true, decide_false, decide_eq_true_eq, sides, Inst.places, List.zip_cons_cons, List.zip_nil_right, List.zip_nil_left, List.mem_cons, List.not_mem_nil, forall_eq_or_imp, forall_eq, false_implies, implies_true, Apart, xeff, xhv, hv, effC, xev, look, argSl, atL, drops, keep, inBlockT, pickX, callX, callCX, callSX, callee, List.map_cons, List.map_nil, List.append_nil, List.nil_append, List.cons_append, reduceCtorEq, ↓reduceIte, Nat.reduceEqDiff, Nat.reduceAdd, Nat.reduceMul, eq_self, List.length_replicate, Int.reduceToNat, Int.reduceAdd, Int.reduceSub, Int.reduceMul, Int.reduceNeg, Int.reduceLT, Int.reduceLE, rowD, rowI, rowsD, ivD, rowG, rowIG, rowsG, ivG, bne_self_eq_false, beq_self_eq_true, List.length_map, List.getD_cons_zero, List.getD_cons_succ, List.drop_succ_cons, List.drop_zero, List.take_succ_cons, List.take_zero, List.take_nil, List.getElem?_cons_zero, List.getElem?_cons_succ, List.length_cons, List.length_nil, List.length_set, List.set_cons_zero, List.set_cons_succ, List.all_cons, List.all_nil, Nat.reduceLT, Nat.reduceLeDiff, ne_eq, Option.some.injEq, fillV, partsV, V.okPart, gt_iff_lt, ge_iff_le, Bool.not_true]
        cases h3 : fcmp .gt (fabs (b.getD i 0)) 3110860544497550640
        · simp -implicitDefEqProofs only [xC_skip, evS, decide_true, decide_false, decide_eq_true_eq, sides, Inst.places, List.zip_cons_cons, List.zip_nil_right, List.zip_nil_left, List.mem_cons, List.not_mem_nil, forall_eq_or_imp, forall_eq, false_implies, implies_true, Apart, xeff, xhv, hv, effC, xev, look, argSl, atL, drops, keep, inBlockT, pickX, callX, callCX, callSX, callee, List.map_cons, List.map_nil, List.append_nil, List.nil_append, List.cons_append, reduceCtorEq, ↓reduceIte, Nat.reduceEqDiff, Nat.reduceAdd, Nat.reduceMul, eq_self, List.length_replicate, Int.reduceToNat, Int.reduceAdd, Int.reduceSub, Int.reduceMul, Int.reduceNeg, Int.reduceLT, Int.reduceLE, rowD, rowI, rowsD, ivD, rowG, rowIG, rowsG, ivG, bne_self_eq_false, beq_self_eq_true, List.length_map, List.getD_cons_zero, List.getD_cons_succ, List.drop_succ_cons, List.drop_zero, List.take_succ_cons, List.take_zero, List.take_nil, List.getElem?_cons_zero, List.getElem?_cons_succ, List.length_cons, List.length_nil, List.length_set, List.set_cons_zero, List.set_cons_succ, List.all_cons, List.all_nil, Nat.reduceLT, Nat.reduceLeDiff, ne_eq, Option.some.injEq, fillV, partsV, V.okPart, gt_iff_lt, ge_iff_le, Bool.not_false]
          exact endsT_rett rfl (by decide) (by simp [look])
        · simp -implicitDefEqProofs only [xC_skip, evS, decide_true, decide_false, decide_eq_true_eq, sides, Inst.places, List.zip_cons_cons, List.zip_nil_right, List.zip_nil_left, List.mem_cons, List.not_mem_nil, forall_eq_or_imp, forall_eq, false_implies, implies_true, Apart, xeff, xhv, hv, effC, xev, look, argSl, atL, drops, keep, inBlockT, pickX, callX, callCX, callSX, callee, List.map_cons, List.map_nil, List.append_nil, List.nil_append, List.cons_append, reduceCtorEq, ↓reduceIte, Nat.reduceEqDiff, Nat.reduceAdd, Nat.reduceMul, eq_self, List.length_replicate, Int.reduceToNat, Int.reduceAdd, Int.reduceSub, Int.reduceMul, Int.reduceNeg, Int.reduceLT, Int.reduceLE, rowD, rowI, rowsD, ivD, rowG, rowIG, rowsG, ivG, bne_self_eq_false, beq_self_eq_true, List.length_map, List.getD_cons_zero, List.getD_cons_succ, List.drop_succ_cons, List.drop_zero, List.take_succ_cons, List.take_zero, List.take_nil, List.getElem?_cons_zero, List.getElem?_cons_succ, List.length_cons, List.length_nil, List.length_set, List.set_cons_zero, List.set_cons_succ, List.all_cons, List.all_nil, Nat.reduceLT, Nat.reduceLeDiff, ne_eq, Option.some.injEq, fillV, partsV, V.okPart, gt_iff_lt, ge_iff_le, Bool.not_true]
          cases h4 : fcmp .gt (fabs (a.getD i 0)) 3110860544497550640
          · simp -implicitDefEqProofs only [xC_skip, evS, decide_true, decide_false, decide_eq_true_eq, sides, Inst.places, List.zip_cons_cons, List.zip_nil_right, List.zip_nil_left, List.mem_cons, List.not_mem_nil, forall_eq_or_imp, forall_eq, false_implies, implies_true, Apart, xeff, xhv, hv, effC, xev, look, argSl, atL, drops, keep, inBlockT, pickX, callX, callCX, callSX, callee, List.map_cons, List.map_nil, List.append_nil, List.nil_append, List.cons_append, reduceCtorEq, ↓reduceIte, Nat.reduceEqDiff, Nat.reduceAdd, Nat.reduceMul, eq_self, List.length_replicate, Int.reduceToNat, Int.reduceAdd, Int.reduceSub, Int.reduceMul, Int.reduceNeg, Int.reduceLT, Int.reduceLE, rowD, rowI, rowsD, ivD, rowG, rowIG, rowsG, ivG, bne_self_eq_false, beq_self_eq_true, List.length_map, List.getD_cons_zero, List.getD_cons_succ, List.drop_succ_cons, List.drop_zero, List.take_succ_cons, List.take_zero, List.take_nil, List.getElem?_cons_zero, List.getElem?_cons_succ, List.length_cons, List.length_nil, List.length_set, List.set_cons_zero, List.set_cons_succ, List.all_cons, List.all_nil, Nat.reduceLT, Nat.reduceLeDiff, ne_eq, Option.some.injEq, fillV, partsV, V.okPart, gt_iff_lt, ge_iff_le, Bool.not_false]
            exact endsT_rett rfl (by decide) (by simp [look])
          · simp -implicitDefEqProofs only [xC_skip, evS, decide_true, decide_false, decide_eq_true_eq, sides, Inst.places, List.zip_cons_cons, List.zip_nil_right, List.zip_nil_left, List.mem_cons, List.not_mem_nil, forall_eq_or_imp, forall_eq, false_implies, implies_true, Apart, xeff, xhv, hv, effC, xev, look, argSl, atL, drops, keep, inBlockT, pickX, callX, callCX, callSX, callee, List.map_cons, List.map_nil, List.append_nil, List.nil_append, List.cons_append, reduceCtorEq, ↓reduceIte, Nat.reduceEqDiff, Nat.reduceAdd, Nat.reduceMul, eq_self, List.length_replicate, Int.reduceToNat, Int.reduceAdd, Int.reduceSub, Int.reduceMul, Int.reduceNeg, Int.reduceLT, Int.reduceLE, rowD, rowI, rowsD, ivD, rowG, rowIG, rowsG, ivG, bne_self_eq_false, beq_self_eq_true, List.length_map, List.getD_cons_zero, List.getD_cons_succ, List.drop_succ_cons, List.drop_zero, List.take_succ_cons, List.take_zero, List.take_nil, List.getElem?_cons_zero, List.getElem?_cons_succ, List.length_cons, List.length_nil, List.length_set, List.set_cons_zero, List.set_cons_succ, List.all_cons, List.all_nil, Nat.reduceLT, Nat.reduceLeDiff, ne_eq, Option.some.injEq, fillV, partsV, V.okPart, gt_iff_lt, ge_iff_le, Bool.not_true]
            refine ⟨by omega, ⟨l1, by omega⟩, ⟨l2, by omega⟩, by omega, ⟨l3, by omega⟩, ⟨l4, by omega⟩, ?_⟩
            have e1 : rowV (tabR (scD a) i) ++ [fl (a.getD i 0)] = rowV (tabR (scD a) (i + 1)) := (tabR_succ (scD a) i).symm
            have e2 : rowV (tabR (scW b) i) ++ [fl (fabs (b.getD i 0))] = rowV (tabR (scW b) (i + 1)) := (tabR_succ (scW b) i).symm
            have e3 : rowV (tabR (scE a) i) ++ [fl (fop .mul 4611686018427387904 (a.getD i 0))] = rowV (tabR (scE a) (i + 1)) := (tabR_succ (scE a) i).symm
            have e4 : rowV (tabR (scV b) i) ++ [fl (fop .mul 4611686018427387904 (fabs (b.getD i 0)))] = rowV (tabR (scV b) (i + 1)) := (tabR_succ (scV b) i).symm
            rw [wrapI (by omega) (by omega), e1, e2, e3, e4]
            exact ⟨c - 1, _, by omega, LeT.only (fun X => decide (X ≤ 103)) (fun _ h => h) rfl (by simp [KpS_cons, KpS_nil, KpH_cons, KpH_nil, KpF_cons, KpF_nil, KpF_rows, KpA_cons, KpA_nil, KpA_app, KpA_rowV, KpA_rowIV, Kp_any, Kp_nilv, Kp_d, Kp_ptr, Kp_sl, Kp_agg, Kp_tup, Kp_fn, get_cons, get_nil]) (by simp [KpS_cons, KpS_nil, KpH_cons, KpH_nil, KpF_cons, KpF_nil, KpF_rows, KpA_cons, KpA_nil, KpA_app, KpA_rowV, KpA_rowIV, Kp_any, Kp_nilv, Kp_d, Kp_ptr, Kp_sl, Kp_agg, Kp_tup, Kp_fn, get_cons, get_nil]), i + 1, by omega, fun j hj => by rcases Nat.lt_succ_iff_lt_or_eq.1 hj with hj | rfl; exact ok j hj; exact ⟨h1, h4, h2, h3⟩, rfl⟩
  · replace h := of_decide_eq_false h
    have e : i = n := by omega
    subst e
    obtain ⟨f1, f2⟩ := sc_F a b i ok
    simp -implicitDefEqProofs only [xC_skip, evS, decide_true, decide_false, decide_eq_true_eq, sides, Inst.places, List.zip_cons_cons, List.zip_nil_right, List.zip_nil_left, List.mem_cons, List.not_mem_nil, forall_eq_or_imp, forall_eq, false_implies, implies_true, Apart, xeff, xhv, hv, effC, xev, look, argSl, atL, drops, keep, inBlockT, pickX, callX, callCX, callSX, callee, List.map_cons, List.map_nil, List.append_nil, List.nil_append, List.cons_append, reduceCtorEq, ↓reduceIte, Nat.reduceEqDiff, Nat.reduceAdd, Nat.reduceMul, eq_self, List.length_replicate, Int.reduceToNat, Int.reduceAdd, Int.reduceSub, Int.reduceMul, Int.reduceNeg, Int.reduceLT, Int.reduceLE, rowD, rowI, rowsD, ivD, rowG, rowIG, rowsG, ivG, bne_self_eq_false, beq_self_eq_true, List.length_map, List.getD_cons_zero, List.getD_cons_succ, List.drop_succ_cons, List.drop_zero, List.take_succ_cons, List.take_zero, List.take_nil, List.getElem?_cons_zero, List.getElem?_cons_succ, List.length_cons, List.length_nil, List.length_set, List.set_cons_zero, List.set_cons_succ, List.all_cons, List.all_nil, Nat.reduceLT, Nat.reduceLeDiff, ne_eq, Option.some.injEq, fillV, partsV, V.okPart, gt_iff_lt, ge_iff_le]
    refine callG_snaps [.d (rowD (tabR (scD a) i)), .d (rowD (tabR (scW b) i))] (corr_Size_con _ _ (by rw [l1, l2]) (by omega)) ⟨snp_row rfl l1 rfl, snp_row rfl l2 rfl, trivial⟩ (.flt _) ?_
    simp -implicitDefEqProofs only [xC_skip, evS, decide_true, decide_false, decide_eq_true_eq, sides, Inst.places, List.zip_cons_cons, List.zip_nil_right, List.zip_nil_left, List.mem_cons, List.not_mem_nil, forall_eq_or_imp, forall_eq, false_implies, implies_true, Apart, xeff, xhv, hv, effC, xev, look, argSl, atL, drops, keep, inBlockT, pickX, callX, callCX, callSX, callee, List.map_cons, List.map_nil, List.append_nil, List.nil_append, List.cons_append, reduceCtorEq, ↓reduceIte, Nat.reduceEqDiff, Nat.reduceAdd, Nat.reduceMul, eq_self, List.length_replicate, Int.reduceToNat, Int.reduceAdd, Int.reduceSub, Int.reduceMul, Int.reduceNeg, Int.reduceLT, Int.reduceLE, rowD, rowI, rowsD, ivD, rowG, rowIG, rowsG, ivG, bne_self_eq_false, beq_self_eq_true, List.length_map, List.getD_cons_zero, List.getD_cons_succ, List.drop_succ_cons, List.drop_zero, List.take_succ_cons, List.take_zero, List.take_nil, List.getElem?_cons_zero, List.getElem?_cons_succ, List.length_cons, List.length_nil, List.length_set, List.set_cons_zero, List.set_cons_succ, List.all_cons, List.all_nil, Nat.reduceLT, Nat.reduceLeDiff, ne_eq, Option.some.injEq, fillV, partsV, V.okPart, gt_iff_lt, ge_iff_le]
    refine callG_snaps [.d (rowD (tabR (scE a) i)), .d (rowD (tabR (scV b) i))] (corr_Size_con _ _ (by rw [l3, l4]) (by omega)) ⟨snp_row rfl l3 rfl, snp_row rfl l4 rfl, trivial⟩ (.flt _) ?_
    simp -implicitDefEqProofs only [xC_skip, evS, decide_true, decide_false, decide_eq_true_eq, sides, Inst.places, List.zip_cons_cons, List.zip_nil_right, List.zip_nil_left, List.mem_cons, List.not_mem_nil, forall_eq_or_imp, forall_eq, false_implies, implies_true, Apart, xeff, xhv, hv, effC, xev, look, argSl, atL, drops, keep, inBlockT, pickX, callX, callCX, callSX, callee, List.map_cons, List.map_nil, List.append_nil, List.nil_append, List.cons_append, reduceCtorEq, ↓reduceIte, Nat.reduceEqDiff, Nat.reduceAdd, Nat.reduceMul, eq_self, List.length_replicate, Int.reduceToNat, Int.reduceAdd, Int.reduceSub, Int.reduceMul, Int.reduceNeg, Int.reduceLT, Int.reduceLE, rowD, rowI, rowsD, ivD, rowG, rowIG, rowsG, ivG, bne_self_eq_false, beq_self_eq_true, List.length_map, List.getD_cons_zero, List.getD_cons_succ, List.drop_succ_cons, List.drop_zero, List.take_succ_cons, List.take_zero, List.take_nil, List.getElem?_cons_zero, List.getElem?_cons_succ, List.length_cons, List.length_nil, List.length_set, List.set_cons_zero, List.set_cons_succ, List.all_cons, List.all_nil, Nat.reduceLT, Nat.reduceLeDiff, ne_eq, Option.some.injEq, fillV, partsV, V.okPart, gt_iff_lt, ge_iff_le, f1]
    refine callG_snaps [.d (rowD (tabR (scD a) i)), .d (rowD (tabR (scV b) i))] (corr_Size_con _ _ (by rw [l1, l4]) (by omega)) ⟨snp_row rfl l1 rfl, snp_row rfl l4 rfl, trivial⟩ (.flt _) ?_
    change fcmp .eq _ (fop .div _ 4611686018427387904) = true at f2
    simp -implicitDefEqProofs only [xC_skip, evS, decide_true, decide_false, decide_eq_true_eq, sides, Inst.places, List.zip_cons_cons, List.zip_nil_right, List.zip_nil_left, List.mem_cons, List.not_mem_nil, forall_eq_or_imp, forall_eq, false_implies, implies_true, Apart, xeff, xhv, hv, effC, xev, look, argSl, atL, drops, keep, inBlockT, pickX, callX, callCX, callSX, callee, List.map_cons, List.map_nil, List.append_nil, List.nil_append, List.cons_append, reduceCtorEq, ↓reduceIte, Nat.reduceEqDiff, Nat.reduceAdd, Nat.reduceMul, eq_self, List.length_replicate, Int.reduceToNat, Int.reduceAdd, Int.reduceSub, Int.reduceMul, Int.reduceNeg, Int.reduceLT, Int.reduceLE, rowD, rowI, rowsD, ivD, rowG, rowIG, rowsG, ivG, bne_self_eq_false, beq_self_eq_true, List.length_map, List.getD_cons_zero, List.getD_cons_succ, List.drop_succ_cons, List.drop_zero, List.take_succ_cons, List.take_zero, List.take_nil, List.getElem?_cons_zero, List.getElem?_cons_succ, List.length_cons, List.length_nil, List.length_set, List.set_cons_zero, List.set_cons_succ, List.all_cons, List.all_nil, Nat.reduceLT, Nat.reduceLeDiff, ne_eq, Option.some.injEq, fillV, partsV, V.okPart, gt_iff_lt, ge_iff_le, f2]
    refine callG_snaps [.d (rowD (tabR (scD a) i)), .d (rowD (tabR (scW b) i))] (r9_Size_con _ _ (by rw [l1, l2]) (by omega)) ⟨snp_row rfl l1 rfl, snp_row rfl l2 rfl, trivial⟩ (.flt _) ?_
    simp -implicitDefEqProofs only [xC_skip, evS, decide_true, decide_false, decide_eq_true_eq, sides, Inst.places, List.zip_cons_cons, List.zip_nil_right, List.zip_nil_left, List.mem_cons, List.not_mem_nil, forall_eq_or_imp, forall_eq, false_implies, implies_true, Apart, xeff, xhv, hv, effC, xev, look, argSl, atL, drops, keep, inBlockT, pickX, callX, callCX, callSX, callee, List.map_cons, List.map_nil, List.append_nil, List.nil_append, List.cons_append, reduceCtorEq, ↓reduceIte, Nat.reduceEqDiff, Nat.reduceAdd, Nat.reduceMul, eq_self, List.length_replicate, Int.reduceToNat, Int.reduceAdd, Int.reduceSub, Int.reduceMul, Int.reduceNeg, Int.reduceLT, Int.reduceLE, rowD, rowI, rowsD, ivD, rowG, rowIG, rowsG, ivG, bne_self_eq_false, beq_self_eq_true, List.length_map, List.getD_cons_zero, List.getD_cons_succ, List.drop_succ_cons, List.drop_zero, List.take_succ_cons, List.take_zero, List.take_nil, List.getElem?_cons_zero, List.getElem?_cons_succ, List.length_cons, List.length_nil, List.length_set, List.set_cons_zero, List.set_cons_succ, List.all_cons, List.all_nil, Nat.reduceLT, Nat.reduceLeDiff, ne_eq, Option.some.injEq, fillV, partsV, V.okPart, gt_iff_lt, ge_iff_le]
    first | refine callG_con (r1_Same_con (szP (tabR (scD a) i) (tabR (scW b) i)) (szP (tabR (scD a) i) (tabR (scW b) i))) rfl ?_ | refine callCG_con (r1_Same_con (szP (tabR (scD a) i) (tabR (scW b) i)) (szP (tabR (scD a) i) (tabR (scW b) i))) rfl ?_ | refine callSG_con (r1_Same_con (szP (tabR (scD a) i) (tabR (scW b) i)) (szP (tabR (scD a) i) (tabR (scW b) i))) rfl ?_
    rw [fsame_self]
    simp -implicitDefEqProofs only [xC_skip, evS, decide_true, decide_false, decide_eq_true_eq, sides, Inst.places, List.zip_cons_cons, List.zip_nil_right, List.zip_nil_left, List.mem_cons, List.not_mem_nil, forall_eq_or_imp, forall_eq, false_implies, implies_true, Apart, xeff, xhv, hv, effC, xev, look, argSl, atL, drops, keep, inBlockT, pickX, callX, callCX, callSX, callee, List.map_cons, List.map_nil, List.append_nil, List.nil_append, List.cons_append, reduceCtorEq, ↓reduceIte, Nat.reduceEqDiff, Nat.reduceAdd, Nat.reduceMul, eq_self, List.length_replicate, Int.reduceToNat, Int.reduceAdd, Int.reduceSub, Int.reduceMul, Int.reduceNeg, Int.reduceLT, Int.reduceLE, rowD, rowI, rowsD, ivD, rowG, rowIG, rowsG, ivG, bne_self_eq_false, beq_self_eq_true, List.length_map, List.getD_cons_zero, List.getD_cons_succ, List.drop_succ_cons, List.drop_zero, List.take_succ_cons, List.take_zero, List.take_nil, List.getElem?_cons_zero, List.getElem?_cons_succ, List.length_cons, List.length_nil, List.length_set, List.set_cons_zero, List.set_cons_succ, List.all_cons, List.all_nil, Nat.reduceLT, Nat.reduceLeDiff, ne_eq, Option.some.injEq, fillV, partsV, V.okPart, gt_iff_lt, ge_iff_le]
    exact endsT_rett rfl (by decide) (by simp [look])
end Go.Ab
