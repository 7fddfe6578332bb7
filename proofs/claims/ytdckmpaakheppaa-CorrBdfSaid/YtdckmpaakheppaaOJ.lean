/- CorrBdf: the law. -/
import Derived.Test.YtdckmpaakheppaaOI
import Derived.Test.YtdckmpaakheppaaCH
namespace Go.Ab
set_option linter.unusedSimpArgs false
set_option linter.unusedVariables false
open Go Go.Proofs
def A_l9_CorrBdf_L0 : CA := (.seq (.seq (.reg [⟨0, (some 54), none, [], [], (.h (.mov (.t 16)))⟩, ⟨1, (some 55), none, [], [], (.h (.len (.t 54)))⟩, ⟨2, (some 56), none, [], [], (.h (.mov (.t 13)))⟩, ⟨3, (some 57), none, [], [], (.h (.ibin .leq (.t 55) (.t 56)))⟩] [4, 11, 12, 13, 14, 16, 57]) (.cond (.t 57) .skip (.exit 0))) (.block 1 (.reg [⟨0, (some 58), none, [], [], (.h (.mov (.t 16)))⟩, ⟨1, (some 59), none, [], [], (.bslice [(.d (.flt 0))] 1 1 [(0, (1, (.k (.d (.flt 0)))))] 32)⟩, ⟨2, (some 60), none, [], [], (.bslice [.nil] 1 1 [(0, (1, (.t 59)))] 31)⟩, ⟨3, (some 61), none, [], [], (.app (.t 58) (.t 60) 1 24)⟩, ⟨4, (some 16), none, [], [], (.h (.mov (.t 61)))⟩] [4, 11, 12, 13, 14, 16])))
def A_l9_CorrBdf : CA := (.seq (.reg [⟨0, (some 10), none, [], [], (.h (.mov (.k (.d (.bool false)))))⟩] [0, 1, 2, 3, 4]) (.seq (.seq (.reg [⟨0, (some 21), none, [], [], (.callA (.k (.d (.fn 14 [] []))) [])⟩, ⟨1, (some 22), none, [], [], (.h (.un .not (.t 21)))⟩] [0, 1, 2, 3, 4, 22]) (.cond (.t 22) (.seq (.reg [⟨0, (some 10), none, [], [], (.h (.mov (.k (.d (.bool false)))))⟩] [10]) .ret) .skip)) (.seq (.reg [⟨0, (some 23), none, [], [], (.h (.mov (.t 0)))⟩, ⟨1, (some 24), none, [], [], (.callA (.k (.d (.fn 16 [] []))) [(.t 23), (.k (.d (.int .i64 1000)))])⟩, ⟨2, (some 25), none, [], [], (.h (.i2f (.t 24)))⟩, ⟨3, (some 26), none, [], [], (.h (.fbin .sub (.k (.d (.flt 0))) (.t 25)))⟩, ⟨4, (some 11), none, [], [], (.h (.mov (.t 26)))⟩] [1, 2, 3, 4, 11]) (.seq (.reg [⟨0, (some 27), none, [], [], (.h (.build [(.d (.int .i64 0)), (.d (.int .i64 0)), (.d (.int .i64 0)), (.d (.flt 0))] [(0, (1, (.k (.d (.int .i64 1)))))]))⟩, ⟨1, (some 28), none, [], [], (.h (.mov (.t 11)))⟩, ⟨2, (some 29), none, [], [], (.h (.build [(.d (.int .i64 0)), (.d (.int .i64 0)), (.d (.int .i64 0)), (.d (.flt 0))] [(0, (1, (.k (.d (.int .i64 0))))), (3, (1, (.t 28)))]))⟩, ⟨3, (some 30), none, [], [], (.h (.build [(.d (.int .i64 0)), (.d (.int .i64 0)), (.d (.int .i64 0)), (.d (.flt 0))] [(0, (1, (.k (.d (.int .i64 4))))), (1, (1, (.k (.d (.int .i64 1)))))]))⟩, ⟨4, (some 31), none, [], [], (.bslice [(.d (.int .i64 0)), (.d (.int .i64 0)), (.d (.int .i64 0)), (.d (.flt 0)), (.d (.int .i64 0)), (.d (.int .i64 0)), (.d (.int .i64 0)), (.d (.flt 0)), (.d (.int .i64 0)), (.d (.int .i64 0)), (.d (.int .i64 0)), (.d (.flt 0))] 3 4 [(0, (4, (.t 27))), (4, (4, (.t 29))), (8, (4, (.t 30)))] 53)⟩, ⟨5, (some 32), none, [], [], (.bslice [(.d (.int .i64 0))] 1 1 [(0, (1, (.k (.d (.int .i64 2)))))] 3)⟩, ⟨6, (some 33), none, [], [], (.h (.build [(.d (.int .i64 0)), .nil, .nil] [(0, (1, (.k (.d (.int .i64 1))))), (1, (1, (.t 31))), (2, (1, (.t 32)))]))⟩, ⟨7, (some 12), none, [], [], (.alloc [(.d (.int .i64 0)), .nil, .nil] 26)⟩, ⟨8, none, none, [], [], (.store (.t 12) (.t 33) 3)⟩] [1, 2, 3, 4, 11, 12]) (.seq (.reg [⟨0, (some 34), none, [], [], (.h (.mov (.t 3)))⟩, ⟨1, (some 35), none, [], [], (.callA (.k (.d (.fn 16 [] []))) [(.t 34), (.k (.d (.int .i64 4)))])⟩, ⟨2, (some 36), none, [], [], (.h (.ibin .add (.k (.d (.int .i64 1))) (.t 35)))⟩, ⟨3, (some 13), none, [], [], (.h (.mov (.t 36)))⟩] [1, 2, 4, 11, 12, 13]) (.seq (.reg [⟨0, (some 38), none, [], [], (.h (.mov (.t 13)))⟩, ⟨1, (some 39), none, [], [], (.callA (.k (.d (.fn 18 [] []))) [(.k (.d (.int .i64 1))), (.t 38)])⟩, ⟨2, (some 37), none, [], [], (.h (.mov (.t 39)))⟩, ⟨3, (some 40), none, [], [], (.h (.ext (.t 37) 0))⟩, ⟨4, (some 41), none, [], [], (.h (.ext (.t 37) 1))⟩, ⟨5, (some 14), none, [], [], (.h (.mov (.t 40)))⟩, ⟨6, (some 15), none, [], [], (.h (.mov (.t 41)))⟩] [1, 2, 4, 11, 12, 13, 14]) (.seq (.reg [⟨0, (some 42), none, [], [], (.h (.mov (.t 1)))⟩, ⟨1, (some 43), none, [], [], (.callA (.k (.d (.fn 16 [] []))) [(.t 42), (.k (.d (.int .i64 21)))])⟩, ⟨2, (some 44), none, [], [], (.h (.ibin .sub (.t 43) (.k (.d (.int .i64 10)))))⟩, ⟨3, (some 45), none, [], [], (.h (.i2f (.t 44)))⟩, ⟨4, (some 46), none, [], [], (.bslice [(.d (.flt 0))] 1 1 [(0, (1, (.t 45)))] 32)⟩, ⟨5, (some 47), none, [], [], (.h (.mov (.t 2)))⟩, ⟨6, (some 48), none, [], [], (.callA (.k (.d (.fn 16 [] []))) [(.t 47), (.k (.d (.int .i64 21)))])⟩, ⟨7, (some 49), none, [], [], (.h (.ibin .sub (.t 48) (.k (.d (.int .i64 10)))))⟩, ⟨8, (some 50), none, [], [], (.h (.i2f (.t 49)))⟩, ⟨9, (some 51), none, [], [], (.h (.fbin .div (.t 50) (.k (.d (.flt 4620693217682128896)))))⟩, ⟨10, (some 52), none, [], [], (.bslice [(.d (.flt 0))] 1 1 [(0, (1, (.t 51)))] 32)⟩, ⟨11, (some 53), none, [], [], (.bslice [.nil, .nil] 2 1 [(0, (1, (.t 46))), (1, (1, (.t 52)))] 31)⟩, ⟨12, (some 16), none, [], [], (.h (.mov (.t 53)))⟩] [4, 11, 12, 13, 14, 16]) (.seq (.block 0 (.loop A_l9_CorrBdf_L0)) (.seq (.reg [⟨0, (some 62), none, [], [], (.h (.mov (.t 4)))⟩, ⟨1, (some 63), none, [], [], (.callA (.k (.d (.fn 16 [] []))) [(.t 62), (.k (.d (.int .i64 11)))])⟩, ⟨2, (some 64), none, [], [], (.h (.ibin .add (.k (.d (.int .i64 20))) (.t 63)))⟩, ⟨3, (some 65), none, [], [], (.h (.icv .u64 (.t 64)))⟩, ⟨4, (some 66), none, [], [], (.h (.ibin .shl (.k (.d (.int .i64 1))) (.t 65)))⟩, ⟨5, (some 17), none, [], [], (.h (.mov (.t 66)))⟩] [11, 12, 14, 16, 17]) (.seq (.reg [⟨0, (some 67), none, [], [], (.load (.t 12) 3 true)⟩, ⟨1, (some 68), none, [], [], (.h (.mov (.t 16)))⟩, ⟨2, (some 69), none, [], [], (.h (.mov (.t 14)))⟩, ⟨3, (some 70), none, [], [], (.h (.mov (.t 17)))⟩, ⟨4, (some 71), none, [], [], (.bslice [(.d (.flt 0))] 1 1 [(0, (1, (.k (.d (.flt 4607182418800017408)))))] 32)⟩, ⟨5, (some 72), none, [], [], (.callA (.k (.d (.fn 20 [] []))) [(.t 67), (.t 68), (.t 69), (.t 70), (.k (.d (.int .i64 1))), (.t 71)])⟩, ⟨6, (some 18), none, [], [], (.alloc [.nil, (.d (.int .i64 0)), (.d (.int .i64 0))] 39)⟩, ⟨7, none, none, [], [], (.store (.t 18) (.t 72) 3)⟩] [11, 14, 16, 17, 18]) (.seq (.seq (.reg [⟨0, (some 73), none, [], [], (.h (.padd (.t 18) 2))⟩, ⟨1, (some 74), none, [], [], (.load (.t 73) 1 false)⟩, ⟨2, (some 75), none, [], [], (.h (.ibin .neq (.t 74) (.k (.d (.int .i64 0)))))⟩, ⟨3, (some 76), none, [], [], (.h (.mov (.t 75)))⟩, ⟨4, (some 77), (some (76, false)), [], [], (.h (.padd (.t 18) 0))⟩, ⟨5, (some 78), (some (76, false)), [], [], (.load (.t 77) 1 false)⟩, ⟨6, (some 79), (some (76, false)), [], [], (.h (.len (.t 78)))⟩, ⟨7, (some 80), (some (76, false)), [], [], (.h (.ibin .neq (.t 79) (.k (.d (.int .i64 1)))))⟩, ⟨8, (some 81), none, [], [], (.h (.pick (.t 76) (.k (.d (.bool true))) (.t 80)))⟩, ⟨9, (some 82), none, [], [], (.h (.mov (.t 81)))⟩, ⟨10, (some 83), (some (82, false)), [], [], (.h (.padd (.t 18) 1))⟩, ⟨11, (some 84), (some (82, false)), [], [], (.load (.t 83) 1 false)⟩, ⟨12, (some 85), (some (82, false)), [], [], (.h (.ibin .gtr (.t 84) (.k (.d (.int .i64 2)))))⟩, ⟨13, (some 86), none, [], [], (.h (.pick (.t 82) (.k (.d (.bool true))) (.t 85)))⟩] [11, 14, 16, 17, 18, 86]) (.cond (.t 86) (.seq (.reg [⟨0, (some 10), none, [], [], (.h (.mov (.k (.d (.bool false)))))⟩] [10]) .ret) .skip)) (.seq (.reg [⟨0, (some 87), none, [], [], (.h (.mov (.t 17)))⟩, ⟨1, (some 88), none, [], [], (.callA (.k (.d (.fn 26 [] []))) [(.t 87)])⟩, ⟨2, (some 89), none, [], [], (.h (.mov (.t 11)))⟩, ⟨3, (some 90), none, [], [], (.h (.fbin .mul (.t 88) (.t 89)))⟩, ⟨4, (some 19), none, [], [], (.h (.mov (.t 90)))⟩] [14, 16, 18, 19]) (.seq (.reg [⟨0, (some 91), none, [], [], (.h (.mov (.t 19)))⟩, ⟨1, (some 92), none, [], [], (.h (.mov (.t 16)))⟩, ⟨2, (some 93), none, [], [], (.h (.idx (.t 92) (.k (.d (.int .i64 0))) 1))⟩, ⟨3, (some 94), none, [], [], (.load (.t 93) 1 false)⟩, ⟨4, (some 95), none, [], [], (.h (.idx (.t 94) (.k (.d (.int .i64 0))) 1))⟩, ⟨5, (some 96), none, [], [], (.load (.t 95) 1 false)⟩, ⟨6, (some 97), none, [], [], (.h (.fbin .mul (.t 91) (.t 96)))⟩, ⟨7, (some 98), none, [], [], (.h (.mov (.t 16)))⟩, ⟨8, (some 99), none, [], [], (.h (.idx (.t 98) (.k (.d (.int .i64 1))) 1))⟩, ⟨9, (some 100), none, [], [], (.load (.t 99) 1 false)⟩, ⟨10, (some 101), none, [], [], (.h (.idx (.t 100) (.k (.d (.int .i64 0))) 1))⟩, ⟨11, (some 102), none, [], [], (.load (.t 101) 1 false)⟩, ⟨12, (some 103), none, [], [], (.h (.fbin .sub (.t 97) (.t 102)))⟩, ⟨13, (some 104), none, [], [], (.h (.mov (.t 19)))⟩, ⟨14, (some 105), none, [], [], (.h (.mov (.t 14)))⟩, ⟨15, (some 106), none, [], [], (.h (.idx (.t 105) (.k (.d (.int .i64 0))) 1))⟩, ⟨16, (some 107), none, [], [], (.load (.t 106) 1 false)⟩, ⟨17, (some 108), none, [], [], (.h (.fbin .mul (.t 104) (.t 107)))⟩, ⟨18, (some 109), none, [], [], (.h (.fbin .sub (.k (.d (.flt 4607182418800017408))) (.t 108)))⟩, ⟨19, (some 110), none, [], [], (.h (.fbin .div (.t 103) (.t 109)))⟩, ⟨20, (some 20), none, [], [], (.h (.mov (.t 110)))⟩] [18, 20]) (.seq (.reg [⟨0, (some 111), none, [], [], (.h (.padd (.t 18) 0))⟩, ⟨1, (some 112), none, [], [], (.load (.t 111) 1 false)⟩, ⟨2, (some 113), none, [], [], (.h (.idx (.t 112) (.k (.d (.int .i64 0))) 1))⟩, ⟨3, (some 114), none, [], [], (.load (.t 113) 1 false)⟩, ⟨4, (some 115), none, [], [], (.h (.mov (.t 20)))⟩, ⟨5, (some 116), none, [], [], (.h (.fbin .sub (.t 114) (.t 115)))⟩, ⟨6, (some 117), none, [], [], (.callA (.k (.d (.fn 24 [] []))) [(.t 116)])⟩, ⟨7, (some 118), none, [], [], (.h (.mov (.t 20)))⟩, ⟨8, (some 119), none, [], [], (.callA (.k (.d (.fn 24 [] []))) [(.t 118)])⟩, ⟨9, (some 120), none, [], [], (.h (.fbin .add (.k (.d (.flt 4607182418800017408))) (.t 119)))⟩, ⟨10, (some 121), none, [], [], (.h (.fbin .mul (.k (.d (.flt 4472406533629990549))) (.t 120)))⟩, ⟨11, (some 122), none, [], [], (.h (.fcmp .le (.t 117) (.t 121)))⟩, ⟨12, (some 10), none, [], [], (.h (.mov (.t 122)))⟩] [10]) .ret))))))))))))))
theorem A_l9_CorrBdf_comp : compF Try.prog 6 = some ⟨123, [(10, none)], A_l9_CorrBdf.strip⟩ := by kernel_rfl
/-- What the answer is compared with. -/
def bdW (k h l0 x z1 : Nat) : Nat := fop .div (fop .sub (fop .mul (fop .mul h k) x) z1) (fop .sub one1 (fop .mul (fop .mul h k) l0))
theorem rb_of {a b : Rat} (h1 : -b ≤ a) (h2 : a ≤ b) : rabs a ≤ b := rabs_le h2 (by grind)
theorem bd_x2 {x M : Nat} {Ms : Rat} (hx : fin x) (fM : fin M) (hM : rabs (val M - Ms) ≤ ee) (h1 : 1 ≤ Ms) (hg : rabs (val x) ≤ 128 * ee) : fin (fop .div x M) ∧ rabs (val (fop .div x M)) ≤ 132 * ee := by
  obtain ⟨e0, e1, _⟩ := ee_facts
  have k1 := le_rabs (val M - Ms)
  have hm : 99 ≤ 100 * val M := by grind
  have hne : val M ≠ 0 := by grind
  obtain ⟨q, hq⟩ : ∃ q : Rat, q * val M = val x := ⟨val x / val M, Rat.div_mul_cancel hne⟩
  have hq2 : rabs q * val M = rabs (val x) := by rw [← hq, rabs_mul, rabs_of_nonneg (show 0 ≤ val M by grind)]
  have q0 := rabs_nonneg q
  have q1 : rabs q ≤ 130 * ee := by
    have := Rat.mul_le_mul_of_nonneg_left hm q0
    grind
  have p32 : pw (-32) = 256 * ee := by decide +kernel
  have p83 : pw (-83) ≤ ee := pw_mono (by decide)
  obtain ⟨f, e⟩ := div_tol hx fM hne hq (-32) (by decide) (by rw [p32]; grind)
  rw [show (-32 : Int) - 51 = -83 from rfl] at e
  have a := le_rabs (val (fop .div x M) - q)
  have b := le_rabs q
  exact ⟨f, rabs_le (by grind) (by grind)⟩
theorem bd_main {k h l0 x z1 : Nat} {Kn Hn Yn Bn : Int} (N : Bdn k h l0 x z1 Kn Hn Yn Bn) (Z : List (List Nat)) (l : List Nat) (hx : (Z.getD 0 []).getD 0 0 = x) (hz : (Z.getD 1 []).getD 0 0 = z1) (hl : l.getD 0 0 = l0) :
    ∃ D a, 1 ≤ a ∧ a ≤ 2 ∧ solG (bdT k) Z l h [one1] 1 = ([D], a, 0) ∧ fcmp .le (fabs (fop .sub D (bdW k h l0 x z1))) (fop .mul 4472406533629990549 (fop .add one1 (fabs (bdW k h l0 x z1)))) = true := by
  obtain ⟨e0, e1, _, _, _, _, _, _, _, p5, _, _, _, _, _⟩ := ee_facts
  have vo : val one1 = 1 := by rw [one_ix.val, pw_zero]; decide +kernel
  have hgf := bdn_g N
  have hwf := (bdn_w N).2
  have hhk := (bdn_w N).1
  have hJf := bdn_J N
  obtain ⟨H, K, Y, B, L, vh, vk, vx, vz, vl, H0, H1, K1, K0, Y1, Y2, B1, B2, L1, L2, vJ, vhk, vG, vG2⟩ := bdn_num N
  obtain ⟨P1, P0, M1, M2, G1, G2⟩ := bd_bounds H0 H1 K1 K0 Y1 Y2 B1 B2 L1 L2
  have fl := N.fl
  have fk := N.ik.fin
  have fh := N.ih.fin
  have fx := N.ix.fin
  have fz := N.iz.fin
  generalize hJw : fop .add (fop .mul 0 x) (fop .mul k one1) = Jw at hJf vJ
  obtain ⟨fM, tM⟩ := bd_M (hl := fop .mul h l0) one_ix.fin vo fh vh fl vl hJf.fin vJ H0 H1 K0 K1 (by grind) L2 rfl
  obtain ⟨fV, tV⟩ := bd_V one_ix.fin vo hhk.fin vhk fl vl P0 P1 (by grind) L2
  generalize hMw : fop .sub one1 (fop .mul (fop .mul h l0) Jw) = M at fM tM
  have hmat : matT (bdT k) Z l h = [[M]] := by rw [bd_mat, hl, hx, hJw, hMw]
  have km := le_rabs (val M - (1 - H * K * L))
  have hm0 : fcmp .eq M 0 = false := by
    rw [Bool.eq_false_iff, Ne, fcmp_eq fM fin_zero, val_zero]; grind
  have hsol : solG (bdT k) Z l h [one1] 1 = seek (tryB (bdT k) Z l h [one1] [[M]] [0]) 4 1 [0] := by
    show solB _ _ _ _ _ = _
    unfold solB
    rw [hmat, show (bdT k).n = 1 from rfl, part_one hm0 (fin_finite fM)]
    rfl
  -- the answer
  obtain ⟨fW, bW, tW⟩ := bd_quo hwf.fin vG2 fV tV M1 M2 G1
  -- the tries
  have hxB : ∀ d, xB (bdT k) Z l h [[M]] [0] [d] = [fop .div (fop .sub (fop .sub (fop .mul h (fop .mul k (fop .add x (fop .mul l0 d)))) z1) d) M] := fun d => by
    show [fop .div (fop .sub ((gS (bdT k) Z l h [d]).getD 0 0) d) M] = _
    rw [bd_g, hx, hz, hl]; rfl
  have hdB : ∀ d, dB (bdT k) Z l h [[M]] [0] [d] = [fop .add d (fop .div (fop .sub (fop .sub (fop .mul h (fop .mul k (fop .add x (fop .mul l0 d)))) z1) d) M)] := fun d => by
    show [fop .add d ((xB (bdT k) Z l h [[M]] [0] [d]).getD 0 0)] = _
    rw [hxB]; rfl
  -- the first
  obtain ⟨fg0, vg0⟩ := sub_zero_val hgf.fin (by rw [vG]; grind)
  obtain ⟨fx1, bx1, tx1⟩ := bd_quo fg0 (vg0.trans vG) fM tM M1 M2 G1
  obtain ⟨fd1, vd1⟩ := add_zero_val fx1 (by grind)
  generalize hx1e : fop .div (fop .sub (fop .sub (fop .mul h (fop .mul k (fop .add x (fop .mul l0 0)))) z1) 0) M = x1 at fx1 bx1 tx1 fd1 vd1
  generalize hd1e : fop .add 0 x1 = d1 at fd1 vd1
  have n1 := near_le M1 tx1 tW
  have c1 : rabs (val d1 - val (bdW k h l0 x z1)) ≤ 78 * ee := by
    rw [vd1]; have : bdW k h l0 x z1 = fop .div (fop .sub (fop .mul (fop .mul h k) x) z1) (fop .sub one1 (fop .mul (fop .mul h k) l0)) := rfl
    rw [this]; grind
  have bd1 : rabs (val d1) ≤ 24 := by rw [vd1]; exact bx1
  -- the second
  obtain ⟨fr, tr⟩ := bd_res fx vx fl vl fd1 rfl fk vk fh vh fz vz (rb_of Y1 Y2) (rb_of (by grind) L2) bd1 (rb_of K1 (by grind)) (rb_of (by grind) H1) (rb_of B1 B2)
  generalize hre : fop .sub (fop .sub (fop .mul h (fop .mul k (fop .add x (fop .mul l0 d1)))) z1) d1 = r at fr tr
  have br : rabs (val r) ≤ 128 * ee := by
    have a1 := le_rabs (val r - (H * K * Y - B - val d1 * (1 - H * K * L)))
    have a2 := le_rabs (val x1 * (1 - H * K * L) - (H * K * Y - B))
    rw [vd1] at a1
    exact rabs_le (by grind) (by grind)
  obtain ⟨fx2, bx2⟩ := bd_x2 fr fM tM M1 br
  generalize hx2e : fop .div r M = x2 at fx2 bx2
  have hb12 : rabs (val d1 + val x2) ≤ pw 5 := by
    rw [p5]
    have := rabs_add (val d1) (val x2)
    grind
  obtain ⟨fd2, td2⟩ := add_tol fd1 fx2 5 (by decide) hb12
  have p47 : pw ((5 : Int) - 52) ≤ ee := pw_mono (by decide)
  have c2 : rabs (val (fop .add d1 x2) - val (bdW k h l0 x z1)) ≤ 300 * ee := by
    have a1 := le_rabs (val (fop .add d1 x2) - (val d1 + val x2))
    have a2 := le_rabs (val x2)
    have a3 := le_rabs (val d1 - val (bdW k h l0 x z1))
    exact rabs_le (by grind) (by grind)
  rw [hsol, seekB_succ, hdB, hxB, hx1e, hd1e, finAll_one fd1, if_neg (by decide)]
  by_cases h1 : fcmp .le (szP [x1] [one1]) 4562146422526312448 = true
  · rw [if_pos h1]
    exact ⟨d1, 1, by decide, by decide, rfl, bd_close fd1 fW bW (by grind)⟩
  · rw [if_neg h1, if_neg (by decide), seekB_succ, hdB, hxB, hre, hx2e, finAll_one fd2, if_neg (by decide), if_pos (bd_size fx2 (by grind))]
    exact ⟨_, 2, by decide, by decide, rfl, bd_close fd2 fW bW c2⟩

theorem l0_ok (q : Nat) (h : 1 ≤ q ∧ q ≤ 4) : fin ((ofL 1 q).getD 0 0) ∧ 47 ≤ 100 * val ((ofL 1 q).getD 0 0) ∧ val ((ofL 1 q).getD 0 0) ≤ 1 := by
  have fact : ∀ w m e, Ieee.double.read w = .number false m e → (47 ≤ 100 * ((m : Rat) * pw e) ∧ (m : Rat) * pw e ≤ 1) → fin w ∧ 47 ≤ 100 * val w ∧ val w ≤ 1 := fun w m e hr hb => by
    refine ⟨⟨_, _, _, hr⟩, ?_⟩
    rw [val_eq hr]
    simpa using hb
  rcases q with _ | _ | _ | _ | _ | q
  · omega
  · rw [show (ofL 1 (0 + 1)).getD 0 0 = 4607182418800017408 by kernel_rfl]; exact fact _ 4503599627370496 (-52) (by decide +kernel) (by decide +kernel)
  · rw [show (ofL 1 (0 + 1 + 1)).getD 0 0 = 4604180019048437077 by kernel_rfl]; exact fact _ 6004799503160661 (-53) (by decide +kernel) (by decide +kernel)
  · rw [show (ofL 1 (0 + 1 + 1 + 1)).getD 0 0 = 4603088237320589684 by kernel_rfl]; exact fact _ 4913017775313268 (-53) (by decide +kernel) (by decide +kernel)
  · rw [show (ofL 1 (0 + 1 + 1 + 1 + 1)).getD 0 0 = 4602318531202457272 by kernel_rfl]; exact fact _ 8646911284551352 (-54) (by decide +kernel) (by decide +kernel)
  · omega
theorem bdn_of (j q : Nat) (hj : 20 ≤ j ∧ j ≤ 30) (hq : 1 ≤ q ∧ q ≤ 4) (c y dy : Int) (hc : 0 ≤ c ∧ c < 1000) (hy : 0 ≤ y ∧ y < 21) (hd : 0 ≤ dy ∧ dy < 21) :
    Bdn (fop .sub 0 (FloatKind.nearest .f64 c)) (hW (2 ^ j)) ((ofL 1 q).getD 0 0) (FloatKind.nearest .f64 (y - 10)) (fop .div (FloatKind.nearest .f64 (dy - 10)) 4620693217682128896) (-c) (2 ^ j : Nat) (y - 10) (dy - 10) := by
  obtain ⟨l1, l2⟩ := l0_ok q hq
  have hp : 2 ^ j ≤ 2 ^ 30 := Nat.pow_le_pow_right (by decide) hj.2
  refine ⟨(Ix.sub (Ix.zero 0) (Ix.ofInt c (by omega)) (by omega) (by decide) (by decide)).cast (by omega), by omega, hW_ix j (by omega), ?_, Ix.ofInt _ (by omega), by omega,
    Ix.div (Ix.ofInt (dy - 10) (by omega)) (pow_ix 4620693217682128896 0 (-49) (by decide +kernel) 3 (by decide)) (by decide) (by decide) (show dy - 10 = (dy - 10) * 1 by omega) (by omega) (by decide) (by decide), by omega, l1, l2⟩
  generalize 2 ^ j = w at hp ⊢
  omega
set_option maxRecDepth 8000 in
theorem l9_CorrBdf_con (c y dy order step : Int) : Con Try.prog 6 [fI c, fI y, fI dy, fI order, fI step] (fB true) := by
  refine Con_introA A_l9_CorrBdf_comp rfl mixed ?_
  simp -implicitDefEqProofs only [xC_skip, evS, evT, evU, hv, effC, reduceCtorEq, ↓reduceIte, Nat.reduceEqDiff, Nat.reduceAdd, Nat.reduceMul, Int.reduceToNat, Int.reduceAdd, Int.reduceSub, Int.reduceMul, Int.reduceNeg, Int.reduceLT, Int.reduceLE, Nat.reduceLT, Nat.reduceLeDiff, A_l9_CorrBdf]
  first | refine callG_con (l9_known_con) rfl ?_ | refine callCG_con (l9_known_con) rfl ?_ | refine callSG_con (l9_known_con) rfl ?_
  simp -implicitDefEqProofs only [xC_skip, evS, evT, evU, hv, effC, reduceCtorEq, ↓reduceIte, Nat.reduceEqDiff, Nat.reduceAdd, Nat.reduceMul, Int.reduceToNat, Int.reduceAdd, Int.reduceSub, Int.reduceMul, Int.reduceNeg, Int.reduceLT, Int.reduceLE, Nat.reduceLT, Nat.reduceLeDiff]
  first | refine callG_con (l9_within_con c 1000 (by decide) (by decide)) rfl ?_ | refine callCG_con (l9_within_con c 1000 (by decide) (by decide)) rfl ?_ | refine callSG_con (l9_within_con c 1000 (by decide) (by decide)) rfl ?_
  have c1 := Int.emod_nonneg c (by decide : (1000 : Int) ≠ 0)
  have c2 := Int.emod_lt_of_pos c (by decide : (0 : Int) < 1000)
  simp -implicitDefEqProofs only [xC_skip, evS, evT, evU, hv, effC, reduceCtorEq, ↓reduceIte, Nat.reduceEqDiff, Nat.reduceAdd, Nat.reduceMul, Int.reduceToNat, Int.reduceAdd, Int.reduceSub, Int.reduceMul, Int.reduceNeg, Int.reduceLT, Int.reduceLE, Nat.reduceLT, Nat.reduceLeDiff]
  first | refine callG_con (l9_within_con order 4 (by decide) (by decide)) rfl ?_ | refine callCG_con (l9_within_con order 4 (by decide) (by decide)) rfl ?_ | refine callSG_con (l9_within_con order 4 (by decide) (by decide)) rfl ?_
  have o1 := Int.emod_nonneg order (by decide : (4 : Int) ≠ 0)
  have o2 := Int.emod_lt_of_pos order (by decide : (0 : Int) < 4)
  obtain ⟨q, hq⟩ : ∃ q : Nat, 1 + order % 4 = q := ⟨(1 + order % 4).toNat, by omega⟩
  have hq5 : 1 ≤ q ∧ q ≤ 4 := by omega
  have wq : IntKind.i64.wrap (1 + order % 4) = (q : Int) := by rw [hq]; exact wrapI (by omega) (by omega)
  simp -implicitDefEqProofs only [xC_skip, evS, evT, evU, hv, effC, reduceCtorEq, ↓reduceIte, Nat.reduceEqDiff, Nat.reduceAdd, Nat.reduceMul, Int.reduceToNat, Int.reduceAdd, Int.reduceSub, Int.reduceMul, Int.reduceNeg, Int.reduceLT, Int.reduceLE, Nat.reduceLT, Nat.reduceLeDiff, wq]
  obtain ⟨hof, hofl⟩ := r7_Of_ok 1 q (by omega)
  first | refine callG_con (hof) rfl ?_ | refine callCG_con (hof) rfl ?_ | refine callSG_con (hof) rfl ?_
  simp -implicitDefEqProofs only [xC_skip, evS, evT, evU, hv, effC, reduceCtorEq, ↓reduceIte, Nat.reduceEqDiff, Nat.reduceAdd, Nat.reduceMul, Int.reduceToNat, Int.reduceAdd, Int.reduceSub, Int.reduceMul, Int.reduceNeg, Int.reduceLT, Int.reduceLE, Nat.reduceLT, Nat.reduceLeDiff]
  first | refine callG_con (l9_within_con y 21 (by decide) (by decide)) rfl ?_ | refine callCG_con (l9_within_con y 21 (by decide) (by decide)) rfl ?_ | refine callSG_con (l9_within_con y 21 (by decide) (by decide)) rfl ?_
  have y1 := Int.emod_nonneg y (by decide : (21 : Int) ≠ 0)
  have y2 := Int.emod_lt_of_pos y (by decide : (0 : Int) < 21)
  simp -implicitDefEqProofs only [xC_skip, evS, evT, evU, hv, effC, reduceCtorEq, ↓reduceIte, Nat.reduceEqDiff, Nat.reduceAdd, Nat.reduceMul, Int.reduceToNat, Int.reduceAdd, Int.reduceSub, Int.reduceMul, Int.reduceNeg, Int.reduceLT, Int.reduceLE, Nat.reduceLT, Nat.reduceLeDiff]
  first | refine callG_con (l9_within_con dy 21 (by decide) (by decide)) rfl ?_ | refine callCG_con (l9_within_con dy 21 (by decide) (by decide)) rfl ?_ | refine callSG_con (l9_within_con dy 21 (by decide) (by decide)) rfl ?_
  have d1 := Int.emod_nonneg dy (by decide : (21 : Int) ≠ 0)
  have d2 := Int.emod_lt_of_pos dy (by decide : (0 : Int) < 21)
  simp -implicitDefEqProofs only [xC_skip, evS, evT, evU, hv, effC, reduceCtorEq, ↓reduceIte, Nat.reduceEqDiff, Nat.reduceAdd, Nat.reduceMul, Int.reduceToNat, Int.reduceAdd, Int.reduceSub, Int.reduceMul, Int.reduceNeg, Int.reduceLT, Int.reduceLE, Nat.reduceLT, Nat.reduceLeDiff]
  rw [wrapI (by omega) (by omega), wrapI (by omega) (by omega)]
  have hN := fun (j : Nat) (hj : 20 ≤ j ∧ j ≤ 30) => bdn_of j q hj hq5 (c % 1000) (y % 21) (dy % 21) ⟨c1, c2⟩ ⟨y1, y2⟩ ⟨d1, d2⟩
  generalize fop .sub 0 (FloatKind.nearest .f64 (c % 1000)) = k at hN
  generalize FloatKind.nearest .f64 (y % 21 - 10) = a at hN
  generalize fop .div (FloatKind.nearest .f64 (dy % 21 - 10)) 4620693217682128896 = b at hN
  generalize hofe : ofL 1 q = l at hofl hN
  generalize hZ : [a] :: [b] :: List.replicate (q - 1) [0] = Z
  have zl : Z.length = q + 1 := by rw [← hZ]; simp; omega
  have zg : ∀ i, 2 ≤ i → i < q + 1 → Z.getD i [] = [0] := fun i h1 h2 => by
    rw [← hZ]
    obtain ⟨r, rfl⟩ : ∃ r, i = r + 2 := ⟨i - 2, by omega⟩
    simp [List.getD_eq_getElem?_getD, show r < q - 1 by omega]
  have e2 : dcells 2 (rowsG Z) = [.d (rowD [a]), .d (rowD [b])] := by rw [← hZ]; rfl
  have opc : ([fI 1, fI 0, fI 0, fl 0, fI 0, fI 0, fI 0, fl k, fI 4, fI 1, fI 0, fl 0] : List V) = dcells 3 (opG (bdT k).ops) := rfl
  refine WA_forW (n := q + 1) (fun c s => ∃ i, c + i = q + 3 ∧ 2 ≤ i ∧ i ≤ q + 1 ∧ s = ⟨[(4, fI step), (11, fl k), (12, .ptr 7 0 0 3), (13, fI q), (14, .d (rowD l)), (16, .sl 19 0 0 i 1 i)],
    [(19, [dcells i (rowsG Z)]), (7, [[fI 1, .sl 4 0 0 3 4 12, .sl 5 0 0 1 1 1]]), (5, [[fI 2]]), (4, [[fI 1, fI 0, fI 0, fl 0, fI 0, fI 0, fI 0, fl k, fI 4, fI 1, fI 0, fl 0]])]⟩) (s0 := ⟨_, _⟩) ?_ ⟨2, by omega, by omega, by omega, rfl⟩ ?_
  · rw [e2]
    have hz1 : ∀ L L' : Heap, L.get 12 0 = some [fl a] → L'.get 12 0 = none → Fz L L' (.sl 12 0 0 1 1 1) (.d (rowD [a])) := fun L L' h1 h2 => Fz_row (xs := [a]) h1 rfl rfl h2
    have hz2 : ∀ L L' : Heap, L.get 18 0 = some [fl b] → L'.get 18 0 = none → Fz L L' (.sl 18 0 0 1 1 1) (.d (rowD [b])) := fun L L' h1 h2 => Fz_row (xs := [b]) h1 rfl rfl h2
    exact LeT.weak (fun _ h => h) (by simp (maxDischargeDepth := 6) [Fz_rowD, Fz_rowI, Fz_rowsD, FzS_cons, FzS_nil, FzH_cons, FzH_nil, FzF_cons, FzF_nil, FzF_rows, FzA_cons, FzA_nil, FzA_app, FzA_rowV, FzA_dcells, FzA_outC, FzA_data, Fz_d, Fz_nil, Fz_any, Fz_ptr, Fz_sl, Fz_agg, get_cons, get_nil, fam_cons, fam_nil]) (by simp (maxDischargeDepth := 6) [Fz_rowD, Fz_rowI, Fz_rowsD, FzS_cons, FzS_nil, FzH_cons, FzH_nil, FzF_cons, FzF_nil, FzF_rows, FzA_cons, FzA_nil, FzA_app, FzA_rowV, FzA_dcells, FzA_outC, FzA_data, Fz_d, Fz_nil, Fz_any, Fz_ptr, Fz_sl, Fz_agg, get_cons, get_nil, fam_cons, fam_nil, hz1, hz2])
  rintro c' s ⟨i, hc, hi2, hiq, rfl⟩
  have hdl : (dcells i (rowsG Z)).length = i := by rw [dcells_len (esz := 1) i (fun _ _ => rfl)]; omega
  simp -implicitDefEqProofs only [xC_skip, evS, evT, evU, hv, effC, reduceCtorEq, ↓reduceIte, Nat.reduceEqDiff, Nat.reduceAdd, Nat.reduceMul, Int.reduceToNat, Int.reduceAdd, Int.reduceSub, Int.reduceMul, Int.reduceNeg, Int.reduceLT, Int.reduceLE, Nat.reduceLT, Nat.reduceLeDiff, A_l9_CorrBdf_L0]
  refine condC_intro (fun hi => ?_) (fun hi => ?_)
  · replace hi := of_decide_eq_true hi
    simp -implicitDefEqProofs only [xC_skip, evS, evT, evU, hv, effC, reduceCtorEq, ↓reduceIte, Nat.reduceEqDiff, Nat.reduceAdd, Nat.reduceMul, Int.reduceToNat, Int.reduceAdd, Int.reduceSub, Int.reduceMul, Int.reduceNeg, Int.reduceLT, Int.reduceLE, Nat.reduceLT, Nat.reduceLeDiff]
    (repeat (with_reducible refine And.intro (by omega) ?_))
    have e3 : dcells (i + 1) (rowsG Z) = dcells i (rowsG Z) ++ [.d (rowD [0])] := by
      rw [dcells_succ, show rowsG Z i = [rowD (Z.getD i [])] from rfl, zg i hi2 (by omega)]; rfl
    have hz3 : ∀ L L' : Heap, L.get 21 0 = some [fl 0] → L'.get 21 0 = none → Fz L L' (.sl 21 0 0 1 1 1) (.d (rowD [0])) := fun L L' h1 h2 => Fz_row (xs := [0]) h1 rfl rfl h2
    refine ⟨c' - 1, _, by omega, ?_, i + 1, by omega, by omega, by omega, rfl⟩
    rw [e3]
    exact LeT.weak (fun _ h => h) (by simp (maxDischargeDepth := 6) [Fz_rowD, Fz_rowI, Fz_rowsD, FzS_cons, FzS_nil, FzH_cons, FzH_nil, FzF_cons, FzF_nil, FzF_rows, FzA_cons, FzA_nil, FzA_app, FzA_rowV, FzA_dcells, FzA_outC, FzA_data, Fz_d, Fz_nil, Fz_any, Fz_ptr, Fz_sl, Fz_agg, get_cons, get_nil, fam_cons, fam_nil]) (by simp (maxDischargeDepth := 6) [Fz_rowD, Fz_rowI, Fz_rowsD, FzS_cons, FzS_nil, FzH_cons, FzH_nil, FzF_cons, FzF_nil, FzF_rows, FzA_cons, FzA_nil, FzA_app, FzA_rowV, FzA_dcells, FzA_outC, FzA_data, Fz_d, Fz_nil, Fz_any, Fz_ptr, Fz_sl, Fz_agg, get_cons, get_nil, fam_cons, fam_nil, hz3])
  · replace hi := of_decide_eq_false hi
    obtain rfl : i = q + 1 := by omega
    simp -implicitDefEqProofs only [xC_skip, evS, evT, evU, hv, effC, reduceCtorEq, ↓reduceIte, Nat.reduceEqDiff, Nat.reduceAdd, Nat.reduceMul, Int.reduceToNat, Int.reduceAdd, Int.reduceSub, Int.reduceMul, Int.reduceNeg, Int.reduceLT, Int.reduceLE, Nat.reduceLT, Nat.reduceLeDiff]
    first | refine callG_con (l9_within_con step 11 (by decide) (by decide)) rfl ?_ | refine callCG_con (l9_within_con step 11 (by decide) (by decide)) rfl ?_ | refine callSG_con (l9_within_con step 11 (by decide) (by decide)) rfl ?_
    have s1 := Int.emod_nonneg step (by decide : (11 : Int) ≠ 0)
    have s2 := Int.emod_lt_of_pos step (by decide : (0 : Int) < 11)
    obtain ⟨j, hj⟩ : ∃ j : Nat, 20 + step % 11 = j := ⟨(20 + step % 11).toNat, by omega⟩
    have hj2 : 20 ≤ j ∧ j ≤ 30 := by omega
    have wj : IntKind.i64.wrap (20 + step % 11) = (j : Int) := by rw [hj]; exact wrapI (by omega) (by omega)
    have wu : 0 ≤ IntKind.u64.wrap (j : Int) := by rw [wrapU (by omega) (by omega)]; omega
    simp -implicitDefEqProofs only [xC_skip, evS, evT, evU, hv, effC, reduceCtorEq, ↓reduceIte, Nat.reduceEqDiff, Nat.reduceAdd, Nat.reduceMul, Int.reduceToNat, Int.reduceAdd, Int.reduceSub, Int.reduceMul, Int.reduceNeg, Int.reduceLT, Int.reduceLE, Nat.reduceLT, Nat.reduceLeDiff, wj, shl_pow j (by omega)]
    refine ⟨wu, ?_⟩
    have z0e : (Z.getD 0 []).getD 0 0 = a := by rw [← hZ]; rfl
    have z1e : (Z.getD 1 []).getD 0 0 = b := by rw [← hZ]; rfl
    obtain ⟨D, a', a1, a2, hsg, hle⟩ := bd_main (hN j hj2) Z l z0e z1e rfl
    have ok : Sok (bdT k) Z l [one1] (List.replicate (bdT k).n 0) := ⟨bd_tok k, by omega, fun i hi => by
      rw [← hZ]
      rcases i with _ | _ | i
      · rfl
      · rfl
      · omega, by omega, rfl, rfl⟩
    have hsol := corr_SolveG_ok (bdT k) Z l (hW (2 ^ j)) [one1] ((2 ^ j : Nat) : Int) 1 (by show 0 < 1; decide) ok (Scale_pow j (by omega)) _ _ hsg
    have zsn : ∀ L : Heap, L.get 19 0 = some (dcells (q + 1) (rowsG Z)) → Snap L (.sl 19 0 0 (q + 1) 1 (q + 1)) (.d (rowsD Z)) := fun L h => by
      rw [show rowsD Z = .bor (q + 1) (rowsG Z) by rw [← zl]; rfl]
      exact snp_data h (fun _ _ => rfl) (by omega)
    refine callG_sum 100 _ (by simp [Heap.next]) hsol ⟨.aggs ⟨.bare _, snap_ops (bdT k).ops rfl, snap_ints [2] rfl, trivial⟩, zsn _ rfl, .bare _, .bare _, .bare _, snp_row rfl rfl rfl, trivial⟩ ?_
    have zc0 : (dcells (q + 1) (rowsG Z)).getD 0 .any = .d (rowD [a]) := by
      have := dcells_get (esz := 1) (q + 1) (get := rowsG Z) (fun _ _ => rfl) 0 0 (by omega) (by decide)
      rw [show 0 * 1 + 0 = 0 from rfl] at this
      rw [this, ← hZ]; rfl
    have zc1 : (dcells (q + 1) (rowsG Z)).getD 1 .any = .d (rowD [b]) := by
      have := dcells_get (esz := 1) (q + 1) (get := rowsG Z) (fun _ _ => rfl) 1 0 (by omega) (by decide)
      rw [show 1 * 1 + 0 = 1 from rfl] at this
      rw [this, ← hZ]; rfl
    have k2 : decide ((a' : Int) > 2) = false := by simp; omega
    have tn : (bdT k).n = 1 := rfl
    simp -implicitDefEqProofs only [xC_skip, evS, evT, evU, hv, effC, reduceCtorEq, ↓reduceIte, Nat.reduceEqDiff, Nat.reduceAdd, Nat.reduceMul, Int.reduceToNat, Int.reduceAdd, Int.reduceSub, Int.reduceMul, Int.reduceNeg, Int.reduceLT, Int.reduceLE, Nat.reduceLT, Nat.reduceLeDiff, zc1, zc0, k2, tn]
    first | refine callG_con (r8_H_con ((2 ^ j : Nat) : Int)) rfl ?_ | refine callCG_con (r8_H_con ((2 ^ j : Nat) : Int)) rfl ?_ | refine callSG_con (r8_H_con ((2 ^ j : Nat) : Int)) rfl ?_
    have hHe : fop .div (FloatKind.nearest .f64 ((2 ^ j : Nat) : Int)) 4742290407621132288 = hW (2 ^ j) := by
      unfold hW; rw [show FloatKind.nearest .f64 1073741824 = 4742290407621132288 by kernel_rfl]
    simp -implicitDefEqProofs only [xC_skip, evS, evT, evU, hv, effC, reduceCtorEq, ↓reduceIte, Nat.reduceEqDiff, Nat.reduceAdd, Nat.reduceMul, Int.reduceToNat, Int.reduceAdd, Int.reduceSub, Int.reduceMul, Int.reduceNeg, Int.reduceLT, Int.reduceLE, Nat.reduceLT, Nat.reduceLeDiff, zc1, zc0, hHe]
    generalize hw : bdW k (hW (2 ^ j)) (l.getD 0 0) a b = w at hle
    unfold bdW at hw
    (repeat (with_reducible refine And.intro (by omega) ?_))
    simp -implicitDefEqProofs only [xC_skip, evS, evT, evU, hv, effC, reduceCtorEq, ↓reduceIte, Nat.reduceEqDiff, Nat.reduceAdd, Nat.reduceMul, Int.reduceToNat, Int.reduceAdd, Int.reduceSub, Int.reduceMul, Int.reduceNeg, Int.reduceLT, Int.reduceLE, Nat.reduceLT, Nat.reduceLeDiff, hw]
    first | refine callG_con (math_Abs_con (fop .sub D w)) rfl ?_ | refine callCG_con (math_Abs_con (fop .sub D w)) rfl ?_ | refine callSG_con (math_Abs_con (fop .sub D w)) rfl ?_
    simp -implicitDefEqProofs only [xC_skip, evS, evT, evU, hv, effC, reduceCtorEq, ↓reduceIte, Nat.reduceEqDiff, Nat.reduceAdd, Nat.reduceMul, Int.reduceToNat, Int.reduceAdd, Int.reduceSub, Int.reduceMul, Int.reduceNeg, Int.reduceLT, Int.reduceLE, Nat.reduceLT, Nat.reduceLeDiff]
    first | refine callG_con (math_Abs_con w) rfl ?_ | refine callCG_con (math_Abs_con w) rfl ?_ | refine callSG_con (math_Abs_con w) rfl ?_
    have h1v : one1 = 4607182418800017408 := rfl
    rw [h1v] at hle
    simp -implicitDefEqProofs only [xC_skip, evS, evT, evU, hv, effC, reduceCtorEq, ↓reduceIte, Nat.reduceEqDiff, Nat.reduceAdd, Nat.reduceMul, Int.reduceToNat, Int.reduceAdd, Int.reduceSub, Int.reduceMul, Int.reduceNeg, Int.reduceLT, Int.reduceLE, Nat.reduceLT, Nat.reduceLeDiff, hle]
    exact endsT_rett rfl (by decide) (by simp [look])
end Go.Ab
