/- CorrBdf: a field that is a number times its variable, by Bdf. -/
import Derived.Test.YtdckmpaakheppaaOH
namespace Go.Ab
set_option linter.unusedSimpArgs false
set_option linter.unusedVariables false
open Go Go.Proofs
def bdT (k : Nat) : Tp := ⟨1, [⟨1, 0, 0, 0⟩, ⟨0, 0, 0, k⟩, ⟨4, 1, 0, 0⟩], [2]⟩
theorem bd_lt3 (P : Nat → Prop) (h0 : P 0) (h1 : P 1) (h2 : P 2) : ∀ i, i < 3 → P i := fun i hi => by
  rcases i with _ | _ | _ | i
  · exact h0
  · exact h1
  · exact h2
  · omega
theorem bd_tok (k : Nat) : Tok (bdT k) := ⟨by show 1 < 2 ^ 20; decide, by show 3 < 2 ^ 40; decide, bd_lt3 _ (.inr (.inl ⟨rfl, by show (0 : Int) ≤ 0; decide, by show (0 : Int) < 1; decide⟩)) (.inl rfl) (.inr (.inr ⟨.inr (.inr (.inl rfl)), ⟨by show (0 : Int) ≤ 1; decide, by show (1 : Int) < 2; decide⟩, by show (0 : Int) ≤ 0; decide, by show (0 : Int) < 2; decide⟩)), rfl, fun i hi => by
  obtain rfl : i = 0 := by simpa [bdT] using hi
  show 0 ≤ (2 : Int) ∧ (2 : Int) < 3; decide⟩
section
variable (k h : Nat) (Z : List (List Nat)) (l : List Nat)
theorem bd_g (d : Nat) : gS (bdT k) Z l h [d] = [fop .sub (fop .mul h (fop .mul k (fop .add ((Z.getD 0 []).getD 0 0) (fop .mul (l.getD 0 0) d)))) ((Z.getD 1 []).getD 0 0)] := rfl
theorem bd_mat : matT (bdT k) Z l h = [[fop .sub one1 (fop .mul (fop .mul h (l.getD 0 0)) (fop .add (fop .mul 0 ((Z.getD 0 []).getD 0 0)) (fop .mul k one1)))]] := rfl
end
theorem part_one {M : Nat} (h0 : fcmp .eq M 0 = false) (hf : finite M = true) : partP [[M]] 1 1 = some ([[M]], [0]) := by
  show (some ([[M]], [((0 : Nat) : Int)])).bind (stepP 1 0) = _
  rw [Option.bind_some]
  show (if fcmp .eq M 0 = true ∨ finite M = false then none else some ([[M]], [0])) = _
  rw [if_neg (by rw [h0, hf]; simp)]
theorem bd_solve (M u : Nat) : solveP [[M]] [0] [u] 1 = [fop .div u M] := rfl
/-- What the statement's numbers are. -/
structure Bdn (k h l0 x z1 : Nat) (Kn Hn Yn Bn : Int) : Prop where
  ik : Ix 0 k Kn
  k0 : -999 ≤ Kn ∧ Kn ≤ 0
  ih : Ix (-30) h Hn
  h0 : 0 ≤ Hn ∧ Hn ≤ 1073741824
  ix : Ix 0 x Yn
  y0 : -10 ≤ Yn ∧ Yn ≤ 10
  iz : Ix (-3) z1 Bn
  b0 : -10 ≤ Bn ∧ Bn ≤ 10
  fl : fin l0
  l1 : 47 ≤ 100 * val l0 ∧ val l0 ≤ 1
section
variable {k h l0 x z1 : Nat} {Kn Hn Yn Bn : Int} (N : Bdn k h l0 x z1 Kn Hn Yn Bn)
include N
theorem bdn_mul (a : Int) (ha : -9990 ≤ a ∧ a ≤ 9990) : -10726681313280 ≤ Hn * a ∧ Hn * a ≤ 10726681313280 := by
  have := Int.mul_le_mul_of_nonneg_left ha.1 N.h0.1
  have := Int.mul_le_mul_of_nonneg_left ha.2 N.h0.1
  have := N.h0
  omega
theorem bdn_ky : -9990 ≤ Kn * Yn ∧ Kn * Yn ≤ 9990 := by
  have h1 : (Kn * Yn).natAbs ≤ 999 * 10 := by
    rw [Int.natAbs_mul]
    exact Nat.mul_le_mul (by have := N.k0; omega) (by have := N.y0; omega)
  omega
/-- What is asked for at the first try, by any of the ways. -/
theorem bdn_g : Ix (-30) (fop .sub (fop .mul h (fop .mul k (fop .add x (fop .mul l0 0)))) z1) (Hn * (Kn * Yn) - Bn * 2 ^ 27) := by
  obtain ⟨ik, k0, ih, h0, ix, y0, iz, b0, fl, l1⟩ := N
  have hk := bdn_ky ⟨ik, k0, ih, h0, ix, y0, iz, b0, fl, l1⟩
  have hm := bdn_mul ⟨ik, k0, ih, h0, ix, y0, iz, b0, fl, l1⟩ (Kn * Yn) hk
  have z : Ix 0 (fop .mul l0 0) 0 := by
    have R := fop_mul fl fin_zero (by rw [val_zero, Rat.mul_zero, rabs_of_nonneg (by decide)]; have := big_100; grind)
    have e := R.exact 0 0 (by decide) (by decide) (by rw [val_zero]; simp)
    exact ⟨R.fin, by rw [e, val_zero]; simp⟩
  have a1 := (Ix.add ix z (by omega) (by decide) (by decide)).cast (show Yn + 0 = Yn by omega)
  have a2 := Ix.mul ik a1 (by omega) (by decide) (by decide)
  have a3 := Ix.mul ih a2 (by omega) (by decide) (by decide)
  exact Ix.sub a3 (iz.fine 27) (by omega) (by decide) (by decide)
theorem bdn_w : Ix (-30) (fop .mul h k) (Hn * Kn) ∧ Ix (-30) (fop .sub (fop .mul (fop .mul h k) x) z1) (Hn * (Kn * Yn) - Bn * 2 ^ 27) := by
  obtain ⟨ik, k0, ih, h0, ix, y0, iz, b0, fl, l1⟩ := N
  have hk := bdn_ky ⟨ik, k0, ih, h0, ix, y0, iz, b0, fl, l1⟩
  have hm := bdn_mul ⟨ik, k0, ih, h0, ix, y0, iz, b0, fl, l1⟩ (Kn * Yn) hk
  have hm2 := bdn_mul ⟨ik, k0, ih, h0, ix, y0, iz, b0, fl, l1⟩ Kn (by omega)
  have a1 := Ix.mul ih ik (by omega) (by decide) (by decide)
  have a2 := (Ix.mul a1 ix (by rw [Int.mul_assoc]; omega) (by decide) (by decide)).cast (Int.mul_assoc Hn Kn Yn)
  exact ⟨a1, Ix.sub a2 (iz.fine 27) (by omega) (by decide) (by decide)⟩
theorem bdn_J : Ix 0 (fop .add (fop .mul 0 x) (fop .mul k one1)) Kn := by
  obtain ⟨ik, k0, ih, h0, ix, y0, iz, b0, fl, l1⟩ := N
  have a1 := (Ix.mul (Ix.zero 0) ix (by omega) (by decide) (by decide)).cast (show 0 * Yn = 0 by omega)
  have a2 := (Ix.mul ik one_ix (by omega) (by decide) (by decide)).cast (show Kn * 1 = Kn by omega)
  exact (Ix.add a1 a2 (by omega) (by decide) (by decide)).cast (by omega)
/-- The same in numbers. -/
theorem bdn_num : ∃ H K Y B L : Rat, val h = H ∧ val k = K ∧ val x = Y ∧ val z1 = B ∧ val l0 = L ∧ 0 ≤ H ∧ H ≤ 1 ∧ -999 ≤ K ∧ K ≤ 0 ∧ -10 ≤ Y ∧ Y ≤ 10 ∧ -2 ≤ B ∧ B ≤ 2 ∧ 47 ≤ 100 * L ∧ L ≤ 1 ∧
    val (fop .add (fop .mul 0 x) (fop .mul k one1)) = K ∧ val (fop .mul h k) = H * K ∧ val (fop .sub (fop .mul h (fop .mul k (fop .add x (fop .mul l0 0)))) z1) = H * K * Y - B ∧ val (fop .sub (fop .mul (fop .mul h k) x) z1) = H * K * Y - B := by
  have g1 := bdn_g N
  obtain ⟨g2, g3⟩ := bdn_w N
  have g4 := bdn_J N
  obtain ⟨ik, k0, ih, h0, ix, y0, iz, b0, fl, l1⟩ := N
  have p30 : pw (-30) = 1 / 1073741824 := by decide +kernel
  have p3 : pw (-3) = 1 / 8 := by decide +kernel
  have p27 : ((2 : Rat) ^ (27 : Nat)) = 134217728 := by decide +kernel
  have i1 : (-999 : Rat) ≤ (Kn : Rat) := by
    have h : ((-999 : Int) : Rat) ≤ (Kn : Rat) := Rat.intCast_le_intCast.2 k0.1
    rwa [show ((-999 : Int) : Rat) = -999 by decide +kernel] at h
  have i2 : (Kn : Rat) ≤ 0 := by
    have h : (Kn : Rat) ≤ ((0 : Int) : Rat) := Rat.intCast_le_intCast.2 k0.2
    rwa [show ((0 : Int) : Rat) = 0 by decide +kernel] at h
  have i3 : (0 : Rat) ≤ (Hn : Rat) := by
    have h : ((0 : Int) : Rat) ≤ (Hn : Rat) := Rat.intCast_le_intCast.2 h0.1
    rwa [show ((0 : Int) : Rat) = 0 by decide +kernel] at h
  have i4 : (Hn : Rat) ≤ 1073741824 := by
    have h : (Hn : Rat) ≤ ((1073741824 : Int) : Rat) := Rat.intCast_le_intCast.2 h0.2
    rwa [show ((1073741824 : Int) : Rat) = 1073741824 by decide +kernel] at h
  have i5 : (-10 : Rat) ≤ (Yn : Rat) := by
    have h : ((-10 : Int) : Rat) ≤ (Yn : Rat) := Rat.intCast_le_intCast.2 y0.1
    rwa [show ((-10 : Int) : Rat) = -10 by decide +kernel] at h
  have i6 : (Yn : Rat) ≤ 10 := by
    have h : (Yn : Rat) ≤ ((10 : Int) : Rat) := Rat.intCast_le_intCast.2 y0.2
    rwa [show ((10 : Int) : Rat) = 10 by decide +kernel] at h
  have i7 : (-10 : Rat) ≤ (Bn : Rat) := by
    have h : ((-10 : Int) : Rat) ≤ (Bn : Rat) := Rat.intCast_le_intCast.2 b0.1
    rwa [show ((-10 : Int) : Rat) = -10 by decide +kernel] at h
  have i8 : (Bn : Rat) ≤ 10 := by
    have h : (Bn : Rat) ≤ ((10 : Int) : Rat) := Rat.intCast_le_intCast.2 b0.2
    rwa [show ((10 : Int) : Rat) = 10 by decide +kernel] at h
  have vk := ik.val
  have vh := ih.val
  have vx := ix.val
  have vz := iz.val
  have w1 := g1.val
  have w2 := g2.val
  have w3 := g3.val
  have w4 := g4.val
  rw [pw_zero] at vk vx w4
  rw [p30] at vh w1 w2 w3
  rw [p3] at vz
  have c1 : (((Hn * (Kn * Yn) - Bn * 2 ^ 27 : Int)) : Rat) = (Hn : Rat) * ((Kn : Rat) * (Yn : Rat)) - (Bn : Rat) * 134217728 := by
    rw [Rat.intCast_sub, Rat.intCast_mul, Rat.intCast_mul, Rat.intCast_mul]; rfl
  have c2 : ((Hn * Kn : Int) : Rat) = (Hn : Rat) * (Kn : Rat) := Rat.intCast_mul _ _
  rw [c1] at w1 w3
  rw [c2] at w2
  generalize (Kn : Rat) = K at *
  generalize (Hn : Rat) = H at *
  generalize (Yn : Rat) = Y at *
  generalize (Bn : Rat) = B at *
  refine ⟨H * (1 / 1073741824), K, Y, B * (1 / 8), val l0, vh, by grind, by grind, vz, rfl, by grind, by grind, i1, i2, i5, i6, by grind, by grind, l1.1, l1.2, by grind, by grind, by grind, by grind⟩
end
theorem sub_zero_val {x : Nat} (hx : fin x) (hb : rabs (val x) ≤ 100000) : fin (fop .sub x 0) ∧ val (fop .sub x 0) = val x :=
  val_exact hx (fop_sub hx fin_zero (by rw [val_zero, show val x - (0 : Rat) = val x by grind]; have := big_100; grind)) (by rw [val_zero]; grind)
/-- Bounds of what M stands for. -/
theorem bd_bounds {H K Y B L : Rat} (h0 : 0 ≤ H) (h1 : H ≤ 1) (k1 : -999 ≤ K) (k0 : K ≤ 0) (y1 : -10 ≤ Y) (y2 : Y ≤ 10) (b1 : -2 ≤ B) (b2 : B ≤ 2) (l1 : 47 ≤ 100 * L) (l2 : L ≤ 1) :
    -999 ≤ H * K ∧ H * K ≤ 0 ∧ 1 ≤ 1 - H * K * L ∧ 1 - H * K * L ≤ 1001 ∧ rabs (H * K * Y - B) ≤ 22 * (1 - H * K * L) ∧ rabs (H * K * Y - B) ≤ 10000 := by
  have a1 := Rat.mul_nonneg h0 (show 0 ≤ -K by grind)
  have a2 := Rat.mul_nonneg h0 (show 0 ≤ K + 999 by grind)
  have p0 : H * K ≤ 0 := by grind
  have p1 : -999 ≤ H * K := by grind
  generalize H * K = P at *
  have a3 := Rat.mul_nonneg (show 0 ≤ -P by grind) (show 0 ≤ 100 * L - 47 by grind)
  have a4 := Rat.mul_nonneg (show 0 ≤ -P by grind) (show 0 ≤ 1 - L by grind)
  have a5 := Rat.mul_nonneg (show 0 ≤ -P by grind) (show 0 ≤ 10 - Y by grind)
  have a6 := Rat.mul_nonneg (show 0 ≤ -P by grind) (show 0 ≤ 10 + Y by grind)
  refine ⟨p1, p0, by grind, by grind, rabs_le (by grind) (by grind), rabs_le (by grind) (by grind)⟩
theorem near_le {D W M G : Rat} {c d : Rat} (h1 : 1 ≤ M) (hD : rabs (D * M - G) ≤ c) (hW : rabs (W * M - G) ≤ d) : rabs (D - W) ≤ c + d := by
  have a1 := le_rabs (D * M - G)
  have a2 := le_rabs (W * M - G)
  have h2 : rabs ((D - W) * M) ≤ c + d := rabs_le (by grind) (by grind)
  rw [rabs_mul, rabs_of_nonneg (show 0 ≤ M by grind)] at h2
  have h3 := Rat.mul_le_mul_of_nonneg_left h1 (rabs_nonneg (D - W))
  grind
theorem c9_val : fin 4472406533629990549 ∧ 0 ≤ val 4472406533629990549 ∧ 1 ≤ 1001000000 * val 4472406533629990549 ∧ 999000000 * val 4472406533629990549 ≤ 1 := by
  have h : Ieee.double.read 4472406533629990549 = .number false 4835703278458517 (-82) := by decide +kernel
  refine ⟨⟨_, _, _, h⟩, ?_, ?_, ?_⟩ <;> rw [val_eq h] <;> decide +kernel
theorem bd_close {D W : Nat} (fD : fin D) (fW : fin W) (bW : rabs (val W) ≤ 24) (h : rabs (val D - val W) ≤ 300 * ee) :
    fcmp .le (fabs (fop .sub D W)) (fop .mul 4472406533629990549 (fop .add one1 (fabs W))) = true := by
  obtain ⟨e0, e1, _, e46, _, _, e52, _, _, p5, p6, _, p0, _⟩ := ee_facts
  obtain ⟨fc, c0, c1, c2⟩ := c9_val
  have vo : val one1 = 1 := by rw [one_ix.val, pw_zero]; decide +kernel
  obtain ⟨f1, t1⟩ := sub_tol fD fW 0 (by decide) (by rw [p0]; grind)
  rw [show (0 : Int) - 52 = -52 from rfl] at t1
  obtain ⟨f2, v2⟩ := val_fabs f1
  obtain ⟨f3, v3⟩ := val_fabs fW
  have w0 := rabs_nonneg (val W)
  rw [← v3] at bW w0
  obtain ⟨f4, t4⟩ := add_tol one_ix.fin f3 6 (by decide) (by rw [vo, p6]; exact rabs_le (by grind) (by grind))
  rw [vo, show (6 : Int) - 52 = -46 from rfl] at t4
  have a1 := le_rabs (val (fop .sub D W) - (val D - val W))
  have a2 := le_rabs (val D - val W)
  have a3 := le_rabs (val (fop .add one1 (fabs W)) - (1 + val (fabs W)))
  generalize fop .add one1 (fabs W) = s at *
  have s1 : 99 ≤ 100 * val s := by grind
  have s2 : val s ≤ 26 := by grind
  have m0 := Rat.mul_le_mul_of_nonneg_left s1 c0
  have m1 := Rat.mul_le_mul_of_nonneg_left s2 c0
  obtain ⟨f5, t5⟩ := mul_tol fc f4 0 (by decide) (by rw [p0]; exact rabs_le (by grind) (by grind))
  rw [show (0 : Int) - 52 = -52 from rfl] at t5
  have a4 := le_rabs (val (fop .mul 4472406533629990549 s) - val 4472406533629990549 * val s)
  refine (fcmp_le f2 f5).2 ?_
  rw [v2]
  exact rabs_le (by grind) (by grind)
theorem bd_size {x : Nat} (hx : fin x) (hb : rabs (val x) ≤ 200 * ee) : fcmp .le (szP [x] [one1]) 4562146422526312448 = true := by
  obtain ⟨e0, e1, _, _, _, _, _, _, _, _, _, _, _, _, e10⟩ := ee_facts
  have vo : val one1 = 1 := by rw [one_ix.val, pw_zero]; decide +kernel
  obtain ⟨f1, v1⟩ := val_fabs hx
  have e20 : pw (-20) = ee * 1048576 := by decide +kernel
  have e71 : pw (-71) ≤ ee := pw_mono (by decide)
  obtain ⟨f2, t2⟩ := div_tol f1 one_ix.fin (by rw [vo]; decide) (q := rabs (val x)) (by rw [vo, v1]; grind) (-20) (by decide) (by rw [rabs_of_nonneg (rabs_nonneg _), e20]; grind)
  rw [show (-20 : Int) - 51 = -71 from rfl] at t2
  have a1 := le_rabs (val (fop .div (fabs x) one1) - rabs (val x))
  rw [sz_one, fin_not_nan f2, if_neg (by decide)]
  have h : Ieee.double.read 4562146422526312448 = .number false 4503599627370496 (-62) := by decide +kernel
  have hv : val 4562146422526312448 = pw (-10) := by rw [val_eq h]; decide +kernel
  refine (fcmp_le f2 ⟨_, _, _, h⟩).2 ?_
  rw [hv, e10]
  grind
end Go.Ab
