/- A field that is a number times its variable, by Bdf: numbers. -/
import Derived.Test.YtdckmpaakheppaaOG
namespace Go.Ab
set_option linter.unusedSimpArgs false
set_option linter.unusedVariables false
open Go Go.Proofs
theorem mul_bd {a b A B : Rat} (ha : rabs a ≤ A) (hb : rabs b ≤ B) : rabs (a * b) ≤ A * B := by
  rw [rabs_mul]
  have h0 := rabs_nonneg a
  have h1 := rabs_nonneg b
  have h2 := Rat.mul_le_mul_of_nonneg_right ha h1
  have h3 := Rat.mul_le_mul_of_nonneg_left hb (show 0 ≤ A by grind)
  grind
theorem tol_aux {a : Rat} {n : Int} (ha : a ≤ pw n) (hn : -1000 ≤ n) (k : Int) : a * pw k ≤ pw (n + k) := by
  have := Rat.mul_le_mul_of_nonneg_right ha (Rat.le_of_lt (pw_pos k))
  rwa [← pw_add] at this
theorem Rnd.tol {w : Nat} {v : Rat} (h : Rnd w v) (n : Int) (hn : -1000 ≤ n) (hv : rabs v ≤ pw n) : rabs (val w - v) ≤ pw (n - 52) := by
  have h1 := tol_aux hv hn (-53)
  have h2 := h.err
  have h3 : pw (-1075) ≤ pw (n + -53) := pw_mono (by omega)
  have h4 : pw (n + -53 + 1) = 2 * pw (n + -53) := pw_succ _
  rw [show n + -53 + 1 = n - 52 by omega] at h4
  grind
theorem Quo.tol {w : Nat} {v : Rat} (h : Quo w v) (n : Int) (hn : -1000 ≤ n) (hv : rabs v ≤ pw n) : rabs (val w - v) ≤ pw (n - 51) := by
  have h1 := tol_aux hv hn (-52)
  have h2 := h.err
  have h3 : pw (-1075) ≤ pw (n + -52) := pw_mono (by omega)
  have h4 : pw (n + -52 + 1) = 2 * pw (n + -52) := pw_succ _
  rw [show n + -52 + 1 = n - 51 by omega] at h4
  grind
def ee : Rat := pw (-40)
theorem ee_facts : 0 < ee ∧ ee * 1000000000000 ≤ 1 ∧ pw (-42) * 4 = ee ∧ pw (-46) * 64 = ee ∧ pw (-47) * 128 = ee ∧ pw (-36) = 16 * ee ∧ pw (-52) * 4096 = ee ∧ pw (-50) * 1024 = ee ∧ pw 10 = 1024 ∧ pw 5 = 32 ∧ pw 6 = 64 ∧ pw 16 = 65536 ∧ pw 0 = 1 ∧ (2 : Rat) ^ (1000 : Nat) ≥ 1000000000000 ∧ pw (-10) = ee * 1073741824 := by
  refine ⟨pw_pos _, ?_, ?_, ?_, ?_, ?_, ?_, ?_, ?_, ?_, ?_, ?_, ?_, ?_, ?_⟩ <;> decide +kernel
theorem big_100 : (100000 : Rat) ≤ big := by
  have h1 : (100000 : Rat) ≤ pw 20 := by decide +kernel
  have h2 : pw 20 ≤ big := pw_mono (by decide)
  grind
theorem add_tol {x y : Nat} (hx : fin x) (hy : fin y) (n : Int) (hn : -1000 ≤ n ∧ n ≤ 16) (hv : rabs (val x + val y) ≤ pw n) : fin (fop .add x y) ∧ rabs (val (fop .add x y) - (val x + val y)) ≤ pw (n - 52) := by
  have h1 := pw_mono hn.2
  have h2 : pw 16 = 65536 := by decide +kernel
  have R := fop_add hx hy (by have := big_100; grind)
  exact ⟨R.fin, R.tol n hn.1 hv⟩
theorem sub_tol {x y : Nat} (hx : fin x) (hy : fin y) (n : Int) (hn : -1000 ≤ n ∧ n ≤ 16) (hv : rabs (val x - val y) ≤ pw n) : fin (fop .sub x y) ∧ rabs (val (fop .sub x y) - (val x - val y)) ≤ pw (n - 52) := by
  have h1 := pw_mono hn.2
  have h2 : pw 16 = 65536 := by decide +kernel
  have R := fop_sub hx hy (by have := big_100; grind)
  exact ⟨R.fin, R.tol n hn.1 hv⟩
theorem mul_tol {x y : Nat} (hx : fin x) (hy : fin y) (n : Int) (hn : -1000 ≤ n ∧ n ≤ 16) (hv : rabs (val x * val y) ≤ pw n) : fin (fop .mul x y) ∧ rabs (val (fop .mul x y) - (val x * val y)) ≤ pw (n - 52) := by
  have h1 := pw_mono hn.2
  have h2 : pw 16 = 65536 := by decide +kernel
  have R := fop_mul hx hy (by have := big_100; grind)
  exact ⟨R.fin, R.tol n hn.1 hv⟩
theorem div_tol {x y : Nat} (hx : fin x) (hy : fin y) (h0 : val y ≠ 0) {q : Rat} (hq : q * val y = val x) (n : Int) (hn : -1000 ≤ n ∧ n ≤ 15) (hv : rabs q ≤ pw n) : fin (fop .div x y) ∧ rabs (val (fop .div x y) - q) ≤ pw (n - 51) := by
  have h1 := pw_mono hn.2
  have h2 : pw 15 = 32768 := by decide +kernel
  have R := fop_div hx hy h0 hq (by have := big_100; grind)
  exact ⟨R.fin, R.tol n hn.1 hv⟩
/-- A quotient by what is near M is near. -/
theorem quo_core {G Mv M q : Rat} (hq : q * Mv = G) (hM : rabs (Mv - M) ≤ ee) (h1 : 1 ≤ M) (h2 : M ≤ 1001) (hG : rabs G ≤ 22 * M) : rabs q ≤ 23 ∧ ∀ x, rabs (x - q) ≤ pw (-46) → rabs (x * M - G) ≤ 39 * ee := by
  obtain ⟨e0, e1, _, e46, _⟩ := ee_facts
  have k1 := le_rabs (Mv - M)
  have hMv : 0 < Mv := by grind
  have hq2 : rabs q * Mv = rabs G := by rw [← hq, rabs_mul, rabs_of_nonneg (Rat.le_of_lt hMv)]
  have q23 : rabs q ≤ 23 := by
    by_cases h : rabs q ≤ 23
    · exact h
    · have := Rat.mul_lt_mul_of_pos_right (show 23 < rabs q by grind) hMv
      grind
  refine ⟨q23, fun x hx => ?_⟩
  have e : x * M - G = (x - q) * M + q * (M - Mv) := by rw [← hq]; grind
  rw [e]
  have b1 := mul_bd hx (show rabs M ≤ 1001 by rw [rabs_of_nonneg (by grind)]; exact h2)
  have b2 := mul_bd q23 (show rabs (M - Mv) ≤ ee by rw [show M - Mv = -(Mv - M) by grind, rabs_neg]; exact hM)
  have := rabs_add ((x - q) * M) (q * (M - Mv))
  grind
theorem val_exact {x w : Nat} {v : Rat} (hx : fin x) (h : Rnd w v) (e : v = val x) : fin w ∧ val w = val x := by
  obtain ⟨k, i, h1, h2, h3⟩ := fin_ix hx
  exact ⟨h.fin, by rw [h.exact k i h1 h2 (by rw [e, h3]), e]⟩
theorem add_zero_val {x : Nat} (hx : fin x) (hb : rabs (val x) ≤ 100) : fin (fop .add 0 x) ∧ val (fop .add 0 x) = val x :=
  val_exact hx (fop_add fin_zero hx (by rw [val_zero]; have := big_100; have := rabs_add 0 (val x); rw [show (0 : Rat) + val x = val x by grind]; grind)) (by rw [val_zero]; grind)
/-- The first try's way, and the answer's: a quotient by 1 less P times L. -/
theorem bd_quo {g M : Nat} {G Ms : Rat} (hg : fin g) (hG : val g = G) (fM : fin M) (hM : rabs (val M - Ms) ≤ ee) (h1 : 1 ≤ Ms) (h2 : Ms ≤ 1001) (hb : rabs G ≤ 22 * Ms) :
    fin (fop .div g M) ∧ rabs (val (fop .div g M)) ≤ 24 ∧ rabs (val (fop .div g M) * Ms - G) ≤ 39 * ee := by
  obtain ⟨e0, e1, _, e46, _, _, _, _, _, p5, _⟩ := ee_facts
  have k1 := le_rabs (val M - Ms)
  have hne : val M ≠ 0 := by grind
  obtain ⟨q, hq⟩ : ∃ q : Rat, q * val M = G := ⟨G / val M, Rat.div_mul_cancel hne⟩
  obtain ⟨q23, hx⟩ := quo_core hq hM h1 h2 hb
  obtain ⟨f, e⟩ := div_tol hg fM hne (hq.trans hG.symm) 5 (by decide) (by rw [p5]; grind)
  rw [show (5 : Int) - 51 = -46 from rfl] at e
  refine ⟨f, ?_, hx _ e⟩
  have a := le_rabs (val (fop .div g M) - q)
  have b := le_rabs q
  exact rabs_le (by grind) (by grind)
theorem bd_M {hl k' one l0 h : Nat} {H K L : Rat} (fo : fin one) (vo : val one = 1) (fh : fin h) (vh : val h = H) (fl0 : fin l0) (vl : val l0 = L) (fk : fin k') (vk : val k' = K) (h0 : 0 ≤ H) (h1 : H ≤ 1) (k0 : K ≤ 0) (k1 : -999 ≤ K) (l0' : 0 ≤ L) (l1 : L ≤ 1) (e : hl = fop .mul h l0) :
    fin (fop .sub one (fop .mul hl k')) ∧ rabs (val (fop .sub one (fop .mul hl k')) - (1 - H * K * L)) ≤ ee := by
  obtain ⟨e0, e1, e42, _, _, _, e52, _, p10, _, _, _, p0, _⟩ := ee_facts
  have bHL : rabs (H * L) ≤ 1 * 1 := mul_bd (rabs_le (by grind) (by grind)) (rabs_le (by grind) (by grind))
  obtain ⟨f1, t1⟩ := mul_tol fh fl0 0 (by decide) (by rw [vh, vl, p0]; grind)
  rw [← e, vh, vl, show (0 : Int) - 52 = -52 from rfl] at t1
  rw [← e] at f1
  have a1 := le_rabs (val hl - H * L)
  have a2 := le_rabs (H * L)
  have bK : rabs K ≤ 999 := rabs_le (by grind) (by grind)
  have bhl : rabs (val hl) ≤ 1001 / 1000 := rabs_le (by grind) (by grind)
  have b2 := mul_bd bhl bK
  obtain ⟨f2, t2⟩ := mul_tol f1 fk 10 (by decide) (by rw [vk, p10]; grind)
  rw [vk, show (10 : Int) - 52 = -42 from rfl] at t2
  have a3 := le_rabs (val (fop .mul hl k') - val hl * K)
  have a4 := le_rabs (val hl * K)
  have b3 := mul_bd t1 bK
  rw [show (val hl - H * L) * K = val hl * K - H * K * L by grind] at b3
  have a5 := le_rabs (val hl * K - H * K * L)
  obtain ⟨f3, t3⟩ := sub_tol fo f2 10 (by decide) (by rw [vo, p10]; exact rabs_le (by grind) (by grind))
  rw [vo, show (10 : Int) - 52 = -42 from rfl] at t3
  have a6 := le_rabs (val (fop .sub one (fop .mul hl k')) - (1 - val (fop .mul hl k')))
  exact ⟨f3, rabs_le (by grind) (by grind)⟩
theorem bd_V {hk one l0 : Nat} {P L : Rat} (fo : fin one) (vo : val one = 1) (fh : fin hk) (vh : val hk = P) (fl0 : fin l0) (vl : val l0 = L) (k0 : P ≤ 0) (k1 : -999 ≤ P) (l0' : 0 ≤ L) (l1 : L ≤ 1) :
    fin (fop .sub one (fop .mul hk l0)) ∧ rabs (val (fop .sub one (fop .mul hk l0)) - (1 - P * L)) ≤ ee := by
  obtain ⟨e0, e1, e42, _, _, _, e52, _, p10, _, _, _, p0, _⟩ := ee_facts
  have b2 := mul_bd (show rabs P ≤ 999 from rabs_le (by grind) (by grind)) (show rabs L ≤ 1 from rabs_le (by grind) (by grind))
  obtain ⟨f2, t2⟩ := mul_tol fh fl0 10 (by decide) (by rw [vh, vl, p10]; grind)
  rw [vh, vl, show (10 : Int) - 52 = -42 from rfl] at t2
  have a3 := le_rabs (val (fop .mul hk l0) - P * L)
  have a4 := le_rabs (P * L)
  obtain ⟨f3, t3⟩ := sub_tol fo f2 10 (by decide) (by rw [vo, p10]; exact rabs_le (by grind) (by grind))
  rw [vo, show (10 : Int) - 52 = -42 from rfl] at t3
  have a6 := le_rabs (val (fop .sub one (fop .mul hk l0)) - (1 - val (fop .mul hk l0)))
  exact ⟨f3, rabs_le (by grind) (by grind)⟩
/-- What is left over at the second try. -/
theorem bd_res {x l0 d k h z1 : Nat} {Y L D K H B : Rat} (fx : fin x) (vx : val x = Y) (fl0 : fin l0) (vl : val l0 = L) (fd : fin d) (vd : val d = D) (fk : fin k) (vk : val k = K) (fh : fin h) (vh : val h = H) (fz : fin z1) (vz : val z1 = B)
    (bY : rabs Y ≤ 10) (bL : rabs L ≤ 1) (bD : rabs D ≤ 24) (bK : rabs K ≤ 999) (bH : rabs H ≤ 1) (bB : rabs B ≤ 2) :
    fin (fop .sub (fop .sub (fop .mul h (fop .mul k (fop .add x (fop .mul l0 d)))) z1) d) ∧ rabs (val (fop .sub (fop .sub (fop .mul h (fop .mul k (fop .add x (fop .mul l0 d)))) z1) d) - (H * K * Y - B - D * (1 - H * K * L))) ≤ 88 * ee := by
  obtain ⟨e0, e1, _, e46, e47, e36, _, _, _, p5, p6, p16, _, _⟩ := ee_facts
  have b1 := mul_bd bL bD
  obtain ⟨f1, t1⟩ := mul_tol fl0 fd 5 (by decide) (by rw [vl, vd, p5]; grind)
  rw [vl, vd, show (5 : Int) - 52 = -47 from rfl] at t1
  generalize fop .mul l0 d = m1 at f1 t1 ⊢
  have a1 := le_rabs (val m1 - L * D)
  have a2 := le_rabs (L * D)
  have a3 := le_rabs Y
  obtain ⟨f2, t2⟩ := add_tol fx f1 6 (by decide) (by rw [vx, p6]; exact rabs_le (by grind) (by grind))
  rw [vx, show (6 : Int) - 52 = -46 from rfl] at t2
  generalize fop .add x m1 = y1 at f2 t2 ⊢
  have a4 := le_rabs (val y1 - (Y + val m1))
  have by1 : rabs (val y1) ≤ 36 := rabs_le (by grind) (by grind)
  have ey : rabs (val y1 - (Y + L * D)) ≤ 3 * pw (-47) := rabs_le (by grind) (by grind)
  clear a1 a2 a4 t1 t2 f1 b1
  have b2 := mul_bd bK by1
  obtain ⟨f3, t3⟩ := mul_tol fk f2 16 (by decide) (by rw [vk, p16]; grind)
  rw [vk, show (16 : Int) - 52 = -36 from rfl] at t3
  generalize fop .mul k y1 = g1 at f3 t3 ⊢
  have b3 := mul_bd bK ey
  rw [show K * (val y1 - (Y + L * D)) = K * val y1 - K * (Y + L * D) by grind] at b3
  have a5 := le_rabs (val g1 - K * val y1)
  have a6 := le_rabs (K * val y1)
  have a7 := le_rabs (K * val y1 - K * (Y + L * D))
  have bg : rabs (val g1) ≤ 35965 := rabs_le (by grind) (by grind)
  have eg : rabs (val g1 - K * (Y + L * D)) ≤ 40 * ee := rabs_le (by grind) (by grind)
  clear a5 a6 a7 t3 b3 b2 ey by1 f2
  have b4 := mul_bd bH bg
  obtain ⟨f4, t4⟩ := mul_tol fh f3 16 (by decide) (by rw [vh, p16]; grind)
  rw [vh, show (16 : Int) - 52 = -36 from rfl] at t4
  generalize fop .mul h g1 = u1 at f4 t4 ⊢
  have b5 := mul_bd bH eg
  rw [show H * (val g1 - K * (Y + L * D)) = H * val g1 - H * (K * (Y + L * D)) by grind] at b5
  have a8 := le_rabs (val u1 - H * val g1)
  have a9 := le_rabs (H * val g1)
  have a10 := le_rabs (H * val g1 - H * (K * (Y + L * D)))
  have a11 := le_rabs B
  obtain ⟨f5, t5⟩ := sub_tol f4 fz 16 (by decide) (by rw [vz, p16]; exact rabs_le (by grind) (by grind))
  rw [vz, show (16 : Int) - 52 = -36 from rfl] at t5
  generalize fop .sub u1 z1 = v1 at f5 t5 ⊢
  have a12 := le_rabs (val v1 - (val u1 - B))
  have a13 := le_rabs D
  obtain ⟨f6, t6⟩ := sub_tol f5 fd 16 (by decide) (by rw [vd, p16]; exact rabs_le (by grind) (by grind))
  rw [vd, show (16 : Int) - 52 = -36 from rfl] at t6
  generalize fop .sub v1 d = r1 at f6 t6 ⊢
  have a14 := le_rabs (val r1 - (val v1 - D))
  have e9 : H * (K * (Y + L * D)) = H * K * Y + D * (H * K * L) := by grind
  rw [e9] at a10 b5
  have e10 : D * (1 - H * K * L) = D - D * (H * K * L) := by grind
  rw [e10]
  generalize D * (H * K * L) = W1 at a10 b5
  generalize H * K * Y = W2 at a10 b5
  refine ⟨f6, rabs_le ?_ ?_⟩ <;> grind
end Go.Ab
