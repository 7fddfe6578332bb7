/- CorrTight: with greater weights a step is fine after as many tries, or fewer. -/
import Derived.Test.YtdckmpaakheppaaTA
import Derived.Test.YtdckmpaakheppaaJH
import Derived.Test.YtdckmpaakheppaaCD
import Derived.Test.YtdckmpaakheppaaOB
import Derived.Test.YtdckmpaakheppaaCU
import Derived.Test.YtdckmpaakheppaaMA
import Derived.Test.YtdckmpaakheppaaMC
import Derived.Test.YtdckmpaakheppaaGD
namespace Go.Ab
set_option linter.unusedSimpArgs false
set_option linter.unusedVariables false
open Go Go.Proofs
def A_l9_CorrTight_L1 : CA := (.seq (.seq (.reg [⟨0, (some 48), none, [], [], (.h (.mov (.t 18)))⟩, ⟨1, (some 49), none, [], [], (.h (.mov (.t 16)))⟩, ⟨2, (some 50), none, [], [], (.h (.mov (.t 17)))⟩, ⟨3, (some 51), none, [], [], (.h (.idx (.t 49) (.t 50) 1))⟩, ⟨4, (some 52), none, [], [], (.load (.t 51) 1 false)⟩, ⟨5, (some 53), none, [], [], (.h (.len (.t 52)))⟩, ⟨6, (some 54), none, [], [], (.h (.ibin .lss (.t 48) (.t 53)))⟩] [4, 13, 14, 15, 16, 17, 18, 54]) (.cond (.t 54) .skip (.exit 2))) (.seq (.block 3 (.reg [⟨0, (some 57), none, [], [], (.h (.mov (.t 16)))⟩, ⟨1, (some 58), none, [], [], (.h (.mov (.t 17)))⟩, ⟨2, (some 59), none, [], [], (.h (.idx (.t 57) (.t 58) 1))⟩, ⟨3, (some 60), none, [], [], (.load (.t 59) 1 false)⟩, ⟨4, (some 61), none, [], [], (.h (.mov (.t 18)))⟩, ⟨5, (some 62), none, [], [], (.h (.mov (.t 16)))⟩, ⟨6, (some 63), none, [], [], (.h (.mov (.t 17)))⟩, ⟨7, (some 64), none, [], [], (.h (.idx (.t 62) (.t 63) 1))⟩, ⟨8, (some 65), none, [], [], (.load (.t 64) 1 false)⟩, ⟨9, (some 66), none, [], [], (.h (.mov (.t 18)))⟩, ⟨10, (some 67), none, [], [], (.h (.idx (.t 65) (.t 66) 1))⟩, ⟨11, (some 68), none, [], [], (.load (.t 67) 1 false)⟩, ⟨12, (some 69), none, [], [], (.h (.mov (.t 17)))⟩, ⟨13, (some 70), none, [], [], (.h (.ibin .mul (.k (.d (.int .i64 2))) (.t 69)))⟩, ⟨14, (some 71), none, [], [], (.h (.icv .u64 (.t 70)))⟩, ⟨15, (some 72), none, [], [], (.h (.ibin .shl (.k (.d (.int .i64 64))) (.t 71)))⟩, ⟨16, (some 73), none, [], [], (.h (.i2f (.t 72)))⟩, ⟨17, (some 74), none, [], [], (.h (.fbin .div (.t 68) (.t 73)))⟩, ⟨18, (some 75), none, [], [], (.h (.idx (.t 60) (.t 61) 1))⟩, ⟨19, none, none, [], [], (.store (.t 75) (.t 74) 1)⟩] [4, 13, 14, 15, 16, 17, 18])) (.reg [⟨0, (some 55), none, [], [], (.h (.mov (.t 18)))⟩, ⟨1, (some 56), none, [], [], (.h (.ibin .add (.t 55) (.k (.d (.int .i64 1)))))⟩, ⟨2, (some 18), none, [], [], (.h (.mov (.t 56)))⟩] [4, 13, 14, 15, 16, 17, 18])))
def A_l9_CorrTight_L0 : CA := (.seq (.seq (.reg [⟨0, (some 42), none, [], [], (.h (.mov (.t 17)))⟩, ⟨1, (some 43), none, [], [], (.h (.mov (.t 16)))⟩, ⟨2, (some 44), none, [], [], (.h (.len (.t 43)))⟩, ⟨3, (some 45), none, [], [], (.h (.ibin .lss (.t 42) (.t 44)))⟩] [4, 13, 14, 15, 16, 17, 45]) (.cond (.t 45) .skip (.exit 0))) (.seq (.block 1 (.seq (.reg [⟨0, (some 18), none, [], [], (.h (.mov (.k (.d (.int .i64 0)))))⟩] [4, 13, 14, 15, 16, 17, 18]) (.block 2 (.loop A_l9_CorrTight_L1)))) (.reg [⟨0, (some 46), none, [], [], (.h (.mov (.t 17)))⟩, ⟨1, (some 47), none, [], [], (.h (.ibin .add (.t 46) (.k (.d (.int .i64 1)))))⟩, ⟨2, (some 17), none, [], [], (.h (.mov (.t 47)))⟩] [4, 13, 14, 15, 16, 17])))
def A_l9_CorrTight : CA := (.seq (.reg [⟨0, (some 12), none, [], [], (.h (.mov (.k (.d (.bool false)))))⟩] [0, 1, 2, 3, 4, 5]) (.seq (.seq (.reg [⟨0, (some 26), none, [], [], (.callA (.k (.d (.fn 14 [] []))) [])⟩, ⟨1, (some 27), none, [], [], (.h (.un .not (.t 26)))⟩] [0, 1, 2, 3, 4, 5, 27]) (.cond (.t 27) (.seq (.reg [⟨0, (some 12), none, [], [], (.h (.mov (.k (.d (.bool false)))))⟩] [12]) .ret) .skip)) (.seq (.reg [⟨0, (some 28), none, [], [], (.h (.mov (.t 0)))⟩, ⟨1, (some 29), none, [], [], (.h (.mov (.t 1)))⟩, ⟨2, (some 30), none, [], [], (.callA (.k (.d (.fn 15 [] []))) [(.t 28), (.t 29), (.k (.d (.bool false)))])⟩, ⟨3, (some 13), none, [], [], (.alloc [(.d (.int .i64 0)), .nil, .nil] 26)⟩, ⟨4, none, none, [], [], (.store (.t 13) (.t 30) 3)⟩] [2, 3, 4, 5, 13]) (.seq (.reg [⟨0, (some 31), none, [], [], (.h (.mov (.t 5)))⟩, ⟨1, (some 32), none, [], [], (.callA (.k (.d (.fn 16 [] []))) [(.t 31), (.k (.d (.int .i64 2)))])⟩, ⟨2, (some 14), none, [], [], (.h (.mov (.t 32)))⟩] [2, 3, 4, 13, 14]) (.seq (.reg [⟨0, (some 33), none, [], [], (.h (.mov (.t 2)))⟩, ⟨1, (some 34), none, [], [], (.callA (.k (.d (.fn 16 [] []))) [(.t 33), (.k (.d (.int .i64 4)))])⟩, ⟨2, (some 35), none, [], [], (.h (.ibin .add (.k (.d (.int .i64 1))) (.t 34)))⟩, ⟨3, (some 15), none, [], [], (.h (.mov (.t 35)))⟩] [3, 4, 13, 14, 15]) (.seq (.reg [⟨0, (some 36), none, [], [], (.h (.mov (.t 15)))⟩, ⟨1, (some 37), none, [], [], (.h (.padd (.t 13) 0))⟩, ⟨2, (some 38), none, [], [], (.load (.t 37) 1 false)⟩, ⟨3, (some 39), none, [], [], (.h (.ibin .sub (.t 38) (.k (.d (.int .i64 1)))))⟩, ⟨4, (some 40), none, [], [], (.h (.mov (.t 3)))⟩, ⟨5, (some 41), none, [], [], (.callA (.k (.d (.fn 17 [] []))) [(.t 36), (.t 39), (.t 40)])⟩, ⟨6, (some 16), none, [], [], (.h (.mov (.t 41)))⟩] [4, 13, 14, 15, 16]) (.seq (.seq (.reg [⟨0, (some 17), none, [], [], (.h (.mov (.k (.d (.int .i64 0)))))⟩] [4, 13, 14, 15, 16, 17]) (.block 0 (.loop A_l9_CorrTight_L0))) (.seq (.reg [⟨0, (some 77), none, [], [], (.h (.mov (.t 14)))⟩, ⟨1, (some 78), none, [], [], (.h (.mov (.t 15)))⟩, ⟨2, (some 79), none, [], [], (.callA (.k (.d (.fn 18 [] []))) [(.t 77), (.t 78)])⟩, ⟨3, (some 76), none, [], [], (.h (.mov (.t 79)))⟩, ⟨4, (some 80), none, [], [], (.h (.ext (.t 76) 0))⟩, ⟨5, (some 81), none, [], [], (.h (.ext (.t 76) 1))⟩, ⟨6, (some 19), none, [], [], (.h (.mov (.t 80)))⟩, ⟨7, (some 20), none, [], [], (.h (.mov (.t 81)))⟩] [4, 13, 14, 16, 19]) (.seq (.reg [⟨0, (some 82), none, [], [], (.h (.mov (.t 4)))⟩, ⟨1, (some 83), none, [], [], (.callA (.k (.d (.fn 16 [] []))) [(.t 82), (.k (.d (.int .i64 14)))])⟩, ⟨2, (some 84), none, [], [], (.h (.ibin .add (.k (.d (.int .i64 14))) (.t 83)))⟩, ⟨3, (some 85), none, [], [], (.h (.icv .u64 (.t 84)))⟩, ⟨4, (some 86), none, [], [], (.h (.ibin .shl (.k (.d (.int .i64 1))) (.t 85)))⟩, ⟨5, (some 21), none, [], [], (.h (.mov (.t 86)))⟩] [13, 14, 16, 19, 21]) (.seq (.reg [⟨0, (some 87), none, [], [], (.h (.mov (.t 16)))⟩, ⟨1, (some 88), none, [], [], (.h (.idx (.t 87) (.k (.d (.int .i64 0))) 1))⟩, ⟨2, (some 89), none, [], [], (.load (.t 88) 1 false)⟩, ⟨3, (some 90), none, [], [], (.callA (.k (.d (.fn 19 [] []))) [(.t 89), (.k (.d (.flt 4562254508917369340))), (.k (.d (.flt 4562254508917369340)))])⟩, ⟨4, (some 22), none, [], [], (.h (.mov (.t 90)))⟩] [13, 14, 16, 19, 21, 22]) (.seq (.reg [⟨0, (some 91), none, [], [], (.h (.mov (.t 16)))⟩, ⟨1, (some 92), none, [], [], (.h (.idx (.t 91) (.k (.d (.int .i64 0))) 1))⟩, ⟨2, (some 93), none, [], [], (.load (.t 92) 1 false)⟩, ⟨3, (some 94), none, [], [], (.callA (.k (.d (.fn 19 [] []))) [(.t 93), (.k (.d (.flt 4566758108544739836))), (.k (.d (.flt 4566758108544739836)))])⟩, ⟨4, (some 23), none, [], [], (.h (.mov (.t 94)))⟩] [13, 14, 16, 19, 21, 22, 23]) (.seq (.reg [⟨0, (some 95), none, [], [], (.load (.t 13) 3 true)⟩, ⟨1, (some 96), none, [], [], (.h (.mov (.t 16)))⟩, ⟨2, (some 97), none, [], [], (.h (.mov (.t 19)))⟩, ⟨3, (some 98), none, [], [], (.h (.mov (.t 21)))⟩, ⟨4, (some 99), none, [], [], (.h (.mov (.t 14)))⟩, ⟨5, (some 100), none, [], [], (.h (.mov (.t 22)))⟩, ⟨6, (some 101), none, [], [], (.callS 0 (.k (.d (.fn 20 [] []))) [(.t 95), (.t 96), (.t 97), (.t 98), (.t 99), (.t 100)])⟩, ⟨7, (some 102), none, [], [], (.load (.t 13) 3 true)⟩, ⟨8, (some 103), none, [], [], (.h (.mov (.t 16)))⟩, ⟨9, (some 104), none, [], [], (.h (.mov (.t 19)))⟩, ⟨10, (some 105), none, [], [], (.h (.mov (.t 21)))⟩, ⟨11, (some 106), none, [], [], (.h (.mov (.t 14)))⟩, ⟨12, (some 107), none, [], [], (.h (.mov (.t 23)))⟩, ⟨13, (some 108), none, [], [], (.callS 0 (.k (.d (.fn 20 [] []))) [(.t 102), (.t 103), (.t 104), (.t 105), (.t 106), (.t 107)])⟩, ⟨14, (some 24), none, [], [], (.alloc [.nil, (.d (.int .i64 0)), (.d (.int .i64 0))] 39)⟩, ⟨15, (some 25), none, [], [], (.alloc [.nil, (.d (.int .i64 0)), (.d (.int .i64 0))] 39)⟩, ⟨16, none, none, [], [], (.store (.t 24) (.t 101) 3)⟩, ⟨17, none, none, [], [], (.store (.t 25) (.t 108) 3)⟩] [24, 25]) (.seq (.seq (.reg [⟨0, (some 109), none, [], [], (.h (.padd (.t 24) 2))⟩, ⟨1, (some 110), none, [], [], (.load (.t 109) 1 false)⟩, ⟨2, (some 111), none, [], [], (.h (.ibin .neq (.t 110) (.k (.d (.int .i64 0)))))⟩] [24, 25, 111]) (.cond (.t 111) (.seq (.reg [⟨0, (some 12), none, [], [], (.h (.mov (.k (.d (.bool true)))))⟩] [12]) .ret) .skip)) (.seq (.reg [⟨0, (some 112), none, [], [], (.h (.padd (.t 25) 2))⟩, ⟨1, (some 113), none, [], [], (.load (.t 112) 1 false)⟩, ⟨2, (some 114), none, [], [], (.h (.ibin .eql (.t 113) (.k (.d (.int .i64 0)))))⟩, ⟨3, (some 115), none, [], [], (.h (.mov (.t 114)))⟩, ⟨4, (some 116), (some (115, true)), [], [], (.h (.padd (.t 25) 1))⟩, ⟨5, (some 117), (some (115, true)), [], [], (.load (.t 116) 1 false)⟩, ⟨6, (some 118), (some (115, true)), [], [], (.h (.padd (.t 24) 1))⟩, ⟨7, (some 119), (some (115, true)), [], [], (.load (.t 118) 1 false)⟩, ⟨8, (some 120), (some (115, true)), [], [], (.h (.ibin .leq (.t 117) (.t 119)))⟩, ⟨9, (some 121), none, [], [], (.h (.pick (.t 115) (.t 120) (.k (.d (.bool false)))))⟩, ⟨10, (some 122), none, [], [], (.h (.mov (.t 121)))⟩, ⟨11, (some 123), (some (122, true)), [], [], (.h (.padd (.t 25) 1))⟩, ⟨12, (some 124), (some (122, true)), [], [], (.load (.t 123) 1 false)⟩, ⟨13, (some 125), (some (122, true)), [], [], (.h (.ibin .geq (.t 124) (.k (.d (.int .i64 1)))))⟩, ⟨14, (some 126), none, [], [], (.h (.pick (.t 122) (.t 125) (.k (.d (.bool false)))))⟩, ⟨15, (some 12), none, [], [], (.h (.mov (.t 126)))⟩] [12]) .ret))))))))))))))
theorem A_l9_CorrTight_comp : compF Try.prog 9 = some ⟨127, [(12, none)], A_l9_CorrTight.strip⟩ := by kernel_rfl
theorem w1_val : fin 4562254508917369340 ∧ fin 4566758108544739836 ∧ val 4566758108544739836 = 2 * val 4562254508917369340 ∧ 1 ≤ 1001 * val 4562254508917369340 ∧ 999 * val 4562254508917369340 ≤ 1 := by
  have h1 : Ieee.double.read 4562254508917369340 = .number false 4611686018427388 (-62) := by decide +kernel
  have h2 : Ieee.double.read 4566758108544739836 = .number false 4611686018427388 (-61) := by decide +kernel
  refine ⟨⟨_, _, _, h1⟩, ⟨_, _, _, h2⟩, ?_, ?_, ?_⟩
  · rw [val_eq h1, val_eq h2]; decide +kernel
  · rw [val_eq h1]; decide +kernel
  · rw [val_eq h1]; decide +kernel
theorem wgt_ok {x : Nat} (hx : fin x) (hb : rabs (val x) ≤ 100) : Wgt (wtF 4562254508917369340 4562254508917369340 x) (wtF 4566758108544739836 4566758108544739836 x) := by
  obtain ⟨f1, f2, e, a, b⟩ := w1_val
  obtain ⟨fx, vx⟩ := val_fabs hx
  have x0 := rabs_nonneg (val x)
  rw [← vx] at hb x0
  unfold wtF
  generalize fabs x = y at fx hb x0
  generalize 4562254508917369340 = r at f1 e a b
  generalize 4566758108544739836 = s at f2 e
  have m0 : 0 ≤ val r * val y := Rat.mul_nonneg (by grind) x0
  have m1 : val r * val y ≤ 1 := by
    have h1 := Rat.mul_le_mul_of_nonneg_right b x0
    grind
  have m2 : val s * val y = 2 * (val r * val y) := by rw [e]; grind
  have hb1 : rabs (val r * val y) ≤ 4000 := by rw [rabs_of_nonneg m0]; grind
  have hb2 : rabs (val s * val y) ≤ 4000 := by rw [m2, rabs_of_nonneg (by grind)]; grind
  have M1 := fop_mul f1 fx (small_big (by grind))
  have M2 := fop_mul f2 fx (small_big (by grind))
  have e1 := (M1.small hb1).1
  have e2 := (M2.small hb2).1
  generalize fop .mul r y = p at M1 e1
  generalize fop .mul s y = q at M2 e2
  have g0 : pw (-40) * 100000000 ≤ 1 := by decide +kernel
  have k1 := le_rabs (val p - val r * val y)
  have k2 := le_rabs (val q - val s * val y)
  have hc1 : rabs (val r + val p) ≤ 4000 := rabs_le (by grind) (by grind)
  have hc2 : rabs (val s + val q) ≤ 4000 := rabs_le (by grind) (by grind)
  have A1 := fop_add f1 M1.fin (small_big (by grind))
  have A2 := fop_add f2 M2.fin (small_big (by grind))
  have e3 := (A1.small hc1).1
  have e4 := (A2.small hc2).1
  have k3 := le_rabs (val (fop .add r p) - (val r + val p))
  have k4 := le_rabs (val (fop .add s q) - (val s + val q))
  have g1 : 4096 * pw (-12) = 1 := by decide +kernel
  exact ⟨A1.fin, A2.fin, by grind, by grind⟩
theorem seek_mono (t1 t2 : List Nat → List Nat × Nat) (n : Nat) (hd : ∀ d, (t1 d).1 = (t2 d).1 ∧ (t1 d).1.length = n) (hc : ∀ d, d.length = n → fcmp .le (t1 d).2 restW = true → fcmp .le (t2 d).2 restW = true) (f : Nat) : ∀ k d g a, d.length = n → seek t1 f k d = (g, a, 0) →
    ∃ g' a', seek t2 f k d = (g', a', 0) ∧ k ≤ a' ∧ a' ≤ a ∧ g'.length = n := by
  induction f with
  | zero => intro k d g a _ h; simp [seek] at h
  | succ f ih =>
    intro k d g a hdl h
    simp only [seek] at h ⊢
    rw [← (hd d).1]
    by_cases h1 : finAll (t1 d).1 = false
    · rw [if_pos h1] at h; simp at h
    · rw [if_neg h1] at h ⊢
      by_cases h2 : fcmp .le (t1 d).2 4562146422526312448 = true
      · rw [if_pos h2] at h
        simp only [Prod.mk.injEq] at h
        rw [if_pos (hc d hdl h2)]
        exact ⟨_, k, rfl, Nat.le_refl _, by omega, (hd d).2⟩
      · rw [if_neg h2] at h
        have ha : ∀ b, k ≤ b → True := fun _ _ => trivial
        by_cases h4 : 4 ≤ k
        · rw [if_pos h4] at h; simp at h
        · rw [if_neg h4] at h
          obtain ⟨g', a', i1, i2, i3, i4⟩ := ih (k + 1) _ g a (hd d).2 h
          by_cases h5 : fcmp .le (t2 d).2 4562146422526312448 = true
          · rw [if_pos h5]; exact ⟨_, k, rfl, Nat.le_refl _, by omega, (hd d).2⟩
          · rw [if_neg h5, if_neg h4]
            exact ⟨g', a', i1, by omega, i3, i4⟩
theorem sol_mono (t : Tp) (z : List (List Nat)) (l : List Nat) (h : Nat) (w v : List Nat) (m : Int) (hw : ∀ i, i < t.n → Wgt (w.getD i 0) (v.getD i 0)) (g : List Nat) (a : Nat) (hg : solG t z l h w m = (g, a, 0)) :
    ∃ g' a', solG t z l h v m = (g', a', 0) ∧ 1 ≤ a' ∧ a' ≤ a ∧ g'.length = t.n := by
  unfold solG at hg ⊢
  split at hg
  · rename_i e
    rw [if_pos e]
    unfold solB at hg ⊢
    cases hp : partP (matT t z l h) t.n t.n with
    | none => rw [hp] at hg; simp at hg
    | some s =>
      obtain ⟨B, π⟩ := s
      rw [hp] at hg
      refine seek_mono (tryB t z l h w B π) (tryB t z l h v B π) t.n (fun d => ⟨rfl, tabR_len _ _⟩) (fun d hd hc => ?_) 4 1 _ g a (by simp) hg
      exact szP_mono _ w v (fun i hi => hw i (by have : (xB t z l h B π d).length = t.n := solveP_len _ _ _ _; omega)) hc
  · rename_i e
    rw [if_neg e]
    refine seek_mono (tryA t z l h w) (tryA t z l h v) t.n (fun d => ⟨rfl, tabR_len _ _⟩) (fun d hd hc => ?_) 4 1 _ g a (by simp) hg
    exact szP_mono _ w v (fun i hi => hw i (by rw [tabR_len] at hi; exact hi)) hc
/-- A word of the rows, divided so often. -/
def Pz (d : Nat) (x : Nat) : Prop := ∃ e a, -(d : Int) ≤ e ∧ e ≤ 0 ∧ a.natAbs ≤ 100 ∧ Ix e x a
theorem Pz.bd {d x : Nat} (h : Pz d x) : fin x ∧ rabs (val x) ≤ 100 := by
  obtain ⟨e, a, h1, h2, h3, h4⟩ := h
  refine ⟨h4.fin, ?_⟩
  rw [h4.val, rabs_mul, rabs_int, rabs_of_nonneg (Rat.le_of_lt (pw_pos e))]
  have k1 := pw_mono h2
  rw [pw_zero] at k1
  have k2 : ((a.natAbs : Nat) : Rat) ≤ 100 := by exact_mod_cast Rat.natCast_le_natCast.2 h3
  have k3 := Rat.mul_le_mul_of_nonneg_left k1 (show (0 : Rat) ≤ ((a.natAbs : Nat) : Rat) from Rat.natCast_nonneg)
  grind
theorem Pz.mono {d d' x : Nat} (h : Pz d x) (hd : d ≤ d') : Pz d' x := by
  obtain ⟨e, a, h1, h2, h3, h4⟩ := h
  exact ⟨e, a, by omega, h2, h3, h4⟩
theorem Pz.div {d x : Nat} (h : Pz d x) (k : Nat) (hk : k ≤ 20) (hd : d ≤ 600) : Pz (d + 20) (fop .div x (FloatKind.nearest .f64 ((2 ^ k : Nat) : Int))) := by
  obtain ⟨e, a, h1, h2, h3, h4⟩ := h
  have hp : 2 ^ k ≤ 2 ^ 20 := Nat.pow_le_pow_right (by decide) hk
  have hp2 : 0 < 2 ^ k := Nat.pow_pos (by decide)
  have hy := Ix.ofInt ((2 ^ k : Nat) : Int) (by omega)
  have hx := h4.fine k
  refine ⟨e - k, a, by omega, by omega, h3, Ix.div hx hy (by omega) (by omega) (by push_cast; rfl) (by omega) (by omega) (by omega)⟩
def Mz (d : Nat) (Z : List (List Nat)) : Prop := ∀ r i, Pz d ((Z.getD r []).getD i 0)
theorem Mz.up {d v : Nat} {Z : List (List Nat)} (h : Mz d Z) (j i : Nat) (hv : Pz d v) : Mz d (up2 Z j i v) := by
  intro r q
  simp only [up2, List.getD_eq_getElem?_getD, List.getElem?_set]
  by_cases e : j = r
  · subst e
    by_cases hl : j < Z.length
    · simp only [hl, ↓reduceIte, Option.getD_some]
      rw [List.getElem?_set]
      by_cases e2 : i = q
      · subst e2
        by_cases hl2 : i < (Z.getD j []).length
        · rw [List.getD_eq_getElem?_getD] at hl2
          simp only [hl2, ↓reduceIte, Option.getD_some]; exact hv
        · rw [List.getD_eq_getElem?_getD] at hl2
          simp only [hl2, ↓reduceIte, Option.getD_none]
          exact ⟨0, 0, by omega, by omega, by decide, Ix.zero 0⟩
      · rw [if_neg e2]
        have := h j q
        simpa only [List.getD_eq_getElem?_getD] using this
    · have := h j q
      simp only [List.getD_eq_getElem?_getD] at this
      simp only [hl, ↓reduceIte, Option.getD_none]
      exact ⟨0, 0, by omega, by omega, by decide, by simpa using Ix.zero 0⟩
  · rw [if_neg e]
    have := h r q
    simpa only [List.getD_eq_getElem?_getD] using this
theorem Mz.mono {d d' : Nat} {Z : List (List Nat)} (h : Mz d Z) (hd : d ≤ d') : Mz d' Z := fun r i => (h r i).mono hd
theorem zM_Mz (ns : List Int) (k i : Nat) : Mz 0 (zM ns k i) := by
  intro r q
  by_cases hr : r < i
  · rw [zM_row _ _ _ _ hr]
    by_cases hq : q < k
    · rw [tabR_getD _ _ _ hq]
      unfold zE numZ
      generalize (if r * k + q < ns.length then ns.getD (r * k + q) 0 else ((r + q : Nat) : Int)) = w
      have h1 := Int.emod_nonneg w (by decide : (201 : Int) ≠ 0)
      have h2 := Int.emod_lt_of_pos w (by decide : (0 : Int) < 201)
      exact ⟨0, w % 201 - 100, by omega, by omega, by omega, Ix.ofInt _ (by omega)⟩
    · rw [List.getD_eq_getElem?_getD, List.getElem?_eq_none (by rw [tabR_len]; omega)]
      exact ⟨0, 0, by omega, by omega, by decide, Ix.zero 0⟩
  · have : (zM ns k i).getD r [] = [] := by rw [List.getD_eq_getElem?_getD, List.getElem?_eq_none (by rw [zM_len]; omega)]; rfl
    rw [this]
    exact ⟨0, 0, by omega, by omega, by decide, by simpa using Ix.zero 0⟩
set_option maxRecDepth 8000 in
theorem l9_CorrTight_con (n : Int) (ns : List Int) (order : Int) (zs : List Int) (step method : Int) (hns : ns.length < 2 ^ 62) (hzs : zs.length < 2 ^ 62) : Con Try.prog 9 [fI n, .d (rowI ns), fI order, .d (rowI zs), fI step, fI method] (fB true) := by
  refine Con_introA A_l9_CorrTight_comp rfl mixed ?_
  simp -implicitDefEqProofs only [xC_skip, evS, evT, decide_true, decide_false, decide_eq_true_eq, sides, Inst.places, List.mem_cons, List.not_mem_nil, forall_eq_or_imp, forall_eq, false_implies, implies_true, Apart, xeff, xhv, hv, effC, xev, look, argSl, atL_do, drops_at, keep, inBlockT, pickX, callX, callCX, callSX, callee, reduceCtorEq, ↓reduceIte, Nat.reduceEqDiff, Nat.reduceAdd, Nat.reduceMul, eq_self, Int.reduceToNat, Int.reduceAdd, Int.reduceSub, Int.reduceMul, Int.reduceNeg, Int.reduceLT, Int.reduceLE, rowD, rowI, rowsD, ivD, rowG, rowIG, rowsG, ivG, bne_self_eq_false, beq_self_eq_true, Nat.reduceLT, Nat.reduceLeDiff, ne_eq, Option.some.injEq, fillV, partsV, V.okPart, gt_iff_lt, ge_iff_le, A_l9_CorrTight]
  first | refine callG_con (l9_known_con) rfl ?_ | refine callCG_con (l9_known_con) rfl ?_ | refine callSG_con (l9_known_con) rfl ?_
  simp -implicitDefEqProofs only [xC_skip, evS, evT, decide_true, decide_false, decide_eq_true_eq, sides, Inst.places, List.mem_cons, List.not_mem_nil, forall_eq_or_imp, forall_eq, false_implies, implies_true, Apart, xeff, xhv, hv, effC, xev, look, argSl, atL_do, drops_at, keep, inBlockT, pickX, callX, callCX, callSX, callee, reduceCtorEq, ↓reduceIte, Nat.reduceEqDiff, Nat.reduceAdd, Nat.reduceMul, eq_self, Int.reduceToNat, Int.reduceAdd, Int.reduceSub, Int.reduceMul, Int.reduceNeg, Int.reduceLT, Int.reduceLE, rowD, rowI, rowsD, ivD, rowG, rowIG, rowsG, ivG, bne_self_eq_false, beq_self_eq_true, Nat.reduceLT, Nat.reduceLeDiff, ne_eq, Option.some.injEq, fillV, partsV, V.okPart, gt_iff_lt, ge_iff_le]
  first | refine callG_con (l3_Make_con n ns false hns) rfl ?_ | refine callCG_con (l3_Make_con n ns false hns) rfl ?_ | refine callSG_con (l3_Make_con n ns false hns) rfl ?_
  simp -implicitDefEqProofs only [xC_skip, evS, evT, decide_true, decide_false, decide_eq_true_eq, sides, Inst.places, List.mem_cons, List.not_mem_nil, forall_eq_or_imp, forall_eq, false_implies, implies_true, Apart, xeff, xhv, hv, effC, xev, look, argSl, atL_do, drops_at, keep, inBlockT, pickX, callX, callCX, callSX, callee, reduceCtorEq, ↓reduceIte, Nat.reduceEqDiff, Nat.reduceAdd, Nat.reduceMul, eq_self, Int.reduceToNat, Int.reduceAdd, Int.reduceSub, Int.reduceMul, Int.reduceNeg, Int.reduceLT, Int.reduceLE, rowD, rowI, rowsD, ivD, rowG, rowIG, rowsG, ivG, bne_self_eq_false, beq_self_eq_true, Nat.reduceLT, Nat.reduceLeDiff, ne_eq, Option.some.injEq, fillV, partsV, V.okPart, gt_iff_lt, ge_iff_le]
  have T1 := mkT_ok n ns false
  have T2 := mkT_n n ns false
  generalize mkT n ns false = t at T1 T2
  have n1 := Int.emod_nonneg n (by decide : (3 : Int) ≠ 0)
  have n2 := Int.emod_lt_of_pos n (by decide : (0 : Int) < 3)
  first | refine callG_con (l9_within_con method 2 (by decide) (by decide)) rfl ?_ | refine callCG_con (l9_within_con method 2 (by decide) (by decide)) rfl ?_ | refine callSG_con (l9_within_con method 2 (by decide) (by decide)) rfl ?_
  have m1 := Int.emod_nonneg method (by decide : (2 : Int) ≠ 0)
  have m2 := Int.emod_lt_of_pos method (by decide : (0 : Int) < 2)
  generalize method % 2 = m at m1 m2
  simp -implicitDefEqProofs only [xC_skip, evS, evT, decide_true, decide_false, decide_eq_true_eq, sides, Inst.places, List.mem_cons, List.not_mem_nil, forall_eq_or_imp, forall_eq, false_implies, implies_true, Apart, xeff, xhv, hv, effC, xev, look, argSl, atL_do, drops_at, keep, inBlockT, pickX, callX, callCX, callSX, callee, reduceCtorEq, ↓reduceIte, Nat.reduceEqDiff, Nat.reduceAdd, Nat.reduceMul, eq_self, Int.reduceToNat, Int.reduceAdd, Int.reduceSub, Int.reduceMul, Int.reduceNeg, Int.reduceLT, Int.reduceLE, rowD, rowI, rowsD, ivD, rowG, rowIG, rowsG, ivG, bne_self_eq_false, beq_self_eq_true, Nat.reduceLT, Nat.reduceLeDiff, ne_eq, Option.some.injEq, fillV, partsV, V.okPart, gt_iff_lt, ge_iff_le]
  first | refine callG_con (l9_within_con order 4 (by decide) (by decide)) rfl ?_ | refine callCG_con (l9_within_con order 4 (by decide) (by decide)) rfl ?_ | refine callSG_con (l9_within_con order 4 (by decide) (by decide)) rfl ?_
  have o1 := Int.emod_nonneg order (by decide : (4 : Int) ≠ 0)
  have o2 := Int.emod_lt_of_pos order (by decide : (0 : Int) < 4)
  obtain ⟨q, hq⟩ : ∃ q : Nat, 1 + order % 4 = q := ⟨(1 + order % 4).toNat, by omega⟩
  have hq5 : 1 ≤ q ∧ q ≤ 4 := by omega
  have wq : IntKind.i64.wrap (1 + order % 4) = (q : Int) := by rw [hq]; exact wrapI (by omega) (by omega)
  have wn : IntKind.i64.wrap ((t.n : Int) - 1) = ((t.n - 1 : Nat) : Int) := by rw [wrapI (by omega) (by omega)]; omega
  have hk : t.n = (((t.n - 1 : Nat) : Int) % 3).toNat + 1 := by omega
  simp -implicitDefEqProofs only [xC_skip, evS, evT, decide_true, decide_false, decide_eq_true_eq, sides, Inst.places, List.mem_cons, List.not_mem_nil, forall_eq_or_imp, forall_eq, false_implies, implies_true, Apart, xeff, xhv, hv, effC, xev, look, argSl, atL_do, drops_at, keep, inBlockT, pickX, callX, callCX, callSX, callee, reduceCtorEq, ↓reduceIte, Nat.reduceEqDiff, Nat.reduceAdd, Nat.reduceMul, eq_self, Int.reduceToNat, Int.reduceAdd, Int.reduceSub, Int.reduceMul, Int.reduceNeg, Int.reduceLT, Int.reduceLE, rowD, rowI, rowsD, ivD, rowG, rowIG, rowsG, ivG, bne_self_eq_false, beq_self_eq_true, Nat.reduceLT, Nat.reduceLeDiff, ne_eq, Option.some.injEq, fillV, partsV, V.okPart, gt_iff_lt, ge_iff_le, wq, wn]
  refine callG_rows 20 [fI q, fI (t.n - 1 : Nat), .d (rowI zs)] (by simp [Heap.next]) (l8_Make_ac q ((t.n - 1 : Nat) : Int) zs q rfl (by omega) hzs t.n hk) ⟨.bare _, .bare _, .bare _, trivial⟩ ?_
  simp -implicitDefEqProofs only [xC_skip, evS, evT, decide_true, decide_false, decide_eq_true_eq, sides, Inst.places, List.mem_cons, List.not_mem_nil, forall_eq_or_imp, forall_eq, false_implies, implies_true, Apart, xeff, xhv, hv, effC, xev, look, argSl, atL_do, drops_at, keep, inBlockT, pickX, callX, callCX, callSX, callee, reduceCtorEq, ↓reduceIte, Nat.reduceEqDiff, Nat.reduceAdd, Nat.reduceMul, eq_self, Int.reduceToNat, Int.reduceAdd, Int.reduceSub, Int.reduceMul, Int.reduceNeg, Int.reduceLT, Int.reduceLE, rowD, rowI, rowsD, ivD, rowG, rowIG, rowsG, ivG, bne_self_eq_false, beq_self_eq_true, Nat.reduceLT, Nat.reduceLeDiff, ne_eq, Option.some.injEq, fillV, partsV, V.okPart, gt_iff_lt, ge_iff_le]
  have hz0 := zM_rk zs t.n (q + 1)
  have hzz := zM_Mz zs t.n (q + 1)
  generalize zM zs t.n (q + 1) = Z0 at hz0 hzz
  refine WA_forW (n := q + 1) (fun c s => ∃ j Z, c + j = q + 1 ∧ Rk (q + 1) t.n Z ∧ Mz (100 * j) Z ∧ ((j ≤ q ∧ s = ⟨[(4, fI step), (13, .ptr 3 0 0 3), (14, fI m), (15, fI q), (16, .sl 120 0 0 (q + 1) 1 (q + 1)), (17, fI j)], [(220, Z.map rowV), (120, [hdo 220 0 (q + 1) t.n]), (3, [jtT t])]⟩) ∨
    (j = q + 1 ∧ s = ⟨[(4, fI step), (13, .ptr 3 0 0 3), (14, fI m), (15, fI q), (16, .d (rowsD Z)), (17, fI j)], [(3, [jtT t])]⟩))) (Le.refl _) ⟨0, Z0, by omega, hz0, hzz, .inl ⟨by omega, rfl⟩⟩ ?_
  rintro c s ⟨j, Z, hc, hZ, hM, ⟨hj, rfl⟩ | ⟨rfl, rfl⟩⟩
  · have hzl := hZ.1
    have hjd : decide (j < q + 1) = true := by simp; omega
    simp -implicitDefEqProofs only [xC_skip, evS, evT, decide_true, decide_false, decide_eq_true_eq, sides, Inst.places, List.mem_cons, List.not_mem_nil, forall_eq_or_imp, forall_eq, false_implies, implies_true, Apart, xeff, xhv, hv, effC, xev, look, argSl, atL_do, drops_at, keep, inBlockT, pickX, callX, callCX, callSX, callee, reduceCtorEq, ↓reduceIte, Nat.reduceEqDiff, Nat.reduceAdd, Nat.reduceMul, eq_self, Int.reduceToNat, Int.reduceAdd, Int.reduceSub, Int.reduceMul, Int.reduceNeg, Int.reduceLT, Int.reduceLE, rowD, rowI, rowsD, ivD, rowG, rowIG, rowsG, ivG, bne_self_eq_false, beq_self_eq_true, Nat.reduceLT, Nat.reduceLeDiff, ne_eq, Option.some.injEq, fillV, partsV, V.okPart, gt_iff_lt, ge_iff_le, A_l9_CorrTight_L0, hjd]
    refine WA_for (n := t.n) (fun c s => ∃ i Z, c + i = t.n ∧ Rk (q + 1) t.n Z ∧ Mz (100 * j + 20 * i) Z ∧ s = ⟨[(4, fI step), (13, .ptr 3 0 0 3), (14, fI m), (15, fI q), (16, .sl 120 0 0 (q + 1) 1 (q + 1)), (17, fI j), (18, fI i)], [(220, Z.map rowV), (120, [hdo 220 0 (q + 1) t.n]), (3, [jtT t])]⟩) ⟨0, Z, by omega, hZ, hM, rfl⟩ ?_
    rintro c' s ⟨i, Z', hc', hZ', hM', rfl⟩
    have hzl' := hZ'.1
    have hzj := hZ'.2 j (by omega)
    simp -implicitDefEqProofs only [xC_skip, evS, evT, decide_true, decide_false, decide_eq_true_eq, sides, Inst.places, List.mem_cons, List.not_mem_nil, forall_eq_or_imp, forall_eq, false_implies, implies_true, Apart, xeff, xhv, hv, effC, xev, look, argSl, atL_do, drops_at, keep, inBlockT, pickX, callX, callCX, callSX, callee, reduceCtorEq, ↓reduceIte, Nat.reduceEqDiff, Nat.reduceAdd, Nat.reduceMul, eq_self, Int.reduceToNat, Int.reduceAdd, Int.reduceSub, Int.reduceMul, Int.reduceNeg, Int.reduceLT, Int.reduceLE, rowD, rowI, rowsD, ivD, rowG, rowIG, rowsG, ivG, bne_self_eq_false, beq_self_eq_true, Nat.reduceLT, Nat.reduceLeDiff, ne_eq, Option.some.injEq, fillV, partsV, V.okPart, gt_iff_lt, ge_iff_le, A_l9_CorrTight_L1, hdo_getD 220 0 (q + 1) t.n j (by omega)]
    refine ⟨by omega, by omega, ?_⟩
    refine condC_intro (fun hi => ?_) (fun hi => ?_)
    · replace hi := of_decide_eq_true hi
      have w2 : IntKind.i64.wrap (2 * (j : Int)) = ((2 * j : Nat) : Int) := by rw [wrapI (by omega) (by omega)]; omega
      simp -implicitDefEqProofs only [xC_skip, evS, evT, decide_true, decide_false, decide_eq_true_eq, sides, Inst.places, List.mem_cons, List.not_mem_nil, forall_eq_or_imp, forall_eq, false_implies, implies_true, Apart, xeff, xhv, hv, effC, xev, look, argSl, atL_do, drops_at, keep, inBlockT, pickX, callX, callCX, callSX, callee, reduceCtorEq, ↓reduceIte, Nat.reduceEqDiff, Nat.reduceAdd, Nat.reduceMul, eq_self, Int.reduceToNat, Int.reduceAdd, Int.reduceSub, Int.reduceMul, Int.reduceNeg, Int.reduceLT, Int.reduceLE, rowD, rowI, rowsD, ivD, rowG, rowIG, rowsG, ivG, bne_self_eq_false, beq_self_eq_true, Nat.reduceLT, Nat.reduceLeDiff, ne_eq, Option.some.injEq, fillV, partsV, V.okPart, gt_iff_lt, ge_iff_le, hdo_getD 220 0 (q + 1) t.n j (by omega), getE Z' j (by omega), getD_map_fl (Z'.getD j []) i (by omega), w2, setE]
      have wu : 0 ≤ IntKind.u64.wrap ((2 * j : Nat) : Int) := by rw [wrapU (by omega) (by omega)]; omega
      (repeat (with_reducible refine And.intro (by omega) ?_))
      rw [wrapI (by omega) (by omega)]
      refine ⟨c' - 1, by omega, i + 1, up2 Z' j i _, by omega, Rk_up2 hZ' _ _ _, ?_, rfl⟩
      have w3 : (IntKind.u64.wrap ((2 * j : Nat) : Int)).toNat = 2 * j := by rw [wrapU (by omega) (by omega)]; rfl
      have w4 : IntKind.i64.wrap (64 * 2 ^ min (IntKind.u64.wrap ((2 * j : Nat) : Int)).toNat IntKind.i64.bits) = ((2 ^ (6 + 2 * j) : Nat) : Int) := by
        rw [w3, show min (2 * j) IntKind.i64.bits = 2 * j from Nat.min_eq_left (by show 2 * j ≤ 64; omega), Nat.pow_add]
        have hp : 2 ^ (2 * j) ≤ 2 ^ 8 := Nat.pow_le_pow_right (by decide) (by omega)
        have hp2 : (2 : Int) ^ (2 * j) = ((2 ^ (2 * j) : Nat) : Int) := by push_cast; rfl
        generalize 2 ^ (2 * j) = y at hp hp2
        rw [hp2, wrapI (by omega) (by omega)]
        push_cast
        rfl
      rw [w4]
      exact ((hM'.mono (by omega)).up j i (((hM' j i).div (6 + 2 * j) (by omega) (by omega)).mono (by omega)))
    · replace hi := of_decide_eq_false hi
      have e : i = t.n := by omega
      simp -implicitDefEqProofs only [xC_skip, evS, evT, decide_true, decide_false, decide_eq_true_eq, sides, Inst.places, List.mem_cons, List.not_mem_nil, forall_eq_or_imp, forall_eq, false_implies, implies_true, Apart, xeff, xhv, hv, effC, xev, look, argSl, atL_do, drops_at, keep, inBlockT, pickX, callX, callCX, callSX, callee, reduceCtorEq, ↓reduceIte, Nat.reduceEqDiff, Nat.reduceAdd, Nat.reduceMul, eq_self, Int.reduceToNat, Int.reduceAdd, Int.reduceSub, Int.reduceMul, Int.reduceNeg, Int.reduceLT, Int.reduceLE, rowD, rowI, rowsD, ivD, rowG, rowIG, rowsG, ivG, bne_self_eq_false, beq_self_eq_true, Nat.reduceLT, Nat.reduceLeDiff, ne_eq, Option.some.injEq, fillV, partsV, V.okPart, gt_iff_lt, ge_iff_le]
      rw [wrapI (by omega) (by omega)]
      have hM3 : Mz (100 * (j + 1)) Z' := hM'.mono (by omega)
      by_cases hjq : j = q
      · subst hjq
        refine ⟨c - 1, _, by omega, ?_, j + 1, Z', by omega, hZ', hM3, .inr ⟨rfl, rfl⟩⟩
        have hz : ∀ L L' : Heap, L.get 120 0 = some (hdo 220 0 (j + 1) t.n) → L.fam 220 = some (Z'.map rowV) → L'.fam 120 = none → L'.fam 220 = none → Fz L L' (.sl 120 0 0 (j + 1) 1 (j + 1)) (.d (.bor Z'.length (rowsG Z'))) := fun L L' a b c d =>
          Fz_rows (X := 220) (o := 0) (len := t.n) a (fun r hr => ⟨by
            unfold Heap.get
            rw [b, Nat.add_zero]
            have : r < Z'.length := by omega
            simp [List.getD_eq_getElem?_getD, this], hZ'.2 r hr⟩) hzl' rfl c d
        exact LeT.weak (fun _ h => h) (by simp (maxDischargeDepth := 6) [Fz_rowD, Fz_rowI, Fz_rowsD, FzS_cons, FzS_nil, FzH_cons, FzH_nil, FzF_cons, FzF_nil, FzF_rows, FzA_cons, FzA_nil, FzA_app, FzA_rowV, FzA_dcells, FzA_outC, FzA_data, Fz_d, Fz_nil, Fz_any, Fz_ptr, Fz_sl, Fz_agg, get_cons, get_nil, fam_cons, fam_nil, hz]) (by simp (maxDischargeDepth := 6) [Fz_rowD, Fz_rowI, Fz_rowsD, FzS_cons, FzS_nil, FzH_cons, FzH_nil, FzF_cons, FzF_nil, FzF_rows, FzA_cons, FzA_nil, FzA_app, FzA_rowV, FzA_dcells, FzA_outC, FzA_data, Fz_d, Fz_nil, Fz_any, Fz_ptr, Fz_sl, Fz_agg, get_cons, get_nil, fam_cons, fam_nil])
      · exact ⟨c - 1, _, by omega, Le.refl _, j + 1, Z', by omega, hZ', hM3, .inl ⟨by omega, rfl⟩⟩
  · clear hz0 hzz
    have hjd : decide (q + 1 < Z.length) = false := by rw [hZ.1]; simp
    simp -implicitDefEqProofs only [xC_skip, evS, evT, decide_true, decide_false, decide_eq_true_eq, sides, Inst.places, List.mem_cons, List.not_mem_nil, forall_eq_or_imp, forall_eq, false_implies, implies_true, Apart, xeff, xhv, hv, effC, xev, look, argSl, atL_do, drops_at, keep, inBlockT, pickX, callX, callCX, callSX, callee, reduceCtorEq, ↓reduceIte, Nat.reduceEqDiff, Nat.reduceAdd, Nat.reduceMul, eq_self, Int.reduceToNat, Int.reduceAdd, Int.reduceSub, Int.reduceMul, Int.reduceNeg, Int.reduceLT, Int.reduceLE, rowD, rowI, rowsD, ivD, rowG, rowIG, rowsG, ivG, bne_self_eq_false, beq_self_eq_true, Nat.reduceLT, Nat.reduceLeDiff, ne_eq, Option.some.injEq, fillV, partsV, V.okPart, gt_iff_lt, ge_iff_le, A_l9_CorrTight_L0, hjd]
    obtain ⟨hof, hofl⟩ := r7_Of_ok m q (by omega)
    first | refine callG_con (hof) rfl ?_ | refine callCG_con (hof) rfl ?_ | refine callSG_con (hof) rfl ?_
    generalize ofL m q = l at hofl
    simp -implicitDefEqProofs only [xC_skip, evS, evT, decide_true, decide_false, decide_eq_true_eq, sides, Inst.places, List.mem_cons, List.not_mem_nil, forall_eq_or_imp, forall_eq, false_implies, implies_true, Apart, xeff, xhv, hv, effC, xev, look, argSl, atL_do, drops_at, keep, inBlockT, pickX, callX, callCX, callSX, callee, reduceCtorEq, ↓reduceIte, Nat.reduceEqDiff, Nat.reduceAdd, Nat.reduceMul, eq_self, Int.reduceToNat, Int.reduceAdd, Int.reduceSub, Int.reduceMul, Int.reduceNeg, Int.reduceLT, Int.reduceLE, rowD, rowI, rowsD, ivD, rowG, rowIG, rowsG, ivG, bne_self_eq_false, beq_self_eq_true, Nat.reduceLT, Nat.reduceLeDiff, ne_eq, Option.some.injEq, fillV, partsV, V.okPart, gt_iff_lt, ge_iff_le]
    first | refine callG_con (l9_within_con step 14 (by decide) (by decide)) rfl ?_ | refine callCG_con (l9_within_con step 14 (by decide) (by decide)) rfl ?_ | refine callSG_con (l9_within_con step 14 (by decide) (by decide)) rfl ?_
    have s1 := Int.emod_nonneg step (by decide : (14 : Int) ≠ 0)
    have s2 := Int.emod_lt_of_pos step (by decide : (0 : Int) < 14)
    obtain ⟨j, hj⟩ : ∃ j : Nat, 14 + step % 14 = j := ⟨(14 + step % 14).toNat, by omega⟩
    have hj2 : j < 28 := by omega
    have wj : IntKind.i64.wrap (14 + step % 14) = (j : Int) := by rw [hj]; exact wrapI (by omega) (by omega)
    have wu : 0 ≤ IntKind.u64.wrap (j : Int) := by rw [wrapU (by omega) (by omega)]; omega
    simp -implicitDefEqProofs only [xC_skip, evS, evT, decide_true, decide_false, decide_eq_true_eq, sides, Inst.places, List.mem_cons, List.not_mem_nil, forall_eq_or_imp, forall_eq, false_implies, implies_true, Apart, xeff, xhv, hv, effC, xev, look, argSl, atL_do, drops_at, keep, inBlockT, pickX, callX, callCX, callSX, callee, reduceCtorEq, ↓reduceIte, Nat.reduceEqDiff, Nat.reduceAdd, Nat.reduceMul, eq_self, Int.reduceToNat, Int.reduceAdd, Int.reduceSub, Int.reduceMul, Int.reduceNeg, Int.reduceLT, Int.reduceLE, rowD, rowI, rowsD, ivD, rowG, rowIG, rowsG, ivG, bne_self_eq_false, beq_self_eq_true, Nat.reduceLT, Nat.reduceLeDiff, ne_eq, Option.some.injEq, fillV, partsV, V.okPart, gt_iff_lt, ge_iff_le, wj, shl_pow j (by omega)]
    refine ⟨wu, ?_⟩
    have z1 := hZ.1
    have hZ0 := hZ.2 0 (by omega)
    have hZ1 := hZ.2 1 (by omega)
    (repeat (with_reducible refine And.intro (by omega) ?_))
    have hwv : ∀ i, i < t.n → Wgt ((wtP (Z.getD 0 []) 4562254508917369340 4562254508917369340).getD i 0) ((wtP (Z.getD 0 []) 4566758108544739836 4566758108544739836).getD i 0) := fun i hi => by
      unfold wtP
      rw [tabR_getD _ _ _ (by omega), tabR_getD _ _ _ (by omega)]
      have := (hM 0 i).bd
      exact wgt_ok this.1 this.2
    have hWt := r9_Weights_con (Z.getD 0 []) 4562254508917369340 4562254508917369340 (by omega)
    have hwl : (wtP (Z.getD 0 []) 4562254508917369340 4562254508917369340).length = t.n := (wtP_len _ _ _).trans hZ0
    generalize wtP (Z.getD 0 []) 4562254508917369340 4562254508917369340 = w at hWt hwl hwv
    have hVt := r9_Weights_con (Z.getD 0 []) 4566758108544739836 4566758108544739836 (by omega)
    have hvl : (wtP (Z.getD 0 []) 4566758108544739836 4566758108544739836).length = t.n := (wtP_len _ _ _).trans hZ0
    generalize wtP (Z.getD 0 []) 4566758108544739836 4566758108544739836 = v at hVt hvl hwv
    first | refine callG_con (hWt) rfl ?_ | refine callCG_con (hWt) rfl ?_ | refine callSG_con (hWt) rfl ?_
    simp -implicitDefEqProofs only [xC_skip, evS, evT, decide_true, decide_false, decide_eq_true_eq, sides, Inst.places, List.mem_cons, List.not_mem_nil, forall_eq_or_imp, forall_eq, false_implies, implies_true, Apart, xeff, xhv, hv, effC, xev, look, argSl, atL_do, drops_at, keep, inBlockT, pickX, callX, callCX, callSX, callee, reduceCtorEq, ↓reduceIte, Nat.reduceEqDiff, Nat.reduceAdd, Nat.reduceMul, eq_self, Int.reduceToNat, Int.reduceAdd, Int.reduceSub, Int.reduceMul, Int.reduceNeg, Int.reduceLT, Int.reduceLE, rowD, rowI, rowsD, ivD, rowG, rowIG, rowsG, ivG, bne_self_eq_false, beq_self_eq_true, Nat.reduceLT, Nat.reduceLeDiff, ne_eq, Option.some.injEq, fillV, partsV, V.okPart, gt_iff_lt, ge_iff_le]
    (repeat (with_reducible refine And.intro (by omega) ?_))
    first | refine callG_con (hVt) rfl ?_ | refine callCG_con (hVt) rfl ?_ | refine callSG_con (hVt) rfl ?_
    simp -implicitDefEqProofs only [xC_skip, evS, evT, decide_true, decide_false, decide_eq_true_eq, sides, Inst.places, List.mem_cons, List.not_mem_nil, forall_eq_or_imp, forall_eq, false_implies, implies_true, Apart, xeff, xhv, hv, effC, xev, look, argSl, atL_do, drops_at, keep, inBlockT, pickX, callX, callCX, callSX, callee, reduceCtorEq, ↓reduceIte, Nat.reduceEqDiff, Nat.reduceAdd, Nat.reduceMul, eq_self, Int.reduceToNat, Int.reduceAdd, Int.reduceSub, Int.reduceMul, Int.reduceNeg, Int.reduceLT, Int.reduceLE, rowD, rowI, rowsD, ivD, rowG, rowIG, rowsG, ivG, bne_self_eq_false, beq_self_eq_true, Nat.reduceLT, Nat.reduceLeDiff, ne_eq, Option.some.injEq, fillV, partsV, V.okPart, gt_iff_lt, ge_iff_le]
    have zo : ∀ i, i < 2 → (Z.getD i []).length = t.n := fun i hi => by
      rcases i with _ | _ | i
      · exact hZ0
      · exact hZ1
      · omega
    have ok : Sok t Z l w (List.replicate t.n 0) := ⟨T1, by omega, zo, by omega, hwl, by simp⟩
    have ok2 : Sok t Z l v (List.replicate t.n 0) := ⟨T1, by omega, zo, by omega, hvl, by simp⟩
    have hn0 : 0 < t.n := by omega
    rcases solG_form t Z l (hW (2 ^ j)) w m with ⟨g, k, hgl, hg⟩ | ⟨k, e, hne, hg⟩
    · have hsol := corr_SolveG_ok t Z l (hW (2 ^ j)) w ((2 ^ j : Nat) : Int) m hn0 ok (Scale_pow j (by omega)) g k hg
      obtain ⟨g2, k2, hg2, k1, k3, hgl2⟩ := sol_mono t Z l (hW (2 ^ j)) w v m hwv g k hg
      have hsol2 := corr_SolveG_ok t Z l (hW (2 ^ j)) v ((2 ^ j : Nat) : Int) m hn0 ok2 (Scale_pow j (by omega)) g2 k2 hg2
      refine callS_sum _ hsol ⟨.aggs ⟨.bare _, .bare _, .bare _, trivial⟩, .bare _, .bare _, .bare _, .bare _, .bare _, trivial⟩ rfl ?_
      simp -implicitDefEqProofs only [xC_skip, evS, evT, decide_true, decide_false, decide_eq_true_eq, sides, Inst.places, List.mem_cons, List.not_mem_nil, forall_eq_or_imp, forall_eq, false_implies, implies_true, Apart, xeff, xhv, hv, effC, xev, look, argSl, atL_do, drops_at, keep, inBlockT, pickX, callX, callCX, callSX, callee, reduceCtorEq, ↓reduceIte, Nat.reduceEqDiff, Nat.reduceAdd, Nat.reduceMul, eq_self, Int.reduceToNat, Int.reduceAdd, Int.reduceSub, Int.reduceMul, Int.reduceNeg, Int.reduceLT, Int.reduceLE, rowD, rowI, rowsD, ivD, rowG, rowIG, rowsG, ivG, bne_self_eq_false, beq_self_eq_true, Nat.reduceLT, Nat.reduceLeDiff, ne_eq, Option.some.injEq, fillV, partsV, V.okPart, gt_iff_lt, ge_iff_le]
      refine callS_sum _ hsol2 ⟨.aggs ⟨.bare _, .bare _, .bare _, trivial⟩, .bare _, .bare _, .bare _, .bare _, .bare _, trivial⟩ rfl ?_
      have hk1 : decide (k2 ≤ k) = true := by simpa using k3
      have hk2 : decide ((1 : Int) ≤ (k2 : Int)) = true := by simp; omega
      simp -implicitDefEqProofs only [xC_skip, evS, evT, decide_true, decide_false, decide_eq_true_eq, sides, Inst.places, List.mem_cons, List.not_mem_nil, forall_eq_or_imp, forall_eq, false_implies, implies_true, Apart, xeff, xhv, hv, effC, xev, look, argSl, atL_do, drops_at, keep, inBlockT, pickX, callX, callCX, callSX, callee, reduceCtorEq, ↓reduceIte, Nat.reduceEqDiff, Nat.reduceAdd, Nat.reduceMul, eq_self, Int.reduceToNat, Int.reduceAdd, Int.reduceSub, Int.reduceMul, Int.reduceNeg, Int.reduceLT, Int.reduceLE, rowD, rowI, rowsD, ivD, rowG, rowIG, rowsG, ivG, bne_self_eq_false, beq_self_eq_true, Nat.reduceLT, Nat.reduceLeDiff, ne_eq, Option.some.injEq, fillV, partsV, V.okPart, gt_iff_lt, ge_iff_le, hk1, hk2]
      exact endsT_rett rfl (by decide) (by simp [look])
    · have hsol := corr_SolveG_no t Z l (hW (2 ^ j)) w ((2 ^ j : Nat) : Int) m hn0 ok (Scale_pow j (by omega)) k e hne hg
      have he' : (e != 0) = true := by simpa using hne
      refine callS_sumN _ hsol ⟨.aggs ⟨.bare _, .bare _, .bare _, trivial⟩, .bare _, .bare _, .bare _, .bare _, .bare _, trivial⟩ rfl ?_
      simp -implicitDefEqProofs only [xC_skip, evS, evT, decide_true, decide_false, decide_eq_true_eq, sides, Inst.places, List.mem_cons, List.not_mem_nil, forall_eq_or_imp, forall_eq, false_implies, implies_true, Apart, xeff, xhv, hv, effC, xev, look, argSl, atL_do, drops_at, keep, inBlockT, pickX, callX, callCX, callSX, callee, reduceCtorEq, ↓reduceIte, Nat.reduceEqDiff, Nat.reduceAdd, Nat.reduceMul, eq_self, Int.reduceToNat, Int.reduceAdd, Int.reduceSub, Int.reduceMul, Int.reduceNeg, Int.reduceLT, Int.reduceLE, rowD, rowI, rowsD, ivD, rowG, rowIG, rowsG, ivG, bne_self_eq_false, beq_self_eq_true, Nat.reduceLT, Nat.reduceLeDiff, ne_eq, Option.some.injEq, fillV, partsV, V.okPart, gt_iff_lt, ge_iff_le]
      rcases solG_form t Z l (hW (2 ^ j)) v m with ⟨g2, k2, hgl2, hg2⟩ | ⟨k2, e2, hne2, hg2⟩
      · have hsol2 := corr_SolveG_ok t Z l (hW (2 ^ j)) v ((2 ^ j : Nat) : Int) m hn0 ok2 (Scale_pow j (by omega)) g2 k2 hg2
        refine callS_sum _ hsol2 ⟨.aggs ⟨.bare _, .bare _, .bare _, trivial⟩, .bare _, .bare _, .bare _, .bare _, .bare _, trivial⟩ rfl ?_
        simp -implicitDefEqProofs only [xC_skip, evS, evT, decide_true, decide_false, decide_eq_true_eq, sides, Inst.places, List.mem_cons, List.not_mem_nil, forall_eq_or_imp, forall_eq, false_implies, implies_true, Apart, xeff, xhv, hv, effC, xev, look, argSl, atL_do, drops_at, keep, inBlockT, pickX, callX, callCX, callSX, callee, reduceCtorEq, ↓reduceIte, Nat.reduceEqDiff, Nat.reduceAdd, Nat.reduceMul, eq_self, Int.reduceToNat, Int.reduceAdd, Int.reduceSub, Int.reduceMul, Int.reduceNeg, Int.reduceLT, Int.reduceLE, rowD, rowI, rowsD, ivD, rowG, rowIG, rowsG, ivG, bne_self_eq_false, beq_self_eq_true, Nat.reduceLT, Nat.reduceLeDiff, ne_eq, Option.some.injEq, fillV, partsV, V.okPart, gt_iff_lt, ge_iff_le, he']
        exact endsT_rett rfl (by decide) (by simp [look])
      · have hsol2 := corr_SolveG_no t Z l (hW (2 ^ j)) v ((2 ^ j : Nat) : Int) m hn0 ok2 (Scale_pow j (by omega)) k2 e2 hne2 hg2
        refine callS_sumN _ hsol2 ⟨.aggs ⟨.bare _, .bare _, .bare _, trivial⟩, .bare _, .bare _, .bare _, .bare _, .bare _, trivial⟩ rfl ?_
        simp -implicitDefEqProofs only [xC_skip, evS, evT, decide_true, decide_false, decide_eq_true_eq, sides, Inst.places, List.mem_cons, List.not_mem_nil, forall_eq_or_imp, forall_eq, false_implies, implies_true, Apart, xeff, xhv, hv, effC, xev, look, argSl, atL_do, drops_at, keep, inBlockT, pickX, callX, callCX, callSX, callee, reduceCtorEq, ↓reduceIte, Nat.reduceEqDiff, Nat.reduceAdd, Nat.reduceMul, eq_self, Int.reduceToNat, Int.reduceAdd, Int.reduceSub, Int.reduceMul, Int.reduceNeg, Int.reduceLT, Int.reduceLE, rowD, rowI, rowsD, ivD, rowG, rowIG, rowsG, ivG, bne_self_eq_false, beq_self_eq_true, Nat.reduceLT, Nat.reduceLeDiff, ne_eq, Option.some.injEq, fillV, partsV, V.okPart, gt_iff_lt, ge_iff_le, he']
        exact endsT_rett rfl (by decide) (by simp [look])
end Go.Ab
