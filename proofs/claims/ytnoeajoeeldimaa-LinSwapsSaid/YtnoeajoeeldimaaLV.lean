/- LinSwaps: two rows, and what is asked for of them, in each other's place. -/
import Derived.Test.YtnoeajoeeldimaaLU
namespace Go.Ab
set_option linter.unusedSimpArgs false
set_option linter.unusedVariables false
open Go Go.Proofs
def A_l6_LinSwaps_L0 : CA := (.seq (.seq (.reg [⟨0, (some 36), none, [], [], (.h (.mov (.t 14)))⟩, ⟨1, (some 37), none, [], [], (.h (.mov (.t 13)))⟩, ⟨2, (some 38), none, [], [], (.h (.ibin .lss (.t 36) (.t 37)))⟩] [2, 3, 4, 11, 12, 13, 14, 38]) (.cond (.t 38) .skip (.exit 0))) (.seq (.block 1 (.reg [⟨0, (some 41), none, [], [], (.h (.mov (.t 11)))⟩, ⟨1, (some 42), none, [], [], (.h (.mov (.t 14)))⟩, ⟨2, (some 43), none, [], [], (.h (.idx (.t 41) (.t 42) 1))⟩, ⟨3, (some 44), none, [], [], (.load (.t 43) 1 false)⟩, ⟨4, (some 45), none, [], [], (.h (.mov (.t 14)))⟩, ⟨5, (some 46), none, [], [], (.h (.mov (.t 12)))⟩, ⟨6, (some 47), none, [], [], (.h (.mov (.t 14)))⟩, ⟨7, (some 48), none, [], [], (.h (.idx (.t 46) (.t 47) 1))⟩, ⟨8, (some 49), none, [], [], (.load (.t 48) 1 false)⟩, ⟨9, (some 50), none, [], [], (.h (.mov (.t 14)))⟩, ⟨10, (some 51), none, [], [], (.h (.mov (.t 11)))⟩, ⟨11, (some 52), none, [], [], (.h (.mov (.t 14)))⟩, ⟨12, (some 53), none, [], [], (.h (.idx (.t 51) (.t 52) 1))⟩, ⟨13, (some 54), none, [], [], (.load (.t 53) 1 false)⟩, ⟨14, (some 55), none, [], [], (.h (.mov (.t 14)))⟩, ⟨15, (some 56), none, [], [], (.h (.idx (.t 54) (.t 55) 1))⟩, ⟨16, (some 57), none, [], [], (.load (.t 56) 1 false)⟩, ⟨17, (some 58), none, [], [], (.h (.fbin .add (.t 57) (.k (.d (.flt 4630826316843712512)))))⟩, ⟨18, (some 59), none, [], [], (.h (.mov (.t 12)))⟩, ⟨19, (some 60), none, [], [], (.h (.mov (.t 14)))⟩, ⟨20, (some 61), none, [], [], (.h (.idx (.t 59) (.t 60) 1))⟩, ⟨21, (some 62), none, [], [], (.load (.t 61) 1 false)⟩, ⟨22, (some 63), none, [], [], (.h (.mov (.t 14)))⟩, ⟨23, (some 64), none, [], [], (.h (.idx (.t 62) (.t 63) 1))⟩, ⟨24, (some 65), none, [], [], (.load (.t 64) 1 false)⟩, ⟨25, (some 66), none, [], [], (.h (.fbin .add (.t 65) (.k (.d (.flt 4630826316843712512)))))⟩, ⟨26, (some 67), none, [], [], (.h (.idx (.t 44) (.t 45) 1))⟩, ⟨27, none, none, [], [], (.store (.t 67) (.t 58) 1)⟩, ⟨28, (some 68), none, [], [], (.h (.idx (.t 49) (.t 50) 1))⟩, ⟨29, none, none, [], [], (.store (.t 68) (.t 66) 1)⟩] [2, 3, 4, 11, 12, 13, 14])) (.reg [⟨0, (some 39), none, [], [], (.h (.mov (.t 14)))⟩, ⟨1, (some 40), none, [], [], (.h (.ibin .add (.t 39) (.k (.d (.int .i64 1)))))⟩, ⟨2, (some 14), none, [], [], (.h (.mov (.t 40)))⟩] [2, 3, 4, 11, 12, 13, 14])))
def A_l6_LinSwaps_L1 : CA := (.seq (.seq (.reg [⟨0, (some 141), none, [], [], (.h (.mov (.t 25)))⟩, ⟨1, (some 142), none, [], [], (.h (.mov (.t 13)))⟩, ⟨2, (some 143), none, [], [], (.h (.ibin .lss (.t 141) (.t 142)))⟩] [13, 23, 24, 25, 143]) (.cond (.t 143) .skip (.exit 2))) (.seq (.block 3 (.seq (.reg [⟨0, (some 146), none, [], [], (.h (.mov (.t 23)))⟩, ⟨1, (some 147), none, [], [], (.h (.mov (.t 25)))⟩, ⟨2, (some 148), none, [], [], (.h (.idx (.t 146) (.t 147) 1))⟩, ⟨3, (some 149), none, [], [], (.load (.t 148) 1 false)⟩, ⟨4, (some 150), none, [], [], (.h (.mov (.t 24)))⟩, ⟨5, (some 151), none, [], [], (.h (.mov (.t 25)))⟩, ⟨6, (some 152), none, [], [], (.h (.idx (.t 150) (.t 151) 1))⟩, ⟨7, (some 153), none, [], [], (.load (.t 152) 1 false)⟩, ⟨8, (some 154), none, [], [], (.h (.fbin .sub (.t 149) (.t 153)))⟩, ⟨9, (some 155), none, [], [], (.callA (.k (.d (.fn 29 [] []))) [(.t 154)])⟩, ⟨10, (some 156), none, [], [], (.h (.fcmp .gt (.t 155) (.k (.d (.flt 4472406533629990549)))))⟩] [13, 23, 24, 25, 156]) (.cond (.t 156) (.seq (.reg [⟨0, (some 10), none, [], [], (.h (.mov (.k (.d (.bool false)))))⟩] [10]) .ret) .skip))) (.reg [⟨0, (some 144), none, [], [], (.h (.mov (.t 25)))⟩, ⟨1, (some 145), none, [], [], (.h (.ibin .add (.t 144) (.k (.d (.int .i64 1)))))⟩, ⟨2, (some 25), none, [], [], (.h (.mov (.t 145)))⟩] [13, 23, 24, 25])))
def A_l6_LinSwaps : CA := (.seq (.reg [⟨0, (some 10), none, [], [], (.h (.mov (.k (.d (.bool false)))))⟩] [0, 1, 2, 3, 4]) (.seq (.seq (.reg [⟨0, (some 26), none, [], [], (.callA (.k (.d (.fn 13 [] []))) [])⟩, ⟨1, (some 27), none, [], [], (.h (.un .not (.t 26)))⟩] [0, 1, 2, 3, 4, 27]) (.cond (.t 27) (.seq (.reg [⟨0, (some 10), none, [], [], (.h (.mov (.k (.d (.bool false)))))⟩] [10]) .ret) .skip)) (.seq (.reg [⟨0, (some 28), none, [], [], (.h (.mov (.t 0)))⟩, ⟨1, (some 29), none, [], [], (.h (.mov (.t 1)))⟩, ⟨2, (some 30), none, [], [], (.callA (.k (.d (.fn 14 [] []))) [(.t 28), (.t 29), (.k (.d (.int .i64 1)))])⟩, ⟨3, (some 31), none, [], [], (.h (.mov (.t 0)))⟩, ⟨4, (some 32), none, [], [], (.h (.mov (.t 1)))⟩, ⟨5, (some 33), none, [], [], (.callA (.k (.d (.fn 14 [] []))) [(.t 31), (.t 32), (.k (.d (.int .i64 1)))])⟩, ⟨6, (some 11), none, [], [], (.h (.mov (.t 30)))⟩, ⟨7, (some 12), none, [], [], (.h (.mov (.t 33)))⟩] [2, 3, 4, 11, 12]) (.seq (.reg [⟨0, (some 34), none, [], [], (.h (.mov (.t 11)))⟩, ⟨1, (some 35), none, [], [], (.h (.len (.t 34)))⟩, ⟨2, (some 13), none, [], [], (.h (.mov (.t 35)))⟩] [2, 3, 4, 11, 12, 13]) (.seq (.seq (.reg [⟨0, (some 14), none, [], [], (.h (.mov (.k (.d (.int .i64 0)))))⟩] [2, 3, 4, 11, 12, 13, 14]) (.block 0 (.loop A_l6_LinSwaps_L0))) (.seq (.reg [⟨0, (some 69), none, [], [], (.h (.mov (.t 3)))⟩, ⟨1, (some 70), none, [], [], (.h (.mov (.t 13)))⟩, ⟨2, (some 71), none, [], [], (.callA (.k (.d (.fn 27 [] []))) [(.t 69), (.t 70)])⟩, ⟨3, (some 72), none, [], [], (.h (.mov (.t 4)))⟩, ⟨4, (some 73), none, [], [], (.h (.mov (.t 13)))⟩, ⟨5, (some 74), none, [], [], (.callA (.k (.d (.fn 27 [] []))) [(.t 72), (.t 73)])⟩, ⟨6, (some 15), none, [], [], (.h (.mov (.t 71)))⟩, ⟨7, (some 16), none, [], [], (.h (.mov (.t 74)))⟩] [2, 11, 12, 13, 15, 16]) (.seq (.reg [⟨0, (some 75), none, [], [], (.h (.mov (.t 13)))⟩, ⟨1, (some 76), none, [], [], (.h (.mov (.t 2)))⟩, ⟨2, (some 77), none, [], [], (.callA (.k (.d (.fn 15 [] []))) [(.t 75), (.t 76)])⟩, ⟨3, (some 78), none, [], [], (.h (.mov (.t 13)))⟩, ⟨4, (some 79), none, [], [], (.h (.mov (.t 2)))⟩, ⟨5, (some 80), none, [], [], (.callA (.k (.d (.fn 15 [] []))) [(.t 78), (.t 79)])⟩, ⟨6, (some 17), none, [], [], (.h (.mov (.t 77)))⟩, ⟨7, (some 18), none, [], [], (.h (.mov (.t 80)))⟩] [11, 12, 13, 15, 16, 17, 18]) (.seq (.reg [⟨0, (some 81), none, [], [], (.h (.mov (.t 12)))⟩, ⟨1, (some 82), none, [], [], (.h (.mov (.t 15)))⟩, ⟨2, (some 83), none, [], [], (.h (.mov (.t 12)))⟩, ⟨3, (some 84), none, [], [], (.h (.mov (.t 16)))⟩, ⟨4, (some 85), none, [], [], (.h (.mov (.t 12)))⟩, ⟨5, (some 86), none, [], [], (.h (.mov (.t 16)))⟩, ⟨6, (some 87), none, [], [], (.h (.idx (.t 85) (.t 86) 1))⟩, ⟨7, (some 88), none, [], [], (.load (.t 87) 1 false)⟩, ⟨8, (some 89), none, [], [], (.h (.mov (.t 12)))⟩, ⟨9, (some 90), none, [], [], (.h (.mov (.t 15)))⟩, ⟨10, (some 91), none, [], [], (.h (.idx (.t 89) (.t 90) 1))⟩, ⟨11, (some 92), none, [], [], (.load (.t 91) 1 false)⟩, ⟨12, (some 93), none, [], [], (.h (.idx (.t 81) (.t 82) 1))⟩, ⟨13, none, none, [], [], (.store (.t 93) (.t 88) 1)⟩, ⟨14, (some 94), none, [], [], (.h (.idx (.t 83) (.t 84) 1))⟩, ⟨15, none, none, [], [], (.store (.t 94) (.t 92) 1)⟩] [11, 12, 13, 15, 16, 17, 18]) (.seq (.reg [⟨0, (some 95), none, [], [], (.h (.mov (.t 18)))⟩, ⟨1, (some 96), none, [], [], (.h (.mov (.t 15)))⟩, ⟨2, (some 97), none, [], [], (.h (.mov (.t 18)))⟩, ⟨3, (some 98), none, [], [], (.h (.mov (.t 16)))⟩, ⟨4, (some 99), none, [], [], (.h (.mov (.t 18)))⟩, ⟨5, (some 100), none, [], [], (.h (.mov (.t 16)))⟩, ⟨6, (some 101), none, [], [], (.h (.idx (.t 99) (.t 100) 1))⟩, ⟨7, (some 102), none, [], [], (.load (.t 101) 1 false)⟩, ⟨8, (some 103), none, [], [], (.h (.mov (.t 18)))⟩, ⟨9, (some 104), none, [], [], (.h (.mov (.t 15)))⟩, ⟨10, (some 105), none, [], [], (.h (.idx (.t 103) (.t 104) 1))⟩, ⟨11, (some 106), none, [], [], (.load (.t 105) 1 false)⟩, ⟨12, (some 107), none, [], [], (.h (.idx (.t 95) (.t 96) 1))⟩, ⟨13, none, none, [], [], (.store (.t 107) (.t 102) 1)⟩, ⟨14, (some 108), none, [], [], (.h (.idx (.t 97) (.t 98) 1))⟩, ⟨15, none, none, [], [], (.store (.t 108) (.t 106) 1)⟩] [11, 12, 13, 17, 18]) (.seq (.reg [⟨0, (some 110), none, [], [], (.h (.mov (.t 11)))⟩, ⟨1, (some 111), none, [], [], (.callA (.k (.d (.fn 16 [] []))) [(.t 110)])⟩, ⟨2, (some 109), none, [], [], (.h (.mov (.t 111)))⟩, ⟨3, (some 112), none, [], [], (.h (.ext (.t 109) 0))⟩, ⟨4, (some 113), none, [], [], (.h (.ext (.t 109) 1))⟩, ⟨5, (some 19), none, [], [], (.alloc [.nil, .nil] 29)⟩, ⟨6, none, none, [], [], (.store (.t 19) (.t 112) 2)⟩, ⟨7, (some 20), none, [], [], (.h (.mov (.t 113)))⟩] [12, 13, 17, 18, 19, 20]) (.seq (.reg [⟨0, (some 115), none, [], [], (.h (.mov (.t 12)))⟩, ⟨1, (some 116), none, [], [], (.callA (.k (.d (.fn 16 [] []))) [(.t 115)])⟩, ⟨2, (some 114), none, [], [], (.h (.mov (.t 116)))⟩, ⟨3, (some 117), none, [], [], (.h (.ext (.t 114) 0))⟩, ⟨4, (some 118), none, [], [], (.h (.ext (.t 114) 1))⟩, ⟨5, (some 21), none, [], [], (.alloc [.nil, .nil] 29)⟩, ⟨6, none, none, [], [], (.store (.t 21) (.t 117) 2)⟩, ⟨7, (some 22), none, [], [], (.h (.mov (.t 118)))⟩] [13, 17, 18, 19, 20, 21, 22]) (.seq (.seq (.reg [⟨0, (some 119), none, [], [], (.h (.mov (.t 20)))⟩, ⟨1, (some 120), none, [], [], (.h (.un .not (.t 119)))⟩, ⟨2, (some 121), none, [], [], (.h (.mov (.t 120)))⟩, ⟨3, (some 122), (some (121, false)), [], [], (.h (.mov (.t 22)))⟩, ⟨4, (some 123), (some (121, false)), [], [], (.h (.un .not (.t 122)))⟩, ⟨5, (some 124), none, [], [], (.h (.pick (.t 121) (.k (.d (.bool true))) (.t 123)))⟩] [13, 17, 18, 19, 21, 124]) (.cond (.t 124) (.seq (.reg [⟨0, (some 10), none, [], [], (.h (.mov (.k (.d (.bool false)))))⟩] [10]) .ret) .skip)) (.seq (.reg [⟨0, (some 125), none, [], [], (.load (.t 19) 2 true)⟩, ⟨1, (some 126), none, [], [], (.h (.mov (.t 17)))⟩, ⟨2, (some 127), none, [], [], (.callS 2 (.k (.d (.fn 24 [] []))) [(.t 125), (.t 126)])⟩, ⟨3, (some 128), none, [], [], (.load (.t 21) 2 true)⟩, ⟨4, (some 129), none, [], [], (.h (.mov (.t 18)))⟩, ⟨5, (some 130), none, [], [], (.callA (.k (.d (.fn 24 [] []))) [(.t 128), (.t 129)])⟩, ⟨6, (some 23), none, [], [], (.h (.mov (.t 127)))⟩, ⟨7, (some 24), none, [], [], (.h (.mov (.t 130)))⟩] [13, 23, 24]) (.seq (.seq (.reg [⟨0, (some 131), none, [], [], (.h (.mov (.t 23)))⟩, ⟨1, (some 132), none, [], [], (.h (.len (.t 131)))⟩, ⟨2, (some 133), none, [], [], (.h (.mov (.t 13)))⟩, ⟨3, (some 134), none, [], [], (.h (.ibin .neq (.t 132) (.t 133)))⟩, ⟨4, (some 135), none, [], [], (.h (.mov (.t 134)))⟩, ⟨5, (some 136), (some (135, false)), [], [], (.h (.mov (.t 24)))⟩, ⟨6, (some 137), (some (135, false)), [], [], (.h (.len (.t 136)))⟩, ⟨7, (some 138), (some (135, false)), [], [], (.h (.mov (.t 13)))⟩, ⟨8, (some 139), (some (135, false)), [], [], (.h (.ibin .neq (.t 137) (.t 138)))⟩, ⟨9, (some 140), none, [], [], (.h (.pick (.t 135) (.k (.d (.bool true))) (.t 139)))⟩] [13, 23, 24, 140]) (.cond (.t 140) (.seq (.reg [⟨0, (some 10), none, [], [], (.h (.mov (.k (.d (.bool false)))))⟩] [10]) .ret) .skip)) (.seq (.seq (.reg [⟨0, (some 25), none, [], [], (.h (.mov (.k (.d (.int .i64 0)))))⟩] [13, 23, 24, 25]) (.block 2 (.loop A_l6_LinSwaps_L1))) (.seq (.reg [⟨0, (some 10), none, [], [], (.h (.mov (.k (.d (.bool true)))))⟩] [10]) .ret))))))))))))))))
theorem A_l6_LinSwaps_comp : compF Try.prog 9 = some ⟨157, [(10, none)], A_l6_LinSwaps.strip⟩ := by kernel_rfl
/-- The same rows in another order are parted into the same, by the order they came in. -/
theorem far_order (A C : List (List Nat)) (n : Nat) (τ : List Int) (hA : Sq n A) (hC : Sq n C) (hn : n ≤ 5) (hB : Bd n A 44) (h : Far n 0 A) (hτ : Pr n τ) (hAC : ∀ r c, r < n → c < n → at2 C r c = at2 A (plN τ r) c) :
    ∀ K, K ≤ n → ∃ B D π σ, partP A n K = some (B, rangeI n) ∧ partP C n K = some (D, π) ∧ Sq n B ∧ Bd n B (grow 44 K) ∧ Far n K B ∧ Sq n D ∧ Pr n π ∧ Pr n σ ∧
      (∀ r c, r < n → c < n → at2 D r c = at2 B (plN σ r) c) ∧ (∀ r, r < K → plN σ r = r) ∧ ∀ r, r < n → plN τ (plN π r) = plN σ r := by
  intro K
  induction K with
  | zero =>
    intro _
    refine ⟨A, C, rangeI n, τ, rfl, rfl, hA, hB, h, hC, .range n, hτ, hAC, fun r hr => by omega, fun r hr => ?_⟩
    have : plN (rangeI n) r = r := by unfold plN; exact rangeI_toNat n r hr
    rw [this]
  | succ K ih =>
    intro hK
    obtain ⟨B, D, π, σ, h1, h1', h2, h3, h4, h2', hπ, hσ, hat, hlow, hcomp⟩ := ih (by omega)
    have hg := grow44 K (by omega)
    have hst := far_strict n K B (by omega) h4
    have hpv := pv_unique B n K K (grow 44 K) h3 (by omega) (Nat.le_refl K) (by omega) (fun r hr hrn hne => hst r (by omega) hrn)
    have hkk := h4.dia K (Nat.le_refl K) (by omega)
    have hmd := mB_le K
    have hf := (h3 K K (by omega) (by omega)).1
    have hz : va B K K ≠ 0 := by grind
    obtain ⟨s1, s2, s3, s4⟩ := step_bd B n K (grow 44 K) h2 (by omega) h3 hg.2 hg.1 hz (fun r h1 h2 => Rat.le_of_lt (hst r h1 h2))
    have e1 : fcmp .eq (at2 B K K) 0 = false := by
      have : ¬ fcmp .eq (at2 B K K) 0 = true := by
        rw [fcmp_eq hf fin_zero, val_zero]; exact hz
      simpa using this
    have hstepB : partP A n (K + 1) = some (elimI B n K (n - 1 - K), rangeI n) := by
      simp only [partP, h1, Option.bind_some, stepP]
      rw [hpv, if_neg (by simp [e1, fin_finite hf]), swap_same _ B K (by have := h2.1; omega), swap_same _ _ K (by rw [rangeI_len]; omega)]
    -- where the pivot lies
    obtain ⟨p, hp, hpe⟩ := hσ.surN (c := K) (by omega)
    have hKp : K ≤ p := by
      by_cases e : p < K
      · have := hlow p e; omega
      · omega
    have hfrom : ∀ r, K ≤ r → r < n → K ≤ plN σ r := by
      intro r hr hrn
      by_cases e : plN σ r < K
      · have h5 := hlow _ e
        have := hσ.injN (by omega) hrn h5
        omega
      · omega
    have hDv : ∀ r c, r < n → c < n → va D r c = va B (plN σ r) c := fun r c hr hc => by unfold va; rw [hat r c hr hc]
    have hDb : Bd n D (grow 44 K) := fun r c hr hc => by rw [hat r c hr hc, hDv r c hr hc]; exact h3 _ _ (hσ.lt hr) hc
    have hpvD := pv_unique D n K p (grow 44 K) hDb (by omega) hKp hp (fun r hr hrn hne => by
      rw [hDv r K hrn (by omega), hDv p K hp (by omega), hpe]
      have h5 := hfrom r hr hrn
      have h6 : plN σ r ≠ K := fun e => hne (hσ.injN hrn hp (by rw [e, hpe]))
      exact hst _ (by omega) (hσ.lt hrn))
    have hDpK : at2 D p K = at2 B K K := by rw [hat p K hp (by omega), hpe]
    have hS := swapL_sq D n K p h2' (by omega) hp
    have hstepC : partP C n (K + 1) = some (elimI (swapL [] D K p) n K (n - 1 - K), swapL 0 π K p) := by
      simp only [partP, h1', Option.bind_some, stepP]
      rw [hpvD, hDpK, if_neg (by simp [e1, fin_finite hf])]
    have hσ' := hσ.swap (a := K) (b := p) (by omega) hp
    have hπ' := hπ.swap (a := K) (b := p) (by omega) hp
    have hsig : ∀ r, plN (swapL 0 σ K p) r = plN σ (sw K p r) := fun r => plN_swap hσ (by omega) hp r
    have hpi : ∀ r, plN (swapL 0 π K p) r = plN π (sw K p r) := fun r => plN_swap hπ (by omega) hp r
    have hlow' : ∀ r, r < K + 1 → plN (swapL 0 σ K p) r = r := by
      intro r hr
      rw [hsig]
      by_cases e : r = K
      · have : sw K p r = p := by unfold sw; rw [if_pos e]
        rw [this, hpe, e]
      · rw [sw_below hKp (by omega)]; exact hlow r (by omega)
    have hSat : ∀ r c, r < n → c < n → at2 (swapL [] D K p) r c = at2 B (plN (swapL 0 σ K p) r) c := by
      intro r c hr hc
      rw [at2_swapL D n K p r c h2' (by omega) hp, hat _ _ (sw_lt (by omega) hp hr) hc, hsig]
    have habove : ∀ r, K < r → r < n → K < plN (swapL 0 σ K p) r := by
      intro r hr hrn
      by_cases e : plN (swapL 0 σ K p) r < K + 1
      · have h5 := hlow' _ e
        have := hσ'.injN (by omega) hrn h5
        omega
      · omega
    refine ⟨_, _, _, swapL 0 σ K p, hstepB, hstepC, elimI_sq _ _ _ h2 _, s1, far_step B n K (grow 44 K) h2 (by omega) hn h3 hg.2 hg.1 h4, elimI_sq _ _ _ hS _, hπ', hσ', fun r c hr hc => ?_, hlow', fun r hr => ?_⟩
    · rw [elim_at _ n K hS (by omega) r c hr hc, elim_at _ n K h2 (by omega) _ c (hσ'.lt hr) hc]
      have hK0 := hlow' K (by omega)
      have hKc := hSat K c (by omega) hc
      have hKK := hSat K K (by omega) (by omega)
      have hrc := hSat r c hr hc
      have hrK := hSat r K hr (by omega)
      rw [hK0] at hKc hKK
      unfold stepAt multP
      by_cases h5 : r ≤ K
      · have h6 := hlow' r (by omega)
        rw [h6] at hrc ⊢
        rw [if_pos (.inl h5), if_pos (.inl h5), hrc]
      · have h6 := habove r (by omega) hr
        by_cases h7 : c < K
        · rw [if_pos (.inr h7), if_pos (.inr h7), hrc]
        · rw [if_neg (by omega : ¬ (r ≤ K ∨ c < K)), if_neg (by omega : ¬ (plN (swapL 0 σ K p) r ≤ K ∨ c < K)), hrc, hrK, hKK, hKc]
    · rw [hpi, hsig]; exact hcomp _ (sw_lt (by omega) hp hr)
theorem fwdI_congr (B : List (List Nat)) (π ρ : List Int) (b d : List Nat) (n : Nat) (h : ∀ i, i < n → b.getD (π.getD i 0).toNat 0 = d.getD (ρ.getD i 0).toNat 0) : ∀ m, m ≤ n → fwdI B π b n m = fwdI B ρ d n m := by
  intro m
  induction m with
  | zero => intro _; rfl
  | succ m ih => intro hm; simp only [fwdI]; rw [ih (by omega), h m (by omega)]
theorem solveP_congr (B : List (List Nat)) (π ρ : List Int) (b d : List Nat) (n : Nat) (h : ∀ i, i < n → b.getD (π.getD i 0).toNat 0 = d.getD (ρ.getD i 0).toNat 0) : solveP B π b n = solveP B ρ d n := by
  unfold solveP; rw [fwdI_congr B π ρ b d n h n (Nat.le_refl n)]
theorem sub_self_small {x : Nat} (h : fin x) : fcmp .gt (fabs (fop .sub x x)) nano = false := by
  have e : fop .sub x x = 0 := by
    obtain ⟨s, m, i, hd⟩ := h
    have ht : Ieee.signed s m 0 + Ieee.signed (!s) m 0 = 0 := by
      cases s <;> simp [Ieee.signed] <;> omega
    have hs : (s && !s) = false := by cases s <;> rfl
    have hw : Ieee.double.write (.number false 0 i) = 0 := by simp [Ieee.Format.write, Ieee.Format.nearest, Ieee.Format.word]
    simp [fop, Ieee.Format.sub, hd, Ieee.Datum.sum, Ieee.Datum.opposite, ht, hs, hw, cf, isNan]
  have h0 : fcmp .gt (fabs 0) nano = false := by kernel_rfl
  rw [e]; exact h0
/-- With two rows, and what is asked for of them, in each other's place the solution is the same. -/
theorem swaps_law (ns bs : List Int) (k i j : Nat) (hk : k ≤ 5) (hi : i < k) (hj : j < k) : ∃ B D π, partP (addD (mkM ns k k) k) k k = some (B, rangeI k) ∧ partP (swapL [] (addD (mkM ns k k) k) i j) k k = some (D, π) ∧
    (∀ t, t < k → fcmp .gt (fabs (fop .sub ((solveP B (rangeI k) (rowM k bs) k).getD t 0) ((solveP D π (swapL 0 (rowM k bs) i j) k).getD t 0))) nano = false) := by
  obtain ⟨B0, hp0, hfin, _⟩ := solves_law ns bs k hk
  obtain ⟨hB, hF⟩ := far_M ns k
  have hsq := addD_sq _ k (mkM_sq ns k) k
  generalize addD (mkM ns k k) k = A at *
  have hτ := (Pr.range k).swap hi hj
  have hτe : ∀ r, r < k → plN (swapL 0 (rangeI k) i j) r = sw i j r := by
    intro r hr
    rw [plN_swap (.range k) hi hj]
    unfold plN
    exact rangeI_toNat k _ (sw_lt hi hj hr)
  have hCs := swapL_sq A k i j hsq hi hj
  obtain ⟨B, D, π, σ, h1, h2, h3, h4, h5, h6, h7, h8, h9, h10, h11⟩ := far_order A (swapL [] A i j) k (swapL 0 (rangeI k) i j) hsq hCs hk hB hF hτ
    (fun r c hr hc => by rw [hτe r hr]; exact at2_swapL A k i j r c hsq hi hj) k (Nat.le_refl k)
  obtain rfl : B0 = B := by rw [hp0] at h1; simpa using h1
  have hDB : D = B0 := sq_ext h6 h3 fun r c hr hc => by rw [h9 r c hr hc, h10 r hr]
  subst hDB
  refine ⟨D, D, π, h1, h2, fun t ht => ?_⟩
  have hpi : ∀ r, r < k → plN π r = sw i j r := by
    intro r hr
    have := h11 r hr
    rw [h10 r hr, hτe _ (h7.lt hr)] at this
    have e := congrArg (sw i j) this
    rw [sw_sw] at e; exact e
  have hbl := rowM_len k bs
  have e : solveP D π (swapL 0 (rowM k bs) i j) k = solveP D (rangeI k) (rowM k bs) k := by
    refine solveP_congr D _ _ _ _ k fun r hr => ?_
    have h12 : ((π.getD r 0).toNat : Nat) = sw i j r := hpi r hr
    rw [h12, rangeI_toNat k r hr, getD_swapL 0 _ i j _ (by omega) (by omega), sw_sw]
  rw [e]
  exact sub_self_small (hfin t ht)
theorem snp_rowsG {L : Heap} {H r0 n len ver : Nat} {cells : List V} {A : List (List Nat)} (h : L.get H r0 = some cells) (hc : cells.length = ver) (hA : ∀ r, r < n → ∃ X q, cells.getD r .any = .sl X q 0 len 1 len ∧ L.get X q = some (rowV (A.getD r [])) ∧ (A.getD r []).length = len)
    (hn : A.length = n) (hv : n = ver) : Snap L (.sl H r0 0 n 1 ver) (.d (rowsD A)) := by
  subst hn
  refine .sl h hc (by omega) (fun i hi => rfl) fun i j hi hj => ?_
  obtain rfl : j = 0 := by omega
  obtain ⟨X, q, h1, h2, h3⟩ := hA i hi
  rw [show 0 + i * 1 + 0 = i from by omega, h1]
  exact snp_row h2 h3 rfl
theorem part_namedG {L : Heap} {H r0 n : Nat} {cells : List V} {A B : List (List Nat)} {π : List Int} (k : Nat) (hk : L.next ≤ k) (hA : Sq n A) (hn : n < 2 ^ 40) (hH : L.get H r0 = some cells) (hc : cells.length = n)
    (hX : ∀ r, r < n → ∃ X q, cells.getD r .any = .sl X q 0 n 1 n ∧ L.get X q = some (rowV (A.getD r []))) (hp : partP A n n = some (B, π)) (K : V → Heap → Prop)
    (h : K (.tup [.agg [.sl (2 + k) 0 0 n 1 n, .sl (5 + k) 0 0 n 1 n], fB true]) ((7 + k, [[.sl (2 + k) 0 0 n 1 n, .sl (5 + k) 0 0 n 1 n]]) :: (5 + k, [rowIV π]) :: (2 + k, hdo (2 + k) 1 n n :: B.map rowV) :: (0 + k, [[.sl (2 + k) 0 0 n 1 n, .sl (5 + k) 0 0 n 1 n]]) :: L)) :
    callG Try.prog 16 [.sl H r0 0 n 1 n] L K := by
  refine callG_ac (AC_frameK k hk (us := [.d (rowsD A)]) (lin_Part_some A n hA hn B π hp) rfl (.inr ⟨fun j hj => ?_, pure_luV n true, pure_lu B π n⟩)) ?_
  · obtain rfl : j = 0 := by simpa using hj
    exact snp_rowsG hH hc (fun r hr => by obtain ⟨X, q, h1, h2⟩ := hX r hr; exact ⟨X, q, h1, h2, hA.2 r hr⟩) hA.1 rfl
  have hh : (hdo 2 1 n n).map (V.ren (upF k)) = hdo (2 + k) 1 n n := hdo_ren _ 2 1 n n (2 + k) 1 (fun j _ => rfl)
  have hf : (B.map rowV).map (fun c => c.map (V.ren (upF k))) = B.map rowV := ren_fam _ B
  have hi' : (rowIV π).map (V.ren (upF k)) = rowIV π := ren_rowIV _ _
  simpa only [Heap.up, luH, luV, V.ren, V.renL, hh, hf, hi', upF, List.map_cons, List.map_nil, List.cons_append, List.nil_append] using h
def swH (A C : List (List Nat)) (k : Nat) : Heap := [(1200, C.map rowV), (1100, [hdo 1200 0 k k]), (200, A.map rowV), (100, [hdo 200 0 k k])]
set_option maxRecDepth 8000 in
theorem swaps_L0 (N : Nat → Prop) (A : List (List Nat)) (bs : List Int) (p q : Int) (k : Nat) (hA : Sq k A) (hk : k < 2 ^ 20) (Q : Ex → T → Prop)
    (hQ : ∀ v w, Q (.exit 0) ⟨[(2, .d (rowI bs)), (3, fI p), (4, fI q), (11, .sl 100 0 0 k 1 k), (12, .sl 1100 0 0 k 1 k), (13, fI k), (14, v), (38, w)], swH (addD A k) (addD A k) k⟩) :
    WA Try.prog N 157 (.loop A_l6_LinSwaps_L0) Q ⟨[(2, .d (rowI bs)), (3, fI p), (4, fI q), (11, .sl 100 0 0 k 1 k), (12, .sl 1100 0 0 k 1 k), (13, fI k), (14, fI 0)], swH A A k⟩ := by
  refine WA_for (n := k) (fun c s => ∃ i, c + i = k ∧ s = ⟨[(2, .d (rowI bs)), (3, fI p), (4, fI q), (11, .sl 100 0 0 k 1 k), (12, .sl 1100 0 0 k 1 k), (13, fI k), (14, fI i)], swH (addD A i) (addD A i) k⟩) ⟨0, by omega, rfl⟩ ?_
  rintro c s ⟨i, hc, rfl⟩
  have hB := addD_sq A k hA i
  generalize hBe : addD A i = B at hB
  have hl := hB.1
  simp -implicitDefEqProofs only [xC_skip, evS, decide_true, decide_false, decide_eq_true_eq, sides, Inst.places, List.zip_cons_cons, List.zip_nil_right, List.zip_nil_left, List.mem_cons, List.not_mem_nil, forall_eq_or_imp, forall_eq, false_implies, implies_true, Apart, xeff, xhv, hv, effC, xev, look, argSl, atL, drops, keep, inBlockT, pickX, callX, callCX, callSX, callee, List.map_cons, List.map_nil, List.append_nil, List.nil_append, List.cons_append, reduceCtorEq, ↓reduceIte, Nat.reduceEqDiff, Nat.reduceAdd, Nat.reduceMul, eq_self, List.length_replicate, Int.reduceToNat, Int.reduceAdd, Int.reduceSub, Int.reduceMul, Int.reduceNeg, Int.reduceLT, Int.reduceLE, rowD, rowI, rowsD, ivD, rowG, rowIG, rowsG, ivG, bne_self_eq_false, beq_self_eq_true, List.length_map, List.getD_cons_zero, List.getD_cons_succ, List.drop_succ_cons, List.drop_zero, List.take_succ_cons, List.take_zero, List.take_nil, List.getElem?_cons_zero, List.getElem?_cons_succ, List.length_cons, List.length_nil, List.length_set, List.set_cons_zero, List.set_cons_succ, List.all_cons, List.all_nil, Nat.reduceLT, Nat.reduceLeDiff, ne_eq, Option.some.injEq, fillV, partsV, V.okPart, gt_iff_lt, ge_iff_le, A_l6_LinSwaps_L0, swH]
  refine condC_intro (fun h => ?_) (fun h => ?_)
  · replace h := of_decide_eq_true h
    have g1 := hB.2 i h
    have hiB : i < B.length := by omega
    have e1 : i < (B.getD i []).length := by omega
    simp -implicitDefEqProofs only [xC_skip, evS, decide_true, decide_false, decide_eq_true_eq, sides, Inst.places, List.zip_cons_cons, List.zip_nil_right, List.zip_nil_left, List.mem_cons, List.not_mem_nil, forall_eq_or_imp, forall_eq, false_implies, implies_true, Apart, xeff, xhv, hv, effC, xev, look, argSl, atL, drops, keep, inBlockT, pickX, callX, callCX, callSX, callee, List.map_cons, List.map_nil, List.append_nil, List.nil_append, List.cons_append, reduceCtorEq, ↓reduceIte, Nat.reduceEqDiff, Nat.reduceAdd, Nat.reduceMul, eq_self, List.length_replicate, Int.reduceToNat, Int.reduceAdd, Int.reduceSub, Int.reduceMul, Int.reduceNeg, Int.reduceLT, Int.reduceLE, rowD, rowI, rowsD, ivD, rowG, rowIG, rowsG, ivG, bne_self_eq_false, beq_self_eq_true, List.length_map, List.getD_cons_zero, List.getD_cons_succ, List.drop_succ_cons, List.drop_zero, List.take_succ_cons, List.take_zero, List.take_nil, List.getElem?_cons_zero, List.getElem?_cons_succ, List.length_cons, List.length_nil, List.length_set, List.set_cons_zero, List.set_cons_succ, List.all_cons, List.all_nil, Nat.reduceLT, Nat.reduceLeDiff, ne_eq, Option.some.injEq, fillV, partsV, V.okPart, gt_iff_lt, ge_iff_le, hdo_getD _ _ _ _ _ h, getE B i hiB, getD_map_fl _ _ e1, setE]
    (repeat (with_reducible refine And.intro (by omega) ?_))
    rw [wrapI (by omega) (by omega)]
    refine ⟨c - 1, by omega, i + 1, by omega, ?_⟩
    simp only [addD, hBe]; rfl
  · replace h := of_decide_eq_false h
    simp -implicitDefEqProofs only [xC_skip, evS, decide_true, decide_false, decide_eq_true_eq, sides, Inst.places, List.zip_cons_cons, List.zip_nil_right, List.zip_nil_left, List.mem_cons, List.not_mem_nil, forall_eq_or_imp, forall_eq, false_implies, implies_true, Apart, xeff, xhv, hv, effC, xev, look, argSl, atL, drops, keep, inBlockT, pickX, callX, callCX, callSX, callee, List.map_cons, List.map_nil, List.append_nil, List.nil_append, List.cons_append, reduceCtorEq, ↓reduceIte, Nat.reduceEqDiff, Nat.reduceAdd, Nat.reduceMul, eq_self, List.length_replicate, Int.reduceToNat, Int.reduceAdd, Int.reduceSub, Int.reduceMul, Int.reduceNeg, Int.reduceLT, Int.reduceLE, rowD, rowI, rowsD, ivD, rowG, rowIG, rowsG, ivG, bne_self_eq_false, beq_self_eq_true, List.length_map, List.getD_cons_zero, List.getD_cons_succ, List.drop_succ_cons, List.drop_zero, List.take_succ_cons, List.take_zero, List.take_nil, List.getElem?_cons_zero, List.getElem?_cons_succ, List.length_cons, List.length_nil, List.length_set, List.set_cons_zero, List.set_cons_succ, List.all_cons, List.all_nil, Nat.reduceLT, Nat.reduceLeDiff, ne_eq, Option.some.injEq, fillV, partsV, V.okPart, gt_iff_lt, ge_iff_le]
    obtain rfl : k = i := by omega
    rw [hBe] at hQ
    exact hQ _ _
set_option maxRecDepth 8000 in
theorem swaps_L1 (N : Nat → Prop) (x y : List Nat) (k X Y : Nat) (L : Heap) (hx : x.length = k) (hy : y.length = k) (hk : k < 2 ^ 20) (h1 : L.get X 0 = some (rowV x)) (h2 : L.get Y 0 = some (rowV y))
    (law : ∀ t, t < k → fcmp .gt (fabs (fop .sub (x.getD t 0) (y.getD t 0))) nano = false) (Q : Ex → T → Prop)
    (hQ : ∀ v w, Q (.exit 2) ⟨[(13, fI k), (23, .sl X 0 0 k 1 k), (24, .sl Y 0 0 k 1 k), (25, v), (143, w)], L⟩) :
    WA Try.prog N 157 (.loop A_l6_LinSwaps_L1) Q ⟨[(13, fI k), (23, .sl X 0 0 k 1 k), (24, .sl Y 0 0 k 1 k), (25, fI 0)], L⟩ := by
  refine WA_for (n := k) (fun c s => ∃ t, c + t = k ∧ s = ⟨[(13, fI k), (23, .sl X 0 0 k 1 k), (24, .sl Y 0 0 k 1 k), (25, fI t)], L⟩) ⟨0, by omega, rfl⟩ ?_
  rintro c s ⟨t, hc, rfl⟩
  simp -implicitDefEqProofs only [xC_skip, evS, decide_true, decide_false, decide_eq_true_eq, sides, Inst.places, List.zip_cons_cons, List.zip_nil_right, List.zip_nil_left, List.mem_cons, List.not_mem_nil, forall_eq_or_imp, forall_eq, false_implies, implies_true, Apart, xeff, xhv, hv, effC, xev, look, argSl, atL, drops, keep, inBlockT, pickX, callX, callCX, callSX, callee, List.map_cons, List.map_nil, List.append_nil, List.nil_append, List.cons_append, reduceCtorEq, ↓reduceIte, Nat.reduceEqDiff, Nat.reduceAdd, Nat.reduceMul, eq_self, List.length_replicate, Int.reduceToNat, Int.reduceAdd, Int.reduceSub, Int.reduceMul, Int.reduceNeg, Int.reduceLT, Int.reduceLE, rowD, rowI, rowsD, ivD, rowG, rowIG, rowsG, ivG, bne_self_eq_false, beq_self_eq_true, List.length_map, List.getD_cons_zero, List.getD_cons_succ, List.drop_succ_cons, List.drop_zero, List.take_succ_cons, List.take_zero, List.take_nil, List.getElem?_cons_zero, List.getElem?_cons_succ, List.length_cons, List.length_nil, List.length_set, List.set_cons_zero, List.set_cons_succ, List.all_cons, List.all_nil, Nat.reduceLT, Nat.reduceLeDiff, ne_eq, Option.some.injEq, fillV, partsV, V.okPart, gt_iff_lt, ge_iff_le, A_l6_LinSwaps_L1]
  refine condC_intro (fun h => ?_) (fun h => ?_)
  · replace h := of_decide_eq_true h
    have e1 : t < x.length := by omega
    have e2 : t < y.length := by omega
    have hl : fcmp .gt (fabs (fop .sub (x.getD t 0) (y.getD t 0))) 4472406533629990549 = false := law t h
    simp -implicitDefEqProofs only [xC_skip, evS, decide_true, decide_false, decide_eq_true_eq, sides, Inst.places, List.zip_cons_cons, List.zip_nil_right, List.zip_nil_left, List.mem_cons, List.not_mem_nil, forall_eq_or_imp, forall_eq, false_implies, implies_true, Apart, xeff, xhv, hv, effC, xev, look, argSl, atL, drops, keep, inBlockT, pickX, callX, callCX, callSX, callee, List.map_cons, List.map_nil, List.append_nil, List.nil_append, List.cons_append, reduceCtorEq, ↓reduceIte, Nat.reduceEqDiff, Nat.reduceAdd, Nat.reduceMul, eq_self, List.length_replicate, Int.reduceToNat, Int.reduceAdd, Int.reduceSub, Int.reduceMul, Int.reduceNeg, Int.reduceLT, Int.reduceLE, rowD, rowI, rowsD, ivD, rowG, rowIG, rowsG, ivG, bne_self_eq_false, beq_self_eq_true, List.length_map, List.getD_cons_zero, List.getD_cons_succ, List.drop_succ_cons, List.drop_zero, List.take_succ_cons, List.take_zero, List.take_nil, List.getElem?_cons_zero, List.getElem?_cons_succ, List.length_cons, List.length_nil, List.length_set, List.set_cons_zero, List.set_cons_succ, List.all_cons, List.all_nil, Nat.reduceLT, Nat.reduceLeDiff, ne_eq, Option.some.injEq, fillV, partsV, V.okPart, gt_iff_lt, ge_iff_le, h1, h2, getD_map_fl _ _ e1, getD_map_fl _ _ e2]
    (repeat (with_reducible refine And.intro (by omega) ?_))
    first | refine callG_con (r1_Abs_con (fop .sub (x.getD t 0) (y.getD t 0))) rfl ?_ | refine callCG_con (r1_Abs_con (fop .sub (x.getD t 0) (y.getD t 0))) rfl ?_ | refine callSG_con (r1_Abs_con (fop .sub (x.getD t 0) (y.getD t 0))) rfl ?_
    simp -implicitDefEqProofs only [xC_skip, evS, decide_true, decide_false, decide_eq_true_eq, sides, Inst.places, List.zip_cons_cons, List.zip_nil_right, List.zip_nil_left, List.mem_cons, List.not_mem_nil, forall_eq_or_imp, forall_eq, false_implies, implies_true, Apart, xeff, xhv, hv, effC, xev, look, argSl, atL, drops, keep, inBlockT, pickX, callX, callCX, callSX, callee, List.map_cons, List.map_nil, List.append_nil, List.nil_append, List.cons_append, reduceCtorEq, ↓reduceIte, Nat.reduceEqDiff, Nat.reduceAdd, Nat.reduceMul, eq_self, List.length_replicate, Int.reduceToNat, Int.reduceAdd, Int.reduceSub, Int.reduceMul, Int.reduceNeg, Int.reduceLT, Int.reduceLE, rowD, rowI, rowsD, ivD, rowG, rowIG, rowsG, ivG, bne_self_eq_false, beq_self_eq_true, List.length_map, List.getD_cons_zero, List.getD_cons_succ, List.drop_succ_cons, List.drop_zero, List.take_succ_cons, List.take_zero, List.take_nil, List.getElem?_cons_zero, List.getElem?_cons_succ, List.length_cons, List.length_nil, List.length_set, List.set_cons_zero, List.set_cons_succ, List.all_cons, List.all_nil, Nat.reduceLT, Nat.reduceLeDiff, ne_eq, Option.some.injEq, fillV, partsV, V.okPart, gt_iff_lt, ge_iff_le, hl]
    rw [wrapI (by omega) (by omega)]
    exact ⟨c - 1, by omega, t + 1, by omega, rfl⟩
  · replace h := of_decide_eq_false h
    simp -implicitDefEqProofs only [xC_skip, evS, decide_true, decide_false, decide_eq_true_eq, sides, Inst.places, List.zip_cons_cons, List.zip_nil_right, List.zip_nil_left, List.mem_cons, List.not_mem_nil, forall_eq_or_imp, forall_eq, false_implies, implies_true, Apart, xeff, xhv, hv, effC, xev, look, argSl, atL, drops, keep, inBlockT, pickX, callX, callCX, callSX, callee, List.map_cons, List.map_nil, List.append_nil, List.nil_append, List.cons_append, reduceCtorEq, ↓reduceIte, Nat.reduceEqDiff, Nat.reduceAdd, Nat.reduceMul, eq_self, List.length_replicate, Int.reduceToNat, Int.reduceAdd, Int.reduceSub, Int.reduceMul, Int.reduceNeg, Int.reduceLT, Int.reduceLE, rowD, rowI, rowsD, ivD, rowG, rowIG, rowsG, ivG, bne_self_eq_false, beq_self_eq_true, List.length_map, List.getD_cons_zero, List.getD_cons_succ, List.drop_succ_cons, List.drop_zero, List.take_succ_cons, List.take_zero, List.take_nil, List.getElem?_cons_zero, List.getElem?_cons_succ, List.length_cons, List.length_nil, List.length_set, List.set_cons_zero, List.set_cons_succ, List.all_cons, List.all_nil, Nat.reduceLT, Nat.reduceLeDiff, ne_eq, Option.some.injEq, fillV, partsV, V.okPart, gt_iff_lt, ge_iff_le]
    exact hQ _ _
set_option maxRecDepth 8000 in
theorem l6_LinSwaps_con (n : Int) (ns bs : List Int) (p q : Int) (hns : ns.length < 2 ^ 62) (hbs : bs.length < 2 ^ 62) : Con Try.prog 9 [fI n, .d (rowI ns), .d (rowI bs), fI p, fI q] (fB true) := by
  refine Con_introA A_l6_LinSwaps_comp rfl mixed ?_
  simp -implicitDefEqProofs only [xC_skip, evS, decide_true, decide_false, decide_eq_true_eq, sides, Inst.places, List.zip_cons_cons, List.zip_nil_right, List.zip_nil_left, List.mem_cons, List.not_mem_nil, forall_eq_or_imp, forall_eq, false_implies, implies_true, Apart, xeff, xhv, hv, effC, xev, look, argSl, atL, drops, keep, inBlockT, pickX, callX, callCX, callSX, callee, List.map_cons, List.map_nil, List.append_nil, List.nil_append, List.cons_append, reduceCtorEq, ↓reduceIte, Nat.reduceEqDiff, Nat.reduceAdd, Nat.reduceMul, eq_self, List.length_replicate, Int.reduceToNat, Int.reduceAdd, Int.reduceSub, Int.reduceMul, Int.reduceNeg, Int.reduceLT, Int.reduceLE, rowD, rowI, rowsD, ivD, rowG, rowIG, rowsG, ivG, bne_self_eq_false, beq_self_eq_true, List.length_map, List.getD_cons_zero, List.getD_cons_succ, List.drop_succ_cons, List.drop_zero, List.take_succ_cons, List.take_zero, List.take_nil, List.getElem?_cons_zero, List.getElem?_cons_succ, List.length_cons, List.length_nil, List.length_set, List.set_cons_zero, List.set_cons_succ, List.all_cons, List.all_nil, Nat.reduceLT, Nat.reduceLeDiff, ne_eq, Option.some.injEq, fillV, partsV, V.okPart, gt_iff_lt, ge_iff_le, A_l6_LinSwaps]
  first | refine callG_con (l6_known_con) rfl ?_ | refine callCG_con (l6_known_con) rfl ?_ | refine callSG_con (l6_known_con) rfl ?_
  simp -implicitDefEqProofs only [xC_skip, evS, decide_true, decide_false, decide_eq_true_eq, sides, Inst.places, List.zip_cons_cons, List.zip_nil_right, List.zip_nil_left, List.mem_cons, List.not_mem_nil, forall_eq_or_imp, forall_eq, false_implies, implies_true, Apart, xeff, xhv, hv, effC, xev, look, argSl, atL, drops, keep, inBlockT, pickX, callX, callCX, callSX, callee, List.map_cons, List.map_nil, List.append_nil, List.nil_append, List.cons_append, reduceCtorEq, ↓reduceIte, Nat.reduceEqDiff, Nat.reduceAdd, Nat.reduceMul, eq_self, List.length_replicate, Int.reduceToNat, Int.reduceAdd, Int.reduceSub, Int.reduceMul, Int.reduceNeg, Int.reduceLT, Int.reduceLE, rowD, rowI, rowsD, ivD, rowG, rowIG, rowsG, ivG, bne_self_eq_false, beq_self_eq_true, List.length_map, List.getD_cons_zero, List.getD_cons_succ, List.drop_succ_cons, List.drop_zero, List.take_succ_cons, List.take_zero, List.take_nil, List.getElem?_cons_zero, List.getElem?_cons_succ, List.length_cons, List.length_nil, List.length_set, List.set_cons_zero, List.set_cons_succ, List.all_cons, List.all_nil, Nat.reduceLT, Nat.reduceLeDiff, ne_eq, Option.some.injEq, fillV, partsV, V.okPart, gt_iff_lt, ge_iff_le]
  have hm := l6_Make_ac n 1 ns hns
  have m1 := Int.emod_nonneg n (by decide : (5 : Int) ≠ 0)
  have m2 := Int.emod_lt_of_pos n (by decide : (0 : Int) < 5)
  have em : makeM n ns 1 = mkM ns ((n % 5).toNat + 1) ((n % 5).toNat + 1) := by
    unfold makeM
    rw [if_neg (by decide)]
  rw [em] at hm
  have hk1 : 0 < (n % 5).toNat + 1 := by omega
  have hk5 : (n % 5).toNat + 1 ≤ 5 := by omega
  generalize (n % 5).toNat + 1 = k at *
  refine callG_ac hm ?_
  have hsq := mkM_sq ns k
  simp -implicitDefEqProofs only [xC_skip, evS, decide_true, decide_false, decide_eq_true_eq, sides, Inst.places, List.zip_cons_cons, List.zip_nil_right, List.zip_nil_left, List.mem_cons, List.not_mem_nil, forall_eq_or_imp, forall_eq, false_implies, implies_true, Apart, xeff, xhv, hv, effC, xev, look, argSl, atL, drops, keep, inBlockT, pickX, callX, callCX, callSX, callee, List.map_cons, List.map_nil, List.append_nil, List.nil_append, List.cons_append, reduceCtorEq, ↓reduceIte, Nat.reduceEqDiff, Nat.reduceAdd, Nat.reduceMul, eq_self, List.length_replicate, Int.reduceToNat, Int.reduceAdd, Int.reduceSub, Int.reduceMul, Int.reduceNeg, Int.reduceLT, Int.reduceLE, rowD, rowI, rowsD, ivD, rowG, rowIG, rowsG, ivG, bne_self_eq_false, beq_self_eq_true, List.length_map, List.getD_cons_zero, List.getD_cons_succ, List.drop_succ_cons, List.drop_zero, List.take_succ_cons, List.take_zero, List.take_nil, List.getElem?_cons_zero, List.getElem?_cons_succ, List.length_cons, List.length_nil, List.length_set, List.set_cons_zero, List.set_cons_succ, List.all_cons, List.all_nil, Nat.reduceLT, Nat.reduceLeDiff, ne_eq, Option.some.injEq, fillV, partsV, V.okPart, gt_iff_lt, ge_iff_le, mkH0]
  refine callG_ac (AC_frameK 1000 (by simp [Heap.next]) (us := [fI n, .d (rowI ns), fI 1]) hm rfl (.inl ⟨rfl, fun j hj => ?_⟩)) ?_
  · rcases j with _ | _ | _ | j
    · exact .d _
    · exact .d _
    · exact .d _
    · simp at hj; omega
  have law := fun i j => swaps_law ns bs k i j hk5
  generalize mkM ns k k = M at *
  have hh : (hdo 200 0 k k).map (V.ren (upF 1000)) = hdo 1200 0 k k := hdo_ren _ 200 0 k k 1200 0 (fun j _ => rfl)
  have hf : (M.map rowV).map (fun c => c.map (V.ren (upF 1000))) = M.map rowV := ren_fam _ M
  simp -implicitDefEqProofs only [xC_skip, evS, decide_true, decide_false, decide_eq_true_eq, sides, Inst.places, List.zip_cons_cons, List.zip_nil_right, List.zip_nil_left, List.mem_cons, List.not_mem_nil, forall_eq_or_imp, forall_eq, false_implies, implies_true, Apart, xeff, xhv, hv, effC, xev, look, argSl, atL, drops, keep, inBlockT, pickX, callX, callCX, callSX, callee, List.map_cons, List.map_nil, List.append_nil, List.nil_append, List.cons_append, reduceCtorEq, ↓reduceIte, Nat.reduceEqDiff, Nat.reduceAdd, Nat.reduceMul, eq_self, List.length_replicate, Int.reduceToNat, Int.reduceAdd, Int.reduceSub, Int.reduceMul, Int.reduceNeg, Int.reduceLT, Int.reduceLE, rowD, rowI, rowsD, ivD, rowG, rowIG, rowsG, ivG, bne_self_eq_false, beq_self_eq_true, List.length_map, List.getD_cons_zero, List.getD_cons_succ, List.drop_succ_cons, List.drop_zero, List.take_succ_cons, List.take_zero, List.take_nil, List.getElem?_cons_zero, List.getElem?_cons_succ, List.length_cons, List.length_nil, List.length_set, List.set_cons_zero, List.set_cons_succ, List.all_cons, List.all_nil, Nat.reduceLT, Nat.reduceLeDiff, ne_eq, Option.some.injEq, fillV, partsV, V.okPart, gt_iff_lt, ge_iff_le, mkH0, Heap.up, V.ren, hh, hf, upF]
  refine swaps_L0 _ M bs p q k hsq (by omega) _ fun v w => ?_
  have hA := addD_sq M k hsq k
  generalize addD M k = A at *
  simp -implicitDefEqProofs only [xC_skip, evS, decide_true, decide_false, decide_eq_true_eq, sides, Inst.places, List.zip_cons_cons, List.zip_nil_right, List.zip_nil_left, List.mem_cons, List.not_mem_nil, forall_eq_or_imp, forall_eq, false_implies, implies_true, Apart, xeff, xhv, hv, effC, xev, look, argSl, atL, drops, keep, inBlockT, pickX, callX, callCX, callSX, callee, List.map_cons, List.map_nil, List.append_nil, List.nil_append, List.cons_append, reduceCtorEq, ↓reduceIte, Nat.reduceEqDiff, Nat.reduceAdd, Nat.reduceMul, eq_self, List.length_replicate, Int.reduceToNat, Int.reduceAdd, Int.reduceSub, Int.reduceMul, Int.reduceNeg, Int.reduceLT, Int.reduceLE, rowD, rowI, rowsD, ivD, rowG, rowIG, rowsG, ivG, bne_self_eq_false, beq_self_eq_true, List.length_map, List.getD_cons_zero, List.getD_cons_succ, List.drop_succ_cons, List.drop_zero, List.take_succ_cons, List.take_zero, List.take_nil, List.getElem?_cons_zero, List.getElem?_cons_succ, List.length_cons, List.length_nil, List.length_set, List.set_cons_zero, List.set_cons_succ, List.all_cons, List.all_nil, Nat.reduceLT, Nat.reduceLeDiff, ne_eq, Option.some.injEq, fillV, partsV, V.okPart, gt_iff_lt, ge_iff_le, swH]
  first | refine callG_con (l6_within_con p k (by omega) (by omega)) rfl ?_ | refine callCG_con (l6_within_con p k (by omega) (by omega)) rfl ?_ | refine callSG_con (l6_within_con p k (by omega) (by omega)) rfl ?_
  have q1 := Int.emod_nonneg p (by omega : (k : Int) ≠ 0)
  have q2 := Int.emod_lt_of_pos p (by omega : (0 : Int) < (k : Int))
  generalize p % (k : Int) = i at q1 q2
  obtain ⟨i, rfl⟩ : ∃ i' : Nat, i = i' := ⟨i.toNat, by omega⟩
  simp -implicitDefEqProofs only [xC_skip, evS, decide_true, decide_false, decide_eq_true_eq, sides, Inst.places, List.zip_cons_cons, List.zip_nil_right, List.zip_nil_left, List.mem_cons, List.not_mem_nil, forall_eq_or_imp, forall_eq, false_implies, implies_true, Apart, xeff, xhv, hv, effC, xev, look, argSl, atL, drops, keep, inBlockT, pickX, callX, callCX, callSX, callee, List.map_cons, List.map_nil, List.append_nil, List.nil_append, List.cons_append, reduceCtorEq, ↓reduceIte, Nat.reduceEqDiff, Nat.reduceAdd, Nat.reduceMul, eq_self, List.length_replicate, Int.reduceToNat, Int.reduceAdd, Int.reduceSub, Int.reduceMul, Int.reduceNeg, Int.reduceLT, Int.reduceLE, rowD, rowI, rowsD, ivD, rowG, rowIG, rowsG, ivG, bne_self_eq_false, beq_self_eq_true, List.length_map, List.getD_cons_zero, List.getD_cons_succ, List.drop_succ_cons, List.drop_zero, List.take_succ_cons, List.take_zero, List.take_nil, List.getElem?_cons_zero, List.getElem?_cons_succ, List.length_cons, List.length_nil, List.length_set, List.set_cons_zero, List.set_cons_succ, List.all_cons, List.all_nil, Nat.reduceLT, Nat.reduceLeDiff, ne_eq, Option.some.injEq, fillV, partsV, V.okPart, gt_iff_lt, ge_iff_le]
  first | refine callG_con (l6_within_con q k (by omega) (by omega)) rfl ?_ | refine callCG_con (l6_within_con q k (by omega) (by omega)) rfl ?_ | refine callSG_con (l6_within_con q k (by omega) (by omega)) rfl ?_
  have q3 := Int.emod_nonneg q (by omega : (k : Int) ≠ 0)
  have q4 := Int.emod_lt_of_pos q (by omega : (0 : Int) < (k : Int))
  generalize q % (k : Int) = j at q3 q4
  obtain ⟨j, rfl⟩ : ∃ j' : Nat, j = j' := ⟨j.toNat, by omega⟩
  simp -implicitDefEqProofs only [xC_skip, evS, decide_true, decide_false, decide_eq_true_eq, sides, Inst.places, List.zip_cons_cons, List.zip_nil_right, List.zip_nil_left, List.mem_cons, List.not_mem_nil, forall_eq_or_imp, forall_eq, false_implies, implies_true, Apart, xeff, xhv, hv, effC, xev, look, argSl, atL, drops, keep, inBlockT, pickX, callX, callCX, callSX, callee, List.map_cons, List.map_nil, List.append_nil, List.nil_append, List.cons_append, reduceCtorEq, ↓reduceIte, Nat.reduceEqDiff, Nat.reduceAdd, Nat.reduceMul, eq_self, List.length_replicate, Int.reduceToNat, Int.reduceAdd, Int.reduceSub, Int.reduceMul, Int.reduceNeg, Int.reduceLT, Int.reduceLE, rowD, rowI, rowsD, ivD, rowG, rowIG, rowsG, ivG, bne_self_eq_false, beq_self_eq_true, List.length_map, List.getD_cons_zero, List.getD_cons_succ, List.drop_succ_cons, List.drop_zero, List.take_succ_cons, List.take_zero, List.take_nil, List.getElem?_cons_zero, List.getElem?_cons_succ, List.length_cons, List.length_nil, List.length_set, List.set_cons_zero, List.set_cons_succ, List.all_cons, List.all_nil, Nat.reduceLT, Nat.reduceLeDiff, ne_eq, Option.some.injEq, fillV, partsV, V.okPart, gt_iff_lt, ge_iff_le]
  first | refine callG_con (l6_row_con k bs (by omega) hbs) rfl ?_ | refine callCG_con (l6_row_con k bs (by omega) hbs) rfl ?_ | refine callSG_con (l6_row_con k bs (by omega) hbs) rfl ?_
  simp -implicitDefEqProofs only [xC_skip, evS, decide_true, decide_false, decide_eq_true_eq, sides, Inst.places, List.zip_cons_cons, List.zip_nil_right, List.zip_nil_left, List.mem_cons, List.not_mem_nil, forall_eq_or_imp, forall_eq, false_implies, implies_true, Apart, xeff, xhv, hv, effC, xev, look, argSl, atL, drops, keep, inBlockT, pickX, callX, callCX, callSX, callee, List.map_cons, List.map_nil, List.append_nil, List.nil_append, List.cons_append, reduceCtorEq, ↓reduceIte, Nat.reduceEqDiff, Nat.reduceAdd, Nat.reduceMul, eq_self, List.length_replicate, Int.reduceToNat, Int.reduceAdd, Int.reduceSub, Int.reduceMul, Int.reduceNeg, Int.reduceLT, Int.reduceLE, rowD, rowI, rowsD, ivD, rowG, rowIG, rowsG, ivG, bne_self_eq_false, beq_self_eq_true, List.length_map, List.getD_cons_zero, List.getD_cons_succ, List.drop_succ_cons, List.drop_zero, List.take_succ_cons, List.take_zero, List.take_nil, List.getElem?_cons_zero, List.getElem?_cons_succ, List.length_cons, List.length_nil, List.length_set, List.set_cons_zero, List.set_cons_succ, List.all_cons, List.all_nil, Nat.reduceLT, Nat.reduceLeDiff, ne_eq, Option.some.injEq, fillV, partsV, V.okPart, gt_iff_lt, ge_iff_le]
  refine callG_ac (AC_frameK 2000 (by simp [Heap.next]) (us := [fI k, .d (rowI bs)]) (l6_row_ac k bs (by omega) hbs) rfl (.inl ⟨rfl, fun j hj => ?_⟩)) ?_
  · rcases j with _ | _ | j
    · exact .d _
    · exact .d _
    · simp at hj; omega
  obtain ⟨B, D, π, hp1, hp2, hlaw⟩ := law i j (by omega) (by omega)
  have hbl := rowM_len k bs
  generalize rowM k bs = b at *
  have hbr : (rowV b).map (V.ren (upF 2000)) = rowV b := ren_rowV _ _
  have hi : i < k := by omega
  have hj : j < k := by omega
  have e1 : i < b.length := by omega
  have e2 : j < b.length := by omega
  simp -implicitDefEqProofs only [xC_skip, evS, decide_true, decide_false, decide_eq_true_eq, sides, Inst.places, List.zip_cons_cons, List.zip_nil_right, List.zip_nil_left, List.mem_cons, List.not_mem_nil, forall_eq_or_imp, forall_eq, false_implies, implies_true, Apart, xeff, xhv, hv, effC, xev, look, argSl, atL, drops, keep, inBlockT, pickX, callX, callCX, callSX, callee, List.map_cons, List.map_nil, List.append_nil, List.nil_append, List.cons_append, reduceCtorEq, ↓reduceIte, Nat.reduceEqDiff, Nat.reduceAdd, Nat.reduceMul, eq_self, List.length_replicate, Int.reduceToNat, Int.reduceAdd, Int.reduceSub, Int.reduceMul, Int.reduceNeg, Int.reduceLT, Int.reduceLE, rowD, rowI, rowsD, ivD, rowG, rowIG, rowsG, ivG, bne_self_eq_false, beq_self_eq_true, List.length_map, List.getD_cons_zero, List.getD_cons_succ, List.drop_succ_cons, List.drop_zero, List.take_succ_cons, List.take_zero, List.take_nil, List.getElem?_cons_zero, List.getElem?_cons_succ, List.length_cons, List.length_nil, List.length_set, List.set_cons_zero, List.set_cons_succ, List.all_cons, List.all_nil, Nat.reduceLT, Nat.reduceLeDiff, ne_eq, Option.some.injEq, fillV, partsV, V.okPart, gt_iff_lt, ge_iff_le, Heap.up, V.ren, hbr, upF, hdo_getD _ _ _ _ _ hi, hdo_getD _ _ _ _ _ hj, getD_map_fl _ _ e1, getD_map_fl _ _ e2]
  (repeat (with_reducible refine And.intro (by omega) ?_))
  have hAr : ∀ r, r < k → (A.map rowV)[r]? = some (rowV (A.getD r [])) := fun r hr => getE A r (by have := hA.1; omega)
  refine part_named 3000 (by simp [Heap.next]) hA (by omega) (X := 200) (o := 0) (by simp [get_cons]) (fun r hr => ?_) hp1 _ ?_
  · simp only [get_cons, Nat.reduceEqDiff, if_false, if_true, Nat.add_zero]
    exact hAr r hr
  simp -implicitDefEqProofs only [xC_skip, evS, decide_true, decide_false, decide_eq_true_eq, sides, Inst.places, List.zip_cons_cons, List.zip_nil_right, List.zip_nil_left, List.mem_cons, List.not_mem_nil, forall_eq_or_imp, forall_eq, false_implies, implies_true, Apart, xeff, xhv, hv, effC, xev, look, argSl, atL, drops, keep, inBlockT, pickX, callX, callCX, callSX, callee, List.map_cons, List.map_nil, List.append_nil, List.nil_append, List.cons_append, reduceCtorEq, ↓reduceIte, Nat.reduceEqDiff, Nat.reduceAdd, Nat.reduceMul, eq_self, List.length_replicate, Int.reduceToNat, Int.reduceAdd, Int.reduceSub, Int.reduceMul, Int.reduceNeg, Int.reduceLT, Int.reduceLE, rowD, rowI, rowsD, ivD, rowG, rowIG, rowsG, ivG, bne_self_eq_false, beq_self_eq_true, List.length_map, List.getD_cons_zero, List.getD_cons_succ, List.drop_succ_cons, List.drop_zero, List.take_succ_cons, List.take_zero, List.take_nil, List.getElem?_cons_zero, List.getElem?_cons_succ, List.length_cons, List.length_nil, List.length_set, List.set_cons_zero, List.set_cons_succ, List.all_cons, List.all_nil, Nat.reduceLT, Nat.reduceLeDiff, ne_eq, Option.some.injEq, fillV, partsV, V.okPart, gt_iff_lt, ge_iff_le]
  have hCs := swapL_sq A k i j hA hi hj
  refine part_namedG (cells := ((hdo 1200 0 k k).set i (.sl 1200 j 0 k 1 k)).set j (.sl 1200 i 0 k 1 k)) 4000 (by simp [Heap.next]) hCs (by omega) (by simp [get_cons]) (by simp [hdo_length]) (fun r hr => ⟨1200, sw i j r, ?_, ?_⟩) hp2 _ ?_
  · have e := getD_swapL V.any (hdo 1200 0 k k) i j r (by simpa [hdo_length] using hi) (by simpa [hdo_length] using hj)
    simp only [swapL, hdo_getD _ _ _ _ _ hi, hdo_getD _ _ _ _ _ hj, hdo_getD _ _ _ _ _ (sw_lt hi hj hr), Nat.add_zero] at e
    exact e
  · simp only [get_cons, Nat.reduceEqDiff, if_false, if_true]
    rw [getD_swapL [] A i j r (by have := hA.1; omega) (by have := hA.1; omega)]
    exact hAr _ (sw_lt hi hj hr)
  simp -implicitDefEqProofs only [xC_skip, evS, decide_true, decide_false, decide_eq_true_eq, sides, Inst.places, List.zip_cons_cons, List.zip_nil_right, List.zip_nil_left, List.mem_cons, List.not_mem_nil, forall_eq_or_imp, forall_eq, false_implies, implies_true, Apart, xeff, xhv, hv, effC, xev, look, argSl, atL, drops, keep, inBlockT, pickX, callX, callCX, callSX, callee, List.map_cons, List.map_nil, List.append_nil, List.nil_append, List.cons_append, reduceCtorEq, ↓reduceIte, Nat.reduceEqDiff, Nat.reduceAdd, Nat.reduceMul, eq_self, List.length_replicate, Int.reduceToNat, Int.reduceAdd, Int.reduceSub, Int.reduceMul, Int.reduceNeg, Int.reduceLT, Int.reduceLE, rowD, rowI, rowsD, ivD, rowG, rowIG, rowsG, ivG, bne_self_eq_false, beq_self_eq_true, List.length_map, List.getD_cons_zero, List.getD_cons_succ, List.drop_succ_cons, List.drop_zero, List.take_succ_cons, List.take_zero, List.take_nil, List.getElem?_cons_zero, List.getElem?_cons_succ, List.length_cons, List.length_nil, List.length_set, List.set_cons_zero, List.set_cons_succ, List.all_cons, List.all_nil, Nat.reduceLT, Nat.reduceLeDiff, ne_eq, Option.some.injEq, fillV, partsV, V.okPart, gt_iff_lt, ge_iff_le]
  obtain ⟨hB, hπl⟩ := partP_sq _ _ hA _ (Nat.le_refl _) B _ hp1
  have hpm := partP_pm _ _ _ (Nat.le_refl _) B _ hp1
  obtain ⟨hD, hπl2⟩ := partP_sq _ _ hCs _ (Nat.le_refl _) D _ hp2
  have hpm2 := partP_pm _ _ _ (Nat.le_refl _) D _ hp2
  refine solve_namedS hB (by omega) (X := 3002) (o := 1) (by simp [get_cons]) (fun r hr => ?_) (by simp [get_cons]) hpm hbl (.d _) (by decide) (by decide) (by decide) (by simp [fam_cons, fam_nil]) _ ?_
  · have := hB.1
    simp only [get_cons, Nat.reduceEqDiff, if_false, if_true, List.getElem?_cons_succ]
    exact getE B r (by omega)
  have hsl1 : (solveP B (rangeI k) b k).length = k := by simp [solveP, bckI_len, fwdI_len]
  have hsl2 : (solveP D π (swapL 0 b i j) k).length = k := by simp [solveP, bckI_len, fwdI_len]
  have hdl : (swapL 0 b i j).length = k := by simp [swapL, hbl]
  generalize solveP B (rangeI k) b k = x at *
  simp -implicitDefEqProofs only [xC_skip, evS, decide_true, decide_false, decide_eq_true_eq, sides, Inst.places, List.zip_cons_cons, List.zip_nil_right, List.zip_nil_left, List.mem_cons, List.not_mem_nil, forall_eq_or_imp, forall_eq, false_implies, implies_true, Apart, xeff, xhv, hv, effC, xev, look, argSl, atL, drops, keep, inBlockT, pickX, callX, callCX, callSX, callee, List.map_cons, List.map_nil, List.append_nil, List.nil_append, List.cons_append, reduceCtorEq, ↓reduceIte, Nat.reduceEqDiff, Nat.reduceAdd, Nat.reduceMul, eq_self, List.length_replicate, Int.reduceToNat, Int.reduceAdd, Int.reduceSub, Int.reduceMul, Int.reduceNeg, Int.reduceLT, Int.reduceLE, rowD, rowI, rowsD, ivD, rowG, rowIG, rowsG, ivG, bne_self_eq_false, beq_self_eq_true, List.length_map, List.getD_cons_zero, List.getD_cons_succ, List.drop_succ_cons, List.drop_zero, List.take_succ_cons, List.take_zero, List.take_nil, List.getElem?_cons_zero, List.getElem?_cons_succ, List.length_cons, List.length_nil, List.length_set, List.set_cons_zero, List.set_cons_succ, List.all_cons, List.all_nil, Nat.reduceLT, Nat.reduceLeDiff, ne_eq, Option.some.injEq, fillV, partsV, V.okPart, gt_iff_lt, ge_iff_le]
  refine solve_named (b := swapL 0 b i j) 5000 (by simp [Heap.next]) hD (by omega) (X := 4002) (o := 1) (by simp [get_cons]) (fun r hr => ?_) (by simp [get_cons]) hpm2 hdl (snp_row (by simp only [get_cons, Nat.reduceEqDiff, if_false, if_true, List.getElem?_cons_zero]; rfl) hdl rfl) _ ?_
  · have := hD.1
    simp only [get_cons, Nat.reduceEqDiff, if_false, if_true, List.getElem?_cons_succ]
    exact getE D r (by omega)
  generalize solveP D π (swapL 0 b i j) k = y at *
  simp -implicitDefEqProofs only [xC_skip, evS, decide_true, decide_false, decide_eq_true_eq, sides, Inst.places, List.zip_cons_cons, List.zip_nil_right, List.zip_nil_left, List.mem_cons, List.not_mem_nil, forall_eq_or_imp, forall_eq, false_implies, implies_true, Apart, xeff, xhv, hv, effC, xev, look, argSl, atL, drops, keep, inBlockT, pickX, callX, callCX, callSX, callee, List.map_cons, List.map_nil, List.append_nil, List.nil_append, List.cons_append, reduceCtorEq, ↓reduceIte, Nat.reduceEqDiff, Nat.reduceAdd, Nat.reduceMul, eq_self, List.length_replicate, Int.reduceToNat, Int.reduceAdd, Int.reduceSub, Int.reduceMul, Int.reduceNeg, Int.reduceLT, Int.reduceLE, rowD, rowI, rowsD, ivD, rowG, rowIG, rowsG, ivG, bne_self_eq_false, beq_self_eq_true, List.length_map, List.getD_cons_zero, List.getD_cons_succ, List.drop_succ_cons, List.drop_zero, List.take_succ_cons, List.take_zero, List.take_nil, List.getElem?_cons_zero, List.getElem?_cons_succ, List.length_cons, List.length_nil, List.length_set, List.set_cons_zero, List.set_cons_succ, List.all_cons, List.all_nil, Nat.reduceLT, Nat.reduceLeDiff, ne_eq, Option.some.injEq, fillV, partsV, V.okPart, gt_iff_lt, ge_iff_le, bne_self_eq_false]
  refine swaps_L1 _ x y k 4010 5002 _ hsl1 hsl2 (by omega) (by simp [get_cons]) (by simp [get_cons]) hlaw _ fun v w => ?_
  simp -implicitDefEqProofs only [xC_skip, evS, decide_true, decide_false, decide_eq_true_eq, sides, Inst.places, List.zip_cons_cons, List.zip_nil_right, List.zip_nil_left, List.mem_cons, List.not_mem_nil, forall_eq_or_imp, forall_eq, false_implies, implies_true, Apart, xeff, xhv, hv, effC, xev, look, argSl, atL, drops, keep, inBlockT, pickX, callX, callCX, callSX, callee, List.map_cons, List.map_nil, List.append_nil, List.nil_append, List.cons_append, reduceCtorEq, ↓reduceIte, Nat.reduceEqDiff, Nat.reduceAdd, Nat.reduceMul, eq_self, List.length_replicate, Int.reduceToNat, Int.reduceAdd, Int.reduceSub, Int.reduceMul, Int.reduceNeg, Int.reduceLT, Int.reduceLE, rowD, rowI, rowsD, ivD, rowG, rowIG, rowsG, ivG, bne_self_eq_false, beq_self_eq_true, List.length_map, List.getD_cons_zero, List.getD_cons_succ, List.drop_succ_cons, List.drop_zero, List.take_succ_cons, List.take_zero, List.take_nil, List.getElem?_cons_zero, List.getElem?_cons_succ, List.length_cons, List.length_nil, List.length_set, List.set_cons_zero, List.set_cons_succ, List.all_cons, List.all_nil, Nat.reduceLT, Nat.reduceLeDiff, ne_eq, Option.some.injEq, fillV, partsV, V.okPart, gt_iff_lt, ge_iff_le]
  exact endsT_rett rfl (by decide) (by simp [look])
end Go.Ab
