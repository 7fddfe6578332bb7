/- Rows far from none: each has its own place great; what solves them. -/
import Derived.Test.YtnoeajoeeldimaaLS
namespace Go.Ab
set_option linter.unusedSimpArgs false
set_option linter.unusedVariables false
open Go Go.Proofs
theorem rsum_le (f : Nat → Rat) (P : Rat) : ∀ m, (∀ j, j < m → rabs (f j) ≤ P) → rabs (rsum f m) ≤ (m : Rat) * P := by
  intro m
  induction m with
  | zero =>
    intro _
    have z0 : ((0 : Nat) : Rat) = 0 := rfl
    simp only [rsum]; rw [z0]; unfold rabs; grind
  | succ m ih =>
    intro h
    have h1 := ih fun j hj => h j (by omega)
    have h2 := h m (by omega)
    have h3 := rabs_add (rsum f m) (f m)
    have e1 : ((m + 1 : Nat) : Rat) = (m : Rat) + 1 := by rw [Rat.natCast_add]; rfl
    simp only [rsum]; rw [e1]; grind
theorem rsum_zero : ∀ m, rsum (fun _ => 0) m = 0 := by
  intro m
  induction m with
  | zero => rfl
  | succ m ih => simp only [rsum, ih]; grind
theorem rsum_add (f g : Nat → Rat) : ∀ m, rsum (fun j => f j + g j) m = rsum f m + rsum g m := by
  intro m
  induction m with
  | zero => simp only [rsum]; grind
  | succ m ih => simp only [rsum, ih]; grind
theorem rsum_mul (f : Nat → Rat) (c : Rat) : ∀ m, rsum (fun j => f j * c) m = rsum f m * c := by
  intro m
  induction m with
  | zero => simp only [rsum]; grind
  | succ m ih => simp only [rsum, ih]; grind
theorem rsum_mul' (f : Nat → Rat) (c : Rat) : ∀ m, rsum (fun j => c * f j) m = c * rsum f m := by
  intro m
  induction m with
  | zero => simp only [rsum]; grind
  | succ m ih => simp only [rsum, ih]; grind
theorem rsum_swap (f : Nat → Nat → Rat) (n : Nat) : ∀ m, rsum (fun j => rsum (fun i => f i j) n) m = rsum (fun i => rsum (fun j => f i j) m) n := by
  intro m
  induction m with
  | zero => simp only [rsum]; exact (rsum_zero n).symm
  | succ m ih => simp only [rsum, ih]; exact (rsum_add _ _ _).symm
/-- What lies behind is nothing. -/
theorem rsum_cut (f : Nat → Rat) (m : Nat) : ∀ d, (∀ j, m ≤ j → j < m + d → f j = 0) → rsum f (m + d) = rsum f m := by
  intro d
  induction d with
  | zero => intro _; rfl
  | succ d ih =>
    intro h
    show rsum f (m + d) + f (m + d) = _
    rw [ih fun j h1 h2 => h j h1 (by omega), h (m + d) (by omega) (by omega)]; grind
theorem rsum_front (f : Nat → Rat) (m : Nat) : ∀ d, rsum f (m + d) = rsum f m + rsum (fun j => f (m + j)) d := by
  intro d
  induction d with
  | zero => simp only [rsum, Nat.add_zero]; grind
  | succ d ih => show rsum f (m + d) + f (m + d) = _; rw [ih]; simp only [rsum]; grind
/-- Full parts. -/
def Lf (B : List (List Nat)) (i m : Nat) : Rat := if m < i then va B i m else if m = i then 1 else 0
def Uf (B : List (List Nat)) (m j : Nat) : Rat := if m ≤ j then va B m j else 0
theorem prod_full (B : List (List Nat)) (n i j : Nat) (hi : i < n) (hj : j < n) : prodK B n i j = rsum (fun m => Lf B i m * Uf B m j) n := by
  rw [← prod_sum B n i j hi hj]
  have h := rsum_cut (fun m => Lf B i m * Uf B m j) (min i j + 1) (n - (min i j + 1)) (fun m h1 h2 => by
    unfold Lf Uf
    by_cases h : m < i
    · rw [if_neg (by omega : ¬ m ≤ j)]; grind
    · by_cases h3 : m = i
      · rw [if_neg (by omega : ¬ m ≤ j)]; grind
      · rw [if_neg h, if_neg h3]; grind)
  rw [show min i j + 1 + (n - (min i j + 1)) = n from by omega] at h
  rw [h]
  refine rsum_congr fun m hm => ?_
  unfold uV Lf Uf
  by_cases h : m < i
  · rw [if_pos h, if_pos h, if_pos (by omega)]
  · rw [if_neg h, if_neg h, if_pos (by omega : m = i), if_pos (by omega)]
/-- A row's sum, with products taken off. -/
theorem seqS_err (v : Nat) (l y : Nat → Nat) (V P : Rat) (hv : fin v) (hV : rabs (val v) ≤ V) : ∀ m, m ≤ 5 → (∀ j, j < m → fin (l j) ∧ fin (y j) ∧ rabs (val (l j) * val (y j)) ≤ P) → V + 5 * P ≤ 3000 → 0 ≤ P → 0 ≤ V →
    fin (seqS v (fun j => fop .mul (l j) (y j)) m) ∧ rabs (val (seqS v (fun j => fop .mul (l j) (y j)) m) - (val v - rsum (fun j => val (l j) * val (y j)) m)) ≤ (m : Rat) * stepE := by
  have hse : 0 < stepE := pw_pos _
  have hs1 : stepE ≤ 1 / 16 := by
    have h1 := pw_mono (show (-39 : Int) ≤ -4 by decide)
    have h2 := pw_up (-4) 4
    rw [show (-4 : Int) + ((4 : Nat) : Int) = 0 from rfl, pw_zero] at h2
    have h3 : ((2 ^ 4 : Nat) : Rat) = 16 := rfl
    rw [h3] at h2
    unfold stepE; grind
  have h40 := pw_pos (-40)
  have hse1 := stepE_eq
  intro m
  induction m with
  | zero =>
    intro _ _ _ _ _
    refine ⟨hv, ?_⟩
    have z0 : ((0 : Nat) : Rat) = 0 := rfl
    simp only [rsum, seqS]; rw [z0]; unfold rabs; grind
  | succ m ih =>
    intro hm hf hP hP0 hV0
    obtain ⟨i1, i2⟩ := ih (by omega) (fun j hj => hf j (by omega)) hP hP0 hV0
    obtain ⟨f1, f2, f3⟩ := hf m (by omega)
    have hp := fop_mul f1 f2 (small_big (by grind))
    have sp := (hp.small (by grind)).1
    have hr := rsum_le (fun j => val (l j) * val (y j)) P m (fun j hj => (hf j (by omega)).2.2)
    have hm5 : (m : Rat) ≤ 4 := by exact_mod_cast Rat.natCast_le_natCast.2 (show m ≤ 4 by omega)
    have hm0 : (0 : Rat) ≤ (m : Rat) := Rat.natCast_nonneg
    have h1 := Rat.mul_le_mul_of_nonneg_right hm5 (Rat.le_of_lt hse)
    have h2 := Rat.mul_le_mul_of_nonneg_right hm5 hP0
    simp only [seqS, rsum]
    generalize rsum (fun j => val (l j) * val (y j)) m = R at i2 hr ⊢
    have h3 := two_abs _ _ _ i2
    have h4 := rabs_sub (val v) R
    have h5 := two_abs _ _ _ sp
    have h6 := rabs_sub (val (seqS v (fun j => fop .mul (l j) (y j)) m)) (val (fop .mul (l m) (y m)))
    have hs := fop_sub i1 hp.fin (small_big (by grind))
    have ss := (hs.small (by grind)).1
    have e1 : ((m + 1 : Nat) : Rat) = (m : Rat) + 1 := by rw [Rat.natCast_add]; rfl
    refine ⟨hs.fin, ?_⟩
    rw [e1]
    have key : ∀ s u z p w d e : Rat, rabs (s - u) ≤ e → rabs (z - p) ≤ d → rabs (w - (s - z)) ≤ d → rabs (w - (u - p)) ≤ e + (d + d) := by
      intro s u z p w d e h1 h2 h3
      have := le_rabs (s - u); have := le_rabs (z - p); have := le_rabs (w - (s - z))
      exact rabs_le (by grind) (by grind)
    have := key _ _ _ _ _ _ _ i2 sp ss
    rw [← stepE_eq] at this
    have e2 : ((m : Rat) + 1) * stepE = (m : Rat) * stepE + stepE := by grind
    have e3 : val v - (R + val (l m) * val (y m)) = val v - R - val (l m) * val (y m) := by grind
    rw [e2, e3]
    exact this
/-- Rows of which each is great at its own place: behind K steps. -/
def mB : Nat → Rat
  | 0 => 4
  | 1 => 9/2
  | 2 => 51/10
  | 3 => 59/10
  | _ => 7
def dB : Nat → Rat
  | 0 => 36
  | 1 => 177/5
  | 2 => 347/10
  | 3 => 339/10
  | _ => 164/5
theorem md_facts : ∀ K, K < 4 → mB K < dB K ∧ 0 < mB K ∧ 5 * mB K + 1 ≤ dB K ∧ mB K * mB K ≤ (mB (K + 1) - mB K - 1 / 100) * dB K ∧ mB K * mB K ≤ (dB K - dB (K + 1) - 1 / 100) * dB K ∧ mB K ≤ mB (K + 1) ∧ dB (K + 1) ≤ dB K := by
  intro K hK
  rcases K with _ | _ | _ | _ | K
  all_goals first | (simp only [mB, dB]; decide +kernel) | omega
/-- Each row is great at its own place, K columns parted. -/
structure Far (n K : Nat) (B : List (List Nat)) : Prop where
  off : ∀ r c, K ≤ r → K ≤ c → r < n → c < n → r ≠ c → rabs (va B r c) ≤ mB K
  dia : ∀ r, K ≤ r → r < n → dB K ≤ va B r r
  up : ∀ r c, r < K → r < c → c < n → rabs (va B r c) ≤ 7
  low : ∀ r c, c < K → c < r → r < n → rabs (va B r c) ≤ 1 / 5
  top : ∀ r, r < K → r < n → 164 / 5 ≤ va B r r
theorem mB_le (K : Nat) : mB K ≤ 7 ∧ 164 / 5 ≤ dB K ∧ mB K < dB K := by
  rcases K with _ | _ | _ | _ | K
  all_goals (simp only [mB, dB]; decide +kernel)
theorem stepE_small : stepE ≤ 1 / 1000 := by
  have h1 := pw_mono (show (-39 : Int) ≤ -10 by decide)
  have h2 := pw_up (-10) 10
  rw [show (-10 : Int) + ((10 : Nat) : Int) = 0 from rfl, pw_zero] at h2
  have h3 : ((2 ^ 10 : Nat) : Rat) = 1024 := rfl
  rw [h3] at h2
  unfold stepE; grind
theorem far_strict (n K : Nat) (B : List (List Nat)) (hK : K < n) (h : Far n K B) : ∀ r, K < r → r < n → rabs (va B r K) < rabs (va B K K) := by
  intro r hr hrn
  have h1 := h.off r K (by omega) (Nat.le_refl K) hrn hK (by omega)
  have h2 := h.dia K (Nat.le_refl K) hK
  have h3 := mB_le K
  have := le_rabs (va B K K)
  grind
theorem pv_unique (A : List (List Nat)) (n k p : Nat) (M : Rat) (hB : Bd n A M) (hk : k < n) (hp : k ≤ p) (hpn : p < n) (h : ∀ r, k ≤ r → r < n → r ≠ p → rabs (va A r k) < rabs (va A p k)) : pvP A k (n - 1 - k) = p := by
  have h1 := pv_max A n k M hB hk (n - 1 - k) (by omega) p hp (by omega)
  have h2 := pvP_lt A k (n - 1 - k)
  have h3 := pvP_from A k (n - 1 - k)
  by_cases e : pvP A k (n - 1 - k) = p
  · exact e
  · have := h _ h3 (by omega) e
    grind
/-- A step, by its own row. -/
theorem far_step (A : List (List Nat)) (n K : Nat) (M : Rat) (hA : Sq n A) (hK : K < n) (hn : n ≤ 5) (hB : Bd n A M) (hM : M ≤ 1000) (hM1 : 1 ≤ M) (h : Far n K A) : Far n (K + 1) (elimI A n K (n - 1 - K)) := by
  have hst := far_strict n K A hK h
  have hkk := h.dia K (Nat.le_refl K) hK
  have hmd := mB_le K
  have hz : va A K K ≠ 0 := by grind
  have hpos : 0 < va A K K := by grind
  obtain ⟨s1, s2, s3, s4⟩ := step_bd A n K M hA hK hB hM hM1 hz (fun r h1 h2 => Rat.le_of_lt (hst r h1 h2))
  have hat := fun r c hr hc => elim_at A n K hA hK r c hr hc
  have hse : 0 < stepE := pw_pos _
  have hss := stepE_small
  have ve : ∀ r c, r < n → c < n → r ≤ K ∨ c < K → va (elimI A n K (n - 1 - K)) r c = va A r c := fun r c hr hc h => by unfold va; rw [s3 r c hr hc h]
  generalize elimI A n K (n - 1 - K) = E at *
  by_cases hK4 : K < 4
  · have hf := md_facts K hK4
    -- the multipliers
    have hl : ∀ r, K < r → r < n → rabs (va E r K) * dB K ≤ mB K + stepE ∧ rabs (va E r K) ≤ 1 / 5 := by
      intro r hr hrn
      have h1 := s4 r K hrn hK
      have h2 := h.off r K (by omega) (Nat.le_refl K) hrn hK (by omega)
      have e1 : min (K + 1) (min r K) = K := by omega
      have e2 : min K (min r K) = K := by omega
      unfold prodK at h1
      rw [e1, e2, if_pos (by omega), if_neg (by omega)] at h1
      have e3 : rsum (fun m => va E r m * va E m K) K = rsum (fun m => va A r m * va A m K) K := rsum_congr fun m hm => by
        rw [ve r m hrn (by omega) (by omega), ve m K (by omega) hK (by omega)]
      rw [e3, ve K K hK hK (by omega)] at h1
      have e4 : ∀ S x y : Rat, S + x - (S + y) = x - y := fun S x y => by grind
      rw [e4] at h1
      have h3 := two_abs _ _ _ h1
      rw [rabs_mul] at h3
      have h4 : rabs (va A K K) = va A K K := rabs_of_nonneg (Rat.le_of_lt hpos)
      rw [h4] at h3
      have h5 := Rat.mul_le_mul_of_nonneg_left hkk (rabs_nonneg (va E r K))
      have h6 : rabs (va E r K) * dB K ≤ mB K + stepE := by grind
      refine ⟨h6, ?_⟩
      have h7 : rabs (va E r K) * dB K ≤ 1 / 5 * dB K := by grind
      exact Rat.le_of_mul_le_mul_right h7 (by grind)
    have hsub : ∀ r c, K < r → r < n → K < c → c < n → rabs (va E r c - va A r c) * dB K ≤ mB K * mB K + 8 * stepE + stepE * dB K := by
      intro r c hr hrn hc hcn
      have h1 := s4 r c hrn hcn
      have e1 : min (K + 1) (min r c) = K + 1 := by omega
      have e2 : min K (min r c) = K := by omega
      unfold prodK at h1
      rw [e1, e2, if_neg (by omega), if_neg (by omega)] at h1
      simp only [rsum] at h1
      have e3 : rsum (fun m => va E r m * va E m c) K = rsum (fun m => va A r m * va A m c) K := rsum_congr fun m hm => by
        rw [ve r m hrn (by omega) (by omega), ve m c (by omega) hcn (by omega)]
      rw [e3, ve K c hK hcn (by omega)] at h1
      have e4 : ∀ S x y z : Rat, S + x + y - (S + z) = (y - z) - (-x) := fun S x y z => by grind
      rw [e4] at h1
      have h3 := two_abs _ _ _ h1
      rw [rabs_neg, rabs_mul] at h3
      have h5 := h.off K c (Nat.le_refl K) (by omega) hK hcn (by omega)
      have h6 := (hl r hr hrn).1
      have h7 := Rat.mul_le_mul_of_nonneg_right h3 (show 0 ≤ dB K by grind)
      have h8 := Rat.mul_le_mul_of_nonneg_left h5 (rabs_nonneg (va E r K))
      have h9 := Rat.mul_le_mul_of_nonneg_right h6 (show 0 ≤ mB K by grind)
      have h10 := Rat.mul_le_mul_of_nonneg_right h8 (show 0 ≤ dB K by grind)
      have h11 := Rat.mul_le_mul_of_nonneg_left (show mB K ≤ 8 by grind) (Rat.le_of_lt hse)
      grind
    have hdif : ∀ r c, K < r → r < n → K < c → c < n → rabs (va E r c - va A r c) ≤ mB (K + 1) - mB K ∧ rabs (va E r c - va A r c) ≤ dB K - dB (K + 1) := by
      intro r c hr hrn hc hcn
      have h1 := hsub r c hr hrn hc hcn
      have hd0 : 0 < dB K := by grind
      have hd1 : 32 ≤ dB K := by grind
      have h2 := Rat.mul_le_mul_of_nonneg_right hd1 (Rat.le_of_lt hse)
      have h3 : 8 * stepE + stepE * dB K ≤ 1 / 100 * dB K := by
        have h4 := Rat.mul_le_mul_of_nonneg_right hss (Rat.le_of_lt hd0)
        grind
      constructor
      · refine Rat.le_of_mul_le_mul_right ?_ hd0
        grind
      · refine Rat.le_of_mul_le_mul_right ?_ hd0
        grind
    refine ⟨fun r c hr hc hrn hcn hrc => ?_, fun r hr hrn => ?_, fun r c hr hrc hcn => ?_, fun r c hc hcr hrn => ?_, fun r hr hrn => ?_⟩
    · have h1 := (hdif r c (by omega) hrn (by omega) hcn).1
      have h2 := h.off r c (by omega) (by omega) hrn hcn hrc
      have h3 := two_abs _ _ _ h1
      grind
    · have h1 := (hdif r r (by omega) hrn (by omega) hrn).2
      have h2 := h.dia r (by omega) hrn
      have := le_rabs (va E r r - va A r r)
      grind
    · rw [ve r c (by omega) hcn (by omega)]
      by_cases e : r = K
      · have := h.off r c (by omega) (by omega) (by omega) hcn (by omega)
        grind
      · exact h.up r c (by omega) hrc hcn
    · by_cases e : c = K
      · subst e
        exact (hl r hcr hrn).2
      · rw [ve r c hrn (by omega) (by omega)]
        exact h.low r c (by omega) hcr hrn
    · rw [ve r r hrn hrn (by omega)]
      by_cases e : r = K
      · have := h.dia r (by omega) hrn
        grind
      · exact h.top r (by omega) hrn
  · -- the last row: nothing is below it
    refine ⟨fun r c hr hc hrn hcn hrc => by omega, fun r hr hrn => by omega, fun r c hr hrc hcn => ?_, fun r c hc hcr hrn => ?_, fun r hr hrn => ?_⟩
    · rw [ve r c (by omega) hcn (by omega)]
      by_cases e : r = K
      · omega
      · exact h.up r c (by omega) hrc hcn
    · rw [ve r c hrn (by omega) (by omega)]
      by_cases e : c = K
      · omega
      · exact h.low r c (by omega) hcr hrn
    · rw [ve r r hrn hrn (by omega)]
      by_cases e : r = K
      · have := h.dia r (by omega) hrn
        grind
      · exact h.top r (by omega) hrn
theorem grow44 : ∀ m, m < 5 → 1 ≤ grow 44 m ∧ grow 44 m ≤ 1000 := by
  intro m hm
  rcases m with _ | _ | _ | _ | _ | m
  all_goals first | (simp only [grow]; constructor <;> decide +kernel) | omega
/-- Such rows are parted as they lie. -/
theorem far_part (A : List (List Nat)) (n : Nat) (hA : Sq n A) (hn : n ≤ 5) (hB : Bd n A 44) (h : Far n 0 A) : ∀ K, K ≤ n → ∃ B, partP A n K = some (B, rangeI n) ∧ Sq n B ∧ Bd n B (grow 44 K) ∧ Far n K B := by
  intro K
  induction K with
  | zero => intro _; exact ⟨A, rfl, hA, hB, h⟩
  | succ K ih =>
    intro hK
    obtain ⟨B, h1, h2, h3, h4⟩ := ih (by omega)
    have hg := grow44 K (by omega)
    have hst := far_strict n K B (by omega) h4
    have hpv := pv_unique B n K K (grow 44 K) h3 (by omega) (Nat.le_refl K) (by omega) (fun r hr hrn hne => hst r (by omega) hrn)
    have hkk := h4.dia K (Nat.le_refl K) (by omega)
    have hmd := mB_le K
    have hf := (h3 K K (by omega) (by omega)).1
    have hz : va B K K ≠ 0 := by grind
    obtain ⟨s1, s2, s3, s4⟩ := step_bd B n K (grow 44 K) h2 (by omega) h3 hg.2 hg.1 hz (fun r h1 h2 => Rat.le_of_lt (hst r h1 h2))
    refine ⟨elimI B n K (n - 1 - K), ?_, elimI_sq _ _ _ h2 _, s1, far_step B n K (grow 44 K) h2 (by omega) hn h3 hg.2 hg.1 h4⟩
    have e1 : fcmp .eq (at2 B K K) 0 = false := by
      have : ¬ fcmp .eq (at2 B K K) 0 = true := by
        rw [fcmp_eq hf fin_zero, val_zero]; exact hz
      simpa using this
    simp only [partP, h1, Option.bind_some, stepP]
    rw [hpv, if_neg (by simp [e1, fin_finite hf]), swap_same _ B K (by have := h2.1; omega), swap_same _ _ K (by rw [rangeI_len]; omega)]
theorem far_y (B : List (List Nat)) (n : Nat) (M : Rat) (hn : n ≤ 5) (hB : Bd n B M) (h : Far n n B) (y β : Nat → Nat) (hb : ∀ i, i < n → fin (β i) ∧ rabs (val (β i)) ≤ 25 / 2) (hy : ∀ i, i < n → y i = seqS (β i) (fun j => fop .mul (at2 B i j) (y j)) i) :
    ∀ i, i < n → fin (y i) ∧ rabs (val (y i)) ≤ 64 ∧ rabs (val (y i) - (val (β i) - rsum (fun j => va B i j * val (y j)) i)) ≤ 5 * stepE := by
  have hse : 0 < stepE := pw_pos _
  have hss := stepE_small
  have key : ∀ m i, i < m → i < n → fin (y i) ∧ rabs (val (y i)) ≤ 64 ∧ rabs (val (y i) - (val (β i) - rsum (fun j => va B i j * val (y j)) i)) ≤ 5 * stepE := by
    intro m
    induction m with
    | zero => intro i hi; omega
    | succ m ih =>
      intro i hi hin
      have ih := fun j (hj : j < i) => ih j (by omega : j < m) (by omega : j < n)
      obtain ⟨b1, b2⟩ := hb i hin
      have hP : ∀ j, j < i → rabs (va B i j * val (y j)) ≤ 64 / 5 := by
        intro j hj
        rw [rabs_mul]
        have h1 := h.low i j (by omega) hj hin
        have h2 := (ih j (by omega)).2.1
        have h3 := Rat.mul_le_mul_of_nonneg_right h1 (rabs_nonneg (val (y j)))
        grind
      have hs := seqS_err (β i) (fun j => at2 B i j) y (25 / 2) (64 / 5) b1 b2 i (by omega) (fun j hj => ⟨(hB i j hin (by omega)).1, (ih j (by omega)).1, hP j hj⟩) (by grind) (by grind) (by grind)
      have hr := rsum_le (fun j => va B i j * val (y j)) (64 / 5) i hP
      rw [← hy i hin] at hs
      have hi4 : (i : Rat) ≤ 4 := by exact_mod_cast Rat.natCast_le_natCast.2 (show i ≤ 4 by omega)
      have h1 := Rat.mul_le_mul_of_nonneg_right hi4 (Rat.le_of_lt hse)
      have h2 := Rat.mul_le_mul_of_nonneg_right hi4 (show (0 : Rat) ≤ 64 / 5 by grind)
      have e : rsum (fun j => val (at2 B i j) * val (y j)) i = rsum (fun j => va B i j * val (y j)) i := rfl
      rw [e] at hs
      generalize rsum (fun j => va B i j * val (y j)) i = R at hs hr ⊢
      obtain ⟨f, he⟩ := hs
      have h3 := two_abs _ _ _ he
      have h4 := rabs_sub (val (β i)) R
      exact ⟨f, by grind, by grind⟩
  exact fun i hi => key n i hi hi
theorem div_err (s u : Nat) (hs : fin s) (hu : fin u) (bs : rabs (val s) ≤ 4561 / 10) (lu : 164 / 5 ≤ val u) (bu : rabs (val u) ≤ 2000) : fin (fop .div s u) ∧ rabs (val (fop .div s u)) ≤ 14 ∧ rabs (val (fop .div s u) * val u - val s) ≤ 5 * stepE := by
  have hse : 0 < stepE := pw_pos _
  have hss := stepE_small
  have hz : val u ≠ 0 := by grind
  have hup : 0 < val u := by grind
  have hq : val s / val u * val u = val s := Rat.div_mul_cancel hz
  generalize val s / val u = q at hq
  have hua : rabs (val u) = val u := rabs_of_nonneg (Rat.le_of_lt hup)
  have hqb : rabs q ≤ 1391 / 100 := by
    have h1 : rabs q * val u ≤ 1391 / 100 * val u := by
      have h2 : rabs q * val u = rabs (val s) := by rw [← hq, rabs_mul, hua]
      rw [h2]
      have h3 := Rat.mul_le_mul_of_nonneg_left lu (show (0 : Rat) ≤ 1391 / 100 by grind)
      grind
    exact Rat.le_of_mul_le_mul_right h1 hup
  have hd := fop_div hs hu hz hq (by
    have := small_big (x := (30 : Rat)) (by unfold rabs; grind)
    have h3 : rabs (30 : Rat) = 30 := rabs_of_nonneg (by decide)
    grind)
  have he := hd.err
  have h52 : rabs q * pw (-52) + pw (-1075) ≤ 16 * pw (-52) + pw (-52) := by
    have h2 := Rat.mul_le_mul_of_nonneg_right (show rabs q ≤ 16 by grind) (Rat.le_of_lt (pw_pos (-52)))
    have h3 := pw_mono (show (-1075 : Int) ≤ -52 by decide)
    grind
  have h13 : stepE = 8192 * pw (-52) := by
    have h7 := pw_up (-52) 13
    rw [show (-52 : Int) + ((13 : Nat) : Int) = -39 from rfl] at h7
    have h8 : ((2 ^ 13 : Nat) : Rat) = 8192 := rfl
    rw [h8] at h7
    exact h7
  have hp52 := pw_pos (-52)
  have h4 := two_abs _ _ _ he
  refine ⟨hd.fin, by grind, ?_⟩
  have e1 : val (fop .div s u) * val u - val s = (val (fop .div s u) - q) * val u := by rw [← hq]; grind
  rw [e1, rabs_mul]
  have h5 := Rat.mul_le_mul_of_nonneg_left bu (rabs_nonneg (val (fop .div s u) - q))
  grind
theorem far_x (B : List (List Nat)) (n : Nat) (M : Rat) (hn : n ≤ 5) (hB : Bd n B M) (hM : M ≤ 2000) (h : Far n n B) (x : List Nat) (y : Nat → Nat) (hy : ∀ i, i < n → fin (y i) ∧ rabs (val (y i)) ≤ 64)
    (hx : ∀ i, i < n → x.getD i 0 = fop .div (seqS (y i) (fun j => fop .mul (at2 B i (i + 1 + j)) (x.getD (i + 1 + j) 0)) (n - 1 - i)) (at2 B i i)) :
    ∀ i, i < n → fin (x.getD i 0) ∧ rabs (val (x.getD i 0)) ≤ 14 ∧ rabs (va B i i * val (x.getD i 0) + rsum (fun j => va B i (i + 1 + j) * val (x.getD (i + 1 + j) 0)) (n - 1 - i) - val (y i)) ≤ 10 * stepE := by
  have hse : 0 < stepE := pw_pos _
  have hss := stepE_small
  have key : ∀ m i, n - i < m → i < n → fin (x.getD i 0) ∧ rabs (val (x.getD i 0)) ≤ 14 ∧ rabs (va B i i * val (x.getD i 0) + rsum (fun j => va B i (i + 1 + j) * val (x.getD (i + 1 + j) 0)) (n - 1 - i) - val (y i)) ≤ 10 * stepE := by
    intro m
    induction m with
    | zero => intro i hi; omega
    | succ m ih =>
      intro i hi hin
      have ih := fun j (hj : j < n - 1 - i) => ih (i + 1 + j) (by omega) (by omega : i + 1 + j < n)
      obtain ⟨b1, b2⟩ := hy i hin
      have hP : ∀ j, j < n - 1 - i → rabs (va B i (i + 1 + j) * val (x.getD (i + 1 + j) 0)) ≤ 98 := by
        intro j hj
        rw [rabs_mul]
        have h1 := h.up i (i + 1 + j) hin (by omega) (by omega)
        have h2 := (ih j (by omega)).2.1
        have h3 := Rat.mul_le_mul_of_nonneg_right h1 (rabs_nonneg (val (x.getD (i + 1 + j) 0)))
        grind
      have hs := seqS_err (y i) (fun j => at2 B i (i + 1 + j)) (fun j => x.getD (i + 1 + j) 0) 64 98 b1 b2 (n - 1 - i) (by omega) (fun j hj => ⟨(hB i (i + 1 + j) hin (by omega)).1, (ih j (by omega)).1, hP j hj⟩) (by grind) (by grind) (by grind)
      have hr := rsum_le (fun j => va B i (i + 1 + j) * val (x.getD (i + 1 + j) 0)) 98 (n - 1 - i) hP
      have hi4 : ((n - 1 - i : Nat) : Rat) ≤ 4 := by exact_mod_cast Rat.natCast_le_natCast.2 (show n - 1 - i ≤ 4 by omega)
      have h1 := Rat.mul_le_mul_of_nonneg_right hi4 (Rat.le_of_lt hse)
      have h2 := Rat.mul_le_mul_of_nonneg_right hi4 (show (0 : Rat) ≤ 98 by grind)
      have e : rsum (fun j => val (at2 B i (i + 1 + j)) * val (x.getD (i + 1 + j) 0)) (n - 1 - i) = rsum (fun j => va B i (i + 1 + j) * val (x.getD (i + 1 + j) 0)) (n - 1 - i) := rfl
      rw [e] at hs
      rw [hx i hin]
      generalize rsum (fun j => va B i (i + 1 + j) * val (x.getD (i + 1 + j) 0)) (n - 1 - i) = R at hs hr ⊢
      generalize seqS (y i) (fun j => fop .mul (at2 B i (i + 1 + j)) (x.getD (i + 1 + j) 0)) (n - 1 - i) = s at hs ⊢
      obtain ⟨f, he⟩ := hs
      have h3 := two_abs _ _ _ he
      have h4 := rabs_sub (val (y i)) R
      obtain ⟨u1, u2⟩ := hB i i hin hin
      obtain ⟨d1, d2, d3⟩ := div_err s (at2 B i i) f u1 (by grind) (h.top i hin hin) (by unfold va at u2; grind)
      refine ⟨d1, d2, ?_⟩
      have key2 : ∀ a s R Y d e : Rat, rabs (a - s) ≤ d → rabs (s - (Y - R)) ≤ e → rabs (a + R - Y) ≤ d + e := by
        intro a s R Y d e h1 h2
        have := le_rabs (a - s); have := le_rabs (s - (Y - R))
        exact rabs_le (by grind) (by grind)
      have e2 : va B i i * val (fop .div s (at2 B i i)) = val (fop .div s (at2 B i i)) * val (at2 B i i) := by unfold va; grind
      rw [e2]
      have := key2 _ _ _ _ _ _ d3 he
      grind
  exact fun i hi => key (n + 1) i (by omega) hi
/-- What solves the rows, put in. -/
theorem far_solve (A B : List (List Nat)) (π : List Int) (b : List Nat) (n : Nat) (M : Rat) (hn : n ≤ 5) (hB : Bd n B M) (hM : M ≤ 2000) (h : Far n n B) (hE : ∀ r c, r < n → c < n → rabs (prodK B n r c - va A r c) ≤ 5 * stepE)
    (hb : ∀ i, i < n → fin (b.getD (π.getD i 0).toNat 0) ∧ rabs (val (b.getD (π.getD i 0).toNat 0)) ≤ 25 / 2) :
    ∀ i, i < n → fin ((solveP B π b n).getD i 0) ∧ rabs (val ((solveP B π b n).getD i 0)) ≤ 14 ∧ rabs (rsum (fun j => va A i j * val ((solveP B π b n).getD j 0)) n - val (b.getD (π.getD i 0).toNat 0)) ≤ 373 * stepE := by
  obtain ⟨y, hy, hx⟩ := solve_spec B π b n
  generalize solveP B π b n = x at hx
  have hse : 0 < stepE := pw_pos _
  have hY := far_y B n M hn hB h y (fun i => b.getD (π.getD i 0).toNat 0) hb hy
  have hX := far_x B n M hn hB hM h x y (fun i hi => ⟨(hY i hi).1, (hY i hi).2.1⟩) hx
  intro i hi
  obtain ⟨x1, x2, _⟩ := hX i hi
  refine ⟨x1, x2, ?_⟩
  have hn5 : (n : Rat) ≤ 5 := by exact_mod_cast Rat.natCast_le_natCast.2 hn
  -- a row of the upper part
  have hT : ∀ m, m < n → rabs (rsum (fun j => Uf B m j * val (x.getD j 0)) n - val (y m)) ≤ 10 * stepE := by
    intro m hm
    have h3 := (hX m hm).2.2
    have e : rsum (fun j => Uf B m j * val (x.getD j 0)) n = va B m m * val (x.getD m 0) + rsum (fun j => va B m (m + 1 + j) * val (x.getD (m + 1 + j) 0)) (n - 1 - m) := by
      have e1 := rsum_front (fun j => Uf B m j * val (x.getD j 0)) (m + 1) (n - 1 - m)
      rw [show m + 1 + (n - 1 - m) = n from by omega] at e1
      rw [e1]
      have e2 : rsum (fun j => Uf B m j * val (x.getD j 0)) (m + 1) = va B m m * val (x.getD m 0) := by
        simp only [rsum]
        have e3 : rsum (fun j => Uf B m j * val (x.getD j 0)) m = rsum (fun _ => 0) m := rsum_congr fun j hj => by unfold Uf; rw [if_neg (by omega)]; grind
        rw [e3, rsum_zero]
        unfold Uf; rw [if_pos (Nat.le_refl m)]; grind
      rw [e2]
      refine congrArg _ (rsum_congr fun j hj => ?_)
      unfold Uf; rw [if_pos (by omega)]
    rw [e]; exact h3
  -- the parts multiplied, put in
  have hP : rsum (fun j => prodK B n i j * val (x.getD j 0)) n = rsum (fun m => Lf B i m * rsum (fun j => Uf B m j * val (x.getD j 0)) n) n := by
    have e1 : rsum (fun j => prodK B n i j * val (x.getD j 0)) n = rsum (fun j => rsum (fun m => Lf B i m * Uf B m j * val (x.getD j 0)) n) n := rsum_congr fun j hj => by
      rw [prod_full B n i j hi hj, ← rsum_mul]
    rw [e1, rsum_swap]
    refine rsum_congr fun m hm => ?_
    rw [← rsum_mul']
    exact rsum_congr fun j hj => by grind
  have hL : rsum (fun m => Lf B i m * rsum (fun j => Uf B m j * val (x.getD j 0)) n) n = rsum (fun m => va B i m * rsum (fun j => Uf B m j * val (x.getD j 0)) n) i + rsum (fun j => Uf B i j * val (x.getD j 0)) n := by
    have e1 := rsum_cut (fun m => Lf B i m * rsum (fun j => Uf B m j * val (x.getD j 0)) n) (i + 1) (n - (i + 1)) (fun m h1 h2 => by unfold Lf; rw [if_neg (by omega), if_neg (by omega)]; grind)
    rw [show i + 1 + (n - (i + 1)) = n from by omega] at e1
    rw [e1]
    simp only [rsum]
    have e2 : rsum (fun m => Lf B i m * rsum (fun j => Uf B m j * val (x.getD j 0)) n) i = rsum (fun m => va B i m * rsum (fun j => Uf B m j * val (x.getD j 0)) n) i := rsum_congr fun m hm => by unfold Lf; rw [if_pos hm]
    have e3 : Lf B i i = 1 := by unfold Lf; rw [if_neg (by omega), if_pos rfl]
    rw [e2, e3]; grind
  have hD : rabs (rsum (fun m => va B i m * rsum (fun j => Uf B m j * val (x.getD j 0)) n) i - rsum (fun m => va B i m * val (y m)) i) ≤ 8 * stepE := by
    have e1 : rsum (fun m => va B i m * rsum (fun j => Uf B m j * val (x.getD j 0)) n) i - rsum (fun m => va B i m * val (y m)) i = rsum (fun m => va B i m * (rsum (fun j => Uf B m j * val (x.getD j 0)) n - val (y m))) i := by
      have e2 : rsum (fun m => va B i m * rsum (fun j => Uf B m j * val (x.getD j 0)) n) i = rsum (fun m => va B i m * (rsum (fun j => Uf B m j * val (x.getD j 0)) n - val (y m)) + va B i m * val (y m)) i := rsum_congr fun m hm => by grind
      rw [e2, rsum_add]; grind
    rw [e1]
    have h1 := rsum_le (fun m => va B i m * (rsum (fun j => Uf B m j * val (x.getD j 0)) n - val (y m))) (2 * stepE) i (fun m hm => by
      rw [rabs_mul]
      have h1 := h.low i m (by omega) hm hi
      have h2 := hT m (by omega)
      have h3 := Rat.mul_le_mul_of_nonneg_right h1 (rabs_nonneg (rsum (fun j => Uf B m j * val (x.getD j 0)) n - val (y m)))
      grind)
    have hi4 : (i : Rat) ≤ 4 := by exact_mod_cast Rat.natCast_le_natCast.2 (show i ≤ 4 by omega)
    have h2 := Rat.mul_le_mul_of_nonneg_right hi4 (show (0 : Rat) ≤ 2 * stepE by grind)
    grind
  have hEx : rabs (rsum (fun j => va A i j * val (x.getD j 0)) n - rsum (fun j => prodK B n i j * val (x.getD j 0)) n) ≤ 350 * stepE := by
    have e1 : rsum (fun j => va A i j * val (x.getD j 0)) n - rsum (fun j => prodK B n i j * val (x.getD j 0)) n = rsum (fun j => (va A i j - prodK B n i j) * val (x.getD j 0)) n := by
      have e2 : rsum (fun j => va A i j * val (x.getD j 0)) n = rsum (fun j => (va A i j - prodK B n i j) * val (x.getD j 0) + prodK B n i j * val (x.getD j 0)) n := rsum_congr fun j hj => by grind
      rw [e2, rsum_add]; grind
    rw [e1]
    have h1 := rsum_le (fun j => (va A i j - prodK B n i j) * val (x.getD j 0)) (70 * stepE) n (fun j hj => by
      rw [rabs_mul]
      have h1 := hE i j hi hj
      have h2 := (hX j hj).2.1
      have h3 : rabs (va A i j - prodK B n i j) = rabs (prodK B n i j - va A i j) := by
        rw [← rabs_neg]; exact congrArg rabs (by grind)
      rw [h3]
      have h4 := Rat.mul_le_mul_of_nonneg_right h1 (rabs_nonneg (val (x.getD j 0)))
      have h5 := Rat.mul_le_mul_of_nonneg_left h2 (show (0 : Rat) ≤ 5 * stepE by grind)
      grind)
    have h2 := Rat.mul_le_mul_of_nonneg_right hn5 (show (0 : Rat) ≤ 70 * stepE by grind)
    grind
  have hyi := (hY i hi).2.2
  have hTi := hT i hi
  rw [hP, hL] at hEx
  have key : ∀ S a T a' Y b e1 e2 e3 e4 : Rat, rabs (S - (a + T)) ≤ e1 → rabs (a - a') ≤ e2 → rabs (T - Y) ≤ e3 → rabs (Y - (b - a')) ≤ e4 → rabs (S - b) ≤ e1 + e2 + e3 + e4 := by
    intro S a T a' Y b e1 e2 e3 e4 h1 h2 h3 h4
    have := le_rabs (S - (a + T)); have := le_rabs (a - a'); have := le_rabs (T - Y); have := le_rabs (Y - (b - a'))
    exact rabs_le (by grind) (by grind)
  have := key _ _ _ _ _ _ _ _ _ _ hEx hD hTi hyi
  grind
end Go.Ab
