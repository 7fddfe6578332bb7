/- Pieces: what each hangs on. -/
import Derived.Test.YtdckmpaakheppaaO
namespace Go.Ab
set_option linter.unusedSimpArgs false
set_option linter.unusedVariables false
open Go

def HI.opds : HI → List Opd
  | .mov x | .nilck x | .un _ x | .icv _ x | .i2f x | .f2f x | .padd x _ | .fld x _ _ _ | .ext x _ | .len x | .bits x | .frombits x => [x]
  | .pick c a b => [c, a, b]
  | .mm3 c a b => [c, a, b]
  | .build _ ps => ps.map (·.2.2)
  | .ibin _ x y | .fbin _ x y | .fcmp _ x y | .bcmp _ x y | .idx x y _ | .idxa x y _ _ | .idxv x y _ _ _ | .mm _ x y => [x, y]
  | .mkfn _ f c => f ++ c
  | .slc x lo hi mx _ => x :: (lo.toList ++ hi.toList ++ mx.toList)

def Inst.opds : Inst → List Opd
  | .h i => i.opds
  | .load x _ _ => [x]
  | .callC f args => f :: args
  | .callS _ f args => f :: args
  | .alloc _ _ => []
  | .box x _ _ => [x]
  | .bslice _ _ _ ps _ => ps.map (·.2.2)
  | .mksl _ _ _ n c _ => [n, c]
  | .store p x _ => [p, x]
  | .app s x _ _ => [s, x]
  | .cpy d s _ => [d, s]
  | .callA f args => f :: args

section
variable {P : Program} {nm : Nat} {ev ev' : Opd → V} {L : Heap}

theorem hv_iff (i : HI) (K : V → Prop) : hv i ev K ↔ ∃ v, hv i ev (· = v) ∧ K v := by
  cases i <;> simp only [hv]
  case pick c x y =>
    split
    · rename_i t _
      cases t <;> simp
    · simp
  case build => split <;> simp
  case nilck => split <;> simp
  case ibin op x y =>
    split
    · cases op <;> simp [and_assoc]
    · simp
  case fbin => split <;> simp
  case fcmp => split <;> simp
  case bcmp => split <;> simp
  case un => split <;> simp
  case icv => split <;> simp
  case i2f => split <;> simp
  case f2f => split <;> simp
  case slc x lo hi mx esz =>
    split
    · constructor
      · rintro ⟨h, hk⟩; exact ⟨_, ⟨h, rfl⟩, hk⟩
      · rintro ⟨v, ⟨h, rfl⟩, hk⟩; exact ⟨h, hk⟩
    · constructor
      · rintro ⟨l, h, h1, h2, h3, h4, h5, h6, hk⟩; exact ⟨_, ⟨l, h, h1, h2, h3, h4, h5, h6, rfl⟩, hk⟩
      · rintro ⟨v, ⟨l, h, h1, h2, h3, h4, h5, h6, rfl⟩, hk⟩; exact ⟨l, h, h1, h2, h3, h4, h5, h6, hk⟩
    · constructor
      · rintro ⟨h0, l, h, mm, h1, h2, h3, h4, h5, h6, hk⟩; exact ⟨_, ⟨h0, l, h, mm, h1, h2, h3, h4, h5, h6, rfl⟩, hk⟩
      · rintro ⟨v, ⟨h0, l, h, mm, h1, h2, h3, h4, h5, h6, rfl⟩, hk⟩; exact ⟨h0, l, h, mm, h1, h2, h3, h4, h5, h6, hk⟩
    · simp
  case padd => split <;> simp [and_assoc]
  case fld => split <;> simp [and_assoc]
  case idx => split <;> simp [and_assoc]
  case idxa => split <;> simp [and_assoc]
  case idxv => split <;> simp [and_assoc]
  case ext => split <;> simp [and_assoc]
  case len => split <;> simp
  case mm => split <;> simp
  case mm3 => split <;> simp
  case bits => split <;> simp [and_assoc]
  case frombits => split <;> simp [and_assoc]
  all_goals simp

theorem eff_iff (i : Inst) (K : V → Heap → Prop) : effC P nm i ev L K ↔ ∃ v L', effC P nm i ev L (fun u M => u = v ∧ M = L') ∧ K v L' := by
  have fin : ∀ (A : Prop) (v : V) (L' : Heap), (A ∧ K v L') ↔ ∃ v0 L0, (A ∧ v = v0 ∧ L' = L0) ∧ K v0 L0 := by
    intro A v L'
    constructor
    · rintro ⟨h, hk⟩; exact ⟨v, L', ⟨h, rfl, rfl⟩, hk⟩
    · rintro ⟨_, _, ⟨h, rfl, rfl⟩, hk⟩; exact ⟨h, hk⟩
  have fin2 : ∀ (B A : Prop) (v : V) (L' : Heap), (B ∧ A ∧ K v L') ↔ ∃ v0 L0, (B ∧ A ∧ v = v0 ∧ L' = L0) ∧ K v0 L0 := by
    intro B A v L'
    constructor
    · rintro ⟨h0, h, hk⟩; exact ⟨v, L', ⟨h0, h, rfl, rfl⟩, hk⟩
    · rintro ⟨_, _, ⟨h0, h, rfl, rfl⟩, hk⟩; exact ⟨h0, h, hk⟩
  have no : False ↔ ∃ (v0 : V) (L0 : Heap), False ∧ K v0 L0 := by simp
  cases i <;> simp only [effC]
  case h i =>
    rw [hv_iff i (fun v => K v L)]
    constructor
    · rintro ⟨v, h, hk⟩; exact ⟨v, L, (hv_iff i _).2 ⟨v, h, rfl, rfl⟩, hk⟩
    · rintro ⟨v, L', h, hk⟩
      obtain ⟨u, h1, rfl, rfl⟩ := (hv_iff i _).1 h
      exact ⟨u, h1, hk⟩
  case load =>
    split
    · exact fin ..
    · split
      · exact fin ..
      · exact no
    · exact no
  case callC =>
    split
    · constructor
      · rintro ⟨h, ⟨r, hc, hk⟩ | ⟨fam, r, hc, hf, hk⟩⟩
        · exact ⟨r, L, ⟨h, .inl ⟨r, hc, rfl, rfl⟩⟩, hk⟩
        · exact ⟨_, _, ⟨h, .inr ⟨fam, r, hc, hf, rfl, rfl⟩⟩, hk⟩
      · rintro ⟨v, L', ⟨h, ⟨r, hc, rfl, rfl⟩ | ⟨fam, r, hc, hf, rfl, rfl⟩⟩, hk⟩
        · exact ⟨h, .inl ⟨r, hc, hk⟩⟩
        · exact ⟨h, .inr ⟨fam, r, hc, hf, hk⟩⟩
    · exact no
  case callS =>
    split
    · unfold CallS
      constructor
      · rintro (⟨us, r, h, hc, hk⟩ | ⟨us, fam, r, h, hc, hf, hk⟩)
        · exact ⟨r, L, .inl ⟨us, r, h, hc, rfl, rfl⟩, hk⟩
        · exact ⟨_, _, .inr ⟨us, fam, r, h, hc, hf, rfl, rfl⟩, hk⟩
      · rintro ⟨v, L', ⟨us, r, h, hc, rfl, rfl⟩ | ⟨us, fam, r, h, hc, hf, rfl, rfl⟩, hk⟩
        · exact .inl ⟨us, _, h, hc, hk⟩
        · exact .inr ⟨us, fam, r, h, hc, hf, hk⟩
    · exact no
  case callA =>
    split
    · constructor
      · rintro ⟨L', r, hc, hk⟩; exact ⟨r, L', ⟨L', r, hc, rfl, rfl⟩, hk⟩
      · rintro ⟨v, L', ⟨L'', r, hc, rfl, rfl⟩, hk⟩; exact ⟨_, r, hc, hk⟩
    · exact no
  case alloc => exact fin2 ..
  case box => exact fin2 ..
  case bslice =>
    split
    · exact fin2 ..
    · exact no
  case mksl =>
    split
    · exact fin2 ..
    · exact no
  case store =>
    split
    · split
      · exact fin ..
      · exact no
    · exact no
  case app =>
    split
    · split
      · exact fin2 ..
      · split
        · exact fin ..
        · exact no
      · exact no
    · exact no
  case cpy =>
    split
    · split
      · split
        · exact fin ..
        · exact no
      · exact no
    · exact no

theorem hv_congr (i : HI) (K : V → Prop) (h : ∀ o ∈ i.opds, ev o = ev' o) : hv i ev K = hv i ev' K := by
  have parts : ∀ (z : List V) (ps : List (Nat × Nat × Opd)), (∀ o ∈ ps.map (·.2.2), ev o = ev' o) → partsV ev ps = partsV ev' ps := by
    intro z ps hp
    unfold partsV
    refine List.map_congr_left fun p hp' => ?_
    obtain ⟨a, b, x⟩ := p
    simp only [Prod.mk.injEq, true_and]
    exact hp x (List.mem_map.2 ⟨_, hp', rfl⟩)
  have bd : ∀ (o : Option Opd) (d l : Nat), (∀ x ∈ o.toList, ev x = ev' x) → hv.bound ev o d l = hv.bound ev' o d l := by
    intro o d l ho
    cases o with
    | none => rfl
    | some x => simp only [hv.bound]; rw [ho x (by simp)]
  cases i <;> simp only [HI.opds, List.mem_cons, List.not_mem_nil, or_false, forall_eq_or_imp, forall_eq, List.mem_append] at h <;> simp only [hv]
  case build z ps => rw [parts z ps h]
  case mkfn f a b =>
    rw [List.map_congr_left fun x hx => h x (.inl hx), List.map_congr_left fun x hx => h x (.inr hx)]
  case slc x lo hi mx esz =>
    obtain ⟨h0, h1⟩ := h
    have e1 : ∀ d l, hv.bound ev lo d l = hv.bound ev' lo d l := fun d l => bd lo d l fun x hx => h1 x (.inl (.inl hx))
    have e2 : ∀ d l, hv.bound ev hi d l = hv.bound ev' hi d l := fun d l => bd hi d l fun x hx => h1 x (.inl (.inr hx))
    have e3 : ∀ d l, hv.bound ev mx d l = hv.bound ev' mx d l := fun d l => bd mx d l fun x hx => h1 x (.inr hx)
    have e4 : (∀ o ∈ lo.toList ++ hi.toList ++ mx.toList, ∃ k, ev o = .d (.int k 0)) = (∀ o ∈ lo.toList ++ hi.toList ++ mx.toList, ∃ k, ev' o = .d (.int k 0)) := by
      refine propext ⟨fun hh o ho => ?_, fun hh o ho => ?_⟩
      · rw [← h1 o (by simp only [List.mem_append] at ho; exact ho)]; exact hh o ho
      · rw [h1 o (by simp only [List.mem_append] at ho; exact ho)]; exact hh o ho
    rw [h0, e4]
    simp only [e1, e2, e3]
  all_goals first | (obtain ⟨h1, h2, h3⟩ := h; rw [h1, h2, h3]) | (obtain ⟨h1, h2⟩ := h; rw [h1, h2]) | rw [h]

theorem eff_congr (i : Inst) (K : V → Heap → Prop) (h : ∀ o ∈ i.opds, ev o = ev' o) : effC P nm i ev L K = effC P nm i ev' L K := by
  have parts : ∀ (ps : List (Nat × Nat × Opd)), (∀ o ∈ ps.map (·.2.2), ev o = ev' o) → partsV ev ps = partsV ev' ps := by
    intro ps hp
    unfold partsV
    refine List.map_congr_left fun p hp' => ?_
    obtain ⟨a, b, x⟩ := p
    simp only [Prod.mk.injEq, true_and]
    exact hp x (List.mem_map.2 ⟨_, hp', rfl⟩)
  cases i <;> simp only [Inst.opds, List.mem_cons, List.not_mem_nil, or_false, forall_eq_or_imp, forall_eq] at h <;> simp only [effC]
  case h i => exact hv_congr i _ h
  case bslice z n esz ps el => rw [parts ps h]
  case callC f args => obtain ⟨h1, h2⟩ := h; rw [h1, List.map_congr_left h2]
  case callS k f args => obtain ⟨h1, h2⟩ := h; rw [h1, List.map_congr_left h2]
  case callA f args => obtain ⟨h1, h2⟩ := h; rw [h1, List.map_congr_left h2]
  all_goals first | (obtain ⟨h1, h2⟩ := h; rw [h1, h2]) | rw [h]
end
end Go.Ab
