/- Regions that draw their order; code, and what it promises. -/
import Derived.Test.YtdckmpaakheppaaT
namespace Go.Ab
set_option linter.unusedSimpArgs false
set_option linter.unusedVariables false
open Go

def compSeq (P : Program) (ops : List Oper) : Option (List II) :=
  (List.range ops.length).mapM fun k => (ops[k]?).bind fun o => compII P ops 0 [] [] k o

def pairs (n : Nat) (p : Nat → Nat → Bool) : Bool := (List.range n).all fun j => (List.range j).all fun i => p i j

def edgesDown (ops : List Oper) : Bool :=
  (List.range ops.length).all fun k => match ops[k]? with
    | some o => o.after.toList.all fun e => !Region.binds .any e || decide (e.on < k)
    | none => true

/-- Where a place comes from: by fields and elements. -/
def chase (ops : List Oper) (raw : List Inst) : Nat → Opd → Opd
  | 0, x => x
  | _ + 1, .k v => .k v
  | n + 1, .t i => match (ops.zip raw).find? (fun p => p.1.dst == some i) with
    | some (_, .h (.padd x _)) | some (_, .h (.idx x _ _)) | some (_, .h (.idxa x _ _ _)) | some (_, .h (.mov x)) => chase ops raw n x
    | _ => .t i

def compDraw0 (P : Program) (early : Bool) (ops : List Oper) : Option (List II) :=
  let n := ops.length
  let ms := masks ops []
  let ord := fun i j => (ms.getD j 0).testBit i || (ms.getD i 0).testBit j
  match ops.mapM (fun o => compI P 0 o.op) with
  | none => none
  | some raw =>
    let kd := fun k => ((raw[k]?).map Inst.kind).getD .X
    let pure := fun k => if decide (kd k = .X) && (List.range n).any fun i => i != k && !ord i k && decide (kd i ≠ .H) then (if (List.range n).any fun i => i != k && !ord i k && decide (kd i = .W) then 1 else k + 2) else 0
    let isBad := fun i k => !ord i k && kindApart (kd i) (kd k)
    let basesOf := fun k => ((raw[k]?).map fun i => i.places.map (chase ops raw 20)).getD []
    -- is a place's slot made in the region itself? then it is the other piece that is apart from this one
    let own := fun k => early && (basesOf k).any fun p => match p with
      | .t i => ops.any (·.dst == some i)
      | .k _ => false
    let bs := fun k => if (List.range n).any (fun j => (decide (k < j) && isBad k j && !own k) || (decide (j < k) && isBad j k && own j)) then basesOf k else []
    let ind := fun k => (List.range n).flatMap fun i => if (decide (i < k) && isBad i k && !own i) || (decide (k < i) && isBad k i && own k) then basesOf i else []
    match (List.range n).mapM (fun k => (ops[k]?).bind fun o => compII P ops (pure k) (bs k) (ind k) k o) with
    | none => none
    | some iis =>
      if edgesDown ops && pairs n (fun i j => (ms.getD j 0).testBit i || match iis[i]?, iis[j]? with
        | some x, some y => commB x y
        | _, _ => false) then some iis else none

def compDraw (P : Program) (ops : List Oper) : Option (List II) :=
  match compDraw0 P false ops with
  | some l => some l
  | none => compDraw0 P true ops

section
variable {P : Program} {base : Nat} {E : Env}

/-- Indices that are not listed. -/
def unlisted (n : Nat) (listed : Array Bool) : List Nat := (List.range n).filter fun i => !listed.getD i true

theorem filter_split (p : Nat → Bool) (i : Nat) (hi : p i = true) : ∀ (l : List Nat), l.Nodup → i ∈ l → ∃ α β, l.filter p = α ++ i :: β ∧ l.filter (fun j => p j && j != i) = α ++ β ∧ (∀ a ∈ α, p a = true ∧ a ∈ l) := by
  intro l
  induction l with
  | nil => intro _ h; cases h
  | cons j l ih =>
    intro hnd hm
    obtain ⟨hj, hnd'⟩ := List.nodup_cons.1 hnd
    by_cases e : i = j
    · subst e
      refine ⟨[], l.filter p, by simp [hi], ?_, by simp⟩
      rw [List.filter_cons_of_neg (by simp)]
      simp only [List.nil_append]
      refine List.filter_congr fun x hx => ?_
      have : x ≠ i := fun e => hj (e ▸ hx)
      simp [this]
    · have hm' : i ∈ l := by simpa [e] using hm
      obtain ⟨α, β, h1, h2, h3⟩ := ih hnd' hm'
      by_cases hp : p j = true
      · refine ⟨j :: α, β, by simp [hp, h1], ?_, ?_⟩
        · have hne : (p j && j != i) = true := by simp [hp, Ne.symm e]
          rw [List.filter_cons, if_pos hne, h2]; rfl
        · intro a ha
          rcases List.mem_cons.1 ha with rfl | ha
          · exact ⟨hp, by simp⟩
          · exact ⟨(h3 a ha).1, by simp [(h3 a ha).2]⟩
      · refine ⟨α, β, by simp [hp, h1], ?_, fun a ha => ⟨(h3 a ha).1, by simp [(h3 a ha).2]⟩⟩
        rw [List.filter_cons_of_neg (by simp [hp]), h2]

theorem unlisted_set (n : Nat) (listed : Array Bool) (hsz : listed.size = n) (i : Nat) (hi : i < n) :
    unlisted n (listed.setIfInBounds i true) = (List.range n).filter fun j => (!listed.getD j true) && j != i := by
  unfold unlisted
  refine List.filter_congr fun j hj => ?_
  have hj' : j < n := by simpa using hj
  by_cases e : i = j
  · subst e
    have : i < listed.size := by omega
    simp [this]
  · rw [getD_set_ne true e]
    have : (j != i) = true := by simpa using Ne.symm e
    rw [this, Bool.and_true]

/-- Sorted lists of indices: what stands ahead is less. -/
theorem ahead_lt {n i : Nat} {p : Nat → Bool} {α β : List Nat} (h : (List.range n).filter p = α ++ i :: β) : ∀ a ∈ α, a < i := by
  have hs : ((List.range n).filter p).Pairwise (· < ·) := List.Pairwise.filter _ List.pairwise_lt_range
  rw [h, List.pairwise_append] at hs
  intro a ha
  exact hs.2.2 a ha i (by simp)

/-- Constants name nothing. -/
theorem toV_name (v : Value) : (Value.toV v).name = none := by
  unfold Value.toV
  cases v <;> try rfl
  · simp only; split <;> rfl
  · simp only; split <;> rfl
  · simp only; split <;> rfl
  · rename_i fn a b; cases fn <;> simp only <;> first | rfl | (split <;> rfl)

theorem constV_name (v : Value) : (constV v).name = none := by
  unfold constV
  split
  · rfl
  · exact toV_name _

theorem of_name {x : Operand} {c : V} (h : Opd.of x = .k c) : c.name = none := by
  cases x <;> simp [Opd.of] at h <;> subst h
  · exact constV_name _
  · rfl
  · rfl

theorem const_name {ops : List Oper} {pure : Nat} {bs ind : List Opd} {k : Nat} {o : Oper} {ii : II} (hc : compII P ops pure bs ind k o = some ii) {c : V} (hp : Opd.k c ∈ ii.i.places) : c.name = none := by
  have hi : compI P pure o.op = some ii.i := by
    unfold compII at hc
    split at hc
    · cases hc
    · rename_i i hi
      split at hc
      · cases hc; exact hi
      · split at hc
        · cases hc; exact hi
        · cases hc
  generalize ii.i = i at hi hp
  unfold compI at hi
  split at hi
  · cases hi; simp [Inst.places] at hp
  · cases hop : o.op <;> simp only [hop, compM, reduceCtorEq] at hi
    case load t x =>
      split at hi
      · split at hi
        · cases hi; simp [Inst.places] at hp; exact of_name hp.symm
        · cases hi
      · cases hi
    case store t p x =>
      cases hn : szT P t <;> simp [hn] at hi
      subst hi; simp [Inst.places] at hp; exact of_name hp.symm
    case alloc t => cases hn : zeroI P t <;> simp [hn] at hi; subst hi; simp [Inst.places] at hp
    case box t x => cases hn : szT P t <;> simp [hn] at hi; subst hi; simp [Inst.places] at hp
    case buildSlice t len parts =>
      split at hi
      · split at hi
        · split at hi
          · cases hi; simp [Inst.places] at hp
          · cases hi
        · cases hi
      · cases hi
    case makeSlice t n c' =>
      split at hi
      · split at hi
        · split at hi
          · cases hi; simp [Inst.places] at hp
          · cases hi
        · cases hi
      · cases hi
    case call cl =>
      split at hi
      · split at hi
        · split at hi
          · split at hi
            · split at hi
              · split at hi
                · cases hi; simp [Inst.places] at hp; rcases hp with hp | hp <;> exact of_name hp.symm
                · cases hi
              · split at hi
                · cases hi; simp [Inst.places] at hp; rcases hp with hp | hp <;> exact of_name hp.symm
                · cases hi
            · cases hi
          · cases hi
        · cases hi
      · split at hi <;> cases hi <;> simp [Inst.places] at hp
      · cases hi

theorem any_sound {ops : Array Oper} {iis : List II} (hlen : iis.length = ops.size)
    (hc : ∀ k, (h : k < iis.length) → ∃ o pure bs ind, ops[k]? = some o ∧ compII P ops.toList pure bs ind k o = some iis[k])
    (hdown : ∀ k o e, ops[k]? = some o → e ∈ o.after → Region.binds .any e = true → e.on < k)
    (hpair : ∀ i j, i < j → (hj : j < iis.length) → (hi : i < iis.length) → Reach ops.toList i j ∨ commB iis[i] iis[j] = true)
    {Q : Exit → Act → World → Prop} {K : S → Prop} (hQ : ∀ t St' m' a' w', K t → SimS St' m' t a' w' → Since E St' m' t.L w' → Q .normal a' w') :
    ∀ (fuel : Nat) (listed : Array Bool) (St : Nat → Prop) (m : Map) (s : S) (a : Act) (w : World), listed.size = ops.size → (unlisted ops.size listed).length = fuel →
      (∀ k o e, listed.getD k false = true → ops[k]? = some o → e ∈ o.after → Region.binds .any e = true → listed.getD e.on false = true) →
      SimS St m s a w → Since E St m s.L w → wpI P base ((unlisted ops.size listed).filterMap fun i => iis[i]?) K s → wpAny P .any ops Q fuel listed a w := by
  intro fuel
  induction fuel with
  | zero =>
    intro listed St m s a w hsz hcount hd hs hE hk
    have hnil : unlisted ops.size listed = [] := List.eq_nil_of_length_eq_zero hcount
    rw [hnil] at hk
    refine ⟨?_, hQ s St m a w hk hs hE⟩
    unfold Region.ready
    rw [List.filter_eq_nil_iff]
    intro i hi hh
    have : i ∈ unlisted ops.size listed := by
      unfold unlisted; rw [List.mem_filter]; exact ⟨hi, by simp only [Bool.and_eq_true] at hh; exact hh.1⟩
    rw [hnil] at this; cases this
  | succ fuel ih =>
    intro listed St m s a w hsz hcount hd hs hE hk
    refine ⟨fun hr => ?_, fun i hi => ?_⟩
    · -- something is ready: the least that is not listed
      exfalso
      cases hu : unlisted ops.size listed with
      | nil => rw [hu] at hcount; simp at hcount
      | cons i β =>
        have hmem : i ∈ unlisted ops.size listed := by rw [hu]; simp
        unfold unlisted at hmem hu
        rw [List.mem_filter] at hmem
        obtain ⟨hi1, hi2⟩ := hmem
        have hilt : i < ops.size := by simpa using hi1
        have : i ∈ Region.ready .any ops listed := by
          rw [mem_ready]
          refine ⟨by simpa using hi2, ops[i], by simp [hilt], fun e he hb => ?_⟩
          have hlt := hdown i ops[i] e (by simp [hilt]) he hb
          cases hl : listed.getD e.on true with
          | true =>
            have hlt2 : e.on < listed.size := by omega
            rw [Array.getD_eq_getD_getElem?, Array.getElem?_eq_getElem hlt2] at hl ⊢
            exact hl
          | false =>
            exfalso
            have hm : e.on ∈ (List.range ops.size).filter fun i => !listed.getD i true := by
              rw [List.mem_filter]; exact ⟨by simp; omega, by simp [hl]⟩
            rw [hu] at hm
            rcases List.mem_cons.1 hm with h | h
            · omega
            · have hsrt : ((List.range ops.size).filter fun i => !listed.getD i true).Pairwise (· < ·) := List.Pairwise.filter _ List.pairwise_lt_range
              rw [hu, List.pairwise_cons] at hsrt
              have := hsrt.1 _ h; omega
        rw [hr] at this; cases this
    · rw [mem_ready] at hi
      obtain ⟨hi0, o, ho, hall⟩ := hi
      have hilt : i < ops.size := (Array.getElem?_eq_some_iff.1 ho).1
      have hii : i < iis.length := by omega
      have hp : (!listed.getD i true) = true := by simp [hi0]
      obtain ⟨α, β, h1, h2, h3⟩ := filter_split (fun j => !listed.getD j true) i hp (List.range ops.size) List.nodup_range (by simpa using hilt)
      have hu : unlisted ops.size listed = α ++ i :: β := h1
      have hu' : unlisted ops.size (listed.setIfInBounds i true) = α ++ β := by rw [unlisted_set _ _ hsz i hilt]; exact h2
      have hahead := ahead_lt h1
      have hcomm : ∀ x ∈ α.filterMap (fun i => iis[i]?), commB x iis[i] = true := by
        intro x hx
        obtain ⟨j, hj, hjx⟩ := List.mem_filterMap.1 hx
        obtain ⟨hjl, rfl⟩ := List.getElem?_eq_some_iff.1 hjx
        rcases hpair j i (hahead j hj) hii hjl with hreach | hc
        · exfalso
          have := hreach.listed (ops := ops) hd o ho hall
          have hju := (h3 j hj).1
          have hjlt : j < listed.size := by omega
          rw [Array.getD_eq_getD_getElem?, Array.getElem?_eq_getElem hjlt] at this hju
          simp at this hju
          rw [this] at hju; cases hju
        · exact hc
      rw [hu, List.filterMap_append, List.filterMap_cons] at hk
      have hgi : iis[i]? = some iis[i] := List.getElem?_eq_getElem hii
      rw [hgi] at hk
      simp only at hk
      obtain ⟨o', pure, bs, ind, ho', hcomp⟩ := hc i hii
      rw [ho] at ho'; cases ho'
      -- what it reads is there
      have hlive : Live s iis[i] := by
        intro hruns n hn
        simp only [readsOf, List.mem_filterMap] at hn
        obtain ⟨p, hpp, hpn⟩ := hn
        cases p with
        | t j =>
          have hv : VRel St m s.L w (s.ev (.t j)) (a.eval (.tmp j)) := ev_rel hs (.tmp j)
          generalize s.ev (.t j) = v at hv hpn
          cases v <;> simp [V.name] at hpn
          · obtain ⟨cells, ad, hL, _⟩ := hv.ptr'
            subst hpn; simp [hL]
          · obtain ⟨cells, b, cap, hL, _⟩ := hv.sl'
            subst hpn; simp [hL]
        | k c =>
          exfalso
          have hcn := const_name hcomp hpp
          simp only [S.ev] at hpn
          rw [hcn] at hpn; cases hpn
      have hb := bubble iis[i] (β.filterMap fun i => iis[i]?) (α.filterMap fun i => iis[i]?) s hcomm hlive hk
      refine op_sound hcomp ho hs hE hb fun t St' m' a' w' ht hs' hE' => ?_
      refine ih (listed.setIfInBounds i true) St' m' t a' w' (by simpa using hsz) ?_ ?_ hs' hE' ?_
      · rw [hu'] ; rw [hu] at hcount; simp at hcount ⊢; omega
      · intro k o' e hk' ho' he hb'
        by_cases e1 : i = k
        · subst e1
          rw [ho] at ho'; cases ho'
          exact getD_set_true (hall e he hb')
        · rw [getD_set_ne false e1] at hk'
          exact getD_set_true (hd k o' e hk' ho' he hb')
      · rw [hu', List.filterMap_append]; exact ht

end
end Go.Ab
