/- A piece in its place: what it promises, the operation keeps. -/
import Derived.Test.YtdckmpaakheppaaN
namespace Go.Ab
set_option linter.unusedSimpArgs false
set_option linter.unusedVariables false
open Go

section
variable {P : Program} {St : Nat → Prop} {m : Map} {L : Heap} {w w' : World} {o : Oper} {a : Act} {s : S} {K : V → Heap → Prop} {next : Act → World → Prop} {Q : Exit → Act → World → Prop}

/-- What is stable is stable, what is not named is not named: blocks that data of a snapshot lie in. -/
theorem Snap.rel (ho : Objs St m L w) {v d : V} (h : Snap L v d) : ∀ {c : Value}, VRel St m L w v c → VRel (fun b => b < w.heap.size) (fun _ _ => none) [] w d c := by
  have base : ∀ {x : D} {c : Value}, DRel St w x c → DRel (fun b => b < w.heap.size) w x c := fun h => h.mono ho.st (fun _ _ => rfl)
  induction h with
  | d x => intro c hc; cases hc with | d h => exact .d (base h)
  | nil => intro c hc; rw [hc.nil']; exact .d (.bor0 _ _ _)
  | any => intro c _; exact .any c
  | sl hg hver hl hlen hs ih =>
    rename_i X r off n esz ver cells get
    intro c hc
    obtain ⟨cells', a, cap, hL', hv', hc, hncap, ha, hf⟩ := hc.sl'
    rw [hg] at hL'; cases hL'
    subst hc
    by_cases h0 : 0 < n
    · rcases hf hver with hz | ⟨b, C, hm, hC, rfl⟩
      · omega
      · obtain ⟨p1, p2, arr, el, p3, p4, p5, p6⟩ := ho.obj X r cells b C hg hm
        have idx : ∀ i j, i < n → j < esz → off + i * esz + j < cells.length := by
          intro i j hi hj
          have : i * esz + esz ≤ n * esz := by rw [← Nat.succ_mul]; exact Nat.mul_le_mul_right _ hi
          omega
        refine .d (.bor (fun i j => arr.getD (off + i * esz + j) undef) p1 hncap hlen (fun i j hi hj => ?_) fun i j hi hj => ?_)
        · exact cell_of_block p3 (by have := idx i j hi hj; omega)
        · have := ih i j hi hj (p6 _ (idx i j hi hj))
          cases this with | d h => exact h
    · obtain rfl : n = 0 := by omega
      exact .d (.bor0 _ _ _)
  | ptr hg hver hl hne hs ih =>
    rename_i X r off ver cells ds
    intro c hc
    obtain ⟨cells', ad, hL', hv', hc, hf⟩ := hc.ptr'
    rw [hg] at hL'; cases hL'
    subst hc
    obtain ⟨b, C, hm, rfl⟩ := hf hver
    obtain ⟨p1, p2, arr, el, p3, p4, p5, p6⟩ := ho.obj X r cells b C hg hm
    refine .d (.bptr (fun j => arr.getD (off + j) undef) p1 (fun j hj => cell_of_block p3 (by omega)) fun j hj => ?_)
    have := ih j hj (p6 _ (by omega))
    cases this with | d h => exact h
  | agg hl hs ih =>
    intro c hc
    obtain ⟨cs, rfl, hsz, hr⟩ := hc.agg'
    exact .agg (by omega) fun j hj => ih j (by omega) (hr j (by omega))
  | tup hl hs ih =>
    intro c hc
    obtain ⟨cs, rfl, hsz, hr⟩ := hc.tup'
    exact .tup (by omega) fun j hj => ih j (by omega) (hr j (by omega))
  | fn h1 h2 hf hc ihf ihc =>
    intro c hc'
    obtain ⟨fs, cs, rfl, e1, e2, r1, r2⟩ := hc'.fn'
    refine .d (.fn (by omega) (by omega) (fun j hj => ?_) fun j hj => ?_)
    · have := ihf j (by omega) (r1 j (by omega)); cases this with | d h => exact h
    · have := ihc j (by omega) (r2 j (by omega)); cases this with | d h => exact h

theorem Scalar.rel {v : V} (h : Scalar v) : ∀ {St St' : Nat → Prop} {m m' : Map} {L L' : Heap} {w w' : World} {c : Value}, VRel St m L w v c → VRel St' m' L' w' v c := by
  induction h with
  | int k n => intro _ _ _ _ _ _ _ _ c hc; rw [hc.int]; exact .d (.int _ _)
  | bool b => intro _ _ _ _ _ _ _ _ c hc; rw [hc.bool]; exact .d (.bool _)
  | flt x => intro _ _ _ _ _ _ _ _ c hc; obtain ⟨b, hb, hcb, rfl⟩ := hc.flt; exact .d (.flt hb hcb)
  | any => intro _ _ _ _ _ _ _ _ c _; exact .any c
  | agg h ih => intro _ _ _ _ _ _ _ _ c hc; obtain ⟨cs, rfl, hsz, hr⟩ := hc.agg'; exact .agg hsz fun j hj => ih j hj (hr j hj)
  | tup h ih => intro _ _ _ _ _ _ _ _ c hc; obtain ⟨cs, rfl, hsz, hr⟩ := hc.tup'; exact .tup hsz fun j hj => ih j hj (hr j hj)

/-- Values that name nothing mean the same under any names. -/
theorem VRel.bare {v : V} {c : Value} (h : VRel St (fun _ _ => none) [] w v c) : ∀ (m' : Map) (L' : Heap), VRel St m' L' w v c := by
  intro m' L'
  induction h with
  | d h => exact .d h
  | any c => exact .any c
  | nil => exact .nil
  | ptr hL _ _ _ _ => simp [Heap.get, Heap.fam] at hL
  | sl hL _ _ _ _ _ _ _ => simp [Heap.get, Heap.fam] at hL
  | agg h1 h ih => exact .agg h1 ih
  | fn h1 h2 hf hc ihf ihc => exact .fn h1 h2 ihf ihc
  | tup h1 h ih => exact .tup h1 ih

theorem Objs.none (St : Nat → Prop) (hS : ∀ b, St b → b < w.heap.size) : Objs St (fun _ _ => Option.none) [] w :=
  ⟨hS, fun X r c h => by simp [Heap.get, Heap.fam] at h, fun X r c b C h => by simp [Heap.get, Heap.fam] at h, fun X r Y q b C C' h => by simp [Heap.get, Heap.fam] at h⟩

/-- A value that holds data alone, or is a scalar. -/
inductive Bare : V → Prop
  | d (x) : Bare (.d x)
  | any : Bare .any
  | nil : Bare .nil
  | fn {f : FuncId} {xs ys : List V} (h1 : ∀ j, j < xs.length → Bare (xs.getD j .any)) (h2 : ∀ j, j < ys.length → Bare (ys.getD j .any)) : Bare (.fn f xs ys)
  | agg {xs : List V} (h : ∀ j, j < xs.length → Bare (xs.getD j .any)) : Bare (.agg xs)
  | tup {xs : List V} (h : ∀ j, j < xs.length → Bare (xs.getD j .any)) : Bare (.tup xs)

theorem Bare.strip {v : V} (h : Bare v) : ∀ {m : Map} {L : Heap} {c : Value}, VRel St m L w v c → VRel St (fun _ _ => Option.none) [] w v c := by
  induction h with
  | d x => intro m L c hc; cases hc with | d h => exact .d h
  | any => intro m L c _; exact .any c
  | nil => intro m L c hc; rw [hc.nil']; exact .nil
  | fn h1 h2 ih1 ih2 => intro m L c hc; obtain ⟨fs, cs, rfl, e1, e2, r1, r2⟩ := hc.fn'; exact .fn e1 e2 (fun j hj => ih1 j hj (r1 j hj)) fun j hj => ih2 j hj (r2 j hj)
  | agg h ih => intro m L c hc; obtain ⟨cs, rfl, hsz, hr⟩ := hc.agg'; exact .agg hsz fun j hj => ih j hj (hr j hj)
  | tup h ih => intro m L c hc; obtain ⟨cs, rfl, hsz, hr⟩ := hc.tup'; exact .tup hsz fun j hj => ih j hj (hr j hj)

/-- A call of data alone, made among rows of one's own. -/
theorem AC_of_Con {f : FuncId} {vs us : List V} {r : V} (hlen : us.length = vs.length) (hr : (us = vs ∧ ∀ j, j < vs.length → Bare (vs.getD j .any)) ∨ (∀ j, j < us.length → Snap L (vs.getD j .any) (us.getD j .any)) ∧ Scalar r) (hc : Con P f us r) : AC P f vs L L r := by
  refine ⟨hc.1, fun St m w cargs ho hsz hargs => ?_⟩
  rcases hr with ⟨rfl, hbare⟩ | ⟨hsn, hsc⟩
  · refine (hc.2 St (fun _ _ => Option.none) w cargs (Objs.none St ho.st) hsz fun j hj => (hbare j hj).strip (hargs j hj)).mono ?_
    rintro e w' ⟨v, St', m', rfl, ho', hv, hfr, hext, hst, hnm⟩
    have hfr' : ∀ b, b < w.heap.size → w'.heap[b]? = w.heap[b]? := fun b hb => hfr.block b hb fun ⟨X, r, C, h, _⟩ => by simp [Heap.get, Heap.fam] at h
    have hx : Ext St St' m m L L w w' := ⟨hext.st, fun b hb => hfr' b (ho.st b hb), fun X r c h => ⟨c, h, Nat.le_refl _, fun _ => rfl⟩⟩
    have hv' : VRel St' m L w' r v := (hv.mono (L' := []) (m' := fun _ _ => Option.none) ⟨fun _ h => h, fun _ _ => rfl, fun X r c h => ⟨c, h, Nat.le_refl _, fun e => ?_⟩⟩).bare m L
    · refine ⟨v, St', m, rfl, ⟨ho'.st, ho.nil, fun X r c b C h1 h2 => ?_, ho.inj⟩, hv', ⟨hfr.os, hfr.tape, hfr.output, hfr.size, fun b hb _ => hfr' b hb⟩, hx, hst, .refl _ _ _⟩
      obtain ⟨p1, p2, arr, el, p3, p4, p5, p6⟩ := ho.obj X r c b C h1 h2
      refine ⟨Nat.lt_of_lt_of_le p1 hfr.size, fun hs => ?_, arr, el, by rw [hfr' b p1]; exact p3, p4, p5, fun j hj => (p6 j hj).mono hx⟩
      rcases hst b hs with h | h
      · exact p2 h
      · omega
    · simp [Heap.get, Heap.fam] at h
  · refine (hc.2 (fun b => b < w.heap.size) (fun _ _ => Option.none) w cargs (Objs.none _ fun _ h => h) (by omega) fun j hj => Snap.rel ho (hsn j hj) (hargs j (by omega))).mono ?_
    rintro e w' ⟨v, St', m', rfl, ho', hv, hfr, hext, hst, hnm⟩
    have hfr' : ∀ b, b < w.heap.size → w'.heap[b]? = w.heap[b]? := fun b hb => hfr.block b hb fun ⟨X, r, C, h, _⟩ => by simp [Heap.get, Heap.fam] at h
    have hx : Ext St St m m L L w w' := ⟨fun _ h => h, fun b hb => hfr' b (ho.st b hb), fun X r c h => ⟨c, h, Nat.le_refl _, fun _ => rfl⟩⟩
    refine ⟨v, St, m, rfl, ⟨fun b hb => Nat.lt_of_lt_of_le (ho.st b hb) hfr.size, ho.nil, fun X r c b C h1 h2 => ?_, ho.inj⟩, hsc.rel hv, ⟨hfr.os, hfr.tape, hfr.output, hfr.size, fun b hb _ => hfr' b hb⟩, hx, fun _ h => .inl h, .refl _ _ _⟩
    obtain ⟨p1, p2, arr, el, p3, p4, p5, p6⟩ := ho.obj X r c b C h1 h2
    exact ⟨Nat.lt_of_lt_of_le p1 hfr.size, p2, arr, el, by rw [hfr' b p1]; exact p3, p4, p5, fun j hj => (p6 j hj).mono hx⟩

theorem isD_bare {v : V} (h : v.isD = true) : Bare v := by cases v <;> simp [V.isD] at h <;> constructor
theorem all_get {p : V → Bool} {xs : List V} (h : xs.all p = true) (j : Nat) (hj : j < xs.length) : p (xs.getD j .any) = true := by
  rw [List.getD_eq_getElem?_getD, List.getElem?_eq_getElem hj]
  exact List.all_eq_true.1 h _ (List.getElem_mem hj)
theorem isD1_bare {v : V} (h : v.isD1 = true) : Bare v := by
  cases v <;> first | exact isD_bare h | exact .agg fun j hj => isD_bare (all_get h j hj)
theorem bareB_bare {v : V} (h : v.bareB = true) : Bare v := by
  cases v <;> simp only [V.bareB, Bool.and_eq_true, Bool.false_eq_true] at h
  · exact .d _
  · exact .agg fun j hj => isD_bare (all_get h j hj)
  · exact .fn (fun j hj => isD_bare (all_get h.1 j hj)) fun j hj => isD_bare (all_get h.2 j hj)
  · exact .tup fun j hj => isD1_bare (all_get h j hj)
  · exact .nil
  · exact .any

theorem AC_of_CallC {f : FuncId} {vs : List V} {r : V} (h : CallC P L f vs r) : AC P f vs L L r := by
  rcases h with ⟨hb, hc⟩ | ⟨us, hl, hs, hr, hc⟩
  · exact AC_of_Con rfl (.inl ⟨rfl, fun j hj => bareB_bare (all_get hb j hj)⟩) hc
  · exact AC_of_Con hl (.inr ⟨hs, hr⟩) hc

theorem renL_eq (f : Nat → Nat → Nat × Nat) : ∀ l : List V, V.renL f l = l.map (V.ren f) := by
  intro l
  induction l with
  | nil => rfl
  | cons v l ih => simp only [V.renL, List.map_cons, ih]

theorem ren_getD (f : Nat → Nat → Nat × Nat) (l : List V) (j : Nat) : (l.map (V.ren f)).getD j .any = V.ren f (l.getD j .any) := by
  simp only [List.getD_eq_getElem?_getD, List.getElem?_map]
  cases l[j]? <;> simp [V.ren]

theorem VRel.ren {St : Nat → Prop} {m m2 : Map} {L L2 : Heap} {w : World} (f : Nat → Nat → Nat × Nat) (hf : ∀ X r cells, L.get X r = some cells → L2.get (f X r).1 (f X r).2 = some (cells.map (V.ren f)) ∧ m2 (f X r).1 (f X r).2 = m X r) {v : V} {c : Value}
    (h : VRel St m L w v c) : VRel St m2 L2 w (v.ren f) c := by
  induction h with
  | d h => exact .d h
  | any c => exact .any c
  | nil => exact .nil
  | ptr hL hv ad hc h =>
    obtain ⟨h1, h2⟩ := hf _ _ _ hL
    exact .ptr h1 (by simpa using hv) ad hc fun e => by rw [h2]; exact h (by simpa using e)
  | sl hL hv a cap hc hn ha h =>
    obtain ⟨h1, h2⟩ := hf _ _ _ hL
    exact .sl h1 (by simpa using hv) a cap hc hn ha fun e => by rw [h2]; exact h (by simpa using e)
  | agg h1 h ih => simp only [V.ren, renL_eq]; exact .agg (by simpa using h1) fun j hj => by rw [ren_getD]; exact ih j (by simpa using hj)
  | fn h1 h2 hf' hc ihf ihc => simp only [V.ren, renL_eq]; exact .fn (by simpa using h1) (by simpa using h2) (fun j hj => by rw [ren_getD]; exact ihf j (by simpa using hj)) fun j hj => by rw [ren_getD]; exact ihc j (by simpa using hj)
  | tup h1 h ih => simp only [V.ren, renL_eq]; exact .tup (by simpa using h1) fun j hj => by rw [ren_getD]; exact ih j (by simpa using hj)


theorem PureV.rel {St' : Nat → Prop} {v : V} (h : PureV v) : ∀ {c : Value}, VRel St m L w v c → VRel St' m L w' v c := by
  induction h with
  | int k n => intro c hc; cases hc with | d h => cases h; exact .d (.int k n)
  | bool b => intro c hc; cases hc with | d h => cases h; exact .d (.bool b)
  | flt x => intro c hc; cases hc with | d h => cases h with | flt hb h => exact .d (.flt hb h)
  | nil => intro c hc; rw [hc.nil']; exact .nil
  | any => intro c _; exact .any c
  | ptr X r off ver => intro c hc; cases hc with | ptr hL hv ad hc h => exact .ptr hL hv ad hc h
  | sl X r off n esz ver => intro c hc; cases hc with | sl hL hv a cap hc hn ha h => exact .sl hL hv a cap hc hn ha h
  | agg h ih => intro c hc; obtain ⟨cs, rfl, hsz, hr⟩ := hc.agg'; exact .agg hsz fun j hj => ih j hj (hr j hj)
  | tup h ih => intro c hc; obtain ⟨cs, rfl, hsz, hr⟩ := hc.tup'; exact .tup hsz fun j hj => ih j hj (hr j hj)

/-- A call that makes rows of its own, all of one name. -/
theorem AC_freshG {nm : Nat} {f : FuncId} {vs us : List V} {r : V} {fam : List (List V)} (hc : AC P f us [] [(0, fam)] r)
    (hr : (us = vs ∧ ∀ j, j < vs.length → Bare (vs.getD j .any)) ∨ (us.length = vs.length ∧ (∀ j, j < us.length → Snap L (vs.getD j .any) (us.getD j .any)) ∧ PureV r ∧ PureF fam)) (hnm : L.fam nm = none) :
    AC P f vs L (L.ins nm (famUp nm fam)) (r.ren (toF nm)) := by
  have g0 : ∀ X q, Heap.get [(0, fam)] X q = if X = 0 then fam[q]? else none := by
    intro X q
    simp only [Heap.get, Heap.fam, List.lookup_cons, List.lookup_nil]
    by_cases e : X = 0
    · subst e; simp
    · have : (X == 0) = false := by simpa using e
      simp [this, e]
  have hLn : ∀ q, L.get nm q = none := fun q => get_none_of_fam hnm
  have hg : ∀ X q, Heap.get (L.ins nm (famUp nm fam)) X q = if X = nm then (fam[q]?).map (·.map (V.ren (toF nm))) else L.get X q := by
    intro X q
    rw [get_insF hnm]
    split
    · simp [famUp]
    · rfl
  refine ⟨hc.1, fun St m w cargs ho hsz hargs => ?_⟩
  have core : ∀ (w' : World) (St'' : Nat → Prop) (m' : Map) (v : Value), (∀ b, b < w.heap.size → w'.heap[b]? = w.heap[b]?) → w.heap.size ≤ w'.heap.size → w'.os = w.os → w'.tape = w.tape → w'.output = w.output →
      (∀ b, St b → St'' b) → (∀ b, St'' b → St b ∨ w.heap.size ≤ b) → Objs St'' m' [(0, fam)] w' → (∀ X q b C, Heap.get [(0, fam)] X q ≠ none → m' X q = some (b, C) → w.heap.size ≤ b) → VRel St'' m' [(0, fam)] w' r v →
      ∃ v' St' m'', Ending.returned v = .returned v' ∧ Objs St' m'' (L.ins nm (famUp nm fam)) w' ∧ VRel St' m'' (L.ins nm (famUp nm fam)) w' (r.ren (toF nm)) v' ∧ Frame' (Named m L) w w' ∧
        Ext St St' m m'' L (L.ins nm (famUp nm fam)) w w' ∧ (∀ b, St' b → St b ∨ w.heap.size ≤ b) ∧ Src m L m'' (L.ins nm (famUp nm fam)) w := by
    intro w' St'' m' v hkeep hsize hos htape hout hst1 hst2 ho' hnew hv
    let m'' : Map := fun X q => if X = nm then m' 0 q else m X q
    have hren : ∀ X q cells, Heap.get [(0, fam)] X q = some cells → Heap.get (L.ins nm (famUp nm fam)) (toF nm X q).1 (toF nm X q).2 = some (cells.map (V.ren (toF nm))) ∧ m'' (toF nm X q).1 (toF nm X q).2 = m' X q := by
      intro X q cells h
      rw [g0] at h
      split at h
      · rename_i e; subst e
        refine ⟨?_, by simp [m'', toF]⟩
        rw [hg]; simp [toF, h]
      · cases h
    have hx : Ext St St'' m m'' L (L.ins nm (famUp nm fam)) w w' := by
      refine ⟨hst1, fun b hb => hkeep b (ho.st b hb), fun X q cells hX => ⟨cells, ?_, Nat.le_refl _, fun _ => ?_⟩⟩
      · have : X ≠ nm := fun e => by rw [e, hLn] at hX; cases hX
        rw [hg, if_neg this]; exact hX
      · have : X ≠ nm := fun e => by rw [e, hLn] at hX; cases hX
        simp only [m'']; rw [if_neg this]
    refine ⟨v, St'', m'', rfl, ⟨ho'.st, fun X q cells hX hm => ?_, fun X q cells b C hX hm => ?_, fun X q Y p b C C' hX hY hm hm' => ?_⟩, hv.ren (toF nm) hren, ⟨hos, htape, hout, hsize, fun b hb _ => hkeep b hb⟩, hx, hst2, fun X q b C hX hm => ?_⟩
    · rw [hg] at hX
      simp only [m''] at hm
      split at hX
      · rename_i e
        rw [if_pos e] at hm
        obtain ⟨c0, h1, h2⟩ := Option.map_eq_some_iff.1 hX
        have := ho'.nil 0 q c0 (by rw [g0]; simpa using h1) hm
        rw [this] at h2; simpa using h2.symm
      · rename_i e; rw [if_neg e] at hm; exact ho.nil _ _ _ hX hm
    · rw [hg] at hX
      simp only [m''] at hm
      split at hX
      · rename_i e
        rw [if_pos e] at hm
        obtain ⟨c0, h1, h2⟩ := Option.map_eq_some_iff.1 hX
        obtain ⟨p1, p2, arr, el, p3, p4, p5, p6⟩ := ho'.obj 0 q c0 b C (by rw [g0]; simpa using h1) hm
        refine ⟨p1, p2, arr, el, p3, p4, by rw [← h2]; simpa using p5, fun j hj => ?_⟩
        rw [← h2, ren_getD]
        exact (p6 j (by rw [← h2] at hj; simpa using hj)).ren (toF nm) hren
      · rename_i e
        rw [if_neg e] at hm
        obtain ⟨p1, p2, arr, el, p3, p4, p5, p6⟩ := ho.obj _ _ _ b C hX hm
        refine ⟨by omega, fun hs => ?_, arr, el, by rw [hkeep b p1]; exact p3, p4, p5, fun j hj => (p6 j hj).mono hx⟩
        rcases hst2 b hs with h | h
        · exact p2 h
        · omega
    · rw [hg] at hX hY
      simp only [m''] at hm hm'
      have in0 : ∀ q, (fam[q]?).map (fun c => c.map (V.ren (toF nm))) ≠ none → Heap.get [(0, fam)] 0 q ≠ none := by
        intro q h e
        rw [g0, if_pos rfl] at e
        rw [e] at h; exact h rfl
      split at hX <;> rename_i e1 <;> split at hY <;> rename_i e2
      · rw [if_pos e1] at hm; rw [if_pos e2] at hm'
        obtain ⟨k1, k2⟩ := ho'.inj 0 q 0 p b C C' (in0 q hX) (in0 p hY) hm hm'
        exact ⟨by rw [e1, e2], k2⟩
      · rw [if_pos e1] at hm; rw [if_neg e2] at hm'
        obtain ⟨c, hc⟩ := Option.ne_none_iff_exists'.1 hY
        have := (ho.obj _ _ _ b C' hc hm').1
        have := hnew _ _ b C (in0 q hX) hm
        omega
      · rw [if_neg e1] at hm; rw [if_pos e2] at hm'
        obtain ⟨c, hc⟩ := Option.ne_none_iff_exists'.1 hX
        have := (ho.obj _ _ _ b C hc hm).1
        have := hnew _ _ b C' (in0 p hY) hm'
        omega
      · rw [if_neg e1] at hm; rw [if_neg e2] at hm'
        exact ho.inj _ _ _ _ b C C' hX hY hm hm'
    · rw [hg] at hX
      simp only [m''] at hm
      split at hX <;> rename_i e1
      · rw [if_pos e1] at hm
        refine .inr (hnew 0 q b C (fun e => ?_) hm)
        rw [g0, if_pos rfl] at e
        rw [e] at hX; exact hX rfl
      · rw [if_neg e1] at hm
        exact .inl ⟨hX, hm⟩
  rcases hr with ⟨rfl, hbare⟩ | ⟨hlen, hsn, hpr, hpc⟩
  · refine (hc.2 St (fun _ _ => Option.none) w cargs (Objs.none St ho.st) hsz fun j hj => (hbare j hj).strip (hargs j hj)).mono ?_
    rintro e w' ⟨v, St', m', rfl, ho', hv, hfr, hext, hst, hsrc⟩
    have hkeep : ∀ b, b < w.heap.size → w'.heap[b]? = w.heap[b]? := fun b hb => hfr.block b hb fun ⟨X, r, C, h, _⟩ => by simp [Heap.get, Heap.fam] at h
    exact core w' St' m' v hkeep hfr.size hfr.os hfr.tape hfr.output hext.st hst ho' (fun X q b C h1 h2 => by
      rcases hsrc X q b C h1 h2 with ⟨h3, _⟩ | h3
      · simp [Heap.get, Heap.fam] at h3
      · exact h3) hv
  · refine (hc.2 (fun b => b < w.heap.size) (fun _ _ => Option.none) w cargs (Objs.none _ fun _ h => h) (by omega) fun j hj => Snap.rel ho (hsn j hj) (hargs j (by omega))).mono ?_
    rintro e w' ⟨v, St', m', rfl, ho', hv, hfr, hext, hst, hsrc⟩
    have hkeep : ∀ b, b < w.heap.size → w'.heap[b]? = w.heap[b]? := fun b hb => hfr.block b hb fun ⟨X, r, C, h, _⟩ => by simp [Heap.get, Heap.fam] at h
    have hnew : ∀ X q b C, Heap.get [(0, fam)] X q ≠ none → m' X q = some (b, C) → w.heap.size ≤ b := fun X q b C h1 h2 => by
      rcases hsrc X q b C h1 h2 with ⟨h3, _⟩ | h3
      · simp [Heap.get, Heap.fam] at h3
      · exact h3
    refine core w' St m' v hkeep hfr.size hfr.os hfr.tape hfr.output (fun _ h => h) (fun _ h => .inl h) ⟨fun b hb => Nat.lt_of_lt_of_le (ho.st b hb) hfr.size, ho'.nil, fun X q cells b C h1 h2 => ?_, ho'.inj⟩ hnew (hpr.rel hv)
    obtain ⟨p1, p2, arr, el, p3, p4, p5, p6⟩ := ho'.obj X q cells b C h1 h2
    have hX : fam[q]? = some cells := by
      rw [g0] at h1
      split at h1
      · exact h1
      · cases h1
    exact ⟨p1, fun hs => by have := hnew X q b C (by rw [h1]; simp) h2; have := ho.st b hs; omega, arr, el, p3, p4, p5, fun j hj => (hpc q cells hX j hj).rel (p6 j hj)⟩
theorem AC_fresh {nm : Nat} {f : FuncId} {vs : List V} {r : V} {fam : List (List V)} (hc : AC P f vs [] [(0, fam)] r) (hbare : ∀ j, j < vs.length → Bare (vs.getD j .any)) (hnm : L.fam nm = none) :
    AC P f vs L (L.ins nm (famUp nm fam)) (r.ren (toF nm)) := AC_freshG hc (.inl ⟨rfl, hbare⟩) hnm
theorem Snap.mono {L M : Heap} {v d : V} (h : Snap L v d) (hm : ∀ X r c, L.get X r = some c → M.get X r = some c) : Snap M v d := by
  induction h with
  | d x => exact .d x
  | nil => exact .nil
  | any => exact .any
  | sl h hv hl hg hs ih => exact .sl (hm _ _ _ h) hv hl hg ih
  | ptr h hv hl hne hs ih => exact .ptr (hm _ _ _ h) hv hl hne ih
  | agg h hs ih => exact .agg h ih
  | tup h hs ih => exact .tup h ih
  | fn h1 h2 hf hc ih1 ih2 => exact .fn h1 h2 ih1 ih2
theorem old_fam (b : Nat) : ∀ (L : Heap) (X : Nat), (L.old b).fam X = if X < b then L.fam X else none := by
  intro L
  induction L with
  | nil => intro X; simp [Heap.old, Heap.fam]
  | cons p L ih =>
    obtain ⟨Y, g⟩ := p
    intro X
    have ih := ih X
    simp only [Heap.old] at ih ⊢
    by_cases h : Y < b
    · rw [List.filter_cons_of_pos (by simpa using h)]
      simp only [Heap.fam, List.lookup_cons] at ih ⊢
      by_cases e : X = Y
      · subst e; simp [h]
      · have : (X == Y) = false := by simpa using e
        rw [this]; exact ih
    · rw [List.filter_cons_of_neg (by simpa using h)]
      simp only [Heap.fam, List.lookup_cons] at ih ⊢
      by_cases e : X = Y
      · subst e; rw [ih, if_neg h, if_neg h]
      · have : (X == Y) = false := by simpa using e
        rw [this]; exact ih
theorem old_get {b : Nat} {L : Heap} {X r : Nat} {c : List V} (h : (L.old b).get X r = some c) : L.get X r = some c := by
  unfold Heap.get at h ⊢
  rw [old_fam] at h
  split at h
  · exact h
  · cases h
theorem AC_of_SArgs {nm b : Nat} {f : FuncId} {vs us : List V} {r : V} (h : SArgs (L.old b) vs us (Scalar r)) (hc : Con P f us r) : AC P f vs L L r := by
  rcases h with ⟨rfl, hb⟩ | ⟨hl, hs, hr⟩
  · exact AC_of_Con rfl (.inl ⟨rfl, fun j hj => bareB_bare (all_get hb j hj)⟩) hc
  · exact AC_of_Con hl (.inr ⟨fun j hj => (hs j hj).mono fun X r c h => old_get h, hr⟩) hc
theorem AC_of_SArgsF {nm b : Nat} {f : FuncId} {vs us : List V} {r : V} {fam : List (List V)} (h : SArgs (L.old b) vs us (PureV r ∧ PureF fam)) (hc : AC P f us [] [(0, fam)] r) (hnm : L.fam nm = none) :
    AC P f vs L (L.ins nm (famUp nm fam)) (r.ren (toF nm)) := by
  rcases h with ⟨rfl, hb⟩ | ⟨hl, hs, hr⟩
  · exact AC_freshG hc (.inl ⟨rfl, fun j hj => bareB_bare (all_get hb j hj)⟩) hnm
  · exact AC_freshG hc (.inr ⟨hl, fun j hj => (hs j hj).mono fun X r c h => old_get h, hr⟩) hnm

/-- What is called, as the model has it. -/
theorem call_upon (x : Operand) (args : Array Operand) (ats : Array TypeId) (g : FuncId) (first cap : List V) (L' : Heap) (r : V) (hs : SimS St m s a w)
    (hop : o.op = .call { callee := .value x, args := args, argTypes := ats }) (hc : callee (s.ev (Opd.of x)) = some (g, first, cap))
    (hAC : AC P g (first ++ (args.toList.map Opd.of).map s.ev ++ cap) s.L L' r) (hn : ∀ c w', Post St m s.L w r L' c w' → next (a.put o.dst c) w') : o.wp P a w next Q := by
  have hx := ev_rel hs x
  have hargs := map_rel hs args
  obtain ⟨fs, cs, hev, hf, hcp⟩ : ∃ fs cs : Array Value, a.eval x = .func (.func g) fs cs ∧ LRel St m s.L w first fs ∧ LRel St m s.L w cap cs := by
    generalize s.ev (Opd.of x) = v at *
    cases v with
    | fn f a1 a2 => simp [callee] at hc; obtain ⟨rfl, rfl, rfl⟩ := hc; obtain ⟨fs, cs, h, e1, e2, r1, r2⟩ := hx.fn'; exact ⟨fs, cs, h, ⟨e1, r1⟩, ⟨e2, r2⟩⟩
    | d y =>
      cases y <;> simp [callee] at hc
      obtain ⟨rfl, rfl, rfl⟩ := hc
      obtain ⟨fs, cs, h, e1, e2, r1, r2⟩ := hx.dfn
      refine ⟨fs, cs, h, ⟨by simpa using e1, fun j hj => ?_⟩, ⟨by simpa using e2, fun j hj => ?_⟩⟩
      · have hj' := hj; simp only [List.length_map] at hj'
        have := r1 j hj'
        simp only [List.getD_eq_getElem?_getD, List.getElem?_map, List.getElem?_eq_getElem hj', Option.map_some, Option.getD_some] at this ⊢
        exact .d this
      · have hj' := hj; simp only [List.length_map] at hj'
        have := r2 j hj'
        simp only [List.getD_eq_getElem?_getD, List.getElem?_map, List.getElem?_eq_getElem hj', Option.map_some, Option.getD_some] at this ⊢
        exact .d this
    | _ => simp [callee] at hc
  obtain ⟨⟨fn, hfn, hbody, hname⟩, hcall⟩ := hAC
  have hall : LRel St m s.L w (first ++ (args.toList.map Opd.of).map s.ev ++ cap) (fs ++ args.map a.eval ++ cs) := by
    have h1 := PRel.append cs hf hargs
    have := PRel.append #[] (St := St) (m := m) (L := s.L) (w := w) (xs := first ++ (args.toList.map Opd.of).map s.ev) (as := fs ++ args.map a.eval) ⟨by simp [hf.1], fun j hj => by
      have := (PRel.append #[] hf hargs).2 j hj
      simpa using this⟩ hcp
    exact ⟨by simp [hf.1, hcp.1], fun j hj => by simpa using this.2 j hj⟩
  have hrun : (execOp a.eval o).run P w = .ok (.enter g (fs ++ args.map a.eval ++ cs)) w := by
    simp only [execOp, hop]
    have hb' : fn.body ≠ none := by intro h; simp [h] at hbody
    have hname' : ¬ fn.name = "runtime.NumGoroutine" := by simpa using hname
    simp [resolve, hev, Deferred.ofValue, invoke, callFunc, hfn, hb', hname']
  unfold Oper.wp
  rw [hrun, Oper.upon_enter]
  refine (hcall St m w _ hs.objs hall.1 hall.2).mono ?_
  rintro e w' ⟨v, St', m', rfl, h1, h2, h3, h4, h5, h6⟩
  exact hn v w' ⟨St', m', h1, h2, h3, h4, h5, h6⟩

theorem eff_sound (pure : Nat) (nm : Nat) (i : Inst) (hc : compI P pure o.op = some i) (hs : SimS St m s a w) (hk : eff P nm i s K)
    (hn : ∀ v L' c w', K v L' → Post St m s.L w v L' c w' → next (a.put o.dst c) w') : o.wp P a w next Q := by
  unfold compI at hc
  split at hc
  · rename_i hi hh
    cases hc
    obtain ⟨v, c, w', hr, hsame, hkv, hv⟩ := compH_sound (K := fun v => K v s.L) hh hs hk
    unfold Oper.wp; rw [hr, Oper.upon_value]
    exact hn _ _ _ _ hkv (hsame.post hs.objs hv)
  · have val : (∃ v L' c w', (execOp a.eval o).run P w = .ok (.value c) w' ∧ K v L' ∧ Post St m s.L w v L' c w') → o.wp P a w next Q := by
      rintro ⟨v, L', c, w', hr, hkv, hp⟩
      unfold Oper.wp; rw [hr, Oper.upon_value]; exact hn _ _ _ _ hkv hp
    cases hop : o.op <;> simp only [hop, compM, reduceCtorEq] at hc
    case load t x =>
      split at hc
      · rename_i n g hn' hg
        split at hc
        · rename_i h1; cases hc; exact val (load_sound nm t x n g hn' hg h1 hop hs hk)
        · cases hc
      · cases hc
    case store t p x =>
      cases hn' : szT P t with
      | none => simp [hn'] at hc
      | some n =>
        simp only [hn', Option.map_some, Option.some.injEq] at hc; subst hc
        obtain ⟨v, L', w', hr, hkv, hp⟩ := store_sound nm t p x n hn' hop hs hk
        unfold Oper.wp; rw [hr, Oper.upon_skip]; exact hn _ _ _ _ hkv hp
    case alloc t =>
      cases hz : zeroI P t with
      | none => simp [hz] at hc
      | some p =>
        obtain ⟨it, z⟩ := p
        simp only [hz, Option.map_some, Option.some.injEq] at hc; subst hc
        obtain ⟨h1, h2, h3⟩ := zeroI_spec hz
        exact val (alloc_sound nm t it z h1 h2 hop hs hk)
    case box t x =>
      cases hn' : szT P t with
      | none => simp [hn'] at hc
      | some n => simp only [hn', Option.map_some, Option.some.injEq] at hc; subst hc; exact val (box_sound nm t x n hop hs hk)
    case buildSlice t len parts =>
      split at hc
      · rename_i e he
        split at hc
        · rename_i it z hz
          split at hc
          · rename_i hlim; cases hc
            obtain ⟨h1, h2, h3⟩ := zeroI_spec hz
            exact val (bslice_sound nm t e len parts it z he h1 h2 hlim hop hs hk)
          · cases hc
        · cases hc
      · cases hc
    case makeSlice t n c =>
      split at hc
      · rename_i e he
        split at hc
        · rename_i it z hz
          split at hc
          · rename_i hb; cases hc
            obtain ⟨h1, h2, h3⟩ := zeroI_spec hz
            exact val (mksl_sound nm t e n c it z he h1 h2 hb.1 hb.2 hop hs hk)
          · cases hc
        · cases hc
      · cases hc
    case call c =>
      obtain ⟨cl, args, ats⟩ := c
      have la : ∀ l : List Operand, args.toList = l → args = l.toArray := fun l h => by rw [← h]
      have lt : ∀ l : List TypeId, ats.toList = l → ats = l.toArray := fun l h => by rw [← h]
      cases cl with
      | invoke r n => cases hc
      | builtin b =>
        simp only at hc
        split at hc
        · rename_i x y t t2 hx ht
          obtain rfl := la _ hx
          obtain rfl := lt _ ht
          split at hc
          · rename_i e e2 he he2
            split at hc
            · rename_i it z hz
              obtain ⟨h1, h2, h3⟩ := zeroI_spec hz
              split at hc
              · rename_i hb; subst hb
                split at hc
                · rename_i hby; cases hc; exact val (app_sound nm o.type t t2 e e2 x y it z he he2 h1 h2 hby h3 rfl hop hs hk)
                · cases hc
              · split at hc
                · rename_i hb; subst hb; cases hc; exact val (cpy_sound nm o.type t t2 e x y it he h1 rfl hop hs hk)
                · cases hc
            · cases hc
          · cases hc
        · cases hc
      | value f =>
        simp only at hc
        split at hc
        · cases hc
          simp only [eff, effC] at hk
          split at hk
          · rename_i g first cap hcl
            obtain ⟨L', r, hcc, hk⟩ := hk
            exact call_upon f args ats g first cap L' r hs hop hcl hcc fun c w' hp => hn _ _ _ _ hk hp
          · exact hk.elim
        · cases hc
          simp only [eff, effC] at hk
          split at hk
          · rename_i g first cap hcl
            obtain ⟨hbare, ⟨r, hcc, hk⟩ | ⟨fam, r, hac, hf, hk⟩⟩ := hk
            · exact call_upon f args ats g first cap s.L r hs hop hcl (AC_of_CallC (.inl ⟨hbare, hcc⟩)) fun c w' hp => hn _ _ _ _ hk hp
            · exact call_upon f args ats g first cap _ _ hs hop hcl (AC_fresh hac (fun j hj => bareB_bare (all_get hbare j hj)) hf) fun c w' hp => hn _ _ _ _ hk hp
          · exact hk.elim
        · cases hc
          simp only [eff, effC] at hk
          split at hk
          · rename_i g first cap hcl
            rcases hk with ⟨us, r, hsa, hcc, hk⟩ | ⟨us, fam, r, hsa, hac, hf, hk⟩
            · exact call_upon f args ats g first cap s.L r hs hop hcl (AC_of_SArgs (nm := nm) hsa hcc) fun c w' hp => hn _ _ _ _ hk hp
            · exact call_upon f args ats g first cap _ _ hs hop hcl (AC_of_SArgsF hsa hac hf) fun c w' hp => hn _ _ _ _ hk hp
          · exact hk.elim

end
end Go.Ab
