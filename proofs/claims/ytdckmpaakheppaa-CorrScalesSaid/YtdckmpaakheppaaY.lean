/- Functions: a call's contract, out of what its body promises. -/
import Derived.Test.YtdckmpaakheppaaX
namespace Go.Ab
set_option linter.unusedSimpArgs false
set_option linter.unusedVariables false
open Go

/-- A result: a slot; or a variable in memory (its cells, is it a struct or an array?). -/
def compRes (P : Program) : ResultVar → Option (Nat × Option (Nat × Bool))
  | .tmp t => some (t, none)
  | .cell t ty => match szT P ty, aggT P ty with
    | some n, some g => if (g = true ∨ n = 1) ∧ 0 < n then some (t, some (n, g)) else none
    | _, _ => none

def resV (s : S) : Nat × Option (Nat × Bool) → V → Prop
  | (t, none), v => v = s.sl.getD t .any
  | (t, some (n, g)), v => match s.sl.getD t .any with
    | .ptr X r off ver => match s.L.get X r with
      | some cells => cells.length = ver ∧ off + n ≤ cells.length ∧ v = ldv g n off cells
      | none => False
    | _ => False

/-- What a function hands back. -/
def ResV (s : S) : List (Nat × Option (Nat × Bool)) → V → Prop
  | [r], v => resV s r v
  | [r1, r2], v => ∃ v1 v2, resV s r1 v1 ∧ resV s r2 v2 ∧ v = .tup [v1, v2]
  | [r1, r2, r3], v => ∃ v1 v2 v3, resV s r1 v1 ∧ resV s r2 v2 ∧ resV s r3 v3 ∧ v = .tup [v1, v2, v3]
  | _, _ => False

/-- A function as pieces: slots, results, code. -/
structure Fun where
  ntmps : Nat
  res : List (Nat × Option (Nat × Bool))
  body : C

def compF (P : Program) (f : FuncId) : Option Fun :=
  match P.funcs[f]? with
  | none => none
  | some fn => if fn.name == "runtime.NumGoroutine" then none else
    match fn.body with
    | none => none
    | some c => match compC P c, fn.results.toList.mapM (compRes P) with
      | some b, some r => some ⟨fn.ntmps, r, b⟩
      | _, _ => none

section
variable {P : Program} {N : Nat → Prop} {Q : Ex → S → Prop} {s : S} {St : Nat → Prop} {m : Map} {L L' : Heap} {w : World}

theorem res_run {a : Act} (hs : SimS St m s a w) {rv : ResultVar} {r : Nat × Option (Nat × Bool)} (hc : compRes P rv = some r) {v : V} (hv : resV s r v) :
    ∃ c, (match rv with | .tmp t => pure (a.tmps.getD t undef) | .cell x t => do loadVar t (← asAddr (a.tmps.getD x undef)) : Sem Value).run P w = .ok c w ∧ VRel St m s.L w v c := by
  cases rv with
  | tmp t =>
    simp only [compRes, Option.some.injEq] at hc
    subst hc
    simp only [resV] at hv
    subst hv
    refine ⟨_, rfl, ?_⟩
    exact ev_rel hs (.tmp t)
  | cell x t =>
    simp only [compRes] at hc
    split at hc
    case h_2 => cases hc
    rename_i n g hn hg
    split at hc
    case isFalse => cases hc
    rename_i h1
    cases hc
    simp only [resV] at hv
    split at hv
    case h_2 => exact hv.elim
    rename_i X r off ver hx
    split at hv
    case h_2 => exact hv.elim
    rename_i cells hL
    obtain ⟨hver, hle, rfl⟩ := hv
    have hp := ev_rel hs (.tmp x)
    simp only [Opd.of, S.ev, hx] at hp
    obtain ⟨cells', ad, hL', hv', hc, hf⟩ := hp.ptr'
    rw [hL] at hL'; cases hL'
    obtain ⟨b, C, hm, rfl⟩ := hf hver
    obtain ⟨p1, p2, arr, el, p3, p4, p5, p6⟩ := hs.objs.obj X r cells b C hL hm
    obtain ⟨c, hr, hcc⟩ := run_loadVar (P := P) (w := w) hg hn h1.1 h1.2 b off (fun j => arr.getD (off + j) undef) (fun j hj => cell_of_block p3 (by omega))
    refine ⟨c, ?_, LRel.ldv hle (fun j hj => p6 _ (by omega)) hcc⟩
    have hc' : a.tmps.getD x undef = .pointer (some ⟨b, off, none⟩) := hc
    simp only [hc', asAddr, Sem.run_bind, Sem.run_pure, Result.andThen]
    exact hr

theorem mapM_run {α β : Type} (g : α → Sem β) : ∀ (l : List α) (cs : List β), cs.length = l.length → (∀ j (h1 : j < l.length) (h2 : j < cs.length), (g l[j]).run P w = .ok cs[j] w) → (l.mapM g).run P w = .ok cs w := by
  intro l
  induction l with
  | nil => intro cs h _; obtain rfl : cs = [] := by simpa using h
           simp
  | cons x l ih =>
    intro cs h hc
    cases cs with
    | nil => simp at h
    | cons c cs =>
      have h0 := hc 0 (by simp) (by simp)
      have h1 := ih cs (by simpa using h) fun j h1 h2 => hc (j + 1) (Nat.succ_lt_succ h1) (Nat.succ_lt_succ h2)
      simp only [List.getElem_cons_zero] at h0
      simp [List.mapM_cons, h0, h1]

theorem results_run {a : Act} {fn : Func} (hs : SimS St m s a w) {rs : List (Nat × Option (Nat × Bool))} (hc : fn.results.toList.mapM (compRes P) = some rs) {v : V} (hv : ResV s rs v) :
    ∃ c, (results fn a.tmps).run P w = .ok c w ∧ VRel St m s.L w v c := by
  obtain ⟨hl, hcs⟩ := mapM_some _ _ _ hc
  have run : ∀ cs : List Value, cs.length = fn.results.toList.length → (∀ j (h1 : j < fn.results.toList.length) (h2 : j < cs.length),
      (match fn.results.toList[j] with | .tmp t => pure (a.tmps.getD t undef) | .cell x t => do loadVar t (← asAddr (a.tmps.getD x undef)) : Sem Value).run P w = .ok cs[j] w) →
      (results fn a.tmps).run P w = .ok (if h : cs.toArray.size = 1 then cs.toArray[0] else .tuple cs.toArray) w := by
    intro cs hlen hall
    unfold results
    rw [Array.mapM_eq_mapM_toList]
    simp only [Sem.run_bind, Sem.run_map]
    rw [mapM_run _ _ cs hlen hall]
    rfl
  generalize fn.results.toList = l at hl hcs run
  match l, rs, hl, hcs, hv, run with
  | [], [], _, _, hv, _ => exact hv.elim
  | _ :: _ :: _ :: _ :: _, _ :: _ :: _ :: _ :: _, _, _, hv, _ => exact hv.elim
  | [r], [r'], _, hcs, hv, run =>
    obtain ⟨c, h1, h2⟩ := res_run hs (hcs 0 (by simp) (by simp)) hv
    exact ⟨c, run [c] rfl (fun j h1' _ => by
      have : j = 0 := by simpa using h1'
      subst this; exact h1), h2⟩
  | [r1, r2], [r1', r2'], _, hcs, hv, run =>
    obtain ⟨v1, v2, hv1, hv2, rfl⟩ := hv
    obtain ⟨c1, h1, k1⟩ := res_run hs (hcs 0 (by simp) (by simp)) hv1
    obtain ⟨c2, h2, k2⟩ := res_run hs (hcs 1 (by simp) (by simp)) hv2
    refine ⟨.tuple #[c1, c2], run [c1, c2] rfl (fun j h1' _ => ?_), .tup rfl fun j hj => ?_⟩
    · match j, h1' with
      | 0, _ => exact h1
      | 1, _ => exact h2
    · match j, hj with
      | 0, _ => exact k1
      | 1, _ => exact k2
  | [r1, r2, r3], [r1', r2', r3'], _, hcs, hv, run =>
    obtain ⟨v1, v2, v3, hv1, hv2, hv3, rfl⟩ := hv
    obtain ⟨c1, h1, k1⟩ := res_run hs (hcs 0 (by simp) (by simp)) hv1
    obtain ⟨c2, h2, k2⟩ := res_run hs (hcs 1 (by simp) (by simp)) hv2
    obtain ⟨c3, h3, k3⟩ := res_run hs (hcs 2 (by simp) (by simp)) hv3
    refine ⟨.tuple #[c1, c2, c3], run [c1, c2, c3] rfl (fun j h1' _ => ?_), .tup rfl fun j hj => ?_⟩
    · match j, h1' with
      | 0, _ => exact h1
      | 1, _ => exact h2
      | 2, _ => exact h3
    · match j, hj with
      | 0, _ => exact k1
      | 1, _ => exact k2
      | 2, _ => exact k3

/-- The state that a call begins in. -/
def enter (F : Fun) (vs : List V) (L : Heap) : S := ⟨vs ++ List.replicate (F.ntmps - vs.length) .any, L⟩

/-- What a body's end is to give: the result r, rows L', or what is stronger. -/
def Ends (N : Nat → Prop) (F : Fun) (r : V) (L' : Heap) : Ex → S → Prop
  | .normal, s | .ret, s => ∃ v ρ, ResV s F.res v ∧ Wk N [v] s.L [r] L' ρ
  | _, _ => False

theorem AC_intro {f : FuncId} {F : Fun} (hF : compF P f = some F) (hm : P.follows .mixedOrders = true) (N : Nat → Prop) {vs : List V} {r : V} (hN : ∀ X q, L.get X q ≠ none → N X)
    (h : W P N F.body (Ends N F r L') (enter F vs L)) : AC P f vs L L' r := by
  unfold compF at hF
  split at hF
  · cases hF
  rename_i fn hfn
  split at hF
  · cases hF
  rename_i hname
  split at hF
  · cases hF
  rename_i code hbody
  split at hF
  case h_2 => cases hF
  rename_i b rs hcb hrs
  cases hF
  refine ⟨⟨fn, hfn, by simp [hbody], by simpa using hname⟩, fun St m w cargs ho hsz hargs => ?_⟩
  have hs : SimS St m (enter ⟨fn.ntmps, rs, b⟩ vs L) { tmps := cargs ++ Array.replicate (fn.ntmps - cargs.size) undef, defers := [] } w := by
    refine ⟨ho, by simp [enter, hsz], fun i hi => ?_, rfl⟩
    simp only [enter] at hi ⊢
    by_cases hlt : i < vs.length
    · have e1 : (vs ++ List.replicate (fn.ntmps - vs.length) V.any).getD i .any = vs.getD i .any := by
        simp [List.getD_eq_getElem?_getD, List.getElem?_append_left hlt]
      have e2 : (cargs ++ Array.replicate (fn.ntmps - cargs.size) undef).getD i undef = cargs.getD i undef := by
        have : i < cargs.size := by omega
        simp [Array.getD_eq_getD_getElem?, Array.getElem?_append, this]
      rw [e1, e2]; exact hargs i hlt
    · have e1 : (vs ++ List.replicate (fn.ntmps - vs.length) V.any).getD i .any = .any := by
        rw [List.getD_eq_getElem?_getD, List.getElem?_append_right (Nat.not_lt.1 hlt), List.getElem?_replicate]
        split <;> rfl
      rw [e1]; exact .any _
  have hE : Since ⟨St, m, L, w⟩ St m L w := ⟨.refl _ _, .refl _ _ _ _, fun b h => .inl h, .refl _ _ _⟩
  have hw := h hm code hcb ⟨St, m, L, w⟩ hN St m _ w hs hE
  refine calls_of_wp hfn hbody (wp_mono hw fun e a' w' hp => ?_)
  have fin : ∀ (t : S) (St' : Nat → Prop) (m' : Map), SimS St' m' t a' w' → Since ⟨St, m, L, w⟩ St' m' t.L w' → (∃ v ρ, ResV t rs v ∧ Wk N [v] t.L [r] L' ρ) →
      a'.defers = [] ∧ ∃ v, (results fn a'.tmps).run P w' = .ok v w' ∧ ∃ v' St'' m'', Ending.returned v = .returned v' ∧ Objs St'' m'' L' w' ∧ VRel St'' m'' L' w' r v' ∧ Frame' (Named m L) w w' ∧
        Ext St St'' m m'' L L' w w' ∧ (∀ b, St'' b → St b ∨ w.heap.size ≤ b) ∧ Src m L m'' L' w := by
    rintro t St' m' hs' hE' ⟨v, ρ, hres, hwk⟩
    obtain ⟨c, hr, hv⟩ := results_run (P := P) hs' hrs hres
    obtain ⟨St'', m'', h1, h2, h3⟩ := hwk.rel (E := ⟨St, m, L, w⟩) hN hs'.objs hE' (cs := [c]) rfl (fun i hi => by
      have : i = 0 := by simpa using hi
      subst this; exact hv)
    exact ⟨hs'.calm, c, hr, c, St'', m'', rfl, h1, h3 0 (by simp), h2.frame, h2.ext, h2.st, h2.src⟩
  cases e with
  | normal => obtain ⟨t, St', m', ht, hs', hE'⟩ := hp; exact fin t St' m' hs' hE' ht
  | ret => obtain ⟨t, St', m', ht, hs', hE'⟩ := hp; exact fin t St' m' hs' hE' ht
  | exit id => obtain ⟨t, St', m', ht, _⟩ := hp; exact ht.elim
  | goto l => exact hp.elim
  | panic ch => exact hp.elim
  | outgrown => exact hp.elim

theorem compF_go {f : FuncId} {F : Fun} (hF : compF P f = some F) : GoFn P f := by
  unfold compF at hF
  split at hF
  · cases hF
  rename_i fn hfn
  split at hF
  · cases hF
  rename_i hname
  split at hF
  · cases hF
  rename_i code hbody
  exact ⟨fn, hfn, by simp [hbody], by simpa using hname⟩

/-- A function of a float, by all the words that the float may be. -/
theorem Con_of_raw {f : FuncId} (hg : GoFn P f) {x : Nat} {r : V} (h : ∀ b, b < 2 ^ 64 → cf b = x → Con P f [.d (.fraw b)] r) : Con P f [.d (.flt x)] r := by
  refine ⟨hg, fun St m w cargs ho hsz hargs => ?_⟩
  obtain ⟨b, hb, hcb, hc⟩ := (hargs 0 (by simp)).flt
  refine (h b hb hcb).2 St m w cargs ho hsz fun j hj => ?_
  obtain rfl : j = 0 := by simpa using hj
  rw [hc]
  exact .d (.fraw hb)

/-- A function of data. -/
theorem Con_intro {f : FuncId} {F : Fun} (hF : compF P f = some F) (hm : P.follows .mixedOrders = true) {vs : List V} {r : V}
    (h : W P (fun _ => False) F.body (Ends (fun _ => False) F r []) (enter F vs [])) : Con P f vs r :=
  AC_intro hF hm (fun _ => False) (fun X q hX => by simp [Heap.get, Heap.fam] at hX) h

theorem Bare.le {v : V} (h : Bare v) (L L' : Heap) (ρ : Nat → Nat → Nat × Nat) : LeV L L' ρ v v := by
  induction h with
  | d x => exact .d (.d x)
  | any => exact .any _
  | nil => exact .nil
  | agg h ih => exact .agg rfl ih
  | tup h ih => exact .tup rfl ih
  | fn h1 h2 ih1 ih2 => exact .fn rfl rfl ih1 ih2

theorem Wk.fin {v r : V} {L : Heap} {ρ : Nat → Nat → Nat × Nat} (h : LeV L [] ρ v r) : Wk (fun _ => False) [v] L [r] [] ρ := by
  refine ⟨rfl, fun i hi => ?_, fun X r c h => by simp [Heap.get, Heap.fam] at h, fun X r Y q h => by simp [Heap.get, Heap.fam] at h, fun X r h => h.elim⟩
  have : i = 0 := by simpa using hi
  subst this
  exact h

/-- A function's end that hands back data. -/
theorem ends_ret {F : Fun} {s : S} {r : V} (hb : r.bareB = true) (h : ResV s F.res r) : Ends (fun _ => False) F r [] .ret s :=
  ⟨r, fun X r => (X, r), h, .fin ((bareB_bare hb).le _ _ _)⟩
theorem ends_normal {F : Fun} {s : S} {r : V} (hb : r.bareB = true) (h : ResV s F.res r) : Ends (fun _ => False) F r [] .normal s :=
  ⟨r, fun X r => (X, r), h, .fin ((bareB_bare hb).le _ _ _)⟩

end
end Go.Ab
