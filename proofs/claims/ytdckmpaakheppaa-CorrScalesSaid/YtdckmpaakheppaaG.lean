/- What a piece that asks nothing of memory promises, the operation keeps: all together. -/
import Derived.Test.YtdckmpaakheppaaF
namespace Go.Ab
set_option linter.unusedSimpArgs false
set_option linter.unusedVariables false
open Go

section
variable {P : Program} {St : Nat → Prop} {m : Map} {s : S} {a : Act} {o : Oper} {w : World} {K : V → Prop} {L : Heap}

theorem toVs_rel (cs : Array Value) : LRel St m L w (cs.toList.map Value.toV) cs := by
  refine ⟨by simp, fun j hj => ?_⟩
  have hj' : j < cs.size := by simpa using hj
  have : (cs.toList.map Value.toV).getD j .any = Value.toV (cs.getD j undef) := by simp [List.getD_eq_getElem?_getD, hj']
  rw [this]; exact toV_rel ..

theorem h_build (t : TypeId) (parts : Array (Nat × Operand)) (place : Nat → Option (Nat × Nat)) (z : Value) (qs : List (Nat × Nat × Opd))
    (hb : ∀ ps cells, Instr.fill place z.cells ps = some cells → P.built t ps = some cells)
    (hq : qs.length = parts.size) (hp : ∀ j (h1 : j < parts.size) (h2 : j < qs.length), place parts[j].1 = some (qs[j].1, qs[j].2.1) ∧ qs[j].2.2 = Opd.of parts[j].2)
    (ho : o.op = .build t parts) (hs : SimS St m s a w) (hk : hv (.build (z.cells.toList.map Value.toV) qs) s.ev K) : HOk P St m s.L a o w K := by
  simp only [hv] at hk
  split at hk
  case h_2 => exact hk.elim
  rename_i cells hf
  obtain ⟨cs', hfill, hrel⟩ := fill_rel (St := St) (m := m) (L := s.L) (w := w) place (parts.toList.map fun (i, x) => (i, a.eval x)) (partsV s.ev qs) _ z.cells cells (toVs_rel z.cells) hf (by simp [partsV, hq])
    (fun j h1 h2 => by
      have h1' : j < parts.size := by simpa using h1
      have h2' : j < qs.length := by simpa [partsV] using h2
      obtain ⟨e1, e2⟩ := hp j h1' h2'
      simp only [List.getElem_map, partsV, Array.getElem_toList]
      refine ⟨e1, ?_⟩
      have := ev_rel hs parts[j].2
      rw [← e2] at this; exact this)
  refine .mk _ (.agg cs') ?_ hk hrel.agg
  have hbl := hb _ _ hfill
  have hr : (Instr.build t (parts.map fun (i, x) => (i, a.eval x))).run P w = .ok (.agg cs') w := run_build w t _ cs' (by simpa using hbl)
  simp only [execOp, ho]
  simp [hr]

theorem mapM_some {α β : Type} (f : α → Option β) : ∀ (l : List α) (r : List β), l.mapM f = some r → r.length = l.length ∧ ∀ j (h1 : j < l.length) (h2 : j < r.length), f l[j] = some r[j] := by
  intro l
  induction l with
  | nil => intro r h; simp at h; subst h; exact ⟨rfl, fun j h => by simp at h⟩
  | cons x l ih =>
    intro r h
    simp only [List.mapM_cons, Option.bind_eq_bind, Option.pure_def] at h
    cases hx : f x with
    | none => simp [hx] at h
    | some y =>
      cases hl : l.mapM f with
      | none => simp [hx, hl] at h
      | some ys =>
        simp [hx, hl] at h
        subst h
        obtain ⟨h1, h2⟩ := ih ys hl
        refine ⟨by simp [h1], fun j hj1 hj2 => ?_⟩
        cases j with
        | zero => simpa using hx
        | succ j => simpa using h2 j (by simpa using hj1) (by simpa using hj2)

theorem compH_sound {hi : HI} (hc : compH P o.op = some hi) (hs : SimS St m s a w) (hk : hv hi s.ev K) : HOk P St m s.L a o w K := by
  cases hop : o.op with
  | move x => simp only [hop, compH, Option.some.injEq] at hc; subst hc; exact h_mov x (.inl hop) hs hk
  | assign x => simp only [hop, compH, Option.some.injEq] at hc; subst hc; exact h_mov x (.inr hop) hs hk
  | pick c x y => simp only [hop, compH, Option.some.injEq] at hc; subst hc; exact h_pick c x y hop hs hk
  | nilCheck x => simp only [hop, compH, Option.some.injEq] at hc; subst hc; exact h_nilck x hop hs hk
  | unOp op t x => simp only [hop, compH, Option.some.injEq] at hc; subst hc; exact h_un op t x hop hs hk
  | extract x i => simp only [hop, compH, Option.some.injEq] at hc; subst hc; exact h_ext x i hop hs hk
  | binOp op t x y u =>
    simp only [hop, compH] at hc
    split at hc
    · cases hc; exact h_ibin op t u x y hop hs hk
    · split at hc
      · rename_i f hf; cases hc; exact h_fbin op f t u x y hf hop hs hk
      · rename_i f hf; cases hc; exact h_fcmp op f t u x y hf hop hs hk
      · cases hc
    · rename_i hu
      split at hc
      · cases hc; exact h_bcmp _ false t u x y rfl hu hop hs hk
      · cases hc; exact h_bcmp _ true t u x y rfl hu hop hs hk
      · cases hc
    · cases hc
  | convert sT d x =>
    simp only [hop, compH] at hc
    split at hc
    · rename_i h1 h2; cases hc; exact h_icv sT d _ x ⟨_, h1⟩ h2 hop hs hk
    · rename_i h1 h2; cases hc; exact h_i2f sT d x ⟨_, h1⟩ h2 hop hs hk
    · rename_i h1 h2; cases hc; exact h_f2f sT d x h1 h2 hop hs hk
    · cases hc
  | makeFunc fn first cap =>
    cases fn with
    | func f => simp only [hop, compH, Option.some.injEq] at hc; subst hc; exact h_mkfn f first cap hop hs hk
    | _ => simp [hop, compH] at hc
  | slice t x lo hi mx =>
    simp only [hop, compH] at hc
    split at hc
    · rename_i e he
      split at hc
      · cases hc
      · rename_i hmh
        cases hn : szT P e with
        | none => simp [hn] at hc
        | some n =>
          simp only [hn, Option.map_some, Option.some.injEq] at hc
          subst hc
          exact h_slc t x lo hi mx e n he hn (by intro h1 h2; apply hmh; exact ⟨by cases mx <;> simp_all, by cases hi <;> simp_all⟩) hop hs hk
    · cases hc
  | fieldAddr t x f =>
    simp only [hop, compH] at hc
    split at hc
    · rename_i fields he
      split at hc
      · rename_i fd hf
        split at hc
        · rename_i n hn; cases hc; exact h_padd t x f fields fd n he hf hn hop hs hk
        · cases hc
      · cases hc
    · cases hc
  | field t x f =>
    simp only [hop, compH] at hc
    split at hc
    · rename_i fields he
      split at hc
      · rename_i fd hf
        split at hc
        · rename_i n g hn hg
          split at hc
          · rename_i h1; cases hc; exact h_fld t x f fields fd n g he hf hn hg h1 hop hs hk
          · cases hc
        · cases hc
      · cases hc
    · cases hc
  | indexAddr t x i =>
    simp only [hop, compH] at hc
    split at hc
    · rename_i e he
      cases hn : szT P e with
      | none => simp [hn] at hc
      | some n => simp only [hn, Option.map_some, Option.some.injEq] at hc; subst hc; exact h_idx t x i e n he hn hop hs hk
    · rename_i len e he
      cases hn : szT P e with
      | none => simp [hn] at hc
      | some n => simp only [hn, Option.map_some, Option.some.injEq] at hc; subst hc; exact h_idxa t x i len e n he hn hop hs hk
    · cases hc
  | index t x i =>
    simp only [hop, compH] at hc
    split at hc
    · rename_i len e he
      split at hc
      · rename_i n g hn hg
        split at hc
        · rename_i h1; cases hc; exact h_idxv t x i len e n g he hn hg h1 hop hs hk
        · cases hc
      · cases hc
    · cases hc
  | build t parts =>
    simp only [hop, compH] at hc
    split at hc
    · rename_i it n e hit hu
      split at hc
      · rename_i z ie hz hie
        cases hc
        exact h_build t parts (fun i => some (i * ie.size, ie.size)) z _ (fun ps cells h => by simp [Program.built, hit, hu, hz, hie, h]) (by simp) (fun j h1 h2 => by simp) hop hs hk
      · cases hc
    · rename_i it fields hit hu
      split at hc
      · rename_i z places hz hpl
        cases hm : (parts.toList.mapM fun (q : Nat × Operand) => (places[q.1]?).map fun (p : Nat × Nat) => (p.1, p.2, Opd.of q.2)) with
        | none => simp [hm] at hc
        | some qs =>
          simp only [hm, Option.map_some, Option.some.injEq] at hc
          subst hc
          obtain ⟨hl, hq⟩ := mapM_some _ _ _ hm
          refine h_build t parts (fun i => places[i]?) z qs (fun ps cells h => ?_) (by simpa using hl) (fun j h1 h2 => ?_) hop hs hk
          · simp [Program.built, hit, hu, hz, hpl]; exact h
          · have := hq j (by simpa using h1) h2
            simp only [Array.getElem_toList] at this
            cases hpj : places[parts[j].1]? with
            | none => simp [hpj] at this
            | some p => simp [hpj] at this; rw [← this]; simp
      · cases hc
    · cases hc
  | call c =>
    obtain ⟨callee, args, ats⟩ := c
    simp only [hop, compH] at hc
    have la : ∀ l : List Operand, args.toList = l → args = l.toArray := fun l h => by rw [← h]
    have lt : ∀ l : List TypeId, ats.toList = l → ats = l.toArray := fun l h => by rw [← h]
    unfold compCall at hc
    cases callee with
    | invoke r n => cases hc
    | builtin b =>
      simp only at hc
      split at hc
      · rename_i x hx
        obtain rfl := la _ hx
        split at hc
        · rename_i hb; subst hb
          split at hc
          · rename_i t ht
            obtain rfl := lt _ ht
            split at hc
            · rename_i e he; cases hc; exact h_len _ _ e he hop hs hk
            · cases hc
          · cases hc
        · cases hc
      · rename_i x y hx
        obtain rfl := la _ hx
        split at hc
        · rename_i hb; subst hb; cases hc; exact h_mm true _ _ _ hop hs hk
        · split at hc
          · rename_i hb; subst hb; cases hc; exact h_mm false _ _ _ hop hs hk
          · cases hc
      · rename_i x y z hx
        obtain rfl := la _ hx
        split at hc
        · rename_i hb; subst hb; cases hc; exact h_mm3 _ _ _ _ hop hs hk
        · cases hc
      · cases hc
    | value f =>
      simp only at hc
      split at hc
      · rename_i f x hx
        obtain rfl := la _ hx
        split at hc
        · rename_i fn hf
          split at hc
          · rename_i hb
            split at hc
            · rename_i hn; cases hc; exact h_bits _ fn _ _ hf hb hn hop hs hk
            · split at hc
              · rename_i hn; cases hc; exact h_frombits _ fn _ _ hf hb hn hop hs hk
              · cases hc
          · cases hc
        · cases hc
      · cases hc
  | _ => simp [hop, compH] at hc

end
end Go.Ab
