/- Slices made, appended to, copied. -/
import Derived.Test.YtdckmpaakheppaaJ
import Derived.Laws.Append
namespace Go.Ab
set_option linter.unusedSimpArgs false
set_option linter.unusedVariables false
open Go

/-- A zero's cells over and over, as many as asked for. -/
def zc (z : Array Value) (n : Nat) : Array Value := (Array.range n).map (z[· % z.size]!)

theorem zc_size (z : Array Value) (n : Nat) : (zc z n).size = n := by simp [zc]
theorem zc_get (z : Array Value) (n j : Nat) (hj : j < n) (hz : 0 < z.size) : (zc z n).getD j undef = z.getD (j % z.size) undef := by
  have : j % z.size < z.size := Nat.mod_lt _ hz
  simp [zc, Array.getD_eq_getD_getElem?, hj, this]

theorem repl_length (n : Nat) (zero : List V) : (repl n zero).length = n * zero.length := by
  simp [repl]

theorem repl_get (zero : List V) : ∀ (n j : Nat), j < n * zero.length → (repl n zero).getD j .any = zero.getD (j % zero.length) .any := by
  intro n
  induction n with
  | zero => intro j hj; simp at hj
  | succ n ih =>
    intro j hj
    have e : repl (n + 1) zero = zero ++ repl n zero := by simp [repl, List.replicate_succ]
    rw [e]
    by_cases h : j < zero.length
    · rw [Nat.mod_eq_of_lt h]
      simp [List.getD_eq_getElem?_getD, List.getElem?_append_left h]
    · have h' : zero.length ≤ j := Nat.not_lt.1 h
      have h1 : (zero ++ repl n zero).getD j .any = (repl n zero).getD (j - zero.length) .any := by
        simp [List.getD_eq_getElem?_getD, List.getElem?_append_right h']
      rw [h1, ih _ (by rw [Nat.add_mul] at hj; omega)]
      congr 1
      rw [Nat.mod_eq_sub_mod h']

theorem bcells_length (get : Nat → List D) (sz : Nat) : ∀ n, (∀ i, i < n → (get i).length = sz) → (bcells n get).length = n * sz := by
  intro n
  induction n with
  | zero => intro _; simp [bcells]
  | succ n ih =>
    intro h
    have e : bcells (n + 1) get = bcells n get ++ get n := by simp [bcells, List.range_succ]
    rw [e, List.length_append, ih (fun i hi => h i (by omega)), h n (by omega), Nat.add_mul]; omega

theorem bcells_get (get : Nat → List D) (sz : Nat) : ∀ n, (∀ i, i < n → (get i).length = sz) → ∀ p, p < n * sz → (bcells n get).getD p default = (get (p / sz)).getD (p % sz) default := by
  intro n
  induction n with
  | zero => intro _ p hp; simp at hp
  | succ n ih =>
    intro h p hp
    have e : bcells (n + 1) get = bcells n get ++ get n := by simp [bcells, List.range_succ]
    have hl := bcells_length get sz n (fun i hi => h i (by omega))
    rw [e]
    by_cases hlt : p < n * sz
    · rw [← ih (fun i hi => h i (by omega)) p hlt]
      simp [List.getD_eq_getElem?_getD, List.getElem?_append_left (by omega : p < (bcells n get).length)]
    · have h1 : p / sz = n := by
        rw [Nat.add_mul] at hp
        exact Nat.div_eq_of_lt_le (by omega) (by rw [Nat.add_mul]; omega)
      have h2 : p % sz = p - n * sz := by
        have := Nat.div_add_mod p sz
        rw [h1, Nat.mul_comm] at this; omega
      rw [h1, h2]
      simp [List.getD_eq_getElem?_getD, List.getElem?_append_right (by omega : (bcells n get).length ≤ p), hl]

section
variable {P : Program} {St : Nat → Prop} {m : Map} {L : Heap} {w w' : World}

theorem run_loadCells2 (b off n : Nat) (cell : Nat → Value) (h : ∀ j, j < n → w.cell? ⟨b, off + j, none⟩ = some (cell j)) :
    ∃ cs : Array Value, (∀ w' : World, w'.heap = w.heap → (loadCells ⟨b, off, none⟩ n).run P w' = .ok cs w') ∧ cs.size = n ∧ ∀ j, j < n → cs.getD j undef = cell j := by
  have hc : ∀ w' : World, w'.heap = w.heap → ∀ j, j < n → w'.cell? (Addr.add ⟨b, off, none⟩ j) = some (cell j) := by
    intro w' hw j hj
    rw [add_none]
    have := h j hj
    unfold World.cell? at this ⊢
    rw [hw]; exact this
  refine ⟨_, fun w' hw => run_loadCells (P := P) (w := w') ⟨b, off, none⟩ n cell (hc w' hw), by simp, fun j hj => ?_⟩
  simp [hj]

theorem run_firstCells {x : V} {c : Value} {esz : Nat} {new : List V} (ho : Objs St m L w) (hx : VRel St m L w x c) (hsrc : srcCells L esz x = some new) (hlen : new.length = srcLen x * esz) (hesz : 0 < esz) (hall : new.all V.isCell = true) :
    ∃ ad cap, c = .slice ad (srcLen x) cap ∧ ∀ k, k ≤ srcLen x → ∃ cs : Array Value, (∀ w' : World, w'.heap = w.heap → (Builtin.firstCells esz k c).run P w' = .ok cs w') ∧ LRel St m L w (new.take (k * esz)) cs ∧ ∀ v ∈ cs.toList, v.oneCell' = true := by
  unfold srcCells at hsrc
  have mk : ∀ (b off n cap : Nat) (cell : Nat → Value), c = .slice (some ⟨b, off, none⟩) n cap → (∀ j, j < n * esz → w.cell? ⟨b, off + j, none⟩ = some (cell j)) → n = srcLen x → (∀ j, j < n * esz → VRel St m L w (new.getD j .any) (cell j)) →
      ∀ k, k ≤ n → ∃ cs : Array Value, (∀ w' : World, w'.heap = w.heap → (Builtin.firstCells esz k c).run P w' = .ok cs w') ∧ LRel St m L w (new.take (k * esz)) cs ∧ ∀ v ∈ cs.toList, v.oneCell' = true := by
    intro b off n cap cell hc hcell hn hrel k hk
    have hkm : k * esz ≤ n * esz := Nat.mul_le_mul_right _ hk
    obtain ⟨cs, hr, hs, hcs⟩ := run_loadCells2 (P := P) (w := w) b off (k * esz) cell (fun j hj => hcell j (by omega))
    have hnl : new.length = n * esz := by rw [hlen, hn]
    refine ⟨cs, fun w' hw' => ?_, ⟨by rw [hs, List.length_take, hnl]; omega, fun j hj => ?_⟩, fun v hv => ?_⟩
    · rw [hc]; exact hr w' hw'
    · have hj' : j < k * esz := by rw [List.length_take] at hj; omega
      have e1 : (new.take (k * esz)).getD j .any = new.getD j .any := by simp [List.getD_eq_getElem?_getD, hj']
      rw [e1, hcs j hj']; exact hrel j (by omega)
    · obtain ⟨j, hj, rfl⟩ := List.mem_iff_getElem.1 hv
      have hj1 : j < cs.size := by simpa using hj
      have := hcs j (by omega)
      rw [Array.getD_eq_getD_getElem?, Array.getElem?_eq_getElem hj1] at this
      simp only [Option.getD_some] at this
      simp only [Array.getElem_toList]
      rw [this]
      have hjn : j < new.length := by omega
      refine isCell_one (hrel j (by omega)) ?_
      rw [List.getD_eq_getElem?_getD, List.getElem?_eq_getElem hjn]
      exact List.all_eq_true.1 hall _ (List.getElem_mem hjn)
  have zero : srcLen x = 0 → new = [] → ∀ ad cap, c = .slice ad 0 cap → ∃ ad cap, c = .slice ad (srcLen x) cap ∧ ∀ k, k ≤ srcLen x → ∃ cs : Array Value, (∀ w' : World, w'.heap = w.heap → (Builtin.firstCells esz k c).run P w' = .ok cs w') ∧ LRel St m L w (new.take (k * esz)) cs ∧ ∀ v ∈ cs.toList, v.oneCell' = true := by
    intro h0 hnew ad cap hc
    subst hnew
    refine ⟨ad, cap, by rw [h0]; exact hc, fun k hk => ⟨#[], fun w' _ => ?_, by simpa using LRel.nil, by simp⟩⟩
    obtain rfl : k = 0 := by omega
    rw [hc]
    cases ad with
    | none => rfl
    | some ad => simp [Builtin.firstCells, loadCells, loadCellsFrom]
  split at hsrc
  · cases hsrc
    exact zero rfl rfl _ _ hx.nil'
  · rename_i k get
    cases hsrc
    obtain ⟨ad, cap, hc, hr⟩ := hx.bor
    by_cases hk : 0 < k
    · obtain ⟨blk, off, sz, cell, rfl, hst, q1, q2, q3⟩ := hr hk
      have hbl := bcells_length get sz k q1
      have hsz : sz = esz := by
        simp only [List.length_map, srcLen] at hlen
        rw [hbl] at hlen
        exact Nat.eq_of_mul_eq_mul_left hk hlen
      subst hsz
      have idx : ∀ j, j < k * sz → j / sz < k ∧ j % sz < sz ∧ off + j / sz * sz + j % sz = off + j := by
        intro j hj
        have h1 : j / sz < k := (Nat.div_lt_iff_lt_mul hesz).2 hj
        have h2 : j % sz < sz := Nat.mod_lt _ hesz
        have h3 := Nat.div_add_mod j sz
        rw [Nat.mul_comm] at h3
        exact ⟨h1, h2, by omega⟩
      have drel : ∀ j, j < k * sz → DRel St w ((bcells k get).getD j default) (cell (j / sz) (j % sz)) := by
        intro j hj
        obtain ⟨h1, h2, h3⟩ := idx j hj
        rw [bcells_get get sz k q1 j hj]
        exact q3 _ _ h1 h2
      refine ⟨_, cap, hc, mk blk off k cap (fun j => cell (j / sz) (j % sz)) hc (fun j hj => ?_) rfl (fun j hj => ?_)⟩
      · obtain ⟨h1, h2, h3⟩ := idx j hj
        have := q2 _ _ h1 h2
        rw [h3] at this; exact this
      · have e : ((bcells k get).map V.d).getD j .any = .d ((bcells k get).getD j default) := by
          have : j < (bcells k get).length := by omega
          simp [List.getD_eq_getElem?_getD, this]
        rw [e]; exact .d (drel j hj)
    · obtain rfl : k = 0 := by omega
      exact zero rfl (by simp [bcells]) _ _ hc
  · rename_i X r off k es ver
    split at hsrc
    case h_2 => cases hsrc
    rename_i cells hL
    split at hsrc
    case isFalse => cases hsrc
    rename_i hcond
    obtain ⟨hver, hle⟩ := hcond
    cases hsrc
    obtain ⟨cells', ad, cap, hL', hv', hc, hcap, ha, hf⟩ := hx.sl'
    rw [hL] at hL'; cases hL'
    by_cases hk : 0 < k
    · rcases hf hver with h0 | ⟨b, C, hm, hC, rfl⟩
      · omega
      · obtain ⟨p1, p2, arr, el, p3, p4, p5, p6⟩ := ho.obj X r cells b C hL hm
        have hrel : ∀ j, j < k * esz → VRel St m L w (((cells.drop off).take (k * esz)).getD j .any) (arr.getD (off + j) undef) := by
          intro j hj
          have e1 : ((cells.drop off).take (k * esz)).getD j .any = cells.getD (off + j) .any := by simp [List.getD_eq_getElem?_getD, hj]
          rw [e1]; exact p6 _ (by omega)
        exact ⟨_, cap, hc, mk b off k cap (fun j => arr.getD (off + j) undef) hc (fun j hj => cell_of_block p3 (by omega)) rfl hrel⟩
    · obtain rfl : k = 0 := by omega
      exact zero rfl (by simp) _ _ hc
  · cases hsrc

end
end Go.Ab
