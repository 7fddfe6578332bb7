/- Part 19: IC, ID, IE, IF, IG, IH, II. -/
import Derived.Test.YtponkmbigjmmoaaGreatGR
set_option maxRecDepth 8000
namespace Go.Ab
set_option linter.unusedSimpArgs false
set_option linter.unusedVariables false
open Go Go.Proofs
def J7 : CA := (.seq (.seq (.reg [i_M 0 2 0, i_X 1 3 (.h (.nilck (.t 2))), i_P 2 4 3 13, i_P 3 5 4 0, i_P 4 6 5 0, i_P 5 7 6 0, i_L 6 8 7 1, i_B 7 9 .eql 8 0, i_M 8 10 9, g_T 9 11 10 (.h (.mov (.t 0))), g_T 10 12 10 (.h (.nilck (.t 11))), g_T 11 13 10 (.h (.padd (.t 12) 13)), g_T 12 14 10 (.h (.padd (.t 13) 11)), g_T 13 15 10 (.load (.t 14) 1 false), g_T 14 16 10 (.h (.mov (.t 0))), g_T 15 17 10 (.h (.nilck (.t 16))), g_T 16 18 10 (.h (.padd (.t 17) 0)), g_T 17 19 10 (.h (.padd (.t 18) 12)), g_T 18 20 10 (.load (.t 19) 1 false), g_T 19 21 10 (.h (.len (.t 20))), g_T 20 22 10 (.h (.ibin .lss (.t 15) (.t 21))), i_X 21 23 (.h (.pick (.t 10) (.t 22) (.k (.d (.bool false))))), i_M 22 24 23, g_T 23 25 24 (.h (.mov (.t 0))), g_T 24 26 24 (.h (.nilck (.t 25))), g_T 25 27 24 (.h (.padd (.t 26) 0)), g_T 26 28 24 (.h (.padd (.t 27) 12)), g_T 27 29 24 (.load (.t 28) 1 false), g_T 28 30 24 (.h (.mov (.t 0))), g_T 29 31 24 (.h (.nilck (.t 30))), g_T 30 32 24 (.h (.padd (.t 31) 13)), g_T 31 33 24 (.h (.padd (.t 32) 11)), g_T 32 34 24 (.load (.t 33) 1 false), g_T 33 35 24 (.h (.idx (.t 29) (.t 34) 1)), g_T 34 36 24 (.load (.t 35) 1 false), g_T 35 37 24 (.h (.ibin .eql (.t 36) (kI 0))), i_X 36 38 (.h (.pick (.t 24) (.t 37) (.k (.d (.bool false)))))] [0, 38]) (.cond (.t 38) .skip (.exit 0))) (.block 1 (.seq (.reg [i_M 0 39 0, i_M 1 40 0, i_X 2 41 (.h (.nilck (.t 40))), i_P 3 42 41 25, i_L 4 43 42 1, i_M 5 44 0, i_X 6 45 (.h (.nilck (.t 44))), i_P 7 46 45 0, i_P 8 47 46 4, i_L 9 48 47 1, i_X 10 49 (.callS 10 (kF 57) [(.t 48)]), i_X 11 50 (.h (.build [fI 0, .nil, fl 0] [(1, (1, (.t 49)))])), i_X 12 51 (.bslice [fI 0, .nil, fl 0] 1 3 [(0, (3, (.t 50)))] 67), i_X 13 52 (.app (.t 43) (.t 51) 3 40), i_X 14 53 (.h (.nilck (.t 39))), i_P 15 54 53 25, i_S 16 54 52 1] [0]) (.reg [i_M 0 55 0, i_X 1 56 (.h (.nilck (.t 55))), i_P 2 57 56 13, i_P 3 58 57 11, i_L 4 59 58 1, i_B 5 60 .add 59 1, i_X 6 61 (.h (.nilck (.t 55))), i_P 7 62 61 13, i_P 8 63 62 11, i_S 9 63 60 1] [0]))))
def U5 : CA := (.block 0 (.loop J7))
theorem a0H : d6 Tryz.prog 53 = some ⟨64, [], U5.strip⟩ := by kernel_rfl
def ouC (o : Ou) : List V := [fI o.pos, .d (rowD o.y), fl o.bound]
def ousC (l : List Ou) : List V := l.flatMap ouC
def osF (l : List Ou) : List (List V) := if l = [] then [] else [ousC l]
def osV (l : List Ou) : V := if l = [] then .nil else .sl 100 0 0 l.length 3 (l.length * 3)
theorem b5K : osF [] = [] := rfl
theorem b5J : osV [] = .nil := rfl
theorem b0Z {l : List Ou} (h : l ≠ []) : osF l = [ousC l] := if_neg h
theorem b0Y {l : List Ou} (h : l ≠ []) : osV l = .sl 100 0 0 l.length 3 (l.length * 3) := if_neg h
theorem b6W (l : List Ou) (o : Ou) : ousC l ++ ouC o = ousC (l ++ [o]) := by simp [ousC]
theorem b17 (l : List Ou) : (ousC l).length = l.length * 3 := by
 induction l with
 | nil => rfl
 | cons o l ih =>
  show (ouC o ++ ousC l).length = _
  rw [List.length_append, ih]
  show 3 + _ = (l.length + 1) * 3
  omega
abbrev rnC (r : Rn) : List V := [fI r.s.n.pos, fI r.s.n.step, fI r.s.n.order, fI r.s.n.method, .d (f0 r.s.n.z), fI r.s.good, fI r.s.fails, fI r.s.slow, .d (rowD r.last), fl r.bound, fI r.att, fI r.next]
abbrev slC (p : Pb) (r : Rn) (o : V) : List V := [fI p.t.n, .d (opsD p.t.ops), .d (rowI p.t.out), .d (ivD p.box), .d (rowD p.y), fI p.fin, fI p.first, fI p.least, fl p.atol, fl p.rtol, fl p.cap, fI p.most, .d (rowI p.outs),
 fI r.s.n.pos, fI r.s.n.step, fI r.s.n.order, fI r.s.n.method, .d (f0 r.s.n.z), fI r.s.good, fI r.s.fails, fI r.s.slow, .d (rowD r.last), fl r.bound, fI r.att, fI r.next, o]
abbrev endC : List V := [.nil, fI 0, fI 0, fI 0, fI 0, fI 0, .nil, fI 0, fI 0, fI 0, .nil, fl 0, fI 0, fI 0]
theorem LeT.onlyN {N : Nat → Prop} {nt : Nat} (k : Nat → Bool) {sls : Sl} {L L' : Heap} (hN : ∀ X, N X → k X = true) (hL : (L.filter fun p => k p.1) = L') (hs : KpS L' sls) (hc : KpH L' L') : Le N (T.s nt ⟨sls, L⟩) (T.s nt ⟨sls, L'⟩) := by
 have hg : ∀ X r, k X = true → L'.get X r = L.get X r := by
  intro X r hk
  subst hL
  unfold Heap.get
  rw [N7, if_pos hk]
 have hlook : ∀ i, LeV L L' (fun X q => (X, q)) (look sls i) (look sls i) := by
  intro i
  have hs' : ∀ p ∈ sls, Kp L' p.2 := hs
  clear hs
  induction sls with
  | nil => exact .any _
  | cons p tl ih =>
   obtain ⟨k, v⟩ := p
   simp only [look]
   split
   ·exact hs' (k, v) (by simp) L
   ·exact ih fun p hp => hs' p (by simp [hp])
 refine Le.of_wk (fun X q => (X, q)) ⟨rfl, fun i hi => ?_, fun X r c hX => ⟨c, ?_, rfl, fun j hj => ?_⟩, fun X r Y q _ _ e => by simpa using e, fun X r h hx => ⟨rfl, by show L'.get X r ≠ none; rw [hg X r (hN X h)]; exact hx⟩⟩
 ·simp only [T.s] at hi ⊢
  rw [t4] at hi
  rw [t5 _ hi]
  exact hlook i
 ·have hX : L'.get X r = some c := hX
  show L.get X r = some c
  subst hL
  unfold Heap.get at hX ⊢
  rw [N7] at hX
  split at hX
  ·exact hX
  ·cases hX
 ·obtain ⟨p, hp, hcp⟩ := N6 hX
  exact KpA.at (hc p hp c hcp) _ j
theorem a0M {L : Heap} {l : List Ou} (h : L.fam 100 = some (osF l)) : Kp L (osV l) := by
 by_cases e : l = []
 ·subst e; exact b6w
 ·rw [b0Y e]
  rw [b0Z e] at h
  exact fun _ => .sl (by unfold Heap.get; rw [h]; simp) rfl
theorem b21 {L : Heap} (o : Ou) : KpA L (ouC o) := by
 unfold ouC
 simp only [F4]
 exact ⟨Kp_d _, Kp_d _, Kp_d _, a0B⟩
theorem a42 {L : Heap} (l : List Ou) : KpA L (ousC l) := fun v hv => by
 obtain ⟨o, _, ho⟩ := List.mem_flatMap.1 hv
 exact b21 o v ho
theorem L4 {L : Heap} (l : List Ou) : KpF L (osF l) := fun c hc => by
 unfold osF at hc
 split at hc
 ·simp at hc
 ·obtain rfl := List.mem_singleton.1 hc
  exact a42 l
def nmN (ns : List Nat) (X : Nat) : Prop := X ∈ ns
theorem c0z {ns : List Nat} {L : Heap} (h : ∀ X, X ∉ ns → L.fam X = none) (X q : Nat) (hX : L.get X q ≠ none) : nmN ns X := by
 by_cases e : X ∈ ns
 ·exact e
 ·unfold Heap.get at hX; rw [h X e] at hX; exact absurd rfl hX
theorem b32 {ns : List Nat} {X k : Nat} (h : nmN ns X) (hk : k ∉ ns) : (X != k) = true := by
 have : X ≠ k := fun e => hk (e ▸ h)
 simpa using this
theorem a8X (l : List Int) (a b : Nat) : (l.drop a).getD b 0 = l.getD (a + b) 0 := by
 simp [c8U, List.getElem?_drop]
theorem b7j (p : Pb) (r : Rn) (i : Nat) (hi : i ≤ (t0 p r).length) : i < (t0 p r).length ↔ r.s.n.pos = 0 ∧ r.next + i < p.outs.length ∧ p.outs.getD (r.next + i) 0 = 0 := by
 unfold t0 at hi ⊢
 by_cases h : r.s.n.pos = 0
 ·rw [if_pos h] at hi ⊢
  rw [List.length_map] at hi ⊢
  have := a6n (p.outs.drop r.next) i hi
  rw [this, List.length_drop, a8X, decide_eq_true_eq]
  exact ⟨fun ⟨a, b⟩ => ⟨h, by omega, b⟩, fun ⟨_, a, b⟩ => ⟨by omega, b⟩⟩
 ·rw [if_neg h] at hi ⊢
  exact ⟨fun e => by simp at e, fun e => absurd e.1 h⟩
theorem a8V (p : Pb) (r : Rn) : (t0 p r).length ≤ p.outs.length := by
 unfold t0
 split
 ·rw [List.length_map]
  have h1 := (List.takeWhile_prefix (l := p.outs.drop r.next) fun a => decide (a = 0)).length_le
  rw [List.length_drop] at h1
  omega
 ·simp
theorem b8V (p : Pb) (r : Rn) (i : Nat) (hi : i < (t0 p r).length) : (t0 p r).take (i + 1) = (t0 p r).take i ++ [⟨0, p.y, 0⟩] := by
 have e : ∀ o ∈ t0 p r, o = ⟨0, p.y, 0⟩ := by
  intro o ho
  unfold t0 at ho
  split at ho
  ·obtain ⟨x, _, rfl⟩ := List.mem_map.1 ho; rfl
  ·simp at ho
 rw [List.take_add_one, c8V hi, e _ (List.getElem_mem hi)]; rfl
theorem b4f (p : Pb) (r : Rn) (q : Rn) (hr : r.next ≤ p.outs.length) (ho : p.outs.length < 2 ^ 40) (hy : 0 < p.y.length ∧ p.y.length < 2 ^ 40) :
  AC Tryz.prog 53 [.ptr 7 0 0 26] [(7, [slC p r .nil]), (2, [endC]), (1, [rnC q]), (0, [pbC p])]
   [(100, osF (t0 p r)), (7, [slC p ⟨r.s, r.last, r.bound, r.att, r.next + (t0 p r).length⟩ (osV (t0 p r))]), (2, [endC]), (1, [rnC q]), (0, [pbC p])] (.tup []) := by
 refine g7 a0H rfl d5 (nmN [7, 2, 1, 0]) (c0z fun X h => ?_) ?_
 ·simp only [List.mem_cons, List.not_mem_nil, or_false, not_or] at h
  simp only [b4, b7]
  rw [if_neg h.1, if_neg h.2.1, if_neg h.2.2.1, if_neg h.2.2.2]
 refine evx @U5.eq_1 ?_
 refine f9 (n := (t0 p r).length) (fun c t => ∃ i : Nat, c + i = (t0 p r).length ∧ t = ⟨[(0, .ptr 7 0 0 26)], [(100, osF ((t0 p r).take i)), (7, [slC p ⟨r.s, r.last, r.bound, r.att, r.next + i⟩ (osV ((t0 p r).take i))]), (2, [endC]), (1, [rnC q]), (0, [pbC p])]⟩) (s0 := ⟨_, _⟩)
  (LeT.empty (X := 100) (L1 := []) (by simp [b4, b7])) ⟨0, by omega, rfl⟩ ?_
 rintro c t ⟨i, hi, rfl⟩
 refine evx @J7.eq_1 ?_
 have hat := b7j p r i (by omega)
 have hlt : ((t0 p r).take i).length = i := by rw [List.length_take]; omega
 have htk := b8V p r i
 generalize hl : t0 p r = T at hat hlt htk hi
 have done : ¬ i < T.length → i = T.length := fun h => by omega
 by_cases c1' : r.s.n.pos = 0
 ·have c1b : (r.s.n.pos == 0) = true := by simpa using c1'
  rw [c1b]
  refine ev ?_
  by_cases c2 : r.next + i < p.outs.length
  ·have c2b : decide (r.next + i < p.outs.length) = true := decide_eq_true c2
   refine evx c2b ?_
   refine ⟨c2, ?_⟩
   by_cases c3 : p.outs.getD (r.next + i) 0 = 0
   ·have c3b : (p.outs.getD (r.next + i) 0 == 0) = true := by simpa using c3
    refine evx c3b ?_
    have hi1 := hat.2 ⟨c1', c2, c3⟩
    have hT := htk hi1
    have hlen : T.length ≤ p.outs.length := by rw [← hl]; exact a8V p r
    have wi : IntKind.i64.wrap (((r.next + i : Nat) : Int) + 1) = ((r.next + (i + 1) : Nat) : Int) := by rw [b9 (by omega) (by omega)]; omega
    have hfin : osF (T.take (i + 1)) = [ousC (T.take i) ++ [fI 0, .d (rowD p.y), fl 0]] := by
     rw [hT, b0Z (by simp), ← b6W]; rfl
    have hfv : osV (T.take (i + 1)) = .sl 100 0 0 (i + 1) 3 ((i + 1) * 3) := by
     rw [hT, b0Y (by simp), List.length_append, hlt]; rfl
    refine a8 (P7 p.y hy.1 hy.2) rfl ?_
    by_cases h0 : i = 0
    ·subst h0
     rw [List.take_zero, b5K, b5J] at *
     have wi0 : IntKind.i64.wrap ((r.next : Int) + 1) = ((r.next + (0 + 1) : Nat) : Int) := by rw [b9 (by omega) (by omega)]; omega
     refine evx wi0 ?_
     refine ⟨c - 1, ⟨[(0, .ptr 7 0 0 26)], [(100, osF (T.take (0 + 1))), (7, [slC p ⟨r.s, r.last, r.bound, r.att, r.next + (0 + 1)⟩ (osV (T.take (0 + 1)))]), (2, [endC]), (1, [rnC q]), (0, [pbC p])]⟩, by omega, ?_, 0 + 1, by omega, rfl⟩
     have e2 := LeT.absorb (N := nmN [7, 2, 1, 0]) (nt := 64) (sls := [(0, .ptr 7 0 0 26)]) (Y := 114) (X := 100) (cells := [fI 0, .d (rowD p.y), fl 0]) (fam := []) (L := [(7, [slC p ⟨r.s, r.last, r.bound, r.att, r.next + (0 + 1)⟩ (.sl 114 0 0 1 3 3)]), (2, [endC]), (1, [rnC q]), (0, [pbC p])]) (by decide) rfl rfl (fun h => by revert h; unfold nmN; decide)
     refine Le.trans (b := Go.Ab.T.s 64 ⟨[(0, .ptr 7 0 0 26)], [(114, [[fI 0, .d (rowD p.y), fl 0]]), (100, []), (7, [slC p ⟨r.s, r.last, r.bound, r.att, r.next + (0 + 1)⟩ (.sl 114 0 0 1 3 3)]), (2, [endC]), (1, [rnC q]), (0, [pbC p])]⟩) ?_ ?_
     ·exact LeT.onlyN (fun X => X != 113) (fun X hX => b32 (ns := [7, 2, 1, 0]) hX (by decide)) rfl (by simp [kpS]) (by simp [kpS])
     ·rw [hfin, hfv]
      exact e2
    ·have hne : T.take i ≠ [] := by
      intro e; rw [e] at hlt; simp at hlt; omega
     have hol := b17 (T.take i)
     rw [hlt] at hol
     rw [b0Z hne, b0Y hne, hlt]
     refine evx wi ?_
     refine ⟨⟨hol, by omega⟩, c - 1, ⟨[(0, .ptr 7 0 0 26)], [(100, osF (T.take (i + 1))), (7, [slC p ⟨r.s, r.last, r.bound, r.att, r.next + (i + 1)⟩ (osV (T.take (i + 1)))]), (2, [endC]), (1, [rnC q]), (0, [pbC p])]⟩, by omega, ?_, i + 1, by omega, rfl⟩
     rw [hfin, hfv, show (i + 1) * 3 = i * 3 + 3 by omega]
     exact LeT.onlyN (fun X => X != 113) (fun X hX => b32 (ns := [7, 2, 1, 0]) hX (by decide)) rfl (by simp [kpS]) (by simp (maxDischargeDepth := 6) [kpS, b4, b7, a42])
   ·have c3b : (p.outs.getD (r.next + i) 0 == 0) = false := by simpa using c3
    refine evx c3b ?_
    have := done (fun h => c3 (hat.1 h).2.2)
    subst this
    rw [List.take_length]
    exact j4 (fun _ => true) (fun _ _ => rfl) rfl (by simp) (by simp [kpS]) (by simp (maxDischargeDepth := 6) [kpS, b4, b7, L4, a0M])
  ·have c2b : decide (r.next + i < p.outs.length) = false := decide_eq_false c2
   refine evx c2b ?_
   have := done (fun h => c2 (hat.1 h).2.1)
   subst this
   rw [List.take_length]
   exact j4 (fun _ => true) (fun _ _ => rfl) rfl (by simp) (by simp [kpS]) (by simp (maxDischargeDepth := 6) [kpS, b4, b7, L4, a0M])
 ·have c1b : (r.s.n.pos == 0) = false := by simpa using c1'
  rw [c1b]
  refine ev ?_
  have := done (fun h => c1' (hat.1 h).1)
  subst this
  rw [List.take_length]
  exact j4 (fun _ => true) (fun _ _ => rfl) rfl (by simp) (by simp [kpS]) (by simp (maxDischargeDepth := 6) [kpS, b4, b7, L4, a0M])
def A7 : CA := (.seq (.reg [i_N 0 82 .lss 81 80] [0, 2, 4, 7, 8, 79, 80, 81, 82]) (.seq (.cond (.t 82) .skip (.exit 2)) (.seq (.block 3 (.seq (.reg [i_M 0 83 81, i_I 1 84 79 81 1, i_L 2 85 84 1, i_M 3 9 83, i_M 4 10 85] [0, 2, 4, 7, 8, 9, 10, 79, 80, 81]) (.seq (.reg [i_M 0 86 2, i_P 1 87 4 4, i_L 2 88 87 1, i_M 3 89 9, i_M 4 90 7, i_M 5 91 10, i_X 6 92 (.callA (kF 155) [(.t 88), (.t 89), (.t 90), (.t 91)]), i_F 7 93 .add 86 92, i_X 8 94 (.callA (kF 148) [(.t 93)]), i_M 9 11 94] [0, 2, 4, 7, 8, 9, 11, 79, 80, 81]) (.seq (.reg [i_M 0 95 9, i_B 1 96 .eql 95 0, i_M 2 97 96, g_F 3 98 97 (.h (.mov (.t 11))), g_F 4 99 97 (.h (.padd (.t 8) 2)), g_F 5 100 97 (.load (.t 99) 1 false), g_F 6 101 97 (.h (.fcmp .gt (.t 98) (.t 100))), i_X 7 102 (.h (.pick (.t 97) (.k (.d (.bool true))) (.t 101)))] [0, 2, 4, 7, 8, 11, 79, 80, 81, 102]) (.cond (.t 102) (.reg [i_M 0 103 11, i_P 1 104 8 2, i_S 2 104 103 1] [0, 2, 4, 7, 8, 79, 80, 81]) .skip))))) (.reg [i_B 0 105 .add 81 1, i_M 1 81 105] [0, 2, 4, 7, 8, 79, 80, 81]))))
def L9 : CA := (.seq (.seq (.reg [i_M 0 12 0, i_X 1 13 (.h (.nilck (.t 12))), i_P 2 14 13 13, i_P 3 15 14 11, i_L 4 16 15 1, i_M 5 17 0, i_X 6 18 (.h (.nilck (.t 17))), i_P 7 19 18 0, i_P 8 20 19 12, i_L 9 21 20 1, i_X 10 22 (.h (.len (.t 21))), i_N 11 23 .lss 16 22, i_M 12 24 23, g_T 13 25 24 (.h (.mov (.t 0))), g_T 14 26 24 (.h (.nilck (.t 25))), g_T 15 27 24 (.h (.padd (.t 26) 0)), g_T 16 28 24 (.h (.padd (.t 27) 12)), g_T 17 29 24 (.load (.t 28) 1 false), g_T 18 30 24 (.h (.mov (.t 0))), g_T 19 31 24 (.h (.nilck (.t 30))), g_T 20 32 24 (.h (.padd (.t 31) 13)), g_T 21 33 24 (.h (.padd (.t 32) 11)), g_T 22 34 24 (.load (.t 33) 1 false), g_T 23 35 24 (.h (.idx (.t 29) (.t 34) 1)), g_T 24 36 24 (.load (.t 35) 1 false), g_T 25 37 24 (.h (.padd (.t 4) 0)), g_T 26 38 24 (.load (.t 37) 1 false), g_T 27 39 24 (.h (.ibin .leq (.t 36) (.t 38))), i_X 28 40 (.h (.pick (.t 24) (.t 39) (.k (.d (.bool false)))))] [0, 2, 4, 40]) (.cond (.t 40) .skip (.exit 0))) (.seq (.block 1 (.seq (.reg [i_M 0 50 0, i_X 1 51 (.h (.nilck (.t 50))), i_P 2 52 51 0, i_P 3 53 52 12, i_L 4 54 53 1, i_M 5 55 0, i_X 6 56 (.h (.nilck (.t 55))), i_P 7 57 56 13, i_P 8 58 57 11, i_L 9 59 58 1, i_I 10 60 54 59 1, i_L 11 61 60 1, i_M 12 6 61] [0, 2, 4, 6]) (.seq (.reg [i_M 0 62 6, i_P 1 63 4 0, i_L 2 64 63 1, i_N 3 65 .sub 62 64, i_X 4 66 (.h (.i2f (.t 65))), i_P 5 67 4 1, i_L 6 68 67 1, i_X 7 69 (.h (.i2f (.t 68))), i_F 8 70 .div 66 69, i_M 9 7 70] [0, 2, 4, 6, 7]) (.seq (.reg [i_M 0 71 6, i_P 1 72 4 4, i_L 2 73 72 1, i_M 3 74 7, i_X 4 75 (.callA (kF 154) [(.t 73), (.t 74)]), i_X 5 76 (.callA (kF 57) [(.t 75)]), i_X 6 77 (.h (.build [fI 0, .nil, fl 0] [(0, (1, (.t 71))), (1, (1, (.t 76)))])), i_X 7 8 (.alloc [fI 0, .nil, fl 0] 67), i_S 8 8 77 3] [0, 2, 4, 7, 8]) (.seq (.seq (.reg [i_P 0 78 8 1, i_L 1 79 78 1, i_X 2 80 (.h (.len (.t 79))), i_K 3 81 0] [0, 2, 4, 7, 8, 79, 80, 81]) (.block 2 (.loop A7))) (.reg [i_M 0 106 0, i_M 1 107 0, i_X 2 108 (.h (.nilck (.t 107))), i_P 3 109 108 25, i_L 4 110 109 1, i_A 5 111 8 3, i_X 6 112 (.bslice [fI 0, .nil, fl 0] 1 3 [(0, (3, (.t 111)))] 67), i_X 7 113 (.app (.t 110) (.t 112) 3 40), i_X 8 114 (.h (.nilck (.t 106))), i_P 9 115 114 25, i_S 10 115 113 1] [0, 2, 4])))))) (.reg [i_M 0 41 0, i_X 1 42 (.h (.nilck (.t 41))), i_P 2 43 42 13, i_P 3 44 43 11, i_L 4 45 44 1, i_B 5 46 .add 45 1, i_X 6 47 (.h (.nilck (.t 41))), i_P 7 48 47 13, i_P 8 49 48 11, i_S 9 49 46 1] [0, 2, 4])))
def Y7 : CA := (.seq (.reg [i_X 0 4 (.box (.t 1) 5 40)] [0, 2, 4]) (.block 0 (.loop L9)))
theorem a00 : d6 Tryz.prog 95 = some ⟨116, [], Y7.strip⟩ := by kernel_rfl
theorem c5a (p : Pb) (v : Nd) (b k i : Nat) (hi : i ≤ (G8 p v b k).length) : i < (G8 p v b k).length ↔ k + i < p.outs.length ∧ p.outs.getD (k + i) 0 ≤ v.pos := by
 unfold G8 a8u at hi ⊢
 rw [List.length_map] at hi ⊢
 have := a6n (p.outs.drop k) i hi
 rw [this, List.length_drop, a8X, decide_eq_true_eq]
 exact ⟨fun ⟨a, b⟩ => ⟨by omega, b⟩, fun ⟨a, b⟩ => ⟨by omega, b⟩⟩
theorem b9y (p : Pb) (v : Nd) (b k i : Nat) (hi : i < (G8 p v b k).length) : (G8 p v b k).take (i + 1) = (G8 p v b k).take i ++ [outP v p.t.n b (p.outs.getD (k + i) 0)] := by
 have h1 : i < (a8u p.outs v.pos k).length := by unfold G8 at hi; rwa [List.length_map] at hi
 have h2 : (a8u p.outs v.pos k).getD i 0 = p.outs.getD (k + i) 0 := by
  unfold a8u at h1 ⊢
  rw [b1P _ _ h1, a8X]
 have h3 : (G8 p v b k)[i]? = some (outP v p.t.n b (p.outs.getD (k + i) 0)) := by
  unfold G8
  rw [List.getElem?_map, c8V h1]
  rw [c8U, c8V h1] at h2
  simp only [Option.getD_some] at h2
  rw [← h2]; rfl
 rw [List.take_add_one, h3]; rfl
theorem c2C (p : Pb) (v : Nd) (b k : Nat) (hk : k ≤ p.outs.length) : k + (G8 p v b k).length ≤ p.outs.length := by
 unfold G8
 rw [List.length_map]
 rcases b0X p.outs v.pos k with h | h
 ·exact h
 ·omega
def b6r (f : Nat → Nat) (j : Nat) : Nat := if j = 0 then 0 else D6 f (j - 1)
theorem c5b (N : Nat → Prop) (q n : Nat) (v : Nd) (s b : Nat) (a : Int) (hz : Rk (q + 1) n v.z) (hq : q < 1000) (hn0 : 0 < n) (hn : n < 2 ^ 40) (H : Heap) (w : List V) (c2 : List V) (c3 : List V) (F : List (List V)) (c4 : List V) (c5 : List V) (Q : Ex → T → Prop)
  (hQ : ∀ w8, Q (.exit 2) ⟨[(0, .ptr 7 0 0 26), (2, fl b), (4, .ptr 133 0 0 5), (7, fl s), (8, .ptr 141 0 0 3), (79, .d (rowD (atP v.z q n s))), (80, fI (atP v.z q n s).length), (81, fI n), (82, w8)], [(141, [[fI a, .d (rowD (atP v.z q n s)), fl (D6 (outB v n s b) (n - 1))]]), (133, [ndC v]), (132, [c2]), (111, [c3]), (100, F), (7, [w]), (2, [c4]), (0, [c5])]⟩) (hq2 : v.z.length - 1 = q) :
  WA Tryz.prog N 116 (.loop A7) Q ⟨[(0, .ptr 7 0 0 26), (2, fl b), (4, .ptr 133 0 0 5), (7, fl s), (8, .ptr 141 0 0 3), (79, .d (rowD (atP v.z q n s))), (80, fI (atP v.z q n s).length), (81, fI 0)], [(141, [[fI a, .d (rowD (atP v.z q n s)), fl 0]]), (133, [ndC v]), (132, [c2]), (111, [c3]), (100, F), (7, [w]), (2, [c4]), (0, [c5])]⟩ := by
 refine m7 (n := n) (fun k t => ∃ j : Nat, k + j = n ∧ t = ⟨[(0, .ptr 7 0 0 26), (2, fl b), (4, .ptr 133 0 0 5), (7, fl s), (8, .ptr 141 0 0 3), (79, .d (rowD (atP v.z q n s))), (80, fI (atP v.z q n s).length), (81, fI j)], [(141, [[fI a, .d (rowD (atP v.z q n s)), fl (b6r (outB v n s b) j)]]), (133, [ndC v]), (132, [c2]), (111, [c3]), (100, F), (7, [w]), (2, [c4]), (0, [c5])]⟩) ⟨0, by omega, rfl⟩ ?_
 rintro k t ⟨j, hj, rfl⟩
 have hl : (atP v.z q n s).length = n := g6 _ _
 refine evx @A7.eq_1 ?_
 refine a9 (fun h => ?_) (fun h => ?_)
 ·replace h := of_decide_eq_true h
  rw [hl] at h
  have gj : (rowV (atP v.z q n s)).getD j .any = fl ((atP v.z q n s).getD j 0) := f8 _ _ (by rw [hl]; exact h)
  have wj : IntKind.i64.wrap ((j : Int) + 1) = ((j + 1 : Nat) : Int) := by rw [b9 (by omega) (by omega)]; omega
  refine evx gj ?_
  refine ⟨by rw [hl]; exact h, ?_⟩
  refine a0 (b52 v.z q n j s ((atP v.z q n s).getD j 0) hz hq h hn) rfl ?_
  refine ev ?_
  refine a0 (A9 (fop .add b (offP v.z j s ((atP v.z q n s).getD j 0)))) rfl ?_
  have eo : up (fop .add b (offP v.z j s ((atP v.z q n s).getD j 0))) = outB v n s b j := by unfold outB atN; rw [hq2]
  rw [eo]
  refine ev ?_
  by_cases h0 : j = 0
  ·have h0b : ((j : Int) == 0) = true := by subst h0; rfl
   refine evx (And.intro h0b wj) ?_
   exact ⟨k - 1, by omega, j + 1, by omega, by subst h0; rfl⟩
  ·have h0b : ((j : Int) == 0) = false := by simp; omega
   refine evx h0b ?_
   obtain ⟨i, rfl⟩ : ∃ i, j = i + 1 := ⟨j - 1, by omega⟩
   have eb : b6r (outB v n s b) (i + 1 + 1) = if fcmp .gt (outB v n s b (i + 1)) (b6r (outB v n s b) (i + 1)) = true then outB v n s b (i + 1) else b6r (outB v n s b) (i + 1) := rfl
   cases hg : fcmp .gt (outB v n s b (i + 1)) (b6r (outB v n s b) (i + 1))
   ·refine evx wj ?_
    refine ⟨k - 1, by omega, i + 1 + 1, by omega, ?_⟩
    rw [eb, hg]; rfl
   ·refine evx wj ?_
    refine ⟨k - 1, by omega, i + 1 + 1, by omega, ?_⟩
    rw [eb, hg]; rfl
 ·replace h := of_decide_eq_false h
  rw [hl] at h
  refine ev ?_
  have e : j = n := by omega
  subst e
  have e2 : b6r (outB v j s b) j = D6 (outB v j s b) (j - 1) := by unfold b6r; rw [if_neg (by omega)]
  rw [← e2] at hQ
  exact hQ _
theorem LeT.permN {N : Nat → Prop} {nt : Nat} {sls : Sl} {L L' : Heap} (hL : ∀ X, L'.fam X = L.fam X) (hs : KpS L' sls) (hc : KpH L' L') : Le N (T.s nt ⟨sls, L⟩) (T.s nt ⟨sls, L'⟩) := by
 have hg : ∀ X r, L'.get X r = L.get X r := fun X r => by unfold Heap.get; rw [hL]
 have hlook : ∀ i, LeV L L' (fun X q => (X, q)) (look sls i) (look sls i) := by
  intro i
  have hs' : ∀ p ∈ sls, Kp L' p.2 := hs
  clear hs
  induction sls with
  | nil => exact .any _
  | cons p tl ih =>
   obtain ⟨k, v⟩ := p
   simp only [look]
   split
   ·exact hs' (k, v) (by simp) L
   ·exact ih fun p hp => hs' p (by simp [hp])
 refine Le.of_wk (fun X q => (X, q)) ⟨rfl, fun i hi => ?_, fun X r c hX => ⟨c, ?_, rfl, fun j hj => ?_⟩, fun X r Y q _ _ e => by simpa using e, fun X r h hx => ⟨rfl, by show L'.get X r ≠ none; rw [hg X r]; exact hx⟩⟩
 ·simp only [T.s] at hi ⊢
  rw [t4] at hi
  rw [t5 _ hi]
  exact hlook i
 ·have hX : L'.get X r = some c := hX
  show L.get X r = some c
  rw [← hg]; exact hX
 ·obtain ⟨p, hp, hcp⟩ := N6 hX
  exact KpA.at (hc p hp c hcp) _ j
def nmT : List Nat := [132, 111, 100, 7, 2, 0]
theorem c0v (l : List Ou) (o : Ou) : osF (l ++ [o]) = [ousC l ++ ouC o] := by rw [b0Z (by simp), b6W]
theorem c0u (l : List Ou) (o : Ou) : osV (l ++ [o]) = .sl 100 0 0 (l.length + 1) 3 (l.length * 3 + 3) := by
 rw [b0Y (by simp), List.length_append]
 rw [show (l.length + [o].length) = l.length + 1 from rfl, show (l.length + 1) * 3 = l.length * 3 + 3 by omega]
abbrev trC (s : Sta) (v : Nd) (er : Nat) : List V := [fI s.n.pos, fI s.n.step, fI s.n.order, fI s.n.method, .d (f0 s.n.z), fI s.good, fI s.fails, fI s.slow, fI v.pos, fI v.step, fI v.order, fI v.method, .d (f0 v.z), fB true, fl er, fI 0]
abbrev bndC (b : Bnd) : List V := [fl b.jump, fl b.defect, fl b.norm, fl b.growth, fl b.bound]
theorem b50 (p : Pb) (r : Rn) (l : List Ou) (v : Nd) (b q : Nat) (B : Bnd) (s2 : Sta) (er : Nat) (hz : Rk (q + 1) p.t.n v.z) (hq : q < 1000) (hn0 : 0 < p.t.n) (hn : p.t.n < 2 ^ 40) (hr : r.next ≤ p.outs.length) (ho : p.outs.length < 2 ^ 39) (hl : l.length < 2 ^ 39)
  (hpos : 0 ≤ v.pos ∧ v.pos < 2 ^ 61) (houts : ∀ i, i < p.outs.length → 0 ≤ p.outs.getD i 0 ∧ p.outs.getD i 0 < 2 ^ 61) :
  AC Tryz.prog 95 [.ptr 7 0 0 26, ndV v, fl b] [(132, [bndC B]), (111, [trC s2 v er]), (100, osF l), (7, [slC p r (osV l)]), (2, [endC]), (0, [pbC p])]
   [(132, [bndC B]), (111, [trC s2 v er]), (100, osF (l ++ G8 p v b r.next)), (7, [slC p ⟨r.s, r.last, r.bound, r.att, r.next + (G8 p v b r.next).length⟩ (osV (l ++ G8 p v b r.next))]), (2, [endC]), (0, [pbC p])] (.tup []) := by
 refine g7 a00 rfl d5 (nmN nmT) (c0z fun X h => ?_) ?_
 ·unfold nmT at h
  simp only [List.mem_cons, List.not_mem_nil, or_false, not_or] at h
  simp only [b4, b7]
  rw [if_neg h.1, if_neg h.2.1, if_neg h.2.2.1, if_neg h.2.2.2.1, if_neg h.2.2.2.2.1, if_neg h.2.2.2.2.2]
 refine evx @Y7.eq_1 ?_
 have hq2 : v.z.length - 1 = q := by have := hz.1; omega
 have hTl := c2C p v b r.next hr
 have hat := fun i hi => c5a p v b r.next i hi
 have htk := fun i hi => b9y p v b r.next i hi
 refine f9 (n := (G8 p v b r.next).length) (fun c t => ∃ i : Nat, c + i = (G8 p v b r.next).length ∧ t = ⟨[(0, .ptr 7 0 0 26), (2, fl b), (4, .ptr 133 0 0 5)], [(133, [ndC v]), (132, [bndC B]), (111, [trC s2 v er]), (100, osF (l ++ (G8 p v b r.next).take i)), (7, [slC p ⟨r.s, r.last, r.bound, r.att, r.next + i⟩ (osV (l ++ (G8 p v b r.next).take i))]), (2, [endC]), (0, [pbC p])]⟩)
  (Le.refl _) ⟨0, by omega, by rw [List.take_zero, List.append_nil]; rfl⟩ ?_
 rintro c t ⟨i, hi, rfl⟩
 have hat := hat i (by omega)
 have htk := htk i
 generalize hTT : G8 p v b r.next = TT at hat htk hi hTl
 have hlt : (TT.take i).length = i := by rw [List.length_take]; omega
 have done : ¬ i < TT.length → i = TT.length := fun h => by omega
 refine evx @L9.eq_1 ?_
 by_cases c2 : r.next + i < p.outs.length
 ·have c2b : decide (r.next + i < p.outs.length) = true := decide_eq_true c2
  refine evx c2b ?_
  refine ⟨c2, ?_⟩
  by_cases c3 : p.outs.getD (r.next + i) 0 ≤ v.pos
  ·have c3b : decide (p.outs.getD (r.next + i) 0 ≤ v.pos) = true := decide_eq_true c3
   have hou := houts _ c2
   have ws : IntKind.i64.wrap (p.outs.getD (r.next + i) 0 - v.pos) = p.outs.getD (r.next + i) 0 - v.pos := b9 (by omega) (by omega)
   refine evx (And.intro c3b ws) ?_
   refine ⟨c2, ?_⟩
   have hi1 := hat.2 ⟨c2, c3⟩
   have hT := htk hi1
   have esp : fop .div (FloatKind.nearest .f64 (p.outs.getD (r.next + i) 0 - v.pos)) (FloatKind.nearest .f64 v.step) = sP v (p.outs.getD (r.next + i) 0) := rfl
   rw [esp]
   have hay : (atP v.z q p.t.n (sP v (p.outs.getD (r.next + i) 0))).length = p.t.n := g6 _ _
   have eout : outP v p.t.n b (p.outs.getD (r.next + i) 0) = ⟨p.outs.getD (r.next + i) 0, atP v.z q p.t.n (sP v (p.outs.getD (r.next + i) 0)), D6 (outB v p.t.n (sP v (p.outs.getD (r.next + i) 0)) b) (p.t.n - 1)⟩ := by unfold outP atN; rw [hq2]
   generalize sP v (p.outs.getD (r.next + i) 0) = s at hay eout ⊢
   generalize p.outs.getD (r.next + i) 0 = a at eout hT ⊢
   refine a0 (b5M v.z q p.t.n s hz hq hn0 hn) rfl ?_
   refine ev ?_
   refine a0 (P7 (atP v.z q p.t.n s) (by omega) (by omega)) rfl ?_
   refine ev ?_
   refine c5b _ q p.t.n v s b a hz hq hn0 hn [] _ _ _ _ _ _ _ (fun w8 => ?_) hq2
   rw [eout] at hT
   generalize D6 (outB v p.t.n s b) (p.t.n - 1) = bo at hT ⊢
   generalize atP v.z q p.t.n s = yo at hay hT ⊢
   have hLL : l ++ TT.take (i + 1) = (l ++ TT.take i) ++ [⟨a, yo, bo⟩] := by rw [hT, List.append_assoc]
   have hLl : (l ++ TT.take i).length < 2 ^ 40 := by rw [List.length_append, hlt]; omega
   have wi : IntKind.i64.wrap (((r.next + i : Nat) : Int) + 1) = ((r.next + (i + 1) : Nat) : Int) := by rw [b9 (by omega) (by omega)]; omega
   rw [← Nat.add_assoc] at wi
   generalize l ++ TT.take i = LL at hLL hLl
   by_cases h0 : LL = []
   ·subst h0
    rw [b5K, b5J]
    refine evx wi ?_
    refine ⟨c - 1, ⟨[(0, .ptr 7 0 0 26), (2, fl b), (4, .ptr 133 0 0 5)], [(133, [ndC v]), (132, [bndC B]), (111, [trC s2 v er]), (100, osF (l ++ TT.take (i + 1))), (7, [slC p ⟨r.s, r.last, r.bound, r.att, r.next + (i + 1)⟩ (osV (l ++ TT.take (i + 1)))]), (2, [endC]), (0, [pbC p])]⟩, by omega, ?_, i + 1, by omega, rfl⟩
    rw [hLL, c0v, c0u]
    refine Le.trans (b := Go.Ab.T.s 116 ⟨[(0, .ptr 7 0 0 26), (2, fl b), (4, .ptr 133 0 0 5)], [(149, [[fI a, .d (rowD yo), fl bo]]), (133, [ndC v]), (132, [bndC B]), (111, [trC s2 v er]), (100, []), (7, [slC p ⟨r.s, r.last, r.bound, r.att, r.next + (i + 1)⟩ (.sl 149 0 0 1 3 3)]), (2, [endC]), (0, [pbC p])]⟩) ?_ ?_
    ·exact LeT.onlyN (fun X => X != 148 && X != 141) (fun X hX => by rw [b32 hX (by decide), b32 hX (by decide)]; rfl) rfl (by simp [kpS]) (by simp [kpS])
    refine Le.trans (b := Go.Ab.T.s 116 ⟨[(0, .ptr 7 0 0 26), (2, fl b), (4, .ptr 133 0 0 5)], [(149, [[fI a, .d (rowD yo), fl bo]]), (100, []), (133, [ndC v]), (132, [bndC B]), (111, [trC s2 v er]), (7, [slC p ⟨r.s, r.last, r.bound, r.att, r.next + (i + 1)⟩ (.sl 149 0 0 1 3 3)]), (2, [endC]), (0, [pbC p])]⟩) ?_ ?_
    ·exact LeT.permN (fun X => by by_cases h : X = 100 <;> simp [b4, h]) (by simp [kpS]) (by simp [kpS])
    refine Le.trans (LeT.absorb (Y := 149) (X := 100) (fam := []) (by decide) rfl rfl (fun h => by revert h; unfold nmN; decide)) ?_
    exact LeT.permN (sls := [(0, .ptr 7 0 0 26), (2, fl b), (4, .ptr 133 0 0 5)]) (L := [(100, [[fI a, .d (rowD yo), fl bo]]), (133, [ndC v]), (132, [bndC B]), (111, [trC s2 v er]), (7, [slC p ⟨r.s, r.last, r.bound, r.att, r.next + (i + 1)⟩ (.sl 100 0 0 1 3 3)]), (2, [endC]), (0, [pbC p])]) (fun X => by by_cases h : X = 100 <;> simp [b4, h, ousC, ouC]) (by simp (maxDischargeDepth := 6) [kpS, b4, b7, a42, b21]) (by simp (maxDischargeDepth := 6) [kpS, b4, b7, a42, b21])
   ·have hol := b17 LL
    rw [b0Z h0, b0Y h0]
    refine evx wi ?_
    refine ⟨⟨hol, by omega⟩, c - 1, ⟨[(0, .ptr 7 0 0 26), (2, fl b), (4, .ptr 133 0 0 5)], [(133, [ndC v]), (132, [bndC B]), (111, [trC s2 v er]), (100, osF (l ++ TT.take (i + 1))), (7, [slC p ⟨r.s, r.last, r.bound, r.att, r.next + (i + 1)⟩ (osV (l ++ TT.take (i + 1)))]), (2, [endC]), (0, [pbC p])]⟩, by omega, ?_, i + 1, by omega, rfl⟩
    rw [hLL, c0v, c0u]
    exact LeT.onlyN (fun X => X != 148 && X != 141) (fun X hX => by rw [b32 hX (by decide), b32 hX (by decide)]; rfl) rfl (by simp [kpS]) (by simp (maxDischargeDepth := 6) [kpS, b4, b7, a42, b21])
  ·have c3b : decide (p.outs.getD (r.next + i) 0 ≤ v.pos) = false := decide_eq_false c3
   refine evx c3b ?_
   have := done (fun h => c3 (hat.1 h).2)
   subst this
   rw [List.take_length]
   exact j4 (fun X => X != 133) (fun X hX => b32 hX (by decide)) rfl (by simp) (by simp [kpS]) (by simp (maxDischargeDepth := 6) [kpS, b4, b7, L4, a0M])
 ·have c2b : decide (r.next + i < p.outs.length) = false := decide_eq_false c2
  refine evx c2b ?_
  have := done (fun h => c2 (hat.1 h).1)
  subst this
  rw [List.take_length]
  exact j4 (fun X => X != 133) (fun X hX => b32 hX (by decide)) rfl (by simp) (by simp [kpS]) (by simp (maxDischargeDepth := 6) [kpS, b4, b7, L4, a0M])
end Go.Ab
namespace Go.Ab
set_option linter.unusedSimpArgs false
set_option linter.unusedVariables false
open Nat renaming reduceEqDiff → n1_, reduceAdd → n2_, reduceMul → n3_, reduceLT → n4_, reduceLeDiff → n5_
open Int renaming reduceToNat → i1_, reduceAdd → i2_, reduceSub → i3_, reduceMul → i4_, reduceNeg → i5_, reduceLT → i6_, reduceLE → i7_
open Go Go.Proofs
def M0 : CA := (.seq (.reg [i_K 0 2 0] [0]) (.seq (.seq (.reg [i_M 0 6 0, i_X 1 7 (.h (.nilck (.t 6))), i_P 2 8 7 13, i_P 3 9 8 10, i_L 4 10 9 1, i_M 5 11 0, i_X 6 12 (.h (.nilck (.t 11))), i_P 7 13 12 0, i_P 8 14 13 11, i_L 9 15 14 1, i_N 10 16 .geq 10 15] [0, 16]) (.cond (.t 16) (.seq (.reg [i_K 0 2 6] [2]) .ret) .skip)) (.seq (.reg [i_M 0 17 0, i_X 1 18 (.h (.nilck (.t 17))), i_P 2 19 18 13, i_P 3 20 19 10, i_L 4 21 20 1, i_B 5 22 .add 21 1, i_X 6 23 (.h (.nilck (.t 17))), i_P 7 24 23 13, i_P 8 25 24 10, i_S 9 25 22 1] [0]) (.seq (.reg [i_M 0 26 0, i_X 1 27 (.h (.nilck (.t 26))), i_P 2 28 27 0, i_A 3 29 28 13, i_M 4 30 0, i_X 5 31 (.h (.nilck (.t 30))), i_P 6 32 31 13, i_P 7 33 32 0, i_A 8 34 33 8, i_X 9 35 (.callS 0 (kF 93) [(.t 29), (.t 34)]), i_X 10 3 (.alloc [fI 0, fI 0, fI 0, fI 0, .nil, fI 0, fI 0, fI 0, fI 0, fI 0, fI 0, fI 0, .nil, (.d (.bool false)), fl 0, fI 0] 141), i_S 11 3 35 16] [0, 3]) (.seq (.seq (.reg [i_P 0 36 3 15, i_L 1 37 36 1, i_B 2 38 .neq 37 0, i_M 3 39 38, g_F 4 40 39 (.h (.padd (.t 3) 13)), g_F 5 41 39 (.load (.t 40) 1 false), g_F 6 42 39 (.h (.un .not (.t 41))), i_X 7 43 (.h (.pick (.t 39) (.k (.d (.bool true))) (.t 42)))] [0, 3, 43]) (.cond (.t 43) (.seq (.reg [i_M 0 44 0, i_P 1 45 3 0, i_A 2 46 45 8, i_X 3 47 (.h (.nilck (.t 44))), i_P 4 48 47 13, i_P 5 49 48 0, i_S 6 49 46 8] [3]) (.seq (.reg [i_P 0 50 3 15, i_L 1 51 50 1, i_M 2 2 51] [2]) .ret)) .skip)) (.seq (.reg [i_M 0 53 0, i_X 1 54 (.h (.nilck (.t 53))), i_P 2 55 54 0, i_A 3 56 55 13, i_P 4 57 3 8, i_A 5 58 57 5, i_M 6 59 0, i_X 7 60 (.h (.nilck (.t 59))), i_P 8 61 60 13, i_P 9 62 61 8, i_L 10 63 62 1, i_M 11 64 0, i_X 12 65 (.h (.nilck (.t 64))), i_P 13 66 65 13, i_P 14 67 66 9, i_L 15 68 67 1, i_X 16 69 (.callS 0 (kF 94) [(.t 56), (.t 58), (.t 63), (.t 68)]), i_M 17 52 69, i_X 18 70 (.h (.ext (.t 52) 0)), i_X 19 71 (.h (.ext (.t 52) 1)), i_X 20 4 (.alloc z_5 143), i_S 21 4 70 5, i_M 22 5 71] [0, 3, 4, 5]) (.seq (.seq (.reg [i_M 0 72 5, i_B 1 73 .eql 72 0, i_M 2 74 73, g_T 3 75 74 (.h (.padd (.t 4) 4)), g_T 4 76 74 (.load (.t 75) 1 false), g_T 5 77 74 (.h (.mov (.t 0))), g_T 6 78 74 (.h (.nilck (.t 77))), g_T 7 79 74 (.h (.padd (.t 78) 0)), g_T 8 80 74 (.h (.padd (.t 79) 10)), g_T 9 81 74 (.load (.t 80) 1 false), g_T 10 82 74 (.h (.fcmp .gt (.t 76) (.t 81))), i_X 11 83 (.h (.pick (.t 74) (.t 82) (.k (.d (.bool false)))))] [0, 3, 4, 5, 83]) (.cond (.t 83) (.reg [i_K 0 5 8] [0, 3, 4, 5]) .skip)) (.seq (.seq (.reg [i_M 0 84 5, i_B 1 85 .neq 84 0] [0, 3, 4, 5, 85]) (.cond (.t 85) (.seq (.reg [i_M 0 86 5, i_M 1 2 86] [2]) .ret) .skip)) (.seq (.reg [i_M 0 87 0, i_M 1 88 0, i_M 2 89 0, i_P 3 90 3 0, i_A 4 91 90 8, i_P 5 92 3 8, i_P 6 93 92 4, i_L 7 94 93 1, i_X 8 95 (.h (.idx (.t 94) (kI 0) 1)), i_L 9 96 95 1, i_X 10 97 (.callS 10 (kF 57) [(.t 96)]), i_P 11 98 4 4, ⟨12, (some 99), none, [(.t 4)], [], (.load (.t 98) 1 false)⟩, i_X 13 100 (.h (.nilck (.t 87))), i_P 14 101 100 13, i_P 15 102 101 0, ⟨16, none, none, [], [(.t 4)], (.store (.t 102) (.t 91) 8)⟩, i_X 17 103 (.h (.nilck (.t 88))), i_P 18 104 103 13, i_P 19 105 104 8, ⟨20, none, none, [], [(.t 4)], (.store (.t 105) (.t 97) 1)⟩, i_X 21 106 (.h (.nilck (.t 89))), i_P 22 107 106 13, i_P 23 108 107 9, i_S 24 108 99 1] [0, 3, 4]) (.seq (.reg [i_M 0 109 0, i_P 1 110 3 8, i_A 2 111 110 5, i_P 3 112 4 4, i_L 4 113 112 1, i_X 5 114 (.callA (kF 95) [(.t 109), (.t 111), (.t 113)])] []) (.seq (.reg [i_K 0 2 0] [2]) .ret)))))))))))
theorem W5 : d6 Tryz.prog 54 = some ⟨115, [(2, none)], M0.strip⟩ := by kernel_rfl
structure Outs (p : Pb) : Prop where
 len : p.outs.length < 2 ^ 20
 rng : ∀ i, i < p.outs.length → 0 ≤ p.outs.getD i 0 ∧ p.outs.getD i 0 < 2 ^ 61
 most : 0 ≤ p.most ∧ p.most < 2 ^ 40
theorem b9z {p : Pb} {k : Nat} {x : Sta} (hp : Pk p) (hi : Inv p k x) (ht : (tryP p x).taken = true) (hk : k < 100000) : 0 ≤ (tryP p x).n.pos ∧ (tryP p x).n.pos < 2 ^ 61 := by
 have hin := (b1L hp hi hk).ok.n.pos
 rcases b6C hp hi with ⟨_, sp⟩ | ⟨h, _⟩
 ·have h1 := sp.npos
  have h2 := sp.pos
  omega
 ·rw [h] at ht; cases ht
abbrev goH (p : Pb) (r : Rn) (l : List Ou) : Heap := [(100, osF l), (7, [slC p r (osV l)]), (2, [endC]), (0, [pbC p])]
theorem b0c (p : Pb) (r : Rn) (l : List Ou) (k : Nat) (hp : Pk2 p) (ho : Outs p) (hr : RInv p k r) (hk : k < 100000) (hl : l.length < 2 ^ 39) (ha : r.att < 2 ^ 40) :
    AC Tryz.prog 54 [.ptr 7 0 0 26] (goH p r l) (goH p (a0X p r).1 (l ++ (a0X p r).2.1)) (fI (a0X p r).2.2) := by
  refine g7 W5 rfl d5 (nmN [100, 7, 2, 0]) (c0z fun X h => ?_) ?_
  · simp only [List.mem_cons, List.not_mem_nil, or_false, not_or] at h
    simp only [b4, b7]
    rw [if_neg h.1, if_neg h.2.1, if_neg h.2.2.1, if_neg h.2.2.2]
  refine evx @M0.eq_1 ?_
  have wa : IntKind.i64.wrap ((r.att : Int) + 1) = ((r.att + 1 : Nat) : Int) := by rw [b9 (by omega) (by omega)]; omega
  have htry := b3x p r.s hp.pk.ok hr.s.ok
  have hin := b1L hp.pk hr.s hk
  have hkn : ∀ X, nmN [100, 7, 2, 0] X → decide (X ≤ 100) = true := fun X hX => by
    unfold nmN at hX
    simp only [List.mem_cons, List.not_mem_nil, or_false] at hX
    rcases hX with rfl | rfl | rfl | rfl <;> rfl
  rcases a0g p r with ⟨hm, e⟩ | ⟨hm, h2, e⟩ | ⟨hm, he, ht, herr, e⟩ | ⟨hm, he, ht, hb, hg, e⟩
  · rw [e]
    simp only [List.append_nil]
    rw [decide_eq_true hm]
    refine ev ?_
    exact j4 (fun _ => true) (fun _ _ => rfl) (d7 (by decide) rfl) (by simp) (by simp [kpS]) (by simp (maxDischargeDepth := 6) [kpS, b4, b7, L4, a0M])
  · rw [e]
    simp only [List.append_nil]
    rw [decide_eq_false (show ¬ p.most ≤ (r.att : Int) by omega)]
    refine evx wa ?_
    refine a8 (htry) rfl ?_
    generalize tryP p r.s = t at h2 hin ⊢
    refine ev ?_
    by_cases he : t.e = 0
    · have heb : (t.e != 0) = false := by simpa using he
      have ht : t.taken = false := by rcases h2 with h2 | h2
                                      · exact absurd he h2
                                      · exact h2
      refine evx (And.intro heb ht) ?_
      exact j4 (fun X => decide (X ≤ 100)) hkn (d7 (by decide) rfl) rfl (by simp [kpS]) (by simp (maxDischargeDepth := 6) [kpS, b4, b7, L4, a0M])
    · have heb : (t.e != 0) = true := by simpa using he
      refine evx heb ?_
      exact j4 (fun X => decide (X ≤ 100)) hkn (d7 (by decide) rfl) rfl (by simp [kpS]) (by simp (maxDischargeDepth := 6) [kpS, b4, b7, L4, a0M])
  all_goals
    have hbk := b3t hp hr.s ht r.last r.bound hr.last hr.bound
    have hbs := b0r p (tryP p r.s).n r.last r.bound hbk
    have hbd : bndP p.t p.box (tryP p r.s).n.z (hW (tryP p r.s).n.step.toNat) r.last r.bound = bdR p r := rfl
    rw [hbd] at hbs
  · rw [e]
    simp only [List.append_nil]
    rw [decide_eq_false (show ¬ p.most ≤ (r.att : Int) by omega)]
    refine evx wa ?_
    refine a8 (htry) rfl ?_
    have herrD : errR p r = if (bdR p r).2 = 0 ∧ fcmp .gt (bdR p r).1.bound p.cap = true then 8 else (bdR p r).2 := rfl
    generalize tryP p r.s = t at ht he hin hbk hbs ⊢
    generalize bdR p r = B at hbs herrD ⊢
    have heb : (t.e != 0) = false := by simpa using he
    refine evx (And.intro heb ht) ?_
    refine a8 (hbs) rfl ?_
    refine ev ?_
    by_cases hB : B.2 = 0
    · have hBb : (B.2 == 0) = true := by simpa using hB
      have hgt : fcmp .gt B.1.bound p.cap = true := by
        cases hc : fcmp .gt B.1.bound p.cap with
        | true => rfl
        | false => rw [hc, hB] at herrD; simp at herrD; exact absurd herrD herr
      simp -implicitDefEqProofs only [evI, hv, effC, reduceCtorEq, ↓reduceIte, n1_, n2_, n3_, n4_, n5_, i1_, i2_, i3_, i4_, i5_, i6_, i7_, hBb, hgt, Int.reduceBNe]
      have : errR p r = 8 := by rw [herrD, if_pos ⟨hB, hgt⟩]
      rw [this]
      exact j4 (fun X => decide (X ≤ 100)) hkn (d7 (by decide) rfl) rfl (by simp [kpS]) (by simp (maxDischargeDepth := 6) [kpS, b4, b7, L4, a0M])
    · have hBb : (B.2 == 0) = false := by simpa using hB
      have hBn : (B.2 != 0) = true := by simpa using hB
      refine evx (And.intro hBb hBn) ?_
      have : errR p r = B.2 := by rw [herrD, if_neg (fun h => hB h.1)]
      rw [this]
      exact j4 (fun X => decide (X ≤ 100)) hkn (d7 (by decide) rfl) rfl (by simp [kpS]) (by simp (maxDischargeDepth := 6) [kpS, b4, b7, L4, a0M])
  · rw [e]
    rw [decide_eq_false (show ¬ p.most ≤ (r.att : Int) by omega)]
    refine evx wa ?_
    refine a8 (htry) rfl ?_
    have het : c49 p r = ⟨(tryP p r.s).s, (tryP p r.s).n.z.getD 0 [], (bdR p r).1.bound, r.att + 1, r.next + (G8 p (tryP p r.s).n (bdR p r).1.bound r.next).length⟩ := rfl
    rw [het]
    have hpos := b9z hp.pk hr.s ht hk
    generalize tryP p r.s = t at ht he hin hbk hbs hpos ⊢
    generalize bdR p r = B at hbs hb hg ⊢
    have heb : (t.e != 0) = false := by simpa using he
    refine evx (And.intro heb ht) ?_
    refine a8 (hbs) rfl ?_
    refine ev ?_
    have hBb : (B.2 == 0) = true := by simpa using hb
    have hBn : (B.2 != 0) = false := by simpa using hb
    refine evx (And.intro hBb (And.intro hg hBn)) ?_
    have hrk := hbk.rk
    have hz0 := hrk.2 0 (by omega)
    have hn0 := hp.pk.ok.n
    have hn20 := hp.pk.ok.t.n
    have hord := hbk.ord
    refine ⟨by have := hrk.1; omega, ?_⟩
    refine a8 (P7 (t.n.z.getD 0 []) (by omega) (by omega)) rfl ?_
    refine ev ?_
    rw [he]
    refine x0 (b50 p ⟨t.s, t.n.z.getD 0 [], B.1.bound, r.att + 1, r.next⟩ l t.n B.1.bound t.n.order.toNat B.1 t.s t.err hrk (by omega) hn0 (by omega) hr.next (by have := ho.len; omega) hl hpos ho.rng) ?_
    refine ev ?_
    exact j4 (fun X => decide (X ≤ 100)) hkn (d7 (by decide) rfl) rfl (by simp [kpS]) (by simp (maxDischargeDepth := 6) [kpS, b4, b7, L4, a0M])
end Go.Ab
namespace Go.Ab
set_option linter.unusedSimpArgs false
set_option linter.unusedVariables false
open Go Go.Proofs
def b42 : CA := (.seq (.reg [i_X 0 1 (.box (.t 0) 12 51), i_X 1 2 (.alloc [fI 0, fI 0, fI 0, fI 0, .nil, fI 0, fI 0, fI 0, .nil, fl 0, fI 0, fI 0] 51)] [1, 2]) (.seq (.reg [i_P 0 3 1 8, i_L 1 4 3 1, i_X 2 5 (.callA (kF 57) [(.t 4)]), i_P 3 6 1 8, i_S 4 6 5 1] [1, 2]) (.seq (.reg [i_P 0 7 1 0, i_P 1 8 7 0, i_P 2 9 8 4, i_L 3 10 9 1, i_X 4 11 (.callA (kF 92) [(.t 10), (kI 0)]), i_P 5 12 1 0, i_P 6 13 12 0, i_P 7 14 13 4, i_S 8 14 11 1] [1, 2]) (.seq (.reg [i_A 0 15 1 12, i_S 1 2 15 12] [2]) .ret))))
theorem b0B : d6 Tryz.prog 52 = some ⟨16, [(2, (some (12, true)))], b42.strip⟩ := by kernel_rfl
def a9F : CA := (.seq (.seq (.reg [i_M 0 20 10, i_M 1 21 2, i_N 2 22 .lss 20 21, i_M 3 23 22, g_T 4 24 23 (.h (.mov (.t 8))), g_T 5 25 23 (.h (.ibin .eql (.t 24) (kI 0))), i_X 6 26 (.h (.pick (.t 23) (.t 25) (.k (.d (.bool false))))), i_M 7 27 26, g_T 8 28 27 (.h (.mov (.t 7))), g_T 9 29 27 (.h (.nilck (.t 28))), g_T 10 30 27 (.h (.padd (.t 29) 13)), g_T 11 31 27 (.h (.padd (.t 30) 0)), g_T 12 32 27 (.h (.padd (.t 31) 0)), g_T 13 33 27 (.h (.padd (.t 32) 0)), g_T 14 34 27 (.load (.t 33) 1 false), g_T 15 35 27 (.h (.padd (.t 3) 5)), g_T 16 36 27 (.load (.t 35) 1 false), g_T 17 37 27 (.h (.ibin .lss (.t 34) (.t 36))), i_X 18 38 (.h (.pick (.t 27) (.t 37) (.k (.d (.bool false)))))] [2, 3, 6, 7, 8, 9, 10, 38]) (.cond (.t 38) .skip (.exit 0))) (.seq (.block 1 (.reg [i_M 0 41 9, i_X 1 42 (.callA (.t 41) []), i_M 2 8 42] [2, 3, 6, 7, 8, 9, 10])) (.reg [i_M 0 39 10, i_B 1 40 .add 39 1, i_M 2 10 40] [2, 3, 6, 7, 8, 9, 10])))
def b7K : CA := (.seq (.reg [i_X 0 3 (.box (.t 0) 13 33), i_X 1 4 (.box (.t 1) 12 51), i_X 2 6 (.alloc [.nil, fI 0, fI 0, fI 0, fI 0, fI 0, .nil, fI 0, fI 0, fI 0, .nil, fl 0, fI 0, fI 0] 53)] [2, 3, 4, 6]) (.seq (.reg [i_A 0 11 3 13, i_A 1 12 4 12, i_X 2 13 (.callS 2 (kF 52) [(.t 12)]), i_X 3 14 (.h (.build [fI 0, .nil, .nil, .nil, .nil, fI 0, fI 0, fI 0, fl 0, fl 0, fl 0, fI 0, .nil, fI 0, fI 0, fI 0, fI 0, .nil, fI 0, fI 0, fI 0, .nil, fl 0, fI 0, fI 0, .nil] [(0, (13, (.t 11))), (13, (12, (.t 13)))])), i_X 4 15 (.box (.t 14) 26 102), i_M 5 7 15] [2, 3, 6, 7]) (.seq (.reg [i_M 0 16 7, i_X 1 17 (.callA (kF 53) [(.t 16)])] [2, 3, 6, 7]) (.seq (.reg [i_K 0 8 0] [2, 3, 6, 7, 8]) (.seq (.reg [i_M 0 18 7, i_X 1 19 (.h (.mkfn 54 [(.t 18)] [])), i_M 2 9 19] [2, 3, 6, 7, 8, 9]) (.seq (.seq (.reg [i_K 0 10 0] [2, 3, 6, 7, 8, 9, 10]) (.block 0 (.loop a9F))) (.seq (.reg [i_M 0 43 7, i_X 1 44 (.h (.nilck (.t 43))), i_P 2 45 44 25, i_L 3 46 45 1, i_X 4 47 (.callS 0 (kF 55) [(.t 46)]), i_M 5 48 8, i_M 6 49 7, i_X 7 50 (.h (.nilck (.t 49))), i_P 8 51 50 13, i_A 9 52 51 12, i_X 10 53 (.h (.build [.nil, fI 0, fI 0, fI 0, fI 0, fI 0, .nil, fI 0, fI 0, fI 0, .nil, fl 0, fI 0, fI 0] [(0, (1, (.t 47))), (1, (1, (.t 48))), (2, (12, (.t 52)))])), i_S 11 6 53 14] [6]) .ret)))))))
theorem b29 : d6 Tryz.prog 26 = some ⟨54, [(6, (some (14, true)))], b7K.strip⟩ := by kernel_rfl
def a9G : CA := (.seq (.reg [i_X 0 1 (.box (.t 0) 13 33), i_X 1 2 (.alloc [fI 0, fI 0, fI 0, fI 0, .nil, fI 0, fI 0, fI 0, .nil, fl 0, fI 0, fI 0] 51)] [1, 2]) (.seq (.reg [i_P 0 3 1 0, i_A 1 4 3 3, i_P 2 5 1 4, i_L 3 6 5 1, i_P 4 7 1 6, i_L 5 8 7 1, i_X 6 9 (.callS 0 (kF 56) [(.t 4), (.t 6), (.t 8)]), i_X 7 10 (.h (.build [fI 0, fI 0, fI 0, fI 0, .nil, fI 0, fI 0, fI 0] [(0, (5, (.t 9)))])), i_P 8 11 1 4, i_L 9 12 11 1, i_X 10 13 (.callA (kF 57) [(.t 12)]), i_X 11 14 (.h (.build [fI 0, fI 0, fI 0, fI 0, .nil, fI 0, fI 0, fI 0, .nil, fl 0, fI 0, fI 0] [(0, (8, (.t 10))), (8, (1, (.t 13)))])), i_S 12 2 14 12] [2]) .ret))
theorem a7N : d6 Tryz.prog 27 = some ⟨15, [(2, (some (12, true)))], a9G.strip⟩ := by kernel_rfl
abbrev rnV (r : Rn) : V := .agg (rnC r)
def ousG (l : List Ou) (i : Nat) : List D := [.int .i64 (l.getD i ⟨0, [], 0⟩).pos, rowD (l.getD i ⟨0, [], 0⟩).y, .flt (l.getD i ⟨0, [], 0⟩).bound]
abbrev ousD (l : List Ou) : D := .bor l.length (ousG l)
abbrev edC (x : Rn × List Ou × Int) : List V := [.d (ousD x.2.1), fI x.2.2, fI x.1.s.n.pos, fI x.1.s.n.step, fI x.1.s.n.order, fI x.1.s.n.method, .d (f0 x.1.s.n.z), fI x.1.s.good, fI x.1.s.fails, fI x.1.s.slow, .d (rowD x.1.last), fl x.1.bound, fI x.1.att, fI x.1.next]
abbrev edV (x : Rn × List Ou × Int) : V := .agg (edC x)
structure Rok (p : Pb) (r : Rn) : Prop where
 rk : Rk (r.s.n.order.toNat + 1) p.t.n r.s.n.z
 cw : Cw r.s.n.z
 ord : r.s.n.order.toNat < 9
 last : r.last.length = p.t.n
 n : 0 < p.t.n ∧ p.t.n < 2 ^ 39
theorem b51 (p : Pb) (r : Rn) (h : Rok p r) : Con Tryz.prog 52 [rnV r] (rnV r) := by
 have hrk := h.rk
 have hl := h.last
 have hn := h.n
 have ho := h.ord
 refine a3 b0B rfl d5 ?_
 refine evx @b42.eq_1 ?_
 refine a0 (P7 r.last (by omega) (by omega)) rfl ?_
 refine ev ?_
 refine a0 (K6 r.s.n.z (r.s.n.order.toNat + 1) p.t.n hrk (by omega) (by omega) 0 (by decide)) rfl ?_
 rw [a5v hrk h.cw]
 refine ev ?_
 exact d8 rfl (by decide) rfl rfl rfl (by simp) (by simp [ldv, f0, rowD])
theorem c5u (l : List Ou) (i j : Nat) (hi : i < l.length) (hj : j < 3) : (ousC l)[i * 3 + j]? = (ouC (l.getD i ⟨0, [], 0⟩))[j]? := by
 induction l generalizing i with
 | nil => simp at hi
 | cons o l ih =>
  rcases i with _ | i
  ·show (ouC o ++ ousC l)[0 * 3 + j]? = _
   rw [c8W (by show 0 * 3 + j < 3; omega), Nat.zero_mul, Nat.zero_add]; rfl
  ·show (ouC o ++ ousC l)[(i + 1) * 3 + j]? = _
   rw [c8X (by show 3 ≤ (i + 1) * 3 + j; omega)]
   have e : (i + 1) * 3 + j - (ouC o).length = i * 3 + j := by show (i + 1) * 3 + j - 3 = _; omega
   rw [e, ih i (by simpa using hi)]; rfl
theorem c0t (l : List Ou) : ousC l = f4 l.length (ousG l) := by
 have hg : ∀ i, i < l.length → (ousG l i).length = 3 := fun i _ => rfl
 refine List.ext_getElem? fun k => ?_
 by_cases hk : k < l.length * 3
 ·obtain ⟨i, j, hj, rfl⟩ : ∃ i j, j < 3 ∧ k = i * 3 + j := ⟨k / 3, k % 3, by omega, by omega⟩
  have hi : i < l.length := by omega
  have h1 := c5u l i j hi hj
  rw [h1]
  unfold f4
  rw [List.getElem?_map, b6b l.length hg i j hi hj]
  have : j = 0 ∨ j = 1 ∨ j = 2 := by omega
  rcases this with rfl | rfl | rfl <;> rfl
 ·rw [c80 (by rw [b17]; omega), c80 (by rw [p8 _ hg]; omega)]
theorem b3B (L : Heap) (esz n : Nat) (g : Nat → List D) : n4 L esz (.d (.bor n g)) = some (f4 n g) := by simp [n4, f4]
theorem b6z (l : List Ou) (h0 : 0 < l.length) (h1 : l.length < 2 ^ 40) : Con Tryz.prog 55 [.d (ousD l)] (.d (ousD l)) := by
 have hd := p8 l.length (get := ousG l) (esz := 3) fun i _ => rfl
 refine a3 s7 rfl d5 ?_
 refine evx @q8.eq_1 ?_
 refine ⟨h0, ?_⟩
 refine evx (And.intro @b3B @G9) ?_
 refine ⟨⟨by omega, hd, b8Z _ _⟩, ?_⟩
 exact f7 (.sl 0 0 0 l.length 3 (l.length * 3)) (fun _ h => h) (d7 (by decide) rfl) (.d (s8 (fun Y q h => by simp [d9] at h) (by simp [b6]) (fun _ _ => rfl) rfl))
theorem b6y : Con Tryz.prog 55 [.nil] .nil := by
 refine a3 s7 rfl d5 ?_
 refine evx @q8.eq_1 ?_
 exact a4 rfl (by decide) (by simp [look])
theorem b9G (p : Pb) (r : Rn) : (a0X p r).2.1.length + r.next = (a0X p r).1.next := by
 rcases a0g p r with ⟨_, e⟩ | ⟨_, _, e⟩ | ⟨_, _, _, _, e⟩ | ⟨_, _, _, _, _, e⟩ <;> rw [e]
 ·simp
 ·simp
 ·simp
 ·show (G8 _ _ _ _).length + r.next = r.next + (G8 _ _ _ _).length
  omega
theorem b9H (p : Pb) (r : Rn) : (a0X p r).1.att ≤ r.att + 1 := by
 rcases a0g p r with ⟨_, e⟩ | ⟨_, _, e⟩ | ⟨_, _, _, _, e⟩ | ⟨_, _, _, _, _, e⟩ <;> rw [e]
 ·exact Nat.le_succ _
 ·exact c85 _
 ·exact c85 _
 ·exact c85 _
theorem b08 (p : Pb) (r : Rn) (most : Int) (k : Nat) (hp : Pk2 p) (ho : Outs p) (hr : RInv p k r) (hk : k + most.toNat < 100000) (ha : r.att ≤ k) (hm : most < 2 ^ 40) (hy : p.y.length = p.t.n) : Con Tryz.prog 26 [pbV p, rnV r, fI most] (edV (goP p r most.toNat)) := by
 have hok : Rok p r := ⟨hr.s.ok.n.rk, hr.s.ok.n.cw, by have := hr.s.ok.n.m; omega, hr.last, hp.pk.ok.n, by have := hp.n; omega⟩
 have hn3 := hp.n
 have hn0 := hp.pk.ok.n
 refine a3 b29 rfl d5 ?_
 refine evx @b7K.eq_1 ?_
 refine a8 (b51 p r hok) rfl ?_
 refine ev ?_
 refine x0 (b4f p r r hr.next (by have := ho.len; omega) ⟨by omega, by omega⟩) ?_
 refine evx @a2x ?_
 have hgo : goP p r most.toNat = goK p most.toNat (⟨r.s, r.last, r.bound, r.att, r.next + (t0 p r).length⟩, t0 p r, 0) := rfl
 have hfl := a8V p r
 have hfn : r.next + (t0 p r).length ≤ p.outs.length := by
  unfold t0
  split
  ·rw [List.length_map]
   have h1 := (List.takeWhile_prefix (l := p.outs.drop r.next) fun a => decide (a = 0)).length_le
   rw [List.length_drop] at h1
   have := hr.next
   omega
  ·exact hr.next
 have hr0 : RInv p k ⟨r.s, r.last, r.bound, r.att, r.next + (t0 p r).length⟩ := ⟨hr.s, hr.last, hr.bound, hfn⟩
 rw [hgo]
 generalize t0 p r = T0 at hfl hr0 ⊢
 generalize hR0 : (⟨r.s, r.last, r.bound, r.att, r.next + T0.length⟩ : Rn) = R0 at hr0 ⊢
 have ha0 : R0.att ≤ k := by rw [← hR0]; exact ha
 generalize hm2 : most.toNat = m at hk ⊢
 generalize hfin : goK p m (R0, T0, 0) = fin
 refine WA.mono (Q := fun e t => ∃ w8 w10 w38, fin.2.1.length < 2 ^ 40 ∧ e = Ex.exit 0 ∧ t = ⟨[(2, fI most), (3, .ptr 0 0 0 13), (6, .ptr 2 0 0 14), (7, .ptr 7 0 0 26), (8, fI fin.2.2), w8, w10, w38], goH p fin.1 fin.2.1⟩) ?_ ?_
 ·refine f9 (n := m) (fun c t => ∃ (j : Nat) (x : Rn × List Ou × Int), c + j = m ∧ RInv p (k + j) x.1 ∧ x.1.att ≤ k + j ∧ x.2.1.length ≤ p.outs.length + x.1.next ∧ goK p c x = fin ∧ t = ⟨[(2, fI most), (3, .ptr 0 0 0 13), (6, .ptr 2 0 0 14), (7, .ptr 7 0 0 26), (8, fI x.2.2), (9, .fn 54 [.ptr 7 0 0 26] []), (10, fI j)], goH p x.1 x.2.1⟩)
   (LeT.only (L' := goH p R0 T0) (fun X => X != 1) (fun _ h => h) rfl (by simp [kpS]) (by simp (maxDischargeDepth := 6) [kpS, b4, b7, L4, a0M])) ⟨0, (R0, T0, 0), by omega, hr0, by omega, by simp only; omega, hfin, rfl⟩ ?_
  rintro c t ⟨j, ⟨x1, x2, x3⟩, hc, hx, hxa, hxl, hxf, rfl⟩
  refine evx @a9F.eq_1 ?_
  have hnx := hx.next
  simp only at hxa hxl hnx
  have stop : (¬ (x3 = 0 ∧ x1.s.n.pos < p.fin) ∨ c = 0) → fin = (x1, x2, x3) := fun h => by
   rw [← hxf]
   rcases c with _ | c
   ·rfl
   ·rw [goK, if_neg (h.resolve_right (by omega))]
  by_cases hj : (j : Int) < most
  ·rw [decide_eq_true hj]
   refine ev ?_
   by_cases h3 : x3 = 0
   ·have h3b : (x3 == 0) = true := by simpa using h3
    refine evx h3b ?_
    by_cases hp4 : x1.s.n.pos < p.fin
    ·have hp4b : decide (x1.s.n.pos < p.fin) = true := decide_eq_true hp4
     refine evx hp4b ?_
     obtain ⟨c, rfl⟩ : ∃ c', c = c' + 1 := ⟨c - 1, by omega⟩
     have wj : IntKind.i64.wrap ((j : Int) + 1) = ((j + 1 : Nat) : Int) := by rw [b9 (by omega) (by omega)]; omega
     refine x0 (b0c p x1 x2 (k + j) hp ho hx (by omega) (by have := ho.len; omega) (by omega)) ?_
     refine evx wj ?_
     have hst := b9F hp hx (show k + j < 100000 by omega)
     have hsl := b9G p x1
     have hsa := b9H p x1
     rw [goK, if_pos ⟨h3, hp4⟩] at hxf
     exact ⟨c, _, by omega, Le.refl _, j + 1, ((a0X p x1).1, x2 ++ (a0X p x1).2.1, (a0X p x1).2.2), by omega, by rw [← Nat.add_assoc]; exact hst, by simp only; omega, by simp only [List.length_append]; omega, hxf, rfl⟩
    ·have hp4b : decide (x1.s.n.pos < p.fin) = false := decide_eq_false hp4
     refine evx hp4b ?_
     rw [stop (.inl fun h => hp4 h.2)]
     exact ⟨_, _, _, by simp only; have := ho.len; omega, rfl⟩
   ·have h3b : (x3 == 0) = false := by simpa using h3
    refine evx h3b ?_
    rw [stop (.inl fun h => h3 h.1)]
    exact ⟨_, _, _, by simp only; have := ho.len; omega, rfl⟩
  ·rw [decide_eq_false hj]
   refine ev ?_
   rw [stop (.inr (by omega))]
   exact ⟨_, _, _, by simp only; have := ho.len; omega, rfl⟩
 ·rintro e t ⟨w8, w10, w38, hlen, rfl, rfl⟩
  obtain ⟨f1, f2, f3⟩ := fin
  obtain ⟨i8, v8⟩ := w8
  obtain ⟨i10, v10⟩ := w10
  obtain ⟨i38, v38⟩ := w38
  by_cases h0 : f2 = []
  ·subst h0
   refine ⟨⟨[(2, fI most), (3, .ptr 0 0 0 13), (6, .ptr 2 0 0 14), (7, .ptr 7 0 0 26), (8, fI f3), (i8, v8), (i10, v10), (i38, v38)], goH p f1 []⟩, Le.refl _, ?_⟩
   rw [goH, b5K, b5J]
   refine ev ?_
   refine a8 (b6y) rfl ?_
   refine ev ?_
   exact f7 (.agg (.nil :: (edC (f1, [], f3)).tail)) (fun _ h => h) (f5 (by decide) rfl rfl rfl (by simp) rfl) (y3 _ _ ⟨.d (.nil _), Fz_d _, Fz_d _, Fz_d _, Fz_d _, Fz_d _, Fz_d _, Fz_d _, Fz_d _, Fz_d _, Fz_d _, Fz_d _, Fz_d _, Fz_d _, trivial⟩)
  ·have hlen : f2.length < 2 ^ 40 := hlen
   have hF : Fz (goH p f1 f2) [(7, [slC p f1 (.d (ousD f2))]), (2, [endC])] (osV f2) (.d (.bor f2.length (ousG f2))) := by
    rw [b0Y h0]
    exact .d (s8 (fun Y q h e => by cases e; exact h (by simp [b6, d9])) (by rw [goH, b0Z h0, c0t]; simp [b6]) (fun _ _ => rfl) rfl)
   refine ⟨⟨[(2, .any), (3, .any), (6, .ptr 2 0 0 14), (7, .ptr 7 0 0 26), (8, fI f3), (i8, .any), (i10, .any), (i38, .any)], [(7, [slC p f1 (.d (ousD f2))]), (2, [endC])]⟩, LeT.weak (fun _ h => h) ?_ ?_, ?_⟩
   ·exact (by simp (maxDischargeDepth := 6) [fzS])
   ·exact (by simp (maxDischargeDepth := 6) [fzS, hF])
   ·refine ev ?_
    refine a8 (b6z f2 (List.length_pos_iff.2 h0) hlen) rfl ?_
    refine ev ?_
    exact f7 (.agg (edC (f1, f2, f3))) (fun _ h => h) (f5 (by decide) rfl rfl rfl (by simp) rfl) (y3 _ _ ⟨Fz_d _, Fz_d _, Fz_d _, Fz_d _, Fz_d _, Fz_d _, Fz_d _, Fz_d _, Fz_d _, Fz_d _, Fz_d _, Fz_d _, Fz_d _, Fz_d _, trivial⟩)
theorem a4E (p : Pb) (hp : Pk p) : Con Tryz.prog 27 [pbV p] (rnV (r8 p)) := by
 obtain ⟨a, ha, hfa⟩ := hp.fst
 have hst := H7 p.t p.y a hp.ok.t hp.yl (by omega)
 have hn := hp.ok.n
 have hn2 := hp.ok.t.n
 have hyl := hp.yl
 refine a3 a7N rfl d5 ?_
 refine evx @a9G.eq_1 ?_
 rw [hfa]
 refine a8 (hst) rfl ?_
 refine ev ?_
 refine a0 (P7 p.y (by omega) (by omega)) rfl ?_
 refine ev ?_
 have e : r8 p = ⟨⟨⟨0, p.first, 1, 0, a08 p.t p.y (hW (2 ^ a))⟩, 0, 0, 0⟩, p.y, 0, 0, 0⟩ := by
  unfold r8 a6A; rw [hfa, Int.toNat_natCast]
 rw [e, hfa]
 exact d8 rfl (by decide) rfl rfl rfl (by simp) (by simp [ldv, f0, rowD])
def a44 : CA := (.seq (.reg [i_X 0 4 (.h (.mov (.k (.d (.bool false)))))] [0, 1]) (.seq (.reg [i_M 0 5 0, i_B 1 6 .geq 5 0, i_M 2 7 6, g_T 3 8 7 (.h (.mov (.t 0))), g_T 4 9 7 (.h (.mov (.t 1))), g_T 5 10 7 (.h (.ibin .lss (.t 8) (.t 9))), i_X 6 11 (.h (.pick (.t 7) (.t 10) (.k (.d (.bool false))))), i_M 7 4 11] [4]) .ret))
theorem a43 : d6 Tryz.prog 81 = some ⟨12, [(4, none)], a44.strip⟩ := by kernel_rfl
def b4R : CA := (.seq (.reg [i_X 0 3 (.box (.t 0) 4 81), i_X 1 6 (.h (.mov (.k (.d (.bool false)))))] [1, 2, 3]) (.seq (.seq (.reg [i_P 0 7 3 0, i_L 1 8 7 1] [1, 2, 3, 8]) (.block 0 (.seq (.reg [i_B 0 10 .eql 8 0, i_M 1 9 10] [1, 2, 3, 8, 9]) (.cond (.t 9) (.seq (.reg [i_P 0 11 3 3, i_L 1 12 11 1, i_X 2 13 (.callA (kF 83) [(.t 12)]), i_M 3 14 13, g_T 4 15 14 (.h (.padd (.t 3) 1)), g_T 5 16 14 (.load (.t 15) 1 false), g_T 6 17 14 (.h (.ibin .eql (.t 16) (kI 0))), i_X 7 18 (.h (.pick (.t 14) (.t 17) (.k (.d (.bool false))))), i_M 8 19 18, g_T 9 20 19 (.h (.padd (.t 3) 2)), g_T 10 21 19 (.load (.t 20) 1 false), g_T 11 22 19 (.h (.ibin .eql (.t 21) (kI 0))), i_X 12 23 (.h (.pick (.t 19) (.t 22) (.k (.d (.bool false))))), i_M 13 6 23] [6]) .ret) (.seq (.reg [i_B 0 25 .eql 8 1, i_M 1 24 25] [1, 2, 3, 8, 24]) (.cond (.t 24) (.seq (.reg [i_P 0 26 3 1, i_L 1 27 26 1, i_M 2 28 2, i_X 3 29 (.callA (kF 81) [(.t 27), (.t 28)]), i_M 4 30 29, g_T 5 31 30 (.h (.padd (.t 3) 2)), g_T 6 32 30 (.load (.t 31) 1 false), g_T 7 33 30 (.h (.ibin .eql (.t 32) (kI 0))), i_X 8 34 (.h (.pick (.t 30) (.t 33) (.k (.d (.bool false))))), i_M 9 35 34, g_T 10 36 35 (.h (.padd (.t 3) 3)), g_T 11 37 35 (.load (.t 36) 1 false), g_T 12 38 35 (.h (.fcmp .eq (.t 37) (.k (.d (.flt 0))))), i_X 13 39 (.h (.pick (.t 35) (.t 38) (.k (.d (.bool false))))), i_M 14 6 39] [6]) .ret) (.seq (.seq (.reg [i_B 0 41 .eql 8 2, i_M 1 40 41] [1, 3, 8, 40]) (.cond (.t 40) .skip (.seq (.reg [i_B 0 42 .eql 8 3, i_M 1 40 42] [1, 3, 8, 40]) (.cond (.t 40) .skip (.seq (.reg [i_B 0 43 .eql 8 4, i_M 1 40 43] [1, 3, 8, 40]) (.cond (.t 40) .skip (.reg [i_B 0 44 .eql 8 5, i_M 1 40 44] [1, 3, 40]))))))) (.cond (.t 40) (.seq (.reg [i_P 0 45 3 1, i_L 1 46 45 1, i_M 2 47 1, i_X 3 48 (.callA (kF 81) [(.t 46), (.t 47)]), i_M 4 49 48, g_T 5 50 49 (.h (.padd (.t 3) 2)), g_T 6 51 49 (.load (.t 50) 1 false), g_T 7 52 49 (.h (.mov (.t 1))), g_T 8 53 49 (.callA (kF 81) [(.t 51), (.t 52)]), i_X 9 54 (.h (.pick (.t 49) (.t 53) (.k (.d (.bool false))))), i_M 10 55 54, g_T 11 56 55 (.h (.padd (.t 3) 3)), g_T 12 57 55 (.load (.t 56) 1 false), g_T 13 58 55 (.h (.fcmp .eq (.t 57) (.k (.d (.flt 0))))), i_X 14 59 (.h (.pick (.t 55) (.t 58) (.k (.d (.bool false))))), i_M 15 6 59] [6]) .ret) .skip)))))))) (.seq (.reg [i_X 0 6 (.h (.mov (.k (.d (.bool false)))))] [6]) .ret)))
theorem b0s : d6 Tryz.prog 80 = some ⟨60, [(6, none)], b4R.strip⟩ := by kernel_rfl
def a1F : CA := (.seq (.reg [i_N 0 32 .lss 31 30] [1, 29, 30, 31, 32]) (.seq (.cond (.t 32) .skip (.exit 0)) (.seq (.block 1 (.seq (.reg [i_M 0 33 31, i_I 1 34 29 31 4, i_A 2 35 34 4, i_X 3 4 (.alloc [fI 0, fI 0, fI 0, fl 0] 81), i_M 4 3 33, i_S 5 4 35 4] [1, 3, 4, 29, 30, 31]) (.seq (.reg [i_A 0 36 4 4, i_M 1 37 3, i_P 2 38 1 0, i_L 3 39 38 1, i_X 4 40 (.callA (kF 80) [(.t 36), (.t 37), (.t 39)]), i_X 5 41 (.h (.un .not (.t 40)))] [1, 29, 30, 31, 41]) (.cond (.t 41) (.seq (.reg [i_X 0 2 (.h (.mov (.k (.d (.bool false)))))] [2]) .ret) .skip)))) (.reg [i_B 0 42 .add 31 1, i_M 1 31 42] [1, 29, 30, 31]))))
def a1E : CA := (.seq (.reg [i_N 0 46 .lss 45 44] [1, 44, 45, 46]) (.seq (.cond (.t 46) .skip (.exit 2)) (.seq (.block 3 (.seq (.reg [i_M 0 47 45, i_M 1 5 47] [1, 5, 44, 45]) (.seq (.reg [i_P 0 48 1 2, i_L 1 49 48 1, i_M 2 50 5, i_I 3 51 49 50 1, i_L 4 52 51 1, i_P 5 53 1 1, i_L 6 54 53 1, i_X 7 55 (.h (.len (.t 54))), i_X 8 56 (.callA (kF 81) [(.t 52), (.t 55)]), i_X 9 57 (.h (.un .not (.t 56)))] [1, 44, 45, 57]) (.cond (.t 57) (.seq (.reg [i_X 0 2 (.h (.mov (.k (.d (.bool false)))))] [2]) .ret) .skip)))) (.reg [i_B 0 58 .add 45 1, i_M 1 45 58] [1, 44, 45]))))
def a1G : CA := (.seq (.reg [i_X 0 1 (.box (.t 0) 3 28), i_X 1 2 (.h (.mov (.k (.d (.bool false)))))] [1]) (.seq (.seq (.reg [i_P 0 6 1 0, i_L 1 7 6 1, i_B 2 8 .lss 7 1, i_M 3 9 8, g_F 4 10 9 (.h (.padd (.t 1) 0)), g_F 5 11 9 (.load (.t 10) 1 false), g_F 6 12 9 (.h (.ibin .gtr (.t 11) (kI 4))), i_X 7 13 (.h (.pick (.t 9) (.k (.d (.bool true))) (.t 12))), i_M 8 14 13, g_F 9 15 14 (.h (.padd (.t 1) 1)), g_F 10 16 14 (.load (.t 15) 1 false), g_F 11 17 14 (.h (.len (.t 16))), g_F 12 18 14 (.h (.ibin .gtr (.t 17) (kI 60))), i_X 13 19 (.h (.pick (.t 14) (.k (.d (.bool true))) (.t 18))), i_M 14 20 19, g_F 15 21 20 (.h (.padd (.t 1) 2)), g_F 16 22 20 (.load (.t 21) 1 false), g_F 17 23 20 (.h (.len (.t 22))), g_F 18 24 20 (.h (.padd (.t 1) 0)), g_F 19 25 20 (.load (.t 24) 1 false), g_F 20 26 20 (.h (.ibin .neq (.t 23) (.t 25))), i_X 21 27 (.h (.pick (.t 20) (.k (.d (.bool true))) (.t 26)))] [1, 27]) (.cond (.t 27) (.seq (.reg [i_X 0 2 (.h (.mov (.k (.d (.bool false)))))] [2]) .ret) .skip)) (.seq (.seq (.reg [i_P 0 28 1 1, i_L 1 29 28 1, i_X 2 30 (.h (.len (.t 29))), i_K 3 31 0] [1, 29, 30, 31]) (.block 0 (.loop a1F))) (.seq (.seq (.reg [i_P 0 43 1 0, i_L 1 44 43 1, i_K 2 45 0] [1, 44, 45]) (.block 2 (.loop a1E))) (.seq (.reg [i_X 0 2 (.h (.mov (.k (.d (.bool true)))))] [2]) .ret)))))
theorem Y2 : d6 Tryz.prog 39 = some ⟨59, [(2, none)], a1G.strip⟩ := by kernel_rfl
def a9D : CA := (.seq (.reg [i_X 0 2 (.h (.mov (.k (.d (.bool false)))))] [0]) (.seq (.reg [i_M 0 3 0, i_B 1 4 .geq 3 1, i_M 2 5 4, g_T 3 6 5 (.h (.mov (.t 0))), g_T 4 7 5 (.h (.ibin .leq (.t 6) (kI 4294967296))), i_X 5 8 (.h (.pick (.t 5) (.t 7) (.k (.d (.bool false))))), i_M 6 9 8, g_T 7 10 9 (.h (.mov (.t 0))), g_T 8 11 9 (.h (.mov (.t 0))), g_T 9 12 9 (.h (.ibin .sub (.t 11) (kI 1))), g_T 10 13 9 (.h (.ibin .and (.t 10) (.t 12))), g_T 11 14 9 (.h (.ibin .eql (.t 13) (kI 0))), i_X 12 15 (.h (.pick (.t 9) (.t 14) (.k (.d (.bool false))))), i_M 13 2 15] [2]) .ret))
theorem a7L : d6 Tryz.prog 85 = some ⟨16, [(2, none)], a9D.strip⟩ := by kernel_rfl
def Z0 : CA := (.seq (.reg [i_X 0 3 (.box (.t 0) 13 89), i_X 1 5 (.box (.t 2) 2 83), i_X 2 6 (.h (.mov (.k (.d (.bool false)))))] [1, 3, 5]) (.seq (.reg [i_A 0 7 5 2, i_X 1 8 (.callA (kF 82) [(.t 7)]), i_M 2 9 8, g_T 3 10 9 (.h (.padd (.t 5) 0)), g_T 4 11 9 (.load (.t 10) 1 false), g_T 5 12 9 (.callA (kF 83) [(.t 11)]), i_X 6 13 (.h (.pick (.t 9) (.t 12) (.k (.d (.bool false))))), i_M 7 14 13, g_T 8 15 14 (.h (.padd (.t 5) 1)), g_T 9 16 14 (.load (.t 15) 1 false), g_T 10 17 14 (.callA (kF 83) [(.t 16)]), i_X 11 18 (.h (.pick (.t 14) (.t 17) (.k (.d (.bool false))))), i_M 12 19 18, g_T 13 20 19 (.h (.padd (.t 3) 0)), g_T 14 21 19 (.h (.padd (.t 20) 4)), g_T 15 22 19 (.load (.t 21) 1 false), g_T 16 23 19 (.h (.mov (.t 1))), g_T 17 24 19 (.h (.idx (.t 22) (.t 23) 1)), g_T 18 25 19 (.load (.t 24) 1 false), g_T 19 26 19 (.load (.t 5) 2 true), g_T 20 27 19 (.callA (kF 84) [(.t 25), (.t 26)]), i_X 21 28 (.h (.pick (.t 19) (.t 27) (.k (.d (.bool false))))), i_M 22 6 28] [6]) .ret))
theorem a02 : d6 Tryz.prog 41 = some ⟨29, [(6, none)], Z0.strip⟩ := by kernel_rfl
def Y9 : CA := (.seq (.reg [i_X 0 3 (.box (.t 0) 13 89), i_X 1 6 (.h (.mov (.k (.d (.bool false)))))] [1, 2, 3]) (.seq (.reg [i_M 0 7 2, i_B 1 8 .geq 7 0, i_M 2 9 8, g_T 3 10 9 (.h (.mov (.t 2))), g_T 4 11 9 (.h (.padd (.t 3) 0)), g_T 5 12 9 (.h (.padd (.t 11) 5)), g_T 6 13 9 (.load (.t 12) 1 false), g_T 7 14 9 (.h (.ibin .leq (.t 10) (.t 13))), i_X 8 15 (.h (.pick (.t 9) (.t 14) (.k (.d (.bool false))))), i_M 9 16 15, g_T 10 17 16 (.h (.mov (.t 1))), g_T 11 18 16 (.h (.ibin .eql (.t 17) (kI 0))), g_T 12 19 16 (.h (.mov (.t 18))), g_F 13 20 19 (.h (.padd (.t 3) 0)), g_F 14 21 19 (.h (.padd (.t 20) 12)), g_F 15 22 19 (.load (.t 21) 1 false), g_F 16 23 19 (.h (.mov (.t 1))), g_F 17 24 19 (.h (.ibin .sub (.t 23) (kI 1))), g_F 18 25 19 (.h (.idx (.t 22) (.t 24) 1)), g_F 19 26 19 (.load (.t 25) 1 false), g_F 20 27 19 (.h (.mov (.t 2))), g_F 21 28 19 (.h (.ibin .leq (.t 26) (.t 27))), g_T 22 29 16 (.h (.pick (.t 19) (.k (.d (.bool true))) (.t 28))), i_X 23 30 (.h (.pick (.t 16) (.t 29) (.k (.d (.bool false))))), i_M 24 6 30] [6]) .ret))
theorem a01 : d6 Tryz.prog 45 = some ⟨31, [(6, none)], Y9.strip⟩ := by kernel_rfl
def Q1 : CA := (.seq (.reg [i_X 0 1 (.box (.t 0) 13 89), i_X 1 2 (.h (.mov (.k (.d (.bool false)))))] [1]) (.seq (.reg [i_P 0 4 1 0, i_A 1 5 4 13, i_X 2 3 (.alloc [fI 0, .nil, .nil, .nil, .nil, fI 0, fI 0, fI 0, fl 0, fl 0, fl 0, fI 0, .nil] 33), i_S 3 3 5 13] [3]) (.seq (.reg [i_P 0 6 3 5, i_L 1 7 6 1, i_B 2 8 .geq 7 1, i_M 3 9 8, g_T 4 10 9 (.h (.padd (.t 3) 5)), g_T 5 11 9 (.load (.t 10) 1 false), g_T 6 12 9 (.h (.ibin .leq (.t 11) (kI 1099511627776))), i_X 7 13 (.h (.pick (.t 9) (.t 12) (.k (.d (.bool false))))), i_M 8 14 13, g_T 9 15 14 (.h (.padd (.t 3) 6)), g_T 10 16 14 (.load (.t 15) 1 false), g_T 11 17 14 (.callA (kF 85) [(.t 16)]), i_X 12 18 (.h (.pick (.t 14) (.t 17) (.k (.d (.bool false))))), i_M 13 19 18, g_T 14 20 19 (.h (.padd (.t 3) 7)), g_T 15 21 19 (.load (.t 20) 1 false), g_T 16 22 19 (.callA (kF 85) [(.t 21)]), i_X 17 23 (.h (.pick (.t 19) (.t 22) (.k (.d (.bool false))))), i_M 18 24 23, g_T 19 25 24 (.h (.padd (.t 3) 7)), g_T 20 26 24 (.load (.t 25) 1 false), g_T 21 27 24 (.h (.padd (.t 3) 6)), g_T 22 28 24 (.load (.t 27) 1 false), g_T 23 29 24 (.h (.ibin .leq (.t 26) (.t 28))), i_X 24 30 (.h (.pick (.t 24) (.t 29) (.k (.d (.bool false))))), i_M 25 31 30, g_T 26 32 31 (.h (.padd (.t 3) 11)), g_T 27 33 31 (.load (.t 32) 1 false), g_T 28 34 31 (.h (.ibin .geq (.t 33) (kI 1))), i_X 29 35 (.h (.pick (.t 31) (.t 34) (.k (.d (.bool false))))), i_M 30 36 35, g_T 31 37 36 (.h (.padd (.t 3) 11)), g_T 32 38 36 (.load (.t 37) 1 false), g_T 33 39 36 (.h (.ibin .leq (.t 38) (kI 10000))), i_X 34 40 (.h (.pick (.t 36) (.t 39) (.k (.d (.bool false))))), i_M 35 2 40] [2]) .ret)))
theorem Y8 : d6 Tryz.prog 42 = some ⟨41, [(2, none)], Q1.strip⟩ := by kernel_rfl
def M1 : CA := (.seq (.reg [i_X 0 1 (.box (.t 0) 13 89), i_X 1 2 (.h (.mov (.k (.d (.bool false)))))] [1]) (.seq (.reg [i_P 0 4 1 0, i_A 1 5 4 13, i_X 2 3 (.alloc [fI 0, .nil, .nil, .nil, .nil, fI 0, fI 0, fI 0, fl 0, fl 0, fl 0, fI 0, .nil] 33), i_S 3 3 5 13] [3]) (.seq (.reg [i_P 0 6 3 8, i_L 1 7 6 1, i_X 2 8 (.callA (kF 83) [(.t 7)]), i_M 3 9 8, g_T 4 10 9 (.h (.padd (.t 3) 8)), g_T 5 11 9 (.load (.t 10) 1 false), g_T 6 12 9 (.h (.fcmp .gt (.t 11) (.k (.d (.flt 0))))), i_X 7 13 (.h (.pick (.t 9) (.t 12) (.k (.d (.bool false))))), i_M 8 14 13, g_T 9 15 14 (.h (.padd (.t 3) 9)), g_T 10 16 14 (.load (.t 15) 1 false), g_T 11 17 14 (.callA (kF 83) [(.t 16)]), i_X 12 18 (.h (.pick (.t 14) (.t 17) (.k (.d (.bool false))))), i_M 13 19 18, g_T 14 20 19 (.h (.padd (.t 3) 9)), g_T 15 21 19 (.load (.t 20) 1 false), g_T 16 22 19 (.h (.fcmp .ge (.t 21) (.k (.d (.flt 0))))), i_X 17 23 (.h (.pick (.t 19) (.t 22) (.k (.d (.bool false))))), i_M 18 24 23, g_T 19 25 24 (.h (.padd (.t 3) 10)), g_T 20 26 24 (.load (.t 25) 1 false), g_T 21 27 24 (.callA (kF 83) [(.t 26)]), i_X 22 28 (.h (.pick (.t 24) (.t 27) (.k (.d (.bool false))))), i_M 23 29 28, g_T 24 30 29 (.h (.padd (.t 3) 10)), g_T 25 31 29 (.load (.t 30) 1 false), g_T 26 32 29 (.h (.fcmp .gt (.t 31) (.k (.d (.flt 0))))), i_X 27 33 (.h (.pick (.t 29) (.t 32) (.k (.d (.bool false))))), i_M 28 2 33] [2]) .ret)))
theorem W6 : d6 Tryz.prog 43 = some ⟨34, [(2, none)], M1.strip⟩ := by kernel_rfl
def F8 : CA := (.seq (.reg [i_N 0 10 .lss 9 8] [1, 7, 8, 9, 10]) (.seq (.cond (.t 10) .skip (.exit 0)) (.seq (.block 1 (.seq (.reg [i_M 0 11 9, i_I 1 12 7 9 2, i_A 2 13 12 2, i_X 3 6 (.alloc [fl 0, fl 0] 83), i_M 4 5 11, i_S 5 6 13 2] [1, 5, 6, 7, 8, 9]) (.seq (.reg [i_M 0 14 1, i_M 1 15 5, i_A 2 16 6 2, i_X 3 17 (.callA (.t 14) [(.t 15), (.t 16)]), i_X 4 18 (.h (.un .not (.t 17)))] [1, 7, 8, 9, 18]) (.cond (.t 18) (.seq (.reg [i_X 0 4 (.h (.mov (.k (.d (.bool false)))))] [4]) .ret) .skip)))) (.reg [i_B 0 19 .add 9 1, i_M 1 9 19] [1, 7, 8, 9]))))
def M3 : CA := (.seq (.reg [i_X 0 4 (.h (.mov (.k (.d (.bool false)))))] [0, 1]) (.seq (.seq (.reg [i_M 0 7 0, i_X 1 8 (.h (.len (.t 7))), i_K 2 9 0] [1, 7, 8, 9]) (.block 0 (.loop F8))) (.seq (.reg [i_X 0 4 (.h (.mov (.k (.d (.bool true)))))] [4]) .ret)))
theorem W7 : d6 Tryz.prog 40 = some ⟨20, [(4, none)], M3.strip⟩ := by kernel_rfl
def M2 : CA := (.seq (.reg [i_N 0 10 .lss 9 8] [1, 7, 8, 9, 10]) (.seq (.cond (.t 10) .skip (.exit 0)) (.seq (.block 1 (.seq (.reg [i_M 0 11 9, i_I 1 12 7 9 1, i_L 2 13 12 1, i_M 3 5 11, i_M 4 6 13] [1, 5, 6, 7, 8, 9]) (.seq (.reg [i_M 0 14 1, i_M 1 15 5, i_M 2 16 6, i_X 3 17 (.callA (.t 14) [(.t 15), (.t 16)]), i_X 4 18 (.h (.un .not (.t 17)))] [1, 7, 8, 9, 18]) (.cond (.t 18) (.seq (.reg [i_X 0 4 (.h (.mov (.k (.d (.bool false)))))] [4]) .ret) .skip)))) (.reg [i_B 0 19 .add 9 1, i_M 1 9 19] [1, 7, 8, 9]))))
def Z1 : CA := (.seq (.reg [i_X 0 4 (.h (.mov (.k (.d (.bool false)))))] [0, 1]) (.seq (.seq (.reg [i_M 0 7 0, i_X 1 8 (.h (.len (.t 7))), i_K 2 9 0] [1, 7, 8, 9]) (.block 0 (.loop M2))) (.seq (.reg [i_X 0 4 (.h (.mov (.k (.d (.bool true)))))] [4]) .ret)))
theorem a03 : d6 Tryz.prog 44 = some ⟨20, [(4, none)], Z1.strip⟩ := by kernel_rfl
def a38 : CA := (.seq (.reg [i_X 0 1 (.box (.t 0) 13 33), i_X 1 2 (.h (.mov (.k (.d (.bool false)))))] [1]) (.seq (.seq (.reg [i_P 0 4 1 0, i_A 1 5 4 3, i_X 2 6 (.callA (kF 39) [(.t 5)]), i_X 3 7 (.h (.un .not (.t 6))), i_M 4 8 7, g_F 5 9 8 (.h (.padd (.t 1) 3)), g_F 6 10 8 (.load (.t 9) 1 false), g_F 7 11 8 (.h (.len (.t 10))), g_F 8 12 8 (.h (.padd (.t 1) 0)), g_F 9 13 8 (.h (.padd (.t 12) 0)), g_F 10 14 8 (.load (.t 13) 1 false), g_F 11 15 8 (.h (.ibin .neq (.t 11) (.t 14))), i_X 12 16 (.h (.pick (.t 8) (.k (.d (.bool true))) (.t 15))), i_M 13 17 16, g_F 14 18 17 (.h (.padd (.t 1) 4)), g_F 15 19 17 (.load (.t 18) 1 false), g_F 16 20 17 (.h (.len (.t 19))), g_F 17 21 17 (.h (.padd (.t 1) 0)), g_F 18 22 17 (.h (.padd (.t 21) 0)), g_F 19 23 17 (.load (.t 22) 1 false), g_F 20 24 17 (.h (.ibin .neq (.t 20) (.t 23))), i_X 21 25 (.h (.pick (.t 17) (.k (.d (.bool true))) (.t 24))), i_M 22 26 25, g_F 23 27 26 (.h (.padd (.t 1) 12)), g_F 24 28 26 (.load (.t 27) 1 false), g_F 25 29 26 (.h (.len (.t 28))), g_F 26 30 26 (.h (.ibin .gtr (.t 29) (kI 1000))), i_X 27 31 (.h (.pick (.t 26) (.k (.d (.bool true))) (.t 30)))] [1, 31]) (.cond (.t 31) (.seq (.reg [i_X 0 2 (.h (.mov (.k (.d (.bool false)))))] [2]) .ret) .skip)) (.seq (.reg [i_A 0 32 1 13, i_X 1 33 (.h (.build [fI 0, .nil, .nil, .nil, .nil, fI 0, fI 0, fI 0, fl 0, fl 0, fl 0, fI 0, .nil] [(0, (13, (.t 32)))])), i_X 2 3 (.alloc [fI 0, .nil, .nil, .nil, .nil, fI 0, fI 0, fI 0, fl 0, fl 0, fl 0, fI 0, .nil] 89), i_S 3 3 33 13] [1, 3]) (.seq (.reg [i_P 0 34 1 3, i_L 1 35 34 1, i_A 2 36 3 13, i_X 3 37 (.h (.mkfn 41 [(.t 36)] [])), i_X 4 38 (.callA (kF 40) [(.t 35), (.t 37)]), i_M 5 39 38, g_T 6 40 39 (.load (.t 3) 13 true), g_T 7 41 39 (.callA (kF 42) [(.t 40)]), i_X 8 42 (.h (.pick (.t 39) (.t 41) (.k (.d (.bool false))))), i_M 9 43 42, g_T 10 44 43 (.load (.t 3) 13 true), g_T 11 45 43 (.callA (kF 43) [(.t 44)]), i_X 12 46 (.h (.pick (.t 43) (.t 45) (.k (.d (.bool false))))), i_M 13 47 46, g_T 14 48 47 (.h (.padd (.t 1) 12)), g_T 15 49 47 (.load (.t 48) 1 false), g_T 16 50 47 (.load (.t 3) 13 true), g_T 17 51 47 (.h (.mkfn 45 [(.t 50)] [])), g_T 18 52 47 (.callA (kF 44) [(.t 49), (.t 51)]), i_X 19 53 (.h (.pick (.t 47) (.t 52) (.k (.d (.bool false))))), i_M 20 2 53] [2]) .ret))))
theorem a0U : d6 Tryz.prog 18 = some ⟨54, [(2, none)], a38.strip⟩ := by kernel_rfl
def a37 : CA := (.seq (.reg [i_X 0 1 (.box (.t 0) 13 33), i_X 1 2 (.alloc [.nil, fI 0, fI 0, fI 0, fI 0, fI 0, .nil, fI 0, fI 0, fI 0, .nil, fl 0, fI 0, fI 0] 53)] [1, 2]) (.seq (.seq (.reg [i_A 0 4 1 13, i_X 1 5 (.callA (kF 18) [(.t 4)]), i_X 2 6 (.h (.un .not (.t 5)))] [1, 2, 6]) (.cond (.t 6) (.seq (.reg [i_X 0 7 (.h (.build [.nil, fI 0, fI 0, fI 0, fI 0, fI 0, .nil, fI 0, fI 0, fI 0, .nil, fl 0, fI 0, fI 0] [(1, (1, (kI 1)))])), i_S 1 2 7 14] [2]) .ret) .skip)) (.seq (.reg [i_A 0 8 1 13, i_A 1 9 1 13, i_X 2 10 (.callS 2 (kF 27) [(.t 9)]), i_P 3 11 1 11, i_L 4 12 11 1, i_X 5 13 (.callS 0 (kF 26) [(.t 8), (.t 10), (.t 12)]), i_X 6 3 (.alloc [.nil, fI 0, fI 0, fI 0, fI 0, fI 0, .nil, fI 0, fI 0, fI 0, .nil, fl 0, fI 0, fI 0] 53), i_S 7 3 13 14] [1, 2, 3]) (.seq (.seq (.reg [i_P 0 14 3 1, i_L 1 15 14 1, i_B 2 16 .eql 15 0, i_M 3 17 16, g_T 4 18 17 (.h (.padd (.t 3) 2)), g_T 5 19 17 (.h (.padd (.t 18) 0)), g_T 6 20 17 (.h (.padd (.t 19) 0)), g_T 7 21 17 (.h (.padd (.t 20) 0)), g_T 8 22 17 (.load (.t 21) 1 false), g_T 9 23 17 (.h (.padd (.t 1) 5)), g_T 10 24 17 (.load (.t 23) 1 false), g_T 11 25 17 (.h (.ibin .lss (.t 22) (.t 24))), i_X 12 26 (.h (.pick (.t 17) (.t 25) (.k (.d (.bool false)))))] [2, 3, 26]) (.cond (.t 26) (.reg [i_P 0 27 3 1, ⟨1, none, none, [], [], (.store (.t 27) (kI 6) 1)⟩] [2, 3]) .skip)) (.seq (.reg [i_A 0 28 3 14, i_S 1 2 28 14] [2]) .ret)))))
theorem a0T : d6 Tryz.prog 21 = some ⟨29, [(2, (some (14, true)))], a37.strip⟩ := by kernel_rfl
structure Vop (o : OpN) (k n : Nat) : Prop where
 is : (o.k = 0 ∧ m6 o.c = true ∧ o.a = 0 ∧ o.b = 0) ∨ (o.k = 1 ∧ (0 ≤ o.a ∧ o.a < n) ∧ o.b = 0 ∧ fcmp .eq o.c 0 = true) ∨ ((o.k = 2 ∨ o.k = 3 ∨ o.k = 4 ∨ o.k = 5) ∧ (0 ≤ o.a ∧ o.a < k) ∧ (0 ≤ o.b ∧ o.b < k) ∧ fcmp .eq o.c 0 = true)
structure Vtp (t : Tp) : Prop where
 n : 1 ≤ t.n ∧ t.n ≤ 4
 len : t.ops.length ≤ 60
 outl : t.out.length = t.n
 op : ∀ i, i < t.ops.length → Vop (t.ops.getD i ⟨0, 0, 0, 0⟩) i t.n
 out : ∀ i, i < t.n → 0 ≤ t.out.getD i 0 ∧ t.out.getD i 0 < t.ops.length
def powB (n : Int) : Bool := decide (1 ≤ n) && decide (n ≤ 4294967296) && (u7 .and .i64 n (n - 1) == 0)
structure Vpb (p : Pb) : Prop where
 t : Vtp p.t
 boxl : p.box.length = p.t.n
 yl : p.y.length = p.t.n
 outsl : p.outs.length ≤ 1000
 box : ∀ i, i < p.t.n → fcmp .le (mG p.box i).1 (mG p.box i).2 = true ∧ m6 (mG p.box i).1 = true ∧ m6 (mG p.box i).2 = true ∧ fcmp .le (mG p.box i).1 (p.y.getD i 0) = true ∧ fcmp .le (p.y.getD i 0) (mG p.box i).2 = true
 fin : 1 ≤ p.fin ∧ p.fin ≤ 1099511627776
 first : powB p.first = true
 least : powB p.least = true
 le : p.least ≤ p.first
 most : 1 ≤ p.most ∧ p.most ≤ 10000
 atol : m6 p.atol = true ∧ fcmp .gt p.atol 0 = true
 rtol : m6 p.rtol = true ∧ fcmp .ge p.rtol 0 = true
 cap : m6 p.cap = true ∧ fcmp .gt p.cap 0 = true
 outs : ∀ i, i < p.outs.length → 0 ≤ p.outs.getD i 0 ∧ p.outs.getD i 0 ≤ p.fin ∧ (i = 0 ∨ p.outs.getD (i - 1) 0 ≤ p.outs.getD i 0)
theorem m9 (i n : Int) (h : 0 ≤ i ∧ i < n) : Con Tryz.prog 81 [fI i, fI n] (fB true) := by
 refine a3 a43 rfl d5 ?_
 refine evx @a44.eq_1 ?_
 rw [decide_eq_true h.1]
 refine ev ?_
 rw [decide_eq_true h.2]
 exact a4 rfl (by decide) (by simp [look])
theorem b5g (o : OpN) (k n : Nat) (h : Vop o k n) : Con Tryz.prog 80 [.agg [fI o.k, fI o.a, fI o.b, fl o.c], fI k, fI n] (fB true) := by
 obtain ⟨ok, oa, ob, oc⟩ := o
 obtain ⟨h⟩ := h
 simp only at h
 refine a3 b0s rfl d5 ?_
 refine evx @b4R.eq_1 ?_
 rcases h with ⟨rfl, hf, rfl, rfl⟩ | ⟨rfl, ha, rfl, hc⟩ | ⟨hk, ha, hb, hc⟩
 ·refine ev ?_
  refine a0 (k8 oc) rfl ?_
  rw [hf]
  refine ev ?_
  exact a4 rfl (by decide) (by simp [look])
 ·refine evb ?_
  refine a0 (m9 oa n ha) rfl ?_
  refine evx hc ?_
  exact a4 rfl (by decide) (by simp [look])
 ·have c0 : (ok == 0) = false := by simp; omega
  have c1 : (ok == 1) = false := by simp; omega
  refine evx (And.intro c0 c1) ?_
  rcases hk with rfl | rfl | rfl | rfl
  ·refine evb ?_
   refine a0 (m9 oa k ha) rfl ?_
   refine ev ?_
   refine a0 (m9 ob k hb) rfl ?_
   refine evx hc ?_
   exact a4 rfl (by decide) (by simp [look])
  ·refine evb ?_
   refine a0 (m9 oa k ha) rfl ?_
   refine ev ?_
   refine a0 (m9 ob k hb) rfl ?_
   refine evx hc ?_
   exact a4 rfl (by decide) (by simp [look])
  ·refine evb ?_
   refine a0 (m9 oa k ha) rfl ?_
   refine ev ?_
   refine a0 (m9 ob k hb) rfl ?_
   refine evx hc ?_
   exact a4 rfl (by decide) (by simp [look])
  ·refine evb ?_
   refine a0 (m9 oa k ha) rfl ?_
   refine ev ?_
   refine a0 (m9 ob k hb) rfl ?_
   refine evx hc ?_
   exact a4 rfl (by decide) (by simp [look])
theorem b3X (n : Int) (h : powB n = true) : Con Tryz.prog 85 [fI n] (fB true) := by
 unfold powB at h
 simp only [Bool.and_eq_true, decide_eq_true_eq] at h
 obtain ⟨⟨h1, h2⟩, h3⟩ := h
 refine a3 a7L rfl d5 ?_
 refine evx @a9D.eq_1 ?_
 rw [decide_eq_true h1]
 refine ev ?_
 rw [decide_eq_true h2]
 have w : IntKind.i64.wrap (n - 1) = n - 1 := b9 (by omega) (by omega)
 refine evx (And.intro w h3) ?_
 exact a4 rfl (by decide) (by simp [look])
theorem a9V (t : Tp) (h : Vtp t) : Con Tryz.prog 39 [K3 t] (fB true) := by
 have hn := h.n
 have hlen := h.len
 have houtl := h.outl
 have d1 : decide ((t.n : Int) < 1) = false := decide_eq_false (by omega)
 have d2 : decide ((4 : Int) < (t.n : Int)) = false := decide_eq_false (by omega)
 have d3 : decide ((60 : Int) < (t.ops.length : Int)) = false := decide_eq_false (by omega)
 have d4 : ((t.out.length : Int) != (t.n : Int)) = false := by rw [houtl]; simp
 refine a3 Y2 rfl d5 ?_
 refine evx @a1G.eq_1 ?_
 rw [d1]
 refine ev ?_
 rw [d2]
 refine evx @opsD.eq_1 ?_
 rw [d3]
 refine ev ?_
 rw [d4]
 refine ev ?_
 refine f9 (n := t.ops.length) (fun c s => ∃ i : Nat, c + i = t.ops.length ∧ s = ⟨[(1, .ptr 0 0 0 3), (29, .d (opsD t.ops)), (30, fI t.ops.length), (31, fI i)], [(0, [[fI t.n, .d (opsD t.ops), .d (rowI t.out)]])]⟩) (Le.refl _) ⟨0, by omega, rfl⟩ ?_
 rintro c s ⟨i, hc, rfl⟩
 refine evx @a1F.eq_1 ?_
 refine a9 (fun hi => ?_) (fun hi => ?_)
 ·replace hi := of_decide_eq_true hi
  refine evx (And.intro @opsD.eq_1 @opG.eq_1) ?_
  refine ⟨by omega, ?_⟩
  refine a0 (b5g (t.ops.getD i ⟨0, 0, 0, 0⟩) i t.n (h.op i (by omega))) rfl ?_
  refine ev ?_
  rw [b9 (by omega) (by omega)]
  exact ⟨c - 1, _, by omega, LeT.only (fun X => decide (X ≤ 0)) (fun _ h => h) rfl (by simp [kpS]) (by simp [kpS]), i + 1, by omega, rfl⟩
 ·refine ev ?_
  refine f9 (n := t.n) (fun c s => ∃ i : Nat, c + i = t.n ∧ s = ⟨[(1, .ptr 0 0 0 3), (44, fI t.n), (45, fI i)], [(0, [[fI t.n, .d (opsD t.ops), .d (rowI t.out)]])]⟩) (Le.refl _) ⟨0, by omega, rfl⟩ ?_
  rintro c2 s ⟨j, hc2, rfl⟩
  refine evx @a1E.eq_1 ?_
  refine a9 (fun hj => ?_) (fun hj => ?_)
  ·replace hj := of_decide_eq_true hj
   refine evx @opsD.eq_1 ?_
   refine ⟨by omega, ?_⟩
   refine a0 (m9 (t.out.getD j 0) t.ops.length (h.out j (by omega))) rfl ?_
   refine ev ?_
   rw [b9 (by omega) (by omega)]
   exact ⟨c2 - 1, _, by omega, LeT.only (fun X => decide (X ≤ 0)) (fun _ h => h) rfl (by simp [kpS]) (by simp [kpS]), j + 1, by omega, rfl⟩
  ·refine ev ?_
   exact a4 rfl (by decide) (by simp [look])
theorem c59 (p : Pb) (i : Nat) (hi : i < p.t.n) (h : Vpb p) : Con Tryz.prog 41 [pbV p, fI i, ivV (mG p.box i)] (fB true) := by
 obtain ⟨h1, h2, h3, h4, h5⟩ := h.box i hi
 have hy := h.yl
 refine a3 a02 rfl d5 ?_
 refine evx @Z0.eq_1 ?_
 refine a0 (a6w (mG p.box i)) rfl ?_
 rw [h1]
 refine ev ?_
 refine a0 (k8 (mG p.box i).1) rfl ?_
 rw [h2]
 refine ev ?_
 refine a0 (k8 (mG p.box i).2) rfl ?_
 rw [h3]
 refine ev ?_
 refine ⟨by omega, ?_⟩
 refine a0 (a4F (p.y.getD i 0) (mG p.box i)) rfl ?_
 rw [h4, h5]
 refine ev ?_
 exact a4 rfl (by decide) (by simp [look])
theorem c5t (p : Pb) (i : Nat) (hi : i < p.outs.length) (h : Vpb p) : Con Tryz.prog 45 [pbV p, fI i, fI (p.outs.getD i 0)] (fB true) := by
 obtain ⟨h1, h2, h3⟩ := h.outs i hi
 have hl := h.outsl
 refine a3 a01 rfl d5 ?_
 refine evx @Y9.eq_1 ?_
 rw [decide_eq_true h1]
 refine ev ?_
 rw [decide_eq_true h2]
 refine ev ?_
 by_cases h0 : i = 0
 ·have h0b : ((i : Int) == 0) = true := by subst h0; rfl
  rw [h0b]
  refine ev ?_
  exact a4 rfl (by decide) (by simp [look])
 ·have h0b : ((i : Int) == 0) = false := by simp; omega
  rw [h0b]
  have w : IntKind.i64.wrap ((i : Int) - 1) = ((i - 1 : Nat) : Int) := by rw [b9 (by omega) (by omega)]; omega
  refine evx w ?_
  refine ⟨by omega, ?_⟩
  rw [decide_eq_true (h3.resolve_left h0)]
  exact a4 rfl (by decide) (by simp [look])
theorem b9E (p : Pb) (h : Vpb p) : Con Tryz.prog 42 [pbV p] (fB true) := by
 refine a3 Y8 rfl d5 ?_
 refine evx @Q1.eq_1 ?_
 rw [decide_eq_true h.fin.1]
 refine ev ?_
 rw [decide_eq_true h.fin.2]
 refine ev ?_
 refine a0 (b3X p.first h.first) rfl ?_
 refine ev ?_
 refine a0 (b3X p.least h.least) rfl ?_
 refine ev ?_
 rw [decide_eq_true h.le]
 refine ev ?_
 rw [decide_eq_true h.most.1]
 refine ev ?_
 rw [decide_eq_true h.most.2]
 exact a4 rfl (by decide) (by simp [look])
theorem b88 (p : Pb) (h : Vpb p) : Con Tryz.prog 43 [pbV p] (fB true) := by
 refine a3 W6 rfl d5 ?_
 refine evx @M1.eq_1 ?_
 refine a0 (k8 p.atol) rfl ?_
 rw [h.atol.1]
 refine evx h.atol.2 ?_
 refine a0 (k8 p.rtol) rfl ?_
 rw [h.rtol.1]
 refine evx h.rtol.2 ?_
 refine a0 (k8 p.cap) rfl ?_
 rw [h.cap.1]
 refine evx h.cap.2 ?_
 exact a4 rfl (by decide) (by simp [look])
theorem b6t (p : Pb) (h : Vpb p) (hn : p.t.n < 1000) : Con Tryz.prog 40 [.d (ivD p.box), .fn 41 [pbV p] []] (fB true) := by
 have hl := h.boxl
 refine a3 W7 rfl d5 ?_
 refine evx @M3.eq_1 ?_
 refine f9 (n := p.box.length) (fun c s => ∃ i : Nat, c + i = p.box.length ∧ s = ⟨[(1, .fn 41 [pbV p] []), (7, .d (ivD p.box)), (8, fI p.box.length), (9, fI i)], []⟩) (Le.refl _) ⟨0, by omega, rfl⟩ ?_
 rintro c s ⟨i, hc, rfl⟩
 refine evx @F8.eq_1 ?_
 refine a9 (fun hi => ?_) (fun hi => ?_)
 ·replace hi := of_decide_eq_true hi
  refine evx (And.intro @ivD.eq_1 @ivG.eq_1) ?_
  refine ⟨by omega, ?_⟩
  refine a0 (c59 p i (by omega) h) rfl ?_
  refine ev ?_
  rw [b9 (by omega) (by omega)]
  exact ⟨c - 1, _, by omega, LeT.only (L' := []) (fun X => false) (fun _ h => h) rfl (by simp [kpS]) (by simp [kpS]), i + 1, by omega, rfl⟩
 ·refine ev ?_
  exact a4 rfl (by decide) (by simp [look])
theorem b6s (p : Pb) (h : Vpb p) : Con Tryz.prog 44 [.d (rowI p.outs), .fn 45 [pbV p] []] (fB true) := by
 have hl := h.outsl
 refine a3 a03 rfl d5 ?_
 refine evx @Z1.eq_1 ?_
 refine f9 (n := p.outs.length) (fun c s => ∃ i : Nat, c + i = p.outs.length ∧ s = ⟨[(1, .fn 45 [pbV p] []), (7, .d (rowI p.outs)), (8, fI p.outs.length), (9, fI i)], []⟩) (Le.refl _) ⟨0, by omega, rfl⟩ ?_
 rintro c s ⟨i, hc, rfl⟩
 refine evx @M2.eq_1 ?_
 refine a9 (fun hi => ?_) (fun hi => ?_)
 ·replace hi := of_decide_eq_true hi
  refine ev ?_
  refine ⟨by omega, ?_⟩
  refine a0 (c5t p i (by omega) h) rfl ?_
  refine ev ?_
  rw [b9 (by omega) (by omega)]
  exact ⟨c - 1, _, by omega, Le.refl _, i + 1, by omega, rfl⟩
 ·refine ev ?_
  exact a4 rfl (by decide) (by simp [look])
theorem b1k {P : Program} {g : FuncId} {vs : List V} {L : Heap} {K : V → Heap → Prop} {r : V} (h : Con P g vs r) (hb : ∀ j, j < vs.length → Bare (vs.getD j .any)) (hk : K r L) : b0n P g vs L K := ⟨L, r, a2m rfl (.inl ⟨rfl, hb⟩) h, hk⟩
theorem c1V {x : D} {f : FuncId} {xs : List V} (h : xs.all V.isD = true) : ∀ j, j < [V.d x, .fn f [.agg xs] []].length → Bare ([V.d x, .fn f [.agg xs] []].getD j .any) := fun j hj => by
 rcases j with _ | _ | j
 ·exact .d _
 ·refine .fn (fun i hi => ?_) (fun i hi => by simp at hi)
  obtain rfl : i = 0 := by simpa using hi
  exact N8 (v := .agg xs) h
 ·simp at hj; omega
theorem b7g (f : FuncId) (xs : List V) : fnOf f [.agg xs] [] = .fn f [.agg xs] [] := rfl
theorem a4D (p : Pb) (h : Vpb p) : Con Tryz.prog 18 [pbV p] (fB true) := by
 have hn := h.t.n
 have hbl := h.boxl
 have hyl := h.yl
 have hol := h.outsl
 have d1 : ((p.box.length : Int) != (p.t.n : Int)) = false := by rw [hbl]; simp
 have d2 : ((p.y.length : Int) != (p.t.n : Int)) = false := by rw [hyl]; simp
 have d3 : decide ((1000 : Int) < (p.outs.length : Int)) = false := decide_eq_false (by omega)
 refine a3 a0U rfl d5 ?_
 refine evx @a38.eq_1 ?_
 refine a0 (a9V p.t h.t) rfl ?_
 refine evx d1 ?_
 refine evx d2 ?_
 refine evx (And.intro d3 @b7g) ?_
 refine b1k (b6t p h (by omega)) (c1V rfl) ?_
 refine ev ?_
 refine a0 (b9E p h) rfl ?_
 refine ev ?_
 refine a0 (b88 p h) rfl ?_
 refine evx @b7g ?_
 refine b1k (b6s p h) (c1V rfl) ?_
 refine ev ?_
 exact a4 rfl (by decide) (by simp [look])
theorem c18 {p : Pb} (h : Vpb p) : Outs p := ⟨by have := h.outsl; omega, fun i hi => by have := h.outs i hi; have := h.fin; omega, by have := h.most; omega⟩
theorem b2w (p : Pb) (hp : Pk2 p) (h : Vpb p) : Con Tryz.prog 21 [pbV p] (edV (b6F p)) := by
 have hm := h.most
 refine a3 a0T rfl d5 ?_
 refine evx @a37.eq_1 ?_
 refine a0 (a4D p h) rfl ?_
 refine ev ?_
 refine a8 (a4E p hp.pk) rfl ?_
 refine ev ?_
 refine a8 (b08 p (r8 p) p.most 0 hp (c18 h) (b1m hp) (by omega) (c85 _) (by omega) h.yl) rfl ?_
 have e : b6F p = ((goP p (r8 p) p.most.toNat).1, (goP p (r8 p) p.most.toNat).2.1, if (goP p (r8 p) p.most.toNat).2.2 = 0 ∧ (goP p (r8 p) p.most.toNat).1.s.n.pos < p.fin then 6 else (goP p (r8 p) p.most.toNat).2.2) := rfl
 rw [e]
 generalize goP p (r8 p) p.most.toNat = x
 obtain ⟨x1, x2, x3⟩ := x
 refine ev ?_
 by_cases h3 : x3 = 0
 ·subst h3
  refine evb ?_
  by_cases h4 : x1.s.n.pos < p.fin
  ·have d4 : decide (x1.s.n.pos < p.fin) = true := decide_eq_true h4
   refine evx d4 ?_
   rw [if_pos (by first | exact h4 | exact ⟨rfl, h4⟩)]
   exact d8 rfl (by decide) rfl rfl rfl (by simp) (by simp [ldv, f0, rowD])
  ·have d4 : decide (x1.s.n.pos < p.fin) = false := decide_eq_false h4
   refine evx d4 ?_
   rw [if_neg (by first | exact h4 | exact fun h => h4 h.2)]
   exact d8 rfl (by decide) rfl rfl rfl (by simp) (by simp [ldv, f0, rowD])
 ·have h3b : (x3 == 0) = false := by simpa using h3
  refine evx h3b ?_
  rw [if_neg (fun h => h3 h.1)]
  exact d8 rfl (by decide) rfl rfl rfl (by simp) (by simp [ldv, f0, rowD])
end Go.Ab
namespace Go.Ab
set_option linter.unusedSimpArgs false
set_option linter.unusedVariables false
open Go Go.Proofs
section
variable {P : Program} {N : Nat → Prop} {nt : Nat}
def cutC (P : Program) (N : Nat → Prop) (nt : Nat) (b : CA) (Q : Ex → T → Prop) : Ex → T → Prop
 | .normal, t => ∃ t', Le N (t.s nt) (t'.s nt) ∧ WA P N nt b Q t'
 | e, t => Q e t
theorem b6c (b : CA) (Q : Ex → T → Prop) (t : T) : cutC P N nt b Q .normal t = ∃ t', Le N (t.s nt) (t'.s nt) ∧ WA P N nt b Q t' := rfl
theorem c7W {a b : CA} {Q : Ex → T → Prop} {s : T} (h : xC P N nt a (cutC P N nt b Q) s) : WA P N nt (.seq a b) Q s := by
 intro hok
 simp only [CA.ok, Bool.and_eq_true] at hok
 refine c6f ((a2C a _ s h hok.1).mono fun e t ⟨s', h1, h2⟩ => ?_)
 cases e with
 | normal =>
  obtain ⟨t', h3, h4⟩ := h2
  exact W_le (h1.trans h3) (h4 hok.2)
 | _ => exact ⟨s', h1, h2⟩
theorem c7V {a b : CA} {Q : Ex → T → Prop} {s : T} (h : xC P N nt a (fun e t => match e with | .normal => WA P N nt b Q t | e => Q e t) s) : WA P N nt (.seq a b) Q s := by
 intro hok
 simp only [CA.ok, Bool.and_eq_true] at hok
 refine c6f ((a2C a _ s h hok.1).mono fun e t ⟨s', h1, h2⟩ => ?_)
 cases e with
 | normal => exact W_le h1 (h2 hok.2)
 | _ => exact ⟨s', h1, h2⟩
theorem b9p {f : FuncId} {res : List (Nat × Option (Nat × Bool))} {c : CA} {r : V} {vs : List V} (hF : d6 P f = some ⟨nt, res, c.strip⟩) (hok : (c.ok nt && decide (vs.length ≤ nt)) = true) (hm : P.follows .mixedOrders = true)
  (h : WA P (fun _ => False) nt c (P6 (fun _ => False) nt res r []) ⟨argSl 0 vs, []⟩) : Con P f vs r := by
 simp only [Bool.and_eq_true, decide_eq_true_eq] at hok
 have e : enter ⟨nt, res, c.strip⟩ vs [] = T.s nt ⟨argSl 0 vs, []⟩ := by
  simp only [enter, T.s, S.mk.injEq, and_true]
  refine List.ext_getElem? fun i => ?_
  by_cases h : i < nt
  ·have h1 : (build nt (argSl 0 vs)).getD i .any = _ := t5 _ h
   rw [b62] at h1
   simp only [Nat.zero_le, if_true, Nat.sub_zero] at h1
   rw [c8U, c8V (by rw [t4]; exact h)] at h1
   rw [c8V (l := build nt _) (by rw [t4]; exact h)]
   simp only [Option.getD_some] at h1
   rw [h1, List.getElem?_append]
   split
   ·rename_i h2; simp [c8U, h2]
   ·rename_i h2
    rw [List.getElem?_replicate]
    simp only [c8U]
    rw [c80 (by omega)]
    rw [if_pos (by omega)]; rfl
  ·rw [c80 (by simp; omega), c80 (by rw [t4]; omega)]
 refine b7T hF hm (fun _ => False) (fun X q hX => by simp [Heap.get, Heap.fam] at hX) ?_
 rw [e]
 refine b4L (h hok.1) fun e t ⟨s', h1, h2⟩ => ⟨s'.s nt, h1, ?_⟩
 cases e <;> first | exact h2 | exact h2.elim
end
def a9A : CA := (.seq (.reg [i_X 0 0 (.h (.mov (.k (.d (.bool false)))))] []) (.seq (.reg [i_X 0 3 (.h (.build [fI 0, fI 0, fI 0, fl 0] [])), i_X 1 4 (.bslice [fI 0, fI 0, fI 0, fl 0] 1 4 [(0, (4, (.t 3)))] 81), i_X 2 5 (.bslice [fI 0] 1 1 [(0, (1, (kI 0)))] 3), i_X 3 6 (.h (.build [fI 0, .nil, .nil] [(0, (1, (kI 1))), (1, (1, (.t 4))), (2, (1, (.t 5)))])), i_X 4 7 (.h (.build [fl 0, fl 0] [(0, (1, (.k (.d (.flt 13844628204490326016))))), (1, (1, (.k (.d (.flt 4621256167635550208)))))])), i_X 5 8 (.bslice [fl 0, fl 0] 1 2 [(0, (2, (.t 7)))] 83), i_X 6 9 (.bslice [fl 0] 1 1 [(0, (1, (.k (.d (.flt 4607182418800017408)))))] 31), i_X 7 10 (.bslice [fI 0] 1 1 [(0, (1, (kI 536870912)))] 3), i_X 8 11 (.h (.build [fI 0, .nil, .nil, .nil, .nil, fI 0, fI 0, fI 0, fl 0, fl 0, fl 0, fI 0, .nil] [(0, (3, (.t 6))), (3, (1, (.t 8))), (4, (1, (.t 9))), (5, (1, (kI 1073741824))), (6, (1, (kI 268435456))), (7, (1, (kI 1))), (8, (1, (.k (.d (.flt 4607182418800017408))))), (10, (1, (.k (.d (.flt 4607182418800017408))))), (11, (1, (kI 90))), (12, (1, (.t 10)))])), i_X 9 1 (.alloc [fI 0, .nil, .nil, .nil, .nil, fI 0, fI 0, fI 0, fl 0, fl 0, fl 0, fI 0, .nil] 33), i_S 10 1 11 13] [1]) (.seq (.reg [i_A 0 12 1 13, i_X 1 13 (.callA (kF 21) [(.t 12)]), i_X 2 2 (.alloc [.nil, fI 0, fI 0, fI 0, fI 0, fI 0, .nil, fI 0, fI 0, fI 0, .nil, fl 0, fI 0, fI 0] 53), i_S 3 2 13 14] [1, 2]) (.seq (.reg [i_X 0 14 (.h (.build [fI 0, .nil, .nil, .nil, .nil, fI 0, fI 0, fI 0, fl 0, fl 0, fl 0, fI 0, .nil] [])), i_X 1 15 (.callA (kF 21) [(.t 14)]), i_X 2 16 (.h (.fld (.t 15) 1 1 false)), i_B 3 17 .eql 16 1, i_M 4 18 17, g_T 5 19 18 (.h (.padd (.t 2) 1)), g_T 6 20 18 (.load (.t 19) 1 false), g_T 7 21 18 (.h (.ibin .eql (.t 20) (kI 0))), i_X 8 22 (.h (.pick (.t 18) (.t 21) (.k (.d (.bool false))))), i_M 9 23 22, g_T 10 24 23 (.h (.padd (.t 2) 0)), g_T 11 25 23 (.load (.t 24) 1 false), g_T 12 26 23 (.h (.len (.t 25))), g_T 13 27 23 (.h (.ibin .eql (.t 26) (kI 1))), i_X 14 28 (.h (.pick (.t 23) (.t 27) (.k (.d (.bool false))))), i_M 15 29 28, g_T 16 30 29 (.h (.padd (.t 2) 0)), g_T 17 31 29 (.load (.t 30) 1 false), g_T 18 32 29 (.h (.idx (.t 31) (kI 0) 3)), g_T 19 33 29 (.h (.padd (.t 32) 1)), g_T 20 34 29 (.load (.t 33) 1 false), g_T 21 35 29 (.h (.len (.t 34))), g_T 22 36 29 (.h (.ibin .eql (.t 35) (kI 1))), i_X 23 37 (.h (.pick (.t 29) (.t 36) (.k (.d (.bool false))))), i_M 24 38 37, g_T 25 39 38 (.h (.padd (.t 2) 0)), g_T 26 40 38 (.load (.t 39) 1 false), g_T 27 41 38 (.h (.idx (.t 40) (kI 0) 3)), g_T 28 42 38 (.h (.padd (.t 41) 1)), g_T 29 43 38 (.load (.t 42) 1 false), g_T 30 44 38 (.h (.idx (.t 43) (kI 0) 1)), g_T 31 45 38 (.load (.t 44) 1 false), g_T 32 46 38 (.h (.fcmp .eq (.t 45) (.k (.d (.flt 4607182418800017408))))), i_X 33 47 (.h (.pick (.t 38) (.t 46) (.k (.d (.bool false))))), i_M 34 48 47, g_T 35 49 48 (.h (.padd (.t 2) 0)), g_T 36 50 48 (.load (.t 49) 1 false), g_T 37 51 48 (.h (.idx (.t 50) (kI 0) 3)), g_T 38 52 48 (.h (.padd (.t 51) 2)), g_T 39 53 48 (.load (.t 52) 1 false), g_T 40 54 48 (.h (.fcmp .lt (.t 53) (.k (.d (.flt 4517329193108106637))))), i_X 41 55 (.h (.pick (.t 48) (.t 54) (.k (.d (.bool false))))), i_M 42 56 55, g_T 43 57 56 (.load (.t 1) 13 true), g_T 44 58 56 (.callA (kF 18) [(.t 57)]), i_X 45 59 (.h (.pick (.t 56) (.t 58) (.k (.d (.bool false))))), i_M 46 0 59] [0]) .ret))))
theorem a7J : d6 Tryz.prog 15 = some ⟨60, [(0, none)], a9A.strip⟩ := by kernel_rfl
def a62 : CA := (.seq (.reg [i_K 0 4 0] [0, 1]) (.seq (.reg [i_M 0 6 0, i_M 1 7 1, i_N 2 8 .rem 6 7, i_M 3 5 8] [1, 5]) (.seq (.seq (.reg [i_M 0 9 5, i_B 1 10 .lss 9 0] [1, 5, 10]) (.cond (.t 10) (.reg [i_M 0 11 5, i_M 1 12 1, i_N 2 13 .add 11 12, i_M 3 5 13] [5]) .skip)) (.seq (.reg [i_M 0 14 5, i_M 1 4 14] [4]) .ret))))
theorem a57 : d6 Tryz.prog 28 = some ⟨15, [(4, none)], a62.strip⟩ := by kernel_rfl
theorem b0b (a n : Int) (hn : 0 < n) (hn2 : n < 2 ^ 62) : Con Tryz.prog 28 [fI a, fI n] (fI (a % n)) := by
 rw [← b1M a n hn]
 refine a3 a57 rfl d5 ?_
 refine evx @a62.eq_1 ?_
 refine ⟨by omega, ?_⟩
 have h1 := Int.tmod_lt_of_pos a hn
 have h2 : -n < a.tmod n := Int.lt_tmod_of_pos a hn
 refine a9 (fun h => ?_) (fun h => ?_)
 ·have h := of_decide_eq_true h
  rw [if_pos h]
  refine ev ?_
  rw [b9 (by omega) (by omega)]
  exact a4 rfl (by decide) (by simp [look])
 ·have h := of_decide_eq_false h
  rw [if_neg h]
  refine ev ?_
  exact a4 rfl (by decide) (by simp [look])
abbrev noP : V := .agg [fI 0, .nil, .nil, .nil, .nil, fI 0, fI 0, fI 0, fl 0, fl 0, fl 0, fI 0, .nil]
theorem b1N : Con Tryz.prog 39 [.agg [fI 0, .nil, .nil]] (fB false) := by
 refine a3 Y2 rfl d5 ?_
 refine evx @a1G.eq_1 ?_
 exact a4 rfl (by decide) (by simp [look])
theorem b4j : Con Tryz.prog 18 [noP] (fB false) := by
 refine a3 a0U rfl d5 ?_
 refine evx @a38.eq_1 ?_
 refine a0 (b1N) rfl ?_
 refine ev ?_
 exact a4 rfl (by decide) (by simp [look])
theorem b4g : Con Tryz.prog 21 [noP] (.agg [.nil, fI 1, fI 0, fI 0, fI 0, fI 0, .nil, fI 0, fI 0, fI 0, .nil, fl 0, fI 0, fI 0]) := by
 refine a3 a0T rfl d5 ?_
 refine evx @a37.eq_1 ?_
 refine a0 (b4j) rfl ?_
 refine ev ?_
 exact d8 rfl (by decide) rfl rfl rfl (by simp) (by simp [ldv])
def kp12 : Pb := ⟨⟨1, [⟨0, 0, 0, 0⟩], [0]⟩, [(13844628204490326016, 4621256167635550208)], [4607182418800017408], 1073741824, 268435456, 1, 4607182418800017408, 0, 4607182418800017408, 90, [536870912]⟩
theorem c5L : Pk2 kp12 := by
 refine ⟨⟨⟨⟨by decide, by decide, fun i hi => ?_, rfl, fun i hi => ?_⟩, by decide, by decide⟩, ⟨28, by decide, rfl⟩, ⟨0, by decide, rfl⟩, by decide, by decide, rfl, fun i => ?_⟩, by decide, rfl, by decide⟩
 ·have : i = 0 := by have hi : i < 1 := hi; omega
  subst this; exact .inl rfl
 ·have : i = 0 := by have hi : i < 1 := hi; omega
  subst this; exact ⟨by decide, by decide⟩
 ·rcases i with _ | i
  ·exact c1G
  ·exact a0v
theorem c4C : Vpb kp12 := by
 refine ⟨⟨by decide, by decide, rfl, fun i hi => ?_, fun i hi => ?_⟩, rfl, rfl, by decide, fun i hi => ?_, by decide, by decide, by decide, by decide, by decide, by decide, by decide, by decide, fun i hi => ?_⟩
 ·have : i = 0 := by have hi : i < 1 := hi; omega
  subst this; exact ⟨.inl ⟨rfl, by decide, rfl, rfl⟩⟩
 ·have : i = 0 := by have hi : i < 1 := hi; omega
  subst this; exact ⟨by decide, by decide⟩
 ·have : i = 0 := by have hi : i < 1 := hi; omega
  subst this; exact ⟨by decide, by decide, by decide, by decide, by decide⟩
 ·have : i = 0 := by have hi : i < 1 := hi; omega
  subst this; exact ⟨by decide, by decide, .inl rfl⟩
def c0Q (x : Rn × List Ou × Int) : Bool := x.2.2 == 0 && decide (x.2.1.length = 1) && decide ((x.2.1.getD 0 ⟨0, [], 0⟩).y.length = 1) && fcmp .eq ((x.2.1.getD 0 ⟨0, [], 0⟩).y.getD 0 0) 4607182418800017408 && fcmp .lt (x.2.1.getD 0 ⟨0, [], 0⟩).bound 4517329193108106637
theorem c3v : c0Q (b6F kp12) = true := by kernel_rfl
theorem b2t : Con Tryz.prog 15 [] (fB true) := by
 have hs := b2w kp12 c5L c4C
 have hk := c3v
 generalize b6F kp12 = x at hs hk
 obtain ⟨x1, x2, x3⟩ := x
 unfold c0Q at hk
 simp only [Bool.and_eq_true, beq_iff_eq, decide_eq_true_eq] at hk
 obtain ⟨⟨⟨⟨k1, k2⟩, k3⟩, k4⟩, k5⟩ := hk
 refine b9p a7J rfl d5 ?_
 unfold a9A
 refine c7V ?_
 refine ev ?_
 refine c7W ?_
 refine evx @b6c ?_
 refine ⟨⟨[(1, .ptr 9 0 0 13)], [(9, [pbC kp12])]⟩, ?_, ?_⟩
 ·exact LeT.weak (fun _ h => h) (by simp (maxDischargeDepth := 6) [fzS]) ⟨⟨_, rfl, ⟨Fz_d _, .d (s8 (fun Y q hY e => by cases e; exact hY rfl) rfl (fun _ _ => rfl) rfl), .d (s8 (fun Y q hY e => by cases e; exact hY rfl) rfl (fun _ _ => rfl) rfl), .d (s8 (fun Y q hY e => by cases e; exact hY rfl) rfl (fun _ _ => rfl) rfl), .d (s8 (fun Y q hY e => by cases e; exact hY rfl) rfl (fun _ _ => rfl) rfl),
   Fz_d _, Fz_d _, Fz_d _, Fz_d _, Fz_d _, Fz_d _, Fz_d _, .d (s8 (fun Y q hY e => by cases e; exact hY rfl) rfl (fun _ _ => rfl) rfl), trivial⟩, trivial⟩, trivial⟩
 ·refine a2C _ _ _ ?_
  subst k1
  refine ev ?_
  refine a0 (hs) rfl ?_
  refine ev ?_
  refine a0 (b4g) rfl ?_
  refine evbx k2 ?_
  refine evx @ousG.eq_1 ?_
  have k3' : (((x2.getD 0 ⟨0, [], 0⟩).y.length : Int) == 1) = true := by rw [k3]; rfl
  refine evx (And.intro @ousG.eq_1 k3') ?_
  rw [k3]
  refine evx (And.intro k4 (And.intro k5 @ousG.eq_1)) ?_
  refine ⟨by omega, by omega, ?_⟩
  refine a0 (a4D kp12 c4C) rfl ?_
  refine ev ?_
  exact a4 rfl (by decide) (by simp [look])
end Go.Ab
namespace Go.Ab
set_option linter.unusedSimpArgs false
set_option linter.unusedVariables false
open Go Go.Proofs
theorem ix_4 : Ix 2 4616189618054758400 1 := by
 have r : Ieee.double.read 4616189618054758400 = .number false 4503599627370496 (-50) := by decide
 refine ⟨⟨_, _, _, r⟩, ?_⟩
 rw [A8 r]
 have h7 : (2 : Int) = -50 + (52 : Nat) := by decide
 have := (congrArg pw h7).trans (V2 _ _)
 rw [this]; simp
theorem b8Y (w : Int) (h : -100 ≤ w ∧ w ≤ 100) : m6 (fop .div (FloatKind.nearest .f64 w) 4620693217682128896) = true :=
 X7 (Ix.div (g := -3) (c := w) (Ix.ofInt w (by omega)) ix_8 (by decide) (by decide) (by omega) (by omega) (by decide) (by decide)).fin
theorem b5E (w : Int) (h : -100 ≤ w ∧ w ≤ 100) : m6 (fop .div (FloatKind.nearest .f64 w) 4616189618054758400) = true :=
 X7 (Ix.div (g := -2) (c := w) (Ix.ofInt w (by omega)) ix_4 (by decide) (by decide) (by omega) (by omega) (by decide) (by decide)).fin
theorem eq00 : fcmp .eq 0 0 = true := by decide
theorem c5y (n : Int) (ns : List Int) (div : Bool) (N i : Nat) : ∀ j, j < N + 1 + i → Vop ((E7 n ns div N i).getD j ⟨0, 0, 0, 0⟩) j N := by
 induction i with
 | zero =>
  intro j hj
  have hl := a2p N
  unfold E7 b2X
  by_cases h : j < N
  ·rw [c8U, c8W (by omega)]
   have : (G2 N)[j]? = some ⟨1, j, 0, 0⟩ := by simp [G2, h]
   rw [this]
   exact ⟨.inr (.inl ⟨rfl, ⟨by simp, by simpa using h⟩, rfl, eq00⟩)⟩
  ·obtain rfl : j = N := by omega
   rw [c8U, c8X (by omega), hl, Nat.sub_self]
   exact ⟨.inl ⟨rfl, b5E _ (by omega), rfl, rfl⟩⟩
 | succ i ih =>
  intro j hj
  have hl := P4 n ns div N i
  unfold E7
  by_cases h : j < N + 1 + i
  ·have := ih j h
   rw [c8U] at this ⊢
   rwa [c8W (by omega)]
  ·obtain rfl : j = N + 1 + i := by omega
   rw [c8U, c8X (by omega), hl, Nat.sub_self]
   show Vop (mkOp ns div (N + 1 + i) i) (N + 1 + i) N
   unfold mkOp
   simp only
   generalize ns.getD i 0 = k
   have a1 := c8Z (IntKind.i64.wrap (k.tdiv 4)) (by omega : ((N + 1 + i : Nat) : Int) ≠ 0)
   have a2 := c8Y (IntKind.i64.wrap (k.tdiv 4)) (by omega : (0 : Int) < ((N + 1 + i : Nat) : Int))
   have b1 := c8Z (IntKind.i64.wrap (k.tdiv 40)) (by omega : ((N + 1 + i : Nat) : Int) ≠ 0)
   have b2 := c8Y (IntKind.i64.wrap (k.tdiv 40)) (by omega : (0 : Int) < ((N + 1 + i : Nat) : Int))
   split
   ·exact ⟨.inl ⟨rfl, b8Y _ (by omega), rfl, rfl⟩⟩
   ·refine ⟨.inr (.inr ⟨?_, ⟨a1, a2⟩, ⟨b1, b2⟩, eq00⟩)⟩
    show (if div = true ∧ k % 7 = 0 then (5 : Int) else 2 + k % 3) = 2 ∨ _
    split
    ·exact .inr (.inr (.inr rfl))
    ·show (2 + k % 3 = 2) ∨ (2 + k % 3 = 3) ∨ (2 + k % 3 = 4) ∨ (2 + k % 3 = 5)
     omega
theorem c8f (n : Int) (ns : List Int) (dv : Bool) : Vtp (mkT n ns dv) := by
 have hok := c4B n ns dv
 have hn := b8v n ns dv
 have m1 := c8Z n (by decide : (3 : Int) ≠ 0)
 have m2 := c8Y n (by decide : (0 : Int) < 3)
 have hl := P4 n ns dv ((n % 3).toNat + 1) (min ns.length 8)
 refine ⟨by rw [hn]; omega, ?_, hok.outl, fun i hi => ?_, hok.out⟩
 ·show (E7 n ns dv ((n % 3).toNat + 1) (min ns.length 8)).length ≤ 60
  omega
 ·have hi' : i < (E7 n ns dv ((n % 3).toNat + 1) (min ns.length 8)).length := hi
  exact c5y n ns dv ((n % 3).toNat + 1) (min ns.length 8) i (by omega)
theorem c5p : ((List.range 29).all fun a => powB ((2 ^ a : Nat) : Int)) = true := by decide
theorem c4A (a : Nat) (h : a ≤ 28) : powB ((2 ^ a : Nat) : Int) = true := List.all_eq_true.1 c5p a (by simp; omega)
theorem c7M : ((List.range 24).all fun k => m6 (fop .div 4607182418800017408 (FloatKind.nearest .f64 ((2 ^ k : Nat) : Int))) && fcmp .gt (fop .div 4607182418800017408 (FloatKind.nearest .f64 ((2 ^ k : Nat) : Int))) 0) = true := by kernel_rfl
theorem c6P : ((List.range 3).all fun k => m6 (fop .div (FloatKind.nearest .f64 (k : Int)) 4652218415073722368) && fcmp .ge (fop .div (FloatKind.nearest .f64 (k : Int)) 4652218415073722368) 0) = true := by kernel_rfl
theorem c5A (tol : Int) : m6 (mkAt tol) = true ∧ fcmp .gt (mkAt tol) 0 = true := by
 have t1 := c8Z tol (by decide : (24 : Int) ≠ 0)
 have t2 := c8Y tol (by decide : (0 : Int) < 24)
 have := List.all_eq_true.1 c7M (tol % 24).toNat (by simp; omega)
 simpa [mkAt] using this
theorem c5x (tol : Int) : m6 (mkRt tol) = true ∧ fcmp .ge (mkRt tol) 0 = true := by
 unfold mkRt
 generalize IntKind.i64.wrap (tol.tdiv 24) = w
 have t1 := c8Z w (by decide : (3 : Int) ≠ 0)
 have t2 := c8Y w (by decide : (0 : Int) < 3)
 obtain ⟨k, hk⟩ : ∃ k : Nat, w % 3 = k := ⟨(w % 3).toNat, by omega⟩
 have := List.all_eq_true.1 c6P k (by simp; omega)
 rw [hk]
 simpa using this
theorem c3n (A : List Int) (E : Int) (hA : ∀ i, i < A.length → 0 ≤ A.getD i 0 ∧ A.getD i 0 ≤ E) : ∀ k, k < A.length ∨ A.length = 0 → (∀ i, i < A.length → 0 ≤ (maxL A k).getD i 0 ∧ (maxL A k).getD i 0 ≤ E) ∧ (∀ i, 0 < i → i ≤ k → (maxL A k).getD (i - 1) 0 ≤ (maxL A k).getD i 0) := by
 intro k
 induction k with
 | zero => intro _; exact ⟨hA, fun i h1 h2 => by omega⟩
 | succ k ih =>
  intro hk
  rcases hk with hk | hk
  ·obtain ⟨r, s⟩ := ih (.inl (by omega))
   have hl := a71 A k
   have set_at : ∀ v i, ((maxL A k).set (k + 1) v).getD i 0 = if i = k + 1 then v else (maxL A k).getD i 0 := fun v i => by
    rw [c8U, List.getElem?_set]
    by_cases h : k + 1 = i
    ·subst h; rw [if_pos rfl, if_pos rfl, if_pos (by omega)]; rfl
    ·rw [if_neg h, if_neg (fun e => h e.symm), ← c8U]
   have r1 := r (k + 1) hk
   have r2 := r k (by omega)
   unfold maxL
   refine ⟨fun i hi => ?_, fun i h1 h2 => ?_⟩
   ·rw [set_at]
    split
    ·split <;> omega
    ·exact r i hi
   ·rw [set_at, set_at]
    by_cases h : i = k + 1
    ·subst h
     rw [if_neg (by omega), if_pos rfl, Nat.add_sub_cancel]
     split <;> omega
    ·rw [if_neg (by omega), if_neg h]
     exact s i h1 (by omega)
  ·refine ⟨fun i hi => by omega, fun i h1 h2 => ?_⟩
   have hl := a71 A (k + 1)
   rw [c8U, c8U, c80 (by omega), c80 (by omega)]
   exact Int.le_refl _
theorem c66 (outs : List Int) (E : Int) (hE : 0 ≤ E) : ∀ i, i < (mkO outs E).length → 0 ≤ (mkO outs E).getD i 0 ∧ (mkO outs E).getD i 0 ≤ E ∧ (i = 0 ∨ (mkO outs E).getD (i - 1) 0 ≤ (mkO outs E).getD i 0) := by
 intro i hi
 rw [b5Q] at hi
 have hal := a4v outs E (min outs.length 8)
 have hA : ∀ i, i < (a2D outs E (min outs.length 8)).length → 0 ≤ (a2D outs E (min outs.length 8)).getD i 0 ∧ (a2D outs E (min outs.length 8)).getD i 0 ≤ E := fun i hi => by
  rw [hal] at hi
  have e : (a2D outs E (min outs.length 8)).getD i 0 = outE outs E i := by
   unfold a2D
   rw [c8U, List.getElem?_map, List.getElem?_range hi]; rfl
  rw [e]
  unfold outE
  have a1 := c8Z (outs.getD i 0) (by omega : E + 1 ≠ 0)
  have a2 := c8Y (outs.getD i 0) (by omega : (0 : Int) < E + 1)
  omega
 obtain ⟨r, s⟩ := c3n (a2D outs E (min outs.length 8)) E hA (min outs.length 8 - 1) (by omega)
 obtain ⟨r1, r2⟩ := r i (by omega)
 refine ⟨r1, r2, ?_⟩
 by_cases h : i = 0
 ·exact .inl h
 ·exact .inr (s i (by omega) (by omega))
theorem c65 (n first least tol fin : Int) (ns ms outs : List Int) (dv : Bool) : Vpb (mkPb n first least tol fin ns ms outs dv) := by
 have f1 := c8Z first (by decide : (13 : Int) ≠ 0)
 have f2 := c8Y first (by decide : (0 : Int) < 13)
 have hA : mkA first ≤ 28 := by unfold mkA; omega
 have e1 := c8Z fin (by decide : (536870912 : Int) ≠ 0)
 have e2 := c8Y fin (by decide : (0 : Int) < 536870912)
 have hF : 0 < 2 ^ mkA first ∧ 2 ^ mkA first ≤ 2 ^ 28 := ⟨Nat.pow_pos (by decide), c87 (by decide) hA⟩
 have hE : 1 ≤ mkE fin (2 ^ mkA first) ∧ mkE fin (2 ^ mkA first) ≤ 1099511627776 := by unfold mkE; split <;> omega
 have hb := c3j n first least tol fin ns ms outs dv
 have hp := c0D n first least tol fin ns ms outs dv
 refine ⟨c8f n ns dv, a4Z _ _, hp.yl, ?_, fun i hi => ?_, hE, c4A _ hA, c4A _ (by omega), ?_, ⟨by show (1 : Int) ≤ 24; decide, by show (24 : Int) ≤ 10000; decide⟩, c5A tol, c5x tol, ⟨by show m6 4616189618054758400 = true; decide, by show fcmp .gt 4616189618054758400 0 = true; decide⟩, c66 outs _ (by omega)⟩
 ·show (mkO outs (mkE fin (2 ^ mkA first))).length ≤ 1000
  rw [b5Q]; omega
 ·obtain ⟨b1, b2, b3⟩ := hb.box i hi
  obtain ⟨k, hk, _⟩ := hb.y i hi
  have d16 : (0 : Rat) ≤ 16 := by decide
  exact ⟨(b2G b1.1 b1.2).2 (by grind), X7 b1.1, X7 b1.2, (b2G b1.1 hk.fin).2 (by grind), (b2G hk.fin b1.2).2 (by grind)⟩
 ·show ((2 ^ (mkA first - mkB least) : Nat) : Int) ≤ ((2 ^ mkA first : Nat) : Int)
  exact Int.ofNat_le.2 (c87 (by decide) (Nat.sub_le _ _))
end Go.Ab
