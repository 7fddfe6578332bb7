/- LinOwn: rows, what is asked for, are not changed; asked again it is told alike. -/
import Derived.Test.YtnoeajoeeldimaaLO
import Derived.Test.YtnoeajoeeldimaaLH
namespace Go.Ab
set_option linter.unusedSimpArgs false
set_option linter.unusedVariables false
open Go Go.Proofs
def A_l6_LinOwn_L0 : CA := (.seq (.seq (.reg [⟨0, (some 51), none, [], [], (.h (.mov (.t 18)))⟩, ⟨1, (some 52), none, [], [], (.h (.mov (.t 17)))⟩, ⟨2, (some 53), none, [], [], (.h (.len (.t 52)))⟩, ⟨3, (some 54), none, [], [], (.h (.ibin .lss (.t 51) (.t 53)))⟩] [3, 9, 10, 11, 12, 13, 15, 17, 18, 54]) (.cond (.t 54) .skip (.exit 0))) (.seq (.block 1 (.reg [⟨0, (some 57), none, [], [], (.h (.mov (.t 17)))⟩, ⟨1, (some 58), none, [], [], (.h (.mov (.t 18)))⟩, ⟨2, (some 59), none, [], [], (.h (.mov (.t 3)))⟩, ⟨3, (some 60), none, [], [], (.h (.i2f (.t 59)))⟩, ⟨4, (some 61), none, [], [], (.h (.idx (.t 57) (.t 58) 1))⟩, ⟨5, none, none, [], [], (.store (.t 61) (.t 60) 1)⟩] [3, 9, 10, 11, 12, 13, 15, 17, 18])) (.reg [⟨0, (some 55), none, [], [], (.h (.mov (.t 18)))⟩, ⟨1, (some 56), none, [], [], (.h (.ibin .add (.t 55) (.k (.d (.int .i64 1)))))⟩, ⟨2, (some 18), none, [], [], (.h (.mov (.t 56)))⟩] [3, 9, 10, 11, 12, 13, 15, 17, 18])))
def A_l6_LinOwn_L2 : CA := (.seq (.seq (.reg [⟨0, (some 77), none, [], [], (.h (.mov (.t 20)))⟩, ⟨1, (some 78), none, [], [], (.h (.padd (.t 13) 0))⟩, ⟨2, (some 79), none, [], [], (.load (.t 78) 1 false)⟩, ⟨3, (some 80), none, [], [], (.h (.mov (.t 19)))⟩, ⟨4, (some 81), none, [], [], (.h (.idx (.t 79) (.t 80) 1))⟩, ⟨5, (some 82), none, [], [], (.load (.t 81) 1 false)⟩, ⟨6, (some 83), none, [], [], (.h (.len (.t 82)))⟩, ⟨7, (some 84), none, [], [], (.h (.ibin .lss (.t 77) (.t 83)))⟩] [3, 9, 10, 11, 12, 13, 19, 20, 84]) (.cond (.t 84) .skip (.exit 4))) (.seq (.block 5 (.reg [⟨0, (some 87), none, [], [], (.h (.padd (.t 13) 0))⟩, ⟨1, (some 88), none, [], [], (.load (.t 87) 1 false)⟩, ⟨2, (some 89), none, [], [], (.h (.mov (.t 19)))⟩, ⟨3, (some 90), none, [], [], (.h (.idx (.t 88) (.t 89) 1))⟩, ⟨4, (some 91), none, [], [], (.load (.t 90) 1 false)⟩, ⟨5, (some 92), none, [], [], (.h (.mov (.t 20)))⟩, ⟨6, (some 93), none, [], [], (.h (.mov (.t 3)))⟩, ⟨7, (some 94), none, [], [], (.h (.i2f (.t 93)))⟩, ⟨8, (some 95), none, [], [], (.h (.idx (.t 91) (.t 92) 1))⟩, ⟨9, none, none, [], [], (.store (.t 95) (.t 94) 1)⟩] [3, 9, 10, 11, 12, 13, 19, 20])) (.reg [⟨0, (some 85), none, [], [], (.h (.mov (.t 20)))⟩, ⟨1, (some 86), none, [], [], (.h (.ibin .add (.t 85) (.k (.d (.int .i64 1)))))⟩, ⟨2, (some 20), none, [], [], (.h (.mov (.t 86)))⟩] [3, 9, 10, 11, 12, 13, 19, 20])))
def A_l6_LinOwn_L1 : CA := (.seq (.seq (.reg [⟨0, (some 70), none, [], [], (.h (.mov (.t 19)))⟩, ⟨1, (some 71), none, [], [], (.h (.padd (.t 13) 0))⟩, ⟨2, (some 72), none, [], [], (.load (.t 71) 1 false)⟩, ⟨3, (some 73), none, [], [], (.h (.len (.t 72)))⟩, ⟨4, (some 74), none, [], [], (.h (.ibin .lss (.t 70) (.t 73)))⟩] [3, 9, 10, 11, 12, 13, 19, 74]) (.cond (.t 74) .skip (.exit 2))) (.seq (.block 3 (.seq (.reg [⟨0, (some 20), none, [], [], (.h (.mov (.k (.d (.int .i64 0)))))⟩] [3, 9, 10, 11, 12, 13, 19, 20]) (.block 4 (.loop A_l6_LinOwn_L2)))) (.reg [⟨0, (some 75), none, [], [], (.h (.mov (.t 19)))⟩, ⟨1, (some 76), none, [], [], (.h (.ibin .add (.t 75) (.k (.d (.int .i64 1)))))⟩, ⟨2, (some 19), none, [], [], (.h (.mov (.t 76)))⟩] [3, 9, 10, 11, 12, 13, 19])))
def A_l6_LinOwn : CA := (.seq (.reg [⟨0, (some 8), none, [], [], (.h (.mov (.k (.d (.bool false)))))⟩] [0, 1, 2, 3]) (.seq (.seq (.reg [⟨0, (some 21), none, [], [], (.callA (.k (.d (.fn 13 [] []))) [])⟩, ⟨1, (some 22), none, [], [], (.h (.un .not (.t 21)))⟩] [0, 1, 2, 3, 22]) (.cond (.t 22) (.seq (.reg [⟨0, (some 8), none, [], [], (.h (.mov (.k (.d (.bool false)))))⟩] [8]) .ret) .skip)) (.seq (.reg [⟨0, (some 23), none, [], [], (.h (.mov (.t 0)))⟩, ⟨1, (some 24), none, [], [], (.h (.mov (.t 1)))⟩, ⟨2, (some 25), none, [], [], (.callA (.k (.d (.fn 14 [] []))) [(.t 23), (.t 24), (.k (.d (.int .i64 1)))])⟩, ⟨3, (some 26), none, [], [], (.h (.mov (.t 0)))⟩, ⟨4, (some 27), none, [], [], (.h (.mov (.t 1)))⟩, ⟨5, (some 28), none, [], [], (.callA (.k (.d (.fn 14 [] []))) [(.t 26), (.t 27), (.k (.d (.int .i64 1)))])⟩, ⟨6, (some 9), none, [], [], (.h (.mov (.t 25)))⟩, ⟨7, (some 10), none, [], [], (.h (.mov (.t 28)))⟩] [2, 3, 9, 10]) (.seq (.reg [⟨0, (some 29), none, [], [], (.h (.mov (.t 9)))⟩, ⟨1, (some 30), none, [], [], (.h (.len (.t 29)))⟩, ⟨2, (some 31), none, [], [], (.h (.mov (.t 2)))⟩, ⟨3, (some 32), none, [], [], (.callA (.k (.d (.fn 15 [] []))) [(.t 30), (.t 31)])⟩, ⟨4, (some 33), none, [], [], (.h (.mov (.t 9)))⟩, ⟨5, (some 34), none, [], [], (.h (.len (.t 33)))⟩, ⟨6, (some 35), none, [], [], (.h (.mov (.t 2)))⟩, ⟨7, (some 36), none, [], [], (.callA (.k (.d (.fn 15 [] []))) [(.t 34), (.t 35)])⟩, ⟨8, (some 11), none, [], [], (.h (.mov (.t 32)))⟩, ⟨9, (some 12), none, [], [], (.h (.mov (.t 36)))⟩] [3, 9, 10, 11, 12]) (.seq (.reg [⟨0, (some 38), none, [], [], (.h (.mov (.t 9)))⟩, ⟨1, (some 39), none, [], [], (.callA (.k (.d (.fn 16 [] []))) [(.t 38)])⟩, ⟨2, (some 37), none, [], [], (.h (.mov (.t 39)))⟩, ⟨3, (some 40), none, [], [], (.h (.ext (.t 37) 0))⟩, ⟨4, (some 41), none, [], [], (.h (.ext (.t 37) 1))⟩, ⟨5, (some 13), none, [], [], (.alloc [.nil, .nil] 29)⟩, ⟨6, none, none, [], [], (.store (.t 13) (.t 40) 2)⟩, ⟨7, (some 14), none, [], [], (.h (.mov (.t 41)))⟩] [3, 9, 10, 11, 12, 13, 14]) (.seq (.reg [⟨0, (some 43), none, [], [], (.h (.mov (.t 10)))⟩, ⟨1, (some 44), none, [], [], (.callA (.k (.d (.fn 17 [] []))) [(.t 43)])⟩, ⟨2, (some 42), none, [], [], (.h (.mov (.t 44)))⟩, ⟨3, (some 45), none, [], [], (.h (.ext (.t 42) 0))⟩, ⟨4, (some 46), none, [], [], (.h (.ext (.t 42) 1))⟩, ⟨5, (some 15), none, [], [], (.alloc [.nil, .nil] 32)⟩, ⟨6, none, none, [], [], (.store (.t 15) (.t 45) 2)⟩, ⟨7, (some 16), none, [], [], (.h (.mov (.t 46)))⟩] [3, 9, 10, 11, 12, 13, 14, 15]) (.seq (.seq (.reg [⟨0, (some 47), none, [], [], (.h (.mov (.t 14)))⟩] [3, 9, 10, 11, 12, 13, 15, 47]) (.cond (.t 47) (.seq (.reg [⟨0, (some 48), none, [], [], (.load (.t 13) 2 true)⟩, ⟨1, (some 49), none, [], [], (.h (.mov (.t 11)))⟩, ⟨2, (some 50), none, [], [], (.callA (.k (.d (.fn 24 [] []))) [(.t 48), (.t 49)])⟩, ⟨3, (some 17), none, [], [], (.h (.mov (.t 50)))⟩] [3, 9, 10, 11, 12, 13, 15, 17]) (.seq (.seq (.reg [⟨0, (some 18), none, [], [], (.h (.mov (.k (.d (.int .i64 0)))))⟩] [3, 9, 10, 11, 12, 13, 15, 17, 18]) (.block 0 (.loop A_l6_LinOwn_L0))) (.seq (.seq (.reg [⟨0, (some 62), none, [], [], (.load (.t 13) 2 true)⟩, ⟨1, (some 63), none, [], [], (.h (.mov (.t 11)))⟩, ⟨2, (some 64), none, [], [], (.callS 2 (.k (.d (.fn 24 [] []))) [(.t 62), (.t 63)])⟩, ⟨3, (some 65), none, [], [], (.load (.t 15) 2 true)⟩, ⟨4, (some 66), none, [], [], (.h (.mov (.t 12)))⟩, ⟨5, (some 67), none, [], [], (.callA (.k (.d (.fn 25 [] []))) [(.t 65), (.t 66)])⟩, ⟨6, (some 68), none, [], [], (.callA (.k (.d (.fn 23 [] []))) [(.t 64), (.t 67)])⟩, ⟨7, (some 69), none, [], [], (.h (.un .not (.t 68)))⟩] [3, 9, 10, 11, 12, 13, 69]) (.cond (.t 69) (.seq (.reg [⟨0, (some 8), none, [], [], (.h (.mov (.k (.d (.bool false)))))⟩] [8]) .ret) .skip)) (.seq (.reg [⟨0, (some 19), none, [], [], (.h (.mov (.k (.d (.int .i64 0)))))⟩] [3, 9, 10, 11, 12, 13, 19]) (.block 2 (.loop A_l6_LinOwn_L1)))))) .skip)) (.seq (.reg [⟨0, (some 96), none, [], [], (.h (.mov (.t 9)))⟩, ⟨1, (some 97), none, [], [], (.h (.mov (.t 10)))⟩, ⟨2, (some 98), none, [], [], (.callA (.k (.d (.fn 30 [] []))) [(.t 96), (.t 97)])⟩, ⟨3, (some 99), none, [], [], (.h (.mov (.t 98)))⟩, ⟨4, (some 100), (some (99, true)), [], [], (.h (.mov (.t 11)))⟩, ⟨5, (some 101), (some (99, true)), [], [], (.h (.mov (.t 12)))⟩, ⟨6, (some 102), (some (99, true)), [], [], (.callA (.k (.d (.fn 23 [] []))) [(.t 100), (.t 101)])⟩, ⟨7, (some 103), none, [], [], (.h (.pick (.t 99) (.t 102) (.k (.d (.bool false)))))⟩, ⟨8, (some 8), none, [], [], (.h (.mov (.t 103)))⟩] [8]) .ret))))))))
theorem A_l6_LinOwn_comp : compF Try.prog 11 = some ⟨104, [(8, none)], A_l6_LinOwn.strip⟩ := by kernel_rfl
/-- What the document's Part hands back. -/
def luR (B : List (List Nat)) (π : List Int) (n : Nat) : Heap :=
  [(9, [rowIV π]), (4, [[.sl 1 0 0 n 1 n, .sl 9 0 0 n 1 n]]), (1, hdo 1 1 n n :: B.map rowV), (0, [[.sl 1 0 0 n 1 n, .sl 9 0 0 n 1 n]])]
theorem luR_cells {B : List (List Nat)} {π : List Int} {n : Nat} {X q : Nat} {cells : List V} (h : Heap.get (luR B π n) X q = some cells) :
    cells = rowIV π ∨ cells = [V.sl 1 0 0 n 1 n, V.sl 9 0 0 n 1 n] ∨ cells = hdo 1 1 n n ∨ ∃ xs, xs ∈ B ∧ cells = rowV xs := by
  simp only [luR, get_cons, get_nil] at h
  split at h
  · rcases q with _ | q <;> simp at h; exact .inl h.symm
  · split at h
    · rcases q with _ | q <;> simp at h; exact .inr (.inl h.symm)
    · split at h
      · rcases q with _ | q
        · simp at h; exact .inr (.inr (.inl h.symm))
        · simp only [List.getElem?_cons_succ, List.getElem?_map] at h
          obtain ⟨xs, h1, rfl⟩ := Option.map_eq_some_iff.1 h
          exact .inr (.inr (.inr ⟨xs, List.mem_of_getElem? h1, rfl⟩))
      · split at h
        · rcases q with _ | q <;> simp at h; exact .inr (.inl h.symm)
        · cases h
theorem r6_Part_some (A : List (List Nat)) (n : Nat) (hA : Sq n A) (h0 : 0 < n) (hn : n < 2 ^ 40) (B : List (List Nat)) (π : List Int) (h : partP A n n = some (B, π)) :
    AC Try.prog 17 [.d (rowsD A)] [] (luR B π n) (.tup [.agg [.sl 1 0 0 n 1 n, .sl 9 0 0 n 1 n], fB true]) := by
  refine AC_introA A_r6_Part_comp rfl mixed (fun _ => False) (by simp [get_nil]) (r6_Part_walk A n hA h0 hn _ (fun B' π' h' hB hπ => ?_) (fun s h' _ _ => ?_))
  · obtain ⟨rfl, rfl⟩ : B = B' ∧ π = π' := by rw [h] at h'; simpa using h'
    refine endsT_keep (fun _ h => h) ⟨.agg [.sl 1 0 0 n 1 n, .sl 9 0 0 n 1 n], fB true, resV_cell (by decide) rfl (cells := [.sl 1 0 0 n 1 n, .sl 9 0 0 n 1 n]) (by simp [get_cons]) rfl (by simp) (by simp [ldv]), resV_tmpI (t := 3) (by decide) rfl, rfl⟩ rfl ?_ (keep_cells fun X q cells hX v hv => ?_)
    · refine .tup rfl fun j hj => ?_
      rcases j with _ | _ | j
      · refine .agg rfl fun j hj => ?_
        rcases j with _ | _ | j
        · exact .sl (by simp [luR, get_cons]) rfl
        · exact .sl (by simp [luR, get_cons]) rfl
        · simp at hj; omega
      · exact .d (.d _)
      · simp at hj; omega
    · have cell : ∀ v ∈ [V.sl 1 0 0 n 1 n, .sl 9 0 0 n 1 n], LeV (luR B π n) (luR B π n) (fun X q => (X, q)) v v := by
        intro v hv
        rcases List.mem_cons.1 hv with rfl | hv
        · exact .sl (by simp [luR, get_cons]) rfl
        · rcases List.mem_cons.1 hv with rfl | hv
          · exact .sl (by simp [luR, get_cons]) rfl
          · cases hv
      rcases luR_cells hX with rfl | rfl | rfl | ⟨xs, _, rfl⟩
      · exact mem_rowIV hv _ _ _
      · exact cell v hv
      · exact mem_hdo hv fun r hr => by have := hB.1; simp [luR, get_cons]; omega
      · exact mem_rowV hv _ _ _
  · rw [h] at h'; cases h'
theorem r6_Part_nil (A : List (List Nat)) (n : Nat) (hA : Sq n A) (h0 : 0 < n) (hn : n < 2 ^ 40) (h : partP A n n = none) :
    AC Try.prog 17 [.d (rowsD A)] [] [] (.tup [.agg [.nil, .nil], fB false]) := by
  refine AC_introA A_r6_Part_comp rfl mixed (fun _ => False) (by simp [get_nil]) (r6_Part_walk A n hA h0 hn _ (fun B' π' h' hB hπ => ?_) (fun s h' e1 e2 => ?_))
  · rw [h] at h'; cases h'
  · refine ⟨.tup [.agg [.nil, .nil], fB false], fun X r => (X, r), ⟨.agg [.nil, .nil], fB false, resV_cell (by decide) (by rw [e1]; rfl) e2 rfl (by simp) (by simp [ldv]), resV_tmpI (t := 3) (by decide) (by rw [e1]; rfl), rfl⟩, .fin (.tup rfl fun j hj => ?_)⟩
    rcases j with _ | _ | j
    · refine .agg rfl fun j hj => ?_
      rcases j with _ | _ | j
      · exact .nil
      · exact .nil
      · simp at hj; omega
    · exact .d (.d _)
    · simp at hj; omega
theorem pure_tupN (b : Bool) : PureV (.tup [.agg [.nil, .nil], fB b]) := by
  refine .tup fun j hj => ?_
  rcases j with _ | _ | j
  · refine .agg fun j hj => ?_
    rcases j with _ | _ | j
    · exact .nil
    · exact .nil
    · simp at hj; omega
  · exact .bool _
  · simp at hj; omega
theorem r6part_named {L : Heap} {H r0 X o n : Nat} {A B : List (List Nat)} {π : List Int} (k : Nat) (hk : L.next ≤ k) (hA : Sq n A) (h0 : 0 < n) (hn : n < 2 ^ 40) (hH : L.get H r0 = some (hdo X o n n)) (hX : ∀ r, r < n → L.get X (r + o) = some (rowV (A.getD r [])))
    (hp : partP A n n = some (B, π)) (K : V → Heap → Prop)
    (h : K (.tup [.agg [.sl (1 + k) 0 0 n 1 n, .sl (9 + k) 0 0 n 1 n], fB true]) ((9 + k, [rowIV π]) :: (4 + k, [[.sl (1 + k) 0 0 n 1 n, .sl (9 + k) 0 0 n 1 n]]) :: (1 + k, hdo (1 + k) 1 n n :: B.map rowV) :: (0 + k, [[.sl (1 + k) 0 0 n 1 n, .sl (9 + k) 0 0 n 1 n]]) :: L)) :
    callG Try.prog 17 [.sl H r0 0 n 1 n] L K := by
  refine callG_ac (AC_frameK k hk (us := [.d (rowsD A)]) (r6_Part_some A n hA h0 hn B π hp) rfl (.inr ⟨fun j hj => ?_, ?_, fun X q cells hX j hj => ?_⟩)) ?_
  · obtain rfl : j = 0 := by simpa using hj
    exact snp_rows hH (fun r hr => ⟨hX r hr, hA.2 r hr⟩) hA.1 rfl
  · refine .tup fun j hj => ?_
    rcases j with _ | _ | j
    · refine .agg fun j hj => ?_
      rcases j with _ | _ | j
      · exact .sl ..
      · exact .sl ..
      · simp at hj; omega
    · exact .bool _
    · simp at hj; omega
  · rcases luR_cells hX with rfl | rfl | rfl | ⟨xs, _, rfl⟩
    · have : j < π.length := by simpa using hj
      rw [getD_rowIV _ _ this]; exact .int _ _
    · rcases j with _ | _ | j
      · exact .sl ..
      · exact .sl ..
      · simp at hj; omega
    · have : j < n := by simpa [hdo_length] using hj
      rw [hdo_getD _ _ _ _ _ this]; exact .sl ..
    · exact pure_rowV _ j hj
  have hh : (hdo 1 1 n n).map (V.ren (upF k)) = hdo (1 + k) 1 n n := hdo_ren _ 1 1 n n (1 + k) 1 (fun j _ => rfl)
  have hf : (B.map rowV).map (fun c => c.map (V.ren (upF k))) = B.map rowV := ren_fam _ B
  have hi' : (rowIV π).map (V.ren (upF k)) = rowIV π := ren_rowIV _ _
  simpa only [Heap.up, luR, V.ren, V.renL, hh, hf, hi', upF, List.map_cons, List.map_nil, List.cons_append, List.nil_append] using h
/-- Either Part, of rows that cannot be parted. -/
theorem partN_named {L : Heap} {f : FuncId} {H r0 X o n : Nat} {A : List (List Nat)} (hA : Sq n A) (hH : L.get H r0 = some (hdo X o n n)) (hX : ∀ r, r < n → L.get X (r + o) = some (rowV (A.getD r [])))
    (hc : AC Try.prog f [.d (rowsD A)] [] [] (.tup [.agg [.nil, .nil], fB false])) (K : V → Heap → Prop) (h : K (.tup [.agg [.nil, .nil], fB false]) L) : callG Try.prog f [.sl H r0 0 n 1 n] L K := by
  refine callG_ac (AC_frame (us := [.d (rowsD A)]) hc rfl (.inr ⟨fun j hj => ?_, pure_tupN _, fun X q cells h => by simp [get_nil] at h⟩)) ?_
  · obtain rfl : j = 0 := by simpa using hj
    exact snp_rows hH (fun r hr => ⟨hX r hr, hA.2 r hr⟩) hA.1 rfl
  · simpa [Heap.up, V.ren, V.renL] using h
theorem r6solve_named {L : Heap} {H r0 X o n Y y0 : Nat} {vb : V} {B : List (List Nat)} {π : List Int} {b : List Nat} (k : Nat) (hk : L.next ≤ k) (hB : Sq n B) (hn : n < 2 ^ 40) (hH : L.get H r0 = some (hdo X o n n)) (hX : ∀ r, r < n → L.get X (r + o) = some (rowV (B.getD r [])))
    (hπ : L.get Y y0 = some (rowIV π)) (hpm : Pm n π) (hb : b.length = n) (hvb : Snap L vb (.d (rowD b))) (K : V → Heap → Prop)
    (h : K (.sl (2 + k) 0 0 n 1 n) ((2 + k, [rowV (solveP B π b n)]) :: L)) :
    callG Try.prog 25 [.agg [.sl H r0 0 n 1 n, .sl Y y0 0 n 1 n], vb] L K := by
  refine callG_ac (AC_frameK k hk (us := [.agg [.d (rowsD B), .d (rowI π)], .d (rowD b)]) (r6_Solve_row B π b n hB hpm hb hn) rfl (.inr ⟨fun j hj => ?_, .sl .., fun X q cells hX j hj => ?_⟩)) ?_
  · rcases j with _ | _ | j
    · refine .agg rfl fun j hj => ?_
      rcases j with _ | _ | j
      · exact snp_rows hH (fun r hr => ⟨hX r hr, hB.2 r hr⟩) hB.1 rfl
      · exact snp_rowI hπ hpm.1 rfl
      · simp at hj; omega
    · exact hvb
    · simp at hj; omega
  · rw [get_cons, get_nil] at hX
    split at hX
    · rcases q with _ | q <;> simp at hX; subst hX; exact pure_rowV _ j hj
    · cases hX
  have hfx : (rowV (solveP B π b n)).map (V.ren (upF k)) = rowV (solveP B π b n) := ren_rowV _ _
  simpa only [Heap.up, V.ren, hfx, upF, List.map_cons, List.map_nil, List.cons_append, List.nil_append] using h
set_option maxRecDepth 8000 in
theorem own_L0 (N : Nat → Prop) (x : List Nat) (by' : Int) (k X : Nat) (v9 v10 v11 v12 v13 v15 : V) (L : Heap) (hx : x.length = k) (hk : k < 2 ^ 20) (Q : Ex → T → Prop)
    (hQ : ∀ v w y, y.length = k → Q (.exit 0) ⟨[(3, fI by'), (9, v9), (10, v10), (11, v11), (12, v12), (13, v13), (15, v15), (17, .sl X 0 0 k 1 k), (18, v), (54, w)], (X, [rowV y]) :: L⟩) :
    WA Try.prog N 104 (.loop A_l6_LinOwn_L0) Q ⟨[(3, fI by'), (9, v9), (10, v10), (11, v11), (12, v12), (13, v13), (15, v15), (17, .sl X 0 0 k 1 k), (18, fI 0)], (X, [rowV x]) :: L⟩ := by
  refine WA_for (n := k) (fun c s => ∃ i y, c + i = k ∧ y.length = k ∧ s = ⟨[(3, fI by'), (9, v9), (10, v10), (11, v11), (12, v12), (13, v13), (15, v15), (17, .sl X 0 0 k 1 k), (18, fI i)], (X, [rowV y]) :: L⟩) ⟨0, x, by omega, hx, rfl⟩ ?_
  rintro c s ⟨i, y, hc, hy, rfl⟩
  simp -implicitDefEqProofs only [xC_skip, evS, decide_true, decide_false, decide_eq_true_eq, sides, Inst.places, List.zip_cons_cons, List.zip_nil_right, List.zip_nil_left, List.mem_cons, List.not_mem_nil, forall_eq_or_imp, forall_eq, false_implies, implies_true, Apart, xeff, xhv, hv, effC, xev, look, argSl, atL, drops, keep, inBlockT, pickX, callX, callCX, callSX, callee, List.map_cons, List.map_nil, List.append_nil, List.nil_append, List.cons_append, reduceCtorEq, ↓reduceIte, Nat.reduceEqDiff, Nat.reduceAdd, Nat.reduceMul, eq_self, List.length_replicate, Int.reduceToNat, Int.reduceAdd, Int.reduceSub, Int.reduceMul, Int.reduceNeg, Int.reduceLT, Int.reduceLE, rowD, rowI, rowsD, ivD, rowG, rowIG, rowsG, ivG, bne_self_eq_false, beq_self_eq_true, List.length_map, List.getD_cons_zero, List.getD_cons_succ, List.drop_succ_cons, List.drop_zero, List.take_succ_cons, List.take_zero, List.take_nil, List.getElem?_cons_zero, List.getElem?_cons_succ, List.length_cons, List.length_nil, List.length_set, List.set_cons_zero, List.set_cons_succ, List.all_cons, List.all_nil, Nat.reduceLT, Nat.reduceLeDiff, ne_eq, Option.some.injEq, fillV, partsV, V.okPart, gt_iff_lt, ge_iff_le, A_l6_LinOwn_L0]
  refine condC_intro (fun h => ?_) (fun h => ?_)
  · replace h := of_decide_eq_true h
    simp -implicitDefEqProofs only [xC_skip, evS, decide_true, decide_false, decide_eq_true_eq, sides, Inst.places, List.zip_cons_cons, List.zip_nil_right, List.zip_nil_left, List.mem_cons, List.not_mem_nil, forall_eq_or_imp, forall_eq, false_implies, implies_true, Apart, xeff, xhv, hv, effC, xev, look, argSl, atL, drops, keep, inBlockT, pickX, callX, callCX, callSX, callee, List.map_cons, List.map_nil, List.append_nil, List.nil_append, List.cons_append, reduceCtorEq, ↓reduceIte, Nat.reduceEqDiff, Nat.reduceAdd, Nat.reduceMul, eq_self, List.length_replicate, Int.reduceToNat, Int.reduceAdd, Int.reduceSub, Int.reduceMul, Int.reduceNeg, Int.reduceLT, Int.reduceLE, rowD, rowI, rowsD, ivD, rowG, rowIG, rowsG, ivG, bne_self_eq_false, beq_self_eq_true, List.length_map, List.getD_cons_zero, List.getD_cons_succ, List.drop_succ_cons, List.drop_zero, List.take_succ_cons, List.take_zero, List.take_nil, List.getElem?_cons_zero, List.getElem?_cons_succ, List.length_cons, List.length_nil, List.length_set, List.set_cons_zero, List.set_cons_succ, List.all_cons, List.all_nil, Nat.reduceLT, Nat.reduceLeDiff, ne_eq, Option.some.injEq, fillV, partsV, V.okPart, gt_iff_lt, ge_iff_le]
    (repeat (with_reducible refine And.intro (by omega) ?_))
    rw [wrapI (by omega) (by omega)]
    exact ⟨c - 1, by omega, i + 1, _, by omega, by simpa using hy, rfl⟩
  · replace h := of_decide_eq_false h
    simp -implicitDefEqProofs only [xC_skip, evS, decide_true, decide_false, decide_eq_true_eq, sides, Inst.places, List.zip_cons_cons, List.zip_nil_right, List.zip_nil_left, List.mem_cons, List.not_mem_nil, forall_eq_or_imp, forall_eq, false_implies, implies_true, Apart, xeff, xhv, hv, effC, xev, look, argSl, atL, drops, keep, inBlockT, pickX, callX, callCX, callSX, callee, List.map_cons, List.map_nil, List.append_nil, List.nil_append, List.cons_append, reduceCtorEq, ↓reduceIte, Nat.reduceEqDiff, Nat.reduceAdd, Nat.reduceMul, eq_self, List.length_replicate, Int.reduceToNat, Int.reduceAdd, Int.reduceSub, Int.reduceMul, Int.reduceNeg, Int.reduceLT, Int.reduceLE, rowD, rowI, rowsD, ivD, rowG, rowIG, rowsG, ivG, bne_self_eq_false, beq_self_eq_true, List.length_map, List.getD_cons_zero, List.getD_cons_succ, List.drop_succ_cons, List.drop_zero, List.take_succ_cons, List.take_zero, List.take_nil, List.getElem?_cons_zero, List.getElem?_cons_succ, List.length_cons, List.length_nil, List.length_set, List.set_cons_zero, List.set_cons_succ, List.all_cons, List.all_nil, Nat.reduceLT, Nat.reduceLeDiff, ne_eq, Option.some.injEq, fillV, partsV, V.okPart, gt_iff_lt, ge_iff_le]
    exact hQ _ _ y hy
def ownH (R : List (List Nat)) (π : List Int) (A : List (List Nat)) (k : Nat) : Heap :=
  [(3005, [rowIV π]), (3002, hdo 3002 1 k k :: R.map rowV), (1206, [[.sl 3002 0 0 k 1 k, .sl 3005 0 0 k 1 k]]), (1200, A.map rowV), (1100, [hdo 1200 0 k k]), (200, A.map rowV), (100, [hdo 200 0 k k])]
set_option maxRecDepth 8000 in
theorem own_L2 (N : Nat → Prop) (R A : List (List Nat)) (π : List Int) (by' : Int) (k i : Nat) (v9 v10 v11 v12 : V) (hR : Sq k R) (hi : i < k) (hk : k < 2 ^ 20) (Q : Ex → T → Prop)
    (hQ : ∀ v w R', Sq k R' → Q (.exit 4) ⟨[(3, fI by'), (9, v9), (10, v10), (11, v11), (12, v12), (13, .ptr 1206 0 0 2), (19, fI i), (20, v), (84, w)], ownH R' π A k⟩) :
    WA Try.prog N 104 (.loop A_l6_LinOwn_L2) Q ⟨[(3, fI by'), (9, v9), (10, v10), (11, v11), (12, v12), (13, .ptr 1206 0 0 2), (19, fI i), (20, fI 0)], ownH R π A k⟩ := by
  refine WA_for (n := k) (fun c s => ∃ j R', c + j = k ∧ Sq k R' ∧ s = ⟨[(3, fI by'), (9, v9), (10, v10), (11, v11), (12, v12), (13, .ptr 1206 0 0 2), (19, fI i), (20, fI j)], ownH R' π A k⟩) ⟨0, R, by omega, hR, rfl⟩ ?_
  rintro c s ⟨j, R', hc, hR', rfl⟩
  have g1 := hR'.2 i hi
  have hl := hR'.1
  have hiR : i < R'.length := by omega
  simp -implicitDefEqProofs only [xC_skip, evS, decide_true, decide_false, decide_eq_true_eq, sides, Inst.places, List.zip_cons_cons, List.zip_nil_right, List.zip_nil_left, List.mem_cons, List.not_mem_nil, forall_eq_or_imp, forall_eq, false_implies, implies_true, Apart, xeff, xhv, hv, effC, xev, look, argSl, atL, drops, keep, inBlockT, pickX, callX, callCX, callSX, callee, List.map_cons, List.map_nil, List.append_nil, List.nil_append, List.cons_append, reduceCtorEq, ↓reduceIte, Nat.reduceEqDiff, Nat.reduceAdd, Nat.reduceMul, eq_self, List.length_replicate, Int.reduceToNat, Int.reduceAdd, Int.reduceSub, Int.reduceMul, Int.reduceNeg, Int.reduceLT, Int.reduceLE, rowD, rowI, rowsD, ivD, rowG, rowIG, rowsG, ivG, bne_self_eq_false, beq_self_eq_true, List.length_map, List.getD_cons_zero, List.getD_cons_succ, List.drop_succ_cons, List.drop_zero, List.take_succ_cons, List.take_zero, List.take_nil, List.getElem?_cons_zero, List.getElem?_cons_succ, List.length_cons, List.length_nil, List.length_set, List.set_cons_zero, List.set_cons_succ, List.all_cons, List.all_nil, Nat.reduceLT, Nat.reduceLeDiff, ne_eq, Option.some.injEq, fillV, partsV, V.okPart, gt_iff_lt, ge_iff_le, A_l6_LinOwn_L2, ownH, hdo_getD _ _ _ _ _ hi]
  (repeat (with_reducible refine And.intro (by omega) ?_))
  refine condC_intro (fun h => ?_) (fun h => ?_)
  · replace h := of_decide_eq_true h
    simp -implicitDefEqProofs only [xC_skip, evS, decide_true, decide_false, decide_eq_true_eq, sides, Inst.places, List.zip_cons_cons, List.zip_nil_right, List.zip_nil_left, List.mem_cons, List.not_mem_nil, forall_eq_or_imp, forall_eq, false_implies, implies_true, Apart, xeff, xhv, hv, effC, xev, look, argSl, atL, drops, keep, inBlockT, pickX, callX, callCX, callSX, callee, List.map_cons, List.map_nil, List.append_nil, List.nil_append, List.cons_append, reduceCtorEq, ↓reduceIte, Nat.reduceEqDiff, Nat.reduceAdd, Nat.reduceMul, eq_self, List.length_replicate, Int.reduceToNat, Int.reduceAdd, Int.reduceSub, Int.reduceMul, Int.reduceNeg, Int.reduceLT, Int.reduceLE, rowD, rowI, rowsD, ivD, rowG, rowIG, rowsG, ivG, bne_self_eq_false, beq_self_eq_true, List.length_map, List.getD_cons_zero, List.getD_cons_succ, List.drop_succ_cons, List.drop_zero, List.take_succ_cons, List.take_zero, List.take_nil, List.getElem?_cons_zero, List.getElem?_cons_succ, List.length_cons, List.length_nil, List.length_set, List.set_cons_zero, List.set_cons_succ, List.all_cons, List.all_nil, Nat.reduceLT, Nat.reduceLeDiff, ne_eq, Option.some.injEq, fillV, partsV, V.okPart, gt_iff_lt, ge_iff_le, hdo_getD _ _ _ _ _ hi, getE R' i hiR, setE]
    (repeat (with_reducible refine And.intro (by omega) ?_))
    rw [wrapI (by omega) (by omega)]
    exact ⟨c - 1, by omega, j + 1, up2 R' i j (FloatKind.nearest .f64 by'), by omega, up2_sq _ _ _ _ _ hR', rfl⟩
  · replace h := of_decide_eq_false h
    simp -implicitDefEqProofs only [xC_skip, evS, decide_true, decide_false, decide_eq_true_eq, sides, Inst.places, List.zip_cons_cons, List.zip_nil_right, List.zip_nil_left, List.mem_cons, List.not_mem_nil, forall_eq_or_imp, forall_eq, false_implies, implies_true, Apart, xeff, xhv, hv, effC, xev, look, argSl, atL, drops, keep, inBlockT, pickX, callX, callCX, callSX, callee, List.map_cons, List.map_nil, List.append_nil, List.nil_append, List.cons_append, reduceCtorEq, ↓reduceIte, Nat.reduceEqDiff, Nat.reduceAdd, Nat.reduceMul, eq_self, List.length_replicate, Int.reduceToNat, Int.reduceAdd, Int.reduceSub, Int.reduceMul, Int.reduceNeg, Int.reduceLT, Int.reduceLE, rowD, rowI, rowsD, ivD, rowG, rowIG, rowsG, ivG, bne_self_eq_false, beq_self_eq_true, List.length_map, List.getD_cons_zero, List.getD_cons_succ, List.drop_succ_cons, List.drop_zero, List.take_succ_cons, List.take_zero, List.take_nil, List.getElem?_cons_zero, List.getElem?_cons_succ, List.length_cons, List.length_nil, List.length_set, List.set_cons_zero, List.set_cons_succ, List.all_cons, List.all_nil, Nat.reduceLT, Nat.reduceLeDiff, ne_eq, Option.some.injEq, fillV, partsV, V.okPart, gt_iff_lt, ge_iff_le]
    exact hQ _ _ R' hR'
set_option maxRecDepth 8000 in
theorem own_L1 (N : Nat → Prop) (R A : List (List Nat)) (π : List Int) (by' : Int) (k : Nat) (v9 v10 v11 v12 : V) (hR : Sq k R) (hk : k < 2 ^ 20) (Q : Ex → T → Prop)
    (hQ : ∀ v w R', Sq k R' → Q (.exit 2) ⟨[(3, fI by'), (9, v9), (10, v10), (11, v11), (12, v12), (13, .ptr 1206 0 0 2), (19, v), (74, w)], ownH R' π A k⟩) :
    WA Try.prog N 104 (.loop A_l6_LinOwn_L1) Q ⟨[(3, fI by'), (9, v9), (10, v10), (11, v11), (12, v12), (13, .ptr 1206 0 0 2), (19, fI 0)], ownH R π A k⟩ := by
  refine WA_for (n := k) (fun c s => ∃ i R', c + i = k ∧ Sq k R' ∧ s = ⟨[(3, fI by'), (9, v9), (10, v10), (11, v11), (12, v12), (13, .ptr 1206 0 0 2), (19, fI i)], ownH R' π A k⟩) ⟨0, R, by omega, hR, rfl⟩ ?_
  rintro c s ⟨i, R', hc, hR', rfl⟩
  have hl := hR'.1
  simp -implicitDefEqProofs only [xC_skip, evS, decide_true, decide_false, decide_eq_true_eq, sides, Inst.places, List.zip_cons_cons, List.zip_nil_right, List.zip_nil_left, List.mem_cons, List.not_mem_nil, forall_eq_or_imp, forall_eq, false_implies, implies_true, Apart, xeff, xhv, hv, effC, xev, look, argSl, atL, drops, keep, inBlockT, pickX, callX, callCX, callSX, callee, List.map_cons, List.map_nil, List.append_nil, List.nil_append, List.cons_append, reduceCtorEq, ↓reduceIte, Nat.reduceEqDiff, Nat.reduceAdd, Nat.reduceMul, eq_self, List.length_replicate, Int.reduceToNat, Int.reduceAdd, Int.reduceSub, Int.reduceMul, Int.reduceNeg, Int.reduceLT, Int.reduceLE, rowD, rowI, rowsD, ivD, rowG, rowIG, rowsG, ivG, bne_self_eq_false, beq_self_eq_true, List.length_map, List.getD_cons_zero, List.getD_cons_succ, List.drop_succ_cons, List.drop_zero, List.take_succ_cons, List.take_zero, List.take_nil, List.getElem?_cons_zero, List.getElem?_cons_succ, List.length_cons, List.length_nil, List.length_set, List.set_cons_zero, List.set_cons_succ, List.all_cons, List.all_nil, Nat.reduceLT, Nat.reduceLeDiff, ne_eq, Option.some.injEq, fillV, partsV, V.okPart, gt_iff_lt, ge_iff_le, A_l6_LinOwn_L1, ownH]
  refine condC_intro (fun h => ?_) (fun h => ?_)
  · replace h := of_decide_eq_true h
    simp -implicitDefEqProofs only [xC_skip, evS, decide_true, decide_false, decide_eq_true_eq, sides, Inst.places, List.zip_cons_cons, List.zip_nil_right, List.zip_nil_left, List.mem_cons, List.not_mem_nil, forall_eq_or_imp, forall_eq, false_implies, implies_true, Apart, xeff, xhv, hv, effC, xev, look, argSl, atL, drops, keep, inBlockT, pickX, callX, callCX, callSX, callee, List.map_cons, List.map_nil, List.append_nil, List.nil_append, List.cons_append, reduceCtorEq, ↓reduceIte, Nat.reduceEqDiff, Nat.reduceAdd, Nat.reduceMul, eq_self, List.length_replicate, Int.reduceToNat, Int.reduceAdd, Int.reduceSub, Int.reduceMul, Int.reduceNeg, Int.reduceLT, Int.reduceLE, rowD, rowI, rowsD, ivD, rowG, rowIG, rowsG, ivG, bne_self_eq_false, beq_self_eq_true, List.length_map, List.getD_cons_zero, List.getD_cons_succ, List.drop_succ_cons, List.drop_zero, List.take_succ_cons, List.take_zero, List.take_nil, List.getElem?_cons_zero, List.getElem?_cons_succ, List.length_cons, List.length_nil, List.length_set, List.set_cons_zero, List.set_cons_succ, List.all_cons, List.all_nil, Nat.reduceLT, Nat.reduceLeDiff, ne_eq, Option.some.injEq, fillV, partsV, V.okPart, gt_iff_lt, ge_iff_le]
    refine own_L2 N R' A π by' k i v9 v10 v11 v12 hR' h hk _ fun v w R2 hR2 => ?_
    simp -implicitDefEqProofs only [xC_skip, evS, decide_true, decide_false, decide_eq_true_eq, sides, Inst.places, List.zip_cons_cons, List.zip_nil_right, List.zip_nil_left, List.mem_cons, List.not_mem_nil, forall_eq_or_imp, forall_eq, false_implies, implies_true, Apart, xeff, xhv, hv, effC, xev, look, argSl, atL, drops, keep, inBlockT, pickX, callX, callCX, callSX, callee, List.map_cons, List.map_nil, List.append_nil, List.nil_append, List.cons_append, reduceCtorEq, ↓reduceIte, Nat.reduceEqDiff, Nat.reduceAdd, Nat.reduceMul, eq_self, List.length_replicate, Int.reduceToNat, Int.reduceAdd, Int.reduceSub, Int.reduceMul, Int.reduceNeg, Int.reduceLT, Int.reduceLE, rowD, rowI, rowsD, ivD, rowG, rowIG, rowsG, ivG, bne_self_eq_false, beq_self_eq_true, List.length_map, List.getD_cons_zero, List.getD_cons_succ, List.drop_succ_cons, List.drop_zero, List.take_succ_cons, List.take_zero, List.take_nil, List.getElem?_cons_zero, List.getElem?_cons_succ, List.length_cons, List.length_nil, List.length_set, List.set_cons_zero, List.set_cons_succ, List.all_cons, List.all_nil, Nat.reduceLT, Nat.reduceLeDiff, ne_eq, Option.some.injEq, fillV, partsV, V.okPart, gt_iff_lt, ge_iff_le, ownH]
    rw [wrapI (by omega) (by omega)]
    exact ⟨c - 1, by omega, i + 1, R2, by omega, hR2, rfl⟩
  · replace h := of_decide_eq_false h
    simp -implicitDefEqProofs only [xC_skip, evS, decide_true, decide_false, decide_eq_true_eq, sides, Inst.places, List.zip_cons_cons, List.zip_nil_right, List.zip_nil_left, List.mem_cons, List.not_mem_nil, forall_eq_or_imp, forall_eq, false_implies, implies_true, Apart, xeff, xhv, hv, effC, xev, look, argSl, atL, drops, keep, inBlockT, pickX, callX, callCX, callSX, callee, List.map_cons, List.map_nil, List.append_nil, List.nil_append, List.cons_append, reduceCtorEq, ↓reduceIte, Nat.reduceEqDiff, Nat.reduceAdd, Nat.reduceMul, eq_self, List.length_replicate, Int.reduceToNat, Int.reduceAdd, Int.reduceSub, Int.reduceMul, Int.reduceNeg, Int.reduceLT, Int.reduceLE, rowD, rowI, rowsD, ivD, rowG, rowIG, rowsG, ivG, bne_self_eq_false, beq_self_eq_true, List.length_map, List.getD_cons_zero, List.getD_cons_succ, List.drop_succ_cons, List.drop_zero, List.take_succ_cons, List.take_zero, List.take_nil, List.getElem?_cons_zero, List.getElem?_cons_succ, List.length_cons, List.length_nil, List.length_set, List.set_cons_zero, List.set_cons_succ, List.all_cons, List.all_nil, Nat.reduceLT, Nat.reduceLeDiff, ne_eq, Option.some.injEq, fillV, partsV, V.okPart, gt_iff_lt, ge_iff_le]
    exact hQ _ _ R' hR'
set_option maxRecDepth 8000 in
theorem l6_LinOwn_con (n : Int) (ns bs : List Int) (by' : Int) (hns : ns.length < 2 ^ 62) (hbs : bs.length < 2 ^ 62) : Con Try.prog 11 [fI n, .d (rowI ns), .d (rowI bs), fI by'] (fB true) := by
  refine Con_introA A_l6_LinOwn_comp rfl mixed ?_
  simp -implicitDefEqProofs only [xC_skip, evS, decide_true, decide_false, decide_eq_true_eq, sides, Inst.places, List.zip_cons_cons, List.zip_nil_right, List.zip_nil_left, List.mem_cons, List.not_mem_nil, forall_eq_or_imp, forall_eq, false_implies, implies_true, Apart, xeff, xhv, hv, effC, xev, look, argSl, atL, drops, keep, inBlockT, pickX, callX, callCX, callSX, callee, List.map_cons, List.map_nil, List.append_nil, List.nil_append, List.cons_append, reduceCtorEq, ↓reduceIte, Nat.reduceEqDiff, Nat.reduceAdd, Nat.reduceMul, eq_self, List.length_replicate, Int.reduceToNat, Int.reduceAdd, Int.reduceSub, Int.reduceMul, Int.reduceNeg, Int.reduceLT, Int.reduceLE, rowD, rowI, rowsD, ivD, rowG, rowIG, rowsG, ivG, bne_self_eq_false, beq_self_eq_true, List.length_map, List.getD_cons_zero, List.getD_cons_succ, List.drop_succ_cons, List.drop_zero, List.take_succ_cons, List.take_zero, List.take_nil, List.getElem?_cons_zero, List.getElem?_cons_succ, List.length_cons, List.length_nil, List.length_set, List.set_cons_zero, List.set_cons_succ, List.all_cons, List.all_nil, Nat.reduceLT, Nat.reduceLeDiff, ne_eq, Option.some.injEq, fillV, partsV, V.okPart, gt_iff_lt, ge_iff_le, A_l6_LinOwn]
  first | refine callG_con (l6_known_con) rfl ?_ | refine callCG_con (l6_known_con) rfl ?_ | refine callSG_con (l6_known_con) rfl ?_
  simp -implicitDefEqProofs only [xC_skip, evS, decide_true, decide_false, decide_eq_true_eq, sides, Inst.places, List.zip_cons_cons, List.zip_nil_right, List.zip_nil_left, List.mem_cons, List.not_mem_nil, forall_eq_or_imp, forall_eq, false_implies, implies_true, Apart, xeff, xhv, hv, effC, xev, look, argSl, atL, drops, keep, inBlockT, pickX, callX, callCX, callSX, callee, List.map_cons, List.map_nil, List.append_nil, List.nil_append, List.cons_append, reduceCtorEq, ↓reduceIte, Nat.reduceEqDiff, Nat.reduceAdd, Nat.reduceMul, eq_self, List.length_replicate, Int.reduceToNat, Int.reduceAdd, Int.reduceSub, Int.reduceMul, Int.reduceNeg, Int.reduceLT, Int.reduceLE, rowD, rowI, rowsD, ivD, rowG, rowIG, rowsG, ivG, bne_self_eq_false, beq_self_eq_true, List.length_map, List.getD_cons_zero, List.getD_cons_succ, List.drop_succ_cons, List.drop_zero, List.take_succ_cons, List.take_zero, List.take_nil, List.getElem?_cons_zero, List.getElem?_cons_succ, List.length_cons, List.length_nil, List.length_set, List.set_cons_zero, List.set_cons_succ, List.all_cons, List.all_nil, Nat.reduceLT, Nat.reduceLeDiff, ne_eq, Option.some.injEq, fillV, partsV, V.okPart, gt_iff_lt, ge_iff_le]
  have hm := l6_Make_ac n 1 ns hns
  have m1 := Int.emod_nonneg n (by decide : (5 : Int) ≠ 0)
  have m2 := Int.emod_lt_of_pos n (by decide : (0 : Int) < 5)
  have em : makeM n ns 1 = mkM ns ((n % 5).toNat + 1) ((n % 5).toNat + 1) := by
    unfold makeM
    rw [if_neg (by decide)]
  rw [em] at hm
  have hk1 : 0 < (n % 5).toNat + 1 := by omega
  have hk5 : (n % 5).toNat + 1 ≤ 5 := by omega
  generalize (n % 5).toNat + 1 = k at *
  refine callG_ac hm ?_
  have hA := mkM_sq ns k
  generalize mkM ns k k = A at *
  simp -implicitDefEqProofs only [xC_skip, evS, decide_true, decide_false, decide_eq_true_eq, sides, Inst.places, List.zip_cons_cons, List.zip_nil_right, List.zip_nil_left, List.mem_cons, List.not_mem_nil, forall_eq_or_imp, forall_eq, false_implies, implies_true, Apart, xeff, xhv, hv, effC, xev, look, argSl, atL, drops, keep, inBlockT, pickX, callX, callCX, callSX, callee, List.map_cons, List.map_nil, List.append_nil, List.nil_append, List.cons_append, reduceCtorEq, ↓reduceIte, Nat.reduceEqDiff, Nat.reduceAdd, Nat.reduceMul, eq_self, List.length_replicate, Int.reduceToNat, Int.reduceAdd, Int.reduceSub, Int.reduceMul, Int.reduceNeg, Int.reduceLT, Int.reduceLE, rowD, rowI, rowsD, ivD, rowG, rowIG, rowsG, ivG, bne_self_eq_false, beq_self_eq_true, List.length_map, List.getD_cons_zero, List.getD_cons_succ, List.drop_succ_cons, List.drop_zero, List.take_succ_cons, List.take_zero, List.take_nil, List.getElem?_cons_zero, List.getElem?_cons_succ, List.length_cons, List.length_nil, List.length_set, List.set_cons_zero, List.set_cons_succ, List.all_cons, List.all_nil, Nat.reduceLT, Nat.reduceLeDiff, ne_eq, Option.some.injEq, fillV, partsV, V.okPart, gt_iff_lt, ge_iff_le, mkH0]
  refine callG_ac (AC_frameK 1000 (by simp [Heap.next]) (us := [fI n, .d (rowI ns), fI 1]) hm rfl (.inl ⟨rfl, fun j hj => ?_⟩)) ?_
  · rcases j with _ | _ | _ | j
    · exact .d _
    · exact .d _
    · exact .d _
    · simp at hj; omega
  have hh : (hdo 200 0 k k).map (V.ren (upF 1000)) = hdo 1200 0 k k := hdo_ren _ 200 0 k k 1200 0 (fun j _ => rfl)
  have hf : (A.map rowV).map (fun c => c.map (V.ren (upF 1000))) = A.map rowV := ren_fam _ A
  simp -implicitDefEqProofs only [xC_skip, evS, decide_true, decide_false, decide_eq_true_eq, sides, Inst.places, List.zip_cons_cons, List.zip_nil_right, List.zip_nil_left, List.mem_cons, List.not_mem_nil, forall_eq_or_imp, forall_eq, false_implies, implies_true, Apart, xeff, xhv, hv, effC, xev, look, argSl, atL, drops, keep, inBlockT, pickX, callX, callCX, callSX, callee, List.map_cons, List.map_nil, List.append_nil, List.nil_append, List.cons_append, reduceCtorEq, ↓reduceIte, Nat.reduceEqDiff, Nat.reduceAdd, Nat.reduceMul, eq_self, List.length_replicate, Int.reduceToNat, Int.reduceAdd, Int.reduceSub, Int.reduceMul, Int.reduceNeg, Int.reduceLT, Int.reduceLE, rowD, rowI, rowsD, ivD, rowG, rowIG, rowsG, ivG, bne_self_eq_false, beq_self_eq_true, List.length_map, List.getD_cons_zero, List.getD_cons_succ, List.drop_succ_cons, List.drop_zero, List.take_succ_cons, List.take_zero, List.take_nil, List.getElem?_cons_zero, List.getElem?_cons_succ, List.length_cons, List.length_nil, List.length_set, List.set_cons_zero, List.set_cons_succ, List.all_cons, List.all_nil, Nat.reduceLT, Nat.reduceLeDiff, ne_eq, Option.some.injEq, fillV, partsV, V.okPart, gt_iff_lt, ge_iff_le, mkH0, Heap.up, V.ren, hh, hf, upF]
  first | refine callG_con (l6_row_con k bs (by omega) hbs) rfl ?_ | refine callCG_con (l6_row_con k bs (by omega) hbs) rfl ?_ | refine callSG_con (l6_row_con k bs (by omega) hbs) rfl ?_
  simp -implicitDefEqProofs only [xC_skip, evS, decide_true, decide_false, decide_eq_true_eq, sides, Inst.places, List.zip_cons_cons, List.zip_nil_right, List.zip_nil_left, List.mem_cons, List.not_mem_nil, forall_eq_or_imp, forall_eq, false_implies, implies_true, Apart, xeff, xhv, hv, effC, xev, look, argSl, atL, drops, keep, inBlockT, pickX, callX, callCX, callSX, callee, List.map_cons, List.map_nil, List.append_nil, List.nil_append, List.cons_append, reduceCtorEq, ↓reduceIte, Nat.reduceEqDiff, Nat.reduceAdd, Nat.reduceMul, eq_self, List.length_replicate, Int.reduceToNat, Int.reduceAdd, Int.reduceSub, Int.reduceMul, Int.reduceNeg, Int.reduceLT, Int.reduceLE, rowD, rowI, rowsD, ivD, rowG, rowIG, rowsG, ivG, bne_self_eq_false, beq_self_eq_true, List.length_map, List.getD_cons_zero, List.getD_cons_succ, List.drop_succ_cons, List.drop_zero, List.take_succ_cons, List.take_zero, List.take_nil, List.getElem?_cons_zero, List.getElem?_cons_succ, List.length_cons, List.length_nil, List.length_set, List.set_cons_zero, List.set_cons_succ, List.all_cons, List.all_nil, Nat.reduceLT, Nat.reduceLeDiff, ne_eq, Option.some.injEq, fillV, partsV, V.okPart, gt_iff_lt, ge_iff_le]
  first | refine callG_con (l6_row_con k bs (by omega) hbs) rfl ?_ | refine callCG_con (l6_row_con k bs (by omega) hbs) rfl ?_ | refine callSG_con (l6_row_con k bs (by omega) hbs) rfl ?_
  simp -implicitDefEqProofs only [xC_skip, evS, decide_true, decide_false, decide_eq_true_eq, sides, Inst.places, List.zip_cons_cons, List.zip_nil_right, List.zip_nil_left, List.mem_cons, List.not_mem_nil, forall_eq_or_imp, forall_eq, false_implies, implies_true, Apart, xeff, xhv, hv, effC, xev, look, argSl, atL, drops, keep, inBlockT, pickX, callX, callCX, callSX, callee, List.map_cons, List.map_nil, List.append_nil, List.nil_append, List.cons_append, reduceCtorEq, ↓reduceIte, Nat.reduceEqDiff, Nat.reduceAdd, Nat.reduceMul, eq_self, List.length_replicate, Int.reduceToNat, Int.reduceAdd, Int.reduceSub, Int.reduceMul, Int.reduceNeg, Int.reduceLT, Int.reduceLE, rowD, rowI, rowsD, ivD, rowG, rowIG, rowsG, ivG, bne_self_eq_false, beq_self_eq_true, List.length_map, List.getD_cons_zero, List.getD_cons_succ, List.drop_succ_cons, List.drop_zero, List.take_succ_cons, List.take_zero, List.take_nil, List.getElem?_cons_zero, List.getElem?_cons_succ, List.length_cons, List.length_nil, List.length_set, List.set_cons_zero, List.set_cons_succ, List.all_cons, List.all_nil, Nat.reduceLT, Nat.reduceLeDiff, ne_eq, Option.some.injEq, fillV, partsV, V.okPart, gt_iff_lt, ge_iff_le]
  have hbl := rowM_len k bs
  generalize rowM k bs = b at *
  have hAl := hA.1
  have hAr : ∀ r, r < k → (A.map rowV)[r]? = some (rowV (A.getD r [])) := fun r hr => getE A r (by omega)
  cases hp : partP A k k with
  | none =>
    refine partN_named hA (X := 200) (o := 0) (by simp [get_cons]) (fun r hr => ?_) (lin_Part_nil A k hA (by omega) hp) _ ?_
    · simp only [get_cons, Nat.reduceEqDiff, if_false, if_true, Nat.add_zero]
      exact hAr r hr
    simp -implicitDefEqProofs only [xC_skip, evS, decide_true, decide_false, decide_eq_true_eq, sides, Inst.places, List.zip_cons_cons, List.zip_nil_right, List.zip_nil_left, List.mem_cons, List.not_mem_nil, forall_eq_or_imp, forall_eq, false_implies, implies_true, Apart, xeff, xhv, hv, effC, xev, look, argSl, atL, drops, keep, inBlockT, pickX, callX, callCX, callSX, callee, List.map_cons, List.map_nil, List.append_nil, List.nil_append, List.cons_append, reduceCtorEq, ↓reduceIte, Nat.reduceEqDiff, Nat.reduceAdd, Nat.reduceMul, eq_self, List.length_replicate, Int.reduceToNat, Int.reduceAdd, Int.reduceSub, Int.reduceMul, Int.reduceNeg, Int.reduceLT, Int.reduceLE, rowD, rowI, rowsD, ivD, rowG, rowIG, rowsG, ivG, bne_self_eq_false, beq_self_eq_true, List.length_map, List.getD_cons_zero, List.getD_cons_succ, List.drop_succ_cons, List.drop_zero, List.take_succ_cons, List.take_zero, List.take_nil, List.getElem?_cons_zero, List.getElem?_cons_succ, List.length_cons, List.length_nil, List.length_set, List.set_cons_zero, List.set_cons_succ, List.all_cons, List.all_nil, Nat.reduceLT, Nat.reduceLeDiff, ne_eq, Option.some.injEq, fillV, partsV, V.okPart, gt_iff_lt, ge_iff_le]
    refine partN_named hA (X := 1200) (o := 0) (by simp [get_cons]) (fun r hr => ?_) (r6_Part_nil A k hA hk1 (by omega) hp) _ ?_
    · simp only [get_cons, Nat.reduceEqDiff, if_false, if_true, Nat.add_zero]
      exact hAr r hr
    simp -implicitDefEqProofs only [xC_skip, evS, decide_true, decide_false, decide_eq_true_eq, sides, Inst.places, List.zip_cons_cons, List.zip_nil_right, List.zip_nil_left, List.mem_cons, List.not_mem_nil, forall_eq_or_imp, forall_eq, false_implies, implies_true, Apart, xeff, xhv, hv, effC, xev, look, argSl, atL, drops, keep, inBlockT, pickX, callX, callCX, callSX, callee, List.map_cons, List.map_nil, List.append_nil, List.nil_append, List.cons_append, reduceCtorEq, ↓reduceIte, Nat.reduceEqDiff, Nat.reduceAdd, Nat.reduceMul, eq_self, List.length_replicate, Int.reduceToNat, Int.reduceAdd, Int.reduceSub, Int.reduceMul, Int.reduceNeg, Int.reduceLT, Int.reduceLE, rowD, rowI, rowsD, ivD, rowG, rowIG, rowsG, ivG, bne_self_eq_false, beq_self_eq_true, List.length_map, List.getD_cons_zero, List.getD_cons_succ, List.drop_succ_cons, List.drop_zero, List.take_succ_cons, List.take_zero, List.take_nil, List.getElem?_cons_zero, List.getElem?_cons_succ, List.length_cons, List.length_nil, List.length_set, List.set_cons_zero, List.set_cons_succ, List.all_cons, List.all_nil, Nat.reduceLT, Nat.reduceLeDiff, ne_eq, Option.some.injEq, fillV, partsV, V.okPart, gt_iff_lt, ge_iff_le]
    refine callG_snap (us := [.d (rowsD A), .d (rowsD A)]) (r1_Tables_con A (by omega) (fun i hi => by have := hA.2 i (by omega); omega)) rfl (fun j hj => ?_) (.bool _) ?_
    · rcases j with _ | _ | j
      · refine snp_rows (X := 200) (o := 0) (by simp [get_cons]) (fun r hr => ⟨?_, hA.2 r hr⟩) hAl rfl
        simp only [get_cons, Nat.reduceEqDiff, if_false, if_true, Nat.add_zero]
        exact hAr r hr
      · refine snp_rows (X := 1200) (o := 0) (by simp [get_cons]) (fun r hr => ⟨?_, hA.2 r hr⟩) hAl rfl
        simp only [get_cons, Nat.reduceEqDiff, if_false, if_true, Nat.add_zero]
        exact hAr r hr
      · simp at hj; omega
    simp -implicitDefEqProofs only [xC_skip, evS, decide_true, decide_false, decide_eq_true_eq, sides, Inst.places, List.zip_cons_cons, List.zip_nil_right, List.zip_nil_left, List.mem_cons, List.not_mem_nil, forall_eq_or_imp, forall_eq, false_implies, implies_true, Apart, xeff, xhv, hv, effC, xev, look, argSl, atL, drops, keep, inBlockT, pickX, callX, callCX, callSX, callee, List.map_cons, List.map_nil, List.append_nil, List.nil_append, List.cons_append, reduceCtorEq, ↓reduceIte, Nat.reduceEqDiff, Nat.reduceAdd, Nat.reduceMul, eq_self, List.length_replicate, Int.reduceToNat, Int.reduceAdd, Int.reduceSub, Int.reduceMul, Int.reduceNeg, Int.reduceLT, Int.reduceLE, rowD, rowI, rowsD, ivD, rowG, rowIG, rowsG, ivG, bne_self_eq_false, beq_self_eq_true, List.length_map, List.getD_cons_zero, List.getD_cons_succ, List.drop_succ_cons, List.drop_zero, List.take_succ_cons, List.take_zero, List.take_nil, List.getElem?_cons_zero, List.getElem?_cons_succ, List.length_cons, List.length_nil, List.length_set, List.set_cons_zero, List.set_cons_succ, List.all_cons, List.all_nil, Nat.reduceLT, Nat.reduceLeDiff, ne_eq, Option.some.injEq, fillV, partsV, V.okPart, gt_iff_lt, ge_iff_le]
    first | refine callG_con (r1_Rows_con b (by omega)) rfl ?_ | refine callCG_con (r1_Rows_con b (by omega)) rfl ?_ | refine callSG_con (r1_Rows_con b (by omega)) rfl ?_
    simp -implicitDefEqProofs only [xC_skip, evS, decide_true, decide_false, decide_eq_true_eq, sides, Inst.places, List.zip_cons_cons, List.zip_nil_right, List.zip_nil_left, List.mem_cons, List.not_mem_nil, forall_eq_or_imp, forall_eq, false_implies, implies_true, Apart, xeff, xhv, hv, effC, xev, look, argSl, atL, drops, keep, inBlockT, pickX, callX, callCX, callSX, callee, List.map_cons, List.map_nil, List.append_nil, List.nil_append, List.cons_append, reduceCtorEq, ↓reduceIte, Nat.reduceEqDiff, Nat.reduceAdd, Nat.reduceMul, eq_self, List.length_replicate, Int.reduceToNat, Int.reduceAdd, Int.reduceSub, Int.reduceMul, Int.reduceNeg, Int.reduceLT, Int.reduceLE, rowD, rowI, rowsD, ivD, rowG, rowIG, rowsG, ivG, bne_self_eq_false, beq_self_eq_true, List.length_map, List.getD_cons_zero, List.getD_cons_succ, List.drop_succ_cons, List.drop_zero, List.take_succ_cons, List.take_zero, List.take_nil, List.getElem?_cons_zero, List.getElem?_cons_succ, List.length_cons, List.length_nil, List.length_set, List.set_cons_zero, List.set_cons_succ, List.all_cons, List.all_nil, Nat.reduceLT, Nat.reduceLeDiff, ne_eq, Option.some.injEq, fillV, partsV, V.okPart, gt_iff_lt, ge_iff_le]
    exact endsT_rett rfl (by decide) (by simp [look])
  | some Bπ =>
    obtain ⟨B, π⟩ := Bπ
    refine part_named 3000 (by simp [Heap.next]) hA (by omega) (X := 200) (o := 0) (by simp [get_cons]) (fun r hr => ?_) hp _ ?_
    · simp only [get_cons, Nat.reduceEqDiff, if_false, if_true, Nat.add_zero]
      exact hAr r hr
    simp -implicitDefEqProofs only [xC_skip, evS, decide_true, decide_false, decide_eq_true_eq, sides, Inst.places, List.zip_cons_cons, List.zip_nil_right, List.zip_nil_left, List.mem_cons, List.not_mem_nil, forall_eq_or_imp, forall_eq, false_implies, implies_true, Apart, xeff, xhv, hv, effC, xev, look, argSl, atL, drops, keep, inBlockT, pickX, callX, callCX, callSX, callee, List.map_cons, List.map_nil, List.append_nil, List.nil_append, List.cons_append, reduceCtorEq, ↓reduceIte, Nat.reduceEqDiff, Nat.reduceAdd, Nat.reduceMul, eq_self, List.length_replicate, Int.reduceToNat, Int.reduceAdd, Int.reduceSub, Int.reduceMul, Int.reduceNeg, Int.reduceLT, Int.reduceLE, rowD, rowI, rowsD, ivD, rowG, rowIG, rowsG, ivG, bne_self_eq_false, beq_self_eq_true, List.length_map, List.getD_cons_zero, List.getD_cons_succ, List.drop_succ_cons, List.drop_zero, List.take_succ_cons, List.take_zero, List.take_nil, List.getElem?_cons_zero, List.getElem?_cons_succ, List.length_cons, List.length_nil, List.length_set, List.set_cons_zero, List.set_cons_succ, List.all_cons, List.all_nil, Nat.reduceLT, Nat.reduceLeDiff, ne_eq, Option.some.injEq, fillV, partsV, V.okPart, gt_iff_lt, ge_iff_le]
    refine r6part_named 4000 (by simp [Heap.next]) hA hk1 (by omega) (X := 1200) (o := 0) (by simp [get_cons]) (fun r hr => ?_) hp _ ?_
    · simp only [get_cons, Nat.reduceEqDiff, if_false, if_true, Nat.add_zero]
      exact hAr r hr
    simp -implicitDefEqProofs only [xC_skip, evS, decide_true, decide_false, decide_eq_true_eq, sides, Inst.places, List.zip_cons_cons, List.zip_nil_right, List.zip_nil_left, List.mem_cons, List.not_mem_nil, forall_eq_or_imp, forall_eq, false_implies, implies_true, Apart, xeff, xhv, hv, effC, xev, look, argSl, atL, drops, keep, inBlockT, pickX, callX, callCX, callSX, callee, List.map_cons, List.map_nil, List.append_nil, List.nil_append, List.cons_append, reduceCtorEq, ↓reduceIte, Nat.reduceEqDiff, Nat.reduceAdd, Nat.reduceMul, eq_self, List.length_replicate, Int.reduceToNat, Int.reduceAdd, Int.reduceSub, Int.reduceMul, Int.reduceNeg, Int.reduceLT, Int.reduceLE, rowD, rowI, rowsD, ivD, rowG, rowIG, rowsG, ivG, bne_self_eq_false, beq_self_eq_true, List.length_map, List.getD_cons_zero, List.getD_cons_succ, List.drop_succ_cons, List.drop_zero, List.take_succ_cons, List.take_zero, List.take_nil, List.getElem?_cons_zero, List.getElem?_cons_succ, List.length_cons, List.length_nil, List.length_set, List.set_cons_zero, List.set_cons_succ, List.all_cons, List.all_nil, Nat.reduceLT, Nat.reduceLeDiff, ne_eq, Option.some.injEq, fillV, partsV, V.okPart, gt_iff_lt, ge_iff_le]
    obtain ⟨hB, hπl⟩ := partP_sq _ _ hA _ (Nat.le_refl _) B π hp
    have hpm := partP_pm _ _ _ (Nat.le_refl _) B π hp
    have hBr : ∀ r, r < k → (B.map rowV)[r]? = some (rowV (B.getD r [])) := fun r hr => getE B r (by have := hB.1; omega)
    refine solve_named 5000 (by simp [Heap.next]) hB (by omega) (X := 3002) (o := 1) (by simp [get_cons]) (fun r hr => ?_) (by simp [get_cons]) hpm hbl (.d _) _ ?_
    · simp only [get_cons, Nat.reduceEqDiff, if_false, if_true, List.getElem?_cons_succ]
      exact hBr r hr
    have hsl : (solveP B π b k).length = k := by simp [solveP, bckI_len, fwdI_len]
    simp -implicitDefEqProofs only [xC_skip, evS, decide_true, decide_false, decide_eq_true_eq, sides, Inst.places, List.zip_cons_cons, List.zip_nil_right, List.zip_nil_left, List.mem_cons, List.not_mem_nil, forall_eq_or_imp, forall_eq, false_implies, implies_true, Apart, xeff, xhv, hv, effC, xev, look, argSl, atL, drops, keep, inBlockT, pickX, callX, callCX, callSX, callee, List.map_cons, List.map_nil, List.append_nil, List.nil_append, List.cons_append, reduceCtorEq, ↓reduceIte, Nat.reduceEqDiff, Nat.reduceAdd, Nat.reduceMul, eq_self, List.length_replicate, Int.reduceToNat, Int.reduceAdd, Int.reduceSub, Int.reduceMul, Int.reduceNeg, Int.reduceLT, Int.reduceLE, rowD, rowI, rowsD, ivD, rowG, rowIG, rowsG, ivG, bne_self_eq_false, beq_self_eq_true, List.length_map, List.getD_cons_zero, List.getD_cons_succ, List.drop_succ_cons, List.drop_zero, List.take_succ_cons, List.take_zero, List.take_nil, List.getElem?_cons_zero, List.getElem?_cons_succ, List.length_cons, List.length_nil, List.length_set, List.set_cons_zero, List.set_cons_succ, List.all_cons, List.all_nil, Nat.reduceLT, Nat.reduceLeDiff, ne_eq, Option.some.injEq, fillV, partsV, V.okPart, gt_iff_lt, ge_iff_le]
    refine own_L0 _ _ by' k 5002 _ _ _ _ _ _ _ hsl (by omega) _ fun v w y hy => ?_
    simp -implicitDefEqProofs only [xC_skip, evS, decide_true, decide_false, decide_eq_true_eq, sides, Inst.places, List.zip_cons_cons, List.zip_nil_right, List.zip_nil_left, List.mem_cons, List.not_mem_nil, forall_eq_or_imp, forall_eq, false_implies, implies_true, Apart, xeff, xhv, hv, effC, xev, look, argSl, atL, drops, keep, inBlockT, pickX, callX, callCX, callSX, callee, List.map_cons, List.map_nil, List.append_nil, List.nil_append, List.cons_append, reduceCtorEq, ↓reduceIte, Nat.reduceEqDiff, Nat.reduceAdd, Nat.reduceMul, eq_self, List.length_replicate, Int.reduceToNat, Int.reduceAdd, Int.reduceSub, Int.reduceMul, Int.reduceNeg, Int.reduceLT, Int.reduceLE, rowD, rowI, rowsD, ivD, rowG, rowIG, rowsG, ivG, bne_self_eq_false, beq_self_eq_true, List.length_map, List.getD_cons_zero, List.getD_cons_succ, List.drop_succ_cons, List.drop_zero, List.take_succ_cons, List.take_zero, List.take_nil, List.getElem?_cons_zero, List.getElem?_cons_succ, List.length_cons, List.length_nil, List.length_set, List.set_cons_zero, List.set_cons_succ, List.all_cons, List.all_nil, Nat.reduceLT, Nat.reduceLeDiff, ne_eq, Option.some.injEq, fillV, partsV, V.okPart, gt_iff_lt, ge_iff_le]
    refine solve_namedS hB (by omega) (X := 3002) (o := 1) (by simp [get_cons]) (fun r hr => ?_) (by simp [get_cons]) hpm hbl (.d _) (by decide) (by decide) (by decide) (by simp [fam_cons, fam_nil]) _ ?_
    · simp only [get_cons, Nat.reduceEqDiff, if_false, if_true, List.getElem?_cons_succ]
      exact hBr r hr
    simp -implicitDefEqProofs only [xC_skip, evS, decide_true, decide_false, decide_eq_true_eq, sides, Inst.places, List.zip_cons_cons, List.zip_nil_right, List.zip_nil_left, List.mem_cons, List.not_mem_nil, forall_eq_or_imp, forall_eq, false_implies, implies_true, Apart, xeff, xhv, hv, effC, xev, look, argSl, atL, drops, keep, inBlockT, pickX, callX, callCX, callSX, callee, List.map_cons, List.map_nil, List.append_nil, List.nil_append, List.cons_append, reduceCtorEq, ↓reduceIte, Nat.reduceEqDiff, Nat.reduceAdd, Nat.reduceMul, eq_self, List.length_replicate, Int.reduceToNat, Int.reduceAdd, Int.reduceSub, Int.reduceMul, Int.reduceNeg, Int.reduceLT, Int.reduceLE, rowD, rowI, rowsD, ivD, rowG, rowIG, rowsG, ivG, bne_self_eq_false, beq_self_eq_true, List.length_map, List.getD_cons_zero, List.getD_cons_succ, List.drop_succ_cons, List.drop_zero, List.take_succ_cons, List.take_zero, List.take_nil, List.getElem?_cons_zero, List.getElem?_cons_succ, List.length_cons, List.length_nil, List.length_set, List.set_cons_zero, List.set_cons_succ, List.all_cons, List.all_nil, Nat.reduceLT, Nat.reduceLeDiff, ne_eq, Option.some.injEq, fillV, partsV, V.okPart, gt_iff_lt, ge_iff_le]
    refine r6solve_named 6000 (by simp [Heap.next]) hB (by omega) (X := 4001) (o := 1) (by simp [get_cons]) (fun r hr => ?_) (by simp [get_cons]) hpm hbl (.d _) _ ?_
    · simp only [get_cons, Nat.reduceEqDiff, if_false, if_true, List.getElem?_cons_succ]
      exact hBr r hr
    generalize solveP B π b k = x at *
    simp -implicitDefEqProofs only [xC_skip, evS, decide_true, decide_false, decide_eq_true_eq, sides, Inst.places, List.zip_cons_cons, List.zip_nil_right, List.zip_nil_left, List.mem_cons, List.not_mem_nil, forall_eq_or_imp, forall_eq, false_implies, implies_true, Apart, xeff, xhv, hv, effC, xev, look, argSl, atL, drops, keep, inBlockT, pickX, callX, callCX, callSX, callee, List.map_cons, List.map_nil, List.append_nil, List.nil_append, List.cons_append, reduceCtorEq, ↓reduceIte, Nat.reduceEqDiff, Nat.reduceAdd, Nat.reduceMul, eq_self, List.length_replicate, Int.reduceToNat, Int.reduceAdd, Int.reduceSub, Int.reduceMul, Int.reduceNeg, Int.reduceLT, Int.reduceLE, rowD, rowI, rowsD, ivD, rowG, rowIG, rowsG, ivG, bne_self_eq_false, beq_self_eq_true, List.length_map, List.getD_cons_zero, List.getD_cons_succ, List.drop_succ_cons, List.drop_zero, List.take_succ_cons, List.take_zero, List.take_nil, List.getElem?_cons_zero, List.getElem?_cons_succ, List.length_cons, List.length_nil, List.length_set, List.set_cons_zero, List.set_cons_succ, List.all_cons, List.all_nil, Nat.reduceLT, Nat.reduceLeDiff, ne_eq, Option.some.injEq, fillV, partsV, V.okPart, gt_iff_lt, ge_iff_le]
    refine callG_snap (us := [.d (rowD x), .d (rowD x)]) (r1_Rows_con x (by omega)) rfl (fun j hj => ?_) (.bool _) ?_
    · rcases j with _ | _ | j
      · exact snp_row (by simp [get_cons]) hsl rfl
      · exact snp_row (by simp [get_cons]) hsl rfl
      · simp at hj; omega
    simp -implicitDefEqProofs only [xC_skip, evS, decide_true, decide_false, decide_eq_true_eq, sides, Inst.places, List.zip_cons_cons, List.zip_nil_right, List.zip_nil_left, List.mem_cons, List.not_mem_nil, forall_eq_or_imp, forall_eq, false_implies, implies_true, Apart, xeff, xhv, hv, effC, xev, look, argSl, atL, drops, keep, inBlockT, pickX, callX, callCX, callSX, callee, List.map_cons, List.map_nil, List.append_nil, List.nil_append, List.cons_append, reduceCtorEq, ↓reduceIte, Nat.reduceEqDiff, Nat.reduceAdd, Nat.reduceMul, eq_self, List.length_replicate, Int.reduceToNat, Int.reduceAdd, Int.reduceSub, Int.reduceMul, Int.reduceNeg, Int.reduceLT, Int.reduceLE, rowD, rowI, rowsD, ivD, rowG, rowIG, rowsG, ivG, bne_self_eq_false, beq_self_eq_true, List.length_map, List.getD_cons_zero, List.getD_cons_succ, List.drop_succ_cons, List.drop_zero, List.take_succ_cons, List.take_zero, List.take_nil, List.getElem?_cons_zero, List.getElem?_cons_succ, List.length_cons, List.length_nil, List.length_set, List.set_cons_zero, List.set_cons_succ, List.all_cons, List.all_nil, Nat.reduceLT, Nat.reduceLeDiff, ne_eq, Option.some.injEq, fillV, partsV, V.okPart, gt_iff_lt, ge_iff_le]
    refine WA_le (s' := ⟨_, ownH B π A k⟩) (LeT.drop (fun _ h => h) (fun p hp => ?_) (fun X r c hX => ?_)) (own_L1 _ B A π by' k _ _ _ _ hB (by omega) _ fun v w R hR => ?_)
    · simp only [List.mem_cons, List.not_mem_nil, or_false] at hp
      rcases hp with rfl | rfl | rfl | rfl | rfl | rfl | rfl
      all_goals first | exact .d (.d _) | exact .sl (by simp [ownH, get_cons]) rfl | exact .ptr (by simp [ownH, get_cons]) rfl
    · have hBl := hB.1
      have keepr : ∀ Z q, Z = 3005 ∨ Z = 3002 ∨ Z = 1206 ∨ Z = 1200 ∨ Z = 1100 ∨ Z = 200 ∨ Z = 100 → (ownH B π A k).get Z q = some c → ∀ v ∈ c, ∀ L0 : Heap, LeV L0 (ownH B π A k) (fun X q => (X, q)) v v := by
        intro Z q hZ hg v hv L0
        rcases hZ with rfl | rfl | rfl | rfl | rfl | rfl | rfl
        · simp only [ownH, get_cons, if_true] at hg
          rcases q with _ | q <;> simp at hg; subst hg; exact mem_rowIV hv _ _ _
        · simp only [ownH, get_cons, Nat.reduceEqDiff, if_false, if_true] at hg
          rcases q with _ | q
          · simp at hg; subst hg
            obtain ⟨j, hj, rfl⟩ := List.mem_map.1 hv
            have hj : j < k := by simpa using hj
            refine .sl ?_ rfl
            simp only [ownH, get_cons, Nat.reduceEqDiff, if_false, if_true, List.getElem?_cons_succ]
            rw [hBr j hj]; simp
          · simp only [List.getElem?_cons_succ, List.getElem?_map] at hg
            obtain ⟨xs, _, rfl⟩ := Option.map_eq_some_iff.1 hg
            exact mem_rowV hv _ _ _
        · simp only [ownH, get_cons, Nat.reduceEqDiff, if_false, if_true] at hg
          rcases q with _ | q <;> simp at hg; subst hg
          rcases List.mem_cons.1 hv with rfl | hv
          · exact .sl (by simp [ownH, get_cons]) rfl
          · rcases List.mem_cons.1 hv with rfl | hv
            · exact .sl (by simp [ownH, get_cons]) rfl
            · cases hv
        · simp only [ownH, get_cons, Nat.reduceEqDiff, if_false, if_true, List.getElem?_map] at hg
          obtain ⟨xs, _, rfl⟩ := Option.map_eq_some_iff.1 hg
          exact mem_rowV hv _ _ _
        · simp only [ownH, get_cons, Nat.reduceEqDiff, if_false, if_true] at hg
          rcases q with _ | q <;> simp at hg; subst hg
          obtain ⟨j, hj, rfl⟩ := List.mem_map.1 hv
          have hj : j < k := by simpa using hj
          refine .sl ?_ rfl
          simp only [ownH, get_cons, Nat.reduceEqDiff, if_false, if_true, Nat.add_zero]
          rw [hAr j hj]; simp
        · simp only [ownH, get_cons, Nat.reduceEqDiff, if_false, if_true, List.getElem?_map] at hg
          obtain ⟨xs, _, rfl⟩ := Option.map_eq_some_iff.1 hg
          exact mem_rowV hv _ _ _
        · simp only [ownH, get_cons, Nat.reduceEqDiff, if_false, if_true] at hg
          rcases q with _ | q <;> simp at hg; subst hg
          obtain ⟨j, hj, rfl⟩ := List.mem_map.1 hv
          have hj : j < k := by simpa using hj
          refine .sl ?_ rfl
          simp only [ownH, get_cons, Nat.reduceEqDiff, if_false, if_true, Nat.add_zero]
          rw [hAr j hj]; simp
      have hZ : X = 3005 ∨ X = 3002 ∨ X = 1206 ∨ X = 1200 ∨ X = 1100 ∨ X = 200 ∨ X = 100 := by
        by_cases e1 : X = 3005
        · exact .inl e1
        by_cases e2 : X = 3002
        · exact .inr (.inl e2)
        by_cases e3 : X = 1206
        · exact .inr (.inr (.inl e3))
        by_cases e4 : X = 1200
        · exact .inr (.inr (.inr (.inl e4)))
        by_cases e5 : X = 1100
        · exact .inr (.inr (.inr (.inr (.inl e5))))
        by_cases e6 : X = 200
        · exact .inr (.inr (.inr (.inr (.inr (.inl e6)))))
        by_cases e7 : X = 100
        · exact .inr (.inr (.inr (.inr (.inr (.inr e7)))))
        simp [ownH, get_cons, get_nil, e1, e2, e3, e4, e5, e6, e7] at hX
      refine ⟨?_, fun v hv => ?_⟩
      · rcases hZ with rfl | rfl | rfl | rfl | rfl | rfl | rfl <;> simpa [ownH, get_cons] using hX
      · exact keepr X r hZ hX v hv _
    simp -implicitDefEqProofs only [xC_skip, evS, decide_true, decide_false, decide_eq_true_eq, sides, Inst.places, List.zip_cons_cons, List.zip_nil_right, List.zip_nil_left, List.mem_cons, List.not_mem_nil, forall_eq_or_imp, forall_eq, false_implies, implies_true, Apart, xeff, xhv, hv, effC, xev, look, argSl, atL, drops, keep, inBlockT, pickX, callX, callCX, callSX, callee, List.map_cons, List.map_nil, List.append_nil, List.nil_append, List.cons_append, reduceCtorEq, ↓reduceIte, Nat.reduceEqDiff, Nat.reduceAdd, Nat.reduceMul, eq_self, List.length_replicate, Int.reduceToNat, Int.reduceAdd, Int.reduceSub, Int.reduceMul, Int.reduceNeg, Int.reduceLT, Int.reduceLE, rowD, rowI, rowsD, ivD, rowG, rowIG, rowsG, ivG, bne_self_eq_false, beq_self_eq_true, List.length_map, List.getD_cons_zero, List.getD_cons_succ, List.drop_succ_cons, List.drop_zero, List.take_succ_cons, List.take_zero, List.take_nil, List.getElem?_cons_zero, List.getElem?_cons_succ, List.length_cons, List.length_nil, List.length_set, List.set_cons_zero, List.set_cons_succ, List.all_cons, List.all_nil, Nat.reduceLT, Nat.reduceLeDiff, ne_eq, Option.some.injEq, fillV, partsV, V.okPart, gt_iff_lt, ge_iff_le, ownH]
    refine callG_snap (us := [.d (rowsD A), .d (rowsD A)]) (r1_Tables_con A (by omega) (fun i hi => by have := hA.2 i (by omega); omega)) rfl (fun j hj => ?_) (.bool _) ?_
    · rcases j with _ | _ | j
      · refine snp_rows (X := 200) (o := 0) (by simp [get_cons]) (fun r hr => ⟨?_, hA.2 r hr⟩) hAl rfl
        simp only [get_cons, Nat.reduceEqDiff, if_false, if_true, Nat.add_zero]
        exact hAr r hr
      · refine snp_rows (X := 1200) (o := 0) (by simp [get_cons]) (fun r hr => ⟨?_, hA.2 r hr⟩) hAl rfl
        simp only [get_cons, Nat.reduceEqDiff, if_false, if_true, Nat.add_zero]
        exact hAr r hr
      · simp at hj; omega
    simp -implicitDefEqProofs only [xC_skip, evS, decide_true, decide_false, decide_eq_true_eq, sides, Inst.places, List.zip_cons_cons, List.zip_nil_right, List.zip_nil_left, List.mem_cons, List.not_mem_nil, forall_eq_or_imp, forall_eq, false_implies, implies_true, Apart, xeff, xhv, hv, effC, xev, look, argSl, atL, drops, keep, inBlockT, pickX, callX, callCX, callSX, callee, List.map_cons, List.map_nil, List.append_nil, List.nil_append, List.cons_append, reduceCtorEq, ↓reduceIte, Nat.reduceEqDiff, Nat.reduceAdd, Nat.reduceMul, eq_self, List.length_replicate, Int.reduceToNat, Int.reduceAdd, Int.reduceSub, Int.reduceMul, Int.reduceNeg, Int.reduceLT, Int.reduceLE, rowD, rowI, rowsD, ivD, rowG, rowIG, rowsG, ivG, bne_self_eq_false, beq_self_eq_true, List.length_map, List.getD_cons_zero, List.getD_cons_succ, List.drop_succ_cons, List.drop_zero, List.take_succ_cons, List.take_zero, List.take_nil, List.getElem?_cons_zero, List.getElem?_cons_succ, List.length_cons, List.length_nil, List.length_set, List.set_cons_zero, List.set_cons_succ, List.all_cons, List.all_nil, Nat.reduceLT, Nat.reduceLeDiff, ne_eq, Option.some.injEq, fillV, partsV, V.okPart, gt_iff_lt, ge_iff_le]
    first | refine callG_con (r1_Rows_con b (by omega)) rfl ?_ | refine callCG_con (r1_Rows_con b (by omega)) rfl ?_ | refine callSG_con (r1_Rows_con b (by omega)) rfl ?_
    simp -implicitDefEqProofs only [xC_skip, evS, decide_true, decide_false, decide_eq_true_eq, sides, Inst.places, List.zip_cons_cons, List.zip_nil_right, List.zip_nil_left, List.mem_cons, List.not_mem_nil, forall_eq_or_imp, forall_eq, false_implies, implies_true, Apart, xeff, xhv, hv, effC, xev, look, argSl, atL, drops, keep, inBlockT, pickX, callX, callCX, callSX, callee, List.map_cons, List.map_nil, List.append_nil, List.nil_append, List.cons_append, reduceCtorEq, ↓reduceIte, Nat.reduceEqDiff, Nat.reduceAdd, Nat.reduceMul, eq_self, List.length_replicate, Int.reduceToNat, Int.reduceAdd, Int.reduceSub, Int.reduceMul, Int.reduceNeg, Int.reduceLT, Int.reduceLE, rowD, rowI, rowsD, ivD, rowG, rowIG, rowsG, ivG, bne_self_eq_false, beq_self_eq_true, List.length_map, List.getD_cons_zero, List.getD_cons_succ, List.drop_succ_cons, List.drop_zero, List.take_succ_cons, List.take_zero, List.take_nil, List.getElem?_cons_zero, List.getElem?_cons_succ, List.length_cons, List.length_nil, List.length_set, List.set_cons_zero, List.set_cons_succ, List.all_cons, List.all_nil, Nat.reduceLT, Nat.reduceLeDiff, ne_eq, Option.some.injEq, fillV, partsV, V.okPart, gt_iff_lt, ge_iff_le]
    exact endsT_rett rfl (by decide) (by simp [look])
end Go.Ab
