/- Words that chapter 9's laws share. -/
import Derived.Test.YtdckmpaakheppaaLB
import Derived.Test.YtdckmpaakheppaaCB
import Derived.Test.YtdckmpaakheppaaGD
namespace Go.Ab
set_option linter.unusedSimpArgs false
set_option linter.unusedVariables false
open Go Go.Proofs
theorem snap_ops {L : Heap} {X : Nat} (ops : List OpN) (h : L.get X 0 = some (dcells ops.length (opG ops))) : Snap L (.sl X 0 0 ops.length 4 (ops.length * 4)) (.d (opsD ops)) := snp_data h (fun _ _ => rfl) rfl
theorem snap_ints {L : Heap} {X : Nat} (xs : List Int) (h : L.get X 0 = some (dcells xs.length (rowIG xs))) : Snap L (.sl X 0 0 xs.length 1 xs.length) (.d (rowI xs)) := snp_data h (fun _ _ => rfl) (by omega)
theorem callS_sumN {P : Program} {g : FuncId} {vs : List V} {L : Heap} {K : V → Heap → Prop} {a b : Int} {nm k : Nat} (us : List V) (h : AC P g us [] [] (.agg [.nil, fI a, fI b]))
    (hs : Snaps (L.old (nm - k)) vs us) (hf : L.fam nm = none) (hK : K (.agg [.nil, fI a, fI b]) (L.ins nm [])) : CallS P nm k g vs L K := by
  have h' : AC P g us [] [(0, [])] (.agg [.nil, fI a, fI b]) := AC_le h (show Le (fun _ => False) (T.s 1 ⟨[(0, .agg [.nil, fI a, fI b])], [] ++ []⟩) (T.s 1 ⟨[(0, .agg [.nil, fI a, fI b])], [] ++ (0, []) :: []⟩) from LeT.empty rfl)
  refine callSG_rows (us := us) h' hs.at.1 hs.at.2 (.agg fun j hj => ?_) (fun q cells hc j hj => by simp at hc) hf ?_
  · rcases j with _ | _ | _ | j
    · exact .nil
    · exact .int ..
    · exact .int ..
    · simp at hj; omega
  · simpa [V.ren, V.renL, toF, famUp] using hK
theorem callS_sum {P : Program} {g : FuncId} {vs : List V} {L : Heap} {K : V → Heap → Prop} {n : Nat} {a b : Int} {xs : List Nat} {nm k : Nat} (us : List V) (h : AC P g us [] [(0, [rowV xs])] (.agg [.sl 0 0 0 n 1 n, fI a, fI b]))
    (hs : Snaps (L.old (nm - k)) vs us) (hf : L.fam nm = none) (hK : K (.agg [.sl nm 0 0 n 1 n, fI a, fI b]) (L.ins nm [rowV xs])) : CallS P nm k g vs L K := by
  refine callSG_rows (us := us) h hs.at.1 hs.at.2 (.agg fun j hj => ?_) (fun q cells hc j hj => ?_) hf ?_
  · rcases j with _ | _ | _ | j
    · exact .sl ..
    · exact .int ..
    · exact .int ..
    · simp at hj; omega
  · obtain rfl : cells = rowV xs := by
      rcases q with _ | q
      · simpa using hc.symm
      · simp at hc
    rw [List.getD_eq_getElem?_getD, List.getElem?_map]
    cases xs[j]? with
    | none => exact .any
    | some x => exact .flt x
  · have e : famUp nm [rowV xs] = [rowV xs] := by
      simp [famUp, rowV, V.ren]
    rw [e]
    simpa [V.ren, V.renL, toF] using hK
theorem shl_pow (m : Nat) (h : m < 62) : IntKind.i64.wrap (1 * 2 ^ min (IntKind.u64.wrap (m : Int)).toNat IntKind.i64.bits) = ((2 ^ m : Nat) : Int) := by
  rw [wrapU (by omega) (by omega)]
  have e : min ((m : Int).toNat) IntKind.i64.bits = m := by
    have : IntKind.i64.bits = 64 := rfl
    rw [this]; omega
  rw [e, Int.one_mul]
  have h1 : (2 : Nat) ^ m ≤ 2 ^ 61 := Nat.pow_le_pow_right (by decide) (by omega)
  have h2 : (2 : Int) ^ m = ((2 ^ m : Nat) : Int) := by simp
  rw [h2]
  generalize (2 : Nat) ^ m = x at h1
  exact wrapI (by omega) (by omega)
end Go.Ab
