/-
  No cell of these rows narrows 'for every input' (looked for: loops, veiled, ifaces, maps, wideKeys, modest, calm, conditions, laid).
  DERIVED. THE GIVEN ROWS OF THIS SEAT. 10 by the template 'for every input the law returns true; each argument reads behind the call as it read before'; 0 by the template 'total and deterministic' (their statements: YtnoeajoeeldimaaTotals.lean).
  GIVEN WITH THE SEED: the statements are not yours to turn. If you find one false, say at which input.
  Laid BY PROGRAM, IN A SANDBOX (cutbox-rows.mjs): the forced cells as the released guide's own fill.sh prints them over the translation 97911444325fa716… (all of the seat's roots in one cut). By AI agents, Wed Nov 11 2026. No macro, syntax, notation, axiom, sorry.
-/
import Derived.Test.YtnoeajoeeldimaaChecked
import GoSem.Claim
import GoSem.ClaimJoined
import GoSem.ClaimMapViews
import Derived.JoinedTies
import Derived.KernelRfl
namespace Go.Proofs.Ytnoeajoeeldimaa
/- THE CELL 'sum', in the pinned program and in every row, IS THE sha256 OF THE DUMP (.gsa) THAT YtnoeajoeeldimaaProg.lean LOADS. Nothing in Lean hashes anything: it is a label: what it is worth is what the hold of that sum in a sandbox is worth. -/
noncomputable def Try.pinned : Pinned := { name := "ytnoeajoeeldimaa", sum := "97911444325fa7169ec77923d10467ef788284679a6922e64ddd5b0aea8d7a2a", checked := Try.checked }
namespace Rows
def none {H : Type} : Left H := { results := [], args := [] }

/-- 'envelopelaw6.LinAll': WHATEVER THE INPUT: true; the input reads as it did. -/
def linAllSpec : ChangeSpec := { name := "linAll", fn := fun _ => fun
  | [d1, d2, d3, d4] => { results := [.lit (.bool true)], args := [d1, d2, d3, d4] }
  | _ => none }
def linAllRow : OpenClaim := { program := "ytnoeajoeeldimaa", sum := "97911444325fa7169ec77923d10467ef788284679a6922e64ddd5b0aea8d7a2a", func := "envelope/envelopelaw6.LinAll", spec := "linAll", inPlace := ["math.Float64bits", "math.Float64frombits"], unfollowed := true, recurses := true, apart := false }
def LinAllSaid : Prop := linAllRow.holds Try.pinned (OpenSpec.ofChange linAllSpec)

/-- ITS FALSE NEIGHBOUR: 'it returns false'. Refute it at one input. -/
def linAllWrong : ChangeSpec := { name := "linAll", fn := fun _ => fun
  | [d1, d2, d3, d4] => { results := [.lit (.bool false)], args := [d1, d2, d3, d4] }
  | _ => none }
def LinAllWrongFalsely : Prop := linAllRow.holds Try.pinned (OpenSpec.ofChange linAllWrong)

/-- 'envelopelaw6.LinParts': WHATEVER THE INPUT: true; the input reads as it did. -/
def linPartsSpec : ChangeSpec := { name := "linParts", fn := fun _ => fun
  | [d1, d2] => { results := [.lit (.bool true)], args := [d1, d2] }
  | _ => none }
def linPartsRow : OpenClaim := { program := "ytnoeajoeeldimaa", sum := "97911444325fa7169ec77923d10467ef788284679a6922e64ddd5b0aea8d7a2a", func := "envelope/envelopelaw6.LinParts", spec := "linParts", inPlace := ["math.Float64bits", "math.Float64frombits"], unfollowed := true, recurses := true, apart := false }
def LinPartsSaid : Prop := linPartsRow.holds Try.pinned (OpenSpec.ofChange linPartsSpec)

/-- ITS FALSE NEIGHBOUR: 'it returns false'. Refute it at one input. -/
def linPartsWrong : ChangeSpec := { name := "linParts", fn := fun _ => fun
  | [d1, d2] => { results := [.lit (.bool false)], args := [d1, d2] }
  | _ => none }
def LinPartsWrongFalsely : Prop := linPartsRow.holds Try.pinned (OpenSpec.ofChange linPartsWrong)

/-- 'envelopelaw6.LinTurned': WHATEVER THE INPUT: true; the input reads as it did. -/
def linTurnedSpec : ChangeSpec := { name := "linTurned", fn := fun _ => fun
  | [d1, d2, d3, d4, d5] => { results := [.lit (.bool true)], args := [d1, d2, d3, d4, d5] }
  | _ => none }
def linTurnedRow : OpenClaim := { program := "ytnoeajoeeldimaa", sum := "97911444325fa7169ec77923d10467ef788284679a6922e64ddd5b0aea8d7a2a", func := "envelope/envelopelaw6.LinTurned", spec := "linTurned", inPlace := ["math.Float64bits", "math.Float64frombits"], unfollowed := true, recurses := true, apart := false }
def LinTurnedSaid : Prop := linTurnedRow.holds Try.pinned (OpenSpec.ofChange linTurnedSpec)

/-- ITS FALSE NEIGHBOUR: 'it returns false'. Refute it at one input. -/
def linTurnedWrong : ChangeSpec := { name := "linTurned", fn := fun _ => fun
  | [d1, d2, d3, d4, d5] => { results := [.lit (.bool false)], args := [d1, d2, d3, d4, d5] }
  | _ => none }
def LinTurnedWrongFalsely : Prop := linTurnedRow.holds Try.pinned (OpenSpec.ofChange linTurnedWrong)

/-- 'envelopelaw6.LinOrder': WHATEVER THE INPUT: true; the input reads as it did. -/
def linOrderSpec : ChangeSpec := { name := "linOrder", fn := fun _ => fun
  | [d1, d2, d3] => { results := [.lit (.bool true)], args := [d1, d2, d3] }
  | _ => none }
def linOrderRow : OpenClaim := { program := "ytnoeajoeeldimaa", sum := "97911444325fa7169ec77923d10467ef788284679a6922e64ddd5b0aea8d7a2a", func := "envelope/envelopelaw6.LinOrder", spec := "linOrder", inPlace := ["math.Float64bits", "math.Float64frombits"], unfollowed := true, recurses := true, apart := false }
def LinOrderSaid : Prop := linOrderRow.holds Try.pinned (OpenSpec.ofChange linOrderSpec)

/-- ITS FALSE NEIGHBOUR: 'it returns false'. Refute it at one input. -/
def linOrderWrong : ChangeSpec := { name := "linOrder", fn := fun _ => fun
  | [d1, d2, d3] => { results := [.lit (.bool false)], args := [d1, d2, d3] }
  | _ => none }
def LinOrderWrongFalsely : Prop := linOrderRow.holds Try.pinned (OpenSpec.ofChange linOrderWrong)

/-- 'envelopelaw6.LinLeft': WHATEVER THE INPUT: true; the input reads as it did. -/
def linLeftSpec : ChangeSpec := { name := "linLeft", fn := fun _ => fun
  | [d1, d2, d3] => { results := [.lit (.bool true)], args := [d1, d2, d3] }
  | _ => none }
def linLeftRow : OpenClaim := { program := "ytnoeajoeeldimaa", sum := "97911444325fa7169ec77923d10467ef788284679a6922e64ddd5b0aea8d7a2a", func := "envelope/envelopelaw6.LinLeft", spec := "linLeft", inPlace := ["math.Float64bits", "math.Float64frombits"], unfollowed := true, recurses := true, apart := false }
def LinLeftSaid : Prop := linLeftRow.holds Try.pinned (OpenSpec.ofChange linLeftSpec)

/-- ITS FALSE NEIGHBOUR: 'it returns false'. Refute it at one input. -/
def linLeftWrong : ChangeSpec := { name := "linLeft", fn := fun _ => fun
  | [d1, d2, d3] => { results := [.lit (.bool false)], args := [d1, d2, d3] }
  | _ => none }
def LinLeftWrongFalsely : Prop := linLeftRow.holds Try.pinned (OpenSpec.ofChange linLeftWrong)

/-- 'envelopelaw6.LinSolves': WHATEVER THE INPUT: true; the input reads as it did. -/
def linSolvesSpec : ChangeSpec := { name := "linSolves", fn := fun _ => fun
  | [d1, d2, d3] => { results := [.lit (.bool true)], args := [d1, d2, d3] }
  | _ => none }
def linSolvesRow : OpenClaim := { program := "ytnoeajoeeldimaa", sum := "97911444325fa7169ec77923d10467ef788284679a6922e64ddd5b0aea8d7a2a", func := "envelope/envelopelaw6.LinSolves", spec := "linSolves", inPlace := ["math.Float64bits", "math.Float64frombits"], unfollowed := true, recurses := true, apart := false }
def LinSolvesSaid : Prop := linSolvesRow.holds Try.pinned (OpenSpec.ofChange linSolvesSpec)

/-- ITS FALSE NEIGHBOUR: 'it returns false'. Refute it at one input. -/
def linSolvesWrong : ChangeSpec := { name := "linSolves", fn := fun _ => fun
  | [d1, d2, d3] => { results := [.lit (.bool false)], args := [d1, d2, d3] }
  | _ => none }
def LinSolvesWrongFalsely : Prop := linSolvesRow.holds Try.pinned (OpenSpec.ofChange linSolvesWrong)

/-- 'envelopelaw6.LinSwaps': WHATEVER THE INPUT: true; the input reads as it did. -/
def linSwapsSpec : ChangeSpec := { name := "linSwaps", fn := fun _ => fun
  | [d1, d2, d3, d4, d5] => { results := [.lit (.bool true)], args := [d1, d2, d3, d4, d5] }
  | _ => none }
def linSwapsRow : OpenClaim := { program := "ytnoeajoeeldimaa", sum := "97911444325fa7169ec77923d10467ef788284679a6922e64ddd5b0aea8d7a2a", func := "envelope/envelopelaw6.LinSwaps", spec := "linSwaps", inPlace := ["math.Float64bits", "math.Float64frombits"], unfollowed := true, recurses := true, apart := false }
def LinSwapsSaid : Prop := linSwapsRow.holds Try.pinned (OpenSpec.ofChange linSwapsSpec)

/-- ITS FALSE NEIGHBOUR: 'it returns false'. Refute it at one input. -/
def linSwapsWrong : ChangeSpec := { name := "linSwaps", fn := fun _ => fun
  | [d1, d2, d3, d4, d5] => { results := [.lit (.bool false)], args := [d1, d2, d3, d4, d5] }
  | _ => none }
def LinSwapsWrongFalsely : Prop := linSwapsRow.holds Try.pinned (OpenSpec.ofChange linSwapsWrong)

/-- 'envelopelaw6.LinUpper': WHATEVER THE INPUT: true; the input reads as it did. -/
def linUpperSpec : ChangeSpec := { name := "linUpper", fn := fun _ => fun
  | [d1, d2, d3] => { results := [.lit (.bool true)], args := [d1, d2, d3] }
  | _ => none }
def linUpperRow : OpenClaim := { program := "ytnoeajoeeldimaa", sum := "97911444325fa7169ec77923d10467ef788284679a6922e64ddd5b0aea8d7a2a", func := "envelope/envelopelaw6.LinUpper", spec := "linUpper", inPlace := ["math.Float64bits", "math.Float64frombits"], unfollowed := true, recurses := true, apart := false }
def LinUpperSaid : Prop := linUpperRow.holds Try.pinned (OpenSpec.ofChange linUpperSpec)

/-- ITS FALSE NEIGHBOUR: 'it returns false'. Refute it at one input. -/
def linUpperWrong : ChangeSpec := { name := "linUpper", fn := fun _ => fun
  | [d1, d2, d3] => { results := [.lit (.bool false)], args := [d1, d2, d3] }
  | _ => none }
def LinUpperWrongFalsely : Prop := linUpperRow.holds Try.pinned (OpenSpec.ofChange linUpperWrong)

/-- 'envelopelaw6.LinOwn': WHATEVER THE INPUT: true; the input reads as it did. -/
def linOwnSpec : ChangeSpec := { name := "linOwn", fn := fun _ => fun
  | [d1, d2, d3, d4] => { results := [.lit (.bool true)], args := [d1, d2, d3, d4] }
  | _ => none }
def linOwnRow : OpenClaim := { program := "ytnoeajoeeldimaa", sum := "97911444325fa7169ec77923d10467ef788284679a6922e64ddd5b0aea8d7a2a", func := "envelope/envelopelaw6.LinOwn", spec := "linOwn", inPlace := ["math.Float64bits", "math.Float64frombits"], unfollowed := true, recurses := true, apart := false }
def LinOwnSaid : Prop := linOwnRow.holds Try.pinned (OpenSpec.ofChange linOwnSpec)

/-- ITS FALSE NEIGHBOUR: 'it returns false'. Refute it at one input. -/
def linOwnWrong : ChangeSpec := { name := "linOwn", fn := fun _ => fun
  | [d1, d2, d3, d4] => { results := [.lit (.bool false)], args := [d1, d2, d3, d4] }
  | _ => none }
def LinOwnWrongFalsely : Prop := linOwnRow.holds Try.pinned (OpenSpec.ofChange linOwnWrong)

/-- 'envelopelaw6.LinOne': WHATEVER THE INPUT: true; the input reads as it did. -/
def linOneSpec : ChangeSpec := { name := "linOne", fn := fun _ => fun
  | [d1, d2, d3] => { results := [.lit (.bool true)], args := [d1, d2, d3] }
  | _ => none }
def linOneRow : OpenClaim := { program := "ytnoeajoeeldimaa", sum := "97911444325fa7169ec77923d10467ef788284679a6922e64ddd5b0aea8d7a2a", func := "envelope/envelopelaw6.LinOne", spec := "linOne", inPlace := ["math.Float64bits", "math.Float64frombits"], unfollowed := true, recurses := true, apart := false }
def LinOneSaid : Prop := linOneRow.holds Try.pinned (OpenSpec.ofChange linOneSpec)

/-- ITS FALSE NEIGHBOUR: 'it returns false'. Refute it at one input. -/
def linOneWrong : ChangeSpec := { name := "linOne", fn := fun _ => fun
  | [d1, d2, d3] => { results := [.lit (.bool false)], args := [d1, d2, d3] }
  | _ => none }
def LinOneWrongFalsely : Prop := linOneRow.holds Try.pinned (OpenSpec.ofChange linOneWrong)

/- THE SECOND FORM. 'bulk': how many values and letters a reading holds, each counted each time it is reached (what is shared counts as often as it is met; a slice's spare places count too). A statement '..UptoSaid' is the law's where the arguments, and the package variables that the reading takes, are together of bulk at most 1048576: NARROWER than '..Said'. Prove '..Said' where nothing that the law and all that it calls make is longer than what came in: it says more and counts as full. Else prove '..UptoSaid'. A law counts once. -/
mutual
def uptoBulk {H : Type} : DataW H → Nat
  | .lit (.string bytes) => bytes.length + 1
  | .lit _ => 1
  | .nil => 1
  | .ptr d => uptoBulk d + 1
  | .slice elems spare => uptoBulkAll elems + uptoBulkAll spare + 1
  | .agg parts => uptoBulkAll parts + 1
  | .iface _ d => uptoBulk d + 1
  | .map entries => uptoBulkEntries entries + 1
  | .held _ => 1
def uptoBulkAll {H : Type} : List (DataW H) → Nat
  | [] => 0
  | d :: r => uptoBulk d + uptoBulkAll r
def uptoBulkEntries {H : Type} : List (Lit × DataW H) → Nat
  | [] => 0
  | x :: r => uptoBulkEntry x + uptoBulkEntries r
def uptoBulkEntry {H : Type} : Lit × DataW H → Nat
  | (.string bytes, d) => bytes.length + uptoBulk d + 1
  | (_, d) => uptoBulk d + 1
 end
def uptoSmall : (H : Type) → List (DataW H) → Bool := fun _ ds => decide (uptoBulkAll ds ≤ 1048576)
def OpenSpec.upto (s : _root_.Go.ChangeSpec) : _root_.Go.OpenSpec := { _root_.Go.OpenSpec.ofChange s with cond := some uptoSmall }

/-- 'envelopelaw6.LinAll', WHERE WHAT IT READS IS OF BULK AT MOST 1048576: true; the input reads as it did. -/
def linAllUptoRow : OpenClaim := { program := "ytnoeajoeeldimaa", sum := "97911444325fa7169ec77923d10467ef788284679a6922e64ddd5b0aea8d7a2a", func := "envelope/envelopelaw6.LinAll", spec := "linAll", inPlace := ["math.Float64bits", "math.Float64frombits"], unfollowed := true, recurses := true, apart := false, narrowed := true }
def LinAllUptoSaid : Prop := linAllUptoRow.holds Try.pinned (OpenSpec.upto linAllSpec)

/-- 'envelopelaw6.LinParts', WHERE WHAT IT READS IS OF BULK AT MOST 1048576: true; the input reads as it did. -/
def linPartsUptoRow : OpenClaim := { program := "ytnoeajoeeldimaa", sum := "97911444325fa7169ec77923d10467ef788284679a6922e64ddd5b0aea8d7a2a", func := "envelope/envelopelaw6.LinParts", spec := "linParts", inPlace := ["math.Float64bits", "math.Float64frombits"], unfollowed := true, recurses := true, apart := false, narrowed := true }
def LinPartsUptoSaid : Prop := linPartsUptoRow.holds Try.pinned (OpenSpec.upto linPartsSpec)

/-- 'envelopelaw6.LinTurned', WHERE WHAT IT READS IS OF BULK AT MOST 1048576: true; the input reads as it did. -/
def linTurnedUptoRow : OpenClaim := { program := "ytnoeajoeeldimaa", sum := "97911444325fa7169ec77923d10467ef788284679a6922e64ddd5b0aea8d7a2a", func := "envelope/envelopelaw6.LinTurned", spec := "linTurned", inPlace := ["math.Float64bits", "math.Float64frombits"], unfollowed := true, recurses := true, apart := false, narrowed := true }
def LinTurnedUptoSaid : Prop := linTurnedUptoRow.holds Try.pinned (OpenSpec.upto linTurnedSpec)

/-- 'envelopelaw6.LinOrder', WHERE WHAT IT READS IS OF BULK AT MOST 1048576: true; the input reads as it did. -/
def linOrderUptoRow : OpenClaim := { program := "ytnoeajoeeldimaa", sum := "97911444325fa7169ec77923d10467ef788284679a6922e64ddd5b0aea8d7a2a", func := "envelope/envelopelaw6.LinOrder", spec := "linOrder", inPlace := ["math.Float64bits", "math.Float64frombits"], unfollowed := true, recurses := true, apart := false, narrowed := true }
def LinOrderUptoSaid : Prop := linOrderUptoRow.holds Try.pinned (OpenSpec.upto linOrderSpec)

/-- 'envelopelaw6.LinLeft', WHERE WHAT IT READS IS OF BULK AT MOST 1048576: true; the input reads as it did. -/
def linLeftUptoRow : OpenClaim := { program := "ytnoeajoeeldimaa", sum := "97911444325fa7169ec77923d10467ef788284679a6922e64ddd5b0aea8d7a2a", func := "envelope/envelopelaw6.LinLeft", spec := "linLeft", inPlace := ["math.Float64bits", "math.Float64frombits"], unfollowed := true, recurses := true, apart := false, narrowed := true }
def LinLeftUptoSaid : Prop := linLeftUptoRow.holds Try.pinned (OpenSpec.upto linLeftSpec)

/-- 'envelopelaw6.LinSolves', WHERE WHAT IT READS IS OF BULK AT MOST 1048576: true; the input reads as it did. -/
def linSolvesUptoRow : OpenClaim := { program := "ytnoeajoeeldimaa", sum := "97911444325fa7169ec77923d10467ef788284679a6922e64ddd5b0aea8d7a2a", func := "envelope/envelopelaw6.LinSolves", spec := "linSolves", inPlace := ["math.Float64bits", "math.Float64frombits"], unfollowed := true, recurses := true, apart := false, narrowed := true }
def LinSolvesUptoSaid : Prop := linSolvesUptoRow.holds Try.pinned (OpenSpec.upto linSolvesSpec)

/-- 'envelopelaw6.LinSwaps', WHERE WHAT IT READS IS OF BULK AT MOST 1048576: true; the input reads as it did. -/
def linSwapsUptoRow : OpenClaim := { program := "ytnoeajoeeldimaa", sum := "97911444325fa7169ec77923d10467ef788284679a6922e64ddd5b0aea8d7a2a", func := "envelope/envelopelaw6.LinSwaps", spec := "linSwaps", inPlace := ["math.Float64bits", "math.Float64frombits"], unfollowed := true, recurses := true, apart := false, narrowed := true }
def LinSwapsUptoSaid : Prop := linSwapsUptoRow.holds Try.pinned (OpenSpec.upto linSwapsSpec)

/-- 'envelopelaw6.LinUpper', WHERE WHAT IT READS IS OF BULK AT MOST 1048576: true; the input reads as it did. -/
def linUpperUptoRow : OpenClaim := { program := "ytnoeajoeeldimaa", sum := "97911444325fa7169ec77923d10467ef788284679a6922e64ddd5b0aea8d7a2a", func := "envelope/envelopelaw6.LinUpper", spec := "linUpper", inPlace := ["math.Float64bits", "math.Float64frombits"], unfollowed := true, recurses := true, apart := false, narrowed := true }
def LinUpperUptoSaid : Prop := linUpperUptoRow.holds Try.pinned (OpenSpec.upto linUpperSpec)

/-- 'envelopelaw6.LinOwn', WHERE WHAT IT READS IS OF BULK AT MOST 1048576: true; the input reads as it did. -/
def linOwnUptoRow : OpenClaim := { program := "ytnoeajoeeldimaa", sum := "97911444325fa7169ec77923d10467ef788284679a6922e64ddd5b0aea8d7a2a", func := "envelope/envelopelaw6.LinOwn", spec := "linOwn", inPlace := ["math.Float64bits", "math.Float64frombits"], unfollowed := true, recurses := true, apart := false, narrowed := true }
def LinOwnUptoSaid : Prop := linOwnUptoRow.holds Try.pinned (OpenSpec.upto linOwnSpec)

/-- 'envelopelaw6.LinOne', WHERE WHAT IT READS IS OF BULK AT MOST 1048576: true; the input reads as it did. -/
def linOneUptoRow : OpenClaim := { program := "ytnoeajoeeldimaa", sum := "97911444325fa7169ec77923d10467ef788284679a6922e64ddd5b0aea8d7a2a", func := "envelope/envelopelaw6.LinOne", spec := "linOne", inPlace := ["math.Float64bits", "math.Float64frombits"], unfollowed := true, recurses := true, apart := false, narrowed := true }
def LinOneUptoSaid : Prop := linOneUptoRow.holds Try.pinned (OpenSpec.upto linOneSpec)

end Rows
end Go.Proofs.Ytnoeajoeeldimaa
