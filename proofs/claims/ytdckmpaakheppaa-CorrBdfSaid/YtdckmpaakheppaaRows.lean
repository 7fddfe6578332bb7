/-
  No cell of these rows narrows 'for every input' (looked for: loops, veiled, ifaces, maps, wideKeys, modest, calm, conditions, laid).
  DERIVED. THE GIVEN ROWS OF THIS SEAT. 11 by the template 'for every input the law returns true; each argument reads behind the call as it read before'; 0 by the template 'total and deterministic' (their statements: YtdckmpaakheppaaTotals.lean).
  GIVEN WITH THE SEED: the statements are not yours to turn. If you find one false, say at which input.
  Laid BY PROGRAM, IN A SANDBOX (cutbox-rows.mjs): the forced cells as the released guide's own fill.sh prints them over the translation da3da2dbbc754efb… (all of the seat's roots in one cut). By AI agents, Wed Nov 11 2026. No macro, syntax, notation, axiom, sorry.
-/
import Derived.Test.YtdckmpaakheppaaChecked
import GoSem.Claim
import GoSem.ClaimJoined
import GoSem.ClaimMapViews
import Derived.JoinedTies
import Derived.KernelRfl
namespace Go.Proofs.Ytdckmpaakheppaa
/- THE CELL 'sum', in the pinned program and in every row, IS THE sha256 OF THE DUMP (.gsa) THAT YtdckmpaakheppaaProg.lean LOADS. Nothing in Lean hashes anything: it is a label: what it is worth is what the hold of that sum in a sandbox is worth. -/
noncomputable def Try.pinned : Pinned := { name := "ytdckmpaakheppaa", sum := "da3da2dbbc754efb08f5bd6848f00b2d5ba43213a2f73824e08d4ea54b4f2b36", checked := Try.checked }
namespace Rows
def none {H : Type} : Left H := { results := [], args := [] }

/-- 'envelopelaw9.CorrAll': WHATEVER THE INPUT: true; the input reads as it did. -/
def corrAllSpec : ChangeSpec := { name := "corrAll", fn := fun _ => fun
  | [d1, d2, d3, d4, d5, d6, d7, d8] => { results := [.lit (.bool true)], args := [d1, d2, d3, d4, d5, d6, d7, d8] }
  | _ => none }
def corrAllRow : OpenClaim := { program := "ytdckmpaakheppaa", sum := "da3da2dbbc754efb08f5bd6848f00b2d5ba43213a2f73824e08d4ea54b4f2b36", func := "envelope/envelopelaw9.CorrAll", spec := "corrAll", inPlace := ["math.Float64bits", "math.Float64frombits"], unfollowed := true, recurses := true, apart := false }
def CorrAllSaid : Prop := corrAllRow.holds Try.pinned (OpenSpec.ofChange corrAllSpec)

/-- ITS FALSE NEIGHBOUR: 'it returns false'. Refute it at one input. -/
def corrAllWrong : ChangeSpec := { name := "corrAll", fn := fun _ => fun
  | [d1, d2, d3, d4, d5, d6, d7, d8] => { results := [.lit (.bool false)], args := [d1, d2, d3, d4, d5, d6, d7, d8] }
  | _ => none }
def CorrAllWrongFalsely : Prop := corrAllRow.holds Try.pinned (OpenSpec.ofChange corrAllWrong)

/-- 'envelopelaw9.CorrSize': WHATEVER THE INPUT: true; the input reads as it did. -/
def corrSizeSpec : ChangeSpec := { name := "corrSize", fn := fun _ => fun
  | [d1, d2] => { results := [.lit (.bool true)], args := [d1, d2] }
  | _ => none }
def corrSizeRow : OpenClaim := { program := "ytdckmpaakheppaa", sum := "da3da2dbbc754efb08f5bd6848f00b2d5ba43213a2f73824e08d4ea54b4f2b36", func := "envelope/envelopelaw9.CorrSize", spec := "corrSize", inPlace := ["math.Float64bits", "math.Float64frombits"], unfollowed := true, recurses := true, apart := false }
def CorrSizeSaid : Prop := corrSizeRow.holds Try.pinned (OpenSpec.ofChange corrSizeSpec)

/-- ITS FALSE NEIGHBOUR: 'it returns false'. Refute it at one input. -/
def corrSizeWrong : ChangeSpec := { name := "corrSize", fn := fun _ => fun
  | [d1, d2] => { results := [.lit (.bool false)], args := [d1, d2] }
  | _ => none }
def CorrSizeWrongFalsely : Prop := corrSizeRow.holds Try.pinned (OpenSpec.ofChange corrSizeWrong)

/-- 'envelopelaw9.CorrLeaves': WHATEVER THE INPUT: true; the input reads as it did. -/
def corrLeavesSpec : ChangeSpec := { name := "corrLeaves", fn := fun _ => fun
  | [d1, d2, d3, d4, d5] => { results := [.lit (.bool true)], args := [d1, d2, d3, d4, d5] }
  | _ => none }
def corrLeavesRow : OpenClaim := { program := "ytdckmpaakheppaa", sum := "da3da2dbbc754efb08f5bd6848f00b2d5ba43213a2f73824e08d4ea54b4f2b36", func := "envelope/envelopelaw9.CorrLeaves", spec := "corrLeaves", inPlace := ["math.Float64bits", "math.Float64frombits"], unfollowed := true, recurses := true, apart := false }
def CorrLeavesSaid : Prop := corrLeavesRow.holds Try.pinned (OpenSpec.ofChange corrLeavesSpec)

/-- ITS FALSE NEIGHBOUR: 'it returns false'. Refute it at one input. -/
def corrLeavesWrong : ChangeSpec := { name := "corrLeaves", fn := fun _ => fun
  | [d1, d2, d3, d4, d5] => { results := [.lit (.bool false)], args := [d1, d2, d3, d4, d5] }
  | _ => none }
def CorrLeavesWrongFalsely : Prop := corrLeavesRow.holds Try.pinned (OpenSpec.ofChange corrLeavesWrong)

/-- 'envelopelaw9.CorrBdf': WHATEVER THE INPUT: true; the input reads as it did. -/
def corrBdfSpec : ChangeSpec := { name := "corrBdf", fn := fun _ => fun
  | [d1, d2, d3, d4, d5] => { results := [.lit (.bool true)], args := [d1, d2, d3, d4, d5] }
  | _ => none }
def corrBdfRow : OpenClaim := { program := "ytdckmpaakheppaa", sum := "da3da2dbbc754efb08f5bd6848f00b2d5ba43213a2f73824e08d4ea54b4f2b36", func := "envelope/envelopelaw9.CorrBdf", spec := "corrBdf", inPlace := ["math.Float64bits", "math.Float64frombits"], unfollowed := true, recurses := true, apart := false }
def CorrBdfSaid : Prop := corrBdfRow.holds Try.pinned (OpenSpec.ofChange corrBdfSpec)

/-- ITS FALSE NEIGHBOUR: 'it returns false'. Refute it at one input. -/
def corrBdfWrong : ChangeSpec := { name := "corrBdf", fn := fun _ => fun
  | [d1, d2, d3, d4, d5] => { results := [.lit (.bool false)], args := [d1, d2, d3, d4, d5] }
  | _ => none }
def CorrBdfWrongFalsely : Prop := corrBdfRow.holds Try.pinned (OpenSpec.ofChange corrBdfWrong)

/-- 'envelopelaw9.CorrErrs': WHATEVER THE INPUT: true; the input reads as it did. -/
def corrErrsSpec : ChangeSpec := { name := "corrErrs", fn := fun _ => fun
  | [d1, d2] => { results := [.lit (.bool true)], args := [d1, d2] }
  | _ => none }
def corrErrsRow : OpenClaim := { program := "ytdckmpaakheppaa", sum := "da3da2dbbc754efb08f5bd6848f00b2d5ba43213a2f73824e08d4ea54b4f2b36", func := "envelope/envelopelaw9.CorrErrs", spec := "corrErrs", inPlace := ["math.Float64bits", "math.Float64frombits"], unfollowed := true, recurses := true, apart := false }
def CorrErrsSaid : Prop := corrErrsRow.holds Try.pinned (OpenSpec.ofChange corrErrsSpec)

/-- ITS FALSE NEIGHBOUR: 'it returns false'. Refute it at one input. -/
def corrErrsWrong : ChangeSpec := { name := "corrErrs", fn := fun _ => fun
  | [d1, d2] => { results := [.lit (.bool false)], args := [d1, d2] }
  | _ => none }
def CorrErrsWrongFalsely : Prop := corrErrsRow.holds Try.pinned (OpenSpec.ofChange corrErrsWrong)

/-- 'envelopelaw9.CorrLine': WHATEVER THE INPUT: true; the input reads as it did. -/
def corrLineSpec : ChangeSpec := { name := "corrLine", fn := fun _ => fun
  | [d1, d2, d3, d4, d5, d6] => { results := [.lit (.bool true)], args := [d1, d2, d3, d4, d5, d6] }
  | _ => none }
def corrLineRow : OpenClaim := { program := "ytdckmpaakheppaa", sum := "da3da2dbbc754efb08f5bd6848f00b2d5ba43213a2f73824e08d4ea54b4f2b36", func := "envelope/envelopelaw9.CorrLine", spec := "corrLine", inPlace := ["math.Float64bits", "math.Float64frombits"], unfollowed := true, recurses := true, apart := false }
def CorrLineSaid : Prop := corrLineRow.holds Try.pinned (OpenSpec.ofChange corrLineSpec)

/-- ITS FALSE NEIGHBOUR: 'it returns false'. Refute it at one input. -/
def corrLineWrong : ChangeSpec := { name := "corrLine", fn := fun _ => fun
  | [d1, d2, d3, d4, d5, d6] => { results := [.lit (.bool false)], args := [d1, d2, d3, d4, d5, d6] }
  | _ => none }
def CorrLineWrongFalsely : Prop := corrLineRow.holds Try.pinned (OpenSpec.ofChange corrLineWrong)

/-- 'envelopelaw9.CorrTight': WHATEVER THE INPUT: true; the input reads as it did. -/
def corrTightSpec : ChangeSpec := { name := "corrTight", fn := fun _ => fun
  | [d1, d2, d3, d4, d5, d6] => { results := [.lit (.bool true)], args := [d1, d2, d3, d4, d5, d6] }
  | _ => none }
def corrTightRow : OpenClaim := { program := "ytdckmpaakheppaa", sum := "da3da2dbbc754efb08f5bd6848f00b2d5ba43213a2f73824e08d4ea54b4f2b36", func := "envelope/envelopelaw9.CorrTight", spec := "corrTight", inPlace := ["math.Float64bits", "math.Float64frombits"], unfollowed := true, recurses := true, apart := false }
def CorrTightSaid : Prop := corrTightRow.holds Try.pinned (OpenSpec.ofChange corrTightSpec)

/-- ITS FALSE NEIGHBOUR: 'it returns false'. Refute it at one input. -/
def corrTightWrong : ChangeSpec := { name := "corrTight", fn := fun _ => fun
  | [d1, d2, d3, d4, d5, d6] => { results := [.lit (.bool false)], args := [d1, d2, d3, d4, d5, d6] }
  | _ => none }
def CorrTightWrongFalsely : Prop := corrTightRow.holds Try.pinned (OpenSpec.ofChange corrTightWrong)

/-- 'envelopelaw9.CorrOwn': WHATEVER THE INPUT: true; the input reads as it did. -/
def corrOwnSpec : ChangeSpec := { name := "corrOwn", fn := fun _ => fun
  | [d1, d2, d3, d4, d5, d6] => { results := [.lit (.bool true)], args := [d1, d2, d3, d4, d5, d6] }
  | _ => none }
def corrOwnRow : OpenClaim := { program := "ytdckmpaakheppaa", sum := "da3da2dbbc754efb08f5bd6848f00b2d5ba43213a2f73824e08d4ea54b4f2b36", func := "envelope/envelopelaw9.CorrOwn", spec := "corrOwn", inPlace := ["math.Float64bits", "math.Float64frombits"], unfollowed := true, recurses := true, apart := false }
def CorrOwnSaid : Prop := corrOwnRow.holds Try.pinned (OpenSpec.ofChange corrOwnSpec)

/-- ITS FALSE NEIGHBOUR: 'it returns false'. Refute it at one input. -/
def corrOwnWrong : ChangeSpec := { name := "corrOwn", fn := fun _ => fun
  | [d1, d2, d3, d4, d5, d6] => { results := [.lit (.bool false)], args := [d1, d2, d3, d4, d5, d6] }
  | _ => none }
def CorrOwnWrongFalsely : Prop := corrOwnRow.holds Try.pinned (OpenSpec.ofChange corrOwnWrong)

/-- 'envelopelaw9.CorrScales': WHATEVER THE INPUT: true; the input reads as it did. -/
def corrScalesSpec : ChangeSpec := { name := "corrScales", fn := fun _ => fun
  | [d1, d2] => { results := [.lit (.bool true)], args := [d1, d2] }
  | _ => none }
def corrScalesRow : OpenClaim := { program := "ytdckmpaakheppaa", sum := "da3da2dbbc754efb08f5bd6848f00b2d5ba43213a2f73824e08d4ea54b4f2b36", func := "envelope/envelopelaw9.CorrScales", spec := "corrScales", inPlace := ["math.Float64bits", "math.Float64frombits"], unfollowed := true, recurses := true, apart := false }
def CorrScalesSaid : Prop := corrScalesRow.holds Try.pinned (OpenSpec.ofChange corrScalesSpec)

/-- ITS FALSE NEIGHBOUR: 'it returns false'. Refute it at one input. -/
def corrScalesWrong : ChangeSpec := { name := "corrScales", fn := fun _ => fun
  | [d1, d2] => { results := [.lit (.bool false)], args := [d1, d2] }
  | _ => none }
def CorrScalesWrongFalsely : Prop := corrScalesRow.holds Try.pinned (OpenSpec.ofChange corrScalesWrong)

/-- 'envelopelaw9.CorrWeights': WHATEVER THE INPUT: true; the input reads as it did. -/
def corrWeightsSpec : ChangeSpec := { name := "corrWeights", fn := fun _ => fun
  | [d1, d2, d3, d4] => { results := [.lit (.bool true)], args := [d1, d2, d3, d4] }
  | _ => none }
def corrWeightsRow : OpenClaim := { program := "ytdckmpaakheppaa", sum := "da3da2dbbc754efb08f5bd6848f00b2d5ba43213a2f73824e08d4ea54b4f2b36", func := "envelope/envelopelaw9.CorrWeights", spec := "corrWeights", inPlace := ["math.Float64bits", "math.Float64frombits"], unfollowed := true, recurses := true, apart := false }
def CorrWeightsSaid : Prop := corrWeightsRow.holds Try.pinned (OpenSpec.ofChange corrWeightsSpec)

/-- ITS FALSE NEIGHBOUR: 'it returns false'. Refute it at one input. -/
def corrWeightsWrong : ChangeSpec := { name := "corrWeights", fn := fun _ => fun
  | [d1, d2, d3, d4] => { results := [.lit (.bool false)], args := [d1, d2, d3, d4] }
  | _ => none }
def CorrWeightsWrongFalsely : Prop := corrWeightsRow.holds Try.pinned (OpenSpec.ofChange corrWeightsWrong)

/-- 'envelopelaw9.CorrSizes': WHATEVER THE INPUT: true; the input reads as it did. -/
def corrSizesSpec : ChangeSpec := { name := "corrSizes", fn := fun _ => fun
  | [d1, d2, d3, d4, d5] => { results := [.lit (.bool true)], args := [d1, d2, d3, d4, d5] }
  | _ => none }
def corrSizesRow : OpenClaim := { program := "ytdckmpaakheppaa", sum := "da3da2dbbc754efb08f5bd6848f00b2d5ba43213a2f73824e08d4ea54b4f2b36", func := "envelope/envelopelaw9.CorrSizes", spec := "corrSizes", inPlace := ["math.Float64bits", "math.Float64frombits"], unfollowed := true, recurses := true, apart := false }
def CorrSizesSaid : Prop := corrSizesRow.holds Try.pinned (OpenSpec.ofChange corrSizesSpec)

/-- ITS FALSE NEIGHBOUR: 'it returns false'. Refute it at one input. -/
def corrSizesWrong : ChangeSpec := { name := "corrSizes", fn := fun _ => fun
  | [d1, d2, d3, d4, d5] => { results := [.lit (.bool false)], args := [d1, d2, d3, d4, d5] }
  | _ => none }
def CorrSizesWrongFalsely : Prop := corrSizesRow.holds Try.pinned (OpenSpec.ofChange corrSizesWrong)

/- THE SECOND FORM. 'bulk': how many values and letters a reading holds, each counted each time it is reached (what is shared counts as often as it is met; a slice's spare places count too). A statement '..UptoSaid' is the law's where the arguments, and the package variables that the reading takes, are together of bulk at most 1048576: NARROWER than '..Said'. Prove '..Said' where nothing that the law and all that it calls make is longer than what came in: it says more and counts as full. Else prove '..UptoSaid'. A law counts once. -/
mutual
def uptoBulk {H : Type} : DataW H → Nat
  | .lit (.string bytes) => bytes.length + 1
  | .lit _ => 1
  | .nil => 1
  | .ptr d => uptoBulk d + 1
  | .slice elems spare => uptoBulkAll elems + uptoBulkAll spare + 1
  | .agg parts => uptoBulkAll parts + 1
  | .iface _ d => uptoBulk d + 1
  | .map entries => uptoBulkEntries entries + 1
  | .held _ => 1
def uptoBulkAll {H : Type} : List (DataW H) → Nat
  | [] => 0
  | d :: r => uptoBulk d + uptoBulkAll r
def uptoBulkEntries {H : Type} : List (Lit × DataW H) → Nat
  | [] => 0
  | x :: r => uptoBulkEntry x + uptoBulkEntries r
def uptoBulkEntry {H : Type} : Lit × DataW H → Nat
  | (.string bytes, d) => bytes.length + uptoBulk d + 1
  | (_, d) => uptoBulk d + 1
 end
def uptoSmall : (H : Type) → List (DataW H) → Bool := fun _ ds => decide (uptoBulkAll ds ≤ 1048576)
def OpenSpec.upto (s : _root_.Go.ChangeSpec) : _root_.Go.OpenSpec := { _root_.Go.OpenSpec.ofChange s with cond := some uptoSmall }

/-- 'envelopelaw9.CorrAll', WHERE WHAT IT READS IS OF BULK AT MOST 1048576: true; the input reads as it did. -/
def corrAllUptoRow : OpenClaim := { program := "ytdckmpaakheppaa", sum := "da3da2dbbc754efb08f5bd6848f00b2d5ba43213a2f73824e08d4ea54b4f2b36", func := "envelope/envelopelaw9.CorrAll", spec := "corrAll", inPlace := ["math.Float64bits", "math.Float64frombits"], unfollowed := true, recurses := true, apart := false, narrowed := true }
def CorrAllUptoSaid : Prop := corrAllUptoRow.holds Try.pinned (OpenSpec.upto corrAllSpec)

/-- 'envelopelaw9.CorrSize', WHERE WHAT IT READS IS OF BULK AT MOST 1048576: true; the input reads as it did. -/
def corrSizeUptoRow : OpenClaim := { program := "ytdckmpaakheppaa", sum := "da3da2dbbc754efb08f5bd6848f00b2d5ba43213a2f73824e08d4ea54b4f2b36", func := "envelope/envelopelaw9.CorrSize", spec := "corrSize", inPlace := ["math.Float64bits", "math.Float64frombits"], unfollowed := true, recurses := true, apart := false, narrowed := true }
def CorrSizeUptoSaid : Prop := corrSizeUptoRow.holds Try.pinned (OpenSpec.upto corrSizeSpec)

/-- 'envelopelaw9.CorrLeaves', WHERE WHAT IT READS IS OF BULK AT MOST 1048576: true; the input reads as it did. -/
def corrLeavesUptoRow : OpenClaim := { program := "ytdckmpaakheppaa", sum := "da3da2dbbc754efb08f5bd6848f00b2d5ba43213a2f73824e08d4ea54b4f2b36", func := "envelope/envelopelaw9.CorrLeaves", spec := "corrLeaves", inPlace := ["math.Float64bits", "math.Float64frombits"], unfollowed := true, recurses := true, apart := false, narrowed := true }
def CorrLeavesUptoSaid : Prop := corrLeavesUptoRow.holds Try.pinned (OpenSpec.upto corrLeavesSpec)

/-- 'envelopelaw9.CorrBdf', WHERE WHAT IT READS IS OF BULK AT MOST 1048576: true; the input reads as it did. -/
def corrBdfUptoRow : OpenClaim := { program := "ytdckmpaakheppaa", sum := "da3da2dbbc754efb08f5bd6848f00b2d5ba43213a2f73824e08d4ea54b4f2b36", func := "envelope/envelopelaw9.CorrBdf", spec := "corrBdf", inPlace := ["math.Float64bits", "math.Float64frombits"], unfollowed := true, recurses := true, apart := false, narrowed := true }
def CorrBdfUptoSaid : Prop := corrBdfUptoRow.holds Try.pinned (OpenSpec.upto corrBdfSpec)

/-- 'envelopelaw9.CorrErrs', WHERE WHAT IT READS IS OF BULK AT MOST 1048576: true; the input reads as it did. -/
def corrErrsUptoRow : OpenClaim := { program := "ytdckmpaakheppaa", sum := "da3da2dbbc754efb08f5bd6848f00b2d5ba43213a2f73824e08d4ea54b4f2b36", func := "envelope/envelopelaw9.CorrErrs", spec := "corrErrs", inPlace := ["math.Float64bits", "math.Float64frombits"], unfollowed := true, recurses := true, apart := false, narrowed := true }
def CorrErrsUptoSaid : Prop := corrErrsUptoRow.holds Try.pinned (OpenSpec.upto corrErrsSpec)

/-- 'envelopelaw9.CorrLine', WHERE WHAT IT READS IS OF BULK AT MOST 1048576: true; the input reads as it did. -/
def corrLineUptoRow : OpenClaim := { program := "ytdckmpaakheppaa", sum := "da3da2dbbc754efb08f5bd6848f00b2d5ba43213a2f73824e08d4ea54b4f2b36", func := "envelope/envelopelaw9.CorrLine", spec := "corrLine", inPlace := ["math.Float64bits", "math.Float64frombits"], unfollowed := true, recurses := true, apart := false, narrowed := true }
def CorrLineUptoSaid : Prop := corrLineUptoRow.holds Try.pinned (OpenSpec.upto corrLineSpec)

/-- 'envelopelaw9.CorrTight', WHERE WHAT IT READS IS OF BULK AT MOST 1048576: true; the input reads as it did. -/
def corrTightUptoRow : OpenClaim := { program := "ytdckmpaakheppaa", sum := "da3da2dbbc754efb08f5bd6848f00b2d5ba43213a2f73824e08d4ea54b4f2b36", func := "envelope/envelopelaw9.CorrTight", spec := "corrTight", inPlace := ["math.Float64bits", "math.Float64frombits"], unfollowed := true, recurses := true, apart := false, narrowed := true }
def CorrTightUptoSaid : Prop := corrTightUptoRow.holds Try.pinned (OpenSpec.upto corrTightSpec)

/-- 'envelopelaw9.CorrOwn', WHERE WHAT IT READS IS OF BULK AT MOST 1048576: true; the input reads as it did. -/
def corrOwnUptoRow : OpenClaim := { program := "ytdckmpaakheppaa", sum := "da3da2dbbc754efb08f5bd6848f00b2d5ba43213a2f73824e08d4ea54b4f2b36", func := "envelope/envelopelaw9.CorrOwn", spec := "corrOwn", inPlace := ["math.Float64bits", "math.Float64frombits"], unfollowed := true, recurses := true, apart := false, narrowed := true }
def CorrOwnUptoSaid : Prop := corrOwnUptoRow.holds Try.pinned (OpenSpec.upto corrOwnSpec)

/-- 'envelopelaw9.CorrScales', WHERE WHAT IT READS IS OF BULK AT MOST 1048576: true; the input reads as it did. -/
def corrScalesUptoRow : OpenClaim := { program := "ytdckmpaakheppaa", sum := "da3da2dbbc754efb08f5bd6848f00b2d5ba43213a2f73824e08d4ea54b4f2b36", func := "envelope/envelopelaw9.CorrScales", spec := "corrScales", inPlace := ["math.Float64bits", "math.Float64frombits"], unfollowed := true, recurses := true, apart := false, narrowed := true }
def CorrScalesUptoSaid : Prop := corrScalesUptoRow.holds Try.pinned (OpenSpec.upto corrScalesSpec)

/-- 'envelopelaw9.CorrWeights', WHERE WHAT IT READS IS OF BULK AT MOST 1048576: true; the input reads as it did. -/
def corrWeightsUptoRow : OpenClaim := { program := "ytdckmpaakheppaa", sum := "da3da2dbbc754efb08f5bd6848f00b2d5ba43213a2f73824e08d4ea54b4f2b36", func := "envelope/envelopelaw9.CorrWeights", spec := "corrWeights", inPlace := ["math.Float64bits", "math.Float64frombits"], unfollowed := true, recurses := true, apart := false, narrowed := true }
def CorrWeightsUptoSaid : Prop := corrWeightsUptoRow.holds Try.pinned (OpenSpec.upto corrWeightsSpec)

/-- 'envelopelaw9.CorrSizes', WHERE WHAT IT READS IS OF BULK AT MOST 1048576: true; the input reads as it did. -/
def corrSizesUptoRow : OpenClaim := { program := "ytdckmpaakheppaa", sum := "da3da2dbbc754efb08f5bd6848f00b2d5ba43213a2f73824e08d4ea54b4f2b36", func := "envelope/envelopelaw9.CorrSizes", spec := "corrSizes", inPlace := ["math.Float64bits", "math.Float64frombits"], unfollowed := true, recurses := true, apart := false, narrowed := true }
def CorrSizesUptoSaid : Prop := corrSizesUptoRow.holds Try.pinned (OpenSpec.upto corrSizesSpec)

end Rows
end Go.Proofs.Ytdckmpaakheppaa
