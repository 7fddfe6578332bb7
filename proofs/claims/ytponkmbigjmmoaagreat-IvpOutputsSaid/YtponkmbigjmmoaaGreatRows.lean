/-
  No cell of these rows narrows 'for every input' (looked for: loops, veiled, ifaces, maps, wideKeys, modest, calm, conditions, laid).
  DERIVED. THE GIVEN ROWS OF THIS SEAT. 12 by the template 'for every input the law returns true; each argument reads behind the call as it read before'; 0 by the template 'total and deterministic' (their statements: YtponkmbigjmmoaaGreatTotals.lean).
  GIVEN WITH THE SEED: the statements are not yours to turn. If you find one false, say at which input.
  Laid BY PROGRAM, IN A SANDBOX (cutbox-rows.mjs): the forced cells as the released guide's own fill.sh prints them over the translation aa86d93205ff1663… (all of the seat's roots in one cut). By AI agents, Wed Nov 11 2026. No macro, syntax, notation, axiom, sorry.
-/
import Derived.Test.YtponkmbigjmmoaaGreatChecked
import GoSem.Claim
import GoSem.ClaimJoined
import GoSem.ClaimMapViews
import Derived.JoinedTies
import Derived.KernelRfl
namespace Go.Proofs.YtponkmbigjmmoaaGreat
/- THE CELL 'sum', in the pinned program and in every row, IS THE sha256 OF THE DUMP (.gsa) THAT YtponkmbigjmmoaaGreatProg.lean LOADS. Nothing in Lean hashes anything: it is a label: what it is worth is what the hold of that sum in a sandbox is worth. -/
noncomputable def Tryz.pinned : Pinned := { name := "ytponkmbigjmmoaagreat", sum := "aa86d93205ff16639afb9bfe0d0b03ae10777afefbe2699ab588f5c6c6bddaf7", checked := Tryz.checked }
namespace Rows
def none {H : Type} : Left H := { results := [], args := [] }

/-- 'envelopelaw12.IvpSolves': WHATEVER THE INPUT: true; the input reads as it did. -/
def ivpSolvesSpec : ChangeSpec := { name := "ivpSolves", fn := fun _ => fun
  | [d] => { results := [.lit (.bool true)], args := [d] }
  | _ => none }
def ivpSolvesRow : OpenClaim := { program := "ytponkmbigjmmoaagreat", sum := "aa86d93205ff16639afb9bfe0d0b03ae10777afefbe2699ab588f5c6c6bddaf7", func := "envelope/envelopelaw12.IvpSolves", spec := "ivpSolves", inPlace := ["math.Float64bits", "math.Float64frombits"], unfollowed := true, recurses := true, apart := false }
def IvpSolvesSaid : Prop := ivpSolvesRow.holds Tryz.pinned (OpenSpec.ofChange ivpSolvesSpec)

/-- ITS FALSE NEIGHBOUR: 'it returns false'. Refute it at one input. -/
def ivpSolvesWrong : ChangeSpec := { name := "ivpSolves", fn := fun _ => fun
  | [d] => { results := [.lit (.bool false)], args := [d] }
  | _ => none }
def IvpSolvesWrongFalsely : Prop := ivpSolvesRow.holds Tryz.pinned (OpenSpec.ofChange ivpSolvesWrong)

/-- 'envelopelaw12.IvpChecks': WHATEVER THE INPUT: true; the input reads as it did. -/
def ivpChecksSpec : ChangeSpec := { name := "ivpChecks", fn := fun _ => fun
  | [d1, d2, d3, d4] => { results := [.lit (.bool true)], args := [d1, d2, d3, d4] }
  | _ => none }
def ivpChecksRow : OpenClaim := { program := "ytponkmbigjmmoaagreat", sum := "aa86d93205ff16639afb9bfe0d0b03ae10777afefbe2699ab588f5c6c6bddaf7", func := "envelope/envelopelaw12.IvpChecks", spec := "ivpChecks", inPlace := ["math.Float64bits", "math.Float64frombits"], unfollowed := true, recurses := true, apart := false }
def IvpChecksSaid : Prop := ivpChecksRow.holds Tryz.pinned (OpenSpec.ofChange ivpChecksSpec)

/-- ITS FALSE NEIGHBOUR: 'it returns false'. Refute it at one input. -/
def ivpChecksWrong : ChangeSpec := { name := "ivpChecks", fn := fun _ => fun
  | [d1, d2, d3, d4] => { results := [.lit (.bool false)], args := [d1, d2, d3, d4] }
  | _ => none }
def IvpChecksWrongFalsely : Prop := ivpChecksRow.holds Tryz.pinned (OpenSpec.ofChange ivpChecksWrong)

/-- 'envelopelaw12.IvpPieces': WHATEVER THE INPUT: true; the input reads as it did. -/
def ivpPiecesSpec : ChangeSpec := { name := "ivpPieces", fn := fun _ => fun
  | [d1, d2] => { results := [.lit (.bool true)], args := [d1, d2] }
  | _ => none }
def ivpPiecesRow : OpenClaim := { program := "ytponkmbigjmmoaagreat", sum := "aa86d93205ff16639afb9bfe0d0b03ae10777afefbe2699ab588f5c6c6bddaf7", func := "envelope/envelopelaw12.IvpPieces", spec := "ivpPieces", inPlace := ["math.Float64bits", "math.Float64frombits"], unfollowed := true, recurses := true, apart := false }
def IvpPiecesSaid : Prop := ivpPiecesRow.holds Tryz.pinned (OpenSpec.ofChange ivpPiecesSpec)

/-- ITS FALSE NEIGHBOUR: 'it returns false'. Refute it at one input. -/
def ivpPiecesWrong : ChangeSpec := { name := "ivpPieces", fn := fun _ => fun
  | [d1, d2] => { results := [.lit (.bool false)], args := [d1, d2] }
  | _ => none }
def IvpPiecesWrongFalsely : Prop := ivpPiecesRow.holds Tryz.pinned (OpenSpec.ofChange ivpPiecesWrong)

/-- 'envelopelaw12.IvpOutputs': WHATEVER THE INPUT: true; the input reads as it did. -/
def ivpOutputsSpec : ChangeSpec := { name := "ivpOutputs", fn := fun _ => fun
  | [d1, d2] => { results := [.lit (.bool true)], args := [d1, d2] }
  | _ => none }
def ivpOutputsRow : OpenClaim := { program := "ytponkmbigjmmoaagreat", sum := "aa86d93205ff16639afb9bfe0d0b03ae10777afefbe2699ab588f5c6c6bddaf7", func := "envelope/envelopelaw12.IvpOutputs", spec := "ivpOutputs", inPlace := ["math.Float64bits", "math.Float64frombits"], unfollowed := true, recurses := true, apart := false }
def IvpOutputsSaid : Prop := ivpOutputsRow.holds Tryz.pinned (OpenSpec.ofChange ivpOutputsSpec)

/-- ITS FALSE NEIGHBOUR: 'it returns false'. Refute it at one input. -/
def ivpOutputsWrong : ChangeSpec := { name := "ivpOutputs", fn := fun _ => fun
  | [d1, d2] => { results := [.lit (.bool false)], args := [d1, d2] }
  | _ => none }
def IvpOutputsWrongFalsely : Prop := ivpOutputsRow.holds Tryz.pinned (OpenSpec.ofChange ivpOutputsWrong)

/-- 'envelopelaw12.IvpOrder': WHATEVER THE INPUT: true; the input reads as it did. -/
def ivpOrderSpec : ChangeSpec := { name := "ivpOrder", fn := fun _ => fun
  | [d] => { results := [.lit (.bool true)], args := [d] }
  | _ => none }
def ivpOrderRow : OpenClaim := { program := "ytponkmbigjmmoaagreat", sum := "aa86d93205ff16639afb9bfe0d0b03ae10777afefbe2699ab588f5c6c6bddaf7", func := "envelope/envelopelaw12.IvpOrder", spec := "ivpOrder", inPlace := ["math.Float64bits", "math.Float64frombits"], unfollowed := true, recurses := true, apart := false }
def IvpOrderSaid : Prop := ivpOrderRow.holds Tryz.pinned (OpenSpec.ofChange ivpOrderSpec)

/-- ITS FALSE NEIGHBOUR: 'it returns false'. Refute it at one input. -/
def ivpOrderWrong : ChangeSpec := { name := "ivpOrder", fn := fun _ => fun
  | [d] => { results := [.lit (.bool false)], args := [d] }
  | _ => none }
def IvpOrderWrongFalsely : Prop := ivpOrderRow.holds Tryz.pinned (OpenSpec.ofChange ivpOrderWrong)

/-- 'envelopelaw12.IvpEnds': WHATEVER THE INPUT: true; the input reads as it did. -/
def ivpEndsSpec : ChangeSpec := { name := "ivpEnds", fn := fun _ => fun
  | [d1, d2, d3] => { results := [.lit (.bool true)], args := [d1, d2, d3] }
  | _ => none }
def ivpEndsRow : OpenClaim := { program := "ytponkmbigjmmoaagreat", sum := "aa86d93205ff16639afb9bfe0d0b03ae10777afefbe2699ab588f5c6c6bddaf7", func := "envelope/envelopelaw12.IvpEnds", spec := "ivpEnds", inPlace := ["math.Float64bits", "math.Float64frombits"], unfollowed := true, recurses := true, apart := false }
def IvpEndsSaid : Prop := ivpEndsRow.holds Tryz.pinned (OpenSpec.ofChange ivpEndsSpec)

/-- ITS FALSE NEIGHBOUR: 'it returns false'. Refute it at one input. -/
def ivpEndsWrong : ChangeSpec := { name := "ivpEnds", fn := fun _ => fun
  | [d1, d2, d3] => { results := [.lit (.bool false)], args := [d1, d2, d3] }
  | _ => none }
def IvpEndsWrongFalsely : Prop := ivpEndsRow.holds Tryz.pinned (OpenSpec.ofChange ivpEndsWrong)

/-- 'envelopelaw12.IvpBounds': WHATEVER THE INPUT: true; the input reads as it did. -/
def ivpBoundsSpec : ChangeSpec := { name := "ivpBounds", fn := fun _ => fun
  | [d] => { results := [.lit (.bool true)], args := [d] }
  | _ => none }
def ivpBoundsRow : OpenClaim := { program := "ytponkmbigjmmoaagreat", sum := "aa86d93205ff16639afb9bfe0d0b03ae10777afefbe2699ab588f5c6c6bddaf7", func := "envelope/envelopelaw12.IvpBounds", spec := "ivpBounds", inPlace := ["math.Float64bits", "math.Float64frombits"], unfollowed := true, recurses := true, apart := false }
def IvpBoundsSaid : Prop := ivpBoundsRow.holds Tryz.pinned (OpenSpec.ofChange ivpBoundsSpec)

/-- ITS FALSE NEIGHBOUR: 'it returns false'. Refute it at one input. -/
def ivpBoundsWrong : ChangeSpec := { name := "ivpBounds", fn := fun _ => fun
  | [d] => { results := [.lit (.bool false)], args := [d] }
  | _ => none }
def IvpBoundsWrongFalsely : Prop := ivpBoundsRow.holds Tryz.pinned (OpenSpec.ofChange ivpBoundsWrong)

/-- 'envelopelaw12.IvpStarts': WHATEVER THE INPUT: true; the input reads as it did. -/
def ivpStartsSpec : ChangeSpec := { name := "ivpStarts", fn := fun _ => fun
  | [d1, d2] => { results := [.lit (.bool true)], args := [d1, d2] }
  | _ => none }
def ivpStartsRow : OpenClaim := { program := "ytponkmbigjmmoaagreat", sum := "aa86d93205ff16639afb9bfe0d0b03ae10777afefbe2699ab588f5c6c6bddaf7", func := "envelope/envelopelaw12.IvpStarts", spec := "ivpStarts", inPlace := ["math.Float64bits", "math.Float64frombits"], unfollowed := true, recurses := true, apart := false }
def IvpStartsSaid : Prop := ivpStartsRow.holds Tryz.pinned (OpenSpec.ofChange ivpStartsSpec)

/-- ITS FALSE NEIGHBOUR: 'it returns false'. Refute it at one input. -/
def ivpStartsWrong : ChangeSpec := { name := "ivpStarts", fn := fun _ => fun
  | [d1, d2] => { results := [.lit (.bool false)], args := [d1, d2] }
  | _ => none }
def IvpStartsWrongFalsely : Prop := ivpStartsRow.holds Tryz.pinned (OpenSpec.ofChange ivpStartsWrong)

/-- 'envelopelaw12.IvpBegins': WHATEVER THE INPUT: true; the input reads as it did. -/
def ivpBeginsSpec : ChangeSpec := { name := "ivpBegins", fn := fun _ => fun
  | [d1, d2] => { results := [.lit (.bool true)], args := [d1, d2] }
  | _ => none }
def ivpBeginsRow : OpenClaim := { program := "ytponkmbigjmmoaagreat", sum := "aa86d93205ff16639afb9bfe0d0b03ae10777afefbe2699ab588f5c6c6bddaf7", func := "envelope/envelopelaw12.IvpBegins", spec := "ivpBegins", inPlace := ["math.Float64bits", "math.Float64frombits"], unfollowed := true, recurses := true, apart := false }
def IvpBeginsSaid : Prop := ivpBeginsRow.holds Tryz.pinned (OpenSpec.ofChange ivpBeginsSpec)

/-- ITS FALSE NEIGHBOUR: 'it returns false'. Refute it at one input. -/
def ivpBeginsWrong : ChangeSpec := { name := "ivpBegins", fn := fun _ => fun
  | [d1, d2] => { results := [.lit (.bool false)], args := [d1, d2] }
  | _ => none }
def IvpBeginsWrongFalsely : Prop := ivpBeginsRow.holds Tryz.pinned (OpenSpec.ofChange ivpBeginsWrong)

/-- 'envelopelaw12.IvpOwn': WHATEVER THE INPUT: true; the input reads as it did. -/
def ivpOwnSpec : ChangeSpec := { name := "ivpOwn", fn := fun _ => fun
  | [d1, d2, d3] => { results := [.lit (.bool true)], args := [d1, d2, d3] }
  | _ => none }
def ivpOwnRow : OpenClaim := { program := "ytponkmbigjmmoaagreat", sum := "aa86d93205ff16639afb9bfe0d0b03ae10777afefbe2699ab588f5c6c6bddaf7", func := "envelope/envelopelaw12.IvpOwn", spec := "ivpOwn", inPlace := ["math.Float64bits", "math.Float64frombits"], unfollowed := true, recurses := true, apart := false }
def IvpOwnSaid : Prop := ivpOwnRow.holds Tryz.pinned (OpenSpec.ofChange ivpOwnSpec)

/-- ITS FALSE NEIGHBOUR: 'it returns false'. Refute it at one input. -/
def ivpOwnWrong : ChangeSpec := { name := "ivpOwn", fn := fun _ => fun
  | [d1, d2, d3] => { results := [.lit (.bool false)], args := [d1, d2, d3] }
  | _ => none }
def IvpOwnWrongFalsely : Prop := ivpOwnRow.holds Tryz.pinned (OpenSpec.ofChange ivpOwnWrong)

/-- 'envelopelaw12.IvpNothing': WHATEVER THE INPUT: true; the input reads as it did. -/
def ivpNothingSpec : ChangeSpec := { name := "ivpNothing", fn := fun _ => fun
  | [d1, d2, d3, d4] => { results := [.lit (.bool true)], args := [d1, d2, d3, d4] }
  | _ => none }
def ivpNothingRow : OpenClaim := { program := "ytponkmbigjmmoaagreat", sum := "aa86d93205ff16639afb9bfe0d0b03ae10777afefbe2699ab588f5c6c6bddaf7", func := "envelope/envelopelaw12.IvpNothing", spec := "ivpNothing", inPlace := ["math.Float64bits", "math.Float64frombits"], unfollowed := true, recurses := true, apart := false }
def IvpNothingSaid : Prop := ivpNothingRow.holds Tryz.pinned (OpenSpec.ofChange ivpNothingSpec)

/-- ITS FALSE NEIGHBOUR: 'it returns false'. Refute it at one input. -/
def ivpNothingWrong : ChangeSpec := { name := "ivpNothing", fn := fun _ => fun
  | [d1, d2, d3, d4] => { results := [.lit (.bool false)], args := [d1, d2, d3, d4] }
  | _ => none }
def IvpNothingWrongFalsely : Prop := ivpNothingRow.holds Tryz.pinned (OpenSpec.ofChange ivpNothingWrong)

/-- 'envelopelaw12.IvpMost': WHATEVER THE INPUT: true; the input reads as it did. -/
def ivpMostSpec : ChangeSpec := { name := "ivpMost", fn := fun _ => fun
  | [d1, d2] => { results := [.lit (.bool true)], args := [d1, d2] }
  | _ => none }
def ivpMostRow : OpenClaim := { program := "ytponkmbigjmmoaagreat", sum := "aa86d93205ff16639afb9bfe0d0b03ae10777afefbe2699ab588f5c6c6bddaf7", func := "envelope/envelopelaw12.IvpMost", spec := "ivpMost", inPlace := ["math.Float64bits", "math.Float64frombits"], unfollowed := true, recurses := true, apart := false }
def IvpMostSaid : Prop := ivpMostRow.holds Tryz.pinned (OpenSpec.ofChange ivpMostSpec)

/-- ITS FALSE NEIGHBOUR: 'it returns false'. Refute it at one input. -/
def ivpMostWrong : ChangeSpec := { name := "ivpMost", fn := fun _ => fun
  | [d1, d2] => { results := [.lit (.bool false)], args := [d1, d2] }
  | _ => none }
def IvpMostWrongFalsely : Prop := ivpMostRow.holds Tryz.pinned (OpenSpec.ofChange ivpMostWrong)

/- THE SECOND FORM. 'bulk': how many values and letters a reading holds, each counted each time it is reached (what is shared counts as often as it is met; a slice's spare places count too). A statement '..UptoSaid' is the law's where the arguments, and the package variables that the reading takes, are together of bulk at most 1048576: NARROWER than '..Said'. Prove '..Said' where nothing that the law and all that it calls make is longer than what came in: it says more and counts as full. Else prove '..UptoSaid'. A law counts once. -/
mutual
def uptoBulk {H : Type} : DataW H → Nat
  | .lit (.string bytes) => bytes.length + 1
  | .lit _ => 1
  | .nil => 1
  | .ptr d => uptoBulk d + 1
  | .slice elems spare => uptoBulkAll elems + uptoBulkAll spare + 1
  | .agg parts => uptoBulkAll parts + 1
  | .iface _ d => uptoBulk d + 1
  | .map entries => uptoBulkEntries entries + 1
  | .held _ => 1
def uptoBulkAll {H : Type} : List (DataW H) → Nat
  | [] => 0
  | d :: r => uptoBulk d + uptoBulkAll r
def uptoBulkEntries {H : Type} : List (Lit × DataW H) → Nat
  | [] => 0
  | x :: r => uptoBulkEntry x + uptoBulkEntries r
def uptoBulkEntry {H : Type} : Lit × DataW H → Nat
  | (.string bytes, d) => bytes.length + uptoBulk d + 1
  | (_, d) => uptoBulk d + 1
 end
def uptoSmall : (H : Type) → List (DataW H) → Bool := fun _ ds => decide (uptoBulkAll ds ≤ 1048576)
def OpenSpec.upto (s : _root_.Go.ChangeSpec) : _root_.Go.OpenSpec := { _root_.Go.OpenSpec.ofChange s with cond := some uptoSmall }

/-- 'envelopelaw12.IvpSolves', WHERE WHAT IT READS IS OF BULK AT MOST 1048576: true; the input reads as it did. -/
def ivpSolvesUptoRow : OpenClaim := { program := "ytponkmbigjmmoaagreat", sum := "aa86d93205ff16639afb9bfe0d0b03ae10777afefbe2699ab588f5c6c6bddaf7", func := "envelope/envelopelaw12.IvpSolves", spec := "ivpSolves", inPlace := ["math.Float64bits", "math.Float64frombits"], unfollowed := true, recurses := true, apart := false, narrowed := true }
def IvpSolvesUptoSaid : Prop := ivpSolvesUptoRow.holds Tryz.pinned (OpenSpec.upto ivpSolvesSpec)

/-- 'envelopelaw12.IvpChecks', WHERE WHAT IT READS IS OF BULK AT MOST 1048576: true; the input reads as it did. -/
def ivpChecksUptoRow : OpenClaim := { program := "ytponkmbigjmmoaagreat", sum := "aa86d93205ff16639afb9bfe0d0b03ae10777afefbe2699ab588f5c6c6bddaf7", func := "envelope/envelopelaw12.IvpChecks", spec := "ivpChecks", inPlace := ["math.Float64bits", "math.Float64frombits"], unfollowed := true, recurses := true, apart := false, narrowed := true }
def IvpChecksUptoSaid : Prop := ivpChecksUptoRow.holds Tryz.pinned (OpenSpec.upto ivpChecksSpec)

/-- 'envelopelaw12.IvpPieces', WHERE WHAT IT READS IS OF BULK AT MOST 1048576: true; the input reads as it did. -/
def ivpPiecesUptoRow : OpenClaim := { program := "ytponkmbigjmmoaagreat", sum := "aa86d93205ff16639afb9bfe0d0b03ae10777afefbe2699ab588f5c6c6bddaf7", func := "envelope/envelopelaw12.IvpPieces", spec := "ivpPieces", inPlace := ["math.Float64bits", "math.Float64frombits"], unfollowed := true, recurses := true, apart := false, narrowed := true }
def IvpPiecesUptoSaid : Prop := ivpPiecesUptoRow.holds Tryz.pinned (OpenSpec.upto ivpPiecesSpec)

/-- 'envelopelaw12.IvpOutputs', WHERE WHAT IT READS IS OF BULK AT MOST 1048576: true; the input reads as it did. -/
def ivpOutputsUptoRow : OpenClaim := { program := "ytponkmbigjmmoaagreat", sum := "aa86d93205ff16639afb9bfe0d0b03ae10777afefbe2699ab588f5c6c6bddaf7", func := "envelope/envelopelaw12.IvpOutputs", spec := "ivpOutputs", inPlace := ["math.Float64bits", "math.Float64frombits"], unfollowed := true, recurses := true, apart := false, narrowed := true }
def IvpOutputsUptoSaid : Prop := ivpOutputsUptoRow.holds Tryz.pinned (OpenSpec.upto ivpOutputsSpec)

/-- 'envelopelaw12.IvpOrder', WHERE WHAT IT READS IS OF BULK AT MOST 1048576: true; the input reads as it did. -/
def ivpOrderUptoRow : OpenClaim := { program := "ytponkmbigjmmoaagreat", sum := "aa86d93205ff16639afb9bfe0d0b03ae10777afefbe2699ab588f5c6c6bddaf7", func := "envelope/envelopelaw12.IvpOrder", spec := "ivpOrder", inPlace := ["math.Float64bits", "math.Float64frombits"], unfollowed := true, recurses := true, apart := false, narrowed := true }
def IvpOrderUptoSaid : Prop := ivpOrderUptoRow.holds Tryz.pinned (OpenSpec.upto ivpOrderSpec)

/-- 'envelopelaw12.IvpEnds', WHERE WHAT IT READS IS OF BULK AT MOST 1048576: true; the input reads as it did. -/
def ivpEndsUptoRow : OpenClaim := { program := "ytponkmbigjmmoaagreat", sum := "aa86d93205ff16639afb9bfe0d0b03ae10777afefbe2699ab588f5c6c6bddaf7", func := "envelope/envelopelaw12.IvpEnds", spec := "ivpEnds", inPlace := ["math.Float64bits", "math.Float64frombits"], unfollowed := true, recurses := true, apart := false, narrowed := true }
def IvpEndsUptoSaid : Prop := ivpEndsUptoRow.holds Tryz.pinned (OpenSpec.upto ivpEndsSpec)

/-- 'envelopelaw12.IvpBounds', WHERE WHAT IT READS IS OF BULK AT MOST 1048576: true; the input reads as it did. -/
def ivpBoundsUptoRow : OpenClaim := { program := "ytponkmbigjmmoaagreat", sum := "aa86d93205ff16639afb9bfe0d0b03ae10777afefbe2699ab588f5c6c6bddaf7", func := "envelope/envelopelaw12.IvpBounds", spec := "ivpBounds", inPlace := ["math.Float64bits", "math.Float64frombits"], unfollowed := true, recurses := true, apart := false, narrowed := true }
def IvpBoundsUptoSaid : Prop := ivpBoundsUptoRow.holds Tryz.pinned (OpenSpec.upto ivpBoundsSpec)

/-- 'envelopelaw12.IvpStarts', WHERE WHAT IT READS IS OF BULK AT MOST 1048576: true; the input reads as it did. -/
def ivpStartsUptoRow : OpenClaim := { program := "ytponkmbigjmmoaagreat", sum := "aa86d93205ff16639afb9bfe0d0b03ae10777afefbe2699ab588f5c6c6bddaf7", func := "envelope/envelopelaw12.IvpStarts", spec := "ivpStarts", inPlace := ["math.Float64bits", "math.Float64frombits"], unfollowed := true, recurses := true, apart := false, narrowed := true }
def IvpStartsUptoSaid : Prop := ivpStartsUptoRow.holds Tryz.pinned (OpenSpec.upto ivpStartsSpec)

/-- 'envelopelaw12.IvpBegins', WHERE WHAT IT READS IS OF BULK AT MOST 1048576: true; the input reads as it did. -/
def ivpBeginsUptoRow : OpenClaim := { program := "ytponkmbigjmmoaagreat", sum := "aa86d93205ff16639afb9bfe0d0b03ae10777afefbe2699ab588f5c6c6bddaf7", func := "envelope/envelopelaw12.IvpBegins", spec := "ivpBegins", inPlace := ["math.Float64bits", "math.Float64frombits"], unfollowed := true, recurses := true, apart := false, narrowed := true }
def IvpBeginsUptoSaid : Prop := ivpBeginsUptoRow.holds Tryz.pinned (OpenSpec.upto ivpBeginsSpec)

/-- 'envelopelaw12.IvpOwn', WHERE WHAT IT READS IS OF BULK AT MOST 1048576: true; the input reads as it did. -/
def ivpOwnUptoRow : OpenClaim := { program := "ytponkmbigjmmoaagreat", sum := "aa86d93205ff16639afb9bfe0d0b03ae10777afefbe2699ab588f5c6c6bddaf7", func := "envelope/envelopelaw12.IvpOwn", spec := "ivpOwn", inPlace := ["math.Float64bits", "math.Float64frombits"], unfollowed := true, recurses := true, apart := false, narrowed := true }
def IvpOwnUptoSaid : Prop := ivpOwnUptoRow.holds Tryz.pinned (OpenSpec.upto ivpOwnSpec)

/-- 'envelopelaw12.IvpNothing', WHERE WHAT IT READS IS OF BULK AT MOST 1048576: true; the input reads as it did. -/
def ivpNothingUptoRow : OpenClaim := { program := "ytponkmbigjmmoaagreat", sum := "aa86d93205ff16639afb9bfe0d0b03ae10777afefbe2699ab588f5c6c6bddaf7", func := "envelope/envelopelaw12.IvpNothing", spec := "ivpNothing", inPlace := ["math.Float64bits", "math.Float64frombits"], unfollowed := true, recurses := true, apart := false, narrowed := true }
def IvpNothingUptoSaid : Prop := ivpNothingUptoRow.holds Tryz.pinned (OpenSpec.upto ivpNothingSpec)

/-- 'envelopelaw12.IvpMost', WHERE WHAT IT READS IS OF BULK AT MOST 1048576: true; the input reads as it did. -/
def ivpMostUptoRow : OpenClaim := { program := "ytponkmbigjmmoaagreat", sum := "aa86d93205ff16639afb9bfe0d0b03ae10777afefbe2699ab588f5c6c6bddaf7", func := "envelope/envelopelaw12.IvpMost", spec := "ivpMost", inPlace := ["math.Float64bits", "math.Float64frombits"], unfollowed := true, recurses := true, apart := false, narrowed := true }
def IvpMostUptoSaid : Prop := ivpMostUptoRow.holds Tryz.pinned (OpenSpec.upto ivpMostSpec)

end Rows
end Go.Proofs.YtponkmbigjmmoaaGreat
