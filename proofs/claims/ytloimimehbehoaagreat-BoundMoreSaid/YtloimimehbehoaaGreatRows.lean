/-
  No cell of these rows narrows 'for every input' (looked for: loops, veiled, ifaces, maps, wideKeys, modest, calm, conditions, laid).
  DERIVED. THE GIVEN ROWS OF THIS SEAT. 8 by the template 'for every input the law returns true; each argument reads behind the call as it read before'; 0 by the template 'total and deterministic' (their statements: YtloimimehbehoaaGreatTotals.lean).
  GIVEN WITH THE SEED: the statements are not yours to turn. If you find one false, say at which input.
  Laid BY PROGRAM, IN A SANDBOX (cutbox-rows.mjs): the forced cells as the released guide's own fill.sh prints them over the translation 978a95f6d5670282… (all of the seat's roots in one cut). By AI agents, Wed Nov 11 2026. No macro, syntax, notation, axiom, sorry.
-/
import Derived.Test.YtloimimehbehoaaGreatChecked
import GoSem.Claim
import GoSem.ClaimJoined
import GoSem.ClaimMapViews
import Derived.JoinedTies
import Derived.KernelRfl
namespace Go.Proofs.YtloimimehbehoaaGreat
/- THE CELL 'sum', in the pinned program and in every row, IS THE sha256 OF THE DUMP (.gsa) THAT YtloimimehbehoaaGreatProg.lean LOADS. Nothing in Lean hashes anything: it is a label: what it is worth is what the hold of that sum in a sandbox is worth. -/
noncomputable def Tryz.pinned : Pinned := { name := "ytloimimehbehoaagreat", sum := "978a95f6d5670282c328416f1ffef30511c4d14e34f2f6eed4a308b3d7c59859", checked := Tryz.checked }
namespace Rows
def none {H : Type} : Left H := { results := [], args := [] }

/-- 'envelopelaw11.BoundSteps': WHATEVER THE INPUT: true; the input reads as it did. -/
def boundStepsSpec : ChangeSpec := { name := "boundSteps", fn := fun _ => fun
  | [d1, d2, d3, d4] => { results := [.lit (.bool true)], args := [d1, d2, d3, d4] }
  | _ => none }
def boundStepsRow : OpenClaim := { program := "ytloimimehbehoaagreat", sum := "978a95f6d5670282c328416f1ffef30511c4d14e34f2f6eed4a308b3d7c59859", func := "envelope/envelopelaw11.BoundSteps", spec := "boundSteps", inPlace := ["math.Float64bits", "math.Float64frombits"], unfollowed := true, recurses := true, apart := false }
def BoundStepsSaid : Prop := boundStepsRow.holds Tryz.pinned (OpenSpec.ofChange boundStepsSpec)

/-- ITS FALSE NEIGHBOUR: 'it returns false'. Refute it at one input. -/
def boundStepsWrong : ChangeSpec := { name := "boundSteps", fn := fun _ => fun
  | [d1, d2, d3, d4] => { results := [.lit (.bool false)], args := [d1, d2, d3, d4] }
  | _ => none }
def BoundStepsWrongFalsely : Prop := boundStepsRow.holds Tryz.pinned (OpenSpec.ofChange boundStepsWrong)

/-- 'envelopelaw11.BoundGrows': WHATEVER THE INPUT: true; the input reads as it did. -/
def boundGrowsSpec : ChangeSpec := { name := "boundGrows", fn := fun _ => fun
  | [d1, d2, d3] => { results := [.lit (.bool true)], args := [d1, d2, d3] }
  | _ => none }
def boundGrowsRow : OpenClaim := { program := "ytloimimehbehoaagreat", sum := "978a95f6d5670282c328416f1ffef30511c4d14e34f2f6eed4a308b3d7c59859", func := "envelope/envelopelaw11.BoundGrows", spec := "boundGrows", inPlace := ["math.Float64bits", "math.Float64frombits"], unfollowed := true, recurses := true, apart := false }
def BoundGrowsSaid : Prop := boundGrowsRow.holds Tryz.pinned (OpenSpec.ofChange boundGrowsSpec)

/-- ITS FALSE NEIGHBOUR: 'it returns false'. Refute it at one input. -/
def boundGrowsWrong : ChangeSpec := { name := "boundGrows", fn := fun _ => fun
  | [d1, d2, d3] => { results := [.lit (.bool false)], args := [d1, d2, d3] }
  | _ => none }
def BoundGrowsWrongFalsely : Prop := boundGrowsRow.holds Tryz.pinned (OpenSpec.ofChange boundGrowsWrong)

/-- 'envelopelaw11.BoundMore': WHATEVER THE INPUT: true; the input reads as it did. -/
def boundMoreSpec : ChangeSpec := { name := "boundMore", fn := fun _ => fun
  | [d1, d2, d3, d4] => { results := [.lit (.bool true)], args := [d1, d2, d3, d4] }
  | _ => none }
def boundMoreRow : OpenClaim := { program := "ytloimimehbehoaagreat", sum := "978a95f6d5670282c328416f1ffef30511c4d14e34f2f6eed4a308b3d7c59859", func := "envelope/envelopelaw11.BoundMore", spec := "boundMore", inPlace := ["math.Float64bits", "math.Float64frombits"], unfollowed := true, recurses := true, apart := false }
def BoundMoreSaid : Prop := boundMoreRow.holds Tryz.pinned (OpenSpec.ofChange boundMoreSpec)

/-- ITS FALSE NEIGHBOUR: 'it returns false'. Refute it at one input. -/
def boundMoreWrong : ChangeSpec := { name := "boundMore", fn := fun _ => fun
  | [d1, d2, d3, d4] => { results := [.lit (.bool false)], args := [d1, d2, d3, d4] }
  | _ => none }
def BoundMoreWrongFalsely : Prop := boundMoreRow.holds Tryz.pinned (OpenSpec.ofChange boundMoreWrong)

/-- 'envelopelaw11.BoundBox': WHATEVER THE INPUT: true; the input reads as it did. -/
def boundBoxSpec : ChangeSpec := { name := "boundBox", fn := fun _ => fun
  | [d1, d2, d3] => { results := [.lit (.bool true)], args := [d1, d2, d3] }
  | _ => none }
def boundBoxRow : OpenClaim := { program := "ytloimimehbehoaagreat", sum := "978a95f6d5670282c328416f1ffef30511c4d14e34f2f6eed4a308b3d7c59859", func := "envelope/envelopelaw11.BoundBox", spec := "boundBox", inPlace := ["math.Float64bits", "math.Float64frombits"], unfollowed := true, recurses := true, apart := false }
def BoundBoxSaid : Prop := boundBoxRow.holds Tryz.pinned (OpenSpec.ofChange boundBoxSpec)

/-- ITS FALSE NEIGHBOUR: 'it returns false'. Refute it at one input. -/
def boundBoxWrong : ChangeSpec := { name := "boundBox", fn := fun _ => fun
  | [d1, d2, d3] => { results := [.lit (.bool false)], args := [d1, d2, d3] }
  | _ => none }
def BoundBoxWrongFalsely : Prop := boundBoxRow.holds Tryz.pinned (OpenSpec.ofChange boundBoxWrong)

/-- 'envelopelaw11.BoundTube': WHATEVER THE INPUT: true; the input reads as it did. -/
def boundTubeSpec : ChangeSpec := { name := "boundTube", fn := fun _ => fun
  | [d1, d2] => { results := [.lit (.bool true)], args := [d1, d2] }
  | _ => none }
def boundTubeRow : OpenClaim := { program := "ytloimimehbehoaagreat", sum := "978a95f6d5670282c328416f1ffef30511c4d14e34f2f6eed4a308b3d7c59859", func := "envelope/envelopelaw11.BoundTube", spec := "boundTube", inPlace := ["math.Float64bits", "math.Float64frombits"], unfollowed := true, recurses := true, apart := false }
def BoundTubeSaid : Prop := boundTubeRow.holds Tryz.pinned (OpenSpec.ofChange boundTubeSpec)

/-- ITS FALSE NEIGHBOUR: 'it returns false'. Refute it at one input. -/
def boundTubeWrong : ChangeSpec := { name := "boundTube", fn := fun _ => fun
  | [d1, d2] => { results := [.lit (.bool false)], args := [d1, d2] }
  | _ => none }
def BoundTubeWrongFalsely : Prop := boundTubeRow.holds Tryz.pinned (OpenSpec.ofChange boundTubeWrong)

/-- 'envelopelaw11.BoundJump': WHATEVER THE INPUT: true; the input reads as it did. -/
def boundJumpSpec : ChangeSpec := { name := "boundJump", fn := fun _ => fun
  | [d1, d2] => { results := [.lit (.bool true)], args := [d1, d2] }
  | _ => none }
def boundJumpRow : OpenClaim := { program := "ytloimimehbehoaagreat", sum := "978a95f6d5670282c328416f1ffef30511c4d14e34f2f6eed4a308b3d7c59859", func := "envelope/envelopelaw11.BoundJump", spec := "boundJump", inPlace := ["math.Float64bits", "math.Float64frombits"], unfollowed := true, recurses := true, apart := false }
def BoundJumpSaid : Prop := boundJumpRow.holds Tryz.pinned (OpenSpec.ofChange boundJumpSpec)

/-- ITS FALSE NEIGHBOUR: 'it returns false'. Refute it at one input. -/
def boundJumpWrong : ChangeSpec := { name := "boundJump", fn := fun _ => fun
  | [d1, d2] => { results := [.lit (.bool false)], args := [d1, d2] }
  | _ => none }
def BoundJumpWrongFalsely : Prop := boundJumpRow.holds Tryz.pinned (OpenSpec.ofChange boundJumpWrong)

/-- 'envelopelaw11.BoundDecay': WHATEVER THE INPUT: true; the input reads as it did. -/
def boundDecaySpec : ChangeSpec := { name := "boundDecay", fn := fun _ => fun
  | [d1, d2, d3, d4] => { results := [.lit (.bool true)], args := [d1, d2, d3, d4] }
  | _ => none }
def boundDecayRow : OpenClaim := { program := "ytloimimehbehoaagreat", sum := "978a95f6d5670282c328416f1ffef30511c4d14e34f2f6eed4a308b3d7c59859", func := "envelope/envelopelaw11.BoundDecay", spec := "boundDecay", inPlace := ["math.Float64bits", "math.Float64frombits"], unfollowed := true, recurses := true, apart := false }
def BoundDecaySaid : Prop := boundDecayRow.holds Tryz.pinned (OpenSpec.ofChange boundDecaySpec)

/-- ITS FALSE NEIGHBOUR: 'it returns false'. Refute it at one input. -/
def boundDecayWrong : ChangeSpec := { name := "boundDecay", fn := fun _ => fun
  | [d1, d2, d3, d4] => { results := [.lit (.bool false)], args := [d1, d2, d3, d4] }
  | _ => none }
def BoundDecayWrongFalsely : Prop := boundDecayRow.holds Tryz.pinned (OpenSpec.ofChange boundDecayWrong)

/-- 'envelopelaw11.BoundOwn': WHATEVER THE INPUT: true; the input reads as it did. -/
def boundOwnSpec : ChangeSpec := { name := "boundOwn", fn := fun _ => fun
  | [d1, d2] => { results := [.lit (.bool true)], args := [d1, d2] }
  | _ => none }
def boundOwnRow : OpenClaim := { program := "ytloimimehbehoaagreat", sum := "978a95f6d5670282c328416f1ffef30511c4d14e34f2f6eed4a308b3d7c59859", func := "envelope/envelopelaw11.BoundOwn", spec := "boundOwn", inPlace := ["math.Float64bits", "math.Float64frombits"], unfollowed := true, recurses := true, apart := false }
def BoundOwnSaid : Prop := boundOwnRow.holds Tryz.pinned (OpenSpec.ofChange boundOwnSpec)

/-- ITS FALSE NEIGHBOUR: 'it returns false'. Refute it at one input. -/
def boundOwnWrong : ChangeSpec := { name := "boundOwn", fn := fun _ => fun
  | [d1, d2] => { results := [.lit (.bool false)], args := [d1, d2] }
  | _ => none }
def BoundOwnWrongFalsely : Prop := boundOwnRow.holds Tryz.pinned (OpenSpec.ofChange boundOwnWrong)

/- THE SECOND FORM. 'bulk': how many values and letters a reading holds, each counted each time it is reached (what is shared counts as often as it is met; a slice's spare places count too). A statement '..UptoSaid' is the law's where the arguments, and the package variables that the reading takes, are together of bulk at most 1048576: NARROWER than '..Said'. Prove '..Said' where nothing that the law and all that it calls make is longer than what came in: it says more and counts as full. Else prove '..UptoSaid'. A law counts once. -/
mutual
def uptoBulk {H : Type} : DataW H → Nat
  | .lit (.string bytes) => bytes.length + 1
  | .lit _ => 1
  | .nil => 1
  | .ptr d => uptoBulk d + 1
  | .slice elems spare => uptoBulkAll elems + uptoBulkAll spare + 1
  | .agg parts => uptoBulkAll parts + 1
  | .iface _ d => uptoBulk d + 1
  | .map entries => uptoBulkEntries entries + 1
  | .held _ => 1
def uptoBulkAll {H : Type} : List (DataW H) → Nat
  | [] => 0
  | d :: r => uptoBulk d + uptoBulkAll r
def uptoBulkEntries {H : Type} : List (Lit × DataW H) → Nat
  | [] => 0
  | x :: r => uptoBulkEntry x + uptoBulkEntries r
def uptoBulkEntry {H : Type} : Lit × DataW H → Nat
  | (.string bytes, d) => bytes.length + uptoBulk d + 1
  | (_, d) => uptoBulk d + 1
 end
def uptoSmall : (H : Type) → List (DataW H) → Bool := fun _ ds => decide (uptoBulkAll ds ≤ 1048576)
def OpenSpec.upto (s : _root_.Go.ChangeSpec) : _root_.Go.OpenSpec := { _root_.Go.OpenSpec.ofChange s with cond := some uptoSmall }

/-- 'envelopelaw11.BoundSteps', WHERE WHAT IT READS IS OF BULK AT MOST 1048576: true; the input reads as it did. -/
def boundStepsUptoRow : OpenClaim := { program := "ytloimimehbehoaagreat", sum := "978a95f6d5670282c328416f1ffef30511c4d14e34f2f6eed4a308b3d7c59859", func := "envelope/envelopelaw11.BoundSteps", spec := "boundSteps", inPlace := ["math.Float64bits", "math.Float64frombits"], unfollowed := true, recurses := true, apart := false, narrowed := true }
def BoundStepsUptoSaid : Prop := boundStepsUptoRow.holds Tryz.pinned (OpenSpec.upto boundStepsSpec)

/-- 'envelopelaw11.BoundGrows', WHERE WHAT IT READS IS OF BULK AT MOST 1048576: true; the input reads as it did. -/
def boundGrowsUptoRow : OpenClaim := { program := "ytloimimehbehoaagreat", sum := "978a95f6d5670282c328416f1ffef30511c4d14e34f2f6eed4a308b3d7c59859", func := "envelope/envelopelaw11.BoundGrows", spec := "boundGrows", inPlace := ["math.Float64bits", "math.Float64frombits"], unfollowed := true, recurses := true, apart := false, narrowed := true }
def BoundGrowsUptoSaid : Prop := boundGrowsUptoRow.holds Tryz.pinned (OpenSpec.upto boundGrowsSpec)

/-- 'envelopelaw11.BoundMore', WHERE WHAT IT READS IS OF BULK AT MOST 1048576: true; the input reads as it did. -/
def boundMoreUptoRow : OpenClaim := { program := "ytloimimehbehoaagreat", sum := "978a95f6d5670282c328416f1ffef30511c4d14e34f2f6eed4a308b3d7c59859", func := "envelope/envelopelaw11.BoundMore", spec := "boundMore", inPlace := ["math.Float64bits", "math.Float64frombits"], unfollowed := true, recurses := true, apart := false, narrowed := true }
def BoundMoreUptoSaid : Prop := boundMoreUptoRow.holds Tryz.pinned (OpenSpec.upto boundMoreSpec)

/-- 'envelopelaw11.BoundBox', WHERE WHAT IT READS IS OF BULK AT MOST 1048576: true; the input reads as it did. -/
def boundBoxUptoRow : OpenClaim := { program := "ytloimimehbehoaagreat", sum := "978a95f6d5670282c328416f1ffef30511c4d14e34f2f6eed4a308b3d7c59859", func := "envelope/envelopelaw11.BoundBox", spec := "boundBox", inPlace := ["math.Float64bits", "math.Float64frombits"], unfollowed := true, recurses := true, apart := false, narrowed := true }
def BoundBoxUptoSaid : Prop := boundBoxUptoRow.holds Tryz.pinned (OpenSpec.upto boundBoxSpec)

/-- 'envelopelaw11.BoundTube', WHERE WHAT IT READS IS OF BULK AT MOST 1048576: true; the input reads as it did. -/
def boundTubeUptoRow : OpenClaim := { program := "ytloimimehbehoaagreat", sum := "978a95f6d5670282c328416f1ffef30511c4d14e34f2f6eed4a308b3d7c59859", func := "envelope/envelopelaw11.BoundTube", spec := "boundTube", inPlace := ["math.Float64bits", "math.Float64frombits"], unfollowed := true, recurses := true, apart := false, narrowed := true }
def BoundTubeUptoSaid : Prop := boundTubeUptoRow.holds Tryz.pinned (OpenSpec.upto boundTubeSpec)

/-- 'envelopelaw11.BoundJump', WHERE WHAT IT READS IS OF BULK AT MOST 1048576: true; the input reads as it did. -/
def boundJumpUptoRow : OpenClaim := { program := "ytloimimehbehoaagreat", sum := "978a95f6d5670282c328416f1ffef30511c4d14e34f2f6eed4a308b3d7c59859", func := "envelope/envelopelaw11.BoundJump", spec := "boundJump", inPlace := ["math.Float64bits", "math.Float64frombits"], unfollowed := true, recurses := true, apart := false, narrowed := true }
def BoundJumpUptoSaid : Prop := boundJumpUptoRow.holds Tryz.pinned (OpenSpec.upto boundJumpSpec)

/-- 'envelopelaw11.BoundDecay', WHERE WHAT IT READS IS OF BULK AT MOST 1048576: true; the input reads as it did. -/
def boundDecayUptoRow : OpenClaim := { program := "ytloimimehbehoaagreat", sum := "978a95f6d5670282c328416f1ffef30511c4d14e34f2f6eed4a308b3d7c59859", func := "envelope/envelopelaw11.BoundDecay", spec := "boundDecay", inPlace := ["math.Float64bits", "math.Float64frombits"], unfollowed := true, recurses := true, apart := false, narrowed := true }
def BoundDecayUptoSaid : Prop := boundDecayUptoRow.holds Tryz.pinned (OpenSpec.upto boundDecaySpec)

/-- 'envelopelaw11.BoundOwn', WHERE WHAT IT READS IS OF BULK AT MOST 1048576: true; the input reads as it did. -/
def boundOwnUptoRow : OpenClaim := { program := "ytloimimehbehoaagreat", sum := "978a95f6d5670282c328416f1ffef30511c4d14e34f2f6eed4a308b3d7c59859", func := "envelope/envelopelaw11.BoundOwn", spec := "boundOwn", inPlace := ["math.Float64bits", "math.Float64frombits"], unfollowed := true, recurses := true, apart := false, narrowed := true }
def BoundOwnUptoSaid : Prop := boundOwnUptoRow.holds Tryz.pinned (OpenSpec.upto boundOwnSpec)

end Rows
end Go.Proofs.YtloimimehbehoaaGreat
