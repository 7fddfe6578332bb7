/-
  No cell of these rows narrows 'for every input' (looked for: loops, veiled, ifaces, maps, wideKeys, modest, calm, conditions, laid).
  DERIVED. THE GIVEN ROWS OF THIS SEAT. 9 by the template 'for every input the law returns true; each argument reads behind the call as it read before'; 0 by the template 'total and deterministic' (their statements: YtdnldhnjbnpbcaaGreatTotals.lean).
  GIVEN WITH THE SEED: the statements are not yours to turn. If you find one false, say at which input.
  Laid BY PROGRAM, IN A SANDBOX (cutbox-rows.mjs): the forced cells as the released guide's own fill.sh prints them over the translation 8e1dfd750987e326… (all of the seat's roots in one cut). By AI agents, Wed Nov 11 2026. No macro, syntax, notation, axiom, sorry.
-/
import Derived.Test.YtdnldhnjbnpbcaaGreatChecked
import GoSem.Claim
import GoSem.ClaimJoined
import GoSem.ClaimMapViews
import Derived.JoinedTies
import Derived.KernelRfl
namespace Go.Proofs.YtdnldhnjbnpbcaaGreat
/- THE CELL 'sum', in the pinned program and in every row, IS THE sha256 OF THE DUMP (.gsa) THAT YtdnldhnjbnpbcaaGreatProg.lean LOADS. Nothing in Lean hashes anything: it is a label: what it is worth is what the hold of that sum in a sandbox is worth. -/
noncomputable def Tryz.pinned : Pinned := { name := "ytdnldhnjbnpbcaagreat", sum := "8e1dfd750987e326ab9d17fd680d2e8e737f7bc14da88d15440c88b3c04856ce", checked := Tryz.checked }
namespace Rows
def none {H : Type} : Left H := { results := [], args := [] }

/-- 'envelopelaw10.StepTries': WHATEVER THE INPUT: true; the input reads as it did. -/
def stepTriesSpec : ChangeSpec := { name := "stepTries", fn := fun _ => fun
  | [d1, d2] => { results := [.lit (.bool true)], args := [d1, d2] }
  | _ => none }
def stepTriesRow : OpenClaim := { program := "ytdnldhnjbnpbcaagreat", sum := "8e1dfd750987e326ab9d17fd680d2e8e737f7bc14da88d15440c88b3c04856ce", func := "envelope/envelopelaw10.StepTries", spec := "stepTries", inPlace := ["math.Float64bits", "math.Float64frombits"], unfollowed := true, recurses := true, apart := false }
def StepTriesSaid : Prop := stepTriesRow.holds Tryz.pinned (OpenSpec.ofChange stepTriesSpec)

/-- ITS FALSE NEIGHBOUR: 'it returns false'. Refute it at one input. -/
def stepTriesWrong : ChangeSpec := { name := "stepTries", fn := fun _ => fun
  | [d1, d2] => { results := [.lit (.bool false)], args := [d1, d2] }
  | _ => none }
def StepTriesWrongFalsely : Prop := stepTriesRow.holds Tryz.pinned (OpenSpec.ofChange stepTriesWrong)

/-- 'envelopelaw10.StepTakes': WHATEVER THE INPUT: true; the input reads as it did. -/
def stepTakesSpec : ChangeSpec := { name := "stepTakes", fn := fun _ => fun
  | [d1, d2] => { results := [.lit (.bool true)], args := [d1, d2] }
  | _ => none }
def stepTakesRow : OpenClaim := { program := "ytdnldhnjbnpbcaagreat", sum := "8e1dfd750987e326ab9d17fd680d2e8e737f7bc14da88d15440c88b3c04856ce", func := "envelope/envelopelaw10.StepTakes", spec := "stepTakes", inPlace := ["math.Float64bits", "math.Float64frombits"], unfollowed := true, recurses := true, apart := false }
def StepTakesSaid : Prop := stepTakesRow.holds Tryz.pinned (OpenSpec.ofChange stepTakesSpec)

/-- ITS FALSE NEIGHBOUR: 'it returns false'. Refute it at one input. -/
def stepTakesWrong : ChangeSpec := { name := "stepTakes", fn := fun _ => fun
  | [d1, d2] => { results := [.lit (.bool false)], args := [d1, d2] }
  | _ => none }
def StepTakesWrongFalsely : Prop := stepTakesRow.holds Tryz.pinned (OpenSpec.ofChange stepTakesWrong)

/-- 'envelopelaw10.StepErrs': WHATEVER THE INPUT: true; the input reads as it did. -/
def stepErrsSpec : ChangeSpec := { name := "stepErrs", fn := fun _ => fun
  | [d1, d2] => { results := [.lit (.bool true)], args := [d1, d2] }
  | _ => none }
def stepErrsRow : OpenClaim := { program := "ytdnldhnjbnpbcaagreat", sum := "8e1dfd750987e326ab9d17fd680d2e8e737f7bc14da88d15440c88b3c04856ce", func := "envelope/envelopelaw10.StepErrs", spec := "stepErrs", inPlace := ["math.Float64bits", "math.Float64frombits"], unfollowed := true, recurses := true, apart := false }
def StepErrsSaid : Prop := stepErrsRow.holds Tryz.pinned (OpenSpec.ofChange stepErrsSpec)

/-- ITS FALSE NEIGHBOUR: 'it returns false'. Refute it at one input. -/
def stepErrsWrong : ChangeSpec := { name := "stepErrs", fn := fun _ => fun
  | [d1, d2] => { results := [.lit (.bool false)], args := [d1, d2] }
  | _ => none }
def StepErrsWrongFalsely : Prop := stepErrsRow.holds Tryz.pinned (OpenSpec.ofChange stepErrsWrong)

/-- 'envelopelaw10.StepKeeps': WHATEVER THE INPUT: true; the input reads as it did. -/
def stepKeepsSpec : ChangeSpec := { name := "stepKeeps", fn := fun _ => fun
  | [d1, d2] => { results := [.lit (.bool true)], args := [d1, d2] }
  | _ => none }
def stepKeepsRow : OpenClaim := { program := "ytdnldhnjbnpbcaagreat", sum := "8e1dfd750987e326ab9d17fd680d2e8e737f7bc14da88d15440c88b3c04856ce", func := "envelope/envelopelaw10.StepKeeps", spec := "stepKeeps", inPlace := ["math.Float64bits", "math.Float64frombits"], unfollowed := true, recurses := true, apart := false }
def StepKeepsSaid : Prop := stepKeepsRow.holds Tryz.pinned (OpenSpec.ofChange stepKeepsSpec)

/-- ITS FALSE NEIGHBOUR: 'it returns false'. Refute it at one input. -/
def stepKeepsWrong : ChangeSpec := { name := "stepKeeps", fn := fun _ => fun
  | [d1, d2] => { results := [.lit (.bool false)], args := [d1, d2] }
  | _ => none }
def StepKeepsWrongFalsely : Prop := stepKeepsRow.holds Tryz.pinned (OpenSpec.ofChange stepKeepsWrong)

/-- 'envelopelaw10.StepMethod': WHATEVER THE INPUT: true; the input reads as it did. -/
def stepMethodSpec : ChangeSpec := { name := "stepMethod", fn := fun _ => fun
  | [d1, d2] => { results := [.lit (.bool true)], args := [d1, d2] }
  | _ => none }
def stepMethodRow : OpenClaim := { program := "ytdnldhnjbnpbcaagreat", sum := "8e1dfd750987e326ab9d17fd680d2e8e737f7bc14da88d15440c88b3c04856ce", func := "envelope/envelopelaw10.StepMethod", spec := "stepMethod", inPlace := ["math.Float64bits", "math.Float64frombits"], unfollowed := true, recurses := true, apart := false }
def StepMethodSaid : Prop := stepMethodRow.holds Tryz.pinned (OpenSpec.ofChange stepMethodSpec)

/-- ITS FALSE NEIGHBOUR: 'it returns false'. Refute it at one input. -/
def stepMethodWrong : ChangeSpec := { name := "stepMethod", fn := fun _ => fun
  | [d1, d2] => { results := [.lit (.bool false)], args := [d1, d2] }
  | _ => none }
def StepMethodWrongFalsely : Prop := stepMethodRow.holds Tryz.pinned (OpenSpec.ofChange stepMethodWrong)

/-- 'envelopelaw10.StepOrders': WHATEVER THE INPUT: true; the input reads as it did. -/
def stepOrdersSpec : ChangeSpec := { name := "stepOrders", fn := fun _ => fun
  | [d1, d2] => { results := [.lit (.bool true)], args := [d1, d2] }
  | _ => none }
def stepOrdersRow : OpenClaim := { program := "ytdnldhnjbnpbcaagreat", sum := "8e1dfd750987e326ab9d17fd680d2e8e737f7bc14da88d15440c88b3c04856ce", func := "envelope/envelopelaw10.StepOrders", spec := "stepOrders", inPlace := ["math.Float64bits", "math.Float64frombits"], unfollowed := true, recurses := true, apart := false }
def StepOrdersSaid : Prop := stepOrdersRow.holds Tryz.pinned (OpenSpec.ofChange stepOrdersSpec)

/-- ITS FALSE NEIGHBOUR: 'it returns false'. Refute it at one input. -/
def stepOrdersWrong : ChangeSpec := { name := "stepOrders", fn := fun _ => fun
  | [d1, d2] => { results := [.lit (.bool false)], args := [d1, d2] }
  | _ => none }
def StepOrdersWrongFalsely : Prop := stepOrdersRow.holds Tryz.pinned (OpenSpec.ofChange stepOrdersWrong)

/-- 'envelopelaw10.StepFails': WHATEVER THE INPUT: true; the input reads as it did. -/
def stepFailsSpec : ChangeSpec := { name := "stepFails", fn := fun _ => fun
  | [d1, d2] => { results := [.lit (.bool true)], args := [d1, d2] }
  | _ => none }
def stepFailsRow : OpenClaim := { program := "ytdnldhnjbnpbcaagreat", sum := "8e1dfd750987e326ab9d17fd680d2e8e737f7bc14da88d15440c88b3c04856ce", func := "envelope/envelopelaw10.StepFails", spec := "stepFails", inPlace := ["math.Float64bits", "math.Float64frombits"], unfollowed := true, recurses := true, apart := false }
def StepFailsSaid : Prop := stepFailsRow.holds Tryz.pinned (OpenSpec.ofChange stepFailsSpec)

/-- ITS FALSE NEIGHBOUR: 'it returns false'. Refute it at one input. -/
def stepFailsWrong : ChangeSpec := { name := "stepFails", fn := fun _ => fun
  | [d1, d2] => { results := [.lit (.bool false)], args := [d1, d2] }
  | _ => none }
def StepFailsWrongFalsely : Prop := stepFailsRow.holds Tryz.pinned (OpenSpec.ofChange stepFailsWrong)

/-- 'envelopelaw10.StepSteps': WHATEVER THE INPUT: true; the input reads as it did. -/
def stepStepsSpec : ChangeSpec := { name := "stepSteps", fn := fun _ => fun
  | [d1, d2] => { results := [.lit (.bool true)], args := [d1, d2] }
  | _ => none }
def stepStepsRow : OpenClaim := { program := "ytdnldhnjbnpbcaagreat", sum := "8e1dfd750987e326ab9d17fd680d2e8e737f7bc14da88d15440c88b3c04856ce", func := "envelope/envelopelaw10.StepSteps", spec := "stepSteps", inPlace := ["math.Float64bits", "math.Float64frombits"], unfollowed := true, recurses := true, apart := false }
def StepStepsSaid : Prop := stepStepsRow.holds Tryz.pinned (OpenSpec.ofChange stepStepsSpec)

/-- ITS FALSE NEIGHBOUR: 'it returns false'. Refute it at one input. -/
def stepStepsWrong : ChangeSpec := { name := "stepSteps", fn := fun _ => fun
  | [d1, d2] => { results := [.lit (.bool false)], args := [d1, d2] }
  | _ => none }
def StepStepsWrongFalsely : Prop := stepStepsRow.holds Tryz.pinned (OpenSpec.ofChange stepStepsWrong)

/-- 'envelopelaw10.StepOwn': WHATEVER THE INPUT: true; the input reads as it did. -/
def stepOwnSpec : ChangeSpec := { name := "stepOwn", fn := fun _ => fun
  | [d1, d2, d3] => { results := [.lit (.bool true)], args := [d1, d2, d3] }
  | _ => none }
def stepOwnRow : OpenClaim := { program := "ytdnldhnjbnpbcaagreat", sum := "8e1dfd750987e326ab9d17fd680d2e8e737f7bc14da88d15440c88b3c04856ce", func := "envelope/envelopelaw10.StepOwn", spec := "stepOwn", inPlace := ["math.Float64bits", "math.Float64frombits"], unfollowed := true, recurses := true, apart := false }
def StepOwnSaid : Prop := stepOwnRow.holds Tryz.pinned (OpenSpec.ofChange stepOwnSpec)

/-- ITS FALSE NEIGHBOUR: 'it returns false'. Refute it at one input. -/
def stepOwnWrong : ChangeSpec := { name := "stepOwn", fn := fun _ => fun
  | [d1, d2, d3] => { results := [.lit (.bool false)], args := [d1, d2, d3] }
  | _ => none }
def StepOwnWrongFalsely : Prop := stepOwnRow.holds Tryz.pinned (OpenSpec.ofChange stepOwnWrong)

/- THE SECOND FORM. 'bulk': how many values and letters a reading holds, each counted each time it is reached (what is shared counts as often as it is met; a slice's spare places count too). A statement '..UptoSaid' is the law's where the arguments, and the package variables that the reading takes, are together of bulk at most 1048576: NARROWER than '..Said'. Prove '..Said' where nothing that the law and all that it calls make is longer than what came in: it says more and counts as full. Else prove '..UptoSaid'. A law counts once. -/
mutual
def uptoBulk {H : Type} : DataW H → Nat
  | .lit (.string bytes) => bytes.length + 1
  | .lit _ => 1
  | .nil => 1
  | .ptr d => uptoBulk d + 1
  | .slice elems spare => uptoBulkAll elems + uptoBulkAll spare + 1
  | .agg parts => uptoBulkAll parts + 1
  | .iface _ d => uptoBulk d + 1
  | .map entries => uptoBulkEntries entries + 1
  | .held _ => 1
def uptoBulkAll {H : Type} : List (DataW H) → Nat
  | [] => 0
  | d :: r => uptoBulk d + uptoBulkAll r
def uptoBulkEntries {H : Type} : List (Lit × DataW H) → Nat
  | [] => 0
  | x :: r => uptoBulkEntry x + uptoBulkEntries r
def uptoBulkEntry {H : Type} : Lit × DataW H → Nat
  | (.string bytes, d) => bytes.length + uptoBulk d + 1
  | (_, d) => uptoBulk d + 1
 end
def uptoSmall : (H : Type) → List (DataW H) → Bool := fun _ ds => decide (uptoBulkAll ds ≤ 1048576)
def OpenSpec.upto (s : _root_.Go.ChangeSpec) : _root_.Go.OpenSpec := { _root_.Go.OpenSpec.ofChange s with cond := some uptoSmall }

/-- 'envelopelaw10.StepTries', WHERE WHAT IT READS IS OF BULK AT MOST 1048576: true; the input reads as it did. -/
def stepTriesUptoRow : OpenClaim := { program := "ytdnldhnjbnpbcaagreat", sum := "8e1dfd750987e326ab9d17fd680d2e8e737f7bc14da88d15440c88b3c04856ce", func := "envelope/envelopelaw10.StepTries", spec := "stepTries", inPlace := ["math.Float64bits", "math.Float64frombits"], unfollowed := true, recurses := true, apart := false, narrowed := true }
def StepTriesUptoSaid : Prop := stepTriesUptoRow.holds Tryz.pinned (OpenSpec.upto stepTriesSpec)

/-- 'envelopelaw10.StepTakes', WHERE WHAT IT READS IS OF BULK AT MOST 1048576: true; the input reads as it did. -/
def stepTakesUptoRow : OpenClaim := { program := "ytdnldhnjbnpbcaagreat", sum := "8e1dfd750987e326ab9d17fd680d2e8e737f7bc14da88d15440c88b3c04856ce", func := "envelope/envelopelaw10.StepTakes", spec := "stepTakes", inPlace := ["math.Float64bits", "math.Float64frombits"], unfollowed := true, recurses := true, apart := false, narrowed := true }
def StepTakesUptoSaid : Prop := stepTakesUptoRow.holds Tryz.pinned (OpenSpec.upto stepTakesSpec)

/-- 'envelopelaw10.StepErrs', WHERE WHAT IT READS IS OF BULK AT MOST 1048576: true; the input reads as it did. -/
def stepErrsUptoRow : OpenClaim := { program := "ytdnldhnjbnpbcaagreat", sum := "8e1dfd750987e326ab9d17fd680d2e8e737f7bc14da88d15440c88b3c04856ce", func := "envelope/envelopelaw10.StepErrs", spec := "stepErrs", inPlace := ["math.Float64bits", "math.Float64frombits"], unfollowed := true, recurses := true, apart := false, narrowed := true }
def StepErrsUptoSaid : Prop := stepErrsUptoRow.holds Tryz.pinned (OpenSpec.upto stepErrsSpec)

/-- 'envelopelaw10.StepKeeps', WHERE WHAT IT READS IS OF BULK AT MOST 1048576: true; the input reads as it did. -/
def stepKeepsUptoRow : OpenClaim := { program := "ytdnldhnjbnpbcaagreat", sum := "8e1dfd750987e326ab9d17fd680d2e8e737f7bc14da88d15440c88b3c04856ce", func := "envelope/envelopelaw10.StepKeeps", spec := "stepKeeps", inPlace := ["math.Float64bits", "math.Float64frombits"], unfollowed := true, recurses := true, apart := false, narrowed := true }
def StepKeepsUptoSaid : Prop := stepKeepsUptoRow.holds Tryz.pinned (OpenSpec.upto stepKeepsSpec)

/-- 'envelopelaw10.StepMethod', WHERE WHAT IT READS IS OF BULK AT MOST 1048576: true; the input reads as it did. -/
def stepMethodUptoRow : OpenClaim := { program := "ytdnldhnjbnpbcaagreat", sum := "8e1dfd750987e326ab9d17fd680d2e8e737f7bc14da88d15440c88b3c04856ce", func := "envelope/envelopelaw10.StepMethod", spec := "stepMethod", inPlace := ["math.Float64bits", "math.Float64frombits"], unfollowed := true, recurses := true, apart := false, narrowed := true }
def StepMethodUptoSaid : Prop := stepMethodUptoRow.holds Tryz.pinned (OpenSpec.upto stepMethodSpec)

/-- 'envelopelaw10.StepOrders', WHERE WHAT IT READS IS OF BULK AT MOST 1048576: true; the input reads as it did. -/
def stepOrdersUptoRow : OpenClaim := { program := "ytdnldhnjbnpbcaagreat", sum := "8e1dfd750987e326ab9d17fd680d2e8e737f7bc14da88d15440c88b3c04856ce", func := "envelope/envelopelaw10.StepOrders", spec := "stepOrders", inPlace := ["math.Float64bits", "math.Float64frombits"], unfollowed := true, recurses := true, apart := false, narrowed := true }
def StepOrdersUptoSaid : Prop := stepOrdersUptoRow.holds Tryz.pinned (OpenSpec.upto stepOrdersSpec)

/-- 'envelopelaw10.StepFails', WHERE WHAT IT READS IS OF BULK AT MOST 1048576: true; the input reads as it did. -/
def stepFailsUptoRow : OpenClaim := { program := "ytdnldhnjbnpbcaagreat", sum := "8e1dfd750987e326ab9d17fd680d2e8e737f7bc14da88d15440c88b3c04856ce", func := "envelope/envelopelaw10.StepFails", spec := "stepFails", inPlace := ["math.Float64bits", "math.Float64frombits"], unfollowed := true, recurses := true, apart := false, narrowed := true }
def StepFailsUptoSaid : Prop := stepFailsUptoRow.holds Tryz.pinned (OpenSpec.upto stepFailsSpec)

/-- 'envelopelaw10.StepSteps', WHERE WHAT IT READS IS OF BULK AT MOST 1048576: true; the input reads as it did. -/
def stepStepsUptoRow : OpenClaim := { program := "ytdnldhnjbnpbcaagreat", sum := "8e1dfd750987e326ab9d17fd680d2e8e737f7bc14da88d15440c88b3c04856ce", func := "envelope/envelopelaw10.StepSteps", spec := "stepSteps", inPlace := ["math.Float64bits", "math.Float64frombits"], unfollowed := true, recurses := true, apart := false, narrowed := true }
def StepStepsUptoSaid : Prop := stepStepsUptoRow.holds Tryz.pinned (OpenSpec.upto stepStepsSpec)

/-- 'envelopelaw10.StepOwn', WHERE WHAT IT READS IS OF BULK AT MOST 1048576: true; the input reads as it did. -/
def stepOwnUptoRow : OpenClaim := { program := "ytdnldhnjbnpbcaagreat", sum := "8e1dfd750987e326ab9d17fd680d2e8e737f7bc14da88d15440c88b3c04856ce", func := "envelope/envelopelaw10.StepOwn", spec := "stepOwn", inPlace := ["math.Float64bits", "math.Float64frombits"], unfollowed := true, recurses := true, apart := false, narrowed := true }
def StepOwnUptoSaid : Prop := stepOwnUptoRow.holds Tryz.pinned (OpenSpec.upto stepOwnSpec)

end Rows
end Go.Proofs.YtdnldhnjbnpbcaaGreat
