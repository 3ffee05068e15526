/-
  No cell of these rows narrows 'for every input' (looked for: loops, veiled, ifaces, maps, wideKeys, modest, calm, conditions, laid).
  DERIVED. THE GIVEN ROWS OF THIS SEAT. 12 by the template 'for every input the law returns true; each argument reads behind the call as it read before'; 0 by the template 'total and deterministic' (their statements: YtbajjjhagabdnaaTotals.lean).
  GIVEN WITH THE SEED: the statements are not yours to turn. If you find one false, say at which input.
  Laid BY PROGRAM, IN A SANDBOX (cutbox-rows.mjs): the forced cells as the released guide's own fill.sh prints them over the translation 18bee0336f736e50… (all of the seat's roots in one cut). By AI agents, Wed Nov 11 2026. No macro, syntax, notation, axiom, sorry.
-/
import Derived.Test.YtbajjjhagabdnaaChecked
import GoSem.Claim
import GoSem.ClaimJoined
import GoSem.ClaimMapViews
import Derived.JoinedTies
import Derived.KernelRfl
namespace Go.Proofs.Ytbajjjhagabdnaa
/- THE CELL 'sum', in the pinned program and in every row, IS THE sha256 OF THE DUMP (.gsa) THAT YtbajjjhagabdnaaProg.lean LOADS. Nothing in Lean hashes anything: it is a label: what it is worth is what the hold of that sum in a sandbox is worth. -/
noncomputable def Try.pinned : Pinned := { name := "ytbajjjhagabdnaa", sum := "18bee0336f736e50d0f5c646fe8cdadd9e1bee4246929d80e64475b1a39bdd3b", checked := Try.checked }
namespace Rows
def none {H : Type} : Left H := { results := [], args := [] }

/-- 'laws.FnMarks': WHATEVER THE INPUT: true; the input reads as it did. -/
def fnMarksSpec : ChangeSpec := { name := "fnMarks", fn := fun _ => fun
  | [d] => { results := [.lit (.bool true)], args := [d] }
  | _ => none }
def fnMarksRow : OpenClaim := { program := "ytbajjjhagabdnaa", sum := "18bee0336f736e50d0f5c646fe8cdadd9e1bee4246929d80e64475b1a39bdd3b", func := "loop.example/g01254/laws.FnMarks", spec := "fnMarks", unfollowed := true, recurses := true, apart := false }
def FnMarksSaid : Prop := fnMarksRow.holds Try.pinned (OpenSpec.ofChange fnMarksSpec)

/-- ITS FALSE NEIGHBOUR: 'it returns false'. Refute it at one input. -/
def fnMarksWrong : ChangeSpec := { name := "fnMarks", fn := fun _ => fun
  | [d] => { results := [.lit (.bool false)], args := [d] }
  | _ => none }
def FnMarksWrongFalsely : Prop := fnMarksRow.holds Try.pinned (OpenSpec.ofChange fnMarksWrong)

/-- 'laws.FnExactWithoutObs': WHATEVER THE INPUT: true; the input reads as it did. -/
def fnExactWithoutObsSpec : ChangeSpec := { name := "fnExactWithoutObs", fn := fun _ => fun
  | [d1, d2] => { results := [.lit (.bool true)], args := [d1, d2] }
  | _ => none }
def fnExactWithoutObsRow : OpenClaim := { program := "ytbajjjhagabdnaa", sum := "18bee0336f736e50d0f5c646fe8cdadd9e1bee4246929d80e64475b1a39bdd3b", func := "loop.example/g01254/laws.FnExactWithoutObs", spec := "fnExactWithoutObs", apart := false }
def FnExactWithoutObsSaid : Prop := fnExactWithoutObsRow.holds Try.pinned (OpenSpec.ofChange fnExactWithoutObsSpec)

/-- ITS FALSE NEIGHBOUR: 'it returns false'. Refute it at one input. -/
def fnExactWithoutObsWrong : ChangeSpec := { name := "fnExactWithoutObs", fn := fun _ => fun
  | [d1, d2] => { results := [.lit (.bool false)], args := [d1, d2] }
  | _ => none }
def FnExactWithoutObsWrongFalsely : Prop := fnExactWithoutObsRow.holds Try.pinned (OpenSpec.ofChange fnExactWithoutObsWrong)

/-- 'laws.FnExactIntervalErrors': WHATEVER THE INPUT: true; the input reads as it did. -/
def fnExactIntervalErrorsSpec : ChangeSpec := { name := "fnExactIntervalErrors", fn := fun _ => fun
  | [d] => { results := [.lit (.bool true)], args := [d] }
  | _ => none }
def fnExactIntervalErrorsRow : OpenClaim := { program := "ytbajjjhagabdnaa", sum := "18bee0336f736e50d0f5c646fe8cdadd9e1bee4246929d80e64475b1a39bdd3b", func := "loop.example/g01254/laws.FnExactIntervalErrors", spec := "fnExactIntervalErrors", unfollowed := true, recurses := true, apart := false }
def FnExactIntervalErrorsSaid : Prop := fnExactIntervalErrorsRow.holds Try.pinned (OpenSpec.ofChange fnExactIntervalErrorsSpec)

/-- ITS FALSE NEIGHBOUR: 'it returns false'. Refute it at one input. -/
def fnExactIntervalErrorsWrong : ChangeSpec := { name := "fnExactIntervalErrors", fn := fun _ => fun
  | [d] => { results := [.lit (.bool false)], args := [d] }
  | _ => none }
def FnExactIntervalErrorsWrongFalsely : Prop := fnExactIntervalErrorsRow.holds Try.pinned (OpenSpec.ofChange fnExactIntervalErrorsWrong)

/-- 'laws.FnDisks': WHATEVER THE INPUT: true; the input reads as it did. -/
def fnDisksSpec : ChangeSpec := { name := "fnDisks", fn := fun _ => fun
  | [d1, d2] => { results := [.lit (.bool true)], args := [d1, d2] }
  | _ => none }
def fnDisksRow : OpenClaim := { program := "ytbajjjhagabdnaa", sum := "18bee0336f736e50d0f5c646fe8cdadd9e1bee4246929d80e64475b1a39bdd3b", func := "loop.example/g01254/laws.FnDisks", spec := "fnDisks", unfollowed := true, recurses := true, apart := false }
def FnDisksSaid : Prop := fnDisksRow.holds Try.pinned (OpenSpec.ofChange fnDisksSpec)

/-- ITS FALSE NEIGHBOUR: 'it returns false'. Refute it at one input. -/
def fnDisksWrong : ChangeSpec := { name := "fnDisks", fn := fun _ => fun
  | [d1, d2] => { results := [.lit (.bool false)], args := [d1, d2] }
  | _ => none }
def FnDisksWrongFalsely : Prop := fnDisksRow.holds Try.pinned (OpenSpec.ofChange fnDisksWrong)

/-- 'laws.FnExactErrorsFrom': WHATEVER THE INPUT: true; the input reads as it did. -/
def fnExactErrorsFromSpec : ChangeSpec := { name := "fnExactErrorsFrom", fn := fun _ => fun
  | [d1, d2, d3] => { results := [.lit (.bool true)], args := [d1, d2, d3] }
  | _ => none }
def fnExactErrorsFromRow : OpenClaim := { program := "ytbajjjhagabdnaa", sum := "18bee0336f736e50d0f5c646fe8cdadd9e1bee4246929d80e64475b1a39bdd3b", func := "loop.example/g01254/laws.FnExactErrorsFrom", spec := "fnExactErrorsFrom", unfollowed := true, recurses := true, apart := false }
def FnExactErrorsFromSaid : Prop := fnExactErrorsFromRow.holds Try.pinned (OpenSpec.ofChange fnExactErrorsFromSpec)

/-- ITS FALSE NEIGHBOUR: 'it returns false'. Refute it at one input. -/
def fnExactErrorsFromWrong : ChangeSpec := { name := "fnExactErrorsFrom", fn := fun _ => fun
  | [d1, d2, d3] => { results := [.lit (.bool false)], args := [d1, d2, d3] }
  | _ => none }
def FnExactErrorsFromWrongFalsely : Prop := fnExactErrorsFromRow.holds Try.pinned (OpenSpec.ofChange fnExactErrorsFromWrong)

/-- 'laws.FnExactRepeatAngle': WHATEVER THE INPUT: true; the input reads as it did. -/
def fnExactRepeatAngleSpec : ChangeSpec := { name := "fnExactRepeatAngle", fn := fun _ => fun
  | [d1, d2, d3, d4, d5] => { results := [.lit (.bool true)], args := [d1, d2, d3, d4, d5] }
  | _ => none }
def fnExactRepeatAngleRow : OpenClaim := { program := "ytbajjjhagabdnaa", sum := "18bee0336f736e50d0f5c646fe8cdadd9e1bee4246929d80e64475b1a39bdd3b", func := "loop.example/g01254/laws.FnExactRepeatAngle", spec := "fnExactRepeatAngle", unfollowed := true, recurses := true, apart := false }
def FnExactRepeatAngleSaid : Prop := fnExactRepeatAngleRow.holds Try.pinned (OpenSpec.ofChange fnExactRepeatAngleSpec)

/-- ITS FALSE NEIGHBOUR: 'it returns false'. Refute it at one input. -/
def fnExactRepeatAngleWrong : ChangeSpec := { name := "fnExactRepeatAngle", fn := fun _ => fun
  | [d1, d2, d3, d4, d5] => { results := [.lit (.bool false)], args := [d1, d2, d3, d4, d5] }
  | _ => none }
def FnExactRepeatAngleWrongFalsely : Prop := fnExactRepeatAngleRow.holds Try.pinned (OpenSpec.ofChange fnExactRepeatAngleWrong)

/-- 'laws.FnExactBestRepeats': WHATEVER THE INPUT: true; the input reads as it did. -/
def fnExactBestRepeatsSpec : ChangeSpec := { name := "fnExactBestRepeats", fn := fun _ => fun
  | [d1, d2, d3, d4, d5] => { results := [.lit (.bool true)], args := [d1, d2, d3, d4, d5] }
  | _ => none }
def fnExactBestRepeatsRow : OpenClaim := { program := "ytbajjjhagabdnaa", sum := "18bee0336f736e50d0f5c646fe8cdadd9e1bee4246929d80e64475b1a39bdd3b", func := "loop.example/g01254/laws.FnExactBestRepeats", spec := "fnExactBestRepeats", unfollowed := true, recurses := true, apart := false }
def FnExactBestRepeatsSaid : Prop := fnExactBestRepeatsRow.holds Try.pinned (OpenSpec.ofChange fnExactBestRepeatsSpec)

/-- ITS FALSE NEIGHBOUR: 'it returns false'. Refute it at one input. -/
def fnExactBestRepeatsWrong : ChangeSpec := { name := "fnExactBestRepeats", fn := fun _ => fun
  | [d1, d2, d3, d4, d5] => { results := [.lit (.bool false)], args := [d1, d2, d3, d4, d5] }
  | _ => none }
def FnExactBestRepeatsWrongFalsely : Prop := fnExactBestRepeatsRow.holds Try.pinned (OpenSpec.ofChange fnExactBestRepeatsWrong)

/-- 'laws.FnExactAllOn': WHATEVER THE INPUT: true; the input reads as it did. -/
def fnExactAllOnSpec : ChangeSpec := { name := "fnExactAllOn", fn := fun _ => fun
  | [d1, d2] => { results := [.lit (.bool true)], args := [d1, d2] }
  | _ => none }
def fnExactAllOnRow : OpenClaim := { program := "ytbajjjhagabdnaa", sum := "18bee0336f736e50d0f5c646fe8cdadd9e1bee4246929d80e64475b1a39bdd3b", func := "loop.example/g01254/laws.FnExactAllOn", spec := "fnExactAllOn", unfollowed := true, recurses := true, apart := false }
def FnExactAllOnSaid : Prop := fnExactAllOnRow.holds Try.pinned (OpenSpec.ofChange fnExactAllOnSpec)

/-- ITS FALSE NEIGHBOUR: 'it returns false'. Refute it at one input. -/
def fnExactAllOnWrong : ChangeSpec := { name := "fnExactAllOn", fn := fun _ => fun
  | [d1, d2] => { results := [.lit (.bool false)], args := [d1, d2] }
  | _ => none }
def FnExactAllOnWrongFalsely : Prop := fnExactAllOnRow.holds Try.pinned (OpenSpec.ofChange fnExactAllOnWrong)

/-- 'laws.FnExactPathTo': WHATEVER THE INPUT: true; the input reads as it did. -/
def fnExactPathToSpec : ChangeSpec := { name := "fnExactPathTo", fn := fun _ => fun
  | [d1, d2] => { results := [.lit (.bool true)], args := [d1, d2] }
  | _ => none }
def fnExactPathToRow : OpenClaim := { program := "ytbajjjhagabdnaa", sum := "18bee0336f736e50d0f5c646fe8cdadd9e1bee4246929d80e64475b1a39bdd3b", func := "loop.example/g01254/laws.FnExactPathTo", spec := "fnExactPathTo", unfollowed := true, recurses := true, apart := false }
def FnExactPathToSaid : Prop := fnExactPathToRow.holds Try.pinned (OpenSpec.ofChange fnExactPathToSpec)

/-- ITS FALSE NEIGHBOUR: 'it returns false'. Refute it at one input. -/
def fnExactPathToWrong : ChangeSpec := { name := "fnExactPathTo", fn := fun _ => fun
  | [d1, d2] => { results := [.lit (.bool false)], args := [d1, d2] }
  | _ => none }
def FnExactPathToWrongFalsely : Prop := fnExactPathToRow.holds Try.pinned (OpenSpec.ofChange fnExactPathToWrong)

/-- 'laws.FnExactCalibrate': WHATEVER THE INPUT: true; the input reads as it did. -/
def fnExactCalibrateSpec : ChangeSpec := { name := "fnExactCalibrate", fn := fun _ => fun
  | [d1, d2] => { results := [.lit (.bool true)], args := [d1, d2] }
  | _ => none }
def fnExactCalibrateRow : OpenClaim := { program := "ytbajjjhagabdnaa", sum := "18bee0336f736e50d0f5c646fe8cdadd9e1bee4246929d80e64475b1a39bdd3b", func := "loop.example/g01254/laws.FnExactCalibrate", spec := "fnExactCalibrate", unfollowed := true, recurses := true, apart := false }
def FnExactCalibrateSaid : Prop := fnExactCalibrateRow.holds Try.pinned (OpenSpec.ofChange fnExactCalibrateSpec)

/-- ITS FALSE NEIGHBOUR: 'it returns false'. Refute it at one input. -/
def fnExactCalibrateWrong : ChangeSpec := { name := "fnExactCalibrate", fn := fun _ => fun
  | [d1, d2] => { results := [.lit (.bool false)], args := [d1, d2] }
  | _ => none }
def FnExactCalibrateWrongFalsely : Prop := fnExactCalibrateRow.holds Try.pinned (OpenSpec.ofChange fnExactCalibrateWrong)

/-- 'laws.FnExactSolveFracs': WHATEVER THE INPUT: true; the input reads as it did. -/
def fnExactSolveFracsSpec : ChangeSpec := { name := "fnExactSolveFracs", fn := fun _ => fun
  | [d1, d2] => { results := [.lit (.bool true)], args := [d1, d2] }
  | _ => none }
def fnExactSolveFracsRow : OpenClaim := { program := "ytbajjjhagabdnaa", sum := "18bee0336f736e50d0f5c646fe8cdadd9e1bee4246929d80e64475b1a39bdd3b", func := "loop.example/g01254/laws.FnExactSolveFracs", spec := "fnExactSolveFracs", unfollowed := true, recurses := true, apart := false }
def FnExactSolveFracsSaid : Prop := fnExactSolveFracsRow.holds Try.pinned (OpenSpec.ofChange fnExactSolveFracsSpec)

/-- ITS FALSE NEIGHBOUR: 'it returns false'. Refute it at one input. -/
def fnExactSolveFracsWrong : ChangeSpec := { name := "fnExactSolveFracs", fn := fun _ => fun
  | [d1, d2] => { results := [.lit (.bool false)], args := [d1, d2] }
  | _ => none }
def FnExactSolveFracsWrongFalsely : Prop := fnExactSolveFracsRow.holds Try.pinned (OpenSpec.ofChange fnExactSolveFracsWrong)

/-- 'laws.FnRepeats': WHATEVER THE INPUT: true; the input reads as it did. -/
def fnRepeatsSpec : ChangeSpec := { name := "fnRepeats", fn := fun _ => fun
  | [d1, d2] => { results := [.lit (.bool true)], args := [d1, d2] }
  | _ => none }
def fnRepeatsRow : OpenClaim := { program := "ytbajjjhagabdnaa", sum := "18bee0336f736e50d0f5c646fe8cdadd9e1bee4246929d80e64475b1a39bdd3b", func := "loop.example/g01254/laws.FnRepeats", spec := "fnRepeats", unfollowed := true, recurses := true, apart := false }
def FnRepeatsSaid : Prop := fnRepeatsRow.holds Try.pinned (OpenSpec.ofChange fnRepeatsSpec)

/-- ITS FALSE NEIGHBOUR: 'it returns false'. Refute it at one input. -/
def fnRepeatsWrong : ChangeSpec := { name := "fnRepeats", fn := fun _ => fun
  | [d1, d2] => { results := [.lit (.bool false)], args := [d1, d2] }
  | _ => none }
def FnRepeatsWrongFalsely : Prop := fnRepeatsRow.holds Try.pinned (OpenSpec.ofChange fnRepeatsWrong)

/- THE SECOND FORM. 'bulk': how many values and letters a reading holds, each counted each time it is reached (what is shared counts as often as it is met; a slice's spare places count too). A statement '..UptoSaid' is the law's where the arguments, and the package variables that the reading takes, are together of bulk at most 1048576: NARROWER than '..Said'. Prove '..Said' where nothing that the law and all that it calls make is longer than what came in: it says more and counts as full. Else prove '..UptoSaid'. A law counts once. -/
mutual
def uptoBulk {H : Type} : DataW H → Nat
  | .lit (.string bytes) => bytes.length + 1
  | .lit _ => 1
  | .nil => 1
  | .ptr d => uptoBulk d + 1
  | .slice elems spare => uptoBulkAll elems + uptoBulkAll spare + 1
  | .agg parts => uptoBulkAll parts + 1
  | .iface _ d => uptoBulk d + 1
  | .map entries => uptoBulkEntries entries + 1
  | .held _ => 1
def uptoBulkAll {H : Type} : List (DataW H) → Nat
  | [] => 0
  | d :: r => uptoBulk d + uptoBulkAll r
def uptoBulkEntries {H : Type} : List (Lit × DataW H) → Nat
  | [] => 0
  | x :: r => uptoBulkEntry x + uptoBulkEntries r
def uptoBulkEntry {H : Type} : Lit × DataW H → Nat
  | (.string bytes, d) => bytes.length + uptoBulk d + 1
  | (_, d) => uptoBulk d + 1
 end
def uptoSmall : (H : Type) → List (DataW H) → Bool := fun _ ds => decide (uptoBulkAll ds ≤ 1048576)
def OpenSpec.upto (s : _root_.Go.ChangeSpec) : _root_.Go.OpenSpec := { _root_.Go.OpenSpec.ofChange s with cond := some uptoSmall }

/-- 'laws.FnMarks', WHERE WHAT IT READS IS OF BULK AT MOST 1048576: true; the input reads as it did. -/
def fnMarksUptoRow : OpenClaim := { program := "ytbajjjhagabdnaa", sum := "18bee0336f736e50d0f5c646fe8cdadd9e1bee4246929d80e64475b1a39bdd3b", func := "loop.example/g01254/laws.FnMarks", spec := "fnMarks", unfollowed := true, recurses := true, apart := false, narrowed := true }
def FnMarksUptoSaid : Prop := fnMarksUptoRow.holds Try.pinned (OpenSpec.upto fnMarksSpec)

/-- 'laws.FnExactWithoutObs', WHERE WHAT IT READS IS OF BULK AT MOST 1048576: true; the input reads as it did. -/
def fnExactWithoutObsUptoRow : OpenClaim := { program := "ytbajjjhagabdnaa", sum := "18bee0336f736e50d0f5c646fe8cdadd9e1bee4246929d80e64475b1a39bdd3b", func := "loop.example/g01254/laws.FnExactWithoutObs", spec := "fnExactWithoutObs", apart := false, narrowed := true }
def FnExactWithoutObsUptoSaid : Prop := fnExactWithoutObsUptoRow.holds Try.pinned (OpenSpec.upto fnExactWithoutObsSpec)

/-- 'laws.FnExactIntervalErrors', WHERE WHAT IT READS IS OF BULK AT MOST 1048576: true; the input reads as it did. -/
def fnExactIntervalErrorsUptoRow : OpenClaim := { program := "ytbajjjhagabdnaa", sum := "18bee0336f736e50d0f5c646fe8cdadd9e1bee4246929d80e64475b1a39bdd3b", func := "loop.example/g01254/laws.FnExactIntervalErrors", spec := "fnExactIntervalErrors", unfollowed := true, recurses := true, apart := false, narrowed := true }
def FnExactIntervalErrorsUptoSaid : Prop := fnExactIntervalErrorsUptoRow.holds Try.pinned (OpenSpec.upto fnExactIntervalErrorsSpec)

/-- 'laws.FnDisks', WHERE WHAT IT READS IS OF BULK AT MOST 1048576: true; the input reads as it did. -/
def fnDisksUptoRow : OpenClaim := { program := "ytbajjjhagabdnaa", sum := "18bee0336f736e50d0f5c646fe8cdadd9e1bee4246929d80e64475b1a39bdd3b", func := "loop.example/g01254/laws.FnDisks", spec := "fnDisks", unfollowed := true, recurses := true, apart := false, narrowed := true }
def FnDisksUptoSaid : Prop := fnDisksUptoRow.holds Try.pinned (OpenSpec.upto fnDisksSpec)

/-- 'laws.FnExactErrorsFrom', WHERE WHAT IT READS IS OF BULK AT MOST 1048576: true; the input reads as it did. -/
def fnExactErrorsFromUptoRow : OpenClaim := { program := "ytbajjjhagabdnaa", sum := "18bee0336f736e50d0f5c646fe8cdadd9e1bee4246929d80e64475b1a39bdd3b", func := "loop.example/g01254/laws.FnExactErrorsFrom", spec := "fnExactErrorsFrom", unfollowed := true, recurses := true, apart := false, narrowed := true }
def FnExactErrorsFromUptoSaid : Prop := fnExactErrorsFromUptoRow.holds Try.pinned (OpenSpec.upto fnExactErrorsFromSpec)

/-- 'laws.FnExactRepeatAngle', WHERE WHAT IT READS IS OF BULK AT MOST 1048576: true; the input reads as it did. -/
def fnExactRepeatAngleUptoRow : OpenClaim := { program := "ytbajjjhagabdnaa", sum := "18bee0336f736e50d0f5c646fe8cdadd9e1bee4246929d80e64475b1a39bdd3b", func := "loop.example/g01254/laws.FnExactRepeatAngle", spec := "fnExactRepeatAngle", unfollowed := true, recurses := true, apart := false, narrowed := true }
def FnExactRepeatAngleUptoSaid : Prop := fnExactRepeatAngleUptoRow.holds Try.pinned (OpenSpec.upto fnExactRepeatAngleSpec)

/-- 'laws.FnExactBestRepeats', WHERE WHAT IT READS IS OF BULK AT MOST 1048576: true; the input reads as it did. -/
def fnExactBestRepeatsUptoRow : OpenClaim := { program := "ytbajjjhagabdnaa", sum := "18bee0336f736e50d0f5c646fe8cdadd9e1bee4246929d80e64475b1a39bdd3b", func := "loop.example/g01254/laws.FnExactBestRepeats", spec := "fnExactBestRepeats", unfollowed := true, recurses := true, apart := false, narrowed := true }
def FnExactBestRepeatsUptoSaid : Prop := fnExactBestRepeatsUptoRow.holds Try.pinned (OpenSpec.upto fnExactBestRepeatsSpec)

/-- 'laws.FnExactAllOn', WHERE WHAT IT READS IS OF BULK AT MOST 1048576: true; the input reads as it did. -/
def fnExactAllOnUptoRow : OpenClaim := { program := "ytbajjjhagabdnaa", sum := "18bee0336f736e50d0f5c646fe8cdadd9e1bee4246929d80e64475b1a39bdd3b", func := "loop.example/g01254/laws.FnExactAllOn", spec := "fnExactAllOn", unfollowed := true, recurses := true, apart := false, narrowed := true }
def FnExactAllOnUptoSaid : Prop := fnExactAllOnUptoRow.holds Try.pinned (OpenSpec.upto fnExactAllOnSpec)

/-- 'laws.FnExactPathTo', WHERE WHAT IT READS IS OF BULK AT MOST 1048576: true; the input reads as it did. -/
def fnExactPathToUptoRow : OpenClaim := { program := "ytbajjjhagabdnaa", sum := "18bee0336f736e50d0f5c646fe8cdadd9e1bee4246929d80e64475b1a39bdd3b", func := "loop.example/g01254/laws.FnExactPathTo", spec := "fnExactPathTo", unfollowed := true, recurses := true, apart := false, narrowed := true }
def FnExactPathToUptoSaid : Prop := fnExactPathToUptoRow.holds Try.pinned (OpenSpec.upto fnExactPathToSpec)

/-- 'laws.FnExactCalibrate', WHERE WHAT IT READS IS OF BULK AT MOST 1048576: true; the input reads as it did. -/
def fnExactCalibrateUptoRow : OpenClaim := { program := "ytbajjjhagabdnaa", sum := "18bee0336f736e50d0f5c646fe8cdadd9e1bee4246929d80e64475b1a39bdd3b", func := "loop.example/g01254/laws.FnExactCalibrate", spec := "fnExactCalibrate", unfollowed := true, recurses := true, apart := false, narrowed := true }
def FnExactCalibrateUptoSaid : Prop := fnExactCalibrateUptoRow.holds Try.pinned (OpenSpec.upto fnExactCalibrateSpec)

/-- 'laws.FnExactSolveFracs', WHERE WHAT IT READS IS OF BULK AT MOST 1048576: true; the input reads as it did. -/
def fnExactSolveFracsUptoRow : OpenClaim := { program := "ytbajjjhagabdnaa", sum := "18bee0336f736e50d0f5c646fe8cdadd9e1bee4246929d80e64475b1a39bdd3b", func := "loop.example/g01254/laws.FnExactSolveFracs", spec := "fnExactSolveFracs", unfollowed := true, recurses := true, apart := false, narrowed := true }
def FnExactSolveFracsUptoSaid : Prop := fnExactSolveFracsUptoRow.holds Try.pinned (OpenSpec.upto fnExactSolveFracsSpec)

/-- 'laws.FnRepeats', WHERE WHAT IT READS IS OF BULK AT MOST 1048576: true; the input reads as it did. -/
def fnRepeatsUptoRow : OpenClaim := { program := "ytbajjjhagabdnaa", sum := "18bee0336f736e50d0f5c646fe8cdadd9e1bee4246929d80e64475b1a39bdd3b", func := "loop.example/g01254/laws.FnRepeats", spec := "fnRepeats", unfollowed := true, recurses := true, apart := false, narrowed := true }
def FnRepeatsUptoSaid : Prop := fnRepeatsUptoRow.holds Try.pinned (OpenSpec.upto fnRepeatsSpec)

end Rows
end Go.Proofs.Ytbajjjhagabdnaa
