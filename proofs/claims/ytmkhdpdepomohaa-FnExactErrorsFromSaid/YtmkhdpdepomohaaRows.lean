/-
  No cell of these rows narrows 'for every input' (looked for: loops, veiled, ifaces, maps, wideKeys, modest, calm, conditions, laid).
  DERIVED. THE GIVEN ROWS OF THIS SEAT. 12 by the template 'for every input the law returns true; each argument reads behind the call as it read before'; 0 by the template 'total and deterministic' (their statements: YtmkhdpdepomohaaTotals.lean).
  GIVEN WITH THE SEED: the statements are not yours to turn. If you find one false, say at which input.
  Laid BY PROGRAM, IN A SANDBOX (cutbox-rows.mjs): the forced cells as the released guide's own fill.sh prints them over the translation b45adfb46768952c… (all of the seat's roots in one cut). By AI agents, Wed Nov 11 2026. No macro, syntax, notation, axiom, sorry.
-/
import Derived.Test.YtmkhdpdepomohaaChecked
import GoSem.Claim
import GoSem.ClaimJoined
import GoSem.ClaimMapViews
import Derived.JoinedTies
import Derived.KernelRfl
namespace Go.Proofs.Ytmkhdpdepomohaa
/- THE CELL 'sum', in the pinned program and in every row, IS THE sha256 OF THE DUMP (.gsa) THAT YtmkhdpdepomohaaProg.lean LOADS. Nothing in Lean hashes anything: it is a label: what it is worth is what the hold of that sum in a sandbox is worth. -/
noncomputable def Try.pinned : Pinned := { name := "ytmkhdpdepomohaa", sum := "b45adfb46768952c3712abf969055b387f7e570ce4e55fe788f13fdc17d6a853", checked := Try.checked }
namespace Rows
def none {H : Type} : Left H := { results := [], args := [] }

/-- 'laws.FnExactAllOn': WHATEVER THE INPUT: true; the input reads as it did. -/
def fnExactAllOnSpec : ChangeSpec := { name := "fnExactAllOn", fn := fun _ => fun
  | [d1, d2] => { results := [.lit (.bool true)], args := [d1, d2] }
  | _ => none }
def fnExactAllOnRow : OpenClaim := { program := "ytmkhdpdepomohaa", sum := "b45adfb46768952c3712abf969055b387f7e570ce4e55fe788f13fdc17d6a853", func := "loop.example/g01254/laws.FnExactAllOn", spec := "fnExactAllOn", unfollowed := true, recurses := true, apart := false }
def FnExactAllOnSaid : Prop := fnExactAllOnRow.holds Try.pinned (OpenSpec.ofChange fnExactAllOnSpec)

/-- ITS FALSE NEIGHBOUR: 'it returns false'. Refute it at one input. -/
def fnExactAllOnWrong : ChangeSpec := { name := "fnExactAllOn", fn := fun _ => fun
  | [d1, d2] => { results := [.lit (.bool false)], args := [d1, d2] }
  | _ => none }
def FnExactAllOnWrongFalsely : Prop := fnExactAllOnRow.holds Try.pinned (OpenSpec.ofChange fnExactAllOnWrong)

/-- 'laws.FnExactPathTo': WHATEVER THE INPUT: true; the input reads as it did. -/
def fnExactPathToSpec : ChangeSpec := { name := "fnExactPathTo", fn := fun _ => fun
  | [d1, d2] => { results := [.lit (.bool true)], args := [d1, d2] }
  | _ => none }
def fnExactPathToRow : OpenClaim := { program := "ytmkhdpdepomohaa", sum := "b45adfb46768952c3712abf969055b387f7e570ce4e55fe788f13fdc17d6a853", func := "loop.example/g01254/laws.FnExactPathTo", spec := "fnExactPathTo", unfollowed := true, recurses := true, apart := false }
def FnExactPathToSaid : Prop := fnExactPathToRow.holds Try.pinned (OpenSpec.ofChange fnExactPathToSpec)

/-- ITS FALSE NEIGHBOUR: 'it returns false'. Refute it at one input. -/
def fnExactPathToWrong : ChangeSpec := { name := "fnExactPathTo", fn := fun _ => fun
  | [d1, d2] => { results := [.lit (.bool false)], args := [d1, d2] }
  | _ => none }
def FnExactPathToWrongFalsely : Prop := fnExactPathToRow.holds Try.pinned (OpenSpec.ofChange fnExactPathToWrong)

/-- 'laws.FnExactUsersOf': WHATEVER THE INPUT: true; the input reads as it did. -/
def fnExactUsersOfSpec : ChangeSpec := { name := "fnExactUsersOf", fn := fun _ => fun
  | [d1, d2] => { results := [.lit (.bool true)], args := [d1, d2] }
  | _ => none }
def fnExactUsersOfRow : OpenClaim := { program := "ytmkhdpdepomohaa", sum := "b45adfb46768952c3712abf969055b387f7e570ce4e55fe788f13fdc17d6a853", func := "loop.example/g01254/laws.FnExactUsersOf", spec := "fnExactUsersOf", unfollowed := true, recurses := true, apart := false }
def FnExactUsersOfSaid : Prop := fnExactUsersOfRow.holds Try.pinned (OpenSpec.ofChange fnExactUsersOfSpec)

/-- ITS FALSE NEIGHBOUR: 'it returns false'. Refute it at one input. -/
def fnExactUsersOfWrong : ChangeSpec := { name := "fnExactUsersOf", fn := fun _ => fun
  | [d1, d2] => { results := [.lit (.bool false)], args := [d1, d2] }
  | _ => none }
def FnExactUsersOfWrongFalsely : Prop := fnExactUsersOfRow.holds Try.pinned (OpenSpec.ofChange fnExactUsersOfWrong)

/-- 'laws.FnExactRecallOf': WHATEVER THE INPUT: true; the input reads as it did. -/
def fnExactRecallOfSpec : ChangeSpec := { name := "fnExactRecallOf", fn := fun _ => fun
  | [d1, d2, d3] => { results := [.lit (.bool true)], args := [d1, d2, d3] }
  | _ => none }
def fnExactRecallOfRow : OpenClaim := { program := "ytmkhdpdepomohaa", sum := "b45adfb46768952c3712abf969055b387f7e570ce4e55fe788f13fdc17d6a853", func := "loop.example/g01254/laws.FnExactRecallOf", spec := "fnExactRecallOf", unfollowed := true, recurses := true, apart := false }
def FnExactRecallOfSaid : Prop := fnExactRecallOfRow.holds Try.pinned (OpenSpec.ofChange fnExactRecallOfSpec)

/-- ITS FALSE NEIGHBOUR: 'it returns false'. Refute it at one input. -/
def fnExactRecallOfWrong : ChangeSpec := { name := "fnExactRecallOf", fn := fun _ => fun
  | [d1, d2, d3] => { results := [.lit (.bool false)], args := [d1, d2, d3] }
  | _ => none }
def FnExactRecallOfWrongFalsely : Prop := fnExactRecallOfRow.holds Try.pinned (OpenSpec.ofChange fnExactRecallOfWrong)

/-- 'laws.FnExactCalibrate': WHATEVER THE INPUT: true; the input reads as it did. -/
def fnExactCalibrateSpec : ChangeSpec := { name := "fnExactCalibrate", fn := fun _ => fun
  | [d1, d2] => { results := [.lit (.bool true)], args := [d1, d2] }
  | _ => none }
def fnExactCalibrateRow : OpenClaim := { program := "ytmkhdpdepomohaa", sum := "b45adfb46768952c3712abf969055b387f7e570ce4e55fe788f13fdc17d6a853", func := "loop.example/g01254/laws.FnExactCalibrate", spec := "fnExactCalibrate", unfollowed := true, recurses := true, apart := false }
def FnExactCalibrateSaid : Prop := fnExactCalibrateRow.holds Try.pinned (OpenSpec.ofChange fnExactCalibrateSpec)

/-- ITS FALSE NEIGHBOUR: 'it returns false'. Refute it at one input. -/
def fnExactCalibrateWrong : ChangeSpec := { name := "fnExactCalibrate", fn := fun _ => fun
  | [d1, d2] => { results := [.lit (.bool false)], args := [d1, d2] }
  | _ => none }
def FnExactCalibrateWrongFalsely : Prop := fnExactCalibrateRow.holds Try.pinned (OpenSpec.ofChange fnExactCalibrateWrong)

/-- 'laws.FnExactRenewStandard': WHATEVER THE INPUT: true; the input reads as it did. -/
def fnExactRenewStandardSpec : ChangeSpec := { name := "fnExactRenewStandard", fn := fun _ => fun
  | [d1, d2, d3, d4, d5] => { results := [.lit (.bool true)], args := [d1, d2, d3, d4, d5] }
  | _ => none }
def fnExactRenewStandardRow : OpenClaim := { program := "ytmkhdpdepomohaa", sum := "b45adfb46768952c3712abf969055b387f7e570ce4e55fe788f13fdc17d6a853", func := "loop.example/g01254/laws.FnExactRenewStandard", spec := "fnExactRenewStandard", unfollowed := true, recurses := true, apart := false }
def FnExactRenewStandardSaid : Prop := fnExactRenewStandardRow.holds Try.pinned (OpenSpec.ofChange fnExactRenewStandardSpec)

/-- ITS FALSE NEIGHBOUR: 'it returns false'. Refute it at one input. -/
def fnExactRenewStandardWrong : ChangeSpec := { name := "fnExactRenewStandard", fn := fun _ => fun
  | [d1, d2, d3, d4, d5] => { results := [.lit (.bool false)], args := [d1, d2, d3, d4, d5] }
  | _ => none }
def FnExactRenewStandardWrongFalsely : Prop := fnExactRenewStandardRow.holds Try.pinned (OpenSpec.ofChange fnExactRenewStandardWrong)

/-- 'laws.FnExactRingTable': WHATEVER THE INPUT: true; the input reads as it did. -/
def fnExactRingTableSpec : ChangeSpec := { name := "fnExactRingTable", fn := fun _ => fun
  | [d1, d2] => { results := [.lit (.bool true)], args := [d1, d2] }
  | _ => none }
def fnExactRingTableRow : OpenClaim := { program := "ytmkhdpdepomohaa", sum := "b45adfb46768952c3712abf969055b387f7e570ce4e55fe788f13fdc17d6a853", func := "loop.example/g01254/laws.FnExactRingTable", spec := "fnExactRingTable", unfollowed := true, recurses := true, apart := false }
def FnExactRingTableSaid : Prop := fnExactRingTableRow.holds Try.pinned (OpenSpec.ofChange fnExactRingTableSpec)

/-- ITS FALSE NEIGHBOUR: 'it returns false'. Refute it at one input. -/
def fnExactRingTableWrong : ChangeSpec := { name := "fnExactRingTable", fn := fun _ => fun
  | [d1, d2] => { results := [.lit (.bool false)], args := [d1, d2] }
  | _ => none }
def FnExactRingTableWrongFalsely : Prop := fnExactRingTableRow.holds Try.pinned (OpenSpec.ofChange fnExactRingTableWrong)

/-- 'laws.FnExactSectorsOf': WHATEVER THE INPUT: true; the input reads as it did. -/
def fnExactSectorsOfSpec : ChangeSpec := { name := "fnExactSectorsOf", fn := fun _ => fun
  | [d1, d2, d3] => { results := [.lit (.bool true)], args := [d1, d2, d3] }
  | _ => none }
def fnExactSectorsOfRow : OpenClaim := { program := "ytmkhdpdepomohaa", sum := "b45adfb46768952c3712abf969055b387f7e570ce4e55fe788f13fdc17d6a853", func := "loop.example/g01254/laws.FnExactSectorsOf", spec := "fnExactSectorsOf", unfollowed := true, recurses := true, apart := false }
def FnExactSectorsOfSaid : Prop := fnExactSectorsOfRow.holds Try.pinned (OpenSpec.ofChange fnExactSectorsOfSpec)

/-- ITS FALSE NEIGHBOUR: 'it returns false'. Refute it at one input. -/
def fnExactSectorsOfWrong : ChangeSpec := { name := "fnExactSectorsOf", fn := fun _ => fun
  | [d1, d2, d3] => { results := [.lit (.bool false)], args := [d1, d2, d3] }
  | _ => none }
def FnExactSectorsOfWrongFalsely : Prop := fnExactSectorsOfRow.holds Try.pinned (OpenSpec.ofChange fnExactSectorsOfWrong)

/-- 'laws.FnExactWithoutObs': WHATEVER THE INPUT: true; the input reads as it did. -/
def fnExactWithoutObsSpec : ChangeSpec := { name := "fnExactWithoutObs", fn := fun _ => fun
  | [d1, d2] => { results := [.lit (.bool true)], args := [d1, d2] }
  | _ => none }
def fnExactWithoutObsRow : OpenClaim := { program := "ytmkhdpdepomohaa", sum := "b45adfb46768952c3712abf969055b387f7e570ce4e55fe788f13fdc17d6a853", func := "loop.example/g01254/laws.FnExactWithoutObs", spec := "fnExactWithoutObs", apart := false }
def FnExactWithoutObsSaid : Prop := fnExactWithoutObsRow.holds Try.pinned (OpenSpec.ofChange fnExactWithoutObsSpec)

/-- ITS FALSE NEIGHBOUR: 'it returns false'. Refute it at one input. -/
def fnExactWithoutObsWrong : ChangeSpec := { name := "fnExactWithoutObs", fn := fun _ => fun
  | [d1, d2] => { results := [.lit (.bool false)], args := [d1, d2] }
  | _ => none }
def FnExactWithoutObsWrongFalsely : Prop := fnExactWithoutObsRow.holds Try.pinned (OpenSpec.ofChange fnExactWithoutObsWrong)

/-- 'laws.FnExactErrorsFrom': WHATEVER THE INPUT: true; the input reads as it did. -/
def fnExactErrorsFromSpec : ChangeSpec := { name := "fnExactErrorsFrom", fn := fun _ => fun
  | [d1, d2, d3] => { results := [.lit (.bool true)], args := [d1, d2, d3] }
  | _ => none }
def fnExactErrorsFromRow : OpenClaim := { program := "ytmkhdpdepomohaa", sum := "b45adfb46768952c3712abf969055b387f7e570ce4e55fe788f13fdc17d6a853", func := "loop.example/g01254/laws.FnExactErrorsFrom", spec := "fnExactErrorsFrom", unfollowed := true, recurses := true, apart := false }
def FnExactErrorsFromSaid : Prop := fnExactErrorsFromRow.holds Try.pinned (OpenSpec.ofChange fnExactErrorsFromSpec)

/-- ITS FALSE NEIGHBOUR: 'it returns false'. Refute it at one input. -/
def fnExactErrorsFromWrong : ChangeSpec := { name := "fnExactErrorsFrom", fn := fun _ => fun
  | [d1, d2, d3] => { results := [.lit (.bool false)], args := [d1, d2, d3] }
  | _ => none }
def FnExactErrorsFromWrongFalsely : Prop := fnExactErrorsFromRow.holds Try.pinned (OpenSpec.ofChange fnExactErrorsFromWrong)

/-- 'laws.FnExactIntervalErrors': WHATEVER THE INPUT: true; the input reads as it did. -/
def fnExactIntervalErrorsSpec : ChangeSpec := { name := "fnExactIntervalErrors", fn := fun _ => fun
  | [d] => { results := [.lit (.bool true)], args := [d] }
  | _ => none }
def fnExactIntervalErrorsRow : OpenClaim := { program := "ytmkhdpdepomohaa", sum := "b45adfb46768952c3712abf969055b387f7e570ce4e55fe788f13fdc17d6a853", func := "loop.example/g01254/laws.FnExactIntervalErrors", spec := "fnExactIntervalErrors", unfollowed := true, recurses := true, apart := false }
def FnExactIntervalErrorsSaid : Prop := fnExactIntervalErrorsRow.holds Try.pinned (OpenSpec.ofChange fnExactIntervalErrorsSpec)

/-- ITS FALSE NEIGHBOUR: 'it returns false'. Refute it at one input. -/
def fnExactIntervalErrorsWrong : ChangeSpec := { name := "fnExactIntervalErrors", fn := fun _ => fun
  | [d] => { results := [.lit (.bool false)], args := [d] }
  | _ => none }
def FnExactIntervalErrorsWrongFalsely : Prop := fnExactIntervalErrorsRow.holds Try.pinned (OpenSpec.ofChange fnExactIntervalErrorsWrong)

/-- 'laws.FnExactResidualsOf': WHATEVER THE INPUT: true; the input reads as it did. -/
def fnExactResidualsOfSpec : ChangeSpec := { name := "fnExactResidualsOf", fn := fun _ => fun
  | [d1, d2] => { results := [.lit (.bool true)], args := [d1, d2] }
  | _ => none }
def fnExactResidualsOfRow : OpenClaim := { program := "ytmkhdpdepomohaa", sum := "b45adfb46768952c3712abf969055b387f7e570ce4e55fe788f13fdc17d6a853", func := "loop.example/g01254/laws.FnExactResidualsOf", spec := "fnExactResidualsOf", unfollowed := true, recurses := true, apart := false }
def FnExactResidualsOfSaid : Prop := fnExactResidualsOfRow.holds Try.pinned (OpenSpec.ofChange fnExactResidualsOfSpec)

/-- ITS FALSE NEIGHBOUR: 'it returns false'. Refute it at one input. -/
def fnExactResidualsOfWrong : ChangeSpec := { name := "fnExactResidualsOf", fn := fun _ => fun
  | [d1, d2] => { results := [.lit (.bool false)], args := [d1, d2] }
  | _ => none }
def FnExactResidualsOfWrongFalsely : Prop := fnExactResidualsOfRow.holds Try.pinned (OpenSpec.ofChange fnExactResidualsOfWrong)

/- THE SECOND FORM. 'bulk': how many values and letters a reading holds, each counted each time it is reached (what is shared counts as often as it is met; a slice's spare places count too). A statement '..UptoSaid' is the law's where the arguments, and the package variables that the reading takes, are together of bulk at most 1048576: NARROWER than '..Said'. Prove '..Said' where nothing that the law and all that it calls make is longer than what came in: it says more and counts as full. Else prove '..UptoSaid'. A law counts once. -/
mutual
def uptoBulk {H : Type} : DataW H → Nat
  | .lit (.string bytes) => bytes.length + 1
  | .lit _ => 1
  | .nil => 1
  | .ptr d => uptoBulk d + 1
  | .slice elems spare => uptoBulkAll elems + uptoBulkAll spare + 1
  | .agg parts => uptoBulkAll parts + 1
  | .iface _ d => uptoBulk d + 1
  | .map entries => uptoBulkEntries entries + 1
  | .held _ => 1
def uptoBulkAll {H : Type} : List (DataW H) → Nat
  | [] => 0
  | d :: r => uptoBulk d + uptoBulkAll r
def uptoBulkEntries {H : Type} : List (Lit × DataW H) → Nat
  | [] => 0
  | x :: r => uptoBulkEntry x + uptoBulkEntries r
def uptoBulkEntry {H : Type} : Lit × DataW H → Nat
  | (.string bytes, d) => bytes.length + uptoBulk d + 1
  | (_, d) => uptoBulk d + 1
 end
def uptoSmall : (H : Type) → List (DataW H) → Bool := fun _ ds => decide (uptoBulkAll ds ≤ 1048576)
def OpenSpec.upto (s : _root_.Go.ChangeSpec) : _root_.Go.OpenSpec := { _root_.Go.OpenSpec.ofChange s with cond := some uptoSmall }

/-- 'laws.FnExactAllOn', WHERE WHAT IT READS IS OF BULK AT MOST 1048576: true; the input reads as it did. -/
def fnExactAllOnUptoRow : OpenClaim := { program := "ytmkhdpdepomohaa", sum := "b45adfb46768952c3712abf969055b387f7e570ce4e55fe788f13fdc17d6a853", func := "loop.example/g01254/laws.FnExactAllOn", spec := "fnExactAllOn", unfollowed := true, recurses := true, apart := false, narrowed := true }
def FnExactAllOnUptoSaid : Prop := fnExactAllOnUptoRow.holds Try.pinned (OpenSpec.upto fnExactAllOnSpec)

/-- 'laws.FnExactPathTo', WHERE WHAT IT READS IS OF BULK AT MOST 1048576: true; the input reads as it did. -/
def fnExactPathToUptoRow : OpenClaim := { program := "ytmkhdpdepomohaa", sum := "b45adfb46768952c3712abf969055b387f7e570ce4e55fe788f13fdc17d6a853", func := "loop.example/g01254/laws.FnExactPathTo", spec := "fnExactPathTo", unfollowed := true, recurses := true, apart := false, narrowed := true }
def FnExactPathToUptoSaid : Prop := fnExactPathToUptoRow.holds Try.pinned (OpenSpec.upto fnExactPathToSpec)

/-- 'laws.FnExactUsersOf', WHERE WHAT IT READS IS OF BULK AT MOST 1048576: true; the input reads as it did. -/
def fnExactUsersOfUptoRow : OpenClaim := { program := "ytmkhdpdepomohaa", sum := "b45adfb46768952c3712abf969055b387f7e570ce4e55fe788f13fdc17d6a853", func := "loop.example/g01254/laws.FnExactUsersOf", spec := "fnExactUsersOf", unfollowed := true, recurses := true, apart := false, narrowed := true }
def FnExactUsersOfUptoSaid : Prop := fnExactUsersOfUptoRow.holds Try.pinned (OpenSpec.upto fnExactUsersOfSpec)

/-- 'laws.FnExactRecallOf', WHERE WHAT IT READS IS OF BULK AT MOST 1048576: true; the input reads as it did. -/
def fnExactRecallOfUptoRow : OpenClaim := { program := "ytmkhdpdepomohaa", sum := "b45adfb46768952c3712abf969055b387f7e570ce4e55fe788f13fdc17d6a853", func := "loop.example/g01254/laws.FnExactRecallOf", spec := "fnExactRecallOf", unfollowed := true, recurses := true, apart := false, narrowed := true }
def FnExactRecallOfUptoSaid : Prop := fnExactRecallOfUptoRow.holds Try.pinned (OpenSpec.upto fnExactRecallOfSpec)

/-- 'laws.FnExactCalibrate', WHERE WHAT IT READS IS OF BULK AT MOST 1048576: true; the input reads as it did. -/
def fnExactCalibrateUptoRow : OpenClaim := { program := "ytmkhdpdepomohaa", sum := "b45adfb46768952c3712abf969055b387f7e570ce4e55fe788f13fdc17d6a853", func := "loop.example/g01254/laws.FnExactCalibrate", spec := "fnExactCalibrate", unfollowed := true, recurses := true, apart := false, narrowed := true }
def FnExactCalibrateUptoSaid : Prop := fnExactCalibrateUptoRow.holds Try.pinned (OpenSpec.upto fnExactCalibrateSpec)

/-- 'laws.FnExactRenewStandard', WHERE WHAT IT READS IS OF BULK AT MOST 1048576: true; the input reads as it did. -/
def fnExactRenewStandardUptoRow : OpenClaim := { program := "ytmkhdpdepomohaa", sum := "b45adfb46768952c3712abf969055b387f7e570ce4e55fe788f13fdc17d6a853", func := "loop.example/g01254/laws.FnExactRenewStandard", spec := "fnExactRenewStandard", unfollowed := true, recurses := true, apart := false, narrowed := true }
def FnExactRenewStandardUptoSaid : Prop := fnExactRenewStandardUptoRow.holds Try.pinned (OpenSpec.upto fnExactRenewStandardSpec)

/-- 'laws.FnExactRingTable', WHERE WHAT IT READS IS OF BULK AT MOST 1048576: true; the input reads as it did. -/
def fnExactRingTableUptoRow : OpenClaim := { program := "ytmkhdpdepomohaa", sum := "b45adfb46768952c3712abf969055b387f7e570ce4e55fe788f13fdc17d6a853", func := "loop.example/g01254/laws.FnExactRingTable", spec := "fnExactRingTable", unfollowed := true, recurses := true, apart := false, narrowed := true }
def FnExactRingTableUptoSaid : Prop := fnExactRingTableUptoRow.holds Try.pinned (OpenSpec.upto fnExactRingTableSpec)

/-- 'laws.FnExactSectorsOf', WHERE WHAT IT READS IS OF BULK AT MOST 1048576: true; the input reads as it did. -/
def fnExactSectorsOfUptoRow : OpenClaim := { program := "ytmkhdpdepomohaa", sum := "b45adfb46768952c3712abf969055b387f7e570ce4e55fe788f13fdc17d6a853", func := "loop.example/g01254/laws.FnExactSectorsOf", spec := "fnExactSectorsOf", unfollowed := true, recurses := true, apart := false, narrowed := true }
def FnExactSectorsOfUptoSaid : Prop := fnExactSectorsOfUptoRow.holds Try.pinned (OpenSpec.upto fnExactSectorsOfSpec)

/-- 'laws.FnExactWithoutObs', WHERE WHAT IT READS IS OF BULK AT MOST 1048576: true; the input reads as it did. -/
def fnExactWithoutObsUptoRow : OpenClaim := { program := "ytmkhdpdepomohaa", sum := "b45adfb46768952c3712abf969055b387f7e570ce4e55fe788f13fdc17d6a853", func := "loop.example/g01254/laws.FnExactWithoutObs", spec := "fnExactWithoutObs", apart := false, narrowed := true }
def FnExactWithoutObsUptoSaid : Prop := fnExactWithoutObsUptoRow.holds Try.pinned (OpenSpec.upto fnExactWithoutObsSpec)

/-- 'laws.FnExactErrorsFrom', WHERE WHAT IT READS IS OF BULK AT MOST 1048576: true; the input reads as it did. -/
def fnExactErrorsFromUptoRow : OpenClaim := { program := "ytmkhdpdepomohaa", sum := "b45adfb46768952c3712abf969055b387f7e570ce4e55fe788f13fdc17d6a853", func := "loop.example/g01254/laws.FnExactErrorsFrom", spec := "fnExactErrorsFrom", unfollowed := true, recurses := true, apart := false, narrowed := true }
def FnExactErrorsFromUptoSaid : Prop := fnExactErrorsFromUptoRow.holds Try.pinned (OpenSpec.upto fnExactErrorsFromSpec)

/-- 'laws.FnExactIntervalErrors', WHERE WHAT IT READS IS OF BULK AT MOST 1048576: true; the input reads as it did. -/
def fnExactIntervalErrorsUptoRow : OpenClaim := { program := "ytmkhdpdepomohaa", sum := "b45adfb46768952c3712abf969055b387f7e570ce4e55fe788f13fdc17d6a853", func := "loop.example/g01254/laws.FnExactIntervalErrors", spec := "fnExactIntervalErrors", unfollowed := true, recurses := true, apart := false, narrowed := true }
def FnExactIntervalErrorsUptoSaid : Prop := fnExactIntervalErrorsUptoRow.holds Try.pinned (OpenSpec.upto fnExactIntervalErrorsSpec)

/-- 'laws.FnExactResidualsOf', WHERE WHAT IT READS IS OF BULK AT MOST 1048576: true; the input reads as it did. -/
def fnExactResidualsOfUptoRow : OpenClaim := { program := "ytmkhdpdepomohaa", sum := "b45adfb46768952c3712abf969055b387f7e570ce4e55fe788f13fdc17d6a853", func := "loop.example/g01254/laws.FnExactResidualsOf", spec := "fnExactResidualsOf", unfollowed := true, recurses := true, apart := false, narrowed := true }
def FnExactResidualsOfUptoSaid : Prop := fnExactResidualsOfUptoRow.holds Try.pinned (OpenSpec.upto fnExactResidualsOfSpec)

end Rows
end Go.Proofs.Ytmkhdpdepomohaa
