/-
  No cell of these rows narrows 'for every input' (looked for: loops, veiled, ifaces, maps, wideKeys, modest, calm, conditions, laid).
  DERIVED. THE GIVEN ROWS OF THIS SEAT. 6 by the template 'for every input the law returns true; each argument reads behind the call as it read before'; 0 by the template 'total and deterministic' (their statements: YtoalilpbncahgaaTotals.lean).
  GIVEN WITH THE SEED: the statements are not yours to turn. If you find one false, say at which input.
  Laid BY PROGRAM, IN A SANDBOX (cutbox-rows.mjs): the forced cells as the released guide's own fill.sh prints them over the translation d6f35048444291ae… (all of the seat's roots in one cut). By AI agents, Wed Nov 11 2026. No macro, syntax, notation, axiom, sorry.
-/
import Derived.Test.YtoalilpbncahgaaChecked
import GoSem.Claim
import GoSem.ClaimJoined
import GoSem.ClaimMapViews
import Derived.JoinedTies
import Derived.KernelRfl
namespace Go.Proofs.Ytoalilpbncahgaa
/- THE CELL 'sum', in the pinned program and in every row, IS THE sha256 OF THE DUMP (.gsa) THAT YtoalilpbncahgaaProg.lean LOADS. Nothing in Lean hashes anything: it is a label: what it is worth is what the hold of that sum in a sandbox is worth. -/
noncomputable def Try.pinned : Pinned := { name := "ytoalilpbncahgaa", sum := "d6f35048444291ae6e558d62154ec2c34f7e505598f174e92ee8cde5810a05fd", checked := Try.checked }
namespace Rows
def none {H : Type} : Left H := { results := [], args := [] }

/-- 'laws.FnSolved': WHATEVER THE INPUT: true; the input reads as it did. -/
def fnSolvedSpec : ChangeSpec := { name := "fnSolved", fn := fun _ => fun
  | [d1, d2] => { results := [.lit (.bool true)], args := [d1, d2] }
  | _ => none }
def fnSolvedRow : OpenClaim := { program := "ytoalilpbncahgaa", sum := "d6f35048444291ae6e558d62154ec2c34f7e505598f174e92ee8cde5810a05fd", func := "loop.example/g01254/laws.FnSolved", spec := "fnSolved", unfollowed := true, recurses := true, apart := false }
def FnSolvedSaid : Prop := fnSolvedRow.holds Try.pinned (OpenSpec.ofChange fnSolvedSpec)

/-- ITS FALSE NEIGHBOUR: 'it returns false'. Refute it at one input. -/
def fnSolvedWrong : ChangeSpec := { name := "fnSolved", fn := fun _ => fun
  | [d1, d2] => { results := [.lit (.bool false)], args := [d1, d2] }
  | _ => none }
def FnSolvedWrongFalsely : Prop := fnSolvedRow.holds Try.pinned (OpenSpec.ofChange fnSolvedWrong)

/-- 'laws.FnShared': WHATEVER THE INPUT: true; the input reads as it did. -/
def fnSharedSpec : ChangeSpec := { name := "fnShared", fn := fun _ => fun
  | [d1, d2] => { results := [.lit (.bool true)], args := [d1, d2] }
  | _ => none }
def fnSharedRow : OpenClaim := { program := "ytoalilpbncahgaa", sum := "d6f35048444291ae6e558d62154ec2c34f7e505598f174e92ee8cde5810a05fd", func := "loop.example/g01254/laws.FnShared", spec := "fnShared", unfollowed := true, recurses := true, apart := false }
def FnSharedSaid : Prop := fnSharedRow.holds Try.pinned (OpenSpec.ofChange fnSharedSpec)

/-- ITS FALSE NEIGHBOUR: 'it returns false'. Refute it at one input. -/
def fnSharedWrong : ChangeSpec := { name := "fnShared", fn := fun _ => fun
  | [d1, d2] => { results := [.lit (.bool false)], args := [d1, d2] }
  | _ => none }
def FnSharedWrongFalsely : Prop := fnSharedRow.holds Try.pinned (OpenSpec.ofChange fnSharedWrong)

/-- 'laws.FnExactSolveFracs': WHATEVER THE INPUT: true; the input reads as it did. -/
def fnExactSolveFracsSpec : ChangeSpec := { name := "fnExactSolveFracs", fn := fun _ => fun
  | [d1, d2] => { results := [.lit (.bool true)], args := [d1, d2] }
  | _ => none }
def fnExactSolveFracsRow : OpenClaim := { program := "ytoalilpbncahgaa", sum := "d6f35048444291ae6e558d62154ec2c34f7e505598f174e92ee8cde5810a05fd", func := "loop.example/g01254/laws.FnExactSolveFracs", spec := "fnExactSolveFracs", unfollowed := true, recurses := true, apart := false }
def FnExactSolveFracsSaid : Prop := fnExactSolveFracsRow.holds Try.pinned (OpenSpec.ofChange fnExactSolveFracsSpec)

/-- ITS FALSE NEIGHBOUR: 'it returns false'. Refute it at one input. -/
def fnExactSolveFracsWrong : ChangeSpec := { name := "fnExactSolveFracs", fn := fun _ => fun
  | [d1, d2] => { results := [.lit (.bool false)], args := [d1, d2] }
  | _ => none }
def FnExactSolveFracsWrongFalsely : Prop := fnExactSolveFracsRow.holds Try.pinned (OpenSpec.ofChange fnExactSolveFracsWrong)

/-- 'laws.FnExactFreeOf': WHATEVER THE INPUT: true; the input reads as it did. -/
def fnExactFreeOfSpec : ChangeSpec := { name := "fnExactFreeOf", fn := fun _ => fun
  | [d] => { results := [.lit (.bool true)], args := [d] }
  | _ => none }
def fnExactFreeOfRow : OpenClaim := { program := "ytoalilpbncahgaa", sum := "d6f35048444291ae6e558d62154ec2c34f7e505598f174e92ee8cde5810a05fd", func := "loop.example/g01254/laws.FnExactFreeOf", spec := "fnExactFreeOf", apart := false }
def FnExactFreeOfSaid : Prop := fnExactFreeOfRow.holds Try.pinned (OpenSpec.ofChange fnExactFreeOfSpec)

/-- ITS FALSE NEIGHBOUR: 'it returns false'. Refute it at one input. -/
def fnExactFreeOfWrong : ChangeSpec := { name := "fnExactFreeOf", fn := fun _ => fun
  | [d] => { results := [.lit (.bool false)], args := [d] }
  | _ => none }
def FnExactFreeOfWrongFalsely : Prop := fnExactFreeOfRow.holds Try.pinned (OpenSpec.ofChange fnExactFreeOfWrong)

/-- 'laws.FnExactNormalOf': WHATEVER THE INPUT: true; the input reads as it did. -/
def fnExactNormalOfSpec : ChangeSpec := { name := "fnExactNormalOf", fn := fun _ => fun
  | [d] => { results := [.lit (.bool true)], args := [d] }
  | _ => none }
def fnExactNormalOfRow : OpenClaim := { program := "ytoalilpbncahgaa", sum := "d6f35048444291ae6e558d62154ec2c34f7e505598f174e92ee8cde5810a05fd", func := "loop.example/g01254/laws.FnExactNormalOf", spec := "fnExactNormalOf", apart := false }
def FnExactNormalOfSaid : Prop := fnExactNormalOfRow.holds Try.pinned (OpenSpec.ofChange fnExactNormalOfSpec)

/-- ITS FALSE NEIGHBOUR: 'it returns false'. Refute it at one input. -/
def fnExactNormalOfWrong : ChangeSpec := { name := "fnExactNormalOf", fn := fun _ => fun
  | [d] => { results := [.lit (.bool false)], args := [d] }
  | _ => none }
def FnExactNormalOfWrongFalsely : Prop := fnExactNormalOfRow.holds Try.pinned (OpenSpec.ofChange fnExactNormalOfWrong)

/-- 'laws.FnExactCorrectionsOf': WHATEVER THE INPUT: true; the input reads as it did. -/
def fnExactCorrectionsOfSpec : ChangeSpec := { name := "fnExactCorrectionsOf", fn := fun _ => fun
  | [d] => { results := [.lit (.bool true)], args := [d] }
  | _ => none }
def fnExactCorrectionsOfRow : OpenClaim := { program := "ytoalilpbncahgaa", sum := "d6f35048444291ae6e558d62154ec2c34f7e505598f174e92ee8cde5810a05fd", func := "loop.example/g01254/laws.FnExactCorrectionsOf", spec := "fnExactCorrectionsOf", unfollowed := true, recurses := true, apart := false }
def FnExactCorrectionsOfSaid : Prop := fnExactCorrectionsOfRow.holds Try.pinned (OpenSpec.ofChange fnExactCorrectionsOfSpec)

/-- ITS FALSE NEIGHBOUR: 'it returns false'. Refute it at one input. -/
def fnExactCorrectionsOfWrong : ChangeSpec := { name := "fnExactCorrectionsOf", fn := fun _ => fun
  | [d] => { results := [.lit (.bool false)], args := [d] }
  | _ => none }
def FnExactCorrectionsOfWrongFalsely : Prop := fnExactCorrectionsOfRow.holds Try.pinned (OpenSpec.ofChange fnExactCorrectionsOfWrong)

/- THE SECOND FORM. 'bulk': how many values and letters a reading holds, each counted each time it is reached (what is shared counts as often as it is met; a slice's spare places count too). A statement '..UptoSaid' is the law's where the arguments, and the package variables that the reading takes, are together of bulk at most 1048576: NARROWER than '..Said'. Prove '..Said' where nothing that the law and all that it calls make is longer than what came in: it says more and counts as full. Else prove '..UptoSaid'. A law counts once. -/
mutual
def uptoBulk {H : Type} : DataW H → Nat
  | .lit (.string bytes) => bytes.length + 1
  | .lit _ => 1
  | .nil => 1
  | .ptr d => uptoBulk d + 1
  | .slice elems spare => uptoBulkAll elems + uptoBulkAll spare + 1
  | .agg parts => uptoBulkAll parts + 1
  | .iface _ d => uptoBulk d + 1
  | .map entries => uptoBulkEntries entries + 1
  | .held _ => 1
def uptoBulkAll {H : Type} : List (DataW H) → Nat
  | [] => 0
  | d :: r => uptoBulk d + uptoBulkAll r
def uptoBulkEntries {H : Type} : List (Lit × DataW H) → Nat
  | [] => 0
  | x :: r => uptoBulkEntry x + uptoBulkEntries r
def uptoBulkEntry {H : Type} : Lit × DataW H → Nat
  | (.string bytes, d) => bytes.length + uptoBulk d + 1
  | (_, d) => uptoBulk d + 1
 end
def uptoSmall : (H : Type) → List (DataW H) → Bool := fun _ ds => decide (uptoBulkAll ds ≤ 1048576)
def OpenSpec.upto (s : _root_.Go.ChangeSpec) : _root_.Go.OpenSpec := { _root_.Go.OpenSpec.ofChange s with cond := some uptoSmall }

/-- 'laws.FnSolved', WHERE WHAT IT READS IS OF BULK AT MOST 1048576: true; the input reads as it did. -/
def fnSolvedUptoRow : OpenClaim := { program := "ytoalilpbncahgaa", sum := "d6f35048444291ae6e558d62154ec2c34f7e505598f174e92ee8cde5810a05fd", func := "loop.example/g01254/laws.FnSolved", spec := "fnSolved", unfollowed := true, recurses := true, apart := false, narrowed := true }
def FnSolvedUptoSaid : Prop := fnSolvedUptoRow.holds Try.pinned (OpenSpec.upto fnSolvedSpec)

/-- 'laws.FnShared', WHERE WHAT IT READS IS OF BULK AT MOST 1048576: true; the input reads as it did. -/
def fnSharedUptoRow : OpenClaim := { program := "ytoalilpbncahgaa", sum := "d6f35048444291ae6e558d62154ec2c34f7e505598f174e92ee8cde5810a05fd", func := "loop.example/g01254/laws.FnShared", spec := "fnShared", unfollowed := true, recurses := true, apart := false, narrowed := true }
def FnSharedUptoSaid : Prop := fnSharedUptoRow.holds Try.pinned (OpenSpec.upto fnSharedSpec)

/-- 'laws.FnExactSolveFracs', WHERE WHAT IT READS IS OF BULK AT MOST 1048576: true; the input reads as it did. -/
def fnExactSolveFracsUptoRow : OpenClaim := { program := "ytoalilpbncahgaa", sum := "d6f35048444291ae6e558d62154ec2c34f7e505598f174e92ee8cde5810a05fd", func := "loop.example/g01254/laws.FnExactSolveFracs", spec := "fnExactSolveFracs", unfollowed := true, recurses := true, apart := false, narrowed := true }
def FnExactSolveFracsUptoSaid : Prop := fnExactSolveFracsUptoRow.holds Try.pinned (OpenSpec.upto fnExactSolveFracsSpec)

/-- 'laws.FnExactFreeOf', WHERE WHAT IT READS IS OF BULK AT MOST 1048576: true; the input reads as it did. -/
def fnExactFreeOfUptoRow : OpenClaim := { program := "ytoalilpbncahgaa", sum := "d6f35048444291ae6e558d62154ec2c34f7e505598f174e92ee8cde5810a05fd", func := "loop.example/g01254/laws.FnExactFreeOf", spec := "fnExactFreeOf", apart := false, narrowed := true }
def FnExactFreeOfUptoSaid : Prop := fnExactFreeOfUptoRow.holds Try.pinned (OpenSpec.upto fnExactFreeOfSpec)

/-- 'laws.FnExactNormalOf', WHERE WHAT IT READS IS OF BULK AT MOST 1048576: true; the input reads as it did. -/
def fnExactNormalOfUptoRow : OpenClaim := { program := "ytoalilpbncahgaa", sum := "d6f35048444291ae6e558d62154ec2c34f7e505598f174e92ee8cde5810a05fd", func := "loop.example/g01254/laws.FnExactNormalOf", spec := "fnExactNormalOf", apart := false, narrowed := true }
def FnExactNormalOfUptoSaid : Prop := fnExactNormalOfUptoRow.holds Try.pinned (OpenSpec.upto fnExactNormalOfSpec)

/-- 'laws.FnExactCorrectionsOf', WHERE WHAT IT READS IS OF BULK AT MOST 1048576: true; the input reads as it did. -/
def fnExactCorrectionsOfUptoRow : OpenClaim := { program := "ytoalilpbncahgaa", sum := "d6f35048444291ae6e558d62154ec2c34f7e505598f174e92ee8cde5810a05fd", func := "loop.example/g01254/laws.FnExactCorrectionsOf", spec := "fnExactCorrectionsOf", unfollowed := true, recurses := true, apart := false, narrowed := true }
def FnExactCorrectionsOfUptoSaid : Prop := fnExactCorrectionsOfUptoRow.holds Try.pinned (OpenSpec.upto fnExactCorrectionsOfSpec)

end Rows
end Go.Proofs.Ytoalilpbncahgaa
