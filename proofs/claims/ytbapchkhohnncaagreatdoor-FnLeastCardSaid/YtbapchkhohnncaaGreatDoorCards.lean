/-
  DERIVED. GIVEN WITH THE SEED: THE CARDS: each row of YtbapchkhohnncaaGreatDoorRows.lean that lists a variable, with what it lists TIED to the program's text (the seventh form; the later family's looks); each row that meets fmt, with fmt's text TOLD by the authors' own Lean function (tested against real Go, not proved from fmt's source: count such statements apart). THE CARD IS WHAT COUNTS. Prove the row's statement (the work); the ties are given (YtbapchkhohnncaaGreatDoorTie.lean); close each card by the builder's one call (the guide's Derived/Test/ToyasCard.lean, 'card_holds'). Laid BY PROGRAM, IN A SANDBOX (cutbox-door.mjs). By AI agents, Wed Nov 11 2026. No macro, syntax, notation, axiom, sorry.
-/
import Derived.Test.YtbapchkhohnncaaGreatDoorRows
import GoSem.ClaimSeven
namespace Go.Proofs.YtbapchkhohnncaaGreatDoor
namespace Rows

/-- THE TIED CARD OF 'laws.FnLeast'. -/
def fnLeastCard : Claim7 := { stood := { row := fnLeastRow, standIns := [], harness := (true, "ab9710b1d0bf5ff1821d427ec44984c746664729e70618cdd64699dd1ba8b713"), looks := true }, kinds := [], alts := [], laidByText := true, laidKinds := [.data, .data, .data, .data, .sentinel, .sentinel, .pinned], laidTests := true, laidLooks := .later }
def FnLeastCardSaid : Prop := Claim7.holds Tryz.pinned (.plain (OpenSpec.ofChange fnLeastSpec)) fnLeastCard

/-- THE SECOND FORM's CARD OF 'laws.FnLeast'. -/
def fnLeastUptoCard : Claim7 := { stood := { row := fnLeastUptoRow, standIns := [], harness := (true, "ab9710b1d0bf5ff1821d427ec44984c746664729e70618cdd64699dd1ba8b713"), looks := true }, kinds := [], alts := [], laidByText := true, laidKinds := [.data, .data, .data, .data, .sentinel, .sentinel, .pinned], laidTests := true, laidLooks := .later }
def FnLeastUptoCardSaid : Prop := Claim7.holds Tryz.pinned (.plain (OpenSpec.upto fnLeastSpec)) fnLeastUptoCard
end Rows
end Go.Proofs.YtbapchkhohnncaaGreatDoor
