/-
  DERIVED. GIVEN WITH THE SEED: THE CARDS: each row of YtpamckmeeamjjaaDoorRows.lean that lists a variable, with what it lists TIED to the program's text (the seventh form; the later family's looks); each row that meets fmt, with fmt's text TOLD by the authors' own Lean function (tested against real Go, not proved from fmt's source: count such statements apart). THE CARD IS WHAT COUNTS. Prove the row's statement (the work); the ties are given (YtpamckmeeamjjaaDoorTie.lean); close each card by the builder's one call (the guide's Derived/Test/ToyasCard.lean, 'card_holds'). Laid BY PROGRAM, IN A SANDBOX (cutbox-door.mjs). By AI agents, Wed Nov 11 2026. No macro, syntax, notation, axiom, sorry.
-/
import Derived.Test.YtpamckmeeamjjaaDoorRows
import GoSem.ClaimSeven
namespace Go.Proofs.YtpamckmeeamjjaaDoor
namespace Rows

/-- THE TIED CARD OF 'laws.FnExactReadTable'. -/
def fnExactReadTableCard : Claim7 := { stood := { row := fnExactReadTableRow, standIns := [], harness := (true, "e3ae4dc13597b6af257a8d6221196e678c96c293434a96f54725f10c49218516"), looks := true }, kinds := [], alts := [], laidByText := true, laidKinds := [.data, .data, .data, .data, .sentinel, .sentinel, .pinned], laidTests := true, laidLooks := .later }
def FnExactReadTableCardSaid : Prop := Claim7.holds Tryd.pinned (.plain (OpenSpec.ofChange fnExactReadTableSpec)) fnExactReadTableCard

/-- THE TIED CARD OF 'laws.FnExactReadAngle'. -/
def fnExactReadAngleCard : Claim7 := { stood := { row := fnExactReadAngleRow, standIns := [], harness := (true, "e3ae4dc13597b6af257a8d6221196e678c96c293434a96f54725f10c49218516"), looks := true }, kinds := [], alts := [], laidByText := true, laidKinds := [.data, .data, .data, .data, .sentinel, .sentinel, .pinned], laidTests := true, laidLooks := .later }
def FnExactReadAngleCardSaid : Prop := Claim7.holds Tryd.pinned (.plain (OpenSpec.ofChange fnExactReadAngleSpec)) fnExactReadAngleCard

/-- THE TIED CARD OF 'laws.FnExactAngleText'. -/
def fnExactAngleTextCard : Claim7 := { stood := { row := fnExactAngleTextRow, standIns := [], harness := (true, "e3ae4dc13597b6af257a8d6221196e678c96c293434a96f54725f10c49218516"), looks := true }, kinds := [], alts := [], laidByText := true, laidKinds := [.data, .data, .data], laidTests := true, laidLooks := .later }
def FnExactAngleTextCardSaid : Prop := Claim7.holds Tryd.pinned (.plain (OpenSpec.ofChange fnExactAngleTextSpec)) fnExactAngleTextCard

/-- THE TIED CARD OF 'laws.FnExactTableText'. -/
def fnExactTableTextCard : Claim7 := { stood := { row := fnExactTableTextRow, standIns := [], harness := (true, "e3ae4dc13597b6af257a8d6221196e678c96c293434a96f54725f10c49218516"), looks := true }, kinds := [], alts := [], laidByText := true, laidKinds := [.data, .data, .data], laidTests := true, laidLooks := .later }
def FnExactTableTextCardSaid : Prop := Claim7.holds Tryd.pinned (.plain (OpenSpec.ofChange fnExactTableTextSpec)) fnExactTableTextCard

/-- THE TIED CARD OF 'laws.FnAngles'. -/
def fnAnglesCard : Claim7 := { stood := { row := fnAnglesRow, standIns := [], harness := (true, "e3ae4dc13597b6af257a8d6221196e678c96c293434a96f54725f10c49218516"), looks := true }, kinds := [], alts := [], laidByText := true, laidKinds := [.data, .data, .data, .data, .sentinel, .sentinel, .pinned], laidTests := true, laidLooks := .later }
def FnAnglesCardSaid : Prop := Claim7.holds Tryd.pinned (.plain (OpenSpec.ofChange fnAnglesSpec)) fnAnglesCard

/-- THE SECOND FORM's CARD OF 'laws.FnExactReadTable'. -/
def fnExactReadTableUptoCard : Claim7 := { stood := { row := fnExactReadTableUptoRow, standIns := [], harness := (true, "e3ae4dc13597b6af257a8d6221196e678c96c293434a96f54725f10c49218516"), looks := true }, kinds := [], alts := [], laidByText := true, laidKinds := [.data, .data, .data, .data, .sentinel, .sentinel, .pinned], laidTests := true, laidLooks := .later }
def FnExactReadTableUptoCardSaid : Prop := Claim7.holds Tryd.pinned (.plain (OpenSpec.upto fnExactReadTableSpec)) fnExactReadTableUptoCard

/-- THE SECOND FORM's CARD OF 'laws.FnExactReadAngle'. -/
def fnExactReadAngleUptoCard : Claim7 := { stood := { row := fnExactReadAngleUptoRow, standIns := [], harness := (true, "e3ae4dc13597b6af257a8d6221196e678c96c293434a96f54725f10c49218516"), looks := true }, kinds := [], alts := [], laidByText := true, laidKinds := [.data, .data, .data, .data, .sentinel, .sentinel, .pinned], laidTests := true, laidLooks := .later }
def FnExactReadAngleUptoCardSaid : Prop := Claim7.holds Tryd.pinned (.plain (OpenSpec.upto fnExactReadAngleSpec)) fnExactReadAngleUptoCard

/-- THE SECOND FORM's CARD OF 'laws.FnExactAngleText'. -/
def fnExactAngleTextUptoCard : Claim7 := { stood := { row := fnExactAngleTextUptoRow, standIns := [], harness := (true, "e3ae4dc13597b6af257a8d6221196e678c96c293434a96f54725f10c49218516"), looks := true }, kinds := [], alts := [], laidByText := true, laidKinds := [.data, .data, .data], laidTests := true, laidLooks := .later }
def FnExactAngleTextUptoCardSaid : Prop := Claim7.holds Tryd.pinned (.plain (OpenSpec.upto fnExactAngleTextSpec)) fnExactAngleTextUptoCard

/-- THE SECOND FORM's CARD OF 'laws.FnExactTableText'. -/
def fnExactTableTextUptoCard : Claim7 := { stood := { row := fnExactTableTextUptoRow, standIns := [], harness := (true, "e3ae4dc13597b6af257a8d6221196e678c96c293434a96f54725f10c49218516"), looks := true }, kinds := [], alts := [], laidByText := true, laidKinds := [.data, .data, .data], laidTests := true, laidLooks := .later }
def FnExactTableTextUptoCardSaid : Prop := Claim7.holds Tryd.pinned (.plain (OpenSpec.upto fnExactTableTextSpec)) fnExactTableTextUptoCard

/-- THE SECOND FORM's CARD OF 'laws.FnAngles'. -/
def fnAnglesUptoCard : Claim7 := { stood := { row := fnAnglesUptoRow, standIns := [], harness := (true, "e3ae4dc13597b6af257a8d6221196e678c96c293434a96f54725f10c49218516"), looks := true }, kinds := [], alts := [], laidByText := true, laidKinds := [.data, .data, .data, .data, .sentinel, .sentinel, .pinned], laidTests := true, laidLooks := .later }
def FnAnglesUptoCardSaid : Prop := Claim7.holds Tryd.pinned (.plain (OpenSpec.upto fnAnglesSpec)) fnAnglesUptoCard
end Rows
end Go.Proofs.YtpamckmeeamjjaaDoor
