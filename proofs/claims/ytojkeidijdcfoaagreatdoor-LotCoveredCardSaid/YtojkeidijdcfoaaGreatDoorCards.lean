/-
  DERIVED. GIVEN WITH THE SEED: THE CARDS: each row of YtojkeidijdcfoaaGreatDoorRows.lean that lists a variable, with what it lists TIED to the program's text (the seventh form; the later family's looks); each row that meets fmt, with fmt's text TOLD by the authors' own Lean function (tested against real Go, not proved from fmt's source: count such statements apart). THE CARD IS WHAT COUNTS. Prove the row's statement (the work); the ties are given (YtojkeidijdcfoaaGreatDoorTie.lean); close each card by the builder's one call (the guide's Derived/Test/ToyasCard.lean, 'card_holds'). Laid BY PROGRAM, IN A SANDBOX (cutbox-door.mjs). By AI agents, Wed Nov 11 2026. No macro, syntax, notation, axiom, sorry.
-/
import Derived.Test.YtojkeidijdcfoaaGreatDoorRows
import GoSem.ClaimSeven
namespace Go.Proofs.YtojkeidijdcfoaaGreatDoor
namespace Rows

/-- THE TIED CARD OF 'customslaw25.LotPresent'. -/
def lotPresentCard : Claim7 := { stood := { row := lotPresentRow, standIns := [], harness := (true, "0af1e3739facc28a6a4e6c7d55001cbdecc05f781ffe1ebd25fd144781446484"), looks := false }, kinds := [], alts := [], laidByText := true, laidKinds := [.data], laidTests := true, laidLooks := .later }
def LotPresentCardSaid : Prop := Claim7.holds Tryz.pinned (.plain (OpenSpec.ofChange lotPresentSpec)) lotPresentCard

/-- THE TIED CARD OF 'customslaw25.LotReturn'. -/
def lotReturnCard : Claim7 := { stood := { row := lotReturnRow, standIns := [], harness := (true, "0af1e3739facc28a6a4e6c7d55001cbdecc05f781ffe1ebd25fd144781446484"), looks := false }, kinds := [], alts := [], laidByText := true, laidKinds := [.data], laidTests := true, laidLooks := .later }
def LotReturnCardSaid : Prop := Claim7.holds Tryz.pinned (.plain (OpenSpec.ofChange lotReturnSpec)) lotReturnCard

/-- THE TIED CARD OF 'customslaw25.LotCovered'. -/
def lotCoveredCard : Claim7 := { stood := { row := lotCoveredRow, standIns := [], harness := (true, "0af1e3739facc28a6a4e6c7d55001cbdecc05f781ffe1ebd25fd144781446484"), looks := false }, kinds := [], alts := [], laidByText := true, laidKinds := [.data], laidTests := true, laidLooks := .later }
def LotCoveredCardSaid : Prop := Claim7.holds Tryz.pinned (.plain (OpenSpec.ofChange lotCoveredSpec)) lotCoveredCard

/-- THE SECOND FORM's CARD OF 'customslaw25.LotPresent'. -/
def lotPresentUptoCard : Claim7 := { stood := { row := lotPresentUptoRow, standIns := [], harness := (true, "0af1e3739facc28a6a4e6c7d55001cbdecc05f781ffe1ebd25fd144781446484"), looks := false }, kinds := [], alts := [], laidByText := true, laidKinds := [.data], laidTests := true, laidLooks := .later }
def LotPresentUptoCardSaid : Prop := Claim7.holds Tryz.pinned (.plain (OpenSpec.upto lotPresentSpec)) lotPresentUptoCard

/-- THE SECOND FORM's CARD OF 'customslaw25.LotReturn'. -/
def lotReturnUptoCard : Claim7 := { stood := { row := lotReturnUptoRow, standIns := [], harness := (true, "0af1e3739facc28a6a4e6c7d55001cbdecc05f781ffe1ebd25fd144781446484"), looks := false }, kinds := [], alts := [], laidByText := true, laidKinds := [.data], laidTests := true, laidLooks := .later }
def LotReturnUptoCardSaid : Prop := Claim7.holds Tryz.pinned (.plain (OpenSpec.upto lotReturnSpec)) lotReturnUptoCard

/-- THE SECOND FORM's CARD OF 'customslaw25.LotCovered'. -/
def lotCoveredUptoCard : Claim7 := { stood := { row := lotCoveredUptoRow, standIns := [], harness := (true, "0af1e3739facc28a6a4e6c7d55001cbdecc05f781ffe1ebd25fd144781446484"), looks := false }, kinds := [], alts := [], laidByText := true, laidKinds := [.data], laidTests := true, laidLooks := .later }
def LotCoveredUptoCardSaid : Prop := Claim7.holds Tryz.pinned (.plain (OpenSpec.upto lotCoveredSpec)) lotCoveredUptoCard
end Rows
end Go.Proofs.YtojkeidijdcfoaaGreatDoor
