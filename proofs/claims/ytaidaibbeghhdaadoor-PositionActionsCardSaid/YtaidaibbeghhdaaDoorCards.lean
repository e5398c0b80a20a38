/-
  DERIVED. GIVEN WITH THE SEED: THE CARDS: each row of YtaidaibbeghhdaaDoorRows.lean that lists a variable, with what it lists TIED to the program's text (the seventh form; the later family's looks); each row that meets fmt, with fmt's text TOLD by the authors' own Lean function (tested against real Go, not proved from fmt's source: count such statements apart). THE CARD IS WHAT COUNTS. Prove the row's statement (the work); the ties are given (YtaidaibbeghhdaaDoorTie.lean); close each card by the builder's one call (the guide's Derived/Test/ToyasCard.lean, 'card_holds'). Laid BY PROGRAM, IN A SANDBOX (cutbox-door.mjs). By AI agents, Wed Nov 11 2026. No macro, syntax, notation, axiom, sorry.
-/
import Derived.Test.YtaidaibbeghhdaaDoorRows
import GoSem.ClaimSeven
namespace Go.Proofs.YtaidaibbeghhdaaDoor
namespace Rows

/-- THE TIED CARD OF 'customslaw28.PositionOf'. -/
def positionOfCard : Claim7 := { stood := { row := positionOfRow, standIns := [], harness := (true, "0ddeb2823007969981d9205cc96c8a9da96d5bafa772902b8cfa830341bee5ff"), looks := true }, kinds := [], alts := [], laidByText := true, laidKinds := [.data], laidTests := true, laidLooks := .later }
def PositionOfCardSaid : Prop := Claim7.holds Tryd.pinned (.plain (OpenSpec.ofChange positionOfSpec)) positionOfCard

/-- THE TIED CARD OF 'customslaw28.PositionSum'. -/
def positionSumCard : Claim7 := { stood := { row := positionSumRow, standIns := [], harness := (true, "0ddeb2823007969981d9205cc96c8a9da96d5bafa772902b8cfa830341bee5ff"), looks := true }, kinds := [], alts := [], laidByText := true, laidKinds := [.data], laidTests := true, laidLooks := .later }
def PositionSumCardSaid : Prop := Claim7.holds Tryd.pinned (.plain (OpenSpec.ofChange positionSumSpec)) positionSumCard

/-- THE TIED CARD OF 'customslaw28.PositionRelief'. -/
def positionReliefCard : Claim7 := { stood := { row := positionReliefRow, standIns := [], harness := (true, "0ddeb2823007969981d9205cc96c8a9da96d5bafa772902b8cfa830341bee5ff"), looks := true }, kinds := [], alts := [], laidByText := true, laidKinds := [.data], laidTests := true, laidLooks := .later }
def PositionReliefCardSaid : Prop := Claim7.holds Tryd.pinned (.plain (OpenSpec.ofChange positionReliefSpec)) positionReliefCard

/-- THE TIED CARD OF 'customslaw28.PositionInterest'. -/
def positionInterestCard : Claim7 := { stood := { row := positionInterestRow, standIns := [], harness := (true, "0ddeb2823007969981d9205cc96c8a9da96d5bafa772902b8cfa830341bee5ff"), looks := true }, kinds := [], alts := [], laidByText := true, laidKinds := [.data], laidTests := true, laidLooks := .later }
def PositionInterestCardSaid : Prop := Claim7.holds Tryd.pinned (.plain (OpenSpec.ofChange positionInterestSpec)) positionInterestCard

/-- THE TIED CARD OF 'customslaw28.PositionActions'. -/
def positionActionsCard : Claim7 := { stood := { row := positionActionsRow, standIns := [], harness := (true, "0ddeb2823007969981d9205cc96c8a9da96d5bafa772902b8cfa830341bee5ff"), looks := true }, kinds := [], alts := [], laidByText := true, laidKinds := [.data, .data], laidTests := true, laidLooks := .later }
def PositionActionsCardSaid : Prop := Claim7.holds Tryd.pinned (.plain (OpenSpec.ofChange positionActionsSpec)) positionActionsCard

/-- THE SECOND FORM's CARD OF 'customslaw28.PositionOf'. -/
def positionOfUptoCard : Claim7 := { stood := { row := positionOfUptoRow, standIns := [], harness := (true, "0ddeb2823007969981d9205cc96c8a9da96d5bafa772902b8cfa830341bee5ff"), looks := true }, kinds := [], alts := [], laidByText := true, laidKinds := [.data], laidTests := true, laidLooks := .later }
def PositionOfUptoCardSaid : Prop := Claim7.holds Tryd.pinned (.plain (OpenSpec.upto positionOfSpec)) positionOfUptoCard

/-- THE SECOND FORM's CARD OF 'customslaw28.PositionSum'. -/
def positionSumUptoCard : Claim7 := { stood := { row := positionSumUptoRow, standIns := [], harness := (true, "0ddeb2823007969981d9205cc96c8a9da96d5bafa772902b8cfa830341bee5ff"), looks := true }, kinds := [], alts := [], laidByText := true, laidKinds := [.data], laidTests := true, laidLooks := .later }
def PositionSumUptoCardSaid : Prop := Claim7.holds Tryd.pinned (.plain (OpenSpec.upto positionSumSpec)) positionSumUptoCard

/-- THE SECOND FORM's CARD OF 'customslaw28.PositionRelief'. -/
def positionReliefUptoCard : Claim7 := { stood := { row := positionReliefUptoRow, standIns := [], harness := (true, "0ddeb2823007969981d9205cc96c8a9da96d5bafa772902b8cfa830341bee5ff"), looks := true }, kinds := [], alts := [], laidByText := true, laidKinds := [.data], laidTests := true, laidLooks := .later }
def PositionReliefUptoCardSaid : Prop := Claim7.holds Tryd.pinned (.plain (OpenSpec.upto positionReliefSpec)) positionReliefUptoCard

/-- THE SECOND FORM's CARD OF 'customslaw28.PositionInterest'. -/
def positionInterestUptoCard : Claim7 := { stood := { row := positionInterestUptoRow, standIns := [], harness := (true, "0ddeb2823007969981d9205cc96c8a9da96d5bafa772902b8cfa830341bee5ff"), looks := true }, kinds := [], alts := [], laidByText := true, laidKinds := [.data], laidTests := true, laidLooks := .later }
def PositionInterestUptoCardSaid : Prop := Claim7.holds Tryd.pinned (.plain (OpenSpec.upto positionInterestSpec)) positionInterestUptoCard

/-- THE SECOND FORM's CARD OF 'customslaw28.PositionActions'. -/
def positionActionsUptoCard : Claim7 := { stood := { row := positionActionsUptoRow, standIns := [], harness := (true, "0ddeb2823007969981d9205cc96c8a9da96d5bafa772902b8cfa830341bee5ff"), looks := true }, kinds := [], alts := [], laidByText := true, laidKinds := [.data, .data], laidTests := true, laidLooks := .later }
def PositionActionsUptoCardSaid : Prop := Claim7.holds Tryd.pinned (.plain (OpenSpec.upto positionActionsSpec)) positionActionsUptoCard
end Rows
end Go.Proofs.YtaidaibbeghhdaaDoor
