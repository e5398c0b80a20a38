/-
  DERIVED. GIVEN WITH THE SEED: THE CARDS: each row of YtacpjihbbmoolaaGreatDoorRows.lean that lists a variable, with what it lists TIED to the program's text (the seventh form; the later family's looks); each row that meets fmt, with fmt's text TOLD by the authors' own Lean function (tested against real Go, not proved from fmt's source: count such statements apart). THE CARD IS WHAT COUNTS. Prove the row's statement (the work); the ties are given (YtacpjihbbmoolaaGreatDoorTie.lean); close each card by the builder's one call (the guide's Derived/Test/ToyasCard.lean, 'card_holds'). Laid BY PROGRAM, IN A SANDBOX (cutbox-door.mjs). By AI agents, Wed Nov 11 2026. No macro, syntax, notation, axiom, sorry.
-/
import Derived.Test.YtacpjihbbmoolaaGreatDoorRows
import GoSem.ClaimSeven
namespace Go.Proofs.YtacpjihbbmoolaaGreatDoor
namespace Rows

/-- THE TIED CARD OF 'customslaw26.YieldCovered'. -/
def yieldCoveredCard : Claim7 := { stood := { row := yieldCoveredRow, standIns := [], harness := (true, "9858d7eb529c9f9af45376e6e58ade0d381b114035944852150b1f6f8f04d60f"), looks := false }, kinds := [], alts := [], laidByText := true, laidKinds := [.data], laidTests := true, laidLooks := .later }
def YieldCoveredCardSaid : Prop := Claim7.holds Tryz.pinned (.plain (OpenSpec.ofChange yieldCoveredSpec)) yieldCoveredCard

/-- THE TIED CARD OF 'customslaw27.LatentProcess'. -/
def latentProcessCard : Claim7 := { stood := { row := latentProcessRow, standIns := [], harness := (true, "9858d7eb529c9f9af45376e6e58ade0d381b114035944852150b1f6f8f04d60f"), looks := false }, kinds := [], alts := [], laidByText := true, laidKinds := [.data], laidTests := true, laidLooks := .later }
def LatentProcessCardSaid : Prop := Claim7.holds Tryz.pinned (.plain (OpenSpec.ofChange latentProcessSpec)) latentProcessCard

/-- THE SECOND FORM's CARD OF 'customslaw26.YieldCovered'. -/
def yieldCoveredUptoCard : Claim7 := { stood := { row := yieldCoveredUptoRow, standIns := [], harness := (true, "9858d7eb529c9f9af45376e6e58ade0d381b114035944852150b1f6f8f04d60f"), looks := false }, kinds := [], alts := [], laidByText := true, laidKinds := [.data], laidTests := true, laidLooks := .later }
def YieldCoveredUptoCardSaid : Prop := Claim7.holds Tryz.pinned (.plain (OpenSpec.upto yieldCoveredSpec)) yieldCoveredUptoCard

/-- THE SECOND FORM's CARD OF 'customslaw27.LatentProcess'. -/
def latentProcessUptoCard : Claim7 := { stood := { row := latentProcessUptoRow, standIns := [], harness := (true, "9858d7eb529c9f9af45376e6e58ade0d381b114035944852150b1f6f8f04d60f"), looks := false }, kinds := [], alts := [], laidByText := true, laidKinds := [.data], laidTests := true, laidLooks := .later }
def LatentProcessUptoCardSaid : Prop := Claim7.holds Tryz.pinned (.plain (OpenSpec.upto latentProcessSpec)) latentProcessUptoCard
end Rows
end Go.Proofs.YtacpjihbbmoolaaGreatDoor
