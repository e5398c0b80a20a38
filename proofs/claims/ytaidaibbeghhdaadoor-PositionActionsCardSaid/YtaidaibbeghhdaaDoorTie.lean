/-
  DERIVED. GIVEN WITH THE SEED: THE PROGRAM's TIES (one call each: nine closed facts by the kernel) AND EACH ROW's TIE, after the 31st guide's Derived/Test/Toyas{Tie, Card}.lean. No idea stands in it: it is a product of the set-up. Laid BY PROGRAM, IN A SANDBOX (cutbox-door.mjs). By AI agents, Wed Nov 11 2026. No macro, syntax, notation, axiom, sorry.
-/
import Derived.Test.YtaidaibbeghhdaaDoorRows
import Derived.LaidByTextLater
import Derived.SevenTiedAt
import Derived.LaidSub
import Derived.LaidOnce
namespace Go.Proofs.YtaidaibbeghhdaaDoor
open Go
set_option maxRecDepth 100000
theorem seatTie1 : Tryd.prog.laidByTextLater [("customs/calendar.monthLengths", Rows.laid_customs_calendar_monthLengths), ("customs/procedure.moves", Rows.laid_customs_procedure_moves)] [.data, .data] true :=
  Program.laidByTextLater_by_one 55 8 109 (by kernel_rfl) (by kernel_rfl) (by kernel_rfl) (by kernel_rfl) (by kernel_rfl) (by kernel_rfl) (fun _ _ => by kernel_rfl)
theorem noOwnUnsafe : Tryd.pinned.checked.prog.headLifts.contains "ownunsafe" = false := by kernel_rfl
theorem tie : Tryd.prog.laidByTextLater [("customs/calendar.monthLengths", Rows.laid_customs_calendar_monthLengths)] [.data] true :=
  Program.laidByTextLater.sub seatTie1 ["customs/calendar.monthLengths"] (by kernel_rfl) (by kernel_rfl)
theorem positionOf_row_tie : Rows.positionOfRow.laidByTextAt .later Tryd.pinned [.data] true :=
  OpenClaim.laidByTextAt_later rfl rfl tie noOwnUnsafe
theorem positionSum_row_tie : Rows.positionSumRow.laidByTextAt .later Tryd.pinned [.data] true :=
  OpenClaim.laidByTextAt_later rfl rfl tie noOwnUnsafe
theorem positionRelief_row_tie : Rows.positionReliefRow.laidByTextAt .later Tryd.pinned [.data] true :=
  OpenClaim.laidByTextAt_later rfl rfl tie noOwnUnsafe
theorem positionInterest_row_tie : Rows.positionInterestRow.laidByTextAt .later Tryd.pinned [.data] true :=
  OpenClaim.laidByTextAt_later rfl rfl tie noOwnUnsafe
theorem tie2 : Tryd.prog.laidByTextLater [("customs/calendar.monthLengths", Rows.laid_customs_calendar_monthLengths), ("customs/procedure.moves", Rows.laid_customs_procedure_moves)] [.data, .data] true :=
  Program.laidByTextLater.sub seatTie1 ["customs/calendar.monthLengths", "customs/procedure.moves"] (by kernel_rfl) (by kernel_rfl)
theorem positionActions_row_tie : Rows.positionActionsRow.laidByTextAt .later Tryd.pinned [.data, .data] true :=
  OpenClaim.laidByTextAt_later rfl rfl tie2 noOwnUnsafe
theorem positionOfUpto_row_tie : Rows.positionOfUptoRow.laidByTextAt .later Tryd.pinned [.data] true :=
  OpenClaim.laidByTextAt_later rfl rfl tie noOwnUnsafe
theorem positionSumUpto_row_tie : Rows.positionSumUptoRow.laidByTextAt .later Tryd.pinned [.data] true :=
  OpenClaim.laidByTextAt_later rfl rfl tie noOwnUnsafe
theorem positionReliefUpto_row_tie : Rows.positionReliefUptoRow.laidByTextAt .later Tryd.pinned [.data] true :=
  OpenClaim.laidByTextAt_later rfl rfl tie noOwnUnsafe
theorem positionInterestUpto_row_tie : Rows.positionInterestUptoRow.laidByTextAt .later Tryd.pinned [.data] true :=
  OpenClaim.laidByTextAt_later rfl rfl tie noOwnUnsafe
theorem positionActionsUpto_row_tie : Rows.positionActionsUptoRow.laidByTextAt .later Tryd.pinned [.data, .data] true :=
  OpenClaim.laidByTextAt_later rfl rfl tie2 noOwnUnsafe
end Go.Proofs.YtaidaibbeghhdaaDoor
