/-
  NARROWER THAN 'FOR EVERY INPUT', by the rows' own cells (each row's printed sentence says how): PositionOf: laid · PositionSum: laid · PositionRelief: laid · PositionInterest: laid · PositionActions: laid.
  DERIVED. THE GIVEN ROWS OF THIS SEAT. 5 by the template 'for every input the law returns true; each argument reads behind the call as it read before'; 0 by the template 'total and deterministic' (their statements: YtaidaibbeghhdaaDoorTotals.lean).
  GIVEN WITH THE SEED: the statements are not yours to turn. If you find one false, say at which input.
  Laid BY PROGRAM, IN A SANDBOX (cutbox-rows.mjs): the forced cells as the released guide's own fill.sh prints them over the translation d4114e94a5139ebe… (all of the seat's roots in one cut). By AI agents, Wed Nov 11 2026. No macro, syntax, notation, axiom, sorry.
-/
import Derived.Test.YtaidaibbeghhdaaDoorChecked
import GoSem.Claim
import GoSem.ClaimJoined
import GoSem.ClaimMapViews
import Derived.JoinedTies
import Derived.KernelRfl
namespace Go.Proofs.YtaidaibbeghhdaaDoor
/- THE CELL 'sum', in the pinned program and in every row, IS THE sha256 OF THE DUMP (.gsa) THAT YtaidaibbeghhdaaDoorProg.lean LOADS. Nothing in Lean hashes anything: it is a label: what it is worth is what the hold of that sum in a sandbox is worth. -/
noncomputable def Tryd.pinned : Pinned := { name := "ytaidaibbeghhdaadoor", sum := "d4114e94a5139ebec426fa418af6155e721793ef6077a7b7834a6ec73da096e0", checked := Tryd.checked }
namespace Rows
def none {H : Type} : Left H := { results := [], args := [] }

/- WHAT THE LISTED PACKAGE-LEVEL VARIABLES READ AS WHEN THE CALL BEGINS. Each datum BY PROGRAM (the guide's laid-datum.mjs) off the statement by which the dump's own 'gosem.cut.vars' lays the variable. In a bare row this is a premise. The card (YtaidaibbeghhdaaDoorCards.lean) ties it to the program's text. -/
def laid_customs_calendar_monthLengths {H : Type} : DataW H := .agg [.lit (.int .i64 31), .lit (.int .i64 28), .lit (.int .i64 31), .lit (.int .i64 30), .lit (.int .i64 31), .lit (.int .i64 30), .lit (.int .i64 31), .lit (.int .i64 31), .lit (.int .i64 30), .lit (.int .i64 31), .lit (.int .i64 30), .lit (.int .i64 31)]
def laid_customs_procedure_moves {H : Type} : DataW H := .agg [.agg [.lit (.int .i64 1), .lit (.int .i64 0), .lit (.int .i64 1)], .agg [.lit (.int .i64 2), .lit (.int .i64 1), .lit (.int .i64 2)], .agg [.lit (.int .i64 2), .lit (.int .i64 3), .lit (.int .i64 2)], .agg [.lit (.int .i64 2), .lit (.int .i64 4), .lit (.int .i64 2)], .agg [.lit (.int .i64 2), .lit (.int .i64 5), .lit (.int .i64 2)], .agg [.lit (.int .i64 3), .lit (.int .i64 2), .lit (.int .i64 1)], .agg [.lit (.int .i64 4), .lit (.int .i64 2), .lit (.int .i64 13)], .agg [.lit (.int .i64 5), .lit (.int .i64 1), .lit (.int .i64 3)], .agg [.lit (.int .i64 5), .lit (.int .i64 4), .lit (.int .i64 3)], .agg [.lit (.int .i64 5), .lit (.int .i64 5), .lit (.int .i64 3)], .agg [.lit (.int .i64 6), .lit (.int .i64 1), .lit (.int .i64 4)], .agg [.lit (.int .i64 6), .lit (.int .i64 3), .lit (.int .i64 4)], .agg [.lit (.int .i64 7), .lit (.int .i64 1), .lit (.int .i64 5)], .agg [.lit (.int .i64 7), .lit (.int .i64 3), .lit (.int .i64 5)], .agg [.lit (.int .i64 8), .lit (.int .i64 1), .lit (.int .i64 6)], .agg [.lit (.int .i64 8), .lit (.int .i64 3), .lit (.int .i64 6)], .agg [.lit (.int .i64 8), .lit (.int .i64 4), .lit (.int .i64 6)], .agg [.lit (.int .i64 8), .lit (.int .i64 5), .lit (.int .i64 6)], .agg [.lit (.int .i64 9), .lit (.int .i64 6), .lit (.int .i64 7)], .agg [.lit (.int .i64 10), .lit (.int .i64 7), .lit (.int .i64 6)], .agg [.lit (.int .i64 11), .lit (.int .i64 1), .lit (.int .i64 8)], .agg [.lit (.int .i64 11), .lit (.int .i64 3), .lit (.int .i64 8)], .agg [.lit (.int .i64 11), .lit (.int .i64 4), .lit (.int .i64 8)], .agg [.lit (.int .i64 11), .lit (.int .i64 5), .lit (.int .i64 8)], .agg [.lit (.int .i64 11), .lit (.int .i64 6), .lit (.int .i64 9)], .agg [.lit (.int .i64 12), .lit (.int .i64 1), .lit (.int .i64 10)], .agg [.lit (.int .i64 12), .lit (.int .i64 3), .lit (.int .i64 10)], .agg [.lit (.int .i64 12), .lit (.int .i64 4), .lit (.int .i64 10)], .agg [.lit (.int .i64 12), .lit (.int .i64 5), .lit (.int .i64 10)], .agg [.lit (.int .i64 13), .lit (.int .i64 1), .lit (.int .i64 11)], .agg [.lit (.int .i64 13), .lit (.int .i64 3), .lit (.int .i64 11)], .agg [.lit (.int .i64 14), .lit (.int .i64 1), .lit (.int .i64 12)], .agg [.lit (.int .i64 14), .lit (.int .i64 2), .lit (.int .i64 12)], .agg [.lit (.int .i64 14), .lit (.int .i64 3), .lit (.int .i64 12)], .agg [.lit (.int .i64 14), .lit (.int .i64 4), .lit (.int .i64 12)], .agg [.lit (.int .i64 14), .lit (.int .i64 5), .lit (.int .i64 12)]]

/-- 'customslaw28.PositionOf': WHATEVER THE INPUT: true; the input reads as it did. -/
def positionOfSpec : ChangeSpec := { name := "positionOf", fn := fun _ => fun
  | [d1, d2, d3, d4] => { results := [.lit (.bool true)], args := [d1, d2, d3, d4] }
  | _ => none }
def positionOfRow : OpenClaim := { program := "ytaidaibbeghhdaadoor", sum := "d4114e94a5139ebec426fa418af6155e721793ef6077a7b7834a6ec73da096e0", func := "customs/customslaw28.PositionOf", spec := "positionOf", named := ["customs/calendar.monthLengths", "math/bits.divideError", "math/bits.overflowError"], apart := false, laid := [("customs/calendar.monthLengths", laid_customs_calendar_monthLengths)] }
def PositionOfSaid : Prop := positionOfRow.holds Tryd.pinned (OpenSpec.ofChange positionOfSpec)

/-- ITS FALSE NEIGHBOUR: 'it returns false'. Refute it at one input. -/
def positionOfWrong : ChangeSpec := { name := "positionOf", fn := fun _ => fun
  | [d1, d2, d3, d4] => { results := [.lit (.bool false)], args := [d1, d2, d3, d4] }
  | _ => none }
def PositionOfWrongFalsely : Prop := positionOfRow.holds Tryd.pinned (OpenSpec.ofChange positionOfWrong)

/-- 'customslaw28.PositionSum': WHATEVER THE INPUT: true; the input reads as it did. -/
def positionSumSpec : ChangeSpec := { name := "positionSum", fn := fun _ => fun
  | [d1, d2, d3] => { results := [.lit (.bool true)], args := [d1, d2, d3] }
  | _ => none }
def positionSumRow : OpenClaim := { program := "ytaidaibbeghhdaadoor", sum := "d4114e94a5139ebec426fa418af6155e721793ef6077a7b7834a6ec73da096e0", func := "customs/customslaw28.PositionSum", spec := "positionSum", named := ["customs/calendar.monthLengths", "math/bits.divideError", "math/bits.overflowError"], apart := false, laid := [("customs/calendar.monthLengths", laid_customs_calendar_monthLengths)] }
def PositionSumSaid : Prop := positionSumRow.holds Tryd.pinned (OpenSpec.ofChange positionSumSpec)

/-- ITS FALSE NEIGHBOUR: 'it returns false'. Refute it at one input. -/
def positionSumWrong : ChangeSpec := { name := "positionSum", fn := fun _ => fun
  | [d1, d2, d3] => { results := [.lit (.bool false)], args := [d1, d2, d3] }
  | _ => none }
def PositionSumWrongFalsely : Prop := positionSumRow.holds Tryd.pinned (OpenSpec.ofChange positionSumWrong)

/-- 'customslaw28.PositionRelief': WHATEVER THE INPUT: true; the input reads as it did. -/
def positionReliefSpec : ChangeSpec := { name := "positionRelief", fn := fun _ => fun
  | [d1, d2, d3, d4] => { results := [.lit (.bool true)], args := [d1, d2, d3, d4] }
  | _ => none }
def positionReliefRow : OpenClaim := { program := "ytaidaibbeghhdaadoor", sum := "d4114e94a5139ebec426fa418af6155e721793ef6077a7b7834a6ec73da096e0", func := "customs/customslaw28.PositionRelief", spec := "positionRelief", named := ["customs/calendar.monthLengths", "math/bits.divideError", "math/bits.overflowError"], apart := false, laid := [("customs/calendar.monthLengths", laid_customs_calendar_monthLengths)] }
def PositionReliefSaid : Prop := positionReliefRow.holds Tryd.pinned (OpenSpec.ofChange positionReliefSpec)

/-- ITS FALSE NEIGHBOUR: 'it returns false'. Refute it at one input. -/
def positionReliefWrong : ChangeSpec := { name := "positionRelief", fn := fun _ => fun
  | [d1, d2, d3, d4] => { results := [.lit (.bool false)], args := [d1, d2, d3, d4] }
  | _ => none }
def PositionReliefWrongFalsely : Prop := positionReliefRow.holds Tryd.pinned (OpenSpec.ofChange positionReliefWrong)

/-- 'customslaw28.PositionInterest': WHATEVER THE INPUT: true; the input reads as it did. -/
def positionInterestSpec : ChangeSpec := { name := "positionInterest", fn := fun _ => fun
  | [d1, d2, d3, d4, d5, d6] => { results := [.lit (.bool true)], args := [d1, d2, d3, d4, d5, d6] }
  | _ => none }
def positionInterestRow : OpenClaim := { program := "ytaidaibbeghhdaadoor", sum := "d4114e94a5139ebec426fa418af6155e721793ef6077a7b7834a6ec73da096e0", func := "customs/customslaw28.PositionInterest", spec := "positionInterest", named := ["math/bits.divideError", "math/bits.overflowError", "customs/calendar.monthLengths"], apart := false, laid := [("customs/calendar.monthLengths", laid_customs_calendar_monthLengths)] }
def PositionInterestSaid : Prop := positionInterestRow.holds Tryd.pinned (OpenSpec.ofChange positionInterestSpec)

/-- ITS FALSE NEIGHBOUR: 'it returns false'. Refute it at one input. -/
def positionInterestWrong : ChangeSpec := { name := "positionInterest", fn := fun _ => fun
  | [d1, d2, d3, d4, d5, d6] => { results := [.lit (.bool false)], args := [d1, d2, d3, d4, d5, d6] }
  | _ => none }
def PositionInterestWrongFalsely : Prop := positionInterestRow.holds Tryd.pinned (OpenSpec.ofChange positionInterestWrong)

/-- 'customslaw28.PositionActions': WHATEVER THE INPUT: true; the input reads as it did. -/
def positionActionsSpec : ChangeSpec := { name := "positionActions", fn := fun _ => fun
  | [d1, d2, d3] => { results := [.lit (.bool true)], args := [d1, d2, d3] }
  | _ => none }
def positionActionsRow : OpenClaim := { program := "ytaidaibbeghhdaadoor", sum := "d4114e94a5139ebec426fa418af6155e721793ef6077a7b7834a6ec73da096e0", func := "customs/customslaw28.PositionActions", spec := "positionActions", named := ["customs/procedure.moves", "customs/calendar.monthLengths", "math/bits.divideError", "math/bits.overflowError"], apart := false, laid := [("customs/calendar.monthLengths", laid_customs_calendar_monthLengths), ("customs/procedure.moves", laid_customs_procedure_moves)] }
def PositionActionsSaid : Prop := positionActionsRow.holds Tryd.pinned (OpenSpec.ofChange positionActionsSpec)

/-- ITS FALSE NEIGHBOUR: 'it returns false'. Refute it at one input. -/
def positionActionsWrong : ChangeSpec := { name := "positionActions", fn := fun _ => fun
  | [d1, d2, d3] => { results := [.lit (.bool false)], args := [d1, d2, d3] }
  | _ => none }
def PositionActionsWrongFalsely : Prop := positionActionsRow.holds Tryd.pinned (OpenSpec.ofChange positionActionsWrong)

/- THE SECOND FORM. 'bulk': how many values and letters a reading holds, each counted each time it is reached (what is shared counts as often as it is met; a slice's spare places count too). A statement '..UptoSaid' is the law's where the arguments, and the package variables that the reading takes, are together of bulk at most 1048576: NARROWER than '..Said'. Prove '..Said' where nothing that the law and all that it calls make is longer than what came in: it says more and counts as full. Else prove '..UptoSaid'. A law counts once. -/
mutual
def uptoBulk {H : Type} : DataW H → Nat
  | .lit (.string bytes) => bytes.length + 1
  | .lit _ => 1
  | .nil => 1
  | .ptr d => uptoBulk d + 1
  | .slice elems spare => uptoBulkAll elems + uptoBulkAll spare + 1
  | .agg parts => uptoBulkAll parts + 1
  | .iface _ d => uptoBulk d + 1
  | .map entries => uptoBulkEntries entries + 1
  | .held _ => 1
def uptoBulkAll {H : Type} : List (DataW H) → Nat
  | [] => 0
  | d :: r => uptoBulk d + uptoBulkAll r
def uptoBulkEntries {H : Type} : List (Lit × DataW H) → Nat
  | [] => 0
  | x :: r => uptoBulkEntry x + uptoBulkEntries r
def uptoBulkEntry {H : Type} : Lit × DataW H → Nat
  | (.string bytes, d) => bytes.length + uptoBulk d + 1
  | (_, d) => uptoBulk d + 1
 end
def uptoSmall : (H : Type) → List (DataW H) → Bool := fun _ ds => decide (uptoBulkAll ds ≤ 1048576)
def OpenSpec.upto (s : _root_.Go.ChangeSpec) : _root_.Go.OpenSpec := { _root_.Go.OpenSpec.ofChange s with cond := some uptoSmall }

/-- 'customslaw28.PositionOf', WHERE WHAT IT READS IS OF BULK AT MOST 1048576: true; the input reads as it did. -/
def positionOfUptoRow : OpenClaim := { program := "ytaidaibbeghhdaadoor", sum := "d4114e94a5139ebec426fa418af6155e721793ef6077a7b7834a6ec73da096e0", func := "customs/customslaw28.PositionOf", spec := "positionOf", named := ["customs/calendar.monthLengths", "math/bits.divideError", "math/bits.overflowError"], apart := false, laid := [("customs/calendar.monthLengths", laid_customs_calendar_monthLengths)], narrowed := true }
def PositionOfUptoSaid : Prop := positionOfUptoRow.holds Tryd.pinned (OpenSpec.upto positionOfSpec)

/-- 'customslaw28.PositionSum', WHERE WHAT IT READS IS OF BULK AT MOST 1048576: true; the input reads as it did. -/
def positionSumUptoRow : OpenClaim := { program := "ytaidaibbeghhdaadoor", sum := "d4114e94a5139ebec426fa418af6155e721793ef6077a7b7834a6ec73da096e0", func := "customs/customslaw28.PositionSum", spec := "positionSum", named := ["customs/calendar.monthLengths", "math/bits.divideError", "math/bits.overflowError"], apart := false, laid := [("customs/calendar.monthLengths", laid_customs_calendar_monthLengths)], narrowed := true }
def PositionSumUptoSaid : Prop := positionSumUptoRow.holds Tryd.pinned (OpenSpec.upto positionSumSpec)

/-- 'customslaw28.PositionRelief', WHERE WHAT IT READS IS OF BULK AT MOST 1048576: true; the input reads as it did. -/
def positionReliefUptoRow : OpenClaim := { program := "ytaidaibbeghhdaadoor", sum := "d4114e94a5139ebec426fa418af6155e721793ef6077a7b7834a6ec73da096e0", func := "customs/customslaw28.PositionRelief", spec := "positionRelief", named := ["customs/calendar.monthLengths", "math/bits.divideError", "math/bits.overflowError"], apart := false, laid := [("customs/calendar.monthLengths", laid_customs_calendar_monthLengths)], narrowed := true }
def PositionReliefUptoSaid : Prop := positionReliefUptoRow.holds Tryd.pinned (OpenSpec.upto positionReliefSpec)

/-- 'customslaw28.PositionInterest', WHERE WHAT IT READS IS OF BULK AT MOST 1048576: true; the input reads as it did. -/
def positionInterestUptoRow : OpenClaim := { program := "ytaidaibbeghhdaadoor", sum := "d4114e94a5139ebec426fa418af6155e721793ef6077a7b7834a6ec73da096e0", func := "customs/customslaw28.PositionInterest", spec := "positionInterest", named := ["math/bits.divideError", "math/bits.overflowError", "customs/calendar.monthLengths"], apart := false, laid := [("customs/calendar.monthLengths", laid_customs_calendar_monthLengths)], narrowed := true }
def PositionInterestUptoSaid : Prop := positionInterestUptoRow.holds Tryd.pinned (OpenSpec.upto positionInterestSpec)

/-- 'customslaw28.PositionActions', WHERE WHAT IT READS IS OF BULK AT MOST 1048576: true; the input reads as it did. -/
def positionActionsUptoRow : OpenClaim := { program := "ytaidaibbeghhdaadoor", sum := "d4114e94a5139ebec426fa418af6155e721793ef6077a7b7834a6ec73da096e0", func := "customs/customslaw28.PositionActions", spec := "positionActions", named := ["customs/procedure.moves", "customs/calendar.monthLengths", "math/bits.divideError", "math/bits.overflowError"], apart := false, laid := [("customs/calendar.monthLengths", laid_customs_calendar_monthLengths), ("customs/procedure.moves", laid_customs_procedure_moves)], narrowed := true }
def PositionActionsUptoSaid : Prop := positionActionsUptoRow.holds Tryd.pinned (OpenSpec.upto positionActionsSpec)

end Rows
end Go.Proofs.YtaidaibbeghhdaaDoor
