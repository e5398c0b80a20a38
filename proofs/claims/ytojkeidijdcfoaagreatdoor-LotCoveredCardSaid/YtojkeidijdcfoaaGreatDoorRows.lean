/-
  NARROWER THAN 'FOR EVERY INPUT', by the rows' own cells (each row's printed sentence says how): LotPresent: laid · LotReturn: laid · LotCovered: laid.
  DERIVED. THE GIVEN ROWS OF THIS SEAT. 3 by the template 'for every input the law returns true; each argument reads behind the call as it read before'; 0 by the template 'total and deterministic' (their statements: YtojkeidijdcfoaaGreatDoorTotals.lean).
  GIVEN WITH THE SEED: the statements are not yours to turn. If you find one false, say at which input.
  Laid BY PROGRAM, IN A SANDBOX (cutbox-rows.mjs): the forced cells as the released guide's own fill.sh prints them over the translation 71ee2d075043704c… (all of the seat's roots in one cut). By AI agents, Wed Nov 11 2026. No macro, syntax, notation, axiom, sorry.
-/
import Derived.Test.YtojkeidijdcfoaaGreatDoorChecked
import GoSem.Claim
import GoSem.ClaimJoined
import GoSem.ClaimMapViews
import Derived.JoinedTies
import Derived.KernelRfl
namespace Go.Proofs.YtojkeidijdcfoaaGreatDoor
/- THE CELL 'sum', in the pinned program and in every row, IS THE sha256 OF THE DUMP (.gsa) THAT YtojkeidijdcfoaaGreatDoorProg.lean LOADS. Nothing in Lean hashes anything: it is a label: what it is worth is what the hold of that sum in a sandbox is worth. -/
noncomputable def Tryz.pinned : Pinned := { name := "ytojkeidijdcfoaagreatdoor", sum := "71ee2d075043704c02f4c95d58fdd248a22ced53a558de3f0a1653091d61af20", checked := Tryz.checked }
namespace Rows
def none {H : Type} : Left H := { results := [], args := [] }

/- WHAT THE LISTED PACKAGE-LEVEL VARIABLES READ AS WHEN THE CALL BEGINS. Each datum BY PROGRAM (the guide's laid-datum.mjs) off the statement by which the dump's own 'gosem.cut.vars' lays the variable. In a bare row this is a premise. The card (YtojkeidijdcfoaaGreatDoorCards.lean) ties it to the program's text. -/
def laid_customs_procedure_moves {H : Type} : DataW H := .agg [.agg [.lit (.int .i64 1), .lit (.int .i64 0), .lit (.int .i64 1)], .agg [.lit (.int .i64 2), .lit (.int .i64 1), .lit (.int .i64 2)], .agg [.lit (.int .i64 2), .lit (.int .i64 3), .lit (.int .i64 2)], .agg [.lit (.int .i64 2), .lit (.int .i64 4), .lit (.int .i64 2)], .agg [.lit (.int .i64 2), .lit (.int .i64 5), .lit (.int .i64 2)], .agg [.lit (.int .i64 3), .lit (.int .i64 2), .lit (.int .i64 1)], .agg [.lit (.int .i64 4), .lit (.int .i64 2), .lit (.int .i64 13)], .agg [.lit (.int .i64 5), .lit (.int .i64 1), .lit (.int .i64 3)], .agg [.lit (.int .i64 5), .lit (.int .i64 4), .lit (.int .i64 3)], .agg [.lit (.int .i64 5), .lit (.int .i64 5), .lit (.int .i64 3)], .agg [.lit (.int .i64 6), .lit (.int .i64 1), .lit (.int .i64 4)], .agg [.lit (.int .i64 6), .lit (.int .i64 3), .lit (.int .i64 4)], .agg [.lit (.int .i64 7), .lit (.int .i64 1), .lit (.int .i64 5)], .agg [.lit (.int .i64 7), .lit (.int .i64 3), .lit (.int .i64 5)], .agg [.lit (.int .i64 8), .lit (.int .i64 1), .lit (.int .i64 6)], .agg [.lit (.int .i64 8), .lit (.int .i64 3), .lit (.int .i64 6)], .agg [.lit (.int .i64 8), .lit (.int .i64 4), .lit (.int .i64 6)], .agg [.lit (.int .i64 8), .lit (.int .i64 5), .lit (.int .i64 6)], .agg [.lit (.int .i64 9), .lit (.int .i64 6), .lit (.int .i64 7)], .agg [.lit (.int .i64 10), .lit (.int .i64 7), .lit (.int .i64 6)], .agg [.lit (.int .i64 11), .lit (.int .i64 1), .lit (.int .i64 8)], .agg [.lit (.int .i64 11), .lit (.int .i64 3), .lit (.int .i64 8)], .agg [.lit (.int .i64 11), .lit (.int .i64 4), .lit (.int .i64 8)], .agg [.lit (.int .i64 11), .lit (.int .i64 5), .lit (.int .i64 8)], .agg [.lit (.int .i64 11), .lit (.int .i64 6), .lit (.int .i64 9)], .agg [.lit (.int .i64 12), .lit (.int .i64 1), .lit (.int .i64 10)], .agg [.lit (.int .i64 12), .lit (.int .i64 3), .lit (.int .i64 10)], .agg [.lit (.int .i64 12), .lit (.int .i64 4), .lit (.int .i64 10)], .agg [.lit (.int .i64 12), .lit (.int .i64 5), .lit (.int .i64 10)], .agg [.lit (.int .i64 13), .lit (.int .i64 1), .lit (.int .i64 11)], .agg [.lit (.int .i64 13), .lit (.int .i64 3), .lit (.int .i64 11)], .agg [.lit (.int .i64 14), .lit (.int .i64 1), .lit (.int .i64 12)], .agg [.lit (.int .i64 14), .lit (.int .i64 2), .lit (.int .i64 12)], .agg [.lit (.int .i64 14), .lit (.int .i64 3), .lit (.int .i64 12)], .agg [.lit (.int .i64 14), .lit (.int .i64 4), .lit (.int .i64 12)], .agg [.lit (.int .i64 14), .lit (.int .i64 5), .lit (.int .i64 12)]]

/-- 'customslaw25.LotPresent': WHATEVER THE INPUT: true; the input reads as it did. -/
def lotPresentSpec : ChangeSpec := { name := "lotPresent", fn := fun _ => fun
  | [d1, d2, d3, d4, d5, d6, d7] => { results := [.lit (.bool true)], args := [d1, d2, d3, d4, d5, d6, d7] }
  | _ => none }
def lotPresentRow : OpenClaim := { program := "ytojkeidijdcfoaagreatdoor", sum := "71ee2d075043704c02f4c95d58fdd248a22ced53a558de3f0a1653091d61af20", func := "customs/customslaw25.LotPresent", spec := "lotPresent", unfollowed := true, recurses := true, named := ["math/bits.divideError", "math/bits.overflowError", "customs/procedure.moves"], apart := false, laid := [("customs/procedure.moves", laid_customs_procedure_moves)] }
def LotPresentSaid : Prop := lotPresentRow.holds Tryz.pinned (OpenSpec.ofChange lotPresentSpec)

/-- ITS FALSE NEIGHBOUR: 'it returns false'. Refute it at one input. -/
def lotPresentWrong : ChangeSpec := { name := "lotPresent", fn := fun _ => fun
  | [d1, d2, d3, d4, d5, d6, d7] => { results := [.lit (.bool false)], args := [d1, d2, d3, d4, d5, d6, d7] }
  | _ => none }
def LotPresentWrongFalsely : Prop := lotPresentRow.holds Tryz.pinned (OpenSpec.ofChange lotPresentWrong)

/-- 'customslaw25.LotReturn': WHATEVER THE INPUT: true; the input reads as it did. -/
def lotReturnSpec : ChangeSpec := { name := "lotReturn", fn := fun _ => fun
  | [d1, d2] => { results := [.lit (.bool true)], args := [d1, d2] }
  | _ => none }
def lotReturnRow : OpenClaim := { program := "ytojkeidijdcfoaagreatdoor", sum := "71ee2d075043704c02f4c95d58fdd248a22ced53a558de3f0a1653091d61af20", func := "customs/customslaw25.LotReturn", spec := "lotReturn", unfollowed := true, recurses := true, named := ["math/bits.divideError", "math/bits.overflowError", "customs/procedure.moves"], apart := false, laid := [("customs/procedure.moves", laid_customs_procedure_moves)] }
def LotReturnSaid : Prop := lotReturnRow.holds Tryz.pinned (OpenSpec.ofChange lotReturnSpec)

/-- ITS FALSE NEIGHBOUR: 'it returns false'. Refute it at one input. -/
def lotReturnWrong : ChangeSpec := { name := "lotReturn", fn := fun _ => fun
  | [d1, d2] => { results := [.lit (.bool false)], args := [d1, d2] }
  | _ => none }
def LotReturnWrongFalsely : Prop := lotReturnRow.holds Tryz.pinned (OpenSpec.ofChange lotReturnWrong)

/-- 'customslaw25.LotCovered': WHATEVER THE INPUT: true; the input reads as it did. -/
def lotCoveredSpec : ChangeSpec := { name := "lotCovered", fn := fun _ => fun
  | [d1, d2] => { results := [.lit (.bool true)], args := [d1, d2] }
  | _ => none }
def lotCoveredRow : OpenClaim := { program := "ytojkeidijdcfoaagreatdoor", sum := "71ee2d075043704c02f4c95d58fdd248a22ced53a558de3f0a1653091d61af20", func := "customs/customslaw25.LotCovered", spec := "lotCovered", unfollowed := true, recurses := true, named := ["math/bits.divideError", "math/bits.overflowError", "customs/procedure.moves"], apart := false, laid := [("customs/procedure.moves", laid_customs_procedure_moves)] }
def LotCoveredSaid : Prop := lotCoveredRow.holds Tryz.pinned (OpenSpec.ofChange lotCoveredSpec)

/-- ITS FALSE NEIGHBOUR: 'it returns false'. Refute it at one input. -/
def lotCoveredWrong : ChangeSpec := { name := "lotCovered", fn := fun _ => fun
  | [d1, d2] => { results := [.lit (.bool false)], args := [d1, d2] }
  | _ => none }
def LotCoveredWrongFalsely : Prop := lotCoveredRow.holds Tryz.pinned (OpenSpec.ofChange lotCoveredWrong)

/- THE SECOND FORM. 'bulk': how many values and letters a reading holds, each counted each time it is reached (what is shared counts as often as it is met; a slice's spare places count too). A statement '..UptoSaid' is the law's where the arguments, and the package variables that the reading takes, are together of bulk at most 1048576: NARROWER than '..Said'. Prove '..Said' where nothing that the law and all that it calls make is longer than what came in: it says more and counts as full. Else prove '..UptoSaid'. A law counts once. -/
mutual
def uptoBulk {H : Type} : DataW H → Nat
  | .lit (.string bytes) => bytes.length + 1
  | .lit _ => 1
  | .nil => 1
  | .ptr d => uptoBulk d + 1
  | .slice elems spare => uptoBulkAll elems + uptoBulkAll spare + 1
  | .agg parts => uptoBulkAll parts + 1
  | .iface _ d => uptoBulk d + 1
  | .map entries => uptoBulkEntries entries + 1
  | .held _ => 1
def uptoBulkAll {H : Type} : List (DataW H) → Nat
  | [] => 0
  | d :: r => uptoBulk d + uptoBulkAll r
def uptoBulkEntries {H : Type} : List (Lit × DataW H) → Nat
  | [] => 0
  | x :: r => uptoBulkEntry x + uptoBulkEntries r
def uptoBulkEntry {H : Type} : Lit × DataW H → Nat
  | (.string bytes, d) => bytes.length + uptoBulk d + 1
  | (_, d) => uptoBulk d + 1
 end
def uptoSmall : (H : Type) → List (DataW H) → Bool := fun _ ds => decide (uptoBulkAll ds ≤ 1048576)
def OpenSpec.upto (s : _root_.Go.ChangeSpec) : _root_.Go.OpenSpec := { _root_.Go.OpenSpec.ofChange s with cond := some uptoSmall }

/-- 'customslaw25.LotPresent', WHERE WHAT IT READS IS OF BULK AT MOST 1048576: true; the input reads as it did. -/
def lotPresentUptoRow : OpenClaim := { program := "ytojkeidijdcfoaagreatdoor", sum := "71ee2d075043704c02f4c95d58fdd248a22ced53a558de3f0a1653091d61af20", func := "customs/customslaw25.LotPresent", spec := "lotPresent", unfollowed := true, recurses := true, named := ["math/bits.divideError", "math/bits.overflowError", "customs/procedure.moves"], apart := false, laid := [("customs/procedure.moves", laid_customs_procedure_moves)], narrowed := true }
def LotPresentUptoSaid : Prop := lotPresentUptoRow.holds Tryz.pinned (OpenSpec.upto lotPresentSpec)

/-- 'customslaw25.LotReturn', WHERE WHAT IT READS IS OF BULK AT MOST 1048576: true; the input reads as it did. -/
def lotReturnUptoRow : OpenClaim := { program := "ytojkeidijdcfoaagreatdoor", sum := "71ee2d075043704c02f4c95d58fdd248a22ced53a558de3f0a1653091d61af20", func := "customs/customslaw25.LotReturn", spec := "lotReturn", unfollowed := true, recurses := true, named := ["math/bits.divideError", "math/bits.overflowError", "customs/procedure.moves"], apart := false, laid := [("customs/procedure.moves", laid_customs_procedure_moves)], narrowed := true }
def LotReturnUptoSaid : Prop := lotReturnUptoRow.holds Tryz.pinned (OpenSpec.upto lotReturnSpec)

/-- 'customslaw25.LotCovered', WHERE WHAT IT READS IS OF BULK AT MOST 1048576: true; the input reads as it did. -/
def lotCoveredUptoRow : OpenClaim := { program := "ytojkeidijdcfoaagreatdoor", sum := "71ee2d075043704c02f4c95d58fdd248a22ced53a558de3f0a1653091d61af20", func := "customs/customslaw25.LotCovered", spec := "lotCovered", unfollowed := true, recurses := true, named := ["math/bits.divideError", "math/bits.overflowError", "customs/procedure.moves"], apart := false, laid := [("customs/procedure.moves", laid_customs_procedure_moves)], narrowed := true }
def LotCoveredUptoSaid : Prop := lotCoveredUptoRow.holds Tryz.pinned (OpenSpec.upto lotCoveredSpec)

end Rows
end Go.Proofs.YtojkeidijdcfoaaGreatDoor
