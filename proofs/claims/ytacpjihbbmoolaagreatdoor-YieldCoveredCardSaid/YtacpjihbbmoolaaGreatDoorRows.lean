/-
  NARROWER THAN 'FOR EVERY INPUT', by the rows' own cells (each row's printed sentence says how): YieldCovered: laid · LatentProcess: laid.
  DERIVED. THE GIVEN ROWS OF THIS SEAT. 2 by the template 'for every input the law returns true; each argument reads behind the call as it read before'; 0 by the template 'total and deterministic' (their statements: YtacpjihbbmoolaaGreatDoorTotals.lean).
  GIVEN WITH THE SEED: the statements are not yours to turn. If you find one false, say at which input.
  Laid BY PROGRAM, IN A SANDBOX (cutbox-rows.mjs): the forced cells as the released guide's own fill.sh prints them over the translation 5530858130b957b0… (all of the seat's roots in one cut). By AI agents, Wed Nov 11 2026. No macro, syntax, notation, axiom, sorry.
-/
import Derived.Test.YtacpjihbbmoolaaGreatDoorChecked
import GoSem.Claim
import GoSem.ClaimJoined
import GoSem.ClaimMapViews
import Derived.JoinedTies
import Derived.KernelRfl
namespace Go.Proofs.YtacpjihbbmoolaaGreatDoor
/- THE CELL 'sum', in the pinned program and in every row, IS THE sha256 OF THE DUMP (.gsa) THAT YtacpjihbbmoolaaGreatDoorProg.lean LOADS. Nothing in Lean hashes anything: it is a label: what it is worth is what the hold of that sum in a sandbox is worth. -/
noncomputable def Tryz.pinned : Pinned := { name := "ytacpjihbbmoolaagreatdoor", sum := "5530858130b957b0dbf2793d06a3fa36abe634cca0caf37da48ef7982b489677", checked := Tryz.checked }
namespace Rows
def none {H : Type} : Left H := { results := [], args := [] }

/- WHAT THE LISTED PACKAGE-LEVEL VARIABLES READ AS WHEN THE CALL BEGINS. Each datum BY PROGRAM (the guide's laid-datum.mjs) off the statement by which the dump's own 'gosem.cut.vars' lays the variable. In a bare row this is a premise. The card (YtacpjihbbmoolaaGreatDoorCards.lean) ties it to the program's text. -/
def laid_customs_procedure_moves {H : Type} : DataW H := .agg [.agg [.lit (.int .i64 1), .lit (.int .i64 0), .lit (.int .i64 1)], .agg [.lit (.int .i64 2), .lit (.int .i64 1), .lit (.int .i64 2)], .agg [.lit (.int .i64 2), .lit (.int .i64 3), .lit (.int .i64 2)], .agg [.lit (.int .i64 2), .lit (.int .i64 4), .lit (.int .i64 2)], .agg [.lit (.int .i64 2), .lit (.int .i64 5), .lit (.int .i64 2)], .agg [.lit (.int .i64 3), .lit (.int .i64 2), .lit (.int .i64 1)], .agg [.lit (.int .i64 4), .lit (.int .i64 2), .lit (.int .i64 13)], .agg [.lit (.int .i64 5), .lit (.int .i64 1), .lit (.int .i64 3)], .agg [.lit (.int .i64 5), .lit (.int .i64 4), .lit (.int .i64 3)], .agg [.lit (.int .i64 5), .lit (.int .i64 5), .lit (.int .i64 3)], .agg [.lit (.int .i64 6), .lit (.int .i64 1), .lit (.int .i64 4)], .agg [.lit (.int .i64 6), .lit (.int .i64 3), .lit (.int .i64 4)], .agg [.lit (.int .i64 7), .lit (.int .i64 1), .lit (.int .i64 5)], .agg [.lit (.int .i64 7), .lit (.int .i64 3), .lit (.int .i64 5)], .agg [.lit (.int .i64 8), .lit (.int .i64 1), .lit (.int .i64 6)], .agg [.lit (.int .i64 8), .lit (.int .i64 3), .lit (.int .i64 6)], .agg [.lit (.int .i64 8), .lit (.int .i64 4), .lit (.int .i64 6)], .agg [.lit (.int .i64 8), .lit (.int .i64 5), .lit (.int .i64 6)], .agg [.lit (.int .i64 9), .lit (.int .i64 6), .lit (.int .i64 7)], .agg [.lit (.int .i64 10), .lit (.int .i64 7), .lit (.int .i64 6)], .agg [.lit (.int .i64 11), .lit (.int .i64 1), .lit (.int .i64 8)], .agg [.lit (.int .i64 11), .lit (.int .i64 3), .lit (.int .i64 8)], .agg [.lit (.int .i64 11), .lit (.int .i64 4), .lit (.int .i64 8)], .agg [.lit (.int .i64 11), .lit (.int .i64 5), .lit (.int .i64 8)], .agg [.lit (.int .i64 11), .lit (.int .i64 6), .lit (.int .i64 9)], .agg [.lit (.int .i64 12), .lit (.int .i64 1), .lit (.int .i64 10)], .agg [.lit (.int .i64 12), .lit (.int .i64 3), .lit (.int .i64 10)], .agg [.lit (.int .i64 12), .lit (.int .i64 4), .lit (.int .i64 10)], .agg [.lit (.int .i64 12), .lit (.int .i64 5), .lit (.int .i64 10)], .agg [.lit (.int .i64 13), .lit (.int .i64 1), .lit (.int .i64 11)], .agg [.lit (.int .i64 13), .lit (.int .i64 3), .lit (.int .i64 11)], .agg [.lit (.int .i64 14), .lit (.int .i64 1), .lit (.int .i64 12)], .agg [.lit (.int .i64 14), .lit (.int .i64 2), .lit (.int .i64 12)], .agg [.lit (.int .i64 14), .lit (.int .i64 3), .lit (.int .i64 12)], .agg [.lit (.int .i64 14), .lit (.int .i64 4), .lit (.int .i64 12)], .agg [.lit (.int .i64 14), .lit (.int .i64 5), .lit (.int .i64 12)]]

/-- 'customslaw26.YieldCovered': WHATEVER THE INPUT: true; the input reads as it did. -/
def yieldCoveredSpec : ChangeSpec := { name := "yieldCovered", fn := fun _ => fun
  | [d1, d2, d3, d4, d5] => { results := [.lit (.bool true)], args := [d1, d2, d3, d4, d5] }
  | _ => none }
def yieldCoveredRow : OpenClaim := { program := "ytacpjihbbmoolaagreatdoor", sum := "5530858130b957b0dbf2793d06a3fa36abe634cca0caf37da48ef7982b489677", func := "customs/customslaw26.YieldCovered", spec := "yieldCovered", unfollowed := true, recurses := true, named := ["customs/procedure.moves", "math/bits.divideError", "math/bits.overflowError"], apart := false, laid := [("customs/procedure.moves", laid_customs_procedure_moves)] }
def YieldCoveredSaid : Prop := yieldCoveredRow.holds Tryz.pinned (OpenSpec.ofChange yieldCoveredSpec)

/-- ITS FALSE NEIGHBOUR: 'it returns false'. Refute it at one input. -/
def yieldCoveredWrong : ChangeSpec := { name := "yieldCovered", fn := fun _ => fun
  | [d1, d2, d3, d4, d5] => { results := [.lit (.bool false)], args := [d1, d2, d3, d4, d5] }
  | _ => none }
def YieldCoveredWrongFalsely : Prop := yieldCoveredRow.holds Tryz.pinned (OpenSpec.ofChange yieldCoveredWrong)

/-- 'customslaw27.LatentProcess': WHATEVER THE INPUT: true; the input reads as it did. -/
def latentProcessSpec : ChangeSpec := { name := "latentProcess", fn := fun _ => fun
  | [d1, d2, d3, d4, d5, d6] => { results := [.lit (.bool true)], args := [d1, d2, d3, d4, d5, d6] }
  | _ => none }
def latentProcessRow : OpenClaim := { program := "ytacpjihbbmoolaagreatdoor", sum := "5530858130b957b0dbf2793d06a3fa36abe634cca0caf37da48ef7982b489677", func := "customs/customslaw27.LatentProcess", spec := "latentProcess", unfollowed := true, recurses := true, named := ["customs/procedure.moves", "math/bits.divideError", "math/bits.overflowError"], apart := false, laid := [("customs/procedure.moves", laid_customs_procedure_moves)] }
def LatentProcessSaid : Prop := latentProcessRow.holds Tryz.pinned (OpenSpec.ofChange latentProcessSpec)

/-- ITS FALSE NEIGHBOUR: 'it returns false'. Refute it at one input. -/
def latentProcessWrong : ChangeSpec := { name := "latentProcess", fn := fun _ => fun
  | [d1, d2, d3, d4, d5, d6] => { results := [.lit (.bool false)], args := [d1, d2, d3, d4, d5, d6] }
  | _ => none }
def LatentProcessWrongFalsely : Prop := latentProcessRow.holds Tryz.pinned (OpenSpec.ofChange latentProcessWrong)

/- THE SECOND FORM. 'bulk': how many values and letters a reading holds, each counted each time it is reached (what is shared counts as often as it is met; a slice's spare places count too). A statement '..UptoSaid' is the law's where the arguments, and the package variables that the reading takes, are together of bulk at most 1048576: NARROWER than '..Said'. Prove '..Said' where nothing that the law and all that it calls make is longer than what came in: it says more and counts as full. Else prove '..UptoSaid'. A law counts once. -/
mutual
def uptoBulk {H : Type} : DataW H → Nat
  | .lit (.string bytes) => bytes.length + 1
  | .lit _ => 1
  | .nil => 1
  | .ptr d => uptoBulk d + 1
  | .slice elems spare => uptoBulkAll elems + uptoBulkAll spare + 1
  | .agg parts => uptoBulkAll parts + 1
  | .iface _ d => uptoBulk d + 1
  | .map entries => uptoBulkEntries entries + 1
  | .held _ => 1
def uptoBulkAll {H : Type} : List (DataW H) → Nat
  | [] => 0
  | d :: r => uptoBulk d + uptoBulkAll r
def uptoBulkEntries {H : Type} : List (Lit × DataW H) → Nat
  | [] => 0
  | x :: r => uptoBulkEntry x + uptoBulkEntries r
def uptoBulkEntry {H : Type} : Lit × DataW H → Nat
  | (.string bytes, d) => bytes.length + uptoBulk d + 1
  | (_, d) => uptoBulk d + 1
 end
def uptoSmall : (H : Type) → List (DataW H) → Bool := fun _ ds => decide (uptoBulkAll ds ≤ 1048576)
def OpenSpec.upto (s : _root_.Go.ChangeSpec) : _root_.Go.OpenSpec := { _root_.Go.OpenSpec.ofChange s with cond := some uptoSmall }

/-- 'customslaw26.YieldCovered', WHERE WHAT IT READS IS OF BULK AT MOST 1048576: true; the input reads as it did. -/
def yieldCoveredUptoRow : OpenClaim := { program := "ytacpjihbbmoolaagreatdoor", sum := "5530858130b957b0dbf2793d06a3fa36abe634cca0caf37da48ef7982b489677", func := "customs/customslaw26.YieldCovered", spec := "yieldCovered", unfollowed := true, recurses := true, named := ["customs/procedure.moves", "math/bits.divideError", "math/bits.overflowError"], apart := false, laid := [("customs/procedure.moves", laid_customs_procedure_moves)], narrowed := true }
def YieldCoveredUptoSaid : Prop := yieldCoveredUptoRow.holds Tryz.pinned (OpenSpec.upto yieldCoveredSpec)

/-- 'customslaw27.LatentProcess', WHERE WHAT IT READS IS OF BULK AT MOST 1048576: true; the input reads as it did. -/
def latentProcessUptoRow : OpenClaim := { program := "ytacpjihbbmoolaagreatdoor", sum := "5530858130b957b0dbf2793d06a3fa36abe634cca0caf37da48ef7982b489677", func := "customs/customslaw27.LatentProcess", spec := "latentProcess", unfollowed := true, recurses := true, named := ["customs/procedure.moves", "math/bits.divideError", "math/bits.overflowError"], apart := false, laid := [("customs/procedure.moves", laid_customs_procedure_moves)], narrowed := true }
def LatentProcessUptoSaid : Prop := latentProcessUptoRow.holds Tryz.pinned (OpenSpec.upto latentProcessSpec)

end Rows
end Go.Proofs.YtacpjihbbmoolaaGreatDoor
