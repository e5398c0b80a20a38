/-
  No cell of these rows narrows 'for every input' (looked for: loops, veiled, ifaces, maps, wideKeys, modest, calm, conditions, laid).
  DERIVED. THE GIVEN ROWS OF THIS SEAT. 3 by the template 'for every input the law returns true; each argument reads behind the call as it read before'; 0 by the template 'total and deterministic' (their statements: YtfinilnaofbkkaaGreatTotals.lean).
  GIVEN WITH THE SEED: the statements are not yours to turn. If you find one false, say at which input.
  Laid BY PROGRAM, IN A SANDBOX (cutbox-rows.mjs): the forced cells as the released guide's own fill.sh prints them over the translation 1d35e9598a81196d… (all of the seat's roots in one cut). By AI agents, Wed Nov 11 2026. No macro, syntax, notation, axiom, sorry.
-/
import Derived.Test.YtfinilnaofbkkaaGreatChecked
import GoSem.Claim
import GoSem.ClaimJoined
import GoSem.ClaimMapViews
import Derived.JoinedTies
import Derived.KernelRfl
namespace Go.Proofs.YtfinilnaofbkkaaGreat
/- THE CELL 'sum', in the pinned program and in every row, IS THE sha256 OF THE DUMP (.gsa) THAT YtfinilnaofbkkaaGreatProg.lean LOADS. Nothing in Lean hashes anything: it is a label: what it is worth is what the hold of that sum in a sandbox is worth. -/
noncomputable def Tryz.pinned : Pinned := { name := "ytfinilnaofbkkaagreat", sum := "1d35e9598a81196df60e360a6c61be879cce4d2da8ccf5e8ebcaff663dd0a667", checked := Tryz.checked }
namespace Rows
def none {H : Type} : Left H := { results := [], args := [] }

/-- 'customslaw27.LatentByLot': WHATEVER THE INPUT: true; the input reads as it did. -/
def latentByLotSpec : ChangeSpec := { name := "latentByLot", fn := fun _ => fun
  | [d1, d2, d3, d4, d5, d6] => { results := [.lit (.bool true)], args := [d1, d2, d3, d4, d5, d6] }
  | _ => none }
def latentByLotRow : OpenClaim := { program := "ytfinilnaofbkkaagreat", sum := "1d35e9598a81196df60e360a6c61be879cce4d2da8ccf5e8ebcaff663dd0a667", func := "customs/customslaw27.LatentByLot", spec := "latentByLot", unfollowed := true, recurses := true, named := ["math/bits.divideError", "math/bits.overflowError"], apart := false }
def LatentByLotSaid : Prop := latentByLotRow.holds Tryz.pinned (OpenSpec.ofChange latentByLotSpec)

/-- ITS FALSE NEIGHBOUR: 'it returns false'. Refute it at one input. -/
def latentByLotWrong : ChangeSpec := { name := "latentByLot", fn := fun _ => fun
  | [d1, d2, d3, d4, d5, d6] => { results := [.lit (.bool false)], args := [d1, d2, d3, d4, d5, d6] }
  | _ => none }
def LatentByLotWrongFalsely : Prop := latentByLotRow.holds Tryz.pinned (OpenSpec.ofChange latentByLotWrong)

/-- 'customslaw27.LatentTrace': WHATEVER THE INPUT: true; the input reads as it did. -/
def latentTraceSpec : ChangeSpec := { name := "latentTrace", fn := fun _ => fun
  | [d] => { results := [.lit (.bool true)], args := [d] }
  | _ => none }
def latentTraceRow : OpenClaim := { program := "ytfinilnaofbkkaagreat", sum := "1d35e9598a81196df60e360a6c61be879cce4d2da8ccf5e8ebcaff663dd0a667", func := "customs/customslaw27.LatentTrace", spec := "latentTrace", unfollowed := true, recurses := true, named := ["math/bits.divideError", "math/bits.overflowError"], apart := false }
def LatentTraceSaid : Prop := latentTraceRow.holds Tryz.pinned (OpenSpec.ofChange latentTraceSpec)

/-- ITS FALSE NEIGHBOUR: 'it returns false'. Refute it at one input. -/
def latentTraceWrong : ChangeSpec := { name := "latentTrace", fn := fun _ => fun
  | [d] => { results := [.lit (.bool false)], args := [d] }
  | _ => none }
def LatentTraceWrongFalsely : Prop := latentTraceRow.holds Tryz.pinned (OpenSpec.ofChange latentTraceWrong)

/-- 'customslaw27.LatentDifferences': WHATEVER THE INPUT: true; the input reads as it did. -/
def latentDifferencesSpec : ChangeSpec := { name := "latentDifferences", fn := fun _ => fun
  | [d1, d2, d3] => { results := [.lit (.bool true)], args := [d1, d2, d3] }
  | _ => none }
def latentDifferencesRow : OpenClaim := { program := "ytfinilnaofbkkaagreat", sum := "1d35e9598a81196df60e360a6c61be879cce4d2da8ccf5e8ebcaff663dd0a667", func := "customs/customslaw27.LatentDifferences", spec := "latentDifferences", unfollowed := true, recurses := true, named := ["math/bits.divideError", "math/bits.overflowError"], apart := false }
def LatentDifferencesSaid : Prop := latentDifferencesRow.holds Tryz.pinned (OpenSpec.ofChange latentDifferencesSpec)

/-- ITS FALSE NEIGHBOUR: 'it returns false'. Refute it at one input. -/
def latentDifferencesWrong : ChangeSpec := { name := "latentDifferences", fn := fun _ => fun
  | [d1, d2, d3] => { results := [.lit (.bool false)], args := [d1, d2, d3] }
  | _ => none }
def LatentDifferencesWrongFalsely : Prop := latentDifferencesRow.holds Tryz.pinned (OpenSpec.ofChange latentDifferencesWrong)

/- THE SECOND FORM. 'bulk': how many values and letters a reading holds, each counted each time it is reached (what is shared counts as often as it is met; a slice's spare places count too). A statement '..UptoSaid' is the law's where the arguments, and the package variables that the reading takes, are together of bulk at most 1048576: NARROWER than '..Said'. Prove '..Said' where nothing that the law and all that it calls make is longer than what came in: it says more and counts as full. Else prove '..UptoSaid'. A law counts once. -/
mutual
def uptoBulk {H : Type} : DataW H → Nat
  | .lit (.string bytes) => bytes.length + 1
  | .lit _ => 1
  | .nil => 1
  | .ptr d => uptoBulk d + 1
  | .slice elems spare => uptoBulkAll elems + uptoBulkAll spare + 1
  | .agg parts => uptoBulkAll parts + 1
  | .iface _ d => uptoBulk d + 1
  | .map entries => uptoBulkEntries entries + 1
  | .held _ => 1
def uptoBulkAll {H : Type} : List (DataW H) → Nat
  | [] => 0
  | d :: r => uptoBulk d + uptoBulkAll r
def uptoBulkEntries {H : Type} : List (Lit × DataW H) → Nat
  | [] => 0
  | x :: r => uptoBulkEntry x + uptoBulkEntries r
def uptoBulkEntry {H : Type} : Lit × DataW H → Nat
  | (.string bytes, d) => bytes.length + uptoBulk d + 1
  | (_, d) => uptoBulk d + 1
 end
def uptoSmall : (H : Type) → List (DataW H) → Bool := fun _ ds => decide (uptoBulkAll ds ≤ 1048576)
def OpenSpec.upto (s : _root_.Go.ChangeSpec) : _root_.Go.OpenSpec := { _root_.Go.OpenSpec.ofChange s with cond := some uptoSmall }

/-- 'customslaw27.LatentByLot', WHERE WHAT IT READS IS OF BULK AT MOST 1048576: true; the input reads as it did. -/
def latentByLotUptoRow : OpenClaim := { program := "ytfinilnaofbkkaagreat", sum := "1d35e9598a81196df60e360a6c61be879cce4d2da8ccf5e8ebcaff663dd0a667", func := "customs/customslaw27.LatentByLot", spec := "latentByLot", unfollowed := true, recurses := true, named := ["math/bits.divideError", "math/bits.overflowError"], apart := false, narrowed := true }
def LatentByLotUptoSaid : Prop := latentByLotUptoRow.holds Tryz.pinned (OpenSpec.upto latentByLotSpec)

/-- 'customslaw27.LatentTrace', WHERE WHAT IT READS IS OF BULK AT MOST 1048576: true; the input reads as it did. -/
def latentTraceUptoRow : OpenClaim := { program := "ytfinilnaofbkkaagreat", sum := "1d35e9598a81196df60e360a6c61be879cce4d2da8ccf5e8ebcaff663dd0a667", func := "customs/customslaw27.LatentTrace", spec := "latentTrace", unfollowed := true, recurses := true, named := ["math/bits.divideError", "math/bits.overflowError"], apart := false, narrowed := true }
def LatentTraceUptoSaid : Prop := latentTraceUptoRow.holds Tryz.pinned (OpenSpec.upto latentTraceSpec)

/-- 'customslaw27.LatentDifferences', WHERE WHAT IT READS IS OF BULK AT MOST 1048576: true; the input reads as it did. -/
def latentDifferencesUptoRow : OpenClaim := { program := "ytfinilnaofbkkaagreat", sum := "1d35e9598a81196df60e360a6c61be879cce4d2da8ccf5e8ebcaff663dd0a667", func := "customs/customslaw27.LatentDifferences", spec := "latentDifferences", unfollowed := true, recurses := true, named := ["math/bits.divideError", "math/bits.overflowError"], apart := false, narrowed := true }
def LatentDifferencesUptoSaid : Prop := latentDifferencesUptoRow.holds Tryz.pinned (OpenSpec.upto latentDifferencesSpec)

end Rows
end Go.Proofs.YtfinilnaofbkkaaGreat
