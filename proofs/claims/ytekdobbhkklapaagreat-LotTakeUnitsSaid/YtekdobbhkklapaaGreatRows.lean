/-
  No cell of these rows narrows 'for every input' (looked for: loops, veiled, ifaces, maps, wideKeys, modest, calm, conditions, laid).
  DERIVED. THE GIVEN ROWS OF THIS SEAT. 4 by the template 'for every input the law returns true; each argument reads behind the call as it read before'; 0 by the template 'total and deterministic' (their statements: YtekdobbhkklapaaGreatTotals.lean).
  GIVEN WITH THE SEED: the statements are not yours to turn. If you find one false, say at which input.
  Laid BY PROGRAM, IN A SANDBOX (cutbox-rows.mjs): the forced cells as the released guide's own fill.sh prints them over the translation 28f62f27aa3b30a3… (all of the seat's roots in one cut). By AI agents, Wed Nov 11 2026. No macro, syntax, notation, axiom, sorry.
-/
import Derived.Test.YtekdobbhkklapaaGreatChecked
import GoSem.Claim
import GoSem.ClaimJoined
import GoSem.ClaimMapViews
import Derived.JoinedTies
import Derived.KernelRfl
namespace Go.Proofs.YtekdobbhkklapaaGreat
/- THE CELL 'sum', in the pinned program and in every row, IS THE sha256 OF THE DUMP (.gsa) THAT YtekdobbhkklapaaGreatProg.lean LOADS. Nothing in Lean hashes anything: it is a label: what it is worth is what the hold of that sum in a sandbox is worth. -/
noncomputable def Tryz.pinned : Pinned := { name := "ytekdobbhkklapaagreat", sum := "28f62f27aa3b30a310e44121263c2bbd507c2ae829507a3ffff1ed891ae0372b", checked := Tryz.checked }
namespace Rows
def none {H : Type} : Left H := { results := [], args := [] }

/-- 'customslaw25.LotTake': WHATEVER THE INPUT: true; the input reads as it did. -/
def lotTakeSpec : ChangeSpec := { name := "lotTake", fn := fun _ => fun
  | [d1, d2, d3, d4, d5] => { results := [.lit (.bool true)], args := [d1, d2, d3, d4, d5] }
  | _ => none }
def lotTakeRow : OpenClaim := { program := "ytekdobbhkklapaagreat", sum := "28f62f27aa3b30a310e44121263c2bbd507c2ae829507a3ffff1ed891ae0372b", func := "customs/customslaw25.LotTake", spec := "lotTake", unfollowed := true, recurses := true, named := ["math/bits.divideError", "math/bits.overflowError"], apart := false }
def LotTakeSaid : Prop := lotTakeRow.holds Tryz.pinned (OpenSpec.ofChange lotTakeSpec)

/-- ITS FALSE NEIGHBOUR: 'it returns false'. Refute it at one input. -/
def lotTakeWrong : ChangeSpec := { name := "lotTake", fn := fun _ => fun
  | [d1, d2, d3, d4, d5] => { results := [.lit (.bool false)], args := [d1, d2, d3, d4, d5] }
  | _ => none }
def LotTakeWrongFalsely : Prop := lotTakeRow.holds Tryz.pinned (OpenSpec.ofChange lotTakeWrong)

/-- 'customslaw25.LotSlices': WHATEVER THE INPUT: true; the input reads as it did. -/
def lotSlicesSpec : ChangeSpec := { name := "lotSlices", fn := fun _ => fun
  | [d1, d2, d3] => { results := [.lit (.bool true)], args := [d1, d2, d3] }
  | _ => none }
def lotSlicesRow : OpenClaim := { program := "ytekdobbhkklapaagreat", sum := "28f62f27aa3b30a310e44121263c2bbd507c2ae829507a3ffff1ed891ae0372b", func := "customs/customslaw25.LotSlices", spec := "lotSlices", unfollowed := true, recurses := true, named := ["math/bits.divideError", "math/bits.overflowError"], apart := false }
def LotSlicesSaid : Prop := lotSlicesRow.holds Tryz.pinned (OpenSpec.ofChange lotSlicesSpec)

/-- ITS FALSE NEIGHBOUR: 'it returns false'. Refute it at one input. -/
def lotSlicesWrong : ChangeSpec := { name := "lotSlices", fn := fun _ => fun
  | [d1, d2, d3] => { results := [.lit (.bool false)], args := [d1, d2, d3] }
  | _ => none }
def LotSlicesWrongFalsely : Prop := lotSlicesRow.holds Tryz.pinned (OpenSpec.ofChange lotSlicesWrong)

/-- 'customslaw25.LotTakeUnits': WHATEVER THE INPUT: true; the input reads as it did. -/
def lotTakeUnitsSpec : ChangeSpec := { name := "lotTakeUnits", fn := fun _ => fun
  | [d1, d2, d3] => { results := [.lit (.bool true)], args := [d1, d2, d3] }
  | _ => none }
def lotTakeUnitsRow : OpenClaim := { program := "ytekdobbhkklapaagreat", sum := "28f62f27aa3b30a310e44121263c2bbd507c2ae829507a3ffff1ed891ae0372b", func := "customs/customslaw25.LotTakeUnits", spec := "lotTakeUnits", unfollowed := true, recurses := true, named := ["math/bits.divideError", "math/bits.overflowError"], apart := false }
def LotTakeUnitsSaid : Prop := lotTakeUnitsRow.holds Tryz.pinned (OpenSpec.ofChange lotTakeUnitsSpec)

/-- ITS FALSE NEIGHBOUR: 'it returns false'. Refute it at one input. -/
def lotTakeUnitsWrong : ChangeSpec := { name := "lotTakeUnits", fn := fun _ => fun
  | [d1, d2, d3] => { results := [.lit (.bool false)], args := [d1, d2, d3] }
  | _ => none }
def LotTakeUnitsWrongFalsely : Prop := lotTakeUnitsRow.holds Tryz.pinned (OpenSpec.ofChange lotTakeUnitsWrong)

/-- 'customslaw25.LotTakeTwice': WHATEVER THE INPUT: true; the input reads as it did. -/
def lotTakeTwiceSpec : ChangeSpec := { name := "lotTakeTwice", fn := fun _ => fun
  | [d1, d2, d3, d4] => { results := [.lit (.bool true)], args := [d1, d2, d3, d4] }
  | _ => none }
def lotTakeTwiceRow : OpenClaim := { program := "ytekdobbhkklapaagreat", sum := "28f62f27aa3b30a310e44121263c2bbd507c2ae829507a3ffff1ed891ae0372b", func := "customs/customslaw25.LotTakeTwice", spec := "lotTakeTwice", unfollowed := true, recurses := true, named := ["math/bits.divideError", "math/bits.overflowError"], apart := false }
def LotTakeTwiceSaid : Prop := lotTakeTwiceRow.holds Tryz.pinned (OpenSpec.ofChange lotTakeTwiceSpec)

/-- ITS FALSE NEIGHBOUR: 'it returns false'. Refute it at one input. -/
def lotTakeTwiceWrong : ChangeSpec := { name := "lotTakeTwice", fn := fun _ => fun
  | [d1, d2, d3, d4] => { results := [.lit (.bool false)], args := [d1, d2, d3, d4] }
  | _ => none }
def LotTakeTwiceWrongFalsely : Prop := lotTakeTwiceRow.holds Tryz.pinned (OpenSpec.ofChange lotTakeTwiceWrong)

/- THE SECOND FORM. 'bulk': how many values and letters a reading holds, each counted each time it is reached (what is shared counts as often as it is met; a slice's spare places count too). A statement '..UptoSaid' is the law's where the arguments, and the package variables that the reading takes, are together of bulk at most 1048576: NARROWER than '..Said'. Prove '..Said' where nothing that the law and all that it calls make is longer than what came in: it says more and counts as full. Else prove '..UptoSaid'. A law counts once. -/
mutual
def uptoBulk {H : Type} : DataW H → Nat
  | .lit (.string bytes) => bytes.length + 1
  | .lit _ => 1
  | .nil => 1
  | .ptr d => uptoBulk d + 1
  | .slice elems spare => uptoBulkAll elems + uptoBulkAll spare + 1
  | .agg parts => uptoBulkAll parts + 1
  | .iface _ d => uptoBulk d + 1
  | .map entries => uptoBulkEntries entries + 1
  | .held _ => 1
def uptoBulkAll {H : Type} : List (DataW H) → Nat
  | [] => 0
  | d :: r => uptoBulk d + uptoBulkAll r
def uptoBulkEntries {H : Type} : List (Lit × DataW H) → Nat
  | [] => 0
  | x :: r => uptoBulkEntry x + uptoBulkEntries r
def uptoBulkEntry {H : Type} : Lit × DataW H → Nat
  | (.string bytes, d) => bytes.length + uptoBulk d + 1
  | (_, d) => uptoBulk d + 1
 end
def uptoSmall : (H : Type) → List (DataW H) → Bool := fun _ ds => decide (uptoBulkAll ds ≤ 1048576)
def OpenSpec.upto (s : _root_.Go.ChangeSpec) : _root_.Go.OpenSpec := { _root_.Go.OpenSpec.ofChange s with cond := some uptoSmall }

/-- 'customslaw25.LotTake', WHERE WHAT IT READS IS OF BULK AT MOST 1048576: true; the input reads as it did. -/
def lotTakeUptoRow : OpenClaim := { program := "ytekdobbhkklapaagreat", sum := "28f62f27aa3b30a310e44121263c2bbd507c2ae829507a3ffff1ed891ae0372b", func := "customs/customslaw25.LotTake", spec := "lotTake", unfollowed := true, recurses := true, named := ["math/bits.divideError", "math/bits.overflowError"], apart := false, narrowed := true }
def LotTakeUptoSaid : Prop := lotTakeUptoRow.holds Tryz.pinned (OpenSpec.upto lotTakeSpec)

/-- 'customslaw25.LotSlices', WHERE WHAT IT READS IS OF BULK AT MOST 1048576: true; the input reads as it did. -/
def lotSlicesUptoRow : OpenClaim := { program := "ytekdobbhkklapaagreat", sum := "28f62f27aa3b30a310e44121263c2bbd507c2ae829507a3ffff1ed891ae0372b", func := "customs/customslaw25.LotSlices", spec := "lotSlices", unfollowed := true, recurses := true, named := ["math/bits.divideError", "math/bits.overflowError"], apart := false, narrowed := true }
def LotSlicesUptoSaid : Prop := lotSlicesUptoRow.holds Tryz.pinned (OpenSpec.upto lotSlicesSpec)

/-- 'customslaw25.LotTakeUnits', WHERE WHAT IT READS IS OF BULK AT MOST 1048576: true; the input reads as it did. -/
def lotTakeUnitsUptoRow : OpenClaim := { program := "ytekdobbhkklapaagreat", sum := "28f62f27aa3b30a310e44121263c2bbd507c2ae829507a3ffff1ed891ae0372b", func := "customs/customslaw25.LotTakeUnits", spec := "lotTakeUnits", unfollowed := true, recurses := true, named := ["math/bits.divideError", "math/bits.overflowError"], apart := false, narrowed := true }
def LotTakeUnitsUptoSaid : Prop := lotTakeUnitsUptoRow.holds Tryz.pinned (OpenSpec.upto lotTakeUnitsSpec)

/-- 'customslaw25.LotTakeTwice', WHERE WHAT IT READS IS OF BULK AT MOST 1048576: true; the input reads as it did. -/
def lotTakeTwiceUptoRow : OpenClaim := { program := "ytekdobbhkklapaagreat", sum := "28f62f27aa3b30a310e44121263c2bbd507c2ae829507a3ffff1ed891ae0372b", func := "customs/customslaw25.LotTakeTwice", spec := "lotTakeTwice", unfollowed := true, recurses := true, named := ["math/bits.divideError", "math/bits.overflowError"], apart := false, narrowed := true }
def LotTakeTwiceUptoSaid : Prop := lotTakeTwiceUptoRow.holds Tryz.pinned (OpenSpec.upto lotTakeTwiceSpec)

end Rows
end Go.Proofs.YtekdobbhkklapaaGreat
