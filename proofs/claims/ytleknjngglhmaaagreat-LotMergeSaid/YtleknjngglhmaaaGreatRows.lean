/-
  No cell of these rows narrows 'for every input' (looked for: loops, veiled, ifaces, maps, wideKeys, modest, calm, conditions, laid).
  DERIVED. THE GIVEN ROWS OF THIS SEAT. 6 by the template 'for every input the law returns true; each argument reads behind the call as it read before'; 0 by the template 'total and deterministic' (their statements: YtleknjngglhmaaaGreatTotals.lean).
  GIVEN WITH THE SEED: the statements are not yours to turn. If you find one false, say at which input.
  Laid BY PROGRAM, IN A SANDBOX (cutbox-rows.mjs): the forced cells as the released guide's own fill.sh prints them over the translation a0587794b43538d3… (all of the seat's roots in one cut). By AI agents, Wed Nov 11 2026. No macro, syntax, notation, axiom, sorry.
-/
import Derived.Test.YtleknjngglhmaaaGreatChecked
import GoSem.Claim
import GoSem.ClaimJoined
import GoSem.ClaimMapViews
import Derived.JoinedTies
import Derived.KernelRfl
namespace Go.Proofs.YtleknjngglhmaaaGreat
/- THE CELL 'sum', in the pinned program and in every row, IS THE sha256 OF THE DUMP (.gsa) THAT YtleknjngglhmaaaGreatProg.lean LOADS. Nothing in Lean hashes anything: it is a label: what it is worth is what the hold of that sum in a sandbox is worth. -/
noncomputable def Tryz.pinned : Pinned := { name := "ytleknjngglhmaaagreat", sum := "a0587794b43538d34bc0b99f768d49851a085ab8279fa047728a846401248f4c", checked := Tryz.checked }
namespace Rows
def none {H : Type} : Left H := { results := [], args := [] }

/-- 'customslaw25.LotTake': WHATEVER THE INPUT: true; the input reads as it did. -/
def lotTakeSpec : ChangeSpec := { name := "lotTake", fn := fun _ => fun
  | [d1, d2, d3, d4, d5] => { results := [.lit (.bool true)], args := [d1, d2, d3, d4, d5] }
  | _ => none }
def lotTakeRow : OpenClaim := { program := "ytleknjngglhmaaagreat", sum := "a0587794b43538d34bc0b99f768d49851a085ab8279fa047728a846401248f4c", func := "customs/customslaw25.LotTake", spec := "lotTake", unfollowed := true, recurses := true, named := ["math/bits.divideError", "math/bits.overflowError"], apart := false }
def LotTakeSaid : Prop := lotTakeRow.holds Tryz.pinned (OpenSpec.ofChange lotTakeSpec)

/-- ITS FALSE NEIGHBOUR: 'it returns false'. Refute it at one input. -/
def lotTakeWrong : ChangeSpec := { name := "lotTake", fn := fun _ => fun
  | [d1, d2, d3, d4, d5] => { results := [.lit (.bool false)], args := [d1, d2, d3, d4, d5] }
  | _ => none }
def LotTakeWrongFalsely : Prop := lotTakeRow.holds Tryz.pinned (OpenSpec.ofChange lotTakeWrong)

/-- 'customslaw25.LotStock': WHATEVER THE INPUT: true; the input reads as it did. -/
def lotStockSpec : ChangeSpec := { name := "lotStock", fn := fun _ => fun
  | [d1, d2, d3, d4, d5] => { results := [.lit (.bool true)], args := [d1, d2, d3, d4, d5] }
  | _ => none }
def lotStockRow : OpenClaim := { program := "ytleknjngglhmaaagreat", sum := "a0587794b43538d34bc0b99f768d49851a085ab8279fa047728a846401248f4c", func := "customs/customslaw25.LotStock", spec := "lotStock", unfollowed := true, recurses := true, named := ["math/bits.divideError", "math/bits.overflowError"], apart := false }
def LotStockSaid : Prop := lotStockRow.holds Tryz.pinned (OpenSpec.ofChange lotStockSpec)

/-- ITS FALSE NEIGHBOUR: 'it returns false'. Refute it at one input. -/
def lotStockWrong : ChangeSpec := { name := "lotStock", fn := fun _ => fun
  | [d1, d2, d3, d4, d5] => { results := [.lit (.bool false)], args := [d1, d2, d3, d4, d5] }
  | _ => none }
def LotStockWrongFalsely : Prop := lotStockRow.holds Tryz.pinned (OpenSpec.ofChange lotStockWrong)

/-- 'customslaw25.LotSplit': WHATEVER THE INPUT: true; the input reads as it did. -/
def lotSplitSpec : ChangeSpec := { name := "lotSplit", fn := fun _ => fun
  | [d1, d2, d3, d4, d5, d6, d7, d8] => { results := [.lit (.bool true)], args := [d1, d2, d3, d4, d5, d6, d7, d8] }
  | _ => none }
def lotSplitRow : OpenClaim := { program := "ytleknjngglhmaaagreat", sum := "a0587794b43538d34bc0b99f768d49851a085ab8279fa047728a846401248f4c", func := "customs/customslaw25.LotSplit", spec := "lotSplit", unfollowed := true, recurses := true, named := ["math/bits.divideError", "math/bits.overflowError"], apart := false }
def LotSplitSaid : Prop := lotSplitRow.holds Tryz.pinned (OpenSpec.ofChange lotSplitSpec)

/-- ITS FALSE NEIGHBOUR: 'it returns false'. Refute it at one input. -/
def lotSplitWrong : ChangeSpec := { name := "lotSplit", fn := fun _ => fun
  | [d1, d2, d3, d4, d5, d6, d7, d8] => { results := [.lit (.bool false)], args := [d1, d2, d3, d4, d5, d6, d7, d8] }
  | _ => none }
def LotSplitWrongFalsely : Prop := lotSplitRow.holds Tryz.pinned (OpenSpec.ofChange lotSplitWrong)

/-- 'customslaw25.LotSplitExact': WHATEVER THE INPUT: true; the input reads as it did. -/
def lotSplitExactSpec : ChangeSpec := { name := "lotSplitExact", fn := fun _ => fun
  | [d1, d2, d3, d4] => { results := [.lit (.bool true)], args := [d1, d2, d3, d4] }
  | _ => none }
def lotSplitExactRow : OpenClaim := { program := "ytleknjngglhmaaagreat", sum := "a0587794b43538d34bc0b99f768d49851a085ab8279fa047728a846401248f4c", func := "customs/customslaw25.LotSplitExact", spec := "lotSplitExact", unfollowed := true, recurses := true, named := ["math/bits.divideError", "math/bits.overflowError"], apart := false }
def LotSplitExactSaid : Prop := lotSplitExactRow.holds Tryz.pinned (OpenSpec.ofChange lotSplitExactSpec)

/-- ITS FALSE NEIGHBOUR: 'it returns false'. Refute it at one input. -/
def lotSplitExactWrong : ChangeSpec := { name := "lotSplitExact", fn := fun _ => fun
  | [d1, d2, d3, d4] => { results := [.lit (.bool false)], args := [d1, d2, d3, d4] }
  | _ => none }
def LotSplitExactWrongFalsely : Prop := lotSplitExactRow.holds Tryz.pinned (OpenSpec.ofChange lotSplitExactWrong)

/-- 'customslaw25.LotMerge': WHATEVER THE INPUT: true; the input reads as it did. -/
def lotMergeSpec : ChangeSpec := { name := "lotMerge", fn := fun _ => fun
  | [d1, d2, d3, d4, d5] => { results := [.lit (.bool true)], args := [d1, d2, d3, d4, d5] }
  | _ => none }
def lotMergeRow : OpenClaim := { program := "ytleknjngglhmaaagreat", sum := "a0587794b43538d34bc0b99f768d49851a085ab8279fa047728a846401248f4c", func := "customs/customslaw25.LotMerge", spec := "lotMerge", unfollowed := true, recurses := true, named := ["math/bits.divideError", "math/bits.overflowError"], apart := false }
def LotMergeSaid : Prop := lotMergeRow.holds Tryz.pinned (OpenSpec.ofChange lotMergeSpec)

/-- ITS FALSE NEIGHBOUR: 'it returns false'. Refute it at one input. -/
def lotMergeWrong : ChangeSpec := { name := "lotMerge", fn := fun _ => fun
  | [d1, d2, d3, d4, d5] => { results := [.lit (.bool false)], args := [d1, d2, d3, d4, d5] }
  | _ => none }
def LotMergeWrongFalsely : Prop := lotMergeRow.holds Tryz.pinned (OpenSpec.ofChange lotMergeWrong)

/-- 'customslaw25.LotSplitMerge': WHATEVER THE INPUT: true; the input reads as it did. -/
def lotSplitMergeSpec : ChangeSpec := { name := "lotSplitMerge", fn := fun _ => fun
  | [d1, d2, d3] => { results := [.lit (.bool true)], args := [d1, d2, d3] }
  | _ => none }
def lotSplitMergeRow : OpenClaim := { program := "ytleknjngglhmaaagreat", sum := "a0587794b43538d34bc0b99f768d49851a085ab8279fa047728a846401248f4c", func := "customs/customslaw25.LotSplitMerge", spec := "lotSplitMerge", unfollowed := true, recurses := true, named := ["math/bits.divideError", "math/bits.overflowError"], apart := false }
def LotSplitMergeSaid : Prop := lotSplitMergeRow.holds Tryz.pinned (OpenSpec.ofChange lotSplitMergeSpec)

/-- ITS FALSE NEIGHBOUR: 'it returns false'. Refute it at one input. -/
def lotSplitMergeWrong : ChangeSpec := { name := "lotSplitMerge", fn := fun _ => fun
  | [d1, d2, d3] => { results := [.lit (.bool false)], args := [d1, d2, d3] }
  | _ => none }
def LotSplitMergeWrongFalsely : Prop := lotSplitMergeRow.holds Tryz.pinned (OpenSpec.ofChange lotSplitMergeWrong)

/- THE SECOND FORM. 'bulk': how many values and letters a reading holds, each counted each time it is reached (what is shared counts as often as it is met; a slice's spare places count too). A statement '..UptoSaid' is the law's where the arguments, and the package variables that the reading takes, are together of bulk at most 1048576: NARROWER than '..Said'. Prove '..Said' where nothing that the law and all that it calls make is longer than what came in: it says more and counts as full. Else prove '..UptoSaid'. A law counts once. -/
mutual
def uptoBulk {H : Type} : DataW H → Nat
  | .lit (.string bytes) => bytes.length + 1
  | .lit _ => 1
  | .nil => 1
  | .ptr d => uptoBulk d + 1
  | .slice elems spare => uptoBulkAll elems + uptoBulkAll spare + 1
  | .agg parts => uptoBulkAll parts + 1
  | .iface _ d => uptoBulk d + 1
  | .map entries => uptoBulkEntries entries + 1
  | .held _ => 1
def uptoBulkAll {H : Type} : List (DataW H) → Nat
  | [] => 0
  | d :: r => uptoBulk d + uptoBulkAll r
def uptoBulkEntries {H : Type} : List (Lit × DataW H) → Nat
  | [] => 0
  | x :: r => uptoBulkEntry x + uptoBulkEntries r
def uptoBulkEntry {H : Type} : Lit × DataW H → Nat
  | (.string bytes, d) => bytes.length + uptoBulk d + 1
  | (_, d) => uptoBulk d + 1
 end
def uptoSmall : (H : Type) → List (DataW H) → Bool := fun _ ds => decide (uptoBulkAll ds ≤ 1048576)
def OpenSpec.upto (s : _root_.Go.ChangeSpec) : _root_.Go.OpenSpec := { _root_.Go.OpenSpec.ofChange s with cond := some uptoSmall }

/-- 'customslaw25.LotTake', WHERE WHAT IT READS IS OF BULK AT MOST 1048576: true; the input reads as it did. -/
def lotTakeUptoRow : OpenClaim := { program := "ytleknjngglhmaaagreat", sum := "a0587794b43538d34bc0b99f768d49851a085ab8279fa047728a846401248f4c", func := "customs/customslaw25.LotTake", spec := "lotTake", unfollowed := true, recurses := true, named := ["math/bits.divideError", "math/bits.overflowError"], apart := false, narrowed := true }
def LotTakeUptoSaid : Prop := lotTakeUptoRow.holds Tryz.pinned (OpenSpec.upto lotTakeSpec)

/-- 'customslaw25.LotStock', WHERE WHAT IT READS IS OF BULK AT MOST 1048576: true; the input reads as it did. -/
def lotStockUptoRow : OpenClaim := { program := "ytleknjngglhmaaagreat", sum := "a0587794b43538d34bc0b99f768d49851a085ab8279fa047728a846401248f4c", func := "customs/customslaw25.LotStock", spec := "lotStock", unfollowed := true, recurses := true, named := ["math/bits.divideError", "math/bits.overflowError"], apart := false, narrowed := true }
def LotStockUptoSaid : Prop := lotStockUptoRow.holds Tryz.pinned (OpenSpec.upto lotStockSpec)

/-- 'customslaw25.LotSplit', WHERE WHAT IT READS IS OF BULK AT MOST 1048576: true; the input reads as it did. -/
def lotSplitUptoRow : OpenClaim := { program := "ytleknjngglhmaaagreat", sum := "a0587794b43538d34bc0b99f768d49851a085ab8279fa047728a846401248f4c", func := "customs/customslaw25.LotSplit", spec := "lotSplit", unfollowed := true, recurses := true, named := ["math/bits.divideError", "math/bits.overflowError"], apart := false, narrowed := true }
def LotSplitUptoSaid : Prop := lotSplitUptoRow.holds Tryz.pinned (OpenSpec.upto lotSplitSpec)

/-- 'customslaw25.LotSplitExact', WHERE WHAT IT READS IS OF BULK AT MOST 1048576: true; the input reads as it did. -/
def lotSplitExactUptoRow : OpenClaim := { program := "ytleknjngglhmaaagreat", sum := "a0587794b43538d34bc0b99f768d49851a085ab8279fa047728a846401248f4c", func := "customs/customslaw25.LotSplitExact", spec := "lotSplitExact", unfollowed := true, recurses := true, named := ["math/bits.divideError", "math/bits.overflowError"], apart := false, narrowed := true }
def LotSplitExactUptoSaid : Prop := lotSplitExactUptoRow.holds Tryz.pinned (OpenSpec.upto lotSplitExactSpec)

/-- 'customslaw25.LotMerge', WHERE WHAT IT READS IS OF BULK AT MOST 1048576: true; the input reads as it did. -/
def lotMergeUptoRow : OpenClaim := { program := "ytleknjngglhmaaagreat", sum := "a0587794b43538d34bc0b99f768d49851a085ab8279fa047728a846401248f4c", func := "customs/customslaw25.LotMerge", spec := "lotMerge", unfollowed := true, recurses := true, named := ["math/bits.divideError", "math/bits.overflowError"], apart := false, narrowed := true }
def LotMergeUptoSaid : Prop := lotMergeUptoRow.holds Tryz.pinned (OpenSpec.upto lotMergeSpec)

/-- 'customslaw25.LotSplitMerge', WHERE WHAT IT READS IS OF BULK AT MOST 1048576: true; the input reads as it did. -/
def lotSplitMergeUptoRow : OpenClaim := { program := "ytleknjngglhmaaagreat", sum := "a0587794b43538d34bc0b99f768d49851a085ab8279fa047728a846401248f4c", func := "customs/customslaw25.LotSplitMerge", spec := "lotSplitMerge", unfollowed := true, recurses := true, named := ["math/bits.divideError", "math/bits.overflowError"], apart := false, narrowed := true }
def LotSplitMergeUptoSaid : Prop := lotSplitMergeUptoRow.holds Tryz.pinned (OpenSpec.upto lotSplitMergeSpec)

end Rows
end Go.Proofs.YtleknjngglhmaaaGreat
