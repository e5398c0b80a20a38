/-
  No cell of these rows narrows 'for every input' (looked for: loops, veiled, ifaces, maps, wideKeys, modest, calm, conditions, laid).
  DERIVED. THE GIVEN ROWS OF THIS SEAT. 6 by the template 'for every input the law returns true; each argument reads behind the call as it read before'; 0 by the template 'total and deterministic' (their statements: YtoeghejbgibioaaTotals.lean).
  GIVEN WITH THE SEED: the statements are not yours to turn. If you find one false, say at which input.
  Laid BY PROGRAM, IN A SANDBOX (cutbox-rows.mjs): the forced cells as the released guide's own fill.sh prints them over the translation af5f519050138ec6… (all of the seat's roots in one cut). By AI agents, Wed Nov 11 2026. No macro, syntax, notation, axiom, sorry.
-/
import Derived.Test.YtoeghejbgibioaaChecked
import GoSem.Claim
import GoSem.ClaimJoined
import GoSem.ClaimMapViews
import Derived.JoinedTies
import Derived.KernelRfl
namespace Go.Proofs.Ytoeghejbgibioaa
/- THE CELL 'sum', in the pinned program and in every row, IS THE sha256 OF THE DUMP (.gsa) THAT YtoeghejbgibioaaProg.lean LOADS. Nothing in Lean hashes anything: it is a label: what it is worth is what the hold of that sum in a sandbox is worth. -/
noncomputable def Try.pinned : Pinned := { name := "ytoeghejbgibioaa", sum := "af5f519050138ec6bcde3803f1876864c3463a42fb583c653f7566956cbb277d", checked := Try.checked }
namespace Rows
def none {H : Type} : Left H := { results := [], args := [] }

/-- 'customslaw26.YieldBatches': WHATEVER THE INPUT: true; the input reads as it did. -/
def yieldBatchesSpec : ChangeSpec := { name := "yieldBatches", fn := fun _ => fun
  | [d1, d2] => { results := [.lit (.bool true)], args := [d1, d2] }
  | _ => none }
def yieldBatchesRow : OpenClaim := { program := "ytoeghejbgibioaa", sum := "af5f519050138ec6bcde3803f1876864c3463a42fb583c653f7566956cbb277d", func := "customs/customslaw26.YieldBatches", spec := "yieldBatches", unfollowed := true, recurses := true, apart := false }
def YieldBatchesSaid : Prop := yieldBatchesRow.holds Try.pinned (OpenSpec.ofChange yieldBatchesSpec)

/-- ITS FALSE NEIGHBOUR: 'it returns false'. Refute it at one input. -/
def yieldBatchesWrong : ChangeSpec := { name := "yieldBatches", fn := fun _ => fun
  | [d1, d2] => { results := [.lit (.bool false)], args := [d1, d2] }
  | _ => none }
def YieldBatchesWrongFalsely : Prop := yieldBatchesRow.holds Try.pinned (OpenSpec.ofChange yieldBatchesWrong)

/-- 'customslaw26.YieldExplode': WHATEVER THE INPUT: true; the input reads as it did. -/
def yieldExplodeSpec : ChangeSpec := { name := "yieldExplode", fn := fun _ => fun
  | [d1, d2, d3, d4, d5] => { results := [.lit (.bool true)], args := [d1, d2, d3, d4, d5] }
  | _ => none }
def yieldExplodeRow : OpenClaim := { program := "ytoeghejbgibioaa", sum := "af5f519050138ec6bcde3803f1876864c3463a42fb583c653f7566956cbb277d", func := "customs/customslaw26.YieldExplode", spec := "yieldExplode", unfollowed := true, recurses := true, apart := false }
def YieldExplodeSaid : Prop := yieldExplodeRow.holds Try.pinned (OpenSpec.ofChange yieldExplodeSpec)

/-- ITS FALSE NEIGHBOUR: 'it returns false'. Refute it at one input. -/
def yieldExplodeWrong : ChangeSpec := { name := "yieldExplode", fn := fun _ => fun
  | [d1, d2, d3, d4, d5] => { results := [.lit (.bool false)], args := [d1, d2, d3, d4, d5] }
  | _ => none }
def YieldExplodeWrongFalsely : Prop := yieldExplodeRow.holds Try.pinned (OpenSpec.ofChange yieldExplodeWrong)

/-- 'customslaw26.YieldEnough': WHATEVER THE INPUT: true; the input reads as it did. -/
def yieldEnoughSpec : ChangeSpec := { name := "yieldEnough", fn := fun _ => fun
  | [d1, d2] => { results := [.lit (.bool true)], args := [d1, d2] }
  | _ => none }
def yieldEnoughRow : OpenClaim := { program := "ytoeghejbgibioaa", sum := "af5f519050138ec6bcde3803f1876864c3463a42fb583c653f7566956cbb277d", func := "customs/customslaw26.YieldEnough", spec := "yieldEnough", unfollowed := true, recurses := true, apart := false }
def YieldEnoughSaid : Prop := yieldEnoughRow.holds Try.pinned (OpenSpec.ofChange yieldEnoughSpec)

/-- ITS FALSE NEIGHBOUR: 'it returns false'. Refute it at one input. -/
def yieldEnoughWrong : ChangeSpec := { name := "yieldEnough", fn := fun _ => fun
  | [d1, d2] => { results := [.lit (.bool false)], args := [d1, d2] }
  | _ => none }
def YieldEnoughWrongFalsely : Prop := yieldEnoughRow.holds Try.pinned (OpenSpec.ofChange yieldEnoughWrong)

/-- 'customslaw26.YieldSettle': WHATEVER THE INPUT: true; the input reads as it did. -/
def yieldSettleSpec : ChangeSpec := { name := "yieldSettle", fn := fun _ => fun
  | [d1, d2, d3, d4, d5, d6, d7] => { results := [.lit (.bool true)], args := [d1, d2, d3, d4, d5, d6, d7] }
  | _ => none }
def yieldSettleRow : OpenClaim := { program := "ytoeghejbgibioaa", sum := "af5f519050138ec6bcde3803f1876864c3463a42fb583c653f7566956cbb277d", func := "customs/customslaw26.YieldSettle", spec := "yieldSettle", unfollowed := true, recurses := true, apart := false }
def YieldSettleSaid : Prop := yieldSettleRow.holds Try.pinned (OpenSpec.ofChange yieldSettleSpec)

/-- ITS FALSE NEIGHBOUR: 'it returns false'. Refute it at one input. -/
def yieldSettleWrong : ChangeSpec := { name := "yieldSettle", fn := fun _ => fun
  | [d1, d2, d3, d4, d5, d6, d7] => { results := [.lit (.bool false)], args := [d1, d2, d3, d4, d5, d6, d7] }
  | _ => none }
def YieldSettleWrongFalsely : Prop := yieldSettleRow.holds Try.pinned (OpenSpec.ofChange yieldSettleWrong)

/-- 'customslaw26.YieldSettleMost': WHATEVER THE INPUT: true; the input reads as it did. -/
def yieldSettleMostSpec : ChangeSpec := { name := "yieldSettleMost", fn := fun _ => fun
  | [d1, d2, d3, d4] => { results := [.lit (.bool true)], args := [d1, d2, d3, d4] }
  | _ => none }
def yieldSettleMostRow : OpenClaim := { program := "ytoeghejbgibioaa", sum := "af5f519050138ec6bcde3803f1876864c3463a42fb583c653f7566956cbb277d", func := "customs/customslaw26.YieldSettleMost", spec := "yieldSettleMost", unfollowed := true, recurses := true, apart := false }
def YieldSettleMostSaid : Prop := yieldSettleMostRow.holds Try.pinned (OpenSpec.ofChange yieldSettleMostSpec)

/-- ITS FALSE NEIGHBOUR: 'it returns false'. Refute it at one input. -/
def yieldSettleMostWrong : ChangeSpec := { name := "yieldSettleMost", fn := fun _ => fun
  | [d1, d2, d3, d4] => { results := [.lit (.bool false)], args := [d1, d2, d3, d4] }
  | _ => none }
def YieldSettleMostWrongFalsely : Prop := yieldSettleMostRow.holds Try.pinned (OpenSpec.ofChange yieldSettleMostWrong)

/-- 'customslaw26.YieldMake': WHATEVER THE INPUT: true; the input reads as it did. -/
def yieldMakeSpec : ChangeSpec := { name := "yieldMake", fn := fun _ => fun
  | [d1, d2, d3, d4, d5, d6] => { results := [.lit (.bool true)], args := [d1, d2, d3, d4, d5, d6] }
  | _ => none }
def yieldMakeRow : OpenClaim := { program := "ytoeghejbgibioaa", sum := "af5f519050138ec6bcde3803f1876864c3463a42fb583c653f7566956cbb277d", func := "customs/customslaw26.YieldMake", spec := "yieldMake", unfollowed := true, recurses := true, apart := false }
def YieldMakeSaid : Prop := yieldMakeRow.holds Try.pinned (OpenSpec.ofChange yieldMakeSpec)

/-- ITS FALSE NEIGHBOUR: 'it returns false'. Refute it at one input. -/
def yieldMakeWrong : ChangeSpec := { name := "yieldMake", fn := fun _ => fun
  | [d1, d2, d3, d4, d5, d6] => { results := [.lit (.bool false)], args := [d1, d2, d3, d4, d5, d6] }
  | _ => none }
def YieldMakeWrongFalsely : Prop := yieldMakeRow.holds Try.pinned (OpenSpec.ofChange yieldMakeWrong)

/- THE SECOND FORM. 'bulk': how many values and letters a reading holds, each counted each time it is reached (what is shared counts as often as it is met; a slice's spare places count too). A statement '..UptoSaid' is the law's where the arguments, and the package variables that the reading takes, are together of bulk at most 1048576: NARROWER than '..Said'. Prove '..Said' where nothing that the law and all that it calls make is longer than what came in: it says more and counts as full. Else prove '..UptoSaid'. A law counts once. -/
mutual
def uptoBulk {H : Type} : DataW H → Nat
  | .lit (.string bytes) => bytes.length + 1
  | .lit _ => 1
  | .nil => 1
  | .ptr d => uptoBulk d + 1
  | .slice elems spare => uptoBulkAll elems + uptoBulkAll spare + 1
  | .agg parts => uptoBulkAll parts + 1
  | .iface _ d => uptoBulk d + 1
  | .map entries => uptoBulkEntries entries + 1
  | .held _ => 1
def uptoBulkAll {H : Type} : List (DataW H) → Nat
  | [] => 0
  | d :: r => uptoBulk d + uptoBulkAll r
def uptoBulkEntries {H : Type} : List (Lit × DataW H) → Nat
  | [] => 0
  | x :: r => uptoBulkEntry x + uptoBulkEntries r
def uptoBulkEntry {H : Type} : Lit × DataW H → Nat
  | (.string bytes, d) => bytes.length + uptoBulk d + 1
  | (_, d) => uptoBulk d + 1
 end
def uptoSmall : (H : Type) → List (DataW H) → Bool := fun _ ds => decide (uptoBulkAll ds ≤ 1048576)
def OpenSpec.upto (s : _root_.Go.ChangeSpec) : _root_.Go.OpenSpec := { _root_.Go.OpenSpec.ofChange s with cond := some uptoSmall }

/-- 'customslaw26.YieldBatches', WHERE WHAT IT READS IS OF BULK AT MOST 1048576: true; the input reads as it did. -/
def yieldBatchesUptoRow : OpenClaim := { program := "ytoeghejbgibioaa", sum := "af5f519050138ec6bcde3803f1876864c3463a42fb583c653f7566956cbb277d", func := "customs/customslaw26.YieldBatches", spec := "yieldBatches", unfollowed := true, recurses := true, apart := false, narrowed := true }
def YieldBatchesUptoSaid : Prop := yieldBatchesUptoRow.holds Try.pinned (OpenSpec.upto yieldBatchesSpec)

/-- 'customslaw26.YieldExplode', WHERE WHAT IT READS IS OF BULK AT MOST 1048576: true; the input reads as it did. -/
def yieldExplodeUptoRow : OpenClaim := { program := "ytoeghejbgibioaa", sum := "af5f519050138ec6bcde3803f1876864c3463a42fb583c653f7566956cbb277d", func := "customs/customslaw26.YieldExplode", spec := "yieldExplode", unfollowed := true, recurses := true, apart := false, narrowed := true }
def YieldExplodeUptoSaid : Prop := yieldExplodeUptoRow.holds Try.pinned (OpenSpec.upto yieldExplodeSpec)

/-- 'customslaw26.YieldEnough', WHERE WHAT IT READS IS OF BULK AT MOST 1048576: true; the input reads as it did. -/
def yieldEnoughUptoRow : OpenClaim := { program := "ytoeghejbgibioaa", sum := "af5f519050138ec6bcde3803f1876864c3463a42fb583c653f7566956cbb277d", func := "customs/customslaw26.YieldEnough", spec := "yieldEnough", unfollowed := true, recurses := true, apart := false, narrowed := true }
def YieldEnoughUptoSaid : Prop := yieldEnoughUptoRow.holds Try.pinned (OpenSpec.upto yieldEnoughSpec)

/-- 'customslaw26.YieldSettle', WHERE WHAT IT READS IS OF BULK AT MOST 1048576: true; the input reads as it did. -/
def yieldSettleUptoRow : OpenClaim := { program := "ytoeghejbgibioaa", sum := "af5f519050138ec6bcde3803f1876864c3463a42fb583c653f7566956cbb277d", func := "customs/customslaw26.YieldSettle", spec := "yieldSettle", unfollowed := true, recurses := true, apart := false, narrowed := true }
def YieldSettleUptoSaid : Prop := yieldSettleUptoRow.holds Try.pinned (OpenSpec.upto yieldSettleSpec)

/-- 'customslaw26.YieldSettleMost', WHERE WHAT IT READS IS OF BULK AT MOST 1048576: true; the input reads as it did. -/
def yieldSettleMostUptoRow : OpenClaim := { program := "ytoeghejbgibioaa", sum := "af5f519050138ec6bcde3803f1876864c3463a42fb583c653f7566956cbb277d", func := "customs/customslaw26.YieldSettleMost", spec := "yieldSettleMost", unfollowed := true, recurses := true, apart := false, narrowed := true }
def YieldSettleMostUptoSaid : Prop := yieldSettleMostUptoRow.holds Try.pinned (OpenSpec.upto yieldSettleMostSpec)

/-- 'customslaw26.YieldMake', WHERE WHAT IT READS IS OF BULK AT MOST 1048576: true; the input reads as it did. -/
def yieldMakeUptoRow : OpenClaim := { program := "ytoeghejbgibioaa", sum := "af5f519050138ec6bcde3803f1876864c3463a42fb583c653f7566956cbb277d", func := "customs/customslaw26.YieldMake", spec := "yieldMake", unfollowed := true, recurses := true, apart := false, narrowed := true }
def YieldMakeUptoSaid : Prop := yieldMakeUptoRow.holds Try.pinned (OpenSpec.upto yieldMakeSpec)

end Rows
end Go.Proofs.Ytoeghejbgibioaa
