/-
  No cell of these rows narrows 'for every input' (looked for: loops, veiled, ifaces, maps, wideKeys, modest, calm, conditions, laid).
  DERIVED. THE GIVEN ROWS OF THIS SEAT. 3 by the template 'for every input the law returns true; each argument reads behind the call as it read before'; 0 by the template 'total and deterministic' (their statements: YtdibfkncofckiaaTotals.lean).
  GIVEN WITH THE SEED: the statements are not yours to turn. If you find one false, say at which input.
  Laid BY PROGRAM, IN A SANDBOX (cutbox-rows.mjs): the forced cells as the released guide's own fill.sh prints them over the translation ca08ec9fa2674e00… (all of the seat's roots in one cut). By AI agents, Wed Nov 11 2026. No macro, syntax, notation, axiom, sorry.
-/
import Derived.Test.YtdibfkncofckiaaChecked
import GoSem.Claim
import GoSem.ClaimJoined
import GoSem.ClaimMapViews
import Derived.JoinedTies
import Derived.KernelRfl
namespace Go.Proofs.Ytdibfkncofckiaa
/- THE CELL 'sum', in the pinned program and in every row, IS THE sha256 OF THE DUMP (.gsa) THAT YtdibfkncofckiaaProg.lean LOADS. Nothing in Lean hashes anything: it is a label: what it is worth is what the hold of that sum in a sandbox is worth. -/
noncomputable def Try.pinned : Pinned := { name := "ytdibfkncofckiaa", sum := "ca08ec9fa2674e001b07d9d9d37ce26f68f23cd0d53d0f50a27c1b3baab9cb3a", checked := Try.checked }
namespace Rows
def none {H : Type} : Left H := { results := [], args := [] }

/-- 'customslaw27.LatentPortion': WHATEVER THE INPUT: true; the input reads as it did. -/
def latentPortionSpec : ChangeSpec := { name := "latentPortion", fn := fun _ => fun
  | [d1, d2, d3, d4, d5, d6] => { results := [.lit (.bool true)], args := [d1, d2, d3, d4, d5, d6] }
  | _ => none }
def latentPortionRow : OpenClaim := { program := "ytdibfkncofckiaa", sum := "ca08ec9fa2674e001b07d9d9d37ce26f68f23cd0d53d0f50a27c1b3baab9cb3a", func := "customs/customslaw27.LatentPortion", spec := "latentPortion", unfollowed := true, recurses := true, named := ["math/bits.divideError", "math/bits.overflowError"], apart := false }
def LatentPortionSaid : Prop := latentPortionRow.holds Try.pinned (OpenSpec.ofChange latentPortionSpec)

/-- ITS FALSE NEIGHBOUR: 'it returns false'. Refute it at one input. -/
def latentPortionWrong : ChangeSpec := { name := "latentPortion", fn := fun _ => fun
  | [d1, d2, d3, d4, d5, d6] => { results := [.lit (.bool false)], args := [d1, d2, d3, d4, d5, d6] }
  | _ => none }
def LatentPortionWrongFalsely : Prop := latentPortionRow.holds Try.pinned (OpenSpec.ofChange latentPortionWrong)

/-- 'customslaw27.LatentNear': WHATEVER THE INPUT: true; the input reads as it did. -/
def latentNearSpec : ChangeSpec := { name := "latentNear", fn := fun _ => fun
  | [d1, d2, d3, d4] => { results := [.lit (.bool true)], args := [d1, d2, d3, d4] }
  | _ => none }
def latentNearRow : OpenClaim := { program := "ytdibfkncofckiaa", sum := "ca08ec9fa2674e001b07d9d9d37ce26f68f23cd0d53d0f50a27c1b3baab9cb3a", func := "customs/customslaw27.LatentNear", spec := "latentNear", unfollowed := true, recurses := true, named := ["math/bits.divideError", "math/bits.overflowError"], apart := false }
def LatentNearSaid : Prop := latentNearRow.holds Try.pinned (OpenSpec.ofChange latentNearSpec)

/-- ITS FALSE NEIGHBOUR: 'it returns false'. Refute it at one input. -/
def latentNearWrong : ChangeSpec := { name := "latentNear", fn := fun _ => fun
  | [d1, d2, d3, d4] => { results := [.lit (.bool false)], args := [d1, d2, d3, d4] }
  | _ => none }
def LatentNearWrongFalsely : Prop := latentNearRow.holds Try.pinned (OpenSpec.ofChange latentNearWrong)

/-- 'customslaw27.LatentDuty': WHATEVER THE INPUT: true; the input reads as it did. -/
def latentDutySpec : ChangeSpec := { name := "latentDuty", fn := fun _ => fun
  | [d1, d2, d3, d4, d5] => { results := [.lit (.bool true)], args := [d1, d2, d3, d4, d5] }
  | _ => none }
def latentDutyRow : OpenClaim := { program := "ytdibfkncofckiaa", sum := "ca08ec9fa2674e001b07d9d9d37ce26f68f23cd0d53d0f50a27c1b3baab9cb3a", func := "customs/customslaw27.LatentDuty", spec := "latentDuty", unfollowed := true, recurses := true, named := ["math/bits.divideError", "math/bits.overflowError"], apart := false }
def LatentDutySaid : Prop := latentDutyRow.holds Try.pinned (OpenSpec.ofChange latentDutySpec)

/-- ITS FALSE NEIGHBOUR: 'it returns false'. Refute it at one input. -/
def latentDutyWrong : ChangeSpec := { name := "latentDuty", fn := fun _ => fun
  | [d1, d2, d3, d4, d5] => { results := [.lit (.bool false)], args := [d1, d2, d3, d4, d5] }
  | _ => none }
def LatentDutyWrongFalsely : Prop := latentDutyRow.holds Try.pinned (OpenSpec.ofChange latentDutyWrong)

/- THE SECOND FORM. 'bulk': how many values and letters a reading holds, each counted each time it is reached (what is shared counts as often as it is met; a slice's spare places count too). A statement '..UptoSaid' is the law's where the arguments, and the package variables that the reading takes, are together of bulk at most 1048576: NARROWER than '..Said'. Prove '..Said' where nothing that the law and all that it calls make is longer than what came in: it says more and counts as full. Else prove '..UptoSaid'. A law counts once. -/
mutual
def uptoBulk {H : Type} : DataW H → Nat
  | .lit (.string bytes) => bytes.length + 1
  | .lit _ => 1
  | .nil => 1
  | .ptr d => uptoBulk d + 1
  | .slice elems spare => uptoBulkAll elems + uptoBulkAll spare + 1
  | .agg parts => uptoBulkAll parts + 1
  | .iface _ d => uptoBulk d + 1
  | .map entries => uptoBulkEntries entries + 1
  | .held _ => 1
def uptoBulkAll {H : Type} : List (DataW H) → Nat
  | [] => 0
  | d :: r => uptoBulk d + uptoBulkAll r
def uptoBulkEntries {H : Type} : List (Lit × DataW H) → Nat
  | [] => 0
  | x :: r => uptoBulkEntry x + uptoBulkEntries r
def uptoBulkEntry {H : Type} : Lit × DataW H → Nat
  | (.string bytes, d) => bytes.length + uptoBulk d + 1
  | (_, d) => uptoBulk d + 1
 end
def uptoSmall : (H : Type) → List (DataW H) → Bool := fun _ ds => decide (uptoBulkAll ds ≤ 1048576)
def OpenSpec.upto (s : _root_.Go.ChangeSpec) : _root_.Go.OpenSpec := { _root_.Go.OpenSpec.ofChange s with cond := some uptoSmall }

/-- 'customslaw27.LatentPortion', WHERE WHAT IT READS IS OF BULK AT MOST 1048576: true; the input reads as it did. -/
def latentPortionUptoRow : OpenClaim := { program := "ytdibfkncofckiaa", sum := "ca08ec9fa2674e001b07d9d9d37ce26f68f23cd0d53d0f50a27c1b3baab9cb3a", func := "customs/customslaw27.LatentPortion", spec := "latentPortion", unfollowed := true, recurses := true, named := ["math/bits.divideError", "math/bits.overflowError"], apart := false, narrowed := true }
def LatentPortionUptoSaid : Prop := latentPortionUptoRow.holds Try.pinned (OpenSpec.upto latentPortionSpec)

/-- 'customslaw27.LatentNear', WHERE WHAT IT READS IS OF BULK AT MOST 1048576: true; the input reads as it did. -/
def latentNearUptoRow : OpenClaim := { program := "ytdibfkncofckiaa", sum := "ca08ec9fa2674e001b07d9d9d37ce26f68f23cd0d53d0f50a27c1b3baab9cb3a", func := "customs/customslaw27.LatentNear", spec := "latentNear", unfollowed := true, recurses := true, named := ["math/bits.divideError", "math/bits.overflowError"], apart := false, narrowed := true }
def LatentNearUptoSaid : Prop := latentNearUptoRow.holds Try.pinned (OpenSpec.upto latentNearSpec)

/-- 'customslaw27.LatentDuty', WHERE WHAT IT READS IS OF BULK AT MOST 1048576: true; the input reads as it did. -/
def latentDutyUptoRow : OpenClaim := { program := "ytdibfkncofckiaa", sum := "ca08ec9fa2674e001b07d9d9d37ce26f68f23cd0d53d0f50a27c1b3baab9cb3a", func := "customs/customslaw27.LatentDuty", spec := "latentDuty", unfollowed := true, recurses := true, named := ["math/bits.divideError", "math/bits.overflowError"], apart := false, narrowed := true }
def LatentDutyUptoSaid : Prop := latentDutyUptoRow.holds Try.pinned (OpenSpec.upto latentDutySpec)

end Rows
end Go.Proofs.Ytdibfkncofckiaa
