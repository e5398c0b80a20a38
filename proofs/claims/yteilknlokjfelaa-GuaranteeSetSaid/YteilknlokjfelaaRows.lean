/-
  No cell of these rows narrows 'for every input' (looked for: loops, veiled, ifaces, maps, wideKeys, modest, calm, conditions, laid).
  DERIVED. THE GIVEN ROWS OF THIS SEAT. 7 by the template 'for every input the law returns true; each argument reads behind the call as it read before'; 0 by the template 'total and deterministic' (their statements: YteilknlokjfelaaTotals.lean).
  GIVEN WITH THE SEED: the statements are not yours to turn. If you find one false, say at which input.
  Laid BY PROGRAM, IN A SANDBOX (cutbox-rows.mjs): the forced cells as the released guide's own fill.sh prints them over the translation 7dabfd3b31f0fda1… (all of the seat's roots in one cut). By AI agents, Wed Nov 11 2026. No macro, syntax, notation, axiom, sorry.
-/
import Derived.Test.YteilknlokjfelaaChecked
import GoSem.Claim
import GoSem.ClaimJoined
import GoSem.ClaimMapViews
import Derived.JoinedTies
import Derived.KernelRfl
namespace Go.Proofs.Yteilknlokjfelaa
/- THE CELL 'sum', in the pinned program and in every row, IS THE sha256 OF THE DUMP (.gsa) THAT YteilknlokjfelaaProg.lean LOADS. Nothing in Lean hashes anything: it is a label: what it is worth is what the hold of that sum in a sandbox is worth. -/
noncomputable def Try.pinned : Pinned := { name := "yteilknlokjfelaa", sum := "7dabfd3b31f0fda1c33a4d95404fe5aea3f45a31a0f9cea14195ece3e9cda5f2", checked := Try.checked }
namespace Rows
def none {H : Type} : Left H := { results := [], args := [] }

/-- 'customslaw23.GuaranteeValidate': WHATEVER THE INPUT: true; the input reads as it did. -/
def guaranteeValidateSpec : ChangeSpec := { name := "guaranteeValidate", fn := fun _ => fun
  | [d1, d2, d3] => { results := [.lit (.bool true)], args := [d1, d2, d3] }
  | _ => none }
def guaranteeValidateRow : OpenClaim := { program := "yteilknlokjfelaa", sum := "7dabfd3b31f0fda1c33a4d95404fe5aea3f45a31a0f9cea14195ece3e9cda5f2", func := "customs/customslaw23.GuaranteeValidate", spec := "guaranteeValidate", unfollowed := true, recurses := true, named := ["math/bits.divideError", "math/bits.overflowError"], apart := false }
def GuaranteeValidateSaid : Prop := guaranteeValidateRow.holds Try.pinned (OpenSpec.ofChange guaranteeValidateSpec)

/-- ITS FALSE NEIGHBOUR: 'it returns false'. Refute it at one input. -/
def guaranteeValidateWrong : ChangeSpec := { name := "guaranteeValidate", fn := fun _ => fun
  | [d1, d2, d3] => { results := [.lit (.bool false)], args := [d1, d2, d3] }
  | _ => none }
def GuaranteeValidateWrongFalsely : Prop := guaranteeValidateRow.holds Try.pinned (OpenSpec.ofChange guaranteeValidateWrong)

/-- 'customslaw23.GuaranteeRequired': WHATEVER THE INPUT: true; the input reads as it did. -/
def guaranteeRequiredSpec : ChangeSpec := { name := "guaranteeRequired", fn := fun _ => fun
  | [d1, d2, d3] => { results := [.lit (.bool true)], args := [d1, d2, d3] }
  | _ => none }
def guaranteeRequiredRow : OpenClaim := { program := "yteilknlokjfelaa", sum := "7dabfd3b31f0fda1c33a4d95404fe5aea3f45a31a0f9cea14195ece3e9cda5f2", func := "customs/customslaw23.GuaranteeRequired", spec := "guaranteeRequired", unfollowed := true, recurses := true, named := ["math/bits.divideError", "math/bits.overflowError"], apart := false }
def GuaranteeRequiredSaid : Prop := guaranteeRequiredRow.holds Try.pinned (OpenSpec.ofChange guaranteeRequiredSpec)

/-- ITS FALSE NEIGHBOUR: 'it returns false'. Refute it at one input. -/
def guaranteeRequiredWrong : ChangeSpec := { name := "guaranteeRequired", fn := fun _ => fun
  | [d1, d2, d3] => { results := [.lit (.bool false)], args := [d1, d2, d3] }
  | _ => none }
def GuaranteeRequiredWrongFalsely : Prop := guaranteeRequiredRow.holds Try.pinned (OpenSpec.ofChange guaranteeRequiredWrong)

/-- 'customslaw23.GuaranteeRefused': WHATEVER THE INPUT: true; the input reads as it did. -/
def guaranteeRefusedSpec : ChangeSpec := { name := "guaranteeRefused", fn := fun _ => fun
  | [d1, d2, d3] => { results := [.lit (.bool true)], args := [d1, d2, d3] }
  | _ => none }
def guaranteeRefusedRow : OpenClaim := { program := "yteilknlokjfelaa", sum := "7dabfd3b31f0fda1c33a4d95404fe5aea3f45a31a0f9cea14195ece3e9cda5f2", func := "customs/customslaw23.GuaranteeRefused", spec := "guaranteeRefused", unfollowed := true, recurses := true, named := ["math/bits.divideError", "math/bits.overflowError"], apart := false }
def GuaranteeRefusedSaid : Prop := guaranteeRefusedRow.holds Try.pinned (OpenSpec.ofChange guaranteeRefusedSpec)

/-- ITS FALSE NEIGHBOUR: 'it returns false'. Refute it at one input. -/
def guaranteeRefusedWrong : ChangeSpec := { name := "guaranteeRefused", fn := fun _ => fun
  | [d1, d2, d3] => { results := [.lit (.bool false)], args := [d1, d2, d3] }
  | _ => none }
def GuaranteeRefusedWrongFalsely : Prop := guaranteeRefusedRow.holds Try.pinned (OpenSpec.ofChange guaranteeRefusedWrong)

/-- 'customslaw23.GuaranteeBack': WHATEVER THE INPUT: true; the input reads as it did. -/
def guaranteeBackSpec : ChangeSpec := { name := "guaranteeBack", fn := fun _ => fun
  | [d1, d2] => { results := [.lit (.bool true)], args := [d1, d2] }
  | _ => none }
def guaranteeBackRow : OpenClaim := { program := "yteilknlokjfelaa", sum := "7dabfd3b31f0fda1c33a4d95404fe5aea3f45a31a0f9cea14195ece3e9cda5f2", func := "customs/customslaw23.GuaranteeBack", spec := "guaranteeBack", unfollowed := true, recurses := true, named := ["math/bits.divideError", "math/bits.overflowError"], apart := false }
def GuaranteeBackSaid : Prop := guaranteeBackRow.holds Try.pinned (OpenSpec.ofChange guaranteeBackSpec)

/-- ITS FALSE NEIGHBOUR: 'it returns false'. Refute it at one input. -/
def guaranteeBackWrong : ChangeSpec := { name := "guaranteeBack", fn := fun _ => fun
  | [d1, d2] => { results := [.lit (.bool false)], args := [d1, d2] }
  | _ => none }
def GuaranteeBackWrongFalsely : Prop := guaranteeBackRow.holds Try.pinned (OpenSpec.ofChange guaranteeBackWrong)

/-- 'customslaw23.GuaranteeSet': WHATEVER THE INPUT: true; the input reads as it did. -/
def guaranteeSetSpec : ChangeSpec := { name := "guaranteeSet", fn := fun _ => fun
  | [d1, d2, d3, d4, d5] => { results := [.lit (.bool true)], args := [d1, d2, d3, d4, d5] }
  | _ => none }
def guaranteeSetRow : OpenClaim := { program := "yteilknlokjfelaa", sum := "7dabfd3b31f0fda1c33a4d95404fe5aea3f45a31a0f9cea14195ece3e9cda5f2", func := "customs/customslaw23.GuaranteeSet", spec := "guaranteeSet", unfollowed := true, recurses := true, named := ["math/bits.divideError", "math/bits.overflowError"], apart := false }
def GuaranteeSetSaid : Prop := guaranteeSetRow.holds Try.pinned (OpenSpec.ofChange guaranteeSetSpec)

/-- ITS FALSE NEIGHBOUR: 'it returns false'. Refute it at one input. -/
def guaranteeSetWrong : ChangeSpec := { name := "guaranteeSet", fn := fun _ => fun
  | [d1, d2, d3, d4, d5] => { results := [.lit (.bool false)], args := [d1, d2, d3, d4, d5] }
  | _ => none }
def GuaranteeSetWrongFalsely : Prop := guaranteeSetRow.holds Try.pinned (OpenSpec.ofChange guaranteeSetWrong)

/-- 'customslaw23.GuaranteeRun': WHATEVER THE INPUT: true; the input reads as it did. -/
def guaranteeRunSpec : ChangeSpec := { name := "guaranteeRun", fn := fun _ => fun
  | [d1, d2, d3, d4] => { results := [.lit (.bool true)], args := [d1, d2, d3, d4] }
  | _ => none }
def guaranteeRunRow : OpenClaim := { program := "yteilknlokjfelaa", sum := "7dabfd3b31f0fda1c33a4d95404fe5aea3f45a31a0f9cea14195ece3e9cda5f2", func := "customs/customslaw23.GuaranteeRun", spec := "guaranteeRun", unfollowed := true, recurses := true, named := ["math/bits.divideError", "math/bits.overflowError"], apart := false }
def GuaranteeRunSaid : Prop := guaranteeRunRow.holds Try.pinned (OpenSpec.ofChange guaranteeRunSpec)

/-- ITS FALSE NEIGHBOUR: 'it returns false'. Refute it at one input. -/
def guaranteeRunWrong : ChangeSpec := { name := "guaranteeRun", fn := fun _ => fun
  | [d1, d2, d3, d4] => { results := [.lit (.bool false)], args := [d1, d2, d3, d4] }
  | _ => none }
def GuaranteeRunWrongFalsely : Prop := guaranteeRunRow.holds Try.pinned (OpenSpec.ofChange guaranteeRunWrong)

/-- 'customslaw23.GuaranteeNever': WHATEVER THE INPUT: true; the input reads as it did. -/
def guaranteeNeverSpec : ChangeSpec := { name := "guaranteeNever", fn := fun _ => fun
  | [d1, d2, d3, d4] => { results := [.lit (.bool true)], args := [d1, d2, d3, d4] }
  | _ => none }
def guaranteeNeverRow : OpenClaim := { program := "yteilknlokjfelaa", sum := "7dabfd3b31f0fda1c33a4d95404fe5aea3f45a31a0f9cea14195ece3e9cda5f2", func := "customs/customslaw23.GuaranteeNever", spec := "guaranteeNever", unfollowed := true, recurses := true, named := ["math/bits.divideError", "math/bits.overflowError"], apart := false }
def GuaranteeNeverSaid : Prop := guaranteeNeverRow.holds Try.pinned (OpenSpec.ofChange guaranteeNeverSpec)

/-- ITS FALSE NEIGHBOUR: 'it returns false'. Refute it at one input. -/
def guaranteeNeverWrong : ChangeSpec := { name := "guaranteeNever", fn := fun _ => fun
  | [d1, d2, d3, d4] => { results := [.lit (.bool false)], args := [d1, d2, d3, d4] }
  | _ => none }
def GuaranteeNeverWrongFalsely : Prop := guaranteeNeverRow.holds Try.pinned (OpenSpec.ofChange guaranteeNeverWrong)

/- THE SECOND FORM. 'bulk': how many values and letters a reading holds, each counted each time it is reached (what is shared counts as often as it is met; a slice's spare places count too). A statement '..UptoSaid' is the law's where the arguments, and the package variables that the reading takes, are together of bulk at most 1048576: NARROWER than '..Said'. Prove '..Said' where nothing that the law and all that it calls make is longer than what came in: it says more and counts as full. Else prove '..UptoSaid'. A law counts once. -/
mutual
def uptoBulk {H : Type} : DataW H → Nat
  | .lit (.string bytes) => bytes.length + 1
  | .lit _ => 1
  | .nil => 1
  | .ptr d => uptoBulk d + 1
  | .slice elems spare => uptoBulkAll elems + uptoBulkAll spare + 1
  | .agg parts => uptoBulkAll parts + 1
  | .iface _ d => uptoBulk d + 1
  | .map entries => uptoBulkEntries entries + 1
  | .held _ => 1
def uptoBulkAll {H : Type} : List (DataW H) → Nat
  | [] => 0
  | d :: r => uptoBulk d + uptoBulkAll r
def uptoBulkEntries {H : Type} : List (Lit × DataW H) → Nat
  | [] => 0
  | x :: r => uptoBulkEntry x + uptoBulkEntries r
def uptoBulkEntry {H : Type} : Lit × DataW H → Nat
  | (.string bytes, d) => bytes.length + uptoBulk d + 1
  | (_, d) => uptoBulk d + 1
 end
def uptoSmall : (H : Type) → List (DataW H) → Bool := fun _ ds => decide (uptoBulkAll ds ≤ 1048576)
def OpenSpec.upto (s : _root_.Go.ChangeSpec) : _root_.Go.OpenSpec := { _root_.Go.OpenSpec.ofChange s with cond := some uptoSmall }

/-- 'customslaw23.GuaranteeValidate', WHERE WHAT IT READS IS OF BULK AT MOST 1048576: true; the input reads as it did. -/
def guaranteeValidateUptoRow : OpenClaim := { program := "yteilknlokjfelaa", sum := "7dabfd3b31f0fda1c33a4d95404fe5aea3f45a31a0f9cea14195ece3e9cda5f2", func := "customs/customslaw23.GuaranteeValidate", spec := "guaranteeValidate", unfollowed := true, recurses := true, named := ["math/bits.divideError", "math/bits.overflowError"], apart := false, narrowed := true }
def GuaranteeValidateUptoSaid : Prop := guaranteeValidateUptoRow.holds Try.pinned (OpenSpec.upto guaranteeValidateSpec)

/-- 'customslaw23.GuaranteeRequired', WHERE WHAT IT READS IS OF BULK AT MOST 1048576: true; the input reads as it did. -/
def guaranteeRequiredUptoRow : OpenClaim := { program := "yteilknlokjfelaa", sum := "7dabfd3b31f0fda1c33a4d95404fe5aea3f45a31a0f9cea14195ece3e9cda5f2", func := "customs/customslaw23.GuaranteeRequired", spec := "guaranteeRequired", unfollowed := true, recurses := true, named := ["math/bits.divideError", "math/bits.overflowError"], apart := false, narrowed := true }
def GuaranteeRequiredUptoSaid : Prop := guaranteeRequiredUptoRow.holds Try.pinned (OpenSpec.upto guaranteeRequiredSpec)

/-- 'customslaw23.GuaranteeRefused', WHERE WHAT IT READS IS OF BULK AT MOST 1048576: true; the input reads as it did. -/
def guaranteeRefusedUptoRow : OpenClaim := { program := "yteilknlokjfelaa", sum := "7dabfd3b31f0fda1c33a4d95404fe5aea3f45a31a0f9cea14195ece3e9cda5f2", func := "customs/customslaw23.GuaranteeRefused", spec := "guaranteeRefused", unfollowed := true, recurses := true, named := ["math/bits.divideError", "math/bits.overflowError"], apart := false, narrowed := true }
def GuaranteeRefusedUptoSaid : Prop := guaranteeRefusedUptoRow.holds Try.pinned (OpenSpec.upto guaranteeRefusedSpec)

/-- 'customslaw23.GuaranteeBack', WHERE WHAT IT READS IS OF BULK AT MOST 1048576: true; the input reads as it did. -/
def guaranteeBackUptoRow : OpenClaim := { program := "yteilknlokjfelaa", sum := "7dabfd3b31f0fda1c33a4d95404fe5aea3f45a31a0f9cea14195ece3e9cda5f2", func := "customs/customslaw23.GuaranteeBack", spec := "guaranteeBack", unfollowed := true, recurses := true, named := ["math/bits.divideError", "math/bits.overflowError"], apart := false, narrowed := true }
def GuaranteeBackUptoSaid : Prop := guaranteeBackUptoRow.holds Try.pinned (OpenSpec.upto guaranteeBackSpec)

/-- 'customslaw23.GuaranteeSet', WHERE WHAT IT READS IS OF BULK AT MOST 1048576: true; the input reads as it did. -/
def guaranteeSetUptoRow : OpenClaim := { program := "yteilknlokjfelaa", sum := "7dabfd3b31f0fda1c33a4d95404fe5aea3f45a31a0f9cea14195ece3e9cda5f2", func := "customs/customslaw23.GuaranteeSet", spec := "guaranteeSet", unfollowed := true, recurses := true, named := ["math/bits.divideError", "math/bits.overflowError"], apart := false, narrowed := true }
def GuaranteeSetUptoSaid : Prop := guaranteeSetUptoRow.holds Try.pinned (OpenSpec.upto guaranteeSetSpec)

/-- 'customslaw23.GuaranteeRun', WHERE WHAT IT READS IS OF BULK AT MOST 1048576: true; the input reads as it did. -/
def guaranteeRunUptoRow : OpenClaim := { program := "yteilknlokjfelaa", sum := "7dabfd3b31f0fda1c33a4d95404fe5aea3f45a31a0f9cea14195ece3e9cda5f2", func := "customs/customslaw23.GuaranteeRun", spec := "guaranteeRun", unfollowed := true, recurses := true, named := ["math/bits.divideError", "math/bits.overflowError"], apart := false, narrowed := true }
def GuaranteeRunUptoSaid : Prop := guaranteeRunUptoRow.holds Try.pinned (OpenSpec.upto guaranteeRunSpec)

/-- 'customslaw23.GuaranteeNever', WHERE WHAT IT READS IS OF BULK AT MOST 1048576: true; the input reads as it did. -/
def guaranteeNeverUptoRow : OpenClaim := { program := "yteilknlokjfelaa", sum := "7dabfd3b31f0fda1c33a4d95404fe5aea3f45a31a0f9cea14195ece3e9cda5f2", func := "customs/customslaw23.GuaranteeNever", spec := "guaranteeNever", unfollowed := true, recurses := true, named := ["math/bits.divideError", "math/bits.overflowError"], apart := false, narrowed := true }
def GuaranteeNeverUptoSaid : Prop := guaranteeNeverUptoRow.holds Try.pinned (OpenSpec.upto guaranteeNeverSpec)

end Rows
end Go.Proofs.Yteilknlokjfelaa
