/-
  No cell of these rows narrows 'for every input' (looked for: loops, veiled, ifaces, maps, wideKeys, modest, calm, conditions, laid).
  DERIVED. THE GIVEN ROWS OF THIS SEAT. 8 by the template 'for every input the law returns true; each argument reads behind the call as it read before'; 0 by the template 'total and deterministic' (their statements: YtlbacbhafmfbjaaTotals.lean).
  GIVEN WITH THE SEED: the statements are not yours to turn. If you find one false, say at which input.
  Laid BY PROGRAM, IN A SANDBOX (cutbox-rows.mjs): the forced cells as the released guide's own fill.sh prints them over the translation 8439829c935d85dd… (all of the seat's roots in one cut). By AI agents, Wed Nov 11 2026. No macro, syntax, notation, axiom, sorry.
-/
import Derived.Test.YtlbacbhafmfbjaaChecked
import GoSem.Claim
import GoSem.ClaimJoined
import GoSem.ClaimMapViews
import Derived.JoinedTies
import Derived.KernelRfl
namespace Go.Proofs.Ytlbacbhafmfbjaa
/- THE CELL 'sum', in the pinned program and in every row, IS THE sha256 OF THE DUMP (.gsa) THAT YtlbacbhafmfbjaaProg.lean LOADS. Nothing in Lean hashes anything: it is a label: what it is worth is what the hold of that sum in a sandbox is worth. -/
noncomputable def Try.pinned : Pinned := { name := "ytlbacbhafmfbjaa", sum := "8439829c935d85dde3ab4d31151261deff6c199681058f2c29149022457d2a73", checked := Try.checked }
namespace Rows
def none {H : Type} : Left H := { results := [], args := [] }

/-- 'customslaw01.ExactDiv': WHATEVER THE INPUT: true; the input reads as it did. -/
def exactDivSpec : ChangeSpec := { name := "exactDiv", fn := fun _ => fun
  | [d1, d2, d3, d4, d5] => { results := [.lit (.bool true)], args := [d1, d2, d3, d4, d5] }
  | _ => none }
def exactDivRow : OpenClaim := { program := "ytlbacbhafmfbjaa", sum := "8439829c935d85dde3ab4d31151261deff6c199681058f2c29149022457d2a73", func := "customs/customslaw01.ExactDiv", spec := "exactDiv", named := ["math/bits.divideError", "math/bits.overflowError"], apart := false }
def ExactDivSaid : Prop := exactDivRow.holds Try.pinned (OpenSpec.ofChange exactDivSpec)

/-- ITS FALSE NEIGHBOUR: 'it returns false'. Refute it at one input. -/
def exactDivWrong : ChangeSpec := { name := "exactDiv", fn := fun _ => fun
  | [d1, d2, d3, d4, d5] => { results := [.lit (.bool false)], args := [d1, d2, d3, d4, d5] }
  | _ => none }
def ExactDivWrongFalsely : Prop := exactDivRow.holds Try.pinned (OpenSpec.ofChange exactDivWrong)

/-- 'customslaw01.ExactCompare': WHATEVER THE INPUT: true; the input reads as it did. -/
def exactCompareSpec : ChangeSpec := { name := "exactCompare", fn := fun _ => fun
  | [d1, d2, d3, d4, d5] => { results := [.lit (.bool true)], args := [d1, d2, d3, d4, d5] }
  | _ => none }
def exactCompareRow : OpenClaim := { program := "ytlbacbhafmfbjaa", sum := "8439829c935d85dde3ab4d31151261deff6c199681058f2c29149022457d2a73", func := "customs/customslaw01.ExactCompare", spec := "exactCompare", named := ["math/bits.divideError", "math/bits.overflowError"], apart := false }
def ExactCompareSaid : Prop := exactCompareRow.holds Try.pinned (OpenSpec.ofChange exactCompareSpec)

/-- ITS FALSE NEIGHBOUR: 'it returns false'. Refute it at one input. -/
def exactCompareWrong : ChangeSpec := { name := "exactCompare", fn := fun _ => fun
  | [d1, d2, d3, d4, d5] => { results := [.lit (.bool false)], args := [d1, d2, d3, d4, d5] }
  | _ => none }
def ExactCompareWrongFalsely : Prop := exactCompareRow.holds Try.pinned (OpenSpec.ofChange exactCompareWrong)

/-- 'customslaw01.ExactOrder': WHATEVER THE INPUT: true; the input reads as it did. -/
def exactOrderSpec : ChangeSpec := { name := "exactOrder", fn := fun _ => fun
  | [d1, d2, d3, d4, d5, d6] => { results := [.lit (.bool true)], args := [d1, d2, d3, d4, d5, d6] }
  | _ => none }
def exactOrderRow : OpenClaim := { program := "ytlbacbhafmfbjaa", sum := "8439829c935d85dde3ab4d31151261deff6c199681058f2c29149022457d2a73", func := "customs/customslaw01.ExactOrder", spec := "exactOrder", named := ["math/bits.divideError", "math/bits.overflowError"], apart := false }
def ExactOrderSaid : Prop := exactOrderRow.holds Try.pinned (OpenSpec.ofChange exactOrderSpec)

/-- ITS FALSE NEIGHBOUR: 'it returns false'. Refute it at one input. -/
def exactOrderWrong : ChangeSpec := { name := "exactOrder", fn := fun _ => fun
  | [d1, d2, d3, d4, d5, d6] => { results := [.lit (.bool false)], args := [d1, d2, d3, d4, d5, d6] }
  | _ => none }
def ExactOrderWrongFalsely : Prop := exactOrderRow.holds Try.pinned (OpenSpec.ofChange exactOrderWrong)

/-- 'customslaw01.ExactMul': WHATEVER THE INPUT: true; the input reads as it did. -/
def exactMulSpec : ChangeSpec := { name := "exactMul", fn := fun _ => fun
  | [d1, d2, d3] => { results := [.lit (.bool true)], args := [d1, d2, d3] }
  | _ => none }
def exactMulRow : OpenClaim := { program := "ytlbacbhafmfbjaa", sum := "8439829c935d85dde3ab4d31151261deff6c199681058f2c29149022457d2a73", func := "customs/customslaw01.ExactMul", spec := "exactMul", inPlace := ["math/bits.Add64"], named := ["math/bits.divideError", "math/bits.overflowError"], apart := false }
def ExactMulSaid : Prop := exactMulRow.holds Try.pinned (OpenSpec.ofChange exactMulSpec)

/-- ITS FALSE NEIGHBOUR: 'it returns false'. Refute it at one input. -/
def exactMulWrong : ChangeSpec := { name := "exactMul", fn := fun _ => fun
  | [d1, d2, d3] => { results := [.lit (.bool false)], args := [d1, d2, d3] }
  | _ => none }
def ExactMulWrongFalsely : Prop := exactMulRow.holds Try.pinned (OpenSpec.ofChange exactMulWrong)

/-- 'customslaw01.ExactModes': WHATEVER THE INPUT: true; the input reads as it did. -/
def exactModesSpec : ChangeSpec := { name := "exactModes", fn := fun _ => fun
  | [d1, d2, d3] => { results := [.lit (.bool true)], args := [d1, d2, d3] }
  | _ => none }
def exactModesRow : OpenClaim := { program := "ytlbacbhafmfbjaa", sum := "8439829c935d85dde3ab4d31151261deff6c199681058f2c29149022457d2a73", func := "customs/customslaw01.ExactModes", spec := "exactModes", named := ["math/bits.divideError", "math/bits.overflowError"], apart := false }
def ExactModesSaid : Prop := exactModesRow.holds Try.pinned (OpenSpec.ofChange exactModesSpec)

/-- ITS FALSE NEIGHBOUR: 'it returns false'. Refute it at one input. -/
def exactModesWrong : ChangeSpec := { name := "exactModes", fn := fun _ => fun
  | [d1, d2, d3] => { results := [.lit (.bool false)], args := [d1, d2, d3] }
  | _ => none }
def ExactModesWrongFalsely : Prop := exactModesRow.holds Try.pinned (OpenSpec.ofChange exactModesWrong)

/-- 'customslaw01.ExactGcd': WHATEVER THE INPUT: true; the input reads as it did. -/
def exactGcdSpec : ChangeSpec := { name := "exactGcd", fn := fun _ => fun
  | [d1, d2, d3] => { results := [.lit (.bool true)], args := [d1, d2, d3] }
  | _ => none }
def exactGcdRow : OpenClaim := { program := "ytlbacbhafmfbjaa", sum := "8439829c935d85dde3ab4d31151261deff6c199681058f2c29149022457d2a73", func := "customs/customslaw01.ExactGcd", spec := "exactGcd", named := ["math/bits.divideError", "math/bits.overflowError"], apart := false }
def ExactGcdSaid : Prop := exactGcdRow.holds Try.pinned (OpenSpec.ofChange exactGcdSpec)

/-- ITS FALSE NEIGHBOUR: 'it returns false'. Refute it at one input. -/
def exactGcdWrong : ChangeSpec := { name := "exactGcd", fn := fun _ => fun
  | [d1, d2, d3] => { results := [.lit (.bool false)], args := [d1, d2, d3] }
  | _ => none }
def ExactGcdWrongFalsely : Prop := exactGcdRow.holds Try.pinned (OpenSpec.ofChange exactGcdWrong)

/-- 'customslaw01.ExactAdd': WHATEVER THE INPUT: true; the input reads as it did. -/
def exactAddSpec : ChangeSpec := { name := "exactAdd", fn := fun _ => fun
  | [d1, d2, d3, d4] => { results := [.lit (.bool true)], args := [d1, d2, d3, d4] }
  | _ => none }
def exactAddRow : OpenClaim := { program := "ytlbacbhafmfbjaa", sum := "8439829c935d85dde3ab4d31151261deff6c199681058f2c29149022457d2a73", func := "customs/customslaw01.ExactAdd", spec := "exactAdd", inPlace := ["math/bits.Add64"], named := ["math/bits.divideError", "math/bits.overflowError"], apart := false }
def ExactAddSaid : Prop := exactAddRow.holds Try.pinned (OpenSpec.ofChange exactAddSpec)

/-- ITS FALSE NEIGHBOUR: 'it returns false'. Refute it at one input. -/
def exactAddWrong : ChangeSpec := { name := "exactAdd", fn := fun _ => fun
  | [d1, d2, d3, d4] => { results := [.lit (.bool false)], args := [d1, d2, d3, d4] }
  | _ => none }
def ExactAddWrongFalsely : Prop := exactAddRow.holds Try.pinned (OpenSpec.ofChange exactAddWrong)

/-- 'customslaw01.ExactMulDiv': WHATEVER THE INPUT: true; the input reads as it did. -/
def exactMulDivSpec : ChangeSpec := { name := "exactMulDiv", fn := fun _ => fun
  | [d1, d2, d3, d4] => { results := [.lit (.bool true)], args := [d1, d2, d3, d4] }
  | _ => none }
def exactMulDivRow : OpenClaim := { program := "ytlbacbhafmfbjaa", sum := "8439829c935d85dde3ab4d31151261deff6c199681058f2c29149022457d2a73", func := "customs/customslaw01.ExactMulDiv", spec := "exactMulDiv", inPlace := ["math/bits.Add64"], named := ["math/bits.divideError", "math/bits.overflowError"], apart := false }
def ExactMulDivSaid : Prop := exactMulDivRow.holds Try.pinned (OpenSpec.ofChange exactMulDivSpec)

/-- ITS FALSE NEIGHBOUR: 'it returns false'. Refute it at one input. -/
def exactMulDivWrong : ChangeSpec := { name := "exactMulDiv", fn := fun _ => fun
  | [d1, d2, d3, d4] => { results := [.lit (.bool false)], args := [d1, d2, d3, d4] }
  | _ => none }
def ExactMulDivWrongFalsely : Prop := exactMulDivRow.holds Try.pinned (OpenSpec.ofChange exactMulDivWrong)

/- THE SECOND FORM. 'bulk': how many values and letters a reading holds, each counted each time it is reached (what is shared counts as often as it is met; a slice's spare places count too). A statement '..UptoSaid' is the law's where the arguments, and the package variables that the reading takes, are together of bulk at most 1048576: NARROWER than '..Said'. Prove '..Said' where nothing that the law and all that it calls make is longer than what came in: it says more and counts as full. Else prove '..UptoSaid'. A law counts once. -/
mutual
def uptoBulk {H : Type} : DataW H → Nat
  | .lit (.string bytes) => bytes.length + 1
  | .lit _ => 1
  | .nil => 1
  | .ptr d => uptoBulk d + 1
  | .slice elems spare => uptoBulkAll elems + uptoBulkAll spare + 1
  | .agg parts => uptoBulkAll parts + 1
  | .iface _ d => uptoBulk d + 1
  | .map entries => uptoBulkEntries entries + 1
  | .held _ => 1
def uptoBulkAll {H : Type} : List (DataW H) → Nat
  | [] => 0
  | d :: r => uptoBulk d + uptoBulkAll r
def uptoBulkEntries {H : Type} : List (Lit × DataW H) → Nat
  | [] => 0
  | x :: r => uptoBulkEntry x + uptoBulkEntries r
def uptoBulkEntry {H : Type} : Lit × DataW H → Nat
  | (.string bytes, d) => bytes.length + uptoBulk d + 1
  | (_, d) => uptoBulk d + 1
 end
def uptoSmall : (H : Type) → List (DataW H) → Bool := fun _ ds => decide (uptoBulkAll ds ≤ 1048576)
def OpenSpec.upto (s : _root_.Go.ChangeSpec) : _root_.Go.OpenSpec := { _root_.Go.OpenSpec.ofChange s with cond := some uptoSmall }

/-- 'customslaw01.ExactDiv', WHERE WHAT IT READS IS OF BULK AT MOST 1048576: true; the input reads as it did. -/
def exactDivUptoRow : OpenClaim := { program := "ytlbacbhafmfbjaa", sum := "8439829c935d85dde3ab4d31151261deff6c199681058f2c29149022457d2a73", func := "customs/customslaw01.ExactDiv", spec := "exactDiv", named := ["math/bits.divideError", "math/bits.overflowError"], apart := false, narrowed := true }
def ExactDivUptoSaid : Prop := exactDivUptoRow.holds Try.pinned (OpenSpec.upto exactDivSpec)

/-- 'customslaw01.ExactCompare', WHERE WHAT IT READS IS OF BULK AT MOST 1048576: true; the input reads as it did. -/
def exactCompareUptoRow : OpenClaim := { program := "ytlbacbhafmfbjaa", sum := "8439829c935d85dde3ab4d31151261deff6c199681058f2c29149022457d2a73", func := "customs/customslaw01.ExactCompare", spec := "exactCompare", named := ["math/bits.divideError", "math/bits.overflowError"], apart := false, narrowed := true }
def ExactCompareUptoSaid : Prop := exactCompareUptoRow.holds Try.pinned (OpenSpec.upto exactCompareSpec)

/-- 'customslaw01.ExactOrder', WHERE WHAT IT READS IS OF BULK AT MOST 1048576: true; the input reads as it did. -/
def exactOrderUptoRow : OpenClaim := { program := "ytlbacbhafmfbjaa", sum := "8439829c935d85dde3ab4d31151261deff6c199681058f2c29149022457d2a73", func := "customs/customslaw01.ExactOrder", spec := "exactOrder", named := ["math/bits.divideError", "math/bits.overflowError"], apart := false, narrowed := true }
def ExactOrderUptoSaid : Prop := exactOrderUptoRow.holds Try.pinned (OpenSpec.upto exactOrderSpec)

/-- 'customslaw01.ExactMul', WHERE WHAT IT READS IS OF BULK AT MOST 1048576: true; the input reads as it did. -/
def exactMulUptoRow : OpenClaim := { program := "ytlbacbhafmfbjaa", sum := "8439829c935d85dde3ab4d31151261deff6c199681058f2c29149022457d2a73", func := "customs/customslaw01.ExactMul", spec := "exactMul", inPlace := ["math/bits.Add64"], named := ["math/bits.divideError", "math/bits.overflowError"], apart := false, narrowed := true }
def ExactMulUptoSaid : Prop := exactMulUptoRow.holds Try.pinned (OpenSpec.upto exactMulSpec)

/-- 'customslaw01.ExactModes', WHERE WHAT IT READS IS OF BULK AT MOST 1048576: true; the input reads as it did. -/
def exactModesUptoRow : OpenClaim := { program := "ytlbacbhafmfbjaa", sum := "8439829c935d85dde3ab4d31151261deff6c199681058f2c29149022457d2a73", func := "customs/customslaw01.ExactModes", spec := "exactModes", named := ["math/bits.divideError", "math/bits.overflowError"], apart := false, narrowed := true }
def ExactModesUptoSaid : Prop := exactModesUptoRow.holds Try.pinned (OpenSpec.upto exactModesSpec)

/-- 'customslaw01.ExactGcd', WHERE WHAT IT READS IS OF BULK AT MOST 1048576: true; the input reads as it did. -/
def exactGcdUptoRow : OpenClaim := { program := "ytlbacbhafmfbjaa", sum := "8439829c935d85dde3ab4d31151261deff6c199681058f2c29149022457d2a73", func := "customs/customslaw01.ExactGcd", spec := "exactGcd", named := ["math/bits.divideError", "math/bits.overflowError"], apart := false, narrowed := true }
def ExactGcdUptoSaid : Prop := exactGcdUptoRow.holds Try.pinned (OpenSpec.upto exactGcdSpec)

/-- 'customslaw01.ExactAdd', WHERE WHAT IT READS IS OF BULK AT MOST 1048576: true; the input reads as it did. -/
def exactAddUptoRow : OpenClaim := { program := "ytlbacbhafmfbjaa", sum := "8439829c935d85dde3ab4d31151261deff6c199681058f2c29149022457d2a73", func := "customs/customslaw01.ExactAdd", spec := "exactAdd", inPlace := ["math/bits.Add64"], named := ["math/bits.divideError", "math/bits.overflowError"], apart := false, narrowed := true }
def ExactAddUptoSaid : Prop := exactAddUptoRow.holds Try.pinned (OpenSpec.upto exactAddSpec)

/-- 'customslaw01.ExactMulDiv', WHERE WHAT IT READS IS OF BULK AT MOST 1048576: true; the input reads as it did. -/
def exactMulDivUptoRow : OpenClaim := { program := "ytlbacbhafmfbjaa", sum := "8439829c935d85dde3ab4d31151261deff6c199681058f2c29149022457d2a73", func := "customs/customslaw01.ExactMulDiv", spec := "exactMulDiv", inPlace := ["math/bits.Add64"], named := ["math/bits.divideError", "math/bits.overflowError"], apart := false, narrowed := true }
def ExactMulDivUptoSaid : Prop := exactMulDivUptoRow.holds Try.pinned (OpenSpec.upto exactMulDivSpec)

end Rows
end Go.Proofs.Ytlbacbhafmfbjaa
