/- A list of numbers as it comes in. -/
import Derived.Test.YtdfnnbamkaldmaaOp

namespace Go.Proofs.Ytdfnnbamkaldmaa
open Go.RowKit Go.WideShapes Go.ChangeShapes Go.Deep
set_option linter.unusedVariables false

section
variable {H : Type} {enc : TypeId × Value → H} {W : World} {b0 : Nat} {v : Value} {d : DataW H} {ps : List MemPlace}
theorem op_intl (hv : Value.okWide Try.prog W .any b0 22 v) (h : DataW.Trod enc Try.prog W 0 (fun _ => true) true 22 v d ps) : ∃ x : List Int, DenP (allM W) (.dat (ilst x)) v ∧ x.length ≤ 9223372036854775807 := by
  obtain ⟨x, h1, h2, _⟩ := (OpenC.ints Try.underlying22 Try.underlying3 (by kernel_rfl)).sl Try.underlying22 hv h
  exact ⟨x, h1, h2⟩
end
end Go.Proofs.Ytdfnnbamkaldmaa
