/- Numbers and slices that come in. Lots and parts that come in. -/
import Derived.Test.YtojkeidijdcfoaaGreatDoorOp
import Derived.Test.YtojkeidijdcfoaaGreatDoorS1
import Derived.Test.YtojkeidijdcfoaaGreatDoorB8

namespace Go.Proofs.YtojkeidijdcfoaaGreatDoor
open Go Go.RowKit Go.WideShapes Go.ChangeShapes Go.Deep
set_option linter.unusedVariables false
set_option linter.unusedSimpArgs false
set_option maxRecDepth 100000

section
variable {H : Type} {enc : TypeId × Value → H} {W : World} {b0 : Nat} {v : Value} {d : DataW H} {ps : List MemPlace}
theorem op_intl (hv : Value.okWide Tryz.prog W .any b0 22 v) (h : DataW.Trod enc Tryz.prog W 0 (fun _ => true) true 22 v d ps) : ∃ x : List Int, DenP (allM W) (.dat (ilst x)) v ∧ x.length ≤ 9223372036854775807 := by
  obtain ⟨x, h1, h2, _⟩ := (OpenC.ints Tryz.underlying22 Tryz.underlying3 (by kernel_rfl)).sl Tryz.underlying22 hv h
  exact ⟨x, h1, h2⟩
end
end Go.Proofs.YtojkeidijdcfoaaGreatDoor

namespace Go.Proofs.YtojkeidijdcfoaaGreatDoor
open Go Go.RowKit Go.WideShapes Go.ChangeShapes Go.Deep
set_option linter.unusedVariables false
set_option linter.unusedSimpArgs false
set_option maxRecDepth 100000

section
variable {H : Type} {enc : TypeId × Value → H} {W : World} {b0 : Nat} {v : Value} {d : DataW H} {ps : List MemPlace}
end
end Go.Proofs.YtojkeidijdcfoaaGreatDoor
