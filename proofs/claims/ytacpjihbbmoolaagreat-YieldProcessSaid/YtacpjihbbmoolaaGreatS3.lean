/- Whether a lot is valid; portions of charges. -/
import Derived.Test.YtacpjihbbmoolaaGreatS2
namespace Go.Proofs.YtacpjihbbmoolaaGreat
open Go Go.RowKit
set_option linter.unusedVariables false
set_option linter.unusedSimpArgs false
set_option maxRecDepth 100000
set_option maxHeartbeats 4000000
attribute [local irreducible] ResLe AVle ArgLe ArgP EntLe Dle ResH ArgQ

theorem getD_in {α : Type} [Inhabited α] {us : List α} {k : Nat} (h : k < us.length) : us.getD k default ∈ us := by
  rw [List.getD_eq_getElem?_getD, List.getElem?_eq_getElem h]; exact List.getElem_mem _
theorem all_getD {α : Type} [Inhabited α] {us : List α} {p : α → Prop} : (∀ x ∈ us, p x) ↔ ∀ i, i < us.length → p (us.getD i default) := by
  refine ⟨fun h i hi => h _ (getD_in hi), fun h x hx => ?_⟩
  obtain ⟨i, hi, rfl⟩ := List.getElem_of_mem hx
  have := h i hi
  rwa [List.getD_eq_getElem?_getD, List.getElem?_eq_getElem hi] at this
noncomputable def lotErr (us : List Sl) : Int := if 64 < us.length then 8 else if ¬ (∀ x ∈ us, slOk x) then 2 else if ovl us then 13 else 0
end Go.Proofs.YtacpjihbbmoolaaGreat
