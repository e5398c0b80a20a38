/- Tables and rows that come in. -/
import Derived.Test.YtjlfllhokhekbaaOpen
import Derived.Test.YtjlfllhokhekbaaCur1
namespace Go.Proofs.Ytjlfllhokhekbaa
open Go.RowKit Go.WideShapes Go.ChangeShapes Go.Deep
set_option linter.unusedVariables false

section
variable {H : Type} {enc : TypeId × Value → H} {W : World}
/-- Bounds of a row that came in. -/
def ExIn (x : Ex) : Prop := x.c.size ≤ maxLen ∧ (Lit.int .i64 x.f).wf = true ∧ (Lit.int .i64 x.p).wf = true

theorem open_exs {b0 : Nat} {v : Value} {d : DataW H} {ps : List MemPlace} (hv : Value.okWide Try.prog W .any b0 22 v) (h : DataW.Trod enc Try.prog W 0 (fun _ => true) true 22 v d ps) :
    ∃ A c xs, v = .slice A (List.length xs) c ∧ xs.length ≤ c ∧ c ≤ maxLen ∧ Tab W W.heap.size A xs ∧ ∀ x ∈ xs, ExIn x := by
  refine open_rows Ex.cells ExIn ⟨⟨#[]⟩, 0, 0⟩ Try.underlying22 Try.underlying25 (by kernel_rfl) (by kernel_rfl) hv h (fun x => rfl) (by decide) ?_
  intro n c hf
  obtain ⟨v0, y0, hc0, ht0⟩ := hf 0 _ rfl
  obtain ⟨v1, y1, hc1, ht1⟩ := hf 1 _ rfl
  obtain ⟨v2, y2, hc2, ht2⟩ := hf 2 _ rfl
  obtain ⟨s, h0, _, hs⟩ := DataW.trod_string Try.underlying9 ht0
  obtain ⟨a, h1, _, ha⟩ := DataW.trod_int Try.underlying3 ht1
  obtain ⟨b, h2, _, hb⟩ := DataW.trod_int Try.underlying3 ht2
  simp at h0 h1 h2
  subst h0 h1 h2
  refine ⟨⟨s, a, b⟩, ⟨hs, ha, hb⟩, fun j u hu => ?_⟩
  match j, hu with
  | 0, hu => rw [hc0]; exact hu
  | 1, hu => rw [hc1]; exact hu
  | 2, hu => rw [hc2]; exact hu
  | j + 3, hu => simp [Ex.cells] at hu

theorem open_ex {b0 : Nat} {v : Value} {d : DataW H} {ps : List MemPlace} (hv : Value.okWide Try.prog W .any b0 25 v) (h : DataW.Trod enc Try.prog W 0 (fun _ => true) true 25 v d ps) :
    ∃ x : Ex, v = x.val ∧ ExIn x := by
  obtain ⟨v0, v1, v2, y0, y1, y2, n, rfl, _, _, ht0, ht1, ht2⟩ := Joins.open_agg3 Try.underlying25 (by kernel_rfl) (by kernel_rfl) hv h
  obtain ⟨s, h0, _, hs⟩ := DataW.trod_string Try.underlying9 ht0
  obtain ⟨a, h1, _, ha⟩ := DataW.trod_int Try.underlying3 ht1
  obtain ⟨b, h2, _, hb⟩ := DataW.trod_int Try.underlying3 ht2
  simp at h0 h1 h2
  subst h0 h1 h2
  exact ⟨⟨s, a, b⟩, rfl, hs, ha, hb⟩
end

end Go.Proofs.Ytjlfllhokhekbaa
