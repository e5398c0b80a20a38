/- Guarantees that come in. -/
import Derived.Test.YteilknlokjfelaaOpenT
import Derived.Test.YteilknlokjfelaaGua5
namespace Go.Proofs.Yteilknlokjfelaa
open Go.RowKit Go.WideShapes Go.ChangeShapes Go.Deep
set_option linter.unusedVariables false

section
variable {H : Type} {enc : TypeId × Value → H} {W : World}
def RvWf (x : Rv) : Prop := (Lit.int .i64 x.m).wf = true ∧ (Lit.int .i64 x.a).wf = true
/-- The head of a guarantee that came in. -/
structure GHead where
  id : Int
  rf : Int
  lv : Int

theorem open_gua {b0 : Nat} {v : Value} {d : DataW H} {ps : List MemPlace} (hv : Value.okWide Try.prog W .any b0 25 v) (h : DataW.Trod enc Try.prog W 0 (fun _ => true) true 25 v d ps) :
    ∃ (g : GHead) (A : Option Addr) (c : Nat) (us : List Rv), v = gv g.id g.rf g.lv A us.length c ∧ us.length ≤ maxLen ∧ GuIn W A c us ∧ ((Lit.int .i64 g.id).wf = true ∧ (Lit.int .i64 g.rf).wf = true ∧ (Lit.int .i64 g.lv).wf = true) ∧ ∀ x ∈ us, RvWf x := by
  obtain ⟨v0, v1, v2, v3, y0, y1, y2, y3, n, rfl, _, _, ht0, ht1, ht2, ht3⟩ := Joins.open_agg4 Try.underlying25 (by kernel_rfl) (by kernel_rfl) hv h
  obtain ⟨a0, h0, _, w0⟩ := DataW.trod_int Try.underlying3 ht0
  obtain ⟨a1, h1, _, w1⟩ := DataW.trod_int Try.underlying3 ht1
  obtain ⟨a2, h2, _, w2⟩ := DataW.trod_int Try.underlying3 ht2
  simp at h0 h1 h2
  subst h0 h1 h2
  obtain ⟨A, c, us, rfl, e1, e2, e3, e4, e5⟩ := open_rowsT Rv.cells RvWf ⟨0, 0⟩ Try.underlying23 Try.underlying39 (by kernel_rfl) (by kernel_rfl) ht3 (fun x => rfl) (by decide) (by
    intro n c hf
    obtain ⟨v0, y0, hc0, ht0⟩ := hf 0 _ rfl
    obtain ⟨v1, y1, hc1, ht1⟩ := hf 1 _ rfl
    obtain ⟨a, h0, _, ha⟩ := DataW.trod_int Try.underlying3 ht0
    obtain ⟨b, h1, _, hb⟩ := DataW.trod_int Try.underlying3 ht1
    simp at h0 h1
    subst h0 h1
    refine ⟨⟨a, b⟩, ⟨ha, hb⟩, fun j u hu => ?_⟩
    match j, hu with
    | 0, hu => rw [hc0]; exact hu
    | 1, hu => rw [hc1]; exact hu
    | j + 2, hu => simp [Rv.cells] at hu)
  exact ⟨⟨a0, a1, a2⟩, A, c, us, rfl, by omega, ⟨e4, e1, e2, e3⟩, ⟨w0, w1, w2⟩, e5⟩
end

end Go.Proofs.Yteilknlokjfelaa
