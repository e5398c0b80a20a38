/- Charges that come in. -/
import Derived.Test.YtfinilnaofbkkaaGreatOpL
namespace Go.Proofs.YtfinilnaofbkkaaGreat
open Go Go.RowKit Go.WideShapes Go.ChangeShapes Go.Deep
set_option linter.unusedVariables false
set_option linter.unusedSimpArgs false
set_option maxRecDepth 100000

section
variable {H : Type} {enc : TypeId × Value → H} {W : World} {b0 : Nat} {v : Value} {d : DataW H} {ps : List MemPlace}
theorem el_ch {fs : Array Field} (hfs : Tryz.prog.underlying 43 = some (.struct fs)) : ElemOf enc Tryz.prog W fs Ch chE (fun _ => True) := by
  rw [Tryz.underlying43] at hfs
  cases hfs
  intro c hf
  obtain ⟨_, y0, h0⟩ := hf 0 _ rfl
  obtain ⟨_, y1, h1⟩ := hf 1 _ rfl
  obtain ⟨_, y2, h2⟩ := hf 2 _ rfl
  obtain ⟨a, d0, o0, _⟩ := OpenC.int (enc := enc) (P := Tryz.prog) (W := W) Tryz.underlying3 _ _ _ h0
  obtain ⟨b, d1, o1, _⟩ := OpenC.int (enc := enc) (P := Tryz.prog) (W := W) Tryz.underlying3 _ _ _ h1
  obtain ⟨e, d2, o2, _⟩ := OpenC.int (enc := enc) (P := Tryz.prog) (W := W) Tryz.underlying3 _ _ _ h2
  refine ⟨⟨a, b, e⟩, trivial, fun j hj => ?_⟩
  match j, hj with
  | 0, _ => exact ⟨d0, o0⟩
  | 1, _ => exact ⟨d1, o1⟩
  | 2, _ => exact ⟨d2, o2⟩
theorem op_charges (hv : Value.okWide Tryz.prog W .any b0 24 v) (h : DataW.Trod enc Tryz.prog W 0 (fun _ => true) true 24 v d ps) : ∃ l : List Ch, DenP (allM W) (.dat (chD l)) v ∧ l.length ≤ maxLen := by
  obtain ⟨x, h1, h2, _⟩ := (OpenC.rows (enc := enc) (P := Tryz.prog) (W := W) Tryz.underlying24 Tryz.underlying43 (by kernel_rfl) (by kernel_rfl) (el_ch Tryz.underlying43)).sl Tryz.underlying24 hv h
  exact ⟨x, h1, h2⟩
end
end Go.Proofs.YtfinilnaofbkkaaGreat
