/- Slices and charges that come in. -/
import Derived.Test.YtdibfkncofckiaaOp
import Derived.Test.YtdibfkncofckiaaS5
namespace Go.Proofs.Ytdibfkncofckiaa
open Go Go.RowKit Go.WideShapes Go.ChangeShapes Go.Deep
set_option linter.unusedVariables false
set_option linter.unusedSimpArgs false

section
variable {H : Type} {enc : TypeId × Value → H} {W : World} {b0 : Nat} {v : Value} {d : DataW H} {ps : List MemPlace}
theorem op_intl (hv : Value.okWide Try.prog W .any b0 29 v) (h : DataW.Trod enc Try.prog W 0 (fun _ => true) true 29 v d ps) : ∃ x : List Int, DenP (allM W) (.dat (ilst x)) v ∧ x.length ≤ 9223372036854775807 := by
  obtain ⟨x, h1, h2, _⟩ := (OpenC.ints Try.underlying29 Try.underlying3 (by kernel_rfl)).sl Try.underlying29 hv h
  exact ⟨x, h1, h2⟩
theorem el_sl {fs : Array Field} (hfs : Try.prog.underlying 46 = some (.struct fs)) : ElemOf enc Try.prog W fs Sl slE (fun _ => True) := by
  rw [Try.underlying46] at hfs
  cases hfs
  intro c hf
  obtain ⟨_, y0, h0⟩ := hf 0 _ rfl
  obtain ⟨_, y1, h1⟩ := hf 1 _ rfl
  obtain ⟨_, y2, h2⟩ := hf 2 _ rfl
  obtain ⟨a, d0, o0, _⟩ := OpenC.int (enc := enc) (P := Try.prog) (W := W) Try.underlying3 _ _ _ h0
  obtain ⟨b, d1, o1, _⟩ := OpenC.int (enc := enc) (P := Try.prog) (W := W) Try.underlying3 _ _ _ h1
  obtain ⟨e, d2, o2, _⟩ := OpenC.int (enc := enc) (P := Try.prog) (W := W) Try.underlying3 _ _ _ h2
  refine ⟨⟨a, b, e⟩, trivial, fun j hj => ?_⟩
  match j, hj with
  | 0, _ => exact ⟨d0, o0⟩
  | 1, _ => exact ⟨d1, o1⟩
  | 2, _ => exact ⟨d2, o2⟩
theorem op_slices (hv : Value.okWide Try.prog W .any b0 30 v) (h : DataW.Trod enc Try.prog W 0 (fun _ => true) true 30 v d ps) : ∃ l : List Sl, DenP (allM W) (.dat (slD l)) v ∧ l.length ≤ maxLen := by
  obtain ⟨x, h1, h2, _⟩ := (OpenC.rows (enc := enc) (P := Try.prog) (W := W) Try.underlying30 Try.underlying46 (by kernel_rfl) (by kernel_rfl) (el_sl Try.underlying46)).sl Try.underlying30 hv h
  exact ⟨x, h1, h2⟩
theorem el_ch {fs : Array Field} (hfs : Try.prog.underlying 39 = some (.struct fs)) : ElemOf enc Try.prog W fs Ch chE (fun _ => True) := by
  rw [Try.underlying39] at hfs
  cases hfs
  intro c hf
  obtain ⟨_, y0, h0⟩ := hf 0 _ rfl
  obtain ⟨_, y1, h1⟩ := hf 1 _ rfl
  obtain ⟨_, y2, h2⟩ := hf 2 _ rfl
  obtain ⟨a, d0, o0, _⟩ := OpenC.int (enc := enc) (P := Try.prog) (W := W) Try.underlying3 _ _ _ h0
  obtain ⟨b, d1, o1, _⟩ := OpenC.int (enc := enc) (P := Try.prog) (W := W) Try.underlying3 _ _ _ h1
  obtain ⟨e, d2, o2, _⟩ := OpenC.int (enc := enc) (P := Try.prog) (W := W) Try.underlying3 _ _ _ h2
  refine ⟨⟨a, b, e⟩, trivial, fun j hj => ?_⟩
  match j, hj with
  | 0, _ => exact ⟨d0, o0⟩
  | 1, _ => exact ⟨d1, o1⟩
  | 2, _ => exact ⟨d2, o2⟩
theorem op_charges (hv : Value.okWide Try.prog W .any b0 31 v) (h : DataW.Trod enc Try.prog W 0 (fun _ => true) true 31 v d ps) : ∃ l : List Ch, DenP (allM W) (.dat (chD l)) v ∧ l.length ≤ maxLen := by
  obtain ⟨x, h1, h2, _⟩ := (OpenC.rows (enc := enc) (P := Try.prog) (W := W) Try.underlying31 Try.underlying39 (by kernel_rfl) (by kernel_rfl) (el_ch Try.underlying39)).sl Try.underlying31 hv h
  exact ⟨x, h1, h2⟩
end
end Go.Proofs.Ytdibfkncofckiaa
