/- Numbers and slices that come in. Lots and parts that come in. -/
import Derived.Test.YtfinilnaofbkkaaOp
import Derived.Test.YtfinilnaofbkkaaS1
import Derived.Test.YtfinilnaofbkkaaB8

namespace Go.Proofs.Ytfinilnaofbkkaa
open Go Go.RowKit Go.WideShapes Go.ChangeShapes Go.Deep
set_option linter.unusedVariables false
set_option linter.unusedSimpArgs false
set_option maxRecDepth 100000

section
variable {H : Type} {enc : TypeId × Value → H} {W : World} {b0 : Nat} {v : Value} {d : DataW H} {ps : List MemPlace}
theorem op_intl (hv : Value.okWide Try.prog W .any b0 22 v) (h : DataW.Trod enc Try.prog W 0 (fun _ => true) true 22 v d ps) : ∃ x : List Int, DenP (allM W) (.dat (ilst x)) v ∧ x.length ≤ 9223372036854775807 := by
  obtain ⟨x, h1, h2, _⟩ := (OpenC.ints Try.underlying22 Try.underlying3 (by kernel_rfl)).sl Try.underlying22 hv h
  exact ⟨x, h1, h2⟩
theorem el_sl {fs : Array Field} (hfs : Try.prog.underlying 54 = some (.struct fs)) : ElemOf enc Try.prog W fs Sl slE (fun _ => True) := by
  rw [Try.underlying54] at hfs
  cases hfs
  intro c hf
  obtain ⟨_, y0, h0⟩ := hf 0 _ rfl
  obtain ⟨_, y1, h1⟩ := hf 1 _ rfl
  obtain ⟨_, y2, h2⟩ := hf 2 _ rfl
  obtain ⟨a, d0, o0, _⟩ := OpenC.int (enc := enc) (P := Try.prog) (W := W) Try.underlying3 _ _ _ h0
  obtain ⟨b, d1, o1, _⟩ := OpenC.int (enc := enc) (P := Try.prog) (W := W) Try.underlying3 _ _ _ h1
  obtain ⟨e, d2, o2, _⟩ := OpenC.int (enc := enc) (P := Try.prog) (W := W) Try.underlying3 _ _ _ h2
  refine ⟨⟨a, b, e⟩, trivial, fun j hj => ?_⟩
  match j, hj with
  | 0, _ => exact ⟨d0, o0⟩
  | 1, _ => exact ⟨d1, o1⟩
  | 2, _ => exact ⟨d2, o2⟩
end
end Go.Proofs.Ytfinilnaofbkkaa

namespace Go.Proofs.Ytfinilnaofbkkaa
open Go Go.RowKit Go.WideShapes Go.ChangeShapes Go.Deep
set_option linter.unusedVariables false
set_option linter.unusedSimpArgs false
set_option maxRecDepth 100000

section
variable {H : Type} {enc : TypeId × Value → H} {W : World} {b0 : Nat} {v : Value} {d : DataW H} {ps : List MemPlace}
theorem el_lot {fs : Array Field} (hfs : Try.prog.underlying 37 = some (.struct fs)) : ElemOf enc Try.prog W fs Lt ltE (fun x => x.c.size ≤ maxLen ∧ x.us.length ≤ maxLen) := by
  rw [Try.underlying37] at hfs
  cases hfs
  intro c hf
  obtain ⟨_, y0, h0⟩ := hf 0 _ rfl
  obtain ⟨_, y1, h1⟩ := hf 1 _ rfl
  obtain ⟨_, y2, h2⟩ := hf 2 _ rfl
  obtain ⟨_, y3, h3⟩ := hf 3 _ rfl
  obtain ⟨_, y4, h4⟩ := hf 4 _ rfl
  obtain ⟨a, d0, o0, _⟩ := OpenC.int (enc := enc) (P := Try.prog) (W := W) Try.underlying3 _ _ _ h0
  obtain ⟨b, d1, o1, k1⟩ := OpenC.str (enc := enc) (P := Try.prog) (W := W) Try.underlying9 _ _ _ h1
  obtain ⟨q, d2, o2, _⟩ := OpenC.int (enc := enc) (P := Try.prog) (W := W) Try.underlying3 _ _ _ h2
  obtain ⟨p, d3, o3, _⟩ := OpenC.int (enc := enc) (P := Try.prog) (W := W) Try.underlying3 _ _ _ h3
  obtain ⟨l, d4, o4, k4, _⟩ := OpenC.rows (enc := enc) (P := Try.prog) (W := W) Try.underlying35 Try.underlying54 (by kernel_rfl) (by kernel_rfl) (el_sl Try.underlying54) _ _ _ h4
  refine ⟨⟨a, b, q, p, l⟩, ⟨k1, k4⟩, fun j hj => ?_⟩
  match j, hj with
  | 0, _ => exact ⟨d0, o0⟩
  | 1, _ => exact ⟨d1, o1⟩
  | 2, _ => exact ⟨d2, o2⟩
  | 3, _ => exact ⟨d3, o3⟩
  | 4, _ => exact ⟨d4, o4⟩
theorem op_lots (hv : Value.okWide Try.prog W .any b0 23 v) (h : DataW.Trod enc Try.prog W 0 (fun _ => true) true 23 v d ps) : ∃ l : List Lt, DenP (allM W) (.dat (ltD l)) v ∧ l.length ≤ maxLen ∧ ∀ x ∈ l, x.c.size ≤ maxLen ∧ x.us.length ≤ maxLen := by
  obtain ⟨x, h1, h2, h3⟩ := (OpenC.rows (enc := enc) (P := Try.prog) (W := W) Try.underlying23 Try.underlying37 (by kernel_rfl) (by kernel_rfl) (el_lot Try.underlying37)).sl Try.underlying23 hv h
  exact ⟨x, h1, h2, h3⟩
theorem el_part {fs : Array Field} (hfs : Try.prog.underlying 64 = some (.struct fs)) : ElemOf enc Try.prog W fs Pt ptE (fun _ => True) := by
  rw [Try.underlying64] at hfs
  cases hfs
  intro c hf
  obtain ⟨_, y0, h0⟩ := hf 0 _ rfl
  obtain ⟨_, y1, h1⟩ := hf 1 _ rfl
  obtain ⟨a, d0, o0, _⟩ := OpenC.int (enc := enc) (P := Try.prog) (W := W) Try.underlying3 _ _ _ h0
  obtain ⟨b, d1, o1, _⟩ := OpenC.int (enc := enc) (P := Try.prog) (W := W) Try.underlying3 _ _ _ h1
  refine ⟨⟨a, b⟩, trivial, fun j hj => ?_⟩
  match j, hj with
  | 0, _ => exact ⟨d0, o0⟩
  | 1, _ => exact ⟨d1, o1⟩
theorem op_parts (hv : Value.okWide Try.prog W .any b0 65 v) (h : DataW.Trod enc Try.prog W 0 (fun _ => true) true 65 v d ps) : ∃ l : List Pt, DenP (allM W) (.dat (ptD l)) v ∧ l.length ≤ maxLen := by
  obtain ⟨x, h1, h2, _⟩ := (OpenC.rows (enc := enc) (P := Try.prog) (W := W) Try.underlying65 Try.underlying64 (by kernel_rfl) (by kernel_rfl) (el_part Try.underlying64)).sl Try.underlying65 hv h
  exact ⟨x, h1, h2⟩
end
end Go.Proofs.Ytfinilnaofbkkaa
