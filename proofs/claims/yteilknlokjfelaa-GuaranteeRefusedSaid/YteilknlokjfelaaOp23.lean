/- Guarantees and steps that come in. -/
import Derived.Test.YteilknlokjfelaaOp
import Derived.Test.YteilknlokjfelaaL23
namespace Go.Proofs.Yteilknlokjfelaa
open Go Go.RowKit Go.WideShapes Go.ChangeShapes Go.Deep
set_option linter.unusedVariables false
set_option linter.unusedSimpArgs false

section
variable {H : Type} {enc : TypeId × Value → H} {W : World} {b0 : Nat} {v : Value} {d : DataW H} {ps : List MemPlace}
theorem op_intl (hv : Value.okWide Try.prog W .any b0 22 v) (h : DataW.Trod enc Try.prog W 0 (fun _ => true) true 22 v d ps) : ∃ x : List Int, DenP (allM W) (.dat (ilst x)) v ∧ x.length ≤ 9223372036854775807 := by
  obtain ⟨x, h1, h2, _⟩ := (OpenC.ints Try.underlying22 Try.underlying3 (by kernel_rfl)).sl Try.underlying22 hv h
  exact ⟨x, h1, h2⟩
theorem el_res {fs : Array Field} (hfs : Try.prog.underlying 39 = some (.struct fs)) : ElemOf enc Try.prog W fs Rw rwE (fun _ => True) := by
  rw [Try.underlying39] at hfs
  cases hfs
  intro c hf
  obtain ⟨_, y0, h0⟩ := hf 0 _ rfl
  obtain ⟨_, y1, h1⟩ := hf 1 _ rfl
  obtain ⟨a, d0, o0, _⟩ := OpenC.int (enc := enc) (P := Try.prog) (W := W) Try.underlying3 _ _ _ h0
  obtain ⟨b, d1, o1, _⟩ := OpenC.int (enc := enc) (P := Try.prog) (W := W) Try.underlying3 _ _ _ h1
  refine ⟨⟨a, b⟩, trivial, fun j hj => ?_⟩
  match j, hj with
  | 0, _ => exact ⟨d0, o0⟩
  | 1, _ => exact ⟨d1, o1⟩
theorem el_gua {fs : Array Field} (hfs : Try.prog.underlying 25 = some (.struct fs)) : ElemOf enc Try.prog W fs Gu (fun g j => match j with
    | 0 => .val (.int .i64 g.id)
    | 1 => .val (.int .i64 g.rf)
    | 2 => .val (.int .i64 g.lv)
    | _ => rwD g.us) (fun g => g.us.length ≤ 9223372036854775807) := by
  rw [Try.underlying25] at hfs
  cases hfs
  intro c hf
  obtain ⟨_, y0, h0⟩ := hf 0 _ rfl
  obtain ⟨_, y1, h1⟩ := hf 1 _ rfl
  obtain ⟨_, y2, h2⟩ := hf 2 _ rfl
  obtain ⟨_, y3, h3⟩ := hf 3 _ rfl
  obtain ⟨a, d0, o0, _⟩ := OpenC.int (enc := enc) (P := Try.prog) (W := W) Try.underlying3 _ _ _ h0
  obtain ⟨b, d1, o1, _⟩ := OpenC.int (enc := enc) (P := Try.prog) (W := W) Try.underlying3 _ _ _ h1
  obtain ⟨c', d2, o2, _⟩ := OpenC.int (enc := enc) (P := Try.prog) (W := W) Try.underlying3 _ _ _ h2
  obtain ⟨l, d3, o3, k3, _⟩ := OpenC.rows (enc := enc) (P := Try.prog) (W := W) Try.underlying23 Try.underlying39 (by kernel_rfl) (by kernel_rfl) (el_res Try.underlying39) _ _ _ h3
  refine ⟨⟨a, b, c', l⟩, k3, fun j hj => ?_⟩
  match j, hj with
  | 0, _ => exact ⟨d0, o0⟩
  | 1, _ => exact ⟨d1, o1⟩
  | 2, _ => exact ⟨d2, o2⟩
  | 3, _ => exact ⟨d3, o3⟩
theorem op_gua (hv : Value.okWide Try.prog W .any b0 25 v) (h : DataW.Trod enc Try.prog W 0 (fun _ => true) true 25 v d ps) : ∃ g : Gu, DenP (allM W) (gA g) v ∧ g.us.length ≤ 9223372036854775807 :=
  (el_gua Try.underlying25).par Try.underlying25 (by kernel_rfl) (by kernel_rfl) hv h
theorem el_step {fs : Array Field} (hfs : Try.prog.underlying 72 = some (.struct fs)) : ElemOf enc Try.prog W fs Stp stE (fun _ => True) := by
  rw [Try.underlying72] at hfs
  cases hfs
  intro c hf
  obtain ⟨_, y0, h0⟩ := hf 0 _ rfl
  obtain ⟨_, y1, h1⟩ := hf 1 _ rfl
  obtain ⟨_, y2, h2⟩ := hf 2 _ rfl
  obtain ⟨a, d0, o0, _⟩ := OpenC.int (enc := enc) (P := Try.prog) (W := W) Try.underlying3 _ _ _ h0
  obtain ⟨b, d1, o1, _⟩ := OpenC.int (enc := enc) (P := Try.prog) (W := W) Try.underlying3 _ _ _ h1
  obtain ⟨c', d2, o2, _⟩ := OpenC.int (enc := enc) (P := Try.prog) (W := W) Try.underlying3 _ _ _ h2
  refine ⟨⟨a, b, c'⟩, trivial, fun j hj => ?_⟩
  match j, hj with
  | 0, _ => exact ⟨d0, o0⟩
  | 1, _ => exact ⟨d1, o1⟩
  | 2, _ => exact ⟨d2, o2⟩
theorem op_steps (hv : Value.okWide Try.prog W .any b0 45 v) (h : DataW.Trod enc Try.prog W 0 (fun _ => true) true 45 v d ps) : ∃ l : List Stp, DenP (allM W) (.dat (stD l)) v ∧ l.length ≤ maxLen := by
  obtain ⟨x, h1, h2, _⟩ := (OpenC.rows (enc := enc) (P := Try.prog) (W := W) Try.underlying45 Try.underlying72 (by kernel_rfl) (by kernel_rfl) (el_step Try.underlying72)).sl Try.underlying45 hv h
  exact ⟨x, h1, h2⟩
end
end Go.Proofs.Yteilknlokjfelaa
