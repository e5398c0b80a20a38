/- Dated quantities, needs and recipes that come in. -/
import Derived.Test.YtoeghejbgibioaaOp
import Derived.Test.YtoeghejbgibioaaY8
namespace Go.Proofs.Ytoeghejbgibioaa
open Go Go.RowKit Go.WideShapes Go.ChangeShapes Go.Deep
set_option linter.unusedVariables false
set_option maxRecDepth 100000
set_option linter.unusedSimpArgs false

section
variable {H : Type} {enc : TypeId × Value → H} {W : World} {b0 : Nat} {v : Value} {d : DataW H} {ps : List MemPlace}
theorem op_intl (hv : Value.okWide Try.prog W .any b0 22 v) (h : DataW.Trod enc Try.prog W 0 (fun _ => true) true 22 v d ps) : ∃ x : List Int, DenP (allM W) (.dat (ilst x)) v ∧ x.length ≤ 9223372036854775807 := by
  obtain ⟨x, h1, h2, _⟩ := (OpenC.ints Try.underlying22 Try.underlying3 (by kernel_rfl)).sl Try.underlying22 hv h
  exact ⟨x, h1, h2⟩
theorem el_dt {fs : Array Field} (hfs : Try.prog.underlying 58 = some (.struct fs)) : ElemOf enc Try.prog W fs Dt dtE (fun _ => True) := by
  rw [Try.underlying58] at hfs
  cases hfs
  intro c hf
  obtain ⟨_, y0, h0⟩ := hf 0 _ rfl
  obtain ⟨_, y1, h1⟩ := hf 1 _ rfl
  obtain ⟨a, d0, o0, _⟩ := OpenC.int (enc := enc) (P := Try.prog) (W := W) Try.underlying3 _ _ _ h0
  obtain ⟨b, d1, o1, _⟩ := OpenC.int (enc := enc) (P := Try.prog) (W := W) Try.underlying3 _ _ _ h1
  refine ⟨⟨a, b⟩, trivial, fun j hj => ?_⟩
  match j, hj with
  | 0, _ => exact ⟨d0, o0⟩
  | 1, _ => exact ⟨d1, o1⟩
theorem op_dated (hv : Value.okWide Try.prog W .any b0 48 v) (h : DataW.Trod enc Try.prog W 0 (fun _ => true) true 48 v d ps) : ∃ l : List Dt, DenP (allM W) (.dat (dtD l)) v ∧ l.length ≤ maxLen := by
  obtain ⟨x, h1, h2, _⟩ := (OpenC.rows (enc := enc) (P := Try.prog) (W := W) Try.underlying48 Try.underlying58 (by kernel_rfl) (by kernel_rfl) (el_dt Try.underlying58)).sl Try.underlying48 hv h
  exact ⟨x, h1, h2⟩
theorem el_nd {fs : Array Field} (hfs : Try.prog.underlying 31 = some (.struct fs)) : ElemOf enc Try.prog W fs Nd ndE (fun x => x.c.size ≤ maxLen) := by
  rw [Try.underlying31] at hfs
  cases hfs
  intro c hf
  obtain ⟨_, y0, h0⟩ := hf 0 _ rfl
  obtain ⟨_, y1, h1⟩ := hf 1 _ rfl
  obtain ⟨a, d0, o0, k0⟩ := OpenC.str (enc := enc) (P := Try.prog) (W := W) Try.underlying9 _ _ _ h0
  obtain ⟨b, d1, o1, _⟩ := OpenC.int (enc := enc) (P := Try.prog) (W := W) Try.underlying3 _ _ _ h1
  refine ⟨⟨a, b⟩, k0, fun j hj => ?_⟩
  match j, hj with
  | 0, _ => exact ⟨d0, o0⟩
  | 1, _ => exact ⟨d1, o1⟩
theorem op_needs (hv : Value.okWide Try.prog W .any b0 23 v) (h : DataW.Trod enc Try.prog W 0 (fun _ => true) true 23 v d ps) : ∃ l : List Nd, DenP (allM W) (.dat (ndD l)) v ∧ l.length ≤ maxLen ∧ ∀ x ∈ l, x.c.size ≤ maxLen := by
  obtain ⟨x, h1, h2, h3⟩ := (OpenC.rows (enc := enc) (P := Try.prog) (W := W) Try.underlying23 Try.underlying31 (by kernel_rfl) (by kernel_rfl) (el_nd Try.underlying31)).sl Try.underlying23 hv h
  exact ⟨x, h1, h2, h3⟩
def rcIn (r : Rc) : Prop := r.ins.length ≤ maxLen ∧ r.outs.length ≤ maxLen ∧ r.sc.length ≤ 9223372036854775807 ∧ (∀ x ∈ r.ins, x.c.size ≤ maxLen) ∧ ∀ x ∈ r.outs, x.c.size ≤ maxLen
theorem el_rc {fs : Array Field} (hfs : Try.prog.underlying 25 = some (.struct fs)) : ElemOf enc Try.prog W fs Rc rcE rcIn := by
  rw [Try.underlying25] at hfs
  cases hfs
  intro c hf
  obtain ⟨_, y0, h0⟩ := hf 0 _ rfl
  obtain ⟨_, y1, h1⟩ := hf 1 _ rfl
  obtain ⟨_, y2, h2⟩ := hf 2 _ rfl
  obtain ⟨_, y3, h3⟩ := hf 3 _ rfl
  obtain ⟨a, d0, o0, _⟩ := OpenC.int (enc := enc) (P := Try.prog) (W := W) Try.underlying3 _ _ _ h0
  obtain ⟨l, d1, o1, k1, q1⟩ := OpenC.rows (enc := enc) (P := Try.prog) (W := W) Try.underlying23 Try.underlying31 (by kernel_rfl) (by kernel_rfl) (el_nd Try.underlying31) _ _ _ h1
  obtain ⟨m, d2, o2, k2, q2⟩ := OpenC.rows (enc := enc) (P := Try.prog) (W := W) Try.underlying23 Try.underlying31 (by kernel_rfl) (by kernel_rfl) (el_nd Try.underlying31) _ _ _ h2
  obtain ⟨s, d3, o3, k3⟩ := OpenC.ints (enc := enc) (P := Try.prog) (W := W) Try.underlying22 Try.underlying3 (by kernel_rfl) _ _ _ h3
  refine ⟨⟨a, l, m, s⟩, ⟨k1, k2, k3.1, q1, q2⟩, fun j hj => ?_⟩
  match j, hj with
  | 0, _ => exact ⟨d0, o0⟩
  | 1, _ => exact ⟨d1, o1⟩
  | 2, _ => exact ⟨d2, o2⟩
  | 3, _ => exact ⟨d3, o3⟩
theorem op_recipe (hv : Value.okWide Try.prog W .any b0 25 v) (h : DataW.Trod enc Try.prog W 0 (fun _ => true) true 25 v d ps) : ∃ r : Rc, DenP (allM W) (rcA r) v ∧ rcIn r :=
  (el_rc Try.underlying25).par Try.underlying25 (by kernel_rfl) (by kernel_rfl) hv h
theorem op_recipes (hv : Value.okWide Try.prog W .any b0 36 v) (h : DataW.Trod enc Try.prog W 0 (fun _ => true) true 36 v d ps) : ∃ l : List Rc, DenP (allM W) (.dat (rcD l)) v ∧ l.length ≤ maxLen ∧ ∀ r ∈ l, rcIn r := by
  obtain ⟨x, h1, h2, h3⟩ := (OpenC.rows (enc := enc) (P := Try.prog) (W := W) Try.underlying36 Try.underlying25 (by kernel_rfl) (by kernel_rfl) (el_rc Try.underlying25)).sl Try.underlying36 hv h
  exact ⟨x, h1, h2, h3⟩
end
end Go.Proofs.Ytoeghejbgibioaa
