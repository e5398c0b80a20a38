/- Numbers and slices that come in. Lots and parts that come in. -/
import Derived.Test.YtojkeidijdcfoaaGreatDoorOp
import Derived.Test.YtojkeidijdcfoaaGreatDoorS1
import Derived.Test.YtojkeidijdcfoaaGreatDoorB8

namespace Go.Proofs.YtojkeidijdcfoaaGreatDoor
open Go Go.RowKit Go.WideShapes Go.ChangeShapes Go.Deep
set_option linter.unusedVariables false
set_option linter.unusedSimpArgs false
set_option maxRecDepth 100000

section
variable {H : Type} {enc : TypeId × Value → H} {W : World} {b0 : Nat} {v : Value} {d : DataW H} {ps : List MemPlace}
theorem op_intl (hv : Value.okWide Tryz.prog W .any b0 22 v) (h : DataW.Trod enc Tryz.prog W 0 (fun _ => true) true 22 v d ps) : ∃ x : List Int, DenP (allM W) (.dat (ilst x)) v ∧ x.length ≤ 9223372036854775807 := by
  obtain ⟨x, h1, h2, _⟩ := (OpenC.ints Tryz.underlying22 Tryz.underlying3 (by kernel_rfl)).sl Tryz.underlying22 hv h
  exact ⟨x, h1, h2⟩
theorem el_sl {fs : Array Field} (hfs : Tryz.prog.underlying 35 = some (.struct fs)) : ElemOf enc Tryz.prog W fs Sl slE (fun _ => True) := by
  rw [Tryz.underlying35] at hfs
  cases hfs
  intro c hf
  obtain ⟨_, y0, h0⟩ := hf 0 _ rfl
  obtain ⟨_, y1, h1⟩ := hf 1 _ rfl
  obtain ⟨_, y2, h2⟩ := hf 2 _ rfl
  obtain ⟨a, d0, o0, _⟩ := OpenC.int (enc := enc) (P := Tryz.prog) (W := W) Tryz.underlying3 _ _ _ h0
  obtain ⟨b, d1, o1, _⟩ := OpenC.int (enc := enc) (P := Tryz.prog) (W := W) Tryz.underlying3 _ _ _ h1
  obtain ⟨e, d2, o2, _⟩ := OpenC.int (enc := enc) (P := Tryz.prog) (W := W) Tryz.underlying3 _ _ _ h2
  refine ⟨⟨a, b, e⟩, trivial, fun j hj => ?_⟩
  match j, hj with
  | 0, _ => exact ⟨d0, o0⟩
  | 1, _ => exact ⟨d1, o1⟩
  | 2, _ => exact ⟨d2, o2⟩
end
end Go.Proofs.YtojkeidijdcfoaaGreatDoor

namespace Go.Proofs.YtojkeidijdcfoaaGreatDoor
open Go Go.RowKit Go.WideShapes Go.ChangeShapes Go.Deep
set_option linter.unusedVariables false
set_option linter.unusedSimpArgs false
set_option maxRecDepth 100000

section
variable {H : Type} {enc : TypeId × Value → H} {W : World} {b0 : Nat} {v : Value} {d : DataW H} {ps : List MemPlace}
theorem el_lot {fs : Array Field} (hfs : Tryz.prog.underlying 26 = some (.struct fs)) : ElemOf enc Tryz.prog W fs Lt ltE (fun x => x.c.size ≤ maxLen ∧ x.us.length ≤ maxLen) := by
  rw [Tryz.underlying26] at hfs
  cases hfs
  intro c hf
  obtain ⟨_, y0, h0⟩ := hf 0 _ rfl
  obtain ⟨_, y1, h1⟩ := hf 1 _ rfl
  obtain ⟨_, y2, h2⟩ := hf 2 _ rfl
  obtain ⟨_, y3, h3⟩ := hf 3 _ rfl
  obtain ⟨_, y4, h4⟩ := hf 4 _ rfl
  obtain ⟨a, d0, o0, _⟩ := OpenC.int (enc := enc) (P := Tryz.prog) (W := W) Tryz.underlying3 _ _ _ h0
  obtain ⟨b, d1, o1, k1⟩ := OpenC.str (enc := enc) (P := Tryz.prog) (W := W) Tryz.underlying9 _ _ _ h1
  obtain ⟨q, d2, o2, _⟩ := OpenC.int (enc := enc) (P := Tryz.prog) (W := W) Tryz.underlying3 _ _ _ h2
  obtain ⟨p, d3, o3, _⟩ := OpenC.int (enc := enc) (P := Tryz.prog) (W := W) Tryz.underlying3 _ _ _ h3
  obtain ⟨l, d4, o4, k4, _⟩ := OpenC.rows (enc := enc) (P := Tryz.prog) (W := W) Tryz.underlying24 Tryz.underlying35 (by kernel_rfl) (by kernel_rfl) (el_sl Tryz.underlying35) _ _ _ h4
  refine ⟨⟨a, b, q, p, l⟩, ⟨k1, k4⟩, fun j hj => ?_⟩
  match j, hj with
  | 0, _ => exact ⟨d0, o0⟩
  | 1, _ => exact ⟨d1, o1⟩
  | 2, _ => exact ⟨d2, o2⟩
  | 3, _ => exact ⟨d3, o3⟩
  | 4, _ => exact ⟨d4, o4⟩
theorem op_lots (hv : Value.okWide Tryz.prog W .any b0 23 v) (h : DataW.Trod enc Tryz.prog W 0 (fun _ => true) true 23 v d ps) : ∃ l : List Lt, DenP (allM W) (.dat (ltD l)) v ∧ l.length ≤ maxLen ∧ ∀ x ∈ l, x.c.size ≤ maxLen ∧ x.us.length ≤ maxLen := by
  obtain ⟨x, h1, h2, h3⟩ := (OpenC.rows (enc := enc) (P := Tryz.prog) (W := W) Tryz.underlying23 Tryz.underlying26 (by kernel_rfl) (by kernel_rfl) (el_lot Tryz.underlying26)).sl Tryz.underlying23 hv h
  exact ⟨x, h1, h2, h3⟩
end
end Go.Proofs.YtojkeidijdcfoaaGreatDoor
