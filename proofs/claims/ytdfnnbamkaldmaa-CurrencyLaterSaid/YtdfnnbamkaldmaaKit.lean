/- Words of my own: a function that computes a value and only lays new blocks. -/
import Derived.Test.YtdfnnbamkaldmaaEX
import Derived.Lib.QuietBelow
import Derived.Outline
namespace Go.Proofs.Ytdfnnbamkaldmaa
open Go.RowKit
set_option linter.unusedVariables false

def Fn (f : FuncId) (args : Array Value) (v : Value) : Prop := ∀ w, Calls Try.prog f args w fun e w' => e = .returned v ∧ Below w.heap.size w w'

theorem bcell {W w1 : World} (hb : Below W.heap.size W w1) : (∀ b o, b < W.heap.size → w1.cell? ⟨b, o, none⟩ = W.cell? ⟨b, o, none⟩) ∧ (∀ b o, b < W.heap.size → w1.frozen? ⟨b, o, none⟩ = W.frozen? ⟨b, o, none⟩) :=
  ⟨fun b o h => hb.cell (p := ⟨b, o, none⟩) h, fun b o h => hb.frozen (p := ⟨b, o, none⟩) h⟩

theorem Fn.val {f : FuncId} {args : Array Value} {u v : Value} (h : Fn f args u) (e : u = v) : Fn f args v := e ▸ h

theorem only_refl (w : World) (row : Option Nat) : w.grownBy w row := ⟨rfl, rfl, rfl, Nat.le_refl _, fun _ _ _ => rfl⟩
theorem only_drewN {a w : World} {row : Option Nat} (h : a.grownBy w row) (n : Nat) : a.grownBy (w.drewN n) row := ⟨h.os, h.tape, h.output, h.size, h.block⟩
theorem only_drew {a w : World} {row : Option Nat} (h : a.grownBy w row) : a.grownBy w.drew row := ⟨h.os, h.tape, h.output, h.size, h.block⟩
theorem only_alloc {a w : World} {row : Option Nat} (h : a.grownBy w row) (o : Obj) : a.grownBy (w.alloc o) row :=
  ⟨h.os, h.tape, h.output, Nat.le_trans h.size (by simp), fun i hi hne => (Below.heap_alloc w o i (Nat.lt_of_lt_of_le hi h.size)).trans (h.block i hi hne)⟩
theorem only_setCell {a w : World} {g : Nat} (h : a.grownBy w (some g)) {p : Addr} (hp : p.block = g ∨ a.heap.size ≤ p.block) (u : Value) : a.grownBy (w.setCell p u) (some g) :=
  ⟨h.os, h.tape, h.output, by simpa [World.setCell] using h.size, fun i hi hne => (Below.heap_setCell w p u i (by
    rintro rfl
    rcases hp with hp | hp
    · exact hne (by rw [hp])
    · omega)).trans (h.block i hi hne)⟩
theorem only_of_below {a w : World} (h : Below a.heap.size a w) (row : Option Nat) : a.grownBy w row := ⟨h.os, h.tape, h.output, h.size, fun i hi _ => h.block i hi⟩
theorem only_then {a w w1 : World} {row : Option Nat} (h : a.grownBy w row) (hb : Below w.heap.size w w1) : a.grownBy w1 row :=
  ⟨hb.os.trans h.os, hb.tape.trans h.tape, hb.output.trans h.output, Nat.le_trans h.size hb.size, fun i hi hn => (hb.block i (Nat.lt_of_lt_of_le hi h.size)).trans (h.block i hi hn)⟩
theorem below_only {B : Nat} {a w w1 : World} {g : Nat} (h : Below B a w) (hw : w.grownBy w1 (some g)) (hg : B ≤ g) (hB : B ≤ w.heap.size) : Below B a w1 :=
  ⟨hw.os.trans h.os, hw.tape.trans h.tape, hw.output.trans h.output, Nat.le_trans h.size hw.size, fun i hi => (hw.block i (by omega) (fun e => by injection e with e; omega)).trans (h.block i hi)⟩
theorem Blk.only {w w1 : World} {g g' : Nat} {t : TypeId} {cs : Array Value} (h : Blk w g t cs) (hw : w.grownBy w1 (some g')) (hg : g ≠ g') : Blk w1 g t cs := (hw.block g h.lt (fun e => hg (by injection e))).trans h

theorem below_row {B : Nat} {a w w1 : World} {row : Option Nat} (h : Below B a w) (hw : w.grownBy w1 row) (hg : ∀ g, row = some g → B ≤ g) (hB : B ≤ w.heap.size) : Below B a w1 :=
  ⟨hw.os.trans h.os, hw.tape.trans h.tape, hw.output.trans h.output, Nat.le_trans h.size hw.size, fun i hi => (hw.block i (by omega) (fun e => by have := hg i e.symm; omega)).trans (h.block i hi)⟩
theorem Blk.row {w w1 : World} {g : Nat} {t : TypeId} {cs : Array Value} {row : Option Nat} (h : Blk w g t cs) (hw : w.grownBy w1 row) (hg : row ≠ some g) : Blk w1 g t cs := (hw.block g h.lt (fun e => hg e.symm)).trans h
theorem only_of_drew {w w1 : World} {row : Option Nat} (h : w.drew.grownBy w1 row) : w.grownBy w1 row := ⟨h.os, h.tape, h.output, h.size, h.block⟩
theorem addr_add_zero (a : Addr) : a.add 0 = a := rfl
theorem calls_name {P : Program} {f : FuncId} {args : Array Value} {R : Ending → World → Prop} {w0 : World} (F : World → Prop) (h0 : F w0) (h : ∀ W, F W → Calls P f args W R) : Calls P f args w0 R := h w0 h0
theorem wp_name {P : Program} {c : Code} {Q : Exit → Act → World → Prop} {a : Act} {w0 : World} (F : World → Prop) (h0 : F w0) (h : ∀ W, F W → c.wp P Q a W) : c.wp P Q a w0 := h w0 h0

end Go.Proofs.Ytdfnnbamkaldmaa
