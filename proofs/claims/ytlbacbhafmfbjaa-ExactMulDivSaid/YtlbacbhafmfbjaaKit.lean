/- Words of my own: a function that computes a value and only lays new blocks. -/
import Derived.Test.YtlbacbhafmfbjaaEx0
namespace Go.Proofs.Ytlbacbhafmfbjaa
open Go.RowKit
set_option linter.unusedVariables false

/-- Called in whatever world, the function returns v and only lays new blocks. -/
def Fn (f : FuncId) (args : Array Value) (v : Value) : Prop := ∀ w, Calls Try.prog f args w fun e w' => e = .returned v ∧ Below w.heap.size w w'

theorem bcell {W w1 : World} (hb : Below W.heap.size W w1) : (∀ b o, b < W.heap.size → w1.cell? ⟨b, o, none⟩ = W.cell? ⟨b, o, none⟩) ∧ (∀ b o, b < W.heap.size → w1.frozen? ⟨b, o, none⟩ = W.frozen? ⟨b, o, none⟩) :=
  ⟨fun b o h => hb.cell (p := ⟨b, o, none⟩) h, fun b o h => hb.frozen (p := ⟨b, o, none⟩) h⟩

theorem Fn.val {f : FuncId} {args : Array Value} {u v : Value} (h : Fn f args u) (e : u = v) : Fn f args v := e ▸ h

end Go.Proofs.Ytlbacbhafmfbjaa
