/- Lots presented and split. -/
import Derived.Test.YtacpjihbbmoolaaGreatB7
namespace Go.Proofs.YtacpjihbbmoolaaGreat
open Go Go.RowKit
set_option linter.unusedVariables false
set_option linter.unusedSimpArgs false
set_option maxRecDepth 100000
set_option maxHeartbeats 4000000
attribute [local irreducible] ResLe AVle ArgLe ArgP EntLe Dle ResH ArgQ

theorem ACalls.args2 {X : Cx} {f : FuncId} {a a' b b' r : AV} (h : ACalls X f [a', b'] r) (ha : AVle a a') (hb : AVle b b') : ACalls X f [a, b] r := h.args ⟨ha, hb, trivial⟩
theorem ACalls.args3 {X : Cx} {f : FuncId} {a a' b b' c c' r : AV} (h : ACalls X f [a', b', c'] r) (ha : AVle a a') (hb : AVle b b') (hc : AVle c c') : ACalls X f [a, b, c] r := h.args ⟨ha, hb, hc, trivial⟩
theorem one_le (s : Nat) {α : Type} [Inhabited α] (enc : α → Nat → D) (x : α) (ds : List D) (h : ∀ j, j < s → Dle (pickF (tabB 1 s) ds (0 * s + j)) (enc x j)) : AVle (.dat (.lst s 1 fun i j => pickF (tabB 1 s) ds (i * s + j))) (.dat (.lst s [x].length (rowF enc [x]))) := AVle.dat (Dle.lst rfl fun i hi j hj => by
  obtain rfl : i = 0 := by omega
  exact h j hj)
theorem one_int (v : Int) : AVle (.dat (.lst 1 1 fun i j => pickF (tabB 1 1) [.val (.int .i64 v)] (i * 1 + j))) (.dat (iD [v])) := one_le 1 iE v _ fun j hj => by
  obtain rfl : j = 0 := by omega
  exact Dle.refl _
abbrev newLt (id : Int) (c : ByteArray) (q : Int) : Lt := ⟨id, c, q, 1, [⟨id, 0, q⟩]⟩
theorem one_new (id : Int) (c : ByteArray) (q : Int) : AVle (.dat (.lst 5 1 fun i j => pickF (tabB 1 5) [.val (.int .i64 id), .val (.string c), .val (.int .i64 q), .val (.int .i64 1), .lst 3 1 fun i j => pickF (tabB 1 3) [.val (.int .i64 id), .val (.int .i64 0), .val (.int .i64 q)] (i * 3 + j)] (i * 5 + j))) (.dat (ltD [newLt id c q])) := one_le 5 ltE (newLt id c q) _ fun j hj => by
  rcases j with _ | _ | _ | _ | _ | j
  · exact Dle.refl _
  · exact Dle.refl _
  · exact Dle.refl _
  · exact Dle.refl _
  · refine Dle.lst rfl fun i hi j hj => ?_
    obtain rfl : i = 0 := by omega
    rcases j with _ | _ | _ | j
    all_goals first | exact Dle.refl _ | omega
  · omega
def ptE (x : Pt) (j : Nat) : D := match j with
  | 0 => .val (.int .i64 x.id)
  | _ => .val (.int .i64 x.q)
abbrev ptD (ps : List Pt) : D := .lst 2 ps.length (rowF ptE ps)
theorem findV_mem {ss : List Lt} {id : Int} (h : hasI ss id) : findV ss id ∈ ss ∧ (findV ss id).id = id := by
  obtain ⟨x, hx, he⟩ := h
  unfold findV
  cases hf : ss.find? (fun x => decide (x.id = id)) with
  | none => exact absurd he (by have := List.find?_eq_none.1 hf x hx; simpa using this)
  | some y => exact ⟨List.mem_of_find?_eq_some hf, by have := List.find?_some hf; simpa using this⟩
end Go.Proofs.YtacpjihbbmoolaaGreat
