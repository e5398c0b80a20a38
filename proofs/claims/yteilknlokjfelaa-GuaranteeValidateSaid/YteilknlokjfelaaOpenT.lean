/- A slice of structs opened by its reading alone (a field of a struct). -/
import Derived.Test.YteilknlokjfelaaOpen
namespace Go.Proofs.Yteilknlokjfelaa
open Go.RowKit Go.WideShapes Go.ChangeShapes Go.Deep
set_option linter.unusedVariables false

section
variable {H : Type} {enc : TypeId × Value → H} {P : Program} {w : World}
theorem open_rowsT {α : Type} {t e : TypeId} {fs : Array Field} {fuel : Nat} {v : Value} {x : DataW H × List MemPlace} (cells : α → List Value) (ok : α → Prop) (dflt : α) (ht : P.underlying t = some (.slice e)) (he : P.underlying e = some (.struct fs))
    (hone : oneCellFields P fs = true) (hC : P.cellsOf e = fs.size) (hf : DataW.trod enc P w 0 (fun _ => true) true fuel t [v] = some x)
    (hcl : ∀ x, (cells x).length = fs.size) (hsz : 0 < fs.size)
    (elem : ∀ (n : Nat) (c : Nat → Option Value), (∀ (j : Nat) (f : Field), fs[j]? = some f → ∃ (v : Value) (y : DataW H × List MemPlace), c j = some v ∧ DataW.trod enc P w 0 (fun _ => true) true n f.type [v] = some y) → ∃ x : α, ok x ∧ ∀ j u, (cells x)[j]? = some u → c j = some u) :
    ∃ A c xs, v = .slice A (List.length xs) c ∧ xs.length ≤ c ∧ c ≤ maxLen ∧ (A = none → c = 0) ∧ RowsW w w.heap.size A fs.size (xs.map cells) ∧ ∀ x ∈ xs, ok x := by
  rcases open_slice_fields ht he hone hC hf with ⟨hcs, _⟩ | ⟨a, len, cap, m, hcs, hl, hm, hmm, hi⟩
  · simp at hcs
    subst hcs
    exact ⟨none, 0, [], rfl, by simp, by simp [maxLen], fun _ => rfl, RowsW.nil, by simp⟩
  · simp at hcs
    subst hcs
    simp only [if_true] at hmm
    have each : ∀ i : Nat, ∃ x : α, i < len → ok x ∧ ∀ j u, (cells x)[j]? = some u → w.cell? (a.add (i * fs.size + j)) = some u := by
      intro i
      by_cases hil : i < len
      · obtain ⟨n, hn⟩ := hi i (by omega)
        obtain ⟨x, h1, h2⟩ := elem n (fun j => w.cell? (a.add (i * fs.size + j))) hn
        exact ⟨x, fun _ => ⟨h1, h2⟩⟩
      · exact ⟨dflt, fun h => absurd h hil⟩
    obtain ⟨g, hg⟩ := Classical.axiomOfChoice each
    refine ⟨some a, cap, (List.range len).map g, by simp, by simp; omega, hm, (fun h => by cases h), fun i r hr => ?_, fun x hx => ?_⟩
    · rw [List.getElem?_map, List.getElem?_map, Option.map_eq_some_iff] at hr
      obtain ⟨x, hx, rfl⟩ := hr
      rw [Option.map_eq_some_iff] at hx
      obtain ⟨i', hi', rfl⟩ := hx
      have hil : i < len := by have := (List.getElem?_eq_some_iff.1 hi').1; simpa using this
      obtain rfl : i' = i := by
        rw [List.getElem?_range hil] at hi'
        exact (Option.some.inj hi').symm
      have h2 := (hg i' hil).2
      have h0 := h2 0 _ (List.getElem?_eq_getElem (by rw [hcl]; exact hsz))
      have hlt := World.block_lt_of_cell? w _ h0
      rw [block_of_add] at hlt
      exact ⟨a, rfl, hlt, h2⟩
    · obtain ⟨i, hi', rfl⟩ := List.mem_map.1 hx
      exact (hg i (List.mem_range.1 hi')).1
end

end Go.Proofs.Yteilknlokjfelaa
