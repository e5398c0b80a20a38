/- A slice of structs that reads as a list of rows of cells; the first error of a list. -/
import Derived.Test.YtdfnnbamkaldmaaKit
import Derived.Laws.OwnMore
import Derived.Deep.AppendLies
import Derived.Deep.Draws
import Derived.Outline
namespace Go.Proofs.Ytdfnnbamkaldmaa
open Go.RowKit
set_option linter.unusedVariables false

theorem block_of_add (a : Addr) (n : Nat) : (a.add n).block = a.block := by unfold Addr.add; split <;> rfl
theorem add_of_add (a : Addr) (i j : Nat) : (a.add i).add j = a.add (i + j) := by
  unfold Addr.add
  by_cases hi : i = 0 <;> by_cases hj : j = 0 <;> simp [hi, hj, Nat.add_assoc]

def RowsW (w : World) (B : Nat) (A : Option Addr) (sz : Nat) (rows : List (List Value)) : Prop :=
  ∀ k r, rows[k]? = some r → ∃ ad, A = some ad ∧ ad.block < B ∧ ∀ j u, r[j]? = some u → w.cell? (ad.add (k * sz + j)) = some u

section
variable {w w' : World} {B B' sz : Nat} {A : Option Addr} {rows : List (List Value)}
theorem RowsW.nil : RowsW w B A sz [] := fun k r h => by simp at h
theorem RowsW.keep (h : RowsW w B A sz rows) (hk : ∀ p : Addr, p.block < B → w'.cell? p = w.cell? p) : RowsW w' B A sz rows := by
  intro k r hr
  obtain ⟨ad, e, hb, hc⟩ := h k r hr
  exact ⟨ad, e, hb, fun j u hu => (hk _ (by rw [block_of_add]; exact hb)).trans (hc j u hu)⟩
theorem RowsW.more (h : RowsW w B A sz rows) (hB : B ≤ B') : RowsW w B' A sz rows := fun k r hr => by
  obtain ⟨ad, e, hb, hc⟩ := h k r hr
  exact ⟨ad, e, by omega, hc⟩
theorem RowsW.below (h : RowsW w B A sz rows) (hb : Below B w w') : RowsW w' B A sz rows := h.keep fun _ hp => hb.cell hp
theorem RowsW.ext (h : RowsW w w.heap.size A sz rows) (hb : Below w.heap.size w w') : RowsW w' w'.heap.size A sz rows := (h.below hb).more hb.size
theorem RowsW.drewN (h : RowsW w B A sz rows) (k : Nat) : RowsW (w.drewN k) B A sz rows := h
theorem RowsW.take (h : RowsW w B A sz rows) (k : Nat) : RowsW w B A sz (rows.take k) := fun i r hr => by
  rw [List.getElem?_take] at hr
  split at hr
  · exact h i r hr
  · cases hr
theorem RowsW.row (h : RowsW w B A sz rows) {k : Nat} {r : List Value} (hr : rows[k]? = some r) : ∃ ad : Addr, A = some ad ∧ (ad.add (k * sz)).block < B ∧
    (∀ u, r[0]? = some u → w.cell? (ad.add (k * sz)) = some u) ∧ ∀ j u, r[j + 1]? = some u → w.cell? ⟨(ad.add (k * sz)).block, (ad.add (k * sz)).off + (j + 1), none⟩ = some u := by
  obtain ⟨ad, e, hb, hc⟩ := h k r hr
  refine ⟨ad, e, by rw [block_of_add]; exact hb, fun u hu => hc 0 u hu, fun j u hu => ?_⟩
  have := hc (j + 1) u hu
  rw [← add_of_add] at this
  exact this
end

def Ints (w : World) (B : Nat) (A : Option Addr) (xs : List Int) : Prop := RowsW w B A 1 (xs.map fun x => [.int .i64 x])

theorem Ints.at_ {w : World} {B : Nat} {A : Option Addr} {xs : List Int} (h : Ints w B A xs) {k : Nat} (hk : k < xs.length) : ∃ ad : Addr, A = some ad ∧ (ad.add k).block < B ∧ w.cell? (ad.add k) = some (.int .i64 xs[k]) := by
  obtain ⟨ad, e, hb, h0, _⟩ := RowsW.row h (k := k) (r := [.int .i64 xs[k]]) (by simp [hk])
  rw [Nat.mul_one] at hb h0
  exact ⟨ad, e, hb, h0 _ rfl⟩

def firstE (f : Nat → Int) : Nat → Nat → Int
  | _, 0 => 0
  | i, n + 1 => if f i = 0 then firstE f (i + 1) n else f i
theorem firstE_from (f : Nat → Int) : ∀ (n i k : Nat), k < n → (∀ j, j < k → f (i + j) = 0) → f (i + k) ≠ 0 → firstE f i n = f (i + k)
  | 0, _, _, h, _, _ => absurd h (by omega)
  | n + 1, i, 0, _, _, hf => by rw [Nat.add_zero] at hf ⊢; exact if_neg hf
  | n + 1, i, k + 1, h, ha, hf => by
    have h0 := ha 0 (by omega)
    rw [Nat.add_zero] at h0
    have := firstE_from f n (i + 1) k (by omega) (fun j hj => by have := ha (j + 1) (by omega); rw [show i + 1 + j = i + (j + 1) by omega]; exact this) (by rw [show i + 1 + k = i + (k + 1) by omega]; exact hf)
    rw [show i + 1 + k = i + (k + 1) by omega] at this
    rw [← this]
    exact if_pos h0
theorem firstE_none (f : Nat → Int) : ∀ (n i : Nat), (∀ j, j < n → f (i + j) = 0) → firstE f i n = 0
  | 0, _, _ => rfl
  | n + 1, i, ha => by
    have h0 := ha 0 (by omega)
    rw [Nat.add_zero] at h0
    exact (if_pos h0).trans (firstE_none f n (i + 1) (fun j hj => by have := ha (j + 1) (by omega); rw [show i + 1 + j = i + (j + 1) by omega]; exact this))
theorem firstE_at (f : Nat → Int) (n k : Nat) (h : k < n) (ha : ∀ j, j < k → f j = 0) (hf : f k ≠ 0) : firstE f 0 n = f k := by
  have := firstE_from f n 0 k h (fun j hj => by rw [Nat.zero_add]; exact ha j hj) (by rw [Nat.zero_add]; exact hf)
  rwa [Nat.zero_add] at this
theorem firstE_ok (f : Nat → Int) (n : Nat) (ha : ∀ j, j < n → f j = 0) : firstE f 0 n = 0 := firstE_none f n 0 (fun j hj => by rw [Nat.zero_add]; exact ha j hj)

end Go.Proofs.Ytdfnnbamkaldmaa
