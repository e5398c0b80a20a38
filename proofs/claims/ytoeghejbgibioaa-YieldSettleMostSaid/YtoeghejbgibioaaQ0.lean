/- Flows, plain law: no flow is greater than one that has a cut. -/
import Derived.Test.YtoeghejbgibioaaY9
namespace Go.Proofs.Ytoeghejbgibioaa
open Go Go.RowKit
set_option linter.unusedVariables false
set_option linter.unusedSimpArgs false

def sN : Nat → (Nat → Int) → Int
  | 0, _ => 0
  | n + 1, f => sN n f + f n
theorem sN_add : ∀ (n : Nat) (f g : Nat → Int), sN n (fun i => f i + g i) = sN n f + sN n g
  | 0, _, _ => rfl
  | n + 1, f, g => by
    show sN n (fun i => f i + g i) + (f n + g n) = sN n f + f n + (sN n g + g n)
    rw [sN_add n f g]
    omega
theorem sN_le : ∀ (n : Nat) {f g : Nat → Int}, (∀ i, i < n → f i ≤ g i) → sN n f ≤ sN n g
  | 0, _, _, _ => Int.le_refl _
  | n + 1, f, g, h => Int.add_le_add (sN_le n fun i hi => h i (by omega)) (h n (by omega))
theorem sN_congr (n : Nat) {f g : Nat → Int} (h : ∀ i, i < n → f i = g i) : sN n f = sN n g :=
  Int.le_antisymm (sN_le n fun i hi => Int.le_of_eq (h i hi)) (sN_le n fun i hi => Int.le_of_eq (h i hi).symm)
theorem sN_zero (n : Nat) : sN n (fun _ => 0) = 0 := by
  induction n with
  | zero => rfl
  | succ n ih =>
    show sN n (fun _ => 0) + 0 = 0
    rw [ih]
    rfl
theorem sN_nn (n : Nat) {f : Nat → Int} (h : ∀ i, i < n → 0 ≤ f i) : 0 ≤ sN n f := by
  have := sN_le n (f := fun _ => 0) (g := f) h
  rwa [sN_zero] at this
theorem sN_comm : ∀ (m n : Nat) (f : Nat → Nat → Int), sN m (fun i => sN n (f i)) = sN n (fun k => sN m (fun i => f i k))
  | 0, n, f => (sN_zero n).symm
  | m + 1, n, f => by
    show sN m (fun i => sN n (f i)) + sN n (f m) = sN n (fun k => sN m (fun i => f i k) + f m k)
    rw [sN_add, sN_comm m n f]
theorem sN_upd : ∀ (n : Nat) (f : Nat → Int) (k : Nat) (d : Int), k < n → sN n (fun i => if i = k then f i + d else f i) = sN n f + d
  | 0, _, _, _, h => absurd h (by omega)
  | n + 1, f, k, d, h => by
    show sN n (fun i => if i = k then f i + d else f i) + (if n = k then f n + d else f n) = sN n f + f n + d
    by_cases hk : n = k
    · rw [if_pos hk, sN_congr n (g := f) fun i hi => if_neg (by omega)]
      omega
    · rw [if_neg hk, sN_upd n f k d (by omega)]
      omega
theorem sN_term {n : Nat} {f : Nat → Int} (h : ∀ i, i < n → 0 ≤ f i) {k : Nat} (hk : k < n) : f k ≤ sN n f := by
  have h1 := sN_upd n (fun i => if i = k then 0 else f i) k (f k) hk
  have h2 : sN n (fun i => if i = k then (if i = k then 0 else f i) + f k else (if i = k then 0 else f i)) = sN n f := sN_congr n fun i _ => by
    by_cases e : i = k
    · rw [if_pos e, if_pos e, e, Int.zero_add]
    · rw [if_neg e, if_neg e]
  have h3 : 0 ≤ sN n (fun i => if i = k then 0 else f i) := sN_nn n fun i hi => by
    split
    · exact Int.le_refl _
    · exact h i hi
  omega
theorem cut_le (m n : Nat) (g f : Nat → Nat → Int) (p q : Nat → Int) (In : Nat → Nat → Prop) (RI RE : Nat → Prop)
    (g0 : ∀ i, i < m → ∀ k, k < n → 0 ≤ g i k) (gW : ∀ i, i < m → ∀ k, k < n → 0 < g i k → In i k) (gp : ∀ i, i < m → sN n (g i) ≤ p i) (gq : ∀ k, k < n → sN m (fun i => g i k) ≤ q k)
    (f0 : ∀ i, i < m → ∀ k, k < n → 0 ≤ f i k) (fI : ∀ i, i < m → ¬ RI i → sN n (f i) = p i) (fE : ∀ k, k < n → RE k → sN m (fun i => f i k) = q k)
    (hW : ∀ i, i < m → ∀ k, k < n → RI i → In i k → RE k) (hB : ∀ i, i < m → ∀ k, k < n → RE k → 0 < f i k → RI i) : sN m (fun i => sN n (g i)) ≤ sN m (fun i => sN n (f i)) := by
  classical
  have s1 : sN m (fun i => sN n (g i)) ≤ sN m (fun i => sN n (fun k => if RE k then g i k else 0)) + sN m (fun i => if RI i then 0 else sN n (f i)) := by
    rw [← sN_add]
    refine sN_le m fun i hi => ?_
    by_cases h : RI i
    · rw [if_pos h, Int.add_zero]
      refine sN_le n fun k hk => ?_
      by_cases hE : RE k
      · rw [if_pos hE]; exact Int.le_refl _
      · rw [if_neg hE]
        have := g0 i hi k hk
        by_cases hp : 0 < g i k
        · exact absurd (hW i hi k hk h (gW i hi k hk hp)) hE
        · omega
    · rw [if_neg h, fI i hi h]
      have h1 := gp i hi
      have h2 : 0 ≤ sN n (fun k => if RE k then g i k else 0) := sN_nn n fun k hk => by
        split
        · exact g0 i hi k hk
        · exact Int.le_refl _
      omega
  have s2 : sN m (fun i => sN n (fun k => if RE k then g i k else 0)) ≤ sN m (fun i => sN n (fun k => if RE k then f i k else 0)) := by
    rw [sN_comm, sN_comm m n (fun i k => if RE k then f i k else 0)]
    refine sN_le n fun k hk => ?_
    by_cases h : RE k
    · simp only [if_pos h]
      rw [fE k hk h]
      exact gq k hk
    · simp only [if_neg h]
      exact Int.le_refl _
  have s3 : sN m (fun i => sN n (fun k => if RE k then f i k else 0)) ≤ sN m (fun i => if RI i then sN n (f i) else 0) := by
    refine sN_le m fun i hi => ?_
    by_cases h : RI i
    · rw [if_pos h]
      refine sN_le n fun k hk => ?_
      split
      · exact Int.le_refl _
      · exact f0 i hi k hk
    · rw [if_neg h]
      refine Int.le_of_eq ((sN_congr n (g := fun _ => 0) fun k hk => ?_).trans (sN_zero n))
      by_cases hE : RE k
      · rw [if_pos hE]
        have := f0 i hi k hk
        by_cases hp : 0 < f i k
        · exact absurd (hB i hi k hk hE hp) h
        · omega
      · rw [if_neg hE]
  have s4 : sN m (fun i => if RI i then sN n (f i) else 0) + sN m (fun i => if RI i then 0 else sN n (f i)) = sN m (fun i => sN n (f i)) := by
    rw [← sN_add]
    refine sN_congr m fun i _ => ?_
    split <;> omega
  omega
end Go.Proofs.Ytoeghejbgibioaa
