/- Yields: the order of codes; quantities found. -/
import Derived.Test.YtacpjihbbmoolaaGreatY3
namespace Go.Proofs.YtacpjihbbmoolaaGreat
open Go Go.RowKit
set_option linter.unusedVariables false
set_option linter.unusedSimpArgs false
set_option maxRecDepth 100000
set_option maxHeartbeats 4000000

theorem bl_eq : ∀ (x y : List UInt8), Op.bytesLess x y = decide (x < y)
  | [], [] => by simp [Op.bytesLess]
  | _ :: _, [] => by simp [Op.bytesLess]
  | [], _ :: _ => by simp [Op.bytesLess]
  | a :: x, b :: y => by
    rw [Op.bytesLess, bl_eq x y]
    simp only [List.cons_lt_cons_iff]
    by_cases h1 : a < b <;> by_cases h2 : a = b <;> by_cases h3 : x < y <;> simp [h1, h2, h3]
theorem strLt_iff (a b : ByteArray) : strLt a b = true ↔ a.toList < b.toList := by unfold strLt; rw [bl_eq]; exact decide_eq_true_iff
theorem strEq_iff (a b : ByteArray) : strEq a b = true ↔ a = b := by
  unfold strEq
  rw [beq_iff_eq]
  exact ⟨fun h => by rw [ByteArray.toList_eq, ByteArray.toList_eq] at h; exact bytes_inj h, fun h => by rw [h]⟩
theorem strLt_trans {a b c : ByteArray} (h : strLt a b = true) (k : strLt b c = true) : strLt a c = true := by
  rw [strLt_iff] at *
  exact List.lt_trans h k
theorem strLt_irr (a : ByteArray) : strLt a a = false := by
  cases h : strLt a a with
  | false => rfl
  | true => rw [strLt_iff] at h; exact absurd h (List.lt_irrefl _)
theorem strLt_con {a b : ByteArray} (h : strLt a b = false) (k : strEq a b = false) : strLt b a = true := by
  have h1 : ¬ a.toList < b.toList := fun hh => by rw [(strLt_iff a b).2 hh] at h; cases h
  have h2 : a ≠ b := fun hh => by rw [(strEq_iff a b).2 hh] at k; cases k
  have h3 : a.toList ≠ b.toList := fun hh => h2 (by rw [ByteArray.toList_eq, ByteArray.toList_eq] at hh; exact bytes_inj hh)
  rw [strLt_iff]
  by_cases h5 : b.toList < a.toList
  · exact h5
  · exact absurd (List.le_antisymm (List.not_lt.1 h5) (List.not_lt.1 h1)) h3
theorem asc_lt {us : List Nd} {lo hi : Int} (h : ascOk us lo hi) {i j : Nat} (hij : i < j) (hj : j < us.length) : strLt (us.getD i default).c (us.getD j default).c = true := by
  induction j with
  | zero => omega
  | succ j ih =>
    obtain ⟨_, _, _, q⟩ := h (j + 1) hj
    obtain ⟨q1, q2⟩ := q (by omega)
    have q3 := strLt_con q1 q2
    rw [show j + 1 - 1 = j from rfl] at q3
    rcases Nat.lt_or_ge i j with hi | hi
    · exact strLt_trans (ih hi (by omega)) q3
    · obtain rfl : i = j := by omega
      exact q3
theorem asc_ne {us : List Nd} {lo hi : Int} (h : ascOk us lo hi) {i j : Nat} (hi' : i < us.length) (hj : j < us.length) (he : (us.getD i default).c = (us.getD j default).c) : i = j := by
  rcases Nat.lt_trichotomy i j with h1 | h1 | h1
  · have := asc_lt h h1 hj
    rw [he, strLt_irr] at this; cases this
  · exact h1
  · have := asc_lt h h1 hi'
    rw [he, strLt_irr] at this; cases this
theorem getM_put (L : ML) (s t : ByteArray) (v : Int) : getM (putM L s v) t = if s = t then v else getM L t := by
  unfold getM putM
  rw [List.find?_cons]
  by_cases h : s = t
  · simp [h]
  · rw [if_neg h]
    simp only [h, decide_false]
    rw [List.find?_filter]
    have : (fun a : ByteArray × Int => decide ((!decide (a.fst = s)) = true ∧ decide (a.fst = t) = true)) = fun p => decide (p.1 = t) := by
      funext p
      by_cases hp : p.1 = t
      · subst hp
        simp [Ne.symm h]
      · simp [hp]
    rw [this]
theorem len_put (L : ML) (s : ByteArray) (v : Int) : (putM L s v).length ≤ L.length + 1 := by
  unfold putM
  have := List.length_filter_le (fun p : ByteArray × Int => !decide (p.1 = s)) L
  rw [List.length_cons]
  omega
end Go.Proofs.YtacpjihbbmoolaaGreat
