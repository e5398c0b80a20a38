/- Yields: the order of codes; quantities found. -/
import Derived.Test.YtoeghejbgibioaaY3
namespace Go.Proofs.Ytoeghejbgibioaa
open Go Go.RowKit
set_option linter.unusedVariables false
set_option linter.unusedSimpArgs false
set_option maxRecDepth 100000
set_option maxHeartbeats 4000000

theorem bl_eq : ∀ (x y : List UInt8), Op.bytesLess x y = decide (x < y)
  | [], [] => by simp [Op.bytesLess]
  | _ :: _, [] => by simp [Op.bytesLess]
  | [], _ :: _ => by simp [Op.bytesLess]
  | a :: x, b :: y => by
    rw [Op.bytesLess, bl_eq x y]
    simp only [List.cons_lt_cons_iff]
    by_cases h1 : a < b <;> by_cases h2 : a = b <;> by_cases h3 : x < y <;> simp [h1, h2, h3]
theorem strLt_iff (a b : ByteArray) : strLt a b = true ↔ a.toList < b.toList := by unfold strLt; rw [bl_eq]; exact decide_eq_true_iff
theorem strEq_iff (a b : ByteArray) : strEq a b = true ↔ a = b := by
  unfold strEq
  rw [beq_iff_eq]
  exact ⟨fun h => by rw [ByteArray.toList_eq, ByteArray.toList_eq] at h; exact bytes_inj h, fun h => by rw [h]⟩
theorem strLt_trans {a b c : ByteArray} (h : strLt a b = true) (k : strLt b c = true) : strLt a c = true := by
  rw [strLt_iff] at *
  exact List.lt_trans h k
theorem strLt_irr (a : ByteArray) : strLt a a = false := by
  cases h : strLt a a with
  | false => rfl
  | true => rw [strLt_iff] at h; exact absurd h (List.lt_irrefl _)
theorem strLt_con {a b : ByteArray} (h : strLt a b = false) (k : strEq a b = false) : strLt b a = true := by
  have h1 : ¬ a.toList < b.toList := fun hh => by rw [(strLt_iff a b).2 hh] at h; cases h
  have h2 : a ≠ b := fun hh => by rw [(strEq_iff a b).2 hh] at k; cases k
  have h3 : a.toList ≠ b.toList := fun hh => h2 (by rw [ByteArray.toList_eq, ByteArray.toList_eq] at hh; exact bytes_inj hh)
  rw [strLt_iff]
  by_cases h5 : b.toList < a.toList
  · exact h5
  · exact absurd (List.le_antisymm (List.not_lt.1 h5) (List.not_lt.1 h1)) h3
theorem asc_lt {us : List Nd} {lo hi : Int} (h : ascOk us lo hi) {i j : Nat} (hij : i < j) (hj : j < us.length) : strLt (us.getD i default).c (us.getD j default).c = true := by
  induction j with
  | zero => omega
  | succ j ih =>
    obtain ⟨_, _, _, q⟩ := h (j + 1) hj
    obtain ⟨q1, q2⟩ := q (by omega)
    have q3 := strLt_con q1 q2
    rw [show j + 1 - 1 = j from rfl] at q3
    rcases Nat.lt_or_ge i j with hi | hi
    · exact strLt_trans (ih hi (by omega)) q3
    · obtain rfl : i = j := by omega
      exact q3
theorem asc_ne {us : List Nd} {lo hi : Int} (h : ascOk us lo hi) {i j : Nat} (hi' : i < us.length) (hj : j < us.length) (he : (us.getD i default).c = (us.getD j default).c) : i = j := by
  rcases Nat.lt_trichotomy i j with h1 | h1 | h1
  · have := asc_lt h h1 hj
    rw [he, strLt_irr] at this; cases this
  · exact h1
  · have := asc_lt h h1 hi'
    rw [he, strLt_irr] at this; cases this
def qtyS (us : List Nd) (c : ByteArray) : Int := (us.map fun x => if x.c = c then x.q else 0).sum
def stM (us : List Nd) : ML := us.foldl (fun L x => putM L x.c x.q) []
theorem stM_snoc (us : List Nd) (x : Nd) : stM (us ++ [x]) = putM (stM us) x.c x.q := by unfold stM; rw [List.foldl_append]; rfl
theorem getM_put (L : ML) (s t : ByteArray) (v : Int) : getM (putM L s v) t = if s = t then v else getM L t := by
  unfold getM putM
  rw [List.find?_cons]
  by_cases h : s = t
  · simp [h]
  · rw [if_neg h]
    simp only [h, decide_false]
    rw [List.find?_filter]
    have : (fun a : ByteArray × Int => decide ((!decide (a.fst = s)) = true ∧ decide (a.fst = t) = true)) = fun p => decide (p.1 = t) := by
      funext p
      by_cases hp : p.1 = t
      · subst hp
        simp [Ne.symm h]
      · simp [hp]
    rw [this]
theorem len_put (L : ML) (s : ByteArray) (v : Int) : (putM L s v).length ≤ L.length + 1 := by
  unfold putM
  have := List.length_filter_le (fun p : ByteArray × Int => !decide (p.1 = s)) L
  rw [List.length_cons]
  omega
theorem len_stM (us : List Nd) : (stM us).length ≤ us.length := by
  have h : ∀ (l : List Nd) (L : ML), (l.foldl (fun L x => putM L x.c x.q) L).length ≤ L.length + l.length := by
    intro l
    induction l with
    | nil => intro L; simp
    | cons x l ih =>
      intro L
      have h1 := ih (putM L x.c x.q)
      have h2 := len_put L x.c x.q
      rw [List.foldl_cons, List.length_cons]
      omega
  have := h us []
  simpa [stM] using this
theorem qtyS_snoc (us : List Nd) (x : Nd) (c : ByteArray) : qtyS (us ++ [x]) c = qtyS us c + if x.c = c then x.q else 0 := by
  unfold qtyS
  rw [List.map_append, List.sum_append]
  simp
theorem rev_ind {α : Type} {P : List α → Prop} (h0 : P []) (h1 : ∀ l x, P l → P (l ++ [x])) (l : List α) : P l := by
  have h : ∀ l : List α, P l.reverse := fun l => by
    induction l with
    | nil => exact h0
    | cons x l ih => rw [List.reverse_cons]; exact h1 _ _ ih
  have := h l.reverse
  rwa [List.reverse_reverse] at this
theorem qty_none (us : List Nd) (c : ByteArray) (h : ∀ x ∈ us, x.c ≠ c) : qtyS us c = 0 ∧ getM (stM us) c = 0 := by
  revert h
  refine rev_ind (P := fun us : List Nd => (∀ x ∈ us, x.c ≠ c) → qtyS us c = 0 ∧ getM (stM us) c = 0) (fun _ => ⟨rfl, rfl⟩) (fun us x ih h => ?_) us
  · obtain ⟨h1, h2⟩ := ih fun y hy => h y (by simp [hy])
    have hx := h x (by simp)
    rw [qtyS_snoc, stM_snoc, getM_put, if_neg hx, if_neg hx, h1, h2]
    exact ⟨rfl, rfl⟩
theorem qty_eq (us : List Nd) (c : ByteArray) (h : ∀ i j, i < us.length → j < us.length → (us.getD i default).c = (us.getD j default).c → i = j) : getM (stM us) c = qtyS us c := by
  revert h
  refine rev_ind (P := fun us : List Nd => (∀ i j, i < us.length → j < us.length → (us.getD i default).c = (us.getD j default).c → i = j) → getM (stM us) c = qtyS us c) (fun _ => rfl) (fun us x ih h => ?_) us
  · rw [qtyS_snoc, stM_snoc, getM_put]
    by_cases hx : x.c = c
    · rw [if_pos hx, if_pos hx]
      have := (qty_none us c fun y hy hyc => by
        obtain ⟨i, hi, rfl⟩ := List.getElem_of_mem hy
        have := h i us.length (by simp; omega) (by simp) (by simp [List.getD_eq_getElem?_getD, List.getElem?_append, hi, hyc, hx])
        omega).1
      omega
    · rw [if_neg hx, if_neg hx, ih fun i j hi hj e => h i j (by simp; omega) (by simp; omega) (by simpa [List.getD_eq_getElem?_getD, List.getElem?_append, hi, hj] using e)]
      omega
end Go.Proofs.Ytoeghejbgibioaa
