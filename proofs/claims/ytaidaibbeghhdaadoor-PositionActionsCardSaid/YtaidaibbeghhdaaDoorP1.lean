/- The calendar by descriptions: years and months. -/
import Derived.Test.YtaidaibbeghhdaaDoorTab
namespace Go.Proofs.YtaidaibbeghhdaaDoor
open Go Go.RowKit
set_option linter.unusedVariables false
set_option linter.unusedSimpArgs false

def mlTab (j : Nat) : Int := [31, 28, 31, 30, 31, 30, 31, 31, 30, 31, 30, 31].getD j 0
noncomputable def XX : Cx := ⟨Tryd.prog, tT, [(1, (12, fun j => .val (.int .i64 (mlTab j))))]⟩
theorem XX_ok : XX.ok := tT_ok
abbrev iA (z : Int) : AV := .dat (.val (.int .i64 z))
abbrev bA (b : Bool) : AV := .dat (.val (.bool b))

set_option maxRecDepth 100000
set_option maxHeartbeats 4000000
attribute [local irreducible] ResLe AVle ArgLe ArgP EntLe Dle

def leapY (y : Int) : Prop := y % 4 = 0 ∧ (y % 100 ≠ 0 ∨ y % 400 = 0)
instance (y : Int) : Decidable (leapY y) := by unfold leapY; exact inferInstance
def ylen (y : Int) : Int := if leapY y then 366 else 365
def mlen (y m : Int) : Int := if m = 2 then (if leapY y then 29 else 28) else if m = 4 ∨ m = 6 ∨ m = 9 ∨ m = 11 then 30 else 31

theorem isDay_t (d : Int) : ACalls XX 33 [iA d] (bA (decide (0 ≤ d ∧ d ≤ 36524))) := by
  refine ACalls.of (n := Tryd.f33.ntmps) XX_ok Tryd.func33 rfl (by kernel_rfl) rfl rfl (Nat.le_of_ble_eq_true rfl) ?_
  (repeat' (first | refine W.seq ?_ | refine W.block ?_ | (refine W.region ?_; conv => whnf) | (refine W.ret ?_; conv => whnf) | (refine W.skip ?_; conv => whnf) | (refine W.exit ?_; conv => whnf) | (refine W.cond ?_; conv => whnf) | (refine W.drawT dr33 rfl mixed rfl ?_; conv => whnf) | ((with_reducible refine NumK.as _ (divOk (by omega) (by omega) (by omega)) ?_); conv => whnf) | ((with_reducible refine NumK.as _ (modOk (by omega) (by omega) (by omega) (by omega)) ?_); conv => whnf) | (refine NumK.as _ (wrapOk (by omega)) ?_; conv => whnf) | ((with_reducible refine NumK.as _ (wrapU (by omega)) ?_); conv => whnf) | (refine CndK.mk (by omega) ?_; conv => whnf) | (refine CndK.mk rfl ?_; conv => whnf) | (refine CndK.mk ⟨by assumption, rfl⟩ ?_; conv => whnf) | (refine BrK.mk (fun h => ?_) (fun h => ?_) <;> (try simp only [decide_eq_true_eq, decide_eq_false_iff_not, Bool.and_eq_true, Bool.or_eq_true, Bool.not_eq_true', Bool.not_eq_false', Bool.or_eq_false_iff, Bool.and_eq_false_iff, Int.not_lt, Int.not_le, gt_iff_lt, ge_iff_le] at h) <;> first | (exfalso; omega) | (exfalso; exact h rfl) | (exfalso; exact Bool.noConfusion h) | (conv => whnf))))
  all_goals (first | exact ResLe.pure (AVle.bool (by simp only [decide_eq_true_eq, decide_eq_false_iff_not, decide_eq_decide]; omega)) rfl | exact ResLe.pure (AVle.tt_ (by simp only [decide_eq_true_eq, decide_eq_false_iff_not, decide_eq_decide]; omega)) rfl | exact ResLe.pure (AVle.ff_ (by simp only [decide_eq_true_eq, decide_eq_false_iff_not, decide_eq_decide]; omega)) rfl)
theorem leap_t (y : Int) (hy : 0 ≤ y) : ACalls XX 35 [iA y] (bA (decide (leapY y))) := by
  refine ACalls.of (n := Tryd.f35.ntmps) XX_ok Tryd.func35 rfl (by kernel_rfl) rfl rfl (Nat.le_of_ble_eq_true rfl) ?_
  (repeat' (first | refine W.seq ?_ | refine W.block ?_ | (refine W.region ?_; conv => whnf) | (refine W.ret ?_; conv => whnf) | (refine W.skip ?_; conv => whnf) | (refine W.exit ?_; conv => whnf) | (refine W.cond ?_; conv => whnf) | (refine W.drawT dr35 rfl mixed rfl ?_; conv => whnf) | ((with_reducible refine NumK.as _ (divOk (by omega) (by omega) (by omega)) ?_); conv => whnf) | ((with_reducible refine NumK.as _ (modOk (by omega) (by omega) (by omega) (by omega)) ?_); conv => whnf) | (refine NumK.as _ (wrapOk (by omega)) ?_; conv => whnf) | ((with_reducible refine NumK.as _ (wrapU (by omega)) ?_); conv => whnf) | (refine CndK.mk (by omega) ?_; conv => whnf) | (refine CndK.mk rfl ?_; conv => whnf) | (refine CndK.mk ⟨by assumption, rfl⟩ ?_; conv => whnf) | (refine BrK.mk (fun h => ?_) (fun h => ?_) <;> (try simp only [decide_eq_true_eq, decide_eq_false_iff_not, Bool.and_eq_true, Bool.or_eq_true, Bool.not_eq_true', Bool.not_eq_false', Bool.or_eq_false_iff, Bool.and_eq_false_iff, Int.not_lt, Int.not_le, gt_iff_lt, ge_iff_le] at h) <;> first | (exfalso; omega) | (exfalso; exact h rfl) | (exfalso; exact Bool.noConfusion h) | (conv => whnf))))
  all_goals simp only [Int.tmod_eq_emod_of_nonneg hy] at *
  all_goals (first | exact ResLe.pure (AVle.bool (by simp only [decide_eq_true_eq, decide_eq_false_iff_not, decide_eq_decide]; unfold leapY; omega)) rfl | exact ResLe.pure (AVle.tt_ (by simp only [decide_eq_true_eq, decide_eq_false_iff_not, decide_eq_decide]; unfold leapY; omega)) rfl | exact ResLe.pure (AVle.ff_ (by simp only [decide_eq_true_eq, decide_eq_false_iff_not, decide_eq_decide]; unfold leapY; omega)) rfl)
theorem yearLength_t (y : Int) (hy : 0 ≤ y) : ACalls XX 34 [iA y] (iA (ylen y)) := by
  refine ACalls.of (n := Tryd.f34.ntmps) XX_ok Tryd.func34 rfl (by kernel_rfl) rfl rfl (Nat.le_of_ble_eq_true rfl) ?_
  (repeat' (first | refine W.seq ?_ | refine W.block ?_ | (refine W.region ?_; conv => whnf) | (refine W.ret ?_; conv => whnf) | (refine W.skip ?_; conv => whnf) | (refine W.exit ?_; conv => whnf) | (refine W.cond ?_; conv => whnf) | (refine W.drawT dr34 rfl mixed rfl ?_; conv => whnf) | ((with_reducible refine NumK.as _ (divOk (by omega) (by omega) (by omega)) ?_); conv => whnf) | ((with_reducible refine NumK.as _ (modOk (by omega) (by omega) (by omega) (by omega)) ?_); conv => whnf) | (refine NumK.as _ (wrapOk (by omega)) ?_; conv => whnf) | ((with_reducible refine NumK.as _ (wrapU (by omega)) ?_); conv => whnf) | (refine CndK.mk (by omega) ?_; conv => whnf) | (refine CndK.mk rfl ?_; conv => whnf) | (refine CndK.mk ⟨by assumption, rfl⟩ ?_; conv => whnf) | (refine ExCall.by (CallA.p2 rfl (leap_t _ hy) rfl) ?_; conv => whnf) | (refine CallK.by (CallA.p2 rfl (leap_t _ hy) rfl) ?_; conv => whnf) | (refine BrK.mk (fun h => ?_) (fun h => ?_) <;> (try simp only [decide_eq_true_eq, decide_eq_false_iff_not, Bool.and_eq_true, Bool.or_eq_true, Bool.not_eq_true', Bool.not_eq_false', Bool.or_eq_false_iff, Bool.and_eq_false_iff, Int.not_lt, Int.not_le, gt_iff_lt, ge_iff_le] at h) <;> first | (exfalso; omega) | (exfalso; exact h rfl) | (exfalso; exact Bool.noConfusion h) | (conv => whnf))))
  all_goals (exact ResLe.pure (AVle.int (by unfold ylen; first | rw [if_pos ‹leapY y›] | rw [if_neg ‹¬ leapY y›])) rfl)
theorem mlTab_eq (y m : Int) (h1 : 1 ≤ m) (h2 : m ≤ 12) (h : m = 2 → ¬ leapY y) : mlTab ((m - 1).toNat * 1 + 0) = mlen y m := by
  have : m = 1 ∨ m = 2 ∨ m = 3 ∨ m = 4 ∨ m = 5 ∨ m = 6 ∨ m = 7 ∨ m = 8 ∨ m = 9 ∨ m = 10 ∨ m = 11 ∨ m = 12 := by omega
  rcases this with rfl | rfl | rfl | rfl | rfl | rfl | rfl | rfl | rfl | rfl | rfl | rfl <;> first
    | (unfold mlen; rw [if_pos rfl, if_neg (h rfl)]; rfl)
    | rfl
theorem monthLength_t (y m : Int) (hy : 0 ≤ y) (h1 : 1 ≤ m) (h2 : m ≤ 12) : ACalls XX 26 [iA y, iA m] (iA (mlen y m)) := by
  refine ACalls.of (n := Tryd.f26.ntmps) XX_ok Tryd.func26 rfl (by kernel_rfl) rfl rfl (Nat.le_of_ble_eq_true rfl) ?_
  (repeat' (first | refine W.seq ?_ | refine W.block ?_ | (refine W.region ?_; conv => whnf) | (refine W.ret ?_; conv => whnf) | (refine W.skip ?_; conv => whnf) | (refine W.exit ?_; conv => whnf) | (refine W.cond ?_; conv => whnf) | (refine W.drawT dr26 rfl mixed rfl ?_; conv => whnf) | ((with_reducible refine NumK.as _ (divOk (by omega) (by omega) (by omega)) ?_); conv => whnf) | ((with_reducible refine NumK.as _ (modOk (by omega) (by omega) (by omega) (by omega)) ?_); conv => whnf) | (refine NumK.as _ (wrapOk (by omega)) ?_; conv => whnf) | ((with_reducible refine NumK.as _ (wrapU (by omega)) ?_); conv => whnf) | (refine CndK.mk (by omega) ?_; conv => whnf) | (refine CndK.mk rfl ?_; conv => whnf) | (refine CndK.mk ⟨by assumption, rfl⟩ ?_; conv => whnf) | (refine ExCall.by (CallA.p2 rfl (leap_t _ hy) rfl) ?_; conv => whnf) | (refine CallK.by (CallA.p2 rfl (leap_t _ hy) rfl) ?_; conv => whnf) | (refine BrK.mk (fun h => ?_) (fun h => ?_) <;> (try simp only [decide_eq_true_eq, decide_eq_false_iff_not, Bool.and_eq_true, Bool.or_eq_true, Bool.not_eq_true', Bool.not_eq_false', Bool.or_eq_false_iff, Bool.and_eq_false_iff, Int.not_lt, Int.not_le, gt_iff_lt, ge_iff_le] at h) <;> first | (exfalso; omega) | (exfalso; exact h rfl) | (exfalso; exact Bool.noConfusion h) | (conv => whnf))))
  · (exact ResLe.pure (AVle.int (by unfold mlen; rw [if_pos ‹m = 2›, if_pos ‹leapY y›])) rfl)
  · (exact ResLe.pure (AVle.int (by exact mlTab_eq y m h1 h2 (fun _ => ‹¬ leapY y›))) rfl)
  · (exact ResLe.pure (AVle.int (by exact mlTab_eq y m h1 h2 (fun e => absurd e ‹¬ m = 2›))) rfl)
theorem rday_t (d : Int) : ACalls XX 36 [iA d] (bA (decide (0 ≤ d ∧ d ≤ 36524))) := by
  refine ACalls.of (n := Tryd.f36.ntmps) XX_ok Tryd.func36 rfl (by kernel_rfl) rfl rfl (Nat.le_of_ble_eq_true rfl) ?_
  (repeat' (first | refine W.seq ?_ | refine W.block ?_ | (refine W.region ?_; conv => whnf) | (refine W.ret ?_; conv => whnf) | (refine W.skip ?_; conv => whnf) | (refine W.exit ?_; conv => whnf) | (refine W.cond ?_; conv => whnf) | (refine W.drawT dr36 rfl mixed rfl ?_; conv => whnf) | ((with_reducible refine NumK.as _ (divOk (by omega) (by omega) (by omega)) ?_); conv => whnf) | ((with_reducible refine NumK.as _ (modOk (by omega) (by omega) (by omega) (by omega)) ?_); conv => whnf) | (refine NumK.as _ (wrapOk (by omega)) ?_; conv => whnf) | ((with_reducible refine NumK.as _ (wrapU (by omega)) ?_); conv => whnf) | (refine CndK.mk (by omega) ?_; conv => whnf) | (refine CndK.mk rfl ?_; conv => whnf) | (refine CndK.mk ⟨by assumption, rfl⟩ ?_; conv => whnf) | (refine BrK.mk (fun h => ?_) (fun h => ?_) <;> (try simp only [decide_eq_true_eq, decide_eq_false_iff_not, Bool.and_eq_true, Bool.or_eq_true, Bool.not_eq_true', Bool.not_eq_false', Bool.or_eq_false_iff, Bool.and_eq_false_iff, Int.not_lt, Int.not_le, gt_iff_lt, ge_iff_le] at h) <;> first | (exfalso; omega) | (exfalso; exact h rfl) | (exfalso; exact Bool.noConfusion h) | (conv => whnf))))
  all_goals (first | exact ResLe.pure (AVle.bool (by simp only [decide_eq_true_eq, decide_eq_false_iff_not, decide_eq_decide]; omega)) rfl | exact ResLe.pure (AVle.tt_ (by simp only [decide_eq_true_eq, decide_eq_false_iff_not, decide_eq_decide]; omega)) rfl | exact ResLe.pure (AVle.ff_ (by simp only [decide_eq_true_eq, decide_eq_false_iff_not, decide_eq_decide]; omega)) rfl)
theorem long_t (y m : Int) (hy : 0 ≤ y) (h1 : 1 ≤ m) (h2 : m ≤ 12) : ACalls XX 29 [iA y, iA m] (iA (mlen y m)) := by
  refine ACalls.of (n := Tryd.f29.ntmps) XX_ok Tryd.func29 rfl (by kernel_rfl) rfl rfl (Nat.le_of_ble_eq_true rfl) ?_
  (repeat' (first | refine W.seq ?_ | refine W.block ?_ | (refine W.region ?_; conv => whnf) | (refine W.ret ?_; conv => whnf) | (refine W.skip ?_; conv => whnf) | (refine W.exit ?_; conv => whnf) | (refine W.cond ?_; conv => whnf) | (refine W.drawT dr29 rfl mixed rfl ?_; conv => whnf) | ((with_reducible refine NumK.as _ (divOk (by omega) (by omega) (by omega)) ?_); conv => whnf) | ((with_reducible refine NumK.as _ (modOk (by omega) (by omega) (by omega) (by omega)) ?_); conv => whnf) | (refine NumK.as _ (wrapOk (by omega)) ?_; conv => whnf) | ((with_reducible refine NumK.as _ (wrapU (by omega)) ?_); conv => whnf) | (refine CndK.mk (by omega) ?_; conv => whnf) | (refine CndK.mk rfl ?_; conv => whnf) | (refine CndK.mk ⟨by assumption, rfl⟩ ?_; conv => whnf) | (refine BrK.mk (fun h => ?_) (fun h => ?_) <;> (try simp only [decide_eq_true_eq, decide_eq_false_iff_not, Bool.and_eq_true, Bool.or_eq_true, Bool.not_eq_true', Bool.not_eq_false', Bool.or_eq_false_iff, Bool.and_eq_false_iff, Int.not_lt, Int.not_le, gt_iff_lt, ge_iff_le] at h) <;> first | (exfalso; omega) | (exfalso; exact h rfl) | (exfalso; exact Bool.noConfusion h) | (conv => whnf))))
  all_goals (try simp only [Int.tmod_eq_emod_of_nonneg hy] at *)
  all_goals (exact ResLe.pure (AVle.int (by unfold mlen leapY; split <;> (try split) <;> omega)) rfl)

/-! Months counted from January 2000. -/
def L (k : Nat) : Int := mlen (2000 + (k / 12 : Nat)) ((k % 12 : Nat) + 1)
def F : Nat → Int
  | 0 => 0
  | k + 1 => F k + L k
theorem L_pos (k : Nat) : 28 ≤ L k ∧ L k ≤ 31 := by
  unfold L mlen; repeat' split
  all_goals omega
theorem F_mono {a b : Nat} (h : a ≤ b) : F a ≤ F b := by
  induction h with
  | refl => exact Int.le_refl _
  | step _ ih => have := L_pos (by assumption); simp only [F]; omega
theorem F_lt {a b : Nat} (h : F a < F b) : a < b := by
  rcases Nat.lt_or_ge a b with h1 | h1
  · exact h1
  · have := F_mono h1; omega
theorem F_uniq {a b : Nat} {d : Int} (h1 : F a ≤ d) (h2 : d < F (a + 1)) (h3 : F b ≤ d) (h4 : d < F (b + 1)) : a = b := by
  have := F_lt (a := a) (b := b + 1) (by omega)
  have := F_lt (a := b) (b := a + 1) (by omega)
  omega
theorem F_year (j : Nat) : F (12 * (j + 1)) = F (12 * j) + ylen (2000 + j) := by
  have e : 12 * (j + 1) = 12 * j + 11 + 1 := by omega
  rw [e]
  have q : ∀ i, i < 12 → L (12 * j + i) = mlen (2000 + j) (i + 1) := fun i hi => by
    unfold L
    rw [show (12 * j + i) / 12 = j by omega, show (12 * j + i) % 12 = i by omega]
  simp only [F]
  rw [q 11 (by omega), q 10 (by omega), q 9 (by omega), q 8 (by omega), q 7 (by omega), q 6 (by omega), q 5 (by omega), q 4 (by omega), q 3 (by omega), q 2 (by omega), q 1 (by omega)]
  have := q 0 (by omega)
  rw [Nat.add_zero] at this
  rw [this]
  unfold mlen ylen
  by_cases hl : leapY (2000 + (j : Int))
  · simp [hl]; omega
  · simp [hl]; omega
theorem F_end : F 1200 = 36525 := by decide +kernel
theorem mo_ex (d : Int) (h0 : 0 ≤ d) : ∀ n, d < F n → ∃ k, k < n ∧ F k ≤ d ∧ d < F (k + 1)
  | 0, h => by simp [F] at h; omega
  | n + 1, h => by
    rcases Int.lt_or_le d (F n) with h1 | h1
    · obtain ⟨k, e1, e2, e3⟩ := mo_ex d h0 n h1
      exact ⟨k, by omega, e2, e3⟩
    · exact ⟨n, by omega, h1, h⟩
end Go.Proofs.YtaidaibbeghhdaaDoor
