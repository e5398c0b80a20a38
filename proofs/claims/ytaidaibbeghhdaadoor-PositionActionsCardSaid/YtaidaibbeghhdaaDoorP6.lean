/- Interest by descriptions; the check on fixed numbers. -/
import Derived.Test.YtaidaibbeghhdaaDoorP4
import Derived.Test.YtaidaibbeghhdaaDoorP5
import Derived.Test.YtaidaibbeghhdaaDoorEx2
namespace Go.Proofs.YtaidaibbeghhdaaDoor
open Go Go.RowKit
set_option linter.unusedVariables false
set_option linter.unusedSimpArgs false
set_option maxRecDepth 100000
set_option maxHeartbeats 4000000
attribute [local irreducible] ResLe AVle ArgLe ArgP EntLe Dle

abbrev uA (z : Int) : AV := .dat (.val (.int .u64 z))
theorem fnOk_MulDiv : FnOk Tryd.prog 22 := ⟨_, Tryd.func22, rfl, rfl⟩
theorem mulDiv_t (a b c : Int) (ha : 0 ≤ a ∧ a < 18446744073709551616) (hb : 0 ≤ b ∧ b < 18446744073709551616) (hc : 0 < c ∧ c < 18446744073709551616) (hq : a * b / c < 18446744073709551616) :
    ACalls XX 22 [uA a, uA b, uA c, iA 0] (.tup [uA (a * b / c), iA 0]) := by
  obtain ⟨x, rfl⟩ := Int.eq_ofNat_of_zero_le ha.1
  obtain ⟨y, rfl⟩ := Int.eq_ofNat_of_zero_le hb.1
  obtain ⟨z, rfl⟩ := Int.eq_ofNat_of_zero_le (Int.le_of_lt hc.1)
  have e : (x : Int) * y / z = ((x * y / z : Nat) : Int) := by simp
  rw [e] at hq ⊢
  refine ACalls.of_calls (vs := [.int .u64 x, .int .u64 y, .int .u64 z, .int .i64 0]) (v := .tuple #[.int .u64 ((x * y / z : Nat) : Int), .int .i64 0]) fnOk_MulDiv rfl rfl fun w => ?_
  have h := exMulDiv_any x y z 0 (by omega) (by omega) (by omega) w
  rw [divV_ok 0 (x * y) z (x * y / z) (by omega) (by unfold upN; simp [upB]) (by omega)] at h
  exact h

def intP (amount rate f t : Int) : Prop := 0 ≤ amount ∧ amount ≤ 1000000000000 ∧ 0 ≤ rate ∧ rate ≤ 1000000 ∧ 0 ≤ f ∧ f ≤ t ∧ t ≤ 36524
theorem intB {amount rate f t : Int} (h : intP amount rate f t) : (0 ≤ rate * (t - f) ∧ rate * (t - f) ≤ 36524000000) ∧ 0 ≤ amount * (rate * (t - f)) / 365000000 ∧ amount * (rate * (t - f)) / 365000000 ≤ 100065753424658 := by
  obtain ⟨a0, a1, r0, r1, f0, f1, t1⟩ := h
  have h1 : 0 ≤ rate * (t - f) := Int.mul_nonneg r0 (by omega)
  have h2 : rate * (t - f) ≤ 1000000 * 36524 := Int.mul_le_mul r1 (by omega) (by omega) (by omega)
  have h3 : 0 ≤ amount * (rate * (t - f)) := Int.mul_nonneg a0 h1
  have h4 : amount * (rate * (t - f)) ≤ 1000000000000 * 36524000000 := Int.mul_le_mul a1 (by omega) h1 (by omega)
  refine ⟨⟨h1, by omega⟩, ?_, ?_⟩
  · omega
  · omega
theorem interest_bad (amount rate f t : Int) (h : ¬ intP amount rate f t) : ACalls XX 14 [iA amount, iA rate, iA f, iA t] (.tup [iA 0, iA 2]) := by
  unfold intP at h
  refine ACalls.of (n := Tryd.f14.ntmps) XX_ok Tryd.func14 rfl (by kernel_rfl) rfl rfl (Nat.le_of_ble_eq_true rfl) ?_
  (repeat' (first | refine W.seq ?_ | refine W.block ?_ | (refine W.region ?_; conv => whnf) | (refine W.ret ?_; conv => whnf) | (refine W.skip ?_; conv => whnf) | (refine W.exit ?_; conv => whnf) | (refine W.cond ?_; conv => whnf) | (refine W.drawT dr14 rfl mixed rfl ?_; conv => whnf) | ((with_reducible refine NumK.as _ (divOk (by omega) (by omega) (by omega)) ?_); conv => whnf) | ((with_reducible refine NumK.as _ (modOk (by omega) (by omega) (by omega) (by omega)) ?_); conv => whnf) | (refine NumK.as _ (wrapOk (by omega)) ?_; conv => whnf) | ((with_reducible refine NumK.as _ (wrapU (by omega)) ?_); conv => whnf) | (refine CndK.mk (by omega) ?_; conv => whnf) | (refine CndK.mk rfl ?_; conv => whnf) | (refine CndK.mk ⟨by assumption, rfl⟩ ?_; conv => whnf) | (refine BrK.mk (fun h => ?_) (fun h => ?_) <;> (try simp only [decide_eq_true_eq, decide_eq_false_iff_not, Bool.and_eq_true, Bool.or_eq_true, Bool.not_eq_true', Bool.not_eq_false', Bool.or_eq_false_iff, Bool.and_eq_false_iff, Int.not_lt, Int.not_le, gt_iff_lt, ge_iff_le] at h) <;> first | (exfalso; omega) | (exfalso; exact h rfl) | (exfalso; exact Bool.noConfusion h) | (conv => whnf))))
  all_goals (repeat' (first | exact trivial | exact AVle.refl _ | exact AVle.int (by omega) | exact ResLe.pure (AVle.refl _) rfl | exact ResLe.pure (AVle.int (by omega)) rfl | refine ResLe.pure (AVle.agg ?_) rfl | refine ⟨?_, ?_⟩ | ((conv => whnf); first | exact ResLe.pure (AVle.refl _) rfl | exact ResLe.pure (AVle.int (by omega)) rfl | refine ResLe.pure (AVle.agg ?_) rfl)))
theorem interest_t (amount rate f t : Int) (h : intP amount rate f t) : ACalls XX 14 [iA amount, iA rate, iA f, iA t] (.tup [iA (amount * (rate * (t - f)) / 365000000), iA 0]) := by
  obtain ⟨⟨h1, h2⟩, h3, h4⟩ := intB h
  obtain ⟨a0, a1, r0, r1, f0, f1, t1⟩ := h
  refine ACalls.of (n := Tryd.f14.ntmps) XX_ok Tryd.func14 rfl (by kernel_rfl) rfl rfl (Nat.le_of_ble_eq_true rfl) ?_
  (repeat' (first | refine W.seq ?_ | refine W.block ?_ | (refine W.region ?_; conv => whnf) | (refine W.ret ?_; conv => whnf) | (refine W.skip ?_; conv => whnf) | (refine W.exit ?_; conv => whnf) | (refine W.cond ?_; conv => whnf) | (refine W.drawT dr14 rfl mixed rfl ?_; conv => whnf) | ((with_reducible refine NumK.as _ (divOk (by omega) (by omega) (by omega)) ?_); conv => whnf) | ((with_reducible refine NumK.as _ (modOk (by omega) (by omega) (by omega) (by omega)) ?_); conv => whnf) | (refine NumK.as _ (wrapOk (by omega)) ?_; conv => whnf) | ((with_reducible refine NumK.as _ (wrapU (by omega)) ?_); conv => whnf) | (refine CndK.mk (by omega) ?_; conv => whnf) | (refine CndK.mk rfl ?_; conv => whnf) | (refine CndK.mk ⟨by assumption, rfl⟩ ?_; conv => whnf) | (refine ExCall.by (CallA.p2 rfl (mulDiv_t _ _ _ (by omega) (by omega) (by omega) (by omega)) rfl) ?_; conv => whnf) | (refine CallK.by (CallA.p2 rfl (mulDiv_t _ _ _ (by omega) (by omega) (by omega) (by omega)) rfl) ?_; conv => whnf) | (refine BrK.mk (fun h => ?_) (fun h => ?_) <;> (try simp only [decide_eq_true_eq, decide_eq_false_iff_not, Bool.and_eq_true, Bool.or_eq_true, Bool.not_eq_true', Bool.not_eq_false', Bool.or_eq_false_iff, Bool.and_eq_false_iff, Int.not_lt, Int.not_le, gt_iff_lt, ge_iff_le] at h) <;> first | (exfalso; omega) | (exfalso; exact h rfl) | (exfalso; exact Bool.noConfusion h) | (conv => whnf))))
  all_goals (repeat' (first | exact trivial | exact AVle.refl _ | exact AVle.int (by omega) | exact ResLe.pure (AVle.refl _) rfl | exact ResLe.pure (AVle.int (by omega)) rfl | refine ResLe.pure (AVle.agg ?_) rfl | refine ⟨?_, ?_⟩ | ((conv => whnf); first | exact ResLe.pure (AVle.refl _) rfl | exact ResLe.pure (AVle.int (by omega)) rfl | refine ResLe.pure (AVle.agg ?_) rfl)))

theorem eqs : EqS Tryd.prog 24 4 := eqS_mk Tryd.eqGuardType24 Tryd.underlying24 Tryd.stoodInHeld24 (by kernel_rfl) rfl
theorem awake_t : ACalls XX 11 [] (bA true) := by
  have hP := pos_t 2 100 80
  have hR := relief_t 1000 0 31 2 (by unfold relP; omega) (by
    have m0 : mo 0 = 0 := mo_eq (k := 0) (by omega) (by omega) (by decide) (by decide)
    refine ⟨by omega, by omega, ?_, fun i h1 h2 => ?_⟩
    · intro hg
      have := hg.2
      rw [amV0 (d := 0) (n := (2 : Nat)) (k := 2) (by rw [m0]; rfl) (by omega), m0] at this
      exact absurd this (by decide)
    · obtain rfl : i = 1 := by omega
      refine ⟨amE0 (by rw [m0]; omega), ?_⟩
      rw [amV0 (d := 0) (n := (1 : Nat)) (k := 1) (by rw [m0]; rfl) (by omega), m0]
      decide)
  have hI := interest_t 36500 100000 0 10 (by unfold intP; omega)
  unfold posA at hP
  rw [show po 2 100 80 = 20 by decide, show ps 2 100 80 = 80 by decide, show pe 2 100 80 = 0 by decide, show pm 2 100 80 = 0 by decide, show pErr 2 100 80 = 0 by decide] at hP
  rw [show min (1000 : Int) (1000 * 3 * (2 : Nat) / 100) = 60 by decide] at hR
  rw [show (36500 : Int) * (100000 * (10 - 0)) / 365000000 = 100 by decide] at hI
  have he := eqs
  refine ACalls.of (n := Tryd.f11.ntmps) XX_ok Tryd.func11 rfl (by kernel_rfl) rfl rfl (Nat.le_of_ble_eq_true rfl) ?_
  (repeat' (first | refine W.seq ?_ | refine W.block ?_ | (refine W.region ?_; conv => whnf) | (refine W.ret ?_; conv => whnf) | (refine W.skip ?_; conv => whnf) | (refine W.exit ?_; conv => whnf) | (refine W.cond ?_; conv => whnf) | (refine W.drawT dr11 rfl mixed rfl ?_; conv => whnf) | ((with_reducible refine NumK.as _ (divOk (by omega) (by omega) (by omega)) ?_); conv => whnf) | ((with_reducible refine NumK.as _ (modOk (by omega) (by omega) (by omega) (by omega)) ?_); conv => whnf) | (refine NumK.as _ (wrapOk (by omega)) ?_; conv => whnf) | ((with_reducible refine NumK.as _ (wrapU (by omega)) ?_); conv => whnf) | (refine CndK.mk (by omega) ?_; conv => whnf) | (refine CndK.mk rfl ?_; conv => whnf) | (refine CndK.mk ⟨by assumption, rfl⟩ ?_; conv => whnf) | (refine ExCall.by (CallA.p2 rfl (hP) rfl) ?_; conv => whnf) | (refine CallK.by (CallA.p2 rfl (hP) rfl) ?_; conv => whnf) | (refine ExCall.by (CallA.p2 rfl (hR) rfl) ?_; conv => whnf) | (refine CallK.by (CallA.p2 rfl (hR) rfl) ?_; conv => whnf) | (refine ExCall.by (CallA.p2 rfl (hI) rfl) ?_; conv => whnf) | (refine CallK.by (CallA.p2 rfl (hI) rfl) ?_; conv => whnf) | (refine BrK.mk (fun h => ?_) (fun h => ?_) <;> (try simp only [decide_eq_true_eq, decide_eq_false_iff_not, Bool.and_eq_true, Bool.or_eq_true, Bool.not_eq_true', Bool.not_eq_false', Bool.or_eq_false_iff, Bool.and_eq_false_iff, Int.not_lt, Int.not_le, gt_iff_lt, ge_iff_le] at h) <;> first | (exfalso; omega) | (exfalso; exact h rfl) | (exfalso; exact Bool.noConfusion h) | (conv => whnf))))
  all_goals first
    | exact ResLe.pure (AVle.bool rfl) rfl
    | (exfalso; simp at *; done)
end Go.Proofs.YtaidaibbeghhdaaDoor
