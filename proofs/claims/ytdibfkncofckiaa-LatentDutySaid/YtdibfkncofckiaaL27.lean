/- The laws of portions. -/
import Derived.Test.YtdibfkncofckiaaS6
import Derived.Test.YtdibfkncofckiaaRM
namespace Go.Proofs.Ytdibfkncofckiaa
open Go Go.RowKit
set_option linter.unusedVariables false
set_option linter.unusedSimpArgs false
set_option maxRecDepth 100000
set_option maxHeartbeats 4000000
attribute [local irreducible] ResLe AVle ArgLe ArgP EntLe Dle ResH ArgQ

theorem rmd_t (a u n : Int) (ha : amOk a) (hu : unOk u) (hn : 0 ≤ n ∧ n ≤ u) : ACalls XX 20 [iA a, iA n, iA u] (iA (a * n / u)) := by
  unfold amOk at ha
  unfold unOk at hu
  obtain ⟨x, rfl⟩ := Int.eq_ofNat_of_zero_le ha.1
  obtain ⟨y, rfl⟩ := Int.eq_ofNat_of_zero_le hn.1
  obtain ⟨z, rfl⟩ := Int.eq_ofNat_of_zero_le (show 0 ≤ u by omega)
  have h1 : x / z * y ≤ x := by
    have h2 : x / z * y ≤ x / z * z := Nat.mul_le_mul_left _ (by omega)
    have h3 := Nat.div_mul_le_self x z
    omega
  have k := rmulDiv_t x y z (by omega) (by omega) (by omega) (by omega) (by omega)
  have e : ((x * y / z : Nat) : Int) = (x : Int) * y / z := by simp
  rw [e] at k
  exact k
theorem rportion_t (a u s e : Int) : ACalls XX 8 [iA a, iA u, iA s, iA e] (.tup [iA (if porOk a u s e then porI a u s e else 0), iA (if porOk a u s e then 0 else 2)]) := by
  by_cases hp : porOk a u s e
  · rw [if_pos hp, if_pos hp]
    obtain ⟨h1, h2, h3⟩ := hp
    have k1 := rmd_t a u e h1 h2 (by omega)
    have k2 := rmd_t a u s h1 h2 (by omega)
    have r1 := mulDiv_rng h1 h2 (n := e) (by omega)
    have r2 := mulDiv_rng h1 h2 (n := s) (by omega)
    unfold amOk at h1
    unfold unOk at h2
    unfold porI
    generalize a * e / u = r at *
    generalize a * s / u = r' at *
    refine ACalls.of (n := Try.f8.ntmps) XX_ok Try.func8 rfl (by kernel_rfl) rfl rfl (Nat.le_of_ble_eq_true rfl) ?_
    (repeat' (first | refine W.seq ?_ | refine W.block ?_ | (refine W.region ?_; conv => whnf) | (refine W.ret ?_; conv => whnf) | (refine W.skip ?_; conv => whnf) | (refine W.exit ?_; conv => whnf) | (refine W.cond ?_; conv => whnf) | (refine W.drawT dr8 rfl mixed rfl ?_; conv => whnf) | ((with_reducible refine NumK.as _ (divOk (by omega) (by omega) (by omega)) ?_); conv => whnf) | ((with_reducible refine NumK.as _ (modOk (by omega) (by omega) (by omega) (by omega)) ?_); conv => whnf) | (refine NumK.as _ (wrapOk (by omega)) ?_; conv => whnf) | ((with_reducible refine NumK.as _ (wrapU (by omega)) ?_); conv => whnf) | (refine CndK.mk (by omega) ?_; conv => whnf) | (refine CndK.mk ?_ ?_; (focus (first | omega | (simp; done) | (simp; omega))); conv => whnf) | (refine UnK.mk (fun b hb => ?_); conv => whnf) | (refine CndK.mk rfl ?_; conv => whnf) | (refine CndK.mk ⟨by assumption, rfl⟩ ?_; conv => whnf) | (refine ExCall.by (CallA.p2 rfl (k1) rfl) ?_; conv => whnf) | (refine CallK.by (CallA.p2 rfl (k1) rfl) ?_; conv => whnf) | (refine ExCall.by (CallA.d2 rfl (k1)) ?_; conv => whnf) | (refine CallK.by (CallA.d2 rfl (k1)) ?_; conv => whnf) | (refine ExCall.by (CallA.p2 rfl (k2) rfl) ?_; conv => whnf) | (refine CallK.by (CallA.p2 rfl (k2) rfl) ?_; conv => whnf) | (refine ExCall.by (CallA.d2 rfl (k2)) ?_; conv => whnf) | (refine CallK.by (CallA.d2 rfl (k2)) ?_; conv => whnf) | (refine BrK.mk (fun h => ?_) (fun h => ?_) <;> (try simp only [decide_eq_true_eq, decide_eq_false_iff_not, Bool.and_eq_true, Bool.or_eq_true, Bool.not_eq_true', Bool.not_eq_false', Bool.or_eq_false_iff, Bool.and_eq_false_iff, Int.not_lt, Int.not_le, gt_iff_lt, ge_iff_le] at h) <;> first | (exfalso; omega) | (exfalso; exact h rfl) | (exfalso; exact Bool.noConfusion h) | contradiction | (conv => whnf))))
    all_goals (repeat' (first | exact trivial | exact ResLe.pure (AVle.refl _) rfl | exact ResLe.pure (AVle.tt_ rfl) rfl | exact ResLe.pure (AVle.ff_ rfl) rfl | exact ResLe.row0 rfl | exact ResLe.pure (AVle.int (by first | rfl | omega)) rfl | exact ResLe.pure (AVle.bool (by simp only [decide_eq_true_eq, decide_eq_false_iff_not, decide_eq_decide]; first | rfl | omega)) rfl | exact ResLe.pure (AVle.tt_ (by simp only [decide_eq_true_eq, decide_eq_false_iff_not, decide_eq_decide]; first | rfl | omega)) rfl | exact ResLe.pure (AVle.ff_ (by simp only [decide_eq_true_eq, decide_eq_false_iff_not, decide_eq_decide]; first | rfl | omega)) rfl | exact ResLe.pure (AVle.of_tt (by simp only [decide_eq_true_eq, decide_eq_false_iff_not, decide_eq_decide]; first | rfl | omega)) rfl | exact ResLe.pure (AVle.of_ff (by simp only [decide_eq_true_eq, decide_eq_false_iff_not, decide_eq_decide]; first | rfl | omega)) rfl | exact ResLe.pure (AVle.dat (Dle.nil _ _)) rfl | refine ResLe.agg ?_ | refine And.intro ?_ ?_ | ((conv => whnf); first | exact ResLe.pure (AVle.refl _) rfl | exact ResLe.pure (AVle.tt_ rfl) rfl | exact ResLe.pure (AVle.ff_ rfl) rfl | exact ResLe.row0 rfl | exact ResLe.pure (AVle.int (by first | rfl | omega)) rfl | exact ResLe.pure (AVle.bool (by simp only [decide_eq_true_eq, decide_eq_false_iff_not, decide_eq_decide]; first | rfl | omega)) rfl | exact ResLe.pure (AVle.tt_ (by simp only [decide_eq_true_eq, decide_eq_false_iff_not, decide_eq_decide]; first | rfl | omega)) rfl | exact ResLe.pure (AVle.ff_ (by simp only [decide_eq_true_eq, decide_eq_false_iff_not, decide_eq_decide]; first | rfl | omega)) rfl | exact ResLe.pure (AVle.of_tt (by simp only [decide_eq_true_eq, decide_eq_false_iff_not, decide_eq_decide]; first | rfl | omega)) rfl | exact ResLe.pure (AVle.of_ff (by simp only [decide_eq_true_eq, decide_eq_false_iff_not, decide_eq_decide]; first | rfl | omega)) rfl | exact ResLe.pure (AVle.dat (Dle.nil _ _)) rfl | refine ResLe.agg ?_)))
  · rw [if_neg hp, if_neg hp]
    unfold porOk amOk unOk at hp
    refine ACalls.of (n := Try.f8.ntmps) XX_ok Try.func8 rfl (by kernel_rfl) rfl rfl (Nat.le_of_ble_eq_true rfl) ?_
    (repeat' (first | refine W.seq ?_ | refine W.block ?_ | (refine W.region ?_; conv => whnf) | (refine W.ret ?_; conv => whnf) | (refine W.skip ?_; conv => whnf) | (refine W.exit ?_; conv => whnf) | (refine W.cond ?_; conv => whnf) | (refine W.drawT dr8 rfl mixed rfl ?_; conv => whnf) | ((with_reducible refine NumK.as _ (divOk (by omega) (by omega) (by omega)) ?_); conv => whnf) | ((with_reducible refine NumK.as _ (modOk (by omega) (by omega) (by omega) (by omega)) ?_); conv => whnf) | (refine NumK.as _ (wrapOk (by omega)) ?_; conv => whnf) | ((with_reducible refine NumK.as _ (wrapU (by omega)) ?_); conv => whnf) | (refine CndK.mk (by omega) ?_; conv => whnf) | (refine CndK.mk ?_ ?_; (focus (first | omega | (simp; done) | (simp; omega))); conv => whnf) | (refine UnK.mk (fun b hb => ?_); conv => whnf) | (refine CndK.mk rfl ?_; conv => whnf) | (refine CndK.mk ⟨by assumption, rfl⟩ ?_; conv => whnf) | (refine BrK.mk (fun h => ?_) (fun h => ?_) <;> (try simp only [decide_eq_true_eq, decide_eq_false_iff_not, Bool.and_eq_true, Bool.or_eq_true, Bool.not_eq_true', Bool.not_eq_false', Bool.or_eq_false_iff, Bool.and_eq_false_iff, Int.not_lt, Int.not_le, gt_iff_lt, ge_iff_le] at h) <;> first | (exfalso; omega) | (exfalso; exact h rfl) | (exfalso; exact Bool.noConfusion h) | contradiction | (conv => whnf))))
    all_goals (repeat' (first | exact trivial | exact ResLe.pure (AVle.refl _) rfl | exact ResLe.pure (AVle.tt_ rfl) rfl | exact ResLe.pure (AVle.ff_ rfl) rfl | exact ResLe.row0 rfl | exact ResLe.pure (AVle.int (by first | rfl | omega)) rfl | exact ResLe.pure (AVle.bool (by simp only [decide_eq_true_eq, decide_eq_false_iff_not, decide_eq_decide]; first | rfl | omega)) rfl | exact ResLe.pure (AVle.tt_ (by simp only [decide_eq_true_eq, decide_eq_false_iff_not, decide_eq_decide]; first | rfl | omega)) rfl | exact ResLe.pure (AVle.ff_ (by simp only [decide_eq_true_eq, decide_eq_false_iff_not, decide_eq_decide]; first | rfl | omega)) rfl | exact ResLe.pure (AVle.of_tt (by simp only [decide_eq_true_eq, decide_eq_false_iff_not, decide_eq_decide]; first | rfl | omega)) rfl | exact ResLe.pure (AVle.of_ff (by simp only [decide_eq_true_eq, decide_eq_false_iff_not, decide_eq_decide]; first | rfl | omega)) rfl | exact ResLe.pure (AVle.dat (Dle.nil _ _)) rfl | refine ResLe.agg ?_ | refine And.intro ?_ ?_ | ((conv => whnf); first | exact ResLe.pure (AVle.refl _) rfl | exact ResLe.pure (AVle.tt_ rfl) rfl | exact ResLe.pure (AVle.ff_ rfl) rfl | exact ResLe.row0 rfl | exact ResLe.pure (AVle.int (by first | rfl | omega)) rfl | exact ResLe.pure (AVle.bool (by simp only [decide_eq_true_eq, decide_eq_false_iff_not, decide_eq_decide]; first | rfl | omega)) rfl | exact ResLe.pure (AVle.tt_ (by simp only [decide_eq_true_eq, decide_eq_false_iff_not, decide_eq_decide]; first | rfl | omega)) rfl | exact ResLe.pure (AVle.ff_ (by simp only [decide_eq_true_eq, decide_eq_false_iff_not, decide_eq_decide]; first | rfl | omega)) rfl | exact ResLe.pure (AVle.of_tt (by simp only [decide_eq_true_eq, decide_eq_false_iff_not, decide_eq_decide]; first | rfl | omega)) rfl | exact ResLe.pure (AVle.of_ff (by simp only [decide_eq_true_eq, decide_eq_false_iff_not, decide_eq_decide]; first | rfl | omega)) rfl | exact ResLe.pure (AVle.dat (Dle.nil _ _)) rfl | refine ResLe.agg ?_)))
theorem near {a u s n : Int} (h : porOk a u s (s + n)) (hn : 0 ≤ n) : -u < porI a u s (s + n) * u - a * n ∧ porI a u s (s + n) * u - a * n < u := by
  obtain ⟨h1, h2, h3⟩ := h
  unfold unOk at h2
  unfold porI
  have p1 := Int.mul_ediv_add_emod (a * (s + n)) u
  have p2 := Int.mul_ediv_add_emod (a * s) u
  have q1 := Int.emod_nonneg (a * (s + n)) (show u ≠ 0 by omega)
  have q2 := Int.emod_nonneg (a * s) (show u ≠ 0 by omega)
  have q3 := Int.emod_lt_of_pos (a * (s + n)) (show 0 < u by omega)
  have q4 := Int.emod_lt_of_pos (a * s) (show 0 < u by omega)
  have e : a * (s + n) = a * s + a * n := Int.mul_add _ _ _
  rw [Int.sub_mul, Int.mul_comm (a * (s + n) / u), Int.mul_comm (a * s / u)]
  omega
theorem lawNear_t (x0 x1 x2 x3 : Int) : ACalls XX 4 [iA x0, iA x1, iA x2, iA x3] (bA true) := by
  have k0 := within_t x0 1000001 (by omega) (by omega)
  have k1 := within_t x1 1000 (by omega) (by omega)
  have b0 := Int.emod_nonneg x0 (show (1000001 : Int) ≠ 0 by omega)
  have b0' := Int.emod_lt_of_pos x0 (show (0 : Int) < 1000001 by omega)
  have b1 := Int.emod_nonneg x1 (show (1000 : Int) ≠ 0 by omega)
  have b1' := Int.emod_lt_of_pos x1 (show (0 : Int) < 1000 by omega)
  generalize x0 % 1000001 = a at *
  generalize x1 % 1000 = u at *
  have k2 := within_t x2 (1 + u + 1) (by omega) (by omega)
  have b2 := Int.emod_nonneg x2 (show (1 + u + 1 : Int) ≠ 0 by omega)
  have b2' := Int.emod_lt_of_pos x2 (show (0 : Int) < 1 + u + 1 by omega)
  generalize x2 % (1 + u + 1) = s at *
  have k3 := within_t x3 (1 + u - s + 1) (by omega) (by omega)
  have b3 := Int.emod_nonneg x3 (show (1 + u - s + 1 : Int) ≠ 0 by omega)
  have b3' := Int.emod_lt_of_pos x3 (show (0 : Int) < 1 + u - s + 1 by omega)
  generalize x3 % (1 + u - s + 1) = n at *
  have hp : porOk a (1 + u) s (s + n) := by unfold porOk amOk unOk; omega
  have k4 := portion_t a (1 + u) s (s + n)
  rw [if_pos hp, if_pos hp] at k4
  have hN := near hp b3
  have hR := porI_rng hp
  have hM : a * n ≤ 1000000 * 1000 := Int.mul_le_mul (by omega) (by omega) (by omega) (by omega)
  have hM0 : 0 ≤ a * n := Int.mul_nonneg (by omega) (by omega)
  generalize porI a (1 + u) s (s + n) = v at *
  have hQ := l27awake_t
  refine ACalls.of (n := Try.f4.ntmps) XX_ok Try.func4 rfl (by kernel_rfl) rfl rfl (Nat.le_of_ble_eq_true rfl) ?_
  (repeat' (first | refine W.seq ?_ | refine W.block ?_ | (refine W.region ?_; conv => whnf) | (refine W.ret ?_; conv => whnf) | (refine W.skip ?_; conv => whnf) | (refine W.exit ?_; conv => whnf) | (refine W.cond ?_; conv => whnf) | (refine W.drawT dr4 rfl mixed rfl ?_; conv => whnf) | ((with_reducible refine NumK.as _ (divOk (by omega) (by omega) (by omega)) ?_); conv => whnf) | ((with_reducible refine NumK.as _ (modOk (by omega) (by omega) (by omega) (by omega)) ?_); conv => whnf) | (refine NumK.as _ (wrapOk (by omega)) ?_; conv => whnf) | ((with_reducible refine NumK.as _ (wrapU (by omega)) ?_); conv => whnf) | (refine CndK.mk (by omega) ?_; conv => whnf) | (refine CndK.mk ?_ ?_; (focus (first | omega | (simp; done) | (simp; omega))); conv => whnf) | (refine UnK.mk (fun b hb => ?_); conv => whnf) | (refine CndK.mk rfl ?_; conv => whnf) | (refine CndK.mk ⟨by assumption, rfl⟩ ?_; conv => whnf) | (refine ExCall.by (CallA.p2 rfl (k0) rfl) ?_; conv => whnf) | (refine CallK.by (CallA.p2 rfl (k0) rfl) ?_; conv => whnf) | (refine ExCall.by (CallA.d2 rfl (k0)) ?_; conv => whnf) | (refine CallK.by (CallA.d2 rfl (k0)) ?_; conv => whnf) | (refine ExCall.by (CallA.p2 rfl (k1) rfl) ?_; conv => whnf) | (refine CallK.by (CallA.p2 rfl (k1) rfl) ?_; conv => whnf) | (refine ExCall.by (CallA.d2 rfl (k1)) ?_; conv => whnf) | (refine CallK.by (CallA.d2 rfl (k1)) ?_; conv => whnf) | (refine ExCall.by (CallA.p2 rfl (k2) rfl) ?_; conv => whnf) | (refine CallK.by (CallA.p2 rfl (k2) rfl) ?_; conv => whnf) | (refine ExCall.by (CallA.d2 rfl (k2)) ?_; conv => whnf) | (refine CallK.by (CallA.d2 rfl (k2)) ?_; conv => whnf) | (refine ExCall.by (CallA.p2 rfl (k3) rfl) ?_; conv => whnf) | (refine CallK.by (CallA.p2 rfl (k3) rfl) ?_; conv => whnf) | (refine ExCall.by (CallA.d2 rfl (k3)) ?_; conv => whnf) | (refine CallK.by (CallA.d2 rfl (k3)) ?_; conv => whnf) | (refine ExCall.by (CallA.p2 rfl (k4) rfl) ?_; conv => whnf) | (refine CallK.by (CallA.p2 rfl (k4) rfl) ?_; conv => whnf) | (refine ExCall.by (CallA.d2 rfl (k4)) ?_; conv => whnf) | (refine CallK.by (CallA.d2 rfl (k4)) ?_; conv => whnf) | (refine ExCall.by (CallA.p2 rfl (hQ) rfl) ?_; conv => whnf) | (refine CallK.by (CallA.p2 rfl (hQ) rfl) ?_; conv => whnf) | (refine ExCall.by (CallA.d2 rfl (hQ)) ?_; conv => whnf) | (refine CallK.by (CallA.d2 rfl (hQ)) ?_; conv => whnf) | (refine BrK.mk (fun h => ?_) (fun h => ?_) <;> (try simp only [decide_eq_true_eq, decide_eq_false_iff_not, Bool.and_eq_true, Bool.or_eq_true, Bool.not_eq_true', Bool.not_eq_false', Bool.or_eq_false_iff, Bool.and_eq_false_iff, Int.not_lt, Int.not_le, gt_iff_lt, ge_iff_le] at h) <;> first | (exfalso; omega) | (exfalso; exact h rfl) | (exfalso; exact Bool.noConfusion h) | contradiction | (conv => whnf))))
  all_goals (repeat' (first | exact trivial | exact ResLe.pure (AVle.refl _) rfl | exact ResLe.pure (AVle.tt_ rfl) rfl | exact ResLe.pure (AVle.ff_ rfl) rfl | exact ResLe.row0 rfl | exact ResLe.pure (AVle.int (by first | rfl | omega)) rfl | exact ResLe.pure (AVle.bool (by simp only [decide_eq_true_eq, decide_eq_false_iff_not, decide_eq_decide]; first | rfl | omega)) rfl | exact ResLe.pure (AVle.tt_ (by simp only [decide_eq_true_eq, decide_eq_false_iff_not, decide_eq_decide]; first | rfl | omega)) rfl | exact ResLe.pure (AVle.ff_ (by simp only [decide_eq_true_eq, decide_eq_false_iff_not, decide_eq_decide]; first | rfl | omega)) rfl | exact ResLe.pure (AVle.of_tt (by simp only [decide_eq_true_eq, decide_eq_false_iff_not, decide_eq_decide]; first | rfl | omega)) rfl | exact ResLe.pure (AVle.of_ff (by simp only [decide_eq_true_eq, decide_eq_false_iff_not, decide_eq_decide]; first | rfl | omega)) rfl | exact ResLe.pure (AVle.dat (Dle.nil _ _)) rfl | refine ResLe.agg ?_ | refine And.intro ?_ ?_ | ((conv => whnf); first | exact ResLe.pure (AVle.refl _) rfl | exact ResLe.pure (AVle.tt_ rfl) rfl | exact ResLe.pure (AVle.ff_ rfl) rfl | exact ResLe.row0 rfl | exact ResLe.pure (AVle.int (by first | rfl | omega)) rfl | exact ResLe.pure (AVle.bool (by simp only [decide_eq_true_eq, decide_eq_false_iff_not, decide_eq_decide]; first | rfl | omega)) rfl | exact ResLe.pure (AVle.tt_ (by simp only [decide_eq_true_eq, decide_eq_false_iff_not, decide_eq_decide]; first | rfl | omega)) rfl | exact ResLe.pure (AVle.ff_ (by simp only [decide_eq_true_eq, decide_eq_false_iff_not, decide_eq_decide]; first | rfl | omega)) rfl | exact ResLe.pure (AVle.of_tt (by simp only [decide_eq_true_eq, decide_eq_false_iff_not, decide_eq_decide]; first | rfl | omega)) rfl | exact ResLe.pure (AVle.of_ff (by simp only [decide_eq_true_eq, decide_eq_false_iff_not, decide_eq_decide]; first | rfl | omega)) rfl | exact ResLe.pure (AVle.dat (Dle.nil _ _)) rfl | refine ResLe.agg ?_)))
theorem lawPortion_t (x0 x1 x2 x3 x4 : Int) (b5 : Bool) : ACalls XX 3 [iA x0, iA x1, iA x2, iA x3, iA x4, bA b5] (bA true) := by
  have hQ := l27awake_t
  cases b5 with
  | true =>
    have k4 := portion_t x0 x1 x2 x3
    have k5 := rportion_t x0 x1 x2 x3
    generalize (if porOk x0 x1 x2 x3 then porI x0 x1 x2 x3 else 0) = v at *
    generalize (if porOk x0 x1 x2 x3 then (0 : Int) else 2) = er at *
    refine ACalls.of (n := Try.f3.ntmps) XX_ok Try.func3 rfl (by kernel_rfl) rfl rfl (Nat.le_of_ble_eq_true rfl) ?_
    (repeat' (first | refine W.seq ?_ | refine W.block ?_ | (refine W.region ?_; conv => whnf) | (refine W.ret ?_; conv => whnf) | (refine W.skip ?_; conv => whnf) | (refine W.exit ?_; conv => whnf) | (refine W.cond ?_; conv => whnf) | (refine W.drawT dr3 rfl mixed rfl ?_; conv => whnf) | ((with_reducible refine NumK.as _ (divOk (by omega) (by omega) (by omega)) ?_); conv => whnf) | ((with_reducible refine NumK.as _ (modOk (by omega) (by omega) (by omega) (by omega)) ?_); conv => whnf) | (refine NumK.as _ (wrapOk (by omega)) ?_; conv => whnf) | ((with_reducible refine NumK.as _ (wrapU (by omega)) ?_); conv => whnf) | (refine CndK.mk (by omega) ?_; conv => whnf) | (refine CndK.mk ?_ ?_; (focus (first | omega | (simp; done) | (simp; omega))); conv => whnf) | (refine UnK.mk (fun b hb => ?_); conv => whnf) | (refine CndK.mk rfl ?_; conv => whnf) | (refine CndK.mk ⟨by assumption, rfl⟩ ?_; conv => whnf) | (refine ExCall.by (CallA.p2 rfl (k4) rfl) ?_; conv => whnf) | (refine CallK.by (CallA.p2 rfl (k4) rfl) ?_; conv => whnf) | (refine ExCall.by (CallA.d2 rfl (k4)) ?_; conv => whnf) | (refine CallK.by (CallA.d2 rfl (k4)) ?_; conv => whnf) | (refine ExCall.by (CallA.p2 rfl (k5) rfl) ?_; conv => whnf) | (refine CallK.by (CallA.p2 rfl (k5) rfl) ?_; conv => whnf) | (refine ExCall.by (CallA.d2 rfl (k5)) ?_; conv => whnf) | (refine CallK.by (CallA.d2 rfl (k5)) ?_; conv => whnf) | (refine ExCall.by (CallA.p2 rfl (hQ) rfl) ?_; conv => whnf) | (refine CallK.by (CallA.p2 rfl (hQ) rfl) ?_; conv => whnf) | (refine ExCall.by (CallA.d2 rfl (hQ)) ?_; conv => whnf) | (refine CallK.by (CallA.d2 rfl (hQ)) ?_; conv => whnf) | (refine BrK.mk (fun h => ?_) (fun h => ?_) <;> (try simp only [decide_eq_true_eq, decide_eq_false_iff_not, Bool.and_eq_true, Bool.or_eq_true, Bool.not_eq_true', Bool.not_eq_false', Bool.or_eq_false_iff, Bool.and_eq_false_iff, Int.not_lt, Int.not_le, gt_iff_lt, ge_iff_le] at h) <;> first | (exfalso; omega) | (exfalso; exact h rfl) | (exfalso; exact Bool.noConfusion h) | contradiction | (conv => whnf))))
    all_goals (repeat' (first | exact trivial | exact ResLe.pure (AVle.refl _) rfl | exact ResLe.pure (AVle.tt_ rfl) rfl | exact ResLe.pure (AVle.ff_ rfl) rfl | exact ResLe.row0 rfl | exact ResLe.pure (AVle.int (by first | rfl | omega)) rfl | exact ResLe.pure (AVle.bool (by simp only [decide_eq_true_eq, decide_eq_false_iff_not, decide_eq_decide]; first | rfl | omega)) rfl | exact ResLe.pure (AVle.tt_ (by simp only [decide_eq_true_eq, decide_eq_false_iff_not, decide_eq_decide]; first | rfl | omega)) rfl | exact ResLe.pure (AVle.ff_ (by simp only [decide_eq_true_eq, decide_eq_false_iff_not, decide_eq_decide]; first | rfl | omega)) rfl | exact ResLe.pure (AVle.of_tt (by simp only [decide_eq_true_eq, decide_eq_false_iff_not, decide_eq_decide]; first | rfl | omega)) rfl | exact ResLe.pure (AVle.of_ff (by simp only [decide_eq_true_eq, decide_eq_false_iff_not, decide_eq_decide]; first | rfl | omega)) rfl | exact ResLe.pure (AVle.dat (Dle.nil _ _)) rfl | refine ResLe.agg ?_ | refine And.intro ?_ ?_ | ((conv => whnf); first | exact ResLe.pure (AVle.refl _) rfl | exact ResLe.pure (AVle.tt_ rfl) rfl | exact ResLe.pure (AVle.ff_ rfl) rfl | exact ResLe.row0 rfl | exact ResLe.pure (AVle.int (by first | rfl | omega)) rfl | exact ResLe.pure (AVle.bool (by simp only [decide_eq_true_eq, decide_eq_false_iff_not, decide_eq_decide]; first | rfl | omega)) rfl | exact ResLe.pure (AVle.tt_ (by simp only [decide_eq_true_eq, decide_eq_false_iff_not, decide_eq_decide]; first | rfl | omega)) rfl | exact ResLe.pure (AVle.ff_ (by simp only [decide_eq_true_eq, decide_eq_false_iff_not, decide_eq_decide]; first | rfl | omega)) rfl | exact ResLe.pure (AVle.of_tt (by simp only [decide_eq_true_eq, decide_eq_false_iff_not, decide_eq_decide]; first | rfl | omega)) rfl | exact ResLe.pure (AVle.of_ff (by simp only [decide_eq_true_eq, decide_eq_false_iff_not, decide_eq_decide]; first | rfl | omega)) rfl | exact ResLe.pure (AVle.dat (Dle.nil _ _)) rfl | refine ResLe.agg ?_)))
  | false =>
    have k0 := within_t x0 1000000000001 (by omega) (by omega)
    have k1 := within_t x1 1000000000 (by omega) (by omega)
    have b0 := Int.emod_nonneg x0 (show (1000000000001 : Int) ≠ 0 by omega)
    have b0' := Int.emod_lt_of_pos x0 (show (0 : Int) < 1000000000001 by omega)
    have b1 := Int.emod_nonneg x1 (show (1000000000 : Int) ≠ 0 by omega)
    have b1' := Int.emod_lt_of_pos x1 (show (0 : Int) < 1000000000 by omega)
    generalize x0 % 1000000000001 = a at *
    generalize x1 % 1000000000 = u at *
    have k2 := within_t x2 (1 + u + 1) (by omega) (by omega)
    have b2 := Int.emod_nonneg x2 (show (1 + u + 1 : Int) ≠ 0 by omega)
    have b2' := Int.emod_lt_of_pos x2 (show (0 : Int) < 1 + u + 1 by omega)
    generalize x2 % (1 + u + 1) = s at *
    have k3 := within_t x3 (1 + u - s + 1) (by omega) (by omega)
    have b3 := Int.emod_nonneg x3 (show (1 + u - s + 1 : Int) ≠ 0 by omega)
    have b3' := Int.emod_lt_of_pos x3 (show (0 : Int) < 1 + u - s + 1 by omega)
    generalize x3 % (1 + u - s + 1) = n at *
    have kx := within_t x4 (1 + u - (s + n) + 1) (by omega) (by omega)
    have bx := Int.emod_nonneg x4 (show (1 + u - (s + n) + 1 : Int) ≠ 0 by omega)
    have bx' := Int.emod_lt_of_pos x4 (show (0 : Int) < 1 + u - (s + n) + 1 by omega)
    generalize x4 % (1 + u - (s + n) + 1) = m at *
    have p1 : porOk a (1 + u) s (s + n) := by unfold porOk amOk unOk; omega
    have p2 : porOk a (1 + u) (s + n) (s + n + m) := by unfold porOk amOk unOk; omega
    have p3 : porOk a (1 + u) s (s + n + m) := by unfold porOk amOk unOk; omega
    have p4 : porOk a (1 + u) 0 (1 + u) := by unfold porOk amOk unOk; omega
    have k4 := portion_t a (1 + u) s (s + n)
    have k5 := rportion_t a (1 + u) s (s + n)
    have k6 := portion_t a (1 + u) (s + n) (s + n + m)
    have k7 := portion_t a (1 + u) s (s + n + m)
    have k8 := portion_t a (1 + u) 0 (1 + u)
    rw [if_pos p1, if_pos p1] at k4 k5
    rw [if_pos p2, if_pos p2] at k6
    rw [if_pos p3, if_pos p3] at k7
    rw [if_pos p4, if_pos p4] at k8
    have e1 : porI a (1 + u) s (s + n) + porI a (1 + u) (s + n) (s + n + m) = porI a (1 + u) s (s + n + m) := by unfold porI; omega
    have e2 : porI a (1 + u) 0 (1 + u) = a := by unfold porI; rw [Int.mul_ediv_cancel _ (by omega)]; simp
    have r1 := porI_rng p1
    have r2 := porI_rng p2
    have r3 := porI_rng p3
    generalize porI a (1 + u) s (s + n) = v1 at *
    generalize porI a (1 + u) (s + n) (s + n + m) = v2 at *
    generalize porI a (1 + u) s (s + n + m) = v3 at *
    generalize porI a (1 + u) 0 (1 + u) = v4 at *
    refine ACalls.of (n := Try.f3.ntmps) XX_ok Try.func3 rfl (by kernel_rfl) rfl rfl (Nat.le_of_ble_eq_true rfl) ?_
    (repeat' (first | refine W.seq ?_ | refine W.block ?_ | (refine W.region ?_; conv => whnf) | (refine W.ret ?_; conv => whnf) | (refine W.skip ?_; conv => whnf) | (refine W.exit ?_; conv => whnf) | (refine W.cond ?_; conv => whnf) | (refine W.drawT dr3 rfl mixed rfl ?_; conv => whnf) | ((with_reducible refine NumK.as _ (divOk (by omega) (by omega) (by omega)) ?_); conv => whnf) | ((with_reducible refine NumK.as _ (modOk (by omega) (by omega) (by omega) (by omega)) ?_); conv => whnf) | (refine NumK.as _ (wrapOk (by omega)) ?_; conv => whnf) | ((with_reducible refine NumK.as _ (wrapU (by omega)) ?_); conv => whnf) | (refine CndK.mk (by omega) ?_; conv => whnf) | (refine CndK.mk ?_ ?_; (focus (first | omega | (simp; done) | (simp; omega))); conv => whnf) | (refine UnK.mk (fun b hb => ?_); conv => whnf) | (refine CndK.mk rfl ?_; conv => whnf) | (refine CndK.mk ⟨by assumption, rfl⟩ ?_; conv => whnf) | (refine ExCall.by (CallA.p2 rfl (k0) rfl) ?_; conv => whnf) | (refine CallK.by (CallA.p2 rfl (k0) rfl) ?_; conv => whnf) | (refine ExCall.by (CallA.d2 rfl (k0)) ?_; conv => whnf) | (refine CallK.by (CallA.d2 rfl (k0)) ?_; conv => whnf) | (refine ExCall.by (CallA.p2 rfl (k1) rfl) ?_; conv => whnf) | (refine CallK.by (CallA.p2 rfl (k1) rfl) ?_; conv => whnf) | (refine ExCall.by (CallA.d2 rfl (k1)) ?_; conv => whnf) | (refine CallK.by (CallA.d2 rfl (k1)) ?_; conv => whnf) | (refine ExCall.by (CallA.p2 rfl (k2) rfl) ?_; conv => whnf) | (refine CallK.by (CallA.p2 rfl (k2) rfl) ?_; conv => whnf) | (refine ExCall.by (CallA.d2 rfl (k2)) ?_; conv => whnf) | (refine CallK.by (CallA.d2 rfl (k2)) ?_; conv => whnf) | (refine ExCall.by (CallA.p2 rfl (k3) rfl) ?_; conv => whnf) | (refine CallK.by (CallA.p2 rfl (k3) rfl) ?_; conv => whnf) | (refine ExCall.by (CallA.d2 rfl (k3)) ?_; conv => whnf) | (refine CallK.by (CallA.d2 rfl (k3)) ?_; conv => whnf) | (refine ExCall.by (CallA.p2 rfl (kx) rfl) ?_; conv => whnf) | (refine CallK.by (CallA.p2 rfl (kx) rfl) ?_; conv => whnf) | (refine ExCall.by (CallA.d2 rfl (kx)) ?_; conv => whnf) | (refine CallK.by (CallA.d2 rfl (kx)) ?_; conv => whnf) | (refine ExCall.by (CallA.p2 rfl (k4) rfl) ?_; conv => whnf) | (refine CallK.by (CallA.p2 rfl (k4) rfl) ?_; conv => whnf) | (refine ExCall.by (CallA.d2 rfl (k4)) ?_; conv => whnf) | (refine CallK.by (CallA.d2 rfl (k4)) ?_; conv => whnf) | (refine ExCall.by (CallA.p2 rfl (k5) rfl) ?_; conv => whnf) | (refine CallK.by (CallA.p2 rfl (k5) rfl) ?_; conv => whnf) | (refine ExCall.by (CallA.d2 rfl (k5)) ?_; conv => whnf) | (refine CallK.by (CallA.d2 rfl (k5)) ?_; conv => whnf) | (refine ExCall.by (CallA.p2 rfl (k6) rfl) ?_; conv => whnf) | (refine CallK.by (CallA.p2 rfl (k6) rfl) ?_; conv => whnf) | (refine ExCall.by (CallA.d2 rfl (k6)) ?_; conv => whnf) | (refine CallK.by (CallA.d2 rfl (k6)) ?_; conv => whnf) | (refine ExCall.by (CallA.p2 rfl (k7) rfl) ?_; conv => whnf) | (refine CallK.by (CallA.p2 rfl (k7) rfl) ?_; conv => whnf) | (refine ExCall.by (CallA.d2 rfl (k7)) ?_; conv => whnf) | (refine CallK.by (CallA.d2 rfl (k7)) ?_; conv => whnf) | (refine ExCall.by (CallA.p2 rfl (k8) rfl) ?_; conv => whnf) | (refine CallK.by (CallA.p2 rfl (k8) rfl) ?_; conv => whnf) | (refine ExCall.by (CallA.d2 rfl (k8)) ?_; conv => whnf) | (refine CallK.by (CallA.d2 rfl (k8)) ?_; conv => whnf) | (refine ExCall.by (CallA.p2 rfl (hQ) rfl) ?_; conv => whnf) | (refine CallK.by (CallA.p2 rfl (hQ) rfl) ?_; conv => whnf) | (refine ExCall.by (CallA.d2 rfl (hQ)) ?_; conv => whnf) | (refine CallK.by (CallA.d2 rfl (hQ)) ?_; conv => whnf) | (refine BrK.mk (fun h => ?_) (fun h => ?_) <;> (try simp only [decide_eq_true_eq, decide_eq_false_iff_not, Bool.and_eq_true, Bool.or_eq_true, Bool.not_eq_true', Bool.not_eq_false', Bool.or_eq_false_iff, Bool.and_eq_false_iff, Int.not_lt, Int.not_le, gt_iff_lt, ge_iff_le] at h) <;> first | (exfalso; omega) | (exfalso; exact h rfl) | (exfalso; exact Bool.noConfusion h) | contradiction | (conv => whnf))))
    all_goals (repeat' (first | exact trivial | exact ResLe.pure (AVle.refl _) rfl | exact ResLe.pure (AVle.tt_ rfl) rfl | exact ResLe.pure (AVle.ff_ rfl) rfl | exact ResLe.row0 rfl | exact ResLe.pure (AVle.int (by first | rfl | omega)) rfl | exact ResLe.pure (AVle.bool (by simp only [decide_eq_true_eq, decide_eq_false_iff_not, decide_eq_decide]; first | rfl | omega)) rfl | exact ResLe.pure (AVle.tt_ (by simp only [decide_eq_true_eq, decide_eq_false_iff_not, decide_eq_decide]; first | rfl | omega)) rfl | exact ResLe.pure (AVle.ff_ (by simp only [decide_eq_true_eq, decide_eq_false_iff_not, decide_eq_decide]; first | rfl | omega)) rfl | exact ResLe.pure (AVle.of_tt (by simp only [decide_eq_true_eq, decide_eq_false_iff_not, decide_eq_decide]; first | rfl | omega)) rfl | exact ResLe.pure (AVle.of_ff (by simp only [decide_eq_true_eq, decide_eq_false_iff_not, decide_eq_decide]; first | rfl | omega)) rfl | exact ResLe.pure (AVle.dat (Dle.nil _ _)) rfl | refine ResLe.agg ?_ | refine And.intro ?_ ?_ | ((conv => whnf); first | exact ResLe.pure (AVle.refl _) rfl | exact ResLe.pure (AVle.tt_ rfl) rfl | exact ResLe.pure (AVle.ff_ rfl) rfl | exact ResLe.row0 rfl | exact ResLe.pure (AVle.int (by first | rfl | omega)) rfl | exact ResLe.pure (AVle.bool (by simp only [decide_eq_true_eq, decide_eq_false_iff_not, decide_eq_decide]; first | rfl | omega)) rfl | exact ResLe.pure (AVle.tt_ (by simp only [decide_eq_true_eq, decide_eq_false_iff_not, decide_eq_decide]; first | rfl | omega)) rfl | exact ResLe.pure (AVle.ff_ (by simp only [decide_eq_true_eq, decide_eq_false_iff_not, decide_eq_decide]; first | rfl | omega)) rfl | exact ResLe.pure (AVle.of_tt (by simp only [decide_eq_true_eq, decide_eq_false_iff_not, decide_eq_decide]; first | rfl | omega)) rfl | exact ResLe.pure (AVle.of_ff (by simp only [decide_eq_true_eq, decide_eq_false_iff_not, decide_eq_decide]; first | rfl | omega)) rfl | exact ResLe.pure (AVle.dat (Dle.nil _ _)) rfl | refine ResLe.agg ?_)))

end Go.Proofs.Ytdibfkncofckiaa
