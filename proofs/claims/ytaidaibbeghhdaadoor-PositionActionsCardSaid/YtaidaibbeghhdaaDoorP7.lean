/- The laws of positions, walked. -/
import Derived.Test.YtaidaibbeghhdaaDoorP6
namespace Go.Proofs.YtaidaibbeghhdaaDoor
open Go Go.RowKit
set_option linter.unusedVariables false
set_option linter.unusedSimpArgs false
set_option maxRecDepth 100000
set_option maxHeartbeats 4000000
attribute [local irreducible] ResLe AVle ArgLe ArgP EntLe Dle

theorem tmod_lo (x n : Int) (h : 0 < n) : -n < x.tmod n := by
  rcases Int.le_total 0 x with hx | hx
  · have := Int.tmod_nonneg n hx
    omega
  · have h1 := Int.tmod_lt_of_pos (-x) h
    rw [Int.neg_tmod] at h1
    omega
theorem within_eq (x n : Int) (h : 0 < n) : (x.tmod n + n).tmod n = x % n := by
  have h1 : 0 ≤ x.tmod n + n := by have := tmod_lo x n h; omega
  rw [Int.tmod_eq_emod_of_nonneg h1, Int.add_emod_right]
  have h2 := Int.tmod_add_mul_tdiv x n
  have h3 : x.tmod n = x - n * x.tdiv n := by omega
  rw [h3, Int.sub_mul_emod_self_left]
theorem within_t (x n : Int) (h : 0 < n) (h2 : n ≤ 4611686018427387904) : ACalls XX 8 [iA x, iA n] (iA (x % n)) := by
  have h3 := tmod_lo x n h
  have h4 := Int.tmod_lt_of_pos x h
  rw [← within_eq x n h]
  refine ACalls.of (n := Tryd.f8.ntmps) XX_ok Tryd.func8 rfl (by kernel_rfl) rfl rfl (Nat.le_of_ble_eq_true rfl) ?_
  (repeat' (first | refine W.seq ?_ | refine W.block ?_ | (refine W.region ?_; conv => whnf) | (refine W.ret ?_; conv => whnf) | (refine W.skip ?_; conv => whnf) | (refine W.exit ?_; conv => whnf) | (refine W.cond ?_; conv => whnf) | (refine W.drawT dr8 rfl mixed rfl ?_; conv => whnf) | ((with_reducible refine NumK.as _ (divOk (by omega) (by omega) (by omega)) ?_); conv => whnf) | ((with_reducible refine NumK.as _ (modOk (by omega) (by omega) (by omega) (by omega)) ?_); conv => whnf) | (refine NumK.as _ (wrapOk (by omega)) ?_; conv => whnf) | ((with_reducible refine NumK.as _ (wrapU (by omega)) ?_); conv => whnf) | (refine CndK.mk (by omega) ?_; conv => whnf) | (refine CndK.mk rfl ?_; conv => whnf) | (refine CndK.mk ⟨by assumption, rfl⟩ ?_; conv => whnf) | (refine BrK.mk (fun h => ?_) (fun h => ?_) <;> (try simp only [decide_eq_true_eq, decide_eq_false_iff_not, Bool.and_eq_true, Bool.or_eq_true, Bool.not_eq_true', Bool.not_eq_false', Bool.or_eq_false_iff, Bool.and_eq_false_iff, Int.not_lt, Int.not_le, gt_iff_lt, ge_iff_le] at h) <;> first | (exfalso; omega) | (exfalso; exact h rfl) | (exfalso; exact Bool.noConfusion h) | (conv => whnf))))
  all_goals (exact ResLe.pure (AVle.int (by rfl)) rfl)
theorem lawOf_t (p d r : Int) (raw : Bool) : ACalls XX 3 [iA p, iA d, iA r, bA raw] (bA true) := by
  have he := eqs
  have hA := awake_t
  have h1 : ∀ p d r, ACalls XX 9 [iA p, iA d, iA r] (.tup [.agg [iA (po p d r), iA (ps p d r), iA (pe p d r), iA (pm p d r)], iA (pErr p d r)]) := pos_t
  have h2 : ∀ p d r, ACalls XX 10 [iA p, iA d, iA r] (.tup [.agg [iA (po p d r), iA (ps p d r), iA (pe p d r), iA (pm p d r)], iA (pErr p d r)]) := rpos_t
  cases raw
  all_goals
    refine ACalls.of (n := Tryd.f3.ntmps) XX_ok Tryd.func3 rfl (by kernel_rfl) rfl rfl (Nat.le_of_ble_eq_true rfl) ?_
    (repeat' (first | refine W.seq ?_ | refine W.block ?_ | (refine W.region ?_; conv => whnf) | (refine W.ret ?_; conv => whnf) | (refine W.skip ?_; conv => whnf) | (refine W.exit ?_; conv => whnf) | (refine W.cond ?_; conv => whnf) | (refine W.drawT dr3 rfl mixed rfl ?_; conv => whnf) | ((with_reducible refine NumK.as _ (divOk (by omega) (by omega) (by omega)) ?_); conv => whnf) | ((with_reducible refine NumK.as _ (modOk (by omega) (by omega) (by omega) (by omega)) ?_); conv => whnf) | (refine NumK.as _ (wrapOk (by omega)) ?_; conv => whnf) | ((with_reducible refine NumK.as _ (wrapU (by omega)) ?_); conv => whnf) | (refine CndK.mk (by omega) ?_; conv => whnf) | (refine CndK.mk rfl ?_; conv => whnf) | (refine CndK.mk ⟨by assumption, rfl⟩ ?_; conv => whnf) | (refine ExCall.by (CallA.p2 rfl (within_t _ _ (by omega) (by omega)) rfl) ?_; conv => whnf) | (refine CallK.by (CallA.p2 rfl (within_t _ _ (by omega) (by omega)) rfl) ?_; conv => whnf) | (refine ExCall.by (CallA.p2 rfl (h1 _ _ _) rfl) ?_; conv => whnf) | (refine CallK.by (CallA.p2 rfl (h1 _ _ _) rfl) ?_; conv => whnf) | (refine ExCall.by (CallA.p2 rfl (h2 _ _ _) rfl) ?_; conv => whnf) | (refine CallK.by (CallA.p2 rfl (h2 _ _ _) rfl) ?_; conv => whnf) | (refine ExCall.by (CallA.p2 rfl (hA) rfl) ?_; conv => whnf) | (refine CallK.by (CallA.p2 rfl (hA) rfl) ?_; conv => whnf) | (refine BrK.mk (fun h => ?_) (fun h => ?_) <;> (try simp only [decide_eq_true_eq, decide_eq_false_iff_not, Bool.and_eq_true, Bool.or_eq_true, Bool.not_eq_true', Bool.not_eq_false', Bool.or_eq_false_iff, Bool.and_eq_false_iff, Int.not_lt, Int.not_le, gt_iff_lt, ge_iff_le] at h) <;> first | (exfalso; omega) | (exfalso; exact h rfl) | (exfalso; exact Bool.noConfusion h) | (conv => whnf))))
    all_goals first
      | exact ResLe.pure (AVle.bool rfl) rfl
      | (exfalso; simp at *; done)
theorem po_facts {p d r : Int} (h : posOk p d r) : pErr p d r = 0 ∧ 0 ≤ po p d r ∧ 0 ≤ ps p d r ∧ 0 ≤ pe p d r ∧ 0 ≤ pm p d r ∧ po p d r + ps p d r + pe p d r + pm p d r = d ∧ (p = 2 → ps p d r ≤ r ∧ pe p d r = 0 ∧ pm p d r = 0) ∧ (p ≠ 2 → po p d r = d ∨ ps p d r = d ∨ pe p d r = d ∨ pm p d r = d) ∧ po p d r ≤ d ∧ ps p d r ≤ d ∧ pe p d r ≤ d ∧ pm p d r ≤ d := by
  have h' := h
  unfold posOk at h'
  obtain ⟨hc1, hc2⟩ := cls_rng h'.1 h'.2.1
  simp only [po, ps, pe, pm, pErr, if_pos h]
  by_cases h2 : p = 2
  · have h3 := hc2 h2
    simp only [if_pos h2, h3]
    refine ⟨trivial, ?_⟩
    simp
    omega
  · simp only [if_neg h2]
    rcases hc1 with h3 | h3 | h3 | h3 <;> simp [h3] <;> omega
theorem lawSum_t (p d r : Int) : ACalls XX 4 [iA p, iA d, iA r] (bA true) := by
  have hA := awake_t
  have hf := po_facts (p := 1 + p % 13) (d := d % 64000000000001) (r := r % 1000000000001) (by unfold posOk; omega)
  have hd : 0 ≤ d % 64000000000001 ∧ d % 64000000000001 ≤ 64000000000000 := by omega
  have h1 : ∀ p d r, ACalls XX 9 [iA p, iA d, iA r] (.tup [.agg [iA (po p d r), iA (ps p d r), iA (pe p d r), iA (pm p d r)], iA (pErr p d r)]) := pos_t
  refine ACalls.of (n := Tryd.f4.ntmps) XX_ok Tryd.func4 rfl (by kernel_rfl) rfl rfl (Nat.le_of_ble_eq_true rfl) ?_
  (repeat' (first | refine W.seq ?_ | refine W.block ?_ | (refine W.region ?_; conv => whnf) | (refine W.ret ?_; conv => whnf) | (refine W.skip ?_; conv => whnf) | (refine W.exit ?_; conv => whnf) | (refine W.cond ?_; conv => whnf) | (refine W.drawT dr4 rfl mixed rfl ?_; conv => whnf) | ((with_reducible refine NumK.as _ (divOk (by omega) (by omega) (by omega)) ?_); conv => whnf) | ((with_reducible refine NumK.as _ (modOk (by omega) (by omega) (by omega) (by omega)) ?_); conv => whnf) | (refine NumK.as _ (wrapOk (by omega)) ?_; conv => whnf) | ((with_reducible refine NumK.as _ (wrapU (by omega)) ?_); conv => whnf) | (refine CndK.mk (by omega) ?_; conv => whnf) | (refine CndK.mk rfl ?_; conv => whnf) | (refine CndK.mk ⟨by assumption, rfl⟩ ?_; conv => whnf) | (refine ExCall.by (CallA.p2 rfl (within_t _ _ (by omega) (by omega)) rfl) ?_; conv => whnf) | (refine CallK.by (CallA.p2 rfl (within_t _ _ (by omega) (by omega)) rfl) ?_; conv => whnf) | (refine ExCall.by (CallA.p2 rfl (h1 _ _ _) rfl) ?_; conv => whnf) | (refine CallK.by (CallA.p2 rfl (h1 _ _ _) rfl) ?_; conv => whnf) | (refine ExCall.by (CallA.p2 rfl (hA) rfl) ?_; conv => whnf) | (refine CallK.by (CallA.p2 rfl (hA) rfl) ?_; conv => whnf) | (refine BrK.mk (fun h => ?_) (fun h => ?_) <;> (try simp only [decide_eq_true_eq, decide_eq_false_iff_not, Bool.and_eq_true, Bool.or_eq_true, Bool.not_eq_true', Bool.not_eq_false', Bool.or_eq_false_iff, Bool.and_eq_false_iff, Int.not_lt, Int.not_le, gt_iff_lt, ge_iff_le] at h) <;> first | (exfalso; omega) | (exfalso; exact h rfl) | (exfalso; exact Bool.noConfusion h) | (conv => whnf))))
  all_goals first
    | exact ResLe.pure (AVle.bool rfl) rfl
    | (first | exact ResLe.pure (AVle.bool (by simp only [decide_eq_true_eq, decide_eq_false_iff_not, decide_eq_decide]; omega)) rfl | exact ResLe.pure (AVle.tt_ (by simp only [decide_eq_true_eq, decide_eq_false_iff_not, decide_eq_decide]; omega)) rfl | exact ResLe.pure (AVle.ff_ (by simp only [decide_eq_true_eq, decide_eq_false_iff_not, decide_eq_decide]; omega)) rfl)
    | (exfalso; omega)
theorem lawRelief_t (d f t : Int) (raw : Bool) : ACalls XX 5 [iA d, iA f, iA t, bA raw] (bA true) := by
  have hA := awake_t
  have key : ∀ d f t, ∃ v e, ACalls XX 12 [iA d, iA f, iA t] (.tup [iA v, iA e]) ∧ ACalls XX 13 [iA d, iA f, iA t] (.tup [iA v, iA e]) := fun d f t => by
    by_cases h : relP d f t
    · obtain ⟨n, hn⟩ := relOk_ex f t
      exact ⟨_, _, relief_t d f t n h hn, rrelief_t d f t n h hn⟩
    · exact ⟨_, _, relief_bad d f t h, rrelief_bad d f t h⟩
  cases raw
  · obtain ⟨v, e, k1, k2⟩ := key (d % 100000) (f % 35000) (f % 35000 + t % 1500)
    refine ACalls.of (n := Tryd.f5.ntmps) XX_ok Tryd.func5 rfl (by kernel_rfl) rfl rfl (Nat.le_of_ble_eq_true rfl) ?_
    (repeat' (first | refine W.seq ?_ | refine W.block ?_ | (refine W.region ?_; conv => whnf) | (refine W.ret ?_; conv => whnf) | (refine W.skip ?_; conv => whnf) | (refine W.exit ?_; conv => whnf) | (refine W.cond ?_; conv => whnf) | (refine W.drawT dr5 rfl mixed rfl ?_; conv => whnf) | ((with_reducible refine NumK.as _ (divOk (by omega) (by omega) (by omega)) ?_); conv => whnf) | ((with_reducible refine NumK.as _ (modOk (by omega) (by omega) (by omega) (by omega)) ?_); conv => whnf) | (refine NumK.as _ (wrapOk (by omega)) ?_; conv => whnf) | ((with_reducible refine NumK.as _ (wrapU (by omega)) ?_); conv => whnf) | (refine CndK.mk (by omega) ?_; conv => whnf) | (refine CndK.mk rfl ?_; conv => whnf) | (refine CndK.mk ⟨by assumption, rfl⟩ ?_; conv => whnf) | (refine ExCall.by (CallA.p2 rfl (within_t _ _ (by omega) (by omega)) rfl) ?_; conv => whnf) | (refine CallK.by (CallA.p2 rfl (within_t _ _ (by omega) (by omega)) rfl) ?_; conv => whnf) | (refine ExCall.by (CallA.p2 rfl (k1) rfl) ?_; conv => whnf) | (refine CallK.by (CallA.p2 rfl (k1) rfl) ?_; conv => whnf) | (refine ExCall.by (CallA.p2 rfl (k2) rfl) ?_; conv => whnf) | (refine CallK.by (CallA.p2 rfl (k2) rfl) ?_; conv => whnf) | (refine ExCall.by (CallA.p2 rfl (hA) rfl) ?_; conv => whnf) | (refine CallK.by (CallA.p2 rfl (hA) rfl) ?_; conv => whnf) | (refine BrK.mk (fun h => ?_) (fun h => ?_) <;> (try simp only [decide_eq_true_eq, decide_eq_false_iff_not, Bool.and_eq_true, Bool.or_eq_true, Bool.not_eq_true', Bool.not_eq_false', Bool.or_eq_false_iff, Bool.and_eq_false_iff, Int.not_lt, Int.not_le, gt_iff_lt, ge_iff_le] at h) <;> first | (exfalso; omega) | (exfalso; exact h rfl) | (exfalso; exact Bool.noConfusion h) | (conv => whnf))))
    all_goals first
      | exact ResLe.pure (AVle.bool rfl) rfl
      | (exfalso; simp at *; done)
  · obtain ⟨v, e, k1, k2⟩ := key d f t
    refine ACalls.of (n := Tryd.f5.ntmps) XX_ok Tryd.func5 rfl (by kernel_rfl) rfl rfl (Nat.le_of_ble_eq_true rfl) ?_
    (repeat' (first | refine W.seq ?_ | refine W.block ?_ | (refine W.region ?_; conv => whnf) | (refine W.ret ?_; conv => whnf) | (refine W.skip ?_; conv => whnf) | (refine W.exit ?_; conv => whnf) | (refine W.cond ?_; conv => whnf) | (refine W.drawT dr5 rfl mixed rfl ?_; conv => whnf) | ((with_reducible refine NumK.as _ (divOk (by omega) (by omega) (by omega)) ?_); conv => whnf) | ((with_reducible refine NumK.as _ (modOk (by omega) (by omega) (by omega) (by omega)) ?_); conv => whnf) | (refine NumK.as _ (wrapOk (by omega)) ?_; conv => whnf) | ((with_reducible refine NumK.as _ (wrapU (by omega)) ?_); conv => whnf) | (refine CndK.mk (by omega) ?_; conv => whnf) | (refine CndK.mk rfl ?_; conv => whnf) | (refine CndK.mk ⟨by assumption, rfl⟩ ?_; conv => whnf) | (refine ExCall.by (CallA.p2 rfl (within_t _ _ (by omega) (by omega)) rfl) ?_; conv => whnf) | (refine CallK.by (CallA.p2 rfl (within_t _ _ (by omega) (by omega)) rfl) ?_; conv => whnf) | (refine ExCall.by (CallA.p2 rfl (k1) rfl) ?_; conv => whnf) | (refine CallK.by (CallA.p2 rfl (k1) rfl) ?_; conv => whnf) | (refine ExCall.by (CallA.p2 rfl (k2) rfl) ?_; conv => whnf) | (refine CallK.by (CallA.p2 rfl (k2) rfl) ?_; conv => whnf) | (refine ExCall.by (CallA.p2 rfl (hA) rfl) ?_; conv => whnf) | (refine CallK.by (CallA.p2 rfl (hA) rfl) ?_; conv => whnf) | (refine BrK.mk (fun h => ?_) (fun h => ?_) <;> (try simp only [decide_eq_true_eq, decide_eq_false_iff_not, Bool.and_eq_true, Bool.or_eq_true, Bool.not_eq_true', Bool.not_eq_false', Bool.or_eq_false_iff, Bool.and_eq_false_iff, Int.not_lt, Int.not_le, gt_iff_lt, ge_iff_le] at h) <;> first | (exfalso; omega) | (exfalso; exact h rfl) | (exfalso; exact Bool.noConfusion h) | (conv => whnf))))
    all_goals first
      | exact ResLe.pure (AVle.bool rfl) rfl
      | (exfalso; simp at *; done)
end Go.Proofs.YtaidaibbeghhdaaDoor
