/- The calendar by descriptions: dates of days. -/
import Derived.Test.YtaidaibbeghhdaaDoorP1
namespace Go.Proofs.YtaidaibbeghhdaaDoor
open Go Go.RowKit
set_option linter.unusedVariables false
set_option linter.unusedSimpArgs false
set_option maxRecDepth 100000
set_option maxHeartbeats 4000000
attribute [local irreducible] ResLe AVle ArgLe ArgP EntLe Dle

/-- The month in which a day lies. -/
noncomputable def mo (d : Int) : Nat := Classical.epsilon fun k => k < 1200 ∧ F k ≤ d ∧ d < F (k + 1)
theorem mo_ok {d : Int} (h0 : 0 ≤ d) (h1 : d ≤ 36524) : mo d < 1200 ∧ F (mo d) ≤ d ∧ d < F (mo d + 1) := Classical.epsilon_spec (mo_ex d h0 1200 (by rw [F_end]; omega))
theorem mo_eq {d : Int} {k : Nat} (h0 : 0 ≤ d) (h1 : d ≤ 36524) (h2 : F k ≤ d) (h3 : d < F (k + 1)) : mo d = k := F_uniq (mo_ok h0 h1).2.1 (mo_ok h0 h1).2.2 h2 h3

def dateA (k : Nat) (dom : Int) : AV := .agg [iA (2000 + (k / 12 : Nat)), iA ((k % 12 : Nat) + 1), iA dom]
theorem of_t (d : Int) (h0 : 0 ≤ d) (h1 : d ≤ 36524) : ACalls XX 25 [iA d] (.tup [dateA (mo d) (d - F (mo d) + 1), iA 0]) := by
  refine ACalls.of (n := Tryd.f25.ntmps) XX_ok Tryd.func25 rfl (by kernel_rfl) rfl rfl (Nat.le_of_ble_eq_true rfl) ?_
  (repeat' (first | refine W.seq ?_ | refine W.block ?_ | (refine W.region ?_; conv => whnf) | (refine W.ret ?_; conv => whnf) | (refine W.skip ?_; conv => whnf) | (refine W.exit ?_; conv => whnf) | (refine W.cond ?_; conv => whnf) | (refine W.drawT dr25 rfl mixed rfl ?_; conv => whnf) | ((with_reducible refine NumK.as _ (divOk (by omega) (by omega) (by omega)) ?_); conv => whnf) | ((with_reducible refine NumK.as _ (modOk (by omega) (by omega) (by omega) (by omega)) ?_); conv => whnf) | (refine NumK.as _ (wrapOk (by omega)) ?_; conv => whnf) | ((with_reducible refine NumK.as _ (wrapU (by omega)) ?_); conv => whnf) | (refine CndK.mk (by omega) ?_; conv => whnf) | (refine CndK.mk rfl ?_; conv => whnf) | (refine CndK.mk ⟨by assumption, rfl⟩ ?_; conv => whnf) | (refine ExCall.by (CallA.p2 rfl (isDay_t _) rfl) ?_; conv => whnf) | (refine CallK.by (CallA.p2 rfl (isDay_t _) rfl) ?_; conv => whnf) | (refine BrK.mk (fun h => ?_) (fun h => ?_) <;> (try simp only [decide_eq_true_eq, decide_eq_false_iff_not, Bool.and_eq_true, Bool.or_eq_true, Bool.not_eq_true', Bool.not_eq_false', Bool.or_eq_false_iff, Bool.and_eq_false_iff, Int.not_lt, Int.not_le, gt_iff_lt, ge_iff_le] at h) <;> first | (exfalso; omega) | (exfalso; exact h rfl) | (exfalso; exact Bool.noConfusion h) | (conv => whnf))))
  have hE := F_end
  refine (W.loopK (ι := Nat) [2] [2] (fun j => [(0, iA (d - F (12 * j))), (4, iA (2000 + j)), (5, iA 1)]) (fun _ => []) (fun j => F (12 * j) ≤ d ∧ j < 100) (fun j => 100 - j) 0 ⟨by simp [F]; omega, by omega⟩ ⟨AVle.int (by simp [F]), AVle.refl _, AVle.refl _, trivial⟩ trivial ?_)
  conv => whnf
  intro j ⟨hj, hj1⟩
  have hy := F_year j
  have hf := F_mono (Nat.zero_le (12 * j))
  have hf0 : F 0 = 0 := rfl
  have hyl : 365 ≤ ylen (2000 + j) ∧ ylen (2000 + j) ≤ 366 := by unfold ylen; split <;> omega
  (repeat' (first | refine W.seq ?_ | refine W.block ?_ | (refine W.region ?_; conv => whnf) | (refine W.ret ?_; conv => whnf) | (refine W.skip ?_; conv => whnf) | (refine W.exit ?_; conv => whnf) | (refine W.cond ?_; conv => whnf) | (refine W.drawT dr25 rfl mixed rfl ?_; conv => whnf) | ((with_reducible refine NumK.as _ (divOk (by omega) (by omega) (by omega)) ?_); conv => whnf) | ((with_reducible refine NumK.as _ (modOk (by omega) (by omega) (by omega) (by omega)) ?_); conv => whnf) | (refine NumK.as _ (wrapOk (by omega)) ?_; conv => whnf) | ((with_reducible refine NumK.as _ (wrapU (by omega)) ?_); conv => whnf) | (refine CndK.mk (by omega) ?_; conv => whnf) | (refine CndK.mk rfl ?_; conv => whnf) | (refine CndK.mk ⟨by assumption, rfl⟩ ?_; conv => whnf) | (refine ExCall.by (CallA.p2 rfl (isDay_t _) rfl) ?_; conv => whnf) | (refine CallK.by (CallA.p2 rfl (isDay_t _) rfl) ?_; conv => whnf) | (refine ExCall.by (CallA.p2 rfl (yearLength_t _ (by omega)) rfl) ?_; conv => whnf) | (refine CallK.by (CallA.p2 rfl (yearLength_t _ (by omega)) rfl) ?_; conv => whnf) | (refine BrK.mk (fun h => ?_) (fun h => ?_) <;> (try simp only [decide_eq_true_eq, decide_eq_false_iff_not, Bool.and_eq_true, Bool.or_eq_true, Bool.not_eq_true', Bool.not_eq_false', Bool.or_eq_false_iff, Bool.and_eq_false_iff, Int.not_lt, Int.not_le, gt_iff_lt, ge_iff_le] at h) <;> first | (exfalso; omega) | (exfalso; exact h rfl) | (exfalso; exact Bool.noConfusion h) | (conv => whnf))))
  · have hn : F (12 * (j + 1)) ≤ d := by omega
    have := F_lt (a := 12 * (j + 1)) (b := 1200) (by omega)
    (refine ⟨j + 1, ⟨hn, by omega⟩, by omega, ?_, ?_, ?_, ?_⟩ <;> (repeat' (first | exact trivial | exact AVle.refl _ | exact AVle.int (by omega) | exact AVle.int (by (try push_cast); omega) | exact ⟨_, rfl, EntLe.refl _, rfl⟩ | refine ⟨?_, ?_⟩)))
  refine (W.loopK (ι := Nat) [2, 4] [2] (fun i => [(0, iA (d - F (12 * j + i))), (5, iA (1 + i))]) (fun _ => []) (fun i => F (12 * j + i) ≤ d ∧ i < 12) (fun i => 12 - i) 0 ⟨hj, by omega⟩ ⟨AVle.refl _, AVle.refl _, trivial⟩ trivial ?_)
  conv => whnf
  intro i ⟨hi, hi1⟩
  have hL : L (12 * j + i) = mlen (2000 + j) (1 + i) := by
    unfold L
    rw [show (12 * j + i) / 12 = j by omega, show (12 * j + i) % 12 = i by omega, Int.add_comm (i : Int) 1]
  have hlp := L_pos (12 * j + i)
  have hf2 := F_mono (Nat.zero_le (12 * j + i))
  have hS : F (12 * j + (i + 1)) = F (12 * j + i) + L (12 * j + i) := rfl
  (repeat' (first | refine W.seq ?_ | refine W.block ?_ | (refine W.region ?_; conv => whnf) | (refine W.ret ?_; conv => whnf) | (refine W.skip ?_; conv => whnf) | (refine W.exit ?_; conv => whnf) | (refine W.cond ?_; conv => whnf) | (refine W.drawT dr25 rfl mixed rfl ?_; conv => whnf) | ((with_reducible refine NumK.as _ (divOk (by omega) (by omega) (by omega)) ?_); conv => whnf) | ((with_reducible refine NumK.as _ (modOk (by omega) (by omega) (by omega) (by omega)) ?_); conv => whnf) | (refine NumK.as _ (wrapOk (by omega)) ?_; conv => whnf) | ((with_reducible refine NumK.as _ (wrapU (by omega)) ?_); conv => whnf) | (refine CndK.mk (by omega) ?_; conv => whnf) | (refine CndK.mk rfl ?_; conv => whnf) | (refine CndK.mk ⟨by assumption, rfl⟩ ?_; conv => whnf) | (refine ExCall.by (CallA.p2 rfl (isDay_t _) rfl) ?_; conv => whnf) | (refine CallK.by (CallA.p2 rfl (isDay_t _) rfl) ?_; conv => whnf) | (refine ExCall.by (CallA.p2 rfl (monthLength_t _ _ (by omega) (by omega) (by omega)) rfl) ?_; conv => whnf) | (refine CallK.by (CallA.p2 rfl (monthLength_t _ _ (by omega) (by omega) (by omega)) rfl) ?_; conv => whnf) | (refine BrK.mk (fun h => ?_) (fun h => ?_) <;> (try simp only [decide_eq_true_eq, decide_eq_false_iff_not, Bool.and_eq_true, Bool.or_eq_true, Bool.not_eq_true', Bool.not_eq_false', Bool.or_eq_false_iff, Bool.and_eq_false_iff, Int.not_lt, Int.not_le, gt_iff_lt, ge_iff_le] at h) <;> first | (exfalso; omega) | (exfalso; exact h rfl) | (exfalso; exact Bool.noConfusion h) | (conv => whnf))))
  · have hn : F (12 * j + (i + 1)) ≤ d := by omega
    have := F_lt (a := 12 * j + (i + 1)) (b := 12 * (j + 1)) (by omega)
    (refine ⟨i + 1, ⟨hn, by omega⟩, by omega, ?_, ?_, ?_, ?_⟩ <;> (repeat' (first | exact trivial | exact AVle.refl _ | exact AVle.int (by omega) | exact AVle.int (by (try push_cast); omega) | exact ⟨_, rfl, EntLe.refl _, rfl⟩ | refine ⟨?_, ?_⟩)))
  rw [mo_eq (k := 12 * j + i) h0 h1 hi (by show d < F (12 * j + (i + 1)); omega)]
  unfold dateA
  rw [show (12 * j + i) / 12 = j by omega, show (12 * j + i) % 12 = i by omega]
  (repeat' (first | exact trivial | exact AVle.refl _ | exact AVle.int (by omega) | exact ResLe.pure (AVle.refl _) rfl | exact ResLe.pure (AVle.int (by omega)) rfl | refine ResLe.pure (AVle.agg ?_) rfl | refine ⟨?_, ?_⟩ | ((conv => whnf); first | exact ResLe.pure (AVle.refl _) rfl | exact ResLe.pure (AVle.int (by omega)) rfl | refine ResLe.pure (AVle.agg ?_) rfl)))
theorem rof_t (d : Int) (h0 : 0 ≤ d) (h1 : d ≤ 36524) : ACalls XX 28 [iA d] (.tup [dateA (mo d) (d - F (mo d) + 1), iA 0]) := by
  refine ACalls.of (n := Tryd.f28.ntmps) XX_ok Tryd.func28 rfl (by kernel_rfl) rfl rfl (Nat.le_of_ble_eq_true rfl) ?_
  (repeat' (first | refine W.seq ?_ | refine W.block ?_ | (refine W.region ?_; conv => whnf) | (refine W.ret ?_; conv => whnf) | (refine W.skip ?_; conv => whnf) | (refine W.exit ?_; conv => whnf) | (refine W.cond ?_; conv => whnf) | (refine W.drawT dr28 rfl mixed rfl ?_; conv => whnf) | ((with_reducible refine NumK.as _ (divOk (by omega) (by omega) (by omega)) ?_); conv => whnf) | ((with_reducible refine NumK.as _ (modOk (by omega) (by omega) (by omega) (by omega)) ?_); conv => whnf) | (refine NumK.as _ (wrapOk (by omega)) ?_; conv => whnf) | ((with_reducible refine NumK.as _ (wrapU (by omega)) ?_); conv => whnf) | (refine CndK.mk (by omega) ?_; conv => whnf) | (refine CndK.mk rfl ?_; conv => whnf) | (refine CndK.mk ⟨by assumption, rfl⟩ ?_; conv => whnf) | (refine ExCall.by (CallA.p2 rfl (rday_t _) rfl) ?_; conv => whnf) | (refine CallK.by (CallA.p2 rfl (rday_t _) rfl) ?_; conv => whnf) | (refine BrK.mk (fun h => ?_) (fun h => ?_) <;> (try simp only [decide_eq_true_eq, decide_eq_false_iff_not, Bool.and_eq_true, Bool.or_eq_true, Bool.not_eq_true', Bool.not_eq_false', Bool.or_eq_false_iff, Bool.and_eq_false_iff, Int.not_lt, Int.not_le, gt_iff_lt, ge_iff_le] at h) <;> first | (exfalso; omega) | (exfalso; exact h rfl) | (exfalso; exact Bool.noConfusion h) | (conv => whnf))))
  have hE := F_end
  refine (W.loopK (ι := Nat) [2] [2] (fun k => [(0, iA (d - F k)), (4, iA (2000 + (k / 12 : Nat))), (5, iA ((k % 12 : Nat) + 1))]) (fun _ => []) (fun k => F k ≤ d ∧ k < 1200) (fun k => 1200 - k) 0 ⟨by simp [F]; omega, by omega⟩ ⟨AVle.int (by simp [F]), AVle.refl _, AVle.refl _, trivial⟩ trivial ?_)
  conv => whnf
  intro k ⟨hk, hk1⟩
  have hL : L k = mlen (2000 + (k / 12 : Nat)) ((k % 12 : Nat) + 1) := rfl
  have hlp := L_pos k
  have hf2 := F_mono (Nat.zero_le k)
  have hf0 : F 0 = 0 := rfl
  have hS : F (k + 1) = F k + L k := rfl
  (repeat' (first | refine W.seq ?_ | refine W.block ?_ | (refine W.region ?_; conv => whnf) | (refine W.ret ?_; conv => whnf) | (refine W.skip ?_; conv => whnf) | (refine W.exit ?_; conv => whnf) | (refine W.cond ?_; conv => whnf) | (refine W.drawT dr28 rfl mixed rfl ?_; conv => whnf) | ((with_reducible refine NumK.as _ (divOk (by omega) (by omega) (by omega)) ?_); conv => whnf) | ((with_reducible refine NumK.as _ (modOk (by omega) (by omega) (by omega) (by omega)) ?_); conv => whnf) | (refine NumK.as _ (wrapOk (by omega)) ?_; conv => whnf) | ((with_reducible refine NumK.as _ (wrapU (by omega)) ?_); conv => whnf) | (refine CndK.mk (by omega) ?_; conv => whnf) | (refine CndK.mk rfl ?_; conv => whnf) | (refine CndK.mk ⟨by assumption, rfl⟩ ?_; conv => whnf) | (refine ExCall.by (CallA.p2 rfl (rday_t _) rfl) ?_; conv => whnf) | (refine CallK.by (CallA.p2 rfl (rday_t _) rfl) ?_; conv => whnf) | (refine ExCall.by (CallA.p2 rfl (long_t _ _ (by omega) (by omega) (by omega)) rfl) ?_; conv => whnf) | (refine CallK.by (CallA.p2 rfl (long_t _ _ (by omega) (by omega) (by omega)) rfl) ?_; conv => whnf) | (refine BrK.mk (fun h => ?_) (fun h => ?_) <;> (try simp only [decide_eq_true_eq, decide_eq_false_iff_not, Bool.and_eq_true, Bool.or_eq_true, Bool.not_eq_true', Bool.not_eq_false', Bool.or_eq_false_iff, Bool.and_eq_false_iff, Int.not_lt, Int.not_le, gt_iff_lt, ge_iff_le] at h) <;> first | (exfalso; omega) | (exfalso; exact h rfl) | (exfalso; exact Bool.noConfusion h) | (conv => whnf))))
  · have hn : F (k + 1) ≤ d := by omega
    have := F_lt (a := k + 1) (b := 1200) (by omega)
    (refine ⟨k + 1, ⟨hn, by omega⟩, by omega, ?_, ?_, ?_, ?_⟩ <;> (repeat' (first | exact trivial | exact AVle.refl _ | exact AVle.int (by omega) | exact AVle.int (by (try push_cast); omega) | exact ⟨_, rfl, EntLe.refl _, rfl⟩ | refine ⟨?_, ?_⟩)))
  · have hn : F (k + 1) ≤ d := by omega
    have := F_lt (a := k + 1) (b := 1200) (by omega)
    (refine ⟨k + 1, ⟨hn, by omega⟩, by omega, ?_, ?_, ?_, ?_⟩ <;> (repeat' (first | exact trivial | exact AVle.refl _ | exact AVle.int (by omega) | exact AVle.int (by (try push_cast); omega) | exact ⟨_, rfl, EntLe.refl _, rfl⟩ | refine ⟨?_, ?_⟩)))
  rw [mo_eq (k := k) h0 h1 hk (by omega)]
  unfold dateA
  (repeat' (first | exact trivial | exact AVle.refl _ | exact AVle.int (by omega) | exact ResLe.pure (AVle.refl _) rfl | exact ResLe.pure (AVle.int (by omega)) rfl | refine ResLe.pure (AVle.agg ?_) rfl | refine ⟨?_, ?_⟩ | ((conv => whnf); first | exact ResLe.pure (AVle.refl _) rfl | exact ResLe.pure (AVle.int (by omega)) rfl | refine ResLe.pure (AVle.agg ?_) rfl)))
/-- The day of a date. -/
theorem num_t (k : Nat) (dom : Int) (hk : k < 1200) (h0 : 1 ≤ dom) (h1 : dom ≤ L k) : ACalls XX 27 [dateA k dom] (.tup [iA (F k + dom - 1), iA 0]) := by
  have hlp := L_pos k
  have hL : L k = mlen (2000 + (k / 12 : Nat)) ((k % 12 : Nat) + 1) := rfl
  have hE := F_end
  have hf2 := F_mono (Nat.zero_le k)
  have hf0 : F 0 = 0 := rfl
  have hf3 := F_mono (show k ≤ 1200 by omega)
  unfold dateA
  refine ACalls.of (n := Tryd.f27.ntmps) XX_ok Tryd.func27 rfl (by kernel_rfl) rfl rfl (Nat.le_of_ble_eq_true rfl) ?_
  (repeat' (first | refine W.seq ?_ | refine W.block ?_ | (refine W.region ?_; conv => whnf) | (refine W.ret ?_; conv => whnf) | (refine W.skip ?_; conv => whnf) | (refine W.exit ?_; conv => whnf) | (refine W.cond ?_; conv => whnf) | (refine W.drawT dr27 rfl mixed rfl ?_; conv => whnf) | ((with_reducible refine NumK.as _ (divOk (by omega) (by omega) (by omega)) ?_); conv => whnf) | ((with_reducible refine NumK.as _ (modOk (by omega) (by omega) (by omega) (by omega)) ?_); conv => whnf) | (refine NumK.as _ (wrapOk (by omega)) ?_; conv => whnf) | ((with_reducible refine NumK.as _ (wrapU (by omega)) ?_); conv => whnf) | (refine CndK.mk (by omega) ?_; conv => whnf) | (refine CndK.mk rfl ?_; conv => whnf) | (refine CndK.mk ⟨by assumption, rfl⟩ ?_; conv => whnf) | (refine ExCall.by (CallA.p2 rfl (monthLength_t _ _ (by omega) (by omega) (by omega)) rfl) ?_; conv => whnf) | (refine CallK.by (CallA.p2 rfl (monthLength_t _ _ (by omega) (by omega) (by omega)) rfl) ?_; conv => whnf) | (refine BrK.mk (fun h => ?_) (fun h => ?_) <;> (try simp only [decide_eq_true_eq, decide_eq_false_iff_not, Bool.and_eq_true, Bool.or_eq_true, Bool.not_eq_true', Bool.not_eq_false', Bool.or_eq_false_iff, Bool.and_eq_false_iff, Int.not_lt, Int.not_le, gt_iff_lt, ge_iff_le] at h) <;> first | (exfalso; omega) | (exfalso; exact h rfl) | (exfalso; exact Bool.noConfusion h) | (conv => whnf))))
  refine (W.loopK (ι := Nat) [1] [1] (fun j => [(4, iA (dom - 1 + F (12 * j))), (5, iA (2000 + j))]) (fun _ => []) (fun j => j ≤ k / 12) (fun j => 100 - j) 0 (by omega) ⟨AVle.int (by simp [F]), AVle.refl _, trivial⟩ trivial ?_)
  conv => whnf
  intro j hj
  have hy := F_year j
  have hf4 := F_mono (Nat.zero_le (12 * j))
  have hf5 := F_mono (show 12 * j ≤ k by omega)
  have hyl : 365 ≤ ylen (2000 + j) ∧ ylen (2000 + j) ≤ 366 := by unfold ylen; split <;> omega
  (repeat' (first | refine W.seq ?_ | refine W.block ?_ | (refine W.region ?_; conv => whnf) | (refine W.ret ?_; conv => whnf) | (refine W.skip ?_; conv => whnf) | (refine W.exit ?_; conv => whnf) | (refine W.cond ?_; conv => whnf) | (refine W.drawT dr27 rfl mixed rfl ?_; conv => whnf) | ((with_reducible refine NumK.as _ (divOk (by omega) (by omega) (by omega)) ?_); conv => whnf) | ((with_reducible refine NumK.as _ (modOk (by omega) (by omega) (by omega) (by omega)) ?_); conv => whnf) | (refine NumK.as _ (wrapOk (by omega)) ?_; conv => whnf) | ((with_reducible refine NumK.as _ (wrapU (by omega)) ?_); conv => whnf) | (refine CndK.mk (by omega) ?_; conv => whnf) | (refine CndK.mk rfl ?_; conv => whnf) | (refine CndK.mk ⟨by assumption, rfl⟩ ?_; conv => whnf) | (refine ExCall.by (CallA.p2 rfl (yearLength_t _ (by omega)) rfl) ?_; conv => whnf) | (refine CallK.by (CallA.p2 rfl (yearLength_t _ (by omega)) rfl) ?_; conv => whnf) | (refine BrK.mk (fun h => ?_) (fun h => ?_) <;> (try simp only [decide_eq_true_eq, decide_eq_false_iff_not, Bool.and_eq_true, Bool.or_eq_true, Bool.not_eq_true', Bool.not_eq_false', Bool.or_eq_false_iff, Bool.and_eq_false_iff, Int.not_lt, Int.not_le, gt_iff_lt, ge_iff_le] at h) <;> first | (exfalso; omega) | (exfalso; exact h rfl) | (exfalso; exact Bool.noConfusion h) | (conv => whnf))))
  · (refine ⟨j + 1, by omega, by omega, ?_, ?_, ?_, ?_⟩ <;> (repeat' (first | exact trivial | exact AVle.refl _ | exact AVle.int (by omega) | exact AVle.int (by (try push_cast); omega) | exact ⟨_, rfl, EntLe.refl _, rfl⟩ | refine ⟨?_, ?_⟩)))
  have hj2 : j = k / 12 := by omega
  refine (W.loopK (ι := Nat) [1] [1] (fun i => [(4, iA (dom - 1 + F (12 * j + i))), (6, iA (1 + i))]) (fun _ => []) (fun i => i ≤ k % 12) (fun i => 12 - i) 0 (by omega) ⟨AVle.refl _, AVle.refl _, trivial⟩ trivial ?_)
  conv => whnf
  intro i hi
  have hf6 := F_mono (Nat.zero_le (12 * j + i))
  have hf7 := F_mono (show 12 * j + i ≤ k by omega)
  have hlp2 := L_pos (12 * j + i)
  have hS : F (12 * j + (i + 1)) = F (12 * j + i) + L (12 * j + i) := rfl
  have hL2 : i < 12 → L (12 * j + i) = mlen (2000 + (k / 12 : Nat)) (1 + i) := fun hi => by
    unfold L
    rw [show (12 * j + i) / 12 = k / 12 by omega, show (12 * j + i) % 12 = i by omega, Int.add_comm (i : Int) 1]
  (repeat' (first | refine W.seq ?_ | refine W.block ?_ | (refine W.region ?_; conv => whnf) | (refine W.ret ?_; conv => whnf) | (refine W.skip ?_; conv => whnf) | (refine W.exit ?_; conv => whnf) | (refine W.cond ?_; conv => whnf) | (refine W.drawT dr27 rfl mixed rfl ?_; conv => whnf) | ((with_reducible refine NumK.as _ (divOk (by omega) (by omega) (by omega)) ?_); conv => whnf) | ((with_reducible refine NumK.as _ (modOk (by omega) (by omega) (by omega) (by omega)) ?_); conv => whnf) | (refine NumK.as _ (wrapOk (by omega)) ?_; conv => whnf) | ((with_reducible refine NumK.as _ (wrapU (by omega)) ?_); conv => whnf) | (refine CndK.mk (by omega) ?_; conv => whnf) | (refine CndK.mk rfl ?_; conv => whnf) | (refine CndK.mk ⟨by assumption, rfl⟩ ?_; conv => whnf) | (refine ExCall.by (CallA.p2 rfl (monthLength_t _ _ (by omega) (by omega) (by omega)) rfl) ?_; conv => whnf) | (refine CallK.by (CallA.p2 rfl (monthLength_t _ _ (by omega) (by omega) (by omega)) rfl) ?_; conv => whnf) | (refine BrK.mk (fun h => ?_) (fun h => ?_) <;> (try simp only [decide_eq_true_eq, decide_eq_false_iff_not, Bool.and_eq_true, Bool.or_eq_true, Bool.not_eq_true', Bool.not_eq_false', Bool.or_eq_false_iff, Bool.and_eq_false_iff, Int.not_lt, Int.not_le, gt_iff_lt, ge_iff_le] at h) <;> first | (exfalso; omega) | (exfalso; exact h rfl) | (exfalso; exact Bool.noConfusion h) | (conv => whnf))))
  · have hL3 := hL2 (by omega)
    (repeat' (first | refine W.seq ?_ | refine W.block ?_ | (refine W.region ?_; conv => whnf) | (refine W.ret ?_; conv => whnf) | (refine W.skip ?_; conv => whnf) | (refine W.exit ?_; conv => whnf) | (refine W.cond ?_; conv => whnf) | (refine W.drawT dr27 rfl mixed rfl ?_; conv => whnf) | ((with_reducible refine NumK.as _ (divOk (by omega) (by omega) (by omega)) ?_); conv => whnf) | ((with_reducible refine NumK.as _ (modOk (by omega) (by omega) (by omega) (by omega)) ?_); conv => whnf) | (refine NumK.as _ (wrapOk (by omega)) ?_; conv => whnf) | ((with_reducible refine NumK.as _ (wrapU (by omega)) ?_); conv => whnf) | (refine CndK.mk (by omega) ?_; conv => whnf) | (refine CndK.mk rfl ?_; conv => whnf) | (refine CndK.mk ⟨by assumption, rfl⟩ ?_; conv => whnf) | (refine ExCall.by (CallA.p2 rfl (monthLength_t _ _ (by omega) (by omega) (by omega)) rfl) ?_; conv => whnf) | (refine CallK.by (CallA.p2 rfl (monthLength_t _ _ (by omega) (by omega) (by omega)) rfl) ?_; conv => whnf) | (refine BrK.mk (fun h => ?_) (fun h => ?_) <;> (try simp only [decide_eq_true_eq, decide_eq_false_iff_not, Bool.and_eq_true, Bool.or_eq_true, Bool.not_eq_true', Bool.not_eq_false', Bool.or_eq_false_iff, Bool.and_eq_false_iff, Int.not_lt, Int.not_le, gt_iff_lt, ge_iff_le] at h) <;> first | (exfalso; omega) | (exfalso; exact h rfl) | (exfalso; exact Bool.noConfusion h) | (conv => whnf))))
    (refine ⟨i + 1, by omega, by omega, ?_, ?_, ?_, ?_⟩ <;> (repeat' (first | exact trivial | exact AVle.refl _ | exact AVle.int (by omega) | exact AVle.int (by (try push_cast); omega) | exact ⟨_, rfl, EntLe.refl _, rfl⟩ | refine ⟨?_, ?_⟩)))
  have e : 12 * j + i = k := by omega
  rw [e] at *
  (repeat' (first | exact trivial | exact AVle.refl _ | exact AVle.int (by omega) | exact ResLe.pure (AVle.refl _) rfl | exact ResLe.pure (AVle.int (by omega)) rfl | refine ResLe.pure (AVle.agg ?_) rfl | refine ⟨?_, ?_⟩ | ((conv => whnf); first | exact ResLe.pure (AVle.refl _) rfl | exact ResLe.pure (AVle.int (by omega)) rfl | refine ResLe.pure (AVle.agg ?_) rfl)))
end Go.Proofs.YtaidaibbeghhdaaDoor
