/- Units taken in proportion; the law that each unit is either taken or left. -/
import Derived.Test.YtekdobbhkklapaaGreatB11
import Derived.Test.YtekdobbhkklapaaGreatB12
namespace Go.Proofs.YtekdobbhkklapaaGreat
open Go Go.RowKit
set_option linter.unusedVariables false
set_option linter.unusedSimpArgs false
set_option maxRecDepth 100000
set_option maxHeartbeats 4000000
attribute [local irreducible] ResLe AVle ArgLe ArgP EntLe Dle ResH ArgQ

theorem divA3 (us : List Sl) (u : Int) : divA 3 us u = cutA us (shareL u (lensL us)) := by unfold divA ksM; rw [if_neg (by decide), if_pos rfl]
theorem divB3 (us : List Sl) (u : Int) : divB 3 us u = cutB us (shareL u (lensL us)) := by unfold divB ksM; rw [if_neg (by decide), if_pos rfl]
theorem divOk3 : DivOk 3 := fun us u hv hL hu => by
  have hc := cntOk hv (by omega)
  have hc2 := cnt_le hv
  obtain ⟨hf, _⟩ := ksM_ok (m := 3) hv hu
  have e3 : ksM 3 us u = shareL u (lensL us) := by unfold ksM; rw [if_pos rfl]
  rw [e3] at hf
  have hll : (lensL us).length = us.length := by simp [lensL]
  have hsl : (shareL u (lensL us)).length = us.length := by simp [shareL, lensL]
  have h1 := (share_t u (lensL us) (lens_ok hv) (by rw [hll]; omega) (by omega) (fun he => by
    have : us.length = 0 := by rw [← hll, he]; rfl
    have : us = [] := List.length_eq_zero_iff.1 this
    subst this
    simp [cnt] at hu
    omega)).args2 (a := iA u) (b := .dat (.lst 1 us.length (rowF iE (lensL us)))) (AVle.refl _) (AVle.dat (Dle.lst hll.symm fun _ _ _ _ => Dle.refl _))
  have h2 := lcut_t us (shareL u (lensL us)) hv (by omega) hf
  rw [divA3, divB3]
  obtain ⟨F, hF⟩ : ∃ F : Nat → Int, F = fun i => (lensL us).getD i 0 := ⟨_, rfl⟩
  have hFk : ∀ k, k < us.length → F k = (us.getD k default).e - (us.getD k default).s := fun k hk => by
    rw [hF]
    simp [lensL, hk, lenS]
  have hfull : fillL F us.length us.length = lensL us := by
    have e := map_getD0 (lensL us)
    rw [hll] at e
    rw [fillL_full, hF, e]
  refine ACalls.of (n := Tryz.f31.ntmps) XX_ok Tryz.func31 rfl (by kernel_rfl) rfl rfl (Nat.le_of_ble_eq_true rfl) ?_
  (repeat' (first | refine W.seq ?_ | refine W.block ?_ | ((first | refine W.region ?_ | refine W.ret ?_ | refine W.skip ?_ | refine W.exit ?_ | refine W.cond ?_ | (with_reducible first | refine NumK.as _ (divOk (by omega) (by omega) (by omega)) ?_ | refine NumK.as _ (modOk (by omega) (by omega) (by omega) (by omega)) ?_) | refine NumK.as _ (wrapOk (by omega)) ?_ | (with_reducible refine NumK.as _ (wrapU (by omega)) ?_) | refine NumK.as _ (wrapOk (by (simp only [Int.toNat_natCast] at *); omega)) ?_ | refine CndK.mk (by omega) ?_ | (refine CndK.mk ?_ ?_; (focus (first | omega | (simp; done) | (simp; omega)))) | refine UnK.mk (fun b hb => ?_) | refine CndK.mk rfl ?_ | refine CndK.mk ⟨by assumption, rfl⟩ ?_); conv => whnf) | (refine BrK.mk (fun h => ?_) (fun h => ?_) <;> (try simp only [decide_eq_true_eq, decide_eq_false_iff_not, Bool.and_eq_true, Bool.or_eq_true, Bool.not_eq_true', Bool.not_eq_false', Bool.or_eq_false_iff, Bool.and_eq_false_iff, Int.not_lt, Int.not_le, gt_iff_lt, ge_iff_le] at h) <;> first | (exfalso; first | omega | exact h rfl | exact Bool.noConfusion h) | contradiction | (conv => whnf))))
  all_goals (try dsimp only [Int.toNat_natCast] at *)
  refine (W.loopK (ι := Nat) [0, 1, 10, 36, 37] [] (fun k => [(38, iA k)]) (fun k => [(35, .row 3 1 us.length (rowF iE (fillL F us.length k)))]) (fun k => k ≤ us.length) (fun k => us.length - k) 0 (Nat.zero_le _) ?_ ?_ ?_)
  · (repeat' (first | exact trivial | exact AVle.refl _ | exact AVle.int (by first | rfl | omega) | exact AVle.own (by first | rfl | omega) | exact AVle.dat (Dle.refl _) | exact AVle.dat (Dle.nil _ _) | exact AVle.of_eq (by first | rfl | omega) | exact ⟨_, rfl, EntLe.refl _, rfl⟩ | refine ⟨_, rfl, EntLe.blk ?_, rfl⟩ | refine ⟨_, rfl, EntLe.row (by first | rfl | omega) ?_, rfl⟩ | refine And.intro ?_ ?_))
  · (repeat' (first | exact trivial | exact AVle.refl _ | exact AVle.int (by first | rfl | omega) | exact AVle.own (by first | rfl | omega) | exact AVle.dat (Dle.refl _) | exact AVle.dat (Dle.nil _ _) | exact AVle.of_eq (by first | rfl | omega) | exact ⟨_, rfl, EntLe.refl _, rfl⟩ | refine ⟨_, rfl, EntLe.blk ?_, rfl⟩ | refine ⟨_, rfl, EntLe.row (by first | rfl | omega) ?_, rfl⟩ | refine And.intro ?_ ?_))
    exact fill_zero fun i j hj => by obtain rfl : j = 0 := by omega
                                     rfl
  conv => whnf
  intro k hk
  by_cases hk' : k < us.length
  · have hx := hv _ (getD_in hk')
    unfold slOk at hx
    (repeat' (first | refine W.seq ?_ | refine W.block ?_ | ((first | refine W.region ?_ | refine W.ret ?_ | refine W.skip ?_ | refine W.exit ?_ | refine W.cond ?_ | (with_reducible first | refine NumK.as _ (divOk (by omega) (by omega) (by omega)) ?_ | refine NumK.as _ (modOk (by omega) (by omega) (by omega) (by omega)) ?_) | refine NumK.as _ (wrapOk (by omega)) ?_ | (with_reducible refine NumK.as _ (wrapU (by omega)) ?_) | refine NumK.as _ (wrapOk (by (simp only [Int.toNat_natCast] at *); omega)) ?_ | refine CndK.mk (by omega) ?_ | (refine CndK.mk ?_ ?_; (focus (first | omega | (simp; done) | (simp; omega)))) | refine UnK.mk (fun b hb => ?_) | refine CndK.mk rfl ?_ | refine CndK.mk ⟨by assumption, rfl⟩ ?_); conv => whnf) | (refine BrK.mk (fun h => ?_) (fun h => ?_) <;> (try simp only [decide_eq_true_eq, decide_eq_false_iff_not, Bool.and_eq_true, Bool.or_eq_true, Bool.not_eq_true', Bool.not_eq_false', Bool.or_eq_false_iff, Bool.and_eq_false_iff, Int.not_lt, Int.not_le, gt_iff_lt, ge_iff_le] at h) <;> first | (exfalso; first | omega | exact h rfl | exact Bool.noConfusion h) | contradiction | (conv => whnf))))
    all_goals (try dsimp only [Int.toNat_natCast] at *)
    (repeat' (first | refine W.seq ?_ | refine W.block ?_ | ((first | refine W.region ?_ | refine W.ret ?_ | refine W.skip ?_ | refine W.exit ?_ | refine W.cond ?_ | (with_reducible first | refine NumK.as _ (divOk (by omega) (by omega) (by omega)) ?_ | refine NumK.as _ (modOk (by omega) (by omega) (by omega) (by omega)) ?_) | refine NumK.as _ (wrapOk (by omega)) ?_ | (with_reducible refine NumK.as _ (wrapU (by omega)) ?_) | refine NumK.as _ (wrapOk (by (simp only [Int.toNat_natCast] at *); omega)) ?_ | refine CndK.mk (by omega) ?_ | (refine CndK.mk ?_ ?_; (focus (first | omega | (simp; done) | (simp; omega)))) | refine UnK.mk (fun b hb => ?_) | refine CndK.mk rfl ?_ | refine CndK.mk ⟨by assumption, rfl⟩ ?_); conv => whnf) | (refine BrK.mk (fun h => ?_) (fun h => ?_) <;> (try simp only [decide_eq_true_eq, decide_eq_false_iff_not, Bool.and_eq_true, Bool.or_eq_true, Bool.not_eq_true', Bool.not_eq_false', Bool.or_eq_false_iff, Bool.and_eq_false_iff, Int.not_lt, Int.not_le, gt_iff_lt, ge_iff_le] at h) <;> first | (exfalso; first | omega | exact h rfl | exact Bool.noConfusion h) | contradiction | (conv => whnf))))
    refine ⟨k + 1, by omega, by omega, ?_, ?_, ?_, ?_⟩ <;> (repeat' (first | exact trivial | exact AVle.refl _ | exact AVle.int (by first | rfl | omega) | exact AVle.own (by first | rfl | omega) | exact AVle.dat (Dle.refl _) | exact AVle.dat (Dle.nil _ _) | exact AVle.of_eq (by first | rfl | omega) | exact ⟨_, rfl, EntLe.refl _, rfl⟩ | refine ⟨_, rfl, EntLe.blk ?_, rfl⟩ | refine ⟨_, rfl, EntLe.row (by first | rfl | omega) ?_, rfl⟩ | refine And.intro ?_ ?_))
    simp only [Nat.zero_add, Int.toNat_natCast]
    exact fill_row (hFk k hk').symm
  · obtain rfl : k = us.length := by omega
    rw [hfull]
    (repeat' (first | refine W.seq ?_ | refine W.block ?_ | ((first | refine W.region ?_ | refine W.ret ?_ | refine W.skip ?_ | refine W.exit ?_ | refine W.cond ?_ | (with_reducible first | refine NumK.as _ (divOk (by omega) (by omega) (by omega)) ?_ | refine NumK.as _ (modOk (by omega) (by omega) (by omega) (by omega)) ?_) | refine NumK.as _ (wrapOk (by omega)) ?_ | (with_reducible refine NumK.as _ (wrapU (by omega)) ?_) | refine NumK.as _ (wrapOk (by (simp only [Int.toNat_natCast] at *); omega)) ?_ | refine CndK.mk (by omega) ?_ | (refine CndK.mk ?_ ?_; (focus (first | omega | (simp; done) | (simp; omega)))) | refine UnK.mk (fun b hb => ?_) | refine CndK.mk rfl ?_ | refine CndK.mk ⟨by assumption, rfl⟩ ?_); conv => whnf) | (refine BrK.mk (fun h => ?_) (fun h => ?_) <;> (try simp only [decide_eq_true_eq, decide_eq_false_iff_not, Bool.and_eq_true, Bool.or_eq_true, Bool.not_eq_true', Bool.not_eq_false', Bool.or_eq_false_iff, Bool.and_eq_false_iff, Int.not_lt, Int.not_le, gt_iff_lt, ge_iff_le] at h) <;> first | (exfalso; first | omega | exact h rfl | exact Bool.noConfusion h) | contradiction | (conv => whnf))))
    refine ExCall.pub 35 rfl ?_
    conv => whnf
    (repeat' (first | refine W.seq ?_ | refine W.block ?_ | ((first | refine W.region ?_ | refine W.ret ?_ | refine W.skip ?_ | refine W.exit ?_ | refine W.cond ?_ | (with_reducible first | refine NumK.as _ (divOk (by omega) (by omega) (by omega)) ?_ | refine NumK.as _ (modOk (by omega) (by omega) (by omega) (by omega)) ?_) | refine NumK.as _ (wrapOk (by omega)) ?_ | (with_reducible refine NumK.as _ (wrapU (by omega)) ?_) | refine NumK.as _ (wrapOk (by (simp only [Int.toNat_natCast] at *); omega)) ?_ | refine CndK.mk (by omega) ?_ | (refine CndK.mk ?_ ?_; (focus (first | omega | (simp; done) | (simp; omega)))) | refine UnK.mk (fun b hb => ?_) | refine CndK.mk rfl ?_ | refine CndK.mk ⟨by assumption, rfl⟩ ?_ | (refine ExCall.by (CallA.d4 (h1) ?_) ?_; (focus ((repeat' (first | exact trivial | exact ArgQ.refl rfl | exact ArgQ.nil | exact ArgQ.own rfl rfl (fun _ _ _ _ => Dle.refl _) | refine ArgQ.agg ?_ | refine And.intro ?_ ?_ | exact ArgQ.pure (AVle.int (by omega)) rfl)); done))) | refine ExCall.by (CallA.d2 rfl (h2)) ?_); conv => whnf) | (refine BrK.mk (fun h => ?_) (fun h => ?_) <;> (try simp only [decide_eq_true_eq, decide_eq_false_iff_not, Bool.and_eq_true, Bool.or_eq_true, Bool.not_eq_true', Bool.not_eq_false', Bool.or_eq_false_iff, Bool.and_eq_false_iff, Int.not_lt, Int.not_le, gt_iff_lt, ge_iff_le] at h) <;> first | (exfalso; first | omega | exact h rfl | exact Bool.noConfusion h) | contradiction | (conv => whnf))))
    all_goals (repeat' (first | exact trivial | exact ResLe.pure (AVle.refl _) rfl | exact ResLe.row0 rfl | exact ResLe.pure (AVle.int (by first | rfl | omega)) rfl | exact ResLe.bo rfl rfl (by first | exact Iff.rfl | (simp only [decide_eq_true_eq, true_iff, iff_true, false_iff, iff_false, Bool.false_eq_true, Bool.not_eq_true', decide_eq_false_iff_not]; first | rfl | omega)) | exact ResLe.pure (AVle.dat (Dle.nil _ _)) rfl | refine ResLe.agg ?_ | refine And.intro ?_ ?_ | ((conv => whnf); first | refine And.intro ?_ ?_ | refine ResLe.agg ?_ | exact ResLe.pure (AVle.refl _) rfl | exact ResLe.row0 rfl | exact ResLe.pure (AVle.int (by first | rfl | omega)) rfl | exact ResLe.bo rfl rfl Iff.rfl)))
theorem divAny {m : Int} (h : mOk m) : DivOk m := by
  rcases h with rfl | rfl | rfl
  · exact divOk1
  · exact divOk2
  · exact divOk3
theorem has_t (us : List Sl) (m u : Int) (hL : us.length ≤ 100000) : ACalls XX 20 [.dat (slD us), iA m, iA u] (iA (hasU us m u)) := by
  refine ACalls.of (n := Tryz.f20.ntmps) XX_ok Tryz.func20 rfl (by kernel_rfl) rfl rfl (Nat.le_of_ble_eq_true rfl) ?_
  (repeat' (first | refine W.seq ?_ | refine W.block ?_ | ((first | refine W.region ?_ | refine W.ret ?_ | refine W.skip ?_ | refine W.exit ?_ | refine W.cond ?_ | (with_reducible first | refine NumK.as _ (divOk (by omega) (by omega) (by omega)) ?_ | refine NumK.as _ (modOk (by omega) (by omega) (by omega) (by omega)) ?_) | refine NumK.as _ (wrapOk (by omega)) ?_ | (with_reducible refine NumK.as _ (wrapU (by omega)) ?_) | refine NumK.as _ (wrapOk (by (simp only [Int.toNat_natCast] at *); omega)) ?_ | refine CndK.mk (by omega) ?_ | (refine CndK.mk ?_ ?_; (focus (first | omega | (simp; done) | (simp; omega)))) | refine UnK.mk (fun b hb => ?_) | refine CndK.mk rfl ?_ | refine CndK.mk ⟨by assumption, rfl⟩ ?_); conv => whnf) | (refine BrK.mk (fun h => ?_) (fun h => ?_) <;> (try simp only [decide_eq_true_eq, decide_eq_false_iff_not, Bool.and_eq_true, Bool.or_eq_true, Bool.not_eq_true', Bool.not_eq_false', Bool.or_eq_false_iff, Bool.and_eq_false_iff, Int.not_lt, Int.not_le, gt_iff_lt, ge_iff_le] at h) <;> first | (exfalso; first | omega | exact h rfl | exact Bool.noConfusion h) | contradiction | (conv => whnf))))
  refine (W.loopK (ι := Nat) [0, 1, 2] [] (fun k => [(8, iA k), (7, iA (hasU (us.take k) m u))]) (fun _ => []) (fun k => k ≤ us.length ∧ 0 ≤ hasU (us.take k) m u ∧ hasU (us.take k) m u ≤ k) (fun k => us.length - k) 0 ⟨Nat.zero_le _, by simp [hasU], by simp [hasU]⟩ ?_ ?_ ?_)
  · (repeat' (first | exact trivial | exact AVle.refl _ | exact AVle.int (by first | rfl | (simp [hasU]; done) | omega) | exact AVle.own (by first | rfl | (simp [hasU]; done) | omega) | exact AVle.dat (Dle.refl _) | exact AVle.dat (Dle.nil _ _) | exact AVle.of_eq (by first | rfl | (simp [hasU]; done) | omega) | exact ⟨_, rfl, EntLe.refl _, rfl⟩ | refine ⟨_, rfl, EntLe.blk ?_, rfl⟩ | refine ⟨_, rfl, EntLe.row (by first | rfl | (simp [hasU]; done) | omega) ?_, rfl⟩ | refine And.intro ?_ ?_))
  · (repeat' (first | exact trivial | exact AVle.refl _ | exact AVle.int (by first | rfl | omega) | exact AVle.own (by first | rfl | omega) | exact AVle.dat (Dle.refl _) | exact AVle.dat (Dle.nil _ _) | exact AVle.of_eq (by first | rfl | omega) | exact ⟨_, rfl, EntLe.refl _, rfl⟩ | refine ⟨_, rfl, EntLe.blk ?_, rfl⟩ | refine ⟨_, rfl, EntLe.row (by first | rfl | omega) ?_, rfl⟩ | refine And.intro ?_ ?_))
  conv => whnf
  intro k ⟨hk, h0, h1⟩
  by_cases hk' : k < us.length
  · have hs : hasU (us.take (k + 1)) m u = hasU (us.take k) m u + if (us.getD k default).m = m ∧ (us.getD k default).s ≤ u ∧ u < (us.getD k default).e then 1 else 0 := by
      rw [hasU_count, hasU_count, take_snoc us k hk', expand_app, expand_one, List.count_append, count_units]
      split <;> simp
    (repeat' (first | refine W.seq ?_ | refine W.block ?_ | ((first | refine W.region ?_ | refine W.ret ?_ | refine W.skip ?_ | refine W.exit ?_ | refine W.cond ?_ | (with_reducible first | refine NumK.as _ (divOk (by omega) (by omega) (by omega)) ?_ | refine NumK.as _ (modOk (by omega) (by omega) (by omega) (by omega)) ?_) | refine NumK.as _ (wrapOk (by omega)) ?_ | (with_reducible refine NumK.as _ (wrapU (by omega)) ?_) | refine NumK.as _ (wrapOk (by (simp only [Int.toNat_natCast] at *); omega)) ?_ | refine CndK.mk (by omega) ?_ | (refine CndK.mk ?_ ?_; (focus (first | omega | (simp; done) | (simp; omega)))) | refine UnK.mk (fun b hb => ?_) | refine CndK.mk rfl ?_ | refine CndK.mk ⟨by assumption, rfl⟩ ?_); conv => whnf) | (refine BrK.mk (fun h => ?_) (fun h => ?_) <;> (try simp only [decide_eq_true_eq, decide_eq_false_iff_not, Bool.and_eq_true, Bool.or_eq_true, Bool.not_eq_true', Bool.not_eq_false', Bool.or_eq_false_iff, Bool.and_eq_false_iff, Int.not_lt, Int.not_le, gt_iff_lt, ge_iff_le] at h) <;> first | (exfalso; first | omega | exact h rfl | exact Bool.noConfusion h) | contradiction | (conv => whnf))))
    all_goals (try dsimp only [Int.toNat_natCast] at *)
    all_goals first | rw [if_pos (by omega)] at hs | rw [if_neg (by omega)] at hs
    all_goals (refine ⟨k + 1, ⟨by omega, by omega, by omega⟩, by omega, ?_, ?_, ?_, ?_⟩)
    all_goals (repeat' (first | exact trivial | exact AVle.refl _ | exact AVle.int (by first | rfl | omega) | exact AVle.own (by first | rfl | omega) | exact AVle.dat (Dle.refl _) | exact AVle.dat (Dle.nil _ _) | exact AVle.of_eq (by first | rfl | omega) | exact ⟨_, rfl, EntLe.refl _, rfl⟩ | refine ⟨_, rfl, EntLe.blk ?_, rfl⟩ | refine ⟨_, rfl, EntLe.row (by first | rfl | omega) ?_, rfl⟩ | refine And.intro ?_ ?_))
  · obtain rfl : k = us.length := by omega
    rw [List.take_length] at *
    (repeat' (first | refine W.seq ?_ | refine W.block ?_ | ((first | refine W.region ?_ | refine W.ret ?_ | refine W.skip ?_ | refine W.exit ?_ | refine W.cond ?_ | (with_reducible first | refine NumK.as _ (divOk (by omega) (by omega) (by omega)) ?_ | refine NumK.as _ (modOk (by omega) (by omega) (by omega) (by omega)) ?_) | refine NumK.as _ (wrapOk (by omega)) ?_ | (with_reducible refine NumK.as _ (wrapU (by omega)) ?_) | refine NumK.as _ (wrapOk (by (simp only [Int.toNat_natCast] at *); omega)) ?_ | refine CndK.mk (by omega) ?_ | (refine CndK.mk ?_ ?_; (focus (first | omega | (simp; done) | (simp; omega)))) | refine UnK.mk (fun b hb => ?_) | refine CndK.mk rfl ?_ | refine CndK.mk ⟨by assumption, rfl⟩ ?_); conv => whnf) | (refine BrK.mk (fun h => ?_) (fun h => ?_) <;> (try simp only [decide_eq_true_eq, decide_eq_false_iff_not, Bool.and_eq_true, Bool.or_eq_true, Bool.not_eq_true', Bool.not_eq_false', Bool.or_eq_false_iff, Bool.and_eq_false_iff, Int.not_lt, Int.not_le, gt_iff_lt, ge_iff_le] at h) <;> first | (exfalso; first | omega | exact h rfl | exact Bool.noConfusion h) | contradiction | (conv => whnf))))
    all_goals (repeat' (first | exact trivial | exact ResLe.pure (AVle.refl _) rfl | exact ResLe.row0 rfl | exact ResLe.pure (AVle.int (by first | rfl | omega)) rfl | exact ResLe.bo rfl rfl (by first | exact Iff.rfl | (simp only [decide_eq_true_eq, true_iff, iff_true, false_iff, iff_false, Bool.false_eq_true, Bool.not_eq_true', decide_eq_false_iff_not]; first | rfl | omega)) | exact ResLe.pure (AVle.dat (Dle.nil _ _)) rfl | refine ResLe.agg ?_ | refine And.intro ?_ ?_ | ((conv => whnf); first | refine And.intro ?_ ?_ | refine ResLe.agg ?_ | exact ResLe.pure (AVle.refl _) rfl | exact ResLe.row0 rfl | exact ResLe.pure (AVle.int (by first | rfl | omega)) rfl | exact ResLe.bo rfl rfl Iff.rfl)))
theorem lawTakeUnits_t (x0 : List Int) (a1 a2 : Int) (k0 : x0.length ≤ 9223372036854775807) : ACalls XX 5 [.dat (ilst x0), iA a1, iA a2] (bA true) := by
  obtain ⟨us, hus, hv, kS⟩ := slices_t x0 k0
  have hQ := l25awake_t
  obtain ⟨l1, l2, l3⟩ := lotErr_iff.1 hv
  have hc := cntOk l2 (by omega)
  have hU := runits_t us (by omega)
  rw [if_pos hv] at hU
  have w1 := within_t a1 (cnt us + 1) (by omega) (by omega)
  have r1 := Int.emod_nonneg a1 (show (cnt us + 1 : Int) ≠ 0 by omega)
  have r1' := Int.emod_lt_of_pos a1 (show (0 : Int) < cnt us + 1 by omega)
  generalize a1 % (cnt us + 1) = u at *
  have w2 := within_t a2 3 (by omega) (by omega)
  have r2 := Int.emod_nonneg a2 (show (3 : Int) ≠ 0 by omega)
  have r2' := Int.emod_lt_of_pos a2 (show (0 : Int) < 3 by omega)
  generalize a2 % 3 = w at *
  have hm : mOk (1 + w) := by unfold mOk; omega
  obtain ⟨t1, t2, t3⟩ := tak_ok (m := 1 + w) hv (u := u) (by omega) hm
  have d1 := take_t us u (1 + w) (by omega) (fun h => divAny h)
  rw [t1, t2, t3] at d1
  have hj := join_valid hv
  obtain ⟨j1, j2, j3⟩ := lotErr_iff.1 hj
  have hcj := cnt_join (slOk_le l2)
  have hu : 0 ≤ u ∧ u ≤ cnt (joinL us) := by omega
  have hR := divR (m := 1 + w) j2 hu
  obtain ⟨v1, v2⟩ := div_valid (m := 1 + w) j2 j1 j3 hu
  have hA := hR.lA
  have hB := hR.lB
  have cA := hR.cA
  have cB := hR.cB
  have hone : ∀ x ∈ us, ∀ z : Int, x.s ≤ z → z < x.e → hasU (divA (1 + w) (joinL us) u) x.m z + hasU (divB (1 + w) (joinL us) u) x.m z = 1 := fun x hx z hz1 hz2 => by
    have hp := (div_perm (m := 1 + w) j2 hu).count_eq (x.m, z)
    rw [expand_join (slOk_le l2), List.count_append] at hp
    have hmem : (x.m, z) ∈ expand us := mem_expand.2 ⟨x, hx, rfl, hz1, hz2⟩
    have c1 := List.count_pos_iff.2 hmem
    have c2 := List.nodup_iff_count.1 l3 (x.m, z)
    rw [hasU_count, hasU_count]
    omega
  generalize divA (1 + w) (joinL us) u = A at *
  generalize divB (1 + w) (joinL us) u = B at *
  have e1 := valid_t A (by omega)
  have e2 := valid_t B (by omega)
  have e3 := units_t A (by omega)
  have e4 := units_t B (by omega)
  rw [v1] at e1
  rw [v2] at e2
  rw [if_pos v1, cA] at e3
  rw [if_pos v2, cB, hcj] at e4
  refine ACalls.of (n := Tryz.f5.ntmps) XX_ok Tryz.func5 rfl (by kernel_rfl) rfl rfl (Nat.le_of_ble_eq_true rfl) ?_
  (repeat' (first | refine W.seq ?_ | refine W.block ?_ | ((first | refine W.region ?_ | refine W.ret ?_ | refine W.skip ?_ | refine W.exit ?_ | refine W.cond ?_ | refine W.drawT dr5 rfl mixed rfl ?_ | (with_reducible first | refine NumK.as _ (divOk (by omega) (by omega) (by omega)) ?_ | refine NumK.as _ (modOk (by omega) (by omega) (by omega) (by omega)) ?_) | refine NumK.as _ (wrapOk (by omega)) ?_ | (with_reducible refine NumK.as _ (wrapU (by omega)) ?_) | refine NumK.as _ (wrapOk (by (simp only [Int.toNat_natCast] at *); omega)) ?_ | refine CndK.mk (by omega) ?_ | (refine CndK.mk ?_ ?_; (focus (first | omega | (simp; done) | (simp; omega)))) | refine UnK.mk (fun b hb => ?_) | refine CndK.mk rfl ?_ | refine CndK.mk ⟨by assumption, rfl⟩ ?_ | refine ExCall.by (CallA.d2 rfl (kS)) ?_ | refine CallK.by (CallA.d2 rfl (kS)) ?_ | refine ExCall.by (CallA.d2 rfl (hU)) ?_ | refine CallK.by (CallA.d2 rfl (hU)) ?_ | refine ExCall.by (CallA.d2 rfl (w1)) ?_ | refine CallK.by (CallA.d2 rfl (w1)) ?_ | refine ExCall.by (CallA.d2 rfl (w2)) ?_ | refine CallK.by (CallA.d2 rfl (w2)) ?_ | refine ExCall.by (CallA.d2 rfl (d1)) ?_ | refine CallK.by (CallA.d2 rfl (d1)) ?_ | refine ExCall.by (CallA.d2 rfl (e1)) ?_ | refine CallK.by (CallA.d2 rfl (e1)) ?_ | refine ExCall.by (CallA.d2 rfl (e2)) ?_ | refine CallK.by (CallA.d2 rfl (e2)) ?_ | refine ExCall.by (CallA.d2 rfl (e3)) ?_ | refine CallK.by (CallA.d2 rfl (e3)) ?_ | refine ExCall.by (CallA.d2 rfl (e4)) ?_ | refine CallK.by (CallA.d2 rfl (e4)) ?_); conv => whnf) | (refine BrK.mk (fun h => ?_) (fun h => ?_) <;> (try simp only [decide_eq_true_eq, decide_eq_false_iff_not, Bool.and_eq_true, Bool.or_eq_true, Bool.not_eq_true', Bool.not_eq_false', Bool.or_eq_false_iff, Bool.and_eq_false_iff, Int.not_lt, Int.not_le, gt_iff_lt, ge_iff_le] at h) <;> first | (exfalso; first | omega | exact h rfl | exact Bool.noConfusion h) | contradiction | (conv => whnf))))
  refine (W.loopK (ι := Nat) [7, 9, 10] [] (fun k => [(12, iA k)]) (fun _ => []) (fun k => k ≤ us.length) (fun k => us.length - k) 0 (Nat.zero_le _) ?_ ?_ ?_)
  · (repeat' (first | exact trivial | exact AVle.refl _ | exact AVle.int (by first | rfl | omega) | exact AVle.own (by first | rfl | omega) | exact AVle.dat (Dle.refl _) | exact AVle.dat (Dle.nil _ _) | exact AVle.of_eq (by first | rfl | omega) | exact ⟨_, rfl, EntLe.refl _, rfl⟩ | refine ⟨_, rfl, EntLe.blk ?_, rfl⟩ | refine ⟨_, rfl, EntLe.row (by first | rfl | omega) ?_, rfl⟩ | refine And.intro ?_ ?_))
  · (repeat' (first | exact trivial | exact AVle.refl _ | exact AVle.int (by first | rfl | omega) | exact AVle.own (by first | rfl | omega) | exact AVle.dat (Dle.refl _) | exact AVle.dat (Dle.nil _ _) | exact AVle.of_eq (by first | rfl | omega) | exact ⟨_, rfl, EntLe.refl _, rfl⟩ | refine ⟨_, rfl, EntLe.blk ?_, rfl⟩ | refine ⟨_, rfl, EntLe.row (by first | rfl | omega) ?_, rfl⟩ | refine And.intro ?_ ?_))
  conv => whnf
  intro k hk
  by_cases hk' : k < us.length
  · have hx := l2 _ (getD_in hk')
    unfold slOk at hx
    (repeat' (first | refine W.seq ?_ | refine W.block ?_ | ((first | refine W.region ?_ | refine W.ret ?_ | refine W.skip ?_ | refine W.exit ?_ | refine W.cond ?_ | refine W.drawT dr5 rfl mixed rfl ?_ | (with_reducible first | refine NumK.as _ (divOk (by omega) (by omega) (by omega)) ?_ | refine NumK.as _ (modOk (by omega) (by omega) (by omega) (by omega)) ?_) | refine NumK.as _ (wrapOk (by omega)) ?_ | (with_reducible refine NumK.as _ (wrapU (by omega)) ?_) | refine NumK.as _ (wrapOk (by (simp only [Int.toNat_natCast] at *); omega)) ?_ | refine CndK.mk (by omega) ?_ | (refine CndK.mk ?_ ?_; (focus (first | omega | (simp; done) | (simp; omega)))) | refine UnK.mk (fun b hb => ?_) | refine CndK.mk rfl ?_ | refine CndK.mk ⟨by assumption, rfl⟩ ?_); conv => whnf) | (refine BrK.mk (fun h => ?_) (fun h => ?_) <;> (try simp only [decide_eq_true_eq, decide_eq_false_iff_not, Bool.and_eq_true, Bool.or_eq_true, Bool.not_eq_true', Bool.not_eq_false', Bool.or_eq_false_iff, Bool.and_eq_false_iff, Int.not_lt, Int.not_le, gt_iff_lt, ge_iff_le] at h) <;> first | (exfalso; first | omega | exact h rfl | exact Bool.noConfusion h) | contradiction | (conv => whnf))))
    all_goals (try dsimp only [Int.toNat_natCast] at *)
    refine (W.loopK (ι := Nat) [7, 9, 10, 12] [] (fun i => [(13, iA ((us.getD k default).s + i))]) (fun _ => []) (fun i => (us.getD k default).s + i ≤ (us.getD k default).e) (fun i => ((us.getD k default).e - (us.getD k default).s).toNat - i) 0 (by show _ + ((0 : Nat) : Int) ≤ _; omega) ?_ ?_ ?_)
    · (repeat' (first | exact trivial | exact AVle.refl _ | exact AVle.int (by first | rfl | (simp; done) | omega) | exact AVle.own (by first | rfl | (simp; done) | omega) | exact AVle.dat (Dle.refl _) | exact AVle.dat (Dle.nil _ _) | exact AVle.of_eq (by first | rfl | (simp; done) | omega) | exact ⟨_, rfl, EntLe.refl _, rfl⟩ | refine ⟨_, rfl, EntLe.blk ?_, rfl⟩ | refine ⟨_, rfl, EntLe.row (by first | rfl | (simp; done) | omega) ?_, rfl⟩ | refine And.intro ?_ ?_))
    · (repeat' (first | exact trivial | exact AVle.refl _ | exact AVle.int (by first | rfl | omega) | exact AVle.own (by first | rfl | omega) | exact AVle.dat (Dle.refl _) | exact AVle.dat (Dle.nil _ _) | exact AVle.of_eq (by first | rfl | omega) | exact ⟨_, rfl, EntLe.refl _, rfl⟩ | refine ⟨_, rfl, EntLe.blk ?_, rfl⟩ | refine ⟨_, rfl, EntLe.row (by first | rfl | omega) ?_, rfl⟩ | refine And.intro ?_ ?_))
    conv => whnf
    intro i hi
    by_cases hi' : (us.getD k default).s + i < (us.getD k default).e
    · have ho := hone _ (getD_in hk') ((us.getD k default).s + i) (by omega) hi'
      have f1 := has_t A (us.getD k default).m ((us.getD k default).s + i) (by omega)
      have f2 := has_t B (us.getD k default).m ((us.getD k default).s + i) (by omega)
      generalize hasU A (us.getD k default).m ((us.getD k default).s + i) = p at *
      generalize hasU B (us.getD k default).m ((us.getD k default).s + i) = q at *
      (repeat' (first | refine W.seq ?_ | refine W.block ?_ | ((first | refine W.region ?_ | refine W.ret ?_ | refine W.skip ?_ | refine W.exit ?_ | refine W.cond ?_ | refine W.drawT dr5 rfl mixed rfl ?_ | (with_reducible first | refine NumK.as _ (divOk (by omega) (by omega) (by omega)) ?_ | refine NumK.as _ (modOk (by omega) (by omega) (by omega) (by omega)) ?_) | refine NumK.as _ (wrapOk (by omega)) ?_ | (with_reducible refine NumK.as _ (wrapU (by omega)) ?_) | refine NumK.as _ (wrapOk (by (simp only [Int.toNat_natCast] at *); omega)) ?_ | refine CndK.mk (by omega) ?_ | (refine CndK.mk ?_ ?_; (focus (first | omega | (simp; done) | (simp; omega)))) | refine UnK.mk (fun b hb => ?_) | refine CndK.mk rfl ?_ | refine CndK.mk ⟨by assumption, rfl⟩ ?_); conv => whnf) | (refine BrK.mk (fun h => ?_) (fun h => ?_) <;> (try simp only [decide_eq_true_eq, decide_eq_false_iff_not, Bool.and_eq_true, Bool.or_eq_true, Bool.not_eq_true', Bool.not_eq_false', Bool.or_eq_false_iff, Bool.and_eq_false_iff, Int.not_lt, Int.not_le, gt_iff_lt, ge_iff_le] at h) <;> first | (exfalso; first | omega | exact h rfl | exact Bool.noConfusion h) | contradiction | (conv => whnf))))
      all_goals (try dsimp only [Int.toNat_natCast] at *)
      (repeat' (first | refine W.seq ?_ | refine W.block ?_ | ((first | refine W.region ?_ | refine W.ret ?_ | refine W.skip ?_ | refine W.exit ?_ | refine W.cond ?_ | refine W.drawT dr5 rfl mixed rfl ?_ | (with_reducible first | refine NumK.as _ (divOk (by omega) (by omega) (by omega)) ?_ | refine NumK.as _ (modOk (by omega) (by omega) (by omega) (by omega)) ?_) | refine NumK.as _ (wrapOk (by omega)) ?_ | (with_reducible refine NumK.as _ (wrapU (by omega)) ?_) | refine NumK.as _ (wrapOk (by (simp only [Int.toNat_natCast] at *); omega)) ?_ | refine CndK.mk (by omega) ?_ | (refine CndK.mk ?_ ?_; (focus (first | omega | (simp; done) | (simp; omega)))) | refine UnK.mk (fun b hb => ?_) | refine CndK.mk rfl ?_ | refine CndK.mk ⟨by assumption, rfl⟩ ?_ | refine ExCall.by (CallA.d2 rfl (f1)) ?_ | refine CallK.by (CallA.d2 rfl (f1)) ?_ | refine ExCall.by (CallA.d2 rfl (f2)) ?_ | refine CallK.by (CallA.d2 rfl (f2)) ?_); conv => whnf) | (refine BrK.mk (fun h => ?_) (fun h => ?_) <;> (try simp only [decide_eq_true_eq, decide_eq_false_iff_not, Bool.and_eq_true, Bool.or_eq_true, Bool.not_eq_true', Bool.not_eq_false', Bool.or_eq_false_iff, Bool.and_eq_false_iff, Int.not_lt, Int.not_le, gt_iff_lt, ge_iff_le] at h) <;> first | (exfalso; first | omega | exact h rfl | exact Bool.noConfusion h) | contradiction | (conv => whnf))))
      all_goals first | (exfalso; omega) | skip
      refine ⟨i + 1, by push_cast; omega, by omega, ?_, ?_, ?_, ?_⟩
      all_goals (repeat' (first | exact trivial | exact AVle.refl _ | exact AVle.int (by first | rfl | omega | (push_cast; omega)) | exact AVle.own (by first | rfl | omega | (push_cast; omega)) | exact AVle.dat (Dle.refl _) | exact AVle.dat (Dle.nil _ _) | exact AVle.of_eq (by first | rfl | omega | (push_cast; omega)) | exact ⟨_, rfl, EntLe.refl _, rfl⟩ | refine ⟨_, rfl, EntLe.blk ?_, rfl⟩ | refine ⟨_, rfl, EntLe.row (by first | rfl | omega | (push_cast; omega)) ?_, rfl⟩ | refine And.intro ?_ ?_))
    · (repeat' (first | refine W.seq ?_ | refine W.block ?_ | ((first | refine W.region ?_ | refine W.ret ?_ | refine W.skip ?_ | refine W.exit ?_ | refine W.cond ?_ | refine W.drawT dr5 rfl mixed rfl ?_ | (with_reducible first | refine NumK.as _ (divOk (by omega) (by omega) (by omega)) ?_ | refine NumK.as _ (modOk (by omega) (by omega) (by omega) (by omega)) ?_) | refine NumK.as _ (wrapOk (by omega)) ?_ | (with_reducible refine NumK.as _ (wrapU (by omega)) ?_) | refine NumK.as _ (wrapOk (by (simp only [Int.toNat_natCast] at *); omega)) ?_ | refine CndK.mk (by omega) ?_ | (refine CndK.mk ?_ ?_; (focus (first | omega | (simp; done) | (simp; omega)))) | refine UnK.mk (fun b hb => ?_) | refine CndK.mk rfl ?_ | refine CndK.mk ⟨by assumption, rfl⟩ ?_); conv => whnf) | (refine BrK.mk (fun h => ?_) (fun h => ?_) <;> (try simp only [decide_eq_true_eq, decide_eq_false_iff_not, Bool.and_eq_true, Bool.or_eq_true, Bool.not_eq_true', Bool.not_eq_false', Bool.or_eq_false_iff, Bool.and_eq_false_iff, Int.not_lt, Int.not_le, gt_iff_lt, ge_iff_le] at h) <;> first | (exfalso; first | omega | exact h rfl | exact Bool.noConfusion h) | contradiction | (conv => whnf))))
      all_goals (try dsimp only [Int.toNat_natCast] at *)
      all_goals first | (exfalso; omega) | skip
      refine ⟨k + 1, by omega, by omega, ?_, ?_, ?_, ?_⟩
      all_goals (repeat' (first | exact trivial | exact AVle.refl _ | exact AVle.int (by first | rfl | omega) | exact AVle.own (by first | rfl | omega) | exact AVle.dat (Dle.refl _) | exact AVle.dat (Dle.nil _ _) | exact AVle.of_eq (by first | rfl | omega) | exact ⟨_, rfl, EntLe.refl _, rfl⟩ | refine ⟨_, rfl, EntLe.blk ?_, rfl⟩ | refine ⟨_, rfl, EntLe.row (by first | rfl | omega) ?_, rfl⟩ | refine And.intro ?_ ?_))
  · obtain rfl : k = us.length := by omega
    (repeat' (first | refine W.seq ?_ | refine W.block ?_ | ((first | refine W.region ?_ | refine W.ret ?_ | refine W.skip ?_ | refine W.exit ?_ | refine W.cond ?_ | refine W.drawT dr5 rfl mixed rfl ?_ | (with_reducible first | refine NumK.as _ (divOk (by omega) (by omega) (by omega)) ?_ | refine NumK.as _ (modOk (by omega) (by omega) (by omega) (by omega)) ?_) | refine NumK.as _ (wrapOk (by omega)) ?_ | (with_reducible refine NumK.as _ (wrapU (by omega)) ?_) | refine NumK.as _ (wrapOk (by (simp only [Int.toNat_natCast] at *); omega)) ?_ | refine CndK.mk (by omega) ?_ | (refine CndK.mk ?_ ?_; (focus (first | omega | (simp; done) | (simp; omega)))) | refine UnK.mk (fun b hb => ?_) | refine CndK.mk rfl ?_ | refine CndK.mk ⟨by assumption, rfl⟩ ?_ | refine ExCall.by (CallA.d2 rfl (hQ)) ?_ | refine CallK.by (CallA.d2 rfl (hQ)) ?_); conv => whnf) | (refine BrK.mk (fun h => ?_) (fun h => ?_) <;> (try simp only [decide_eq_true_eq, decide_eq_false_iff_not, Bool.and_eq_true, Bool.or_eq_true, Bool.not_eq_true', Bool.not_eq_false', Bool.or_eq_false_iff, Bool.and_eq_false_iff, Int.not_lt, Int.not_le, gt_iff_lt, ge_iff_le] at h) <;> first | (exfalso; first | omega | exact h rfl | exact Bool.noConfusion h) | contradiction | (conv => whnf))))
    all_goals (repeat' (first | exact trivial | exact ResLe.pure (AVle.refl _) rfl | exact ResLe.row0 rfl | exact ResLe.pure (AVle.int (by first | rfl | omega)) rfl | exact ResLe.bo rfl rfl (by first | exact Iff.rfl | (simp only [decide_eq_true_eq, true_iff, iff_true, false_iff, iff_false, Bool.false_eq_true, Bool.not_eq_true', decide_eq_false_iff_not]; first | rfl | omega)) | exact ResLe.pure (AVle.dat (Dle.nil _ _)) rfl | refine ResLe.agg ?_ | refine And.intro ?_ ?_ | ((conv => whnf); first | refine And.intro ?_ ?_ | refine ResLe.agg ?_ | exact ResLe.pure (AVle.refl _) rfl | exact ResLe.row0 rfl | exact ResLe.pure (AVle.int (by first | rfl | omega)) rfl | exact ResLe.bo rfl rfl Iff.rfl)))

end Go.Proofs.YtekdobbhkklapaaGreat
