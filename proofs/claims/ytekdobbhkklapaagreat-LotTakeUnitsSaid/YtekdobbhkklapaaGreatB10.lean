/- Whether the law's package is awake; the law of lists of slices. -/
import Derived.Test.YtekdobbhkklapaaGreatB9
import Derived.Test.YtekdobbhkklapaaGreatS10
namespace Go.Proofs.YtekdobbhkklapaaGreat
open Go Go.RowKit
set_option linter.unusedVariables false
set_option linter.unusedSimpArgs false
set_option maxRecDepth 100000
set_option maxHeartbeats 4000000
attribute [local irreducible] ResLe AVle ArgLe ArgP EntLe Dle ResH ArgQ

theorem nilLots : AVle (.dat (.val (.slice none 0 0))) (.dat (ltD [])) := AVle.dat (Dle.nil _ _)
theorem two_pt : AVle (.dat (.lst 2 2 fun i j => pickF (tabB 2 2) [.val (.int .i64 2), .val (.int .i64 4), .val (.int .i64 3), .val (.int .i64 6)] (i * 2 + j))) (.dat (ptD ps0)) := AVle.dat (Dle.lst rfl fun i hi j hj => by
  rcases i with _ | _ | i
  · rcases j with _ | _ | j
    all_goals first | exact Dle.refl _ | omega
  · rcases j with _ | _ | j
    all_goals first | exact Dle.refl _ | omega
  · omega)
theorem has3 : hasI s2 3 := ⟨_, List.mem_cons_of_mem _ (List.mem_singleton.2 rfl), rfl⟩
theorem l25awake_t : ACalls XX 11 [] (bA true) := by
  have p1 := present_t [] 1 code0 10 (by simp)
  rw [pre0.1, pre0.2] at p1
  have p1 := p1.args4 nilLots (AVle.refl _) (AVle.refl _) (AVle.refl _)
  have p2 := split_t s1 1 ps0 1 (by simp) (by simp) (fun _ => divOk1)
  rw [spl0.1, spl0.2] at p2
  have p2 := p2.args4 (AVle.refl _) (AVle.refl _) two_pt (AVle.refl _)
  have p3 := find_t s2 3 (by simp) (by simp)
  rw [decide_eq_true has3, show findV s2 3 = ⟨3, code0, 6, 1, [⟨1, 4, 10⟩]⟩ from rfl] at p3
  have p4 := (rsame_t [⟨1, 4, 10⟩] (by simp)).args2 (AVle.refl _) (one_sl ⟨1, 4, 10⟩)
  have p5 := covers_t s2 1 10 (by simp)
  have hc : covL s2 1 = [⟨1, 0, 4⟩, ⟨1, 4, 10⟩] := rfl
  rw [decide_eq_true (show qOk 10 ∧ stkErr s2 = 0 ∧ covP s2 1 10 from ⟨by decide, stkErr_zero stk_s2, by rw [hc]; simp, by rw [hc]; rfl⟩)] at p5
  have p6 := covers_t s2 1 9 (by simp)
  rw [decide_eq_false (show ¬ (qOk 9 ∧ stkErr s2 = 0 ∧ covP s2 1 9) from fun h => by have := h.2.2.1; rw [hc] at this; simp at this)] at p6
  refine ACalls.of (n := Tryz.f11.ntmps) XX_ok Tryz.func11 rfl (by kernel_rfl) rfl rfl (Nat.le_of_ble_eq_true rfl) ?_
  refine W.pb [14, 41] ?_
  (repeat' (first | refine W.seq ?_ | refine W.block ?_ | ((first | refine W.region ?_ | refine W.ret ?_ | refine W.skip ?_ | refine W.exit ?_ | refine W.cond ?_ | (with_reducible first | refine NumK.as _ (divOk (by omega) (by omega) (by omega)) ?_ | refine NumK.as _ (modOk (by omega) (by omega) (by omega) (by omega)) ?_) | refine NumK.as _ (wrapOk (by omega)) ?_ | (with_reducible refine NumK.as _ (wrapU (by omega)) ?_) | refine NumK.as _ (wrapOk (by (simp only [Int.toNat_natCast] at *); omega)) ?_ | refine CndK.mk (by omega) ?_ | (refine CndK.mk ?_ ?_; (focus (first | omega | (simp; done) | (simp; omega)))) | refine UnK.mk (fun b hb => ?_) | refine CndK.mk rfl ?_ | refine CndK.mk ⟨by assumption, rfl⟩ ?_ | refine ExCall.by (CallA.d2 rfl (ACalls.at (p1))) ?_ | refine ExCall.by (CallA.d2 rfl (ACalls.at (p2))) ?_ | refine ExCall.by (CallA.d2 rfl (ACalls.at (p3))) ?_ | refine ExCall.by (CallA.d2 rfl (ACalls.at (p4))) ?_ | refine ExCall.by (CallA.d2 rfl (ACalls.at (p5))) ?_ | refine ExCall.by (CallA.d2 rfl (ACalls.at (p6))) ?_); conv => whnf) | (refine BrK.mk (fun h => ?_) (fun h => ?_) <;> (try simp only [decide_eq_true_eq, decide_eq_false_iff_not, Bool.and_eq_true, Bool.or_eq_true, Bool.not_eq_true', Bool.not_eq_false', Bool.or_eq_false_iff, Bool.and_eq_false_iff, Int.not_lt, Int.not_le, gt_iff_lt, ge_iff_le] at h) <;> first | (exfalso; first | omega | exact h rfl | exact Bool.noConfusion h) | contradiction | (conv => whnf))))
  all_goals (repeat' (first | exact trivial | exact ResLe.pure (AVle.refl _) rfl | exact ResLe.row0 rfl | exact ResLe.pure (AVle.int (by first | rfl | omega)) rfl | exact ResLe.bo rfl rfl (by first | exact Iff.rfl | (simp only [decide_eq_true_eq, true_iff, iff_true, false_iff, iff_false, Bool.false_eq_true, Bool.not_eq_true', decide_eq_false_iff_not]; first | rfl | omega)) | exact ResLe.pure (AVle.dat (Dle.nil _ _)) rfl | refine ResLe.agg ?_ | refine And.intro ?_ ?_ | ((conv => whnf); first | refine And.intro ?_ ?_ | refine ResLe.agg ?_ | exact ResLe.pure (AVle.refl _) rfl | exact ResLe.row0 rfl | exact ResLe.pure (AVle.int (by first | rfl | omega)) rfl | exact ResLe.bo rfl rfl Iff.rfl)))
theorem light_t (us : List Sl) : ACalls XX 10 [.dat (slD us)] (bA (decide (us.length ≤ 80))) := by
  refine ACalls.of (n := Tryz.f10.ntmps) XX_ok Tryz.func10 rfl (by kernel_rfl) rfl rfl (Nat.le_of_ble_eq_true rfl) ?_
  (repeat' (first | refine W.seq ?_ | refine W.block ?_ | ((first | refine W.region ?_ | refine W.ret ?_ | refine W.skip ?_ | refine W.exit ?_ | refine W.cond ?_ | (with_reducible first | refine NumK.as _ (divOk (by omega) (by omega) (by omega)) ?_ | refine NumK.as _ (modOk (by omega) (by omega) (by omega) (by omega)) ?_) | refine NumK.as _ (wrapOk (by omega)) ?_ | (with_reducible refine NumK.as _ (wrapU (by omega)) ?_) | refine NumK.as _ (wrapOk (by (simp only [Int.toNat_natCast] at *); omega)) ?_ | refine CndK.mk (by omega) ?_ | (refine CndK.mk ?_ ?_; (focus (first | omega | (simp; done) | (simp; omega)))) | refine UnK.mk (fun b hb => ?_) | refine CndK.mk rfl ?_ | refine CndK.mk ⟨by assumption, rfl⟩ ?_); conv => whnf) | (refine BrK.mk (fun h => ?_) (fun h => ?_) <;> (try simp only [decide_eq_true_eq, decide_eq_false_iff_not, Bool.and_eq_true, Bool.or_eq_true, Bool.not_eq_true', Bool.not_eq_false', Bool.or_eq_false_iff, Bool.and_eq_false_iff, Int.not_lt, Int.not_le, gt_iff_lt, ge_iff_le] at h) <;> first | (exfalso; first | omega | exact h rfl | exact Bool.noConfusion h) | contradiction | (conv => whnf))))
  all_goals (repeat' (first | exact trivial | exact ResLe.pure (AVle.refl _) rfl | exact ResLe.row0 rfl | exact ResLe.pure (AVle.int (by first | rfl | omega)) rfl | exact ResLe.bo rfl rfl (by first | exact Iff.rfl | (simp only [decide_eq_true_eq, true_iff, iff_true, false_iff, iff_false, Bool.false_eq_true, Bool.not_eq_true', decide_eq_false_iff_not]; first | rfl | omega)) | exact ResLe.pure (AVle.dat (Dle.nil _ _)) rfl | refine ResLe.agg ?_ | refine And.intro ?_ ?_ | ((conv => whnf); first | refine And.intro ?_ ?_ | refine ResLe.agg ?_ | exact ResLe.pure (AVle.refl _) rfl | exact ResLe.row0 rfl | exact ResLe.pure (AVle.int (by first | rfl | omega)) rfl | exact ResLe.bo rfl rfl Iff.rfl)))
theorem runits_t (us : List Sl) (hL : us.length ≤ 9223372036854775807) : ACalls XX 9 [.dat (slD us)] (iA (if lotErr us = 0 then cnt us else 0)) := by
  have h1 := rvalid_t us hL
  by_cases h : lotErr us = 0
  · obtain ⟨k1, k2, _⟩ := lotErr_ok h
    have h2 := rcount_t us k2 (by omega)
    rw [if_pos h]
    refine ACalls.of (n := Tryz.f9.ntmps) XX_ok Tryz.func9 rfl (by kernel_rfl) rfl rfl (Nat.le_of_ble_eq_true rfl) ?_
    (repeat' (first | refine W.seq ?_ | refine W.block ?_ | ((first | refine W.region ?_ | refine W.ret ?_ | refine W.skip ?_ | refine W.exit ?_ | refine W.cond ?_ | (with_reducible first | refine NumK.as _ (divOk (by omega) (by omega) (by omega)) ?_ | refine NumK.as _ (modOk (by omega) (by omega) (by omega) (by omega)) ?_) | refine NumK.as _ (wrapOk (by omega)) ?_ | (with_reducible refine NumK.as _ (wrapU (by omega)) ?_) | refine NumK.as _ (wrapOk (by (simp only [Int.toNat_natCast] at *); omega)) ?_ | refine CndK.mk (by omega) ?_ | (refine CndK.mk ?_ ?_; (focus (first | omega | (simp; done) | (simp; omega)))) | refine UnK.mk (fun b hb => ?_) | refine CndK.mk rfl ?_ | refine CndK.mk ⟨by assumption, rfl⟩ ?_ | refine ExCall.by (CallA.d2 rfl (h1)) ?_ | refine ExCall.by (CallA.d2 rfl (h2)) ?_); conv => whnf) | (refine BrK.mk (fun h => ?_) (fun h => ?_) <;> (try simp only [decide_eq_true_eq, decide_eq_false_iff_not, Bool.and_eq_true, Bool.or_eq_true, Bool.not_eq_true', Bool.not_eq_false', Bool.or_eq_false_iff, Bool.and_eq_false_iff, Int.not_lt, Int.not_le, gt_iff_lt, ge_iff_le] at h) <;> first | (exfalso; first | omega | exact h rfl | exact Bool.noConfusion h) | contradiction | (conv => whnf))))
    all_goals (repeat' (first | exact trivial | exact ResLe.pure (AVle.refl _) rfl | exact ResLe.row0 rfl | exact ResLe.pure (AVle.int (by first | rfl | omega)) rfl | exact ResLe.bo rfl rfl (by first | exact Iff.rfl | (simp only [decide_eq_true_eq, true_iff, iff_true, false_iff, iff_false, Bool.false_eq_true, Bool.not_eq_true', decide_eq_false_iff_not]; first | rfl | omega)) | exact ResLe.pure (AVle.dat (Dle.nil _ _)) rfl | refine ResLe.agg ?_ | refine And.intro ?_ ?_ | ((conv => whnf); first | refine And.intro ?_ ?_ | refine ResLe.agg ?_ | exact ResLe.pure (AVle.refl _) rfl | exact ResLe.row0 rfl | exact ResLe.pure (AVle.int (by first | rfl | omega)) rfl | exact ResLe.bo rfl rfl Iff.rfl)))
  · rw [if_neg h]
    refine ACalls.of (n := Tryz.f9.ntmps) XX_ok Tryz.func9 rfl (by kernel_rfl) rfl rfl (Nat.le_of_ble_eq_true rfl) ?_
    (repeat' (first | refine W.seq ?_ | refine W.block ?_ | ((first | refine W.region ?_ | refine W.ret ?_ | refine W.skip ?_ | refine W.exit ?_ | refine W.cond ?_ | (with_reducible first | refine NumK.as _ (divOk (by omega) (by omega) (by omega)) ?_ | refine NumK.as _ (modOk (by omega) (by omega) (by omega) (by omega)) ?_) | refine NumK.as _ (wrapOk (by omega)) ?_ | (with_reducible refine NumK.as _ (wrapU (by omega)) ?_) | refine NumK.as _ (wrapOk (by (simp only [Int.toNat_natCast] at *); omega)) ?_ | refine CndK.mk (by omega) ?_ | (refine CndK.mk ?_ ?_; (focus (first | omega | (simp; done) | (simp; omega)))) | refine UnK.mk (fun b hb => ?_) | refine CndK.mk rfl ?_ | refine CndK.mk ⟨by assumption, rfl⟩ ?_ | refine ExCall.by (CallA.d2 rfl (h1)) ?_); conv => whnf) | (refine BrK.mk (fun h => ?_) (fun h => ?_) <;> (try simp only [decide_eq_true_eq, decide_eq_false_iff_not, Bool.and_eq_true, Bool.or_eq_true, Bool.not_eq_true', Bool.not_eq_false', Bool.or_eq_false_iff, Bool.and_eq_false_iff, Int.not_lt, Int.not_le, gt_iff_lt, ge_iff_le] at h) <;> first | (exfalso; first | omega | exact h rfl | exact Bool.noConfusion h) | contradiction | (conv => whnf))))
    all_goals (repeat' (first | exact trivial | exact ResLe.pure (AVle.refl _) rfl | exact ResLe.row0 rfl | exact ResLe.pure (AVle.int (by first | rfl | omega)) rfl | exact ResLe.bo rfl rfl (by first | exact Iff.rfl | (simp only [decide_eq_true_eq, true_iff, iff_true, false_iff, iff_false, Bool.false_eq_true, Bool.not_eq_true', decide_eq_false_iff_not]; first | rfl | omega)) | exact ResLe.pure (AVle.dat (Dle.nil _ _)) rfl | refine ResLe.agg ?_ | refine And.intro ?_ ?_ | ((conv => whnf); first | refine And.intro ?_ ?_ | refine ResLe.agg ?_ | exact ResLe.pure (AVle.refl _) rfl | exact ResLe.row0 rfl | exact ResLe.pure (AVle.int (by first | rfl | omega)) rfl | exact ResLe.bo rfl rfl Iff.rfl)))
theorem rcompact_t (us : List Sl) (hL : us.length ≤ 9223372036854775807) : ACalls XX 19 [.dat (slD us)] (.dat (slD (if lotErr us = 0 then joinL us else []))) := by
  have h1 := rvalid_t us hL
  by_cases h : lotErr us = 0
  · obtain ⟨k1, k2, _⟩ := lotErr_ok h
    have h2 := rjoin_t us (by omega)
    rw [joinR_eq fun x hx => by have := k2 x hx; unfold slOk at this; omega] at h2
    rw [if_pos h]
    refine ACalls.of (n := Tryz.f19.ntmps) XX_ok Tryz.func19 rfl (by kernel_rfl) rfl rfl (Nat.le_of_ble_eq_true rfl) ?_
    (repeat' (first | refine W.seq ?_ | refine W.block ?_ | ((first | refine W.region ?_ | refine W.ret ?_ | refine W.skip ?_ | refine W.exit ?_ | refine W.cond ?_ | (with_reducible first | refine NumK.as _ (divOk (by omega) (by omega) (by omega)) ?_ | refine NumK.as _ (modOk (by omega) (by omega) (by omega) (by omega)) ?_) | refine NumK.as _ (wrapOk (by omega)) ?_ | (with_reducible refine NumK.as _ (wrapU (by omega)) ?_) | refine NumK.as _ (wrapOk (by (simp only [Int.toNat_natCast] at *); omega)) ?_ | refine CndK.mk (by omega) ?_ | (refine CndK.mk ?_ ?_; (focus (first | omega | (simp; done) | (simp; omega)))) | refine UnK.mk (fun b hb => ?_) | refine CndK.mk rfl ?_ | refine CndK.mk ⟨by assumption, rfl⟩ ?_ | refine ExCall.by (CallA.d2 rfl (h1)) ?_ | refine ExCall.by (CallA.d2 rfl (h2)) ?_); conv => whnf) | (refine BrK.mk (fun h => ?_) (fun h => ?_) <;> (try simp only [decide_eq_true_eq, decide_eq_false_iff_not, Bool.and_eq_true, Bool.or_eq_true, Bool.not_eq_true', Bool.not_eq_false', Bool.or_eq_false_iff, Bool.and_eq_false_iff, Int.not_lt, Int.not_le, gt_iff_lt, ge_iff_le] at h) <;> first | (exfalso; first | omega | exact h rfl | exact Bool.noConfusion h) | contradiction | (conv => whnf))))
    all_goals (repeat' (first | exact trivial | exact ResLe.pure (AVle.refl _) rfl | exact ResLe.row0 rfl | exact ResLe.pure (AVle.int (by first | rfl | omega)) rfl | exact ResLe.bo rfl rfl (by first | exact Iff.rfl | (simp only [decide_eq_true_eq, true_iff, iff_true, false_iff, iff_false, Bool.false_eq_true, Bool.not_eq_true', decide_eq_false_iff_not]; first | rfl | omega)) | exact ResLe.pure (AVle.dat (Dle.nil _ _)) rfl | refine ResLe.agg ?_ | refine And.intro ?_ ?_ | ((conv => whnf); first | refine And.intro ?_ ?_ | refine ResLe.agg ?_ | exact ResLe.pure (AVle.refl _) rfl | exact ResLe.row0 rfl | exact ResLe.pure (AVle.int (by first | rfl | omega)) rfl | exact ResLe.bo rfl rfl Iff.rfl)))
  · rw [if_neg h]
    refine ACalls.of (n := Tryz.f19.ntmps) XX_ok Tryz.func19 rfl (by kernel_rfl) rfl rfl (Nat.le_of_ble_eq_true rfl) ?_
    (repeat' (first | refine W.seq ?_ | refine W.block ?_ | ((first | refine W.region ?_ | refine W.ret ?_ | refine W.skip ?_ | refine W.exit ?_ | refine W.cond ?_ | (with_reducible first | refine NumK.as _ (divOk (by omega) (by omega) (by omega)) ?_ | refine NumK.as _ (modOk (by omega) (by omega) (by omega) (by omega)) ?_) | refine NumK.as _ (wrapOk (by omega)) ?_ | (with_reducible refine NumK.as _ (wrapU (by omega)) ?_) | refine NumK.as _ (wrapOk (by (simp only [Int.toNat_natCast] at *); omega)) ?_ | refine CndK.mk (by omega) ?_ | (refine CndK.mk ?_ ?_; (focus (first | omega | (simp; done) | (simp; omega)))) | refine UnK.mk (fun b hb => ?_) | refine CndK.mk rfl ?_ | refine CndK.mk ⟨by assumption, rfl⟩ ?_ | refine ExCall.by (CallA.d2 rfl (h1)) ?_); conv => whnf) | (refine BrK.mk (fun h => ?_) (fun h => ?_) <;> (try simp only [decide_eq_true_eq, decide_eq_false_iff_not, Bool.and_eq_true, Bool.or_eq_true, Bool.not_eq_true', Bool.not_eq_false', Bool.or_eq_false_iff, Bool.and_eq_false_iff, Int.not_lt, Int.not_le, gt_iff_lt, ge_iff_le] at h) <;> first | (exfalso; first | omega | exact h rfl | exact Bool.noConfusion h) | contradiction | (conv => whnf))))
    all_goals (repeat' (first | exact trivial | exact ResLe.pure (AVle.refl _) rfl | exact ResLe.row0 rfl | exact ResLe.pure (AVle.int (by first | rfl | omega)) rfl | exact ResLe.bo rfl rfl (by first | exact Iff.rfl | (simp only [decide_eq_true_eq, true_iff, iff_true, false_iff, iff_false, Bool.false_eq_true, Bool.not_eq_true', decide_eq_false_iff_not]; first | rfl | omega)) | exact ResLe.pure (AVle.dat (Dle.nil _ _)) rfl | refine ResLe.agg ?_ | refine And.intro ?_ ?_ | ((conv => whnf); first | refine And.intro ?_ ?_ | refine ResLe.agg ?_ | exact ResLe.pure (AVle.refl _) rfl | exact ResLe.row0 rfl | exact ResLe.pure (AVle.int (by first | rfl | omega)) rfl | exact ResLe.bo rfl rfl Iff.rfl)))
theorem lawSlices_t (x0 : List Int) (x1 : List Sl) (b2 : Bool) (k0 : x0.length ≤ 9223372036854775807) (k1 : x1.length ≤ 9223372036854775807) : ACalls XX 4 [.dat (ilst x0), .dat (slD x1), bA b2] (bA true) := by
  obtain ⟨us0, hus, hus0, kS⟩ := slices_t x0 k0
  have hQ := l25awake_t
  cases b2 with
  | true =>
    have d0 := light_t x1
    have d1 := valid_t x1 k1
    have d2 := rvalid_t x1 k1
    have d3 := units_t x1 k1
    have d4 := runits_t x1 k1
    have d5 := compact_t x1 k1
    have d6 := rcompact_t x1 k1
    have d7 := rsame_t (if lotErr x1 = 0 then joinL x1 else []) (by
      split
      · rename_i h
        have := joinL_len x1
        have := (lotErr_ok h).1
        omega
      · simp)
    refine ACalls.of (n := Tryz.f4.ntmps) XX_ok Tryz.func4 rfl (by kernel_rfl) rfl rfl (Nat.le_of_ble_eq_true rfl) ?_
    (repeat' (first | refine W.seq ?_ | refine W.block ?_ | ((first | refine W.region ?_ | refine W.ret ?_ | refine W.skip ?_ | refine W.exit ?_ | refine W.cond ?_ | (with_reducible first | refine NumK.as _ (divOk (by omega) (by omega) (by omega)) ?_ | refine NumK.as _ (modOk (by omega) (by omega) (by omega) (by omega)) ?_) | refine NumK.as _ (wrapOk (by omega)) ?_ | (with_reducible refine NumK.as _ (wrapU (by omega)) ?_) | refine NumK.as _ (wrapOk (by (simp only [Int.toNat_natCast] at *); omega)) ?_ | refine CndK.mk (by omega) ?_ | (refine CndK.mk ?_ ?_; (focus (first | omega | (simp; done) | (simp; omega)))) | refine UnK.mk (fun b hb => ?_) | refine CndK.mk rfl ?_ | refine CndK.mk ⟨by assumption, rfl⟩ ?_ | refine ExCall.by (CallA.d2 rfl (hQ)) ?_ | refine ExCall.by (CallA.d2 rfl (d0)) ?_ | refine ExCall.by (CallA.d2 rfl (d1)) ?_ | refine ExCall.by (CallA.d2 rfl (d2)) ?_ | refine ExCall.by (CallA.d2 rfl (d3)) ?_ | refine ExCall.by (CallA.d2 rfl (d4)) ?_ | refine ExCall.by (CallA.d2 rfl (d5)) ?_ | refine ExCall.by (CallA.d2 rfl (d6)) ?_ | refine ExCall.by (CallA.d2 rfl (d7)) ?_); conv => whnf) | (refine BrK.mk (fun h => ?_) (fun h => ?_) <;> (try simp only [decide_eq_true_eq, decide_eq_false_iff_not, Bool.and_eq_true, Bool.or_eq_true, Bool.not_eq_true', Bool.not_eq_false', Bool.or_eq_false_iff, Bool.and_eq_false_iff, Int.not_lt, Int.not_le, gt_iff_lt, ge_iff_le] at h) <;> first | (exfalso; first | omega | exact h rfl | exact Bool.noConfusion h) | contradiction | (conv => whnf))))
    all_goals (repeat' (first | exact trivial | exact ResLe.pure (AVle.refl _) rfl | exact ResLe.row0 rfl | exact ResLe.pure (AVle.int (by first | rfl | omega)) rfl | exact ResLe.bo rfl rfl (by first | exact Iff.rfl | (simp only [decide_eq_true_eq, true_iff, iff_true, false_iff, iff_false, Bool.false_eq_true, Bool.not_eq_true', decide_eq_false_iff_not]; first | rfl | omega)) | exact ResLe.pure (AVle.dat (Dle.nil _ _)) rfl | refine ResLe.agg ?_ | refine And.intro ?_ ?_ | ((conv => whnf); first | refine And.intro ?_ ?_ | refine ResLe.agg ?_ | exact ResLe.pure (AVle.refl _) rfl | exact ResLe.row0 rfl | exact ResLe.pure (AVle.int (by first | rfl | omega)) rfl | exact ResLe.bo rfl rfl Iff.rfl)))
  | false =>
    have d0 := light_t us0
    have d1 := valid_t us0 (by omega)
    have d2 := rvalid_t us0 (by omega)
    have d3 := units_t us0 (by omega)
    have d4 := runits_t us0 (by omega)
    have d5 := compact_t us0 (by omega)
    have d6 := rcompact_t us0 (by omega)
    have d7 := rsame_t (if lotErr us0 = 0 then joinL us0 else []) (by
      rw [if_pos hus0]
      have := joinL_len us0
      omega)
    refine ACalls.of (n := Tryz.f4.ntmps) XX_ok Tryz.func4 rfl (by kernel_rfl) rfl rfl (Nat.le_of_ble_eq_true rfl) ?_
    (repeat' (first | refine W.seq ?_ | refine W.block ?_ | ((first | refine W.region ?_ | refine W.ret ?_ | refine W.skip ?_ | refine W.exit ?_ | refine W.cond ?_ | (with_reducible first | refine NumK.as _ (divOk (by omega) (by omega) (by omega)) ?_ | refine NumK.as _ (modOk (by omega) (by omega) (by omega) (by omega)) ?_) | refine NumK.as _ (wrapOk (by omega)) ?_ | (with_reducible refine NumK.as _ (wrapU (by omega)) ?_) | refine NumK.as _ (wrapOk (by (simp only [Int.toNat_natCast] at *); omega)) ?_ | refine CndK.mk (by omega) ?_ | (refine CndK.mk ?_ ?_; (focus (first | omega | (simp; done) | (simp; omega)))) | refine UnK.mk (fun b hb => ?_) | refine CndK.mk rfl ?_ | refine CndK.mk ⟨by assumption, rfl⟩ ?_ | refine ExCall.by (CallA.d2 rfl (kS)) ?_ | refine ExCall.by (CallA.d2 rfl (hQ)) ?_ | refine ExCall.by (CallA.d2 rfl (d0)) ?_ | refine ExCall.by (CallA.d2 rfl (d1)) ?_ | refine ExCall.by (CallA.d2 rfl (d2)) ?_ | refine ExCall.by (CallA.d2 rfl (d3)) ?_ | refine ExCall.by (CallA.d2 rfl (d4)) ?_ | refine ExCall.by (CallA.d2 rfl (d5)) ?_ | refine ExCall.by (CallA.d2 rfl (d6)) ?_ | refine ExCall.by (CallA.d2 rfl (d7)) ?_); conv => whnf) | (refine BrK.mk (fun h => ?_) (fun h => ?_) <;> (try simp only [decide_eq_true_eq, decide_eq_false_iff_not, Bool.and_eq_true, Bool.or_eq_true, Bool.not_eq_true', Bool.not_eq_false', Bool.or_eq_false_iff, Bool.and_eq_false_iff, Int.not_lt, Int.not_le, gt_iff_lt, ge_iff_le] at h) <;> first | (exfalso; first | omega | exact h rfl | exact Bool.noConfusion h) | contradiction | (conv => whnf))))
    all_goals (repeat' (first | exact trivial | exact ResLe.pure (AVle.refl _) rfl | exact ResLe.row0 rfl | exact ResLe.pure (AVle.int (by first | rfl | omega)) rfl | exact ResLe.bo rfl rfl (by first | exact Iff.rfl | (simp only [decide_eq_true_eq, true_iff, iff_true, false_iff, iff_false, Bool.false_eq_true, Bool.not_eq_true', decide_eq_false_iff_not]; first | rfl | omega)) | exact ResLe.pure (AVle.dat (Dle.nil _ _)) rfl | refine ResLe.agg ?_ | refine And.intro ?_ ?_ | ((conv => whnf); first | refine And.intro ?_ ?_ | refine ResLe.agg ?_ | exact ResLe.pure (AVle.refl _) rfl | exact ResLe.row0 rfl | exact ResLe.pure (AVle.int (by first | rfl | omega)) rfl | exact ResLe.bo rfl rfl Iff.rfl)))

end Go.Proofs.YtekdobbhkklapaaGreat
