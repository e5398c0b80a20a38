/- The law of refused amounts, walked. -/
import Derived.Test.YteilknlokjfelaaL23
namespace Go.Proofs.Yteilknlokjfelaa
open Go Go.RowKit
set_option linter.unusedVariables false
set_option linter.unusedSimpArgs false
set_option maxRecDepth 100000
set_option maxHeartbeats 8000000
attribute [local irreducible] ResLe AVle ArgLe ArgP EntLe Dle ResH ArgQ

theorem setR_get {us : List Rw} (h : ascR us) (mv a : Int) : ∀ i, i < (setR us mv a).length →
    (i < (loR us mv).length → (setR us mv a).getD i default = us.getD i default ∧ (us.getD i default).m < mv) ∧ (i = (loR us mv).length → (setR us mv a).getD i default = ⟨mv, a⟩) ∧
    ((loR us mv).length < i → i - 1 + (if hadR us mv then 1 else 0) < us.length ∧ (setR us mv a).getD i default = us.getD (i - 1 + (if hadR us mv then 1 else 0)) default ∧ mv < ((setR us mv a).getD i default).m) := by
  intro i hi
  obtain ⟨p1, p2, p3, p4⟩ := asc_parts (mv := mv) h
  have hlen := set_len h mv a
  have hl0 := len_parts h mv
  have hdrop : us.drop ((loR us mv).length + (if hadR us mv then 1 else 0)) = hiR us mv := by
    split
    · rename_i hh; exact (p3 hh).2.2
    · rename_i hh; exact p4 hh
  have htake : ∀ i, i < (loR us mv).length → us.getD i default = (loR us mv).getD i default := fun i hi => by
    have : (us.take (loR us mv).length).getD i default = us.getD i default := by
      simp [List.getD_eq_getElem?_getD, List.getElem?_take, hi]
    rw [← this, p1]
  refine ⟨fun h1 => ?_, fun h1 => ?_, fun h1 => ?_⟩
  · have h2 : (setR us mv a).getD i default = (loR us mv).getD i default := by
      unfold setR
      simp [List.getD_eq_getElem?_getD, List.getElem?_append, h1, show i < (loR us mv).length + 1 by omega]
    rw [h2, htake i h1]
    exact ⟨rfl, (mem_lo.1 (getD_in_list h1)).2⟩
  · subst h1
    unfold setR
    simp [List.getD_eq_getElem?_getD, List.getElem?_append]
  · have h2 : (setR us mv a).getD i default = (hiR us mv).getD (i - ((loR us mv).length + 1)) default := by
      unfold setR
      rw [List.getD_eq_getElem?_getD, List.getElem?_append_right (by simp; omega)]
      simp [List.getD_eq_getElem?_getD]
    have h3 : i - ((loR us mv).length + 1) < (hiR us mv).length := by
      have : (setR us mv a).length = (loR us mv).length + 1 + (hiR us mv).length := by simp [setR]; omega
      omega
    have h4 : (hiR us mv).getD (i - ((loR us mv).length + 1)) default = us.getD (i - 1 + (if hadR us mv then 1 else 0)) default := by
      rw [← hdrop]
      simp only [List.getD_eq_getElem?_getD, List.getElem?_drop]
      congr 2
      omega
    refine ⟨by omega, by rw [h2, h4], ?_⟩
    rw [h2]
    exact (mem_hi.1 (getD_in_list h3)).2
/-- Where the other list is read. -/
def nOf (lo : Nat) (had : Prop) [Decidable had] (i : Nat) : Nat := if i ≤ lo then i else if i = lo + 1 then lo else i - 1 + (if had then 1 else 0)

theorem lawRefused_t (L : List Int) (mv0 am0 : Int) (hL : L.length ≤ 9223372036854775807) : ACalls XX 5 [.dat (ilst L), iA mv0, iA am0] (bA true) := by
  have hA := awake_t
  obtain ⟨id, rf, lv, us, hM, hm⟩ := made_t L hL
  have hul : us.length ≤ 10 := hM.len
  have hgv := made_valid hM
  obtain ⟨kh, kl, kr, ka, ks⟩ := guErr_ok hgv
  obtain ⟨mv, hmv⟩ : ∃ mv, mv = 1 + mv0 % 12 := ⟨_, rfl⟩
  obtain ⟨am, ham⟩ : ∃ am, am = am0 % 2000 := ⟨_, rfl⟩
  have hr : 1 ≤ mv ∧ mv ≤ 1000000 ∧ 0 ≤ am ∧ am ≤ 1000000000000 := by omega
  have c1 := set_t id rf lv us mv am (by omega)
  have hlv := hM.lv
  obtain ⟨r1, r2, r3, r4⟩ := req_rng (lv := lv) (am := am) hlv ⟨by omega, by omega⟩
  have c2 := req_t id rf lv us am ⟨by omega, by omega, by omega, by omega⟩
  have hE : setE id rf lv us mv am = if rf < sumR (othR us mv) + reqI lv am then 16 else 0 := by
    have hsum : sumR (setR us mv (reqI lv am)) = sumR (othR us mv) + reqI lv am := by
      rw [othR_asc ka]
      unfold setR
      rw [sumR_app, sumR_app, sumR_app]
      simp [sumR]
      omega
    unfold setE
    rw [if_neg (by omega), if_neg (by omega), if_neg (fun h => by have := h.2; omega), hsum]
  have hsr : ∀ k, 0 ≤ sumR (othR (us.take k) mv) ∧ sumR (othR (us.take k) mv) ≤ 10000000000000 := fun k => by
    have h1 := sumR_rng (othR (us.take k) mv) (fun x hx => by have := kr x (List.mem_of_mem_take (List.mem_filter.1 hx).1); unfold rwOk at this; omega)
    have h2 : (othR (us.take k) mv).length ≤ 10 := by
      have h3 := List.length_filter_le (fun x : Rw => decide (x.m ≠ mv)) (us.take k)
      unfold othR
      simp at h3 ⊢
      omega
    omega
  have hall : us.take us.length = us := List.take_length
  have hsA := hsr us.length
  rw [hall] at hsA
  refine ACalls.of (n := Try.f5.ntmps) XX_ok Try.func5 rfl (by kernel_rfl) rfl rfl (Nat.le_of_ble_eq_true rfl) ?_
  (repeat' (first | refine W.seq ?_ | refine W.block ?_ | (refine W.region ?_; conv => whnf) | (refine W.ret ?_; conv => whnf) | (refine W.skip ?_; conv => whnf) | (refine W.exit ?_; conv => whnf) | (refine W.cond ?_; conv => whnf) | (refine W.drawT dr5 rfl mixed rfl ?_; conv => whnf) | ((with_reducible refine NumK.as _ (divOk (by omega) (by omega) (by omega)) ?_); conv => whnf) | ((with_reducible refine NumK.as _ (modOk (by omega) (by omega) (by omega) (by omega)) ?_); conv => whnf) | (refine NumK.as _ (wrapOk (by omega)) ?_; conv => whnf) | ((with_reducible refine NumK.as _ (wrapU (by omega)) ?_); conv => whnf) | (refine CndK.mk (by omega) ?_; conv => whnf) | (refine CndK.mk ?_ ?_; (focus (first | omega | (simp; done) | (simp; omega))); conv => whnf) | (refine UnK.mk (fun b hb => ?_); conv => whnf) | (refine CndK.mk rfl ?_; conv => whnf) | (refine CndK.mk ⟨by assumption, rfl⟩ ?_; conv => whnf) | (refine ExCall.by (CallA.p2 rfl (hm) rfl) ?_; conv => whnf) | (refine CallK.by (CallA.p2 rfl (hm) rfl) ?_; conv => whnf) | (refine ExCall.by (CallA.d2 rfl (hm)) ?_; conv => whnf) | (refine CallK.by (CallA.d2 rfl (hm)) ?_; conv => whnf) | (refine ExCall.by (CallA.p2 rfl (within_t _ _ (by omega) (by omega)) rfl) ?_; conv => whnf) | (refine CallK.by (CallA.p2 rfl (within_t _ _ (by omega) (by omega)) rfl) ?_; conv => whnf) | (refine ExCall.by (CallA.d2 rfl (within_t _ _ (by omega) (by omega))) ?_; conv => whnf) | (refine CallK.by (CallA.d2 rfl (within_t _ _ (by omega) (by omega))) ?_; conv => whnf) | (refine BrK.mk (fun h => ?_) (fun h => ?_) <;> (try simp only [decide_eq_true_eq, decide_eq_false_iff_not, Bool.and_eq_true, Bool.or_eq_true, Bool.not_eq_true', Bool.not_eq_false', Bool.or_eq_false_iff, Bool.and_eq_false_iff, Int.not_lt, Int.not_le, gt_iff_lt, ge_iff_le] at h) <;> first | (exfalso; omega) | (exfalso; exact h rfl) | (exfalso; exact Bool.noConfusion h) | contradiction | (conv => whnf))))
  rw [← hmv, ← ham]
  (repeat' (first | refine W.seq ?_ | refine W.block ?_ | (refine W.region ?_; conv => whnf) | (refine W.ret ?_; conv => whnf) | (refine W.skip ?_; conv => whnf) | (refine W.exit ?_; conv => whnf) | (refine W.cond ?_; conv => whnf) | (refine W.drawT dr5 rfl mixed rfl ?_; conv => whnf) | ((with_reducible refine NumK.as _ (divOk (by omega) (by omega) (by omega)) ?_); conv => whnf) | ((with_reducible refine NumK.as _ (modOk (by omega) (by omega) (by omega) (by omega)) ?_); conv => whnf) | (refine NumK.as _ (wrapOk (by omega)) ?_; conv => whnf) | ((with_reducible refine NumK.as _ (wrapU (by omega)) ?_); conv => whnf) | (refine CndK.mk (by omega) ?_; conv => whnf) | (refine CndK.mk ?_ ?_; (focus (first | omega | (simp; done) | (simp; omega))); conv => whnf) | (refine UnK.mk (fun b hb => ?_); conv => whnf) | (refine CndK.mk rfl ?_; conv => whnf) | (refine CndK.mk ⟨by assumption, rfl⟩ ?_; conv => whnf) | (refine ExCall.by (CallA.p2 rfl (c1) rfl) ?_; conv => whnf) | (refine CallK.by (CallA.p2 rfl (c1) rfl) ?_; conv => whnf) | (refine ExCall.by (CallA.d2 rfl (c1)) ?_; conv => whnf) | (refine CallK.by (CallA.d2 rfl (c1)) ?_; conv => whnf) | (refine ExCall.by (CallA.p2 rfl (c2) rfl) ?_; conv => whnf) | (refine CallK.by (CallA.p2 rfl (c2) rfl) ?_; conv => whnf) | (refine ExCall.by (CallA.d2 rfl (c2)) ?_; conv => whnf) | (refine CallK.by (CallA.d2 rfl (c2)) ?_; conv => whnf) | (refine BrK.mk (fun h => ?_) (fun h => ?_) <;> (try simp only [decide_eq_true_eq, decide_eq_false_iff_not, Bool.and_eq_true, Bool.or_eq_true, Bool.not_eq_true', Bool.not_eq_false', Bool.or_eq_false_iff, Bool.and_eq_false_iff, Int.not_lt, Int.not_le, gt_iff_lt, ge_iff_le] at h) <;> first | (exfalso; omega) | (exfalso; exact h rfl) | (exfalso; exact Bool.noConfusion h) | contradiction | (conv => whnf))))
  refine (W.loopK (ι := Nat) [1, 2, 7, 8, 9, 10, 11] [7, 8] (fun k => [(13, iA k), (12, iA (sumR (othR (us.take k) mv)))]) (fun _ => []) (fun k => k ≤ us.length) (fun k => us.length - k) 0 (Nat.zero_le _) ⟨AVle.refl _, AVle.int rfl, trivial⟩ trivial ?_)
  conv => whnf
  intro k hk
  have hsk := hsr k
  rcases Nat.lt_or_ge k us.length with hlt | hge
  · have ho := othR_take (mv := mv) hlt
    have hx := kr _ (getD_in_list hlt)
    unfold rwOk at hx
    (repeat' (first | refine W.seq ?_ | refine W.block ?_ | (refine W.region ?_; conv => whnf) | (refine W.ret ?_; conv => whnf) | (refine W.skip ?_; conv => whnf) | (refine W.exit ?_; conv => whnf) | (refine W.cond ?_; conv => whnf) | (refine W.drawT dr5 rfl mixed rfl ?_; conv => whnf) | ((with_reducible refine NumK.as _ (divOk (by omega) (by omega) (by omega)) ?_); conv => whnf) | ((with_reducible refine NumK.as _ (modOk (by omega) (by omega) (by omega) (by omega)) ?_); conv => whnf) | (refine NumK.as _ (wrapOk (by omega)) ?_; conv => whnf) | ((with_reducible refine NumK.as _ (wrapU (by omega)) ?_); conv => whnf) | (refine CndK.mk (by omega) ?_; conv => whnf) | (refine CndK.mk ?_ ?_; (focus (first | omega | (simp; done) | (simp; omega))); conv => whnf) | (refine UnK.mk (fun b hb => ?_); conv => whnf) | (refine CndK.mk rfl ?_; conv => whnf) | (refine CndK.mk ⟨by assumption, rfl⟩ ?_; conv => whnf) | (refine BrK.mk (fun h => ?_) (fun h => ?_) <;> (try simp only [decide_eq_true_eq, decide_eq_false_iff_not, Bool.and_eq_true, Bool.or_eq_true, Bool.not_eq_true', Bool.not_eq_false', Bool.or_eq_false_iff, Bool.and_eq_false_iff, Int.not_lt, Int.not_le, gt_iff_lt, ge_iff_le] at h) <;> first | (exfalso; omega) | (exfalso; exact h rfl) | (exfalso; exact Bool.noConfusion h) | contradiction | (conv => whnf))))
    all_goals rw [show ((k : Int)).toNat = k by omega] at *
    · refine NumK.as _ (wrapOk (by omega)) ?_
      conv => whnf
      (repeat' (first | refine W.seq ?_ | refine W.block ?_ | (refine W.region ?_; conv => whnf) | (refine W.ret ?_; conv => whnf) | (refine W.skip ?_; conv => whnf) | (refine W.exit ?_; conv => whnf) | (refine W.cond ?_; conv => whnf) | (refine W.drawT dr5 rfl mixed rfl ?_; conv => whnf) | ((with_reducible refine NumK.as _ (divOk (by omega) (by omega) (by omega)) ?_); conv => whnf) | ((with_reducible refine NumK.as _ (modOk (by omega) (by omega) (by omega) (by omega)) ?_); conv => whnf) | (refine NumK.as _ (wrapOk (by omega)) ?_; conv => whnf) | ((with_reducible refine NumK.as _ (wrapU (by omega)) ?_); conv => whnf) | (refine CndK.mk (by omega) ?_; conv => whnf) | (refine CndK.mk ?_ ?_; (focus (first | omega | (simp; done) | (simp; omega))); conv => whnf) | (refine UnK.mk (fun b hb => ?_); conv => whnf) | (refine CndK.mk rfl ?_; conv => whnf) | (refine CndK.mk ⟨by assumption, rfl⟩ ?_; conv => whnf) | (refine BrK.mk (fun h => ?_) (fun h => ?_) <;> (try simp only [decide_eq_true_eq, decide_eq_false_iff_not, Bool.and_eq_true, Bool.or_eq_true, Bool.not_eq_true', Bool.not_eq_false', Bool.or_eq_false_iff, Bool.and_eq_false_iff, Int.not_lt, Int.not_le, gt_iff_lt, ge_iff_le] at h) <;> first | (exfalso; omega) | (exfalso; exact h rfl) | (exfalso; exact Bool.noConfusion h) | contradiction | (conv => whnf))))
      rw [if_neg (by assumption)] at ho
      refine ⟨k + 1, by omega, by omega, ?_, ?_, ?_, ?_⟩
      all_goals (repeat' (first | exact trivial | exact AVle.refl _ | exact AVle.int (by first | rfl | omega | (rw [ho, sumR_app]; simp [sumR]; done)) | exact AVle.own (by first | rfl | omega | (rw [ho, sumR_app]; simp [sumR]; done)) | exact AVle.dat (Dle.refl _) | exact AVle.dat (Dle.nil _ _) | exact AVle.of_eq (by first | rfl | omega | (rw [ho, sumR_app]; simp [sumR]; done)) | exact ⟨_, rfl, EntLe.refl _, rfl⟩ | refine ⟨_, rfl, EntLe.blk ?_, rfl⟩ | refine ⟨_, rfl, EntLe.row (by first | rfl | omega | (rw [ho, sumR_app]; simp [sumR]; done)) ?_, rfl⟩ | refine And.intro ?_ ?_))
    · rw [if_pos (by omega), List.append_nil] at ho
      refine ⟨k + 1, by omega, by omega, ?_, ?_, ?_, ?_⟩
      all_goals (repeat' (first | exact trivial | exact AVle.refl _ | exact AVle.int (by first | rfl | omega | (rw [ho]; done)) | exact AVle.own (by first | rfl | omega | (rw [ho]; done)) | exact AVle.dat (Dle.refl _) | exact AVle.dat (Dle.nil _ _) | exact AVle.of_eq (by first | rfl | omega | (rw [ho]; done)) | exact ⟨_, rfl, EntLe.refl _, rfl⟩ | refine ⟨_, rfl, EntLe.blk ?_, rfl⟩ | refine ⟨_, rfl, EntLe.row (by first | rfl | omega | (rw [ho]; done)) ?_, rfl⟩ | refine And.intro ?_ ?_))
  · have hkk : us.take k = us := List.take_of_length_le hge
    rw [hkk]
    by_cases h16 : rf < sumR (othR us mv) + reqI lv am
    · rw [if_pos h16] at hE
      rw [hE]
      (repeat' (first | refine W.seq ?_ | refine W.block ?_ | (refine W.region ?_; conv => whnf) | (refine W.ret ?_; conv => whnf) | (refine W.skip ?_; conv => whnf) | (refine W.exit ?_; conv => whnf) | (refine W.cond ?_; conv => whnf) | (refine W.drawT dr5 rfl mixed rfl ?_; conv => whnf) | ((with_reducible refine NumK.as _ (divOk (by omega) (by omega) (by omega)) ?_); conv => whnf) | ((with_reducible refine NumK.as _ (modOk (by omega) (by omega) (by omega) (by omega)) ?_); conv => whnf) | (refine NumK.as _ (wrapOk (by omega)) ?_; conv => whnf) | ((with_reducible refine NumK.as _ (wrapU (by omega)) ?_); conv => whnf) | (refine CndK.mk (by omega) ?_; conv => whnf) | (refine CndK.mk ?_ ?_; (focus (first | omega | (simp; done) | (simp; omega))); conv => whnf) | (refine UnK.mk (fun b hb => ?_); conv => whnf) | (refine CndK.mk rfl ?_; conv => whnf) | (refine CndK.mk ⟨by assumption, rfl⟩ ?_; conv => whnf) | (refine ExCall.by (CallA.p2 rfl (hA) rfl) ?_; conv => whnf) | (refine CallK.by (CallA.p2 rfl (hA) rfl) ?_; conv => whnf) | (refine ExCall.by (CallA.d2 rfl (hA)) ?_; conv => whnf) | (refine CallK.by (CallA.d2 rfl (hA)) ?_; conv => whnf) | (refine BrK.mk (fun h => ?_) (fun h => ?_) <;> (try simp only [decide_eq_true_eq, decide_eq_false_iff_not, Bool.and_eq_true, Bool.or_eq_true, Bool.not_eq_true', Bool.not_eq_false', Bool.or_eq_false_iff, Bool.and_eq_false_iff, Int.not_lt, Int.not_le, gt_iff_lt, ge_iff_le] at h) <;> first | (exfalso; omega) | (exfalso; exact h rfl) | (exfalso; exact Bool.noConfusion h) | contradiction | (conv => whnf))))
      all_goals first
        | ((repeat' (first | exact trivial | exact ResLe.pure (AVle.refl _) rfl | exact ResLe.pure (AVle.tt_ rfl) rfl | exact ResLe.pure (AVle.ff_ rfl) rfl | exact ResLe.row0 rfl | exact ResLe.pure (AVle.int (by first | rfl | omega)) rfl | exact ResLe.pure (AVle.bool (by simp only [decide_eq_true_eq, decide_eq_false_iff_not, decide_eq_decide]; first | rfl | omega)) rfl | exact ResLe.pure (AVle.tt_ (by simp only [decide_eq_true_eq, decide_eq_false_iff_not, decide_eq_decide]; first | rfl | omega)) rfl | exact ResLe.pure (AVle.ff_ (by simp only [decide_eq_true_eq, decide_eq_false_iff_not, decide_eq_decide]; first | rfl | omega)) rfl | exact ResLe.pure (AVle.of_tt (by simp only [decide_eq_true_eq, decide_eq_false_iff_not, decide_eq_decide]; first | rfl | omega)) rfl | exact ResLe.pure (AVle.of_ff (by simp only [decide_eq_true_eq, decide_eq_false_iff_not, decide_eq_decide]; first | rfl | omega)) rfl | exact ResLe.pure (AVle.dat (Dle.nil _ _)) rfl | refine ResLe.agg ?_ | refine And.intro ?_ ?_ | ((conv => whnf); first | exact ResLe.pure (AVle.refl _) rfl | exact ResLe.pure (AVle.tt_ rfl) rfl | exact ResLe.pure (AVle.ff_ rfl) rfl | exact ResLe.row0 rfl | exact ResLe.pure (AVle.int (by first | rfl | omega)) rfl | exact ResLe.pure (AVle.bool (by simp only [decide_eq_true_eq, decide_eq_false_iff_not, decide_eq_decide]; first | rfl | omega)) rfl | exact ResLe.pure (AVle.tt_ (by simp only [decide_eq_true_eq, decide_eq_false_iff_not, decide_eq_decide]; first | rfl | omega)) rfl | exact ResLe.pure (AVle.ff_ (by simp only [decide_eq_true_eq, decide_eq_false_iff_not, decide_eq_decide]; first | rfl | omega)) rfl | exact ResLe.pure (AVle.of_tt (by simp only [decide_eq_true_eq, decide_eq_false_iff_not, decide_eq_decide]; first | rfl | omega)) rfl | exact ResLe.pure (AVle.of_ff (by simp only [decide_eq_true_eq, decide_eq_false_iff_not, decide_eq_decide]; first | rfl | omega)) rfl | exact ResLe.pure (AVle.dat (Dle.nil _ _)) rfl | refine ResLe.agg ?_))); done)
        | (exfalso; simp at *; omega)
    · rw [if_neg h16] at hE
      have hv2 := set_valid hE
      obtain ⟨_, sl, sr, sa, ss⟩ := guErr_ok hv2
      have hget := setR_get ka mv (reqI lv am)
      have hslen := set_len ka mv (reqI lv am)
      have hll := len_parts ka mv
      have c3 := total_t id rf lv (setR us mv (reqI lv am)) (by omega)
      have hsum : sumR (setR us mv (reqI lv am)) = sumR (othR us mv) + reqI lv am := by
        rw [othR_asc ka]
        unfold setR
        rw [sumR_app, sumR_app, sumR_app]
        simp [sumR]
        omega
      rw [if_pos hv2, hsum] at c3
      obtain ⟨p1, p2, p3, p4⟩ := asc_parts (mv := mv) ka
      generalize hS : setR us mv (reqI lv am) = S at *
      generalize hlo : (loR us mv).length = lo at *
      rw [hE]
      have e0 : ∀ (x : Int), ifz 0 x 0 = x := fun x => ifz_ok rfl
      have e1 : ∀ (x : List Rw), ifz 0 x [] = x := fun x => ifz_ok rfl
      simp only [e0, e1]
      (repeat' (first | refine W.seq ?_ | refine W.block ?_ | (refine W.region ?_; conv => whnf) | (refine W.ret ?_; conv => whnf) | (refine W.skip ?_; conv => whnf) | (refine W.exit ?_; conv => whnf) | (refine W.cond ?_; conv => whnf) | (refine W.drawT dr5 rfl mixed rfl ?_; conv => whnf) | ((with_reducible refine NumK.as _ (divOk (by omega) (by omega) (by omega)) ?_); conv => whnf) | ((with_reducible refine NumK.as _ (modOk (by omega) (by omega) (by omega) (by omega)) ?_); conv => whnf) | (refine NumK.as _ (wrapOk (by omega)) ?_; conv => whnf) | ((with_reducible refine NumK.as _ (wrapU (by omega)) ?_); conv => whnf) | (refine CndK.mk (by omega) ?_; conv => whnf) | (refine CndK.mk ?_ ?_; (focus (first | omega | (simp; done) | (simp; omega))); conv => whnf) | (refine UnK.mk (fun b hb => ?_); conv => whnf) | (refine CndK.mk rfl ?_; conv => whnf) | (refine CndK.mk ⟨by assumption, rfl⟩ ?_; conv => whnf) | (refine BrK.mk (fun h => ?_) (fun h => ?_) <;> (try simp only [decide_eq_true_eq, decide_eq_false_iff_not, Bool.and_eq_true, Bool.or_eq_true, Bool.not_eq_true', Bool.not_eq_false', Bool.or_eq_false_iff, Bool.and_eq_false_iff, Int.not_lt, Int.not_le, gt_iff_lt, ge_iff_le] at h) <;> first | (exfalso; omega) | (exfalso; exact h rfl) | (exfalso; exact Bool.noConfusion h) | contradiction | (conv => whnf))))
      · exfalso; simp at *; omega
      refine (W.loopK (ι := Nat) [1, 7, 8, 10, 12] [7, 8] (fun i => [(15, iA i), (14, iA (nOf lo (hadR us mv) i))]) (fun _ => []) (fun i => i ≤ S.length) (fun i => S.length - i) 0 (Nat.zero_le _) ⟨AVle.refl _, AVle.int (by unfold nOf; rw [if_pos (by omega)]; rfl), trivial⟩ trivial ?_)
      conv => whnf
      intro i hi
      rcases Nat.lt_or_ge i S.length with hit | hige
      · obtain ⟨g1, g2, g3⟩ := hget i hit
        have hnext : nOf lo (hadR us mv) (i + 1) = (if i < lo then i + 1 else if i = lo then lo else i + (if hadR us mv then 1 else 0)) := by
          unfold nOf
          by_cases h1 : i < lo
          · rw [if_pos (by omega), if_pos h1]
          · rw [if_neg (by omega), if_neg h1]
            by_cases h2 : i = lo
            · rw [if_pos (by omega), if_pos h2]
            · rw [if_neg (by omega), if_neg h2]; omega
        by_cases hil : i = lo
        · have hx := g2 hil
          have hxm : (S.getD ((i : Int)).toNat default).m = mv := by rw [show ((i : Int)).toNat = i by omega, hx]
          have hxa : (S.getD ((i : Int)).toNat default).a = reqI lv am := by rw [show ((i : Int)).toNat = i by omega, hx]
          rw [if_neg (by omega), if_pos hil] at hnext
          have hno : nOf lo (hadR us mv) i = lo := by unfold nOf; rw [if_pos (by omega)]; exact hil
          (repeat' (first | refine W.seq ?_ | refine W.block ?_ | (refine W.region ?_; conv => whnf) | (refine W.ret ?_; conv => whnf) | (refine W.skip ?_; conv => whnf) | (refine W.exit ?_; conv => whnf) | (refine W.cond ?_; conv => whnf) | (refine W.drawT dr5 rfl mixed rfl ?_; conv => whnf) | ((with_reducible refine NumK.as _ (divOk (by omega) (by omega) (by omega)) ?_); conv => whnf) | ((with_reducible refine NumK.as _ (modOk (by omega) (by omega) (by omega) (by omega)) ?_); conv => whnf) | (refine NumK.as _ (wrapOk (by omega)) ?_; conv => whnf) | ((with_reducible refine NumK.as _ (wrapU (by omega)) ?_); conv => whnf) | (refine CndK.mk (by omega) ?_; conv => whnf) | (refine CndK.mk ?_ ?_; (focus (first | omega | (simp; done) | (simp; omega))); conv => whnf) | (refine UnK.mk (fun b hb => ?_); conv => whnf) | (refine CndK.mk rfl ?_; conv => whnf) | (refine CndK.mk ⟨by assumption, rfl⟩ ?_; conv => whnf) | (refine BrK.mk (fun h => ?_) (fun h => ?_) <;> (try simp only [decide_eq_true_eq, decide_eq_false_iff_not, Bool.and_eq_true, Bool.or_eq_true, Bool.not_eq_true', Bool.not_eq_false', Bool.or_eq_false_iff, Bool.and_eq_false_iff, Int.not_lt, Int.not_le, gt_iff_lt, ge_iff_le] at h) <;> first | (exfalso; omega) | (exfalso; exact h rfl) | (exfalso; exact Bool.noConfusion h) | contradiction | (conv => whnf))))
          refine ⟨i + 1, by omega, by omega, ?_, ?_, ?_, ?_⟩
          all_goals (repeat' (first | exact trivial | exact AVle.refl _ | exact AVle.int (by first | rfl | omega) | exact AVle.own (by first | rfl | omega) | exact AVle.dat (Dle.refl _) | exact AVle.dat (Dle.nil _ _) | exact AVle.of_eq (by first | rfl | omega) | exact ⟨_, rfl, EntLe.refl _, rfl⟩ | refine ⟨_, rfl, EntLe.blk ?_, rfl⟩ | refine ⟨_, rfl, EntLe.row (by first | rfl | omega) ?_, rfl⟩ | refine And.intro ?_ ?_))
        · obtain ⟨tg, htg⟩ : ∃ tg, tg = (if i < lo then i else i - 1 + (if hadR us mv then 1 else 0)) := ⟨_, rfl⟩
          have hT : tg < us.length ∧ S.getD i default = us.getD tg default ∧ (S.getD i default).m ≠ mv := by
            by_cases h1 : i < lo
            · obtain ⟨a, b⟩ := g1 h1
              rw [if_pos h1] at htg
              subst htg
              exact ⟨by omega, a, by rw [a]; omega⟩
            · obtain ⟨a, b, c⟩ := g3 (by omega)
              rw [if_neg h1] at htg
              subst htg
              exact ⟨a, b, by omega⟩
          obtain ⟨t1, t2, t3⟩ := hT
          have hxm : (S.getD ((i : Int)).toNat default).m ≠ mv := by rw [show ((i : Int)).toNat = i by omega]; exact t3
          (repeat' (first | refine W.seq ?_ | refine W.block ?_ | (refine W.region ?_; conv => whnf) | (refine W.ret ?_; conv => whnf) | (refine W.skip ?_; conv => whnf) | (refine W.exit ?_; conv => whnf) | (refine W.cond ?_; conv => whnf) | (refine W.drawT dr5 rfl mixed rfl ?_; conv => whnf) | ((with_reducible refine NumK.as _ (divOk (by omega) (by omega) (by omega)) ?_); conv => whnf) | ((with_reducible refine NumK.as _ (modOk (by omega) (by omega) (by omega) (by omega)) ?_); conv => whnf) | (refine NumK.as _ (wrapOk (by omega)) ?_; conv => whnf) | ((with_reducible refine NumK.as _ (wrapU (by omega)) ?_); conv => whnf) | (refine CndK.mk (by omega) ?_; conv => whnf) | (refine CndK.mk ?_ ?_; (focus (first | omega | (simp; done) | (simp; omega))); conv => whnf) | (refine UnK.mk (fun b hb => ?_); conv => whnf) | (refine CndK.mk rfl ?_; conv => whnf) | (refine CndK.mk ⟨by assumption, rfl⟩ ?_; conv => whnf) | (refine BrK.mk (fun h => ?_) (fun h => ?_) <;> (try simp only [decide_eq_true_eq, decide_eq_false_iff_not, Bool.and_eq_true, Bool.or_eq_true, Bool.not_eq_true', Bool.not_eq_false', Bool.or_eq_false_iff, Bool.and_eq_false_iff, Int.not_lt, Int.not_le, gt_iff_lt, ge_iff_le] at h) <;> first | (exfalso; omega) | (exfalso; exact h rfl) | (exfalso; exact Bool.noConfusion h) | contradiction | (conv => whnf))))
          have hq : ∀ n, n < us.length → (us.getD n default).m = mv → n = lo ∧ hadR us mv := fun n hn hm => by
            have hh : hadR us mv := ⟨_, getD_in_list hn, hm⟩
            refine ⟨?_, hh⟩
            have h1 := p2 n hn
            have h2 : ¬ lo < n := fun hlt => by
              have h3 : us.getD n default ∈ us.drop (lo + 1) := by
                have : (us.drop (lo + 1)).getD (n - (lo + 1)) default = us.getD n default := by
                  simp only [List.getD_eq_getElem?_getD, List.getElem?_drop]
                  rw [show lo + 1 + (n - (lo + 1)) = n by omega]
                rw [← this]
                exact getD_in_list (by simp; omega)
              rw [(p3 hh).2.2] at h3
              have := (mem_hi.1 h3).2
              omega
            omega
          have hnO : nOf lo (hadR us mv) i = if i < lo then i else if i = lo + 1 then lo else i - 1 + (if hadR us mv then 1 else 0) := by
            unfold nOf
            by_cases h1 : i < lo
            · rw [if_pos (by omega), if_pos h1]
            · rw [if_neg (by omega), if_neg h1]
          refine (W.loopK (ι := Nat) [1, 7, 8, 10, 12, 15] [7, 8] (fun n => [(14, iA n)]) (fun _ => []) (fun n => n = nOf lo (hadR us mv) i ∨ (i = lo + 1 ∧ hadR us mv ∧ n = lo + 1)) (fun n => us.length - n) (nOf lo (hadR us mv) i) (.inl rfl) ⟨AVle.refl _, trivial⟩ trivial ?_)
          conv => whnf
          intro n hn
          have hqn := hq n
          have fin : ¬ (n < us.length ∧ (us.getD n default).m = mv) → n = tg := fun hx => by
            rcases hn with hn | ⟨a, b, c⟩
            · rw [hnO] at hn
              by_cases h1 : i < lo
              · rw [if_pos h1] at hn htg; omega
              · rw [if_neg h1] at hn htg
                by_cases h2 : i = lo + 1
                · rw [if_pos h2] at hn
                  by_cases hh : hadR us mv
                  · obtain ⟨q1, q2, _⟩ := p3 hh
                    exact absurd ⟨by omega, by rw [hn]; exact q2⟩ hx
                  · rw [if_neg hh] at htg; omega
                · rw [if_neg h2] at hn; omega
            · rw [if_neg (by omega), if_pos b] at htg; omega
          have hes : EqS Try.prog 39 2 := eqS_mk Try.eqGuardType39 Try.underlying39 Try.stoodInHeld39 (by kernel_rfl) rfl
          by_cases hc : n < us.length ∧ (us.getD n default).m = mv
          · obtain ⟨hc1, hc2⟩ := hc
            have hc3 : (us.getD ((n : Int)).toNat default).m = mv := by rw [show ((n : Int)).toNat = n by omega]; exact hc2
            obtain ⟨q1, q2⟩ := hqn hc1 hc2
            (repeat' (first | refine W.seq ?_ | refine W.block ?_ | (refine W.region ?_; conv => whnf) | (refine W.ret ?_; conv => whnf) | (refine W.skip ?_; conv => whnf) | (refine W.exit ?_; conv => whnf) | (refine W.cond ?_; conv => whnf) | (refine W.drawT dr5 rfl mixed rfl ?_; conv => whnf) | ((with_reducible refine NumK.as _ (divOk (by omega) (by omega) (by omega)) ?_); conv => whnf) | ((with_reducible refine NumK.as _ (modOk (by omega) (by omega) (by omega) (by omega)) ?_); conv => whnf) | (refine NumK.as _ (wrapOk (by omega)) ?_; conv => whnf) | ((with_reducible refine NumK.as _ (wrapU (by omega)) ?_); conv => whnf) | (refine CndK.mk (by omega) ?_; conv => whnf) | (refine CndK.mk ?_ ?_; (focus (first | omega | (simp; done) | (simp; omega))); conv => whnf) | (refine UnK.mk (fun b hb => ?_); conv => whnf) | (refine CndK.mk rfl ?_; conv => whnf) | (refine CndK.mk ⟨by assumption, rfl⟩ ?_; conv => whnf) | (refine BrK.mk (fun h => ?_) (fun h => ?_) <;> (try simp only [decide_eq_true_eq, decide_eq_false_iff_not, Bool.and_eq_true, Bool.or_eq_true, Bool.not_eq_true', Bool.not_eq_false', Bool.or_eq_false_iff, Bool.and_eq_false_iff, Int.not_lt, Int.not_le, gt_iff_lt, ge_iff_le] at h) <;> first | (exfalso; omega) | (exfalso; exact h rfl) | (exfalso; exact Bool.noConfusion h) | contradiction | (conv => whnf))))
            have hi1 : i = lo + 1 ∧ n = nOf lo (hadR us mv) i := by
              rcases hn with hn | ⟨a, b, c⟩
              · rw [hnO] at hn ⊢
                by_cases h1 : i < lo
                · rw [if_pos h1] at hn; omega
                · rw [if_neg h1] at hn ⊢
                  by_cases h2 : i = lo + 1
                  · exact ⟨h2, hn⟩
                  · rw [if_neg h2, if_pos q2] at hn; omega
              · omega
            refine ⟨n + 1, .inr ⟨hi1.1, q2, by omega⟩, by omega, ?_, ?_, ?_, ?_⟩
            all_goals (repeat' (first | exact trivial | exact AVle.refl _ | exact AVle.int (by first | rfl | omega) | exact AVle.own (by first | rfl | omega) | exact AVle.dat (Dle.refl _) | exact AVle.dat (Dle.nil _ _) | exact AVle.of_eq (by first | rfl | omega) | exact ⟨_, rfl, EntLe.refl _, rfl⟩ | refine ⟨_, rfl, EntLe.blk ?_, rfl⟩ | refine ⟨_, rfl, EntLe.row (by first | rfl | omega) ?_, rfl⟩ | refine And.intro ?_ ?_))
          · have hnt := fin hc
            subst hnt
            have hc3 : ¬ (us.getD ((n : Int)).toNat default).m = mv := by rw [show ((n : Int)).toNat = n by omega]; exact fun h => hc ⟨t1, h⟩
            have heq : us.getD ((n : Int)).toNat default = S.getD ((i : Int)).toNat default := by rw [show ((n : Int)).toNat = n by omega, show ((i : Int)).toNat = i by omega, t2]
            have hfin : nOf lo (hadR us mv) (i + 1) = n + 1 := by
              rw [hnext, htg]
              by_cases h1 : i < lo
              · rw [if_pos h1, if_pos h1]
              · rw [if_neg h1, if_neg hil, if_neg h1]; omega
            (repeat' (first | refine W.seq ?_ | refine W.block ?_ | (refine W.region ?_; conv => whnf) | (refine W.ret ?_; conv => whnf) | (refine W.skip ?_; conv => whnf) | (refine W.exit ?_; conv => whnf) | (refine W.cond ?_; conv => whnf) | (refine W.drawT dr5 rfl mixed rfl ?_; conv => whnf) | ((with_reducible refine NumK.as _ (divOk (by omega) (by omega) (by omega)) ?_); conv => whnf) | ((with_reducible refine NumK.as _ (modOk (by omega) (by omega) (by omega) (by omega)) ?_); conv => whnf) | (refine NumK.as _ (wrapOk (by omega)) ?_; conv => whnf) | ((with_reducible refine NumK.as _ (wrapU (by omega)) ?_); conv => whnf) | (refine CndK.mk (by omega) ?_; conv => whnf) | (refine CndK.mk ?_ ?_; (focus (first | omega | (simp; done) | (simp; omega))); conv => whnf) | (refine UnK.mk (fun b hb => ?_); conv => whnf) | (refine CndK.mk rfl ?_; conv => whnf) | (refine CndK.mk ⟨by assumption, rfl⟩ ?_; conv => whnf) | (refine BrK.mk (fun h => ?_) (fun h => ?_) <;> (try simp only [decide_eq_true_eq, decide_eq_false_iff_not, Bool.and_eq_true, Bool.or_eq_true, Bool.not_eq_true', Bool.not_eq_false', Bool.or_eq_false_iff, Bool.and_eq_false_iff, Int.not_lt, Int.not_le, gt_iff_lt, ge_iff_le] at h) <;> first | (exfalso; omega) | (exfalso; exact h rfl) | (exfalso; exact Bool.noConfusion h) | contradiction | (conv => whnf))))
            all_goals first
              | (exfalso; exact h (by rw [heq]))
              | (refine ⟨i + 1, by omega, by omega, ?_, ?_, ?_, ?_⟩
                 all_goals (repeat' (first | exact trivial | exact AVle.refl _ | exact AVle.int (by first | rfl | omega) | exact AVle.own (by first | rfl | omega) | exact AVle.dat (Dle.refl _) | exact AVle.dat (Dle.nil _ _) | exact AVle.of_eq (by first | rfl | omega) | exact ⟨_, rfl, EntLe.refl _, rfl⟩ | refine ⟨_, rfl, EntLe.blk ?_, rfl⟩ | refine ⟨_, rfl, EntLe.row (by first | rfl | omega) ?_, rfl⟩ | refine And.intro ?_ ?_)))
      · (repeat' (first | refine W.seq ?_ | refine W.block ?_ | (refine W.region ?_; conv => whnf) | (refine W.ret ?_; conv => whnf) | (refine W.skip ?_; conv => whnf) | (refine W.exit ?_; conv => whnf) | (refine W.cond ?_; conv => whnf) | (refine W.drawT dr5 rfl mixed rfl ?_; conv => whnf) | ((with_reducible refine NumK.as _ (divOk (by omega) (by omega) (by omega)) ?_); conv => whnf) | ((with_reducible refine NumK.as _ (modOk (by omega) (by omega) (by omega) (by omega)) ?_); conv => whnf) | (refine NumK.as _ (wrapOk (by omega)) ?_; conv => whnf) | ((with_reducible refine NumK.as _ (wrapU (by omega)) ?_); conv => whnf) | (refine CndK.mk (by omega) ?_; conv => whnf) | (refine CndK.mk ?_ ?_; (focus (first | omega | (simp; done) | (simp; omega))); conv => whnf) | (refine UnK.mk (fun b hb => ?_); conv => whnf) | (refine CndK.mk rfl ?_; conv => whnf) | (refine CndK.mk ⟨by assumption, rfl⟩ ?_; conv => whnf) | (refine ExCall.by (CallA.p2 rfl (c3) rfl) ?_; conv => whnf) | (refine CallK.by (CallA.p2 rfl (c3) rfl) ?_; conv => whnf) | (refine ExCall.by (CallA.d2 rfl (c3)) ?_; conv => whnf) | (refine CallK.by (CallA.d2 rfl (c3)) ?_; conv => whnf) | (refine ExCall.by (CallA.p2 rfl (hA) rfl) ?_; conv => whnf) | (refine CallK.by (CallA.p2 rfl (hA) rfl) ?_; conv => whnf) | (refine ExCall.by (CallA.d2 rfl (hA)) ?_; conv => whnf) | (refine CallK.by (CallA.d2 rfl (hA)) ?_; conv => whnf) | (refine BrK.mk (fun h => ?_) (fun h => ?_) <;> (try simp only [decide_eq_true_eq, decide_eq_false_iff_not, Bool.and_eq_true, Bool.or_eq_true, Bool.not_eq_true', Bool.not_eq_false', Bool.or_eq_false_iff, Bool.and_eq_false_iff, Int.not_lt, Int.not_le, gt_iff_lt, ge_iff_le] at h) <;> first | (exfalso; omega) | (exfalso; exact h rfl) | (exfalso; exact Bool.noConfusion h) | contradiction | (conv => whnf))))
        all_goals ((repeat' (first | exact trivial | exact ResLe.pure (AVle.refl _) rfl | exact ResLe.pure (AVle.tt_ rfl) rfl | exact ResLe.pure (AVle.ff_ rfl) rfl | exact ResLe.row0 rfl | exact ResLe.pure (AVle.int (by first | rfl | omega)) rfl | exact ResLe.pure (AVle.bool (by simp only [decide_eq_true_eq, decide_eq_false_iff_not, decide_eq_decide]; first | rfl | omega)) rfl | exact ResLe.pure (AVle.tt_ (by simp only [decide_eq_true_eq, decide_eq_false_iff_not, decide_eq_decide]; first | rfl | omega)) rfl | exact ResLe.pure (AVle.ff_ (by simp only [decide_eq_true_eq, decide_eq_false_iff_not, decide_eq_decide]; first | rfl | omega)) rfl | exact ResLe.pure (AVle.of_tt (by simp only [decide_eq_true_eq, decide_eq_false_iff_not, decide_eq_decide]; first | rfl | omega)) rfl | exact ResLe.pure (AVle.of_ff (by simp only [decide_eq_true_eq, decide_eq_false_iff_not, decide_eq_decide]; first | rfl | omega)) rfl | exact ResLe.pure (AVle.dat (Dle.nil _ _)) rfl | refine ResLe.agg ?_ | refine And.intro ?_ ?_ | ((conv => whnf); first | exact ResLe.pure (AVle.refl _) rfl | exact ResLe.pure (AVle.tt_ rfl) rfl | exact ResLe.pure (AVle.ff_ rfl) rfl | exact ResLe.row0 rfl | exact ResLe.pure (AVle.int (by first | rfl | omega)) rfl | exact ResLe.pure (AVle.bool (by simp only [decide_eq_true_eq, decide_eq_false_iff_not, decide_eq_decide]; first | rfl | omega)) rfl | exact ResLe.pure (AVle.tt_ (by simp only [decide_eq_true_eq, decide_eq_false_iff_not, decide_eq_decide]; first | rfl | omega)) rfl | exact ResLe.pure (AVle.ff_ (by simp only [decide_eq_true_eq, decide_eq_false_iff_not, decide_eq_decide]; first | rfl | omega)) rfl | exact ResLe.pure (AVle.of_tt (by simp only [decide_eq_true_eq, decide_eq_false_iff_not, decide_eq_decide]; first | rfl | omega)) rfl | exact ResLe.pure (AVle.of_ff (by simp only [decide_eq_true_eq, decide_eq_false_iff_not, decide_eq_decide]; first | rfl | omega)) rfl | exact ResLe.pure (AVle.dat (Dle.nil _ _)) rfl | refine ResLe.agg ?_))); done)
end Go.Proofs.Yteilknlokjfelaa
