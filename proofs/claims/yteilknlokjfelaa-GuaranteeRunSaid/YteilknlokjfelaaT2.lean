/- A trial: Validate. -/
import Derived.Test.YteilknlokjfelaaT1
namespace Go.Proofs.Yteilknlokjfelaa
open Go Go.RowKit
set_option linter.unusedVariables false
set_option linter.unusedSimpArgs false
attribute [local irreducible] ResLe AVle ArgLe ArgP EntLe Dle

def guA (id rf lv : Int) (us : List Rw) : AV := .agg [.dat (.val (.int .i64 id)), .dat (.val (.int .i64 rf)), .dat (.val (.int .i64 lv)), .dat (rwD us)]
def headP (id rf lv : Int) : Prop := 1 ≤ id ∧ id ≤ 1000000 ∧ 0 ≤ rf ∧ rf ≤ 1000000000000 ∧ 0 ≤ lv ∧ lv ≤ 1000000
instance (id rf lv : Int) : Decidable (headP id rf lv) := by unfold headP; exact inferInstance
def rwOk (x : Rw) : Prop := 1 ≤ x.m ∧ x.m ≤ 1000000 ∧ 0 ≤ x.a ∧ x.a ≤ 1000000000000
instance (x : Rw) : Decidable (rwOk x) := by unfold rwOk; exact inferInstance
def ascR (us : List Rw) : Prop := ∀ i, i < us.length - 1 → (us.getD i default).m < (us.getD (i + 1) default).m
instance (us : List Rw) : Decidable (ascR us) := by unfold ascR; exact inferInstance
def guErr (id rf lv : Int) (us : List Rw) : Int :=
  if ¬ headP id rf lv then 2 else if 64 < us.length then 8 else if ¬ (∀ x ∈ us, rwOk x) then 2 else if ¬ ascR us then 9 else if rf < sumR us then 16 else 0

theorem getD_mem {us : List Rw} {k : Nat} (h : k < us.length) : us.getD k default ∈ us := by
  rw [List.getD_eq_getElem?_getD, List.getElem?_eq_getElem h]; exact List.getElem_mem _
theorem gu2 {id rf lv : Int} {us : List Rw} (h : headP id rf lv) (hl : us.length ≤ 64) {x : Rw} (hx : x ∈ us) (hn : ¬ rwOk x) : guErr id rf lv us = 2 := by
  unfold guErr
  rw [if_neg (by simpa using h), if_neg (by omega), if_pos (fun ha => hn (ha x hx))]
theorem gu9 {id rf lv : Int} {us : List Rw} (h : headP id rf lv) (hl : us.length ≤ 64) (ha : ∀ x ∈ us, rwOk x) {i : Nat} (hi : i < us.length - 1) (hn : (us.getD (i + 1) default).m ≤ (us.getD i default).m) : guErr id rf lv us = 9 := by
  unfold guErr
  rw [if_neg (by simpa using h), if_neg (by omega), if_neg (by simpa using ha), if_pos (fun hc => by have := hc i hi; omega)]
theorem validate_t (id rf lv : Int) (us : List Rw) (hn : us.length ≤ 9223372036854775807) : ACalls XX 11 [guA id rf lv us] (.dat (.val (.int .i64 (guErr id rf lv us)))) := by
  refine ACalls.of (n := Try.f11.ntmps) XX_ok Try.func11 rfl (by kernel_rfl) rfl rfl (Nat.le_of_ble_eq_true rfl) ?_
  (repeat' (first | refine W.seq ?_ | refine W.block ?_ | (refine W.region ?_; conv => whnf) | (refine W.ret ?_; conv => whnf) | (refine W.skip ?_; conv => whnf) | (refine W.exit ?_; conv => whnf) | (refine W.cond ?_; conv => whnf) | (refine W.drawT dr11 rfl mixed rfl ?_; conv => whnf) | ((with_reducible refine NumK.as _ (divOk (by omega) (by omega) (by omega)) ?_); conv => whnf) | ((with_reducible refine NumK.as _ (modOk (by omega) (by omega) (by omega) (by omega)) ?_); conv => whnf) | (refine NumK.as _ (wrapOk (by omega)) ?_; conv => whnf) | ((with_reducible refine NumK.as _ (wrapU (by omega)) ?_); conv => whnf) | (refine CndK.mk (by omega) ?_; conv => whnf) | (refine CndK.mk ?_ ?_; (focus (first | omega | (simp; done) | (simp; omega))); conv => whnf) | (refine UnK.mk (fun b hb => ?_); conv => whnf) | (refine CndK.mk rfl ?_; conv => whnf) | (refine CndK.mk ⟨by assumption, rfl⟩ ?_; conv => whnf) | (refine BrK.mk (fun h => ?_) (fun h => ?_) <;> (try simp only [decide_eq_true_eq, decide_eq_false_iff_not, Bool.and_eq_true, Bool.or_eq_true, Bool.not_eq_true', Bool.not_eq_false', Bool.or_eq_false_iff, Bool.and_eq_false_iff, Int.not_lt, Int.not_le, gt_iff_lt, ge_iff_le] at h) <;> first | (exfalso; omega) | (exfalso; exact h rfl) | (exfalso; exact Bool.noConfusion h) | contradiction | (conv => whnf))))
  all_goals (try (exact ResLe.pure (AVle.int (if_pos (by unfold headP; omega)).symm) rfl))
  · exact ResLe.pure (AVle.int (by unfold guErr; rw [if_neg (by unfold headP; omega), if_pos (by omega)])) rfl
  have hh : headP id rf lv := by unfold headP; omega
  refine (W.loopK (ι := Nat) [1, 39, 40] [1] (fun k => [(41, .dat (.val (.int .i64 k)))]) (fun _ => []) (fun k => k ≤ us.length ∧ ∀ i, i < k → rwOk (us.getD i default)) (fun k => us.length - k) 0 ⟨Nat.zero_le _, fun i hi => absurd hi (by omega)⟩ ⟨AVle.refl _, trivial⟩ trivial ?_)
  conv => whnf
  intro k ⟨hk, hok⟩
  (repeat' (first | refine W.seq ?_ | refine W.block ?_ | (refine W.region ?_; conv => whnf) | (refine W.ret ?_; conv => whnf) | (refine W.skip ?_; conv => whnf) | (refine W.exit ?_; conv => whnf) | (refine W.cond ?_; conv => whnf) | (refine W.drawT dr11 rfl mixed rfl ?_; conv => whnf) | ((with_reducible refine NumK.as _ (divOk (by omega) (by omega) (by omega)) ?_); conv => whnf) | ((with_reducible refine NumK.as _ (modOk (by omega) (by omega) (by omega) (by omega)) ?_); conv => whnf) | (refine NumK.as _ (wrapOk (by omega)) ?_; conv => whnf) | ((with_reducible refine NumK.as _ (wrapU (by omega)) ?_); conv => whnf) | (refine CndK.mk (by omega) ?_; conv => whnf) | (refine CndK.mk ?_ ?_; (focus (first | omega | (simp; done) | (simp; omega))); conv => whnf) | (refine UnK.mk (fun b hb => ?_); conv => whnf) | (refine CndK.mk rfl ?_; conv => whnf) | (refine CndK.mk ⟨by assumption, rfl⟩ ?_; conv => whnf) | (refine BrK.mk (fun h => ?_) (fun h => ?_) <;> (try simp only [decide_eq_true_eq, decide_eq_false_iff_not, Bool.and_eq_true, Bool.or_eq_true, Bool.not_eq_true', Bool.not_eq_false', Bool.or_eq_false_iff, Bool.and_eq_false_iff, Int.not_lt, Int.not_le, gt_iff_lt, ge_iff_le] at h) <;> first | (exfalso; omega) | (exfalso; exact h rfl) | (exfalso; exact Bool.noConfusion h) | contradiction | (conv => whnf))))
  all_goals dsimp only [Int.toNat_natCast] at *
  all_goals (try (exact ResLe.pure (AVle.int (gu2 (by assumption) (by omega) (x := us.getD k default) (getD_mem (by omega)) (by unfold rwOk; omega)).symm) rfl))
  · exact ⟨k + 1, ⟨by omega, fun i hi => by
      by_cases hik : i = k
      · subst hik; unfold rwOk; omega
      · exact hok i (by omega)⟩, by omega, ⟨AVle.refl _, trivial⟩, trivial, ⟨AVle.refl _, AVle.refl _, AVle.refl _, trivial⟩, ⟨_, rfl, EntLe.refl _, rfl⟩, trivial⟩
  have hall : ∀ x ∈ us, rwOk x := fun x hx => by
    obtain ⟨i, hi, rfl⟩ := List.getElem_of_mem hx
    have := hok i (by omega)
    rwa [List.getD_eq_getElem?_getD, List.getElem?_eq_getElem hi] at this
  (repeat' (first | refine W.seq ?_ | refine W.block ?_ | (refine W.region ?_; conv => whnf) | (refine W.ret ?_; conv => whnf) | (refine W.skip ?_; conv => whnf) | (refine W.exit ?_; conv => whnf) | (refine W.cond ?_; conv => whnf) | (refine W.drawT dr11 rfl mixed rfl ?_; conv => whnf) | ((with_reducible refine NumK.as _ (divOk (by omega) (by omega) (by omega)) ?_); conv => whnf) | ((with_reducible refine NumK.as _ (modOk (by omega) (by omega) (by omega) (by omega)) ?_); conv => whnf) | (refine NumK.as _ (wrapOk (by omega)) ?_; conv => whnf) | ((with_reducible refine NumK.as _ (wrapU (by omega)) ?_); conv => whnf) | (refine CndK.mk (by omega) ?_; conv => whnf) | (refine CndK.mk ?_ ?_; (focus (first | omega | (simp; done) | (simp; omega))); conv => whnf) | (refine UnK.mk (fun b hb => ?_); conv => whnf) | (refine CndK.mk rfl ?_; conv => whnf) | (refine CndK.mk ⟨by assumption, rfl⟩ ?_; conv => whnf) | (refine BrK.mk (fun h => ?_) (fun h => ?_) <;> (try simp only [decide_eq_true_eq, decide_eq_false_iff_not, Bool.and_eq_true, Bool.or_eq_true, Bool.not_eq_true', Bool.not_eq_false', Bool.or_eq_false_iff, Bool.and_eq_false_iff, Int.not_lt, Int.not_le, gt_iff_lt, ge_iff_le] at h) <;> first | (exfalso; omega) | (exfalso; exact h rfl) | (exfalso; exact Bool.noConfusion h) | contradiction | (conv => whnf))))
  refine (W.loopK (ι := Nat) [1] [1] (fun k => [(5, .dat (.val (.int .i64 (1 + k))))]) (fun _ => []) (fun k => (k = 0 ∨ k + 1 ≤ us.length) ∧ ∀ i, i < k → (us.getD i default).m < (us.getD (i + 1) default).m) (fun k => us.length - k) 0 ⟨.inl rfl, fun i hi => absurd hi (by omega)⟩ ⟨AVle.refl _, trivial⟩ trivial ?_)
  conv => whnf
  intro j ⟨hj, hasc⟩
  (repeat' (first | refine W.seq ?_ | refine W.block ?_ | (refine W.region ?_; conv => whnf) | (refine W.ret ?_; conv => whnf) | (refine W.skip ?_; conv => whnf) | (refine W.exit ?_; conv => whnf) | (refine W.cond ?_; conv => whnf) | (refine W.drawT dr11 rfl mixed rfl ?_; conv => whnf) | ((with_reducible refine NumK.as _ (divOk (by omega) (by omega) (by omega)) ?_); conv => whnf) | ((with_reducible refine NumK.as _ (modOk (by omega) (by omega) (by omega) (by omega)) ?_); conv => whnf) | (refine NumK.as _ (wrapOk (by omega)) ?_; conv => whnf) | ((with_reducible refine NumK.as _ (wrapU (by omega)) ?_); conv => whnf) | (refine CndK.mk (by omega) ?_; conv => whnf) | (refine CndK.mk ?_ ?_; (focus (first | omega | (simp; done) | (simp; omega))); conv => whnf) | (refine UnK.mk (fun b hb => ?_); conv => whnf) | (refine CndK.mk rfl ?_; conv => whnf) | (refine CndK.mk ⟨by assumption, rfl⟩ ?_; conv => whnf) | (refine BrK.mk (fun h => ?_) (fun h => ?_) <;> (try simp only [decide_eq_true_eq, decide_eq_false_iff_not, Bool.and_eq_true, Bool.or_eq_true, Bool.not_eq_true', Bool.not_eq_false', Bool.or_eq_false_iff, Bool.and_eq_false_iff, Int.not_lt, Int.not_le, gt_iff_lt, ge_iff_le] at h) <;> first | (exfalso; omega) | (exfalso; exact h rfl) | (exfalso; exact Bool.noConfusion h) | contradiction | (conv => whnf))))
  all_goals (try (rw [show (1 + (j : Int)).toNat = j + 1 by omega, show (1 + (j : Int) - 1).toNat = j by omega] at *))
  · exact ResLe.pure (AVle.int (gu9 hh (by omega) hall (i := j) (by omega) (by omega)).symm) rfl
  · refine ⟨j + 1, ⟨by omega, fun i hi => by
      by_cases hik : i = j
      · subst hik; omega
      · exact hasc i (by omega)⟩, by omega, ⟨AVle.int (by omega), trivial⟩, trivial, ⟨AVle.refl _, trivial⟩, ⟨⟨_, rfl, EntLe.refl _, rfl⟩, trivial⟩⟩
  have hasc' : ascR us := fun i hi => hasc i (by omega)
  have hs := sumR_rng us (fun x hx => ⟨(hall x hx).2.2.1, (hall x hx).2.2.2⟩)
  refine CallK.by (CallA.plain (reserved_t us (by omega) (fun x hx => ⟨(hall x hx).2.2.1, (hall x hx).2.2.2⟩)) ⟨ArgLe.refl rfl, trivial⟩ rfl) ?_
  conv => whnf
  (repeat' (first | refine W.seq ?_ | refine W.block ?_ | (refine W.region ?_; conv => whnf) | (refine W.ret ?_; conv => whnf) | (refine W.skip ?_; conv => whnf) | (refine W.exit ?_; conv => whnf) | (refine W.cond ?_; conv => whnf) | (refine W.drawT dr11 rfl mixed rfl ?_; conv => whnf) | ((with_reducible refine NumK.as _ (divOk (by omega) (by omega) (by omega)) ?_); conv => whnf) | ((with_reducible refine NumK.as _ (modOk (by omega) (by omega) (by omega) (by omega)) ?_); conv => whnf) | (refine NumK.as _ (wrapOk (by omega)) ?_; conv => whnf) | ((with_reducible refine NumK.as _ (wrapU (by omega)) ?_); conv => whnf) | (refine CndK.mk (by omega) ?_; conv => whnf) | (refine CndK.mk ?_ ?_; (focus (first | omega | (simp; done) | (simp; omega))); conv => whnf) | (refine UnK.mk (fun b hb => ?_); conv => whnf) | (refine CndK.mk rfl ?_; conv => whnf) | (refine CndK.mk ⟨by assumption, rfl⟩ ?_; conv => whnf) | (refine BrK.mk (fun h => ?_) (fun h => ?_) <;> (try simp only [decide_eq_true_eq, decide_eq_false_iff_not, Bool.and_eq_true, Bool.or_eq_true, Bool.not_eq_true', Bool.not_eq_false', Bool.or_eq_false_iff, Bool.and_eq_false_iff, Int.not_lt, Int.not_le, gt_iff_lt, ge_iff_le] at h) <;> first | (exfalso; omega) | (exfalso; exact h rfl) | (exfalso; exact Bool.noConfusion h) | contradiction | (conv => whnf))))
  · exact ResLe.pure (AVle.int (by unfold guErr; rw [if_neg (by simpa using hh), if_neg (by omega), if_neg (by simpa using hall), if_neg (by simpa using hasc'), if_pos (by assumption)])) rfl
  · exact ResLe.pure (AVle.int (by unfold guErr; rw [if_neg (by simpa using hh), if_neg (by omega), if_neg (by simpa using hall), if_neg (by simpa using hasc'), if_neg (by omega)])) rfl

end Go.Proofs.Yteilknlokjfelaa
