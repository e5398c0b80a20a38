/- The reference's first error of a stock. -/
import Derived.Test.YtacpjihbbmoolaaGreatDoorC1

namespace Go.Proofs.YtacpjihbbmoolaaGreatDoor
open Go Go.RowKit
set_option linter.unusedVariables false
set_option linter.unusedSimpArgs false
set_option maxRecDepth 100000
set_option maxHeartbeats 4000000
attribute [local irreducible] ResLe AVle ArgLe ArgP EntLe Dle ResH ArgQ

theorem rstock_t (ss : List Lt) (hL : ss.length ≤ 9223372036854775807) (hC : ∀ x ∈ ss, x.c.size ≤ 9223372036854775807) : ACalls XX 87 [.dat (ltD ss)] (iA (stkErr ss)) := by
  refine ACalls.of (n := Tryz.f87.ntmps) XX_ok Tryz.func87 rfl (by kernel_rfl) rfl rfl (Nat.le_of_ble_eq_true rfl) ?_
  (repeat' (first|((first|refine Zg ?_|refine Zt dr87 ?_|refine Zn ?_|refine Zc ?_|refine Zu fun b hb=>?_);conv=>whnf)|(refine Zb ?_ ?_<;>(intro h;first|exact Zx|conv=>whnf))))
  · (repeat' (first|exact Zrq|exact Zi (by unfold stkErr; rw [if_pos (by omega)])|exact Zo (h := by unfold stkErr; rw [if_pos (by omega)])|refine ResLe.agg ?_|refine And.intro ?_ ?_|((conv=>whnf); first|exact Zrq|exact Zi (by unfold stkErr; rw [if_pos (by omega)])|exact Zo (h := by unfold stkErr; rw [if_pos (by omega)])|refine ResLe.agg ?_|refine And.intro ?_ ?_)))
  have hl : ss.length ≤ 64 := by omega
  refine (W.loopK (ι := Nat) [0] [] (fun k => [(3, iA k)]) (fun _ => []) (fun k => k ≤ ss.length ∧ ∀ i, i < k → (ss.getD i default).us.length ≤ 64) (fun k => ss.length - k) 0 ⟨Nat.zero_le _, fun i hi => absurd hi (by omega)⟩ ?_ ?_ ?_)
  · exact Yz
  · exact Yz
  conv => whnf
  intro k ⟨hk, hz⟩
  by_cases hk' : k < ss.length
  · (repeat' (first|((first|refine Zg ?_|refine Zt dr87 ?_|refine Zn ?_|refine Zc ?_|refine Zu fun b hb=>?_);conv=>whnf)|(refine Zb ?_ ?_<;>(intro h;first|exact Zx|conv=>whnf))))
    all_goals (try dsimp only [Int.toNat_natCast] at *)
    (repeat' (first|((first|refine Zg ?_|refine Zt dr87 ?_|refine Zn ?_|refine Zc ?_|refine Zu fun b hb=>?_);conv=>whnf)|(refine Zb ?_ ?_<;>(intro h;first|exact Zx|conv=>whnf))))
    · have hn : ∃ x ∈ ss, 64 < x.us.length := ⟨_, getD_in hk', by omega⟩
      (repeat' (first|exact Zrq|exact Zi (by unfold stkErr; rw [if_neg (by omega), if_pos hn])|exact Zo (h := by unfold stkErr; rw [if_neg (by omega), if_pos hn])|refine ResLe.agg ?_|refine And.intro ?_ ?_|((conv=>whnf); first|exact Zrq|exact Zi (by unfold stkErr; rw [if_neg (by omega), if_pos hn])|exact Zo (h := by unfold stkErr; rw [if_neg (by omega), if_pos hn])|refine ResLe.agg ?_|refine And.intro ?_ ?_)))
    · refine ⟨k + 1, ⟨by omega, fun i hi => ?_⟩, by omega, ?_, ?_, ?_, ?_⟩
      · by_cases hik : i = k
        · subst hik; omega
        · exact hz i (by omega)
      all_goals exact Yz
  have hU : ∀ x ∈ ss, x.us.length ≤ 64 := all_getD.2 fun i hi => hz i (by omega)
  have hU' : ¬ ∃ x ∈ ss, 64 < x.us.length := fun ⟨x, hx, h⟩ => by have := hU x hx; omega
  clear hz
  (repeat' (first|((first|refine Zg ?_|refine Zt dr87 ?_|refine Zn ?_|refine Zc ?_|refine Zu fun b hb=>?_);conv=>whnf)|(refine Zb ?_ ?_<;>(intro h;first|exact Zx|conv=>whnf))))
  refine (W.loopK (ι := Nat) [0] [] (fun k => [(4, iA k)]) (fun _ => []) (fun k => k ≤ ss.length ∧ ∀ i, i < k → ltOk (ss.getD i default)) (fun k => ss.length - k) 0 ⟨Nat.zero_le _, fun i hi => absurd hi (by omega)⟩ ?_ ?_ ?_)
  · exact Yz
  · exact Yz
  conv => whnf
  intro k ⟨hk, hz⟩
  by_cases hk' : k < ss.length
  · have hc := rcode8_t (ss.getD k default).c (hC _ (getD_in hk'))
    have hbad : ¬ ltOk (ss.getD k default) → stkErr ss = 2 := fun h => by
      unfold stkErr
      rw [if_neg (by omega), if_neg hU', if_pos fun ha => h (ha _ (getD_in hk'))]
    have hgo : ltOk (ss.getD k default) → ∀ i, i < k + 1 → ltOk (ss.getD i default) := fun h i hi => by
      by_cases hik : i = k
      · subst hik; exact h
      · exact hz i (by omega)
    have hux := hU _ (getD_in hk')
    (repeat' (first|((first|refine Zg ?_|refine Zt dr87 ?_|refine Zn ?_|refine Zc ?_|refine Zu fun b hb=>?_);conv=>whnf)|(refine Zb ?_ ?_<;>(intro h;first|exact Zx|conv=>whnf))))
    all_goals (try dsimp only [Int.toNat_natCast] at *)
    (repeat' (first|((first|refine Zg ?_|refine Zt dr87 ?_|refine Zn ?_|refine Zc ?_|refine Zu fun b hb=>?_|refine Zy hc ?_|refine Zz hc ?_);conv=>whnf)|(refine Zb ?_ ?_<;>(intro h;first|exact Zx|conv=>whnf))))
    all_goals first|((repeat' (first|exact Zrq|exact Zi (by exact (hbad fun hq => by unfold ltOk idOk qOk at hq; simp_all; try omega).symm)|exact Zo (h := by exact (hbad fun hq => by unfold ltOk idOk qOk at hq; simp_all; try omega).symm)|refine ResLe.agg ?_|refine And.intro ?_ ?_|((conv=>whnf); first|exact Zrq|exact Zi (by exact (hbad fun hq => by unfold ltOk idOk qOk at hq; simp_all; try omega).symm)|exact Zo (h := by exact (hbad fun hq => by unfold ltOk idOk qOk at hq; simp_all; try omega).symm)|refine ResLe.agg ?_|refine And.intro ?_ ?_))); done)|skip
    refine (W.loopK (ι := Nat) [0, 4, 5] [5] (fun i => [(6, iA i)]) (fun _ => []) (fun i => i ≤ (ss.getD k default).us.length ∧ ∀ j, j < i → slOk ((ss.getD k default).us.getD j default)) (fun i => (ss.getD k default).us.length - i) 0 ⟨Nat.zero_le _, fun i hi => absurd hi (by omega)⟩ ?_ ?_ ?_)
    · exact Yz
    · exact Yz
    conv => whnf
    intro i ⟨hi, hy⟩
    by_cases hi' : i < (ss.getD k default).us.length
    · have hg := goodSlice_t ((ss.getD k default).us.getD i default)
      (repeat' (first|((first|refine Zg ?_|refine Zt dr87 ?_|refine Zn ?_|refine Zc ?_|refine Zu fun b hb=>?_);conv=>whnf)|(refine Zb ?_ ?_<;>(intro h;first|exact Zx|conv=>whnf))))
      all_goals (try dsimp only [Int.toNat_natCast] at *)
      (repeat' (first|((first|refine Zg ?_|refine Zt dr87 ?_|refine Zn ?_|refine Zc ?_|refine Zu fun b hb=>?_|refine Zy hg ?_|refine Zz hg ?_);conv=>whnf)|(refine Zb ?_ ?_<;>(intro h;first|exact Zx|conv=>whnf))))
      · (repeat' (first|exact Zrq|exact Zi (by exact (hbad fun hq => by have := hq.2.2.2.2 _ (getD_in hi'); simp_all).symm)|exact Zo (h := by exact (hbad fun hq => by have := hq.2.2.2.2 _ (getD_in hi'); simp_all).symm)|refine ResLe.agg ?_|refine And.intro ?_ ?_|((conv=>whnf); first|exact Zrq|exact Zi (by exact (hbad fun hq => by have := hq.2.2.2.2 _ (getD_in hi'); simp_all).symm)|exact Zo (h := by exact (hbad fun hq => by have := hq.2.2.2.2 _ (getD_in hi'); simp_all).symm)|refine ResLe.agg ?_|refine And.intro ?_ ?_)))
      · refine ⟨i + 1, ⟨by omega, fun j hj => ?_⟩, by omega, ?_, ?_, ?_, ?_⟩
        · by_cases hik : j = i
          · subst hik; simp_all
          · exact hy j (by omega)
        all_goals exact Yz
    · have ha : ∀ s ∈ (ss.getD k default).us, slOk s := all_getD.2 fun i hi => hy i (by omega)
      have hok : ltOk (ss.getD k default) := ⟨by unfold idOk; omega, by simp_all, by unfold qOk; omega, by omega, ha⟩
      (repeat' (first|((first|refine Zg ?_|refine Zt dr87 ?_|refine Zn ?_|refine Zc ?_|refine Zu fun b hb=>?_);conv=>whnf)|(refine Zb ?_ ?_<;>(intro h;first|exact Zx|conv=>whnf))))
      refine ⟨k + 1, ⟨by omega, hgo hok⟩, by omega, ?_, ?_, ?_, ?_⟩
      all_goals exact Yz
  have hR : ∀ x ∈ ss, ltOk x := all_getD.2 fun i hi => hz i (by omega)
  clear hz
  (repeat' (first|((first|refine Zg ?_|refine Zt dr87 ?_|refine Zn ?_|refine Zc ?_|refine Zu fun b hb=>?_);conv=>whnf)|(refine Zb ?_ ?_<;>(intro h;first|exact Zx|conv=>whnf))))
  refine (W.loopK (ι := Nat) [0] [] (fun k => [(7, iA k)]) (fun _ => []) (fun k => k ≤ ss.length ∧ ∀ i, i < k → (joinL (ss.getD i default).us).length = (ss.getD i default).us.length) (fun k => ss.length - k) 0 ⟨Nat.zero_le _, fun i hi => absurd hi (by omega)⟩ ?_ ?_ ?_)
  · exact Yz
  · exact Yz
  conv => whnf
  intro k ⟨hk, hz⟩
  by_cases hk' : k < ss.length
  · have hc := rjoin_t (ss.getD k default).us (by have := hU _ (getD_in hk'); omega)
    rw [joinR_eq (slOk_lt (hR _ (getD_in hk')).2.2.2.2)] at hc
    have hjl := joinL_len (ss.getD k default).us
    have hux := hU _ (getD_in hk')
    (repeat' (first|((first|refine Zg ?_|refine Zt dr87 ?_|refine Zn ?_|refine Zc ?_|refine Zu fun b hb=>?_);conv=>whnf)|(refine Zb ?_ ?_<;>(intro h;first|exact Zx|conv=>whnf))))
    all_goals (try dsimp only [Int.toNat_natCast] at *)
    (repeat' (first|((first|refine Zg ?_|refine Zt dr87 ?_|refine Zn ?_|refine Zc ?_|refine Zu fun b hb=>?_|refine Zy hc ?_|refine Zz hc ?_);conv=>whnf)|(refine Zb ?_ ?_<;>(intro h;first|exact Zx|conv=>whnf))))
    all_goals (try dsimp only [Int.toNat_natCast] at *)
    · have hn : ∃ x ∈ ss, (joinL x.us).length ≠ x.us.length := ⟨_, getD_in hk', by omega⟩
      (repeat' (first|exact Zrq|exact Zi (by unfold stkErr; rw [if_neg (by omega), if_neg hU', if_neg (by simpa using hR), if_pos hn])|exact Zo (h := by unfold stkErr; rw [if_neg (by omega), if_neg hU', if_neg (by simpa using hR), if_pos hn])|refine ResLe.agg ?_|refine And.intro ?_ ?_|((conv=>whnf); first|exact Zrq|exact Zi (by unfold stkErr; rw [if_neg (by omega), if_neg hU', if_neg (by simpa using hR), if_pos hn])|exact Zo (h := by unfold stkErr; rw [if_neg (by omega), if_neg hU', if_neg (by simpa using hR), if_pos hn])|refine ResLe.agg ?_|refine And.intro ?_ ?_)))
    · refine ⟨k + 1, ⟨by omega, fun i hi => ?_⟩, by omega, ?_, ?_, ?_, ?_⟩
      · by_cases hik : i = k
        · subst hik; omega
        · exact hz i (by omega)
      all_goals exact Yz
  have hJ : ¬ ∃ x ∈ ss, (joinL x.us).length ≠ x.us.length := fun ⟨x, hx, h⟩ => by
    obtain ⟨i, hi, rfl⟩ := List.getElem_of_mem hx
    have := hz i (by omega)
    rw [getD_of hi] at this
    exact h this
  clear hz
  (repeat' (first|((first|refine Zg ?_|refine Zt dr87 ?_|refine Zn ?_|refine Zc ?_|refine Zu fun b hb=>?_);conv=>whnf)|(refine Zb ?_ ?_<;>(intro h;first|exact Zx|conv=>whnf))))
  refine (W.loopK (ι := Nat) [0] [] (fun k => [(8, iA (1 + k))]) (fun _ => []) (fun k => (k = 0 ∨ k + 1 ≤ ss.length) ∧ ∀ i, i < k → (ss.getD i default).id < (ss.getD (i + 1) default).id) (fun k => ss.length - k) 0 ⟨.inl rfl, fun i hi => absurd hi (by omega)⟩ ?_ ?_ ?_)
  · exact Yz
  · exact Yz
  conv => whnf
  intro k ⟨hk, hz⟩
  by_cases hk' : k + 1 < ss.length
  · (repeat' (first|((first|refine Zg ?_|refine Zt dr87 ?_|refine Zn ?_|refine Zc ?_|refine Zu fun b hb=>?_);conv=>whnf)|(refine Zb ?_ ?_<;>(intro h;first|exact Zx|conv=>whnf))))
    all_goals (try rw [show (1 + (k : Int)).toNat = k + 1 by omega, show (1 + (k : Int) - 1).toNat = k by omega] at *)
    (repeat' (first|((first|refine Zg ?_|refine Zt dr87 ?_|refine Zn ?_|refine Zc ?_|refine Zu fun b hb=>?_);conv=>whnf)|(refine Zb ?_ ?_<;>(intro h;first|exact Zx|conv=>whnf))))
    · have hn : ¬ ascI ss := fun hc => by have := hc k (by omega); omega
      (repeat' (first|exact Zrq|exact Zi (by unfold stkErr; rw [if_neg (by omega), if_neg hU', if_neg (by simpa using hR), if_neg hJ, if_pos hn])|exact Zo (h := by unfold stkErr; rw [if_neg (by omega), if_neg hU', if_neg (by simpa using hR), if_neg hJ, if_pos hn])|refine ResLe.agg ?_|refine And.intro ?_ ?_|((conv=>whnf); first|exact Zrq|exact Zi (by unfold stkErr; rw [if_neg (by omega), if_neg hU', if_neg (by simpa using hR), if_neg hJ, if_pos hn])|exact Zo (h := by unfold stkErr; rw [if_neg (by omega), if_neg hU', if_neg (by simpa using hR), if_neg hJ, if_pos hn])|refine ResLe.agg ?_|refine And.intro ?_ ?_)))
    · refine ⟨k + 1, ⟨by omega, fun i hi => ?_⟩, by omega, ?_, ?_, ?_, ?_⟩
      · by_cases hik : i = k
        · subst hik; omega
        · exact hz i (by omega)
      all_goals exact Yz
  have hA : ascI ss := fun i hi => hz i (by omega)
  have hrep := reps_bad hR hU
  have hlast : stkErr ss = if reps ss then 13 else 0 := by unfold stkErr; rw [if_neg (by omega), if_neg hU', if_neg (by simpa using hR), if_neg hJ, if_neg (by simpa using hA)]
  clear hz
  (repeat' (first|((first|refine Zg ?_|refine Zt dr87 ?_|refine Zn ?_|refine Zc ?_|refine Zu fun b hb=>?_);conv=>whnf)|(refine Zb ?_ ?_<;>(intro h;first|exact Zx|conv=>whnf))))
  refine (W.loopK (ι := Nat) [0] [] (fun k => [(9, iA k)]) (fun _ => []) (fun k => k ≤ ss.length ∧ ∀ i, i < k → ¬ badL ss i) (fun k => ss.length - k) 0 ⟨Nat.zero_le _, fun i hi => absurd hi (by omega)⟩ ?_ ?_ ?_)
  · exact Yz
  · exact Yz
  conv => whnf
  intro k ⟨hk, hz⟩
  by_cases hk' : k < ss.length
  · have hc := rvalid_t (ss.getD k default).us (by have := hU _ (getD_in hk'); omega)
    have hux := hU _ (getD_in hk')
    have hbad : badL ss k → stkErr ss = 13 := fun h => by rw [hlast, if_pos (hrep.2 ⟨k, hk', h⟩)]
    (repeat' (first|((first|refine Zg ?_|refine Zt dr87 ?_|refine Zn ?_|refine Zc ?_|refine Zu fun b hb=>?_);conv=>whnf)|(refine Zb ?_ ?_<;>(intro h;first|exact Zx|conv=>whnf))))
    all_goals (try dsimp only [Int.toNat_natCast] at *)
    (repeat' (first|((first|refine Zg ?_|refine Zt dr87 ?_|refine Zn ?_|refine Zc ?_|refine Zu fun b hb=>?_|refine Zy hc ?_|refine Zz hc ?_);conv=>whnf)|(refine Zb ?_ ?_<;>(intro h;first|exact Zx|conv=>whnf))))
    · (repeat' (first|exact Zrq|exact Zi (by exact (hbad (.inl (by assumption))).symm)|exact Zo (h := by exact (hbad (.inl (by assumption))).symm)|refine ResLe.agg ?_|refine And.intro ?_ ?_|((conv=>whnf); first|exact Zrq|exact Zi (by exact (hbad (.inl (by assumption))).symm)|exact Zo (h := by exact (hbad (.inl (by assumption))).symm)|refine ResLe.agg ?_|refine And.intro ?_ ?_)))
    have hv0 : lotErr (ss.getD k default).us = 0 := by omega
    refine (W.loopK (ι := Nat) [0, 9] [] (fun j => [(10, iA j)]) (fun _ => []) (fun j => j ≤ k ∧ ∀ q, q < j → ¬ ((ss.getD k default).p ≠ 13 ∧ (ss.getD q default).p ≠ 13 ∧ meetL (ss.getD k default).us (ss.getD q default).us)) (fun j => k - j) 0 ⟨Nat.zero_le _, fun i hi => absurd hi (by omega)⟩ ?_ ?_ ?_)
    · exact Yz
    · exact Yz
    conv => whnf
    intro j ⟨hj, hy⟩
    by_cases hj' : j < k
    · have hM := Meet_t (ss.getD k default).us (ss.getD j default).us (by omega) (by have := hU _ (getD_in (show j < ss.length by omega)); omega)
      (repeat' (first|((first|refine Zg ?_|refine Zt dr87 ?_|refine Zn ?_|refine Zc ?_|refine Zu fun b hb=>?_);conv=>whnf)|(refine Zb ?_ ?_<;>(intro h;first|exact Zx|conv=>whnf))))
      all_goals (try dsimp only [Int.toNat_natCast] at *)
      (repeat' (first|((first|refine Zg ?_|refine Zt dr87 ?_|refine Zn ?_|refine Zc ?_|refine Zu fun b hb=>?_|refine Zy hM ?_|refine Zz hM ?_);conv=>whnf)|(refine Zb ?_ ?_<;>(intro h;first|exact Zx|conv=>whnf))))
      all_goals (try dsimp only [Int.toNat_natCast] at *)
      (repeat' (first|((first|refine Zg ?_|refine Zt dr87 ?_|refine Zn ?_|refine Zc ?_|refine Zu fun b hb=>?_|refine Zy hM ?_|refine Zz hM ?_);conv=>whnf)|(refine Zb ?_ ?_<;>(intro h;first|exact Zx|conv=>whnf))))
      all_goals first|((repeat' (first|exact Zrq|exact Zi (by exact (hbad (.inr ⟨j, hj', by assumption, by assumption, by assumption⟩)).symm)|exact Zo (h := by exact (hbad (.inr ⟨j, hj', by assumption, by assumption, by assumption⟩)).symm)|refine ResLe.agg ?_|refine And.intro ?_ ?_|((conv=>whnf); first|exact Zrq|exact Zi (by exact (hbad (.inr ⟨j, hj', by assumption, by assumption, by assumption⟩)).symm)|exact Zo (h := by exact (hbad (.inr ⟨j, hj', by assumption, by assumption, by assumption⟩)).symm)|refine ResLe.agg ?_|refine And.intro ?_ ?_))); done)|skip
      all_goals (refine ⟨j + 1, ⟨by omega, fun q hq => ?_⟩, by omega, ?_, ?_, ?_, ?_⟩)
      all_goals first
        | ((repeat' (first|exact Yq|refine ⟨_, rfl, Yb ?_, rfl⟩|refine ⟨_, rfl, Yw (by first|rfl|omega) ?_, rfl⟩|refine And.intro ?_ ?_)); done)
        | (by_cases hqj : q = j
           · subst hqj
             rintro ⟨q1, q2, q3⟩
             first|exact absurd q3 (by assumption)|omega|(unfold meetL at q3; simp_all)
           · exact hy q (by omega))
    · (repeat' (first|((first|refine Zg ?_|refine Zt dr87 ?_|refine Zn ?_|refine Zc ?_|refine Zu fun b hb=>?_);conv=>whnf)|(refine Zb ?_ ?_<;>(intro h;first|exact Zx|conv=>whnf))))
      refine ⟨k + 1, ⟨by omega, fun i hi => ?_⟩, by omega, ?_, ?_, ?_, ?_⟩
      · by_cases hik : i = k
        · subst hik
          rintro (h1|⟨q, hq, h1⟩)
          · exact h1 hv0
          · exact hy q (by omega) h1
        · exact hz i (by omega)
      all_goals exact Yz
  · have hn : ¬ reps ss := fun h => by
      obtain ⟨i, hi, hb⟩ := hrep.1 h
      exact hz i (by omega) hb
    rw [if_neg hn] at hlast
    (repeat' (first|((first|refine Zg ?_|refine Zt dr87 ?_|refine Zn ?_|refine Zc ?_|refine Zu fun b hb=>?_);conv=>whnf)|(refine Zb ?_ ?_<;>(intro h;first|exact Zx|conv=>whnf))))
    all_goals (repeat' (first|exact Zrq|exact Zi (by exact hlast.symm)|exact Zo (h := by exact hlast.symm)|refine ResLe.agg ?_|refine And.intro ?_ ?_|((conv=>whnf); first|exact Zrq|exact Zi (by exact hlast.symm)|exact Zo (h := by exact hlast.symm)|refine ResLe.agg ?_|refine And.intro ?_ ?_)))

end Go.Proofs.YtacpjihbbmoolaaGreatDoor
