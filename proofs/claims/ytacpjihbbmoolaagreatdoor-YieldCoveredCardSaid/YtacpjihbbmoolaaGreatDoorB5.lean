/- Stocks: lots replaced, whether a stock is valid, a lot found. -/
import Derived.Test.YtacpjihbbmoolaaGreatDoorB4

namespace Go.Proofs.YtacpjihbbmoolaaGreatDoor
open Go Go.RowKit
set_option linter.unusedVariables false
set_option linter.unusedSimpArgs false
set_option maxRecDepth 100000
set_option maxHeartbeats 4000000
attribute [local irreducible] ResLe AVle ArgLe ArgP EntLe Dle ResH ArgQ

theorem replace1_d (x y : Lt) : ACalls XD 59 [ltA x, ltA y] (iA (cmpI x.id y.id)) := by
  refine ACalls.of (n := Tryz.f59.ntmps) XD_ok Tryz.func59 rfl (by kernel_rfl) rfl rfl (Nat.le_of_ble_eq_true rfl) ?_
  (repeat' (first|((first|refine Zg ?_|refine Zn ?_|refine Zc ?_|refine Zu fun b hb=>?_|refine Zy (cmp_d _ _) ?_);conv=>whnf)|(refine Zb ?_ ?_<;>(intro h;first|exact Zx|conv=>whnf))))
  all_goals exact Zrz
def cfI (us : List Lt) (i j : Nat) : Int := cmpI (us.getD i default).id (us.getD j default).id
theorem cmpI_lt' (a b : Int) : cmpI a b < 0 ↔ a < b := by unfold cmpI; split <;> (try split) <;> omega
theorem cfI_swo (us : List Lt) : Go.Sort.SWO (ltOf (cfI us)) := by
  refine ⟨fun x => ?_, fun x y z => ?_, fun x y z => ?_⟩ <;> unfold ltOf cfI <;> simp only [cmpI_lt', decide_eq_true_eq, decide_eq_false_iff_not] <;> omega
def sortLt (us : List Lt) : List Lt := (List.range us.length).map fun i => us.getD (sortAt us.length (cfI us) i) default
theorem sortLt_len (us : List Lt) : (sortLt us).length = us.length := by simp [sortLt]
theorem sortI_h (us : List Lt) (hn : us.length ≤ 100000) :
    HC XX 58 [.own 5000 5 0 us.length, .dat (.val (.func (.func 59) #[] #[]))] [(5000, .row 45 5 us.length (rowF ltE us))] (.tup []) [(5000, .row 45 5 us.length fun i j => rowF ltE us (sortAt us.length (cfI us) i) j)] none :=
  sort_h (X := XX) (cf := cfI us) Tryz.sort58 rfl ⟨_, Tryz.func58, rfl, rfl⟩ Tryz.isAgg45 Tryz.sizeOf45
    (enters_of Tryz.func59 (by kernel_rfl) rfl) (cfI_swo us) (by omega) (by omega) (fun i j hi hj => replace1_d (us.getD i default) (us.getD j default))
def keepI (ss : List Lt) (ids : List Int) : List Lt := ss.filter fun x => decide (x.id ∉ ids)
def replL (ss : List Lt) (ids : List Int) (added : List Lt) : List Lt := sortLt (keepI ss ids ++ added)
theorem keep_snoc (ss : List Lt) (ids : List Int) (k : Nat) (h : k < ss.length) : keepI (ss.take (k + 1)) ids = if (ss.getD k default).id ∈ ids then keepI (ss.take k) ids else keepI (ss.take k) ids ++ [ss.getD k default] := by
  rw [List.take_succ_eq_append_getElem h, getD_of h]
  unfold keepI
  rw [List.filter_append]
  split
  · rename_i hp; simp [hp]
  · rename_i hp; simp [hp]
theorem keep_len (ss : List Lt) (ids : List Int) : (keepI ss ids).length ≤ ss.length := List.length_filter_le ..
theorem take_snoc {α : Type} [Inhabited α] (l : List α) (k : Nat) (h : k < l.length) : l.take (k + 1) = l.take k ++ [l.getD k default] := by rw [List.take_succ_eq_append_getElem h, getD_of h]
theorem replace_t (ss : List Lt) (ids : List Int) (added : List Lt) (hS : ss.length ≤ 1000) (hA : added.length ≤ 1000) (hI : ids.length ≤ 1000000) (hU : ∀ x ∈ ss, x.us.length ≤ 1000000) (hV : ∀ x ∈ added, x.us.length ≤ 1000000) :
    ACalls XX 24 [.dat (ltD ss), .dat (iD ids), .dat (ltD added)] (.dat (ltD (replL ss ids added))) := by
  have hk0 : keepI (ss.take 0) ids = [] := rfl
  refine ACalls.of (n := Tryz.f24.ntmps) XX_ok Tryz.func24 rfl (by kernel_rfl) rfl rfl (Nat.le_of_ble_eq_true rfl) ?_
  (repeat' (first|((first|refine Zg ?_|refine Zn ?_|refine Zc ?_|refine Zu fun b hb=>?_);conv=>whnf)|(refine Zb ?_ ?_<;>(intro h;first|exact Zx|conv=>whnf))))
  refine (W.adopt 7 27 45 5 (rowF ltE []) rfl rfl rfl rfl ?_)
  conv => whnf
  refine (W.loopK (ι := Nat) [1, 2, 12, 13] [] (fun k => [(14, iA k), (7, .own 27 5 0 (keepI (ss.take k) ids).length)]) (fun k => [(27, .row 45 5 (keepI (ss.take k) ids).length (rowF ltE (keepI (ss.take k) ids)))]) (fun k => k ≤ ss.length) (fun k => ss.length - k) 0 (Nat.zero_le _) ?_ ?_ ?_)
  · exact Yz
  · exact Yz
  conv => whnf
  intro k hk
  have hb := keep_len (ss.take k) ids
  have hb2 : (ss.take k).length ≤ ss.length := List.length_take_le' ..
  by_cases hk' : k < ss.length
  · have hs := keep_snoc ss ids k hk'
    have hc := contains_t ids (ss.getD k default).id hI
    have hd := copied_t (ss.getD k default) (hU _ (getD_in hk'))
    (repeat' (first|((first|refine Zg ?_|refine Zn ?_|refine Zc ?_|refine Zu fun b hb=>?_);conv=>whnf)|(refine Zb ?_ ?_<;>(intro h;first|exact Zx|conv=>whnf))))
    all_goals (try dsimp only [Int.toNat_natCast] at *)
    (repeat' (first|((first|refine Zg ?_|refine Zn ?_|refine Zc ?_|refine Zu fun b hb=>?_|refine Zy hc ?_|refine Zy hd ?_);conv=>whnf)|(refine Zb ?_ ?_<;>(intro h;first|exact Zx|conv=>whnf))))
    · have hp : (ss.getD k default).id ∉ ids := by simp_all
      rw [if_neg hp] at hs
      refine ⟨k + 1, by omega, by omega, ?_, ?_, ?_, ?_⟩
      all_goals (repeat' (first|exact Yq|exact Yi (by first|rfl|(rw [hs]; simp; done)|omega)|exact Yo (by first|rfl|(rw [hs]; simp; done)|omega)|exact Ye (by first|rfl|(rw [hs]; simp; done)|omega)|refine ⟨_, rfl, Yb ?_, rfl⟩|refine ⟨_, rfl, Yw (by first|rfl|(rw [hs]; simp; done)|omega) ?_, rfl⟩|refine And.intro ?_ ?_))
      rw [hs]
      refine rowF_snoc rfl fun j hj => ?_
      rcases j with _|_|_|_|_|j
      all_goals first|exact Dle.refl _|omega
    · have hp : (ss.getD k default).id ∈ ids := by simp_all
      rw [if_pos hp] at hs
      refine ⟨k + 1, by omega, by omega, ?_, ?_, ?_, ?_⟩
      all_goals (repeat' (first|exact Yq|exact Yi (by first|rfl|(rw [hs]; done)|omega)|exact Yo (by first|rfl|(rw [hs]; done)|omega)|exact Ye (by first|rfl|(rw [hs]; done)|omega)|refine ⟨_, rfl, Yb ?_, rfl⟩|refine ⟨_, rfl, Yw (by first|rfl|(rw [hs]; done)|omega) ?_, rfl⟩|refine And.intro ?_ ?_))
      rw [hs]
      exact fun _ _ _ _ => Dle.refl _
  · obtain rfl : k = ss.length := by omega
    rw [List.take_length] at *
    (repeat' (first|((first|refine Zg ?_|refine Zn ?_|refine Zc ?_|refine Zu fun b hb=>?_);conv=>whnf)|(refine Zb ?_ ?_<;>(intro h;first|exact Zx|conv=>whnf))))
    refine (W.loopK (ι := Nat) [29, 30] [] (fun k => [(31, iA k), (7, .own 27 5 0 (keepI ss ids ++ added.take k).length)]) (fun k => [(27, .row 45 5 (keepI ss ids ++ added.take k).length (rowF ltE (keepI ss ids ++ added.take k)))]) (fun k => k ≤ added.length) (fun k => added.length - k) 0 (Nat.zero_le _) ?_ ?_ ?_)
    · (repeat' (first|exact Yq|exact Yi (by first|rfl|(simp; done)|omega)|exact Yo (by first|rfl|(simp; done)|omega)|exact Ye (by first|rfl|(simp; done)|omega)|refine ⟨_, rfl, Yb ?_, rfl⟩|refine ⟨_, rfl, Yw (by first|rfl|(simp; done)|omega) ?_, rfl⟩|refine And.intro ?_ ?_))
    · (repeat' (first|exact Yq|exact Yi (by first|rfl|(simp; done)|omega)|exact Yo (by first|rfl|(simp; done)|omega)|exact Ye (by first|rfl|(simp; done)|omega)|refine ⟨_, rfl, Yb ?_, rfl⟩|refine ⟨_, rfl, Yw (by first|rfl|(simp; done)|omega) ?_, rfl⟩|refine And.intro ?_ ?_))
      rw [List.take_zero, List.append_nil]
      exact fun _ _ _ _ => Dle.refl _
    conv => whnf
    intro k hk
    by_cases hk' : k < added.length
    · have hs := take_snoc added k hk'
      have hd := copied_t (added.getD k default) (hV _ (getD_in hk'))
      have hl : (keepI ss ids ++ added.take k).length ≤ 2000 := by simp; omega
      (repeat' (first|((first|refine Zg ?_|refine Zn ?_|refine Zc ?_|refine Zu fun b hb=>?_);conv=>whnf)|(refine Zb ?_ ?_<;>(intro h;first|exact Zx|conv=>whnf))))
      all_goals (try dsimp only [Int.toNat_natCast] at *)
      (repeat' (first|((first|refine Zg ?_|refine Zn ?_|refine Zc ?_|refine Zu fun b hb=>?_|refine Zy hd ?_);conv=>whnf)|(refine Zb ?_ ?_<;>(intro h;first|exact Zx|conv=>whnf))))
      have hs' : keepI ss ids ++ added.take (k + 1) = (keepI ss ids ++ added.take k) ++ [added.getD k default] := by rw [hs, List.append_assoc]
      have hl1 : (keepI ss ids ++ added.take k).length + 1 = (keepI ss ids ++ added.take (k + 1)).length := by rw [hs', List.length_append (bs := [_])]; rfl
      refine ⟨k + 1, by omega, by omega, ?_, ?_, ?_, ?_⟩
      all_goals (repeat' (first|exact Yq|exact Yi (by first|rfl|exact hl1|omega)|exact Yo (by first|rfl|exact hl1|omega)|exact Ye (by first|rfl|exact hl1|omega)|refine ⟨_, rfl, Yb ?_, rfl⟩|refine ⟨_, rfl, Yw (by first|rfl|exact hl1|omega) ?_, rfl⟩|refine And.intro ?_ ?_))
      rw [hs']
      refine rowF_snoc (us := keepI ss ids ++ added.take k) (x := added.getD k default) rfl fun j hj => ?_
      rcases j with _|_|_|_|_|j
      all_goals first|exact Dle.refl _|omega
    · obtain rfl : k = added.length := by omega
      rw [List.take_length] at *
      have hl : (keepI ss ids ++ added).length ≤ 2000 := by simp; omega
      have hso := sortI_h (keepI ss ids ++ added) (by omega)
      (repeat' (first|((first|refine Zg ?_|refine Zn ?_|refine Zc ?_|refine Zu fun b hb=>?_|refine ExCall.h [(5000, 27)] rfl hso rfl ⟨rfl, trivial⟩ ?_);conv=>whnf)|(refine Zb ?_ ?_<;>(intro h;first|exact Zx|conv=>whnf))))
      unfold replL
      refine RowIs.res (enc := ltE) (us := sortLt (keepI ss ids ++ added)) rfl ⟨(sortLt_len _).symm, fun i hi j hj => ?_⟩ rfl
      have e : (sortLt (keepI ss ids ++ added)).getD i default = (keepI ss ids ++ added).getD (sortAt (keepI ss ids ++ added).length (cfI (keepI ss ids ++ added)) i) default := by
        unfold sortLt
        rw [List.getD_eq_getElem?_getD, List.getElem?_map, List.getElem?_range hi]
        rfl
      unfold rowF
      rw [e]
      exact Dle.refl _

theorem validate_t (ss : List Lt) (hL : ss.length ≤ 9223372036854775807) : ACalls XX 10 [.dat (ltD ss)] (iA (stkErr ss)) := by
  refine ACalls.of (n := Tryz.f10.ntmps) XX_ok Tryz.func10 rfl (by kernel_rfl) rfl rfl (Nat.le_of_ble_eq_true rfl) ?_
  refine W.pb [42] ?_
  (repeat' (first|((first|refine Zg ?_|refine W.drawP dr10 rfl mixed rfl ?_|refine Zn ?_|refine Zc ?_|refine Zu fun b hb=>?_);conv=>whnf)|(refine Zb ?_ ?_<;>(intro h;first|exact Zx|conv=>whnf))))
  · (repeat' (first|exact Zrq|exact Zi (by unfold stkErr; rw [if_pos (by omega)])|exact Zo (h := by unfold stkErr; rw [if_pos (by omega)])|refine ResLe.agg ?_|refine And.intro ?_ ?_|((conv=>whnf); first|exact Zrq|exact Zi (by unfold stkErr; rw [if_pos (by omega)])|exact Zo (h := by unfold stkErr; rw [if_pos (by omega)])|refine ResLe.agg ?_|refine And.intro ?_ ?_)))
  have hl : ss.length ≤ 64 := by omega
  refine (W.loopK (ι := Nat) [0, 13, 14] [] (fun k => [(15, iA k)]) (fun _ => []) (fun k => k ≤ ss.length ∧ ∀ i, i < k → (ss.getD i default).us.length ≤ 64) (fun k => ss.length - k) 0 ⟨Nat.zero_le _, fun i hi => absurd hi (by omega)⟩ ?_ ?_ ?_)
  · exact Yz
  · exact Yz
  conv => whnf
  intro k ⟨hk, hz⟩
  (repeat' (first|((first|refine Zg ?_|refine W.drawP dr10 rfl mixed rfl ?_|refine Zn ?_|refine Zc ?_|refine Zu fun b hb=>?_);conv=>whnf)|(refine Zb ?_ ?_<;>(intro h;first|exact Zx|conv=>whnf))))
  all_goals (try dsimp only [Int.toNat_natCast] at *)
  · have hn : ∃ x ∈ ss, 64 < x.us.length := ⟨_, getD_in (k := k) (by omega), by omega⟩
    (repeat' (first|exact Zrq|exact Zi (by unfold stkErr; rw [if_neg (by omega), if_pos hn])|exact Zo (h := by unfold stkErr; rw [if_neg (by omega), if_pos hn])|refine ResLe.agg ?_|refine And.intro ?_ ?_|((conv=>whnf); first|exact Zrq|exact Zi (by unfold stkErr; rw [if_neg (by omega), if_pos hn])|exact Zo (h := by unfold stkErr; rw [if_neg (by omega), if_pos hn])|refine ResLe.agg ?_|refine And.intro ?_ ?_)))
  · refine ⟨k + 1, ⟨by omega, fun i hi => ?_⟩, by omega, ?_, ?_, ?_, ?_⟩
    · by_cases hik : i = k
      · subst hik; omega
      · exact hz i (by omega)
    all_goals exact Yz
  have hU : ∀ x ∈ ss, x.us.length ≤ 64 := all_getD.2 fun i hi => hz i (by omega)
  have hU' : ¬ ∃ x ∈ ss, 64 < x.us.length := fun ⟨x, hx, h⟩ => by have := hU x hx; omega
  clear hz
  refine (W.loopK (ι := Nat) [0, 24, 25] [] (fun k => [(26, iA k)]) (fun _ => []) (fun k => k ≤ ss.length ∧ ∀ i, i < k → ltOk (ss.getD i default)) (fun k => ss.length - k) 0 ⟨Nat.zero_le _, fun i hi => absurd hi (by omega)⟩ ?_ ?_ ?_)
  · exact Yz
  · exact Yz
  conv => whnf
  intro k ⟨hk, hz⟩
  by_cases hk' : k < ss.length
  · have hc := inRange_t (ss.getD k default) (by have := hU _ (getD_in hk'); omega)
    (repeat' (first|((first|refine Zg ?_|refine W.drawP dr10 rfl mixed rfl ?_|refine Zn ?_|refine Zc ?_|refine Zu fun b hb=>?_);conv=>whnf)|(refine Zb ?_ ?_<;>(intro h;first|exact Zx|conv=>whnf))))
    all_goals (try dsimp only [Int.toNat_natCast] at *)
    (repeat' (first|((first|refine Zg ?_|refine W.drawP dr10 rfl mixed rfl ?_|refine Zn ?_|refine Zc ?_|refine Zu fun b hb=>?_|refine Zy (ACalls.at (hc)) ?_|refine Zz (ACalls.at (hc)) ?_);conv=>whnf)|(refine Zb ?_ ?_<;>(intro h;first|exact Zx|conv=>whnf))))
    · have hn : ¬ ∀ x ∈ ss, ltOk x := fun ha => by
        have := ha _ (getD_in hk')
        simp_all
      (repeat' (first|exact Zrq|exact Zi (by unfold stkErr; rw [if_neg (by omega), if_neg hU', if_pos hn])|exact Zo (h := by unfold stkErr; rw [if_neg (by omega), if_neg hU', if_pos hn])|refine ResLe.agg ?_|refine And.intro ?_ ?_|((conv=>whnf); first|exact Zrq|exact Zi (by unfold stkErr; rw [if_neg (by omega), if_neg hU', if_pos hn])|exact Zo (h := by unfold stkErr; rw [if_neg (by omega), if_neg hU', if_pos hn])|refine ResLe.agg ?_|refine And.intro ?_ ?_)))
    · refine ⟨k + 1, ⟨by omega, fun i hi => ?_⟩, by omega, ?_, ?_, ?_, ?_⟩
      · by_cases hik : i = k
        · subst hik; simp_all
        · exact hz i (by omega)
      all_goals exact Yz
  have hR : ∀ x ∈ ss, ltOk x := all_getD.2 fun i hi => hz i (by omega)
  clear hz
  (repeat' (first|((first|refine Zg ?_|refine W.drawP dr10 rfl mixed rfl ?_|refine Zn ?_|refine Zc ?_|refine Zu fun b hb=>?_);conv=>whnf)|(refine Zb ?_ ?_<;>(intro h;first|exact Zx|conv=>whnf))))
  refine (W.loopK (ι := Nat) [0, 34, 35] [] (fun k => [(36, iA k)]) (fun _ => []) (fun k => k ≤ ss.length ∧ ∀ i, i < k → (joinL (ss.getD i default).us).length = (ss.getD i default).us.length) (fun k => ss.length - k) 0 ⟨Nat.zero_le _, fun i hi => absurd hi (by omega)⟩ ?_ ?_ ?_)
  · exact Yz
  · exact Yz
  conv => whnf
  intro k ⟨hk, hz⟩
  by_cases hk' : k < ss.length
  · have hc := join1_t (ss.getD k default).us (by have := hU _ (getD_in hk'); omega)
    (repeat' (first|((first|refine Zg ?_|refine W.drawP dr10 rfl mixed rfl ?_|refine Zn ?_|refine Zc ?_|refine Zu fun b hb=>?_);conv=>whnf)|(refine Zb ?_ ?_<;>(intro h;first|exact Zx|conv=>whnf))))
    all_goals (try dsimp only [Int.toNat_natCast] at *)
    (repeat' (first|((first|refine Zg ?_|refine W.drawP dr10 rfl mixed rfl ?_|refine Zn ?_|refine Zc ?_|refine Zu fun b hb=>?_|refine Zy (ACalls.at (hc)) ?_|refine Zz (ACalls.at (hc)) ?_);conv=>whnf)|(refine Zb ?_ ?_<;>(intro h;first|exact Zx|conv=>whnf))))
    · have hn : ∃ x ∈ ss, (joinL x.us).length ≠ x.us.length := ⟨_, getD_in hk', by omega⟩
      (repeat' (first|exact Zrq|exact Zi (by unfold stkErr; rw [if_neg (by omega), if_neg hU', if_neg (by simpa using hR), if_pos hn])|exact Zo (h := by unfold stkErr; rw [if_neg (by omega), if_neg hU', if_neg (by simpa using hR), if_pos hn])|refine ResLe.agg ?_|refine And.intro ?_ ?_|((conv=>whnf); first|exact Zrq|exact Zi (by unfold stkErr; rw [if_neg (by omega), if_neg hU', if_neg (by simpa using hR), if_pos hn])|exact Zo (h := by unfold stkErr; rw [if_neg (by omega), if_neg hU', if_neg (by simpa using hR), if_pos hn])|refine ResLe.agg ?_|refine And.intro ?_ ?_)))
    · refine ⟨k + 1, ⟨by omega, fun i hi => ?_⟩, by omega, ?_, ?_, ?_, ?_⟩
      · by_cases hik : i = k
        · subst hik; omega
        · exact hz i (by omega)
      all_goals exact Yz
  have hJ : ¬ ∃ x ∈ ss, (joinL x.us).length ≠ x.us.length := fun ⟨x, hx, h⟩ => by
    obtain ⟨i, hi, rfl⟩ := List.getElem_of_mem hx
    have := hz i (by omega)
    rw [getD_of hi] at this
    exact h this
  clear hz
  (repeat' (first|((first|refine Zg ?_|refine W.drawP dr10 rfl mixed rfl ?_|refine Zn ?_|refine Zc ?_|refine Zu fun b hb=>?_);conv=>whnf)|(refine Zb ?_ ?_<;>(intro h;first|exact Zx|conv=>whnf))))
  refine (W.loopK (ι := Nat) [0] [] (fun k => [(9, iA (1 + k))]) (fun _ => []) (fun k => (k = 0 ∨ k + 1 ≤ ss.length) ∧ ∀ i, i < k → (ss.getD i default).id < (ss.getD (i + 1) default).id) (fun k => ss.length - k) 0 ⟨.inl rfl, fun i hi => absurd hi (by omega)⟩ ?_ ?_ ?_)
  · exact Yz
  · exact Yz
  conv => whnf
  intro k ⟨hk, hz⟩
  have hrep := repeats_t ss (by omega) hU
  (repeat' (first|((first|refine Zg ?_|refine W.drawP dr10 rfl mixed rfl ?_|refine Zn ?_|refine Zc ?_|refine Zu fun b hb=>?_);conv=>whnf)|(refine Zb ?_ ?_<;>(intro h;first|exact Zx|conv=>whnf))))
  all_goals (try rw [show (1 + (k : Int)).toNat = k + 1 by omega, show (1 + (k : Int) - 1).toNat = k by omega] at *)
  (repeat' (first|((first|refine Zg ?_|refine W.drawP dr10 rfl mixed rfl ?_|refine Zn ?_|refine Zc ?_|refine Zu fun b hb=>?_);conv=>whnf)|(refine Zb ?_ ?_<;>(intro h;first|exact Zx|conv=>whnf))))
  · have hn : ¬ ascI ss := fun hc => by have := hc k (by omega); omega
    (repeat' (first|exact Zrq|exact Zi (by unfold stkErr; rw [if_neg (by omega), if_neg hU', if_neg (by simpa using hR), if_neg hJ, if_pos hn])|exact Zo (h := by unfold stkErr; rw [if_neg (by omega), if_neg hU', if_neg (by simpa using hR), if_neg hJ, if_pos hn])|refine ResLe.agg ?_|refine And.intro ?_ ?_|((conv=>whnf); first|exact Zrq|exact Zi (by unfold stkErr; rw [if_neg (by omega), if_neg hU', if_neg (by simpa using hR), if_neg hJ, if_pos hn])|exact Zo (h := by unfold stkErr; rw [if_neg (by omega), if_neg hU', if_neg (by simpa using hR), if_neg hJ, if_pos hn])|refine ResLe.agg ?_|refine And.intro ?_ ?_)))
  · refine ⟨k + 1, ⟨by omega, fun i hi => ?_⟩, by omega, ?_, ?_, ?_, ?_⟩
    · by_cases hik : i = k
      · subst hik; omega
      · exact hz i (by omega)
    all_goals exact Yz
  · have hc : ascI ss := fun i hi => hz i (by omega)
    (repeat' (first|((first|refine Zg ?_|refine W.drawP dr10 rfl mixed rfl ?_|refine Zn ?_|refine Zc ?_|refine Zu fun b hb=>?_|refine Zy (ACalls.at (hrep)) ?_|refine Zz (ACalls.at (hrep)) ?_);conv=>whnf)|(refine Zb ?_ ?_<;>(intro h;first|exact Zx|conv=>whnf))))
    · have hn : reps ss := by simp_all
      (repeat' (first|exact Zrq|exact Zi (by unfold stkErr; rw [if_neg (by omega), if_neg hU', if_neg (by simpa using hR), if_neg hJ, if_neg (by simpa using hc), if_pos hn])|exact Zo (h := by unfold stkErr; rw [if_neg (by omega), if_neg hU', if_neg (by simpa using hR), if_neg hJ, if_neg (by simpa using hc), if_pos hn])|refine ResLe.agg ?_|refine And.intro ?_ ?_|((conv=>whnf); first|exact Zrq|exact Zi (by unfold stkErr; rw [if_neg (by omega), if_neg hU', if_neg (by simpa using hR), if_neg hJ, if_neg (by simpa using hc), if_pos hn])|exact Zo (h := by unfold stkErr; rw [if_neg (by omega), if_neg hU', if_neg (by simpa using hR), if_neg hJ, if_neg (by simpa using hc), if_pos hn])|refine ResLe.agg ?_|refine And.intro ?_ ?_)))
    · have hn : ¬ reps ss := by simp_all
      (repeat' (first|exact Zrq|exact Zi (by unfold stkErr; rw [if_neg (by omega), if_neg hU', if_neg (by simpa using hR), if_neg hJ, if_neg (by simpa using hc), if_neg hn])|exact Zo (h := by unfold stkErr; rw [if_neg (by omega), if_neg hU', if_neg (by simpa using hR), if_neg hJ, if_neg (by simpa using hc), if_neg hn])|refine ResLe.agg ?_|refine And.intro ?_ ?_|((conv=>whnf); first|exact Zrq|exact Zi (by unfold stkErr; rw [if_neg (by omega), if_neg hU', if_neg (by simpa using hR), if_neg hJ, if_neg (by simpa using hc), if_neg hn])|exact Zo (h := by unfold stkErr; rw [if_neg (by omega), if_neg hU', if_neg (by simpa using hR), if_neg hJ, if_neg (by simpa using hc), if_neg hn])|refine ResLe.agg ?_|refine And.intro ?_ ?_)))

def noLt : Lt := ⟨0, ⟨#[]⟩, 0, 0, []⟩
def findV (ss : List Lt) (id : Int) : Lt := (ss.find? fun x => decide (x.id = id)).getD noLt
def hasI (ss : List Lt) (id : Int) : Prop := ∃ x ∈ ss, x.id = id
instance (ss : List Lt) (id : Int) : Decidable (hasI ss id) := by unfold hasI; exact inferInstance
theorem find_at {ss : List Lt} {id : Int} {k : Nat} (hk : k < ss.length) (hz : ∀ i, i < k → (ss.getD i default).id ≠ id) (hv : (ss.getD k default).id = id) : ss.find? (fun x => decide (x.id = id)) = some (ss.getD k default) := by
  induction ss generalizing k with
  | nil => simp at hk
  | cons a l ih =>
    cases k with
    | zero =>
      have : a.id = id := by simpa using hv
      simp [this]
    | succ k =>
      have h0 : a.id ≠ id := by simpa using hz 0 (by omega)
      have := ih (k := k) (by simpa using hk) (fun i hi => by simpa using hz (i + 1) (by omega)) (by simpa using hv)
      rw [List.find?_cons_of_neg (by simpa using h0), this]
      simp
theorem find_none {ss : List Lt} {id : Int} (hz : ∀ i, i < ss.length → (ss.getD i default).id ≠ id) : ss.find? (fun x => decide (x.id = id)) = none := by
  rw [List.find?_eq_none]
  intro x hx
  obtain ⟨i, hi, rfl⟩ := List.getElem_of_mem hx
  have := hz i hi
  rw [getD_of hi] at this
  simpa using this
theorem find_t (ss : List Lt) (id : Int) (hS : ss.length ≤ 1000000) (hU : ∀ x ∈ ss, x.us.length ≤ 1000000) : ACalls XX 12 [.dat (ltD ss), iA id] (.tup [ltA (findV ss id), bA (decide (hasI ss id))]) := by
  refine ACalls.of (n := Tryz.f12.ntmps) XX_ok Tryz.func12 rfl (by kernel_rfl) rfl rfl (Nat.le_of_ble_eq_true rfl) ?_
  (repeat' (first|((first|refine Zg ?_|refine Zn ?_|refine Zc ?_|refine Zu fun b hb=>?_);conv=>whnf)|(refine Zb ?_ ?_<;>(intro h;first|exact Zx|conv=>whnf))))
  refine (W.loopK (ι := Nat) [1, 4, 8, 9] [4] (fun k => [(10, iA k)]) (fun _ => []) (fun k => k ≤ ss.length ∧ ∀ i, i < k → (ss.getD i default).id ≠ id) (fun k => ss.length - k) 0 ⟨Nat.zero_le _, fun i hi => absurd hi (by omega)⟩ ?_ ?_ ?_)
  · exact Yz
  · exact Yz
  conv => whnf
  intro k ⟨hk, hz⟩
  by_cases hk' : k < ss.length
  · have hd := copied_t (ss.getD k default) (hU _ (getD_in hk'))
    (repeat' (first|((first|refine Zg ?_|refine Zn ?_|refine Zc ?_|refine Zu fun b hb=>?_|refine Zy hd ?_);conv=>whnf)|(refine Zb ?_ ?_<;>(intro h;first|exact Zx|conv=>whnf))))
    all_goals (try dsimp only [Int.toNat_natCast] at *)
    · have h1 := find_at hk' hz (by omega)
      have h2 : hasI ss id := ⟨_, getD_in hk', by omega⟩
      have h3 : findV ss id = ss.getD k default := by unfold findV; rw [h1]; rfl
      rw [h3]
      (repeat' (first|exact Zrq|exact Zi (by simp [h2])|exact Zo (h := by simp [h2])|refine ResLe.agg ?_|refine And.intro ?_ ?_|((conv=>whnf); first|exact Zrq|exact Zi (by simp [h2])|exact Zo (h := by simp [h2])|refine ResLe.agg ?_|refine And.intro ?_ ?_)))
    · refine ⟨k + 1, ⟨by omega, fun i hi => ?_⟩, by omega, ?_, ?_, ?_, ?_⟩
      · by_cases hik : i = k
        · subst hik; omega
        · exact hz i (by omega)
      all_goals exact Yz
  · have h1 := find_none (ss := ss) (id := id) fun i hi => hz i (by omega)
    have h2 : ¬ hasI ss id := fun ⟨x, hx, he⟩ => by
      obtain ⟨i, hi, rfl⟩ := List.getElem_of_mem hx
      have := hz i (by omega)
      rw [getD_of hi] at this
      exact this he
    have h3 : findV ss id = noLt := by unfold findV; rw [h1]; rfl
    rw [h3]
    (repeat' (first|((first|refine Zg ?_|refine Zn ?_|refine Zc ?_|refine Zu fun b hb=>?_);conv=>whnf)|(refine Zb ?_ ?_<;>(intro h;first|exact Zx|conv=>whnf))))
    all_goals (repeat' (first|exact Zrq|exact Zi (by first|rfl|simp [h2])|exact Zo (h := by first|rfl|simp [h2])|refine ResLe.agg ?_|refine And.intro ?_ ?_|((conv=>whnf); first|exact Zrq|exact Zi (by first|rfl|simp [h2])|exact Zo (h := by first|rfl|simp [h2])|refine ResLe.agg ?_|refine And.intro ?_ ?_)))

end Go.Proofs.YtacpjihbbmoolaaGreatDoor
