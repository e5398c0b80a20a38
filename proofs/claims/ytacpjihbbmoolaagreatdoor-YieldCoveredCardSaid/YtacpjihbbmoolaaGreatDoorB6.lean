/- Stocks: sources covered, lots presented, split. -/
import Derived.Test.YtacpjihbbmoolaaGreatDoorB5

namespace Go.Proofs.YtacpjihbbmoolaaGreatDoor
open Go Go.RowKit
set_option linter.unusedVariables false
set_option linter.unusedSimpArgs false
set_option maxRecDepth 100000
set_option maxHeartbeats 4000000
attribute [local irreducible] ResLe AVle ArgLe ArgP EntLe Dle ResH ArgQ

structure StkOk (ss : List Lt) : Prop where
  len : ss.length ≤ 64
  us : ∀ x ∈ ss, x.us.length ≤ 64
  ok : ∀ x ∈ ss, ltOk x
  jn : ∀ x ∈ ss, (joinL x.us).length = x.us.length
  asc : ascI ss
  rep : ¬ reps ss
theorem stkErr_ok {ss : List Lt} (h : stkErr ss = 0) : StkOk ss := by
  unfold stkErr at h
  split at h
  · contradiction
  rename_i h1
  split at h
  · contradiction
  rename_i h2
  split at h
  · contradiction
  rename_i h3
  split at h
  · contradiction
  rename_i h4
  split at h
  · contradiction
  rename_i h5
  split at h
  · contradiction
  rename_i h6
  exact ⟨by omega, fun x hx => by
    rcases Nat.lt_or_ge 64 x.us.length with h|h
    · exact absurd ⟨x, hx, h⟩ h2
    · exact h, Decidable.not_not.1 h3, fun x hx => by
    by_cases h : (joinL x.us).length = x.us.length
    · exact h
    · exact absurd ⟨x, hx, h⟩ h4, Decidable.not_not.1 h5, h6⟩
theorem stkErr_zero {ss : List Lt} (h : StkOk ss) : stkErr ss = 0 := by
  unfold stkErr
  rw [if_neg (by have := h.len; omega), if_neg (fun ⟨x, hx, h1⟩ => by have := h.us x hx; omega), if_neg (by simpa using h.ok), if_neg (fun ⟨x, hx, h1⟩ => h1 (h.jn x hx)), if_neg (by simpa using h.asc), if_neg h.rep]

def ofS (us : List Sl) (src : Int) : List Sl := us.filter fun s => decide (s.m = src)
def covL (ss : List Lt) (src : Int) : List Sl := ofS (here ss).flatten src
def covP (ss : List Lt) (src u : Int) : Prop := (∀ s ∈ covL ss src, s.e ≤ u) ∧ cnt (covL ss src) = u
noncomputable instance (ss : List Lt) (src u : Int) : Decidable (covP ss src u) := Classical.propDecidable _
theorem ofS_app (a b : List Sl) (src : Int) : ofS (a ++ b) src = ofS a src ++ ofS b src := by unfold ofS; exact List.filter_append ..
theorem cov_snoc (ss : List Lt) (src : Int) (k : Nat) (h : k < ss.length) : covL (ss.take (k + 1)) src = if (ss.getD k default).p = 13 then covL (ss.take k) src else covL (ss.take k) src ++ ofS (ss.getD k default).us src := by
  unfold covL
  rw [here_snoc ss k h]
  split
  · rfl
  · rw [List.flatten_append, ofS_app]
    simp
theorem ofS_snoc (us : List Sl) (src : Int) (i : Nat) (h : i < us.length) : ofS (us.take (i + 1)) src = if (us.getD i default).m = src then ofS (us.take i) src ++ [us.getD i default] else ofS (us.take i) src := by
  rw [take_snoc us i h, ofS_app]
  by_cases hp : (us.getD i default).m = src
  · rw [if_pos hp]
    congr 1
    unfold ofS
    rw [List.filter_cons_of_pos (p := fun s : Sl => decide (s.m = src)) (decide_eq_true hp)]
    rfl
  · rw [if_neg hp]
    unfold ofS
    rw [List.filter_cons_of_neg (p := fun s : Sl => decide (s.m = src)) (fun h => hp (of_decide_eq_true h)), List.filter_nil, List.append_nil]
theorem cov_take (ss : List Lt) (src : Int) (k : Nat) (h : k ≤ ss.length) : ∀ s ∈ covL (ss.take k) src, s ∈ covL ss src := by
  intro s hs
  have : covL ss src = covL (ss.take k) src ++ covL (ss.drop k) src := by
    conv => lhs; rw [← List.take_append_drop k ss]
    unfold covL here
    rw [List.filter_append, List.map_append, List.flatten_append, ofS_app]
  rw [this]
  exact List.mem_append_left _ hs
theorem covers_t (ss : List Lt) (src u : Int) (hL : ss.length ≤ 9223372036854775807) : ACalls XX 11 [.dat (ltD ss), iA src, iA u] (bA (decide (qOk u ∧ stkErr ss = 0 ∧ covP ss src u))) := by
  have h1 := validQ_t u
  have h2 := validate_t ss hL
  by_cases hq : qOk u
  · by_cases hs : stkErr ss = 0
    · have hO := stkErr_ok hs
      have hlen := hO.len
      have hcnt : ∀ k, 0 ≤ cnt (covL (ss.take k) src) ∧ cnt (covL (ss.take k) src) ≤ 1000000000 * 4096 := fun k => by
        have hU : ∀ l ∈ here (ss.take k), l.length ≤ 64 := fun l hl => by
          unfold here at hl
          obtain ⟨x, hx, rfl⟩ := List.mem_map.1 hl
          exact hO.us x (List.mem_of_mem_take (List.mem_filter.1 hx).1)
        have hf := flat_len hU
        have hh := here_len (ss.take k)
        have ht : (ss.take k).length ≤ ss.length := List.length_take_le' ..
        have hv : ∀ y ∈ covL (ss.take k) src, slOk y := fun y hy => by
          obtain ⟨hy1, _⟩ := List.mem_filter.1 hy
          obtain ⟨l, hl, hyl⟩ := List.mem_flatten.1 hy1
          unfold here at hl
          obtain ⟨x, hx, rfl⟩ := List.mem_map.1 hl
          exact (hO.ok x (List.mem_of_mem_take (List.mem_filter.1 hx).1)).2.2.2.2 y hyl
        have hcl : (covL (ss.take k) src).length ≤ (here (ss.take k)).flatten.length := List.length_filter_le ..
        have c1 := cnt_nonneg (slOk_le hv)
        have c2 := cnt_le hv
        omega
      rw [hs] at h2
      rw [decide_eq_true hq] at h1
      unfold qOk at hq
      refine ACalls.of (n := Tryz.f11.ntmps) XX_ok Tryz.func11 rfl (by kernel_rfl) rfl rfl (Nat.le_of_ble_eq_true rfl) ?_
      (repeat' (first|((first|refine Zg ?_|refine Zn ?_|refine Zc ?_|refine Zu fun b hb=>?_|refine Zy h1 ?_|refine Zy h2 ?_);conv=>whnf)|(refine Zb ?_ ?_<;>(intro h;first|exact Zx|conv=>whnf))))
      refine (W.loopK (ι := Nat) [1, 2, 20, 21] [] (fun k => [(22, iA k), (7, iA (cnt (covL (ss.take k) src)))]) (fun _ => []) (fun k => k ≤ ss.length ∧ ∀ s ∈ covL (ss.take k) src, s.e ≤ u) (fun k => ss.length - k) 0 ⟨Nat.zero_le _, by simp [covL, here, ofS]⟩ ?_ ?_ ?_)
      · (repeat' (first|exact Yq|exact Yi (by first|rfl|(simp [covL, here, ofS, cnt]; done)|omega)|exact Yo (by first|rfl|(simp [covL, here, ofS, cnt]; done)|omega)|exact Ye (by first|rfl|(simp [covL, here, ofS, cnt]; done)|omega)|refine ⟨_, rfl, Yb ?_, rfl⟩|refine ⟨_, rfl, Yw (by first|rfl|(simp [covL, here, ofS, cnt]; done)|omega) ?_, rfl⟩|refine And.intro ?_ ?_))
      · exact Yz
      conv => whnf
      intro k ⟨hk, hz⟩
      have hck := hcnt k
      by_cases hk' : k < ss.length
      · have hsn := cov_snoc ss src k hk'
        have hck1 := hcnt (k + 1)
        have hxs := (hO.ok _ (getD_in hk')).2.2.2.2
        have hxl := hO.us _ (getD_in hk')
        (repeat' (first|((first|refine Zg ?_|refine Zn ?_|refine Zc ?_|refine Zu fun b hb=>?_);conv=>whnf)|(refine Zb ?_ ?_<;>(intro h;first|exact Zx|conv=>whnf))))
        all_goals (try dsimp only [Int.toNat_natCast] at *)
        · rw [if_pos (by assumption)] at hsn
          refine ⟨k + 1, ⟨by omega, by rw [hsn]; exact hz⟩, by omega, ?_, ?_, ?_, ?_⟩
          all_goals (repeat' (first|exact Yq|exact Yi (by first|rfl|(rw [hsn]; done)|omega)|exact Yo (by first|rfl|(rw [hsn]; done)|omega)|exact Ye (by first|rfl|(rw [hsn]; done)|omega)|refine ⟨_, rfl, Yb ?_, rfl⟩|refine ⟨_, rfl, Yw (by first|rfl|(rw [hsn]; done)|omega) ?_, rfl⟩|refine And.intro ?_ ?_))
        rw [if_neg (by assumption)] at hsn
        refine (W.loopK (ι := Nat) [1, 2, 20, 21, 22, 30, 31] [] (fun i => [(32, iA i), (7, iA (cnt (covL (ss.take k) src) + cnt (ofS ((ss.getD k default).us.take i) src)))]) (fun _ => []) (fun i => i ≤ (ss.getD k default).us.length ∧ ∀ s ∈ ofS ((ss.getD k default).us.take i) src, s.e ≤ u) (fun i => (ss.getD k default).us.length - i) 0 ⟨Nat.zero_le _, by simp [ofS]⟩ ?_ ?_ ?_)
        · (repeat' (first|exact Yq|exact Yi (by first|rfl|(simp [ofS, cnt]; done)|omega)|exact Yo (by first|rfl|(simp [ofS, cnt]; done)|omega)|exact Ye (by first|rfl|(simp [ofS, cnt]; done)|omega)|refine ⟨_, rfl, Yb ?_, rfl⟩|refine ⟨_, rfl, Yw (by first|rfl|(simp [ofS, cnt]; done)|omega) ?_, rfl⟩|refine And.intro ?_ ?_))
        · exact Yz
        conv => whnf
        intro i ⟨hi, hy⟩
        have hvi : ∀ y ∈ ofS ((ss.getD k default).us.take i) src, slOk y := fun y hy => hxs y (List.mem_of_mem_take (List.mem_filter.1 hy).1)
        have ci1 := cnt_nonneg (slOk_le hvi)
        have ci2 := cnt_le hvi
        have ci3 : (ofS ((ss.getD k default).us.take i) src).length ≤ ((ss.getD k default).us.take i).length := List.length_filter_le ..
        have ci4 : ((ss.getD k default).us.take i).length ≤ (ss.getD k default).us.length := List.length_take_le' ..
        by_cases hi' : i < (ss.getD k default).us.length
        · have hx := hxs _ (getD_in hi')
          have hsi := ofS_snoc (ss.getD k default).us src i hi'
          unfold slOk at hx
          (repeat' (first|((first|refine Zg ?_|refine Zn ?_|refine Zc ?_|refine Zu fun b hb=>?_);conv=>whnf)|(refine Zb ?_ ?_<;>(intro h;first|exact Zx|conv=>whnf))))
          all_goals (try dsimp only [Int.toNat_natCast] at *)
          (repeat' (first|((first|refine Zg ?_|refine Zn ?_|refine Zc ?_|refine Zu fun b hb=>?_);conv=>whnf)|(refine Zb ?_ ?_<;>(intro h;first|exact Zx|conv=>whnf))))
          · rw [if_neg (by assumption)] at hsi
            refine ⟨i + 1, ⟨by omega, by rw [hsi]; exact hy⟩, by omega, ?_, ?_, ?_, ?_⟩
            all_goals (repeat' (first|exact Yq|exact Yi (by first|rfl|(rw [hsi]; done)|omega)|exact Yo (by first|rfl|(rw [hsi]; done)|omega)|exact Ye (by first|rfl|(rw [hsi]; done)|omega)|refine ⟨_, rfl, Yb ?_, rfl⟩|refine ⟨_, rfl, Yw (by first|rfl|(rw [hsi]; done)|omega) ?_, rfl⟩|refine And.intro ?_ ?_))
          · have hm : ((ss.getD k default).us.getD i default).m = src := by first|assumption|exact Decidable.not_not.1 (by assumption)
            have hn : ¬ covP ss src u := fun hc => by
              have hmem : (ss.getD k default).us.getD i default ∈ covL (ss.take (k + 1)) src := by
                rw [hsn]
                refine List.mem_append_right _ ?_
                unfold ofS
                exact List.mem_filter.2 ⟨getD_in hi', decide_eq_true hm⟩
              have := hc.1 _ (cov_take ss src (k + 1) (by omega) _ hmem)
              omega
            (repeat' (first|exact Zrq|exact Zi (by simp [hn])|exact Zo (h := by simp [hn])|refine ResLe.agg ?_|refine And.intro ?_ ?_|((conv=>whnf); first|exact Zrq|exact Zi (by simp [hn])|exact Zo (h := by simp [hn])|refine ResLe.agg ?_|refine And.intro ?_ ?_)))
          · rw [if_pos (by first|assumption|exact Decidable.not_not.1 (by assumption))] at hsi
            have hc1 : cnt (ofS ((ss.getD k default).us.take (i + 1)) src) = cnt (ofS ((ss.getD k default).us.take i) src) + (((ss.getD k default).us.getD i default).e - ((ss.getD k default).us.getD i default).s) := by
              rw [hsi, cnt_app, cnt_cons, cnt_nil]; unfold lenS; omega
            refine ⟨i + 1, ⟨by omega, fun s hs => ?_⟩, by omega, ?_, ?_, ?_, ?_⟩
            · rw [hsi] at hs
              rcases List.mem_append.1 hs with hs|hs
              · exact hy s hs
              · have : s = (ss.getD k default).us.getD i default := List.mem_singleton.1 hs
                subst this
                omega
            all_goals exact Yz
        · obtain rfl : i = (ss.getD k default).us.length := by omega
          rw [List.take_length] at *
          (repeat' (first|((first|refine Zg ?_|refine Zn ?_|refine Zc ?_|refine Zu fun b hb=>?_);conv=>whnf)|(refine Zb ?_ ?_<;>(intro h;first|exact Zx|conv=>whnf))))
          have hc1 : cnt (covL (ss.take (k + 1)) src) = cnt (covL (ss.take k) src) + cnt (ofS (ss.getD k default).us src) := by rw [hsn, cnt_app]
          refine ⟨k + 1, ⟨by omega, fun s hs => ?_⟩, by omega, ?_, ?_, ?_, ?_⟩
          · rw [hsn] at hs
            rcases List.mem_append.1 hs with hs|hs
            · exact hz s hs
            · exact hy s hs
          all_goals exact Yz
      · obtain rfl : k = ss.length := by omega
        rw [List.take_length] at *
        have e : (qOk u ∧ stkErr ss = 0 ∧ covP ss src u) ↔ cnt (covL ss src) = u := ⟨fun h => h.2.2.2, fun h => ⟨hq, hs, hz, h⟩⟩
        (repeat' (first|((first|refine Zg ?_|refine Zn ?_|refine Zc ?_|refine Zu fun b hb=>?_);conv=>whnf)|(refine Zb ?_ ?_<;>(intro h;first|exact Zx|conv=>whnf))))
        all_goals (repeat' (first|exact Zrq|exact Zi (by exact e.symm)|exact Zo (h := by exact e.symm)|refine ResLe.agg ?_|refine And.intro ?_ ?_|((conv=>whnf); first|exact Zrq|exact Zi (by exact e.symm)|exact Zo (h := by exact e.symm)|refine ResLe.agg ?_|refine And.intro ?_ ?_)))
    · refine ACalls.of (n := Tryz.f11.ntmps) XX_ok Tryz.func11 rfl (by kernel_rfl) rfl rfl (Nat.le_of_ble_eq_true rfl) ?_
      (repeat' (first|((first|refine Zg ?_|refine Zn ?_|refine Zc ?_|refine Zu fun b hb=>?_|refine Zy h1 ?_|refine Zy h2 ?_);conv=>whnf)|(refine Zb ?_ ?_<;>(intro h;first|exact Zx|conv=>whnf))))
      all_goals (repeat' (first|exact Zrq|exact Zi (by simp [hs])|exact Zo (h := by simp [hs])|refine ResLe.agg ?_|refine And.intro ?_ ?_|((conv=>whnf); first|exact Zrq|exact Zi (by simp [hs])|exact Zo (h := by simp [hs])|refine ResLe.agg ?_|refine And.intro ?_ ?_)))
  · refine ACalls.of (n := Tryz.f11.ntmps) XX_ok Tryz.func11 rfl (by kernel_rfl) rfl rfl (Nat.le_of_ble_eq_true rfl) ?_
    (repeat' (first|((first|refine Zg ?_|refine Zn ?_|refine Zc ?_|refine Zu fun b hb=>?_|refine Zy h1 ?_|refine Zy h2 ?_);conv=>whnf)|(refine Zb ?_ ?_<;>(intro h;first|exact Zx|conv=>whnf))))
    all_goals (repeat' (first|exact Zrq|exact Zi (by simp [hq])|exact Zo (h := by simp [hq])|refine ResLe.agg ?_|refine And.intro ?_ ?_|((conv=>whnf); first|exact Zrq|exact Zi (by simp [hq])|exact Zo (h := by simp [hq])|refine ResLe.agg ?_|refine And.intro ?_ ?_)))

end Go.Proofs.YtacpjihbbmoolaaGreatDoor
