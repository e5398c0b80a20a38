/- yield.Process: whether the lots are what the recipe wants. -/
import Derived.Test.YtacpjihbbmoolaaGreatDoorP2
import Derived.Test.YtacpjihbbmoolaaGreatDoorFY
import Derived.Test.YtacpjihbbmoolaaGreatDoorC8

namespace Go.Proofs.YtacpjihbbmoolaaGreatDoor
open Go Go.RowKit
set_option linter.unusedVariables false
set_option linter.unusedSimpArgs false
set_option maxRecDepth 100000
set_option maxHeartbeats 4000000
attribute [local irreducible] ResLe AVle ArgLe ArgP EntLe Dle ResH ArgQ strEq strLt

def haM (xs : List Lt) : ML := xs.foldl (fun M x => putM M x.c (getM M x.c + x.q)) []
theorem haM_snoc (xs : List Lt) (x : Lt) : haM (xs ++ [x]) = putM (haM xs) x.c (getM (haM xs) x.c + x.q) := by unfold haM; rw [List.foldl_append]; rfl
theorem haM_succ {xs : List Lt} {k : Nat} (h : k < xs.length) : haM (xs.take (k + 1)) = putM (haM (xs.take k)) (xs.getD k default).c (getM (haM (xs.take k)) (xs.getD k default).c + (xs.getD k default).q) := by rw [take_snoc xs k h, haM_snoc]
theorem haM_len (xs : List Lt) : ∀ k, k ≤ xs.length → (haM (xs.take k)).length ≤ k
  | 0, _ => by simp [haM]
  | k + 1, h => by
    have ih := haM_len xs k (by omega)
    rw [haM_succ (by omega)]
    have := len_put (haM (xs.take k)) (xs.getD k default).c (getM (haM (xs.take k)) (xs.getD k default).c + (xs.getD k default).q)
    omega
theorem haM_bnd {xs : List Lt} (hq : ∀ x ∈ xs, 0 ≤ x.q ∧ x.q ≤ 1000000000) (c : ByteArray) : ∀ k, k ≤ xs.length → 0 ≤ getM (haM (xs.take k)) c ∧ getM (haM (xs.take k)) c ≤ 1000000000 * k
  | 0, _ => by simp [haM, getM]
  | k + 1, h => by
    have ih := haM_bnd hq c k (by omega)
    have ih2 := haM_bnd hq (xs.getD k default).c k (by omega)
    have hx := hq _ (getD_in (show k < xs.length by omega))
    rw [haM_succ (by omega), getM_put]
    split <;> omega
noncomputable def clE (xs : List Lt) (us : List Nd) : Int := open Classical in if ¬ ∀ x ∈ xs, mvP x.p then 17 else if ¬ ∀ x ∈ xs, x.p = (xs.getD 0 default).p then 14 else if (haM xs).length ≠ us.length then 14 else if ¬ ∀ x ∈ us, getM (haM xs) x.c = x.q then 14 else 0
theorem ylots_t (xs : List Lt) (us : List Nd) (hL : xs.length ≤ 16) (hU : us.length ≤ 64) (hC : ∀ x ∈ xs, x.c.size ≤ 1000) (hq : ∀ x ∈ xs, 0 ≤ x.q ∧ x.q ≤ 1000000000) (hD : ∀ x ∈ us, x.c.size ≤ 1000) :
    ACalls XX 30 [.dat (ltD xs), .dat (ndD us)] (iA (clE xs us)) := by
  have hm : (1000 : Nat) ≤ maxLen := by decide
  refine ACalls.of (n := Tryz.f30.ntmps) XX_ok Tryz.func30 rfl (by kernel_rfl) rfl rfl (Nat.le_of_ble_eq_true rfl) ?_
  (repeat' (first|((first|refine Zg ?_|refine Zt dr30 ?_|refine Zn ?_|refine Zc ?_|refine Zu fun b hb=>?_);conv=>whnf)|(refine Zb ?_ ?_<;>(intro h;first|exact Zx|conv=>whnf))))
  refine (W.loopK (ι := Nat) [0, 1, 12, 13] [] (fun k => [(14, iA k)]) (fun _ => []) (fun k => k ≤ xs.length ∧ ∀ i, i < k → mvP (xs.getD i default).p) (fun k => xs.length - k) 0 ⟨Nat.zero_le _, fun i hi => absurd hi (by omega)⟩ ?_ ?_ ?_)
  · exact Yz
  · exact Yz
  conv => whnf
  intro k ⟨hk, hz⟩
  by_cases hk' : k < xs.length
  · by_cases hok : mvP (xs.getD k default).p
    · have hok' := hok
      unfold mvP at hok'
      (repeat' (first|((first|refine Zg ?_|refine Zt dr30 ?_|refine Zn ?_|refine Zc ?_|refine Zu fun b hb=>?_);conv=>whnf)|(refine Zb ?_ ?_<;>(intro h;first|exact Zx|conv=>whnf))))
      all_goals (try dsimp only [Int.toNat_natCast] at *)
      (repeat' (first|((first|refine Zg ?_|refine Zt dr30 ?_|refine Zn ?_|refine Zc ?_|refine Zu fun b hb=>?_);conv=>whnf)|(refine Zb ?_ ?_<;>(intro h;first|exact Zx|conv=>whnf))))
      all_goals first|(exfalso; omega)|skip
      all_goals refine ⟨k + 1, ⟨by omega, fun i hi => ?_⟩, by omega, ?_, ?_, ?_, ?_⟩
      all_goals first|(by_cases hik : i = k; (subst hik; exact hok); exact hz i (by omega))|((repeat' (first|exact Yq|refine ⟨_, rfl, Yb ?_, rfl⟩|refine ⟨_, rfl, Yw (by first|rfl|omega) ?_, rfl⟩|refine And.intro ?_ ?_)))
    · have hE : clE xs us = 17 := by unfold clE; rw [if_pos fun ha => hok (ha _ (getD_in hk'))]
      rw [hE]
      unfold mvP at hok
      (repeat' (first|((first|refine Zg ?_|refine Zt dr30 ?_|refine Zn ?_|refine Zc ?_|refine Zu fun b hb=>?_);conv=>whnf)|(refine Zb ?_ ?_<;>(intro h;first|exact Zx|conv=>whnf))))
      all_goals (try dsimp only [Int.toNat_natCast] at *)
      (repeat' (first|((first|refine Zg ?_|refine Zt dr30 ?_|refine Zn ?_|refine Zc ?_|refine Zu fun b hb=>?_);conv=>whnf)|(refine Zb ?_ ?_<;>(intro h;first|exact Zx|conv=>whnf))))
      all_goals first|exact Zrz|(exfalso; omega)
  have hO1 : ∀ x ∈ xs, mvP x.p := all_getD.2 fun i hi => hz i (by omega)
  obtain rfl : k = xs.length := by omega
  clear hz
  have hE0 : clE xs us = open Classical in if ¬ ∀ x ∈ xs, x.p = (xs.getD 0 default).p then 14 else if (haM xs).length ≠ us.length then 14 else if ¬ ∀ x ∈ us, getM (haM xs) x.c = x.q then 14 else 0 := by unfold clE; rw [if_neg (by simpa using hO1)]
  (repeat' (first|((first|refine Zg ?_|refine Zt dr30 ?_|refine Zn ?_|refine Zc ?_|refine Zu fun b hb=>?_);conv=>whnf)|(refine Zb ?_ ?_<;>(intro h;first|exact Zx|conv=>whnf))))
  all_goals first|(exfalso; omega)|skip
  refine (W.loopK (ι := Nat) [0, 1, 7, 28, 29] [] (fun k => [(30, iA k)]) (fun k => [(27, .mp XX.P 9 3 (haM (xs.take k)))]) (fun k => k ≤ xs.length ∧ ∀ i, i < k → (xs.getD i default).p = (xs.getD 0 default).p) (fun k => xs.length - k) 0 ⟨Nat.zero_le _, fun i hi => absurd hi (by omega)⟩ ?_ ?_ ?_)
  · exact Yz
  · exact Yz
  conv => whnf
  intro k ⟨hk, hz⟩
  by_cases hk' : k < xs.length
  · have s1 : (xs.getD k default).c.size ≤ maxLen := Nat.le_trans (hC _ (getD_in hk')) hm
    have s2 : (haM (xs.take k)).length < maxLen := Nat.lt_of_le_of_lt (haM_len xs k hk) (Nat.lt_of_lt_of_le (show k < 65 by omega) (by decide))
    have s3 := haM_bnd hq (xs.getD k default).c k hk
    have s4 := hq _ (getD_in hk')
    have e1 := haM_succ hk'
    by_cases hok : (xs.getD k default).p = (xs.getD 0 default).p
    · (repeat' (first|((first|refine Zg ?_|refine Zt dr30 ?_|refine Zn ?_|refine Zc ?_|refine Zu fun b hb=>?_);conv=>whnf)|(refine Zb ?_ ?_<;>(intro h;first|exact Zx|conv=>whnf))))
      all_goals (try dsimp only [Int.toNat_natCast] at *)
      (repeat' (first|((first|refine Zg ?_|refine Zt dr30 ?_|refine Zn ?_|refine Zc ?_|refine Zu fun b hb=>?_);conv=>whnf)|(refine Zb ?_ ?_<;>(intro h;first|exact Zx|conv=>whnf))))
      all_goals first|(exfalso; omega)|skip
      refine ⟨⟨rfl, rfl, rfl, s1⟩, ?_⟩
      conv => whnf
      (repeat' (first|((first|refine Zg ?_|refine Zt dr30 ?_|refine Zn ?_|refine Zc ?_|refine Zu fun b hb=>?_);conv=>whnf)|(refine Zb ?_ ?_<;>(intro h;first|exact Zx|conv=>whnf))))
      refine ⟨⟨rfl, rfl, rfl, s1, s2, by omega, by omega⟩, ?_⟩
      conv => whnf
      (repeat' (first|((first|refine Zg ?_|refine Zt dr30 ?_|refine Zn ?_|refine Zc ?_|refine Zu fun b hb=>?_);conv=>whnf)|(refine Zb ?_ ?_<;>(intro h;first|exact Zx|conv=>whnf))))
      refine ⟨k + 1, ⟨by omega, fun i hi => ?_⟩, by omega, ?_, ?_, ?_, ?_⟩
      · by_cases hik : i = k
        · subst hik; exact hok
        · exact hz i (by omega)
      all_goals (try rw [e1])
      all_goals exact Yz
    · have hE : clE xs us = 14 := by rw [hE0, if_pos fun ha => hok (ha _ (getD_in hk'))]
      rw [hE]
      (repeat' (first|((first|refine Zg ?_|refine Zt dr30 ?_|refine Zn ?_|refine Zc ?_|refine Zu fun b hb=>?_);conv=>whnf)|(refine Zb ?_ ?_<;>(intro h;first|exact Zx|conv=>whnf))))
      all_goals (try dsimp only [Int.toNat_natCast] at *)
      (repeat' (first|((first|refine Zg ?_|refine Zt dr30 ?_|refine Zn ?_|refine Zc ?_|refine Zu fun b hb=>?_);conv=>whnf)|(refine Zb ?_ ?_<;>(intro h;first|exact Zx|conv=>whnf))))
      all_goals first|exact Zrz|(exfalso; omega)
  have hO2 : ∀ x ∈ xs, x.p = (xs.getD 0 default).p := all_getD.2 fun i hi => hz i (by omega)
  obtain rfl : k = xs.length := by omega
  clear hz
  rw [if_neg (by simpa using hO2)] at hE0
  rw [List.take_length] at *
  by_cases hl : (haM xs).length ≠ us.length
  · rw [if_pos hl] at hE0
    rw [hE0]
    (repeat' (first|((first|refine Zg ?_|refine Zt dr30 ?_|refine Zn ?_|refine Zc ?_|refine Zu fun b hb=>?_);conv=>whnf)|(refine Zb ?_ ?_<;>(intro h;first|exact Zx|conv=>whnf))))
    all_goals first|exact Zrz|(exfalso; omega)
  rw [if_neg hl] at hE0
  (repeat' (first|((first|refine Zg ?_|refine Zt dr30 ?_|refine Zn ?_|refine Zc ?_|refine Zu fun b hb=>?_);conv=>whnf)|(refine Zb ?_ ?_<;>(intro h;first|exact Zx|conv=>whnf))))
  all_goals first|(exfalso; omega)|skip
  refine (W.loopK (ι := Nat) [7, 54, 55] [27] (fun k => [(56, iA k)]) (fun _ => []) (fun k => k ≤ us.length ∧ ∀ i, i < k → getM (haM xs) (us.getD i default).c = (us.getD i default).q) (fun k => us.length - k) 0 ⟨Nat.zero_le _, fun i hi => absurd hi (by omega)⟩ ?_ ?_ ?_)
  · exact Yz
  · exact Yz
  conv => whnf
  intro k ⟨hk, hz⟩
  by_cases hk' : k < us.length
  · have s1 : (us.getD k default).c.size ≤ maxLen := Nat.le_trans (hD _ (getD_in hk')) hm
    by_cases hok : getM (haM xs) (us.getD k default).c = (us.getD k default).q
    · (repeat' (first|((first|refine Zg ?_|refine Zt dr30 ?_|refine Zn ?_|refine Zc ?_|refine Zu fun b hb=>?_);conv=>whnf)|(refine Zb ?_ ?_<;>(intro h;first|exact Zx|conv=>whnf))))
      all_goals (try dsimp only [Int.toNat_natCast] at *)
      (repeat' (first|((first|refine Zg ?_|refine Zt dr30 ?_|refine Zn ?_|refine Zc ?_|refine Zu fun b hb=>?_);conv=>whnf)|(refine Zb ?_ ?_<;>(intro h;first|exact Zx|conv=>whnf))))
      all_goals first|(exfalso; omega)|skip
      refine ⟨⟨rfl, rfl, rfl, s1⟩, ?_⟩
      conv => whnf
      (repeat' (first|((first|refine Zg ?_|refine Zt dr30 ?_|refine Zn ?_|refine Zc ?_|refine Zu fun b hb=>?_);conv=>whnf)|(refine Zb ?_ ?_<;>(intro h;first|exact Zx|conv=>whnf))))
      all_goals first|(exfalso; omega)|skip
      refine ⟨k + 1, ⟨by omega, fun i hi => ?_⟩, by omega, ?_, ?_, ?_, ?_⟩
      · by_cases hik : i = k
        · subst hik; exact hok
        · exact hz i (by omega)
      all_goals exact Yz
    · have hE : clE xs us = 14 := by rw [hE0, if_pos fun ha => hok (ha _ (getD_in hk'))]
      rw [hE]
      (repeat' (first|((first|refine Zg ?_|refine Zt dr30 ?_|refine Zn ?_|refine Zc ?_|refine Zu fun b hb=>?_);conv=>whnf)|(refine Zb ?_ ?_<;>(intro h;first|exact Zx|conv=>whnf))))
      all_goals (try dsimp only [Int.toNat_natCast] at *)
      (repeat' (first|((first|refine Zg ?_|refine Zt dr30 ?_|refine Zn ?_|refine Zc ?_|refine Zu fun b hb=>?_);conv=>whnf)|(refine Zb ?_ ?_<;>(intro h;first|exact Zx|conv=>whnf))))
      all_goals first|(exfalso; omega)|skip
      refine ⟨⟨rfl, rfl, rfl, s1⟩, ?_⟩
      conv => whnf
      (repeat' (first|((first|refine Zg ?_|refine Zt dr30 ?_|refine Zn ?_|refine Zc ?_|refine Zu fun b hb=>?_);conv=>whnf)|(refine Zb ?_ ?_<;>(intro h;first|exact Zx|conv=>whnf))))
      all_goals first|exact Zrz|(exfalso; omega)
  have hO3 : ∀ x ∈ us, getM (haM xs) x.c = x.q := all_getD.2 fun i hi => hz i (by omega)
  have hE : clE xs us = 0 := by rw [hE0, if_neg (by simpa using hO3)]
  rw [hE]
  (repeat' (first|((first|refine Zg ?_|refine Zt dr30 ?_|refine Zn ?_|refine Zc ?_|refine Zu fun b hb=>?_);conv=>whnf)|(refine Zb ?_ ?_<;>(intro h;first|exact Zx|conv=>whnf))))
  all_goals first|exact Zrz|(exfalso; omega)
end Go.Proofs.YtacpjihbbmoolaaGreatDoor
