/- Units and compact lists; the reference's lists of slices. -/
import Derived.Test.YtacpjihbbmoolaaGreatB2
namespace Go.Proofs.YtacpjihbbmoolaaGreat
open Go Go.RowKit
set_option linter.unusedVariables false
set_option linter.unusedSimpArgs false
set_option maxRecDepth 100000
set_option maxHeartbeats 4000000
attribute [local irreducible] ResLe AVle ArgLe ArgP EntLe Dle ResH ArgQ

theorem lotErr_ok {us : List Sl} (h : lotErr us = 0) : us.length ≤ 64 ∧ (∀ y ∈ us, slOk y) ∧ ¬ ovl us := by
  unfold lotErr at h
  split at h
  · contradiction
  rename_i h1
  split at h
  · contradiction
  rename_i h2
  split at h
  · contradiction
  rename_i h3
  exact ⟨by omega, by simpa using h2, h3⟩
theorem rcount_t (us : List Sl) (h : ∀ y ∈ us, slOk y) (hL : us.length ≤ 100000) : ACalls XX 78 [.dat (slD us)] (iA (cnt us)) := by
  refine ACalls.of (n := Tryz.f78.ntmps) XX_ok Tryz.func78 rfl (by kernel_rfl) rfl rfl (Nat.le_of_ble_eq_true rfl) ?_
  (repeat' (first | ((first | refine Zg ?_ | refine Zt dr78 ?_ | refine Zn ?_ | refine Zc ?_ | refine Zu fun b hb => ?_); conv => whnf) | (refine Zb (fun h => ?_) (fun h => ?_) <;> first | exact Zx | (conv => whnf))))
  refine (W.loopK (ι := Nat) [0] [] (fun k => [(4, iA k), (3, iA (cnt (us.take k)))]) (fun _ => []) (fun k => k ≤ us.length) (fun k => us.length - k) 0 (Nat.zero_le _) ?_ ?_ ?_)
  · exact Yz
  · exact Yz
  conv => whnf
  intro k hk
  have hr := cnt_rng h k
  by_cases hk' : k < us.length
  · have hx := h _ (getD_in hk')
    have ht := cnt_take us k hk'
    unfold slOk at hx
    unfold lenS at ht
    (repeat' (first | ((first | refine Zg ?_ | refine Zt dr78 ?_ | refine Zn ?_ | refine Zc ?_ | refine Zu fun b hb => ?_); conv => whnf) | (refine Zb (fun h => ?_) (fun h => ?_) <;> first | exact Zx | (conv => whnf))))
    all_goals (try dsimp only [Int.toNat_natCast] at *)
    refine ⟨k + 1, by omega, by omega, ?_, ?_, ?_, ?_⟩ <;> (repeat' (first | exact Yq | refine ⟨_, rfl, Yb ?_, rfl⟩ | refine ⟨_, rfl, Yw (by first | rfl | omega) ?_, rfl⟩ | refine And.intro ?_ ?_))
  · obtain rfl : k = us.length := by omega
    rw [List.take_length] at *
    (repeat' (first | ((first | refine Zg ?_ | refine Zt dr78 ?_ | refine Zn ?_ | refine Zc ?_ | refine Zu fun b hb => ?_); conv => whnf) | (refine Zb (fun h => ?_) (fun h => ?_) <;> first | exact Zx | (conv => whnf))))
    all_goals exact Zrz
theorem foldR_take_succ (us : List Sl) (a : List Sl) (i : Nat) (h : i < us.length) : (us.take (i + 1)).foldl extR a = extR ((us.take i).foldl extR a) (us.getD i default) := by
  rw [List.take_succ_eq_append_getElem h, List.foldl_append, List.getD_eq_getElem?_getD, List.getElem?_eq_getElem h]
  rfl
theorem foldl_extR_len (us : List Sl) : ∀ l, (us.foldl extR l).length ≤ l.length + us.length := by
  induction us with
  | nil => intro l; simp
  | cons x us ih =>
    intro l
    have h1 := ih (extR l x)
    have h2 := extR_len l x
    simp only [List.foldl_cons, List.length_cons]
    omega
theorem rjoin_t (us : List Sl) (hL : us.length ≤ 100000) : ACalls XX 71 [.dat (slD us)] (.dat (slD (us.foldl extR []))) := by
  refine ACalls.of (n := Tryz.f71.ntmps) XX_ok Tryz.func71 rfl (by kernel_rfl) rfl rfl (Nat.le_of_ble_eq_true rfl) ?_
  (repeat' (first | ((first | refine Zg ?_ | refine Zt dr71 ?_ | refine Zn ?_ | refine Zc ?_ | refine Zu fun b hb => ?_); conv => whnf) | (refine Zb (fun h => ?_) (fun h => ?_) <;> first | exact Zx | (conv => whnf))))
  refine (W.adopt 3 60 84 3 (rowF slE []) rfl rfl rfl rfl ?_)
  conv => whnf
  refine (W.loopK (ι := Nat) [0] [] (fun i => [(4, iA i), (3, .own 60 3 0 ((us.take i).foldl extR []).length)]) (fun i => [(60, .row 84 3 ((us.take i).foldl extR []).length (rowF slE ((us.take i).foldl extR [])))]) (fun i => i ≤ us.length) (fun i => us.length - i) 0 (Nat.zero_le _) ?_ ?_ ?_)
  · exact Yz
  · exact Yz
  conv => whnf
  intro i hi
  have hb := foldl_extR_len (us.take i) []
  have hb2 : (us.take i).length ≤ us.length := List.length_take_le' ..
  by_cases hi' : i < us.length
  · have ht := foldR_take_succ us [] i hi'
    generalize hA : (us.take i).foldl extR [] = A at *
    obtain ⟨x, hX⟩ : ∃ x, us.getD i default = x := ⟨_, rfl⟩
    rw [hX] at ht
    subst hX
    simp only [List.length_nil] at hb
    have hn : 0 < A.length → ((A.length : Int) - 1).toNat = A.length - 1 := fun _ => by omega
    by_cases hg : glues A (us.getD i default)
    · have hrow := glues_row hg _ rfl
      have hlen := extR_glue hg
      have hg' := hg
      unfold glues lastS at hg'
      (repeat' (first | ((first | refine Zg ?_ | refine Zt dr71 ?_ | refine Zn ?_ | refine Zc ?_ | refine Zu fun b hb => ?_); conv => whnf) | (refine Zb (fun h => ?_) (fun h => ?_) <;> first | exact Zx | (conv => whnf))))
      all_goals (try dsimp only [Int.toNat_natCast] at *)
      all_goals (try dsimp only [Int.toNat_natCast] at *)
      all_goals (try rw [hn (by omega)] at *)
      (repeat' (first | ((first | refine Zg ?_ | refine Zt dr71 ?_ | refine Zn ?_ | refine Zc ?_ | refine Zu fun b hb => ?_); conv => whnf) | (refine Zb (fun h => ?_) (fun h => ?_) <;> first | exact Zx | (conv => whnf))))
      all_goals (try simp only [Nat.zero_add] at *)
      all_goals (try dsimp only [Int.toNat_natCast] at *)
      all_goals first | (exfalso; omega) | skip
      refine ⟨i + 1, by omega, by omega, ?_, ?_, ?_, ?_⟩ <;> (repeat' (first | exact Yq | exact Yi (by first | rfl | (rw [ht, hlen]; done) | omega) | exact Yo (by first | rfl | (rw [ht, hlen]; done) | omega) | exact Ye (by first | rfl | (rw [ht, hlen]; done) | omega) | refine ⟨_, rfl, Yb ?_, rfl⟩ | refine ⟨_, rfl, Yw (by first | rfl | (rw [ht, hlen]; done) | omega) ?_, rfl⟩ | refine And.intro ?_ ?_))
      rw [ht]
      exact hrow
    · have e2 := extR_snoc hg
      unfold glues lastS at hg
      (repeat' (first | ((first | refine Zg ?_ | refine Zt dr71 ?_ | refine Zn ?_ | refine Zc ?_ | refine Zu fun b hb => ?_); conv => whnf) | (refine Zb (fun h => ?_) (fun h => ?_) <;> first | exact Zx | (conv => whnf))))
      all_goals (try dsimp only [Int.toNat_natCast] at *)
      all_goals (try dsimp only [Int.toNat_natCast] at *)
      all_goals (try rw [hn (by omega)] at *)
      (repeat' (first | ((first | refine Zg ?_ | refine Zt dr71 ?_ | refine Zn ?_ | refine Zc ?_ | refine Zu fun b hb => ?_); conv => whnf) | (refine Zb (fun h => ?_) (fun h => ?_) <;> first | exact Zx | (conv => whnf))))
      all_goals (try simp only [Nat.zero_add] at *)
      all_goals (try dsimp only [Int.toNat_natCast] at *)
      all_goals first | (exfalso; omega) | skip
      all_goals (refine ⟨i + 1, by omega, by omega, ?_, ?_, ?_, ?_⟩)
      all_goals (repeat' (first | exact Yq | exact Yi (by first | rfl | (rw [ht, e2]; simp; done) | omega) | exact Yo (by first | rfl | (rw [ht, e2]; simp; done) | omega) | exact Ye (by first | rfl | (rw [ht, e2]; simp; done) | omega) | refine ⟨_, rfl, Yb ?_, rfl⟩ | refine ⟨_, rfl, Yw (by first | rfl | (rw [ht, e2]; simp; done) | omega) ?_, rfl⟩ | refine And.intro ?_ ?_))
      all_goals (rw [ht, e2]; refine rowF_snoc rfl fun j hj => ?_)
      all_goals (rcases j with _ | _ | _ | j <;> first | exact Dle.refl _ | omega)
  · obtain rfl : i = us.length := by omega
    rw [List.take_length] at *
    (repeat' (first | ((first | refine Zg ?_ | refine Zt dr71 ?_ | refine Zn ?_ | refine Zc ?_ | refine Zu fun b hb => ?_); conv => whnf) | (refine Zb (fun h => ?_) (fun h => ?_) <;> first | exact Zx | (conv => whnf))))
    all_goals exact Zrz

end Go.Proofs.YtacpjihbbmoolaaGreat
