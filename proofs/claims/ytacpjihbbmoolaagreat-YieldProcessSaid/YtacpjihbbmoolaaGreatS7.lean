/- The reference's validity of a lot; that it is the package's. -/
import Derived.Test.YtacpjihbbmoolaaGreatS3
namespace Go.Proofs.YtacpjihbbmoolaaGreat
open Go Go.RowKit
set_option linter.unusedVariables false
set_option linter.unusedSimpArgs false
set_option maxRecDepth 100000
set_option maxHeartbeats 4000000
attribute [local irreducible] ResLe AVle ArgLe ArgP EntLe Dle ResH ArgQ

def meets (x y : Sl) : Prop := x.m = y.m ∧ x.s < y.e ∧ y.s < x.e
instance (x y : Sl) : Decidable (meets x y) := by unfold meets; exact inferInstance
def anyMeet (us : List Sl) : Prop := ∃ i j, i < j ∧ j < us.length ∧ meets (us.getD i default) (us.getD j default)
noncomputable instance (us : List Sl) : Decidable (anyMeet us) := Classical.propDecidable _
theorem sortAt_inj {n : Nat} {cf : Nat → Nat → Int} (h : Go.Sort.SWO (ltOf cf)) {i j : Nat} (hi : i < n) (hj : j < n) (he : sortAt n cf i = sortAt n cf j) : i = j := by
  have hn : ((List.range n).map (sortAt n cf)).Nodup := (sortAt_perm h).nodup_iff.2 List.nodup_range
  have hp := List.pairwise_iff_getElem.1 hn
  rcases Nat.lt_trichotomy i j with hlt | heq | hgt
  · exact absurd (by rw [List.getElem_map, List.getElem_map, List.getElem_range, List.getElem_range]; exact he) (hp i j (by simpa using hi) (by simpa using hj) hlt)
  · exact heq
  · exact absurd (by rw [List.getElem_map, List.getElem_map, List.getElem_range, List.getElem_range]; exact he.symm) (hp j i (by simpa using hj) (by simpa using hi) hgt)
theorem sortAt_sur {n : Nat} {cf : Nat → Nat → Int} (h : Go.Sort.SWO (ltOf cf)) {a : Nat} (ha : a < n) : ∃ i, i < n ∧ sortAt n cf i = a := by
  have := (sortAt_perm (n := n) h).mem_iff.2 (List.mem_range.2 ha)
  obtain ⟨i, hi, he⟩ := List.mem_map.1 this
  exact ⟨i, List.mem_range.1 hi, he⟩
theorem srt_le (us : List Sl) {i j : Nat} (hij : i < j) (hj : j < us.length) : (srt us i).m < (srt us j).m ∨ ((srt us i).m = (srt us j).m ∧ (srt us i).s ≤ (srt us j).s) := by
  have h : ¬ slCf (srt us j) (srt us i) < 0 := sortAt_le (cfL_swo us) hij hj
  rw [slCf_neg] at h
  omega
theorem ovl_iff (us : List Sl) (hv : ∀ x ∈ us, slOk x) : ovl us ↔ anyMeet us := by
  have hS := cfL_swo us
  constructor
  · rintro ⟨i, hi, hm, hs⟩
    have h1 := srt_le us (i := i) (j := i + 1) (by omega) hi
    have l1 := sortAt_lt hS (show i < us.length by omega)
    have l2 := sortAt_lt hS hi
    have hne : sortAt us.length (cfL us) i ≠ sortAt us.length (cfL us) (i + 1) := fun e => by
      have := sortAt_inj hS (by omega) hi e
      omega
    have v1 := hv _ (getD_in l1)
    have v2 := hv _ (getD_in l2)
    unfold slOk at v1 v2
    have hmt : meets (srt us i) (srt us (i + 1)) := by
      unfold meets
      unfold srt at *
      omega
    rcases Nat.lt_or_gt_of_ne hne with h | h
    · exact ⟨_, _, h, l2, hmt⟩
    · refine ⟨_, _, h, l1, ?_⟩
      unfold meets at hmt ⊢
      unfold srt at hmt
      omega
  · rintro ⟨a, b, hab, hb, hm⟩
    obtain ⟨i, hi, rfl⟩ := sortAt_sur hS (show a < us.length by omega)
    obtain ⟨j, hj, rfl⟩ := sortAt_sur hS hb
    have hm : meets (srt us i) (srt us j) := hm
    unfold meets at hm
    have key : ∀ i j, i < j → j < us.length → (srt us i).m = (srt us j).m → (srt us j).s < (srt us i).e → ovl us := fun i j hij hj e1 e2 => by
      refine ⟨i, by omega, ?_⟩
      have h1 := srt_le us (i := i) (j := i + 1) (by omega) (by omega)
      rcases Nat.lt_or_ge (i + 1) j with h | h
      · have h2 := srt_le us h hj
        omega
      · obtain rfl : j = i + 1 := by omega
        omega
    rcases Nat.lt_trichotomy i j with h | h | h
    · exact key i j h hj hm.1 hm.2.2
    · subst h; omega
    · exact key j i h hi hm.1.symm hm.2.1
theorem goodSlice_t (x : Sl) : ACalls XX 70 [slA x] (bA (decide (slOk x))) := by
  refine ACalls.of (n := Tryz.f70.ntmps) XX_ok Tryz.func70 rfl (by kernel_rfl) rfl rfl (Nat.le_of_ble_eq_true rfl) ?_
  (repeat' (first | ((first | refine Zg ?_ | refine Zn ?_ | refine Zc ?_ | refine Zu fun b hb => ?_); conv => whnf) | (refine Zb (fun h => ?_) (fun h => ?_) <;> first | exact Zx | (conv => whnf))))
  all_goals (repeat' (first | exact Zrq | exact Zi (by unfold slOk; omega) | exact Zo (h := by unfold slOk; omega) | refine ResLe.agg ?_ | refine And.intro ?_ ?_ | ((conv => whnf); first | exact Zrq | exact Zi (by unfold slOk; omega) | exact Zo (h := by unfold slOk; omega) | refine ResLe.agg ?_ | refine And.intro ?_ ?_)))
theorem meet_t (x y : Sl) : ACalls XX 96 [slA x, slA y] (bA (decide (meets x y))) := by
  refine ACalls.of (n := Tryz.f96.ntmps) XX_ok Tryz.func96 rfl (by kernel_rfl) rfl rfl (Nat.le_of_ble_eq_true rfl) ?_
  (repeat' (first | ((first | refine Zg ?_ | refine Zn ?_ | refine Zc ?_ | refine Zu fun b hb => ?_); conv => whnf) | (refine Zb (fun h => ?_) (fun h => ?_) <;> first | exact Zx | (conv => whnf))))
  all_goals (repeat' (first | exact Zrq | exact Zi (by unfold meets; omega) | exact Zo (h := by unfold meets; omega) | refine ResLe.agg ?_ | refine And.intro ?_ ?_ | ((conv => whnf); first | exact Zrq | exact Zi (by unfold meets; omega) | exact Zo (h := by unfold meets; omega) | refine ResLe.agg ?_ | refine And.intro ?_ ?_)))
def meetAll (x : Sl) (vs : List Sl) : Prop := ∃ y ∈ vs, meets x y
instance (x : Sl) (vs : List Sl) : Decidable (meetAll x vs) := by unfold meetAll; exact inferInstance
theorem Meet_t (us vs : List Sl) (hu : us.length ≤ 1000) (hv : vs.length ≤ 1000) : ACalls XX 73 [.dat (slD us), .dat (slD vs)] (bA (decide (∃ x ∈ us, meetAll x vs))) := by
  refine ACalls.of (n := Tryz.f73.ntmps) XX_ok Tryz.func73 rfl (by kernel_rfl) rfl rfl (Nat.le_of_ble_eq_true rfl) ?_
  (repeat' (first | ((first | refine Zg ?_ | refine Zt dr73 ?_ | refine Zn ?_ | refine Zc ?_ | refine Zu fun b hb => ?_); conv => whnf) | (refine Zb (fun h => ?_) (fun h => ?_) <;> first | exact Zx | (conv => whnf))))
  refine (W.loopK (ι := Nat) [0, 1] [] (fun k => [(5, iA k)]) (fun _ => []) (fun k => k ≤ us.length ∧ ∀ i, i < k → ¬ meetAll (us.getD i default) vs) (fun k => us.length - k) 0 ⟨Nat.zero_le _, fun i hi => absurd hi (by omega)⟩ ?_ ?_ ?_)
  · exact Yz
  · exact Yz
  conv => whnf
  intro k ⟨hk, hz⟩
  by_cases hk' : k < us.length
  · (repeat' (first | ((first | refine Zg ?_ | refine Zt dr73 ?_ | refine Zn ?_ | refine Zc ?_ | refine Zu fun b hb => ?_); conv => whnf) | (refine Zb (fun h => ?_) (fun h => ?_) <;> first | exact Zx | (conv => whnf))))
    refine (W.loopK (ι := Nat) [0, 1, 5] [] (fun j => [(6, iA j)]) (fun _ => []) (fun j => j ≤ vs.length ∧ ∀ i, i < j → ¬ meets (us.getD k default) (vs.getD i default)) (fun j => vs.length - j) 0 ⟨Nat.zero_le _, fun i hi => absurd hi (by omega)⟩ ?_ ?_ ?_)
    · exact Yz
    · exact Yz
    conv => whnf
    intro j ⟨hj, hy⟩
    have hm := meet_t (us.getD k default) (vs.getD j default)
    by_cases hj' : j < vs.length
    · by_cases hq : meets (us.getD k default) (vs.getD j default)
      · rw [decide_eq_true hq] at hm
        have hres : ∃ x ∈ us, meetAll x vs := ⟨_, getD_in hk', _, getD_in hj', hq⟩
        (repeat' (first | ((first | refine Zg ?_ | refine Zt dr73 ?_ | refine Zn ?_ | refine Zc ?_ | refine Zu fun b hb => ?_); conv => whnf) | (refine Zb (fun h => ?_) (fun h => ?_) <;> first | exact Zx | (conv => whnf))))
        all_goals (try dsimp only [Int.toNat_natCast] at *)
        (repeat' (first | ((first | refine Zg ?_ | refine Zt dr73 ?_ | refine Zn ?_ | refine Zc ?_ | refine Zu fun b hb => ?_ | refine Zy hm ?_ | refine Zz hm ?_); conv => whnf) | (refine Zb (fun h => ?_) (fun h => ?_) <;> first | exact Zx | (conv => whnf))))
        all_goals (repeat' (first | exact Zrq | exact Zi (by exact hres) | exact Zo (h := by exact hres) | refine ResLe.agg ?_ | refine And.intro ?_ ?_ | ((conv => whnf); first | exact Zrq | exact Zi (by exact hres) | exact Zo (h := by exact hres) | refine ResLe.agg ?_ | refine And.intro ?_ ?_)))
      · rw [decide_eq_false hq] at hm
        (repeat' (first | ((first | refine Zg ?_ | refine Zt dr73 ?_ | refine Zn ?_ | refine Zc ?_ | refine Zu fun b hb => ?_); conv => whnf) | (refine Zb (fun h => ?_) (fun h => ?_) <;> first | exact Zx | (conv => whnf))))
        all_goals (try dsimp only [Int.toNat_natCast] at *)
        (repeat' (first | ((first | refine Zg ?_ | refine Zt dr73 ?_ | refine Zn ?_ | refine Zc ?_ | refine Zu fun b hb => ?_ | refine Zy hm ?_ | refine Zz hm ?_); conv => whnf) | (refine Zb (fun h => ?_) (fun h => ?_) <;> first | exact Zx | (conv => whnf))))
        refine ⟨j + 1, ⟨by omega, fun i hi => ?_⟩, by omega, ?_, ?_, ?_, ?_⟩
        · by_cases hij : i = j
          · subst hij; exact hq
          · exact hy i (by omega)
        all_goals exact Yz
    · have hn : ¬ meetAll (us.getD k default) vs := fun ⟨y, hy1, hy2⟩ => by
        have := (all_getD (us := vs) (p := fun y => ¬ meets (us.getD k default) y)).2 (fun i hi => hy i (by omega)) y hy1
        exact this hy2
      (repeat' (first | ((first | refine Zg ?_ | refine Zt dr73 ?_ | refine Zn ?_ | refine Zc ?_ | refine Zu fun b hb => ?_); conv => whnf) | (refine Zb (fun h => ?_) (fun h => ?_) <;> first | exact Zx | (conv => whnf))))
      refine ⟨k + 1, ⟨by omega, fun i hi => ?_⟩, by omega, ?_, ?_, ?_, ?_⟩
      · by_cases hik : i = k
        · subst hik; exact hn
        · exact hz i (by omega)
      all_goals exact Yz
  · have hres : ¬ ∃ x ∈ us, meetAll x vs := fun ⟨x, hx1, hx2⟩ =>
      (all_getD (us := us) (p := fun x => ¬ meetAll x vs)).2 (fun i hi => hz i (by omega)) x hx1 hx2
    (repeat' (first | ((first | refine Zg ?_ | refine Zt dr73 ?_ | refine Zn ?_ | refine Zc ?_ | refine Zu fun b hb => ?_); conv => whnf) | (refine Zb (fun h => ?_) (fun h => ?_) <;> first | exact Zx | (conv => whnf))))
    all_goals (repeat' (first | exact Zrq | exact Zi (by exact hres) | exact Zo (h := by exact hres) | refine ResLe.agg ?_ | refine And.intro ?_ ?_ | ((conv => whnf); first | exact Zrq | exact Zi (by exact hres) | exact Zo (h := by exact hres) | refine ResLe.agg ?_ | refine And.intro ?_ ?_)))
noncomputable def rlotErr (us : List Sl) : Int := if 64 < us.length then 8 else if ¬ (∀ x ∈ us, slOk x) then 2 else if anyMeet us then 13 else 0
theorem rlot_eq (us : List Sl) : rlotErr us = lotErr us := by
  unfold rlotErr lotErr
  by_cases h1 : 64 < us.length
  · rw [if_pos h1, if_pos h1]
  · rw [if_neg h1, if_neg h1]
    by_cases h2 : ∀ x ∈ us, slOk x
    · have h2' : ¬ ¬ ∀ x ∈ us, slOk x := Classical.not_not.2 h2
      rw [if_neg h2', if_neg h2']
      by_cases h3 : ovl us
      · rw [if_pos h3, if_pos ((ovl_iff us h2).1 h3)]
      · rw [if_neg h3, if_neg (fun h => h3 ((ovl_iff us h2).2 h))]
    · rw [if_pos h2, if_pos h2]
theorem meet_drop {us : List Sl} {k : Nat} : meetAll (us.getD k default) (us.drop (k + 1)) ↔ ∃ j, k < j ∧ j < us.length ∧ meets (us.getD k default) (us.getD j default) := by
  constructor
  · rintro ⟨y, hy, hm⟩
    obtain ⟨i, hi, rfl⟩ := List.getElem_of_mem hy
    have hi' : i < us.length - (k + 1) := by simpa using hi
    refine ⟨k + 1 + i, by omega, by omega, ?_⟩
    rw [List.getElem_drop] at hm
    rwa [List.getD_eq_getElem?_getD (i := k + 1 + i), List.getElem?_eq_getElem (by omega)]
  · rintro ⟨j, h1, h2, hm⟩
    refine ⟨us.getD j default, ?_, hm⟩
    have : us.getD j default = (us.drop (k + 1))[j - (k + 1)]'(by simp; omega) := by
      rw [List.getElem_drop, List.getD_eq_getElem?_getD, List.getElem?_eq_getElem (by omega)]
      simp [show k + 1 + (j - (k + 1)) = j by omega]
    rw [this]
    exact List.getElem_mem _
theorem rvalid_t (us : List Sl) (hL : us.length ≤ 9223372036854775807) : ACalls XX 72 [.dat (slD us)] (iA (lotErr us)) := by
  rw [← rlot_eq]
  refine ACalls.of (n := Tryz.f72.ntmps) XX_ok Tryz.func72 rfl (by kernel_rfl) rfl rfl (Nat.le_of_ble_eq_true rfl) ?_
  (repeat' (first | ((first | refine Zg ?_ | refine Zt dr72 ?_ | refine Zn ?_ | refine Zc ?_ | refine Zu fun b hb => ?_); conv => whnf) | (refine Zb (fun h => ?_) (fun h => ?_) <;> first | exact Zx | (conv => whnf))))
  · (repeat' (first | exact Zrq | exact Zi (by unfold rlotErr; rw [if_pos (by omega)]) | exact Zo (h := by unfold rlotErr; rw [if_pos (by omega)]) | refine ResLe.agg ?_ | refine And.intro ?_ ?_ | ((conv => whnf); first | exact Zrq | exact Zi (by unfold rlotErr; rw [if_pos (by omega)]) | exact Zo (h := by unfold rlotErr; rw [if_pos (by omega)]) | refine ResLe.agg ?_ | refine And.intro ?_ ?_)))
  have hl : us.length ≤ 64 := by omega
  refine (W.loopK (ι := Nat) [0] [] (fun k => [(3, iA k)]) (fun _ => []) (fun k => k ≤ us.length ∧ ∀ i, i < k → slOk (us.getD i default)) (fun k => us.length - k) 0 ⟨Nat.zero_le _, fun i hi => absurd hi (by omega)⟩ ?_ ?_ ?_)
  · exact Yz
  · exact Yz
  conv => whnf
  intro k ⟨hk, hz⟩
  by_cases hk' : k < us.length
  · have hv := goodSlice_t (us.getD k default)
    by_cases hq : slOk (us.getD k default)
    · rw [decide_eq_true hq] at hv
      (repeat' (first | ((first | refine Zg ?_ | refine Zt dr72 ?_ | refine Zn ?_ | refine Zc ?_ | refine Zu fun b hb => ?_); conv => whnf) | (refine Zb (fun h => ?_) (fun h => ?_) <;> first | exact Zx | (conv => whnf))))
      all_goals (try dsimp only [Int.toNat_natCast] at *)
      (repeat' (first | ((first | refine Zg ?_ | refine Zt dr72 ?_ | refine Zn ?_ | refine Zc ?_ | refine Zu fun b hb => ?_ | refine Zy hv ?_ | refine Zz hv ?_); conv => whnf) | (refine Zb (fun h => ?_) (fun h => ?_) <;> first | exact Zx | (conv => whnf))))
      refine ⟨k + 1, ⟨by omega, fun i hi => ?_⟩, by omega, ?_, ?_, ?_, ?_⟩
      · by_cases hik : i = k
        · subst hik; exact hq
        · exact hz i (by omega)
      all_goals exact Yz
    · rw [decide_eq_false hq] at hv
      have hn : rlotErr us = 2 := by unfold rlotErr; rw [if_neg (by omega), if_pos (fun ha => hq (ha _ (getD_in hk')))]
      (repeat' (first | ((first | refine Zg ?_ | refine Zt dr72 ?_ | refine Zn ?_ | refine Zc ?_ | refine Zu fun b hb => ?_); conv => whnf) | (refine Zb (fun h => ?_) (fun h => ?_) <;> first | exact Zx | (conv => whnf))))
      all_goals (try dsimp only [Int.toNat_natCast] at *)
      (repeat' (first | ((first | refine Zg ?_ | refine Zt dr72 ?_ | refine Zn ?_ | refine Zc ?_ | refine Zu fun b hb => ?_ | refine Zy hv ?_ | refine Zz hv ?_); conv => whnf) | (refine Zb (fun h => ?_) (fun h => ?_) <;> first | exact Zx | (conv => whnf))))
      all_goals (repeat' (first | exact Zrq | exact Zi (by exact hn.symm) | exact Zo (h := by exact hn.symm) | refine ResLe.agg ?_ | refine And.intro ?_ ?_ | ((conv => whnf); first | exact Zrq | exact Zi (by exact hn.symm) | exact Zo (h := by exact hn.symm) | refine ResLe.agg ?_ | refine And.intro ?_ ?_)))
  have ha : ∀ x ∈ us, slOk x := all_getD.2 fun i hi => hz i (by omega)
  (repeat' (first | ((first | refine Zg ?_ | refine Zt dr72 ?_ | refine Zn ?_ | refine Zc ?_ | refine Zu fun b hb => ?_); conv => whnf) | (refine Zb (fun h => ?_) (fun h => ?_) <;> first | exact Zx | (conv => whnf))))
  refine (W.loopK (ι := Nat) [0] [] (fun k => [(4, iA k)]) (fun _ => []) (fun k => k ≤ us.length ∧ ∀ i, i < k → ¬ meetAll (us.getD i default) (us.drop (i + 1))) (fun k => us.length - k) 0 ⟨Nat.zero_le _, fun i hi => absurd hi (by omega)⟩ ?_ ?_ ?_)
  · exact Yz
  · exact Yz
  conv => whnf
  intro j ⟨hj, hy⟩
  by_cases hj' : j < us.length
  · have hM := Meet_t [us.getD j default] (us.drop (j + 1)) (by simp) (by simp; omega)
    have e0 : (∃ x ∈ [us.getD j default], meetAll x (us.drop (j + 1))) ↔ meetAll (us.getD j default) (us.drop (j + 1)) := by simp
    have e1 : decide (∃ x ∈ [us.getD j default], meetAll x (us.drop (j + 1))) = decide (meetAll (us.getD j default) (us.drop (j + 1))) := decide_eq_decide.2 e0
    rw [e1] at hM
    (repeat' (first | ((first | refine Zg ?_ | refine Zt dr72 ?_ | refine Zn ?_ | refine Zc ?_ | refine Zu fun b hb => ?_); conv => whnf) | (refine Zb (fun h => ?_) (fun h => ?_) <;> first | exact Zx | (conv => whnf))))
    all_goals (try dsimp only [Int.toNat_natCast] at *)
    refine CallK.by (CallA.plain hM ⟨ArgLe.pure (AVle.dat (Dle.lst (by first | (simp; done) | (simp; omega)) fun i hi q hq => Dle.of_eq ?_)) rfl, ArgLe.pure (AVle.dat (Dle.lst (by first | (simp; done) | (simp; omega)) fun i hi q hq => Dle.of_eq ?_)) rfl, trivial⟩ rfl) ?_
    · obtain rfl : i = 0 := by omega
      simp [rowF]
    · unfold rowF
      rw [show ((j : Int) + 1).toNat = j + 1 by omega]
      simp [List.getD_eq_getElem?_getD, List.getElem?_drop]
    conv => whnf
    (repeat' (first | ((first | refine Zg ?_ | refine Zt dr72 ?_ | refine Zn ?_ | refine Zc ?_ | refine Zu fun b hb => ?_); conv => whnf) | (refine Zb (fun h => ?_) (fun h => ?_) <;> first | exact Zx | (conv => whnf))))
    · have hr : anyMeet us := by
        obtain ⟨b, h1, h2, h3⟩ := (meet_drop (us := us) (k := j)).1 (by assumption)
        exact ⟨j, b, h1, h2, h3⟩
      (repeat' (first | exact Zrq | exact Zi (by unfold rlotErr; rw [if_neg (by omega), if_neg (by simpa using ha), if_pos hr]) | exact Zo (h := by unfold rlotErr; rw [if_neg (by omega), if_neg (by simpa using ha), if_pos hr]) | refine ResLe.agg ?_ | refine And.intro ?_ ?_ | ((conv => whnf); first | exact Zrq | exact Zi (by unfold rlotErr; rw [if_neg (by omega), if_neg (by simpa using ha), if_pos hr]) | exact Zo (h := by unfold rlotErr; rw [if_neg (by omega), if_neg (by simpa using ha), if_pos hr]) | refine ResLe.agg ?_ | refine And.intro ?_ ?_)))
    · have hy' : ∀ i, i < j + 1 → ¬ meetAll (us.getD i default) (us.drop (i + 1)) := fun i hi => by
        rcases Nat.lt_or_ge i j with hij | hij
        · exact hy i hij
        · obtain rfl : i = j := by omega
          assumption
      exact ⟨j + 1, ⟨by omega, hy'⟩, by omega, ⟨AVle.refl _, trivial⟩, trivial, ⟨AVle.refl _, trivial⟩, trivial⟩
  · have hres : ¬ anyMeet us := fun ⟨a, b, h1, h2, h3⟩ => hy a (by omega) (meet_drop.2 ⟨b, h1, h2, h3⟩)
    (repeat' (first | ((first | refine Zg ?_ | refine Zt dr72 ?_ | refine Zn ?_ | refine Zc ?_ | refine Zu fun b hb => ?_); conv => whnf) | (refine Zb (fun h => ?_) (fun h => ?_) <;> first | exact Zx | (conv => whnf))))
    all_goals (repeat' (first | exact Zrq | exact Zi (by unfold rlotErr; rw [if_neg (by omega), if_neg (by simpa using ha), if_neg hres]) | exact Zo (h := by unfold rlotErr; rw [if_neg (by omega), if_neg (by simpa using ha), if_neg hres]) | refine ResLe.agg ?_ | refine And.intro ?_ ?_ | ((conv => whnf); first | exact Zrq | exact Zi (by unfold rlotErr; rw [if_neg (by omega), if_neg (by simpa using ha), if_neg hres]) | exact Zo (h := by unfold rlotErr; rw [if_neg (by omega), if_neg (by simpa using ha), if_neg hres]) | refine ResLe.agg ?_ | refine And.intro ?_ ?_)))

end Go.Proofs.YtacpjihbbmoolaaGreat
