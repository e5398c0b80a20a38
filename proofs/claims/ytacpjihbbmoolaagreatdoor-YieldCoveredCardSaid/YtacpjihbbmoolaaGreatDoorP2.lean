/- yield.Process: numbers, IDs, lots checked. -/
import Derived.Test.YtacpjihbbmoolaaGreatDoorFV
import Derived.Test.YtacpjihbbmoolaaGreatDoorC6

namespace Go.Proofs.YtacpjihbbmoolaaGreatDoor
open Go Go.RowKit
set_option linter.unusedVariables false
set_option linter.unusedSimpArgs false
set_option maxRecDepth 100000
set_option maxHeartbeats 4000000
attribute [local irreducible] ResLe AVle ArgLe ArgP EntLe Dle ResH ArgQ

theorem yvalidI_t (n : Int) : ACalls XX 64 [iA n] (bA (decide (idOk n))) := by
  refine ACalls.of (n := Tryz.f64.ntmps) XX_ok Tryz.func64 rfl (by kernel_rfl) rfl rfl (Nat.le_of_ble_eq_true rfl) ?_
  (repeat' (first|((first|refine Zg ?_|refine Zn ?_|refine Zc ?_|refine Zu fun b hb=>?_);conv=>whnf)|(refine Zb ?_ ?_<;>(intro h;first|exact Zx|conv=>whnf))))
  all_goals (repeat' (first|exact Zrq|exact Zi (by unfold idOk; omega)|exact Zo (h := by unfold idOk; omega)|refine ResLe.agg ?_|refine And.intro ?_ ?_|((conv=>whnf); first|exact Zrq|exact Zi (by unfold idOk; omega)|exact Zo (h := by unfold idOk; omega)|refine ResLe.agg ?_|refine And.intro ?_ ?_)))
theorem ytwice_t (L : List Int) (hL : L.length ≤ 1000000) : ACalls XX 28 [.dat (iD L)] (bA (decide (twiceP L))) := by
  refine ACalls.of (n := Tryz.f28.ntmps) XX_ok Tryz.func28 rfl (by kernel_rfl) rfl rfl (Nat.le_of_ble_eq_true rfl) ?_
  (repeat' (first|((first|refine Zg ?_|refine Zn ?_|refine Zc ?_|refine Zu fun b hb=>?_);conv=>whnf)|(refine Zb ?_ ?_<;>(intro h;first|exact Zx|conv=>whnf))))
  refine (W.loopK (ι := Nat) [0, 5, 6] [] (fun k => [(7, iA k)]) (fun _ => []) (fun k => k ≤ L.length ∧ ∀ i, i < k → L.getD i default ∉ L.take i) (fun k => L.length - k) 0 ⟨Nat.zero_le _, fun i hi => absurd hi (by omega)⟩ ?_ ?_ ?_)
  · exact Yz
  · exact Yz
  conv => whnf
  intro k ⟨hk, hz⟩
  (repeat' (first|((first|refine Zg ?_|refine Zn ?_|refine Zc ?_|refine Zu fun b hb=>?_);conv=>whnf)|(refine Zb ?_ ?_<;>(intro h;first|exact Zx|conv=>whnf))))
  all_goals (try dsimp only [Int.toNat_natCast] at *)
  · have hc : ACalls XX 57 [.dat (.lst 1 ((k : Int) - 0).toNat fun i j => rowF iE L ((0 : Int).toNat + i) j), iA (L.getD k default)] (bA (decide (L.getD k default ∈ L.take k))) :=
      (contains_t (L.take k) (L.getD k default) (by simp; omega)).args ⟨iD_take L k hk, AVle.refl _, trivial⟩
    (repeat' (first|((first|refine Zg ?_|refine Zn ?_|refine Zc ?_|refine Zu fun b hb=>?_|refine Zy hc ?_);conv=>whnf)|(refine Zb ?_ ?_<;>(intro h;first|exact Zx|conv=>whnf))))
    · have hn : twiceP L := ⟨k, by omega, by simp_all⟩
      (repeat' (first|exact Zrq|exact Zi (by simp [hn])|exact Zo (h := by simp [hn])|refine ResLe.agg ?_|refine And.intro ?_ ?_|((conv=>whnf); first|exact Zrq|exact Zi (by simp [hn])|exact Zo (h := by simp [hn])|refine ResLe.agg ?_|refine And.intro ?_ ?_)))
    · refine ⟨k + 1, ⟨by omega, fun i hi => ?_⟩, by omega, ?_, ?_, ?_, ?_⟩
      · by_cases hik : i = k
        · subst hik; simp_all
        · exact hz i (by omega)
      all_goals exact Yz
  · have hn : ¬ twiceP L := fun ⟨i, hi, he⟩ => hz i (by omega) he
    (repeat' (first|exact Zrq|exact Zi (by simp [hn])|exact Zo (h := by simp [hn])|refine ResLe.agg ?_|refine And.intro ?_ ?_|((conv=>whnf); first|exact Zrq|exact Zi (by simp [hn])|exact Zo (h := by simp [hn])|refine ResLe.agg ?_|refine And.intro ?_ ?_)))
def tknL (ss : List Lt) (ids : List Int) : Prop := ∃ x ∈ ss, x.id ∈ ids ∨ ∃ s ∈ x.us, s.m ∈ ids
noncomputable instance (ss : List Lt) (ids : List Int) : Decidable (tknL ss ids) := Classical.propDecidable _
theorem ytaken_t (ss : List Lt) (ids : List Int) (hI : ids.length ≤ 1000000) (hS : ss.length ≤ 100000) (hU : ∀ x ∈ ss, x.us.length ≤ 100000) : ACalls XX 29 [.dat (ltD ss), .dat (iD ids)] (bA (decide (tknL ss ids))) := by
  refine ACalls.of (n := Tryz.f29.ntmps) XX_ok Tryz.func29 rfl (by kernel_rfl) rfl rfl (Nat.le_of_ble_eq_true rfl) ?_
  (repeat' (first|((first|refine Zg ?_|refine Zn ?_|refine Zc ?_|refine Zu fun b hb=>?_);conv=>whnf)|(refine Zb ?_ ?_<;>(intro h;first|exact Zx|conv=>whnf))))
  refine (W.loopK (ι := Nat) [1, 9, 10] [] (fun k => [(11, iA k)]) (fun _ => []) (fun k => k ≤ ss.length ∧ ∀ i, i < k → ¬ ((ss.getD i default).id ∈ ids ∨ ∃ s ∈ (ss.getD i default).us, s.m ∈ ids)) (fun k => ss.length - k) 0 ⟨Nat.zero_le _, fun i hi => absurd hi (by omega)⟩ ?_ ?_ ?_)
  · exact Yz
  · exact Yz
  conv => whnf
  intro k ⟨hk, hz⟩
  by_cases hk' : k < ss.length
  · have hx := hU _ (getD_in hk')
    have hm := getD_in hk'
    have hc := contains_t ids (ss.getD k default).id hI
    (repeat' (first|((first|refine Zg ?_|refine Zn ?_|refine Zc ?_|refine Zu fun b hb=>?_);conv=>whnf)|(refine Zb ?_ ?_<;>(intro h;first|exact Zx|conv=>whnf))))
    all_goals (try dsimp only [Int.toNat_natCast] at *)
    (repeat' (first|((first|refine Zg ?_|refine Zn ?_|refine Zc ?_|refine Zu fun b hb=>?_|refine Zy hc ?_);conv=>whnf)|(refine Zb ?_ ?_<;>(intro h;first|exact Zx|conv=>whnf))))
    · have hn : tknL ss ids := ⟨_, hm, .inl (by simp_all)⟩
      (repeat' (first|exact Zrq|exact Zi (by simp [hn])|exact Zo (h := by simp [hn])|refine ResLe.agg ?_|refine And.intro ?_ ?_|((conv=>whnf); first|exact Zrq|exact Zi (by simp [hn])|exact Zo (h := by simp [hn])|refine ResLe.agg ?_|refine And.intro ?_ ?_)))
    have hc0 : (ss.getD k default).id ∉ ids := by simp_all
    refine (W.loopK (ι := Nat) [1, 9, 10, 11, 20, 21] [] (fun i => [(22, iA i)]) (fun _ => []) (fun i => i ≤ (ss.getD k default).us.length ∧ ∀ j, j < i → ((ss.getD k default).us.getD j default).m ∉ ids) (fun i => (ss.getD k default).us.length - i) 0 ⟨Nat.zero_le _, fun i hi => absurd hi (by omega)⟩ ?_ ?_ ?_)
    · exact Yz
    · exact Yz
    conv => whnf
    intro i ⟨hi, hy⟩
    by_cases hi' : i < (ss.getD k default).us.length
    · have hd := contains_t ids ((ss.getD k default).us.getD i default).m hI
      (repeat' (first|((first|refine Zg ?_|refine Zn ?_|refine Zc ?_|refine Zu fun b hb=>?_);conv=>whnf)|(refine Zb ?_ ?_<;>(intro h;first|exact Zx|conv=>whnf))))
      all_goals (try dsimp only [Int.toNat_natCast] at *)
      (repeat' (first|((first|refine Zg ?_|refine Zn ?_|refine Zc ?_|refine Zu fun b hb=>?_|refine Zy hd ?_);conv=>whnf)|(refine Zb ?_ ?_<;>(intro h;first|exact Zx|conv=>whnf))))
      · have hn : tknL ss ids := ⟨_, hm, .inr ⟨_, getD_in (k := i) (by omega), by simp_all⟩⟩
        (repeat' (first|exact Zrq|exact Zi (by simp [hn])|exact Zo (h := by simp [hn])|refine ResLe.agg ?_|refine And.intro ?_ ?_|((conv=>whnf); first|exact Zrq|exact Zi (by simp [hn])|exact Zo (h := by simp [hn])|refine ResLe.agg ?_|refine And.intro ?_ ?_)))
      · have hd0 : ((ss.getD k default).us.getD i default).m ∉ ids := by simp_all
        refine ⟨i + 1, ⟨by omega, fun j hj => ?_⟩, by omega, ?_, ?_, ?_, ?_⟩
        · by_cases hik : j = i
          · subst hik; exact hd0
          · exact hy j (by omega)
        all_goals exact Yz
    · (repeat' (first|((first|refine Zg ?_|refine Zn ?_|refine Zc ?_|refine Zu fun b hb=>?_);conv=>whnf)|(refine Zb ?_ ?_<;>(intro h;first|exact Zx|conv=>whnf))))
      refine ⟨k + 1, ⟨by omega, fun j hj => ?_⟩, by omega, ?_, ?_, ?_, ?_⟩
      · by_cases hik : j = k
        · subst hik
          rintro (h1|⟨s, h1, h2⟩)
          · exact hc0 h1
          · obtain ⟨q, hq, rfl⟩ := List.getElem_of_mem h1
            refine hy q (by omega) ?_
            rw [getD_of hq]
            exact h2
        · exact hz j (by omega)
      all_goals exact Yz
  · have hn : ¬ tknL ss ids := fun ⟨y, hy, he⟩ => by
      obtain ⟨i, hi, rfl⟩ := List.getElem_of_mem hy
      have := hz i (by omega)
      rw [List.getD_eq_getElem?_getD, List.getElem?_eq_getElem hi] at this
      exact this he
    (repeat' (first|((first|refine Zg ?_|refine Zn ?_|refine Zc ?_|refine Zu fun b hb=>?_);conv=>whnf)|(refine Zb ?_ ?_<;>(intro h;first|exact Zx|conv=>whnf))))
    all_goals (repeat' (first|exact Zrq|exact Zi (by simp [hn])|exact Zo (h := by simp [hn])|refine ResLe.agg ?_|refine And.intro ?_ ?_|((conv=>whnf); first|exact Zrq|exact Zi (by simp [hn])|exact Zo (h := by simp [hn])|refine ResLe.agg ?_|refine And.intro ?_ ?_)))
noncomputable def ynE (n : Nat) (ins outs : List Int) : Int := open Classical in if ins.length < 1 ∨ 16 < ins.length ∨ outs.length ≠ n then 2 else if ¬ ∀ o ∈ outs, idOk o then 2 else 0
theorem ynumbers_t (us : List Nd) (ins outs : List Int) (hU : us.length ≤ 1000) (hO : outs.length ≤ 9223372036854775807) (hI : ins.length ≤ 9223372036854775807) : ACalls XX 27 [.dat (ndD us), .dat (iD ins), .dat (iD outs)] (iA (ynE us.length ins outs)) := by
  by_cases e3 : ins.length < 1 ∨ 16 < ins.length ∨ outs.length ≠ us.length
  · have hE : ynE us.length ins outs = 2 := by unfold ynE; rw [if_pos e3]
    rw [hE]
    refine ACalls.of (n := Tryz.f27.ntmps) XX_ok Tryz.func27 rfl (by kernel_rfl) rfl rfl (Nat.le_of_ble_eq_true rfl) ?_
    (repeat' (first|((first|refine Zg ?_|refine Zn ?_|refine Zc ?_|refine Zu fun b hb=>?_);conv=>whnf)|(refine Zb ?_ ?_<;>(intro h;first|exact Zx|conv=>whnf))))
    all_goals first|exact Zrz|(exfalso; omega)
  have hE0 : ynE us.length ins outs = open Classical in if ¬ ∀ o ∈ outs, idOk o then 2 else 0 := by unfold ynE; rw [if_neg e3]
  have hv := yvalidI_t
  refine ACalls.of (n := Tryz.f27.ntmps) XX_ok Tryz.func27 rfl (by kernel_rfl) rfl rfl (Nat.le_of_ble_eq_true rfl) ?_
  (repeat' (first|((first|refine Zg ?_|refine Zn ?_|refine Zc ?_|refine Zu fun b hb=>?_);conv=>whnf)|(refine Zb ?_ ?_<;>(intro h;first|exact Zx|conv=>whnf))))
  all_goals first|(exfalso; omega)|skip
  refine (W.loopK (ι := Nat) [24, 25] [] (fun k => [(26, iA k)]) (fun _ => []) (fun k => k ≤ outs.length ∧ ∀ i, i < k → idOk (outs.getD i default)) (fun k => outs.length - k) 0 ⟨Nat.zero_le _, fun i hi => absurd hi (by omega)⟩ ?_ ?_ ?_)
  · exact Yz
  · exact Yz
  conv => whnf
  intro k ⟨hk, hz⟩
  by_cases hk' : k < outs.length
  · have hv := yvalidI_t (outs.getD k default)
    (repeat' (first|((first|refine Zg ?_|refine Zn ?_|refine Zc ?_|refine Zu fun b hb=>?_);conv=>whnf)|(refine Zb ?_ ?_<;>(intro h;first|exact Zx|conv=>whnf))))
    all_goals (try dsimp only [Int.toNat_natCast] at *)
    (repeat' (first|((first|refine Zg ?_|refine Zn ?_|refine Zc ?_|refine Zu fun b hb=>?_|refine Zy hv ?_);conv=>whnf)|(refine Zb ?_ ?_<;>(intro h;first|exact Zx|conv=>whnf))))
    · have hE : ynE us.length ins outs = 2 := by rw [hE0, if_pos fun ha => by have := ha _ (getD_in hk'); simp_all]
      rw [hE]
      (repeat' (first|exact Zrq|refine ResLe.agg ?_|refine And.intro ?_ ?_|((conv=>whnf); first|exact Zrq|refine ResLe.agg ?_|refine And.intro ?_ ?_)))
    · refine ⟨k + 1, ⟨by omega, fun i hi => ?_⟩, by omega, ?_, ?_, ?_, ?_⟩
      · by_cases hik : i = k
        · subst hik; simp_all
        · exact hz i (by omega)
      all_goals exact Yz
  · have hO1 : ∀ o ∈ outs, idOk o := all_getD.2 fun i hi => hz i (by omega)
    have hE : ynE us.length ins outs = 0 := by rw [hE0, if_neg (by simpa using hO1)]
    rw [hE]
    (repeat' (first|((first|refine Zg ?_|refine Zn ?_|refine Zc ?_|refine Zu fun b hb=>?_);conv=>whnf)|(refine Zb ?_ ?_<;>(intro h;first|exact Zx|conv=>whnf))))
    all_goals exact Zrz
end Go.Proofs.YtacpjihbbmoolaaGreatDoor
