/- Charges: valid ones, portions, the sum of a lot's duty. Charges by movement; the duty of a lot; whether the package is awake. The duty of a lot; whether the package is awake. -/
import Derived.Test.YtacpjihbbmoolaaGreatDoorFS

namespace Go.Proofs.YtacpjihbbmoolaaGreatDoor
open Go Go.RowKit
set_option linter.unusedVariables false
set_option linter.unusedSimpArgs false
set_option maxRecDepth 100000
set_option maxHeartbeats 4000000
attribute [local irreducible] ResLe AVle ArgLe ArgP EntLe Dle ResH ArgQ

def unOk (u : Int) : Prop := 1 ≤ u ∧ u ≤ 1000000000
def amOk (a : Int) : Prop := 0 ≤ a ∧ a ≤ 1000000000000
instance (u : Int) : Decidable (unOk u) := by unfold unOk; exact inferInstance
instance (u : Int) : Decidable (amOk u) := by unfold amOk; exact inferInstance
theorem validUnits_t (u : Int) : ACalls XX 82 [iA u] (bA (decide (unOk u))) := by
  refine ACalls.of (n := Tryz.f82.ntmps) XX_ok Tryz.func82 rfl (by kernel_rfl) rfl rfl (Nat.le_of_ble_eq_true rfl) ?_
  (repeat' (first|((first|refine Zg ?_|refine Zn ?_|refine Zc ?_|refine Zu fun b hb=>?_);conv=>whnf)|(refine Zb ?_ ?_<;>(intro h;first|exact Zx|conv=>whnf))))
  all_goals (repeat' (first|exact Zrq|exact Zi (by unfold unOk; omega)|exact Zo (h := by unfold unOk; omega)|refine ResLe.agg ?_|refine And.intro ?_ ?_|((conv=>whnf); first|exact Zrq|exact Zi (by unfold unOk; omega)|exact Zo (h := by unfold unOk; omega)|refine ResLe.agg ?_|refine And.intro ?_ ?_)))
theorem validAmount_t (u : Int) : ACalls XX 83 [iA u] (bA (decide (amOk u))) := by
  refine ACalls.of (n := Tryz.f83.ntmps) XX_ok Tryz.func83 rfl (by kernel_rfl) rfl rfl (Nat.le_of_ble_eq_true rfl) ?_
  (repeat' (first|((first|refine Zg ?_|refine Zn ?_|refine Zc ?_|refine Zu fun b hb=>?_);conv=>whnf)|(refine Zb ?_ ?_<;>(intro h;first|exact Zx|conv=>whnf))))
  all_goals (repeat' (first|exact Zrq|exact Zi (by unfold amOk; omega)|exact Zo (h := by unfold amOk; omega)|refine ResLe.agg ?_|refine And.intro ?_ ?_|((conv=>whnf); first|exact Zrq|exact Zi (by unfold amOk; omega)|exact Zo (h := by unfold amOk; omega)|refine ResLe.agg ?_|refine And.intro ?_ ?_)))
theorem mulDiv_rng {a n u : Int} (ha : amOk a) (hu : unOk u) (hn : 0 ≤ n ∧ n ≤ u) : 0 ≤ a * n / u ∧ a * n / u ≤ a := by
  unfold amOk at ha
  unfold unOk at hu
  have h1 : 0 ≤ a * n := Int.mul_nonneg ha.1 hn.1
  have h2 : a * n ≤ a * u := Int.mul_le_mul_of_nonneg_left hn.2 ha.1
  refine ⟨Int.ediv_nonneg h1 (by omega), ?_⟩
  have := Int.ediv_le_ediv (show 0 < u by omega) h2
  rwa [Int.mul_ediv_cancel _ (by omega)] at this
theorem upTo_t (a u n : Int) (ha : amOk a) (hu : unOk u) (hn : 0 ≤ n ∧ n ≤ u) : ACalls XX 86 [iA a, iA u, iA n] (iA (a * n / u)) := by
  have hr := mulDiv_rng ha hu hn
  unfold amOk at ha
  unfold unOk at hu
  have k := mulDiv_t a n u (by omega) (by omega) (by omega) (by omega)
  generalize a * n / u = r at *
  refine ACalls.of (n := Tryz.f86.ntmps) XX_ok Tryz.func86 rfl (by kernel_rfl) rfl rfl (Nat.le_of_ble_eq_true rfl) ?_
  (repeat' (first|((first|refine Zg ?_|refine Zn ?_|refine Zc ?_|refine Zu fun b hb=>?_|refine Zy k ?_);conv=>whnf)|(refine Zb ?_ ?_<;>(intro h;first|exact Zx|conv=>whnf))))
  all_goals exact Zrz
def porOk (a u s e : Int) : Prop := amOk a ∧ unOk u ∧ 0 ≤ s ∧ s ≤ e ∧ e ≤ u
instance (a u s e : Int) : Decidable (porOk a u s e) := by unfold porOk; exact inferInstance
def porI (a u s e : Int) : Int := a * e / u - a * s / u
theorem portion_t (a u s e : Int) : ACalls XX 45 [iA a, iA u, iA s, iA e] (.tup [iA (if porOk a u s e then porI a u s e else 0), iA (if porOk a u s e then 0 else 2)]) := by
  by_cases hp : porOk a u s e
  · rw [if_pos hp, if_pos hp]
    obtain ⟨h1, h2, h3⟩ := hp
    have k1 := upTo_t a u e h1 h2 (by omega)
    have k2 := upTo_t a u s h1 h2 (by omega)
    have r1 := mulDiv_rng h1 h2 (n := e) (by omega)
    have r2 := mulDiv_rng h1 h2 (n := s) (by omega)
    have v1 := validAmount_t a
    have v2 := validUnits_t u
    rw [decide_eq_true h1] at v1
    rw [decide_eq_true h2] at v2
    unfold amOk at h1
    unfold porI
    generalize a * e / u = r at *
    generalize a * s / u = r' at *
    refine ACalls.of (n := Tryz.f45.ntmps) XX_ok Tryz.func45 rfl (by kernel_rfl) rfl rfl (Nat.le_of_ble_eq_true rfl) ?_
    (repeat' (first|((first|refine Zg ?_|refine Zn ?_|refine Zc ?_|refine Zu fun b hb=>?_|refine Zy v1 ?_|refine Zy v2 ?_|refine Zy k1 ?_|refine Zy k2 ?_);conv=>whnf)|(refine Zb ?_ ?_<;>(intro h;first|exact Zx|conv=>whnf))))
    all_goals exact Zrz
  · rw [if_neg hp, if_neg hp]
    have v1 := validAmount_t a
    have v2 := validUnits_t u
    refine ACalls.of (n := Tryz.f45.ntmps) XX_ok Tryz.func45 rfl (by kernel_rfl) rfl rfl (Nat.le_of_ble_eq_true rfl) ?_
    (repeat' (first|((first|refine Zg ?_|refine Zn ?_|refine Zc ?_|refine Zu fun b hb=>?_|refine Zy v1 ?_|refine Zy v2 ?_);conv=>whnf)|(refine Zb ?_ ?_<;>(intro h;first|exact Zx|conv=>whnf))))
    all_goals first|exact Zrz|(exfalso; apply hp; unfold porOk; simp_all; done)
end Go.Proofs.YtacpjihbbmoolaaGreatDoor

namespace Go.Proofs.YtacpjihbbmoolaaGreatDoor
open Go Go.RowKit
set_option linter.unusedVariables false
set_option linter.unusedSimpArgs false
set_option maxRecDepth 100000
set_option maxHeartbeats 4000000
attribute [local irreducible] ResLe AVle ArgLe ArgP EntLe Dle ResH ArgQ

def chOk (x : Ch) : Prop := 1 ≤ x.m ∧ x.m ≤ 1000000 ∧ unOk x.u ∧ amOk x.a
instance (x : Ch) : Decidable (chOk x) := by unfold chOk; exact inferInstance
def ascC (us : List Ch) : Prop := ∀ i, i + 1 < us.length → (us.getD i default).m < (us.getD (i + 1) default).m
noncomputable instance (us : List Ch) : Decidable (ascC us) := Classical.propDecidable _
noncomputable def chErr (us : List Ch) : Int := if 64 < us.length then 8 else if ¬ (∀ x ∈ us, chOk x) then 2 else if ¬ ascC us then 9 else 0
theorem latValidate_t (us : List Ch) (hL : us.length ≤ 9223372036854775807) : ACalls XX 43 [.dat (chD us)] (iA (chErr us)) := by
  refine ACalls.of (n := Tryz.f43.ntmps) XX_ok Tryz.func43 rfl (by kernel_rfl) rfl rfl (Nat.le_of_ble_eq_true rfl) ?_
  (repeat' (first|((first|refine Zg ?_|refine Zt dr43 ?_|refine Zn ?_|refine Zc ?_|refine Zu fun b hb=>?_);conv=>whnf)|(refine Zb ?_ ?_<;>(intro h;first|exact Zx|conv=>whnf))))
  · (repeat' (first|exact Zrq|exact Zi (by unfold chErr; rw [if_pos (by omega)])|exact Zo (h := by unfold chErr; rw [if_pos (by omega)])|refine ResLe.agg ?_|refine And.intro ?_ ?_|((conv=>whnf); first|exact Zrq|exact Zi (by unfold chErr; rw [if_pos (by omega)])|exact Zo (h := by unfold chErr; rw [if_pos (by omega)])|refine ResLe.agg ?_|refine And.intro ?_ ?_)))
  have hl : us.length ≤ 64 := by omega
  refine (W.loopK (ι := Nat) [0, 9, 10] [] (fun k => [(11, iA k)]) (fun _ => []) (fun k => k ≤ us.length ∧ ∀ i, i < k → chOk (us.getD i default)) (fun k => us.length - k) 0 ⟨Nat.zero_le _, fun i hi => absurd hi (by omega)⟩ ?_ ?_ ?_)
  · exact Yz
  · exact Yz
  conv => whnf
  intro k ⟨hk, hz⟩
  have hv := validUnits_t (us.getD k default).u
  have hw := validAmount_t (us.getD k default).a
  have hbad : ¬ chOk (us.getD k default) → k < us.length → chErr us = 2 := fun h1 h2 => by
    unfold chErr
    rw [if_neg (by omega), if_pos (fun ha => h1 (ha _ (getD_in h2)))]
  (repeat' (first|((first|refine Zg ?_|refine Zt dr43 ?_|refine Zn ?_|refine Zc ?_|refine Zu fun b hb=>?_|refine Zy hv ?_|refine Zz hv ?_|refine Zy hw ?_|refine Zz hw ?_);conv=>whnf)|(refine Zb ?_ ?_<;>(intro h;first|exact Zx|conv=>whnf))))
  all_goals (try dsimp only [Int.toNat_natCast] at *)
  (repeat' (first|((first|refine Zg ?_|refine Zt dr43 ?_|refine Zn ?_|refine Zc ?_|refine Zu fun b hb=>?_|refine Zy hv ?_|refine Zz hv ?_|refine Zy hw ?_|refine Zz hw ?_);conv=>whnf)|(refine Zb ?_ ?_<;>(intro h;first|exact Zx|conv=>whnf))))
  all_goals first|((repeat' (first|exact Zrq|exact Zi (by exact (hbad (fun hc => by unfold chOk at hc; first|omega|(simp_all; done)|(simp_all; omega)) (by omega)).symm)|exact Zo (h := by exact (hbad (fun hc => by unfold chOk at hc; first|omega|(simp_all; done)|(simp_all; omega)) (by omega)).symm)|refine ResLe.agg ?_|refine And.intro ?_ ?_|((conv=>whnf); first|exact Zrq|exact Zi (by exact (hbad (fun hc => by unfold chOk at hc; first|omega|(simp_all; done)|(simp_all; omega)) (by omega)).symm)|exact Zo (h := by exact (hbad (fun hc => by unfold chOk at hc; first|omega|(simp_all; done)|(simp_all; omega)) (by omega)).symm)|refine ResLe.agg ?_|refine And.intro ?_ ?_))); done)|skip
  · refine ⟨k + 1, ⟨by omega, fun i hi => ?_⟩, by omega, ?_, ?_, ?_, ?_⟩
    · by_cases hik : i = k
      · subst hik; unfold chOk; first|(simp_all; done)|(simp_all; omega)|omega
      · exact hz i (by omega)
    all_goals exact Yz
  · have ha : ∀ x ∈ us, chOk x := all_getD.2 fun i hi => hz i (by omega)
    refine (W.loopK (ι := Nat) [0] [] (fun k => [(5, iA (1 + k))]) (fun _ => []) (fun k => (k = 0 ∨ k + 1 ≤ us.length) ∧ ∀ i, i < k → (us.getD i default).m < (us.getD (i + 1) default).m) (fun k => us.length - k) 0 ⟨.inl rfl, fun i hi => absurd hi (by omega)⟩ ?_ ?_ ?_)
    · exact Yz
    · exact Yz
    conv => whnf
    intro j ⟨hj, hy⟩
    (repeat' (first|((first|refine Zg ?_|refine Zt dr43 ?_|refine Zn ?_|refine Zc ?_|refine Zu fun b hb=>?_);conv=>whnf)|(refine Zb ?_ ?_<;>(intro h;first|exact Zx|conv=>whnf))))
    all_goals (try rw [show (1 + (j : Int)).toNat = j + 1 by omega, show (1 + (j : Int) - 1).toNat = j by omega] at *)
    (repeat' (first|((first|refine Zg ?_|refine Zt dr43 ?_|refine Zn ?_|refine Zc ?_|refine Zu fun b hb=>?_);conv=>whnf)|(refine Zb ?_ ?_<;>(intro h;first|exact Zx|conv=>whnf))))
    · have hn : ¬ ascC us := fun hc => by have := hc j (by omega); omega
      (repeat' (first|exact Zrq|exact Zi (by unfold chErr; rw [if_neg (by omega), if_neg (by simpa using ha), if_pos hn])|exact Zo (h := by unfold chErr; rw [if_neg (by omega), if_neg (by simpa using ha), if_pos hn])|refine ResLe.agg ?_|refine And.intro ?_ ?_|((conv=>whnf); first|exact Zrq|exact Zi (by unfold chErr; rw [if_neg (by omega), if_neg (by simpa using ha), if_pos hn])|exact Zo (h := by unfold chErr; rw [if_neg (by omega), if_neg (by simpa using ha), if_pos hn])|refine ResLe.agg ?_|refine And.intro ?_ ?_)))
    · refine ⟨j + 1, ⟨by omega, fun i hi => ?_⟩, by omega, ?_, ?_, ?_, ?_⟩
      · by_cases hik : i = j
        · subst hik; omega
        · exact hy i (by omega)
      all_goals exact Yz
    · have hc : ascC us := fun i hi => hy i (by omega)
      (repeat' (first|exact Zrq|exact Zi (by unfold chErr; rw [if_neg (by omega), if_neg (by simpa using ha), if_neg (by simpa using hc)])|exact Zo (h := by unfold chErr; rw [if_neg (by omega), if_neg (by simpa using ha), if_neg (by simpa using hc)])|refine ResLe.agg ?_|refine And.intro ?_ ?_|((conv=>whnf); first|exact Zrq|exact Zi (by unfold chErr; rw [if_neg (by omega), if_neg (by simpa using ha), if_neg (by simpa using hc)])|exact Zo (h := by unfold chErr; rw [if_neg (by omega), if_neg (by simpa using ha), if_neg (by simpa using hc)])|refine ResLe.agg ?_|refine And.intro ?_ ?_)))

theorem sum1_t (x : Ch) (t : Int) : ACalls XX 85 [chA x, iA t] (iA (cmpI x.m t)) := by
  refine ACalls.of (n := Tryz.f85.ntmps) XX_ok Tryz.func85 rfl (by kernel_rfl) rfl rfl (Nat.le_of_ble_eq_true rfl) ?_
  (repeat' (first|((first|refine Zg ?_|refine Zn ?_|refine Zc ?_|refine Zu fun b hb=>?_|refine Zy (cmp_t _ _) ?_);conv=>whnf)|(refine Zb ?_ ?_<;>(intro h;first|exact Zx|conv=>whnf))))
  all_goals exact Zrz
def loC (us : List Ch) (t : Int) : Nat := (us.filter fun x => x.m < t).length
def hadC (us : List Ch) (t : Int) : Prop := ∃ x ∈ us, x.m = t
instance (us : List Ch) (t : Int) : Decidable (hadC us t) := by unfold hadC; exact inferInstance
theorem loC_le (us : List Ch) (t : Int) : loC us t ≤ us.length := List.length_filter_le _ _
theorem ascC_cons {x : Ch} {l : List Ch} (h : ascC (x :: l)) : ascC l ∧ ∀ y ∈ l, x.m < y.m := by
  have h1 : ascC l := fun i hi => by simpa using h (i + 1) (by simp; omega)
  refine ⟨h1, all_getD.2 ?_⟩
  intro k
  induction k with
  | zero => intro hk; simpa using h 0 (by simp; omega)
  | succ k ih => intro hk; have := ih (by omega); have := h1 k hk; omega
theorem loC_parts {t : Int} : ∀ {us : List Ch}, ascC us → (∀ i, i < us.length → ((us.getD i default).m < t ↔ i < loC us t)) ∧ (hadC us t → loC us t < us.length ∧ (us.getD (loC us t) default).m = t)
  | [], _ => by simp [loC, hadC]
  | x :: l, h => by
    obtain ⟨h1, h2⟩ := ascC_cons h
    obtain ⟨k1, k2⟩ := loC_parts (t := t) h1
    by_cases hx : x.m < t
    · have e : loC (x :: l) t = loC l t + 1 := by unfold loC; rw [List.filter_cons_of_pos (by simpa using hx)]; rfl
      rw [e]
      refine ⟨fun i hi => ?_, fun ⟨y, hy, he⟩ => ?_⟩
      · cases i with
        | zero => simpa using hx
        | succ i => have := k1 i (by simpa using hi); simp only [List.getD_cons_succ]; omega
      · rcases List.mem_cons.1 hy with rfl|hy
        · omega
        · obtain ⟨a, b⟩ := k2 ⟨y, hy, he⟩
          simp only [List.length_cons, List.getD_cons_succ]
          exact ⟨by omega, b⟩
    · have hl : ∀ y ∈ l, ¬ y.m < t := fun y hy => by have := h2 y hy; omega
      have e : loC (x :: l) t = 0 := by
        unfold loC
        rw [List.filter_cons_of_neg (by simpa using hx), List.filter_eq_nil_iff.2 (fun y hy => by simpa using hl y hy)]
        rfl
      rw [e]
      refine ⟨fun i hi => ?_, fun ⟨y, hy, he⟩ => ?_⟩
      · have := (all_getD (us := x :: l) (p := fun y => ¬ y.m < t)).1 (fun y hy => by
          rcases List.mem_cons.1 hy with rfl|hy
          · exact hx
          · exact hl y hy) i hi
        omega
      · refine ⟨by simp, ?_⟩
        rcases List.mem_cons.1 hy with rfl|hy
        · simpa using he
        · have := h2 y hy; omega
theorem bsearchC_t (us : List Ch) (mv : Int) (ha : ascC us) (hl : us.length ≤ 1000) : ACalls XX 84 [.dat (chD us), iA mv, .dat (.val (.func (.func 85) #[] #[]))] (.tup [iA (loC us mv), bA (decide (hadC us mv))]) := by
  obtain ⟨k2, k3⟩ := loC_parts (t := mv) ha
  have hle := loC_le us mv
  have hs := sum1_t
  generalize hk : loC us mv = k at *
  refine ACalls.of (n := Tryz.f84.ntmps) XX_ok Tryz.func84 rfl (by kernel_rfl) rfl rfl (Nat.le_of_ble_eq_true rfl) ?_
  (repeat' (first|((first|refine Zg ?_|refine Zn ?_|refine Zc ?_|refine Zu fun b hb=>?_);conv=>whnf)|(refine Zb ?_ ?_<;>(intro h;first|exact Zx|conv=>whnf))))
  refine (W.loopK (ι := Nat × Nat) [0, 1, 2, 8] [] (fun p => [(9, iA p.1), (10, iA p.2)]) (fun _ => []) (fun p => p.1 ≤ k ∧ k ≤ p.2 ∧ p.2 ≤ us.length) (fun p => p.2 - p.1) (0, us.length) ⟨Nat.zero_le _, hle, Nat.le_refl _⟩ ?_ ?_ ?_)
  · exact Yz
  · exact Yz
  conv => whnf
  intro p ⟨hp1, hp2, hp3⟩
  have hz : ((p.1 : Int) + p.2).fdiv (2 ^ (min (1 : Int).toNat 64)) = (((p.1 + p.2) / 2 : Nat) : Int) := by
    rw [show min (1 : Int).toNat 64 = 1 by decide, Int.fdiv_eq_ediv_of_nonneg _ (by decide)]
    simp
  (repeat' (first|((first|refine Zg ?_|refine Zn ?_|refine Zc ?_|refine Zu fun b hb=>?_);conv=>whnf)|(refine Zb ?_ ?_<;>(intro h;first|exact Zx|conv=>whnf))))
  · have hm : (p.1 + p.2) / 2 < us.length := by omega
    have hk2 := k2 _ hm
    refine NumK.as (((p.1 + p.2) / 2 : Nat) : Int) ((wrapOk (by omega)).trans (congrArg IntKind.i64.wrap hz.symm)) ?_
    conv => whnf
    have hc := hs (us.getD ((p.1 + p.2) / 2) default) mv
    (repeat' (first|((first|refine Zg ?_|refine Zn ?_|refine Zc ?_|refine Zu fun b hb=>?_|refine Zy hc ?_);conv=>whnf)|(refine Zb ?_ ?_<;>(intro h;first|exact Zx|conv=>whnf))))
    · have : (us.getD ((p.1 + p.2) / 2) default).m < mv := by unfold cmpI at h; split at h <;> (try split at h) <;> omega
      exact ⟨((p.1 + p.2) / 2 + 1, p.2), ⟨by simp; omega, by simp; omega, by simp; omega⟩, by simp; omega, by (repeat' (first|exact Yq|exact Yi (by first|rfl|(simp; done)|omega)|exact Yo (by first|rfl|(simp; done)|omega)|exact Ye (by first|rfl|(simp; done)|omega)|refine ⟨_, rfl, Yb ?_, rfl⟩|refine ⟨_, rfl, Yw (by first|rfl|(simp; done)|omega) ?_, rfl⟩|refine And.intro ?_ ?_)), trivial, by (repeat' (first|exact Yq|refine ⟨_, rfl, Yb ?_, rfl⟩|refine ⟨_, rfl, Yw (by first|rfl|omega) ?_, rfl⟩|refine And.intro ?_ ?_)), trivial⟩
    · have : ¬ (us.getD ((p.1 + p.2) / 2) default).m < mv := by unfold cmpI at h; split at h <;> (try split at h) <;> omega
      exact ⟨(p.1, (p.1 + p.2) / 2), ⟨by simp; omega, by simp; omega, by simp; omega⟩, by simp; omega, by (repeat' (first|exact Yq|exact Yi (by first|rfl|(simp; done)|omega)|exact Yo (by first|rfl|(simp; done)|omega)|exact Ye (by first|rfl|(simp; done)|omega)|refine ⟨_, rfl, Yb ?_, rfl⟩|refine ⟨_, rfl, Yw (by first|rfl|(simp; done)|omega) ?_, rfl⟩|refine And.intro ?_ ?_)), trivial, by (repeat' (first|exact Yq|refine ⟨_, rfl, Yb ?_, rfl⟩|refine ⟨_, rfl, Yw (by first|rfl|omega) ?_, rfl⟩|refine And.intro ?_ ?_)), trivial⟩
  · have e1 : p.1 = k := by omega
    have hlt : k < us.length := by omega
    have e2 : ((p.1 : Int)).toNat = k := by omega
    have hc := hs (us.getD k default) mv
    rw [e1] at *
    (repeat' (first|((first|refine Zg ?_|refine Zn ?_|refine Zc ?_|refine Zu fun b hb=>?_|refine Zy hc ?_);conv=>whnf)|(refine Zb ?_ ?_<;>(intro h;first|exact Zx|conv=>whnf))))
    have hf : (cmpI (us.getD k default).m mv = 0) ↔ hadC us mv := by
      refine ⟨fun h => ⟨us.getD k default, getD_in hlt, ?_⟩, fun h => ?_⟩
      · unfold cmpI at h; split at h <;> (try split at h) <;> omega
      · have := (k3 h).2
        unfold cmpI; rw [if_neg (by omega), if_neg (by omega)]
    (repeat' (first|exact Zrq|exact Zi (by first|rfl|omega|exact hf)|exact Zo (h := by first|rfl|omega|exact hf)|refine ResLe.agg ?_|refine And.intro ?_ ?_|((conv=>whnf); first|exact Zrq|exact Zi (by first|rfl|omega|exact hf)|exact Zo (h := by first|rfl|omega|exact hf)|refine ResLe.agg ?_|refine And.intro ?_ ?_)))
  · have hn : ¬ hadC us mv := fun h => by have := (k3 h).1; omega
    (repeat' (first|exact Zrq|exact Zi (by first|rfl|omega|exact hn)|exact Zo (h := by first|rfl|omega|exact hn)|refine ResLe.agg ?_|refine And.intro ?_ ?_|((conv=>whnf); first|exact Zrq|exact Zi (by first|rfl|omega|exact hn)|exact Zo (h := by first|rfl|omega|exact hn)|refine ResLe.agg ?_|refine And.intro ?_ ?_)))

def chOf (cs : List Ch) (t : Int) : Ch := cs.getD (loC cs t) default
noncomputable def stepE (cs : List Ch) (x : Sl) : Int := if ¬ hadC cs x.m then 6 else if porOk (chOf cs x.m).a (chOf cs x.m).u x.s x.e then 0 else 2
def stepV (cs : List Ch) (x : Sl) : Int := porI (chOf cs x.m).a (chOf cs x.m).u x.s x.e
noncomputable def dutE (cs : List Ch) (us : List Sl) : Int := orL (us.map (stepE cs))
def dutV (cs : List Ch) (us : List Sl) : Int := (us.map (stepV cs)).sum
theorem dutV_snoc (cs : List Ch) (us : List Sl) (k : Nat) (h : k < us.length) : dutV cs (us.take (k + 1)) = dutV cs (us.take k) + stepV cs (us.getD k default) := by
  rw [List.take_succ_eq_append_getElem h, List.getD_eq_getElem?_getD, List.getElem?_eq_getElem h]
  unfold dutV
  rw [List.map_append, List.sum_append]
  simp
theorem porI_rng {a u s e : Int} (h : porOk a u s e) : -1000000000000 ≤ porI a u s e ∧ porI a u s e ≤ 1000000000000 := by
  obtain ⟨h1, h2, h3⟩ := h
  have r1 := mulDiv_rng h1 h2 (n := e) (by omega)
  have r2 := mulDiv_rng h1 h2 (n := s) (by omega)
  unfold amOk at h1
  unfold porI
  omega
theorem stepV_rng {cs : List Ch} {x : Sl} (h : stepE cs x = 0) : -1000000000000 ≤ stepV cs x ∧ stepV cs x ≤ 1000000000000 := by
  unfold stepE at h
  split at h
  · omega
  · split at h
    · rename_i hp; exact porI_rng hp
    · omega
theorem dutV_rng (cs : List Ch) (us : List Sl) : ∀ k, k ≤ us.length → (∀ i, i < k → stepE cs (us.getD i default) = 0) → -(1000000000000 * (k : Int)) ≤ dutV cs (us.take k) ∧ dutV cs (us.take k) ≤ 1000000000000 * (k : Int)
  | 0, _, _ => by simp [dutV]
  | k + 1, hk, h => by
    have h1 := dutV_rng cs us k (by omega) fun i hi => h i (by omega)
    have h2 := stepV_rng (h k (by omega))
    rw [dutV_snoc cs us k (by omega)]
    omega
theorem map_getD {cs : List Ch} {us : List Sl} {k : Nat} (h : k < us.length) : (us.map (stepE cs)).getD k 0 = stepE cs (us.getD k default) := by
  simp [h]
theorem dutE_at {cs : List Ch} {us : List Sl} {k : Nat} (h : k < us.length) (hz : ∀ i, i < k → stepE cs (us.getD i default) = 0) (hx : stepE cs (us.getD k default) ≠ 0) : dutE cs us = stepE cs (us.getD k default) := by
  unfold dutE
  rw [← map_getD h] at hx ⊢
  exact orL_at (by simpa using h) (fun i hi => by rw [map_getD (by omega)]; exact hz i hi) hx
theorem dutE_none {cs : List Ch} {us : List Sl} (hz : ∀ i, i < us.length → stepE cs (us.getD i default) = 0) : dutE cs us = 0 :=
  orL_none fun i hi => by
    have hi : i < us.length := by simpa using hi
    rw [map_getD hi]; exact hz i hi
theorem sum_t (us : List Sl) (cs : List Ch) (hu : us.length ≤ 64) (hc : cs.length ≤ 64) (ha : ascC cs) : ACalls XX 44 [.dat (slD us), .dat (chD cs)] (.tup [iA (if dutE cs us = 0 then dutV cs us else 0), iA (dutE cs us)]) := by
  refine ACalls.of (n := Tryz.f44.ntmps) XX_ok Tryz.func44 rfl (by kernel_rfl) rfl rfl (Nat.le_of_ble_eq_true rfl) ?_
  (repeat' (first|((first|refine Zg ?_|refine Zt dr44 ?_|refine Zn ?_|refine Zc ?_|refine Zu fun b hb=>?_);conv=>whnf)|(refine Zb ?_ ?_<;>(intro h;first|exact Zx|conv=>whnf))))
  refine (W.loopK (ι := Nat) [0, 1, 13, 14] [] (fun k => [(15, iA k), (6, iA (dutV cs (us.take k)))]) (fun _ => []) (fun k => k ≤ us.length ∧ ∀ i, i < k → stepE cs (us.getD i default) = 0) (fun k => us.length - k) 0 ⟨Nat.zero_le _, fun i hi => absurd hi (by omega)⟩ ?_ ?_ ?_)
  · exact Yz
  · exact Yz
  conv => whnf
  intro k ⟨hk, hz⟩
  by_cases hk' : k < us.length
  · have hb := bsearchC_t cs (us.getD k default).m ha (by omega)
    have hp := portion_t (chOf cs (us.getD k default).m).a (chOf cs (us.getD k default).m).u (us.getD k default).s (us.getD k default).e
    have hr := dutV_rng cs us k hk hz
    have hs := dutV_snoc cs us k hk'
    obtain ⟨_, k3⟩ := loC_parts (t := (us.getD k default).m) ha
    have hE : stepE cs (us.getD k default) = (if ¬ hadC cs (us.getD k default).m then 6 else if porOk (chOf cs (us.getD k default).m).a (chOf cs (us.getD k default).m).u (us.getD k default).s (us.getD k default).e then 0 else 2) := rfl
    have hD := dutE_at hk' hz
    have hV : stepE cs (us.getD k default) = 0 → _ := stepV_rng
    have hW : stepV cs (us.getD k default) = porI (chOf cs (us.getD k default).m).a (chOf cs (us.getD k default).m).u (us.getD k default).s (us.getD k default).e := rfl
    by_cases hh : hadC cs (us.getD k default).m
    · obtain ⟨k4, k5⟩ := k3 hh
      rw [decide_eq_true hh] at hb
      rw [if_neg (by simpa using hh)] at hE
      unfold chOf at hp hE hW
      by_cases hq : porOk (cs.getD (loC cs (us.getD k default).m) default).a (cs.getD (loC cs (us.getD k default).m) default).u (us.getD k default).s (us.getD k default).e
      · rw [if_pos hq] at hE
        rw [if_pos hq, if_pos hq, ← hW] at hp
        have hV := hV hE
        (repeat' (first|((first|refine Zg ?_|refine Zt dr44 ?_|refine Zn ?_|refine Zc ?_|refine Zu fun b hb=>?_|refine Zy hb ?_|refine Zz hb ?_);conv=>whnf)|(refine Zb ?_ ?_<;>(intro h;first|exact Zx|conv=>whnf))))
        all_goals (try dsimp only [Int.toNat_natCast] at *)
        (repeat' (first|((first|refine Zg ?_|refine Zt dr44 ?_|refine Zn ?_|refine Zc ?_|refine Zu fun b hb=>?_|refine Zy hb ?_|refine Zz hb ?_|refine Zy hp ?_|refine Zz hp ?_);conv=>whnf)|(refine Zb ?_ ?_<;>(intro h;first|exact Zx|conv=>whnf))))
        refine ⟨k + 1, ⟨by omega, fun i hi => ?_⟩, by omega, ?_, ?_, ?_, ?_⟩
        · by_cases hik : i = k
          · subst hik; exact hE
          · exact hz i (by omega)
        all_goals exact Yz
      · rw [if_neg hq] at hE
        rw [if_neg hq, if_neg hq] at hp
        have hD := hD (by omega)
        rw [hE] at hD
        (repeat' (first|((first|refine Zg ?_|refine Zt dr44 ?_|refine Zn ?_|refine Zc ?_|refine Zu fun b hb=>?_|refine Zy hb ?_|refine Zz hb ?_);conv=>whnf)|(refine Zb ?_ ?_<;>(intro h;first|exact Zx|conv=>whnf))))
        all_goals (try dsimp only [Int.toNat_natCast] at *)
        (repeat' (first|((first|refine Zg ?_|refine Zt dr44 ?_|refine Zn ?_|refine Zc ?_|refine Zu fun b hb=>?_|refine Zy hb ?_|refine Zz hb ?_|refine Zy hp ?_|refine Zz hp ?_);conv=>whnf)|(refine Zb ?_ ?_<;>(intro h;first|exact Zx|conv=>whnf))))
        all_goals (repeat' (first|exact Zrq|exact Zi (by first|rfl|omega|(rw [hD]; rfl))|exact Zo (h := by first|rfl|omega|(rw [hD]; rfl))|refine ResLe.agg ?_|refine And.intro ?_ ?_|((conv=>whnf); first|exact Zrq|exact Zi (by first|rfl|omega|(rw [hD]; rfl))|exact Zo (h := by first|rfl|omega|(rw [hD]; rfl))|refine ResLe.agg ?_|refine And.intro ?_ ?_)))
    · rw [decide_eq_false hh] at hb
      rw [if_pos (by simpa using hh)] at hE
      have hD := hD (by omega)
      rw [hE] at hD
      (repeat' (first|((first|refine Zg ?_|refine Zt dr44 ?_|refine Zn ?_|refine Zc ?_|refine Zu fun b hb=>?_|refine Zy hb ?_|refine Zz hb ?_);conv=>whnf)|(refine Zb ?_ ?_<;>(intro h;first|exact Zx|conv=>whnf))))
      all_goals (try dsimp only [Int.toNat_natCast] at *)
      (repeat' (first|((first|refine Zg ?_|refine Zt dr44 ?_|refine Zn ?_|refine Zc ?_|refine Zu fun b hb=>?_|refine Zy hb ?_|refine Zz hb ?_);conv=>whnf)|(refine Zb ?_ ?_<;>(intro h;first|exact Zx|conv=>whnf))))
      all_goals (repeat' (first|exact Zrq|exact Zi (by first|rfl|omega|(rw [hD]; rfl))|exact Zo (h := by first|rfl|omega|(rw [hD]; rfl))|refine ResLe.agg ?_|refine And.intro ?_ ?_|((conv=>whnf); first|exact Zrq|exact Zi (by first|rfl|omega|(rw [hD]; rfl))|exact Zo (h := by first|rfl|omega|(rw [hD]; rfl))|refine ResLe.agg ?_|refine And.intro ?_ ?_)))
  · have hke : k = us.length := by omega
    subst hke
    have hD := dutE_none hz
    (repeat' (first|((first|refine Zg ?_|refine Zt dr44 ?_|refine Zn ?_|refine Zc ?_|refine Zu fun b hb=>?_);conv=>whnf)|(refine Zb ?_ ?_<;>(intro h;first|exact Zx|conv=>whnf))))
    simp only [List.take_length]
    all_goals (repeat' (first|exact Zrq|exact Zi (by first|rfl|omega|(rw [hD]; rfl))|exact Zo (h := by first|rfl|omega|(rw [hD]; rfl))|refine ResLe.agg ?_|refine And.intro ?_ ?_|((conv=>whnf); first|exact Zrq|exact Zi (by first|rfl|omega|(rw [hD]; rfl))|exact Zo (h := by first|rfl|omega|(rw [hD]; rfl))|refine ResLe.agg ?_|refine And.intro ?_ ?_)))

end Go.Proofs.YtacpjihbbmoolaaGreatDoor

namespace Go.Proofs.YtacpjihbbmoolaaGreatDoor
open Go Go.RowKit
set_option linter.unusedVariables false
set_option linter.unusedSimpArgs false
set_option maxRecDepth 100000
set_option maxHeartbeats 4000000
attribute [local irreducible] ResLe AVle ArgLe ArgP EntLe Dle ResH ArgQ

noncomputable def dutyE (us : List Sl) (cs : List Ch) : Int := if lotErr us ≠ 0 then lotErr us else if chErr cs ≠ 0 then chErr cs else dutE cs us
noncomputable def dutyV (us : List Sl) (cs : List Ch) : Int := if dutyE us cs = 0 then dutV cs us else 0
theorem lotErr_len {us : List Sl} (h : lotErr us = 0) : us.length ≤ 64 := by
  unfold lotErr at h
  split at h <;> omega
theorem chErr_len {cs : List Ch} (h : chErr cs = 0) : cs.length ≤ 64 ∧ (∀ x ∈ cs, chOk x) ∧ ascC cs := by
  unfold chErr at h
  split at h
  · omega
  · split at h
    · omega
    · split at h
      · omega
      · rename_i h1 h2 h3
        exact ⟨by omega, Classical.not_not.1 h2, Classical.not_not.1 h3⟩
theorem duty_t (us : List Sl) (cs : List Ch) (hu : us.length ≤ 9223372036854775807) (hc : cs.length ≤ 9223372036854775807) : ACalls XX 15 [.dat (slD us), .dat (chD cs)] (.tup [iA (dutyV us cs), iA (dutyE us cs)]) := by
  have h1 := valid_t us hu
  have h2 := latValidate_t cs hc
  by_cases e1 : lotErr us = 0
  · by_cases e2 : chErr cs = 0
    · have h3 := sum_t us cs (lotErr_len e1) (chErr_len e2).1 (chErr_len e2).2.2
      have e3 : dutyE us cs = dutE cs us := by unfold dutyE; rw [if_neg (by simpa using e1), if_neg (by simpa using e2)]
      have e4 : dutyV us cs = if dutE cs us = 0 then dutV cs us else 0 := by unfold dutyV; rw [e3]
      rw [e3, e4]
      rw [e1] at h1
      rw [e2] at h2
      refine ACalls.of (n := Tryz.f15.ntmps) XX_ok Tryz.func15 rfl (by kernel_rfl) rfl rfl (Nat.le_of_ble_eq_true rfl) ?_
      (repeat' (first|((first|refine Zg ?_|refine Zn ?_|refine Zc ?_|refine Zu fun b hb=>?_|refine Zy h1 ?_|refine Zy h2 ?_|refine Zy h3 ?_);conv=>whnf)|(refine Zb ?_ ?_<;>(intro h;first|exact Zx|conv=>whnf))))
      all_goals exact Zrz
    · have e3 : dutyE us cs = chErr cs := by unfold dutyE; rw [if_neg (by simpa using e1), if_pos e2]
      have e4 : dutyV us cs = 0 := by unfold dutyV; rw [e3, if_neg e2]
      rw [e3, e4]
      rw [e1] at h1
      refine ACalls.of (n := Tryz.f15.ntmps) XX_ok Tryz.func15 rfl (by kernel_rfl) rfl rfl (Nat.le_of_ble_eq_true rfl) ?_
      (repeat' (first|((first|refine Zg ?_|refine Zn ?_|refine Zc ?_|refine Zu fun b hb=>?_|refine Zy h1 ?_|refine Zy h2 ?_);conv=>whnf)|(refine Zb ?_ ?_<;>(intro h;first|exact Zx|conv=>whnf))))
      all_goals exact Zrz
  · have e3 : dutyE us cs = lotErr us := by unfold dutyE; rw [if_pos e1]
    have e4 : dutyV us cs = 0 := by unfold dutyV; rw [e3, if_neg e1]
    rw [e3, e4]
    refine ACalls.of (n := Tryz.f15.ntmps) XX_ok Tryz.func15 rfl (by kernel_rfl) rfl rfl (Nat.le_of_ble_eq_true rfl) ?_
    (repeat' (first|((first|refine Zg ?_|refine Zn ?_|refine Zc ?_|refine Zu fun b hb=>?_|refine Zy h1 ?_);conv=>whnf)|(refine Zb ?_ ?_<;>(intro h;first|exact Zx|conv=>whnf))))
    all_goals exact Zrz
theorem duty_awake : dutyV [⟨7, 0, 2⟩] [⟨7, 3, 100⟩] = 66 ∧ dutyE [⟨7, 0, 2⟩] [⟨7, 3, 100⟩] = 0 := by
  have h1 : lotErr [⟨7, 0, 2⟩] = 0 := by
    unfold lotErr
    rw [if_neg (by simp), if_neg (by simp [slOk]), if_neg]
    rintro ⟨i, hi, _⟩
    simp at hi
  have h2 : chErr [⟨7, 3, 100⟩] = 0 := by
    unfold chErr
    rw [if_neg (by simp), if_neg (by simp [chOk, unOk, amOk]), if_neg]
    exact fun h => h fun i hi => by simp at hi
  have h3 : loC [⟨7, 3, 100⟩] 7 = 0 := by simp [loC]
  have h4 : hadC [⟨7, 3, 100⟩] 7 := ⟨_, List.mem_singleton.2 rfl, rfl⟩
  have h5 : dutE [⟨7, 3, 100⟩] [⟨7, 0, 2⟩] = 0 := by
    unfold dutE
    simp [stepE, h4, orL, chOf, h3, porOk, amOk, unOk]
  have h6 : dutyE [⟨7, 0, 2⟩] [⟨7, 3, 100⟩] = 0 := by unfold dutyE; rw [if_neg (by simpa using h1), if_neg (by simpa using h2), h5]
  refine ⟨?_, h6⟩
  unfold dutyV
  rw [if_pos h6]
  simp [dutV, stepV, chOf, h3, porI]
theorem l27awake_t : ACalls XX 16 [] (bA true) := by
  have k1 := portion_t 100 3 0 1
  have k2 := portion_t 100 3 2 3
  have k3 := duty_t [⟨7, 0, 2⟩] [⟨7, 3, 100⟩] (by simp) (by simp)
  rw [if_pos (by decide), if_pos (by decide)] at k1 k2
  rw [duty_awake.1, duty_awake.2] at k3
  rw [show porI 100 3 0 1 = 33 by decide] at k1
  rw [show porI 100 3 2 3 = 34 by decide] at k2
  refine ACalls.of (n := Tryz.f16.ntmps) XX_ok Tryz.func16 rfl (by kernel_rfl) rfl rfl (Nat.le_of_ble_eq_true rfl) ?_
  (repeat' (first|((first|refine Zg ?_|refine Zn ?_|refine Zc ?_|refine Zu fun b hb=>?_|refine Zy k1 ?_|refine Zy k2 ?_);conv=>whnf)|(refine Zb ?_ ?_<;>(intro h;first|exact Zx|conv=>whnf))))
  refine ExCall.by (CallA.plain k3 ⟨ArgLe.own rfl (Nat.le_refl _) (fun i hi j hj => ?_), ArgLe.own rfl (Nat.le_refl _) (fun i hi j hj => ?_), trivial⟩ rfl) ?_
  · obtain rfl : i = 0 := by simp at hi; omega
    rcases j with _|_|_|j
    · exact Dle.of_eq rfl
    · exact Dle.of_eq rfl
    · exact Dle.of_eq rfl
    · omega
  · obtain rfl : i = 0 := by simp at hi; omega
    rcases j with _|_|_|j
    · exact Dle.of_eq rfl
    · exact Dle.of_eq rfl
    · exact Dle.of_eq rfl
    · omega
  conv => whnf
  (repeat' (first|((first|refine Zg ?_|refine Zn ?_|refine Zc ?_|refine Zu fun b hb=>?_);conv=>whnf)|(refine Zb ?_ ?_<;>(intro h;first|exact Zx|conv=>whnf))))
  all_goals exact Zrz

end Go.Proofs.YtacpjihbbmoolaaGreatDoor
