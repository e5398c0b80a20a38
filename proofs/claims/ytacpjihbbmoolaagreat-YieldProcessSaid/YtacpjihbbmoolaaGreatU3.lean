/- Units, plain law: lists that have each unit once; what cuts do to them. -/
import Derived.Test.YtacpjihbbmoolaaGreatB7
namespace Go.Proofs.YtacpjihbbmoolaaGreat
open Go Go.RowKit
set_option linter.unusedVariables false
set_option linter.unusedSimpArgs false

theorem mem_units {x : Sl} {m u : Int} : (m, u) ∈ unitsOf x ↔ (m = x.m ∧ x.s ≤ u ∧ u < x.e) := by
  unfold unitsOf
  rw [List.mem_map]
  constructor
  · rintro ⟨i, hi, he⟩
    have := List.mem_range.1 hi
    simp only [Prod.mk.injEq] at he
    omega
  · rintro ⟨rfl, h1, h2⟩
    exact ⟨(u - x.s).toNat, List.mem_range.2 (by omega), by simp only [Prod.mk.injEq, true_and]; omega⟩
theorem nodup_units (x : Sl) : (unitsOf x).Nodup := by
  unfold unitsOf
  rw [List.nodup_iff_pairwise_ne, List.pairwise_map]
  refine List.Pairwise.imp ?_ List.nodup_range
  intro a b hab he
  simp only [Prod.mk.injEq, true_and] at he
  exact hab (by omega)
theorem mem_expand {us : List Sl} {m u : Int} : (m, u) ∈ expand us ↔ ∃ x ∈ us, m = x.m ∧ x.s ≤ u ∧ u < x.e := by
  unfold expand
  rw [List.mem_flatMap]
  exact ⟨fun ⟨x, hx, h⟩ => ⟨x, hx, mem_units.1 h⟩, fun ⟨x, hx, h⟩ => ⟨x, hx, mem_units.2 h⟩⟩
theorem meets_units {x y : Sl} (hx : x.s < x.e) (hy : y.s < y.e) : meets x y ↔ ∃ p, p ∈ unitsOf x ∧ p ∈ unitsOf y := by
  unfold meets
  constructor
  · rintro ⟨h1, h2, h3⟩
    rcases Int.le_total x.s y.s with h | h
    · exact ⟨(x.m, y.s), mem_units.2 (by omega), mem_units.2 (by omega)⟩
    · exact ⟨(x.m, x.s), mem_units.2 (by omega), mem_units.2 (by omega)⟩
  · rintro ⟨⟨m, u⟩, h1, h2⟩
    have := mem_units.1 h1
    have := mem_units.1 h2
    omega
theorem anyMeet_cons {x : Sl} {l : List Sl} : anyMeet (x :: l) ↔ (∃ y ∈ l, meets x y) ∨ anyMeet l := by
  constructor
  · rintro ⟨i, j, h1, h2, h3⟩
    cases i with
    | zero =>
      cases j with
      | zero => omega
      | succ j =>
        simp only [List.length_cons] at h2
        exact .inl ⟨_, getD_in (k := j) (by omega), by simpa using h3⟩
    | succ i =>
      cases j with
      | zero => omega
      | succ j => exact .inr ⟨i, j, by omega, by simpa using h2, by simpa using h3⟩
  · rintro (⟨y, hy, h⟩ | ⟨i, j, h1, h2, h3⟩)
    · obtain ⟨j, hj, rfl⟩ := List.getElem_of_mem hy
      exact ⟨0, j + 1, by omega, by simpa using hj, by simpa [hj] using h⟩
    · exact ⟨i + 1, j + 1, by omega, by simpa using h2, by simpa using h3⟩
theorem nodup_iff : ∀ {us : List Sl}, (∀ y ∈ us, y.s < y.e) → ((expand us).Nodup ↔ ¬ anyMeet us)
  | [], _ => by simp [expand, anyMeet]
  | x :: l, h => by
    have hx := h x (by simp)
    have hl : ∀ y ∈ l, y.s < y.e := fun y hy => h y (by simp [hy])
    rw [expand_cons, List.nodup_append, anyMeet_cons, nodup_iff hl]
    constructor
    · rintro ⟨_, h2, h3⟩ (⟨y, hy, hm⟩ | hm)
      · obtain ⟨p, p1, p2⟩ := (meets_units hx (hl y hy)).1 hm
        exact h3 p p1 p (by unfold expand; exact List.mem_flatMap.2 ⟨y, hy, p2⟩) rfl
      · exact h2 hm
    · intro hn
      refine ⟨nodup_units x, fun hm => hn (.inr hm), fun a ha b hb hab => ?_⟩
      subst hab
      unfold expand at hb
      obtain ⟨y, hy, hy2⟩ := List.mem_flatMap.1 hb
      exact hn (.inl ⟨y, hy, (meets_units hx (hl y hy)).2 ⟨a, ha, hy2⟩⟩)
theorem slOk_lt {us : List Sl} (h : ∀ y ∈ us, slOk y) : ∀ y ∈ us, y.s < y.e := fun y hy => by have := h y hy; unfold slOk at this; omega
theorem lotErr_iff {us : List Sl} : lotErr us = 0 ↔ (us.length ≤ 64 ∧ (∀ y ∈ us, slOk y) ∧ (expand us).Nodup) := by
  constructor
  · intro h
    obtain ⟨h1, h2, h3⟩ := lotErr_ok h
    rw [ovl_iff us h2] at h3
    exact ⟨h1, h2, (nodup_iff (slOk_lt h2)).2 h3⟩
  · rintro ⟨h1, h2, h3⟩
    have h4 := (nodup_iff (slOk_lt h2)).1 h3
    unfold lotErr
    rw [if_neg (by omega), if_neg (by simpa using h2), if_neg (by rw [ovl_iff us h2]; exact h4)]
theorem cut_perm {us : List Sl} {ks : List Int} (h : fits us ks) : (expand (List.zipWith fstP us ks) ++ expand (List.zipWith sndP us ks)).Perm (expand us) := by
  induction us generalizing ks with
  | nil => cases ks with
    | nil => simp [expand]
    | cons => exact h.elim
  | cons x l ih =>
    cases ks with
    | nil => exact h.elim
    | cons k ks =>
      have hk := h.1
      unfold lenS at hk
      have e : unitsOf (fstP x k) ++ unitsOf (sndP x k) = unitsOf x := units_cat (m := x.m) (a := x.s) (b := x.s + k) (c := x.e) (by omega) (by omega)
      have ih := ih h.2
      simp only [List.zipWith_cons_cons, expand_cons]
      rw [← e, List.append_assoc, List.append_assoc]
      refine List.Perm.append_left _ ?_
      refine List.Perm.trans ?_ (List.Perm.append_left _ ih)
      rw [← List.append_assoc, ← List.append_assoc]
      exact List.Perm.append_right _ List.perm_append_comm
theorem cutAB_perm {us : List Sl} {ks : List Int} (h : fits us ks) (hu : ∀ y ∈ us, y.s ≤ y.e) : (expand (cutA us ks) ++ expand (cutB us ks)).Perm (expand us) := by
  obtain ⟨f1, f2⟩ := fits_mem h hu
  have e1 : expand (cutA us ks) = expand (List.zipWith fstP us ks) := expand_join f1
  have e2 : expand (cutB us ks) = expand (List.zipWith sndP us ks) := expand_join f2
  rw [e1, e2]
  exact cut_perm h
theorem div_perm {m : Int} {us : List Sl} {u : Int} (h : ∀ y ∈ us, slOk y) (hu : 0 ≤ u ∧ u ≤ cnt us) : (expand (divA m us u) ++ expand (divB m us u)).Perm (expand us) := by
  have hle := slOk_le h
  unfold divA divB
  by_cases hm : m = 2
  · rw [if_pos hm, if_pos hm]
    unfold frA frB
    exact List.perm_append_comm.trans (cutAB_perm (fits_shL hle (by omega)) hle)
  · rw [if_neg hm, if_neg hm]
    exact cutAB_perm (ksM_ok h hu).1 hle
theorem div_valid {m : Int} {us : List Sl} {u : Int} (h : ∀ y ∈ us, slOk y) (hl : us.length ≤ 64) (hd : (expand us).Nodup) (hu : 0 ≤ u ∧ u ≤ cnt us) : lotErr (divA m us u) = 0 ∧ lotErr (divB m us u) = 0 := by
  have hR := divR (m := m) h hu
  have hp := div_perm (m := m) h hu
  have hn := hp.nodup_iff.2 hd
  rw [List.nodup_append] at hn
  exact ⟨lotErr_iff.2 ⟨by have := hR.lA; omega, hR.oA, hn.1⟩, lotErr_iff.2 ⟨by have := hR.lB; omega, hR.oB, hn.2.1⟩⟩
theorem join_valid {us : List Sl} (h : lotErr us = 0) : lotErr (joinL us) = 0 := by
  obtain ⟨h1, h2, h3⟩ := lotErr_iff.1 h
  refine lotErr_iff.2 ⟨by have := joinL_len us; omega, joinL_ok h2, ?_⟩
  rw [expand_join (slOk_le h2)]
  exact h3
end Go.Proofs.YtacpjihbbmoolaaGreat
