/- The order of lots by IDs; whether the law's package is awake. -/
import Derived.Test.YtacpjihbbmoolaaGreatB8
namespace Go.Proofs.YtacpjihbbmoolaaGreat
open Go Go.RowKit
set_option linter.unusedVariables false
set_option linter.unusedSimpArgs false
set_option maxRecDepth 100000
set_option maxHeartbeats 4000000
attribute [local irreducible] ResLe AVle ArgLe ArgP EntLe Dle ResH ArgQ

theorem range_getD {α : Type} [Inhabited α] (l : List α) : (List.range l.length).map (fun i => l.getD i default) = l := by
  apply List.ext_getElem?
  intro i
  by_cases h : i < l.length
  · simp [h]
  · simp [h]
theorem sortLt_perm (us : List Lt) : (sortLt us).Perm us := by
  have h := (sortAt_perm (n := us.length) (cfI_swo us)).map fun i => us.getD i default
  rw [List.map_map, range_getD] at h
  exact h
theorem sortLt_le (us : List Lt) : (sortLt us).Pairwise fun a b => a.id ≤ b.id := by
  unfold sortLt
  rw [List.pairwise_map]
  refine List.pairwise_iff_getElem.2 fun i j hi hj hij => ?_
  simp only [List.getElem_range, List.length_range] at hi hj ⊢
  have h : ¬ cmpI (us.getD (sortAt us.length (cfI us) j) default).id (us.getD (sortAt us.length (cfI us) i) default).id < 0 := sortAt_le (cfI_swo us) hij hj
  rw [cmpI_lt'] at h
  omega
theorem sort_unique {us vs : List Lt} (hp : us.Perm vs) (hs : vs.Pairwise fun a b => a.id < b.id) : sortLt us = vs := by
  have hle : vs.Pairwise fun a b => a.id ≤ b.id := hs.imp fun h => Int.le_of_lt h
  refine List.Perm.eq_of_pairwise (le := fun a b : Lt => a.id ≤ b.id) (fun a b ha hb h1 h2 => ?_) (sortLt_le us) hle ((sortLt_perm us).trans hp)
  have ha' : a ∈ vs := hp.mem_iff.1 ((sortLt_perm us).mem_iff.1 ha)
  obtain ⟨i, hi, rfl⟩ := List.getElem_of_mem ha'
  obtain ⟨j, hj, rfl⟩ := List.getElem_of_mem hb
  have hq := List.pairwise_iff_getElem.1 hs
  rcases Nat.lt_trichotomy i j with h | h | h
  · have := hq i j hi hj h; omega
  · subst h; rfl
  · have := hq j i hj hi h; omega

theorem rsame_t (us : List Sl) (hl : us.length ≤ 1000000) : ACalls XX 75 [.dat (slD us), .dat (slD us)] (bA true) := by
  have he : EqS Tryz.prog 84 3 := eqS_mk Tryz.eqGuardType84 Tryz.underlying84 Tryz.stoodInHeld84 (by kernel_rfl) rfl
  refine ACalls.of (n := Tryz.f75.ntmps) XX_ok Tryz.func75 rfl (by kernel_rfl) rfl rfl (Nat.le_of_ble_eq_true rfl) ?_
  (repeat' (first | ((first | refine Zg ?_ | refine Zt dr75 ?_ | refine Zn ?_ | refine Zc ?_ | refine Zu fun b hb => ?_); conv => whnf) | (refine Zb (fun h => ?_) (fun h => ?_) <;> first | exact Zx | (conv => whnf))))
  refine (W.loopK (ι := Nat) [0, 1] [] (fun k => [(5, iA k)]) (fun _ => []) (fun k => k ≤ us.length) (fun k => us.length - k) 0 (Nat.zero_le _) ⟨AVle.refl _, trivial⟩ trivial ?_)
  conv => whnf
  intro k hk
  (repeat' (first | ((first | refine Zg ?_ | refine Zt dr75 ?_ | refine Zn ?_ | refine Zc ?_ | refine Zu fun b hb => ?_); conv => whnf) | (refine Zb (fun h => ?_) (fun h => ?_) <;> first | exact Zx | (conv => whnf))))
  · (refine ⟨k + 1, by omega, by omega, ?_, ?_, ?_, ?_⟩ <;> (repeat' (first | exact trivial | exact AVle.refl _ | exact AVle.int (by omega) | exact AVle.int (by (try push_cast); omega) | exact ⟨_, rfl, EntLe.refl _, rfl⟩ | refine ⟨?_, ?_⟩)))
  · exact Zrz

abbrev code0 : ByteArray := ⟨#[49, 48, 48, 48, 48, 48, 48, 48]⟩
abbrev s1 : List Lt := [newLt 1 code0 10]
abbrev s2 : List Lt := [⟨2, code0, 4, 1, [⟨1, 0, 4⟩]⟩, ⟨3, code0, 6, 1, [⟨1, 4, 10⟩]⟩]
theorem stk_nil : StkOk [] := ⟨by simp, by simp, by simp, by simp, fun i hi => by simp at hi, fun h => by
  rcases h with ⟨x, hx, _⟩ | ⟨i, hi, _⟩
  · simp at hx
  · simp [here] at hi⟩
end Go.Proofs.YtacpjihbbmoolaaGreat
