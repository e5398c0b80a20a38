/- Whether a lot is valid; portions of charges. -/
import Derived.Test.YtfinilnaofbkkaaS2
namespace Go.Proofs.Ytfinilnaofbkkaa
open Go Go.RowKit
set_option linter.unusedVariables false
set_option linter.unusedSimpArgs false
set_option maxRecDepth 100000
set_option maxHeartbeats 4000000
attribute [local irreducible] ResLe AVle ArgLe ArgP EntLe Dle ResH ArgQ

theorem getD_in {α : Type} [Inhabited α] {us : List α} {k : Nat} (h : k < us.length) : us.getD k default ∈ us := by
  rw [List.getD_eq_getElem?_getD, List.getElem?_eq_getElem h]; exact List.getElem_mem _
theorem all_getD {α : Type} [Inhabited α] {us : List α} {p : α → Prop} : (∀ x ∈ us, p x) ↔ ∀ i, i < us.length → p (us.getD i default) := by
  refine ⟨fun h i hi => h _ (getD_in hi), fun h x hx => ?_⟩
  obtain ⟨i, hi, rfl⟩ := List.getElem_of_mem hx
  have := h i hi
  rwa [List.getD_eq_getElem?_getD, List.getElem?_eq_getElem hi] at this
noncomputable def lotErr (us : List Sl) : Int := if 64 < us.length then 8 else if ¬ (∀ x ∈ us, slOk x) then 2 else if ovl us then 13 else 0
theorem valid_t (us : List Sl) (hL : us.length ≤ 9223372036854775807) : ACalls XX 36 [.dat (slD us)] (iA (lotErr us)) := by
  refine ACalls.of (n := Try.f36.ntmps) XX_ok Try.func36 rfl (by kernel_rfl) rfl rfl (Nat.le_of_ble_eq_true rfl) ?_
  (repeat' (first | refine Zs ?_ | refine Zk ?_ | ((first | refine Za ?_ | refine Zr ?_ | refine Zp ?_ | refine Ze ?_ | refine Zd ?_ | refine Zn ?_ | refine Zc ?_ | refine UnK.mk (fun b hb => ?_)); conv => whnf) | (refine Zb (fun h => ?_) (fun h => ?_) <;> first | exact Zx | (conv => whnf))))
  · (repeat' (first | exact trivial | exact Zm | exact Zl | exact ResLe.row0 rfl | exact Zi (by unfold lotErr; rw [if_pos (by omega)]) | exact Zo (h := by unfold lotErr; rw [if_pos (by omega)]) | exact ResLe.bo rfl rfl Iff.rfl | refine ResLe.agg ?_ | refine And.intro ?_ ?_ | ((conv => whnf); first | exact Zl | exact ResLe.row0 rfl | exact Zi (by unfold lotErr; rw [if_pos (by omega)]) | exact Zo (h := by unfold lotErr; rw [if_pos (by omega)]) | exact ResLe.bo rfl rfl Iff.rfl | refine ResLe.agg ?_ | refine And.intro ?_ ?_)))
  have hl : us.length ≤ 64 := by omega
  refine (W.loopK (ι := Nat) [0, 8, 9] [] (fun k => [(10, iA k)]) (fun _ => []) (fun k => k ≤ us.length ∧ ∀ i, i < k → slOk (us.getD i default)) (fun k => us.length - k) 0 ⟨Nat.zero_le _, fun i hi => absurd hi (by omega)⟩ ?_ ?_ ?_)
  · exact Yz
  · exact Yz
  conv => whnf
  intro k ⟨hk, hz⟩
  have hv := validSlice_t (us.getD k default)
  (repeat' (first | refine Zs ?_ | refine Zk ?_ | ((first | refine Za ?_ | refine Zr ?_ | refine Zp ?_ | refine Ze ?_ | refine Zd ?_ | refine Zn ?_ | refine Zc ?_ | refine UnK.mk (fun b hb => ?_) | refine Zy hv ?_); conv => whnf) | (refine Zb (fun h => ?_) (fun h => ?_) <;> first | exact Zx | (conv => whnf))))
  all_goals (try dsimp only [Int.toNat_natCast] at *)
  (repeat' (first | refine Zs ?_ | refine Zk ?_ | ((first | refine Za ?_ | refine Zr ?_ | refine Zp ?_ | refine Ze ?_ | refine Zd ?_ | refine Zn ?_ | refine Zc ?_ | refine UnK.mk (fun b hb => ?_) | refine Zy hv ?_); conv => whnf) | (refine Zb (fun h => ?_) (fun h => ?_) <;> first | exact Zx | (conv => whnf))))
  · have hn : ¬ ∀ x ∈ us, slOk x := fun ha => by
      have := ha _ (getD_in (k := k) (by omega))
      simp_all
    (repeat' (first | exact trivial | exact Zm | exact Zl | exact ResLe.row0 rfl | exact Zi (by unfold lotErr; rw [if_neg (by omega), if_pos hn]) | exact Zo (h := by unfold lotErr; rw [if_neg (by omega), if_pos hn]) | exact ResLe.bo rfl rfl Iff.rfl | refine ResLe.agg ?_ | refine And.intro ?_ ?_ | ((conv => whnf); first | exact Zl | exact ResLe.row0 rfl | exact Zi (by unfold lotErr; rw [if_neg (by omega), if_pos hn]) | exact Zo (h := by unfold lotErr; rw [if_neg (by omega), if_pos hn]) | exact ResLe.bo rfl rfl Iff.rfl | refine ResLe.agg ?_ | refine And.intro ?_ ?_)))
  · refine ⟨k + 1, ⟨by omega, fun i hi => ?_⟩, by omega, ?_, ?_, ?_, ?_⟩
    · by_cases hik : i = k
      · subst hik; simp_all
      · exact hz i (by omega)
    all_goals exact Yz
  · have ha : ∀ x ∈ us, slOk x := all_getD.2 fun i hi => hz i (by omega)
    have ho := overlap_t [us] (by simp) (by simp; omega)
    rw [List.flatten_singleton] at ho
    refine ExCall.by (CallA.plain ho ⟨ArgLe.own rfl (Nat.le_refl _) (fun i hi j hj => ?_), trivial⟩ rfl) ?_
    · obtain rfl : i = 0 := by simp at hi; omega
      obtain rfl : j = 0 := by omega
      exact Dle.refl _
    conv => whnf
    (repeat' (first | refine Zs ?_ | refine Zk ?_ | ((first | refine Za ?_ | refine Zr ?_ | refine Zp ?_ | refine Ze ?_ | refine Zd ?_ | refine Zn ?_ | refine Zc ?_ | refine UnK.mk (fun b hb => ?_)); conv => whnf) | (refine Zb (fun h => ?_) (fun h => ?_) <;> first | exact Zx | (conv => whnf))))
    · (repeat' (first | exact trivial | exact Zm | exact Zl | exact ResLe.row0 rfl | exact Zi (by unfold lotErr; rw [if_neg (by omega), if_neg (by simpa using ha), if_pos (by simpa using h)]) | exact Zo (h := by unfold lotErr; rw [if_neg (by omega), if_neg (by simpa using ha), if_pos (by simpa using h)]) | exact ResLe.bo rfl rfl Iff.rfl | refine ResLe.agg ?_ | refine And.intro ?_ ?_ | ((conv => whnf); first | exact Zl | exact ResLe.row0 rfl | exact Zi (by unfold lotErr; rw [if_neg (by omega), if_neg (by simpa using ha), if_pos (by simpa using h)]) | exact Zo (h := by unfold lotErr; rw [if_neg (by omega), if_neg (by simpa using ha), if_pos (by simpa using h)]) | exact ResLe.bo rfl rfl Iff.rfl | refine ResLe.agg ?_ | refine And.intro ?_ ?_)))
    · (repeat' (first | exact trivial | exact Zm | exact Zl | exact ResLe.row0 rfl | exact Zi (by unfold lotErr; rw [if_neg (by omega), if_neg (by simpa using ha), if_neg (by simpa using h)]) | exact Zo (h := by unfold lotErr; rw [if_neg (by omega), if_neg (by simpa using ha), if_neg (by simpa using h)]) | exact ResLe.bo rfl rfl Iff.rfl | refine ResLe.agg ?_ | refine And.intro ?_ ?_ | ((conv => whnf); first | exact Zl | exact ResLe.row0 rfl | exact Zi (by unfold lotErr; rw [if_neg (by omega), if_neg (by simpa using ha), if_neg (by simpa using h)]) | exact Zo (h := by unfold lotErr; rw [if_neg (by omega), if_neg (by simpa using ha), if_neg (by simpa using h)]) | exact ResLe.bo rfl rfl Iff.rfl | refine ResLe.agg ?_ | refine And.intro ?_ ?_)))

end Go.Proofs.Ytfinilnaofbkkaa
