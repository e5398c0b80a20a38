/- Where an action leads to, by the reference. -/
import Derived.Test.YtleknjngglhmaaaGreatC2
namespace Go.Proofs.YtleknjngglhmaaaGreat
open Go Go.RowKit
set_option linter.unusedVariables false
set_option linter.unusedSimpArgs false
set_option maxRecDepth 100000
set_option maxHeartbeats 4000000
attribute [local irreducible] ResLe AVle ArgLe ArgP EntLe Dle ResH ArgQ

def still (p : Int) : Prop := p = 1 ∨ p = 3
def bnd (p : Int) : Prop := (p = 1 ∨ p = 3) ∨ p = 4 ∨ p = 5
instance (p : Int) : Decidable (still p) := by unfold still; exact inferInstance
instance (p : Int) : Decidable (bnd p) := by unfold bnd; exact inferInstance
def nxQ (p a : Int) : Int :=
  if a = 1 then (if p = 0 then 1 else 0) else if a = 2 then (if bnd p then 2 else 0) else if a = 3 then (if p = 2 then 1 else 0) else if a = 4 then (if p = 2 then 13 else 0)
  else if a = 5 then (if bnd p ∧ p ≠ 3 then 3 else 0) else if a = 6 then (if still p then 4 else 0) else if a = 7 then (if still p then 5 else 0) else if a = 8 then (if bnd p then 6 else 0)
  else if a = 9 then (if p = 6 then 7 else 0) else if a = 10 then (if p = 7 then 6 else 0) else if a = 11 then (if p = 6 then 9 else if bnd p then 8 else 0) else if a = 12 then (if bnd p then 10 else 0)
  else if a = 13 then (if still p then 11 else 0) else if a = 14 then (if bnd p ∨ p = 2 then 12 else 0) else 0
def nxE (p a : Int) : Int := if p < 0 ∨ 13 < p ∨ a < 1 ∨ 14 < a then 2 else if nxQ p a = 0 then 17 else 0
def nxR (p a : Int) : Int := if nxE p a = 0 then nxQ p a else 0
theorem nx_of {p a q : Int} (h : ¬ (p < 0 ∨ 13 < p ∨ a < 1 ∨ 14 < a)) (hq : nxQ p a = q) : nxR p a = q ∧ nxE p a = if q = 0 then 17 else 0 := by
  have e : nxE p a = if q = 0 then 17 else 0 := by unfold nxE; rw [if_neg h, hq]
  refine ⟨?_, e⟩
  unfold nxR
  rw [e, hq]
  by_cases h0 : q = 0
  · rw [if_pos h0, if_neg (by omega), h0]
  · rw [if_neg h0, if_pos rfl]
theorem rnext_t (p a : Int) : ACalls XX 100 [iA p, iA a] (.tup [iA (nxR p a), iA (nxE p a)]) := by
  by_cases h0 : p < 0 ∨ 13 < p ∨ a < 1 ∨ 14 < a
  · have e : nxE p a = 2 := by unfold nxE; rw [if_pos h0]
    have e2 : nxR p a = 0 := by unfold nxR; rw [e]; rfl
    rw [e, e2]
    refine ACalls.of (n := Tryz.f100.ntmps) XX_ok Tryz.func100 rfl (by kernel_rfl) rfl rfl (Nat.le_of_ble_eq_true rfl) ?_
    (repeat' (first | refine Zs ?_ | refine Zk ?_ | ((first | refine Za ?_ | refine Zr ?_ | refine Zp ?_ | refine Ze ?_ | refine Zd ?_ | refine Zn ?_ | refine Zc ?_ | refine UnK.mk (fun b hb => ?_)); conv => whnf) | (refine Zb (fun h => ?_) (fun h => ?_) <;> first | exact Zx | (conv => whnf))))
    all_goals first | exact Zrz | (exfalso; omega)
  · obtain ⟨q, hq⟩ : ∃ q, nxQ p a = q := ⟨_, rfl⟩
    obtain ⟨e1, e2⟩ := nx_of h0 hq
    rw [e1, e2]
    unfold nxQ bnd still at hq
    refine ACalls.of (n := Tryz.f100.ntmps) XX_ok Tryz.func100 rfl (by kernel_rfl) rfl rfl (Nat.le_of_ble_eq_true rfl) ?_
    (repeat' (first | refine Zs ?_ | refine Zk ?_ | ((first | refine Za ?_ | refine Zr ?_ | refine Zp ?_ | refine Ze ?_ | refine Zd ?_ | refine Zn ?_ | refine Zc ?_ | refine UnK.mk (fun b hb => ?_)); conv => whnf) | (refine Zb (fun h => ?_) (fun h => ?_) <;> first | exact Zx | (conv => whnf))))
    all_goals ((repeat (first | rw [if_pos (by omega)] at hq | rw [if_neg (by omega)] at hq)); subst hq)
    all_goals exact Zrz
theorem nxm_rng (p a : Int) : nxE p a = 0 → 1 ≤ nxR p a ∧ nxR p a ≤ 13 ∧ (a ≠ 4 → nxR p a ≠ 13) := by
  intro h
  unfold nxR
  rw [if_pos h]
  unfold nxE at h
  split at h
  · cases h
  split at h
  · cases h
  rename_i h1 h2
  unfold nxQ at h2 ⊢
  repeat' split at h2
  all_goals (repeat' split)
  all_goals omega

end Go.Proofs.YtleknjngglhmaaaGreat
