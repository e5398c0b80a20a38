/- The law of units taken. -/
import Derived.Test.YtleknjngglhmaaaGreatB17
namespace Go.Proofs.YtleknjngglhmaaaGreat
open Go Go.RowKit
set_option linter.unusedVariables false
set_option linter.unusedSimpArgs false
set_option maxRecDepth 100000
set_option maxHeartbeats 4000000
attribute [local irreducible] ResLe AVle ArgLe ArgP EntLe Dle ResH ArgQ

theorem tak_len (us : List Sl) (u m : Int) : (takA us u m).length ≤ 64 ∧ (takB us u m).length ≤ 64 := by
  by_cases h : takE us u m = 0
  · have h' := h
    unfold takE at h'
    split at h'
    · rename_i e1; exact absurd h' e1
    rename_i e1
    have e1 : lotErr us = 0 := Decidable.not_not.1 e1
    split at h'
    · cases h'
    rename_i e2
    obtain ⟨k1, k2, _⟩ := lotErr_ok e1
    have hj := joinL_len us
    have hcj := cnt_join (slOk_le k2)
    have d := divR (m := m) (us := joinL us) (u := u) (joinL_ok k2) (by omega)
    have d1 := d.lA
    have d2 := d.lB
    unfold takA takB
    rw [if_pos h, if_pos h]
    omega
  · unfold takA takB
    rw [if_neg h, if_neg h]
    simp
theorem lawTake_t (x0 : List Int) (x1 : List Sl) (a2 a3 : Int) (b4 : Bool) (k0 : x0.length ≤ 9223372036854775807) (k1 : x1.length ≤ 9223372036854775807) : ACalls XX 3 [.dat (ilst x0), .dat (slD x1), iA a2, iA a3, bA b4] (bA true) := by
  obtain ⟨us0, hus, hus0, kS⟩ := slices_t x0 k0
  have hQ := l25awake_t
  cases b4 with
  | true =>
    have d0 := light_t x1
    have d1 := take_t x1 a2 a3 k1 (fun h => divAny h)
    have d2 := rtake_t x1 a2 a3 k1
    obtain ⟨l1, l2⟩ := tak_len x1 a2 a3
    have d3 := rsame_t (takA x1 a2 a3) (by omega)
    have d4 := rsame_t (takB x1 a2 a3) (by omega)
    refine ACalls.of (n := Tryz.f3.ntmps) XX_ok Tryz.func3 rfl (by kernel_rfl) rfl rfl (Nat.le_of_ble_eq_true rfl) ?_
    (repeat' (first | refine Zs ?_ | refine Zk ?_ | ((first | refine Za ?_ | refine Zr ?_ | refine Zp ?_ | refine Ze ?_ | refine Zd ?_ | refine Zn ?_ | refine Zc ?_ | refine UnK.mk (fun b hb => ?_) | refine Zy hQ ?_ | refine Zy d0 ?_ | refine Zy d1 ?_ | refine Zy d2 ?_ | refine Zy d3 ?_ | refine Zy d4 ?_); conv => whnf) | (refine Zb (fun h => ?_) (fun h => ?_) <;> first | exact Zx | (conv => whnf))))
    all_goals (repeat' (first | exact trivial | exact Zm | exact Zl | exact ResLe.row0 rfl | exact Zi (by first | rfl | omega) | exact Zo (h := by first | rfl | omega) | exact ResLe.bo rfl rfl Iff.rfl | refine ResLe.agg ?_ | refine And.intro ?_ ?_ | ((conv => whnf); first | exact Zl | exact ResLe.row0 rfl | exact Zi (by first | rfl | omega) | exact Zo (h := by first | rfl | omega) | exact ResLe.bo rfl rfl Iff.rfl | refine ResLe.agg ?_ | refine And.intro ?_ ?_)))
  | false =>
    obtain ⟨k2, k3, _⟩ := lotErr_ok hus0
    have hcn := cntOk k3 (by omega)
    have hU := runits_t us0 (by omega)
    rw [if_pos hus0] at hU
    have w1 := within_t a2 (cnt us0 + 2) (by omega) (by omega)
    have w2 := within_t a3 5 (by omega) (by omega)
    generalize a2 % (cnt us0 + 2) = u at *
    generalize a3 % 5 = m at *
    have d0 := light_t us0
    have d1 := take_t us0 u m (by omega) (fun h => divAny h)
    have d2 := rtake_t us0 u m (by omega)
    obtain ⟨l1, l2⟩ := tak_len us0 u m
    have d3 := rsame_t (takA us0 u m) (by omega)
    have d4 := rsame_t (takB us0 u m) (by omega)
    refine ACalls.of (n := Tryz.f3.ntmps) XX_ok Tryz.func3 rfl (by kernel_rfl) rfl rfl (Nat.le_of_ble_eq_true rfl) ?_
    (repeat' (first | refine Zs ?_ | refine Zk ?_ | ((first | refine Za ?_ | refine Zr ?_ | refine Zp ?_ | refine Ze ?_ | refine Zd ?_ | refine Zn ?_ | refine Zc ?_ | refine UnK.mk (fun b hb => ?_) | refine Zy kS ?_ | refine Zy hU ?_ | refine Zy w1 ?_ | refine Zy w2 ?_ | refine Zy hQ ?_ | refine Zy d0 ?_ | refine Zy d1 ?_ | refine Zy d2 ?_ | refine Zy d3 ?_ | refine Zy d4 ?_); conv => whnf) | (refine Zb (fun h => ?_) (fun h => ?_) <;> first | exact Zx | (conv => whnf))))
    all_goals (repeat' (first | exact trivial | exact Zm | exact Zl | exact ResLe.row0 rfl | exact Zi (by first | rfl | omega) | exact Zo (h := by first | rfl | omega) | exact ResLe.bo rfl rfl Iff.rfl | refine ResLe.agg ?_ | refine And.intro ?_ ?_ | ((conv => whnf); first | exact Zl | exact ResLe.row0 rfl | exact Zi (by first | rfl | omega) | exact Zo (h := by first | rfl | omega) | exact ResLe.bo rfl rfl Iff.rfl | refine ResLe.agg ?_ | refine And.intro ?_ ?_)))

end Go.Proofs.YtleknjngglhmaaaGreat
