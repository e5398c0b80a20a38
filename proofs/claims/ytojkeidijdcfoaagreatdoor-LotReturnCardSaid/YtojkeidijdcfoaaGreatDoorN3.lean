/- The law of lots that come back. -/
import Derived.Test.YtojkeidijdcfoaaGreatDoorN2
namespace Go.Proofs.YtojkeidijdcfoaaGreatDoor
open Go Go.RowKit
set_option linter.unusedVariables false
set_option linter.unusedSimpArgs false
set_option maxRecDepth 100000
set_option maxHeartbeats 4000000
attribute [local irreducible] ResLe AVle ArgLe ArgP EntLe Dle ResH ArgQ strEq

theorem nx_two_or {p : Int} (hp : 1 ≤ p ∧ p ≤ 13) : nxE p 2 = 0 ∨ nxE p 2 = 17 := by
  rcases (show p = 1 ∨ p = 2 ∨ p = 3 ∨ p = 4 ∨ p = 5 ∨ p = 6 ∨ p = 7 ∨ p = 8 ∨ p = 9 ∨ p = 10 ∨ p = 11 ∨ p = 12 ∨ p = 13 by omega) with rfl | rfl | rfl | rfl | rfl | rfl | rfl | rfl | rfl | rfl | rfl | rfl | rfl
  all_goals decide
theorem lawReturn_t (x0 : List Int) (a1 : Int) (k0 : x0.length ≤ 9223372036854775807) : ACalls XX 4 [.dat (ilst x0), iA a1] (bA true) := by
  have hQ := l25awake_t
  obtain ⟨n, ss, cs, f, hn, ⟨hA, hl25, hc31⟩, kM⟩ := make_ex2 x0 k0
  obtain ⟨hE, hf, hcl⟩ := acts_est hA
  have hf1 := hE.f
  have hO := hE.stk
  by_cases c0 : ss.length = 0
  · refine ACalls.of (n := Tryz.f4.ntmps) XX_ok Tryz.func4 rfl (by kernel_rfl) rfl rfl (Nat.le_of_ble_eq_true rfl) ?_
    (repeat' (first | refine Zs ?_ | refine Zk ?_ | ((first | refine Za ?_ | refine Zr ?_ | refine Zp ?_ | refine Ze ?_ | refine Zd ?_ | refine W.drawT dr4 rfl mixed rfl ?_ | refine Zn ?_ | refine Zc ?_ | refine UnK.mk (fun b hb => ?_) | refine Zy kM ?_ | refine Zz kM ?_ | refine Zy hQ ?_ | refine Zz hQ ?_); conv => whnf) | (refine Zb (fun h => ?_) (fun h => ?_) <;> first | exact Zx | (conv => whnf))))
    all_goals first | exact Zrz | (exfalso; omega)
  have w1 := within_t a1 ss.length (by omega) (by omega)
  have r1 := Int.emod_nonneg a1 (show (ss.length : Int) ≠ 0 by omega)
  have r1' := Int.emod_lt_of_pos a1 (show (0 : Int) < ss.length by omega)
  have hk : (a1 % ss.length).toNat < ss.length := by omega
  have hy := getD_in hk
  have hyo := hO.ok _ hy
  have d1 := move_t ss (ss.getD (a1 % ss.length).toNat default).id 2 (by omega)
  by_cases hm : movE ss (ss.getD (a1 % ss.length).toNat default).id 2 = 0
  rotate_left
  · have hE17 : movE ss (ss.getD (a1 % ss.length).toNat default).id 2 = 17 := by
      have e : movE ss (ss.getD (a1 % ss.length).toNat default).id 2 = nxE (ss.getD (a1 % ss.length).toNat default).p 2 := by
        unfold movE
        rw [if_neg (by simpa using stkErr_zero hO), if_neg (fun hh => hh ⟨_, hy, rfl⟩), find_self (asc_of hO.asc) hy]
      rcases nx_two_or hyo.2.2.2.1 with h1 | h1
      · exact absurd (e.trans h1) hm
      · exact e.trans h1
    rw [hE17] at d1
    clear hE17 hm hyo hy hO hE hA
    refine ACalls.of (n := Tryz.f4.ntmps) XX_ok Tryz.func4 rfl (by kernel_rfl) rfl rfl (Nat.le_of_ble_eq_true rfl) ?_
    (repeat' (first | refine Zs ?_ | refine Zk ?_ | ((first | refine Za ?_ | refine Zr ?_ | refine Zp ?_ | refine Ze ?_ | refine Zd ?_ | refine W.drawT dr4 rfl mixed rfl ?_ | refine Zn ?_ | refine Zc ?_ | refine UnK.mk (fun b hb => ?_) | refine Zy kM ?_ | refine Zz kM ?_ | refine Zy w1 ?_ | refine Zz w1 ?_ | refine Zy d1 ?_ | refine Zz d1 ?_ | refine Zy hQ ?_ | refine Zz hQ ?_); conv => whnf) | (refine Zb (fun h => ?_) (fun h => ?_) <;> first | exact Zx | (conv => whnf))))
    all_goals first | exact Zrz | (exfalso; omega)
  obtain ⟨m1, v2, a13, e4, m4, v13, a0, l3, hh, hv, v1⟩ := back hE hk hm
  rw [m1, hm] at d1
  have hls : ∀ y : Lt, (ss.set (a1 % ss.length).toNat y).length = ss.length := fun y => List.length_set
  have d2 := accept_t (ss.set (a1 % ss.length).toNat (wp (ss.getD (a1 % ss.length).toNat default) 2)) (wp (ss.getD (a1 % ss.length).toNat default) 1) (by rw [hls]; omega)
  rw [a13] at d2
  have d3 := move_t (ss.set (a1 % ss.length).toNat (wp (ss.getD (a1 % ss.length).toNat default) 2)) (ss.getD (a1 % ss.length).toNat default).id 4 (by rw [hls]; omega)
  rw [e4, m4] at d3
  have d4 := accept_t (ss.set (a1 % ss.length).toNat (wp (ss.getD (a1 % ss.length).toNat default) 13)) (wp (ss.getD (a1 % ss.length).toNat default) 1) (by rw [hls]; omega)
  rw [a0, l3] at d4
  have d5 := find_t (ss.set (a1 % ss.length).toNat (wp (ss.getD (a1 % ss.length).toNat default) 1)) (ss.getD (a1 % ss.length).toNat default).id (by rw [hls]; omega) (fun x hx => by have := v1.us x hx; omega)
  rw [hv, decide_eq_true hh] at d5
  have d6 := rsameLot_t (wp (ss.getD (a1 % ss.length).toNat default) 1) (by have := hO.us _ hy; show (ss.getD (a1 % ss.length).toNat default).us.length ≤ 1000000; omega)
  have hl3 := hls (wp (ss.getD (a1 % ss.length).toNat default) 1)
  clear m1 v2 a13 e4 m4 v13 a0 l3 hh hv v1 hls hm hyo hy hO hE hA
  refine ACalls.of (n := Tryz.f4.ntmps) XX_ok Tryz.func4 rfl (by kernel_rfl) rfl rfl (Nat.le_of_ble_eq_true rfl) ?_
  (repeat' (first | refine Zs ?_ | refine Zk ?_ | ((first | refine Za ?_ | refine Zr ?_ | refine Zp ?_ | refine Ze ?_ | refine Zd ?_ | refine W.drawT dr4 rfl mixed rfl ?_ | refine Zn ?_ | refine Zc ?_ | refine UnK.mk (fun b hb => ?_) | refine Zy kM ?_ | refine Zz kM ?_ | refine Zy w1 ?_ | refine Zz w1 ?_ | refine Zy d1 ?_ | refine Zz d1 ?_ | refine Zy d2 ?_ | refine Zz d2 ?_ | refine Zy d3 ?_ | refine Zz d3 ?_ | refine Zy d4 ?_ | refine Zz d4 ?_ | refine Zy d5 ?_ | refine Zz d5 ?_ | refine Zy d6 ?_ | refine Zz d6 ?_ | refine Zy hQ ?_ | refine Zz hQ ?_); conv => whnf) | (refine Zb (fun h => ?_) (fun h => ?_) <;> first | exact Zx | (conv => whnf))))
  all_goals first | exact Zrz | (exfalso; omega)

end Go.Proofs.YtojkeidijdcfoaaGreatDoor
