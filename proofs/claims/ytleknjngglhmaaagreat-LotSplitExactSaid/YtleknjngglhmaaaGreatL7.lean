/- The laws of lots divided in two, and united again. -/
import Derived.Test.YtleknjngglhmaaaGreatLY
import Derived.Test.YtleknjngglhmaaaGreatF1
namespace Go.Proofs.YtleknjngglhmaaaGreat
open Go Go.RowKit
set_option linter.unusedVariables false
set_option linter.unusedSimpArgs false
set_option maxRecDepth 100000
set_option maxHeartbeats 4000000
attribute [local irreducible] ResLe AVle ArgLe ArgP EntLe Dle ResH ArgQ strEq

theorem stk_lot {ss : List Lt} (h : StkOk ss) {x : Lt} (hx : x ∈ ss) : lotErr x.us = 0 := lotErr_iff.2 ⟨h.us x hx, (h.ok x hx).2.2.2.2, ((reps_nodup h.ok).1 h.rep).1 x hx⟩
theorem tot_snoc (ss : List Lt) (k : Nat) (h : k < ss.length) : totQ (ss.take (k + 1)) = totQ (ss.take k) + (ss.getD k default).q ∧ totN (ss.take (k + 1)) = totN (ss.take k) + cnt (ss.getD k default).us := by
  rw [take_snoc ss k h, (tot_app _ _).1, (tot_app _ _).2]
  constructor
  · congr 1; simp [totQ]
  · congr 1; simp [totN]
theorem total_t (ss : List Lt) (h : StkOk ss) : ACalls XX 30 [.dat (ltD ss)] (.tup [iA (totQ ss), iA (totN ss)]) := by
  have hl := h.len
  refine ACalls.of (n := Tryz.f30.ntmps) XX_ok Tryz.func30 rfl (by kernel_rfl) rfl rfl (Nat.le_of_ble_eq_true rfl) ?_
  (repeat' (first | refine Zs ?_ | refine Zk ?_ | ((first | refine Za ?_ | refine Zr ?_ | refine Zp ?_ | refine Ze ?_ | refine Zd ?_ | refine W.drawT dr30 rfl mixed rfl ?_ | refine Zn ?_ | refine Zc ?_ | refine UnK.mk (fun b hb => ?_)); conv => whnf) | (refine Zb (fun h => ?_) (fun h => ?_) <;> first | exact Zx | (conv => whnf))))
  refine (W.loopK (ι := Nat) [0] [] (fun k => [(6, iA k), (4, iA (totQ (ss.take k))), (5, iA (totN (ss.take k)))]) (fun _ => []) (fun k => k ≤ ss.length) (fun k => ss.length - k) 0 (Nat.zero_le _) ?_ ?_ ?_)
  · exact Yz
  · exact Yz
  conv => whnf
  intro k hk
  by_cases hk' : k < ss.length
  · have hx := getD_in hk'
    have d1 := units_t (ss.getD k default).us (by have := h.us _ hx; omega)
    rw [if_pos (stk_lot h hx)] at d1
    have t1 := tot_rng h k hk
    have t2 := tot_rng h (k + 1) hk'
    obtain ⟨e1, e2⟩ := tot_snoc ss k hk'
    (repeat' (first | refine Zs ?_ | refine Zk ?_ | ((first | refine Za ?_ | refine Zr ?_ | refine Zp ?_ | refine Ze ?_ | refine Zd ?_ | refine W.drawT dr30 rfl mixed rfl ?_ | refine Zn ?_ | refine Zc ?_ | refine UnK.mk (fun b hb => ?_)); conv => whnf) | (refine Zb (fun h => ?_) (fun h => ?_) <;> first | exact Zx | (conv => whnf))))
    all_goals (try dsimp only [Int.toNat_natCast] at *)
    (repeat' (first | refine Zs ?_ | refine Zk ?_ | ((first | refine Za ?_ | refine Zr ?_ | refine Zp ?_ | refine Ze ?_ | refine Zd ?_ | refine W.drawT dr30 rfl mixed rfl ?_ | refine Zn ?_ | refine Zc ?_ | refine UnK.mk (fun b hb => ?_) | refine Zy d1 ?_ | refine Zz d1 ?_); conv => whnf) | (refine Zb (fun h => ?_) (fun h => ?_) <;> first | exact Zx | (conv => whnf))))
    refine ⟨k + 1, by omega, by omega, ?_, ?_, ?_, ?_⟩
    all_goals (repeat' (first | exact trivial | exact Yr | exact Yi (by first | rfl | exact e1.symm | exact e2.symm | omega) | exact Yo (by first | rfl | exact e1.symm | exact e2.symm | omega) | exact Yd | exact Yn | exact Ye (by first | rfl | exact e1.symm | exact e2.symm | omega) | exact ⟨_, rfl, Yf, rfl⟩ | refine ⟨_, rfl, Yb ?_, rfl⟩ | refine ⟨_, rfl, Yw (by first | rfl | exact e1.symm | exact e2.symm | omega) ?_, rfl⟩ | refine And.intro ?_ ?_))
  · obtain rfl : k = ss.length := by omega
    rw [List.take_length]
    (repeat' (first | refine Zs ?_ | refine Zk ?_ | ((first | refine Za ?_ | refine Zr ?_ | refine Zp ?_ | refine Ze ?_ | refine Zd ?_ | refine W.drawT dr30 rfl mixed rfl ?_ | refine Zn ?_ | refine Zc ?_ | refine UnK.mk (fun b hb => ?_)); conv => whnf) | (refine Zb (fun h => ?_) (fun h => ?_) <;> first | exact Zx | (conv => whnf))))
    all_goals exact Zrz
theorem div_bnd {n a q : Int} (hq : 0 < q) : n * a / q * q ≤ n * a ∧ n * a < (n * a / q + 1) * q := by
  have h1 := Int.emod_add_mul_ediv (n * a) q
  have h2 := Int.emod_nonneg (n * a) (show q ≠ 0 by omega)
  have h3 := Int.emod_lt_of_pos (n * a) hq
  rw [Int.add_mul, Int.one_mul]
  rw [Int.mul_comm q] at h1
  omega
theorem lawSplitExact_t (x0 : List Int) (a1 a2 a3 : Int) (k0 : x0.length ≤ 9223372036854775807) : ACalls XX 6 [.dat (ilst x0), iA a1, iA a2, iA a3] (bA true) := by
  have hQ := l25awake_t
  obtain ⟨n, ss, cs, f, hn, ⟨hA, hl25, hc31⟩, kM⟩ := make_ex2 x0 k0
  obtain ⟨hE, hf, hcl⟩ := acts_est hA
  have hf1 := hE.f
  have hO := hE.stk
  by_cases c0 : ss.length = 0
  · refine ACalls.of (n := Tryz.f6.ntmps) XX_ok Tryz.func6 rfl (by kernel_rfl) rfl rfl (Nat.le_of_ble_eq_true rfl) ?_
    refine W.pb [74] ?_
    (repeat' (first | refine Zs ?_ | refine Zk ?_ | ((first | refine Za ?_ | refine Zr ?_ | refine Zp ?_ | refine Ze ?_ | refine Zd ?_ | refine W.drawP dr6 rfl mixed rfl ?_ | refine Zn ?_ | refine Zc ?_ | refine UnK.mk (fun b hb => ?_) | refine Zy (ACalls.at (kM)) ?_ | refine Zz (ACalls.at (kM)) ?_ | refine Zy (ACalls.at (hQ)) ?_ | refine Zz (ACalls.at (hQ)) ?_); conv => whnf) | (refine Zb (fun h => ?_) (fun h => ?_) <;> first | exact Zx | (conv => whnf))))
    all_goals first | exact Zrz | (exfalso; omega)
  have w1 := within_t a1 ss.length (by omega) (by omega)
  have r1 := Int.emod_nonneg a1 (show (ss.length : Int) ≠ 0 by omega)
  have r1' := Int.emod_lt_of_pos a1 (show (0 : Int) < ss.length by omega)
  have hy : ss.getD (a1 % ss.length).toNat default ∈ ss := getD_in (by omega)
  have hR := rrests_t (ss.getD (a1 % ss.length).toNat default).p
  have hyo := hO.ok _ hy
  have hyq := hyo.2.2.1
  unfold qOk at hyq
  by_cases hr : rests (ss.getD (a1 % ss.length).toNat default).p
  rotate_left
  · rw [decide_eq_false hr] at hR
    refine ACalls.of (n := Tryz.f6.ntmps) XX_ok Tryz.func6 rfl (by kernel_rfl) rfl rfl (Nat.le_of_ble_eq_true rfl) ?_
    refine W.pb [74] ?_
    (repeat' (first | refine Zs ?_ | refine Zk ?_ | ((first | refine Za ?_ | refine Zr ?_ | refine Zp ?_ | refine Ze ?_ | refine Zd ?_ | refine W.drawP dr6 rfl mixed rfl ?_ | refine Zn ?_ | refine Zc ?_ | refine UnK.mk (fun b hb => ?_) | refine Zy (ACalls.at (kM)) ?_ | refine Zz (ACalls.at (kM)) ?_ | refine Zy (ACalls.at (w1)) ?_ | refine Zz (ACalls.at (w1)) ?_ | refine Zy (ACalls.at (hR)) ?_ | refine Zz (ACalls.at (hR)) ?_ | refine Zy (ACalls.at (hQ)) ?_ | refine Zz (ACalls.at (hQ)) ?_); conv => whnf) | (refine Zb (fun h => ?_) (fun h => ?_) <;> first | exact Zx | (conv => whnf))))
    all_goals first | exact Zrz | (exfalso; omega)
  rw [decide_eq_true hr] at hR
  by_cases c1 : 2 ≤ (ss.getD (a1 % ss.length).toNat default).q
  rotate_left
  · refine ACalls.of (n := Tryz.f6.ntmps) XX_ok Tryz.func6 rfl (by kernel_rfl) rfl rfl (Nat.le_of_ble_eq_true rfl) ?_
    refine W.pb [74] ?_
    (repeat' (first | refine Zs ?_ | refine Zk ?_ | ((first | refine Za ?_ | refine Zr ?_ | refine Zp ?_ | refine Ze ?_ | refine Zd ?_ | refine W.drawP dr6 rfl mixed rfl ?_ | refine Zn ?_ | refine Zc ?_ | refine UnK.mk (fun b hb => ?_) | refine Zy (ACalls.at (kM)) ?_ | refine Zz (ACalls.at (kM)) ?_ | refine Zy (ACalls.at (w1)) ?_ | refine Zz (ACalls.at (w1)) ?_ | refine Zy (ACalls.at (hR)) ?_ | refine Zz (ACalls.at (hR)) ?_ | refine Zy (ACalls.at (hQ)) ?_ | refine Zz (ACalls.at (hQ)) ?_); conv => whnf) | (refine Zb (fun h => ?_) (fun h => ?_) <;> first | exact Zx | (conv => whnf))))
    all_goals first | exact Zrz | (exfalso; omega)
  obtain ⟨y, hY⟩ : ∃ y, y = ss.getD (a1 % ss.length).toNat default := ⟨_, rfl⟩
  rw [← hY] at hy hR hyo hyq hr c1
  have w2 := within_t a2 (y.q - 1) (by omega) (by omega)
  have r2 := Int.emod_nonneg a2 (show y.q - 1 ≠ 0 by omega)
  have r2' := Int.emod_lt_of_pos a2 (show 0 < y.q - 1 by omega)
  have w3 := within_t a3 3 (by omega) (by omega)
  have r3 := Int.emod_nonneg a3 (show (3 : Int) ≠ 0 by omega)
  have r3' := Int.emod_lt_of_pos a3 (show (0 : Int) < 3 by omega)
  obtain ⟨a, hAa⟩ : ∃ a, a = 1 + a2 % (y.q - 1) := ⟨_, rfl⟩
  obtain ⟨m, hMm⟩ : ∃ m, m = 1 + a3 % 3 := ⟨_, rfl⟩
  have hm : mOk m := by unfold mOk; omega
  obtain ⟨hT, hE2⟩ := two_r hE (by omega) (by omega) hy hr (a := a) (by omega) (by omega) hm
  have hz := spl_two hE (by omega) (by omega) hy hr (a := a) (by omega) (by omega) hm
  have hSl := (spl_stk hz).1
  have dS := (split_t ss y.id (twoP f a y.q) m (by omega) (by simp) (fun h => divAny h)).args4 (AVle.refl _) (AVle.refl _) (two_pts _ _) (AVle.refl _)
  rw [hz] at dS
  have hSlen := hSl.len
  have hSus : ∀ x ∈ splL ss y.id (twoP f a y.q) m, x.us.length ≤ 1000000 := fun x hx => by have := hSl.us x hx; omega
  have dF1 := find_t (splL ss y.id (twoP f a y.q) m) f (by omega) hSus
  have dF2 := find_t (splL ss y.id (twoP f a y.q) m) (f + 1) (by omega) hSus
  have dF3 := find_t (splL ss y.id (twoP f a y.q) m) y.id (by omega) hSus
  have asc := asc_of hSl.asc
  rw [show findV (splL ss y.id (twoP f a y.q) m) f = ptA m y f a from find_self asc hT.inA, decide_eq_true (show hasI (splL ss y.id (twoP f a y.q) m) f from ⟨_, hT.inA, rfl⟩)] at dF1
  rw [show findV (splL ss y.id (twoP f a y.q) m) (f + 1) = ptB m y f a from find_self asc hT.inB, decide_eq_true (show hasI (splL ss y.id (twoP f a y.q) m) (f + 1) from ⟨_, hT.inB, rfl⟩)] at dF2
  rw [decide_eq_false hT.old] at dF3
  have dT1 := total_t ss hO
  have dT2 := total_t (splL ss y.id (twoP f a y.q) m) hSl
  rw [hT.tq, hT.tn] at dT2
  have dU1 := units_t y.us (by have := hO.us y hy; omega)
  have dU2 := units_t (ptA m y f a).us (by have := hSl.us _ hT.inA; omega)
  have dU3 := units_t (ptB m y f a).us (by have := hSl.us _ hT.inB; omega)
  rw [if_pos (stk_lot hO hy)] at dU1
  rw [if_pos (stk_lot hSl hT.inA)] at dU2
  rw [if_pos (stk_lot hSl hT.inB)] at dU3
  have dV := validate_t (splL ss y.id (twoP f a y.q) m) (by omega)
  rw [stkErr_zero hSl] at dV
  have n1 := est_cnt hE
  have n2 := cnt_in hO hy
  have n3 := hT.kA
  have n4 := hT.kB
  have n6 : 0 ≤ cnt (ptB m y f a).us := cnt_nonneg (slOk_le (hSl.ok _ hT.inB).2.2.2.2)
  have n5 : cnt (ptA m y f a).us = cnt y.us * a / y.q := hT.sh
  obtain ⟨b1, b2⟩ := div_bnd (n := cnt y.us) (a := a) (q := y.q) (by omega)
  rw [← n5] at b1 b2
  generalize hN : cnt y.us = N at *
  generalize hK : cnt (ptA m y f a).us = K at *
  generalize hK2 : cnt (ptB m y f a).us = K2 at *
  have p1 : 0 ≤ N * a ∧ N * a ≤ 1000000000000000000 := ⟨Int.mul_nonneg (by omega) (by omega), by
    have := Int.mul_le_mul (show N ≤ 1000000000 by omega) (show a ≤ 1000000000 by omega) (by omega) (by omega)
    omega⟩
  have p2 : 0 ≤ K * y.q ∧ (K + 1) * y.q ≤ 2000000000000000000 := ⟨Int.mul_nonneg (by omega) (by omega), by
    rw [Int.add_mul]
    omega⟩
  have dE := strEq_self y.c
  have kb : K ≤ 1000000000 := by omega
  have nb : N ≤ 1000000000 := by omega
  clear hz hSl hyo hO hA hE hcl hy hr hc31 hT hE2 hSus asc n1 n2 n5 hN hK hK2 hm
  subst hAa hMm hY
  refine ACalls.of (n := Tryz.f6.ntmps) XX_ok Tryz.func6 rfl (by kernel_rfl) rfl rfl (Nat.le_of_ble_eq_true rfl) ?_
  refine W.pb [74] ?_
  (repeat' (first | refine Zs ?_ | refine Zk ?_ | ((first | refine Za ?_ | refine Zr ?_ | refine Zp ?_ | refine Ze ?_ | refine Zd ?_ | refine W.drawP dr6 rfl mixed rfl ?_ | refine Zn ?_ | refine Zc ?_ | refine UnK.mk (fun b hb => ?_) | refine Zy (ACalls.at (kM)) ?_ | refine Zz (ACalls.at (kM)) ?_ | refine Zy (ACalls.at (w1)) ?_ | refine Zz (ACalls.at (w1)) ?_ | refine Zy (ACalls.at (hR)) ?_ | refine Zz (ACalls.at (hR)) ?_ | refine Zy (ACalls.at (w2)) ?_ | refine Zz (ACalls.at (w2)) ?_ | refine Zy (ACalls.at (w3)) ?_ | refine Zz (ACalls.at (w3)) ?_ | refine Zy (ACalls.at (dS)) ?_ | refine Zz (ACalls.at (dS)) ?_ | refine Zy (ACalls.at (dF1)) ?_ | refine Zz (ACalls.at (dF1)) ?_ | refine Zy (ACalls.at (dF2)) ?_ | refine Zz (ACalls.at (dF2)) ?_ | refine Zy (ACalls.at (dF3)) ?_ | refine Zz (ACalls.at (dF3)) ?_ | refine Zy (ACalls.at (dT1)) ?_ | refine Zz (ACalls.at (dT1)) ?_ | refine Zy (ACalls.at (dT2)) ?_ | refine Zz (ACalls.at (dT2)) ?_ | refine Zy (ACalls.at (dU1)) ?_ | refine Zz (ACalls.at (dU1)) ?_ | refine Zy (ACalls.at (dU2)) ?_ | refine Zz (ACalls.at (dU2)) ?_ | refine Zy (ACalls.at (dU3)) ?_ | refine Zz (ACalls.at (dU3)) ?_ | refine Zy (ACalls.at (dV)) ?_ | refine Zz (ACalls.at (dV)) ?_ | refine Zy (ACalls.at (hQ)) ?_ | refine Zz (ACalls.at (hQ)) ?_); conv => whnf) | (refine Zb (fun h => ?_) (fun h => ?_) <;> first | exact Zx | (conv => whnf))))
  all_goals first | exact Zrz | (exfalso; omega) | (exfalso; rw [dE] at h; cases h)
end Go.Proofs.YtleknjngglhmaaaGreat
