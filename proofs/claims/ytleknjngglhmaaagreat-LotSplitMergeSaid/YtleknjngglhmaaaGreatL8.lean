/- The laws of lots divided in two, and united again. -/
import Derived.Test.YtleknjngglhmaaaGreatLY
import Derived.Test.YtleknjngglhmaaaGreatF1
namespace Go.Proofs.YtleknjngglhmaaaGreat
open Go Go.RowKit
set_option linter.unusedVariables false
set_option linter.unusedSimpArgs false
set_option maxRecDepth 100000
set_option maxHeartbeats 4000000
attribute [local irreducible] ResLe AVle ArgLe ArgP EntLe Dle ResH ArgQ strEq

theorem lawSplitMerge_t (x0 : List Int) (a1 a2 : Int) (k0 : x0.length ≤ 9223372036854775807) : ACalls XX 8 [.dat (ilst x0), iA a1, iA a2] (bA true) := by
  have hQ := l25awake_t
  obtain ⟨n, ss, cs, f, hn, ⟨hA, hl25, hc31⟩, kM⟩ := make_ex2 x0 k0
  obtain ⟨hE, hf, hcl⟩ := acts_est hA
  have hf1 := hE.f
  have hO := hE.stk
  by_cases c0 : ss.length = 0
  · refine ACalls.of (n := Tryz.f8.ntmps) XX_ok Tryz.func8 rfl (by kernel_rfl) rfl rfl (Nat.le_of_ble_eq_true rfl) ?_
    refine W.pb [63, 74] ?_
    (repeat' (first | refine Zs ?_ | refine Zk ?_ | ((first | refine Za ?_ | refine Zr ?_ | refine Zp ?_ | refine Ze ?_ | refine Zd ?_ | refine W.drawP dr8 rfl mixed rfl ?_ | refine Zn ?_ | refine Zc ?_ | refine UnK.mk (fun b hb => ?_) | refine Zy (ACalls.at (kM)) ?_ | refine Zz (ACalls.at (kM)) ?_ | refine Zy (ACalls.at (hQ)) ?_ | refine Zz (ACalls.at (hQ)) ?_); conv => whnf) | (refine Zb (fun h => ?_) (fun h => ?_) <;> first | exact Zx | (conv => whnf))))
    all_goals first | exact Zrz | (exfalso; omega)
  have w1 := within_t a1 ss.length (by omega) (by omega)
  have r1 := Int.emod_nonneg a1 (show (ss.length : Int) ≠ 0 by omega)
  have r1' := Int.emod_lt_of_pos a1 (show (0 : Int) < ss.length by omega)
  have hy : ss.getD (a1 % ss.length).toNat default ∈ ss := getD_in (by omega)
  have hR := rrests_t (ss.getD (a1 % ss.length).toNat default).p
  have hyo := hO.ok _ hy
  have hyq := hyo.2.2.1
  unfold qOk at hyq
  by_cases hr : rests (ss.getD (a1 % ss.length).toNat default).p
  rotate_left
  · rw [decide_eq_false hr] at hR
    refine ACalls.of (n := Tryz.f8.ntmps) XX_ok Tryz.func8 rfl (by kernel_rfl) rfl rfl (Nat.le_of_ble_eq_true rfl) ?_
    refine W.pb [63, 74] ?_
    (repeat' (first | refine Zs ?_ | refine Zk ?_ | ((first | refine Za ?_ | refine Zr ?_ | refine Zp ?_ | refine Ze ?_ | refine Zd ?_ | refine W.drawP dr8 rfl mixed rfl ?_ | refine Zn ?_ | refine Zc ?_ | refine UnK.mk (fun b hb => ?_) | refine Zy (ACalls.at (kM)) ?_ | refine Zz (ACalls.at (kM)) ?_ | refine Zy (ACalls.at (w1)) ?_ | refine Zz (ACalls.at (w1)) ?_ | refine Zy (ACalls.at (hR)) ?_ | refine Zz (ACalls.at (hR)) ?_ | refine Zy (ACalls.at (hQ)) ?_ | refine Zz (ACalls.at (hQ)) ?_); conv => whnf) | (refine Zb (fun h => ?_) (fun h => ?_) <;> first | exact Zx | (conv => whnf))))
    all_goals first | exact Zrz | (exfalso; omega)
  rw [decide_eq_true hr] at hR
  by_cases c1 : 2 ≤ (ss.getD (a1 % ss.length).toNat default).q
  rotate_left
  · refine ACalls.of (n := Tryz.f8.ntmps) XX_ok Tryz.func8 rfl (by kernel_rfl) rfl rfl (Nat.le_of_ble_eq_true rfl) ?_
    refine W.pb [63, 74] ?_
    (repeat' (first | refine Zs ?_ | refine Zk ?_ | ((first | refine Za ?_ | refine Zr ?_ | refine Zp ?_ | refine Ze ?_ | refine Zd ?_ | refine W.drawP dr8 rfl mixed rfl ?_ | refine Zn ?_ | refine Zc ?_ | refine UnK.mk (fun b hb => ?_) | refine Zy (ACalls.at (kM)) ?_ | refine Zz (ACalls.at (kM)) ?_ | refine Zy (ACalls.at (w1)) ?_ | refine Zz (ACalls.at (w1)) ?_ | refine Zy (ACalls.at (hR)) ?_ | refine Zz (ACalls.at (hR)) ?_ | refine Zy (ACalls.at (hQ)) ?_ | refine Zz (ACalls.at (hQ)) ?_); conv => whnf) | (refine Zb (fun h => ?_) (fun h => ?_) <;> first | exact Zx | (conv => whnf))))
    all_goals first | exact Zrz | (exfalso; omega)
  obtain ⟨y, hY⟩ : ∃ y, y = ss.getD (a1 % ss.length).toNat default := ⟨_, rfl⟩
  rw [← hY] at hy hR hyo hyq hr c1
  have w2 := within_t a2 (y.q - 1) (by omega) (by omega)
  have r2 := Int.emod_nonneg a2 (show y.q - 1 ≠ 0 by omega)
  have r2' := Int.emod_lt_of_pos a2 (show 0 < y.q - 1 by omega)
  obtain ⟨a, hAa⟩ : ∃ a, a = 1 + a2 % (y.q - 1) := ⟨_, rfl⟩
  have hz := spl_two hE (by omega) (by omega) hy hr (a := a) (m := 1) (by omega) (by omega) (.inl rfl)
  have hSl := (spl_stk hz).1
  obtain ⟨hz2, hh, hv⟩ := mer_two hE (by omega) (by omega) hy hr (a := a) (by omega) (by omega)
  have hMl := (mer_stk hz2).1
  have dS := (split_t ss y.id (twoP f a y.q) 1 (by omega) (by simp) (fun h => divAny h)).args4 (AVle.refl _) (AVle.refl _) (two_pts _ _) (AVle.refl _)
  rw [hz] at dS
  have hSlen := hSl.len
  have dM := (merge_t (splL ss y.id (twoP f a y.q) 1) [f, f + 1] (f + 2) (by omega) (by simp)).args3 (AVle.refl _) (two_ints _ _) (AVle.refl _)
  rw [hz2] at dM
  have hMlen := hMl.len
  have dF := find_t (merL (splL ss y.id (twoP f a y.q) 1) [f, f + 1] (f + 2)) (f + 2) (by omega) (fun x hx => by have := hMl.us x hx; omega)
  rw [decide_eq_true hh, hv] at dF
  have dC := rsame_t y.us (by have := hO.us y hy; omega)
  have dE := strEq_self y.c
  clear hz hz2 hh hv hSl hMl hyo hO hA hE hcl hy hr hc31
  subst hAa hY
  refine ACalls.of (n := Tryz.f8.ntmps) XX_ok Tryz.func8 rfl (by kernel_rfl) rfl rfl (Nat.le_of_ble_eq_true rfl) ?_
  refine W.pb [63, 74] ?_
  (repeat' (first | refine Zs ?_ | refine Zk ?_ | ((first | refine Za ?_ | refine Zr ?_ | refine Zp ?_ | refine Ze ?_ | refine Zd ?_ | refine W.drawP dr8 rfl mixed rfl ?_ | refine Zn ?_ | refine Zc ?_ | refine UnK.mk (fun b hb => ?_) | refine Zy (ACalls.at (kM)) ?_ | refine Zz (ACalls.at (kM)) ?_ | refine Zy (ACalls.at (w1)) ?_ | refine Zz (ACalls.at (w1)) ?_ | refine Zy (ACalls.at (hR)) ?_ | refine Zz (ACalls.at (hR)) ?_ | refine Zy (ACalls.at (w2)) ?_ | refine Zz (ACalls.at (w2)) ?_ | refine Zy (ACalls.at (dS)) ?_ | refine Zz (ACalls.at (dS)) ?_ | refine Zy (ACalls.at (dM)) ?_ | refine Zz (ACalls.at (dM)) ?_ | refine Zy (ACalls.at (dF)) ?_ | refine Zz (ACalls.at (dF)) ?_ | refine Zy (ACalls.at (dC)) ?_ | refine Zz (ACalls.at (dC)) ?_ | refine Zy (ACalls.at (hQ)) ?_ | refine Zz (ACalls.at (hQ)) ?_); conv => whnf) | (refine Zb (fun h => ?_) (fun h => ?_) <;> first | exact Zx | (conv => whnf))))
  all_goals first | exact Zrz | (exfalso; omega) | (exfalso; rw [dE] at h; cases h)
end Go.Proofs.YtleknjngglhmaaaGreat
