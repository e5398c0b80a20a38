/- The law of processing that keeps a stock covered. -/
import Derived.Test.YtacpjihbbmoolaaGreatDoorPC
import Derived.Test.YtacpjihbbmoolaaGreatDoorFN
import Derived.Test.YtacpjihbbmoolaaGreatDoorS0

namespace Go.Proofs.YtacpjihbbmoolaaGreatDoor
open Go Go.RowKit
set_option linter.unusedVariables false
set_option linter.unusedSimpArgs false
set_option maxRecDepth 100000
set_option maxHeartbeats 40000000
attribute [local irreducible] ResLe AVle ArgLe ArgP EntLe Dle ResH ArgQ strEq strLt

theorem lawYCovered_t (x0 : List Int) (a1 a2 a3 a4 : Int) (k0 : x0.length ≤ 9223372036854775807) : ACalls XX 3 [.dat (ilst x0), iA a1, iA a2, iA a3, iA a4] (bA true) := by
  have hQ := sm_awake
  have w1 := within_t a1 50 (by omega) (by omega)
  have w2 := within_t a2 9 (by omega) (by omega)
  have w3 := within_t a3 5 (by omega) (by omega)
  have w4 := within_t a4 5 (by omega) (by omega)
  have r1 := Int.emod_nonneg a1 (show (50 : Int) ≠ 0 by omega)
  have r1' := Int.emod_lt_of_pos a1 (show (0 : Int) < 50 by omega)
  have r2 := Int.emod_nonneg a2 (show (9 : Int) ≠ 0 by omega)
  have r2' := Int.emod_lt_of_pos a2 (show (0 : Int) < 9 by omega)
  have r3 := Int.emod_nonneg a3 (show (5 : Int) ≠ 0 by omega)
  have r3' := Int.emod_lt_of_pos a3 (show (0 : Int) < 5 by omega)
  have r4 := Int.emod_nonneg a4 (show (5 : Int) ≠ 0 by omega)
  have r4' := Int.emod_lt_of_pos a4 (show (0 : Int) < 5 by omega)
  obtain ⟨n, ss, cs, f, hn, ⟨hA, hl25, hc31⟩, kM⟩ := make_ex2 x0 k0
  obtain ⟨hE, hf, hcl⟩ := acts_est hA
  have hf1 := hE.f
  clear hA
  generalize hq0 : a1 % 50 = q0 at *
  generalize hk0 : a2 % 9 = k0' at *
  generalize ha0 : a3 % 5 = a0 at *
  generalize hb0 : a4 % 5 = b0 at *
  have hu : 1 ≤ (1 + q0) * (1 + k0') ∧ (1 + q0) * (1 + k0') ≤ 450 := by
    have h1 : 1 * 1 ≤ (1 + q0) * (1 + k0') := Int.mul_le_mul (by omega) (by omega) (by omega) (by omega)
    have h2 : (1 + q0) * (1 + k0') ≤ 50 * 9 := Int.mul_le_mul (by omega) (by omega) (by omega) (by omega)
    omega
  have pz := pz_ok hE hl25 (by omega) (q := 1 + q0) (k := 1 + k0') (A := a0) (B := 1 + b0) (a := 6) (p := 4) (by omega) (by omega) (by omega) (by omega) (.inl ⟨rfl, rfl⟩)
  have hbd := bd_rng (u := (1 + q0) * (1 + k0')) (A := a0) (W := a0 + (1 + b0)) (by omega) (by omega) (by omega) (by omega)
  have d1 := present_t ss f c77 ((1 + q0) * (1 + k0')) (by omega)
  rw [pz.e1] at d1
  have l1 := pz.l1
  have d2 := move_t (preL ss f c77 ((1 + q0) * (1 + k0'))) f 6 (by omega)
  rw [pz.e2] at d2
  have l2 := pz.l2
  have d3 := (yprocess_t (movL (preL ss f c77 ((1 + q0) * (1 + k0'))) f 6) (rP (1 + q0) a0 (1 + b0)) (1 + k0') [f] [f + 1, f + 2] (by omega) (fun x hx => by
    have h1 := stkErr_ok (show stkErr (movL (preL ss f c77 ((1 + q0) * (1 + k0'))) f 6) = 0 from (proE_inv pz.e3).1 |> stkErr_zero)
    have := (h1.ok x hx).2.1.1
    omega) (show 1 ≤ 9223372036854775807 by decide) (show 2 ≤ 9223372036854775807 by decide) (show 2 ≤ 9223372036854775807 by decide) (show 1 ≤ 9223372036854775807 by decide) (show 2 ≤ 9223372036854775807 by decide)).pargs (cs := [_, _, _, _, _]) ⟨AVle.refl _, a_rP _ _ _, AVle.refl _, one_int _, two_ints _ _, trivial⟩
  rw [yE_pro, yL_pro, pz.e3] at d3
  have hT := pz.est
  have h1 := pz.h1
  have v1 := pz.v1
  have h2 := pz.h2
  have v2 := pz.v2
  clear pz
  generalize proL (movL (preL ss f c77 ((1 + q0) * (1 + k0'))) f 6) (rP (1 + q0) a0 (1 + b0)) (1 + k0') [f] [f + 1, f + 2] = t at *
  generalize movL (preL ss f c77 ((1 + q0) * (1 + k0'))) f 6 = s2 at *
  generalize preL ss f c77 ((1 + q0) * (1 + k0')) = s1 at *
  have hTl := hT.stk.len
  have hTu : ∀ x ∈ t, x.us.length ≤ 1000000 := fun x hx => by have := hT.stk.us x hx; omega
  have f1 := find_t t (f + 1) (by omega) hTu
  rw [v1, decide_eq_true h1] at f1
  have f2 := find_t t (f + 2) (by omega) hTu
  rw [v2, decide_eq_true h2] at f2
  generalize hB1 : (1 + q0) * (1 + k0') * a0 / (a0 + (1 + b0)) = b1 at *
  have dV := validate_t t (by omega)
  rw [stkErr_zero hT.stk] at dV
  have dC := covers_t t f ((1 + q0) * (1 + k0')) (by omega)
  rw [decide_eq_true (est_cov hT (c := ⟨f, (1 + q0) * (1 + k0'), 0⟩) (by simp))] at dC
  have dS := fun (k : Nat) (hk : k < cs.length) => covers_t t (cs.getD k default).m (cs.getD k default).u (by omega)
  have dS := fun (k : Nat) (hk : k < cs.length) => by
    have h := dS k hk
    rw [decide_eq_true (est_cov hT (List.mem_append_left _ (getD_in hk)))] at h
    exact h
  have hsl : ∀ s e, (slR f s e).length ≤ 1 := fun s e => by unfold slR; split <;> simp
  have hid : idOk f := by unfold idOk; omega
  have u1 := units_t (slR f 0 b1) (by have := hsl 0 b1; omega)
  rw [if_pos (slR_err hid (by omega) (by omega) (by omega)), slR_cnt (by omega)] at u1
  have u2 := units_t (slR f b1 ((1 + q0) * (1 + k0'))) (by have := hsl b1 ((1 + q0) * (1 + k0')); omega)
  rw [if_pos (slR_err hid (by omega) (by omega) (by omega)), slR_cnt (by omega)] at u2
  have hW : 0 < a0 + (1 + b0) := by omega
  have g0 : 0 ≤ (1 + q0) * (1 + k0') * a0 ∧ (1 + q0) * (1 + k0') * a0 ≤ 1800 := by
    refine ⟨Int.mul_nonneg (by omega) (by omega), ?_⟩
    have : (1 + q0) * (1 + k0') * a0 ≤ 450 * 4 := Int.mul_le_mul (by omega) (by omega) (by omega) (by omega)
    omega
  have g1 : (b1 - 0) * (a0 + (1 + b0)) ≤ (1 + q0) * (1 + k0') * a0 := by
    rw [Int.sub_zero, ← hB1]
    exact Int.ediv_mul_le _ (by omega)
  have g2 : (1 + q0) * (1 + k0') * a0 < (b1 - 0 + 1) * (a0 + (1 + b0)) := by
    rw [Int.sub_zero, ← hB1]
    exact Int.lt_ediv_add_one_mul_self _ hW
  have g3 : 0 ≤ (b1 - 0) * (a0 + (1 + b0)) := Int.mul_nonneg (by omega) (by omega)
  have g4 : (b1 - 0 + 1) * (a0 + (1 + b0)) ≤ 451 * 9 := Int.mul_le_mul (by omega) (by omega) (by omega) (by omega)
  clear hE hT v1 v2 h1 h2 hTu hB1 hq0 hk0 ha0 hb0
  refine ACalls.of (n := Tryz.f3.ntmps) XX_ok Tryz.func3 rfl (by kernel_rfl) rfl rfl (Nat.le_of_ble_eq_true rfl) ?_
  refine W.pb [35, 38, 44, 70, 77] ?_
  (repeat' (first|((first|refine Zg ?_|refine W.drawP dr3 rfl mixed rfl ?_|refine Zn ?_|refine Zc ?_|refine Zu fun b hb=>?_|refine Zy (ACalls.at (kM)) ?_|refine Zz (ACalls.at (kM)) ?_|refine Zy (ACalls.at (w1)) ?_|refine Zz (ACalls.at (w1)) ?_|refine Zy (ACalls.at (w2)) ?_|refine Zz (ACalls.at (w2)) ?_|refine Zy (ACalls.at (w3)) ?_|refine Zz (ACalls.at (w3)) ?_|refine Zy (ACalls.at (w4)) ?_|refine Zz (ACalls.at (w4)) ?_|refine Zy (ACalls.at (d1)) ?_|refine Zz (ACalls.at (d1)) ?_|refine Zy (ACalls.at (d2)) ?_|refine Zz (ACalls.at (d2)) ?_|refine Zy (ACalls.at (d3)) ?_|refine Zz (ACalls.at (d3)) ?_|refine Zy (ACalls.at (dV)) ?_|refine Zz (ACalls.at (dV)) ?_|refine Zy (ACalls.at (dC)) ?_|refine Zz (ACalls.at (dC)) ?_);conv=>whnf)|(refine Zb ?_ ?_<;>(intro h;first|exact Zx|conv=>whnf))))
  all_goals first|(exfalso; omega)|skip
  refine (W.loopK (ι := Nat) [1, 2, 11, 12, 16] [11, 12] (fun k => [(18, iA k)]) (fun _ => []) (fun k => k ≤ cs.length) (fun k => cs.length - k) 0 (Nat.zero_le _) ?_ ?_ ?_)
  · exact Yz
  · exact Yz
  conv => whnf
  intro k hk
  by_cases hk' : k < cs.length
  · have dS' := dS k hk'
    (repeat' (first|((first|refine Zg ?_|refine W.drawP dr3 rfl mixed rfl ?_|refine Zn ?_|refine Zc ?_|refine Zu fun b hb=>?_);conv=>whnf)|(refine Zb ?_ ?_<;>(intro h;first|exact Zx|conv=>whnf))))
    all_goals (try dsimp only [Int.toNat_natCast] at *)
    (repeat' (first|((first|refine Zg ?_|refine W.drawP dr3 rfl mixed rfl ?_|refine Zn ?_|refine Zc ?_|refine Zu fun b hb=>?_|refine Zy (ACalls.at (dS')) ?_|refine Zz (ACalls.at (dS')) ?_);conv=>whnf)|(refine Zb ?_ ?_<;>(intro h;first|exact Zx|conv=>whnf))))
    all_goals first|(exfalso; omega)|skip
    refine ⟨k + 1, by omega, by omega, ?_, ?_, ?_, ?_⟩
    all_goals exact Yz
  obtain rfl : k = cs.length := by omega
  (repeat' (first|((first|refine Zg ?_|refine W.drawP dr3 rfl mixed rfl ?_|refine Zn ?_|refine Zc ?_|refine Zu fun b hb=>?_|refine Zy (ACalls.at (f1)) ?_|refine Zz (ACalls.at (f1)) ?_|refine Zy (ACalls.at (f2)) ?_|refine Zz (ACalls.at (f2)) ?_|refine Zy (ACalls.at (u1)) ?_|refine Zz (ACalls.at (u1)) ?_|refine Zy (ACalls.at (u2)) ?_|refine Zz (ACalls.at (u2)) ?_|refine Zy (ACalls.at (hQ)) ?_|refine Zz (ACalls.at (hQ)) ?_);conv=>whnf)|(refine Zb ?_ ?_<;>(intro h;first|exact Zx|conv=>whnf))))
  all_goals first|exact Zrz|(exfalso; omega)
end Go.Proofs.YtacpjihbbmoolaaGreatDoor
