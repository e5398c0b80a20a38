/- The law of duties that a process keeps. -/
import Derived.Test.YtacpjihbbmoolaaGreatDoorPC
import Derived.Test.YtacpjihbbmoolaaGreatDoorFN
import Derived.Test.YtacpjihbbmoolaaGreatDoorSL

namespace Go.Proofs.YtacpjihbbmoolaaGreatDoor
open Go Go.RowKit
set_option linter.unusedVariables false
set_option linter.unusedSimpArgs false
set_option maxRecDepth 100000
set_option maxHeartbeats 40000000
attribute [local irreducible] ResLe AVle ArgLe ArgP EntLe Dle ResH ArgQ strEq strLt

theorem duty_one {f u a s e : Int} (hf : idOk f) (hu : 1 ≤ u ∧ u ≤ 1000000000) (ha : 0 ≤ a ∧ a ≤ 1000000000000) (h0 : 0 ≤ s) (h1 : s ≤ e) (h2 : e ≤ u) : dutyE (slR f s e) [⟨f, u, a⟩] = 0 ∧ dutyV (slR f s e) [⟨f, u, a⟩] = a * e / u - a * s / u := by
  have hL := slR_err hf h0 h1 (Int.le_trans h2 hu.2)
  have c1 : ∀ x ∈ [(⟨f, u, a⟩ : Ch)], chOk x := fun x hx => by
    rw [List.mem_singleton.1 hx]
    exact ⟨hf.1, hf.2, hu, ha⟩
  have c2 : ascC [(⟨f, u, a⟩ : Ch)] := fun i hi => absurd hi (by show ¬ i + 1 < 1; omega)
  have hC : chErr [(⟨f, u, a⟩ : Ch)] = 0 := by
    unfold chErr
    rw [if_neg (show ¬ 64 < ([(⟨f, u, a⟩ : Ch)] : List Ch).length from (show ¬ 64 < 1 by decide)), if_neg (fun h => h c1), if_neg (fun h => h c2)]
  have hd : hadC [(⟨f, u, a⟩ : Ch)] f := ⟨_, List.mem_singleton.2 rfl, rfl⟩
  have hof : chOf [(⟨f, u, a⟩ : Ch)] f = ⟨f, u, a⟩ := by
    unfold chOf loC
    rw [List.filter_eq_nil_iff.2 fun x hx => by rw [List.mem_singleton.1 hx]; simp]
    rfl
  have hp : porOk a u s e := ⟨ha, hu, h0, h1, h2⟩
  have hE : dutE [⟨f, u, a⟩] (slR f s e) = 0 := by
    refine dutE_none fun i hi => ?_
    have hm := getD_in hi
    unfold slR at hm ⊢
    split at hm
    · rename_i h
      rw [if_pos h, List.mem_singleton.1 hm]
      unfold stepE
      rw [if_neg (fun h => h hd)]
      dsimp only
      rw [hof, if_pos hp]
    · cases hm
  have hE2 : dutyE (slR f s e) [⟨f, u, a⟩] = 0 := by
    unfold dutyE
    rw [if_neg (by rw [hL]; decide), if_neg (by rw [hC]; decide), hE]
  refine ⟨hE2, ?_⟩
  unfold dutyV
  rw [if_pos hE2]
  unfold slR
  split
  · show (List.map (stepV _) [(⟨f, s, e⟩ : Sl)]).sum = _
    simp only [List.map_cons, List.map_nil, List.sum_cons, List.sum_nil, Int.add_zero]
    unfold stepV
    dsimp only
    rw [hof]
    rfl
  · obtain rfl : s = e := by omega
    show (0 : Int) = _
    omega
theorem one_ch (m u a : Int) : AVle (.dat (.lst 3 1 fun i j => pickF (tabB 1 3) [.val (.int .i64 m), .val (.int .i64 u), .val (.int .i64 a)] (i * 3 + j))) (.dat (chD [⟨m, u, a⟩])) := AVle.dat (Dle.lst rfl fun i hi j hj => by
  rcases i with _|i <;> rcases j with _|_|_|j <;> first|exact Dle.refl _|omega)
theorem lawLProcess_t (x0 x1 : List Int) (a2 a3 a4 a5 : Int) (k0 : x0.length ≤ 9223372036854775807) : ACalls XX 4 [.dat (ilst x0), .dat (ilst x1), iA a2, iA a3, iA a4, iA a5] (bA true) := by
  have hQ := l27awake_t
  have w5 := within_t a4 1000 (by omega) (by omega)
  have w6 := within_t a5 1000 (by omega) (by omega)
  have r5 := Int.emod_nonneg a4 (show (1000 : Int) ≠ 0 by omega)
  have r5' := Int.emod_lt_of_pos a4 (show (0 : Int) < 1000 by omega)
  have r6 := Int.emod_nonneg a5 (show (1000 : Int) ≠ 0 by omega)
  have r6' := Int.emod_lt_of_pos a5 (show (0 : Int) < 1000 by omega)
  generalize a4 % 1000 = m4 at *
  generalize a5 % 1000 = m5 at *
  have w1 := within_t a2 50 (by omega) (by omega)
  have w2 := within_t a3 9 (by omega) (by omega)
  have w3 := within_t a4 5 (by omega) (by omega)
  have w4 := within_t a5 5 (by omega) (by omega)
  have r1 := Int.emod_nonneg a2 (show (50 : Int) ≠ 0 by omega)
  have r1' := Int.emod_lt_of_pos a2 (show (0 : Int) < 50 by omega)
  have r2 := Int.emod_nonneg a3 (show (9 : Int) ≠ 0 by omega)
  have r2' := Int.emod_lt_of_pos a3 (show (0 : Int) < 9 by omega)
  have r3 := Int.emod_nonneg a4 (show (5 : Int) ≠ 0 by omega)
  have r3' := Int.emod_lt_of_pos a4 (show (0 : Int) < 5 by omega)
  have r4 := Int.emod_nonneg a5 (show (5 : Int) ≠ 0 by omega)
  have r4' := Int.emod_lt_of_pos a5 (show (0 : Int) < 5 by omega)
  obtain ⟨n, ss, cs, f, hn, ⟨hA, hl25, hc31⟩, kM⟩ := make_ex2 x0 k0
  obtain ⟨hE, hf, hcl⟩ := acts_est hA
  have hf1 := hE.f
  clear hA
  generalize hq0 : a2 % 50 = q0 at *
  generalize hk0 : a3 % 9 = k0' at *
  generalize ha0 : a4 % 5 = a0 at *
  generalize hb0 : a5 % 5 = b0 at *
  have hu : 1 ≤ (1 + q0) * (1 + k0') ∧ (1 + q0) * (1 + k0') ≤ 450 := by
    have h1 : 1 * 1 ≤ (1 + q0) * (1 + k0') := Int.mul_le_mul (by omega) (by omega) (by omega) (by omega)
    have h2 : (1 + q0) * (1 + k0') ≤ 50 * 9 := Int.mul_le_mul (by omega) (by omega) (by omega) (by omega)
    omega
  have pz := pz_ok hE hl25 (by omega) (q := 1 + q0) (k := 1 + k0') (A := a0) (B := 1 + b0) (a := 8) (p := 6) (by omega) (by omega) (by omega) (by omega) (.inr ⟨rfl, rfl⟩)
  have hbd := bd_rng (u := (1 + q0) * (1 + k0')) (A := a0) (W := a0 + (1 + b0)) (by omega) (by omega) (by omega) (by omega)
  have d1 := present_t ss f c77 ((1 + q0) * (1 + k0')) (by omega)
  rw [pz.e1] at d1
  have l1 := pz.l1
  have d2 := move_t (preL ss f c77 ((1 + q0) * (1 + k0'))) f 8 (by omega)
  rw [pz.e2] at d2
  have l2 := pz.l2
  have d3 := (yprocess_t (movL (preL ss f c77 ((1 + q0) * (1 + k0'))) f 8) (rP (1 + q0) a0 (1 + b0)) (1 + k0') [f] [f + 1, f + 2] (by omega) (fun x hx => by
    have h1 := stkErr_ok (show stkErr (movL (preL ss f c77 ((1 + q0) * (1 + k0'))) f 8) = 0 from (proE_inv pz.e3).1 |> stkErr_zero)
    have := (h1.ok x hx).2.1.1
    omega) (show 1 ≤ 9223372036854775807 by decide) (show 2 ≤ 9223372036854775807 by decide) (show 2 ≤ 9223372036854775807 by decide) (show 1 ≤ 9223372036854775807 by decide) (show 2 ≤ 9223372036854775807 by decide)).pargs (cs := [_, _, _, _, _]) ⟨AVle.refl _, a_rP _ _ _, AVle.refl _, one_int _, two_ints _ _, trivial⟩
  rw [yE_pro, yL_pro, pz.e3] at d3
  have hT := pz.est
  have h1 := pz.h1
  have v1 := pz.v1
  have h2 := pz.h2
  have v2 := pz.v2
  clear pz
  generalize proL (movL (preL ss f c77 ((1 + q0) * (1 + k0'))) f 8) (rP (1 + q0) a0 (1 + b0)) (1 + k0') [f] [f + 1, f + 2] = t at *
  generalize movL (preL ss f c77 ((1 + q0) * (1 + k0'))) f 8 = s2 at *
  generalize preL ss f c77 ((1 + q0) * (1 + k0')) = s1 at *
  have hTl := hT.stk.len
  have hTu : ∀ x ∈ t, x.us.length ≤ 1000000 := fun x hx => by have := hT.stk.us x hx; omega
  have f1 := find_t t (f + 1) (by omega) hTu
  rw [v1, decide_eq_true h1] at f1
  have f2 := find_t t (f + 2) (by omega) hTu
  rw [v2, decide_eq_true h2] at f2
  generalize hB1 : (1 + q0) * (1 + k0') * a0 / (a0 + (1 + b0)) = b1 at *
  have hid : idOk f := by unfold idOk; omega
  have hsl : ∀ s e, (slR f s e).length ≤ 1 := fun s e => by unfold slR; split <;> simp
  obtain ⟨y1, y2⟩ := duty_one (f := f) (u := (1 + q0) * (1 + k0')) (a := m4 * 1000 + m5) (s := 0) (e := b1) hid (by omega) (by omega) (by omega) (by omega) (by omega)
  obtain ⟨y3, y4⟩ := duty_one (f := f) (u := (1 + q0) * (1 + k0')) (a := m4 * 1000 + m5) (s := b1) (e := (1 + q0) * (1 + k0')) hid (by omega) (by omega) (by omega) (by omega) (by omega)
  have e1 := (duty_t (slR f 0 b1) [⟨f, (1 + q0) * (1 + k0'), m4 * 1000 + m5⟩] (by have := hsl 0 b1; omega) (by simp)).pargs (cs := [_, _]) ⟨AVle.refl _, one_ch _ _ _, trivial⟩
  have e2 := (duty_t (slR f b1 ((1 + q0) * (1 + k0'))) [⟨f, (1 + q0) * (1 + k0'), m4 * 1000 + m5⟩] (by have := hsl b1 ((1 + q0) * (1 + k0')); omega) (by simp)).pargs (cs := [_, _]) ⟨AVle.refl _, one_ch _ _ _, trivial⟩
  rw [y1, y2] at e1
  rw [y3, y4] at e2
  have g1 := mulDiv_rng (a := m4 * 1000 + m5) (n := b1) (u := (1 + q0) * (1 + k0')) ⟨by omega, by omega⟩ ⟨by omega, by omega⟩ ⟨by omega, by omega⟩
  have g2 : (m4 * 1000 + m5) * ((1 + q0) * (1 + k0')) / ((1 + q0) * (1 + k0')) = m4 * 1000 + m5 := Int.mul_ediv_cancel _ (by omega)
  have g3 : (m4 * 1000 + m5) * 0 / ((1 + q0) * (1 + k0')) = 0 := by simp
  rw [g3] at e1
  rw [g2] at e2
  generalize (m4 * 1000 + m5) * b1 / ((1 + q0) * (1 + k0')) = p1 at *
  clear hE hT v1 v2 h1 h2 hTu hB1 hq0 hk0 ha0 hb0 y1 y2 y3 y4 g2 g3
  refine ACalls.of (n := Tryz.f4.ntmps) XX_ok Tryz.func4 rfl (by kernel_rfl) rfl rfl (Nat.le_of_ble_eq_true rfl) ?_
  refine W.pb [40, 43, 49, 75, 82, 99] ?_
  (repeat' (first|((first|refine Zg ?_|refine Zn ?_|refine Zc ?_|refine Zu fun b hb=>?_|refine Zy (ACalls.at (kM)) ?_|refine Zy (ACalls.at (w1)) ?_|refine Zy (ACalls.at (w2)) ?_|refine Zy (ACalls.at (w3)) ?_|refine Zy (ACalls.at (w4)) ?_|refine Zy (ACalls.at (w5)) ?_|refine Zy (ACalls.at (w6)) ?_|refine Zy (ACalls.at (d1)) ?_|refine Zy (ACalls.at (d2)) ?_|refine Zy (ACalls.at (d3)) ?_|refine Zy (ACalls.at (f1)) ?_|refine Zy (ACalls.at (f2)) ?_|refine Zy (ACalls.at (e1)) ?_|refine Zy (ACalls.at (e2)) ?_|refine Zy (ACalls.at (hQ)) ?_);conv=>whnf)|(refine Zb ?_ ?_<;>(intro h;first|exact Zx|conv=>whnf))))
  all_goals first|exact Zrz|(exfalso; omega)
end Go.Proofs.YtacpjihbbmoolaaGreatDoor
