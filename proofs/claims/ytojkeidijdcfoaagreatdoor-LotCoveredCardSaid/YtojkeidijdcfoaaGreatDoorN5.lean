/- The law of sources that stay covered. -/
import Derived.Test.YtojkeidijdcfoaaGreatDoorN2
namespace Go.Proofs.YtojkeidijdcfoaaGreatDoor
open Go Go.RowKit
set_option linter.unusedVariables false
set_option linter.unusedSimpArgs false
set_option maxRecDepth 100000
set_option maxHeartbeats 4000000
attribute [local irreducible] ResLe AVle ArgLe ArgP EntLe Dle ResH ArgQ strEq

structure Rnd where
  s : List Lt
  f : Int
  i : Nat
set_option maxHeartbeats 40000000 in
theorem lawCovered_t (x0 x1 : List Int) (k0 : x0.length ≤ 9223372036854775807) (k1 : x1.length ≤ 9223372036854775807) : ACalls XX 5 [.dat (ilst x0), .dat (ilst x1)] (bA true) := by
  have hQ := l25awake_t
  obtain ⟨n, ss, cs, f, hn, ⟨hA, hl25, hc31⟩, kM⟩ := make_ex2 x0 k0
  obtain ⟨hE, hf, hcl⟩ := acts_est hA
  have hcut := cut_t x1 60 (by omega) k1
  generalize hLL : x1.take (60 : Int).toNat = L at hcut
  have hL : L.length ≤ 60 := by rw [← hLL]; simp; omega
  clear hLL hA
  refine ACalls.of (n := Tryz.f5.ntmps) XX_ok Tryz.func5 rfl (by kernel_rfl) rfl rfl (Nat.le_of_ble_eq_true rfl) ?_
  (repeat' (first | refine Zs ?_ | refine Zk ?_ | ((first | refine Za ?_ | refine Zr ?_ | refine Zp ?_ | refine Ze ?_ | refine Zd ?_ | refine W.drawT dr5 rfl mixed rfl ?_ | refine Zn ?_ | refine Zc ?_ | refine UnK.mk (fun b hb => ?_) | refine Zy kM ?_ | refine Zz kM ?_ | refine Zy hcut ?_ | refine Zz hcut ?_); conv => whnf) | (refine Zb (fun h => ?_) (fun h => ?_) <;> first | exact Zx | (conv => whnf))))
  refine (W.loopK (ι := Rnd) [5, 7] [] (fun r => [(6, .dat (ltD r.s))]) (fun r => [(5, .blk 29 [.dat (ltD ss), .dat (chD cs), iA r.f]), (23, srcE L r.i)]) (fun r => EstOk r.s cs r.f ∧ r.i ≤ L.length ∧ r.f ≤ 1 + 2 * n + 2 * r.i) (fun r => L.length - r.i) ⟨ss, f, 0⟩ ⟨hE, Nat.zero_le _, by dsimp only; omega⟩ ?_ ?_ ?_)
  · exact Yz
  · exact Yz
  conv => whnf
  intro ⟨s, g, i⟩ ⟨hE, hi, hg⟩
  dsimp only at hE hi hg
  refine W.pb [88, 108] ?_
  have hg1 := hE.f
  have hO := hE.stk
  have hlen := hO.len
  have hlf := left_h L i
  by_cases hc : i < L.length
  rotate_left
  · rw [decide_eq_false hc] at hlf
    (repeat' (first | refine Zs ?_ | refine Zk ?_ | ((first | refine Za ?_ | refine Zr ?_ | refine Zp ?_ | refine Ze ?_ | refine Zd ?_ | refine W.drawP dr5 rfl mixed rfl ?_ | refine Zn ?_ | refine Zc ?_ | refine UnK.mk (fun b hb => ?_) | refine ExCall.h [(5000, 23)] rfl (HC.at (hlf)) rfl ⟨rfl, trivial⟩ ?_ | refine CallK.h [(5000, 23)] rfl (HC.at (hlf)) rfl rfl ⟨rfl, trivial⟩ rfl rfl ?_ | refine Zy (ACalls.at (hQ)) ?_ | refine Zz (ACalls.at (hQ)) ?_); conv => whnf) | (refine Zb (fun h => ?_) (fun h => ?_) <;> first | exact Zx | (conv => whnf))))
    all_goals first | exact Zrz | (exfalso; omega)
  rw [decide_eq_true hc] at hlf
  by_cases hs0 : s.length = 0
  · (repeat' (first | refine Zs ?_ | refine Zk ?_ | ((first | refine Za ?_ | refine Zr ?_ | refine Zp ?_ | refine Ze ?_ | refine Zd ?_ | refine W.drawP dr5 rfl mixed rfl ?_ | refine Zn ?_ | refine Zc ?_ | refine UnK.mk (fun b hb => ?_) | refine ExCall.h [(5000, 23)] rfl (HC.at (hlf)) rfl ⟨rfl, trivial⟩ ?_ | refine CallK.h [(5000, 23)] rfl (HC.at (hlf)) rfl rfl ⟨rfl, trivial⟩ rfl rfl ?_ | refine Zy (ACalls.at (hQ)) ?_ | refine Zz (ACalls.at (hQ)) ?_); conv => whnf) | (refine Zb (fun h => ?_) (fun h => ?_) <;> first | exact Zx | (conv => whnf))))
    all_goals first | exact Zrz | (exfalso; omega)
  have n1 := next_h L i s.length (by omega) (by omega) (by omega)
  have b1 := ni_two L hc
  have q1 := nx_rng L i (m := s.length) (by omega)
  obtain ⟨i1, hi1⟩ : ∃ i1, i1 = ni L i := ⟨_, rfl⟩
  rw [← hi1] at n1 b1
  generalize nx L i s.length = k1' at *
  have hx := getD_in (us := s) (k := k1'.toNat) (by omega)
  have d1 := find_t s (s.getD k1'.toNat default).id (by omega) (fun x hx => by have := hO.us x hx; omega)
  rw [find_self (asc_of hO.asc) hx, decide_eq_true (show hasI s (s.getD k1'.toNat default).id from ⟨_, hx, rfl⟩)] at d1
  have n2 := next_h L i1 3 (by omega) (by omega) (by omega)
  have b2 := ni_mono L b1.2
  have q2 := nx_rng L i1 (m := 3) (by omega)
  obtain ⟨i2, hi2⟩ : ∃ i2, i2 = ni L i1 := ⟨_, rfl⟩
  rw [← hi2] at n2 b2
  generalize nx L i1 3 = k2' at *
  have hxq := (hO.ok _ hx).2.2.1
  unfold qOk at hxq
  clear hi1 hi2
  (repeat' (first | refine Zs ?_ | refine Zk ?_ | ((first | refine Zas 14 ?_ | refine Zr ?_ | refine Zp ?_ | refine Ze ?_ | refine Zd ?_ | refine W.drawP dr5 rfl mixed rfl ?_ | refine Zn ?_ | refine Zc ?_ | refine UnK.mk (fun b hb => ?_) | refine ExCall.h [(5000, 23)] rfl (HC.at (hlf)) rfl ⟨rfl, trivial⟩ ?_ | refine CallK.h [(5000, 23)] rfl (HC.at (hlf)) rfl rfl ⟨rfl, trivial⟩ rfl rfl ?_ | refine ExCall.h [(5000, 23)] rfl (HC.at (n1)) rfl ⟨rfl, trivial⟩ ?_ | refine CallK.h [(5000, 23)] rfl (HC.at (n1)) rfl rfl ⟨rfl, trivial⟩ rfl rfl ?_ | refine Zy (ACalls.at (d1)) ?_ | refine Zz (ACalls.at (d1)) ?_ | refine ExCall.h [(5000, 23)] rfl (HC.at (n2)) rfl ⟨rfl, trivial⟩ ?_ | refine CallK.h [(5000, 23)] rfl (HC.at (n2)) rfl rfl ⟨rfl, trivial⟩ rfl rfl ?_); conv => whnf) | (refine Zb (fun h => ?_) (fun h => ?_) <;> first | exact Zx | (conv => whnf))))
  all_goals first | (exfalso; omega) | skip
  clear hlf n1 d1 n2
  by_cases z0 : k2' = 0
  · by_cases hq : 2 ≤ (s.getD k1'.toNat default).q
    rotate_left
    · (repeat' (first | refine Zs ?_ | refine Zk ?_ | ((first | refine Za ?_ | refine Zr ?_ | refine Zp ?_ | refine Ze ?_ | refine Zd ?_ | refine W.drawP dr5 rfl mixed rfl ?_ | refine Zn ?_ | refine Zc ?_ | refine UnK.mk (fun b hb => ?_)); conv => whnf) | (refine Zb (fun h => ?_) (fun h => ?_) <;> first | exact Zx | (conv => whnf))))
      all_goals first | (exfalso; omega) | skip
      refine ⟨⟨s, g, i2⟩, ⟨hE, by dsimp only; omega, by dsimp only; omega⟩, by dsimp only; omega, ?_, ?_, ?_, ?_⟩
      all_goals exact Yz
    have n3 := next_h L i2 ((s.getD k1'.toNat default).q - 1) (by omega) (by omega) (by omega)
    have b3 := ni_mono L b2.2
    have q3 := nx_rng L i2 (m := (s.getD k1'.toNat default).q - 1) (by omega)
    obtain ⟨i3, hi3⟩ : ∃ i3, i3 = ni L i2 := ⟨_, rfl⟩
    rw [← hi3] at n3 b3
    generalize nx L i2 ((s.getD k1'.toNat default).q - 1) = k3' at *
    have n4 := next_h L i3 3 (by omega) (by omega) (by omega)
    have b4 := ni_mono L b3.2
    have q4 := nx_rng L i3 (m := 3) (by omega)
    obtain ⟨i4, hi4⟩ : ∃ i4, i4 = ni L i3 := ⟨_, rfl⟩
    rw [← hi4] at n4 b4
    generalize nx L i3 3 = k4' at *
    clear hi3 hi4
    have dS := (split_t s (s.getD k1'.toNat default).id [⟨g, 1 + k3'⟩, ⟨g + 1, (s.getD k1'.toNat default).q - (1 + k3')⟩] (1 + k4') (by omega) (by simp) (fun h => divAny h)).args4 (AVle.refl _) (AVle.refl _) (two_pts _ _) (AVle.refl _)
    by_cases hz : splE s (s.getD k1'.toNat default).id [⟨g, 1 + k3'⟩, ⟨g + 1, (s.getD k1'.toNat default).q - (1 + k3')⟩] (1 + k4') = 0
    · rw [hz] at dS
      have hE2 : EstOk (splL s (s.getD k1'.toNat default).id [⟨g, 1 + k3'⟩, ⟨g + 1, (s.getD k1'.toNat default).q - (1 + k3')⟩] (1 + k4')) cs (g + 2) := (est_step hE (Step.spl _ _ _ _ hz)).1
      have hT := hE2.stk.len
      have dV := validate_t (splL s (s.getD k1'.toNat default).id [⟨g, 1 + k3'⟩, ⟨g + 1, (s.getD k1'.toNat default).q - (1 + k3')⟩] (1 + k4')) (by omega)
      rw [stkErr_zero hE2.stk] at dV
      clear hz
      (repeat' (first | refine Zs ?_ | refine Zk ?_ | ((first | refine Za ?_ | refine Zr ?_ | refine Zp ?_ | refine Ze ?_ | refine Zd ?_ | refine W.drawP dr5 rfl mixed rfl ?_ | refine Zn ?_ | refine Zc ?_ | refine UnK.mk (fun b hb => ?_) | refine ExCall.h [(5000, 23)] rfl (HC.at (n3)) rfl ⟨rfl, trivial⟩ ?_ | refine CallK.h [(5000, 23)] rfl (HC.at (n3)) rfl rfl ⟨rfl, trivial⟩ rfl rfl ?_ | refine ExCall.h [(5000, 23)] rfl (HC.at (n4)) rfl ⟨rfl, trivial⟩ ?_ | refine CallK.h [(5000, 23)] rfl (HC.at (n4)) rfl rfl ⟨rfl, trivial⟩ rfl rfl ?_ | refine Zy (ACalls.at (dS)) ?_ | refine Zz (ACalls.at (dS)) ?_); conv => whnf) | (refine Zb (fun h => ?_) (fun h => ?_) <;> first | exact Zx | (conv => whnf))))
      (repeat' (first | refine Zs ?_ | refine Zk ?_ | ((first | refine Za ?_ | refine Zr ?_ | refine Zp ?_ | refine Ze ?_ | refine Zd ?_ | refine W.drawP dr5 rfl mixed rfl ?_ | refine Zn ?_ | refine Zc ?_ | refine UnK.mk (fun b hb => ?_) | refine Zy (ACalls.at (dV)) ?_ | refine Zz (ACalls.at (dV)) ?_); conv => whnf) | (refine Zb (fun h => ?_) (fun h => ?_) <;> first | exact Zx | (conv => whnf))))
      all_goals first | (exfalso; omega) | skip
      refine (W.loopK (ι := Nat) [5, 6, 7] [5, 23] (fun k => [(15, iA k)]) (fun _ => []) (fun k => k ≤ cs.length) (fun k => cs.length - k) 0 (Nat.zero_le _) ?_ ?_ ?_)
      · exact Yz
      · exact Yz
      conv => whnf
      intro k hk
      by_cases hk' : k < cs.length
      · have dC := covers_t (splL s (s.getD k1'.toNat default).id [⟨g, 1 + k3'⟩, ⟨g + 1, (s.getD k1'.toNat default).q - (1 + k3')⟩] (1 + k4')) (cs.getD k default).m (cs.getD k default).u (by omega)
        rw [decide_eq_true (est_cov hE2 (getD_in hk'))] at dC
        (repeat' (first | refine Zs ?_ | refine Zk ?_ | ((first | refine Za ?_ | refine Zr ?_ | refine Zp ?_ | refine Ze ?_ | refine Zd ?_ | refine W.drawP dr5 rfl mixed rfl ?_ | refine Zn ?_ | refine Zc ?_ | refine UnK.mk (fun b hb => ?_)); conv => whnf) | (refine Zb (fun h => ?_) (fun h => ?_) <;> first | exact Zx | (conv => whnf))))
        all_goals (try dsimp only [Int.toNat_natCast] at *)
        (repeat' (first | refine Zs ?_ | refine Zk ?_ | ((first | refine Za ?_ | refine Zr ?_ | refine Zp ?_ | refine Ze ?_ | refine Zd ?_ | refine W.drawP dr5 rfl mixed rfl ?_ | refine Zn ?_ | refine Zc ?_ | refine UnK.mk (fun b hb => ?_) | refine Zy (ACalls.at (dC)) ?_ | refine Zz (ACalls.at (dC)) ?_); conv => whnf) | (refine Zb (fun h => ?_) (fun h => ?_) <;> first | exact Zx | (conv => whnf))))
        all_goals first | (exfalso; omega) | skip
        refine ⟨k + 1, by omega, by omega, ?_, ?_, ?_, ?_⟩
        all_goals exact Yz
      · obtain rfl : k = cs.length := by omega
        (repeat' (first | refine Zs ?_ | refine Zk ?_ | ((first | refine Za ?_ | refine Zr ?_ | refine Zp ?_ | refine Ze ?_ | refine Zd ?_ | refine W.drawP dr5 rfl mixed rfl ?_ | refine Zn ?_ | refine Zc ?_ | refine UnK.mk (fun b hb => ?_)); conv => whnf) | (refine Zb (fun h => ?_) (fun h => ?_) <;> first | exact Zx | (conv => whnf))))
        all_goals first | (exfalso; omega) | skip
        refine ⟨⟨(splL s (s.getD k1'.toNat default).id [⟨g, 1 + k3'⟩, ⟨g + 1, (s.getD k1'.toNat default).q - (1 + k3')⟩] (1 + k4')), g + 2, i4⟩, ⟨hE2, by dsimp only; omega, by dsimp only; omega⟩, by dsimp only; omega, ?_, ?_, ?_, ?_⟩
        all_goals exact Yz
    · generalize splE s (s.getD k1'.toNat default).id [⟨g, 1 + k3'⟩, ⟨g + 1, (s.getD k1'.toNat default).q - (1 + k3')⟩] (1 + k4') = E at hz dS
      (repeat' (first | refine Zs ?_ | refine Zk ?_ | ((first | refine Za ?_ | refine Zr ?_ | refine Zp ?_ | refine Ze ?_ | refine Zd ?_ | refine W.drawP dr5 rfl mixed rfl ?_ | refine Zn ?_ | refine Zc ?_ | refine UnK.mk (fun b hb => ?_) | refine ExCall.h [(5000, 23)] rfl (HC.at (n3)) rfl ⟨rfl, trivial⟩ ?_ | refine CallK.h [(5000, 23)] rfl (HC.at (n3)) rfl rfl ⟨rfl, trivial⟩ rfl rfl ?_ | refine ExCall.h [(5000, 23)] rfl (HC.at (n4)) rfl ⟨rfl, trivial⟩ ?_ | refine CallK.h [(5000, 23)] rfl (HC.at (n4)) rfl rfl ⟨rfl, trivial⟩ rfl rfl ?_ | refine Zy (ACalls.at (dS)) ?_ | refine Zz (ACalls.at (dS)) ?_); conv => whnf) | (refine Zb (fun h => ?_) (fun h => ?_) <;> first | exact Zx | (conv => whnf))))
      all_goals first | (exfalso; omega) | (exfalso; simp_all; done) | skip
      refine ⟨⟨s, g, i4⟩, ⟨hE, by dsimp only; omega, by dsimp only; omega⟩, by dsimp only; omega, ?_, ?_, ?_, ?_⟩
      all_goals exact Yz
  by_cases z1 : k2' = 1
  · have n3 := next_h L i2 s.length (by omega) (by omega) (by omega)
    have b3 := ni_mono L b2.2
    have q3 := nx_rng L i2 (m := s.length) (by omega)
    obtain ⟨i3, hi3⟩ : ∃ i3, i3 = ni L i2 := ⟨_, rfl⟩
    rw [← hi3] at n3 b3
    generalize nx L i2 s.length = k3' at *
    clear hi3
    have dS := (merge_t s [(s.getD k1'.toNat default).id, (s.getD k3'.toNat default).id] g (by omega) (by simp)).args3 (AVle.refl _) (two_ints _ _) (AVle.refl _)
    by_cases hz : merE s [(s.getD k1'.toNat default).id, (s.getD k3'.toNat default).id] g = 0
    · rw [hz] at dS
      have hE2 : EstOk (merL s [(s.getD k1'.toNat default).id, (s.getD k3'.toNat default).id] g) cs (g + 2) := ((est_step hE (Step.mer _ _ hz)).1.up (by omega))
      have hT := hE2.stk.len
      have dV := validate_t (merL s [(s.getD k1'.toNat default).id, (s.getD k3'.toNat default).id] g) (by omega)
      rw [stkErr_zero hE2.stk] at dV
      clear hz
      (repeat' (first | refine Zs ?_ | refine Zk ?_ | ((first | refine Za ?_ | refine Zr ?_ | refine Zp ?_ | refine Ze ?_ | refine Zd ?_ | refine W.drawP dr5 rfl mixed rfl ?_ | refine Zn ?_ | refine Zc ?_ | refine UnK.mk (fun b hb => ?_) | refine ExCall.h [(5000, 23)] rfl (HC.at (n3)) rfl ⟨rfl, trivial⟩ ?_ | refine CallK.h [(5000, 23)] rfl (HC.at (n3)) rfl rfl ⟨rfl, trivial⟩ rfl rfl ?_ | refine Zy (ACalls.at (dS)) ?_ | refine Zz (ACalls.at (dS)) ?_); conv => whnf) | (refine Zb (fun h => ?_) (fun h => ?_) <;> first | exact Zx | (conv => whnf))))
      (repeat' (first | refine Zs ?_ | refine Zk ?_ | ((first | refine Za ?_ | refine Zr ?_ | refine Zp ?_ | refine Ze ?_ | refine Zd ?_ | refine W.drawP dr5 rfl mixed rfl ?_ | refine Zn ?_ | refine Zc ?_ | refine UnK.mk (fun b hb => ?_) | refine Zy (ACalls.at (dV)) ?_ | refine Zz (ACalls.at (dV)) ?_); conv => whnf) | (refine Zb (fun h => ?_) (fun h => ?_) <;> first | exact Zx | (conv => whnf))))
      all_goals first | (exfalso; omega) | skip
      refine (W.loopK (ι := Nat) [5, 6, 7] [5, 23] (fun k => [(15, iA k)]) (fun _ => []) (fun k => k ≤ cs.length) (fun k => cs.length - k) 0 (Nat.zero_le _) ?_ ?_ ?_)
      · exact Yz
      · exact Yz
      conv => whnf
      intro k hk
      by_cases hk' : k < cs.length
      · have dC := covers_t (merL s [(s.getD k1'.toNat default).id, (s.getD k3'.toNat default).id] g) (cs.getD k default).m (cs.getD k default).u (by omega)
        rw [decide_eq_true (est_cov hE2 (getD_in hk'))] at dC
        (repeat' (first | refine Zs ?_ | refine Zk ?_ | ((first | refine Za ?_ | refine Zr ?_ | refine Zp ?_ | refine Ze ?_ | refine Zd ?_ | refine W.drawP dr5 rfl mixed rfl ?_ | refine Zn ?_ | refine Zc ?_ | refine UnK.mk (fun b hb => ?_)); conv => whnf) | (refine Zb (fun h => ?_) (fun h => ?_) <;> first | exact Zx | (conv => whnf))))
        all_goals (try dsimp only [Int.toNat_natCast] at *)
        (repeat' (first | refine Zs ?_ | refine Zk ?_ | ((first | refine Za ?_ | refine Zr ?_ | refine Zp ?_ | refine Ze ?_ | refine Zd ?_ | refine W.drawP dr5 rfl mixed rfl ?_ | refine Zn ?_ | refine Zc ?_ | refine UnK.mk (fun b hb => ?_) | refine Zy (ACalls.at (dC)) ?_ | refine Zz (ACalls.at (dC)) ?_); conv => whnf) | (refine Zb (fun h => ?_) (fun h => ?_) <;> first | exact Zx | (conv => whnf))))
        all_goals first | (exfalso; omega) | skip
        refine ⟨k + 1, by omega, by omega, ?_, ?_, ?_, ?_⟩
        all_goals exact Yz
      · obtain rfl : k = cs.length := by omega
        (repeat' (first | refine Zs ?_ | refine Zk ?_ | ((first | refine Za ?_ | refine Zr ?_ | refine Zp ?_ | refine Ze ?_ | refine Zd ?_ | refine W.drawP dr5 rfl mixed rfl ?_ | refine Zn ?_ | refine Zc ?_ | refine UnK.mk (fun b hb => ?_)); conv => whnf) | (refine Zb (fun h => ?_) (fun h => ?_) <;> first | exact Zx | (conv => whnf))))
        all_goals first | (exfalso; omega) | skip
        refine ⟨⟨(merL s [(s.getD k1'.toNat default).id, (s.getD k3'.toNat default).id] g), g + 2, i3⟩, ⟨hE2, by dsimp only; omega, by dsimp only; omega⟩, by dsimp only; omega, ?_, ?_, ?_, ?_⟩
        all_goals exact Yz
    · generalize merE s [(s.getD k1'.toNat default).id, (s.getD k3'.toNat default).id] g = E at hz dS
      (repeat' (first | refine Zs ?_ | refine Zk ?_ | ((first | refine Za ?_ | refine Zr ?_ | refine Zp ?_ | refine Ze ?_ | refine Zd ?_ | refine W.drawP dr5 rfl mixed rfl ?_ | refine Zn ?_ | refine Zc ?_ | refine UnK.mk (fun b hb => ?_) | refine ExCall.h [(5000, 23)] rfl (HC.at (n3)) rfl ⟨rfl, trivial⟩ ?_ | refine CallK.h [(5000, 23)] rfl (HC.at (n3)) rfl rfl ⟨rfl, trivial⟩ rfl rfl ?_ | refine Zy (ACalls.at (dS)) ?_ | refine Zz (ACalls.at (dS)) ?_); conv => whnf) | (refine Zb (fun h => ?_) (fun h => ?_) <;> first | exact Zx | (conv => whnf))))
      all_goals first | (exfalso; omega) | (exfalso; simp_all; done) | skip
      refine ⟨⟨s, g, i3⟩, ⟨hE, by dsimp only; omega, by dsimp only; omega⟩, by dsimp only; omega, ?_, ?_, ?_, ?_⟩
      all_goals exact Yz
  have n3 := next_h L i2 14 (by omega) (by omega) (by omega)
  have b3 := ni_mono L b2.2
  have q3 := nx_rng L i2 (m := 14) (by omega)
  obtain ⟨i3, hi3⟩ : ∃ i3, i3 = ni L i2 := ⟨_, rfl⟩
  rw [← hi3] at n3 b3
  generalize nx L i2 14 = k3' at *
  clear hi3
  by_cases h4 : 1 + k3' = 4
  · (repeat' (first | refine Zs ?_ | refine Zk ?_ | ((first | refine Za ?_ | refine Zr ?_ | refine Zp ?_ | refine Ze ?_ | refine Zd ?_ | refine W.drawP dr5 rfl mixed rfl ?_ | refine Zn ?_ | refine Zc ?_ | refine UnK.mk (fun b hb => ?_) | refine ExCall.h [(5000, 23)] rfl (HC.at (n3)) rfl ⟨rfl, trivial⟩ ?_ | refine CallK.h [(5000, 23)] rfl (HC.at (n3)) rfl rfl ⟨rfl, trivial⟩ rfl rfl ?_); conv => whnf) | (refine Zb (fun h => ?_) (fun h => ?_) <;> first | exact Zx | (conv => whnf))))
    all_goals first | (exfalso; omega) | skip
    refine ⟨⟨s, g, i3⟩, ⟨hE, by dsimp only; omega, by dsimp only; omega⟩, by dsimp only; omega, ?_, ?_, ?_, ?_⟩
    all_goals exact Yz
  have dS := move_t s (s.getD k1'.toNat default).id (1 + k3') (by omega)
  by_cases hz : movE s (s.getD k1'.toNat default).id (1 + k3') = 0
  · rw [hz] at dS
    have hE2 : EstOk (movL s (s.getD k1'.toNat default).id (1 + k3')) cs (g + 2) := ((est_step hE (Step.mov _ _ h4 hz)).1.up (by omega))
    have hT := hE2.stk.len
    have dV := validate_t (movL s (s.getD k1'.toNat default).id (1 + k3')) (by omega)
    rw [stkErr_zero hE2.stk] at dV
    clear hz
    (repeat' (first | refine Zs ?_ | refine Zk ?_ | ((first | refine Za ?_ | refine Zr ?_ | refine Zp ?_ | refine Ze ?_ | refine Zd ?_ | refine W.drawP dr5 rfl mixed rfl ?_ | refine Zn ?_ | refine Zc ?_ | refine UnK.mk (fun b hb => ?_) | refine ExCall.h [(5000, 23)] rfl (HC.at (n3)) rfl ⟨rfl, trivial⟩ ?_ | refine CallK.h [(5000, 23)] rfl (HC.at (n3)) rfl rfl ⟨rfl, trivial⟩ rfl rfl ?_ | refine Zy (ACalls.at (dS)) ?_ | refine Zz (ACalls.at (dS)) ?_); conv => whnf) | (refine Zb (fun h => ?_) (fun h => ?_) <;> first | exact Zx | (conv => whnf))))
    (repeat' (first | refine Zs ?_ | refine Zk ?_ | ((first | refine Za ?_ | refine Zr ?_ | refine Zp ?_ | refine Ze ?_ | refine Zd ?_ | refine W.drawP dr5 rfl mixed rfl ?_ | refine Zn ?_ | refine Zc ?_ | refine UnK.mk (fun b hb => ?_) | refine Zy (ACalls.at (dV)) ?_ | refine Zz (ACalls.at (dV)) ?_); conv => whnf) | (refine Zb (fun h => ?_) (fun h => ?_) <;> first | exact Zx | (conv => whnf))))
    all_goals first | (exfalso; omega) | skip
    refine (W.loopK (ι := Nat) [5, 6, 7] [5, 23] (fun k => [(15, iA k)]) (fun _ => []) (fun k => k ≤ cs.length) (fun k => cs.length - k) 0 (Nat.zero_le _) ?_ ?_ ?_)
    · exact Yz
    · exact Yz
    conv => whnf
    intro k hk
    by_cases hk' : k < cs.length
    · have dC := covers_t (movL s (s.getD k1'.toNat default).id (1 + k3')) (cs.getD k default).m (cs.getD k default).u (by omega)
      rw [decide_eq_true (est_cov hE2 (getD_in hk'))] at dC
      (repeat' (first | refine Zs ?_ | refine Zk ?_ | ((first | refine Za ?_ | refine Zr ?_ | refine Zp ?_ | refine Ze ?_ | refine Zd ?_ | refine W.drawP dr5 rfl mixed rfl ?_ | refine Zn ?_ | refine Zc ?_ | refine UnK.mk (fun b hb => ?_)); conv => whnf) | (refine Zb (fun h => ?_) (fun h => ?_) <;> first | exact Zx | (conv => whnf))))
      all_goals (try dsimp only [Int.toNat_natCast] at *)
      (repeat' (first | refine Zs ?_ | refine Zk ?_ | ((first | refine Za ?_ | refine Zr ?_ | refine Zp ?_ | refine Ze ?_ | refine Zd ?_ | refine W.drawP dr5 rfl mixed rfl ?_ | refine Zn ?_ | refine Zc ?_ | refine UnK.mk (fun b hb => ?_) | refine Zy (ACalls.at (dC)) ?_ | refine Zz (ACalls.at (dC)) ?_); conv => whnf) | (refine Zb (fun h => ?_) (fun h => ?_) <;> first | exact Zx | (conv => whnf))))
      all_goals first | (exfalso; omega) | skip
      refine ⟨k + 1, by omega, by omega, ?_, ?_, ?_, ?_⟩
      all_goals exact Yz
    · obtain rfl : k = cs.length := by omega
      (repeat' (first | refine Zs ?_ | refine Zk ?_ | ((first | refine Za ?_ | refine Zr ?_ | refine Zp ?_ | refine Ze ?_ | refine Zd ?_ | refine W.drawP dr5 rfl mixed rfl ?_ | refine Zn ?_ | refine Zc ?_ | refine UnK.mk (fun b hb => ?_)); conv => whnf) | (refine Zb (fun h => ?_) (fun h => ?_) <;> first | exact Zx | (conv => whnf))))
      all_goals first | (exfalso; omega) | skip
      refine ⟨⟨(movL s (s.getD k1'.toNat default).id (1 + k3')), g + 2, i3⟩, ⟨hE2, by dsimp only; omega, by dsimp only; omega⟩, by dsimp only; omega, ?_, ?_, ?_, ?_⟩
      all_goals exact Yz
  · generalize movE s (s.getD k1'.toNat default).id (1 + k3') = E at hz dS
    (repeat' (first | refine Zs ?_ | refine Zk ?_ | ((first | refine Za ?_ | refine Zr ?_ | refine Zp ?_ | refine Ze ?_ | refine Zd ?_ | refine W.drawP dr5 rfl mixed rfl ?_ | refine Zn ?_ | refine Zc ?_ | refine UnK.mk (fun b hb => ?_) | refine ExCall.h [(5000, 23)] rfl (HC.at (n3)) rfl ⟨rfl, trivial⟩ ?_ | refine CallK.h [(5000, 23)] rfl (HC.at (n3)) rfl rfl ⟨rfl, trivial⟩ rfl rfl ?_ | refine Zy (ACalls.at (dS)) ?_ | refine Zz (ACalls.at (dS)) ?_); conv => whnf) | (refine Zb (fun h => ?_) (fun h => ?_) <;> first | exact Zx | (conv => whnf))))
    all_goals first | (exfalso; omega) | (exfalso; simp_all; done) | skip
    refine ⟨⟨s, g, i3⟩, ⟨hE, by dsimp only; omega, by dsimp only; omega⟩, by dsimp only; omega, ?_, ?_, ?_, ?_⟩
    all_goals exact Yz
end Go.Proofs.YtojkeidijdcfoaaGreatDoor
