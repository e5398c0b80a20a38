/- The law of stocks: Validate, Find, Covers. The law of lots divided. -/
import Derived.Test.YtleknjngglhmaaaGreatCZ
import Derived.Test.YtleknjngglhmaaaGreatB10
import Derived.Test.YtleknjngglhmaaaGreatB13

namespace Go.Proofs.YtleknjngglhmaaaGreat
open Go Go.RowKit
set_option linter.unusedVariables false
set_option linter.unusedSimpArgs false
set_option maxRecDepth 100000
set_option maxHeartbeats 4000000
attribute [local irreducible] ResLe AVle ArgLe ArgP EntLe Dle ResH ArgQ
theorem strEq_self (a : ByteArray) : strEq a a = true := by unfold strEq; simp
theorem rsameLot_t (x : Lt) (hl : x.us.length ≤ 1000000) : ACalls XX 21 [ltA x, ltA x] (bA true) := by
  have h1 := rsame_t x.us hl
  have h2 := strEq_self x.c
  refine ACalls.of (n := Tryz.f21.ntmps) XX_ok Tryz.func21 rfl (by kernel_rfl) rfl rfl (Nat.le_of_ble_eq_true rfl) ?_
  (repeat' (first | refine Zs ?_ | refine Zk ?_ | ((first | refine Za ?_ | refine Zr ?_ | refine Zp ?_ | refine Ze ?_ | refine Zd ?_ | refine Zn ?_ | refine Zc ?_ | refine UnK.mk (fun b hb => ?_) | refine Zy h1 ?_); conv => whnf) | (refine Zb (fun h => ?_) (fun h => ?_) <;> first | exact Zx | (conv => whnf))))
  all_goals first | exact Zrz | (exfalso; simp_all; done) | (exfalso; omega)
theorem rsameStock_t (ss : List Lt) (hl : ss.length ≤ 1000000) (hu : ∀ x ∈ ss, x.us.length ≤ 1000000) : ACalls XX 28 [.dat (ltD ss), .dat (ltD ss)] (bA true) := by
  refine ACalls.of (n := Tryz.f28.ntmps) XX_ok Tryz.func28 rfl (by kernel_rfl) rfl rfl (Nat.le_of_ble_eq_true rfl) ?_
  (repeat' (first | refine Zs ?_ | refine Zk ?_ | ((first | refine Za ?_ | refine Zr ?_ | refine Zp ?_ | refine Ze ?_ | refine Zd ?_ | refine W.drawT dr28 rfl mixed rfl ?_ | refine Zn ?_ | refine Zc ?_ | refine UnK.mk (fun b hb => ?_)); conv => whnf) | (refine Zb (fun h => ?_) (fun h => ?_) <;> first | exact Zx | (conv => whnf))))
  refine (W.loopK (ι := Nat) [0, 1] [] (fun k => [(5, iA k)]) (fun _ => []) (fun k => k ≤ ss.length) (fun k => ss.length - k) 0 (Nat.zero_le _) ⟨AVle.refl _, trivial⟩ trivial ?_)
  conv => whnf
  intro k hk
  by_cases hk' : k < ss.length
  · have h1 := rsameLot_t (ss.getD k default) (hu _ (getD_in hk'))
    (repeat' (first | refine Zs ?_ | refine Zk ?_ | ((first | refine Za ?_ | refine Zr ?_ | refine Zp ?_ | refine Ze ?_ | refine Zd ?_ | refine W.drawT dr28 rfl mixed rfl ?_ | refine Zn ?_ | refine Zc ?_ | refine UnK.mk (fun b hb => ?_)); conv => whnf) | (refine Zb (fun h => ?_) (fun h => ?_) <;> first | exact Zx | (conv => whnf))))
    all_goals (try dsimp only [Int.toNat_natCast] at *)
    (repeat' (first | refine Zs ?_ | refine Zk ?_ | ((first | refine Za ?_ | refine Zr ?_ | refine Zp ?_ | refine Ze ?_ | refine Zd ?_ | refine W.drawT dr28 rfl mixed rfl ?_ | refine Zn ?_ | refine Zc ?_ | refine UnK.mk (fun b hb => ?_) | refine Zy h1 ?_ | refine Zz h1 ?_); conv => whnf) | (refine Zb (fun h => ?_) (fun h => ?_) <;> first | exact Zx | (conv => whnf))))
    refine ⟨k + 1, by omega, by omega, ?_, ?_, ?_, ?_⟩
    all_goals exact Yz
  · (repeat' (first | refine Zs ?_ | refine Zk ?_ | ((first | refine Za ?_ | refine Zr ?_ | refine Zp ?_ | refine Ze ?_ | refine Zd ?_ | refine W.drawT dr28 rfl mixed rfl ?_ | refine Zn ?_ | refine Zc ?_ | refine UnK.mk (fun b hb => ?_)); conv => whnf) | (refine Zb (fun h => ?_) (fun h => ?_) <;> first | exact Zx | (conv => whnf))))
    all_goals exact Zrz

end Go.Proofs.YtleknjngglhmaaaGreat

namespace Go.Proofs.YtleknjngglhmaaaGreat
open Go Go.RowKit
set_option linter.unusedVariables false
set_option linter.unusedSimpArgs false
set_option maxRecDepth 100000
set_option maxHeartbeats 4000000
attribute [local irreducible] ResLe AVle ArgLe ArgP EntLe Dle ResH ArgQ

/-- How many slices the first lots have, as the law counts them. -/
def nW (ss : List Lt) : Nat → Int
  | 0 => 0
  | k + 1 => IntKind.i64.wrap (nW ss k + ((ss.getD k default).us.length : Int))
def lightW (ss : List Lt) : Prop := ∀ i, i < ss.length → i < 80 ∧ nW ss (i + 1) ≤ 300
noncomputable instance (ss : List Lt) : Decidable (lightW ss) := Classical.propDecidable _
theorem lightW_len {ss : List Lt} (h : lightW ss) : ss.length ≤ 80 := by
  rcases Nat.lt_or_ge 80 ss.length with h1 | h1
  · have := (h 80 h1).1; omega
  · exact h1
theorem lightW_t (ss : List Lt) (hL : ss.length ≤ 9223372036854775807) : ACalls XX 18 [.dat (ltD ss)] (bA (decide (lightW ss))) := by
  refine ACalls.of (n := Tryz.f18.ntmps) XX_ok Tryz.func18 rfl (by kernel_rfl) rfl rfl (Nat.le_of_ble_eq_true rfl) ?_
  (repeat' (first | refine Zs ?_ | refine Zk ?_ | ((first | refine Za ?_ | refine Zr ?_ | refine Zp ?_ | refine Ze ?_ | refine Zd ?_ | refine Zn ?_ | refine Zc ?_ | refine UnK.mk (fun b hb => ?_)); conv => whnf) | (refine Zb (fun h => ?_) (fun h => ?_) <;> first | exact Zx | (conv => whnf))))
  refine (W.loopK (ι := Nat) [0] [] (fun k => [(4, iA k), (3, iA (nW ss k))]) (fun _ => []) (fun k => k ≤ ss.length ∧ ∀ i, i < k → i < 80 ∧ nW ss (i + 1) ≤ 300) (fun k => ss.length - k) 0 ⟨Nat.zero_le _, fun i hi => absurd hi (by omega)⟩ ?_ ?_ ?_)
  · exact Yz
  · exact Yz
  conv => whnf
  intro k ⟨hk, hz⟩
  by_cases hk' : k < ss.length
  · by_cases hok : k < 80 ∧ nW ss (k + 1) ≤ 300
    · (repeat' (first | refine Zs ?_ | refine Zk ?_ | ((first | refine Za ?_ | refine Zr ?_ | refine Zp ?_ | refine Ze ?_ | refine Zd ?_ | refine Zn ?_ | refine Zc ?_ | refine UnK.mk (fun b hb => ?_)); conv => whnf) | (refine Zb (fun h => ?_) (fun h => ?_) <;> first | exact Zx | (conv => whnf))))
      refine NumK.as (nW ss (k + 1)) rfl ?_
      conv => whnf
      (repeat' (first | refine Zs ?_ | refine Zk ?_ | ((first | refine Za ?_ | refine Zr ?_ | refine Zp ?_ | refine Ze ?_ | refine Zd ?_ | refine Zn ?_ | refine Zc ?_ | refine UnK.mk (fun b hb => ?_)); conv => whnf) | (refine Zb (fun h => ?_) (fun h => ?_) <;> first | exact Zx | (conv => whnf))))
      all_goals first | (exfalso; omega) | skip
      refine ⟨k + 1, ⟨by omega, fun i hi => ?_⟩, by omega, ?_, ?_, ?_, ?_⟩
      · by_cases hik : i = k
        · subst hik; exact hok
        · exact hz i (by omega)
      all_goals exact Yz
    · have hn : ¬ lightW ss := fun h => hok (h k hk')
      (repeat' (first | refine Zs ?_ | refine Zk ?_ | ((first | refine Za ?_ | refine Zr ?_ | refine Zp ?_ | refine Ze ?_ | refine Zd ?_ | refine Zn ?_ | refine Zc ?_ | refine UnK.mk (fun b hb => ?_)); conv => whnf) | (refine Zb (fun h => ?_) (fun h => ?_) <;> first | exact Zx | (conv => whnf))))
      refine NumK.as (nW ss (k + 1)) rfl ?_
      conv => whnf
      (repeat' (first | refine Zs ?_ | refine Zk ?_ | ((first | refine Za ?_ | refine Zr ?_ | refine Zp ?_ | refine Ze ?_ | refine Zd ?_ | refine Zn ?_ | refine Zc ?_ | refine UnK.mk (fun b hb => ?_)); conv => whnf) | (refine Zb (fun h => ?_) (fun h => ?_) <;> first | exact Zx | (conv => whnf))))
      all_goals first | ((repeat' (first | exact trivial | exact Zm | exact Zl | exact ResLe.row0 rfl | exact Zi (by exact hn) | exact Zo (h := by exact hn) | exact ResLe.bo rfl rfl Iff.rfl | refine ResLe.agg ?_ | refine And.intro ?_ ?_ | ((conv => whnf); first | exact Zl | exact ResLe.row0 rfl | exact Zi (by exact hn) | exact Zo (h := by exact hn) | exact ResLe.bo rfl rfl Iff.rfl | refine ResLe.agg ?_ | refine And.intro ?_ ?_))); done) | (exfalso; omega)
  · have hn : lightW ss := fun i hi => hz i (by omega)
    (repeat' (first | refine Zs ?_ | refine Zk ?_ | ((first | refine Za ?_ | refine Zr ?_ | refine Zp ?_ | refine Ze ?_ | refine Zd ?_ | refine Zn ?_ | refine Zc ?_ | refine UnK.mk (fun b hb => ?_)); conv => whnf) | (refine Zb (fun h => ?_) (fun h => ?_) <;> first | exact Zx | (conv => whnf))))
    all_goals (repeat' (first | exact trivial | exact Zm | exact Zl | exact ResLe.row0 rfl | exact Zi (by exact hn) | exact Zo (h := by exact hn) | exact ResLe.bo rfl rfl Iff.rfl | refine ResLe.agg ?_ | refine And.intro ?_ ?_ | ((conv => whnf); first | exact Zl | exact ResLe.row0 rfl | exact Zi (by exact hn) | exact Zo (h := by exact hn) | exact ResLe.bo rfl rfl Iff.rfl | refine ResLe.agg ?_ | refine And.intro ?_ ?_)))
theorem splL_len (ss : List Lt) (id : Int) (ps : List Pt) (m : Int) : (splL ss id ps m).length ≤ 64 ∧ ∀ x ∈ splL ss id ps m, x.us.length ≤ 64 := by
  by_cases h : splE ss id ps m = 0
  · have := (spl_stk h).1
    exact ⟨this.len, this.us⟩
  · unfold splL
    rw [if_neg h]
    simp
theorem three_pts (p q r : Pt) : AVle (.dat (.lst 2 3 fun i j => pickF (tabB 3 2) [.val (.int .i64 p.id), .val (.int .i64 p.q), .val (.int .i64 q.id), .val (.int .i64 q.q), .val (.int .i64 r.id), .val (.int .i64 r.q)] (i * 2 + j))) (.dat (ptD [p, q, r])) := AVle.dat (Dle.lst rfl fun i hi j hj => by
  rcases i with _ | _ | _ | i
  · rcases j with _ | _ | j
    all_goals first | exact Dle.refl _ | omega
  · rcases j with _ | _ | j
    all_goals first | exact Dle.refl _ | omega
  · rcases j with _ | _ | j
    all_goals first | exact Dle.refl _ | omega
  · omega)
theorem lawSplit_t (x0 : List Int) (sr : List Lt) (pr : List Pt) (a3 a4 a5 a6 a7 : Int) (k0 : x0.length ≤ 9223372036854775807) (k1 : sr.length ≤ 9223372036854775807) (k2 : ∀ x ∈ sr, x.c.size ≤ 9223372036854775807) (kp : pr.length ≤ 9223372036854775807) : ACalls XX 5 [.dat (ilst x0), .dat (ltD sr), .dat (ptD pr), iA a3, iA a4, iA a5, iA a6, iA a7] (bA true) := by
  have hQ := l25awake_t
  by_cases c1 : andI IntKind.i64 a7 1 = 0
  rotate_left
  · have hx2 := k2
    have d0 := lightW_t sr (by omega)
    have hC : ∀ x ∈ sr, x.c.size ≤ 9223372036854775807 := fun x hx => by have := hx2 x hx; omega
    by_cases hl : lightW sr
    · have l1 := lightW_len hl
      rw [decide_eq_true hl] at d0
      have d1 := (split_t sr a3 pr a4 (by omega) (by first | omega | simp) (fun h => divAny h)).args4 (AVle.refl _) (AVle.refl _) (AVle.refl _) (AVle.refl _)
      have d2 := (rsplit_t sr a3 pr a4 (by omega) hC (by first | omega | simp)).args4 (AVle.refl _) (AVle.refl _) (AVle.refl _) (AVle.refl _)
      obtain ⟨e1, e2⟩ := splL_len sr a3 pr a4
      have d3 := rsameStock_t (splL sr a3 pr a4) (by omega) (fun x hx => by have := e2 x hx; omega)
      refine ACalls.of (n := Tryz.f5.ntmps) XX_ok Tryz.func5 rfl (by kernel_rfl) rfl rfl (Nat.le_of_ble_eq_true rfl) ?_
      refine W.pb [70, 94] ?_
      (repeat' (first | refine Zs ?_ | refine Zk ?_ | ((first | refine Za ?_ | refine Zr ?_ | refine Zp ?_ | refine Ze ?_ | refine Zd ?_ | refine W.drawP dr5 rfl mixed rfl ?_ | refine Zn ?_ | refine Zc ?_ | refine UnK.mk (fun b hb => ?_) | refine Zy (ACalls.at (kM)) ?_ | refine Zz (ACalls.at (kM)) ?_ | refine Zy (ACalls.at (w1)) ?_ | refine Zz (ACalls.at (w1)) ?_ | refine Zy (ACalls.at (w2)) ?_ | refine Zz (ACalls.at (w2)) ?_ | refine Zy (ACalls.at (w3)) ?_ | refine Zz (ACalls.at (w3)) ?_ | refine Zy (ACalls.at (w4)) ?_ | refine Zz (ACalls.at (w4)) ?_ | refine Zy (ACalls.at (d0)) ?_ | refine Zz (ACalls.at (d0)) ?_ | refine Zy (ACalls.at (d1)) ?_ | refine Zz (ACalls.at (d1)) ?_ | refine Zy (ACalls.at (d2)) ?_ | refine Zz (ACalls.at (d2)) ?_ | refine Zy (ACalls.at (d3)) ?_ | refine Zz (ACalls.at (d3)) ?_ | refine Zy (ACalls.at (hQ)) ?_ | refine Zz (ACalls.at (hQ)) ?_); conv => whnf) | (refine Zb (fun h => ?_) (fun h => ?_) <;> first | exact Zx | (conv => whnf))))
      all_goals first | exact Zrz | (exfalso; omega) | (exfalso; simp_all; done)
    · rw [decide_eq_false hl] at d0
      refine ACalls.of (n := Tryz.f5.ntmps) XX_ok Tryz.func5 rfl (by kernel_rfl) rfl rfl (Nat.le_of_ble_eq_true rfl) ?_
      refine W.pb [70, 94] ?_
      (repeat' (first | refine Zs ?_ | refine Zk ?_ | ((first | refine Za ?_ | refine Zr ?_ | refine Zp ?_ | refine Ze ?_ | refine Zd ?_ | refine W.drawP dr5 rfl mixed rfl ?_ | refine Zn ?_ | refine Zc ?_ | refine UnK.mk (fun b hb => ?_) | refine Zy (ACalls.at (kM)) ?_ | refine Zz (ACalls.at (kM)) ?_ | refine Zy (ACalls.at (w1)) ?_ | refine Zz (ACalls.at (w1)) ?_ | refine Zy (ACalls.at (w2)) ?_ | refine Zz (ACalls.at (w2)) ?_ | refine Zy (ACalls.at (w3)) ?_ | refine Zz (ACalls.at (w3)) ?_ | refine Zy (ACalls.at (w4)) ?_ | refine Zz (ACalls.at (w4)) ?_ | refine Zy (ACalls.at (d0)) ?_ | refine Zz (ACalls.at (d0)) ?_ | refine Zy (ACalls.at (hQ)) ?_ | refine Zz (ACalls.at (hQ)) ?_); conv => whnf) | (refine Zb (fun h => ?_) (fun h => ?_) <;> first | exact Zx | (conv => whnf))))
      all_goals first | exact Zrz | (exfalso; omega)
  obtain ⟨n, ss, cs, f, hn, hA, kM⟩ := make_ex x0 k0
  obtain ⟨hE, hf, hcl⟩ := acts_est hA
  have hf1 := hE.f
  have hlen := hE.stk.len
  have hx2 : ∀ x ∈ ss, x.c.size ≤ 9223372036854775807 := fun x hx => by
    have h1 := (hE.stk.ok x hx).2.1.1
    omega
  by_cases c2 : 0 < ss.length ∧ andI IntKind.i64 a7 2 = 0
  rotate_left
  · have d0 := lightW_t ss (by omega)
    have hC : ∀ x ∈ ss, x.c.size ≤ 9223372036854775807 := fun x hx => by have := hx2 x hx; omega
    by_cases hl : lightW ss
    · have l1 := lightW_len hl
      rw [decide_eq_true hl] at d0
      have d1 := (split_t ss a3 pr a4 (by omega) (by first | omega | simp) (fun h => divAny h)).args4 (AVle.refl _) (AVle.refl _) (AVle.refl _) (AVle.refl _)
      have d2 := (rsplit_t ss a3 pr a4 (by omega) hC (by first | omega | simp)).args4 (AVle.refl _) (AVle.refl _) (AVle.refl _) (AVle.refl _)
      obtain ⟨e1, e2⟩ := splL_len ss a3 pr a4
      have d3 := rsameStock_t (splL ss a3 pr a4) (by omega) (fun x hx => by have := e2 x hx; omega)
      refine ACalls.of (n := Tryz.f5.ntmps) XX_ok Tryz.func5 rfl (by kernel_rfl) rfl rfl (Nat.le_of_ble_eq_true rfl) ?_
      refine W.pb [70, 94] ?_
      (repeat' (first | refine Zs ?_ | refine Zk ?_ | ((first | refine Za ?_ | refine Zr ?_ | refine Zp ?_ | refine Ze ?_ | refine Zd ?_ | refine W.drawP dr5 rfl mixed rfl ?_ | refine Zn ?_ | refine Zc ?_ | refine UnK.mk (fun b hb => ?_) | refine Zy (ACalls.at (kM)) ?_ | refine Zz (ACalls.at (kM)) ?_ | refine Zy (ACalls.at (w1)) ?_ | refine Zz (ACalls.at (w1)) ?_ | refine Zy (ACalls.at (w2)) ?_ | refine Zz (ACalls.at (w2)) ?_ | refine Zy (ACalls.at (w3)) ?_ | refine Zz (ACalls.at (w3)) ?_ | refine Zy (ACalls.at (w4)) ?_ | refine Zz (ACalls.at (w4)) ?_ | refine Zy (ACalls.at (d0)) ?_ | refine Zz (ACalls.at (d0)) ?_ | refine Zy (ACalls.at (d1)) ?_ | refine Zz (ACalls.at (d1)) ?_ | refine Zy (ACalls.at (d2)) ?_ | refine Zz (ACalls.at (d2)) ?_ | refine Zy (ACalls.at (d3)) ?_ | refine Zz (ACalls.at (d3)) ?_ | refine Zy (ACalls.at (hQ)) ?_ | refine Zz (ACalls.at (hQ)) ?_); conv => whnf) | (refine Zb (fun h => ?_) (fun h => ?_) <;> first | exact Zx | (conv => whnf))))
      all_goals first | exact Zrz | (exfalso; omega) | (exfalso; simp_all; done)
    · rw [decide_eq_false hl] at d0
      refine ACalls.of (n := Tryz.f5.ntmps) XX_ok Tryz.func5 rfl (by kernel_rfl) rfl rfl (Nat.le_of_ble_eq_true rfl) ?_
      refine W.pb [70, 94] ?_
      (repeat' (first | refine Zs ?_ | refine Zk ?_ | ((first | refine Za ?_ | refine Zr ?_ | refine Zp ?_ | refine Ze ?_ | refine Zd ?_ | refine W.drawP dr5 rfl mixed rfl ?_ | refine Zn ?_ | refine Zc ?_ | refine UnK.mk (fun b hb => ?_) | refine Zy (ACalls.at (kM)) ?_ | refine Zz (ACalls.at (kM)) ?_ | refine Zy (ACalls.at (w1)) ?_ | refine Zz (ACalls.at (w1)) ?_ | refine Zy (ACalls.at (w2)) ?_ | refine Zz (ACalls.at (w2)) ?_ | refine Zy (ACalls.at (w3)) ?_ | refine Zz (ACalls.at (w3)) ?_ | refine Zy (ACalls.at (w4)) ?_ | refine Zz (ACalls.at (w4)) ?_ | refine Zy (ACalls.at (d0)) ?_ | refine Zz (ACalls.at (d0)) ?_ | refine Zy (ACalls.at (hQ)) ?_ | refine Zz (ACalls.at (hQ)) ?_); conv => whnf) | (refine Zb (fun h => ?_) (fun h => ?_) <;> first | exact Zx | (conv => whnf))))
      all_goals first | exact Zrz | (exfalso; omega)
  obtain ⟨c2, c3⟩ := c2
  have w1 := within_t a3 ss.length (by omega) (by omega)
  have r1 := Int.emod_nonneg a3 (show (ss.length : Int) ≠ 0 by omega)
  have r1' := Int.emod_lt_of_pos a3 (show (0 : Int) < ss.length by omega)
  have hyq := (hE.stk.ok _ (getD_in (show (a3 % ss.length).toNat < ss.length by omega))).2.2.1
  unfold qOk at hyq
  have w2 := within_t a4 5 (by omega) (by omega)
  have w3 := within_t a5 ((ss.getD (a3 % ss.length).toNat default).q + 1) (by omega) (by omega)
  have r3 := Int.emod_nonneg a5 (show (ss.getD (a3 % ss.length).toNat default).q + 1 ≠ 0 by omega)
  have r3' := Int.emod_lt_of_pos a5 (show 0 < (ss.getD (a3 % ss.length).toNat default).q + 1 by omega)
  have w4 := within_t a6 3 (by omega) (by omega)
  generalize hY : ss.getD (a3 % ss.length).toNat default = y at *
  by_cases c4 : a6 % 3 = 1 ∧ 2 ≤ a5 % (y.q + 1)
  · subst hY
    have d0 := lightW_t ss (by omega)
    have hC : ∀ x ∈ ss, x.c.size ≤ 9223372036854775807 := fun x hx => by have := hx2 x hx; omega
    by_cases hl : lightW ss
    · have l1 := lightW_len hl
      rw [decide_eq_true hl] at d0
      have d1 := (split_t ss (ss.getD (a3 % ss.length).toNat default).id [⟨f + 2, 1⟩, ⟨f, (ss.getD (a3 % ss.length).toNat default).q - a5 % ((ss.getD (a3 % ss.length).toNat default).q + 1)⟩, ⟨f + 1, a5 % ((ss.getD (a3 % ss.length).toNat default).q + 1) - 1⟩] (a4 % 5) (by omega) (by first | omega | simp) (fun h => divAny h)).args4 (AVle.refl _) (AVle.refl _) (three_pts _ _ _) (AVle.refl _)
      have d2 := (rsplit_t ss (ss.getD (a3 % ss.length).toNat default).id [⟨f + 2, 1⟩, ⟨f, (ss.getD (a3 % ss.length).toNat default).q - a5 % ((ss.getD (a3 % ss.length).toNat default).q + 1)⟩, ⟨f + 1, a5 % ((ss.getD (a3 % ss.length).toNat default).q + 1) - 1⟩] (a4 % 5) (by omega) hC (by first | omega | simp)).args4 (AVle.refl _) (AVle.refl _) (three_pts _ _ _) (AVle.refl _)
      obtain ⟨e1, e2⟩ := splL_len ss (ss.getD (a3 % ss.length).toNat default).id [⟨f + 2, 1⟩, ⟨f, (ss.getD (a3 % ss.length).toNat default).q - a5 % ((ss.getD (a3 % ss.length).toNat default).q + 1)⟩, ⟨f + 1, a5 % ((ss.getD (a3 % ss.length).toNat default).q + 1) - 1⟩] (a4 % 5)
      have d3 := rsameStock_t (splL ss (ss.getD (a3 % ss.length).toNat default).id [⟨f + 2, 1⟩, ⟨f, (ss.getD (a3 % ss.length).toNat default).q - a5 % ((ss.getD (a3 % ss.length).toNat default).q + 1)⟩, ⟨f + 1, a5 % ((ss.getD (a3 % ss.length).toNat default).q + 1) - 1⟩] (a4 % 5)) (by omega) (fun x hx => by have := e2 x hx; omega)
      refine ACalls.of (n := Tryz.f5.ntmps) XX_ok Tryz.func5 rfl (by kernel_rfl) rfl rfl (Nat.le_of_ble_eq_true rfl) ?_
      refine W.pb [70, 94] ?_
      (repeat' (first | refine Zs ?_ | refine Zk ?_ | ((first | refine Za ?_ | refine Zr ?_ | refine Zp ?_ | refine Ze ?_ | refine Zd ?_ | refine W.drawP dr5 rfl mixed rfl ?_ | refine Zn ?_ | refine Zc ?_ | refine UnK.mk (fun b hb => ?_) | refine Zy (ACalls.at (kM)) ?_ | refine Zz (ACalls.at (kM)) ?_ | refine Zy (ACalls.at (w1)) ?_ | refine Zz (ACalls.at (w1)) ?_ | refine Zy (ACalls.at (w2)) ?_ | refine Zz (ACalls.at (w2)) ?_ | refine Zy (ACalls.at (w3)) ?_ | refine Zz (ACalls.at (w3)) ?_ | refine Zy (ACalls.at (w4)) ?_ | refine Zz (ACalls.at (w4)) ?_ | refine Zy (ACalls.at (d0)) ?_ | refine Zz (ACalls.at (d0)) ?_ | refine Zy (ACalls.at (d1)) ?_ | refine Zz (ACalls.at (d1)) ?_ | refine Zy (ACalls.at (d2)) ?_ | refine Zz (ACalls.at (d2)) ?_ | refine Zy (ACalls.at (d3)) ?_ | refine Zz (ACalls.at (d3)) ?_ | refine Zy (ACalls.at (hQ)) ?_ | refine Zz (ACalls.at (hQ)) ?_); conv => whnf) | (refine Zb (fun h => ?_) (fun h => ?_) <;> first | exact Zx | (conv => whnf))))
      all_goals first | exact Zrz | (exfalso; omega) | (exfalso; simp_all; done)
    · rw [decide_eq_false hl] at d0
      refine ACalls.of (n := Tryz.f5.ntmps) XX_ok Tryz.func5 rfl (by kernel_rfl) rfl rfl (Nat.le_of_ble_eq_true rfl) ?_
      refine W.pb [70, 94] ?_
      (repeat' (first | refine Zs ?_ | refine Zk ?_ | ((first | refine Za ?_ | refine Zr ?_ | refine Zp ?_ | refine Ze ?_ | refine Zd ?_ | refine W.drawP dr5 rfl mixed rfl ?_ | refine Zn ?_ | refine Zc ?_ | refine UnK.mk (fun b hb => ?_) | refine Zy (ACalls.at (kM)) ?_ | refine Zz (ACalls.at (kM)) ?_ | refine Zy (ACalls.at (w1)) ?_ | refine Zz (ACalls.at (w1)) ?_ | refine Zy (ACalls.at (w2)) ?_ | refine Zz (ACalls.at (w2)) ?_ | refine Zy (ACalls.at (w3)) ?_ | refine Zz (ACalls.at (w3)) ?_ | refine Zy (ACalls.at (w4)) ?_ | refine Zz (ACalls.at (w4)) ?_ | refine Zy (ACalls.at (d0)) ?_ | refine Zz (ACalls.at (d0)) ?_ | refine Zy (ACalls.at (hQ)) ?_ | refine Zz (ACalls.at (hQ)) ?_); conv => whnf) | (refine Zb (fun h => ?_) (fun h => ?_) <;> first | exact Zx | (conv => whnf))))
      all_goals first | exact Zrz | (exfalso; omega)
  · subst hY
    have d0 := lightW_t ss (by omega)
    have hC : ∀ x ∈ ss, x.c.size ≤ 9223372036854775807 := fun x hx => by have := hx2 x hx; omega
    by_cases hl : lightW ss
    · have l1 := lightW_len hl
      rw [decide_eq_true hl] at d0
      have d1 := (split_t ss (ss.getD (a3 % ss.length).toNat default).id [⟨f, a5 % ((ss.getD (a3 % ss.length).toNat default).q + 1)⟩, ⟨f + 1, (ss.getD (a3 % ss.length).toNat default).q - a5 % ((ss.getD (a3 % ss.length).toNat default).q + 1)⟩] (a4 % 5) (by omega) (by first | omega | simp) (fun h => divAny h)).args4 (AVle.refl _) (AVle.refl _) (two_pts _ _) (AVle.refl _)
      have d2 := (rsplit_t ss (ss.getD (a3 % ss.length).toNat default).id [⟨f, a5 % ((ss.getD (a3 % ss.length).toNat default).q + 1)⟩, ⟨f + 1, (ss.getD (a3 % ss.length).toNat default).q - a5 % ((ss.getD (a3 % ss.length).toNat default).q + 1)⟩] (a4 % 5) (by omega) hC (by first | omega | simp)).args4 (AVle.refl _) (AVle.refl _) (two_pts _ _) (AVle.refl _)
      obtain ⟨e1, e2⟩ := splL_len ss (ss.getD (a3 % ss.length).toNat default).id [⟨f, a5 % ((ss.getD (a3 % ss.length).toNat default).q + 1)⟩, ⟨f + 1, (ss.getD (a3 % ss.length).toNat default).q - a5 % ((ss.getD (a3 % ss.length).toNat default).q + 1)⟩] (a4 % 5)
      have d3 := rsameStock_t (splL ss (ss.getD (a3 % ss.length).toNat default).id [⟨f, a5 % ((ss.getD (a3 % ss.length).toNat default).q + 1)⟩, ⟨f + 1, (ss.getD (a3 % ss.length).toNat default).q - a5 % ((ss.getD (a3 % ss.length).toNat default).q + 1)⟩] (a4 % 5)) (by omega) (fun x hx => by have := e2 x hx; omega)
      refine ACalls.of (n := Tryz.f5.ntmps) XX_ok Tryz.func5 rfl (by kernel_rfl) rfl rfl (Nat.le_of_ble_eq_true rfl) ?_
      refine W.pb [70, 94] ?_
      (repeat' (first | refine Zs ?_ | refine Zk ?_ | ((first | refine Za ?_ | refine Zr ?_ | refine Zp ?_ | refine Ze ?_ | refine Zd ?_ | refine W.drawP dr5 rfl mixed rfl ?_ | refine Zn ?_ | refine Zc ?_ | refine UnK.mk (fun b hb => ?_) | refine Zy (ACalls.at (kM)) ?_ | refine Zz (ACalls.at (kM)) ?_ | refine Zy (ACalls.at (w1)) ?_ | refine Zz (ACalls.at (w1)) ?_ | refine Zy (ACalls.at (w2)) ?_ | refine Zz (ACalls.at (w2)) ?_ | refine Zy (ACalls.at (w3)) ?_ | refine Zz (ACalls.at (w3)) ?_ | refine Zy (ACalls.at (w4)) ?_ | refine Zz (ACalls.at (w4)) ?_ | refine Zy (ACalls.at (d0)) ?_ | refine Zz (ACalls.at (d0)) ?_ | refine Zy (ACalls.at (d1)) ?_ | refine Zz (ACalls.at (d1)) ?_ | refine Zy (ACalls.at (d2)) ?_ | refine Zz (ACalls.at (d2)) ?_ | refine Zy (ACalls.at (d3)) ?_ | refine Zz (ACalls.at (d3)) ?_ | refine Zy (ACalls.at (hQ)) ?_ | refine Zz (ACalls.at (hQ)) ?_); conv => whnf) | (refine Zb (fun h => ?_) (fun h => ?_) <;> first | exact Zx | (conv => whnf))))
      all_goals first | exact Zrz | (exfalso; omega) | (exfalso; simp_all; done)
    · rw [decide_eq_false hl] at d0
      refine ACalls.of (n := Tryz.f5.ntmps) XX_ok Tryz.func5 rfl (by kernel_rfl) rfl rfl (Nat.le_of_ble_eq_true rfl) ?_
      refine W.pb [70, 94] ?_
      (repeat' (first | refine Zs ?_ | refine Zk ?_ | ((first | refine Za ?_ | refine Zr ?_ | refine Zp ?_ | refine Ze ?_ | refine Zd ?_ | refine W.drawP dr5 rfl mixed rfl ?_ | refine Zn ?_ | refine Zc ?_ | refine UnK.mk (fun b hb => ?_) | refine Zy (ACalls.at (kM)) ?_ | refine Zz (ACalls.at (kM)) ?_ | refine Zy (ACalls.at (w1)) ?_ | refine Zz (ACalls.at (w1)) ?_ | refine Zy (ACalls.at (w2)) ?_ | refine Zz (ACalls.at (w2)) ?_ | refine Zy (ACalls.at (w3)) ?_ | refine Zz (ACalls.at (w3)) ?_ | refine Zy (ACalls.at (w4)) ?_ | refine Zz (ACalls.at (w4)) ?_ | refine Zy (ACalls.at (d0)) ?_ | refine Zz (ACalls.at (d0)) ?_ | refine Zy (ACalls.at (hQ)) ?_ | refine Zz (ACalls.at (hQ)) ?_); conv => whnf) | (refine Zb (fun h => ?_) (fun h => ?_) <;> first | exact Zx | (conv => whnf))))
      all_goals first | exact Zrz | (exfalso; omega)

end Go.Proofs.YtleknjngglhmaaaGreat
