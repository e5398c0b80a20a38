/- The law of lots united. -/
import Derived.Test.YtleknjngglhmaaaGreatLY
namespace Go.Proofs.YtleknjngglhmaaaGreat
open Go Go.RowKit
set_option linter.unusedVariables false
set_option linter.unusedSimpArgs false
set_option maxRecDepth 100000
set_option maxHeartbeats 4000000
attribute [local irreducible] ResLe AVle ArgLe ArgP EntLe Dle ResH ArgQ

def pickI (ss : List Lt) (v : Int) : Int := (ss.getD (v % ss.length).toNat default).id
def someI (ss : List Lt) (l : List Int) (k : Nat) : List Int := (l.take k).map (pickI ss)
theorem someI_succ (ss : List Lt) (l : List Int) (k : Nat) (h : k < l.length) : someI ss l (k + 1) = someI ss l k ++ [pickI ss (l.getD k default)] := by
  unfold someI
  rw [take_snoc l k h, List.map_append]
  rfl
theorem someI_len (ss : List Lt) (l : List Int) (k : Nat) (h : k ≤ l.length) : (someI ss l k).length = k := by simp [someI]; omega
theorem lawMerge_t (x0 : List Int) (sr : List Lt) (l2 : List Int) (a3 a4 : Int) (k0 : x0.length ≤ 9223372036854775807) (k1 : sr.length ≤ 9223372036854775807) (k2 : ∀ x ∈ sr, x.c.size ≤ 9223372036854775807) (kl : l2.length ≤ 9223372036854775807) : ACalls XX 7 [.dat (ilst x0), .dat (ltD sr), .dat (iD l2), iA a3, iA a4] (bA true) := by
  have hQ := l25awake_t
  by_cases c1 : andI IntKind.i64 a4 1 = 0
  rotate_left
  · have hx2 := k2
    have d0 := lightW_t sr (by omega)
    have hC : ∀ x ∈ sr, x.c.size ≤ 9223372036854775807 := fun x hx => by have := hx2 x hx; omega
    have d1 := merge_t sr l2 a3 (by omega) (by first | omega | (rw [hjl]; omega))
    have d2 := rmerge_t sr l2 a3 (by omega) hC (by first | omega | (rw [hjl]; omega))
    obtain ⟨e1, e2⟩ := merL_len sr l2 a3
    have d3 := rsameStock_t (merL sr l2 a3) (by omega) (fun x hx => by have := e2 x hx; omega)
    by_cases hl : lightW sr
    · have l1 := lightW_len hl
      rw [decide_eq_true hl] at d0
      refine ACalls.of (n := Tryz.f7.ntmps) XX_ok Tryz.func7 rfl (by kernel_rfl) rfl rfl (Nat.le_of_ble_eq_true rfl) ?_
      (repeat' (first | refine Zs ?_ | refine Zk ?_ | ((first | refine Za ?_ | refine Zr ?_ | refine Zp ?_ | refine Ze ?_ | refine Zd ?_ | refine W.drawT dr7 rfl mixed rfl ?_ | refine Zn ?_ | refine Zc ?_ | refine UnK.mk (fun b hb => ?_) | refine Zy kM ?_ | refine Zz kM ?_ | refine Zy d0 ?_ | refine Zz d0 ?_ | refine Zy d1 ?_ | refine Zz d1 ?_ | refine Zy d2 ?_ | refine Zz d2 ?_ | refine Zy d3 ?_ | refine Zz d3 ?_ | refine Zy hQ ?_ | refine Zz hQ ?_); conv => whnf) | (refine Zb (fun h => ?_) (fun h => ?_) <;> first | exact Zx | (conv => whnf))))
      all_goals first | exact Zrz | (exfalso; omega) | (exfalso; simp_all; done)
    · rw [decide_eq_false hl] at d0
      refine ACalls.of (n := Tryz.f7.ntmps) XX_ok Tryz.func7 rfl (by kernel_rfl) rfl rfl (Nat.le_of_ble_eq_true rfl) ?_
      (repeat' (first | refine Zs ?_ | refine Zk ?_ | ((first | refine Za ?_ | refine Zr ?_ | refine Zp ?_ | refine Ze ?_ | refine Zd ?_ | refine W.drawT dr7 rfl mixed rfl ?_ | refine Zn ?_ | refine Zc ?_ | refine UnK.mk (fun b hb => ?_) | refine Zy kM ?_ | refine Zz kM ?_ | refine Zy d0 ?_ | refine Zz d0 ?_ | refine Zy hQ ?_ | refine Zz hQ ?_); conv => whnf) | (refine Zb (fun h => ?_) (fun h => ?_) <;> first | exact Zx | (conv => whnf))))
      all_goals first | exact Zrz | (exfalso; omega)
  obtain ⟨n, ss, cs, f, hn, hA, kM⟩ := make_ex x0 k0
  obtain ⟨hE, hf, hcl⟩ := acts_est hA
  have hf1 := hE.f
  have hlen := hE.stk.len
  have hx2 : ∀ x ∈ ss, x.c.size ≤ 9223372036854775807 := fun x hx => by
    have h1 := (hE.stk.ok x hx).2.1.1
    omega
  by_cases c2 : 0 < ss.length ∧ andI IntKind.i64 a4 2 = 0
  rotate_left
  · have d0 := lightW_t ss (by omega)
    have hC : ∀ x ∈ ss, x.c.size ≤ 9223372036854775807 := fun x hx => by have := hx2 x hx; omega
    have d1 := merge_t ss l2 a3 (by omega) (by first | omega | (rw [hjl]; omega))
    have d2 := rmerge_t ss l2 a3 (by omega) hC (by first | omega | (rw [hjl]; omega))
    obtain ⟨e1, e2⟩ := merL_len ss l2 a3
    have d3 := rsameStock_t (merL ss l2 a3) (by omega) (fun x hx => by have := e2 x hx; omega)
    by_cases hl : lightW ss
    · have l1 := lightW_len hl
      rw [decide_eq_true hl] at d0
      refine ACalls.of (n := Tryz.f7.ntmps) XX_ok Tryz.func7 rfl (by kernel_rfl) rfl rfl (Nat.le_of_ble_eq_true rfl) ?_
      (repeat' (first | refine Zs ?_ | refine Zk ?_ | ((first | refine Za ?_ | refine Zr ?_ | refine Zp ?_ | refine Ze ?_ | refine Zd ?_ | refine W.drawT dr7 rfl mixed rfl ?_ | refine Zn ?_ | refine Zc ?_ | refine UnK.mk (fun b hb => ?_) | refine Zy kM ?_ | refine Zz kM ?_ | refine Zy d0 ?_ | refine Zz d0 ?_ | refine Zy d1 ?_ | refine Zz d1 ?_ | refine Zy d2 ?_ | refine Zz d2 ?_ | refine Zy d3 ?_ | refine Zz d3 ?_ | refine Zy hQ ?_ | refine Zz hQ ?_); conv => whnf) | (refine Zb (fun h => ?_) (fun h => ?_) <;> first | exact Zx | (conv => whnf))))
      all_goals first | exact Zrz | (exfalso; omega) | (exfalso; simp_all; done)
    · rw [decide_eq_false hl] at d0
      refine ACalls.of (n := Tryz.f7.ntmps) XX_ok Tryz.func7 rfl (by kernel_rfl) rfl rfl (Nat.le_of_ble_eq_true rfl) ?_
      (repeat' (first | refine Zs ?_ | refine Zk ?_ | ((first | refine Za ?_ | refine Zr ?_ | refine Zp ?_ | refine Ze ?_ | refine Zd ?_ | refine W.drawT dr7 rfl mixed rfl ?_ | refine Zn ?_ | refine Zc ?_ | refine UnK.mk (fun b hb => ?_) | refine Zy kM ?_ | refine Zz kM ?_ | refine Zy d0 ?_ | refine Zz d0 ?_ | refine Zy hQ ?_ | refine Zz hQ ?_); conv => whnf) | (refine Zb (fun h => ?_) (fun h => ?_) <;> first | exact Zx | (conv => whnf))))
      all_goals first | exact Zrz | (exfalso; omega)
  obtain ⟨c2, c3⟩ := c2
  have w1 := fun v => within_t v ss.length (by omega) (by omega)
  have r1 := fun v => Int.emod_nonneg v (show (ss.length : Int) ≠ 0 by omega)
  have r2 := fun v => Int.emod_lt_of_pos v (show (0 : Int) < ss.length by omega)
  have w2 := within_t a3 8 (by omega) (by omega)
  have r3 := Int.emod_nonneg a3 (show (8 : Int) ≠ 0 by omega)
  have r3' := Int.emod_lt_of_pos a3 (show (0 : Int) < 8 by omega)
  have hjl := someI_len ss l2 (min l2.length 5) (by omega)
  have d0 := lightW_t ss (by omega)
  have hC : ∀ x ∈ ss, x.c.size ≤ 9223372036854775807 := fun x hx => by have := hx2 x hx; omega
  have d1 := merge_t ss (someI ss l2 (min l2.length 5)) (f - a3 % 8 / 7) (by omega) (by first | omega | (rw [hjl]; omega))
  have d2 := rmerge_t ss (someI ss l2 (min l2.length 5)) (f - a3 % 8 / 7) (by omega) hC (by first | omega | (rw [hjl]; omega))
  obtain ⟨e1, e2⟩ := merL_len ss (someI ss l2 (min l2.length 5)) (f - a3 % 8 / 7)
  have d3 := rsameStock_t (merL ss (someI ss l2 (min l2.length 5)) (f - a3 % 8 / 7)) (by omega) (fun x hx => by have := e2 x hx; omega)
  by_cases hl : lightW ss
  · have l1 := lightW_len hl
    rw [decide_eq_true hl] at d0
    refine ACalls.of (n := Tryz.f7.ntmps) XX_ok Tryz.func7 rfl (by kernel_rfl) rfl rfl (Nat.le_of_ble_eq_true rfl) ?_
    (repeat' (first | refine Zs ?_ | refine Zk ?_ | ((first | refine Za ?_ | refine Zr ?_ | refine Zp ?_ | refine Ze ?_ | refine Zd ?_ | refine W.drawT dr7 rfl mixed rfl ?_ | refine Zn ?_ | refine Zc ?_ | refine UnK.mk (fun b hb => ?_) | refine Zy kM ?_ | refine Zz kM ?_); conv => whnf) | (refine Zb (fun h => ?_) (fun h => ?_) <;> first | exact Zx | (conv => whnf))))
    all_goals first | (exfalso; omega) | skip
    refine (W.adopt 13 58 3 1 (rowF iE []) rfl rfl rfl rfl ?_)
    conv => whnf
    refine (W.loopK (ι := Nat) [2, 3, 11, 12] [12] (fun k => [(14, iA k), (13, .own 58 1 0 k)]) (fun k => [(58, .row 3 1 k (rowF iE (someI ss l2 k)))]) (fun k => k ≤ min l2.length 5) (fun k => 5 - k) 0 (Nat.zero_le _) ?_ ?_ ?_)
    · exact Yz
    · exact Yz
    conv => whnf
    intro k hk
    by_cases hk' : k < l2.length ∧ k < 5
    · have h1 := w1 (l2.getD k default)
      have h2 := r1 (l2.getD k default)
      have h3 := r2 (l2.getD k default)
      have h4 := someI_len ss l2 k (by omega)
      (repeat' (first | refine Zs ?_ | refine Zk ?_ | ((first | refine Za ?_ | refine Zr ?_ | refine Zp ?_ | refine Ze ?_ | refine Zd ?_ | refine W.drawT dr7 rfl mixed rfl ?_ | refine Zn ?_ | refine Zc ?_ | refine UnK.mk (fun b hb => ?_) | refine Zy h1 ?_ | refine Zz h1 ?_); conv => whnf) | (refine Zb (fun h => ?_) (fun h => ?_) <;> first | exact Zx | (conv => whnf))))
      all_goals first | (exfalso; omega) | skip
      refine ⟨k + 1, by omega, by omega, ?_, ?_, ?_, ?_⟩
      all_goals (repeat' (first | exact trivial | exact Yr | exact Yi (by first | rfl | omega) | exact Yo (by first | rfl | omega) | exact Yd | exact Yn | exact Ye (by first | rfl | omega) | exact ⟨_, rfl, Yf, rfl⟩ | refine ⟨_, rfl, Yb ?_, rfl⟩ | refine ⟨_, rfl, Yw (by first | rfl | omega) ?_, rfl⟩ | refine And.intro ?_ ?_))
      rw [someI_succ ss l2 k hk'.1]
      refine rowF_snoc h4.symm fun j hj => ?_
      obtain rfl : j = 0 := by omega
      exact Dle.refl _
    obtain rfl : k = min l2.length 5 := by omega
    (repeat' (first | refine Zs ?_ | refine Zk ?_ | ((first | refine Za ?_ | refine Zr ?_ | refine Zp ?_ | refine Ze ?_ | refine Zd ?_ | refine Zn ?_ | refine Zc ?_ | refine UnK.mk (fun b hb => ?_)); conv => whnf) | (refine Zb (fun h => ?_) (fun h => ?_) <;> first | exact Zx | (conv => whnf))))
    all_goals first | (exfalso; omega) | skip
    all_goals refine (W.pubD 13 58 rfl rfl ?_)
    all_goals (conv => whnf)
    all_goals refine (W.re 13 (.dat (iD (someI ss l2 (min l2.length 5)))) (AVle.dat (Dle.lst hjl.symm fun _ _ _ _ => Dle.refl _)) ?_)
    all_goals (conv => whnf)
    (repeat' (first | refine Zs ?_ | refine Zk ?_ | ((first | refine Za ?_ | refine Zr ?_ | refine Zp ?_ | refine Ze ?_ | refine Zd ?_ | refine W.drawT dr7 rfl mixed rfl ?_ | refine Zn ?_ | refine Zc ?_ | refine UnK.mk (fun b hb => ?_) | refine Zy w2 ?_ | refine Zz w2 ?_ | refine Zy d0 ?_ | refine Zz d0 ?_ | refine Zy d1 ?_ | refine Zz d1 ?_ | refine Zy d2 ?_ | refine Zz d2 ?_ | refine Zy d3 ?_ | refine Zz d3 ?_ | refine Zy hQ ?_ | refine Zz hQ ?_); conv => whnf) | (refine Zb (fun h => ?_) (fun h => ?_) <;> first | exact Zx | (conv => whnf))))
    all_goals first | exact Zrz | (exfalso; omega) | (exfalso; simp_all; done)
  · rw [decide_eq_false hl] at d0
    refine ACalls.of (n := Tryz.f7.ntmps) XX_ok Tryz.func7 rfl (by kernel_rfl) rfl rfl (Nat.le_of_ble_eq_true rfl) ?_
    (repeat' (first | refine Zs ?_ | refine Zk ?_ | ((first | refine Za ?_ | refine Zr ?_ | refine Zp ?_ | refine Ze ?_ | refine Zd ?_ | refine W.drawT dr7 rfl mixed rfl ?_ | refine Zn ?_ | refine Zc ?_ | refine UnK.mk (fun b hb => ?_) | refine Zy kM ?_ | refine Zz kM ?_); conv => whnf) | (refine Zb (fun h => ?_) (fun h => ?_) <;> first | exact Zx | (conv => whnf))))
    all_goals first | (exfalso; omega) | skip
    refine (W.adopt 13 58 3 1 (rowF iE []) rfl rfl rfl rfl ?_)
    conv => whnf
    refine (W.loopK (ι := Nat) [2, 3, 11, 12] [12] (fun k => [(14, iA k), (13, .own 58 1 0 k)]) (fun k => [(58, .row 3 1 k (rowF iE (someI ss l2 k)))]) (fun k => k ≤ min l2.length 5) (fun k => 5 - k) 0 (Nat.zero_le _) ?_ ?_ ?_)
    · exact Yz
    · exact Yz
    conv => whnf
    intro k hk
    by_cases hk' : k < l2.length ∧ k < 5
    · have h1 := w1 (l2.getD k default)
      have h2 := r1 (l2.getD k default)
      have h3 := r2 (l2.getD k default)
      have h4 := someI_len ss l2 k (by omega)
      (repeat' (first | refine Zs ?_ | refine Zk ?_ | ((first | refine Za ?_ | refine Zr ?_ | refine Zp ?_ | refine Ze ?_ | refine Zd ?_ | refine W.drawT dr7 rfl mixed rfl ?_ | refine Zn ?_ | refine Zc ?_ | refine UnK.mk (fun b hb => ?_) | refine Zy h1 ?_ | refine Zz h1 ?_); conv => whnf) | (refine Zb (fun h => ?_) (fun h => ?_) <;> first | exact Zx | (conv => whnf))))
      all_goals first | (exfalso; omega) | skip
      refine ⟨k + 1, by omega, by omega, ?_, ?_, ?_, ?_⟩
      all_goals (repeat' (first | exact trivial | exact Yr | exact Yi (by first | rfl | omega) | exact Yo (by first | rfl | omega) | exact Yd | exact Yn | exact Ye (by first | rfl | omega) | exact ⟨_, rfl, Yf, rfl⟩ | refine ⟨_, rfl, Yb ?_, rfl⟩ | refine ⟨_, rfl, Yw (by first | rfl | omega) ?_, rfl⟩ | refine And.intro ?_ ?_))
      rw [someI_succ ss l2 k hk'.1]
      refine rowF_snoc h4.symm fun j hj => ?_
      obtain rfl : j = 0 := by omega
      exact Dle.refl _
    obtain rfl : k = min l2.length 5 := by omega
    (repeat' (first | refine Zs ?_ | refine Zk ?_ | ((first | refine Za ?_ | refine Zr ?_ | refine Zp ?_ | refine Ze ?_ | refine Zd ?_ | refine Zn ?_ | refine Zc ?_ | refine UnK.mk (fun b hb => ?_)); conv => whnf) | (refine Zb (fun h => ?_) (fun h => ?_) <;> first | exact Zx | (conv => whnf))))
    all_goals first | (exfalso; omega) | skip
    all_goals refine (W.pubD 13 58 rfl rfl ?_)
    all_goals (conv => whnf)
    all_goals refine (W.re 13 (.dat (iD (someI ss l2 (min l2.length 5)))) (AVle.dat (Dle.lst hjl.symm fun _ _ _ _ => Dle.refl _)) ?_)
    all_goals (conv => whnf)
    (repeat' (first | refine Zs ?_ | refine Zk ?_ | ((first | refine Za ?_ | refine Zr ?_ | refine Zp ?_ | refine Ze ?_ | refine Zd ?_ | refine W.drawT dr7 rfl mixed rfl ?_ | refine Zn ?_ | refine Zc ?_ | refine UnK.mk (fun b hb => ?_) | refine Zy w2 ?_ | refine Zz w2 ?_ | refine Zy d0 ?_ | refine Zz d0 ?_ | refine Zy hQ ?_ | refine Zz hQ ?_); conv => whnf) | (refine Zb (fun h => ?_) (fun h => ?_) <;> first | exact Zx | (conv => whnf))))
    all_goals first | exact Zrz | (exfalso; omega)
end Go.Proofs.YtleknjngglhmaaaGreat
