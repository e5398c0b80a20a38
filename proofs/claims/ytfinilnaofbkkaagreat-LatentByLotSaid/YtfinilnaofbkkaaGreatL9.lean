/- The laws of what lots bear: by lot, pieces, differences, all amounts to the cent. -/
import Derived.Test.YtfinilnaofbkkaaGreatHH
namespace Go.Proofs.YtfinilnaofbkkaaGreat
open Go Go.RowKit
set_option linter.unusedVariables false
set_option linter.unusedSimpArgs false
set_option maxRecDepth 100000
set_option maxHeartbeats 4000000
attribute [local irreducible] ResLe AVle ArgLe ArgP EntLe Dle ResH ArgQ

theorem byL_len (ss : List Lt) (cs : List Ch) : (byL ss cs).length ≤ ss.length := by
  unfold byL
  split
  · rw [dusL_len]; exact Nat.le_refl _
  · exact Nat.zero_le _
theorem trcL_len (ss : List Lt) (src : Int) : (trcL ss src).length ≤ 4096 := by
  unfold trcL
  split
  · rename_i h
    have hO := stkErr_ok h
    have h1 := pcL_len hO src ss.length (Nat.le_refl _)
    have := hO.len
    rw [List.take_length] at h1
    rw [sortPc_len]
    omega
  · exact Nat.zero_le _
theorem Brd.by {ss : List Lt} {cs : List Ch} (h : Brd ss cs) : byE ss cs = 0 := by
  unfold byE
  rw [if_neg (by simpa using stkErr_zero h.stk), if_neg (by simpa using h.chs), orD_none fun i hi => h.dut (getD_in hi)]
theorem dut_top {ss : List Lt} {cs : List Ch} (h : Brd ss cs) {x : Lt} (hx : x ∈ ss) : dutV cs x.us ≤ 64000000000000 := by
  have h1 := (dutV_rng cs x.us x.us.length (Nat.le_refl _) fun i hi => h.step hx (getD_in hi)).2
  have h2 := h.stk.us x hx
  rw [List.take_length] at h1
  omega
theorem lawByLot_t (x0 x1 : List Int) (sr : List Lt) (cr : List Ch) (a4 a5 : Int) (k0 : x0.length ≤ 9223372036854775807) (k1 : x1.length ≤ 9223372036854775807) (k2 : sr.length ≤ 9223372036854775807) (k3 : ∀ x ∈ sr, x.c.size ≤ 9223372036854775807) (k4 : cr.length ≤ 9223372036854775807) :
    ACalls XX 3 [.dat (ilst x0), .dat (ilst x1), .dat (ltD sr), .dat (chD cr), iA a4, iA a5] (bA true) := by
  have hQ := l27awake_t
  have he : EqS Tryz.prog 40 3 := eqS_mk Tryz.eqGuardType40 Tryz.underlying40 Tryz.stoodInHeld40 (by kernel_rfl) rfl
  obtain ⟨n, ss, cs, f, hn, ⟨hA, hl25, hc31⟩, kM⟩ := make_ex2 x0 k0
  obtain ⟨hE, hf, hcl⟩ := acts_est hA
  have hf1 := hE.f
  have kC := charged_t ss cs f x1 k1 (by omega)
  have hgl := chgL_len cs x1
  have hsz : ∀ x ∈ ss, x.c.size ≤ 9223372036854775807 := fun x hx => by
    have h1 := (hE.stk.ok x hx).2.1.1
    omega
  have w1 := within_t a4 (f + 1) (by omega) (by omega)
  have hgl2 : (chgL cs x1).length ≤ 31 := by omega
  clear hgl hcl hE hA
  by_cases c1 : andI IntKind.i64 a5 1 = 1
  · by_cases c2 : andI IntKind.i64 a5 2 = 2
    · by_cases c3 : andI IntKind.i64 a5 4 = 0
      · have d0 := light27_t sr (by omega)
        by_cases hl : lightW sr
        · have l1 := lightW_len hl
          rw [decide_eq_true hl] at d0
          have d1 := byLot_t sr cr (by omega) (by omega)
          have d2 := rbyLot_t sr cr (by omega) k3 (by omega)
          have d3 := trace_t sr (a4 % (f + 1)) (by omega)
          have d4 := rtrace_t sr (a4 % (f + 1)) (by omega) k3
          have hb := byL_len sr cr
          have d5 := sameDues_t (byL sr cr) (by omega)
          have ht := trcL_len sr (a4 % (f + 1))
          clear hb
          refine ACalls.of (n := Tryz.f3.ntmps) XX_ok Tryz.func3 rfl (by kernel_rfl) rfl rfl (Nat.le_of_ble_eq_true rfl) ?_
          (repeat' (first | refine Zs ?_ | refine Zk ?_ | ((first | refine Za ?_ | refine Zr ?_ | refine Zp ?_ | refine Ze ?_ | refine Zd ?_ | refine W.drawT dr3 rfl mixed rfl ?_ | refine Zn ?_ | refine Zc ?_ | refine UnK.mk (fun b hb => ?_) | refine Zy kM ?_ | refine Zz kM ?_ | refine Zy kC ?_ | refine Zz kC ?_ | refine Zy w1 ?_ | refine Zz w1 ?_ | refine Zy d0 ?_ | refine Zz d0 ?_ | refine Zy d1 ?_ | refine Zz d1 ?_ | refine Zy d2 ?_ | refine Zz d2 ?_ | refine Zy d3 ?_ | refine Zz d3 ?_ | refine Zy d4 ?_ | refine Zz d4 ?_ | refine Zy d5 ?_ | refine Zz d5 ?_ | refine Zy hQ ?_ | refine Zz hQ ?_); conv => whnf) | (refine Zb (fun h => ?_) (fun h => ?_) <;> first | exact Zx | (conv => whnf))))
          all_goals first | exact Zrz | (exfalso; omega) | skip
          refine (W.loopK (ι := Nat) [20, 21] [] (fun k => [(22, iA k)]) (fun _ => []) (fun k => k ≤ (trcL sr (a4 % (f + 1))).length) (fun k => (trcL sr (a4 % (f + 1))).length - k) 0 (Nat.zero_le _) ?_ ?_ ?_)
          · exact Yz
          · exact Yz
          conv => whnf
          intro k hk
          (repeat' (first | refine Zs ?_ | refine Zk ?_ | ((first | refine Za ?_ | refine Zr ?_ | refine Zp ?_ | refine Ze ?_ | refine Zd ?_ | refine W.drawT dr3 rfl mixed rfl ?_ | refine Zn ?_ | refine Zc ?_ | refine UnK.mk (fun b hb => ?_) | refine Zy hQ ?_ | refine Zz hQ ?_); conv => whnf) | (refine Zb (fun h => ?_) (fun h => ?_) <;> first | exact Zx | (conv => whnf))))
          all_goals first | exact Zrz | (exfalso; omega) | skip
          refine ⟨k + 1, by omega, by omega, ?_, ?_, ?_, ?_⟩
          all_goals exact Yz
        · rw [decide_eq_false hl] at d0
          refine ACalls.of (n := Tryz.f3.ntmps) XX_ok Tryz.func3 rfl (by kernel_rfl) rfl rfl (Nat.le_of_ble_eq_true rfl) ?_
          (repeat' (first | refine Zs ?_ | refine Zk ?_ | ((first | refine Za ?_ | refine Zr ?_ | refine Zp ?_ | refine Ze ?_ | refine Zd ?_ | refine W.drawT dr3 rfl mixed rfl ?_ | refine Zn ?_ | refine Zc ?_ | refine UnK.mk (fun b hb => ?_) | refine Zy kM ?_ | refine Zz kM ?_ | refine Zy kC ?_ | refine Zz kC ?_ | refine Zy w1 ?_ | refine Zz w1 ?_ | refine Zy d0 ?_ | refine Zz d0 ?_ | refine Zy hQ ?_ | refine Zz hQ ?_); conv => whnf) | (refine Zb (fun h => ?_) (fun h => ?_) <;> first | exact Zx | (conv => whnf))))
          all_goals first | exact Zrz | (exfalso; omega)
      · have d0 := light27_t sr (by omega)
        by_cases hl : lightW sr
        · have l1 := lightW_len hl
          rw [decide_eq_true hl] at d0
          have d1 := byLot_t sr cr (by omega) (by omega)
          have d2 := rbyLot_t sr cr (by omega) k3 (by omega)
          have d3 := trace_t sr a4 (by omega)
          have d4 := rtrace_t sr a4 (by omega) k3
          have hb := byL_len sr cr
          have d5 := sameDues_t (byL sr cr) (by omega)
          have ht := trcL_len sr a4
          clear hb
          refine ACalls.of (n := Tryz.f3.ntmps) XX_ok Tryz.func3 rfl (by kernel_rfl) rfl rfl (Nat.le_of_ble_eq_true rfl) ?_
          (repeat' (first | refine Zs ?_ | refine Zk ?_ | ((first | refine Za ?_ | refine Zr ?_ | refine Zp ?_ | refine Ze ?_ | refine Zd ?_ | refine W.drawT dr3 rfl mixed rfl ?_ | refine Zn ?_ | refine Zc ?_ | refine UnK.mk (fun b hb => ?_) | refine Zy kM ?_ | refine Zz kM ?_ | refine Zy kC ?_ | refine Zz kC ?_ | refine Zy w1 ?_ | refine Zz w1 ?_ | refine Zy d0 ?_ | refine Zz d0 ?_ | refine Zy d1 ?_ | refine Zz d1 ?_ | refine Zy d2 ?_ | refine Zz d2 ?_ | refine Zy d3 ?_ | refine Zz d3 ?_ | refine Zy d4 ?_ | refine Zz d4 ?_ | refine Zy d5 ?_ | refine Zz d5 ?_ | refine Zy hQ ?_ | refine Zz hQ ?_); conv => whnf) | (refine Zb (fun h => ?_) (fun h => ?_) <;> first | exact Zx | (conv => whnf))))
          all_goals first | exact Zrz | (exfalso; omega) | skip
          refine (W.loopK (ι := Nat) [20, 21] [] (fun k => [(22, iA k)]) (fun _ => []) (fun k => k ≤ (trcL sr a4).length) (fun k => (trcL sr a4).length - k) 0 (Nat.zero_le _) ?_ ?_ ?_)
          · exact Yz
          · exact Yz
          conv => whnf
          intro k hk
          (repeat' (first | refine Zs ?_ | refine Zk ?_ | ((first | refine Za ?_ | refine Zr ?_ | refine Zp ?_ | refine Ze ?_ | refine Zd ?_ | refine W.drawT dr3 rfl mixed rfl ?_ | refine Zn ?_ | refine Zc ?_ | refine UnK.mk (fun b hb => ?_) | refine Zy hQ ?_ | refine Zz hQ ?_); conv => whnf) | (refine Zb (fun h => ?_) (fun h => ?_) <;> first | exact Zx | (conv => whnf))))
          all_goals first | exact Zrz | (exfalso; omega) | skip
          refine ⟨k + 1, by omega, by omega, ?_, ?_, ?_, ?_⟩
          all_goals exact Yz
        · rw [decide_eq_false hl] at d0
          refine ACalls.of (n := Tryz.f3.ntmps) XX_ok Tryz.func3 rfl (by kernel_rfl) rfl rfl (Nat.le_of_ble_eq_true rfl) ?_
          (repeat' (first | refine Zs ?_ | refine Zk ?_ | ((first | refine Za ?_ | refine Zr ?_ | refine Zp ?_ | refine Ze ?_ | refine Zd ?_ | refine W.drawT dr3 rfl mixed rfl ?_ | refine Zn ?_ | refine Zc ?_ | refine UnK.mk (fun b hb => ?_) | refine Zy kM ?_ | refine Zz kM ?_ | refine Zy kC ?_ | refine Zz kC ?_ | refine Zy w1 ?_ | refine Zz w1 ?_ | refine Zy d0 ?_ | refine Zz d0 ?_ | refine Zy hQ ?_ | refine Zz hQ ?_); conv => whnf) | (refine Zb (fun h => ?_) (fun h => ?_) <;> first | exact Zx | (conv => whnf))))
          all_goals first | exact Zrz | (exfalso; omega)
    · by_cases c3 : andI IntKind.i64 a5 4 = 0
      · have d0 := light27_t sr (by omega)
        by_cases hl : lightW sr
        · have l1 := lightW_len hl
          rw [decide_eq_true hl] at d0
          have d1 := byLot_t sr (chgL cs x1) (by omega) (by omega)
          have d2 := rbyLot_t sr (chgL cs x1) (by omega) k3 (by omega)
          have d3 := trace_t sr (a4 % (f + 1)) (by omega)
          have d4 := rtrace_t sr (a4 % (f + 1)) (by omega) k3
          have hb := byL_len sr (chgL cs x1)
          have d5 := sameDues_t (byL sr (chgL cs x1)) (by omega)
          have ht := trcL_len sr (a4 % (f + 1))
          clear hb
          refine ACalls.of (n := Tryz.f3.ntmps) XX_ok Tryz.func3 rfl (by kernel_rfl) rfl rfl (Nat.le_of_ble_eq_true rfl) ?_
          (repeat' (first | refine Zs ?_ | refine Zk ?_ | ((first | refine Za ?_ | refine Zr ?_ | refine Zp ?_ | refine Ze ?_ | refine Zd ?_ | refine W.drawT dr3 rfl mixed rfl ?_ | refine Zn ?_ | refine Zc ?_ | refine UnK.mk (fun b hb => ?_) | refine Zy kM ?_ | refine Zz kM ?_ | refine Zy kC ?_ | refine Zz kC ?_ | refine Zy w1 ?_ | refine Zz w1 ?_ | refine Zy d0 ?_ | refine Zz d0 ?_ | refine Zy d1 ?_ | refine Zz d1 ?_ | refine Zy d2 ?_ | refine Zz d2 ?_ | refine Zy d3 ?_ | refine Zz d3 ?_ | refine Zy d4 ?_ | refine Zz d4 ?_ | refine Zy d5 ?_ | refine Zz d5 ?_ | refine Zy hQ ?_ | refine Zz hQ ?_); conv => whnf) | (refine Zb (fun h => ?_) (fun h => ?_) <;> first | exact Zx | (conv => whnf))))
          all_goals first | exact Zrz | (exfalso; omega) | skip
          refine (W.loopK (ι := Nat) [20, 21] [] (fun k => [(22, iA k)]) (fun _ => []) (fun k => k ≤ (trcL sr (a4 % (f + 1))).length) (fun k => (trcL sr (a4 % (f + 1))).length - k) 0 (Nat.zero_le _) ?_ ?_ ?_)
          · exact Yz
          · exact Yz
          conv => whnf
          intro k hk
          (repeat' (first | refine Zs ?_ | refine Zk ?_ | ((first | refine Za ?_ | refine Zr ?_ | refine Zp ?_ | refine Ze ?_ | refine Zd ?_ | refine W.drawT dr3 rfl mixed rfl ?_ | refine Zn ?_ | refine Zc ?_ | refine UnK.mk (fun b hb => ?_) | refine Zy hQ ?_ | refine Zz hQ ?_); conv => whnf) | (refine Zb (fun h => ?_) (fun h => ?_) <;> first | exact Zx | (conv => whnf))))
          all_goals first | exact Zrz | (exfalso; omega) | skip
          refine ⟨k + 1, by omega, by omega, ?_, ?_, ?_, ?_⟩
          all_goals exact Yz
        · rw [decide_eq_false hl] at d0
          refine ACalls.of (n := Tryz.f3.ntmps) XX_ok Tryz.func3 rfl (by kernel_rfl) rfl rfl (Nat.le_of_ble_eq_true rfl) ?_
          (repeat' (first | refine Zs ?_ | refine Zk ?_ | ((first | refine Za ?_ | refine Zr ?_ | refine Zp ?_ | refine Ze ?_ | refine Zd ?_ | refine W.drawT dr3 rfl mixed rfl ?_ | refine Zn ?_ | refine Zc ?_ | refine UnK.mk (fun b hb => ?_) | refine Zy kM ?_ | refine Zz kM ?_ | refine Zy kC ?_ | refine Zz kC ?_ | refine Zy w1 ?_ | refine Zz w1 ?_ | refine Zy d0 ?_ | refine Zz d0 ?_ | refine Zy hQ ?_ | refine Zz hQ ?_); conv => whnf) | (refine Zb (fun h => ?_) (fun h => ?_) <;> first | exact Zx | (conv => whnf))))
          all_goals first | exact Zrz | (exfalso; omega)
      · have d0 := light27_t sr (by omega)
        by_cases hl : lightW sr
        · have l1 := lightW_len hl
          rw [decide_eq_true hl] at d0
          have d1 := byLot_t sr (chgL cs x1) (by omega) (by omega)
          have d2 := rbyLot_t sr (chgL cs x1) (by omega) k3 (by omega)
          have d3 := trace_t sr a4 (by omega)
          have d4 := rtrace_t sr a4 (by omega) k3
          have hb := byL_len sr (chgL cs x1)
          have d5 := sameDues_t (byL sr (chgL cs x1)) (by omega)
          have ht := trcL_len sr a4
          clear hb
          refine ACalls.of (n := Tryz.f3.ntmps) XX_ok Tryz.func3 rfl (by kernel_rfl) rfl rfl (Nat.le_of_ble_eq_true rfl) ?_
          (repeat' (first | refine Zs ?_ | refine Zk ?_ | ((first | refine Za ?_ | refine Zr ?_ | refine Zp ?_ | refine Ze ?_ | refine Zd ?_ | refine W.drawT dr3 rfl mixed rfl ?_ | refine Zn ?_ | refine Zc ?_ | refine UnK.mk (fun b hb => ?_) | refine Zy kM ?_ | refine Zz kM ?_ | refine Zy kC ?_ | refine Zz kC ?_ | refine Zy w1 ?_ | refine Zz w1 ?_ | refine Zy d0 ?_ | refine Zz d0 ?_ | refine Zy d1 ?_ | refine Zz d1 ?_ | refine Zy d2 ?_ | refine Zz d2 ?_ | refine Zy d3 ?_ | refine Zz d3 ?_ | refine Zy d4 ?_ | refine Zz d4 ?_ | refine Zy d5 ?_ | refine Zz d5 ?_ | refine Zy hQ ?_ | refine Zz hQ ?_); conv => whnf) | (refine Zb (fun h => ?_) (fun h => ?_) <;> first | exact Zx | (conv => whnf))))
          all_goals first | exact Zrz | (exfalso; omega) | skip
          refine (W.loopK (ι := Nat) [20, 21] [] (fun k => [(22, iA k)]) (fun _ => []) (fun k => k ≤ (trcL sr a4).length) (fun k => (trcL sr a4).length - k) 0 (Nat.zero_le _) ?_ ?_ ?_)
          · exact Yz
          · exact Yz
          conv => whnf
          intro k hk
          (repeat' (first | refine Zs ?_ | refine Zk ?_ | ((first | refine Za ?_ | refine Zr ?_ | refine Zp ?_ | refine Ze ?_ | refine Zd ?_ | refine W.drawT dr3 rfl mixed rfl ?_ | refine Zn ?_ | refine Zc ?_ | refine UnK.mk (fun b hb => ?_) | refine Zy hQ ?_ | refine Zz hQ ?_); conv => whnf) | (refine Zb (fun h => ?_) (fun h => ?_) <;> first | exact Zx | (conv => whnf))))
          all_goals first | exact Zrz | (exfalso; omega) | skip
          refine ⟨k + 1, by omega, by omega, ?_, ?_, ?_, ?_⟩
          all_goals exact Yz
        · rw [decide_eq_false hl] at d0
          refine ACalls.of (n := Tryz.f3.ntmps) XX_ok Tryz.func3 rfl (by kernel_rfl) rfl rfl (Nat.le_of_ble_eq_true rfl) ?_
          (repeat' (first | refine Zs ?_ | refine Zk ?_ | ((first | refine Za ?_ | refine Zr ?_ | refine Zp ?_ | refine Ze ?_ | refine Zd ?_ | refine W.drawT dr3 rfl mixed rfl ?_ | refine Zn ?_ | refine Zc ?_ | refine UnK.mk (fun b hb => ?_) | refine Zy kM ?_ | refine Zz kM ?_ | refine Zy kC ?_ | refine Zz kC ?_ | refine Zy w1 ?_ | refine Zz w1 ?_ | refine Zy d0 ?_ | refine Zz d0 ?_ | refine Zy hQ ?_ | refine Zz hQ ?_); conv => whnf) | (refine Zb (fun h => ?_) (fun h => ?_) <;> first | exact Zx | (conv => whnf))))
          all_goals first | exact Zrz | (exfalso; omega)
  · by_cases c2 : andI IntKind.i64 a5 2 = 2
    · by_cases c3 : andI IntKind.i64 a5 4 = 0
      · have d0 := light27_t ss (by omega)
        by_cases hl : lightW ss
        · have l1 := lightW_len hl
          rw [decide_eq_true hl] at d0
          have d1 := byLot_t ss cr (by omega) (by omega)
          have d2 := rbyLot_t ss cr (by omega) hsz (by omega)
          have d3 := trace_t ss (a4 % (f + 1)) (by omega)
          have d4 := rtrace_t ss (a4 % (f + 1)) (by omega) hsz
          have hb := byL_len ss cr
          have d5 := sameDues_t (byL ss cr) (by omega)
          have ht := trcL_len ss (a4 % (f + 1))
          clear hb
          refine ACalls.of (n := Tryz.f3.ntmps) XX_ok Tryz.func3 rfl (by kernel_rfl) rfl rfl (Nat.le_of_ble_eq_true rfl) ?_
          (repeat' (first | refine Zs ?_ | refine Zk ?_ | ((first | refine Za ?_ | refine Zr ?_ | refine Zp ?_ | refine Ze ?_ | refine Zd ?_ | refine W.drawT dr3 rfl mixed rfl ?_ | refine Zn ?_ | refine Zc ?_ | refine UnK.mk (fun b hb => ?_) | refine Zy kM ?_ | refine Zz kM ?_ | refine Zy kC ?_ | refine Zz kC ?_ | refine Zy w1 ?_ | refine Zz w1 ?_ | refine Zy d0 ?_ | refine Zz d0 ?_ | refine Zy d1 ?_ | refine Zz d1 ?_ | refine Zy d2 ?_ | refine Zz d2 ?_ | refine Zy d3 ?_ | refine Zz d3 ?_ | refine Zy d4 ?_ | refine Zz d4 ?_ | refine Zy d5 ?_ | refine Zz d5 ?_ | refine Zy hQ ?_ | refine Zz hQ ?_); conv => whnf) | (refine Zb (fun h => ?_) (fun h => ?_) <;> first | exact Zx | (conv => whnf))))
          all_goals first | exact Zrz | (exfalso; omega) | skip
          refine (W.loopK (ι := Nat) [20, 21] [] (fun k => [(22, iA k)]) (fun _ => []) (fun k => k ≤ (trcL ss (a4 % (f + 1))).length) (fun k => (trcL ss (a4 % (f + 1))).length - k) 0 (Nat.zero_le _) ?_ ?_ ?_)
          · exact Yz
          · exact Yz
          conv => whnf
          intro k hk
          (repeat' (first | refine Zs ?_ | refine Zk ?_ | ((first | refine Za ?_ | refine Zr ?_ | refine Zp ?_ | refine Ze ?_ | refine Zd ?_ | refine W.drawT dr3 rfl mixed rfl ?_ | refine Zn ?_ | refine Zc ?_ | refine UnK.mk (fun b hb => ?_) | refine Zy hQ ?_ | refine Zz hQ ?_); conv => whnf) | (refine Zb (fun h => ?_) (fun h => ?_) <;> first | exact Zx | (conv => whnf))))
          all_goals first | exact Zrz | (exfalso; omega) | skip
          refine ⟨k + 1, by omega, by omega, ?_, ?_, ?_, ?_⟩
          all_goals exact Yz
        · rw [decide_eq_false hl] at d0
          refine ACalls.of (n := Tryz.f3.ntmps) XX_ok Tryz.func3 rfl (by kernel_rfl) rfl rfl (Nat.le_of_ble_eq_true rfl) ?_
          (repeat' (first | refine Zs ?_ | refine Zk ?_ | ((first | refine Za ?_ | refine Zr ?_ | refine Zp ?_ | refine Ze ?_ | refine Zd ?_ | refine W.drawT dr3 rfl mixed rfl ?_ | refine Zn ?_ | refine Zc ?_ | refine UnK.mk (fun b hb => ?_) | refine Zy kM ?_ | refine Zz kM ?_ | refine Zy kC ?_ | refine Zz kC ?_ | refine Zy w1 ?_ | refine Zz w1 ?_ | refine Zy d0 ?_ | refine Zz d0 ?_ | refine Zy hQ ?_ | refine Zz hQ ?_); conv => whnf) | (refine Zb (fun h => ?_) (fun h => ?_) <;> first | exact Zx | (conv => whnf))))
          all_goals first | exact Zrz | (exfalso; omega)
      · have d0 := light27_t ss (by omega)
        by_cases hl : lightW ss
        · have l1 := lightW_len hl
          rw [decide_eq_true hl] at d0
          have d1 := byLot_t ss cr (by omega) (by omega)
          have d2 := rbyLot_t ss cr (by omega) hsz (by omega)
          have d3 := trace_t ss a4 (by omega)
          have d4 := rtrace_t ss a4 (by omega) hsz
          have hb := byL_len ss cr
          have d5 := sameDues_t (byL ss cr) (by omega)
          have ht := trcL_len ss a4
          clear hb
          refine ACalls.of (n := Tryz.f3.ntmps) XX_ok Tryz.func3 rfl (by kernel_rfl) rfl rfl (Nat.le_of_ble_eq_true rfl) ?_
          (repeat' (first | refine Zs ?_ | refine Zk ?_ | ((first | refine Za ?_ | refine Zr ?_ | refine Zp ?_ | refine Ze ?_ | refine Zd ?_ | refine W.drawT dr3 rfl mixed rfl ?_ | refine Zn ?_ | refine Zc ?_ | refine UnK.mk (fun b hb => ?_) | refine Zy kM ?_ | refine Zz kM ?_ | refine Zy kC ?_ | refine Zz kC ?_ | refine Zy w1 ?_ | refine Zz w1 ?_ | refine Zy d0 ?_ | refine Zz d0 ?_ | refine Zy d1 ?_ | refine Zz d1 ?_ | refine Zy d2 ?_ | refine Zz d2 ?_ | refine Zy d3 ?_ | refine Zz d3 ?_ | refine Zy d4 ?_ | refine Zz d4 ?_ | refine Zy d5 ?_ | refine Zz d5 ?_ | refine Zy hQ ?_ | refine Zz hQ ?_); conv => whnf) | (refine Zb (fun h => ?_) (fun h => ?_) <;> first | exact Zx | (conv => whnf))))
          all_goals first | exact Zrz | (exfalso; omega) | skip
          refine (W.loopK (ι := Nat) [20, 21] [] (fun k => [(22, iA k)]) (fun _ => []) (fun k => k ≤ (trcL ss a4).length) (fun k => (trcL ss a4).length - k) 0 (Nat.zero_le _) ?_ ?_ ?_)
          · exact Yz
          · exact Yz
          conv => whnf
          intro k hk
          (repeat' (first | refine Zs ?_ | refine Zk ?_ | ((first | refine Za ?_ | refine Zr ?_ | refine Zp ?_ | refine Ze ?_ | refine Zd ?_ | refine W.drawT dr3 rfl mixed rfl ?_ | refine Zn ?_ | refine Zc ?_ | refine UnK.mk (fun b hb => ?_) | refine Zy hQ ?_ | refine Zz hQ ?_); conv => whnf) | (refine Zb (fun h => ?_) (fun h => ?_) <;> first | exact Zx | (conv => whnf))))
          all_goals first | exact Zrz | (exfalso; omega) | skip
          refine ⟨k + 1, by omega, by omega, ?_, ?_, ?_, ?_⟩
          all_goals exact Yz
        · rw [decide_eq_false hl] at d0
          refine ACalls.of (n := Tryz.f3.ntmps) XX_ok Tryz.func3 rfl (by kernel_rfl) rfl rfl (Nat.le_of_ble_eq_true rfl) ?_
          (repeat' (first | refine Zs ?_ | refine Zk ?_ | ((first | refine Za ?_ | refine Zr ?_ | refine Zp ?_ | refine Ze ?_ | refine Zd ?_ | refine W.drawT dr3 rfl mixed rfl ?_ | refine Zn ?_ | refine Zc ?_ | refine UnK.mk (fun b hb => ?_) | refine Zy kM ?_ | refine Zz kM ?_ | refine Zy kC ?_ | refine Zz kC ?_ | refine Zy w1 ?_ | refine Zz w1 ?_ | refine Zy d0 ?_ | refine Zz d0 ?_ | refine Zy hQ ?_ | refine Zz hQ ?_); conv => whnf) | (refine Zb (fun h => ?_) (fun h => ?_) <;> first | exact Zx | (conv => whnf))))
          all_goals first | exact Zrz | (exfalso; omega)
    · by_cases c3 : andI IntKind.i64 a5 4 = 0
      · have d0 := light27_t ss (by omega)
        by_cases hl : lightW ss
        · have l1 := lightW_len hl
          rw [decide_eq_true hl] at d0
          have d1 := byLot_t ss (chgL cs x1) (by omega) (by omega)
          have d2 := rbyLot_t ss (chgL cs x1) (by omega) hsz (by omega)
          have d3 := trace_t ss (a4 % (f + 1)) (by omega)
          have d4 := rtrace_t ss (a4 % (f + 1)) (by omega) hsz
          have hb := byL_len ss (chgL cs x1)
          have d5 := sameDues_t (byL ss (chgL cs x1)) (by omega)
          have ht := trcL_len ss (a4 % (f + 1))
          clear hb
          refine ACalls.of (n := Tryz.f3.ntmps) XX_ok Tryz.func3 rfl (by kernel_rfl) rfl rfl (Nat.le_of_ble_eq_true rfl) ?_
          (repeat' (first | refine Zs ?_ | refine Zk ?_ | ((first | refine Za ?_ | refine Zr ?_ | refine Zp ?_ | refine Ze ?_ | refine Zd ?_ | refine W.drawT dr3 rfl mixed rfl ?_ | refine Zn ?_ | refine Zc ?_ | refine UnK.mk (fun b hb => ?_) | refine Zy kM ?_ | refine Zz kM ?_ | refine Zy kC ?_ | refine Zz kC ?_ | refine Zy w1 ?_ | refine Zz w1 ?_ | refine Zy d0 ?_ | refine Zz d0 ?_ | refine Zy d1 ?_ | refine Zz d1 ?_ | refine Zy d2 ?_ | refine Zz d2 ?_ | refine Zy d3 ?_ | refine Zz d3 ?_ | refine Zy d4 ?_ | refine Zz d4 ?_ | refine Zy d5 ?_ | refine Zz d5 ?_ | refine Zy hQ ?_ | refine Zz hQ ?_); conv => whnf) | (refine Zb (fun h => ?_) (fun h => ?_) <;> first | exact Zx | (conv => whnf))))
          all_goals first | exact Zrz | (exfalso; omega) | skip
          refine (W.loopK (ι := Nat) [20, 21] [] (fun k => [(22, iA k)]) (fun _ => []) (fun k => k ≤ (trcL ss (a4 % (f + 1))).length) (fun k => (trcL ss (a4 % (f + 1))).length - k) 0 (Nat.zero_le _) ?_ ?_ ?_)
          · exact Yz
          · exact Yz
          conv => whnf
          intro k hk
          (repeat' (first | refine Zs ?_ | refine Zk ?_ | ((first | refine Za ?_ | refine Zr ?_ | refine Zp ?_ | refine Ze ?_ | refine Zd ?_ | refine W.drawT dr3 rfl mixed rfl ?_ | refine Zn ?_ | refine Zc ?_ | refine UnK.mk (fun b hb => ?_) | refine Zy hQ ?_ | refine Zz hQ ?_); conv => whnf) | (refine Zb (fun h => ?_) (fun h => ?_) <;> first | exact Zx | (conv => whnf))))
          all_goals first | exact Zrz | (exfalso; omega) | skip
          refine ⟨k + 1, by omega, by omega, ?_, ?_, ?_, ?_⟩
          all_goals exact Yz
        · rw [decide_eq_false hl] at d0
          refine ACalls.of (n := Tryz.f3.ntmps) XX_ok Tryz.func3 rfl (by kernel_rfl) rfl rfl (Nat.le_of_ble_eq_true rfl) ?_
          (repeat' (first | refine Zs ?_ | refine Zk ?_ | ((first | refine Za ?_ | refine Zr ?_ | refine Zp ?_ | refine Ze ?_ | refine Zd ?_ | refine W.drawT dr3 rfl mixed rfl ?_ | refine Zn ?_ | refine Zc ?_ | refine UnK.mk (fun b hb => ?_) | refine Zy kM ?_ | refine Zz kM ?_ | refine Zy kC ?_ | refine Zz kC ?_ | refine Zy w1 ?_ | refine Zz w1 ?_ | refine Zy d0 ?_ | refine Zz d0 ?_ | refine Zy hQ ?_ | refine Zz hQ ?_); conv => whnf) | (refine Zb (fun h => ?_) (fun h => ?_) <;> first | exact Zx | (conv => whnf))))
          all_goals first | exact Zrz | (exfalso; omega)
      · have d0 := light27_t ss (by omega)
        by_cases hl : lightW ss
        · have l1 := lightW_len hl
          rw [decide_eq_true hl] at d0
          have d1 := byLot_t ss (chgL cs x1) (by omega) (by omega)
          have d2 := rbyLot_t ss (chgL cs x1) (by omega) hsz (by omega)
          have d3 := trace_t ss a4 (by omega)
          have d4 := rtrace_t ss a4 (by omega) hsz
          have hb := byL_len ss (chgL cs x1)
          have d5 := sameDues_t (byL ss (chgL cs x1)) (by omega)
          have ht := trcL_len ss a4
          clear hb
          refine ACalls.of (n := Tryz.f3.ntmps) XX_ok Tryz.func3 rfl (by kernel_rfl) rfl rfl (Nat.le_of_ble_eq_true rfl) ?_
          (repeat' (first | refine Zs ?_ | refine Zk ?_ | ((first | refine Za ?_ | refine Zr ?_ | refine Zp ?_ | refine Ze ?_ | refine Zd ?_ | refine W.drawT dr3 rfl mixed rfl ?_ | refine Zn ?_ | refine Zc ?_ | refine UnK.mk (fun b hb => ?_) | refine Zy kM ?_ | refine Zz kM ?_ | refine Zy kC ?_ | refine Zz kC ?_ | refine Zy w1 ?_ | refine Zz w1 ?_ | refine Zy d0 ?_ | refine Zz d0 ?_ | refine Zy d1 ?_ | refine Zz d1 ?_ | refine Zy d2 ?_ | refine Zz d2 ?_ | refine Zy d3 ?_ | refine Zz d3 ?_ | refine Zy d4 ?_ | refine Zz d4 ?_ | refine Zy d5 ?_ | refine Zz d5 ?_ | refine Zy hQ ?_ | refine Zz hQ ?_); conv => whnf) | (refine Zb (fun h => ?_) (fun h => ?_) <;> first | exact Zx | (conv => whnf))))
          all_goals first | exact Zrz | (exfalso; omega) | skip
          refine (W.loopK (ι := Nat) [20, 21] [] (fun k => [(22, iA k)]) (fun _ => []) (fun k => k ≤ (trcL ss a4).length) (fun k => (trcL ss a4).length - k) 0 (Nat.zero_le _) ?_ ?_ ?_)
          · exact Yz
          · exact Yz
          conv => whnf
          intro k hk
          (repeat' (first | refine Zs ?_ | refine Zk ?_ | ((first | refine Za ?_ | refine Zr ?_ | refine Zp ?_ | refine Ze ?_ | refine Zd ?_ | refine W.drawT dr3 rfl mixed rfl ?_ | refine Zn ?_ | refine Zc ?_ | refine UnK.mk (fun b hb => ?_) | refine Zy hQ ?_ | refine Zz hQ ?_); conv => whnf) | (refine Zb (fun h => ?_) (fun h => ?_) <;> first | exact Zx | (conv => whnf))))
          all_goals first | exact Zrz | (exfalso; omega) | skip
          refine ⟨k + 1, by omega, by omega, ?_, ?_, ?_, ?_⟩
          all_goals exact Yz
        · rw [decide_eq_false hl] at d0
          refine ACalls.of (n := Tryz.f3.ntmps) XX_ok Tryz.func3 rfl (by kernel_rfl) rfl rfl (Nat.le_of_ble_eq_true rfl) ?_
          (repeat' (first | refine Zs ?_ | refine Zk ?_ | ((first | refine Za ?_ | refine Zr ?_ | refine Zp ?_ | refine Ze ?_ | refine Zd ?_ | refine W.drawT dr3 rfl mixed rfl ?_ | refine Zn ?_ | refine Zc ?_ | refine UnK.mk (fun b hb => ?_) | refine Zy kM ?_ | refine Zz kM ?_ | refine Zy kC ?_ | refine Zz kC ?_ | refine Zy w1 ?_ | refine Zz w1 ?_ | refine Zy d0 ?_ | refine Zz d0 ?_ | refine Zy hQ ?_ | refine Zz hQ ?_); conv => whnf) | (refine Zb (fun h => ?_) (fun h => ?_) <;> first | exact Zx | (conv => whnf))))
          all_goals first | exact Zrz | (exfalso; omega)
def atP (P : List Pc) (k : Nat) : Int := if k = 0 then 0 else (P.getD (k - 1) default).e
theorem atP_succ (P : List Pc) (k : Nat) : atP P (k + 1) = (P.getD k default).e := by unfold atP; rw [if_neg (by omega)]; rfl
theorem lawTrace_t (x0 : List Int) (k0 : x0.length ≤ 9223372036854775807) : ACalls XX 4 [.dat (ilst x0)] (bA true) := by
  have hQ := l27awake_t
  obtain ⟨n, ss, cs, f, hn, ⟨hA, hl25, hc31⟩, kM⟩ := make_ex2 x0 k0
  obtain ⟨hE, hf, hcl⟩ := acts_est hA
  have hO := hE.stk
  have hz := stkErr_zero hO
  refine ACalls.of (n := Tryz.f4.ntmps) XX_ok Tryz.func4 rfl (by kernel_rfl) rfl rfl (Nat.le_of_ble_eq_true rfl) ?_
  (repeat' (first | refine Zs ?_ | refine Zk ?_ | ((first | refine Za ?_ | refine Zr ?_ | refine Zp ?_ | refine Ze ?_ | refine Zd ?_ | refine W.drawT dr4 rfl mixed rfl ?_ | refine Zn ?_ | refine Zc ?_ | refine UnK.mk (fun b hb => ?_) | refine Zy kM ?_ | refine Zz kM ?_); conv => whnf) | (refine Zb (fun h => ?_) (fun h => ?_) <;> first | exact Zx | (conv => whnf))))
  refine (W.loopK (ι := Nat) [3] [3] (fun k => [(4, iA k)]) (fun _ => []) (fun k => k ≤ cs.length) (fun k => cs.length - k) 0 (Nat.zero_le _) ?_ ?_ ?_)
  · exact Yz
  · exact Yz
  conv => whnf
  intro k hk
  by_cases hk' : k < cs.length
  · have hc := getD_in hk'
    have d1 := trace_t ss (cs.getD k default).m (by omega)
    have hp : trcL ss (cs.getD k default).m = sortPc (pcL ss (cs.getD k default).m) := by unfold trcL; rw [if_pos hz]
    have hl := trcL_len ss (cs.getD k default).m
    obtain ⟨g1, g2⟩ := pieces_chain hE hc
    rw [hp] at d1 hl
    generalize sortPc (pcL ss (cs.getD k default).m) = P at *
    have hend : atP P P.length = (cs.getD k default).u := by unfold atP; rw [g2]
    have hat : ∀ i, i < P.length → (P.getD i default).s = atP P i ∧ (P.getD i default).s < (P.getD i default).e := fun i hi => by
      have := g1 i hi
      unfold atP
      exact this
    clear g1 g2 hp
    (repeat' (first | refine Zs ?_ | refine Zk ?_ | ((first | refine Za ?_ | refine Zr ?_ | refine Zp ?_ | refine Ze ?_ | refine Zd ?_ | refine W.drawT dr4 rfl mixed rfl ?_ | refine Zn ?_ | refine Zc ?_ | refine UnK.mk (fun b hb => ?_)); conv => whnf) | (refine Zb (fun h => ?_) (fun h => ?_) <;> first | exact Zx | (conv => whnf))))
    all_goals (try dsimp only [Int.toNat_natCast] at *)
    (repeat' (first | refine Zs ?_ | refine Zk ?_ | ((first | refine Za ?_ | refine Zr ?_ | refine Zp ?_ | refine Ze ?_ | refine Zd ?_ | refine W.drawT dr4 rfl mixed rfl ?_ | refine Zn ?_ | refine Zc ?_ | refine UnK.mk (fun b hb => ?_) | refine Zy d1 ?_ | refine Zz d1 ?_); conv => whnf) | (refine Zb (fun h => ?_) (fun h => ?_) <;> first | exact Zx | (conv => whnf))))
    refine (W.loopK (ι := Nat) [3, 4, 5] [3] (fun i => [(7, iA i), (6, iA (atP P i))]) (fun _ => []) (fun i => i ≤ P.length) (fun i => P.length - i) 0 (Nat.zero_le _) ?_ ?_ ?_)
    · exact Yz
    · exact Yz
    conv => whnf
    intro i hi
    by_cases hi' : i < P.length
    · have h1 := hat i hi'
      have h2 := atP_succ P i
      (repeat' (first | refine Zs ?_ | refine Zk ?_ | ((first | refine Za ?_ | refine Zr ?_ | refine Zp ?_ | refine Ze ?_ | refine Zd ?_ | refine W.drawT dr4 rfl mixed rfl ?_ | refine Zn ?_ | refine Zc ?_ | refine UnK.mk (fun b hb => ?_)); conv => whnf) | (refine Zb (fun h => ?_) (fun h => ?_) <;> first | exact Zx | (conv => whnf))))
      all_goals (try dsimp only [Int.toNat_natCast] at *)
      (repeat' (first | refine Zs ?_ | refine Zk ?_ | ((first | refine Za ?_ | refine Zr ?_ | refine Zp ?_ | refine Ze ?_ | refine Zd ?_ | refine W.drawT dr4 rfl mixed rfl ?_ | refine Zn ?_ | refine Zc ?_ | refine UnK.mk (fun b hb => ?_)); conv => whnf) | (refine Zb (fun h => ?_) (fun h => ?_) <;> first | exact Zx | (conv => whnf))))
      all_goals first | (exfalso; omega) | skip
      refine ⟨i + 1, by omega, by omega, ?_, ?_, ?_, ?_⟩
      all_goals (repeat' (first | exact trivial | exact Yr | exact Yi (by first | rfl | exact h2.symm | omega) | exact Yo (by first | rfl | exact h2.symm | omega) | exact Yd | exact Yn | exact Ye (by first | rfl | exact h2.symm | omega) | exact ⟨_, rfl, Yf, rfl⟩ | refine ⟨_, rfl, Yb ?_, rfl⟩ | refine ⟨_, rfl, Yw (by first | rfl | exact h2.symm | omega) ?_, rfl⟩ | refine And.intro ?_ ?_))
    · obtain rfl : i = P.length := by omega
      rw [hend]
      (repeat' (first | refine Zs ?_ | refine Zk ?_ | ((first | refine Za ?_ | refine Zr ?_ | refine Zp ?_ | refine Ze ?_ | refine Zd ?_ | refine W.drawT dr4 rfl mixed rfl ?_ | refine Zn ?_ | refine Zc ?_ | refine UnK.mk (fun b hb => ?_)); conv => whnf) | (refine Zb (fun h => ?_) (fun h => ?_) <;> first | exact Zx | (conv => whnf))))
      all_goals (try dsimp only [Int.toNat_natCast] at *)
      (repeat' (first | refine Zs ?_ | refine Zk ?_ | ((first | refine Za ?_ | refine Zr ?_ | refine Zp ?_ | refine Ze ?_ | refine Zd ?_ | refine W.drawT dr4 rfl mixed rfl ?_ | refine Zn ?_ | refine Zc ?_ | refine UnK.mk (fun b hb => ?_)); conv => whnf) | (refine Zb (fun h => ?_) (fun h => ?_) <;> first | exact Zx | (conv => whnf))))
      all_goals first | (exfalso; omega) | skip
      refine ⟨k + 1, by omega, by omega, ?_, ?_, ?_, ?_⟩
      all_goals exact Yz
  · obtain rfl : k = cs.length := by omega
    (repeat' (first | refine Zs ?_ | refine Zk ?_ | ((first | refine Za ?_ | refine Zr ?_ | refine Zp ?_ | refine Ze ?_ | refine Zd ?_ | refine W.drawT dr4 rfl mixed rfl ?_ | refine Zn ?_ | refine Zc ?_ | refine UnK.mk (fun b hb => ?_) | refine Zy hQ ?_ | refine Zz hQ ?_); conv => whnf) | (refine Zb (fun h => ?_) (fun h => ?_) <;> first | exact Zx | (conv => whnf))))
    all_goals exact Zrz
def lcS (l : List Lc) (k : Nat) : Int := ((l.take k).map fun x => x.a - x.b).sum
theorem lcS_snoc (l : List Lc) (k : Nat) (h : k < l.length) : lcS l (k + 1) = lcS l k + (l.getD k default).a - (l.getD k default).b := by
  unfold lcS
  rw [take_snoc l k h, List.map_append, List.sum_append]
  simp
  omega
def chS (a b : List Ch) (k : Nat) : Int := ((b.take k).map Ch.a).sum - ((a.take k).map Ch.a).sum
theorem chS_snoc (a b : List Ch) (k : Nat) (h : k < a.length) (h2 : k < b.length) : chS a b (k + 1) = chS a b k + (b.getD k default).a - (a.getD k default).a := by
  unfold chS
  rw [take_snoc a k h, take_snoc b k h2, List.map_append, List.sum_append, List.map_append, List.sum_append]
  simp
  omega
theorem df_sum (cs ds : List Ch) : ∀ ss : List Lt, ((dfL ss cs ds).map fun x => x.a - x.b).sum = (ss.map fun x => dutV ds x.us).sum - (ss.map fun x => dutV cs x.us).sum
  | [] => by simp [dfL]
  | x :: l => by
    have h := df_sum cs ds l
    unfold dfL at h ⊢
    rw [List.flatMap_cons, List.map_append, List.sum_append, h]
    unfold dfX
    split
    · simp; omega
    · simp; omega
theorem df_mem {ss : List Lt} {cs ds : List Ch} {y : Lc} (h : y ∈ dfL ss cs ds) : ∃ x ∈ ss, y.b = dutV cs x.us ∧ y.a = dutV ds x.us ∧ y.b ≠ y.a := by
  unfold dfL at h
  obtain ⟨x, hx, hy⟩ := List.mem_flatMap.1 h
  unfold dfX at hy
  split at hy
  · simp at hy
  · rename_i hne
    obtain rfl := List.mem_singleton.1 hy
    exact ⟨x, hx, rfl, rfl, hne⟩
theorem lcS_rng {l : List Lc} (h : ∀ y ∈ l, (0 ≤ y.b ∧ y.b ≤ 64000000000000) ∧ 0 ≤ y.a ∧ y.a ≤ 64000000000000) : ∀ k, k ≤ l.length → -(64000000000000 * (k : Int)) ≤ lcS l k ∧ lcS l k ≤ 64000000000000 * k
  | 0, _ => by simp [lcS]
  | k + 1, hk => by
    have h1 := lcS_rng h k (by omega)
    have h2 := h _ (getD_in (k := k) (by omega))
    rw [lcS_snoc l k (by omega)]
    push_cast
    omega
theorem chS_rng {a b : List Ch} (ha : ∀ c ∈ a, amOk c.a) (hb : ∀ c ∈ b, amOk c.a) : ∀ k, k ≤ a.length → k ≤ b.length → -(1000000000000 * (k : Int)) ≤ chS a b k ∧ chS a b k ≤ 1000000000000 * k
  | 0, _, _ => by simp [chS]
  | k + 1, hk, hk2 => by
    have h1 := chS_rng ha hb k (by omega) (by omega)
    have h2 := ha _ (getD_in (k := k) (by omega))
    have h3 := hb _ (getD_in (k := k) (by omega))
    unfold amOk at h2 h3
    rw [chS_snoc a b k (by omega) (by omega)]
    push_cast
    omega
theorem lawDiff_t (x0 x1 x2 : List Int) (k0 : x0.length ≤ 9223372036854775807) (k1 : x1.length ≤ 9223372036854775807) (k2 : x2.length ≤ 9223372036854775807) : ACalls XX 5 [.dat (ilst x0), .dat (ilst x1), .dat (ilst x2)] (bA true) := by
  have hQ := l27awake_t
  have he : EqS Tryz.prog 49 3 := eqS_mk Tryz.eqGuardType49 Tryz.underlying49 Tryz.stoodInHeld49 (by kernel_rfl) rfl
  obtain ⟨n, ss, cs, f, hn, ⟨hA, hl25, hc31⟩, kM⟩ := make_ex2 x0 k0
  obtain ⟨hE, hf, hcl⟩ := acts_est hA
  have hO := hE.stk
  have B1 := est_brd hE (by omega) (by omega) x1
  have B2 := est_brd hE (by omega) (by omega) x2
  have kC1 := charged_t ss cs f x1 k1 (by omega)
  have kC2 := charged_t ss cs f x2 k2 (by omega)
  have hsz : ∀ x ∈ ss, x.c.size ≤ 9223372036854775807 := fun x hx => by
    have h1 := (hE.stk.ok x hx).2.1.1
    omega
  have g1 := chgL_len cs x1
  have g2 := chgL_len cs x2
  have d1 := dif_t ss (chgL cs x1) (chgL cs x2) (by omega) (by omega) (by omega) B1.by B2.by
  have d2 := rdif_t ss (chgL cs x1) (chgL cs x2) (by omega) hsz (by omega) (by omega) B1.by B2.by
  have hdl := dfL_len (chgL cs x1) (chgL cs x2) ss
  have hdm : ∀ y ∈ dfL ss (chgL cs x1) (chgL cs x2), ((0 ≤ y.b ∧ y.b ≤ 64000000000000) ∧ 0 ≤ y.a ∧ y.a ≤ 64000000000000) ∧ y.b ≠ y.a := fun y hy => by
    obtain ⟨x, hx, e1, e2, e3⟩ := df_mem hy
    rw [e1, e2] at *
    exact ⟨⟨⟨B1.nn hx, dut_top B1 hx⟩, B2.nn hx, dut_top B2 hx⟩, e3⟩
  have hsum : lcS (dfL ss (chgL cs x1) (chgL cs x2)) (dfL ss (chgL cs x1) (chgL cs x2)).length = chS (chgL cs x1) (chgL cs x2) cs.length := by
    unfold lcS chS
    rw [List.take_length, df_sum, B1.all, B2.all, List.take_of_length_le (by omega), List.take_of_length_le (by omega)]
  have hm1 : ∀ c ∈ chgL cs x1, amOk c.a := fun c hc => (B1.ok c hc).2.2.2
  have hm2 : ∀ c ∈ chgL cs x2, amOk c.a := fun c hc => (B2.ok c hc).2.2.2
  have hcl31 : cs.length ≤ 31 := hc31
  have r1 := lcS_rng fun y hy => (hdm y hy).1
  have r2 := chS_rng hm1 hm2
  generalize dfL ss (chgL cs x1) (chgL cs x2) = d at *
  generalize chgL cs x1 = ca at *
  generalize chgL cs x2 = cb at *
  clear B1 B2 hE hA hO hcl
  refine ACalls.of (n := Tryz.f5.ntmps) XX_ok Tryz.func5 rfl (by kernel_rfl) rfl rfl (Nat.le_of_ble_eq_true rfl) ?_
  (repeat' (first | refine Zs ?_ | refine Zk ?_ | ((first | refine Za ?_ | refine Zr ?_ | refine Zp ?_ | refine Ze ?_ | refine Zd ?_ | refine W.drawT dr5 rfl mixed rfl ?_ | refine Zn ?_ | refine Zc ?_ | refine UnK.mk (fun b hb => ?_) | refine Zy kM ?_ | refine Zz kM ?_ | refine Zy kC1 ?_ | refine Zz kC1 ?_ | refine Zy kC2 ?_ | refine Zz kC2 ?_ | refine Zy d1 ?_ | refine Zz d1 ?_ | refine Zy d2 ?_ | refine Zz d2 ?_); conv => whnf) | (refine Zb (fun h => ?_) (fun h => ?_) <;> first | exact Zx | (conv => whnf))))
  all_goals first | (exfalso; omega) | skip
  refine (W.loopK (ι := Nat) [8, 9, 10, 12] [] (fun k => [(15, iA k), (14, iA (lcS d k))]) (fun _ => []) (fun k => k ≤ d.length) (fun k => d.length - k) 0 (Nat.zero_le _) ?_ ?_ ?_)
  · exact Yz
  · exact Yz
  conv => whnf
  intro k hk
  by_cases hk' : k < d.length
  · have h1 := hdm _ (getD_in hk')
    have h2 := lcS_snoc d k hk'
    have h3 := r1 k hk
    have h4 := r1 (k + 1) hk'
    (repeat' (first | refine Zs ?_ | refine Zk ?_ | ((first | refine Za ?_ | refine Zr ?_ | refine Zp ?_ | refine Ze ?_ | refine Zd ?_ | refine W.drawT dr5 rfl mixed rfl ?_ | refine Zn ?_ | refine Zc ?_ | refine UnK.mk (fun b hb => ?_)); conv => whnf) | (refine Zb (fun h => ?_) (fun h => ?_) <;> first | exact Zx | (conv => whnf))))
    all_goals (try dsimp only [Int.toNat_natCast] at *)
    (repeat' (first | refine Zs ?_ | refine Zk ?_ | ((first | refine Za ?_ | refine Zr ?_ | refine Zp ?_ | refine Ze ?_ | refine Zd ?_ | refine W.drawT dr5 rfl mixed rfl ?_ | refine Zn ?_ | refine Zc ?_ | refine UnK.mk (fun b hb => ?_)); conv => whnf) | (refine Zb (fun h => ?_) (fun h => ?_) <;> first | exact Zx | (conv => whnf))))
    all_goals first | (exfalso; omega) | skip
    refine ⟨k + 1, by omega, by omega, ?_, ?_, ?_, ?_⟩
    all_goals (repeat' (first | exact trivial | exact Yr | exact Yi (by first | rfl | exact h2.symm | omega) | exact Yo (by first | rfl | exact h2.symm | omega) | exact Yd | exact Yn | exact Ye (by first | rfl | exact h2.symm | omega) | exact ⟨_, rfl, Yf, rfl⟩ | refine ⟨_, rfl, Yb ?_, rfl⟩ | refine ⟨_, rfl, Yw (by first | rfl | exact h2.symm | omega) ?_, rfl⟩ | refine And.intro ?_ ?_))
  · obtain rfl : k = d.length := by omega
    rw [hsum]
    (repeat' (first | refine Zs ?_ | refine Zk ?_ | ((first | refine Za ?_ | refine Zr ?_ | refine Zp ?_ | refine Ze ?_ | refine Zd ?_ | refine W.drawT dr5 rfl mixed rfl ?_ | refine Zn ?_ | refine Zc ?_ | refine UnK.mk (fun b hb => ?_)); conv => whnf) | (refine Zb (fun h => ?_) (fun h => ?_) <;> first | exact Zx | (conv => whnf))))
    refine (W.loopK (ι := Nat) [8, 9] [] (fun k => [(16, iA k), (14, iA (chS ca cb cs.length - chS ca cb k))]) (fun _ => []) (fun k => k ≤ cs.length) (fun k => cs.length - k) 0 (Nat.zero_le _) ?_ ?_ ?_)
    · (repeat' (first | exact trivial | exact Yr | exact Yi (by first | rfl | (simp [chS]; done) | omega) | exact Yo (by first | rfl | (simp [chS]; done) | omega) | exact Yd | exact Yn | exact Ye (by first | rfl | (simp [chS]; done) | omega) | exact ⟨_, rfl, Yf, rfl⟩ | refine ⟨_, rfl, Yb ?_, rfl⟩ | refine ⟨_, rfl, Yw (by first | rfl | (simp [chS]; done) | omega) ?_, rfl⟩ | refine And.intro ?_ ?_))
    · exact Yz
    conv => whnf
    intro k hk
    by_cases hk' : k < cs.length
    · have h1 := hm1 _ (getD_in (k := k) (by omega))
      have h2 := hm2 _ (getD_in (k := k) (by omega))
      have h3 := chS_snoc ca cb k (by omega) (by omega)
      have h4 := r2 k (by omega) (by omega)
      have h5 := r2 cs.length (by omega) (by omega)
      unfold amOk at h1 h2
      (repeat' (first | refine Zs ?_ | refine Zk ?_ | ((first | refine Za ?_ | refine Zr ?_ | refine Zp ?_ | refine Ze ?_ | refine Zd ?_ | refine W.drawT dr5 rfl mixed rfl ?_ | refine Zn ?_ | refine Zc ?_ | refine UnK.mk (fun b hb => ?_)); conv => whnf) | (refine Zb (fun h => ?_) (fun h => ?_) <;> first | exact Zx | (conv => whnf))))
      all_goals (try dsimp only [Int.toNat_natCast] at *)
      (repeat' (first | refine Zs ?_ | refine Zk ?_ | ((first | refine Za ?_ | refine Zr ?_ | refine Zp ?_ | refine Ze ?_ | refine Zd ?_ | refine W.drawT dr5 rfl mixed rfl ?_ | refine Zn ?_ | refine Zc ?_ | refine UnK.mk (fun b hb => ?_)); conv => whnf) | (refine Zb (fun h => ?_) (fun h => ?_) <;> first | exact Zx | (conv => whnf))))
      all_goals first | (exfalso; omega) | skip
      refine ⟨k + 1, by omega, by omega, ?_, ?_, ?_, ?_⟩
      all_goals exact Yz
    · obtain rfl : k = cs.length := by omega
      rw [Int.sub_self]
      (repeat' (first | refine Zs ?_ | refine Zk ?_ | ((first | refine Za ?_ | refine Zr ?_ | refine Zp ?_ | refine Ze ?_ | refine Zd ?_ | refine W.drawT dr5 rfl mixed rfl ?_ | refine Zn ?_ | refine Zc ?_ | refine UnK.mk (fun b hb => ?_) | refine Zy hQ ?_ | refine Zz hQ ?_); conv => whnf) | (refine Zb (fun h => ?_) (fun h => ?_) <;> first | exact Zx | (conv => whnf))))
      all_goals first | exact Zrz | (exfalso; omega)
end Go.Proofs.YtfinilnaofbkkaaGreat
