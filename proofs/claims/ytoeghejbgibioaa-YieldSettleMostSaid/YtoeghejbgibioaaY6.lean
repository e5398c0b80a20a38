/- Yields: the reference's batches. -/
import Derived.Test.YtoeghejbgibioaaY5
namespace Go.Proofs.Ytoeghejbgibioaa
open Go Go.RowKit
set_option linter.unusedVariables false
set_option linter.unusedSimpArgs false
set_option maxRecDepth 100000
set_option maxHeartbeats 4000000
attribute [local irreducible] ResLe AVle ArgLe ArgP EntLe Dle ResH ArgQ strEq strLt

theorem getM_bnd (us : List Nd) (c : ByteArray) (hi : Int) (h0 : 0 ≤ hi) (hq : ∀ x ∈ us, 0 ≤ x.q ∧ x.q ≤ hi) : 0 ≤ getM (stM us) c ∧ getM (stM us) c ≤ hi := by
  revert hq
  refine rev_ind (P := fun us : List Nd => (∀ x ∈ us, 0 ≤ x.q ∧ x.q ≤ hi) → 0 ≤ getM (stM us) c ∧ getM (stM us) c ≤ hi) (fun _ => ⟨Int.le_refl _, h0⟩) (fun us x ih h => ?_) us
  have h1 := ih fun y hy => h y (by simp [hy])
  have hx := h x (by simp)
  rw [stM_snoc, getM_put]
  split
  · exact hx
  · exact h1
noncomputable def btV (us ins : List Nd) (k : Nat) : Int := if k = 0 then -1 else btN us (ins.take k)
theorem rbatches_t (r : Rc) (us : List Nd) (h : btOk r us) (g1 : ∀ y ∈ r.ins, y.c.size ≤ 9223372036854775807) (g2 : ∀ y ∈ r.outs, y.c.size ≤ 9223372036854775807) (g3 : ∀ y ∈ us, y.c.size ≤ 9223372036854775807) : ACalls XX 31 [rcA r, .dat (ndD us)] (iA (btN us r.ins)) := by
  obtain ⟨hr, h64, hA⟩ := h
  have b1 := hr.2.1
  have b2 := hr.2.2.1
  have l1 := b1.2
  have l2 := b2.2
  have l3 := hr.2.2.2.1
  have k1 := yrecipe_t r (by omega) (by omega) (by omega) g1 g2
  rw [show yrErr r = 0 from if_pos hr] at k1
  refine ACalls.of (n := Try.f31.ntmps) XX_ok Try.func31 rfl (by kernel_rfl) rfl rfl (Nat.le_of_ble_eq_true rfl) ?_
  (repeat' (first | refine Zs ?_ | refine Zk ?_ | ((first | refine Za ?_ | refine Zr ?_ | refine Zp ?_ | refine Ze ?_ | refine Zd ?_ | refine W.drawT dr31 rfl mixed rfl ?_ | refine Zn ?_ | refine Zc ?_ | refine UnK.mk (fun b hb => ?_) | refine Zy k1 ?_ | refine Zz k1 ?_); conv => whnf) | (refine Zb (fun h => ?_) (fun h => ?_) <;> first | exact Zx | (conv => whnf))))
  all_goals first | (exfalso; omega) | skip
  refine (W.loopK (ι := Nat) [1, 2] [2] (fun k => [(5, iA k)]) (fun _ => []) (fun k => k ≤ us.length) (fun k => us.length - k) 0 (Nat.zero_le _) ?_ ?_ ?_)
  · exact Yz
  · exact Yz
  conv => whnf
  intro k hk
  by_cases hk' : k < us.length
  · have hx := hA k hk'
    have c2 := ycode8_t (us.getD k default).c (g3 _ (ygetD_in hk'))
    rw [decide_eq_true hx.1] at c2
    have s3 := hx.2.1
    have s4 := hx.2.2.1
    have e : 0 < k → ((k : Int) - 1).toNat = k - 1 := by omega
    have o1 : 0 < k → strLt (us.getD k default).c (us.getD ((k : Int) - 1).toNat default).c = false ∧ strEq (us.getD k default).c (us.getD ((k : Int) - 1).toNat default).c = false := fun hk0 => by
      rw [e hk0]; exact hx.2.2.2 hk0
    (repeat' (first | refine Zs ?_ | refine Zk ?_ | ((first | refine Za ?_ | refine Zr ?_ | refine Zp ?_ | refine Ze ?_ | refine Zd ?_ | refine W.drawT dr31 rfl mixed rfl ?_ | refine Zn ?_ | refine Zc ?_ | refine UnK.mk (fun b hb => ?_)); conv => whnf) | (refine Zb (fun h => ?_) (fun h => ?_) <;> first | exact Zx | (conv => whnf))))
    all_goals (try dsimp only [Int.toNat_natCast] at *)
    (repeat' (first | refine Zs ?_ | refine Zk ?_ | ((first | refine Za ?_ | refine Zr ?_ | refine Zp ?_ | refine Ze ?_ | refine Zd ?_ | refine W.drawT dr31 rfl mixed rfl ?_ | refine Zn ?_ | refine Zc ?_ | refine UnK.mk (fun b hb => ?_) | refine Zy c2 ?_ | refine Zz c2 ?_); conv => whnf) | (refine Zb (fun h => ?_) (fun h => ?_) <;> first | exact Zx | (conv => whnf))))
    all_goals (try dsimp only [Int.toNat_natCast] at *)
    all_goals first | (exfalso; omega) | skip
    all_goals first | (exfalso; obtain ⟨q5, q6⟩ := o1 (by omega); rcases h with h | h <;> simp_all; done) | skip
    all_goals (refine ⟨k + 1, by omega, by omega, ?_, ?_, ?_, ?_⟩)
    all_goals exact Yz
  (repeat' (first | refine Zs ?_ | refine Zk ?_ | ((first | refine Za ?_ | refine Zr ?_ | refine Zp ?_ | refine Ze ?_ | refine Zd ?_ | refine W.drawT dr31 rfl mixed rfl ?_ | refine Zn ?_ | refine Zc ?_ | refine UnK.mk (fun b hb => ?_)); conv => whnf) | (refine Zb (fun h => ?_) (fun h => ?_) <;> first | exact Zx | (conv => whnf))))
  all_goals first | (exfalso; omega) | skip
  refine (W.loopK (ι := Nat) [1, 2] [2] (fun k => [(6, iA (btV us r.ins k)), (7, iA k)]) (fun _ => []) (fun k => k ≤ r.ins.length ∧ (0 < k → 0 ≤ btN us (r.ins.take k))) (fun k => r.ins.length - k) 0 ⟨Nat.zero_le _, fun h => absurd h (by omega)⟩ ?_ ?_ ?_)
  · exact Yz
  · exact Yz
  conv => whnf
  intro k ⟨hk, hv⟩
  by_cases hk' : k < r.ins.length
  · have hx := b1.1 k hk'
    have s3 := hx.2.1
    have s4 := hx.2.2.1
    have hqq := asc_q hA
    have c3 := yqty_t us (r.ins.getD k default).c h64 hqq
    have hg : getM (stM us) (r.ins.getD k default).c = qtyS us (r.ins.getD k default).c := qty_eq us _ fun i j hi hj e => asc_ne hA hi hj e
    have hb := getM_bnd us (r.ins.getD k default).c 1000000000000 (by omega) hqq
    rw [hg] at hb
    obtain ⟨V, hV⟩ : ∃ V, V = qtyS us (r.ins.getD k default).c / (r.ins.getD k default).q := ⟨_, rfl⟩
    have v1 : 0 ≤ V := by rw [hV]; exact Int.ediv_nonneg hb.1 (by omega)
    have v2 : V ≤ 1000000000000 := by rw [hV]; exact Int.le_trans (Int.ediv_le_self _ hb.1) hb.2
    have e2 : btN us (r.ins.take (k + 1)) = if V < btN us (r.ins.take k) then V else btN us (r.ins.take k) := by rw [take_snoc r.ins hk', btN_snoc, hV]
    have f0 : btV us r.ins (k + 1) = btN us (r.ins.take (k + 1)) := by unfold btV; rw [if_neg (by omega)]
    have f1 : k = 0 → btV us r.ins k = -1 ∧ btN us (r.ins.take k) = 1000000000000 := fun h0 => by subst h0; exact ⟨rfl, rfl⟩
    have f2 : k ≠ 0 → btV us r.ins k = btN us (r.ins.take k) := fun h0 => by unfold btV; rw [if_neg h0]
    have e4 : btV us r.ins (k + 1) = if btV us r.ins k < 0 then V else if V < btV us r.ins k then V else btV us r.ins k := by
      rw [f0, e2]
      by_cases h0 : k = 0
      · obtain ⟨p1, p2⟩ := f1 h0
        rw [p1, p2]
        split <;> omega
      · have := hv (by omega)
        rw [f2 h0, if_neg (show ¬ btN us (r.ins.take k) < 0 by omega)]
    have hv' : 0 ≤ btN us (r.ins.take (k + 1)) := by
      rw [e2]
      by_cases h0 : k = 0
      · obtain ⟨p1, p2⟩ := f1 h0
        rw [p2]
        split <;> omega
      · have := hv (by omega)
        split <;> omega
    clear f0 f1 f2 e2 hqq hx
    (repeat' (first | refine Zs ?_ | refine Zk ?_ | ((first | refine Za ?_ | refine Zr ?_ | refine Zp ?_ | refine Ze ?_ | refine Zd ?_ | refine W.drawT dr31 rfl mixed rfl ?_ | refine Zn ?_ | refine Zc ?_ | refine UnK.mk (fun b hb => ?_)); conv => whnf) | (refine Zb (fun h => ?_) (fun h => ?_) <;> first | exact Zx | (conv => whnf))))
    all_goals (try dsimp only [Int.toNat_natCast] at *)
    (repeat' (first | refine Zs ?_ | refine Zk ?_ | ((first | refine Za ?_ | refine Zr ?_ | refine Zp ?_ | refine Ze ?_ | refine Zd ?_ | refine W.drawT dr31 rfl mixed rfl ?_ | refine Zn ?_ | refine Zc ?_ | refine UnK.mk (fun b hb => ?_) | refine Zy c3 ?_ | refine Zz c3 ?_); conv => whnf) | (refine Zb (fun h => ?_) (fun h => ?_) <;> first | exact Zx | (conv => whnf))))
    all_goals (try dsimp only [Int.toNat_natCast] at *)
    all_goals first | (exfalso; omega) | skip
    (repeat' (first | refine Zs ?_ | refine Zk ?_ | ((first | refine Za ?_ | refine Zr ?_ | refine Zp ?_ | refine Ze ?_ | refine Zd ?_ | refine W.drawT dr31 rfl mixed rfl ?_ | refine Zn ?_ | refine Zc ?_ | refine UnK.mk (fun b hb => ?_)); conv => whnf) | (refine Zb (fun h => ?_) (fun h => ?_) <;> first | exact Zx | (conv => whnf))))
    all_goals (try dsimp only [Int.toNat_natCast] at *)
    · rw [if_pos h, hV] at e4
      refine ⟨k + 1, ⟨by omega, fun _ => hv'⟩, by omega, ?_, ?_, ?_, ?_⟩
      all_goals (repeat' (first | exact trivial | exact Yr | exact Yi (by first | exact e4.symm | rfl | omega) | exact Yo (by first | exact e4.symm | rfl | omega) | exact Yd | exact Yn | exact Ye (by first | exact e4.symm | rfl | omega) | exact ⟨_, rfl, Yf, rfl⟩ | refine ⟨_, rfl, Yb ?_, rfl⟩ | refine ⟨_, rfl, Yw (by first | exact e4.symm | rfl | omega) ?_, rfl⟩ | refine And.intro ?_ ?_))
    · rw [if_neg (by omega), hV, if_pos h] at e4
      refine ⟨k + 1, ⟨by omega, fun _ => hv'⟩, by omega, ?_, ?_, ?_, ?_⟩
      all_goals (repeat' (first | exact trivial | exact Yr | exact Yi (by first | exact e4.symm | rfl | omega) | exact Yo (by first | exact e4.symm | rfl | omega) | exact Yd | exact Yn | exact Ye (by first | exact e4.symm | rfl | omega) | exact ⟨_, rfl, Yf, rfl⟩ | refine ⟨_, rfl, Yb ?_, rfl⟩ | refine ⟨_, rfl, Yw (by first | exact e4.symm | rfl | omega) ?_, rfl⟩ | refine And.intro ?_ ?_))
    · rw [if_neg (by omega), hV, if_neg (by omega)] at e4
      refine ⟨k + 1, ⟨by omega, fun _ => hv'⟩, by omega, ?_, ?_, ?_, ?_⟩
      all_goals (repeat' (first | exact trivial | exact Yr | exact Yi (by first | exact e4.symm | rfl | omega) | exact Yo (by first | exact e4.symm | rfl | omega) | exact Yd | exact Yn | exact Ye (by first | exact e4.symm | rfl | omega) | exact ⟨_, rfl, Yf, rfl⟩ | refine ⟨_, rfl, Yb ?_, rfl⟩ | refine ⟨_, rfl, Yw (by first | exact e4.symm | rfl | omega) ?_, rfl⟩ | refine And.intro ?_ ?_))
  obtain rfl : k = r.ins.length := by omega
  have e3 : btV us r.ins r.ins.length = btN us r.ins := by unfold btV; rw [if_neg (by omega), List.take_length]
  rw [e3]
  (repeat' (first | refine Zs ?_ | refine Zk ?_ | ((first | refine Za ?_ | refine Zr ?_ | refine Zp ?_ | refine Ze ?_ | refine Zd ?_ | refine W.drawT dr31 rfl mixed rfl ?_ | refine Zn ?_ | refine Zc ?_ | refine UnK.mk (fun b hb => ?_)); conv => whnf) | (refine Zb (fun h => ?_) (fun h => ?_) <;> first | exact Zx | (conv => whnf))))
  all_goals first | (exfalso; omega) | ((repeat' (first | exact trivial | exact Zm | exact Zl | exact ResLe.row0 rfl | exact Zi (by first | rfl | omega) | exact Zo (h := by first | rfl | omega) | exact ResLe.bo rfl rfl Iff.rfl | refine ResLe.agg ?_ | refine And.intro ?_ ?_ | ((conv => whnf); first | exact Zl | exact ResLe.row0 rfl | exact Zi (by first | rfl | omega) | exact Zo (h := by first | rfl | omega) | exact ResLe.bo rfl rfl Iff.rfl | refine ResLe.agg ?_ | refine And.intro ?_ ?_))); done)
theorem rbatches_no (r : Rc) (us : List Nd) (h1 : r.ins.length ≤ 9223372036854775807) (h2 : r.outs.length ≤ 9223372036854775807) (h3 : r.sc.length ≤ 9223372036854775807) (h4 : us.length ≤ 9223372036854775807) (g1 : ∀ y ∈ r.ins, y.c.size ≤ 9223372036854775807) (g2 : ∀ y ∈ r.outs, y.c.size ≤ 9223372036854775807) (g3 : ∀ y ∈ us, y.c.size ≤ 9223372036854775807) (h : ¬ btOk r us) : ACalls XX 31 [rcA r, .dat (ndD us)] (iA 0) := by
  have k1 := yrecipe_t r h1 h2 h3 g1 g2
  by_cases hr : yrOk r
  rotate_left
  · rw [show yrErr r = 1 from if_neg hr] at k1
    refine ACalls.of (n := Try.f31.ntmps) XX_ok Try.func31 rfl (by kernel_rfl) rfl rfl (Nat.le_of_ble_eq_true rfl) ?_
    (repeat' (first | refine Zs ?_ | refine Zk ?_ | ((first | refine Za ?_ | refine Zr ?_ | refine Zp ?_ | refine Ze ?_ | refine Zd ?_ | refine W.drawT dr31 rfl mixed rfl ?_ | refine Zn ?_ | refine Zc ?_ | refine UnK.mk (fun b hb => ?_) | refine Zy k1 ?_ | refine Zz k1 ?_); conv => whnf) | (refine Zb (fun h => ?_) (fun h => ?_) <;> first | exact Zx | (conv => whnf))))
    all_goals first | (exfalso; omega) | ((repeat' (first | exact trivial | exact Zm | exact Zl | exact ResLe.row0 rfl | exact Zi (by first | rfl | omega) | exact Zo (h := by first | rfl | omega) | exact ResLe.bo rfl rfl Iff.rfl | refine ResLe.agg ?_ | refine And.intro ?_ ?_ | ((conv => whnf); first | exact Zl | exact ResLe.row0 rfl | exact Zi (by first | rfl | omega) | exact Zo (h := by first | rfl | omega) | exact ResLe.bo rfl rfl Iff.rfl | refine ResLe.agg ?_ | refine And.intro ?_ ?_))); done)
  rw [show yrErr r = 0 from if_pos hr] at k1
  by_cases hl : us.length ≤ 64
  rotate_left
  · refine ACalls.of (n := Try.f31.ntmps) XX_ok Try.func31 rfl (by kernel_rfl) rfl rfl (Nat.le_of_ble_eq_true rfl) ?_
    (repeat' (first | refine Zs ?_ | refine Zk ?_ | ((first | refine Za ?_ | refine Zr ?_ | refine Zp ?_ | refine Ze ?_ | refine Zd ?_ | refine W.drawT dr31 rfl mixed rfl ?_ | refine Zn ?_ | refine Zc ?_ | refine UnK.mk (fun b hb => ?_) | refine Zy k1 ?_ | refine Zz k1 ?_); conv => whnf) | (refine Zb (fun h => ?_) (fun h => ?_) <;> first | exact Zx | (conv => whnf))))
    all_goals first | (exfalso; omega) | ((repeat' (first | exact trivial | exact Zm | exact Zl | exact ResLe.row0 rfl | exact Zi (by first | rfl | omega) | exact Zo (h := by first | rfl | omega) | exact ResLe.bo rfl rfl Iff.rfl | refine ResLe.agg ?_ | refine And.intro ?_ ?_ | ((conv => whnf); first | exact Zl | exact ResLe.row0 rfl | exact Zi (by first | rfl | omega) | exact Zo (h := by first | rfl | omega) | exact ResLe.bo rfl rfl Iff.rfl | refine ResLe.agg ?_ | refine And.intro ?_ ?_))); done)
  have hA : ¬ ascOk us 0 1000000000000 := fun hA => h ⟨hr, hl, hA⟩
  refine ACalls.of (n := Try.f31.ntmps) XX_ok Try.func31 rfl (by kernel_rfl) rfl rfl (Nat.le_of_ble_eq_true rfl) ?_
  (repeat' (first | refine Zs ?_ | refine Zk ?_ | ((first | refine Za ?_ | refine Zr ?_ | refine Zp ?_ | refine Ze ?_ | refine Zd ?_ | refine W.drawT dr31 rfl mixed rfl ?_ | refine Zn ?_ | refine Zc ?_ | refine UnK.mk (fun b hb => ?_) | refine Zy k1 ?_ | refine Zz k1 ?_); conv => whnf) | (refine Zb (fun h => ?_) (fun h => ?_) <;> first | exact Zx | (conv => whnf))))
  all_goals first | (exfalso; omega) | skip
  refine (W.loopK (ι := Nat) [1, 2] [2] (fun k => [(5, iA k)]) (fun _ => []) (fun k => k ≤ us.length ∧ ∀ i, i < k → ascAt us 0 1000000000000 i) (fun k => us.length - k) 0 ⟨Nat.zero_le _, fun i hi => absurd hi (by omega)⟩ ?_ ?_ ?_)
  · exact Yz
  · exact Yz
  conv => whnf
  intro k ⟨hk, hz⟩
  by_cases hk' : k < us.length
  · have c2 := ycode8_t (us.getD k default).c (g3 _ (ygetD_in hk'))
    (repeat' (first | refine Zs ?_ | refine Zk ?_ | ((first | refine Za ?_ | refine Zr ?_ | refine Zp ?_ | refine Ze ?_ | refine Zd ?_ | refine W.drawT dr31 rfl mixed rfl ?_ | refine Zn ?_ | refine Zc ?_ | refine UnK.mk (fun b hb => ?_)); conv => whnf) | (refine Zb (fun h => ?_) (fun h => ?_) <;> first | exact Zx | (conv => whnf))))
    all_goals (try dsimp only [Int.toNat_natCast] at *)
    (repeat' (first | refine Zs ?_ | refine Zk ?_ | ((first | refine Za ?_ | refine Zr ?_ | refine Zp ?_ | refine Ze ?_ | refine Zd ?_ | refine W.drawT dr31 rfl mixed rfl ?_ | refine Zn ?_ | refine Zc ?_ | refine UnK.mk (fun b hb => ?_) | refine Zy c2 ?_ | refine Zz c2 ?_); conv => whnf) | (refine Zb (fun h => ?_) (fun h => ?_) <;> first | exact Zx | (conv => whnf))))
    all_goals (try dsimp only [Int.toNat_natCast] at *)
    all_goals (have e : ((k : Int) - 1).toNat = k - 1 := by omega)
    all_goals (try rw [e] at h)
    all_goals first | (exfalso; omega) | ((repeat' (first | exact trivial | exact Zm | exact Zl | exact ResLe.row0 rfl | exact Zi (by first | rfl | omega) | exact Zo (h := by first | rfl | omega) | exact ResLe.bo rfl rfl Iff.rfl | refine ResLe.agg ?_ | refine And.intro ?_ ?_ | ((conv => whnf); first | exact Zl | exact ResLe.row0 rfl | exact Zi (by first | rfl | omega) | exact Zo (h := by first | rfl | omega) | exact ResLe.bo rfl rfl Iff.rfl | refine ResLe.agg ?_ | refine And.intro ?_ ?_))); done) | skip
    all_goals (refine ⟨k + 1, ⟨by omega, fun i hi => ?_⟩, by omega, ?_, ?_, ?_, ?_⟩)
    all_goals first | exact Yz | skip
    all_goals (by_cases hik : i = k
               · subst hik; exact ⟨by assumption, by assumption, by assumption, fun _ => by first | omega | assumption⟩
               · exact hz i (by omega))
  · exact absurd (fun i hi => hz i (by omega)) hA
end Go.Proofs.Ytoeghejbgibioaa
