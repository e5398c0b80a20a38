/- Yields: recipes in range. -/
import Derived.Test.YtoeghejbgibioaaY1
namespace Go.Proofs.Ytoeghejbgibioaa
open Go Go.RowKit
set_option linter.unusedVariables false
set_option linter.unusedSimpArgs false
set_option maxRecDepth 100000
set_option maxHeartbeats 4000000
attribute [local irreducible] ResLe AVle ArgLe ArgP EntLe Dle ResH ArgQ strEq strLt

def shOk (l : List Int) : Prop := ∀ i, i < l.length → 0 ≤ l.getD i default ∧ l.getD i default ≤ 1000000
def yrOk (x : Rc) : Prop := (1 ≤ x.id ∧ x.id ≤ 1000000) ∧ ndsOk x.ins ∧ ndsOk x.outs ∧ x.sc.length = x.outs.length ∧ shOk x.sc ∧ x.sc.sum ≠ 0
noncomputable instance (x : Rc) : Decidable (yrOk x) := Classical.propDecidable _
noncomputable def yrErr (x : Rc) : Int := if yrOk x then 0 else 1
theorem sum_take (l : List Int) (k : Nat) (h : k < l.length) : (l.take (k + 1)).sum = (l.take k).sum + l.getD k 0 := by
  induction l generalizing k with
  | nil => simp at h
  | cons a l ih =>
    cases k with
    | zero => simp
    | succ k =>
      have := ih k (by simpa using h)
      simp only [List.take_succ_cons, List.sum_cons, List.getD_cons_succ]
      omega
theorem sum_bnd (l : List Int) (h : ∀ i, i < l.length → 0 ≤ l.getD i 0 ∧ l.getD i 0 ≤ 1000000) (k : Nat) (hk : k ≤ l.length) : 0 ≤ (l.take k).sum ∧ (l.take k).sum ≤ 1000000 * k := by
  induction k with
  | zero => simp
  | succ k ih =>
    have h1 := ih (by omega)
    have h2 := h k (by omega)
    rw [sum_take l k (by omega)]
    omega
theorem yvalidate_t (x : Rc) (h1 : x.ins.length ≤ 9223372036854775807) (h2 : x.outs.length ≤ 9223372036854775807) (h3 : x.sc.length ≤ 9223372036854775807) : ACalls XX 29 [rcA x] (iA (yrErr x)) := by
  have k1 := yvalidID_t x.id
  have k2 := yasc_t x.ins 1 1000000000 h1
  have k3 := yasc_t x.outs 1 1000000000 h2
  by_cases hid : 1 ≤ x.id ∧ x.id ≤ 1000000
  rotate_left
  · rw [decide_eq_false hid] at k1
    refine ACalls.of (n := Try.f29.ntmps) XX_ok Try.func29 rfl (by kernel_rfl) rfl rfl (Nat.le_of_ble_eq_true rfl) ?_
    (repeat' (first | refine Zs ?_ | refine Zk ?_ | ((first | refine Za ?_ | refine Zr ?_ | refine Zp ?_ | refine Ze ?_ | refine Zd ?_ | refine Zn ?_ | refine Zc ?_ | refine UnK.mk (fun b hb => ?_) | refine Zy k1 ?_); conv => whnf) | (refine Zb (fun h => ?_) (fun h => ?_) <;> first | exact Zx | (conv => whnf))))
    all_goals (have hn : ¬ yrOk x := fun hc => hid hc.1)
    all_goals (repeat' (first | exact trivial | exact Zm | exact Zl | exact ResLe.row0 rfl | exact Zi (by simp [yrErr, hn]) | exact Zo (h := by simp [yrErr, hn]) | exact ResLe.bo rfl rfl Iff.rfl | refine ResLe.agg ?_ | refine And.intro ?_ ?_ | ((conv => whnf); first | exact Zl | exact ResLe.row0 rfl | exact Zi (by simp [yrErr, hn]) | exact Zo (h := by simp [yrErr, hn]) | exact ResLe.bo rfl rfl Iff.rfl | refine ResLe.agg ?_ | refine And.intro ?_ ?_)))
  rw [decide_eq_true hid] at k1
  refine ACalls.of (n := Try.f29.ntmps) XX_ok Try.func29 rfl (by kernel_rfl) rfl rfl (Nat.le_of_ble_eq_true rfl) ?_
  (repeat' (first | refine Zs ?_ | refine Zk ?_ | ((first | refine Za ?_ | refine Zr ?_ | refine Zp ?_ | refine Ze ?_ | refine Zd ?_ | refine Zn ?_ | refine Zc ?_ | refine UnK.mk (fun b hb => ?_) | refine Zy k1 ?_); conv => whnf) | (refine Zb (fun h => ?_) (fun h => ?_) <;> first | exact Zx | (conv => whnf))))
  refine (W.loopK (ι := Nat) [1, 16, 17] [1, 16] (fun k => [(18, iA k)]) (fun _ => []) (fun k => k ≤ 2 ∧ (0 < k → ndsOk x.ins) ∧ (1 < k → ndsOk x.outs)) (fun k => 2 - k) 0 ⟨Nat.zero_le _, fun h => absurd h (by omega), fun h => absurd h (by omega)⟩ ?_ ?_ ?_)
  · exact Yz
  · exact Yz
  conv => whnf
  intro k ⟨hk, hz1, hz2⟩
  rcases (show k = 0 ∨ k = 1 ∨ k = 2 by omega) with rfl | rfl | rfl
  · (repeat' (first | refine Zs ?_ | refine Zk ?_ | ((first | refine Za ?_ | refine Zr ?_ | refine Zp ?_ | refine Ze ?_ | refine Zd ?_ | refine Zn ?_ | refine Zc ?_ | refine UnK.mk (fun b hb => ?_) | refine Zy k2 ?_); conv => whnf) | (refine Zb (fun h => ?_) (fun h => ?_) <;> first | exact Zx | (conv => whnf))))
    all_goals first | (have hn : ¬ yrOk x := fun hc => (by
        have q := hc.2.1
        unfold ndsOk at q
        first | omega | exact h q.1)); (repeat' (first | exact trivial | exact Zm | exact Zl | exact ResLe.row0 rfl | exact Zi (by simp [yrErr, hn]) | exact Zo (h := by simp [yrErr, hn]) | exact ResLe.bo rfl rfl Iff.rfl | refine ResLe.agg ?_ | refine And.intro ?_ ?_ | ((conv => whnf); first | exact Zl | exact ResLe.row0 rfl | exact Zi (by simp [yrErr, hn]) | exact Zo (h := by simp [yrErr, hn]) | exact ResLe.bo rfl rfl Iff.rfl | refine ResLe.agg ?_ | refine And.intro ?_ ?_))); done | skip
    all_goals (refine ⟨1, ⟨by omega, fun _ => ⟨by assumption, by omega, by omega⟩, fun hh => absurd hh (by omega)⟩, by omega, ?_, ?_, ?_, ?_⟩)
    all_goals exact Yz
  · (repeat' (first | refine Zs ?_ | refine Zk ?_ | ((first | refine Za ?_ | refine Zr ?_ | refine Zp ?_ | refine Ze ?_ | refine Zd ?_ | refine Zn ?_ | refine Zc ?_ | refine UnK.mk (fun b hb => ?_) | refine Zy k3 ?_); conv => whnf) | (refine Zb (fun h => ?_) (fun h => ?_) <;> first | exact Zx | (conv => whnf))))
    all_goals first | (have hn : ¬ yrOk x := fun hc => (by
        have q := hc.2.2.1
        unfold ndsOk at q
        first | omega | exact h q.1)); (repeat' (first | exact trivial | exact Zm | exact Zl | exact ResLe.row0 rfl | exact Zi (by simp [yrErr, hn]) | exact Zo (h := by simp [yrErr, hn]) | exact ResLe.bo rfl rfl Iff.rfl | refine ResLe.agg ?_ | refine And.intro ?_ ?_ | ((conv => whnf); first | exact Zl | exact ResLe.row0 rfl | exact Zi (by simp [yrErr, hn]) | exact Zo (h := by simp [yrErr, hn]) | exact ResLe.bo rfl rfl Iff.rfl | refine ResLe.agg ?_ | refine And.intro ?_ ?_))); done | skip
    all_goals (refine ⟨2, ⟨by omega, fun _ => hz1 (by omega), fun _ => ⟨by assumption, by omega, by omega⟩⟩, by omega, ?_, ?_, ?_, ?_⟩)
    all_goals exact Yz
  · have o1 := hz1 (by omega)
    have o2 := hz2 (by omega)
    have o2' := o2.2
    by_cases hl : x.sc.length = x.outs.length
    rotate_left
    · have hn : ¬ yrOk x := fun hc => hl hc.2.2.2.1
      (repeat' (first | refine Zs ?_ | refine Zk ?_ | ((first | refine Za ?_ | refine Zr ?_ | refine Zp ?_ | refine Ze ?_ | refine Zd ?_ | refine Zn ?_ | refine Zc ?_ | refine UnK.mk (fun b hb => ?_)); conv => whnf) | (refine Zb (fun h => ?_) (fun h => ?_) <;> first | exact Zx | (conv => whnf))))
      all_goals first | (exfalso; omega) | ((repeat' (first | exact trivial | exact Zm | exact Zl | exact ResLe.row0 rfl | exact Zi (by simp [yrErr, hn]) | exact Zo (h := by simp [yrErr, hn]) | exact ResLe.bo rfl rfl Iff.rfl | refine ResLe.agg ?_ | refine And.intro ?_ ?_ | ((conv => whnf); first | exact Zl | exact ResLe.row0 rfl | exact Zi (by simp [yrErr, hn]) | exact Zo (h := by simp [yrErr, hn]) | exact ResLe.bo rfl rfl Iff.rfl | refine ResLe.agg ?_ | refine And.intro ?_ ?_))); done)
    (repeat' (first | refine Zs ?_ | refine Zk ?_ | ((first | refine Za ?_ | refine Zr ?_ | refine Zp ?_ | refine Ze ?_ | refine Zd ?_ | refine Zn ?_ | refine Zc ?_ | refine UnK.mk (fun b hb => ?_)); conv => whnf) | (refine Zb (fun h => ?_) (fun h => ?_) <;> first | exact Zx | (conv => whnf))))
    all_goals first | (exfalso; omega) | skip
    refine (W.loopK (ι := Nat) [44, 45] [] (fun k => [(5, iA (x.sc.take k).sum), (46, iA k)]) (fun _ => []) (fun k => k ≤ x.sc.length ∧ ∀ i, i < k → 0 ≤ x.sc.getD i default ∧ x.sc.getD i default ≤ 1000000) (fun k => x.sc.length - k) 0 ⟨Nat.zero_le _, fun i hi => absurd hi (by omega)⟩ ?_ ?_ ?_)
    · exact Yz
    · exact Yz
    conv => whnf
    intro k ⟨hk, hz⟩
    by_cases hk' : k < x.sc.length
    · have b0 := sum_bnd (x.sc.take k) (fun i hi => by
        rw [List.length_take] at hi
        have : 0 ≤ x.sc.getD i 0 ∧ x.sc.getD i 0 ≤ 1000000 := hz i (by omega)
        simpa [List.getD_eq_getElem?_getD, List.getElem?_take, show i < k by omega] using this) k (by rw [List.length_take]; omega)
      rw [List.take_take, Nat.min_self] at b0
      have b1 : (x.sc.take (k + 1)).sum = (x.sc.take k).sum + x.sc.getD k default := sum_take x.sc k hk'
      (repeat' (first | refine Zs ?_ | refine Zk ?_ | ((first | refine Za ?_ | refine Zr ?_ | refine Zp ?_ | refine Ze ?_ | refine Zd ?_ | refine Zn ?_ | refine Zc ?_ | refine UnK.mk (fun b hb => ?_)); conv => whnf) | (refine Zb (fun h => ?_) (fun h => ?_) <;> first | exact Zx | (conv => whnf))))
      all_goals (try dsimp only [Int.toNat_natCast] at *)
      (repeat' (first | refine Zs ?_ | refine Zk ?_ | ((first | refine Za ?_ | refine Zr ?_ | refine Zp ?_ | refine Ze ?_ | refine Zd ?_ | refine Zn ?_ | refine Zc ?_ | refine UnK.mk (fun b hb => ?_)); conv => whnf) | (refine Zb (fun h => ?_) (fun h => ?_) <;> first | exact Zx | (conv => whnf))))
      all_goals (try dsimp only [Int.toNat_natCast] at *)
      · have hn : ¬ yrOk x := fun hc => by have := hc.2.2.2.2.1 k hk'; omega
        (repeat' (first | exact trivial | exact Zm | exact Zl | exact ResLe.row0 rfl | exact Zi (by simp [yrErr, hn]) | exact Zo (h := by simp [yrErr, hn]) | exact ResLe.bo rfl rfl Iff.rfl | refine ResLe.agg ?_ | refine And.intro ?_ ?_ | ((conv => whnf); first | exact Zl | exact ResLe.row0 rfl | exact Zi (by simp [yrErr, hn]) | exact Zo (h := by simp [yrErr, hn]) | exact ResLe.bo rfl rfl Iff.rfl | refine ResLe.agg ?_ | refine And.intro ?_ ?_)))
      · have hn : ¬ yrOk x := fun hc => by have := hc.2.2.2.2.1 k hk'; omega
        (repeat' (first | exact trivial | exact Zm | exact Zl | exact ResLe.row0 rfl | exact Zi (by simp [yrErr, hn]) | exact Zo (h := by simp [yrErr, hn]) | exact ResLe.bo rfl rfl Iff.rfl | refine ResLe.agg ?_ | refine And.intro ?_ ?_ | ((conv => whnf); first | exact Zl | exact ResLe.row0 rfl | exact Zi (by simp [yrErr, hn]) | exact Zo (h := by simp [yrErr, hn]) | exact ResLe.bo rfl rfl Iff.rfl | refine ResLe.agg ?_ | refine And.intro ?_ ?_)))
      refine ⟨k + 1, ⟨by omega, fun i hi => ?_⟩, by omega, ?_, ?_, ?_, ?_⟩
      · by_cases hik : i = k
        · subst hik; exact ⟨by assumption, by assumption⟩
        · exact hz i (by omega)
      all_goals exact Yz
    · obtain rfl : k = x.sc.length := by omega
      rw [List.take_length]
      by_cases hs : x.sc.sum = 0
      · have hn : ¬ yrOk x := fun hc => hc.2.2.2.2.2 hs
        (repeat' (first | refine Zs ?_ | refine Zk ?_ | ((first | refine Za ?_ | refine Zr ?_ | refine Zp ?_ | refine Ze ?_ | refine Zd ?_ | refine Zn ?_ | refine Zc ?_ | refine UnK.mk (fun b hb => ?_)); conv => whnf) | (refine Zb (fun h => ?_) (fun h => ?_) <;> first | exact Zx | (conv => whnf))))
        all_goals first | (exfalso; omega) | ((repeat' (first | exact trivial | exact Zm | exact Zl | exact ResLe.row0 rfl | exact Zi (by simp [yrErr, hn]) | exact Zo (h := by simp [yrErr, hn]) | exact ResLe.bo rfl rfl Iff.rfl | refine ResLe.agg ?_ | refine And.intro ?_ ?_ | ((conv => whnf); first | exact Zl | exact ResLe.row0 rfl | exact Zi (by simp [yrErr, hn]) | exact Zo (h := by simp [yrErr, hn]) | exact ResLe.bo rfl rfl Iff.rfl | refine ResLe.agg ?_ | refine And.intro ?_ ?_))); done)
      · have hn : yrOk x := ⟨hid, o1, o2, hl, hz, hs⟩
        (repeat' (first | refine Zs ?_ | refine Zk ?_ | ((first | refine Za ?_ | refine Zr ?_ | refine Zp ?_ | refine Ze ?_ | refine Zd ?_ | refine Zn ?_ | refine Zc ?_ | refine UnK.mk (fun b hb => ?_)); conv => whnf) | (refine Zb (fun h => ?_) (fun h => ?_) <;> first | exact Zx | (conv => whnf))))
        all_goals first | (exfalso; omega) | ((repeat' (first | exact trivial | exact Zm | exact Zl | exact ResLe.row0 rfl | exact Zi (by simp [yrErr, hn]) | exact Zo (h := by simp [yrErr, hn]) | exact ResLe.bo rfl rfl Iff.rfl | refine ResLe.agg ?_ | refine And.intro ?_ ?_ | ((conv => whnf); first | exact Zl | exact ResLe.row0 rfl | exact Zi (by simp [yrErr, hn]) | exact Zo (h := by simp [yrErr, hn]) | exact ResLe.bo rfl rfl Iff.rfl | refine ResLe.agg ?_ | refine And.intro ?_ ?_))); done)
theorem yrecipe_t (x : Rc) (h1 : x.ins.length ≤ 9223372036854775807) (h2 : x.outs.length ≤ 9223372036854775807) (h3 : x.sc.length ≤ 9223372036854775807) (g1 : ∀ y ∈ x.ins, y.c.size ≤ 9223372036854775807) (g2 : ∀ y ∈ x.outs, y.c.size ≤ 9223372036854775807) : ACalls XX 30 [rcA x] (iA (yrErr x)) := by
  have k2 := yneeds_t x.ins h1 g1
  have k3 := yneeds_t x.outs h2 g2
  by_cases hid : 1 ≤ x.id ∧ x.id ≤ 1000000
  rotate_left
  · have hn : ¬ yrOk x := fun hc => hid hc.1
    refine ACalls.of (n := Try.f30.ntmps) XX_ok Try.func30 rfl (by kernel_rfl) rfl rfl (Nat.le_of_ble_eq_true rfl) ?_
    (repeat' (first | refine Zs ?_ | refine Zk ?_ | ((first | refine Za ?_ | refine Zr ?_ | refine Zp ?_ | refine Ze ?_ | refine Zd ?_ | refine Zn ?_ | refine Zc ?_ | refine UnK.mk (fun b hb => ?_)); conv => whnf) | (refine Zb (fun h => ?_) (fun h => ?_) <;> first | exact Zx | (conv => whnf))))
    all_goals first | (exfalso; omega) | ((repeat' (first | exact trivial | exact Zm | exact Zl | exact ResLe.row0 rfl | exact Zi (by simp [yrErr, hn]) | exact Zo (h := by simp [yrErr, hn]) | exact ResLe.bo rfl rfl Iff.rfl | refine ResLe.agg ?_ | refine And.intro ?_ ?_ | ((conv => whnf); first | exact Zl | exact ResLe.row0 rfl | exact Zi (by simp [yrErr, hn]) | exact Zo (h := by simp [yrErr, hn]) | exact ResLe.bo rfl rfl Iff.rfl | refine ResLe.agg ?_ | refine And.intro ?_ ?_))); done)
  by_cases o1 : ndsOk x.ins
  rotate_left
  · have hn : ¬ yrOk x := fun hc => o1 hc.2.1
    rw [decide_eq_false o1] at k2
    refine ACalls.of (n := Try.f30.ntmps) XX_ok Try.func30 rfl (by kernel_rfl) rfl rfl (Nat.le_of_ble_eq_true rfl) ?_
    (repeat' (first | refine Zs ?_ | refine Zk ?_ | ((first | refine Za ?_ | refine Zr ?_ | refine Zp ?_ | refine Ze ?_ | refine Zd ?_ | refine Zn ?_ | refine Zc ?_ | refine UnK.mk (fun b hb => ?_) | refine Zy k2 ?_); conv => whnf) | (refine Zb (fun h => ?_) (fun h => ?_) <;> first | exact Zx | (conv => whnf))))
    all_goals first | (exfalso; omega) | ((repeat' (first | exact trivial | exact Zm | exact Zl | exact ResLe.row0 rfl | exact Zi (by simp [yrErr, hn]) | exact Zo (h := by simp [yrErr, hn]) | exact ResLe.bo rfl rfl Iff.rfl | refine ResLe.agg ?_ | refine And.intro ?_ ?_ | ((conv => whnf); first | exact Zl | exact ResLe.row0 rfl | exact Zi (by simp [yrErr, hn]) | exact Zo (h := by simp [yrErr, hn]) | exact ResLe.bo rfl rfl Iff.rfl | refine ResLe.agg ?_ | refine And.intro ?_ ?_))); done)
  rw [decide_eq_true o1] at k2
  by_cases o2 : ndsOk x.outs
  rotate_left
  · have hn : ¬ yrOk x := fun hc => o2 hc.2.2.1
    rw [decide_eq_false o2] at k3
    refine ACalls.of (n := Try.f30.ntmps) XX_ok Try.func30 rfl (by kernel_rfl) rfl rfl (Nat.le_of_ble_eq_true rfl) ?_
    (repeat' (first | refine Zs ?_ | refine Zk ?_ | ((first | refine Za ?_ | refine Zr ?_ | refine Zp ?_ | refine Ze ?_ | refine Zd ?_ | refine Zn ?_ | refine Zc ?_ | refine UnK.mk (fun b hb => ?_) | refine Zy k2 ?_ | refine Zy k3 ?_); conv => whnf) | (refine Zb (fun h => ?_) (fun h => ?_) <;> first | exact Zx | (conv => whnf))))
    all_goals first | (exfalso; omega) | ((repeat' (first | exact trivial | exact Zm | exact Zl | exact ResLe.row0 rfl | exact Zi (by simp [yrErr, hn]) | exact Zo (h := by simp [yrErr, hn]) | exact ResLe.bo rfl rfl Iff.rfl | refine ResLe.agg ?_ | refine And.intro ?_ ?_ | ((conv => whnf); first | exact Zl | exact ResLe.row0 rfl | exact Zi (by simp [yrErr, hn]) | exact Zo (h := by simp [yrErr, hn]) | exact ResLe.bo rfl rfl Iff.rfl | refine ResLe.agg ?_ | refine And.intro ?_ ?_))); done)
  rw [decide_eq_true o2] at k3
  have o2' := o2.2
  by_cases hl : x.sc.length = x.outs.length
  rotate_left
  · have hn : ¬ yrOk x := fun hc => hl hc.2.2.2.1
    refine ACalls.of (n := Try.f30.ntmps) XX_ok Try.func30 rfl (by kernel_rfl) rfl rfl (Nat.le_of_ble_eq_true rfl) ?_
    (repeat' (first | refine Zs ?_ | refine Zk ?_ | ((first | refine Za ?_ | refine Zr ?_ | refine Zp ?_ | refine Ze ?_ | refine Zd ?_ | refine Zn ?_ | refine Zc ?_ | refine UnK.mk (fun b hb => ?_) | refine Zy k2 ?_ | refine Zy k3 ?_); conv => whnf) | (refine Zb (fun h => ?_) (fun h => ?_) <;> first | exact Zx | (conv => whnf))))
    all_goals first | (exfalso; omega) | ((repeat' (first | exact trivial | exact Zm | exact Zl | exact ResLe.row0 rfl | exact Zi (by simp [yrErr, hn]) | exact Zo (h := by simp [yrErr, hn]) | exact ResLe.bo rfl rfl Iff.rfl | refine ResLe.agg ?_ | refine And.intro ?_ ?_ | ((conv => whnf); first | exact Zl | exact ResLe.row0 rfl | exact Zi (by simp [yrErr, hn]) | exact Zo (h := by simp [yrErr, hn]) | exact ResLe.bo rfl rfl Iff.rfl | refine ResLe.agg ?_ | refine And.intro ?_ ?_))); done)
  refine ACalls.of (n := Try.f30.ntmps) XX_ok Try.func30 rfl (by kernel_rfl) rfl rfl (Nat.le_of_ble_eq_true rfl) ?_
  (repeat' (first | refine Zs ?_ | refine Zk ?_ | ((first | refine Za ?_ | refine Zr ?_ | refine Zp ?_ | refine Ze ?_ | refine Zd ?_ | refine Zn ?_ | refine Zc ?_ | refine UnK.mk (fun b hb => ?_) | refine Zy k2 ?_ | refine Zy k3 ?_); conv => whnf) | (refine Zb (fun h => ?_) (fun h => ?_) <;> first | exact Zx | (conv => whnf))))
  all_goals first | (exfalso; omega) | skip
  refine (W.loopK (ι := Nat) [1] [1] (fun k => [(3, iA (x.sc.take k).sum), (4, iA k)]) (fun _ => []) (fun k => k ≤ x.sc.length ∧ ∀ i, i < k → 0 ≤ x.sc.getD i default ∧ x.sc.getD i default ≤ 1000000) (fun k => x.sc.length - k) 0 ⟨Nat.zero_le _, fun i hi => absurd hi (by omega)⟩ ?_ ?_ ?_)
  · exact Yz
  · exact Yz
  conv => whnf
  intro k ⟨hk, hz⟩
  by_cases hk' : k < x.sc.length
  · have b0 := sum_bnd (x.sc.take k) (fun i hi => by
      rw [List.length_take] at hi
      have : 0 ≤ x.sc.getD i 0 ∧ x.sc.getD i 0 ≤ 1000000 := hz i (by omega)
      simpa [List.getD_eq_getElem?_getD, List.getElem?_take, show i < k by omega] using this) k (by rw [List.length_take]; omega)
    rw [List.take_take, Nat.min_self] at b0
    have b1 : (x.sc.take (k + 1)).sum = (x.sc.take k).sum + x.sc.getD k default := sum_take x.sc k hk'
    (repeat' (first | refine Zs ?_ | refine Zk ?_ | ((first | refine Za ?_ | refine Zr ?_ | refine Zp ?_ | refine Ze ?_ | refine Zd ?_ | refine Zn ?_ | refine Zc ?_ | refine UnK.mk (fun b hb => ?_)); conv => whnf) | (refine Zb (fun h => ?_) (fun h => ?_) <;> first | exact Zx | (conv => whnf))))
    all_goals (try dsimp only [Int.toNat_natCast] at *)
    (repeat' (first | refine Zs ?_ | refine Zk ?_ | ((first | refine Za ?_ | refine Zr ?_ | refine Zp ?_ | refine Ze ?_ | refine Zd ?_ | refine Zn ?_ | refine Zc ?_ | refine UnK.mk (fun b hb => ?_)); conv => whnf) | (refine Zb (fun h => ?_) (fun h => ?_) <;> first | exact Zx | (conv => whnf))))
    all_goals (try dsimp only [Int.toNat_natCast] at *)
    · have hn : ¬ yrOk x := fun hc => by have := hc.2.2.2.2.1 k hk'; omega
      (repeat' (first | exact trivial | exact Zm | exact Zl | exact ResLe.row0 rfl | exact Zi (by simp [yrErr, hn]) | exact Zo (h := by simp [yrErr, hn]) | exact ResLe.bo rfl rfl Iff.rfl | refine ResLe.agg ?_ | refine And.intro ?_ ?_ | ((conv => whnf); first | exact Zl | exact ResLe.row0 rfl | exact Zi (by simp [yrErr, hn]) | exact Zo (h := by simp [yrErr, hn]) | exact ResLe.bo rfl rfl Iff.rfl | refine ResLe.agg ?_ | refine And.intro ?_ ?_)))
    · have hn : ¬ yrOk x := fun hc => by have := hc.2.2.2.2.1 k hk'; omega
      (repeat' (first | exact trivial | exact Zm | exact Zl | exact ResLe.row0 rfl | exact Zi (by simp [yrErr, hn]) | exact Zo (h := by simp [yrErr, hn]) | exact ResLe.bo rfl rfl Iff.rfl | refine ResLe.agg ?_ | refine And.intro ?_ ?_ | ((conv => whnf); first | exact Zl | exact ResLe.row0 rfl | exact Zi (by simp [yrErr, hn]) | exact Zo (h := by simp [yrErr, hn]) | exact ResLe.bo rfl rfl Iff.rfl | refine ResLe.agg ?_ | refine And.intro ?_ ?_)))
    refine ⟨k + 1, ⟨by omega, fun i hi => ?_⟩, by omega, ?_, ?_, ?_, ?_⟩
    · by_cases hik : i = k
      · subst hik; exact ⟨by assumption, by assumption⟩
      · exact hz i (by omega)
    all_goals exact Yz
  · obtain rfl : k = x.sc.length := by omega
    rw [List.take_length]
    by_cases hs : x.sc.sum = 0
    · have hn : ¬ yrOk x := fun hc => hc.2.2.2.2.2 hs
      (repeat' (first | refine Zs ?_ | refine Zk ?_ | ((first | refine Za ?_ | refine Zr ?_ | refine Zp ?_ | refine Ze ?_ | refine Zd ?_ | refine Zn ?_ | refine Zc ?_ | refine UnK.mk (fun b hb => ?_)); conv => whnf) | (refine Zb (fun h => ?_) (fun h => ?_) <;> first | exact Zx | (conv => whnf))))
      all_goals first | (exfalso; omega) | ((repeat' (first | exact trivial | exact Zm | exact Zl | exact ResLe.row0 rfl | exact Zi (by simp [yrErr, hn]) | exact Zo (h := by simp [yrErr, hn]) | exact ResLe.bo rfl rfl Iff.rfl | refine ResLe.agg ?_ | refine And.intro ?_ ?_ | ((conv => whnf); first | exact Zl | exact ResLe.row0 rfl | exact Zi (by simp [yrErr, hn]) | exact Zo (h := by simp [yrErr, hn]) | exact ResLe.bo rfl rfl Iff.rfl | refine ResLe.agg ?_ | refine And.intro ?_ ?_))); done)
    · have hn : yrOk x := ⟨hid, o1, o2, hl, hz, hs⟩
      (repeat' (first | refine Zs ?_ | refine Zk ?_ | ((first | refine Za ?_ | refine Zr ?_ | refine Zp ?_ | refine Ze ?_ | refine Zd ?_ | refine Zn ?_ | refine Zc ?_ | refine UnK.mk (fun b hb => ?_)); conv => whnf) | (refine Zb (fun h => ?_) (fun h => ?_) <;> first | exact Zx | (conv => whnf))))
      all_goals first | (exfalso; omega) | ((repeat' (first | exact trivial | exact Zm | exact Zl | exact ResLe.row0 rfl | exact Zi (by simp [yrErr, hn]) | exact Zo (h := by simp [yrErr, hn]) | exact ResLe.bo rfl rfl Iff.rfl | refine ResLe.agg ?_ | refine And.intro ?_ ?_ | ((conv => whnf); first | exact Zl | exact ResLe.row0 rfl | exact Zi (by simp [yrErr, hn]) | exact Zo (h := by simp [yrErr, hn]) | exact ResLe.bo rfl rfl Iff.rfl | refine ResLe.agg ?_ | refine And.intro ?_ ?_))); done)
end Go.Proofs.Ytoeghejbgibioaa
