/- Settling: dated quantities in range. -/
import Derived.Test.YtoeghejbgibioaaY6
namespace Go.Proofs.Ytoeghejbgibioaa
open Go Go.RowKit
set_option linter.unusedVariables false
set_option linter.unusedSimpArgs false
set_option maxRecDepth 100000
set_option maxHeartbeats 4000000
attribute [local irreducible] ResLe AVle ArgLe ArgP EntLe Dle ResH ArgQ strEq strLt

structure Dt where
  d : Int
  q : Int
  deriving Inhabited
def dtE (x : Dt) (j : Nat) : D := match j with
  | 0 => .val (.int .i64 x.d)
  | _ => .val (.int .i64 x.q)
abbrev dtD (us : List Dt) : D := .lst 2 us.length (rowF dtE us)
def dtR (x : Dt) : Prop := 0 ≤ x.d ∧ x.d ≤ 36524 ∧ 0 ≤ x.q ∧ x.q ≤ 1000000000
instance (x : Dt) : Decidable (dtR x) := by unfold dtR; exact inferInstance
def dtA (ds : List Dt) (i : Nat) : Int := if ¬ dtR (ds.getD i default) then 2 else if 0 < i ∧ (ds.getD i default).d < (ds.getD (i - 1) default).d then 9 else 0
def dtF (ds : List Dt) : Nat → Nat → Int
  | 0, _ => 0
  | m + 1, i => if dtA ds i ≠ 0 then dtA ds i else dtF ds m (i + 1)
def dtErr (ds : List Dt) : Int := dtF ds ds.length 0
theorem dtF_step (ds : List Dt) {k : Nat} (h : k < ds.length) : dtF ds (ds.length - k) k = if dtA ds k ≠ 0 then dtA ds k else dtF ds (ds.length - (k + 1)) (k + 1) := by
  rw [show ds.length - k = (ds.length - (k + 1)) + 1 by omega]
  rfl
theorem dtF_end (ds : List Dt) : dtF ds (ds.length - ds.length) ds.length = 0 := by rw [Nat.sub_self]; rfl
theorem ycheck_t (ds : List Dt) (hL : ds.length ≤ 9223372036854775807) : ACalls XX 47 [.dat (dtD ds)] (iA (dtErr ds)) := by
  refine ACalls.of (n := Try.f47.ntmps) XX_ok Try.func47 rfl (by kernel_rfl) rfl rfl (Nat.le_of_ble_eq_true rfl) ?_
  (repeat' (first | refine Zs ?_ | refine Zk ?_ | ((first | refine Za ?_ | refine Zr ?_ | refine Zp ?_ | refine Ze ?_ | refine Zd ?_ | refine W.drawT dr47 rfl mixed rfl ?_ | refine Zn ?_ | refine Zc ?_ | refine UnK.mk (fun b hb => ?_)); conv => whnf) | (refine Zb (fun h => ?_) (fun h => ?_) <;> first | exact Zx | (conv => whnf))))
  refine (W.loopK (ι := Nat) [0, 5, 6] [] (fun k => [(7, iA k)]) (fun _ => []) (fun k => k ≤ ds.length ∧ dtF ds (ds.length - k) k = dtErr ds) (fun k => ds.length - k) 0 ⟨Nat.zero_le _, rfl⟩ ?_ ?_ ?_)
  · exact Yz
  · exact Yz
  conv => whnf
  intro k ⟨hk, hz⟩
  by_cases hk' : k < ds.length
  · rw [dtF_step ds hk'] at hz
    have e : 0 < k → ((k : Int) - 1).toNat = k - 1 := by omega
    by_cases hr : dtR (ds.getD k default)
    rotate_left
    · have ha : dtA ds k = 2 := if_pos hr
      rw [ha, if_pos (by decide)] at hz
      unfold dtR at hr
      (repeat' (first | refine Zs ?_ | refine Zk ?_ | ((first | refine Za ?_ | refine Zr ?_ | refine Zp ?_ | refine Ze ?_ | refine Zd ?_ | refine W.drawT dr47 rfl mixed rfl ?_ | refine Zn ?_ | refine Zc ?_ | refine UnK.mk (fun b hb => ?_)); conv => whnf) | (refine Zb (fun h => ?_) (fun h => ?_) <;> first | exact Zx | (conv => whnf))))
      all_goals (try dsimp only [Int.toNat_natCast] at *)
      (repeat' (first | refine Zs ?_ | refine Zk ?_ | ((first | refine Za ?_ | refine Zr ?_ | refine Zp ?_ | refine Ze ?_ | refine Zd ?_ | refine W.drawT dr47 rfl mixed rfl ?_ | refine Zn ?_ | refine Zc ?_ | refine UnK.mk (fun b hb => ?_)); conv => whnf) | (refine Zb (fun h => ?_) (fun h => ?_) <;> first | exact Zx | (conv => whnf))))
      all_goals (try dsimp only [Int.toNat_natCast] at *)
      all_goals first | (exfalso; omega) | ((repeat' (first | exact trivial | exact Zm | exact Zl | exact ResLe.row0 rfl | exact Zi (by exact hz) | exact Zo (h := by exact hz) | exact ResLe.bo rfl rfl Iff.rfl | refine ResLe.agg ?_ | refine And.intro ?_ ?_ | ((conv => whnf); first | exact Zl | exact ResLe.row0 rfl | exact Zi (by exact hz) | exact Zo (h := by exact hz) | exact ResLe.bo rfl rfl Iff.rfl | refine ResLe.agg ?_ | refine And.intro ?_ ?_))); done)
    · have hr2 := hr
      unfold dtR at hr2
      have ha : dtA ds k = if 0 < k ∧ (ds.getD k default).d < (ds.getD (k - 1) default).d then 9 else 0 := if_neg (fun h => h hr)
      by_cases h9 : 0 < k ∧ (ds.getD k default).d < (ds.getD (k - 1) default).d
      · rw [ha, if_pos h9, if_pos (by decide)] at hz
        have h9' : (ds.getD k default).d < (ds.getD ((k : Int) - 1).toNat default).d := by rw [e h9.1]; exact h9.2
        (repeat' (first | refine Zs ?_ | refine Zk ?_ | ((first | refine Za ?_ | refine Zr ?_ | refine Zp ?_ | refine Ze ?_ | refine Zd ?_ | refine W.drawT dr47 rfl mixed rfl ?_ | refine Zn ?_ | refine Zc ?_ | refine UnK.mk (fun b hb => ?_)); conv => whnf) | (refine Zb (fun h => ?_) (fun h => ?_) <;> first | exact Zx | (conv => whnf))))
        all_goals (try dsimp only [Int.toNat_natCast] at *)
        (repeat' (first | refine Zs ?_ | refine Zk ?_ | ((first | refine Za ?_ | refine Zr ?_ | refine Zp ?_ | refine Ze ?_ | refine Zd ?_ | refine W.drawT dr47 rfl mixed rfl ?_ | refine Zn ?_ | refine Zc ?_ | refine UnK.mk (fun b hb => ?_)); conv => whnf) | (refine Zb (fun h => ?_) (fun h => ?_) <;> first | exact Zx | (conv => whnf))))
        all_goals (try dsimp only [Int.toNat_natCast] at *)
        all_goals first | (exfalso; omega) | ((repeat' (first | exact trivial | exact Zm | exact Zl | exact ResLe.row0 rfl | exact Zi (by exact hz) | exact Zo (h := by exact hz) | exact ResLe.bo rfl rfl Iff.rfl | refine ResLe.agg ?_ | refine And.intro ?_ ?_ | ((conv => whnf); first | exact Zl | exact ResLe.row0 rfl | exact Zi (by exact hz) | exact Zo (h := by exact hz) | exact ResLe.bo rfl rfl Iff.rfl | refine ResLe.agg ?_ | refine And.intro ?_ ?_))); done)
      · rw [ha, if_neg h9, if_neg (by decide)] at hz
        have h9' : 0 < k → (ds.getD ((k : Int) - 1).toNat default).d ≤ (ds.getD k default).d := fun h0 => by rw [e h0]; omega
        (repeat' (first | refine Zs ?_ | refine Zk ?_ | ((first | refine Za ?_ | refine Zr ?_ | refine Zp ?_ | refine Ze ?_ | refine Zd ?_ | refine W.drawT dr47 rfl mixed rfl ?_ | refine Zn ?_ | refine Zc ?_ | refine UnK.mk (fun b hb => ?_)); conv => whnf) | (refine Zb (fun h => ?_) (fun h => ?_) <;> first | exact Zx | (conv => whnf))))
        all_goals (try dsimp only [Int.toNat_natCast] at *)
        (repeat' (first | refine Zs ?_ | refine Zk ?_ | ((first | refine Za ?_ | refine Zr ?_ | refine Zp ?_ | refine Ze ?_ | refine Zd ?_ | refine W.drawT dr47 rfl mixed rfl ?_ | refine Zn ?_ | refine Zc ?_ | refine UnK.mk (fun b hb => ?_)); conv => whnf) | (refine Zb (fun h => ?_) (fun h => ?_) <;> first | exact Zx | (conv => whnf))))
        all_goals (try dsimp only [Int.toNat_natCast] at *)
        all_goals first | (exfalso; omega) | (exfalso; have := h9' (by omega); omega) | skip
        all_goals (refine ⟨k + 1, ⟨by omega, hz⟩, by omega, ?_, ?_, ?_, ?_⟩)
        all_goals exact Yz
  · obtain rfl : k = ds.length := by omega
    rw [dtF_end] at hz
    (repeat' (first | refine Zs ?_ | refine Zk ?_ | ((first | refine Za ?_ | refine Zr ?_ | refine Zp ?_ | refine Ze ?_ | refine Zd ?_ | refine W.drawT dr47 rfl mixed rfl ?_ | refine Zn ?_ | refine Zc ?_ | refine UnK.mk (fun b hb => ?_)); conv => whnf) | (refine Zb (fun h => ?_) (fun h => ?_) <;> first | exact Zx | (conv => whnf))))
    all_goals first | (exfalso; omega) | ((repeat' (first | exact trivial | exact Zm | exact Zl | exact ResLe.row0 rfl | exact Zi (by exact hz) | exact Zo (h := by exact hz) | exact ResLe.bo rfl rfl Iff.rfl | refine ResLe.agg ?_ | refine And.intro ?_ ?_ | ((conv => whnf); first | exact Zl | exact ResLe.row0 rfl | exact Zi (by exact hz) | exact Zo (h := by exact hz) | exact ResLe.bo rfl rfl Iff.rfl | refine ResLe.agg ?_ | refine And.intro ?_ ?_))); done)
theorem rdated_t (ds : List Dt) (hL : ds.length ≤ 9223372036854775807) : ACalls XX 48 [.dat (dtD ds)] (iA (dtErr ds)) := by
  refine ACalls.of (n := Try.f48.ntmps) XX_ok Try.func48 rfl (by kernel_rfl) rfl rfl (Nat.le_of_ble_eq_true rfl) ?_
  (repeat' (first | refine Zs ?_ | refine Zk ?_ | ((first | refine Za ?_ | refine Zr ?_ | refine Zp ?_ | refine Ze ?_ | refine Zd ?_ | refine W.drawT dr48 rfl mixed rfl ?_ | refine Zn ?_ | refine Zc ?_ | refine UnK.mk (fun b hb => ?_)); conv => whnf) | (refine Zb (fun h => ?_) (fun h => ?_) <;> first | exact Zx | (conv => whnf))))
  refine (W.loopK (ι := Nat) [0] [] (fun k => [(3, iA k)]) (fun _ => []) (fun k => k ≤ ds.length ∧ dtF ds (ds.length - k) k = dtErr ds) (fun k => ds.length - k) 0 ⟨Nat.zero_le _, rfl⟩ ?_ ?_ ?_)
  · exact Yz
  · exact Yz
  conv => whnf
  intro k ⟨hk, hz⟩
  by_cases hk' : k < ds.length
  · rw [dtF_step ds hk'] at hz
    have e : 0 < k → ((k : Int) - 1).toNat = k - 1 := by omega
    by_cases hr : dtR (ds.getD k default)
    rotate_left
    · have ha : dtA ds k = 2 := if_pos hr
      rw [ha, if_pos (by decide)] at hz
      unfold dtR at hr
      (repeat' (first | refine Zs ?_ | refine Zk ?_ | ((first | refine Za ?_ | refine Zr ?_ | refine Zp ?_ | refine Ze ?_ | refine Zd ?_ | refine W.drawT dr48 rfl mixed rfl ?_ | refine Zn ?_ | refine Zc ?_ | refine UnK.mk (fun b hb => ?_)); conv => whnf) | (refine Zb (fun h => ?_) (fun h => ?_) <;> first | exact Zx | (conv => whnf))))
      all_goals (try dsimp only [Int.toNat_natCast] at *)
      (repeat' (first | refine Zs ?_ | refine Zk ?_ | ((first | refine Za ?_ | refine Zr ?_ | refine Zp ?_ | refine Ze ?_ | refine Zd ?_ | refine W.drawT dr48 rfl mixed rfl ?_ | refine Zn ?_ | refine Zc ?_ | refine UnK.mk (fun b hb => ?_)); conv => whnf) | (refine Zb (fun h => ?_) (fun h => ?_) <;> first | exact Zx | (conv => whnf))))
      all_goals (try dsimp only [Int.toNat_natCast] at *)
      all_goals first | (exfalso; omega) | ((repeat' (first | exact trivial | exact Zm | exact Zl | exact ResLe.row0 rfl | exact Zi (by exact hz) | exact Zo (h := by exact hz) | exact ResLe.bo rfl rfl Iff.rfl | refine ResLe.agg ?_ | refine And.intro ?_ ?_ | ((conv => whnf); first | exact Zl | exact ResLe.row0 rfl | exact Zi (by exact hz) | exact Zo (h := by exact hz) | exact ResLe.bo rfl rfl Iff.rfl | refine ResLe.agg ?_ | refine And.intro ?_ ?_))); done)
    · have hr2 := hr
      unfold dtR at hr2
      have ha : dtA ds k = if 0 < k ∧ (ds.getD k default).d < (ds.getD (k - 1) default).d then 9 else 0 := if_neg (fun h => h hr)
      by_cases h9 : 0 < k ∧ (ds.getD k default).d < (ds.getD (k - 1) default).d
      · rw [ha, if_pos h9, if_pos (by decide)] at hz
        have h9' : (ds.getD k default).d < (ds.getD ((k : Int) - 1).toNat default).d := by rw [e h9.1]; exact h9.2
        (repeat' (first | refine Zs ?_ | refine Zk ?_ | ((first | refine Za ?_ | refine Zr ?_ | refine Zp ?_ | refine Ze ?_ | refine Zd ?_ | refine W.drawT dr48 rfl mixed rfl ?_ | refine Zn ?_ | refine Zc ?_ | refine UnK.mk (fun b hb => ?_)); conv => whnf) | (refine Zb (fun h => ?_) (fun h => ?_) <;> first | exact Zx | (conv => whnf))))
        all_goals (try dsimp only [Int.toNat_natCast] at *)
        (repeat' (first | refine Zs ?_ | refine Zk ?_ | ((first | refine Za ?_ | refine Zr ?_ | refine Zp ?_ | refine Ze ?_ | refine Zd ?_ | refine W.drawT dr48 rfl mixed rfl ?_ | refine Zn ?_ | refine Zc ?_ | refine UnK.mk (fun b hb => ?_)); conv => whnf) | (refine Zb (fun h => ?_) (fun h => ?_) <;> first | exact Zx | (conv => whnf))))
        all_goals (try dsimp only [Int.toNat_natCast] at *)
        all_goals first | (exfalso; omega) | ((repeat' (first | exact trivial | exact Zm | exact Zl | exact ResLe.row0 rfl | exact Zi (by exact hz) | exact Zo (h := by exact hz) | exact ResLe.bo rfl rfl Iff.rfl | refine ResLe.agg ?_ | refine And.intro ?_ ?_ | ((conv => whnf); first | exact Zl | exact ResLe.row0 rfl | exact Zi (by exact hz) | exact Zo (h := by exact hz) | exact ResLe.bo rfl rfl Iff.rfl | refine ResLe.agg ?_ | refine And.intro ?_ ?_))); done)
      · rw [ha, if_neg h9, if_neg (by decide)] at hz
        have h9' : 0 < k → (ds.getD ((k : Int) - 1).toNat default).d ≤ (ds.getD k default).d := fun h0 => by rw [e h0]; omega
        (repeat' (first | refine Zs ?_ | refine Zk ?_ | ((first | refine Za ?_ | refine Zr ?_ | refine Zp ?_ | refine Ze ?_ | refine Zd ?_ | refine W.drawT dr48 rfl mixed rfl ?_ | refine Zn ?_ | refine Zc ?_ | refine UnK.mk (fun b hb => ?_)); conv => whnf) | (refine Zb (fun h => ?_) (fun h => ?_) <;> first | exact Zx | (conv => whnf))))
        all_goals (try dsimp only [Int.toNat_natCast] at *)
        (repeat' (first | refine Zs ?_ | refine Zk ?_ | ((first | refine Za ?_ | refine Zr ?_ | refine Zp ?_ | refine Ze ?_ | refine Zd ?_ | refine W.drawT dr48 rfl mixed rfl ?_ | refine Zn ?_ | refine Zc ?_ | refine UnK.mk (fun b hb => ?_)); conv => whnf) | (refine Zb (fun h => ?_) (fun h => ?_) <;> first | exact Zx | (conv => whnf))))
        all_goals (try dsimp only [Int.toNat_natCast] at *)
        all_goals first | (exfalso; omega) | (exfalso; have := h9' (by omega); omega) | skip
        all_goals (refine ⟨k + 1, ⟨by omega, hz⟩, by omega, ?_, ?_, ?_, ?_⟩)
        all_goals exact Yz
  · obtain rfl : k = ds.length := by omega
    rw [dtF_end] at hz
    (repeat' (first | refine Zs ?_ | refine Zk ?_ | ((first | refine Za ?_ | refine Zr ?_ | refine Zp ?_ | refine Ze ?_ | refine Zd ?_ | refine W.drawT dr48 rfl mixed rfl ?_ | refine Zn ?_ | refine Zc ?_ | refine UnK.mk (fun b hb => ?_)); conv => whnf) | (refine Zb (fun h => ?_) (fun h => ?_) <;> first | exact Zx | (conv => whnf))))
    all_goals first | (exfalso; omega) | ((repeat' (first | exact trivial | exact Zm | exact Zl | exact ResLe.row0 rfl | exact Zi (by exact hz) | exact Zo (h := by exact hz) | exact ResLe.bo rfl rfl Iff.rfl | refine ResLe.agg ?_ | refine And.intro ?_ ?_ | ((conv => whnf); first | exact Zl | exact ResLe.row0 rfl | exact Zi (by exact hz) | exact Zo (h := by exact hz) | exact ResLe.bo rfl rfl Iff.rfl | refine ResLe.agg ?_ | refine And.intro ?_ ?_))); done)
end Go.Proofs.Ytoeghejbgibioaa
