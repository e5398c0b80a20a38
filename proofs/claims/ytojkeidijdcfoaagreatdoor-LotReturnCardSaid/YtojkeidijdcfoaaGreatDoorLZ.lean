/- The law of stocks: Validate, Find, Covers. The law of lots divided. -/
import Derived.Test.YtojkeidijdcfoaaGreatDoorCZ
import Derived.Test.YtojkeidijdcfoaaGreatDoorGB
import Derived.Test.YtojkeidijdcfoaaGreatDoorB13

namespace Go.Proofs.YtojkeidijdcfoaaGreatDoor
open Go Go.RowKit
set_option linter.unusedVariables false
set_option linter.unusedSimpArgs false
set_option maxRecDepth 100000
set_option maxHeartbeats 4000000
attribute [local irreducible] ResLe AVle ArgLe ArgP EntLe Dle ResH ArgQ
end Go.Proofs.YtojkeidijdcfoaaGreatDoor

namespace Go.Proofs.YtojkeidijdcfoaaGreatDoor
open Go Go.RowKit
set_option linter.unusedVariables false
set_option linter.unusedSimpArgs false
set_option maxRecDepth 100000
set_option maxHeartbeats 4000000
attribute [local irreducible] ResLe AVle ArgLe ArgP EntLe Dle ResH ArgQ

def nW (ss : List Lt) : Nat → Int
  | 0 => 0
  | k + 1 => IntKind.i64.wrap (nW ss k + ((ss.getD k default).us.length : Int))
def lightW (ss : List Lt) : Prop := ∀ i, i < ss.length → i < 80 ∧ nW ss (i + 1) ≤ 300
noncomputable instance (ss : List Lt) : Decidable (lightW ss) := Classical.propDecidable _
theorem lightW_len {ss : List Lt} (h : lightW ss) : ss.length ≤ 80 := by
  rcases Nat.lt_or_ge 80 ss.length with h1 | h1
  · have := (h 80 h1).1; omega
  · exact h1
theorem lightW_t (ss : List Lt) (hL : ss.length ≤ 9223372036854775807) : ACalls XX 9 [.dat (ltD ss)] (bA (decide (lightW ss))) := by
  refine ACalls.of (n := Tryz.f9.ntmps) XX_ok Tryz.func9 rfl (by kernel_rfl) rfl rfl (Nat.le_of_ble_eq_true rfl) ?_
  (repeat' (first | refine Zs ?_ | refine Zk ?_ | ((first | refine Za ?_ | refine Zr ?_ | refine Zp ?_ | refine Ze ?_ | refine Zd ?_ | refine Zn ?_ | refine Zc ?_ | refine UnK.mk (fun b hb => ?_)); conv => whnf) | (refine Zb (fun h => ?_) (fun h => ?_) <;> first | exact Zx | (conv => whnf))))
  refine (W.loopK (ι := Nat) [0] [] (fun k => [(4, iA k), (3, iA (nW ss k))]) (fun _ => []) (fun k => k ≤ ss.length ∧ ∀ i, i < k → i < 80 ∧ nW ss (i + 1) ≤ 300) (fun k => ss.length - k) 0 ⟨Nat.zero_le _, fun i hi => absurd hi (by omega)⟩ ?_ ?_ ?_)
  · exact Yz
  · exact Yz
  conv => whnf
  intro k ⟨hk, hz⟩
  by_cases hk' : k < ss.length
  · by_cases hok : k < 80 ∧ nW ss (k + 1) ≤ 300
    · (repeat' (first | refine Zs ?_ | refine Zk ?_ | ((first | refine Za ?_ | refine Zr ?_ | refine Zp ?_ | refine Ze ?_ | refine Zd ?_ | refine Zn ?_ | refine Zc ?_ | refine UnK.mk (fun b hb => ?_)); conv => whnf) | (refine Zb (fun h => ?_) (fun h => ?_) <;> first | exact Zx | (conv => whnf))))
      refine NumK.as (nW ss (k + 1)) rfl ?_
      conv => whnf
      (repeat' (first | refine Zs ?_ | refine Zk ?_ | ((first | refine Za ?_ | refine Zr ?_ | refine Zp ?_ | refine Ze ?_ | refine Zd ?_ | refine Zn ?_ | refine Zc ?_ | refine UnK.mk (fun b hb => ?_)); conv => whnf) | (refine Zb (fun h => ?_) (fun h => ?_) <;> first | exact Zx | (conv => whnf))))
      all_goals first | (exfalso; omega) | skip
      refine ⟨k + 1, ⟨by omega, fun i hi => ?_⟩, by omega, ?_, ?_, ?_, ?_⟩
      · by_cases hik : i = k
        · subst hik; exact hok
        · exact hz i (by omega)
      all_goals exact Yz
    · have hn : ¬ lightW ss := fun h => hok (h k hk')
      (repeat' (first | refine Zs ?_ | refine Zk ?_ | ((first | refine Za ?_ | refine Zr ?_ | refine Zp ?_ | refine Ze ?_ | refine Zd ?_ | refine Zn ?_ | refine Zc ?_ | refine UnK.mk (fun b hb => ?_)); conv => whnf) | (refine Zb (fun h => ?_) (fun h => ?_) <;> first | exact Zx | (conv => whnf))))
      refine NumK.as (nW ss (k + 1)) rfl ?_
      conv => whnf
      (repeat' (first | refine Zs ?_ | refine Zk ?_ | ((first | refine Za ?_ | refine Zr ?_ | refine Zp ?_ | refine Ze ?_ | refine Zd ?_ | refine Zn ?_ | refine Zc ?_ | refine UnK.mk (fun b hb => ?_)); conv => whnf) | (refine Zb (fun h => ?_) (fun h => ?_) <;> first | exact Zx | (conv => whnf))))
      all_goals first | ((repeat' (first | exact trivial | exact Zm | exact Zl | exact ResLe.row0 rfl | exact Zi (by exact hn) | exact Zo (h := by exact hn) | exact ResLe.bo rfl rfl Iff.rfl | refine ResLe.agg ?_ | refine And.intro ?_ ?_ | ((conv => whnf); first | exact Zl | exact ResLe.row0 rfl | exact Zi (by exact hn) | exact Zo (h := by exact hn) | exact ResLe.bo rfl rfl Iff.rfl | refine ResLe.agg ?_ | refine And.intro ?_ ?_))); done) | (exfalso; omega)
  · have hn : lightW ss := fun i hi => hz i (by omega)
    (repeat' (first | refine Zs ?_ | refine Zk ?_ | ((first | refine Za ?_ | refine Zr ?_ | refine Zp ?_ | refine Ze ?_ | refine Zd ?_ | refine Zn ?_ | refine Zc ?_ | refine UnK.mk (fun b hb => ?_)); conv => whnf) | (refine Zb (fun h => ?_) (fun h => ?_) <;> first | exact Zx | (conv => whnf))))
    all_goals (repeat' (first | exact trivial | exact Zm | exact Zl | exact ResLe.row0 rfl | exact Zi (by exact hn) | exact Zo (h := by exact hn) | exact ResLe.bo rfl rfl Iff.rfl | refine ResLe.agg ?_ | refine And.intro ?_ ?_ | ((conv => whnf); first | exact Zl | exact ResLe.row0 rfl | exact Zi (by exact hn) | exact Zo (h := by exact hn) | exact ResLe.bo rfl rfl Iff.rfl | refine ResLe.agg ?_ | refine And.intro ?_ ?_)))
end Go.Proofs.YtojkeidijdcfoaaGreatDoor
