/- Needs compared (does not build yet: NOTES). -/
import Derived.Test.YtoeghejbgibioaaY8
namespace Go.Proofs.Ytoeghejbgibioaa
open Go Go.RowKit
set_option linter.unusedVariables false
set_option linter.unusedSimpArgs false
set_option maxRecDepth 100000
set_option maxHeartbeats 4000000
attribute [local irreducible] ResLe AVle ArgLe ArgP EntLe Dle ResH ArgQ strEq strLt

theorem ysame_t (us : List Nd) (hL : us.length ≤ 9223372036854775807) : ACalls XX 17 [.dat (ndD us), .dat (ndD us)] (bA true) := by
  have he : EqN Try.prog 31 := eqN_mk Try.eqGuardType31 Try.underlying31 Try.stoodInHeld31 (by decide) (by decide) rfl rfl (by kernel_rfl) (by kernel_rfl) Try.underlying9 Try.underlying3
  have hs : ∀ c, strEq c c = true := fun c => (strEq_iff c c).2 rfl
  refine ACalls.of (n := Try.f17.ntmps) XX_ok Try.func17 rfl (by kernel_rfl) rfl rfl (Nat.le_of_ble_eq_true rfl) ?_
  (repeat' (first | refine Zs ?_ | refine Zk ?_ | ((first | refine Za ?_ | refine Zr ?_ | refine Zp ?_ | refine Ze ?_ | refine Zd ?_ | refine W.drawT dr17 rfl mixed rfl ?_ | refine Zn ?_ | refine Zc ?_ | refine UnK.mk (fun b hb => ?_)); conv => whnf) | (refine Zb (fun h => ?_) (fun h => ?_) <;> first | exact Zx | (conv => whnf))))
  all_goals first | (exfalso; omega) | skip
  refine (W.loopK (ι := Nat) [0, 1] [] (fun k => [(5, iA k)]) (fun _ => []) (fun k => k ≤ us.length) (fun k => us.length - k) 0 (Nat.zero_le _) ?_ ?_ ?_)
  · exact Yz
  · exact Yz
  conv => whnf
  intro k hk
  by_cases hk' : k < us.length
  · (repeat' (first | refine Zs ?_ | refine Zk ?_ | ((first | refine Za ?_ | refine Zr ?_ | refine Zp ?_ | refine Ze ?_ | refine Zd ?_ | refine W.drawT dr17 rfl mixed rfl ?_ | refine Zn ?_ | refine Zc ?_ | refine UnK.mk (fun b hb => ?_)); conv => whnf) | (refine Zb (fun h => ?_) (fun h => ?_) <;> first | exact Zx | (conv => whnf))))
    all_goals (try dsimp only [Int.toNat_natCast] at *)
    (repeat' (first | refine Zs ?_ | refine Zk ?_ | ((first | refine Za ?_ | refine Zr ?_ | refine Zp ?_ | refine Ze ?_ | refine Zd ?_ | refine W.drawT dr17 rfl mixed rfl ?_ | refine Zn ?_ | refine Zc ?_ | refine UnK.mk (fun b hb => ?_)); conv => whnf) | (refine Zb (fun h => ?_) (fun h => ?_) <;> first | exact Zx | (conv => whnf))))
    all_goals (try dsimp only [Int.toNat_natCast] at *)
    all_goals first | (exfalso; omega) | (exfalso; rw [hs] at h; simp at h; done) | (exfalso; simp [hs] at h; done) | skip
    all_goals (refine ⟨k + 1, by omega, by omega, ?_, ?_, ?_, ?_⟩)
    all_goals exact Yz
  · (repeat' (first | refine Zs ?_ | refine Zk ?_ | ((first | refine Za ?_ | refine Zr ?_ | refine Zp ?_ | refine Ze ?_ | refine Zd ?_ | refine W.drawT dr17 rfl mixed rfl ?_ | refine Zn ?_ | refine Zc ?_ | refine UnK.mk (fun b hb => ?_)); conv => whnf) | (refine Zb (fun h => ?_) (fun h => ?_) <;> first | exact Zx | (conv => whnf))))
    all_goals first | (exfalso; omega) | ((repeat' (first | exact trivial | exact Zm | exact Zl | exact ResLe.row0 rfl | exact Zi (by first | rfl | omega) | exact Zo (h := by first | rfl | omega) | exact ResLe.bo rfl rfl Iff.rfl | refine ResLe.agg ?_ | refine And.intro ?_ ?_ | ((conv => whnf); first | exact Zl | exact ResLe.row0 rfl | exact Zi (by first | rfl | omega) | exact Zo (h := by first | rfl | omega) | exact ResLe.bo rfl rfl Iff.rfl | refine ResLe.agg ?_ | refine And.intro ?_ ?_))); done)
end Go.Proofs.Ytoeghejbgibioaa
