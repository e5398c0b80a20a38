/- Matches compared. -/
import Derived.Test.YtoeghejbgibioaaY7
namespace Go.Proofs.Ytoeghejbgibioaa
open Go Go.RowKit
set_option linter.unusedVariables false
set_option linter.unusedSimpArgs false
set_option maxRecDepth 100000
set_option maxHeartbeats 4000000
attribute [local irreducible] ResLe AVle ArgLe ArgP EntLe Dle ResH ArgQ strEq strLt

structure Mt where
  a : Int
  b : Int
  q : Int
  deriving Inhabited
def mtE (x : Mt) (j : Nat) : D := match j with
  | 0 => .val (.int .i64 x.a)
  | 1 => .val (.int .i64 x.b)
  | _ => .val (.int .i64 x.q)
abbrev mtD (us : List Mt) : D := .lst 3 us.length (rowF mtE us)
theorem ymsame_t (us : List Mt) (hL : us.length ≤ 9223372036854775807) : ACalls XX 23 [.dat (mtD us), .dat (mtD us)] (bA true) := by
  have he : EqS Try.prog 56 3 := eqS_mk Try.eqGuardType56 Try.underlying56 Try.stoodInHeld56 (by kernel_rfl) rfl
  refine ACalls.of (n := Try.f23.ntmps) XX_ok Try.func23 rfl (by kernel_rfl) rfl rfl (Nat.le_of_ble_eq_true rfl) ?_
  (repeat' (first | refine Zs ?_ | refine Zk ?_ | ((first | refine Za ?_ | refine Zr ?_ | refine Zp ?_ | refine Ze ?_ | refine Zd ?_ | refine W.drawT dr23 rfl mixed rfl ?_ | refine Zn ?_ | refine Zc ?_ | refine UnK.mk (fun b hb => ?_)); conv => whnf) | (refine Zb (fun h => ?_) (fun h => ?_) <;> first | exact Zx | (conv => whnf))))
  all_goals first | (exfalso; omega) | skip
  refine (W.loopK (ι := Nat) [0, 1] [] (fun k => [(5, iA k)]) (fun _ => []) (fun k => k ≤ us.length) (fun k => us.length - k) 0 (Nat.zero_le _) ?_ ?_ ?_)
  · exact Yz
  · exact Yz
  conv => whnf
  intro k hk
  by_cases hk' : k < us.length
  · (repeat' (first | refine Zs ?_ | refine Zk ?_ | ((first | refine Za ?_ | refine Zr ?_ | refine Zp ?_ | refine Ze ?_ | refine Zd ?_ | refine W.drawT dr23 rfl mixed rfl ?_ | refine Zn ?_ | refine Zc ?_ | refine UnK.mk (fun b hb => ?_)); conv => whnf) | (refine Zb (fun h => ?_) (fun h => ?_) <;> first | exact Zx | (conv => whnf))))
    all_goals (try dsimp only [Int.toNat_natCast] at *)
    (repeat' (first | refine Zs ?_ | refine Zk ?_ | ((first | refine Za ?_ | refine Zr ?_ | refine Zp ?_ | refine Ze ?_ | refine Zd ?_ | refine W.drawT dr23 rfl mixed rfl ?_ | refine Zn ?_ | refine Zc ?_ | refine UnK.mk (fun b hb => ?_)); conv => whnf) | (refine Zb (fun h => ?_) (fun h => ?_) <;> first | exact Zx | (conv => whnf))))
    all_goals (try dsimp only [Int.toNat_natCast] at *)
    all_goals first | (exfalso; omega) | (exfalso; simp at h; done) | skip
    all_goals (refine ⟨k + 1, by omega, by omega, ?_, ?_, ?_, ?_⟩)
    all_goals exact Yz
  · (repeat' (first | refine Zs ?_ | refine Zk ?_ | ((first | refine Za ?_ | refine Zr ?_ | refine Zp ?_ | refine Ze ?_ | refine Zd ?_ | refine W.drawT dr23 rfl mixed rfl ?_ | refine Zn ?_ | refine Zc ?_ | refine UnK.mk (fun b hb => ?_)); conv => whnf) | (refine Zb (fun h => ?_) (fun h => ?_) <;> first | exact Zx | (conv => whnf))))
    all_goals first | (exfalso; omega) | ((repeat' (first | exact trivial | exact Zm | exact Zl | exact ResLe.row0 rfl | exact Zi (by first | rfl | omega) | exact Zo (h := by first | rfl | omega) | exact ResLe.bo rfl rfl Iff.rfl | refine ResLe.agg ?_ | refine And.intro ?_ ?_ | ((conv => whnf); first | exact Zl | exact ResLe.row0 rfl | exact Zi (by first | rfl | omega) | exact Zo (h := by first | rfl | omega) | exact ResLe.bo rfl rfl Iff.rfl | refine ResLe.agg ?_ | refine And.intro ?_ ?_))); done)
end Go.Proofs.Ytoeghejbgibioaa
