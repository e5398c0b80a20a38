/- The division of a product, by descriptions. -/
import Derived.Test.YtacpjihbbmoolaaGreatDoorW0
import Derived.Test.YtacpjihbbmoolaaGreatDoorEX

namespace Go.Proofs.YtacpjihbbmoolaaGreatDoor
open Go Go.RowKit
set_option linter.unusedVariables false
set_option linter.unusedSimpArgs false
set_option maxRecDepth 100000
set_option maxHeartbeats 4000000

abbrev uA (z : Int) : AV := .dat (.val (.int .u64 z))
theorem fnOk_MulDiv : FnOk Tryz.prog 66 := ⟨_, Tryz.func66, rfl, rfl⟩
theorem mulDiv_t (a b c : Int) (ha : 0 ≤ a ∧ a < 18446744073709551616) (hb : 0 ≤ b ∧ b < 18446744073709551616) (hc : 0 < c ∧ c < 18446744073709551616) (hq : a * b / c < 18446744073709551616) :
    ACalls XX 66 [uA a, uA b, uA c, iA 0] (.tup [uA (a * b / c), iA 0]) := by
  obtain ⟨x, rfl⟩ := Int.eq_ofNat_of_zero_le ha.1
  obtain ⟨y, rfl⟩ := Int.eq_ofNat_of_zero_le hb.1
  obtain ⟨z, rfl⟩ := Int.eq_ofNat_of_zero_le (Int.le_of_lt hc.1)
  have e : (x : Int) * y / z = ((x * y / z : Nat) : Int) := by simp
  rw [e] at hq ⊢
  refine ACalls.of_calls (vs := [.int .u64 x, .int .u64 y, .int .u64 z, .int .i64 0]) (v := .tuple #[.int .u64 ((x * y / z : Nat) : Int), .int .i64 0]) fnOk_MulDiv rfl rfl fun w => ?_
  have h := exMulDiv_any x y z 0 (by omega) (by omega) (by omega) w
  rw [divV_ok 0 (x * y) z (x * y / z) (by omega) (by unfold upN; simp [upB]) (by omega)] at h
  exact h
end Go.Proofs.YtacpjihbbmoolaaGreatDoor
