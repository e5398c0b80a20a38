/- The laws of layer 1 as contracts. -/
import Derived.Test.YtlbacbhafmfbjaaRef2
namespace Go.Proofs.Ytlbacbhafmfbjaa
open Go.RowKit
set_option linter.unusedVariables false

theorem divV_lit (m : Int) (N c q : Nat) (h : ¬ (c = 0 ∨ m < 0 ∨ 3 < m)) (hq : N / c + upN m (N / c) (N % c) c = q) (h2 : q < 18446744073709551616) : divV m N c = .tuple #[.int .u64 (q : Int), .int .i64 0] := divV_ok m N c q h hq h2

theorem awake1 (w : World) : Calls Try.prog 20 #[.int .u64 7, .int .u64 1, .int .u64 2, .int .i64 3] w fun e w' => e = .returned (.tuple #[.int .u64 4, .int .i64 0]) ∧ Below w.heap.size w w' :=
  (exMulDiv_any 7 1 2 3 (by omega) (by omega) (by omega) w).mono fun e w' ⟨he, hb⟩ => ⟨by rw [he, divV_ok 3 (7 * 1) 2 4 (by omega) (by decide) (by omega)]; rfl, hb⟩
theorem awake2 (w : World) : Calls Try.prog 20 #[.int .u64 5, .int .u64 1, .int .u64 2, .int .i64 3] w fun e w' => e = .returned (.tuple #[.int .u64 2, .int .i64 0]) ∧ Below w.heap.size w w' :=
  (exMulDiv_any 5 1 2 3 (by omega) (by omega) (by omega) w).mono fun e w' ⟨he, hb⟩ => ⟨by rw [he, divV_ok 3 (5 * 1) 2 2 (by omega) (by decide) (by omega)]; rfl, hb⟩
theorem awake3 (w : World) : Calls Try.prog 20 #[.int .u64 9223372036854775808, .int .u64 4, .int .u64 8, .int .i64 0] w fun e w' => e = .returned (.tuple #[.int .u64 4611686018427387904, .int .i64 0]) ∧ Below w.heap.size w w' :=
  (exMulDiv_any 9223372036854775808 4 8 0 (by omega) (by omega) (by omega) w).mono fun e w' ⟨he, hb⟩ => ⟨by rw [he, divV_ok 0 (9223372036854775808 * 4) 8 4611686018427387904 (by omega) (by decide) (by omega)]; rfl, hb⟩
theorem awake4 (w : World) : Calls Try.prog 22 #[.int .u64 12, .int .u64 18] w fun e w' => e = .returned (.int .u64 6) ∧ Below w.heap.size w w' :=
  (exGcd_any 12 18 (by omega) (by omega) w).mono fun e w' ⟨he, hb⟩ => ⟨he, hb⟩

set_option maxHeartbeats 400000 in
theorem awake_any (w : World) : Calls Try.prog 13 #[] w fun e w' => e = .returned (.bool true) ∧ Below w.heap.size w w' := by
  go_enter Try.func13, Try.ntmps13
  go_wp2_with fail
  refine (awake1 _).mono ?_
  rintro e w1 ⟨rfl, hb1⟩
  go_wp2_with fail
  refine (awake2 _).mono ?_
  rintro e w2 ⟨rfl, hb2⟩
  go_wp2_with fail
  refine (awake3 _).mono ?_
  rintro e w3 ⟨rfl, hb3⟩
  go_wp2_with fail
  refine (awake4 _).mono ?_
  rintro e w4 ⟨rfl, hb4⟩
  go_wp2_with fail
  go_ret
  exact ⟨rfl, (by repeat (first | exact Below.refl _ _ | assumption | refine ext_alloc ?_ _ | refine Below.drew ?_ | refine drewN_below ?_ _ | refine ext_trans ?_ (by assumption) | refine Below.alloc ?_ ?_ _ | refine Below.setCell ?_ ?_ _ | omega | (simp <;> omega)))⟩

set_option maxHeartbeats 400000 in
theorem same_any (a b c d : Int) (w : World) (h1 : a = c) (h2 : b = d) : Calls Try.prog 17 #[.agg #[.int .u64 a, .int .u64 b], .agg #[.int .u64 c, .int .u64 d]] w fun e w' => e = .returned (.bool true) ∧ Below w.heap.size w w' := by
  subst h1 h2
  go_enter Try.func17, Try.ntmps17
  go_wp2
  go_ret
  exact ⟨rfl, (by repeat (first | exact Below.refl _ _ | assumption | refine ext_alloc ?_ _ | refine Below.drew ?_ | refine drewN_below ?_ _ | refine ext_trans ?_ (by assumption) | refine Below.alloc ?_ ?_ _ | refine Below.setCell ?_ ?_ _ | omega | (simp <;> omega)))⟩

set_option maxHeartbeats 400000 in
theorem lawDiv (hi lo c : Nat) (small : Bool) (m : Int) (hhi : hi < 18446744073709551616) (hlo : lo < 18446744073709551616) (hc : c < 18446744073709551616) (w : World) :
    Calls Try.prog 3 #[.int .u64 hi, .int .u64 lo, .int .u64 c, .bool small, .int .i64 m] w fun e w' => e = .returned (.bool true) ∧ Below w.heap.size w w' := by
  have Hd := Lib.hid (fun H hH w => exDiv_any H lo c m hH hlo hc w)
  have Hr := Lib.hid (fun H hH w => rDiv_any H lo c m hH hlo hc w)
  unfold divV at Hd Hr
  by_cases h : small = true ∧ 0 < c
  · obtain ⟨rfl, h0⟩ := h
    have h0' : (0 : Int) < (c : Int) := by omega
    have hz : ((c : Int) == 0) = false := by simp; omega
    have e1 : (hi : Int) % (c : Int) = ((hi % c : Nat) : Int) := rfl
    have hm : hi % c < 18446744073709551616 := Nat.lt_of_le_of_lt (Nat.mod_le _ _) hhi
    generalize hi % c = H at *
    have Hd' := Lib.hid (Hd.out H hm)
    have Hr' := Lib.hid (Hr.out H hm)
    generalize divS m (H * 18446744073709551616 + lo) c = u at *
    go_enter Try.func3, Try.ntmps3
    go_wp2_with fail
    refine (Hd'.out _).mono ?_
    rintro e w1 ⟨rfl, hb1⟩
    go_wp2_with fail
    refine (Hr'.out _).mono ?_
    rintro e w2 ⟨rfl, hb2⟩
    go_wp2_with fail
    refine (awake_any _).mono ?_
    rintro e w3 ⟨rfl, hb3⟩
    go_wp2_with fail
    go_ret
    exact ⟨rfl, (by repeat (first | exact Below.refl _ _ | assumption | refine ext_alloc ?_ _ | refine Below.drew ?_ | refine drewN_below ?_ _ | refine ext_trans ?_ (by assumption) | refine Below.alloc ?_ ?_ _ | refine Below.setCell ?_ ?_ _ | omega | (simp <;> omega)))⟩
  · have Hd' := Lib.hid (Hd.out hi hhi)
    have Hr' := Lib.hid (Hr.out hi hhi)
    generalize divS m (hi * 18446744073709551616 + lo) c = u at *
    cases small
    · go_enter Try.func3, Try.ntmps3
      go_wp2_with fail
      refine (Hd'.out _).mono ?_
      rintro e w1 ⟨rfl, hb1⟩
      go_wp2_with fail
      refine (Hr'.out _).mono ?_
      rintro e w2 ⟨rfl, hb2⟩
      go_wp2_with fail
      refine (awake_any _).mono ?_
      rintro e w3 ⟨rfl, hb3⟩
      go_wp2_with fail
      go_ret
      exact ⟨rfl, (by repeat (first | exact Below.refl _ _ | assumption | refine ext_alloc ?_ _ | refine Below.drew ?_ | refine drewN_below ?_ _ | refine ext_trans ?_ (by assumption) | refine Below.alloc ?_ ?_ _ | refine Below.setCell ?_ ?_ _ | omega | (simp <;> omega)))⟩
    · have h0 : c = 0 := by
        rcases Nat.eq_zero_or_pos c with h1 | h1
        · exact h1
        · exact absurd ⟨rfl, h1⟩ h
      subst h0
      go_enter Try.func3, Try.ntmps3
      go_wp2_with fail
      refine (Hd'.out _).mono ?_
      rintro e w1 ⟨rfl, hb1⟩
      go_wp2_with fail
      refine (Hr'.out _).mono ?_
      rintro e w2 ⟨rfl, hb2⟩
      go_wp2_with fail
      refine (awake_any _).mono ?_
      rintro e w3 ⟨rfl, hb3⟩
      go_wp2_with fail
      go_ret
      exact ⟨rfl, (by repeat (first | exact Below.refl _ _ | assumption | refine ext_alloc ?_ _ | refine Below.drew ?_ | refine drewN_below ?_ _ | refine ext_trans ?_ (by assumption) | refine Below.alloc ?_ ?_ _ | refine Below.setCell ?_ ?_ _ | omega | (simp <;> omega)))⟩

end Go.Proofs.Ytlbacbhafmfbjaa
