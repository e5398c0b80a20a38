/- Contracts of exact.MulDiv, MulMod, Compare, Gcd, Reduce. -/
import Derived.Test.YtekdobbhkklapaaGreatEx1
namespace Go.Proofs.YtekdobbhkklapaaGreat
open Go.RowKit
set_option linter.unusedVariables false

theorem mul_lt_128 (a b : Nat) (ha : a < 18446744073709551616) (hb : b < 18446744073709551616) : a * b / 18446744073709551616 < 18446744073709551616 := by
  rw [Nat.div_lt_iff_lt_mul (by omega)]
  exact Nat.mul_lt_mul'' ha hb

theorem mul_join (a b : Nat) : a * b / 18446744073709551616 * 18446744073709551616 + a * b % 18446744073709551616 = a * b := by
  have := Nat.div_add_mod (a * b) 18446744073709551616
  omega

set_option maxHeartbeats 400000 in
theorem exMulDiv_any (a b c : Nat) (m : Int) (ha : a < 18446744073709551616) (hb : b < 18446744073709551616) (hc : c < 18446744073709551616) (w : World) :
    Calls Tryz.prog 68 #[.int .u64 a, .int .u64 b, .int .u64 c, .int .i64 m] w fun e w' =>
      e = .returned (divV m (a * b) c) ∧ Below w.heap.size w w' := by
  have hcon := exMul_any a b ha hb
  have h1 := mul_lt_128 a b ha hb
  have h2 : a * b % 18446744073709551616 < 18446744073709551616 := Nat.mod_lt _ (by omega)
  have hj := mul_join a b
  generalize a * b / 18446744073709551616 = H at *
  generalize a * b % 18446744073709551616 = L at *
  have hcon2 := exDiv_any H L c m h1 h2 hc
  rw [hj] at hcon2
  have Hc := Lib.hid hcon
  have Hc2 := Lib.hid hcon2
  obtain ⟨u, hu⟩ : ∃ u : Nat × Int, divS m (a * b) c = u := ⟨_, rfl⟩
  unfold divV at Hc2 ⊢
  rw [hu] at Hc2 ⊢
  clear hcon hcon2 hj hu
  go_enter Tryz.func68, Tryz.ntmps68
  go_wp2_with (first | (go_at_call 82; refine (Hc.out _).mono ?_; rintro e w1 ⟨rfl, hb1⟩) | (go_at_call 81; refine (Hc2.out _).mono ?_; rintro e w2 ⟨rfl, hb2⟩))
  go_ret2
  exact ⟨rfl, hb1.trans (hb2.mono hb1.size)⟩

set_option maxHeartbeats 400000 in
theorem exMulMod_any (a b c : Nat) (ha : a < 18446744073709551616) (hb : b < 18446744073709551616) (hc : c < 18446744073709551616) (w : World) :
    Calls Tryz.prog 72 #[.int .u64 a, .int .u64 b, .int .u64 c] w fun e w' =>
      e = .returned (.int .u64 ((if c = 0 then 0 else a * b % c : Nat) : Int)) ∧ Below w.heap.size w w' := by
  by_cases h0 : c = 0
  · subst h0
    go_enter Tryz.func72, Tryz.ntmps72
    go_wp2
    go_ret
    exact ⟨rfl, (by repeat (first | exact Below.refl _ _ | assumption | refine ext_alloc ?_ _ | refine Below.drew ?_ | refine drewN_below ?_ _ | refine ext_trans ?_ (by assumption) | refine Below.alloc ?_ ?_ _ | refine Below.setCell ?_ ?_ _ | omega | (simp <;> omega)))⟩
  · have HV : Hid (((if c = 0 then 0 else a * b % c : Nat) : Int) = ((a * b % c : Nat) : Int)) := by
      show ((if c = 0 then 0 else a * b % c : Nat) : Int) = ((a * b % c : Nat) : Int)
      rw [if_neg h0]
    rw [HV.out]
    have h0b : ((c : Int) == 0) = false := by simp; omega
    have hcon := exMul_any a b ha hb
    have h1 := mul_lt_128 a b ha hb
    have h2 : a * b % 18446744073709551616 < 18446744073709551616 := Nat.mod_lt _ (by omega)
    have hj := mul_join a b
    generalize a * b / 18446744073709551616 = H at *
    generalize a * b % 18446744073709551616 = L at *
    have hcon2 := rem64_any H L c h1 h2 hc (by omega)
    rw [hj] at hcon2
    have Hc := Lib.hid hcon
    have Hc2 := Lib.hid hcon2
    clear hcon hcon2 hj HV
    generalize a * b % c = r at *
    go_enter Tryz.func72, Tryz.ntmps72
    go_wp2_with fail
    refine (Hc.out _).mono ?_
    rintro e w1 ⟨rfl, hb1⟩
    go_wp2_with fail
    refine (Hc2.out _).mono ?_
    rintro e w2 ⟨rfl, hb2⟩
    go_wp2_with fail
    go_ret
    exact ⟨rfl, (by repeat (first | exact Below.refl _ _ | assumption | refine ext_alloc ?_ _ | refine Below.drew ?_ | refine drewN_below ?_ _ | refine ext_trans ?_ (by assumption) | refine Below.alloc ?_ ?_ _ | refine Below.setCell ?_ ?_ _ | omega | (simp <;> omega)))⟩

theorem cmpW_prod (H L H' L' : Nat) (hL : L < 18446744073709551616) (hL' : L' < 18446744073709551616) :
    cmpW H L H' L' = (if H * 18446744073709551616 + L < H' * 18446744073709551616 + L' then -1 else if H * 18446744073709551616 + L = H' * 18446744073709551616 + L' then 0 else 1) := by
  unfold cmpW
  by_cases h1 : H * 18446744073709551616 + L < H' * 18446744073709551616 + L'
  · rw [if_pos h1, if_pos (by omega)]
  · rw [if_neg h1, if_neg (by omega)]
    by_cases h2 : H * 18446744073709551616 + L = H' * 18446744073709551616 + L'
    · rw [if_pos h2, if_pos (by omega)]
    · rw [if_neg h2, if_neg (by omega)]

/-- -1, 0 or 1. -/
def cmpN (x y : Nat) : Int := if x < y then -1 else if x = y then 0 else 1

theorem mod_lt64 (a : Nat) : a % 18446744073709551616 < 18446744073709551616 := Nat.mod_lt _ (by omega)

end Go.Proofs.YtekdobbhkklapaaGreat
