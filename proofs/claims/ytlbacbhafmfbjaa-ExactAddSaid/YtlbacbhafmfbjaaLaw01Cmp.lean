/- The laws of comparing. -/
import Derived.Test.YtlbacbhafmfbjaaLaw01
namespace Go.Proofs.Ytlbacbhafmfbjaa
open Go.RowKit
set_option linter.unusedVariables false

theorem cmpN_le (x y : Nat) : cmpN x y ≤ 0 ↔ x ≤ y := by unfold cmpN; split <;> (try split) <;> omega
theorem cmpN_neg (x y : Nat) : cmpN y x = - cmpN x y := by unfold cmpN; repeat (first | split | omega)
theorem cmpN_eq (x y : Nat) (h : x = y) : cmpN x y = 0 := by unfold cmpN; repeat (first | split | omega)
theorem cmpN_rng (x y : Nat) : -1 ≤ cmpN x y ∧ cmpN x y ≤ 1 := by unfold cmpN; repeat (first | split | omega)

theorem order_trans (a b c d p q : Nat) (h1 : a * max d 1 ≤ c * max b 1) (h2 : c * max q 1 ≤ p * max d 1) : a * max q 1 ≤ p * max b 1 := by
  have hd : 0 < max d 1 := by omega
  generalize max d 1 = D at *
  generalize max b 1 = B at *
  generalize max q 1 = Q at *
  have h3 := Nat.mul_le_mul_right Q h1
  have h4 := Nat.mul_le_mul_right B h2
  refine Nat.le_of_mul_le_mul_right (c := D) ?_ hd
  calc a * Q * D = a * D * Q := by ac_rfl
    _ ≤ c * B * Q := h3
    _ = c * Q * B := by ac_rfl
    _ ≤ p * D * B := h4
    _ = p * B * D := by ac_rfl

set_option maxHeartbeats 400000 in
theorem lawOrder (a b c d p q : Nat) (ha : a < 18446744073709551616) (hb : b < 18446744073709551616) (hc : c < 18446744073709551616) (hd : d < 18446744073709551616) (hp : p < 18446744073709551616) (hq : q < 18446744073709551616) (w : World) :
    Calls Try.prog 5 #[.int .u64 a, .int .u64 b, .int .u64 c, .int .u64 d, .int .u64 p, .int .u64 q] w fun e w' => e = .returned (.bool true) ∧ Below w.heap.size w w' := by
  have H1 := Lib.hid fun w => exCompare_any a b c d ha hb hc hd w
  have H2 := Lib.hid fun w => exCompare_any c d p q hc hd hp hq w
  have H3 := Lib.hid fun w => exCompare_any a b p q ha hb hp hq w
  have ht := order_trans a b c d p q
  have t1 := cmpN_le (a * max d 1) (c * max b 1)
  have t2 := cmpN_le (c * max q 1) (p * max d 1)
  have t3 := cmpN_le (a * max q 1) (p * max b 1)
  rw [← t1, ← t2, ← t3] at ht
  clear t1 t2 t3
  generalize cmpN (a * max d 1) (c * max b 1) = x at *
  generalize cmpN (c * max q 1) (p * max d 1) = y at *
  generalize cmpN (a * max q 1) (p * max b 1) = z at *
  clear ha hb hc hd hp hq
  by_cases hx : x ≤ 0
  · by_cases hy : y ≤ 0
    · have hz := ht hx hy
      clear ht
      go_enter Try.func5, Try.ntmps5
      go_wp2_with fail
      refine (H1.out _).mono ?_
      rintro e w1 ⟨rfl, hb1⟩
      go_wp2_with fail
      refine (H2.out _).mono ?_
      rintro e w2 ⟨rfl, hb2⟩
      go_wp2_with fail
      refine (H3.out _).mono ?_
      rintro e w3 ⟨rfl, hb3⟩
      go_wp2_with fail
      refine (awake_any _).mono ?_
      rintro e w4 ⟨rfl, hb4⟩
      go_wp2_with fail
      go_ret
      exact ⟨rfl, (by repeat (first | exact Below.refl _ _ | assumption | refine ext_alloc ?_ _ | refine Below.drew ?_ | refine drewN_below ?_ _ | refine ext_trans ?_ (by assumption) | refine Below.alloc ?_ ?_ _ | refine Below.setCell ?_ ?_ _ | omega | (simp <;> omega)))⟩
    · clear ht
      go_enter Try.func5, Try.ntmps5
      go_wp2_with fail
      refine (H1.out _).mono ?_
      rintro e w1 ⟨rfl, hb1⟩
      go_wp2_with fail
      refine (H2.out _).mono ?_
      rintro e w2 ⟨rfl, hb2⟩
      go_wp2_with fail
      refine (awake_any _).mono ?_
      rintro e w4 ⟨rfl, hb4⟩
      go_wp2_with fail
      go_ret
      exact ⟨rfl, (by repeat (first | exact Below.refl _ _ | assumption | refine ext_alloc ?_ _ | refine Below.drew ?_ | refine drewN_below ?_ _ | refine ext_trans ?_ (by assumption) | refine Below.alloc ?_ ?_ _ | refine Below.setCell ?_ ?_ _ | omega | (simp <;> omega)))⟩
  · clear ht
    go_enter Try.func5, Try.ntmps5
    go_wp2_with fail
    refine (H1.out _).mono ?_
    rintro e w1 ⟨rfl, hb1⟩
    go_wp2_with fail
    refine (awake_any _).mono ?_
    rintro e w4 ⟨rfl, hb4⟩
    go_wp2_with fail
    go_ret
    exact ⟨rfl, (by repeat (first | exact Below.refl _ _ | assumption | refine ext_alloc ?_ _ | refine Below.drew ?_ | refine drewN_below ?_ _ | refine ext_trans ?_ (by assumption) | refine Below.alloc ?_ ?_ _ | refine Below.setCell ?_ ?_ _ | omega | (simp <;> omega)))⟩

theorem expand_eq (a b k : Nat) (hk : 0 < k) (hb : 0 < b) : a * k * max b 1 = a * max (b * k) 1 := by
  have : 0 < b * k := Nat.mul_pos hb hk
  rw [show max b 1 = b by omega, show max (b * k) 1 = b * k by omega]
  ac_rfl
theorem shr32 (a : Nat) (ha : a < 18446744073709551616) : a / 4294967296 < 4294967296 := by omega
theorem mul_lt_32 (a b : Nat) (ha : a < 4294967296) (hb : b < 4294967296) : a * b < 18446744073709551616 := by
  have := Nat.mul_le_mul (show a ≤ 4294967295 by omega) (show b ≤ 4294967295 by omega)
  omega

set_option maxHeartbeats 800000 in
theorem lawCompare (a b c d k : Nat) (ha : a < 18446744073709551616) (hb : b < 18446744073709551616) (hc : c < 18446744073709551616) (hd : d < 18446744073709551616) (hk : k < 18446744073709551616) (w : World) :
    Calls Try.prog 4 #[.int .u64 a, .int .u64 b, .int .u64 c, .int .u64 d, .int .u64 k] w fun e w' => e = .returned (.bool true) ∧ Below w.heap.size w w' := by
  have H1 := Lib.hid fun w => exCompare_any a b c d ha hb hc hd w
  have H2 := Lib.hid fun w => rCompare_any a b c d ha hb hc hd w
  have H3 := Lib.hid fun w => exCompare_any c d a b hc hd ha hb w
  rw [cmpN_neg (a * max d 1) (c * max b 1)] at H3
  have hr := cmpN_rng (a * max d 1) (c * max b 1)
  generalize cmpN (a * max d 1) (c * max b 1) = x at *
  have e0 : (x != x) = false := by simp
  have e1 : (-x != -x) = false := by simp
  have s1 : (a : Int) / 4294967296 = ((a / 4294967296 : Nat) : Int) := rfl
  have s2 : (b : Int) / 4294967296 = ((b / 4294967296 : Nat) : Int) := rfl
  have s3 : (k : Int) / 4294967296 = ((k / 4294967296 : Nat) : Int) := rfl
  have ha' := shr32 a ha
  have hb' := shr32 b hb
  have hk' := shr32 k hk
  generalize a / 4294967296 = A at *
  generalize b / 4294967296 = B at *
  generalize k / 4294967296 = K at *
  by_cases hK : K = 0
  · subst hK
    go_enter Try.func4, Try.ntmps4
    go_wp2_with fail
    refine (H1.out _).mono ?_
    rintro e w1 ⟨rfl, hb1⟩
    go_wp2_with fail
    refine (H2.out _).mono ?_
    rintro e w2 ⟨rfl, hb2⟩
    go_wp2_with fail
    refine (H3.out _).mono ?_
    rintro e w3 ⟨rfl, hb3⟩
    go_wp2_with fail
    refine (awake_any _).mono ?_
    rintro e w4 ⟨rfl, hb4⟩
    go_wp2_with fail
    go_ret
    exact ⟨rfl, (by repeat (first | exact Below.refl _ _ | assumption | refine ext_alloc ?_ _ | refine Below.drew ?_ | refine drewN_below ?_ _ | refine ext_trans ?_ (by assumption) | refine Below.alloc ?_ ?_ _ | refine Below.setCell ?_ ?_ _ | omega | (simp <;> omega)))⟩
  · have n1 : ((K : Int) == 0) = false := by simp; omega
    by_cases hB : B = 0
    · subst hB
      go_enter Try.func4, Try.ntmps4
      go_wp2_with fail
      refine (H1.out _).mono ?_
      rintro e w1 ⟨rfl, hb1⟩
      go_wp2_with fail
      refine (H2.out _).mono ?_
      rintro e w2 ⟨rfl, hb2⟩
      go_wp2_with fail
      refine (H3.out _).mono ?_
      rintro e w3 ⟨rfl, hb3⟩
      go_wp2_with fail
      refine (awake_any _).mono ?_
      rintro e w4 ⟨rfl, hb4⟩
      go_wp2_with fail
      go_ret
      exact ⟨rfl, (by repeat (first | exact Below.refl _ _ | assumption | refine ext_alloc ?_ _ | refine Below.drew ?_ | refine drewN_below ?_ _ | refine ext_trans ?_ (by assumption) | refine Below.alloc ?_ ?_ _ | refine Below.setCell ?_ ?_ _ | omega | (simp <;> omega)))⟩
    · have n2 : ((B : Int) == 0) = false := by simp; omega
      have hAK := mul_lt_32 A K ha' hk'
      have hBK := mul_lt_32 B K hb' hk'
      have m1 : IntKind.u64.wrap ((A : Int) * (K : Int)) = ((A * K : Nat) : Int) := by rw [IntKind.wrap_u64, ← Int.natCast_mul]; omega
      have m2 : IntKind.u64.wrap ((B : Int) * (K : Int)) = ((B * K : Nat) : Int) := by rw [IntKind.wrap_u64, ← Int.natCast_mul]; omega
      have H4 := Lib.hid fun w => exCompare_any (A * K) (B * K) A B hAK hBK (by omega) (by omega) w
      rw [cmpN_eq _ _ (expand_eq A B K (by omega) (by omega))] at H4
      generalize A * K = P at *
      generalize B * K = R at *
      go_enter Try.func4, Try.ntmps4
      go_wp2_with fail
      refine (H1.out _).mono ?_
      rintro e w1 ⟨rfl, hb1⟩
      go_wp2_with fail
      refine (H2.out _).mono ?_
      rintro e w2 ⟨rfl, hb2⟩
      go_wp2_with fail
      refine (H3.out _).mono ?_
      rintro e w3 ⟨rfl, hb3⟩
      go_wp2_with fail
      refine (H4.out _).mono ?_
      rintro e w5 ⟨rfl, hb5⟩
      go_wp2_with fail
      refine (awake_any _).mono ?_
      rintro e w4 ⟨rfl, hb4⟩
      go_wp2_with fail
      go_ret
      exact ⟨rfl, (by repeat (first | exact Below.refl _ _ | assumption | refine ext_alloc ?_ _ | refine Below.drew ?_ | refine drewN_below ?_ _ | refine ext_trans ?_ (by assumption) | refine Below.alloc ?_ ?_ _ | refine Below.setCell ?_ ?_ _ | omega | (simp <;> omega)))⟩

end Go.Proofs.Ytlbacbhafmfbjaa
