/- The law of Gcd and Reduce. -/
import Derived.Test.YtlbacbhafmfbjaaLaw01Cmp
namespace Go.Proofs.Ytlbacbhafmfbjaa
open Go.RowKit
set_option linter.unusedVariables false

theorem gcd_lt32 (a b : Nat) (ha : a < 4294967296) (hb : b < 4294967296) : Nat.gcd a b < 4294967296 := by
  by_cases h : a = 0
  · subst h; rw [Nat.gcd_zero_left]; exact hb
  · exact Nat.lt_of_le_of_lt (Nat.gcd_le_left b (by omega)) ha

theorem red_facts (a b : Nat) : a / Nat.gcd a (max b 1) * max b 1 = a * max (max b 1 / Nat.gcd a (max b 1)) 1 ∧ Nat.gcd (a / Nat.gcd a (max b 1)) (max b 1 / Nat.gcd a (max b 1)) = 1 := by
  have hB : 0 < max b 1 := by omega
  generalize max b 1 = B at *
  have hg : 0 < Nat.gcd a B := Nat.gcd_pos_of_pos_right _ hB
  obtain ⟨x, hx⟩ := Nat.gcd_dvd_left a B
  obtain ⟨y, hy⟩ := Nat.gcd_dvd_right a B
  have e1 : a / Nat.gcd a B = x := by rw [Nat.div_eq_iff_eq_mul_right hg (Nat.gcd_dvd_left a B)]; exact hx
  have e2 : B / Nat.gcd a B = y := by rw [Nat.div_eq_iff_eq_mul_right hg (Nat.gcd_dvd_right a B)]; exact hy
  have h3 : Nat.gcd (a / Nat.gcd a B) (B / Nat.gcd a B) = 1 := by
    rw [Nat.gcd_div (Nat.gcd_dvd_left a B) (Nat.gcd_dvd_right a B), Nat.div_self hg]
  refine ⟨?_, h3⟩
  rw [e1, e2]
  have hy0 : 0 < y := by
    rcases Nat.eq_zero_or_pos y with h | h
    · rw [h, Nat.mul_zero] at hy; omega
    · exact h
  rw [show max y 1 = y by omega]
  generalize Nat.gcd a B = g at *
  rw [hx, hy]; ac_rfl

set_option maxHeartbeats 1000000 in
theorem lawGcd (a b k : Nat) (ha : a < 18446744073709551616) (hb : b < 18446744073709551616) (hk : k < 18446744073709551616) (w : World) :
    Calls Try.prog 8 #[.int .u64 a, .int .u64 b, .int .u64 k] w fun e w' => e = .returned (.bool true) ∧ Below w.heap.size w w' := by
  have H1 := Lib.hid fun w => exGcd_any a b ha hb w
  have H2 := Lib.hid fun w => exReduce_any a b ha hb w
  have H3 := Lib.hid fun w => rReduce_any a b ha hb w
  have H4 := Lib.hid fun w => rGcd_any a b ha hb w
  obtain ⟨f1, f2⟩ := red_facts a b
  have hn : a / Nat.gcd a (max b 1) < 18446744073709551616 := Nat.lt_of_le_of_lt (Nat.div_le_self _ _) ha
  have hd : max b 1 / Nat.gcd a (max b 1) < 18446744073709551616 := Nat.lt_of_le_of_lt (Nat.div_le_self _ _) (by omega)
  generalize a / Nat.gcd a (max b 1) = n at *
  generalize max b 1 / Nat.gcd a (max b 1) = d at *
  have H5 := Lib.hid fun w => exCompare_any n d a b hn hd ha hb w
  rw [cmpN_eq _ _ f1] at H5
  have H6 := Lib.hid fun w => exGcd_any n d hn hd w
  rw [f2] at H6
  have s1 : (a : Int) / 4294967296 = ((a / 4294967296 : Nat) : Int) := rfl
  have s2 : (b : Int) / 4294967296 = ((b / 4294967296 : Nat) : Int) := rfl
  have s3 : (k : Int) / 4294967296 = ((k / 4294967296 : Nat) : Int) := rfl
  have ha' := shr32 a ha
  have hb' := shr32 b hb
  have hk' := shr32 k hk
  generalize a / 4294967296 = A at *
  generalize b / 4294967296 = B at *
  generalize k / 4294967296 = K at *
  have hKA := mul_lt_32 K A hk' ha'
  have hKB := mul_lt_32 K B hk' hb'
  have hG := gcd_lt32 A B ha' hb'
  have hKG := mul_lt_32 K (Nat.gcd A B) hk' hG
  have m1 : IntKind.u64.wrap ((K : Int) * (A : Int)) = ((K * A : Nat) : Int) := by rw [IntKind.wrap_u64, ← Int.natCast_mul]; omega
  have m2 : IntKind.u64.wrap ((K : Int) * (B : Int)) = ((K * B : Nat) : Int) := by rw [IntKind.wrap_u64, ← Int.natCast_mul]; omega
  have m3 : IntKind.u64.wrap ((K : Int) * ((Nat.gcd A B : Nat) : Int)) = ((K * Nat.gcd A B : Nat) : Int) := by rw [IntKind.wrap_u64, ← Int.natCast_mul]; omega
  have H7 := Lib.hid fun w => exGcd_any (K * A) (K * B) hKA hKB w
  have H8 := Lib.hid fun w => exGcd_any A B (by omega) (by omega) w
  rw [Nat.gcd_mul_left] at H7
  generalize Nat.gcd A B = G at *
  generalize Nat.gcd a b = g at *
  generalize K * A = KA at *
  generalize K * B = KB at *
  generalize K * G = KG at *
  clear f1 f2 hn hd ha hb hk
  go_enter Try.func8, Try.ntmps8
  go_wp2_with fail
  refine (H1.out _).mono ?_
  rintro e w1 ⟨rfl, hb1⟩
  go_wp2_with fail
  refine (H2.out _).mono ?_
  rintro e w2 ⟨rfl, hb2⟩
  go_wp2_with fail
  refine (H3.out _).mono ?_
  rintro e w3 ⟨rfl, hb3⟩
  go_wp2_with fail
  refine (H4.out _).mono ?_
  rintro e w4 ⟨rfl, hb4⟩
  go_wp2_with fail
  refine (H5.out _).mono ?_
  rintro e w5 ⟨rfl, hb5⟩
  go_wp2_with fail
  refine (H6.out _).mono ?_
  rintro e w6 ⟨rfl, hb6⟩
  go_wp2_with fail
  refine (H7.out _).mono ?_
  rintro e w7 ⟨rfl, hb7⟩
  go_wp2_with fail
  refine (H8.out _).mono ?_
  rintro e w8 ⟨rfl, hb8⟩
  go_wp2_with fail
  refine (awake_any _).mono ?_
  rintro e w9 ⟨rfl, hb9⟩
  go_wp2_with fail
  go_ret
  exact ⟨rfl, (by repeat (first | exact Below.refl _ _ | assumption | refine ext_alloc ?_ _ | refine Below.drew ?_ | refine drewN_below ?_ _ | refine ext_trans ?_ (by assumption) | refine Below.alloc ?_ ?_ _ | refine Below.setCell ?_ ?_ _ | omega | (simp <;> omega)))⟩

end Go.Proofs.Ytlbacbhafmfbjaa
