/- Plain arithmetic of the long division of two words by one (no program in sight): one step of the school method with digits below 2^32. -/
namespace Go.Proofs.YtekdobbhkklapaaGreat
set_option linter.unusedVariables false

theorem kn_hi (q y1 y0 U r l : Nat) (h : q * y1 + r = U) (hc : 4294967296 * r + l < q * y0) : U * 4294967296 + l < q * (y1 * 4294967296 + y0) := by
  rw [Nat.mul_add, ← Nat.mul_assoc]; omega

theorem kn_lo (q y1 y0 U r l : Nat) (h : q * y1 + r = U) (hc : q * y0 ≤ 4294967296 * r + l) : q * (y1 * 4294967296 + y0) ≤ U * 4294967296 + l := by
  rw [Nat.mul_add, ← Nat.mul_assoc]; omega

theorem kn_brk (q y1 y0 U r l : Nat) (h : q * y1 + r = U) (hr : 4294967296 ≤ r) (hq : q ≤ 4294967296) (hy : y0 < 4294967296) : q * y0 ≤ 4294967296 * r + l := by
  have : q * y0 ≤ 4294967296 * 4294967296 := Nat.mul_le_mul hq (by omega)
  omega

/-- The first guess is at most two too high. -/
theorem kn_first (U y1 y0 : Nat) (hU : U < y1 * 4294967296 + y0) (hy1 : 2147483648 ≤ y1) (hy0 : y0 < 4294967296) : U / y1 ≤ 4294967297 := by
  have h : U / y1 < 4294967298 := by
    rw [Nat.div_lt_iff_lt_mul (by omega)]
    omega
  omega

theorem kn_digit (U l y1 y0 : Nat) (hU : U < y1 * 4294967296 + y0) (hl : l < 4294967296) : (U * 4294967296 + l) / (y1 * 4294967296 + y0) < 4294967296 := by
  rw [Nat.div_lt_iff_lt_mul (by omega)]
  have : (U + 1) * 4294967296 ≤ 4294967296 * (y1 * 4294967296 + y0) := by omega
  omega

theorem div_of_le_lt (N y q : Nat) (h1 : q * y ≤ N) (h2 : N / y ≤ q) (hy : 0 < y) : q = N / y := by
  have := (Nat.le_div_iff_mul_le hy).2 h1
  omega

theorem lt_of_mul_lt (N y q : Nat) (h1 : N < q * y) (hy : 0 < y) : N / y < q := (Nat.div_lt_iff_lt_mul hy).2 h1

/-- Dividing a number of two digits by its first and then by its second digit. -/
theorem long_div (N B l0 Y : Nat) (hY : 0 < Y) :
    (N * B + l0) / Y = N / Y * B + (N % Y * B + l0) / Y ∧ (N * B + l0) % Y = (N % Y * B + l0) % Y := by
  have e : N * B + l0 = (N % Y * B + l0) + (N / Y * B) * Y := by
    have h := Nat.div_add_mod N Y
    have h2 : N * B = Y * (N / Y) * B + N % Y * B := by rw [← Nat.add_mul, h]
    have h3 : N / Y * B * Y = Y * (N / Y) * B := by
      rw [Nat.mul_assoc, Nat.mul_comm B Y, ← Nat.mul_assoc, Nat.mul_comm (N / Y) Y]
    omega
  constructor
  · rw [e, Nat.add_mul_div_right _ _ hY, Nat.add_comm]
  · rw [e, Nat.add_mul_mod_self_right]

end Go.Proofs.YtekdobbhkklapaaGreat
