/- Contracts of the reference of layer 1. -/
import Derived.Test.YtjlfllhokhekbaaEx2
namespace Go.Proofs.Ytjlfllhokhekbaa
open Go.RowKit
set_option linter.unusedVariables false

/-- The sum of two numbers of two words, cut to two words, and whether it was cut. -/
def rAddV (a b c d : Int) : Value :=
  .tuple #[.agg #[.int .u64 ((a + c + (b + d) / 18446744073709551616) % 18446744073709551616), .int .u64 ((b + d) % 18446744073709551616)], .bool (decide (18446744073709551616 ≤ a + c + (b + d) / 18446744073709551616))]

theorem rAdd_case (a b c d l g : Int) (o : Bool) (hl : (b + d) % 18446744073709551616 = l) (hg : (a + c + (b + d) / 18446744073709551616) % 18446744073709551616 = g)
    (ho : decide (18446744073709551616 ≤ a + c + (b + d) / 18446744073709551616) = o) : rAddV a b c d = .tuple #[.agg #[.int .u64 g, .int .u64 l], .bool o] := by
  unfold rAddV; rw [hl, hg, ho]

set_option maxHeartbeats 800000 in
theorem rAdd_any (a b c d : Int) (ha0 : 0 ≤ a) (ha : a < 18446744073709551616) (hb0 : 0 ≤ b) (hb : b < 18446744073709551616) (hc0 : 0 ≤ c) (hc : c < 18446744073709551616) (hd0 : 0 ≤ d) (hd : d < 18446744073709551616) (w : World) :
    Calls Try.prog 42 #[.agg #[.int .u64 a, .int .u64 b], .agg #[.int .u64 c, .int .u64 d]] w fun e w' => e = .returned (rAddV a b c d) ∧ Below w.heap.size w w' := by
  obtain ⟨l, hl⟩ : ∃ l, (b + d) % 18446744073709551616 = l := ⟨_, rfl⟩
  obtain ⟨g, hg⟩ : ∃ g, (a + c) % 18446744073709551616 = g := ⟨_, rfl⟩
  have e1 : IntKind.u64.wrap (b + d) = l := by rw [IntKind.wrap_u64]; exact hl
  have e2 : IntKind.u64.wrap (a + c) = g := by rw [IntKind.wrap_u64]; exact hg
  have hg0 : 0 ≤ g := by omega
  by_cases h1 : l < b
  · obtain ⟨g', hg'⟩ : ∃ g', (g + 1) % 18446744073709551616 = g' := ⟨_, rfl⟩
    have e3 : IntKind.u64.wrap (g + 1) = g' := by rw [IntKind.wrap_u64]; exact hg'
    by_cases h2 : g < a
    · have HV := Lib.hid (rAdd_case a b c d l g' true hl (by omega) (by simp; omega))
      clear hl hg hg'
      go_enter Try.func42, Try.ntmps42
      go_wp2_with fail
      go_quiet (fail)
      go_wp2
      refine bodyPost_ret (v := .tuple #[.agg #[.int .u64 g', .int .u64 l], .bool true]) (by simp [results, Try.results42, go_sem] <;> first | assumption | omega) rfl ?_
      exact ⟨by rw [HV.out], (by repeat (first | exact Below.refl _ _ | assumption | refine ext_alloc ?_ _ | refine Below.drew ?_ | refine drewN_below ?_ _ | refine ext_trans ?_ (by assumption) | refine Below.alloc ?_ ?_ _ | refine Below.setCell ?_ ?_ _ | omega | (simp <;> omega)))⟩
    · by_cases h3 : g' = 0
      · have HV := Lib.hid (rAdd_case a b c d l g' true hl (by omega) (by simp; omega))
        clear hl hg hg'
        subst h3
        go_enter Try.func42, Try.ntmps42
        go_wp2_with fail
        go_quiet (fail)
        go_wp2
        refine bodyPost_ret (v := .tuple #[.agg #[.int .u64 0, .int .u64 l], .bool true]) (by simp [results, Try.results42, go_sem] <;> first | assumption | omega) rfl ?_
        exact ⟨by rw [HV.out], (by repeat (first | exact Below.refl _ _ | assumption | refine ext_alloc ?_ _ | refine Below.drew ?_ | refine drewN_below ?_ _ | refine ext_trans ?_ (by assumption) | refine Below.alloc ?_ ?_ _ | refine Below.setCell ?_ ?_ _ | omega | (simp <;> omega)))⟩
      · have HV := Lib.hid (rAdd_case a b c d l g' false hl (by omega) (by simp; omega))
        have h3b : (g' == 0) = false := by simpa using h3
        clear hl hg hg'
        go_enter Try.func42, Try.ntmps42
        go_wp2_with fail
        go_quiet (fail)
        go_wp2
        refine bodyPost_ret (v := .tuple #[.agg #[.int .u64 g', .int .u64 l], .bool false]) (by simp [results, Try.results42, go_sem] <;> first | assumption | omega) rfl ?_
        exact ⟨by rw [HV.out], (by repeat (first | exact Below.refl _ _ | assumption | refine ext_alloc ?_ _ | refine Below.drew ?_ | refine drewN_below ?_ _ | refine ext_trans ?_ (by assumption) | refine Below.alloc ?_ ?_ _ | refine Below.setCell ?_ ?_ _ | omega | (simp <;> omega)))⟩
  · by_cases h2 : g < a
    · have HV := Lib.hid (rAdd_case a b c d l g true hl (by omega) (by simp; omega))
      clear hl hg
      go_enter Try.func42, Try.ntmps42
      go_wp2_with fail
      go_quiet (fail)
      go_wp2
      refine bodyPost_ret (v := .tuple #[.agg #[.int .u64 g, .int .u64 l], .bool true]) (by simp [results, Try.results42, go_sem] <;> first | assumption | omega) rfl ?_
      exact ⟨by rw [HV.out], (by repeat (first | exact Below.refl _ _ | assumption | refine ext_alloc ?_ _ | refine Below.drew ?_ | refine drewN_below ?_ _ | refine ext_trans ?_ (by assumption) | refine Below.alloc ?_ ?_ _ | refine Below.setCell ?_ ?_ _ | omega | (simp <;> omega)))⟩
    · have HV := Lib.hid (rAdd_case a b c d l g false hl (by omega) (by simp; omega))
      clear hl hg
      go_enter Try.func42, Try.ntmps42
      go_wp2_with fail
      go_quiet (fail)
      go_wp2
      refine bodyPost_ret (v := .tuple #[.agg #[.int .u64 g, .int .u64 l], .bool false]) (by simp [results, Try.results42, go_sem] <;> first | assumption | omega) rfl ?_
      exact ⟨by rw [HV.out], (by repeat (first | exact Below.refl _ _ | assumption | refine ext_alloc ?_ _ | refine Below.drew ?_ | refine drewN_below ?_ _ | refine ext_trans ?_ (by assumption) | refine Below.alloc ?_ ?_ _ | refine Below.setCell ?_ ?_ _ | omega | (simp <;> omega)))⟩

theorem rAdd_hl (h l h' l' H L : Nat) (hh : h < 18446744073709551616) (hl : l < 18446744073709551616) (hh' : h' < 18446744073709551616) (hl' : l' < 18446744073709551616) (hH : H < 18446744073709551616) (hL : L < 18446744073709551616)
    (e : H * 18446744073709551616 + L = (h * 18446744073709551616 + l) + (h' * 18446744073709551616 + l')) (w : World) :
    Calls Try.prog 42 #[.agg #[.int .u64 h, .int .u64 l], .agg #[.int .u64 h', .int .u64 l']] w fun e w' => e = .returned (.tuple #[.agg #[.int .u64 H, .int .u64 L], .bool false]) ∧ Below w.heap.size w w' :=
  (rAdd_any h l h' l' (by omega) (by omega) (by omega) (by omega) (by omega) (by omega) (by omega) (by omega) w).mono fun e w' ⟨he, hb⟩ => by
    rw [rAdd_case h l h' l' L H false (by omega) (by omega) (by simp; omega)] at he
    exact ⟨he, hb⟩

/-- The bit of number k. -/
theorem bit_k (b k : Nat) (hb : b < 18446744073709551616) : bits .and .u64 ((b : Int) / 2 ^ k) 1 = ((b / 2 ^ k % 2 : Nat) : Int) := by
  have hle : b / 2 ^ k < 18446744073709551616 := Nat.lt_of_le_of_lt (Nat.div_le_self _ _) hb
  have e : ((b : Int) / 2 ^ k) = ((b / 2 ^ k : Nat) : Int) := by rw [Int.natCast_ediv, Int.natCast_pow]; rfl
  rw [e]
  have h := bits_and_u64_nat (b / 2 ^ k) 1 hle (by omega)
  rw [Nat.and_one_is_mod] at h
  exact h

theorem mul_step (a b k : Nat) : a * (b / 2 ^ k) = 2 * (a * (b / 2 ^ (k + 1))) + b / 2 ^ k % 2 * a := by
  have h := Nat.div_add_mod (b / 2 ^ k) 2
  have h2 : b / 2 ^ k / 2 = b / 2 ^ (k + 1) := by rw [Nat.div_div_eq_div_mul, Nat.pow_succ]
  rw [h2] at h
  generalize b / 2 ^ k % 2 = t at *
  rw [← h, Nat.mul_add, Nat.mul_comm a t, ← Nat.mul_assoc, Nat.mul_comm a 2, Nat.mul_assoc]

theorem split128 (n : Nat) (h : n < 340282366920938463463374607431768211456) : ∃ H L : Nat, H < 18446744073709551616 ∧ L < 18446744073709551616 ∧ H * 18446744073709551616 + L = n :=
  ⟨n / 18446744073709551616, n % 18446744073709551616, by omega, by omega, by omega⟩

theorem mul128 (a b : Nat) (ha : a < 18446744073709551616) (hb : b < 18446744073709551616) : a * b < 340282366920938463463374607431768211456 := Nat.mul_lt_mul'' ha hb

end Go.Proofs.Ytjlfllhokhekbaa
