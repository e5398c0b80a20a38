/- The law of the rounding modes, its cases joined. -/
import Derived.Test.YtlbacbhafmfbjaaLaw01Modes
namespace Go.Proofs.Ytlbacbhafmfbjaa
open Go.RowKit
set_option linter.unusedVariables false

theorem upB1 (q r c : Int) : upB 1 q r c = decide (0 < r) := rfl
theorem upB2 (q r c : Int) : upB 2 q r c = decide (c - r ≤ r) := rfl
theorem upB3 (q r c : Int) : upB 3 q r c = (decide (c - r < r) || (decide (r = c - r) && decide (q % 2 = 1))) := rfl

theorem lawModes (a b c : Nat) (ha : a < 18446744073709551616) (hb : b < 18446744073709551616) (hc : c < 18446744073709551616) (w : World) :
    Calls Try.prog 7 #[.int .u64 a, .int .u64 b, .int .u64 c] w fun e w' => e = .returned (.bool true) ∧ Below w.heap.size w w' := by
  have hC : max (c : Int) 1 = ((max c 1 : Nat) : Int) := by omega
  have hC1 : 0 < max c 1 := by omega
  have hC2 : max c 1 < 18446744073709551616 := by omega
  generalize max c 1 = C at *
  have hM := fun m w => exMulDiv_any a b C m ha hb hC2 w
  have hR := fun w => exMulMod_any a b C ha hb hC2 w
  rw [if_neg (by omega)] at hR
  have hRC : a * b % C < C := Nat.mod_lt _ hC1
  have hov := fun m (h : 0 ≤ m ∧ m ≤ 3) => divV_over m (a * b) C (by omega)
  have hgd := fun m (h : 0 ≤ m ∧ m ≤ 3) q => divV_ok m (a * b) C q (by omega)
  generalize a * b / C = Q at *
  generalize a * b % C = R at *
  have get : ∀ (m : Int) (q : Nat), 0 ≤ m ∧ m ≤ 3 → Q + upN m Q R C = q → q < 18446744073709551616 → ∀ w, Calls Try.prog 20 #[.int .u64 a, .int .u64 b, .int .u64 C, .int .i64 m] w fun e w' => e = .returned (.tuple #[.int .u64 q, .int .i64 0]) ∧ Below w.heap.size w w' :=
    fun m q h0 h1 h2 w => (hM m w).mono fun e w' ⟨he, hb⟩ => ⟨by rw [he, hgd m h0 q h1 h2], hb⟩
  have ovr : ∀ m : Int, 0 ≤ m ∧ m ≤ 3 → 18446744073709551616 ≤ Q + upN m Q R C → ∀ w, Calls Try.prog 20 #[.int .u64 a, .int .u64 b, .int .u64 C, .int .i64 m] w fun e w' => e = .returned (.tuple #[.int .u64 (0 : Nat), .int .i64 3]) ∧ Below w.heap.size w w' :=
    fun m h0 h1 w => (hM m w).mono fun e w' ⟨he, hb⟩ => ⟨by rw [he, hov m h0 h1]; rfl, hb⟩
  have any_ : ∀ m : Int, 0 ≤ m ∧ m ≤ 3 → ∃ v f : Nat, ∀ w, Calls Try.prog 20 #[.int .u64 a, .int .u64 b, .int .u64 C, .int .i64 m] w fun e w' => e = .returned (.tuple #[.int .u64 v, .int .i64 f]) ∧ Below w.heap.size w w' := by
    intro m hm
    by_cases h : 18446744073709551616 ≤ Q + upN m Q R C
    · exact ⟨0, 3, ovr m hm h⟩
    · exact ⟨_, 0, get m _ hm rfl (by omega)⟩
  have u0 : upN 0 Q R C = 0 := up0 _ _ _
  have u1 : upN 1 Q R C = if 0 < R then 1 else 0 := by
    unfold upN; rw [upB1]
    by_cases h : 0 < R
    · rw [if_pos h, if_pos (by simp; omega)]
    · rw [if_neg h, if_neg (by simp; omega)]
  have u2 : upN 2 Q R C = if C ≤ R + R then 1 else 0 := by
    unfold upN; rw [upB2]
    by_cases h : C ≤ R + R
    · rw [if_pos h, if_pos (by simp; omega)]
    · rw [if_neg h, if_neg (by simp; omega)]
  have u3 : upN 3 Q R C = if C < R + R ∨ (C = R + R ∧ Q % 2 = 1) then 1 else 0 := by
    unfold upN; rw [upB3]
    by_cases h : C < R + R ∨ (C = R + R ∧ Q % 2 = 1)
    · rw [if_pos h, if_pos (by simp; omega)]
    · rw [if_neg h, if_neg (by simp; omega)]
  by_cases hbig : 18446744073709551616 ≤ Q + upN 1 Q R C
  · by_cases hq : 18446744073709551616 ≤ Q
    · exact modesOver a b c C 0 3 hC (.inr rfl) (ovr 0 (by omega) (by omega)) (ovr 1 (by omega) hbig) (any_ 2 (by omega)) (any_ 3 (by omega)) w
    · exact modesOver a b c C Q 0 hC (.inl rfl) (get 0 Q (by omega) (by omega) (by omega)) (ovr 1 (by omega) hbig) (any_ 2 (by omega)) (any_ 3 (by omega)) w
  · rcases Nat.eq_zero_or_pos R with h0 | h0
    · subst h0
      rw [if_neg (by omega)] at u1 u2 u3
      refine modesZero a b c C Q 0 hC hC1 hC2 hRC (by omega) (get 0 Q (by omega) (by omega) (by omega)) (get 1 Q (by omega) (by omega) (by omega)) (get 2 Q (by omega) (by omega) (by omega)) (get 3 Q (by omega) (by omega) (by omega)) (fun w => (hR w)) w
    · rw [if_pos h0] at u1
      have g0 := get 0 Q (by omega) (by omega) (by omega)
      have g1 := get 1 (Q + 1) (by omega) (by omega) (by omega)
      rcases Nat.lt_trichotomy (R + R) C with h | h | h
      · rw [if_neg (by omega)] at u2 u3
        exact modesLow a b c C Q R hC hC1 hC2 hRC (by omega) h0 (by omega) g0 g1 (get 2 Q (by omega) (by omega) (by omega)) (get 3 Q (by omega) (by omega) (by omega)) hR w
      · rw [if_pos (by omega)] at u2
        rcases Nat.mod_two_eq_zero_or_one Q with hp | hp
        · rw [if_neg (by omega)] at u3
          exact modesEven a b c C Q R hC hC1 hC2 hRC (by omega) h0 (by omega) hp g0 g1 (get 2 (Q + 1) (by omega) (by omega) (by omega)) (get 3 Q (by omega) (by omega) (by omega)) hR w
        · rw [if_pos (by omega)] at u3
          exact modesOdd a b c C Q R hC hC1 hC2 hRC (by omega) h0 (by omega) hp g0 g1 (get 2 (Q + 1) (by omega) (by omega) (by omega)) (get 3 (Q + 1) (by omega) (by omega) (by omega)) hR w
      · rw [if_pos (by omega)] at u2 u3
        exact modesHigh a b c C Q R hC hC1 hC2 hRC (by omega) h0 (by omega) g0 g1 (get 2 (Q + 1) (by omega) (by omega) (by omega)) (get 3 (Q + 1) (by omega) (by omega) (by omega)) hR w

end Go.Proofs.Ytlbacbhafmfbjaa
