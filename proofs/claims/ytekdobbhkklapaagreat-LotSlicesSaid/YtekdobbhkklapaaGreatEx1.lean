/- Contracts of exact.Div, MulDiv, MulMod, Compare, Gcd, Reduce. -/
import Derived.Test.YtekdobbhkklapaaGreatDiv64
namespace Go.Proofs.YtekdobbhkklapaaGreat
open Go.RowKit
set_option linter.unusedVariables false

def upN (m : Int) (q r c : Nat) : Nat := if upB m q r c then 1 else 0

/-- The rounded quotient, or the error of P1.2. -/
def divS (m : Int) (N c : Nat) : Nat × Int :=
  if c = 0 ∨ m < 0 ∨ 3 < m then (0, 2)
  else if 18446744073709551616 ≤ N / c + upN m (N / c) (N % c) c then (0, 3)
  else (N / c + upN m (N / c) (N % c) c, 0)

def divV (m : Int) (N c : Nat) : Value := .tuple #[.int .u64 (((divS m N c).1 : Nat) : Int), .int .i64 (divS m N c).2]

theorem upN_le (m : Int) (q r c : Nat) : upN m q r c ≤ 1 := by unfold upN; split <;> omega
theorem upB_zero (m q c : Int) (hc : 0 < c) : upB m q 0 c = false := by
  unfold upB
  by_cases h1 : m = 1
  · rw [if_pos h1]; simp
  · rw [if_neg h1]
    by_cases h2 : m = 2
    · rw [if_pos h2]; simp; omega
    · rw [if_neg h2]
      by_cases h3 : m = 3
      · rw [if_pos h3]; simp; omega
      · rw [if_neg h3]
theorem upN_zero (m : Int) (q c : Nat) (hc : 0 < c) : upN m q 0 c = 0 := by
  unfold upN
  rw [if_neg]
  have := upB_zero m q c (by omega)
  simpa using this

theorem divV_range (m : Int) (N c : Nat) (h : c = 0 ∨ m < 0 ∨ 3 < m) : divV m N c = .tuple #[.int .u64 0, .int .i64 2] := by
  unfold divV divS; rw [if_pos h]; rfl
theorem divV_over (m : Int) (N c : Nat) (h : ¬ (c = 0 ∨ m < 0 ∨ 3 < m)) (h2 : 18446744073709551616 ≤ N / c + upN m (N / c) (N % c) c) : divV m N c = .tuple #[.int .u64 0, .int .i64 3] := by
  unfold divV divS; rw [if_neg h, if_pos h2]; rfl
theorem divV_ok (m : Int) (N c q : Nat) (h : ¬ (c = 0 ∨ m < 0 ∨ 3 < m)) (hq : N / c + upN m (N / c) (N % c) c = q) (h2 : q < 18446744073709551616) : divV m N c = .tuple #[.int .u64 (q : Int), .int .i64 0] := by
  unfold divV divS; rw [if_neg h, hq, if_neg (by omega)]

set_option maxHeartbeats 400000 in
theorem exDiv_any (hi lo c : Nat) (m : Int) (hhi : hi < 18446744073709551616) (hlo : lo < 18446744073709551616) (hc : c < 18446744073709551616) (w : World) :
    Calls Tryz.prog 81 #[.agg #[.int .u64 hi, .int .u64 lo], .int .u64 c, .int .i64 m] w fun e w' =>
      e = .returned (divV m (hi * 18446744073709551616 + lo) c) ∧ Below w.heap.size w w' := by
  by_cases h0 : c = 0
  · have HV : Hid (divV m (hi * 18446744073709551616 + lo) c = .tuple #[.int .u64 0, .int .i64 2]) := divV_range _ _ _ (.inl h0)
    subst h0
    go_enter Tryz.func81, Tryz.ntmps81
    go_wp2
    go_ret2
    exact ⟨by rw [HV.out]; rfl, (by repeat (first | exact Below.refl _ _ | assumption | refine ext_alloc ?_ _ | refine Below.drew ?_ | refine drewN_below ?_ _ | refine ext_trans ?_ (by assumption) | refine Below.alloc ?_ ?_ _ | refine Below.setCell ?_ ?_ _ | omega | (simp <;> omega)))⟩
  · have h0b : ((c : Int) == 0) = false := by simp; omega
    by_cases h1 : m < 0
    · have HV : Hid (divV m (hi * 18446744073709551616 + lo) c = .tuple #[.int .u64 0, .int .i64 2]) := divV_range _ _ _ (.inr (.inl h1))
      go_enter Tryz.func81, Tryz.ntmps81
      go_wp2
      go_ret2
      exact ⟨by rw [HV.out]; rfl, (by repeat (first | exact Below.refl _ _ | assumption | refine ext_alloc ?_ _ | refine Below.drew ?_ | refine drewN_below ?_ _ | refine ext_trans ?_ (by assumption) | refine Below.alloc ?_ ?_ _ | refine Below.setCell ?_ ?_ _ | omega | (simp <;> omega)))⟩
    · by_cases h2 : 3 < m
      · have HV : Hid (divV m (hi * 18446744073709551616 + lo) c = .tuple #[.int .u64 0, .int .i64 2]) := divV_range _ _ _ (.inr (.inr h2))
        go_enter Tryz.func81, Tryz.ntmps81
        go_wp2
        go_ret2
        exact ⟨by rw [HV.out]; rfl, (by repeat (first | exact Below.refl _ _ | assumption | refine ext_alloc ?_ _ | refine Below.drew ?_ | refine drewN_below ?_ _ | refine ext_trans ?_ (by assumption) | refine Below.alloc ?_ ?_ _ | refine Below.setCell ?_ ?_ _ | omega | (simp <;> omega)))⟩
      · have hok : ¬ (c = 0 ∨ m < 0 ∨ 3 < m) := by omega
        by_cases h3 : c ≤ hi
        · have hbig : 18446744073709551616 ≤ (hi * 18446744073709551616 + lo) / c := by
            rw [Nat.le_div_iff_mul_le (by omega)]
            have : 18446744073709551616 * c ≤ 18446744073709551616 * hi := Nat.mul_le_mul_left _ h3
            omega
          have HV : Hid (divV m (hi * 18446744073709551616 + lo) c = .tuple #[.int .u64 0, .int .i64 3]) := divV_over _ _ _ hok (Nat.le_trans hbig (Nat.le_add_right _ _))
          have h3' : (c : Int) ≤ (hi : Int) := by omega
          clear hbig
          go_enter Tryz.func81, Tryz.ntmps81
          go_wp2
          go_ret2
          exact ⟨by rw [HV.out]; rfl, (by repeat (first | exact Below.refl _ _ | assumption | refine ext_alloc ?_ _ | refine Below.drew ?_ | refine drewN_below ?_ _ | refine ext_trans ?_ (by assumption) | refine Below.alloc ?_ ?_ _ | refine Below.setCell ?_ ?_ _ | omega | (simp <;> omega)))⟩
        · have h3' : ¬ (c : Int) ≤ (hi : Int) := by omega
          have hcon := div64_any hi lo c hlo hc (by omega)
          have hqb : (hi * 18446744073709551616 + lo) / c < 18446744073709551616 := by
            rw [Nat.div_lt_iff_lt_mul (by omega)]
            have : 18446744073709551616 * (hi + 1) ≤ 18446744073709551616 * c := Nat.mul_le_mul_left _ (by omega)
            omega
          have hrb : (hi * 18446744073709551616 + lo) % c < c := Nat.mod_lt _ (by omega)
          have hov := divV_over m (hi * 18446744073709551616 + lo) c hok
          have hgd := fun q => divV_ok m (hi * 18446744073709551616 + lo) c q hok
          generalize hi * 18446744073709551616 + lo = N at *
          generalize N / c = q at *
          generalize N % c = r at *
          have Hcon := Lib.hid hcon
          have Hov := Lib.hid hov
          have Hgd := Lib.hid hgd
          clear hcon hov hgd
          have hqi : (q : Int) < 18446744073709551616 := by omega
          by_cases hup : upB m q r c = true
          · have e1 : upN m q r c = 1 := by unfold upN; rw [if_pos hup]
            by_cases hmax : q = 18446744073709551615
            · have HV := Lib.hid (Hov.out (by omega))
              have hb1 : ((q : Int) == 18446744073709551615) = true := by simp; omega
              clear e1 hmax
              go_enter Tryz.func81, Tryz.ntmps81
              go_wp2_with (first | (go_at_call 105; refine (Hcon.out _).mono ?_; rintro e w1 ⟨rfl, hb⟩) | (go_at_call 106; refine (exRaised_any m q r c (by omega) (by omega) (by omega) (by omega) _).mono ?_; rintro e w2 ⟨rfl, rfl⟩))
              go_ret2
              refine ⟨by rw [HV.out]; rfl, ?_⟩
              exact (below_alloc_refl _ _).trans (hb.mono (by simp))
            · have HV := Lib.hid (Hgd.out (q + 1) (by omega) (by omega))
              have hb1 : ((q : Int) == 18446744073709551615) = false := by simp; omega
              have hb2 : (q : Int) + 1 < 18446744073709551616 := by omega
              clear e1 hmax
              go_enter Tryz.func81, Tryz.ntmps81
              go_wp2_with (first | (go_at_call 105; refine (Hcon.out _).mono ?_; rintro e w1 ⟨rfl, hb⟩) | (go_at_call 106; refine (exRaised_any m q r c (by omega) (by omega) (by omega) (by omega) _).mono ?_; rintro e w2 ⟨rfl, rfl⟩))
              go_ret2
              refine ⟨by rw [HV.out]; rfl, ?_⟩
              exact (below_alloc_refl _ _).trans (hb.mono (by simp))
          · have e1 : upN m q r c = 0 := by unfold upN; rw [if_neg hup]
            have HV := Lib.hid (Hgd.out q (by omega) (by omega))
            have hupf : upB m q r c = false := by simpa using hup
            clear e1 hup
            go_enter Tryz.func81, Tryz.ntmps81
            go_wp2_with (first | (go_at_call 105; refine (Hcon.out _).mono ?_; rintro e w1 ⟨rfl, hb⟩) | (go_at_call 106; refine (exRaised_any m q r c (by omega) (by omega) (by omega) (by omega) _).mono ?_; rintro e w2 ⟨rfl, rfl⟩))
            go_ret2
            refine ⟨by rw [HV.out]; rfl, ?_⟩
            exact (below_alloc_refl _ _).trans (hb.mono (by simp))

end Go.Proofs.YtekdobbhkklapaaGreat
