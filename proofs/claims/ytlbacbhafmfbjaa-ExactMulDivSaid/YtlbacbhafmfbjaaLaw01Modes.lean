/- The law of the rounding modes (printed by gen_modes.py). -/
import Derived.Test.YtlbacbhafmfbjaaLaw01Cmp
namespace Go.Proofs.Ytlbacbhafmfbjaa
open Go.RowKit
set_option linter.unusedVariables false

theorem up0 (q r c : Nat) : upN 0 q r c = 0 := by simp [upN, upB]

set_option maxRecDepth 100000 in
set_option maxHeartbeats 2000000 in
theorem modesZero (a b c C Q R : Nat) (hC : max (c : Int) 1 = (C : Int)) (hC1 : 0 < C) (hc : C < 18446744073709551616) (hRC : R < C) (hq : Q < 18446744073709551616) 
    (h0 : ∀ w, Calls Try.prog 20 #[.int .u64 a, .int .u64 b, .int .u64 C, .int .i64 0] w fun e w' => e = .returned (.tuple #[.int .u64 Q, .int .i64 0]) ∧ Below w.heap.size w w') (h1 : ∀ w, Calls Try.prog 20 #[.int .u64 a, .int .u64 b, .int .u64 C, .int .i64 1] w fun e w' => e = .returned (.tuple #[.int .u64 Q, .int .i64 0]) ∧ Below w.heap.size w w') (h2 : ∀ w, Calls Try.prog 20 #[.int .u64 a, .int .u64 b, .int .u64 C, .int .i64 2] w fun e w' => e = .returned (.tuple #[.int .u64 Q, .int .i64 0]) ∧ Below w.heap.size w w') (h3 : ∀ w, Calls Try.prog 20 #[.int .u64 a, .int .u64 b, .int .u64 C, .int .i64 3] w fun e w' => e = .returned (.tuple #[.int .u64 Q, .int .i64 0]) ∧ Below w.heap.size w w')
    (h4 : ∀ w, Calls Try.prog 21 #[.int .u64 a, .int .u64 b, .int .u64 C] w fun e w' => e = .returned (.int .u64 (0 : Int)) ∧ Below w.heap.size w w') (w : World) :
    Calls Try.prog 7 #[.int .u64 a, .int .u64 b, .int .u64 c] w fun e w' => e = .returned (.bool true) ∧ Below w.heap.size w w' := by
  go_enter Try.func7, Try.ntmps7
  go_wp2_with fail
  refine (h0 _).mono ?_
  rintro e w0 ⟨rfl, hb0⟩
  go_wp2_with fail
  refine (h1 _).mono ?_
  rintro e w1 ⟨rfl, hb1⟩
  go_wp2_with fail
  refine (h2 _).mono ?_
  rintro e w2 ⟨rfl, hb2⟩
  go_wp2_with fail
  refine (h3 _).mono ?_
  rintro e w3 ⟨rfl, hb3⟩
  go_wp2_with fail
  refine (h4 _).mono ?_
  rintro e w4 ⟨rfl, hb4⟩
  go_wp2_with fail
  refine (awake_any _).mono ?_
  rintro e wa ⟨rfl, hba⟩
  go_wp2_with fail
  go_ret
  exact ⟨rfl, (by repeat (first | exact Below.refl _ _ | assumption | refine ext_alloc ?_ _ | refine Below.drew ?_ | refine drewN_below ?_ _ | refine ext_trans ?_ (by assumption) | refine Below.alloc ?_ ?_ _ | refine Below.setCell ?_ ?_ _ | omega | (simp <;> omega)))⟩

set_option maxRecDepth 100000 in
set_option maxHeartbeats 2000000 in
theorem modesLow (a b c C Q R : Nat) (hC : max (c : Int) 1 = (C : Int)) (hC1 : 0 < C) (hc : C < 18446744073709551616) (hRC : R < C) (hq : Q + 1 < 18446744073709551616) (hR : 0 < R) (hlt : (R : Int) < (C : Int) - R)
    (h0 : ∀ w, Calls Try.prog 20 #[.int .u64 a, .int .u64 b, .int .u64 C, .int .i64 0] w fun e w' => e = .returned (.tuple #[.int .u64 Q, .int .i64 0]) ∧ Below w.heap.size w w') (h1 : ∀ w, Calls Try.prog 20 #[.int .u64 a, .int .u64 b, .int .u64 C, .int .i64 1] w fun e w' => e = .returned (.tuple #[.int .u64 (Q + 1 : Nat), .int .i64 0]) ∧ Below w.heap.size w w') (h2 : ∀ w, Calls Try.prog 20 #[.int .u64 a, .int .u64 b, .int .u64 C, .int .i64 2] w fun e w' => e = .returned (.tuple #[.int .u64 Q, .int .i64 0]) ∧ Below w.heap.size w w') (h3 : ∀ w, Calls Try.prog 20 #[.int .u64 a, .int .u64 b, .int .u64 C, .int .i64 3] w fun e w' => e = .returned (.tuple #[.int .u64 Q, .int .i64 0]) ∧ Below w.heap.size w w')
    (h4 : ∀ w, Calls Try.prog 21 #[.int .u64 a, .int .u64 b, .int .u64 C] w fun e w' => e = .returned (.int .u64 (R : Nat)) ∧ Below w.heap.size w w') (w : World) :
    Calls Try.prog 7 #[.int .u64 a, .int .u64 b, .int .u64 c] w fun e w' => e = .returned (.bool true) ∧ Below w.heap.size w w' := by
  have b1 : ((Q : Int) + 1 == (Q : Int)) = false := by simp; omega
  have b2 : ((R : Int) == 0) = false := by simp; omega
  have b3 : ((R : Int) == (C : Int) - (R : Int)) = false := by simp; omega
  clear hlt
  go_enter Try.func7, Try.ntmps7
  go_wp2_with fail
  refine (h0 _).mono ?_
  rintro e w0 ⟨rfl, hb0⟩
  go_wp2_with fail
  refine (h1 _).mono ?_
  rintro e w1 ⟨rfl, hb1⟩
  go_wp2_with fail
  refine (h2 _).mono ?_
  rintro e w2 ⟨rfl, hb2⟩
  go_wp2_with fail
  refine (h3 _).mono ?_
  rintro e w3 ⟨rfl, hb3⟩
  go_wp2_with fail
  refine (h4 _).mono ?_
  rintro e w4 ⟨rfl, hb4⟩
  go_wp2_with fail
  refine (awake_any _).mono ?_
  rintro e wa ⟨rfl, hba⟩
  go_wp2_with fail
  go_ret
  exact ⟨rfl, (by repeat (first | exact Below.refl _ _ | assumption | refine ext_alloc ?_ _ | refine Below.drew ?_ | refine drewN_below ?_ _ | refine ext_trans ?_ (by assumption) | refine Below.alloc ?_ ?_ _ | refine Below.setCell ?_ ?_ _ | omega | (simp <;> omega)))⟩

set_option maxRecDepth 100000 in
set_option maxHeartbeats 2000000 in
theorem modesHigh (a b c C Q R : Nat) (hC : max (c : Int) 1 = (C : Int)) (hC1 : 0 < C) (hc : C < 18446744073709551616) (hRC : R < C) (hq : Q + 1 < 18446744073709551616) (hR : 0 < R) (hlt : (C : Int) - R < (R : Int))
    (h0 : ∀ w, Calls Try.prog 20 #[.int .u64 a, .int .u64 b, .int .u64 C, .int .i64 0] w fun e w' => e = .returned (.tuple #[.int .u64 Q, .int .i64 0]) ∧ Below w.heap.size w w') (h1 : ∀ w, Calls Try.prog 20 #[.int .u64 a, .int .u64 b, .int .u64 C, .int .i64 1] w fun e w' => e = .returned (.tuple #[.int .u64 (Q + 1 : Nat), .int .i64 0]) ∧ Below w.heap.size w w') (h2 : ∀ w, Calls Try.prog 20 #[.int .u64 a, .int .u64 b, .int .u64 C, .int .i64 2] w fun e w' => e = .returned (.tuple #[.int .u64 (Q + 1 : Nat), .int .i64 0]) ∧ Below w.heap.size w w') (h3 : ∀ w, Calls Try.prog 20 #[.int .u64 a, .int .u64 b, .int .u64 C, .int .i64 3] w fun e w' => e = .returned (.tuple #[.int .u64 (Q + 1 : Nat), .int .i64 0]) ∧ Below w.heap.size w w')
    (h4 : ∀ w, Calls Try.prog 21 #[.int .u64 a, .int .u64 b, .int .u64 C] w fun e w' => e = .returned (.int .u64 (R : Nat)) ∧ Below w.heap.size w w') (w : World) :
    Calls Try.prog 7 #[.int .u64 a, .int .u64 b, .int .u64 c] w fun e w' => e = .returned (.bool true) ∧ Below w.heap.size w w' := by
  have b1 : ((Q : Int) + 1 == (Q : Int)) = false := by simp; omega
  have b2 : ((R : Int) == 0) = false := by simp; omega
  have b3 : ((R : Int) == (C : Int) - (R : Int)) = false := by simp; omega
  clear hlt
  go_enter Try.func7, Try.ntmps7
  go_wp2_with fail
  refine (h0 _).mono ?_
  rintro e w0 ⟨rfl, hb0⟩
  go_wp2_with fail
  refine (h1 _).mono ?_
  rintro e w1 ⟨rfl, hb1⟩
  go_wp2_with fail
  refine (h2 _).mono ?_
  rintro e w2 ⟨rfl, hb2⟩
  go_wp2_with fail
  refine (h3 _).mono ?_
  rintro e w3 ⟨rfl, hb3⟩
  go_wp2_with fail
  refine (h4 _).mono ?_
  rintro e w4 ⟨rfl, hb4⟩
  go_wp2_with fail
  refine (awake_any _).mono ?_
  rintro e wa ⟨rfl, hba⟩
  go_wp2_with fail
  go_ret
  exact ⟨rfl, (by repeat (first | exact Below.refl _ _ | assumption | refine ext_alloc ?_ _ | refine Below.drew ?_ | refine drewN_below ?_ _ | refine ext_trans ?_ (by assumption) | refine Below.alloc ?_ ?_ _ | refine Below.setCell ?_ ?_ _ | omega | (simp <;> omega)))⟩

set_option maxRecDepth 100000 in
set_option maxHeartbeats 2000000 in
theorem modesOdd (a b c C Q R : Nat) (hC : max (c : Int) 1 = (C : Int)) (hC1 : 0 < C) (hc : C < 18446744073709551616) (hRC : R < C) (hq : Q + 1 < 18446744073709551616) (hR : 0 < R) (hlt : (R : Int) = (C : Int) - R) (hp : Q % 2 = 1)
    (h0 : ∀ w, Calls Try.prog 20 #[.int .u64 a, .int .u64 b, .int .u64 C, .int .i64 0] w fun e w' => e = .returned (.tuple #[.int .u64 Q, .int .i64 0]) ∧ Below w.heap.size w w') (h1 : ∀ w, Calls Try.prog 20 #[.int .u64 a, .int .u64 b, .int .u64 C, .int .i64 1] w fun e w' => e = .returned (.tuple #[.int .u64 (Q + 1 : Nat), .int .i64 0]) ∧ Below w.heap.size w w') (h2 : ∀ w, Calls Try.prog 20 #[.int .u64 a, .int .u64 b, .int .u64 C, .int .i64 2] w fun e w' => e = .returned (.tuple #[.int .u64 (Q + 1 : Nat), .int .i64 0]) ∧ Below w.heap.size w w') (h3 : ∀ w, Calls Try.prog 20 #[.int .u64 a, .int .u64 b, .int .u64 C, .int .i64 3] w fun e w' => e = .returned (.tuple #[.int .u64 (Q + 1 : Nat), .int .i64 0]) ∧ Below w.heap.size w w')
    (h4 : ∀ w, Calls Try.prog 21 #[.int .u64 a, .int .u64 b, .int .u64 C] w fun e w' => e = .returned (.int .u64 (R : Nat)) ∧ Below w.heap.size w w') (w : World) :
    Calls Try.prog 7 #[.int .u64 a, .int .u64 b, .int .u64 c] w fun e w' => e = .returned (.bool true) ∧ Below w.heap.size w w' := by
  have b4 : bits .and .u64 ((Q : Int) + 1) 1 = 0 := by
    have h := and1 (Q + 1) (by omega)
    rw [show (Q + 1) % 2 = 0 by omega] at h
    simpa using h
  have b1 : ((Q : Int) + 1 == (Q : Int)) = false := by simp; omega
  have b2 : ((R : Int) == 0) = false := by simp; omega
  have b3 : ((R : Int) == (C : Int) - (R : Int)) = true := by simp; omega
  clear hlt
  go_enter Try.func7, Try.ntmps7
  go_wp2_with fail
  refine (h0 _).mono ?_
  rintro e w0 ⟨rfl, hb0⟩
  go_wp2_with fail
  refine (h1 _).mono ?_
  rintro e w1 ⟨rfl, hb1⟩
  go_wp2_with fail
  refine (h2 _).mono ?_
  rintro e w2 ⟨rfl, hb2⟩
  go_wp2_with fail
  refine (h3 _).mono ?_
  rintro e w3 ⟨rfl, hb3⟩
  go_wp2_with fail
  refine (h4 _).mono ?_
  rintro e w4 ⟨rfl, hb4⟩
  go_wp2_with fail
  refine (awake_any _).mono ?_
  rintro e wa ⟨rfl, hba⟩
  go_wp2_with fail
  go_ret
  exact ⟨rfl, (by repeat (first | exact Below.refl _ _ | assumption | refine ext_alloc ?_ _ | refine Below.drew ?_ | refine drewN_below ?_ _ | refine ext_trans ?_ (by assumption) | refine Below.alloc ?_ ?_ _ | refine Below.setCell ?_ ?_ _ | omega | (simp <;> omega)))⟩

set_option maxRecDepth 100000 in
set_option maxHeartbeats 2000000 in
theorem modesEven (a b c C Q R : Nat) (hC : max (c : Int) 1 = (C : Int)) (hC1 : 0 < C) (hc : C < 18446744073709551616) (hRC : R < C) (hq : Q + 1 < 18446744073709551616) (hR : 0 < R) (hlt : (R : Int) = (C : Int) - R) (hp : Q % 2 = 0)
    (h0 : ∀ w, Calls Try.prog 20 #[.int .u64 a, .int .u64 b, .int .u64 C, .int .i64 0] w fun e w' => e = .returned (.tuple #[.int .u64 Q, .int .i64 0]) ∧ Below w.heap.size w w') (h1 : ∀ w, Calls Try.prog 20 #[.int .u64 a, .int .u64 b, .int .u64 C, .int .i64 1] w fun e w' => e = .returned (.tuple #[.int .u64 (Q + 1 : Nat), .int .i64 0]) ∧ Below w.heap.size w w') (h2 : ∀ w, Calls Try.prog 20 #[.int .u64 a, .int .u64 b, .int .u64 C, .int .i64 2] w fun e w' => e = .returned (.tuple #[.int .u64 (Q + 1 : Nat), .int .i64 0]) ∧ Below w.heap.size w w') (h3 : ∀ w, Calls Try.prog 20 #[.int .u64 a, .int .u64 b, .int .u64 C, .int .i64 3] w fun e w' => e = .returned (.tuple #[.int .u64 Q, .int .i64 0]) ∧ Below w.heap.size w w')
    (h4 : ∀ w, Calls Try.prog 21 #[.int .u64 a, .int .u64 b, .int .u64 C] w fun e w' => e = .returned (.int .u64 (R : Nat)) ∧ Below w.heap.size w w') (w : World) :
    Calls Try.prog 7 #[.int .u64 a, .int .u64 b, .int .u64 c] w fun e w' => e = .returned (.bool true) ∧ Below w.heap.size w w' := by
  have b4 : bits .and .u64 (Q : Int) 1 = 0 := by
    have h := and1 Q (by omega)
    rw [hp] at h
    simpa using h
  have b1 : ((Q : Int) + 1 == (Q : Int)) = false := by simp; omega
  have b2 : ((R : Int) == 0) = false := by simp; omega
  have b3 : ((R : Int) == (C : Int) - (R : Int)) = true := by simp; omega
  clear hlt
  go_enter Try.func7, Try.ntmps7
  go_wp2_with fail
  refine (h0 _).mono ?_
  rintro e w0 ⟨rfl, hb0⟩
  go_wp2_with fail
  refine (h1 _).mono ?_
  rintro e w1 ⟨rfl, hb1⟩
  go_wp2_with fail
  refine (h2 _).mono ?_
  rintro e w2 ⟨rfl, hb2⟩
  go_wp2_with fail
  refine (h3 _).mono ?_
  rintro e w3 ⟨rfl, hb3⟩
  go_wp2_with fail
  refine (h4 _).mono ?_
  rintro e w4 ⟨rfl, hb4⟩
  go_wp2_with fail
  refine (awake_any _).mono ?_
  rintro e wa ⟨rfl, hba⟩
  go_wp2_with fail
  go_ret
  exact ⟨rfl, (by repeat (first | exact Below.refl _ _ | assumption | refine ext_alloc ?_ _ | refine Below.drew ?_ | refine drewN_below ?_ _ | refine ext_trans ?_ (by assumption) | refine Below.alloc ?_ ?_ _ | refine Below.setCell ?_ ?_ _ | omega | (simp <;> omega)))⟩

set_option maxRecDepth 100000 in
set_option maxHeartbeats 2000000 in
theorem modesOver (a b c C V E : Nat) (hC : max (c : Int) 1 = (C : Int)) (hE : (E = 0 ∨ E = 3))
    (h0 : ∀ w, Calls Try.prog 20 #[.int .u64 a, .int .u64 b, .int .u64 C, .int .i64 0] w fun e w' => e = .returned (.tuple #[.int .u64 V, .int .i64 E]) ∧ Below w.heap.size w w') (h1 : ∀ w, Calls Try.prog 20 #[.int .u64 a, .int .u64 b, .int .u64 C, .int .i64 1] w fun e w' => e = .returned (.tuple #[.int .u64 0, .int .i64 3]) ∧ Below w.heap.size w w') (h2 : ∃ v f : Nat, ∀ w, Calls Try.prog 20 #[.int .u64 a, .int .u64 b, .int .u64 C, .int .i64 2] w fun e w' => e = .returned (.tuple #[.int .u64 v, .int .i64 f]) ∧ Below w.heap.size w w')
    (h3 : ∃ v f : Nat, ∀ w, Calls Try.prog 20 #[.int .u64 a, .int .u64 b, .int .u64 C, .int .i64 3] w fun e w' => e = .returned (.tuple #[.int .u64 v, .int .i64 f]) ∧ Below w.heap.size w w') (w : World) :
    Calls Try.prog 7 #[.int .u64 a, .int .u64 b, .int .u64 c] w fun e w' => e = .returned (.bool true) ∧ Below w.heap.size w w' := by
  obtain ⟨v2, f2, h2⟩ := h2
  obtain ⟨v3, f3, h3⟩ := h3
  rcases hE with rfl | rfl
  · go_enter Try.func7, Try.ntmps7
    go_wp2_with fail
    refine (h0 _).mono ?_
    rintro e w0 ⟨rfl, hb0⟩
    go_wp2_with fail
    refine (h1 _).mono ?_
    rintro e w1 ⟨rfl, hb1⟩
    go_wp2_with fail
    refine (h2 _).mono ?_
    rintro e w2 ⟨rfl, hb2⟩
    go_wp2_with fail
    refine (h3 _).mono ?_
    rintro e w3 ⟨rfl, hb3⟩
    go_wp2_with fail
    refine (awake_any _).mono ?_
    rintro e wa ⟨rfl, hba⟩
    go_wp2_with fail
    go_ret
    exact ⟨rfl, (by repeat (first | exact Below.refl _ _ | assumption | refine ext_alloc ?_ _ | refine Below.drew ?_ | refine drewN_below ?_ _ | refine ext_trans ?_ (by assumption) | refine Below.alloc ?_ ?_ _ | refine Below.setCell ?_ ?_ _ | omega | (simp <;> omega)))⟩
  · go_enter Try.func7, Try.ntmps7
    go_wp2_with fail
    refine (h0 _).mono ?_
    rintro e w0 ⟨rfl, hb0⟩
    go_wp2_with fail
    refine (h1 _).mono ?_
    rintro e w1 ⟨rfl, hb1⟩
    go_wp2_with fail
    refine (h2 _).mono ?_
    rintro e w2 ⟨rfl, hb2⟩
    go_wp2_with fail
    refine (h3 _).mono ?_
    rintro e w3 ⟨rfl, hb3⟩
    go_wp2_with fail
    refine (awake_any _).mono ?_
    rintro e wa ⟨rfl, hba⟩
    go_wp2_with fail
    go_ret
    exact ⟨rfl, (by repeat (first | exact Below.refl _ _ | assumption | refine ext_alloc ?_ _ | refine Below.drew ?_ | refine drewN_below ?_ _ | refine ext_trans ?_ (by assumption) | refine Below.alloc ?_ ?_ _ | refine Below.setCell ?_ ?_ _ | omega | (simp <;> omega)))⟩

end Go.Proofs.Ytlbacbhafmfbjaa
