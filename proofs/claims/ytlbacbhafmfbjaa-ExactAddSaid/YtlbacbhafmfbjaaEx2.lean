/- Contracts of exact.MulDiv, MulMod, Compare, Gcd, Reduce. -/
import Derived.Test.YtlbacbhafmfbjaaEx1
namespace Go.Proofs.Ytlbacbhafmfbjaa
open Go.RowKit
set_option linter.unusedVariables false

theorem mul_lt_128 (a b : Nat) (ha : a < 18446744073709551616) (hb : b < 18446744073709551616) : a * b / 18446744073709551616 < 18446744073709551616 := by
  rw [Nat.div_lt_iff_lt_mul (by omega)]
  exact Nat.mul_lt_mul'' ha hb

theorem mul_join (a b : Nat) : a * b / 18446744073709551616 * 18446744073709551616 + a * b % 18446744073709551616 = a * b := by
  have := Nat.div_add_mod (a * b) 18446744073709551616
  omega

set_option maxHeartbeats 400000 in
theorem exMulDiv_any (a b c : Nat) (m : Int) (ha : a < 18446744073709551616) (hb : b < 18446744073709551616) (hc : c < 18446744073709551616) (w : World) :
    Calls Try.prog 20 #[.int .u64 a, .int .u64 b, .int .u64 c, .int .i64 m] w fun e w' =>
      e = .returned (divV m (a * b) c) ∧ Below w.heap.size w w' := by
  have hcon := exMul_any a b ha hb
  have h1 := mul_lt_128 a b ha hb
  have h2 : a * b % 18446744073709551616 < 18446744073709551616 := Nat.mod_lt _ (by omega)
  have hj := mul_join a b
  generalize a * b / 18446744073709551616 = H at *
  generalize a * b % 18446744073709551616 = L at *
  have hcon2 := exDiv_any H L c m h1 h2 hc
  rw [hj] at hcon2
  have Hc := Lib.hid hcon
  have Hc2 := Lib.hid hcon2
  obtain ⟨u, hu⟩ : ∃ u : Nat × Int, divS m (a * b) c = u := ⟨_, rfl⟩
  unfold divV at Hc2 ⊢
  rw [hu] at Hc2 ⊢
  clear hcon hcon2 hj hu
  go_enter Try.func20, Try.ntmps20
  go_wp2_with (first | (go_at_call 16; refine (Hc.out _).mono ?_; rintro e w1 ⟨rfl, hb1⟩) | (go_at_call 11; refine (Hc2.out _).mono ?_; rintro e w2 ⟨rfl, hb2⟩))
  go_ret2
  exact ⟨rfl, hb1.trans (hb2.mono hb1.size)⟩

set_option maxHeartbeats 400000 in
theorem exMulMod_any (a b c : Nat) (ha : a < 18446744073709551616) (hb : b < 18446744073709551616) (hc : c < 18446744073709551616) (w : World) :
    Calls Try.prog 21 #[.int .u64 a, .int .u64 b, .int .u64 c] w fun e w' =>
      e = .returned (.int .u64 ((if c = 0 then 0 else a * b % c : Nat) : Int)) ∧ Below w.heap.size w w' := by
  by_cases h0 : c = 0
  · subst h0
    go_enter Try.func21, Try.ntmps21
    go_wp2
    go_ret
    exact ⟨rfl, (by repeat (first | exact Below.refl _ _ | assumption | refine ext_alloc ?_ _ | refine Below.drew ?_ | refine drewN_below ?_ _ | refine ext_trans ?_ (by assumption) | refine Below.alloc ?_ ?_ _ | refine Below.setCell ?_ ?_ _ | omega | (simp <;> omega)))⟩
  · have HV : Hid (((if c = 0 then 0 else a * b % c : Nat) : Int) = ((a * b % c : Nat) : Int)) := by
      show ((if c = 0 then 0 else a * b % c : Nat) : Int) = ((a * b % c : Nat) : Int)
      rw [if_neg h0]
    rw [HV.out]
    have h0b : ((c : Int) == 0) = false := by simp; omega
    have hcon := exMul_any a b ha hb
    have h1 := mul_lt_128 a b ha hb
    have h2 : a * b % 18446744073709551616 < 18446744073709551616 := Nat.mod_lt _ (by omega)
    have hj := mul_join a b
    generalize a * b / 18446744073709551616 = H at *
    generalize a * b % 18446744073709551616 = L at *
    have hcon2 := rem64_any H L c h1 h2 hc (by omega)
    rw [hj] at hcon2
    have Hc := Lib.hid hcon
    have Hc2 := Lib.hid hcon2
    clear hcon hcon2 hj HV
    generalize a * b % c = r at *
    go_enter Try.func21, Try.ntmps21
    go_wp2_with fail
    refine (Hc.out _).mono ?_
    rintro e w1 ⟨rfl, hb1⟩
    go_wp2_with fail
    refine (Hc2.out _).mono ?_
    rintro e w2 ⟨rfl, hb2⟩
    go_wp2_with fail
    go_ret
    exact ⟨rfl, (by repeat (first | exact Below.refl _ _ | assumption | refine ext_alloc ?_ _ | refine Below.drew ?_ | refine drewN_below ?_ _ | refine ext_trans ?_ (by assumption) | refine Below.alloc ?_ ?_ _ | refine Below.setCell ?_ ?_ _ | omega | (simp <;> omega)))⟩

theorem cmpW_prod (H L H' L' : Nat) (hL : L < 18446744073709551616) (hL' : L' < 18446744073709551616) :
    cmpW H L H' L' = (if H * 18446744073709551616 + L < H' * 18446744073709551616 + L' then -1 else if H * 18446744073709551616 + L = H' * 18446744073709551616 + L' then 0 else 1) := by
  unfold cmpW
  by_cases h1 : H * 18446744073709551616 + L < H' * 18446744073709551616 + L'
  · rw [if_pos h1, if_pos (by omega)]
  · rw [if_neg h1, if_neg (by omega)]
    by_cases h2 : H * 18446744073709551616 + L = H' * 18446744073709551616 + L'
    · rw [if_pos h2, if_pos (by omega)]
    · rw [if_neg h2, if_neg (by omega)]

/-- -1, 0 or 1. -/
def cmpN (x y : Nat) : Int := if x < y then -1 else if x = y then 0 else 1

theorem mod_lt64 (a : Nat) : a % 18446744073709551616 < 18446744073709551616 := Nat.mod_lt _ (by omega)

set_option maxHeartbeats 400000 in
theorem exCompare_any (a b c d : Nat) (ha : a < 18446744073709551616) (hb : b < 18446744073709551616) (hc : c < 18446744073709551616) (hd : d < 18446744073709551616) (w : World) :
    Calls Try.prog 14 #[.int .u64 a, .int .u64 b, .int .u64 c, .int .u64 d] w fun e w' =>
      e = .returned (.int .i64 (cmpN (a * max d 1) (c * max b 1))) ∧ Below w.heap.size w w' := by
  have hcon := exMul_any a (max d 1) ha (by omega)
  have hcon' := exMul_any c (max b 1) hc (by omega)
  have hj := mul_join a (max d 1)
  have hj' := mul_join c (max b 1)
  have hl := mod_lt64 (a * max d 1)
  have hl' := mod_lt64 (c * max b 1)
  have e1 : ((max d 1 : Nat) : Int) = max (d : Int) 1 := by omega
  have e2 : ((max b 1 : Nat) : Int) = max (b : Int) 1 := by omega
  generalize a * max d 1 / 18446744073709551616 = H at *
  generalize a * max d 1 % 18446744073709551616 = L at *
  generalize c * max b 1 / 18446744073709551616 = H' at *
  generalize c * max b 1 % 18446744073709551616 = L' at *
  have HV : Hid (cmpN (a * max d 1) (c * max b 1) = cmpW H L H' L') := by
    show cmpN (a * max d 1) (c * max b 1) = cmpW H L H' L'
    rw [cmpW_prod H L H' L' hl hl', hj, hj']; rfl
  rw [e1] at hcon
  rw [e2] at hcon'
  have Hc := Lib.hid hcon
  have Hc' := Lib.hid hcon'
  rw [HV.out]
  clear hcon hcon' hj hj' e1 e2 HV
  go_enter Try.func14, Try.ntmps14
  go_wp2_with fail
  refine (Hc.out _).mono ?_
  rintro e w1 ⟨rfl, hb1⟩
  go_wp2_with fail
  refine (Hc'.out _).mono ?_
  rintro e w2 ⟨rfl, hb2⟩
  go_wp2_with fail
  refine (exCompareWide_any _ _ _ _ _).mono ?_
  rintro e w3 ⟨rfl, hb3⟩
  go_wp2_with fail
  go_ret
  exact ⟨rfl, (by repeat (first | exact Below.refl _ _ | assumption | refine ext_alloc ?_ _ | refine Below.drew ?_ | refine drewN_below ?_ _ | refine ext_trans ?_ (by assumption) | refine Below.alloc ?_ ?_ _ | refine Below.setCell ?_ ?_ _ | omega | (simp <;> omega)))⟩

set_option maxHeartbeats 400000 in
theorem exGcd_any (a b : Nat) (ha : a < 18446744073709551616) (hb : b < 18446744073709551616) (w : World) :
    Calls Try.prog 22 #[.int .u64 a, .int .u64 b] w fun e w' => e = .returned (.int .u64 ((Nat.gcd a b : Nat) : Int)) ∧ Below w.heap.size w w' := by
  go_enter Try.func22, Try.ntmps22
  go_wp2
  go_loopw [0, 1] (fun x y wr => ∃ p q : Nat, p < 18446744073709551616 ∧ q < 18446744073709551616 ∧ x = .int .u64 p ∧ y = .int .u64 q ∧ Hid (Nat.gcd p q = Nat.gcd a b) ∧ Below w.heap.size w wr) (fun _ y _ => (intOf y).toNat)
  case atStart => exact ⟨a, b, ha, hb, rfl, rfl, rfl, Below.refl _ _⟩
  case round =>
    obtain ⟨p, q, hp, hq, rfl, rfl, hg, hbl⟩ := hrel
    by_cases h0 : q = 0
    · subst h0
      have h1 : ((0 : Int) != 0) = false := by decide
      go_wp2
      go_ret
      refine ⟨?_, hbl⟩
      rw [← hg.out, Nat.gcd_zero_right]; rfl
    · have h1 : ((q : Int) != 0) = true := by simp [h0]
      have h2 : ((q : Int) == 0) = false := by simp [h0]
      have hm : p % q < q := Nat.mod_lt _ (by omega)
      have hg2 : Hid (Nat.gcd q (p % q) = Nat.gcd a b) := by
        show Nat.gcd q (p % q) = Nat.gcd a b
        rw [← hg.out, Nat.gcd_comm p q, Nat.gcd_rec q p, Nat.gcd_comm]
      go_wp2
      go_quiet (fail)
      go_wp2
      go_roundw
      case rel => exact ⟨q, p % q, hq, by omega, rfl, rfl, hg2, drewN_below hbl _⟩
      case measure => simp only [intOf]; omega

set_option maxHeartbeats 400000 in
theorem exReduce_any (a b : Nat) (ha : a < 18446744073709551616) (hb : b < 18446744073709551616) (w : World) :
    Calls Try.prog 23 #[.int .u64 a, .int .u64 b] w fun e w' =>
      e = .returned (.tuple #[.int .u64 ((a / Nat.gcd a (max b 1) : Nat) : Int), .int .u64 ((max b 1 / Nat.gcd a (max b 1) : Nat) : Int)]) ∧ Below w.heap.size w w' := by
  have hcon := exGcd_any a (max b 1) ha (by omega)
  have e1 : ((max b 1 : Nat) : Int) = max (b : Int) 1 := by omega
  have hg : 0 < Nat.gcd a (max b 1) := Nat.gcd_pos_of_pos_right _ (by omega)
  rw [e1] at hcon
  generalize hgg : Nat.gcd a (max b 1) = g at *
  have hz : ((g : Int) == 0) = false := by simp; omega
  have e2 : IntKind.u64.wrap ((a : Int) / (g : Int)) = ((a / g : Nat) : Int) := u64w (a / g) (Nat.lt_of_le_of_lt (Nat.div_le_self _ _) ha)
  have e3 : ((max b 1 / g : Nat) : Int) = max (b : Int) 1 / (g : Int) := by
    rw [← e1]; rfl
  have Hc := Lib.hid hcon
  obtain ⟨x, hx⟩ : ∃ x, a / g = x := ⟨_, rfl⟩
  obtain ⟨y, hy⟩ : ∃ y, max b 1 / g = y := ⟨_, rfl⟩
  rw [hx] at e2 ⊢
  rw [hy] at e3 ⊢
  have E3 := Lib.hid e3
  clear hcon hgg e1 hx hy e3
  go_enter Try.func23, Try.ntmps23
  go_wp2_with (go_at_call 22; refine (Hc.out _).mono ?_; rintro e w1 ⟨rfl, hb1⟩)
  go_quiet (fail)
  go_wp2
  go_ret2
  exact ⟨by rw [E3.out]; rfl, (by repeat (first | exact Below.refl _ _ | assumption | refine ext_alloc ?_ _ | refine Below.drew ?_ | refine drewN_below ?_ _ | refine ext_trans ?_ (by assumption) | refine Below.alloc ?_ ?_ _ | refine Below.setCell ?_ ?_ _ | omega | (simp <;> omega)))⟩

end Go.Proofs.Ytlbacbhafmfbjaa
