/- Contracts of the reference of layer 1 that lean on Mul, DivMod and Div. -/
import Derived.Test.YtlbacbhafmfbjaaRefDiv
namespace Go.Proofs.Ytlbacbhafmfbjaa
open Go.RowKit
set_option linter.unusedVariables false

set_option maxHeartbeats 400000 in
theorem rMulDiv_any (a b c : Nat) (m : Int) (ha : a < 18446744073709551616) (hb : b < 18446744073709551616) (hc : c < 18446744073709551616) (w : World) :
    Calls Try.prog 29 #[.int .u64 a, .int .u64 b, .int .u64 c, .int .i64 m] w fun e w' =>
      e = .returned (divV m (a * b) c) ∧ Below w.heap.size w w' := by
  have hcon := rMul_any a b ha hb
  have h1 := mul_lt_128 a b ha hb
  have h2 : a * b % 18446744073709551616 < 18446744073709551616 := mod_lt64 _
  have hj := mul_join a b
  generalize a * b / 18446744073709551616 = H at *
  generalize a * b % 18446744073709551616 = L at *
  have hcon2 := rDiv_any H L c m h1 h2 hc
  rw [hj] at hcon2
  have Hc := Lib.hid hcon
  have Hc2 := Lib.hid hcon2
  obtain ⟨u, hu⟩ : ∃ u : Nat × Int, divS m (a * b) c = u := ⟨_, rfl⟩
  unfold divV at Hc2 ⊢
  rw [hu] at Hc2 ⊢
  clear hcon hcon2 hj hu
  go_enter Try.func29, Try.ntmps29
  go_wp2_with (first | (go_at_call 18; refine (Hc.out _).mono ?_; rintro e w1 ⟨rfl, hb1⟩) | (go_at_call 12; refine (Hc2.out _).mono ?_; rintro e w2 ⟨rfl, hb2⟩))
  go_ret2
  exact ⟨rfl, hb1.trans (hb2.mono hb1.size)⟩

set_option maxHeartbeats 400000 in
theorem rMulMod_any (a b c : Nat) (ha : a < 18446744073709551616) (hb : b < 18446744073709551616) (hc : c < 18446744073709551616) (w : World) :
    Calls Try.prog 30 #[.int .u64 a, .int .u64 b, .int .u64 c] w fun e w' =>
      e = .returned (.int .u64 ((if c = 0 then 0 else a * b % c : Nat) : Int)) ∧ Below w.heap.size w w' := by
  by_cases h0 : c = 0
  · subst h0
    go_enter Try.func30, Try.ntmps30
    go_wp2
    go_ret
    exact ⟨rfl, (by repeat (first | exact Below.refl _ _ | assumption | refine ext_alloc ?_ _ | refine Below.drew ?_ | refine drewN_below ?_ _ | refine ext_trans ?_ (by assumption) | refine Below.alloc ?_ ?_ _ | refine Below.setCell ?_ ?_ _ | omega | (simp <;> omega)))⟩
  · have HV : Hid (((if c = 0 then 0 else a * b % c : Nat) : Int) = ((a * b % c : Nat) : Int)) := by
      show ((if c = 0 then 0 else a * b % c : Nat) : Int) = ((a * b % c : Nat) : Int)
      rw [if_neg h0]
    rw [HV.out]
    have h0b : ((c : Int) == 0) = false := by simp; omega
    have hcon := rMul_any a b ha hb
    have h1 := mul_lt_128 a b ha hb
    have h2 : a * b % 18446744073709551616 < 18446744073709551616 := mod_lt64 _
    have hj := mul_join a b
    generalize a * b / 18446744073709551616 = H at *
    generalize a * b % 18446744073709551616 = L at *
    have hcon2 := rDivMod_any H L c h1 h2 hc (by omega)
    rw [hj] at hcon2
    have Hc := Lib.hid hcon
    have Hc2 := Lib.hid hcon2
    clear hcon hcon2 hj HV
    generalize a * b % c = r at *
    go_enter Try.func30, Try.ntmps30
    go_wp2_with fail
    refine (Hc.out _).mono ?_
    rintro e w1 ⟨rfl, hb1⟩
    go_wp2_with fail
    refine (Hc2.out _).mono ?_
    rintro e w2 ⟨⟨h, l, hh, hl, hq, rfl⟩, hb2⟩
    have HQ := Lib.hid hq
    clear hq
    go_wp2_with fail
    go_ret
    exact ⟨rfl, (by repeat (first | exact Below.refl _ _ | assumption | refine ext_alloc ?_ _ | refine Below.drew ?_ | refine drewN_below ?_ _ | refine ext_trans ?_ (by assumption) | refine Below.alloc ?_ ?_ _ | refine Below.setCell ?_ ?_ _ | omega | (simp <;> omega)))⟩

def lessW (a b c d : Int) : Bool := decide (a < c) || (decide (a = c) && decide (b < d))

set_option maxHeartbeats 400000 in
theorem rLess_any (a b c d : Int) (w : World) :
    Calls Try.prog 37 #[.agg #[.int .u64 a, .int .u64 b], .agg #[.int .u64 c, .int .u64 d]] w fun e w' =>
      e = .returned (.bool (lessW a b c d)) ∧ Below w.heap.size w w' := by
  by_cases h1 : a < c
  · have HV : Hid (lessW a b c d = true) := by show lessW a b c d = true; simp [lessW, h1]
    go_enter Try.func37, Try.ntmps37
    go_wp2
    go_ret
    exact ⟨by rw [HV.out]; rfl, (by repeat (first | exact Below.refl _ _ | assumption | refine ext_alloc ?_ _ | refine Below.drew ?_ | refine drewN_below ?_ _ | refine ext_trans ?_ (by assumption) | refine Below.alloc ?_ ?_ _ | refine Below.setCell ?_ ?_ _ | omega | (simp <;> omega)))⟩
  · have h1b : decide (a < c) = false := by simpa using h1
    by_cases h2 : a = c
    · subst h2
      have HV : Hid (lessW a b a d = decide (b < d)) := by show lessW a b a d = decide (b < d); simp [lessW]
      go_enter Try.func37, Try.ntmps37
      go_wp2
      go_ret
      exact ⟨by rw [HV.out]; rfl, (by repeat (first | exact Below.refl _ _ | assumption | refine ext_alloc ?_ _ | refine Below.drew ?_ | refine drewN_below ?_ _ | refine ext_trans ?_ (by assumption) | refine Below.alloc ?_ ?_ _ | refine Below.setCell ?_ ?_ _ | omega | (simp <;> omega)))⟩
    · have HV : Hid (lessW a b c d = false) := by show lessW a b c d = false; simp [lessW, h1, h2]
      have h5 : (a == c) = false := by simpa using h2
      go_enter Try.func37, Try.ntmps37
      go_wp2
      go_ret
      exact ⟨by rw [HV.out]; rfl, (by repeat (first | exact Below.refl _ _ | assumption | refine ext_alloc ?_ _ | refine Below.drew ?_ | refine drewN_below ?_ _ | refine ext_trans ?_ (by assumption) | refine Below.alloc ?_ ?_ _ | refine Below.setCell ?_ ?_ _ | omega | (simp <;> omega)))⟩

theorem lessW_iff (a b c d : Int) : lessW a b c d = true ↔ (a < c ∨ a = c ∧ b < d) := by simp [lessW]
theorem cmpW_less (a b c d : Int) (h : lessW a b c d = true) : cmpW a b c d = -1 := by rw [lessW_iff] at h; exact if_pos h
theorem cmpW_more (a b c d : Int) (h : lessW a b c d = false) (h' : lessW c d a b = true) : cmpW a b c d = 1 := by
  have h1 : ¬ (a < c ∨ a = c ∧ b < d) := by rw [← lessW_iff, h]; simp
  rw [lessW_iff] at h'
  unfold cmpW; rw [if_neg h1, if_neg (by omega)]
theorem cmpW_same (a b c d : Int) (h : lessW a b c d = false) (h' : lessW c d a b = false) : cmpW a b c d = 0 := by
  have h1 : ¬ (a < c ∨ a = c ∧ b < d) := by rw [← lessW_iff, h]; simp
  have h2 : ¬ (c < a ∨ c = a ∧ d < b) := by rw [← lessW_iff, h']; simp
  unfold cmpW; rw [if_neg h1, if_pos (by omega)]

set_option maxHeartbeats 400000 in
theorem rOrder_any (a b c d : Int) (w : World) :
    Calls Try.prog 28 #[.agg #[.int .u64 a, .int .u64 b], .agg #[.int .u64 c, .int .u64 d]] w fun e w' =>
      e = .returned (.int .i64 (cmpW a b c d)) ∧ Below w.heap.size w w' := by
  cases h1 : lessW a b c d
  · cases h2 : lessW c d a b
    · have HV := Lib.hid (cmpW_same a b c d h1 h2)
      go_enter Try.func28, Try.ntmps28
      go_wp2_with fail
      refine (rLess_any _ _ _ _ _).mono ?_
      rintro e w1 ⟨rfl, hb1⟩
      rw [h1]
      have k0 := (((Blk.new w 30 #[Value.int .u64 a, Value.int .u64 b]).alloc (Obj.cells #[Value.int .u64 c, Value.int .u64 d] 30))).ext hb1
      have k1 := (Blk.new (w.alloc (Obj.cells #[Value.int .u64 a, Value.int .u64 b] 30)) 30 #[Value.int .u64 c, Value.int .u64 d]).ext hb1
      rw [World.size_alloc] at k1
      have y0 := k0.cell 0
      have y1 := k0.cell 1
      have y2 := k1.cell 0
      have y3 := k1.cell 1
      simp only [List.getElem?_toArray, List.getElem?_cons_zero, List.getElem?_cons_succ] at y0 y1 y2 y3
      go_wp2_with fail
      refine (rLess_any _ _ _ _ _).mono ?_
      rintro e w2 ⟨rfl, hb2⟩
      rw [h2]
      go_wp2_with fail
      go_ret
      exact ⟨by rw [HV.out]; rfl, (by repeat (first | exact Below.refl _ _ | assumption | refine ext_alloc ?_ _ | refine Below.drew ?_ | refine drewN_below ?_ _ | refine ext_trans ?_ (by assumption) | refine Below.alloc ?_ ?_ _ | refine Below.setCell ?_ ?_ _ | omega | (simp <;> omega)))⟩
    · have HV := Lib.hid (cmpW_more a b c d h1 h2)
      go_enter Try.func28, Try.ntmps28
      go_wp2_with fail
      refine (rLess_any _ _ _ _ _).mono ?_
      rintro e w1 ⟨rfl, hb1⟩
      rw [h1]
      have k0 := (((Blk.new w 30 #[Value.int .u64 a, Value.int .u64 b]).alloc (Obj.cells #[Value.int .u64 c, Value.int .u64 d] 30))).ext hb1
      have k1 := (Blk.new (w.alloc (Obj.cells #[Value.int .u64 a, Value.int .u64 b] 30)) 30 #[Value.int .u64 c, Value.int .u64 d]).ext hb1
      rw [World.size_alloc] at k1
      have y0 := k0.cell 0
      have y1 := k0.cell 1
      have y2 := k1.cell 0
      have y3 := k1.cell 1
      simp only [List.getElem?_toArray, List.getElem?_cons_zero, List.getElem?_cons_succ] at y0 y1 y2 y3
      go_wp2_with fail
      refine (rLess_any _ _ _ _ _).mono ?_
      rintro e w2 ⟨rfl, hb2⟩
      rw [h2]
      go_wp2_with fail
      go_ret
      exact ⟨by rw [HV.out]; rfl, (by repeat (first | exact Below.refl _ _ | assumption | refine ext_alloc ?_ _ | refine Below.drew ?_ | refine drewN_below ?_ _ | refine ext_trans ?_ (by assumption) | refine Below.alloc ?_ ?_ _ | refine Below.setCell ?_ ?_ _ | omega | (simp <;> omega)))⟩
  · have HV := Lib.hid (cmpW_less a b c d h1)
    go_enter Try.func28, Try.ntmps28
    go_wp2_with fail
    refine (rLess_any _ _ _ _ _).mono ?_
    rintro e w1 ⟨rfl, hb1⟩
    rw [h1]
    go_wp2_with fail
    go_ret
    exact ⟨by rw [HV.out]; rfl, (by repeat (first | exact Below.refl _ _ | assumption | refine ext_alloc ?_ _ | refine Below.drew ?_ | refine drewN_below ?_ _ | refine ext_trans ?_ (by assumption) | refine Below.alloc ?_ ?_ _ | refine Below.setCell ?_ ?_ _ | omega | (simp <;> omega)))⟩

set_option maxHeartbeats 400000 in
theorem rCompare_any (a b c d : Nat) (ha : a < 18446744073709551616) (hb : b < 18446744073709551616) (hc : c < 18446744073709551616) (hd : d < 18446744073709551616) (w : World) :
    Calls Try.prog 15 #[.int .u64 a, .int .u64 b, .int .u64 c, .int .u64 d] w fun e w' =>
      e = .returned (.int .i64 (cmpN (a * max d 1) (c * max b 1))) ∧ Below w.heap.size w w' := by
  have hcon := rMul_any a (max d 1) ha (by omega)
  have hcon' := rMul_any c (max b 1) hc (by omega)
  have hj := mul_join a (max d 1)
  have hj' := mul_join c (max b 1)
  have hl := mod_lt64 (a * max d 1)
  have hl' := mod_lt64 (c * max b 1)
  have e1 : ((max d 1 : Nat) : Int) = max (d : Int) 1 := by omega
  have e2 : ((max b 1 : Nat) : Int) = max (b : Int) 1 := by omega
  generalize a * max d 1 / 18446744073709551616 = H at *
  generalize a * max d 1 % 18446744073709551616 = L at *
  generalize c * max b 1 / 18446744073709551616 = H' at *
  generalize c * max b 1 % 18446744073709551616 = L' at *
  have HV : Hid (cmpN (a * max d 1) (c * max b 1) = cmpW H L H' L') := by
    show cmpN (a * max d 1) (c * max b 1) = cmpW H L H' L'
    rw [cmpW_prod H L H' L' hl hl', hj, hj']; rfl
  rw [e1] at hcon
  rw [e2] at hcon'
  have Hc := Lib.hid hcon
  have Hc' := Lib.hid hcon'
  rw [HV.out]
  clear hcon hcon' hj hj' e1 e2 HV
  go_enter Try.func15, Try.ntmps15
  go_wp2_with fail
  refine (Hc.out _).mono ?_
  rintro e w1 ⟨rfl, hb1⟩
  go_wp2_with fail
  refine (Hc'.out _).mono ?_
  rintro e w2 ⟨rfl, hb2⟩
  go_wp2_with fail
  refine (rOrder_any _ _ _ _ _).mono ?_
  rintro e w3 ⟨rfl, hb3⟩
  go_wp2_with fail
  go_ret
  exact ⟨rfl, (by repeat (first | exact Below.refl _ _ | assumption | refine ext_alloc ?_ _ | refine Below.drew ?_ | refine drewN_below ?_ _ | refine ext_trans ?_ (by assumption) | refine Below.alloc ?_ ?_ _ | refine Below.setCell ?_ ?_ _ | omega | (simp <;> omega)))⟩

set_option maxHeartbeats 400000 in
theorem rGcd_any (a b : Nat) (ha : a < 18446744073709551616) (hb : b < 18446744073709551616) (w : World) :
    Calls Try.prog 25 #[.int .u64 a, .int .u64 b] w fun e w' => e = .returned (.int .u64 ((Nat.gcd a b : Nat) : Int)) ∧ Below w.heap.size w w' := by
  go_enter Try.func25, Try.ntmps25
  go_wp2
  go_loopw [0, 1] (fun x y wr => ∃ p q : Nat, p < 18446744073709551616 ∧ q < 18446744073709551616 ∧ x = .int .u64 p ∧ y = .int .u64 q ∧ Hid (Nat.gcd p q = Nat.gcd a b) ∧ Below w.heap.size w wr) (fun _ y _ => (intOf y).toNat)
  case atStart => exact ⟨a, b, ha, hb, rfl, rfl, rfl, Below.refl _ _⟩
  case round =>
    obtain ⟨p, q, hp, hq, rfl, rfl, hg, hbl⟩ := hrel
    by_cases h0 : q = 0
    · subst h0
      go_wp2
      go_ret
      refine ⟨?_, hbl⟩
      rw [← hg.out, Nat.gcd_zero_right]; rfl
    · have h1 : (0 : Int) < (q : Int) := by omega
      have h2 : ((q : Int) == 0) = false := by simp [h0]
      have hm : p % q < q := Nat.mod_lt _ (by omega)
      have hg2 : Hid (Nat.gcd q (p % q) = Nat.gcd a b) := by
        show Nat.gcd q (p % q) = Nat.gcd a b
        rw [← hg.out, Nat.gcd_comm p q, Nat.gcd_rec q p, Nat.gcd_comm]
      go_wp2
      go_quiet (fail)
      go_wp2
      go_roundw
      case rel => exact ⟨q, p % q, hq, by omega, rfl, rfl, hg2, drewN_below hbl _⟩
      case measure => simp only [intOf]; omega

set_option maxHeartbeats 400000 in
theorem rReduce_any (a b : Nat) (ha : a < 18446744073709551616) (hb : b < 18446744073709551616) (w : World) :
    Calls Try.prog 24 #[.int .u64 a, .int .u64 b] w fun e w' =>
      e = .returned (.tuple #[.int .u64 ((a / Nat.gcd a (max b 1) : Nat) : Int), .int .u64 ((max b 1 / Nat.gcd a (max b 1) : Nat) : Int)]) ∧ Below w.heap.size w w' := by
  have hcon := rGcd_any a (max b 1) ha (by omega)
  have e1 : ((max b 1 : Nat) : Int) = max (b : Int) 1 := by omega
  have hg : 0 < Nat.gcd a (max b 1) := Nat.gcd_pos_of_pos_right _ (by omega)
  rw [e1] at hcon
  generalize hgg : Nat.gcd a (max b 1) = g at *
  have hz : ((g : Int) == 0) = false := by simp; omega
  have e2 : IntKind.u64.wrap ((a : Int) / (g : Int)) = ((a / g : Nat) : Int) := u64w (a / g) (Nat.lt_of_le_of_lt (Nat.div_le_self _ _) ha)
  have e3 : ((max b 1 / g : Nat) : Int) = max (b : Int) 1 / (g : Int) := by
    rw [← e1]; rfl
  have Hc := Lib.hid hcon
  obtain ⟨x, hx⟩ : ∃ x, a / g = x := ⟨_, rfl⟩
  obtain ⟨y, hy⟩ : ∃ y, max b 1 / g = y := ⟨_, rfl⟩
  rw [hx] at e2 ⊢
  rw [hy] at e3 ⊢
  have E3 := Lib.hid e3
  clear hcon hgg e1 hx hy e3
  go_enter Try.func24, Try.ntmps24
  go_wp2_with (go_at_call 25; refine (Hc.out _).mono ?_; rintro e w1 ⟨rfl, hb1⟩)
  go_quiet (fail)
  go_wp2
  go_ret2
  exact ⟨by rw [E3.out]; rfl, (by repeat (first | exact Below.refl _ _ | assumption | refine ext_alloc ?_ _ | refine Below.drew ?_ | refine drewN_below ?_ _ | refine ext_trans ?_ (by assumption) | refine Below.alloc ?_ ?_ _ | refine Below.setCell ?_ ?_ _ | omega | (simp <;> omega)))⟩

end Go.Proofs.Ytlbacbhafmfbjaa
