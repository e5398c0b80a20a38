/- The laws of layer 23: the sanity check, what must be reserved. -/
import Derived.Test.YteilknlokjfelaaGua5
import Derived.Test.YteilknlokjfelaaMade1
namespace Go.Proofs.Yteilknlokjfelaa
open Go.RowKit Go.Sort
set_option linter.unusedVariables false
set_option linter.unusedSimpArgs false

theorem GuIn.none_ (w : World) : GuIn w none 0 [] := ⟨RowsW.nil, by simp, by simp, fun _ => rfl⟩
theorem awk1 (w : World) : Calls Try.prog 19 #[gv 1 100 500000 none 0 0, .int .i64 1, .int .i64 101] w (SetOk w 1 100 500000 [⟨1, 51⟩]) := by
  refine (set_any w 1 100 500000 1 101 none 0 [] (GuIn.none_ w) (by decide +kernel) (by decide)).mono ?_
  rintro e w' ⟨i, ⟨hi, _, _⟩, h⟩
  obtain rfl : i = 0 := by simpa using hi
  rw [if_pos (by decide +kernel)] at h
  exact h
theorem awk2 (w : World) (A : Option Addr) (c : Nat) (h : GuIn w A c [⟨1, 51⟩]) : Calls Try.prog 19 #[gv 1 100 500000 A 1 c, .int .i64 2, .int .i64 101] w (SetErr w 16) := by
  refine (set_any w 1 100 500000 2 101 A c [⟨1, 51⟩] h (by decide +kernel) (by decide)).mono ?_
  rintro e w' ⟨i, ⟨hi, _, h2⟩, h⟩
  have h3 : i ≠ 0 := by
    intro e
    have := h2 0 (by simp) (by omega)
    simp at this
  obtain rfl : i = 1 := by simp at hi; omega
  rw [if_neg (by decide +kernel)] at h
  exact h

set_option maxHeartbeats 1000000 in
theorem awake23 : Fn 15 #[] (.bool true) := by
  intro w
  have T51 : guT 1 100 500000 [⟨1, 51⟩] = 51 := by decide +kernel
  have HT := Lib.hid fun W A c (h : GuIn W A c [⟨1, 51⟩]) => guTotal_any W 1 100 500000 A c [⟨1, 51⟩] h.rd (by simp [maxLen])
  rw [T51] at HT
  have H1 := awk1 w
  have H2 := Lib.hid fun W A c h => awk2 W A c h
  unfold gv at H1 HT H2
  go_enter Try.func15, Try.ntmps15
  go_wp2_with fail
  refine H1.mono ?_
  rintro e w1 ⟨⟨A, c, rfl, hg⟩, hb1⟩
  have HG := Lib.hid hg
  clear hg H1
  unfold gv
  go_wp2_with fail
  have hg1 : GuIn (w1.alloc (Obj.cells #[.int .i64 1, .int .i64 100, .int .i64 500000, .slice A 1 c] 25)) A c [⟨1, 51⟩] := HG.out.ext (below_alloc_refl _ _)
  refine (H2.out _ A c hg1).mono ?_
  rintro e w2 ⟨rfl, hb2⟩
  obtain ⟨hc2, hf2⟩ := bcell hb2
  have z2 : w1.heap.size < w2.heap.size := by have := hb2.size; simp at this; omega
  unfold zeroG gv
  have HG2 := Lib.hid (hg1.ext hb2)
  clear hg1
  go_wp2_with fail
  refine (HT.out _ A c (HG2.out.ext ?_)).mono ?_
  · exact (by repeat (first | exact Below.refl _ _ | assumption | refine ext_alloc ?_ _ | refine Below.drew ?_ | refine drewN_below ?_ _ | refine ext_trans ?_ (by assumption) | refine Below.alloc ?_ ?_ _ | refine Below.setCell ?_ ?_ _ | omega | (simp <;> omega)))
  rintro e w3 ⟨rfl, hb3⟩
  go_wp2_with fail
  go_ret
  exact ⟨rfl, (by repeat (first | exact Below.refl _ _ | assumption | refine ext_alloc ?_ _ | refine Below.drew ?_ | refine drewN_below ?_ _ | refine ext_trans ?_ (by assumption) | refine Below.alloc ?_ ?_ _ | refine Below.setCell ?_ ?_ _ | omega | (simp <;> omega)))⟩

theorem req_least (lv a : Int) (hl : 0 ≤ lv ∧ lv ≤ 1000000) (ha : 0 ≤ a ∧ a ≤ 1000000000000) : ∃ q : Int, reqS lv a = (q, 0) ∧ 0 ≤ q ∧ q ≤ 1000000000000 ∧ 0 ≤ a * lv ∧ a * lv ≤ 1000000000000000000 ∧ a * lv ≤ q * 1000000 ∧ (q - 1) * 1000000 < a * lv := by
  have h1 : 0 ≤ a * lv := Int.mul_nonneg ha.1 hl.1
  have h2 : a * lv ≤ 1000000000000 * 1000000 := Int.mul_le_mul ha.2 hl.2 hl.1 (by omega)
  refine ⟨_, reqS_ok lv a (by omega), ?_, ?_, h1, by omega, ?_, ?_⟩ <;> omega

set_option maxRecDepth 100000 in
set_option maxHeartbeats 1000000 in
theorem lawRequired (w : World) (id rf lv a : Int) (A : Option Addr) (n c : Nat) (raw : Bool) : Calls Try.prog 4 #[gv id rf lv A n c, .int .i64 a, .bool raw] w fun e w' => e = .returned (.bool true) ∧ Below w.heap.size w w' := by
  have H1 := Lib.hid fun L a => required_any id rf L a A n c
  have H2 := Lib.hid fun L a => rRequired_any id rf L a A n c
  have HW1 := Lib.hid (within_any lv 1000001 (by omega) (by omega))
  have HW2 := Lib.hid (within_any a 1000000000001 (by omega) (by omega))
  have l0 := Int.emod_nonneg lv (show (1000001 : Int) ≠ 0 by omega)
  have l1 := Int.emod_lt_of_pos lv (show (0 : Int) < 1000001 by omega)
  have a0 := Int.emod_nonneg a (show (1000000000001 : Int) ≠ 0 by omega)
  have a1 := Int.emod_lt_of_pos a (show (0 : Int) < 1000000000001 by omega)
  generalize lv % 1000001 = L at *
  generalize a % 1000000000001 = B at *
  unfold gv pairV_ at *
  cases raw
  · obtain ⟨q, hq, q0, q1, p0, p1, q2, q3⟩ := req_least L B (by omega) (by omega)
    have K1 := Lib.hid (H1.out L B)
    have K2 := Lib.hid (H2.out L B)
    rw [hq] at K1 K2
    have eq1 : (q != q) = false := by simp
    clear hq H1 H2
    go_enter Try.func4, Try.ntmps4
    go_wp2_with fail
    refine (HW1.out _).mono ?_
    rintro e w1 ⟨rfl, hb1⟩
    go_wp2_with fail
    refine (HW2.out _).mono ?_
    rintro e w2 ⟨rfl, hb2⟩
    obtain ⟨hc1, hf1⟩ := bcell hb1
    obtain ⟨hc2, hf2⟩ := bcell hb2
    have z1 : w.heap.size < w1.heap.size := by have := hb1.size; simp at this; omega
    have z2 : w.heap.size < w2.heap.size := by have := hb2.size; omega
    go_wp2_with fail
    refine (K1.out _).mono ?_
    rintro e w3 ⟨rfl, hb3⟩
    obtain ⟨hc3, hf3⟩ := bcell hb3
    have z3 : w.heap.size < w3.heap.size := by have := hb3.size; simp at this; omega
    go_wp2_with fail
    refine (K2.out _).mono ?_
    rintro e w4 ⟨rfl, hb4⟩
    obtain ⟨hc4, hf4⟩ := bcell hb4
    have z4 : w.heap.size < w4.heap.size := by have := hb4.size; omega
    have hbW : Below w.heap.size w w4 := (by repeat (first | exact Below.refl _ _ | assumption | refine ext_alloc ?_ _ | refine Below.drew ?_ | refine drewN_below ?_ _ | refine ext_trans ?_ (by assumption) | refine Below.alloc ?_ ?_ _ | refine Below.setCell ?_ ?_ _ | omega | (simp <;> omega)))
    have ew : IntKind.i64.wrap (B * L) = B * L := by rw [IntKind.wrap_i64]; omega
    have ew2 : wrap64 (B * L) = B * L := IntWalk.wrap64_in _ (by omega)
    have t1 : decide (B * L ≤ q * 1000000) = true := by simpa using q2
    have t2 : decide ((q - 1) * 1000000 < B * L) = true := by simpa using q3
    go_wp2_with fail
    refine (awake23 _).mono ?_
    rintro e w5 ⟨rfl, hb5⟩
    go_wp2_with fail
    go_ret
    exact ⟨rfl, (by repeat (first | exact Below.refl _ _ | assumption | refine ext_alloc ?_ _ | refine Below.drew ?_ | refine drewN_below ?_ _ | refine ext_trans ?_ (by assumption) | refine Below.alloc ?_ ?_ _ | refine Below.setCell ?_ ?_ _ | omega | (simp <;> omega)))⟩
  · by_cases h : lv < 0 ∨ 1000000 < lv ∨ a < 0 ∨ 1000000000000 < a
    · have K1 := Lib.hid (H1.out lv a)
      have K2 := Lib.hid (H2.out lv a)
      rw [reqS_bad lv a h] at K1 K2
      clear H1 H2 h
      go_enter Try.func4, Try.ntmps4
      go_wp2_with fail
      refine (K1.out _).mono ?_
      rintro e w3 ⟨rfl, hb3⟩
      obtain ⟨hc3, hf3⟩ := bcell hb3
      have z3 : w.heap.size < w3.heap.size := by have := hb3.size; simp at this; omega
      go_wp2_with fail
      refine (K2.out _).mono ?_
      rintro e w4 ⟨rfl, hb4⟩
      go_wp2_with fail
      refine (awake23 _).mono ?_
      rintro e w5 ⟨rfl, hb5⟩
      go_wp2_with fail
      go_ret
      exact ⟨rfl, (by repeat (first | exact Below.refl _ _ | assumption | refine ext_alloc ?_ _ | refine Below.drew ?_ | refine drewN_below ?_ _ | refine ext_trans ?_ (by assumption) | refine Below.alloc ?_ ?_ _ | refine Below.setCell ?_ ?_ _ | omega | (simp <;> omega)))⟩
    · obtain ⟨q, hq, q0, q1, p0, p1, q2, q3⟩ := req_least lv a (by omega) (by omega)
      have K1 := Lib.hid (H1.out lv a)
      have K2 := Lib.hid (H2.out lv a)
      rw [hq] at K1 K2
      have eq1 : (q != q) = false := by simp
      obtain ⟨b1, b2, b3, b4⟩ : 0 ≤ lv ∧ lv ≤ 1000000 ∧ 0 ≤ a ∧ a ≤ 1000000000000 := by omega
      clear hq H1 H2 h
      go_enter Try.func4, Try.ntmps4
      go_wp2_with fail
      refine (K1.out _).mono ?_
      rintro e w3 ⟨rfl, hb3⟩
      obtain ⟨hc3, hf3⟩ := bcell hb3
      have z3 : w.heap.size < w3.heap.size := by have := hb3.size; simp at this; omega
      go_wp2_with fail
      refine (K2.out _).mono ?_
      rintro e w4 ⟨rfl, hb4⟩
      obtain ⟨hc4, hf4⟩ := bcell hb4
      have z4 : w.heap.size < w4.heap.size := by have := hb4.size; omega
      have hbW : Below w.heap.size w w4 := (by repeat (first | exact Below.refl _ _ | assumption | refine ext_alloc ?_ _ | refine Below.drew ?_ | refine drewN_below ?_ _ | refine ext_trans ?_ (by assumption) | refine Below.alloc ?_ ?_ _ | refine Below.setCell ?_ ?_ _ | omega | (simp <;> omega)))
      have ew : IntKind.i64.wrap (a * lv) = a * lv := by rw [IntKind.wrap_i64]; omega
      have ew2 : wrap64 (a * lv) = a * lv := IntWalk.wrap64_in _ (by omega)
      have t1 : decide (a * lv ≤ q * 1000000) = true := by simpa using q2
      have t2 : decide ((q - 1) * 1000000 < a * lv) = true := by simpa using q3
      go_wp2_with fail
      refine (awake23 _).mono ?_
      rintro e w5 ⟨rfl, hb5⟩
      go_wp2_with fail
      go_ret
      exact ⟨rfl, (by repeat (first | exact Below.refl _ _ | assumption | refine ext_alloc ?_ _ | refine Below.drew ?_ | refine drewN_below ?_ _ | refine ext_trans ?_ (by assumption) | refine Below.alloc ?_ ?_ _ | refine Below.setCell ?_ ?_ _ | omega | (simp <;> omega)))⟩

end Go.Proofs.Yteilknlokjfelaa
