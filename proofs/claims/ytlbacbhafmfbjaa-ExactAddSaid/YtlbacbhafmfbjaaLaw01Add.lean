/- The law of the sum. -/
import Derived.Test.YtlbacbhafmfbjaaLaw01Cmp
import Derived.Test.YtlbacbhafmfbjaaKit
namespace Go.Proofs.Ytlbacbhafmfbjaa
open Go.RowKit
set_option linter.unusedVariables false

theorem addV_over (a b c d : Int) (h : ¬ a + c + (b + d) / 18446744073709551616 < 18446744073709551616) : addV a b c d = .tuple #[.agg #[.int .u64 0, .int .u64 0], .int .i64 3] := if_neg h
theorem addV_fine (a b c d H L : Int) (h : a + c + (b + d) / 18446744073709551616 < 18446744073709551616) (hH : a + c + (b + d) / 18446744073709551616 = H) (hL : (b + d) % 18446744073709551616 = L) :
    addV a b c d = .tuple #[.agg #[.int .u64 H, .int .u64 L], .int .i64 0] := by subst hH hL; exact if_pos h

theorem cmpW_ge (H L a b : Int) (h : a * 18446744073709551616 + b ≤ H * 18446744073709551616 + L) (hb : 0 ≤ b) (hb2 : b < 18446744073709551616) (hL : 0 ≤ L) (hL2 : L < 18446744073709551616) : 0 ≤ cmpW H L a b := by
  unfold cmpW
  rw [if_neg (by omega)]
  split <;> omega

set_option maxRecDepth 100000 in
set_option maxHeartbeats 1000000 in
theorem lawAdd_over (a b c d g l : Int) (h1 : Fn 19 #[.agg #[.int .u64 a, .int .u64 b], .agg #[.int .u64 c, .int .u64 d]] (.tuple #[.agg #[.int .u64 0, .int .u64 0], .int .i64 3]))
    (h2 : Fn 26 #[.agg #[.int .u64 a, .int .u64 b], .agg #[.int .u64 c, .int .u64 d]] (.tuple #[.agg #[.int .u64 g, .int .u64 l], .bool true])) :
    Fn 9 #[.int .u64 a, .int .u64 b, .int .u64 c, .int .u64 d] (.bool true) := by
  intro w
  go_enter Try.func9, Try.ntmps9
  (go_wp2_with fail; refine (h1 _).mono ?_; rintro e w1 ⟨rfl, hb1⟩; obtain ⟨hc1, hf1⟩ := bcell hb1; have z1_w_0 : w.heap.size < w1.heap.size := (by have zz := hb1.size; (try simp at zz); omega); have z1_w_1 : w.heap.size + 1 < w1.heap.size := (by have zz := hb1.size; (try simp at zz); omega))
  (go_wp2_with fail; refine (h2 _).mono ?_; rintro e w2 ⟨rfl, hb2⟩; obtain ⟨hc2, hf2⟩ := bcell hb2; have z2_w1_0 : w1.heap.size < w2.heap.size := (by have zz := hb2.size; (try simp at zz); omega); have z2_w_0 : w.heap.size < w2.heap.size := (by have zz := hb2.size; (try simp at zz); omega); have z2_w_1 : w.heap.size + 1 < w2.heap.size := (by have zz := hb2.size; (try simp at zz); omega))
  (go_wp2_with fail; refine (awake_any _).mono ?_; rintro e w3 ⟨rfl, hb3⟩; obtain ⟨hc3, hf3⟩ := bcell hb3)
  go_wp2_with fail
  go_ret
  exact ⟨rfl, (by repeat (first | exact Below.refl _ _ | assumption | refine ext_alloc ?_ _ | refine Below.drew ?_ | refine drewN_below ?_ _ | refine ext_trans ?_ (by assumption) | refine Below.alloc ?_ ?_ _ | refine Below.setCell ?_ ?_ _ | omega | (simp <;> omega)))⟩

set_option maxRecDepth 100000 in
set_option maxHeartbeats 1000000 in
theorem lawAdd_fine (a b c d g l x y : Int) (hy : 0 ≤ y) (h1 : Fn 19 #[.agg #[.int .u64 a, .int .u64 b], .agg #[.int .u64 c, .int .u64 d]] (.tuple #[.agg #[.int .u64 g, .int .u64 l], .int .i64 0]))
    (h2 : Fn 26 #[.agg #[.int .u64 a, .int .u64 b], .agg #[.int .u64 c, .int .u64 d]] (.tuple #[.agg #[.int .u64 g, .int .u64 l], .bool false]))
    (h3 : Fn 27 #[.agg #[.int .u64 a, .int .u64 b], .agg #[.int .u64 c, .int .u64 d]] (.int .i64 x))
    (h4 : Fn 28 #[.agg #[.int .u64 a, .int .u64 b], .agg #[.int .u64 c, .int .u64 d]] (.int .i64 x))
    (h5 : Fn 27 #[.agg #[.int .u64 g, .int .u64 l], .agg #[.int .u64 a, .int .u64 b]] (.int .i64 y)) :
    Fn 9 #[.int .u64 a, .int .u64 b, .int .u64 c, .int .u64 d] (.bool true) := by
  intro w
  have hx : (x == x) = true := by simp
  go_enter Try.func9, Try.ntmps9
  (go_wp2_with fail; refine (h1 _).mono ?_; rintro e w1 ⟨rfl, hb1⟩; obtain ⟨hc1, hf1⟩ := bcell hb1; have z1_w_0 : w.heap.size < w1.heap.size := (by have zz := hb1.size; (try simp at zz); omega); have z1_w_1 : w.heap.size + 1 < w1.heap.size := (by have zz := hb1.size; (try simp at zz); omega))
  (go_wp2_with fail; refine (h2 _).mono ?_; rintro e w2 ⟨rfl, hb2⟩; obtain ⟨hc2, hf2⟩ := bcell hb2; have z2_w1_0 : w1.heap.size < w2.heap.size := (by have zz := hb2.size; (try simp at zz); omega); have z2_w_0 : w.heap.size < w2.heap.size := (by have zz := hb2.size; (try simp at zz); omega); have z2_w_1 : w.heap.size + 1 < w2.heap.size := (by have zz := hb2.size; (try simp at zz); omega))
  (go_wp2_with fail; refine (same_any _ _ _ _ _ rfl rfl).mono ?_; rintro e w3 ⟨rfl, hb3⟩; obtain ⟨hc3, hf3⟩ := bcell hb3; have z3_w2_0 : w2.heap.size < w3.heap.size := (by have zz := hb3.size; (try simp at zz); omega); have z3_w1_0 : w1.heap.size < w3.heap.size := (by have zz := hb3.size; (try simp at zz); omega); have z3_w_0 : w.heap.size < w3.heap.size := (by have zz := hb3.size; (try simp at zz); omega); have z3_w_1 : w.heap.size + 1 < w3.heap.size := (by have zz := hb3.size; (try simp at zz); omega))
  (go_wp2_with fail; refine (h3 _).mono ?_; rintro e w4 ⟨rfl, hb4⟩; obtain ⟨hc4, hf4⟩ := bcell hb4; have z4_w2_0 : w2.heap.size < w4.heap.size := (by have zz := hb4.size; (try simp at zz); omega); have z4_w1_0 : w1.heap.size < w4.heap.size := (by have zz := hb4.size; (try simp at zz); omega); have z4_w_0 : w.heap.size < w4.heap.size := (by have zz := hb4.size; (try simp at zz); omega); have z4_w_1 : w.heap.size + 1 < w4.heap.size := (by have zz := hb4.size; (try simp at zz); omega))
  (go_wp2_with fail; refine (h4 _).mono ?_; rintro e w5 ⟨rfl, hb5⟩; obtain ⟨hc5, hf5⟩ := bcell hb5; have z5_w2_0 : w2.heap.size < w5.heap.size := (by have zz := hb5.size; (try simp at zz); omega); have z5_w1_0 : w1.heap.size < w5.heap.size := (by have zz := hb5.size; (try simp at zz); omega); have z5_w_0 : w.heap.size < w5.heap.size := (by have zz := hb5.size; (try simp at zz); omega); have z5_w_1 : w.heap.size + 1 < w5.heap.size := (by have zz := hb5.size; (try simp at zz); omega))
  (go_wp2_with fail; refine (h5 _).mono ?_; rintro e w6 ⟨rfl, hb6⟩; obtain ⟨hc6, hf6⟩ := bcell hb6)
  (go_wp2_with fail; refine (awake_any _).mono ?_; rintro e w7 ⟨rfl, hb7⟩; obtain ⟨hc7, hf7⟩ := bcell hb7)
  go_wp2_with fail
  go_ret
  exact ⟨rfl, (by repeat (first | exact Below.refl _ _ | assumption | refine ext_alloc ?_ _ | refine Below.drew ?_ | refine drewN_below ?_ _ | refine ext_trans ?_ (by assumption) | refine Below.alloc ?_ ?_ _ | refine Below.setCell ?_ ?_ _ | omega | (simp <;> omega)))⟩

theorem lawAdd (a b c d : Nat) (ha : a < 18446744073709551616) (hb : b < 18446744073709551616) (hc : c < 18446744073709551616) (hd : d < 18446744073709551616) : Fn 9 #[.int .u64 a, .int .u64 b, .int .u64 c, .int .u64 d] (.bool true) := by
  have h1 : Fn 19 _ _ := exAdd_any a b c d (by omega) (by omega) (by omega) (by omega) (by omega) (by omega) (by omega) (by omega)
  have h2 : Fn 26 _ _ := rAdd_any a b c d (by omega) (by omega) (by omega) (by omega) (by omega) (by omega) (by omega) (by omega)
  by_cases h : (a : Int) + c + ((b : Int) + d) / 18446744073709551616 < 18446744073709551616
  · obtain ⟨H, hH⟩ : ∃ H : Int, (a : Int) + c + ((b : Int) + d) / 18446744073709551616 = H := ⟨_, rfl⟩
    obtain ⟨L, hL⟩ : ∃ L : Int, ((b : Int) + d) % 18446744073709551616 = L := ⟨_, rfl⟩
    exact lawAdd_fine a b c d H L _ _ (cmpW_ge H L a b (by omega) (by omega) (by omega) (by omega) (by omega)) (h1.val (addV_fine _ _ _ _ H L h hH hL)) (h2.val (rAdd_case _ _ _ _ L H false hL (by omega) (by simp; omega)))
      (exCompareWide_any a b c d) (rOrder_any a b c d) (exCompareWide_any H L a b)
  · exact lawAdd_over a b c d _ _ (h1.val (addV_over _ _ _ _ h)) (h2.val (rAdd_case _ _ _ _ _ _ true rfl rfl (by simp; omega)))

end Go.Proofs.Ytlbacbhafmfbjaa
