/- The law of MulDiv. -/
import Derived.Test.YtlbacbhafmfbjaaLaw01Add
import Derived.Test.YtlbacbhafmfbjaaLaw01Modes
import Derived.Lib.QuietBelow
namespace Go.Proofs.Ytlbacbhafmfbjaa
open Go.RowKit Go.Sort
set_option linter.unusedVariables false

set_option maxRecDepth 100000 in
set_option maxHeartbeats 1000000 in
theorem lawMulDiv_err (a b c m v f x : Int) (h1 : Fn 20 #[.int .u64 a, .int .u64 b, .int .u64 c, .int .i64 m] (.tuple #[.int .u64 v, .int .i64 f])) (h2 : Fn 29 #[.int .u64 a, .int .u64 b, .int .u64 c, .int .i64 m] (.tuple #[.int .u64 v, .int .i64 f]))
    (h3 : Fn 21 #[.int .u64 a, .int .u64 b, .int .u64 c] (.int .u64 x)) (h4 : Fn 30 #[.int .u64 a, .int .u64 b, .int .u64 c] (.int .u64 x)) (hf : (f != 0) = true) :
    Fn 10 #[.int .u64 a, .int .u64 b, .int .u64 c, .int .i64 m] (.bool true) := by
  intro w
  have e1 : (v != v) = false := by simp
  have e2 : (f != f) = false := by simp
  have e3 : (x != x) = false := by simp
  go_enter Try.func10, Try.ntmps10
  (go_wp2_with fail; refine (h1 _).mono ?_; rintro e w1 ⟨rfl, hb1⟩; obtain ⟨hc1, hf1⟩ := bcell hb1)
  (go_wp2_with fail; refine (h2 _).mono ?_; rintro e w2 ⟨rfl, hb2⟩; obtain ⟨hc2, hf2⟩ := bcell hb2)
  (go_wp2_with fail; refine (h3 _).mono ?_; rintro e w3 ⟨rfl, hb3⟩; obtain ⟨hc3, hf3⟩ := bcell hb3)
  (go_wp2_with fail; refine (h4 _).mono ?_; rintro e w4 ⟨rfl, hb4⟩; obtain ⟨hc4, hf4⟩ := bcell hb4)
  (go_wp2_with fail; refine (awake_any _).mono ?_; rintro e w5 ⟨rfl, hb5⟩; obtain ⟨hc5, hf5⟩ := bcell hb5)
  go_wp2_with fail
  go_ret
  exact ⟨rfl, (by repeat (first | exact Below.refl _ _ | assumption | refine ext_alloc ?_ _ | refine Below.drew ?_ | refine drewN_below ?_ _ | refine ext_trans ?_ (by assumption) | refine Below.alloc ?_ ?_ _ | refine Below.setCell ?_ ?_ _ | omega | (simp <;> omega)))⟩

set_option maxRecDepth 100000 in
set_option maxHeartbeats 1000000 in
theorem lawMulDiv_mode (a b c m v x : Int) (h1 : Fn 20 #[.int .u64 a, .int .u64 b, .int .u64 c, .int .i64 m] (.tuple #[.int .u64 v, .int .i64 0])) (h2 : Fn 29 #[.int .u64 a, .int .u64 b, .int .u64 c, .int .i64 m] (.tuple #[.int .u64 v, .int .i64 0]))
    (h3 : Fn 21 #[.int .u64 a, .int .u64 b, .int .u64 c] (.int .u64 x)) (h4 : Fn 30 #[.int .u64 a, .int .u64 b, .int .u64 c] (.int .u64 x)) (hf : (m != 0) = true) :
    Fn 10 #[.int .u64 a, .int .u64 b, .int .u64 c, .int .i64 m] (.bool true) := by
  intro w
  have e1 : (v != v) = false := by simp
  have e3 : (x != x) = false := by simp
  go_enter Try.func10, Try.ntmps10
  (go_wp2_with fail; refine (h1 _).mono ?_; rintro e w1 ⟨rfl, hb1⟩; obtain ⟨hc1, hf1⟩ := bcell hb1)
  (go_wp2_with fail; refine (h2 _).mono ?_; rintro e w2 ⟨rfl, hb2⟩; obtain ⟨hc2, hf2⟩ := bcell hb2)
  (go_wp2_with fail; refine (h3 _).mono ?_; rintro e w3 ⟨rfl, hb3⟩; obtain ⟨hc3, hf3⟩ := bcell hb3)
  (go_wp2_with fail; refine (h4 _).mono ?_; rintro e w4 ⟨rfl, hb4⟩; obtain ⟨hc4, hf4⟩ := bcell hb4)
  (go_wp2_with fail; refine (awake_any _).mono ?_; rintro e w5 ⟨rfl, hb5⟩; obtain ⟨hc5, hf5⟩ := bcell hb5)
  go_wp2_with fail
  go_ret
  exact ⟨rfl, (by repeat (first | exact Below.refl _ _ | assumption | refine ext_alloc ?_ _ | refine Below.drew ?_ | refine drewN_below ?_ _ | refine ext_trans ?_ (by assumption) | refine Below.alloc ?_ ?_ _ | refine Below.setCell ?_ ?_ _ | omega | (simp <;> omega)))⟩

set_option maxRecDepth 100000 in
set_option maxHeartbeats 1000000 in
theorem lawMulDiv_down (a b c v x H L H1 L1 : Int) (h1 : Fn 20 #[.int .u64 a, .int .u64 b, .int .u64 c, .int .i64 0] (.tuple #[.int .u64 v, .int .i64 0])) (h2 : Fn 29 #[.int .u64 a, .int .u64 b, .int .u64 c, .int .i64 0] (.tuple #[.int .u64 v, .int .i64 0]))
    (h3 : Fn 21 #[.int .u64 a, .int .u64 b, .int .u64 c] (.int .u64 x)) (h4 : Fn 30 #[.int .u64 a, .int .u64 b, .int .u64 c] (.int .u64 x))
    (h5 : Fn 16 #[.int .u64 v, .int .u64 c] (.agg #[.int .u64 H1, .int .u64 L1])) (h6 : Fn 19 #[.agg #[.int .u64 H1, .int .u64 L1], .agg #[.int .u64 0, .int .u64 x]] (.tuple #[.agg #[.int .u64 H, .int .u64 L], .int .i64 0]))
    (h7 : Fn 16 #[.int .u64 a, .int .u64 b] (.agg #[.int .u64 H, .int .u64 L])) (hx : x < c) :
    Fn 10 #[.int .u64 a, .int .u64 b, .int .u64 c, .int .i64 0] (.bool true) := by
  intro w
  have e1 : (v != v) = false := by simp
  have e3 : (x != x) = false := by simp
  go_enter Try.func10, Try.ntmps10
  (go_wp2_with fail; refine (h1 _).mono ?_; rintro e w1 ⟨rfl, hb1⟩; obtain ⟨hc1, hf1⟩ := bcell hb1)
  (go_wp2_with fail; refine (h2 _).mono ?_; rintro e w2 ⟨rfl, hb2⟩; obtain ⟨hc2, hf2⟩ := bcell hb2)
  (go_wp2_with fail; refine (h3 _).mono ?_; rintro e w3 ⟨rfl, hb3⟩; obtain ⟨hc3, hf3⟩ := bcell hb3)
  (go_wp2_with fail; refine (h4 _).mono ?_; rintro e w4 ⟨rfl, hb4⟩; obtain ⟨hc4, hf4⟩ := bcell hb4)
  (go_wp2_with fail; refine (h5 _).mono ?_; rintro e w5 ⟨rfl, hb5⟩; obtain ⟨hc5, hf5⟩ := bcell hb5)
  (go_wp2_with fail; refine (h3 _).mono ?_; rintro e w6 ⟨rfl, hb6⟩; obtain ⟨hc6, hf6⟩ := bcell hb6)
  (go_wp2_with fail; refine (h6 _).mono ?_; rintro e w7 ⟨rfl, hb7⟩; obtain ⟨hc7, hf7⟩ := bcell hb7)
  go_wp2_with fail
  have k0 := Blk.new w7 27 #[Value.int .u64 H, Value.int .u64 L]
  obtain ⟨W, hW⟩ : ∃ W, w7.alloc (Obj.cells #[Value.int .u64 H, Value.int .u64 L] 27) = W := ⟨_, rfl⟩
  have hbW : Below w.heap.size w W := by rw [← hW]; exact (by repeat (first | exact Below.refl _ _ | assumption | refine ext_alloc ?_ _ | refine Below.drew ?_ | refine drewN_below ?_ _ | refine ext_trans ?_ (by assumption) | refine Below.alloc ?_ ?_ _ | refine Below.setCell ?_ ?_ _ | omega | (simp <;> omega)))
  rw [hW] at k0 ⊢
  clear hW hb1
  have y0 := k0.cell 0
  have y1 := k0.cell 1
  simp only [List.getElem?_toArray, List.getElem?_cons_zero, List.getElem?_cons_succ] at y0 y1
  have z0 := cell_regrown y0
  have z1 := cell_regrown y1
  have C2 := Lib.hid fun d os => Calls.regrown_of (h7 (grow (redrawn W d) os))
  have C3 := Lib.hid fun d os => Calls.regrown_of (h3 (grow (redrawn W d) os))
  have C4 := Lib.hid fun d os => Calls.regrown_of (awake_any (grow (redrawn W d) os))
  clear y0 y1 hc1 hc2 hc3 hc4 hc5 hc6 hc7 hf1 hf2 hf3 hf4 hf5 hf6 hf7
  (refine wp_region_quiet_below (by kernel_rfl) (by kernel_rfl) ?_; (repeat (first | go_big_quiet_step ((first | exact C2.out _ _ | exact C3.out _ _ | exact C4.out _ _)) | quiet_step ((first | exact C2.out _ _ | exact C3.out _ _ | exact C4.out _ _)))); refine wpQuiet_nil ?_; intro _ hwq; obtain ⟨⟨dq, osq⟩, hwq'⟩ := hwq; subst hwq')
  have hq := below_regrown W dq osq
  go_wp2_with fail
  go_ret
  exact ⟨rfl, (by repeat (first | exact Below.refl _ _ | assumption | refine ext_alloc ?_ _ | refine Below.drew ?_ | refine drewN_below ?_ _ | refine ext_trans ?_ (by assumption) | refine Below.alloc ?_ ?_ _ | refine Below.setCell ?_ ?_ _ | omega | (simp <;> omega)))⟩

theorem lawMulDiv (a b c : Nat) (m : Int) (ha : a < 18446744073709551616) (hb : b < 18446744073709551616) (hc : c < 18446744073709551616) :
    Fn 10 #[.int .u64 a, .int .u64 b, .int .u64 c, .int .i64 m] (.bool true) := by
  have h1 : Fn 20 #[.int .u64 a, .int .u64 b, .int .u64 c, .int .i64 m] _ := exMulDiv_any a b c m ha hb hc
  have h2 : Fn 29 #[.int .u64 a, .int .u64 b, .int .u64 c, .int .i64 m] _ := rMulDiv_any a b c m ha hb hc
  have h3 : Fn 21 #[.int .u64 a, .int .u64 b, .int .u64 c] _ := exMulMod_any a b c ha hb hc
  have h4 : Fn 30 #[.int .u64 a, .int .u64 b, .int .u64 c] _ := rMulMod_any a b c ha hb hc
  by_cases hf : (divS m (a * b) c).2 = 0
  · by_cases hm : m = 0
    · subst hm
      have hd := hf
      unfold divS at hd
      have hc0 : c ≠ 0 := by
        intro h; rw [if_pos (.inl h)] at hd; cases hd
      rw [if_neg (by omega), up0, Nat.add_zero] at hd
      have hq : a * b / c < 18446744073709551616 := by
        apply Classical.byContradiction
        intro h
        rw [if_pos (by omega)] at hd; cases hd
      have e : divV 0 (a * b) c = .tuple #[.int .u64 ((a * b / c : Nat) : Int), .int .i64 0] := divV_ok 0 (a * b) c _ (by omega) (by rw [up0, Nat.add_zero]) hq
      rw [if_neg hc0] at h3 h4
      have hx : a * b % c < c := Nat.mod_lt _ (by omega)
      have hs := Nat.div_add_mod (a * b) c
      have h5 : Fn 16 _ _ := exMul_any (a * b / c) c hq hc
      have h7 : Fn 16 _ _ := exMul_any a b ha hb
      have l1 := mul_lt_128 (a * b / c) c hq hc
      have l2 := mul_lt_128 a b ha hb
      rw [Nat.mul_comm c] at hs
      refine lawMulDiv_down a b c _ _ _ _ _ _ (h1.val e) (h2.val e) h3 h4 h5 ?_ h7 (by omega)
      have h6 : Fn 19 _ _ := exAdd_any ((a * b / c * c / 18446744073709551616 : Nat) : Int) ((a * b / c * c % 18446744073709551616 : Nat) : Int) 0 ((a * b % c : Nat) : Int) (by omega) (by omega) (by omega) (by omega) (by omega) (by omega) (by omega) (by omega)
      generalize a * b / c * c = X at *
      generalize a * b % c = Y at *
      generalize a * b = Z at *
      exact h6.val (addV_fine _ _ _ _ _ _ (by omega) (by omega) (by omega))
    · have e : divV m (a * b) c = .tuple #[.int .u64 ((divS m (a * b) c).1 : Nat), .int .i64 0] := by unfold divV; rw [hf]
      exact lawMulDiv_mode a b c m _ _ (h1.val e) (h2.val e) h3 h4 (by simpa using hm)
  · exact lawMulDiv_err a b c m _ _ _ h1 h2 h3 h4 (by simpa using hf)

end Go.Proofs.Ytlbacbhafmfbjaa
