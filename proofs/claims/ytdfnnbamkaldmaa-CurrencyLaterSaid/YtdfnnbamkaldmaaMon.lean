/- Contracts of package money: amounts and their scaling. -/
import Derived.Test.YtdfnnbamkaldmaaRowsX
import Derived.Test.YtdfnnbamkaldmaaEX
namespace Go.Proofs.Ytdfnnbamkaldmaa
open Go.RowKit Go.Sort
set_option linter.unusedVariables false

def inB (lo hi n : Int) : Bool := decide (lo ≤ n) && decide (n ≤ hi)
theorem inB_yes {lo hi n : Int} (h1 : lo ≤ n) (h2 : n ≤ hi) : inB lo hi n = true := by simp [inB, h1, h2]
theorem inB_no {lo hi n : Int} (h : n < lo ∨ hi < n) : inB lo hi n = false := by unfold inB; by_cases h1 : lo ≤ n <;> simp [h1] <;> omega
theorem inB_iff {lo hi n : Int} : inB lo hi n = true ↔ lo ≤ n ∧ n ≤ hi := by simp [inB]

set_option maxHeartbeats 400000 in
theorem within1_any (lo hi n : Int) (g o c : Nat) (w : World) (hc : w.cell? ⟨g, o, none⟩ = some (.int .i64 n)) : Calls Try.prog 18 #[.int .i64 lo, .int .i64 hi, .slice (some ⟨g, o, none⟩) 1 c] w fun e w' => e = .returned (.bool (inB lo hi n)) ∧ w = w' := by
  by_cases h1 : n < lo
  · have HV := Lib.hid (inB_no (lo := lo) (hi := hi) (n := n) (.inl h1))
    rw [HV.out]
    go_enter Try.func18, Try.ntmps18
    go_wp2
    go_loop [6, 8, 11] (fun r x i => i = .int .i64 0) (fun _ _ i => 1 - (intOf i).toNat)
    case atStart => rfl
    case round =>
      subst hrel
      go_wp2
      go_ret
      exact ⟨rfl, rfl⟩
  · by_cases h2 : hi < n
    · have HV := Lib.hid (inB_no (lo := lo) (hi := hi) (n := n) (.inr h2))
      rw [HV.out]
      go_enter Try.func18, Try.ntmps18
      go_wp2
      go_loop [6, 8, 11] (fun r x i => i = .int .i64 0) (fun _ _ i => 1 - (intOf i).toNat)
      case atStart => rfl
      case round =>
        subst hrel
        go_wp2
        go_ret
        exact ⟨rfl, rfl⟩
    · have HV := Lib.hid (inB_yes (lo := lo) (hi := hi) (n := n) (by omega) (by omega))
      rw [HV.out]
      go_enter Try.func18, Try.ntmps18
      go_wp2
      go_loop [6, 8, 11] (fun r x i => ∃ k : Nat, k ≤ 1 ∧ i = .int .i64 k) (fun _ _ i => 1 - (intOf i).toNat)
      case atStart => exact ⟨0, by omega, rfl⟩
      case round =>
        obtain ⟨k, hk, rfl⟩ := hrel
        by_cases hlt : k = 0
        · subst hlt
          go_wp2
          go_round
          case rel => exact ⟨1, by omega, by go_num⟩
          case measure => simp [intOf]
        · obtain rfl : k = 1 := by omega
          go_wp2
          go_ret
          exact ⟨rfl, rfl⟩

set_option maxHeartbeats 400000 in
theorem isAmount_any (n : Int) : Fn 17 #[.int .i64 n] (.bool (inB (-1000000000000) 1000000000000 n)) := by
  intro w
  go_enter Try.func17, Try.ntmps17
  go_wp2_with fail
  refine (within1_any _ _ n _ _ _ _ (by go_simp)).mono ?_
  rintro e w1 ⟨rfl, rfl⟩
  go_wp2_with fail
  go_ret
  exact ⟨rfl, (by repeat (first | exact Below.refl _ _ | assumption | refine ext_alloc ?_ _ | refine Below.drew ?_ | refine drewN_below ?_ _ | refine ext_trans ?_ (by assumption) | refine Below.alloc ?_ ?_ _ | refine Below.setCell ?_ ?_ _ | omega | (simp <;> omega)))⟩


def scaleS (a n d m : Int) : Int × Int :=
  if inB (-1000000000000) 1000000000000 a = false ∨ inB 0 1000000000000 n = false ∨ inB 1 1000000000000 d = false ∨ m < 0 ∨ 3 < m then (0, 2)
  else if (divS m (a.natAbs * n.toNat) d.toNat).2 ≠ 0 ∨ 1000000000000 < (divS m (a.natAbs * n.toNat) d.toNat).1 then (0, 3)
  else if a < 0 then (-((divS m (a.natAbs * n.toNat) d.toNat).1 : Int), 0) else (((divS m (a.natAbs * n.toNat) d.toNat).1 : Int), 0)
def scaleV (a n d m : Int) : Value := .tuple #[.int .i64 (scaleS a n d m).1, .int .i64 (scaleS a n d m).2]
theorem scaleV_of (a n d m v e : Int) (h : scaleS a n d m = (v, e)) : scaleV a n d m = .tuple #[.int .i64 v, .int .i64 e] := by unfold scaleV; rw [h]

theorem scaleS_bad (a n d m : Int) (h : inB (-1000000000000) 1000000000000 a = false ∨ inB 0 1000000000000 n = false ∨ inB 1 1000000000000 d = false ∨ m < 0 ∨ 3 < m) : scaleS a n d m = (0, 2) := if_pos h
theorem scaleS_good (a n d m : Int) (N D : Nat) (q : Nat) (f : Int) (hN : n = N) (hD : d = D) (h : ¬ (inB (-1000000000000) 1000000000000 a = false ∨ inB 0 1000000000000 n = false ∨ inB 1 1000000000000 d = false ∨ m < 0 ∨ 3 < m))
    (hu : divS m (a.natAbs * N) D = (q, f)) : scaleS a n d m = if f ≠ 0 ∨ 1000000000000 < q then (0, 3) else if a < 0 then (-(q : Int), 0) else ((q : Int), 0) := by
  subst hN hD
  unfold scaleS
  rw [if_neg h, Int.toNat_natCast, Int.toNat_natCast, hu]

set_option maxHeartbeats 400000 in
theorem scale_bad1 (a n d m : Int) (h : inB (-1000000000000) 1000000000000 a = false) : Fn 13 #[.int .i64 a, .int .i64 n, .int .i64 d, .int .i64 m] (.tuple #[.int .i64 0, .int .i64 2]) := by
  intro w
  go_enter Try.func13, Try.ntmps13
  (go_wp2_with fail; refine (isAmount_any _ _).mono ?_; rintro e w1 ⟨rfl, hb1⟩; obtain ⟨hc1, hf1⟩ := bcell hb1)
  go_wp2_with fail
  go_ret2
  exact ⟨rfl, (by repeat (first | exact Below.refl _ _ | assumption | refine ext_alloc ?_ _ | refine Below.drew ?_ | refine drewN_below ?_ _ | refine ext_trans ?_ (by assumption) | refine Below.alloc ?_ ?_ _ | refine Below.setCell ?_ ?_ _ | omega | (simp <;> omega)))⟩
set_option maxHeartbeats 400000 in
theorem scale_bad2 (a n d m : Int) (h1 : inB (-1000000000000) 1000000000000 a = true) (h : inB 0 1000000000000 n = false) : Fn 13 #[.int .i64 a, .int .i64 n, .int .i64 d, .int .i64 m] (.tuple #[.int .i64 0, .int .i64 2]) := by
  intro w
  go_enter Try.func13, Try.ntmps13
  (go_wp2_with fail; refine (isAmount_any _ _).mono ?_; rintro e w1 ⟨rfl, hb1⟩; obtain ⟨hc1, hf1⟩ := bcell hb1)
  go_wp2_with fail
  refine (within1_any _ _ n _ _ _ _ (by go_simp)).mono ?_
  rintro e w2 ⟨rfl, rfl⟩
  go_wp2_with fail
  go_ret2
  exact ⟨rfl, (by repeat (first | exact Below.refl _ _ | assumption | refine ext_alloc ?_ _ | refine Below.drew ?_ | refine drewN_below ?_ _ | refine ext_trans ?_ (by assumption) | refine Below.alloc ?_ ?_ _ | refine Below.setCell ?_ ?_ _ | omega | (simp <;> omega)))⟩
set_option maxHeartbeats 400000 in
theorem scale_bad3 (a n d m : Int) (h1 : inB (-1000000000000) 1000000000000 a = true) (h2 : inB 0 1000000000000 n = true) (h : inB 1 1000000000000 d = false) : Fn 13 #[.int .i64 a, .int .i64 n, .int .i64 d, .int .i64 m] (.tuple #[.int .i64 0, .int .i64 2]) := by
  intro w
  go_enter Try.func13, Try.ntmps13
  (go_wp2_with fail; refine (isAmount_any _ _).mono ?_; rintro e w1 ⟨rfl, hb1⟩; obtain ⟨hc1, hf1⟩ := bcell hb1)
  go_wp2_with fail
  refine (within1_any _ _ n _ _ _ _ (by go_simp)).mono ?_
  rintro e w2 ⟨rfl, rfl⟩
  go_wp2_with fail
  refine (within1_any _ _ d _ _ _ _ (by go_simp)).mono ?_
  rintro e w2 ⟨rfl, rfl⟩
  go_wp2_with fail
  go_ret2
  exact ⟨rfl, (by repeat (first | exact Below.refl _ _ | assumption | refine ext_alloc ?_ _ | refine Below.drew ?_ | refine drewN_below ?_ _ | refine ext_trans ?_ (by assumption) | refine Below.alloc ?_ ?_ _ | refine Below.setCell ?_ ?_ _ | omega | (simp <;> omega)))⟩
set_option maxHeartbeats 400000 in
theorem scale_bad4 (a n d m : Int) (h1 : inB (-1000000000000) 1000000000000 a = true) (h2 : inB 0 1000000000000 n = true) (h3 : inB 1 1000000000000 d = true) (hm : m < 0 ∨ 3 < m) : Fn 13 #[.int .i64 a, .int .i64 n, .int .i64 d, .int .i64 m] (.tuple #[.int .i64 0, .int .i64 2]) := by
  intro w
  go_enter Try.func13, Try.ntmps13
  (go_wp2_with fail; refine (isAmount_any _ _).mono ?_; rintro e w1 ⟨rfl, hb1⟩; obtain ⟨hc1, hf1⟩ := bcell hb1)
  go_wp2_with fail
  refine (within1_any _ _ n _ _ _ _ (by go_simp)).mono ?_
  rintro e w2 ⟨rfl, rfl⟩
  go_wp2_with fail
  refine (within1_any _ _ d _ _ _ _ (by go_simp)).mono ?_
  rintro e w2 ⟨rfl, rfl⟩
  go_wp2_with fail
  all_goals
    go_ret2
    exact ⟨rfl, (by repeat (first | exact Below.refl _ _ | assumption | refine ext_alloc ?_ _ | refine Below.drew ?_ | refine drewN_below ?_ _ | refine ext_trans ?_ (by assumption) | refine Below.alloc ?_ ?_ _ | refine Below.setCell ?_ ?_ _ | omega | (simp <;> omega)))⟩
set_option maxHeartbeats 1000000 in
theorem scale_ok (a m f : Int) (A N D q : Nat) (hA : (A : Int) ≤ 1000000000000) (hN : (N : Int) ≤ 1000000000000) (hD : (D : Int) ≤ 1000000000000) (hm0 : 0 ≤ m) (hm3 : m ≤ 3) (ha : a = A ∨ a = -A)
    (h1 : inB (-1000000000000) 1000000000000 a = true) (h2 : inB 0 1000000000000 N = true) (h3 : inB 1 1000000000000 D = true)
    (H : Fn 19 #[.int .u64 A, .int .u64 N, .int .u64 D, .int .i64 m] (.tuple #[.int .u64 q, .int .i64 f])) :
    Fn 13 #[.int .i64 a, .int .i64 N, .int .i64 D, .int .i64 m] (if f ≠ 0 ∨ 1000000000000 < q then .tuple #[.int .i64 0, .int .i64 3] else if a < 0 then .tuple #[.int .i64 (-(q : Int)), .int .i64 0] else .tuple #[.int .i64 q, .int .i64 0]) := by
  intro w
  have hmax : max a (-a) = (A : Int) := by omega
  have hab : -1000000000000 ≤ a := by omega
  have hab2 : a ≤ 1000000000000 := by omega
  have hneg : ¬ a < 0 → 0 ≤ a := by omega
  clear ha
  by_cases hf : f = 0
  · subst hf
    by_cases hq2 : 1000000000000 < q
    · rw [if_pos (.inr hq2)]
      have hq3 : (1000000000000 : Int) < q := by omega
      clear hq2
      go_enter Try.func13, Try.ntmps13
      (go_wp2_with fail; refine (isAmount_any _ _).mono ?_; rintro e w1 ⟨rfl, hb1⟩; obtain ⟨hc1, hf1⟩ := bcell hb1)
      go_wp2_with fail
      refine (within1_any _ _ (N : Int) _ _ _ _ (by go_simp)).mono ?_
      rintro e w2 ⟨rfl, rfl⟩
      go_wp2_with fail
      refine (within1_any _ _ (D : Int) _ _ _ _ (by go_simp)).mono ?_
      rintro e w2 ⟨rfl, rfl⟩
      (go_wp2_with fail; refine (H _).mono ?_; rintro e w2 ⟨rfl, hb2⟩; obtain ⟨hc2, hf2⟩ := bcell hb2)
      go_wp2_with fail
      go_ret2
      exact ⟨rfl, (by repeat (first | exact Below.refl _ _ | assumption | refine ext_alloc ?_ _ | refine Below.drew ?_ | refine drewN_below ?_ _ | refine ext_trans ?_ (by assumption) | refine Below.alloc ?_ ?_ _ | refine Below.setCell ?_ ?_ _ | omega | (simp <;> omega)))⟩
    · rw [if_neg (by simp; omega)]
      have hq3 : (q : Int) ≤ 1000000000000 := by omega
      by_cases hs : a < 0
      · rw [if_pos hs]
        go_enter Try.func13, Try.ntmps13
        (go_wp2_with fail; refine (isAmount_any _ _).mono ?_; rintro e w1 ⟨rfl, hb1⟩; obtain ⟨hc1, hf1⟩ := bcell hb1)
        go_wp2_with fail
        refine (within1_any _ _ (N : Int) _ _ _ _ (by go_simp)).mono ?_
        rintro e w2 ⟨rfl, rfl⟩
        go_wp2_with fail
        refine (within1_any _ _ (D : Int) _ _ _ _ (by go_simp)).mono ?_
        rintro e w2 ⟨rfl, rfl⟩
        (go_wp2_with fail; refine (H _).mono ?_; rintro e w2 ⟨rfl, hb2⟩; obtain ⟨hc2, hf2⟩ := bcell hb2)
        go_wp2_with fail
        go_ret2
        exact ⟨rfl, (by repeat (first | exact Below.refl _ _ | assumption | refine ext_alloc ?_ _ | refine Below.drew ?_ | refine drewN_below ?_ _ | refine ext_trans ?_ (by assumption) | refine Below.alloc ?_ ?_ _ | refine Below.setCell ?_ ?_ _ | omega | (simp <;> omega)))⟩
      · rw [if_neg hs]
        go_enter Try.func13, Try.ntmps13
        (go_wp2_with fail; refine (isAmount_any _ _).mono ?_; rintro e w1 ⟨rfl, hb1⟩; obtain ⟨hc1, hf1⟩ := bcell hb1)
        go_wp2_with fail
        refine (within1_any _ _ (N : Int) _ _ _ _ (by go_simp)).mono ?_
        rintro e w2 ⟨rfl, rfl⟩
        go_wp2_with fail
        refine (within1_any _ _ (D : Int) _ _ _ _ (by go_simp)).mono ?_
        rintro e w2 ⟨rfl, rfl⟩
        (go_wp2_with fail; refine (H _).mono ?_; rintro e w2 ⟨rfl, hb2⟩; obtain ⟨hc2, hf2⟩ := bcell hb2)
        go_wp2_with fail
        go_ret2
        exact ⟨rfl, (by repeat (first | exact Below.refl _ _ | assumption | refine ext_alloc ?_ _ | refine Below.drew ?_ | refine drewN_below ?_ _ | refine ext_trans ?_ (by assumption) | refine Below.alloc ?_ ?_ _ | refine Below.setCell ?_ ?_ _ | omega | (simp <;> omega)))⟩
  · rw [if_pos (.inl hf)]
    have hfb : (f == 0) = false := by simpa using hf
    have hfb2 : (f != 0) = true := by simpa using hf
    clear hf
    go_enter Try.func13, Try.ntmps13
    (go_wp2_with fail; refine (isAmount_any _ _).mono ?_; rintro e w1 ⟨rfl, hb1⟩; obtain ⟨hc1, hf1⟩ := bcell hb1)
    go_wp2_with fail
    refine (within1_any _ _ (N : Int) _ _ _ _ (by go_simp)).mono ?_
    rintro e w2 ⟨rfl, rfl⟩
    go_wp2_with fail
    refine (within1_any _ _ (D : Int) _ _ _ _ (by go_simp)).mono ?_
    rintro e w2 ⟨rfl, rfl⟩
    (go_wp2_with fail; refine (H _).mono ?_; rintro e w2 ⟨rfl, hb2⟩; obtain ⟨hc2, hf2⟩ := bcell hb2)
    go_wp2_with fail
    go_ret2
    exact ⟨rfl, (by repeat (first | exact Below.refl _ _ | assumption | refine ext_alloc ?_ _ | refine Below.drew ?_ | refine drewN_below ?_ _ | refine ext_trans ?_ (by assumption) | refine Below.alloc ?_ ?_ _ | refine Below.setCell ?_ ?_ _ | omega | (simp <;> omega)))⟩

theorem divS_lt (m : Int) (N c : Nat) : (divS m N c).1 < 18446744073709551616 := by
  unfold divS
  split
  · decide
  · split
    · decide
    · simp; omega

theorem scale_any (a n d m : Int) : Fn 13 #[.int .i64 a, .int .i64 n, .int .i64 d, .int .i64 m] (scaleV a n d m) := by
  by_cases h : inB (-1000000000000) 1000000000000 a = false ∨ inB 0 1000000000000 n = false ∨ inB 1 1000000000000 d = false ∨ m < 0 ∨ 3 < m
  · rw [scaleV_of _ _ _ _ _ _ (scaleS_bad a n d m h)]
    cases h1 : inB (-1000000000000) 1000000000000 a
    · exact scale_bad1 a n d m h1
    · cases h2 : inB 0 1000000000000 n
      · exact scale_bad2 a n d m h1 h2
      · cases h3 : inB 1 1000000000000 d
        · exact scale_bad3 a n d m h1 h2 h3
        · exact scale_bad4 a n d m h1 h2 h3 (by simpa [h1, h2, h3] using h)
  · have h1 : inB (-1000000000000) 1000000000000 a = true := by simp at h; exact h.1
    have h2 : inB 0 1000000000000 n = true := by simp at h; exact h.2.1
    have h3 : inB 1 1000000000000 d = true := by simp at h; exact h.2.2.1
    have h4 : 0 ≤ m ∧ m ≤ 3 := by simp at h; exact h.2.2.2
    have b1 := inB_iff.1 h1
    have b2 := inB_iff.1 h2
    have b3 := inB_iff.1 h3
    obtain ⟨N, rfl⟩ : ∃ N : Nat, n = N := ⟨n.toNat, by omega⟩
    obtain ⟨D, rfl⟩ : ∃ D : Nat, d = D := ⟨d.toNat, by omega⟩
    have H : Fn 19 #[.int .u64 (a.natAbs : Nat), .int .u64 N, .int .u64 D, .int .i64 m] _ := exMulDiv_any a.natAbs N D m (by omega) (by omega) (by omega)
    have hl := divS_lt m (a.natAbs * N) D
    have e := scaleS_good a N D m N D _ _ rfl rfl h (show divS m (a.natAbs * N) D = ((divS m (a.natAbs * N) D).1, (divS m (a.natAbs * N) D).2) from rfl)
    unfold divV at H
    generalize divS m (a.natAbs * N) D = u at *
    have := scale_ok a m u.2 a.natAbs N D u.1 (by omega) (by omega) (by omega) h4.1 h4.2 (by omega) h1 h2 h3 H
    refine this.val ?_
    unfold scaleV; rw [e]
    split
    · rfl
    · split <;> rfl

end Go.Proofs.Ytdfnnbamkaldmaa
