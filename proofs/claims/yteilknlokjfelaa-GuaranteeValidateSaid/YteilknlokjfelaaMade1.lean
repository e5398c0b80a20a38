/- Contracts of package customsmade: numbers within bounds, a list cut, the source of numbers. -/
import Derived.Test.YteilknlokjfelaaRowsX
namespace Go.Proofs.Yteilknlokjfelaa
open Go.RowKit Go.Sort
set_option linter.unusedVariables false

theorem tmod_emod (x n : Int) (h : 0 < n) : (x.tmod n + n).tmod n = x % n := by
  have h1 := Int.tmod_add_mul_tdiv x n
  have h2 := Int.tmod_lt_of_pos x h
  have h3 : -n < x.tmod n := by
    have := Int.lt_tmod_of_pos x h
    omega
  rw [Int.tmod_eq_emod_of_nonneg (by omega), Int.add_emod_right]
  have : x = x.tmod n + n * x.tdiv n := h1.symm
  conv => rhs; rw [this]
  rw [Int.add_mul_emod_self_left]

set_option maxHeartbeats 400000 in
theorem within_same (x n : Int) (h1 : 0 < n) (h2 : n ≤ 4611686018427387904) (w : World) : Calls Try.prog 16 #[.int .i64 x, .int .i64 n] w fun e w' => e = .returned (.int .i64 (x % n)) ∧ w = w' := by
  have g2 := Int.tmod_lt_of_pos x h1
  have g3 := Int.lt_tmod_of_pos x h1
  have e1 : wrap64 (x.tmod n + n) = x.tmod n + n := by unfold wrap64; omega
  have e2 := tmod_emod x n h1
  have g4 := Int.emod_nonneg x (show n ≠ 0 by omega)
  have g5 := Int.emod_lt_of_pos x h1
  have hz : (n == 0) = false := by simp; omega
  have e3 : IntKind.i64.wrap (x.tmod n) = x.tmod n := by rw [IntKind.wrap_i64]; omega
  have e4 : IntKind.i64.wrap (x % n) = x % n := by rw [IntKind.wrap_i64]; omega
  go_enter Try.func16, Try.ntmps16
  go_wp2_with fail
  go_ret
  exact ⟨rfl, rfl⟩
theorem within_any (x n : Int) (h1 : 0 < n) (h2 : n ≤ 4611686018427387904) : Fn 16 #[.int .i64 x, .int .i64 n] (.int .i64 (x % n)) := fun w => (within_same x n h1 h2 w).mono fun e w' ⟨he, hw⟩ => ⟨he, hw ▸ Below.refl _ _⟩


set_option maxHeartbeats 400000 in
theorem cut_any (w : World) (A : Option Addr) (n c k : Nat) (hn : n ≤ c) (hc : c ≤ maxLen) (hk : k ≤ maxLen) : Calls Try.prog 30 #[.slice A n c, .int .i64 k] w fun e w' => (∃ c', e = .returned (.slice A (min n k) c')) ∧ w = w' := by
  unfold maxLen at hc hk
  by_cases h : k < n
  · have h' : (k : Int) < n := by omega
    have e1 : min n k = k := by omega
    rw [e1]
    go_enter Try.func30, Try.ntmps30
    go_wp2_with fail
    go_ret
    exact ⟨⟨_, rfl⟩, rfl⟩
  · have h' : ¬ (k : Int) < n := by omega
    have e1 : min n k = n := by omega
    rw [e1]
    go_enter Try.func30, Try.ntmps30
    go_wp2_with fail
    go_ret
    exact ⟨⟨_, rfl⟩, rfl⟩

set_option maxHeartbeats 400000 in
theorem next_end (w : World) (g : Nat) (A : Option Addr) (n c i : Nat) (m : Int) (h0 : w.cell? ⟨g, 0, none⟩ = some (.slice A n c)) (h1 : w.cell? ⟨g, 1, none⟩ = some (.int .i64 i)) (hi : n ≤ i) :
    Calls Try.prog 31 #[.pointer (some ⟨g, 0, none⟩), .int .i64 m] w fun e w' => e = .returned (.int .i64 0) ∧ ∃ q, w' = w.drewN q := by
  have hi' : (n : Int) ≤ (i : Int) := by omega
  go_enter Try.func31, Try.ntmps31
  go_wp2_with fail
  go_quiet (fail)
  go_wp2_with fail
  go_ret
  exact ⟨rfl, _, rfl⟩

set_option maxHeartbeats 400000 in
theorem next_some (w : World) (g : Nat) (ad : Addr) (n c i : Nat) (m x : Int) (hk : Blk w g 55 #[.slice (some ad) n c, .int .i64 i]) (hne : (ad.add i).block ≠ g) (hc : w.cell? (ad.add i) = some (.int .i64 x)) (hl : (n : Int) ≤ 9223372036854775807)
    (hi : i < n) (hm1 : 0 < m) (hm2 : m ≤ 4611686018427387904) :
    Calls Try.prog 31 #[.pointer (some ⟨g, 0, none⟩), .int .i64 m] w fun e w' => e = .returned (.int .i64 (x % m)) ∧ w.grownBy w' (some g) ∧ Blk w' g 55 #[.slice (some ad) n c, .int .i64 (i + 1)] := by
  have hi' : ¬ (n : Int) ≤ (i : Int) := by omega
  have HW := Lib.hid (within_any x m hm1 hm2)
  have h0 := hk.cell 0
  have h1 := hk.cell 1
  simp only [List.getElem?_toArray, List.getElem?_cons_zero, List.getElem?_cons_succ] at h0 h1
  have hf := hk.frozen 1
  have HK := Lib.hid hk
  clear hk
  go_enter Try.func31, Try.ntmps31
  go_wp2_with fail
  go_quiet (fail)
  go_wp2_with fail
  refine wp_name (fun W => w.grownBy W (some g) ∧ Blk W g 55 #[.slice (some ad) n c, .int .i64 (i + 1)] ∧ W.cell? (ad.add i) = some (.int .i64 x)) ⟨(by repeat (first | exact only_refl _ _ | assumption | refine only_drewN ?_ _ | refine only_drew ?_ | refine only_alloc ?_ _ | refine only_then ?_ (by assumption) | refine only_setCell ?_ (.inl rfl) _)), ((HK.out.drewN _).set_ 1 _), (World.cell?_setCell_other _ _ _ _ (fun e => hne (by rw [← e]))).trans hc⟩ ?_
  rintro W ⟨hgw, hkw, y4⟩
  clear h0 h1 hc hf
  have y0 := hkw.cell 0
  have y1 := hkw.cell 1
  simp only [List.getElem?_toArray, List.getElem?_cons_zero, List.getElem?_cons_succ] at y0 y1
  have z0 := cell_regrown y0
  have z1 := cell_regrown y1
  have z4 := cell_regrown y4
  have C2 := Lib.hid fun d os => Calls.regrown_of (HW.out (grow (redrawn W d) os))
  have HK2 := Lib.hid hkw
  clear hkw
  (refine wp_region_quiet_below (by kernel_rfl) (by kernel_rfl) ?_; (repeat (first | go_big_quiet_step ((exact C2.out _ _)) | quiet_step ((exact C2.out _ _)))); refine wpQuiet_nil ?_; intro _ hwq; obtain ⟨⟨dq, osq⟩, hwq'⟩ := hwq; subst hwq')
  have hq := below_regrown W dq osq
  generalize grow (redrawn W dq) osq = W2 at *
  go_wp2_with fail
  go_ret
  exact ⟨rfl, only_then hgw hq, HK2.out.ext hq⟩

def nextI (n i : Nat) : Nat := if i < n then i + 1 else i
theorem next_any (w : World) (g B : Nat) (A : Option Addr) (xs : List Int) (c i : Nat) (m : Int) (hA : Ints w B A xs) (hB : B ≤ g) (hl : xs.length ≤ maxLen) (hk : Blk w g 55 #[.slice A xs.length c, .int .i64 i]) (hm1 : 0 < m) (hm2 : m ≤ 4611686018427387904) :
    Calls Try.prog 31 #[.pointer (some ⟨g, 0, none⟩), .int .i64 m] w fun e w' => e = .returned (.int .i64 (xs.getD i 0 % m)) ∧ w.grownBy w' (some g) ∧ Blk w' g 55 #[.slice A xs.length c, .int .i64 ((nextI xs.length i : Nat) : Int)] := by
  unfold maxLen at hl
  by_cases hi : i < xs.length
  · obtain ⟨ad, rfl, hb, hc⟩ := Ints.at_ hA hi
    refine (next_some w g ad xs.length c i m xs[i] hk (by omega) hc (by omega) hi hm1 hm2).mono ?_
    rintro e w' ⟨rfl, h2, h3⟩
    refine ⟨by simp [hi], h2, ?_⟩
    rw [nextI, if_pos hi]
    exact h3
  · have h0 := hk.cell 0
    have h1 := hk.cell 1
    refine (next_end w g A xs.length c i m h0 h1 (by omega)).mono ?_
    rintro e w' ⟨rfl, q, rfl⟩
    refine ⟨by simp [hi], only_drewN (only_refl _ _) _, ?_⟩
    rw [nextI, if_neg hi]
    exact hk.drewN q

end Go.Proofs.Yteilknlokjfelaa
