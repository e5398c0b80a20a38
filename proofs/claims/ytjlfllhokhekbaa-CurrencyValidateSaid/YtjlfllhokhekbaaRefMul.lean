/- Contract of the reference's Mul: bit by bit. -/
import Derived.Test.YtjlfllhokhekbaaRef1
namespace Go.Proofs.Ytjlfllhokhekbaa
open Go.RowKit
set_option linter.unusedVariables false

theorem mul_now (a b k h l h' l' H L : Nat) (ha : a < 18446744073709551616) (hb : b < 18446744073709551616) (hl : l < 18446744073709551616) (hl' : l' < 18446744073709551616) (e : h * 18446744073709551616 + l = a * (b / 2 ^ (k + 1))) (e2 : h' * 18446744073709551616 + l' = a * (b / 2 ^ k))
    (t : Nat) (ht : b / 2 ^ k % 2 = t) : h' * 18446744073709551616 + l' = (h * 18446744073709551616 + l) + (h * 18446744073709551616 + l) + t * a := by
  rw [e, e2, mul_step, ht]; omega

theorem comb1 (S X Y a : Nat) (h1 : Y = 2 * X) (h2 : S = X + X + 1 * a) : S = Y + (0 * 18446744073709551616 + a) := by omega
theorem comb0 (S X a : Nat) (h2 : S = X + X + 0 * a) : S = X + X := by omega

set_option maxHeartbeats 1000000 in
theorem rMul_any (a b : Nat) (ha : a < 18446744073709551616) (hb : b < 18446744073709551616) (w : World) :
    Calls Try.prog 38 #[.int .u64 a, .int .u64 b] w fun e w' =>
      e = .returned (.agg #[.int .u64 ((a * b / 18446744073709551616 : Nat) : Int), .int .u64 ((a * b % 18446744073709551616 : Nat) : Int)]) ∧ Below w.heap.size w w' := by
  obtain ⟨B, hB⟩ : ∃ B, w.heap.size = B := ⟨_, rfl⟩
  go_enter Try.func38, Try.ntmps38
  go_wp2_with fail
  go_loopw [6] (fun i wr => (∃ k h l : Nat, i = .int .i64 k ∧ k < 64 ∧ h < 18446744073709551616 ∧ l < 18446744073709551616 ∧ Hid (h * 18446744073709551616 + l = a * (b / 2 ^ (k + 1))) ∧ Blk wr (B + 1) 68 #[.int .u64 h, .int .u64 l] ∧ Blk wr B 68 #[.int .u64 0, .int .u64 0] ∧ Below B w wr) ∨
      (∃ h l : Nat, i = .int .i64 (-1) ∧ h < 18446744073709551616 ∧ l < 18446744073709551616 ∧ Hid (h * 18446744073709551616 + l = a * b) ∧ Blk wr (B + 1) 68 #[.int .u64 h, .int .u64 l] ∧ Blk wr B 68 #[.int .u64 0, .int .u64 0] ∧ Below B w wr))
    (fun i _ => (intOf i + 1).toNat)
  case atStart =>
    refine .inl ⟨63, 0, 0, rfl, by omega, by omega, by omega, ?_, ?_, ?_, ?_⟩
    · show 0 * 18446744073709551616 + 0 = a * (b / 2 ^ (63 + 1))
      rw [Nat.div_eq_of_lt (by omega)]; simp
    · have := Blk.new (w.alloc (Obj.cells #[Value.int IntKind.u64 0, Value.int IntKind.u64 0] 68)) 68 #[Value.int IntKind.u64 0, Value.int IntKind.u64 0]
      rw [World.size_alloc, hB] at this
      exact this
    · have := (Blk.new w 68 #[Value.int IntKind.u64 0, Value.int IntKind.u64 0]).alloc (Obj.cells #[Value.int IntKind.u64 0, Value.int IntKind.u64 0] 68)
      rw [hB] at this
      exact this
    · rw [← hB]; exact (by repeat (first | exact Below.refl _ _ | assumption | refine ext_alloc ?_ _ | refine Below.drew ?_ | refine drewN_below ?_ _ | refine ext_trans ?_ (by assumption) | refine Below.alloc ?_ ?_ _ | refine Below.setCell ?_ ?_ _ | omega | (simp <;> omega)))
  case round =>
    rcases hrel with ⟨k, h, l, rfl, hk, hh, hl, he, hw5, hw4, hbl⟩ | ⟨h, l, rfl, hh, hl, he, hw5, hw4, hbl⟩
    · have hp : a * (b / 2 ^ k) < 340282366920938463463374607431768211456 := mul128 a _ ha (Nat.lt_of_le_of_lt (Nat.div_le_self _ _) hb)
      obtain ⟨H, L, hH, hL, hHL⟩ := split128 _ hp
      have ebit := bit_k b k hb
      have ht := Nat.mod_lt (b / 2 ^ k) (show 0 < 2 by omega)
      have hnow := fun t => mul_now a b k h l H L H L ha hb hl hL he.out hHL t
      have e2 : min k 64 = k := by omega
      have c50 := hw5.cell 0
      have c51 := hw5.cell 1
      simp only [List.getElem?_toArray, List.getElem?_cons_zero, List.getElem?_cons_succ] at c50 c51
      have z50 := hw5.frozen 0
      have z51 := hw5.frozen 1
      have hrel2 : ∀ (W : World), Blk W (B + 1) 68 #[.int .u64 H, .int .u64 L] → Blk W B 68 #[.int .u64 0, .int .u64 0] → Below B w W → (∃ k' h l : Nat, Value.int .i64 ((k : Int) - 1) = .int .i64 k' ∧ k' < 64 ∧ h < 18446744073709551616 ∧ l < 18446744073709551616 ∧ Hid (h * 18446744073709551616 + l = a * (b / 2 ^ (k' + 1))) ∧ Blk W (B + 1) 68 #[.int .u64 h, .int .u64 l] ∧ Blk W B 68 #[.int .u64 0, .int .u64 0] ∧ Below B w W) ∨
      (∃ h l : Nat, Value.int .i64 ((k : Int) - 1) = .int .i64 (-1) ∧ h < 18446744073709551616 ∧ l < 18446744073709551616 ∧ Hid (h * 18446744073709551616 + l = a * b) ∧ Blk W (B + 1) 68 #[.int .u64 h, .int .u64 l] ∧ Blk W B 68 #[.int .u64 0, .int .u64 0] ∧ Below B w W) := by
        intro W h1 h2 h3
        rcases Nat.eq_zero_or_pos k with rfl | hpos
        · refine .inr ⟨H, L, rfl, hH, hL, ?_, h1, h2, h3⟩
          show H * 18446744073709551616 + L = a * b
          rw [hHL]; simp
        · refine .inl ⟨k - 1, H, L, by rw [show ((k - 1 : Nat) : Int) = (k : Int) - 1 by omega], by omega, hH, hL, ?_, h1, h2, h3⟩
          show H * 18446744073709551616 + L = a * (b / 2 ^ (k - 1 + 1))
          rw [show k - 1 + 1 = k by omega]; exact hHL
      have Hrel := Lib.hid hrel2
      have hlt := hw5.lt
      have hlt4 := hw4.lt
      have hbs : B ≤ w.heap.size := by omega
      by_cases hb1 : b / 2 ^ k % 2 = 1
      · have hsum := hnow 1 hb1
        obtain ⟨H1, L1, hH1, hL1, hHL1⟩ := split128 (2 * (h * 18446744073709551616 + l)) (by omega)
        have Hc1 := Lib.hid (rAdd_hl h l h l H1 L1 hh hl hh hl hH1 hL1 (hHL1.trans (Nat.two_mul _)))
        have Hc2 := Lib.hid (rAdd_hl H1 L1 0 a H L hH1 hL1 (by omega) ha hH hL (comb1 _ _ _ _ hHL1 hsum))
        rw [hb1] at ebit
        simp only [Int.ofNat_one] at ebit
        clear hnow hsum hHL1 hHL hp ht hb1 hrel2 he
        go_wp2_with fail
        refine (Hc1.out _).mono ?_
        rintro e w1 ⟨rfl, hb1⟩
        have d5 := hw5.ext hb1
        have d4 := hw4.ext hb1
        have y50 := d5.cell 0
        have y51 := d5.cell 1
        simp only [List.getElem?_toArray, List.getElem?_cons_zero, List.getElem?_cons_succ] at y50 y51
        have x50 := d5.frozen 0
        have x51 := d5.frozen 1
        go_wp2_with fail
        refine (Hc2.out _).mono ?_
        rintro e w2 ⟨rfl, hb2⟩
        have D5 := ((d5.set_ 0 (.int .u64 H1)).set_ 1 (.int .u64 L1))
        have D4 := ((d4.far (p := ⟨B + 1, 0, none⟩) (by simp) (.int .u64 H1)).far (p := ⟨B + 1, 1, none⟩) (by simp) (.int .u64 L1))
        have E5 := D5.ext hb2
        have E4 := D4.ext hb2
        have v50 := E5.cell 0
        have v51 := E5.cell 1
        simp only [List.setIfInBounds_toArray, List.set_cons_zero, List.set_cons_succ, List.getElem?_toArray, List.getElem?_cons_zero, List.getElem?_cons_succ] at v50 v51
        have u50 := E5.frozen 0
        have u51 := E5.frozen 1
        have hs1 := hb1.size
        have hbA : Below B w w1 := hbl.trans (hb1.mono (by omega))
        have hbB : Below B w w2 := ((hbA.setCell (p := ⟨B + 1, 0, none⟩) (by simp) _).setCell (p := ⟨B + 1, 1, none⟩) (by simp) _).trans (hb2.mono (by simp; omega))
        go_wp2_with fail
        go_roundw
        case rel => exact Hrel.out _ ((E5.set_ 0 _).set_ 1 _) ((E4.far (p := ⟨B + 1, 0, none⟩) (by simp) _).far (p := ⟨B + 1, 1, none⟩) (by simp) _) ((hbB.setCell (p := ⟨B + 1, 0, none⟩) (by simp) _).setCell (p := ⟨B + 1, 1, none⟩) (by simp) _)
        case measure => simp only [intOf]; omega
      · have hb0 : b / 2 ^ k % 2 = 0 := by omega
        have hsum := hnow 0 hb0
        have Hc1 := Lib.hid (rAdd_hl h l h l H L hh hl hh hl hH hL (comb0 _ _ _ hsum))
        rw [hb0] at ebit
        simp only [Int.ofNat_zero] at ebit
        clear hnow hsum hHL hp ht hb1 hrel2 he hb0
        go_wp2_with fail
        refine (Hc1.out _).mono ?_
        rintro e w1 ⟨rfl, hb1⟩
        have d5 := hw5.ext hb1
        have d4 := hw4.ext hb1
        have y50 := d5.cell 0
        have y51 := d5.cell 1
        simp only [List.getElem?_toArray, List.getElem?_cons_zero, List.getElem?_cons_succ] at y50 y51
        have x50 := d5.frozen 0
        have x51 := d5.frozen 1
        have hbA : Below B w w1 := hbl.trans (hb1.mono (by omega))
        go_wp2_with fail
        go_roundw
        case rel => exact Hrel.out _ ((d5.set_ 0 _).set_ 1 _) ((d4.far (p := ⟨B + 1, 0, none⟩) (by simp) _).far (p := ⟨B + 1, 1, none⟩) (by simp) _) ((hbA.setCell (p := ⟨B + 1, 0, none⟩) (by simp) _).setCell (p := ⟨B + 1, 1, none⟩) (by simp) _)
        case measure => simp only [intOf]; omega
    · have c50 := hw5.cell 0
      have c51 := hw5.cell 1
      have c40 := hw4.cell 0
      have c41 := hw4.cell 1
      simp only [List.getElem?_toArray, List.getElem?_cons_zero, List.getElem?_cons_succ] at c50 c51 c40 c41
      have z40 := hw4.frozen 0
      have z41 := hw4.frozen 1
      have HV : Hid ((.agg #[.int .u64 ((a * b / 18446744073709551616 : Nat) : Int), .int .u64 ((a * b % 18446744073709551616 : Nat) : Int)] : Value) = .agg #[.int .u64 h, .int .u64 l]) := by
        show (.agg #[.int .u64 ((a * b / 18446744073709551616 : Nat) : Int), .int .u64 ((a * b % 18446744073709551616 : Nat) : Int)] : Value) = .agg #[.int .u64 h, .int .u64 l]
        rw [← he.out, show (h * 18446744073709551616 + l) / 18446744073709551616 = h by omega, show (h * 18446744073709551616 + l) % 18446744073709551616 = l by omega]
      have hbs : B ≤ B := Nat.le_refl _
      clear he
      go_wp2_with fail
      refine bodyPost_ret (v := .agg #[.int .u64 h, .int .u64 l]) (by simp [results, Try.results38, go_sem, c40, c41] <;> first | assumption | omega) rfl ?_
      exact ⟨by rw [HV.out], by rw [hB]; exact (by repeat (first | exact Below.refl _ _ | assumption | refine ext_alloc ?_ _ | refine Below.drew ?_ | refine drewN_below ?_ _ | refine ext_trans ?_ (by assumption) | refine Below.alloc ?_ ?_ _ | refine Below.setCell ?_ ?_ _ | omega | (simp <;> omega)))⟩

end Go.Proofs.Ytjlfllhokhekbaa
