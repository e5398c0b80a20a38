/- Contract of the reference's DivMod: bit by bit. -/
import Derived.Test.YtjlfllhokhekbaaRefMul
namespace Go.Proofs.Ytjlfllhokhekbaa
open Go.RowKit
set_option linter.unusedVariables false

theorem ofInt_i64n (a : Nat) (ha : a < 9223372036854775808) : (BitVec.ofInt 64 (a : Int)).toNat = a := by
  rw [BitVec.ofInt_natCast, BitVec.toNat_ofNat]; exact Nat.mod_eq_of_lt (by omega)
theorem and_i64n (a b : Nat) (ha : a < 9223372036854775808) (hb : b < 9223372036854775808) : bits .and .i64 (a : Int) (b : Int) = ((a &&& b : Nat) : Int) := by
  have hx : a &&& b < 2 ^ 63 := Nat.and_lt_two_pow _ (by omega)
  show IntKind.i64.wrap ((BitVec.ofInt 64 (a : Int) &&& BitVec.ofInt 64 (b : Int)).toNat : Int) = _
  rw [BitVec.toNat_and, ofInt_i64n a ha, ofInt_i64n b hb, IntKind.wrap_i64]
  omega
theorem and63 (k : Nat) (hk : k < 128) : bits .and .i64 (k : Int) 63 = ((k % 64 : Nat) : Int) := by
  have h := and_i64n k 63 (by omega) (by omega)
  rw [show k &&& 63 = k % 64 from Nat.and_two_pow_sub_one_eq_mod k 6] at h
  exact h
theorem or_even (a t : Nat) (ha : a < 18446744073709551616) (he : a % 2 = 0) (ht : t < 2) : bits .or .u64 (a : Int) (t : Int) = ((a + t : Nat) : Int) := by
  rw [bits_or_u64_nat a t ha (by omega)]
  have h := Nat.two_pow_add_eq_or_of_lt (i := 1) (b := t) (by omega) (a / 2)
  have e : 2 ^ 1 * (a / 2) = a := by omega
  rw [e] at h
  rw [h]
/-- One bit more of a number: what the quotient and the remainder become. -/
theorem dm_step (X q r c t : Nat) (h : X = q * c + r) (hr : r < c) (ht : t < 2) :
    (c ≤ 2 * r + t → 2 * X + t = (2 * q + 1) * c + (2 * r + t - c) ∧ 2 * r + t - c < c) ∧ (2 * r + t < c → 2 * X + t = (2 * q) * c + (2 * r + t)) := by
  constructor
  · intro hc
    refine ⟨?_, by omega⟩
    rw [Nat.add_mul, Nat.mul_assoc]; omega
  · intro hc
    rw [Nat.mul_assoc]; omega
theorem bit_low (hi lo k : Nat) (hk : k < 64) : (hi * 18446744073709551616 + lo) / 2 ^ k % 2 = lo / 2 ^ k % 2 := by
  have e : 18446744073709551616 = 2 ^ k * (2 * 2 ^ (63 - k)) := by
    rw [← Nat.mul_assoc, Nat.mul_comm _ 2, Nat.mul_assoc, ← Nat.pow_add, show k + (63 - k) = 63 by omega]
  have e2 : hi * 18446744073709551616 + lo = lo + 2 ^ k * (hi * (2 * 2 ^ (63 - k))) := by
    rw [e]
    have : hi * (2 ^ k * (2 * 2 ^ (63 - k))) = 2 ^ k * (hi * (2 * 2 ^ (63 - k))) := Nat.mul_left_comm _ _ _
    omega
  rw [e2, Nat.add_mul_div_left _ _ (Nat.two_pow_pos k), Nat.mul_left_comm]
  omega
theorem bit_high (hi lo k : Nat) (hlo : lo < 18446744073709551616) (hk : 64 ≤ k) : (hi * 18446744073709551616 + lo) / 2 ^ k % 2 = hi / 2 ^ (k - 64) % 2 := by
  have e : 2 ^ k = 18446744073709551616 * 2 ^ (k - 64) := by
    rw [show (18446744073709551616 : Nat) = 2 ^ 64 from rfl, ← Nat.pow_add, show 64 + (k - 64) = k by omega]
  rw [e, ← Nat.div_div_eq_div_mul, show (hi * 18446744073709551616 + lo) / 18446744073709551616 = hi by omega]
theorem half_step (N k : Nat) : N / 2 ^ k = 2 * (N / 2 ^ (k + 1)) + N / 2 ^ k % 2 := by
  have h2 : N / 2 ^ k / 2 = N / 2 ^ (k + 1) := by rw [Nat.div_div_eq_div_mul, Nat.pow_succ]
  rw [← h2]
  generalize N / 2 ^ k = x
  omega
theorem q_small (X q r c : Nat) (hc : 0 < c) (h : X = q * c + r) : q ≤ X := by
  have : q * 1 ≤ q * c := Nat.mul_le_mul_left _ hc
  omega

/-- What holds at the head of the loop: the quotient and the remainder of the bits from number k + 1 on. -/
def DmI (hi lo c B : Nat) (w : World) (rv iv : Value) (W : World) : Prop :=
  (∃ k : Nat, k < 128 ∧ ∃ h l r : Nat, iv = .int .i64 k ∧ rv = .int .u64 r ∧ h < 18446744073709551616 ∧ l < 18446744073709551616 ∧ r < c ∧ Hid ((hi * 18446744073709551616 + lo) / 2 ^ (k + 1) = (h * 18446744073709551616 + l) * c + r) ∧ Blk W (B + 2) 68 #[.int .u64 h, .int .u64 l] ∧ Blk W (B + 1) 68 #[.int .u64 0, .int .u64 0] ∧ Blk W B 68 #[.int .u64 hi, .int .u64 lo] ∧ Below B w W) ∨
  (∃ h l r : Nat, iv = .int .i64 (-1) ∧ rv = .int .u64 r ∧ h < 18446744073709551616 ∧ l < 18446744073709551616 ∧ r < c ∧ Hid (hi * 18446744073709551616 + lo = (h * 18446744073709551616 + l) * c + r) ∧ Blk W (B + 2) 68 #[.int .u64 h, .int .u64 l] ∧ Blk W (B + 1) 68 #[.int .u64 0, .int .u64 0] ∧ Blk W B 68 #[.int .u64 hi, .int .u64 lo] ∧ Below B w W)

theorem DmI.next (hi lo c B k h l r : Nat) (w W : World) (rv : Value) (hk : k < 128) (hrv : rv = .int .u64 r) (hh : h < 18446744073709551616) (hl : l < 18446744073709551616) (hr : r < c)
    (he : (hi * 18446744073709551616 + lo) / 2 ^ k = (h * 18446744073709551616 + l) * c + r)
    (h1 : Blk W (B + 2) 68 #[.int .u64 h, .int .u64 l]) (h2 : Blk W (B + 1) 68 #[.int .u64 0, .int .u64 0]) (h3 : Blk W B 68 #[.int .u64 hi, .int .u64 lo]) (h4 : Below B w W) : DmI hi lo c B w rv (.int .i64 ((k : Int) - 1)) W := by
  rcases Nat.eq_zero_or_pos k with rfl | hpos
  · refine .inr ⟨h, l, r, rfl, hrv, hh, hl, hr, ?_, h1, h2, h3, h4⟩
    show hi * 18446744073709551616 + lo = (h * 18446744073709551616 + l) * c + r
    rw [← he]; simp
  · refine .inl ⟨k - 1, by omega, h, l, r, by rw [show ((k - 1 : Nat) : Int) = (k : Int) - 1 by omega], hrv, hh, hl, hr, ?_, h1, h2, h3, h4⟩
    show (hi * 18446744073709551616 + lo) / 2 ^ (k - 1 + 1) = (h * 18446744073709551616 + l) * c + r
    rw [show k - 1 + 1 = k by omega]; exact he

set_option maxRecDepth 100000 in
set_option maxHeartbeats 2000000 in
theorem rDivMod_any (hi lo c : Nat) (hhi : hi < 18446744073709551616) (hlo : lo < 18446744073709551616) (hc : c < 18446744073709551616) (hc0 : 0 < c) (w : World) :
    Calls Try.prog 41 #[.agg #[.int .u64 hi, .int .u64 lo], .int .u64 c] w fun e w' =>
      (∃ h l : Nat, h < 18446744073709551616 ∧ l < 18446744073709551616 ∧ (h * 18446744073709551616 + l) = (hi * 18446744073709551616 + lo) / c ∧
        e = .returned (.tuple #[.agg #[.int .u64 h, .int .u64 l], .int .u64 (((hi * 18446744073709551616 + lo) % c : Nat) : Int)])) ∧ Below w.heap.size w w' := by
  obtain ⟨B, hB⟩ : ∃ B, w.heap.size = B := ⟨_, rfl⟩
  go_enter Try.func41, Try.ntmps41
  go_wp2_with fail
  go_loopw [7, 8] (fun rv iv W => DmI hi lo c B w rv iv W) (fun _ i _ => (intOf i + 1).toNat)
  case atStart =>
    refine .inl ⟨127, by omega, 0, 0, 0, rfl, rfl, by omega, by omega, hc0, ?_, ?_, ?_, ?_, ?_⟩
    · show (hi * 18446744073709551616 + lo) / 2 ^ (127 + 1) = (0 * 18446744073709551616 + 0) * c + 0
      rw [Nat.div_eq_of_lt (by omega)]; simp
    · have := Blk.new ((w.alloc (Obj.cells #[Value.int IntKind.u64 hi, Value.int IntKind.u64 lo] 68)).alloc (Obj.cells #[Value.int IntKind.u64 0, Value.int IntKind.u64 0] 68)) 68 #[Value.int IntKind.u64 0, Value.int IntKind.u64 0]
      rw [World.size_alloc, World.size_alloc, hB] at this
      exact this
    · have := (Blk.new (w.alloc (Obj.cells #[Value.int IntKind.u64 hi, Value.int IntKind.u64 lo] 68)) 68 #[Value.int IntKind.u64 0, Value.int IntKind.u64 0]).alloc (Obj.cells #[Value.int IntKind.u64 0, Value.int IntKind.u64 0] 68)
      rw [World.size_alloc, hB] at this
      exact this
    · have := ((Blk.new w 68 #[Value.int IntKind.u64 hi, Value.int IntKind.u64 lo]).alloc (Obj.cells #[Value.int IntKind.u64 0, Value.int IntKind.u64 0] 68)).alloc (Obj.cells #[Value.int IntKind.u64 0, Value.int IntKind.u64 0] 68)
      rw [hB] at this
      exact this
    · rw [← hB]; exact (by repeat (first | exact Below.refl _ _ | assumption | refine ext_alloc ?_ _ | refine Below.drew ?_ | refine drewN_below ?_ _ | refine ext_trans ?_ (by assumption) | refine Below.alloc ?_ ?_ _ | refine Below.setCell ?_ ?_ _ | omega | (simp <;> omega)))
  case round =>
    rcases hrel with ⟨k, hk, h, l, r, rfl, rfl, hh, hl, hr, he, hw2, hw1, hw0, hbl⟩ | ⟨h, l, r, rfl, rfl, hh, hl, hr, he, hw2, hw1, hw0, hbl⟩
    · obtain ⟨t, ht⟩ : ∃ t, (hi * 18446744073709551616 + lo) / 2 ^ k % 2 = t := ⟨_, rfl⟩
      have ht2 : t < 2 := by rw [← ht]; exact Nat.mod_lt _ (by omega)
      have hstep := half_step (hi * 18446744073709551616 + lo) k
      rw [ht] at hstep
      have hqs := q_small _ _ _ c hc0 he.out
      have hN : (hi * 18446744073709551616 + lo) / 2 ^ k ≤ hi * 18446744073709551616 + lo := Nat.div_le_self _ _
      obtain ⟨H, L, hH, hL, hHL⟩ := split128 (2 * (h * 18446744073709551616 + l)) (by omega)
      have Hc1 := Lib.hid (rAdd_hl h l h l H L hh hl hh hl hH hL (hHL.trans (Nat.two_mul _)))
      have hdm := dm_step _ _ _ _ t he.out hr ht2
      rw [← hstep] at hdm
      have hLe : L % 2 = 0 := by omega
      have c20 := hw2.cell 0
      have c21 := hw2.cell 1
      have c00 := hw0.cell 0
      have c01 := hw0.cell 1
      simp only [List.getElem?_toArray, List.getElem?_cons_zero, List.getElem?_cons_succ] at c20 c21 c00 c01
      have hlt := hw2.lt
      have hlt1 := hw1.lt
      have hlt0 := hw0.lt
      have ea := and63 k hk
      have e63 : min (k % 64) 64 = k % 64 := by omega
      obtain ⟨top, htop⟩ : ∃ top : Nat, r / 9223372036854775808 = top := ⟨_, rfl⟩
      have etop : (r : Int) / 9223372036854775808 = (top : Int) := by rw [← htop]; rfl
      have er2 : IntKind.u64.wrap ((r : Int) * 2) = ((2 * r % 18446744073709551616 : Nat) : Int) := by rw [IntKind.wrap_u64]; omega
      have er3 := or_even (2 * r % 18446744073709551616) t (by omega) (by omega) ht2
      obtain ⟨R, hR⟩ : ∃ R, 2 * r % 18446744073709551616 + t = R := ⟨_, rfl⟩
      rw [hR] at er3
      have hRl : R + 18446744073709551616 * top = 2 * r + t := by omega
      have HR := Lib.hid hRl
      have el := or_even L 1 hL hLe (by omega)
      rw [Int.natCast_add] at el
      simp only [Int.natCast_one] at el
      have hbits : (63 < k ∧ bits .and .u64 ((hi : Int) / 2 ^ (k - 64)) 1 = (t : Int) ∧ ((k : Int) - 64).toNat = k - 64 ∧ min (k - 64) 64 = k - 64) ∨ (¬ 63 < k ∧ bits .and .u64 ((lo : Int) / 2 ^ (k % 64)) 1 = (t : Int)) := by
        by_cases h63 : 63 < k
        · refine .inl ⟨h63, ?_, by omega, by omega⟩
          rw [bit_k hi _ hhi, ← bit_high hi lo k hlo (by omega), ht]
        · refine .inr ⟨h63, ?_⟩
          rw [bit_k lo _ hlo, show k % 64 = k by omega, ← bit_low hi lo k (by omega), ht]
      generalize 2 * r % 18446744073709551616 = R' at *
      have HEr := Lib.hid he
      have HHL := Lib.hid hHL
      have hr63 : r < 18446744073709551616 := by omega
      clear hR hRl ht hstep hqs hN hHL he
      have hdm1 := hdm.1
      have hdm2 := hdm.2
      clear hdm
      rcases hbits with ⟨h63, eb, e64, e64b⟩ | ⟨h63, eb⟩
      · have htl : top = 0 ∨ top = 1 := by omega
        have hcase : top = 1 ∨ (top = 0 ∧ c ≤ R) ∨ (top = 0 ∧ R < c) := by omega
        rcases hcase with h5 | ⟨h5, h6⟩ | ⟨h5, h6⟩
        · have hgt : c ≤ 2 * r + t := by have := HR.out; omega
          have etopb : ((top : Int) == 1) = true := by simp; omega
          obtain ⟨hEq, hR2⟩ := hdm1 hgt
          obtain ⟨R2, hR2e⟩ : ∃ R2, 2 * r + t - c = R2 := ⟨_, rfl⟩
          rw [hR2e] at hEq hR2
          have ER2 : IntKind.u64.wrap ((R : Int) - (c : Int)) = (R2 : Int) := by have := HR.out; rw [IntKind.wrap_u64]; omega
          have HEq : Hid ((hi * 18446744073709551616 + lo) / 2 ^ k = (H * 18446744073709551616 + (L + 1)) * c + R2) := by
            show (hi * 18446744073709551616 + lo) / 2 ^ k = (H * 18446744073709551616 + (L + 1)) * c + R2
            have h1 := HHL.out
            rw [hEq, show H * 18446744073709551616 + (L + 1) = 2 * (h * 18446744073709551616 + l) + 1 by omega]
          clear hdm1 hdm2 hEq hR2e hgt
          go_wp2_with fail
          refine (Hc1.out _).mono ?_
          rintro e w1 ⟨rfl, hb1⟩
          have d2 := hw2.ext hb1
          have d1 := hw1.ext hb1
          have d0 := hw0.ext hb1
          have hbA : Below B w w1 := hbl.trans (hb1.mono (by omega))
          have y0 := d2.cell 0
          have y1 := d2.cell 1
          simp only [List.getElem?_toArray, List.getElem?_cons_zero, List.getElem?_cons_succ] at y0 y1
          have x0 := d2.frozen 0
          have x1 := d2.frozen 1
          go_wp2_with fail
          go_roundw
          case rel => exact DmI.next hi lo c B k H (L + 1) R2 w _ _ hk rfl hH (by omega) hR2 HEq.out ((((d2.set_ 0 _).set_ 1 _).set_ 1 _)) (((d1.far (p := ⟨B + 2, 0, none⟩) (by simp) _).far (p := ⟨B + 2, 1, none⟩) (by simp) _).far (p := ⟨B + 2, 1, none⟩) (by simp) _) (((d0.far (p := ⟨B + 2, 0, none⟩) (by simp) _).far (p := ⟨B + 2, 1, none⟩) (by simp) _).far (p := ⟨B + 2, 1, none⟩) (by simp) _) (((hbA.setCell (p := ⟨B + 2, 0, none⟩) (by simp) _).setCell (p := ⟨B + 2, 1, none⟩) (by simp) _).setCell (p := ⟨B + 2, 1, none⟩) (by simp) _)
          case measure => simp only [intOf]; omega
        · have hgt : c ≤ 2 * r + t := by have := HR.out; omega
          have etopb : ((top : Int) == 1) = false := by simp; omega
          have hge : (c : Int) ≤ (R : Int) := by have := HR.out; omega
          obtain ⟨hEq, hR2⟩ := hdm1 hgt
          obtain ⟨R2, hR2e⟩ : ∃ R2, 2 * r + t - c = R2 := ⟨_, rfl⟩
          rw [hR2e] at hEq hR2
          have ER2 : IntKind.u64.wrap ((R : Int) - (c : Int)) = (R2 : Int) := by have := HR.out; rw [IntKind.wrap_u64]; omega
          have HEq : Hid ((hi * 18446744073709551616 + lo) / 2 ^ k = (H * 18446744073709551616 + (L + 1)) * c + R2) := by
            show (hi * 18446744073709551616 + lo) / 2 ^ k = (H * 18446744073709551616 + (L + 1)) * c + R2
            have h1 := HHL.out
            rw [hEq, show H * 18446744073709551616 + (L + 1) = 2 * (h * 18446744073709551616 + l) + 1 by omega]
          clear hdm1 hdm2 hEq hR2e hgt
          go_wp2_with fail
          refine (Hc1.out _).mono ?_
          rintro e w1 ⟨rfl, hb1⟩
          have d2 := hw2.ext hb1
          have d1 := hw1.ext hb1
          have d0 := hw0.ext hb1
          have hbA : Below B w w1 := hbl.trans (hb1.mono (by omega))
          have y0 := d2.cell 0
          have y1 := d2.cell 1
          simp only [List.getElem?_toArray, List.getElem?_cons_zero, List.getElem?_cons_succ] at y0 y1
          have x0 := d2.frozen 0
          have x1 := d2.frozen 1
          go_wp2_with fail
          go_roundw
          case rel => exact DmI.next hi lo c B k H (L + 1) R2 w _ _ hk rfl hH (by omega) hR2 HEq.out ((((d2.set_ 0 _).set_ 1 _).set_ 1 _)) (((d1.far (p := ⟨B + 2, 0, none⟩) (by simp) _).far (p := ⟨B + 2, 1, none⟩) (by simp) _).far (p := ⟨B + 2, 1, none⟩) (by simp) _) (((d0.far (p := ⟨B + 2, 0, none⟩) (by simp) _).far (p := ⟨B + 2, 1, none⟩) (by simp) _).far (p := ⟨B + 2, 1, none⟩) (by simp) _) (((hbA.setCell (p := ⟨B + 2, 0, none⟩) (by simp) _).setCell (p := ⟨B + 2, 1, none⟩) (by simp) _).setCell (p := ⟨B + 2, 1, none⟩) (by simp) _)
          case measure => simp only [intOf]; omega
        · have hgt : 2 * r + t < c := by have := HR.out; omega
          have etopb : ((top : Int) == 1) = false := by simp; omega
          have hge : ¬ (c : Int) ≤ (R : Int) := by have := HR.out; omega
          have hEq := hdm2 hgt
          have hR2 : R < c := by omega
          have HEq : Hid ((hi * 18446744073709551616 + lo) / 2 ^ k = (H * 18446744073709551616 + L) * c + R) := by
            show (hi * 18446744073709551616 + lo) / 2 ^ k = (H * 18446744073709551616 + L) * c + R
            have h1 := HHL.out
            have h2 := HR.out
            rw [hEq, h1, show R = 2 * r + t by omega]
          clear hdm1 hdm2 hEq hgt
          go_wp2_with fail
          refine (Hc1.out _).mono ?_
          rintro e w1 ⟨rfl, hb1⟩
          have d2 := hw2.ext hb1
          have d1 := hw1.ext hb1
          have d0 := hw0.ext hb1
          have hbA : Below B w w1 := hbl.trans (hb1.mono (by omega))
          have y0 := d2.cell 0
          have y1 := d2.cell 1
          simp only [List.getElem?_toArray, List.getElem?_cons_zero, List.getElem?_cons_succ] at y0 y1
          have x0 := d2.frozen 0
          have x1 := d2.frozen 1
          go_wp2_with fail
          go_roundw
          case rel => exact DmI.next hi lo c B k H L R w _ _ hk rfl hH hL hR2 HEq.out ((d2.set_ 0 _).set_ 1 _) ((d1.far (p := ⟨B + 2, 0, none⟩) (by simp) _).far (p := ⟨B + 2, 1, none⟩) (by simp) _) ((d0.far (p := ⟨B + 2, 0, none⟩) (by simp) _).far (p := ⟨B + 2, 1, none⟩) (by simp) _) ((hbA.setCell (p := ⟨B + 2, 0, none⟩) (by simp) _).setCell (p := ⟨B + 2, 1, none⟩) (by simp) _)
          case measure => simp only [intOf]; omega
      · have htl : top = 0 ∨ top = 1 := by omega
        have hcase : top = 1 ∨ (top = 0 ∧ c ≤ R) ∨ (top = 0 ∧ R < c) := by omega
        rcases hcase with h5 | ⟨h5, h6⟩ | ⟨h5, h6⟩
        · have hgt : c ≤ 2 * r + t := by have := HR.out; omega
          have etopb : ((top : Int) == 1) = true := by simp; omega
          obtain ⟨hEq, hR2⟩ := hdm1 hgt
          obtain ⟨R2, hR2e⟩ : ∃ R2, 2 * r + t - c = R2 := ⟨_, rfl⟩
          rw [hR2e] at hEq hR2
          have ER2 : IntKind.u64.wrap ((R : Int) - (c : Int)) = (R2 : Int) := by have := HR.out; rw [IntKind.wrap_u64]; omega
          have HEq : Hid ((hi * 18446744073709551616 + lo) / 2 ^ k = (H * 18446744073709551616 + (L + 1)) * c + R2) := by
            show (hi * 18446744073709551616 + lo) / 2 ^ k = (H * 18446744073709551616 + (L + 1)) * c + R2
            have h1 := HHL.out
            rw [hEq, show H * 18446744073709551616 + (L + 1) = 2 * (h * 18446744073709551616 + l) + 1 by omega]
          clear hdm1 hdm2 hEq hR2e hgt
          go_wp2_with fail
          refine (Hc1.out _).mono ?_
          rintro e w1 ⟨rfl, hb1⟩
          have d2 := hw2.ext hb1
          have d1 := hw1.ext hb1
          have d0 := hw0.ext hb1
          have hbA : Below B w w1 := hbl.trans (hb1.mono (by omega))
          have y0 := d2.cell 0
          have y1 := d2.cell 1
          simp only [List.getElem?_toArray, List.getElem?_cons_zero, List.getElem?_cons_succ] at y0 y1
          have x0 := d2.frozen 0
          have x1 := d2.frozen 1
          go_wp2_with fail
          go_roundw
          case rel => exact DmI.next hi lo c B k H (L + 1) R2 w _ _ hk rfl hH (by omega) hR2 HEq.out ((((d2.set_ 0 _).set_ 1 _).set_ 1 _)) (((d1.far (p := ⟨B + 2, 0, none⟩) (by simp) _).far (p := ⟨B + 2, 1, none⟩) (by simp) _).far (p := ⟨B + 2, 1, none⟩) (by simp) _) (((d0.far (p := ⟨B + 2, 0, none⟩) (by simp) _).far (p := ⟨B + 2, 1, none⟩) (by simp) _).far (p := ⟨B + 2, 1, none⟩) (by simp) _) (((hbA.setCell (p := ⟨B + 2, 0, none⟩) (by simp) _).setCell (p := ⟨B + 2, 1, none⟩) (by simp) _).setCell (p := ⟨B + 2, 1, none⟩) (by simp) _)
          case measure => simp only [intOf]; omega
        · have hgt : c ≤ 2 * r + t := by have := HR.out; omega
          have etopb : ((top : Int) == 1) = false := by simp; omega
          have hge : (c : Int) ≤ (R : Int) := by have := HR.out; omega
          obtain ⟨hEq, hR2⟩ := hdm1 hgt
          obtain ⟨R2, hR2e⟩ : ∃ R2, 2 * r + t - c = R2 := ⟨_, rfl⟩
          rw [hR2e] at hEq hR2
          have ER2 : IntKind.u64.wrap ((R : Int) - (c : Int)) = (R2 : Int) := by have := HR.out; rw [IntKind.wrap_u64]; omega
          have HEq : Hid ((hi * 18446744073709551616 + lo) / 2 ^ k = (H * 18446744073709551616 + (L + 1)) * c + R2) := by
            show (hi * 18446744073709551616 + lo) / 2 ^ k = (H * 18446744073709551616 + (L + 1)) * c + R2
            have h1 := HHL.out
            rw [hEq, show H * 18446744073709551616 + (L + 1) = 2 * (h * 18446744073709551616 + l) + 1 by omega]
          clear hdm1 hdm2 hEq hR2e hgt
          go_wp2_with fail
          refine (Hc1.out _).mono ?_
          rintro e w1 ⟨rfl, hb1⟩
          have d2 := hw2.ext hb1
          have d1 := hw1.ext hb1
          have d0 := hw0.ext hb1
          have hbA : Below B w w1 := hbl.trans (hb1.mono (by omega))
          have y0 := d2.cell 0
          have y1 := d2.cell 1
          simp only [List.getElem?_toArray, List.getElem?_cons_zero, List.getElem?_cons_succ] at y0 y1
          have x0 := d2.frozen 0
          have x1 := d2.frozen 1
          go_wp2_with fail
          go_roundw
          case rel => exact DmI.next hi lo c B k H (L + 1) R2 w _ _ hk rfl hH (by omega) hR2 HEq.out ((((d2.set_ 0 _).set_ 1 _).set_ 1 _)) (((d1.far (p := ⟨B + 2, 0, none⟩) (by simp) _).far (p := ⟨B + 2, 1, none⟩) (by simp) _).far (p := ⟨B + 2, 1, none⟩) (by simp) _) (((d0.far (p := ⟨B + 2, 0, none⟩) (by simp) _).far (p := ⟨B + 2, 1, none⟩) (by simp) _).far (p := ⟨B + 2, 1, none⟩) (by simp) _) (((hbA.setCell (p := ⟨B + 2, 0, none⟩) (by simp) _).setCell (p := ⟨B + 2, 1, none⟩) (by simp) _).setCell (p := ⟨B + 2, 1, none⟩) (by simp) _)
          case measure => simp only [intOf]; omega
        · have hgt : 2 * r + t < c := by have := HR.out; omega
          have etopb : ((top : Int) == 1) = false := by simp; omega
          have hge : ¬ (c : Int) ≤ (R : Int) := by have := HR.out; omega
          have hEq := hdm2 hgt
          have hR2 : R < c := by omega
          have HEq : Hid ((hi * 18446744073709551616 + lo) / 2 ^ k = (H * 18446744073709551616 + L) * c + R) := by
            show (hi * 18446744073709551616 + lo) / 2 ^ k = (H * 18446744073709551616 + L) * c + R
            have h1 := HHL.out
            have h2 := HR.out
            rw [hEq, h1, show R = 2 * r + t by omega]
          clear hdm1 hdm2 hEq hgt
          go_wp2_with fail
          refine (Hc1.out _).mono ?_
          rintro e w1 ⟨rfl, hb1⟩
          have d2 := hw2.ext hb1
          have d1 := hw1.ext hb1
          have d0 := hw0.ext hb1
          have hbA : Below B w w1 := hbl.trans (hb1.mono (by omega))
          have y0 := d2.cell 0
          have y1 := d2.cell 1
          simp only [List.getElem?_toArray, List.getElem?_cons_zero, List.getElem?_cons_succ] at y0 y1
          have x0 := d2.frozen 0
          have x1 := d2.frozen 1
          go_wp2_with fail
          go_roundw
          case rel => exact DmI.next hi lo c B k H L R w _ _ hk rfl hH hL hR2 HEq.out ((d2.set_ 0 _).set_ 1 _) ((d1.far (p := ⟨B + 2, 0, none⟩) (by simp) _).far (p := ⟨B + 2, 1, none⟩) (by simp) _) ((d0.far (p := ⟨B + 2, 0, none⟩) (by simp) _).far (p := ⟨B + 2, 1, none⟩) (by simp) _) ((hbA.setCell (p := ⟨B + 2, 0, none⟩) (by simp) _).setCell (p := ⟨B + 2, 1, none⟩) (by simp) _)
          case measure => simp only [intOf]; omega
    · have c20 := hw2.cell 0
      have c21 := hw2.cell 1
      have c10 := hw1.cell 0
      have c11 := hw1.cell 1
      simp only [List.getElem?_toArray, List.getElem?_cons_zero, List.getElem?_cons_succ] at c20 c21 c10 c11
      have z10 := hw1.frozen 0
      have z11 := hw1.frozen 1
      have hdv : (hi * 18446744073709551616 + lo) / c = h * 18446744073709551616 + l ∧ (hi * 18446744073709551616 + lo) % c = r := by
        rw [he.out, Nat.mul_comm]
        exact ⟨by rw [Nat.mul_add_div hc0, Nat.div_eq_of_lt hr, Nat.add_zero], by rw [Nat.mul_add_mod, Nat.mod_eq_of_lt hr]⟩
      have HD := Lib.hid hdv
      clear he hdv
      go_wp2_with fail
      go_wp2
      refine bodyPost_ret (v := .tuple #[.agg #[.int .u64 h, .int .u64 l], .int .u64 r]) (by simp [results, Try.results41, go_sem, c10, c11] <;> first | assumption | omega) rfl ?_
      exact ⟨⟨h, l, hh, hl, HD.out.1.symm, by rw [HD.out.2]⟩, by rw [hB]; exact (by repeat (first | exact Below.refl _ _ | assumption | refine ext_alloc ?_ _ | refine Below.drew ?_ | refine drewN_below ?_ _ | refine ext_trans ?_ (by assumption) | refine Below.alloc ?_ ?_ _ | refine Below.setCell ?_ ?_ _ | omega | (simp <;> omega)))⟩

end Go.Proofs.Ytjlfllhokhekbaa
