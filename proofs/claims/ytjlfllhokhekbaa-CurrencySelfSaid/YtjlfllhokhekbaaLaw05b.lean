/- The laws of layer 5 on the amounts themselves. -/
import Derived.Test.YtjlfllhokhekbaaLaw05a
namespace Go.Proofs.Ytjlfllhokhekbaa
open Go.RowKit Go.Sort
set_option linter.unusedVariables false

/-- A same rate and divisor give the amount back. -/
theorem scale_same (a r m : Int) (ha : -1000000000000 ≤ a ∧ a ≤ 1000000000000) (hr : 1 ≤ r ∧ r ≤ 1000000000000) (hm : 0 ≤ m ∧ m ≤ 3) : scaleS a r r m = (a, 0) := by
  obtain ⟨R, rfl⟩ : ∃ R : Nat, r = R := ⟨r.toNat, by omega⟩
  have hR : 0 < R := by omega
  have h : ¬ (inB (-1000000000000) 1000000000000 a = false ∨ inB 0 1000000000000 R = false ∨ inB 1 1000000000000 R = false ∨ m < 0 ∨ 3 < m) := by
    rw [inB_yes ha.1 ha.2, inB_yes (by omega) (by omega), inB_yes (by omega) (by omega)]; simp; omega
  have hq : a.natAbs * R / R = a.natAbs := Nat.mul_div_cancel _ hR
  have hz : a.natAbs * R % R = 0 := Nat.mul_mod_left _ _
  have hu : divS m (a.natAbs * R) R = (a.natAbs, 0) := by
    unfold divS
    rw [if_neg (by omega), hq, hz, upN_zero m _ _ hR, if_neg (by omega)]; rfl
  rw [scaleS_good a R R m R R _ _ rfl rfl h hu, if_neg (by simp; omega)]
  split
  · rw [show -((a.natAbs : Nat) : Int) = a by omega]
  · rw [show ((a.natAbs : Nat) : Int) = a by omega]

theorem atS_eur_made (t : List Ex) (D : Int) (h0 : tabE t = 0) (hD : 0 ≤ D ∧ D < 120) : atS t eur D = (1000000, 0) := by
  unfold atS; rw [if_neg (by simp [h0]), if_neg (by omega), if_pos rfl]

/-- Rounding keeps the order. -/
theorem up_mono (m q r r' c : Int) (h : r ≤ r') (hu : upB m q r c = true) : upB m q r' c = true := by
  unfold upB at hu ⊢
  by_cases h1 : m = 1
  · rw [if_pos h1] at hu ⊢; simp at hu ⊢; omega
  · rw [if_neg h1] at hu ⊢
    by_cases h2 : m = 2
    · rw [if_pos h2] at hu ⊢; simp at hu ⊢; omega
    · rw [if_neg h2] at hu ⊢
      by_cases h3 : m = 3
      · rw [if_pos h3] at hu ⊢
        simp at hu ⊢
        rcases hu with hu | ⟨hu, hp⟩
        · left; omega
        · by_cases he : r = r'
          · subst he; right; exact ⟨hu, hp⟩
          · left; omega
      · rw [if_neg h3] at hu; cases hu
theorem round_mono (m : Int) (N M c : Nat) (hc : 0 < c) (h : N ≤ M) : N / c + upN m (N / c) (N % c) c ≤ M / c + upN m (M / c) (M % c) c := by
  have hd := Nat.div_le_div_right (c := c) h
  by_cases he : N / c = M / c
  · have e1 := Nat.div_add_mod N c
    have e2 := Nat.div_add_mod M c
    rw [he] at e1 ⊢
    have hr : N % c ≤ M % c := by omega
    have : upN m (M / c) (N % c) c ≤ upN m (M / c) (M % c) c := by
      unfold upN
      by_cases hu : upB m ((M / c : Nat) : Int) ((N % c : Nat) : Int) c = true
      · rw [if_pos hu, if_pos (up_mono m _ _ _ _ (by omega) hu)]; omega
      · rw [if_neg hu]; omega
    omega
  · have := upN_le m (N / c) (N % c) c
    omega
theorem divS_mono (m : Int) (N M c : Nat) (h : N ≤ M) (h1 : (divS m N c).2 = 0) (h2 : (divS m M c).2 = 0) : (divS m N c).1 ≤ (divS m M c).1 := by
  unfold divS at h1 h2 ⊢
  by_cases hb : c = 0 ∨ m < 0 ∨ 3 < m
  · rw [if_pos hb] at h1; cases h1
  · rw [if_neg hb] at h1 h2 ⊢
    rw [if_neg hb]
    split at h1
    · cases h1
    · split at h2
      · cases h2
      · rw [if_neg (by assumption), if_neg (by assumption)]
        exact round_mono m N M c (by omega) h

/-- The three ways in which an amount's fate may show: all three calls fail alike, or at least the first one succeeds, and then .. -/
theorem cross_fate (t : List Ex) (x y : List UInt8) (D m a b : Int) (hm : 0 ≤ m ∧ m ≤ 3) (ha : -1000000 < a ∧ a < 1000000) (hab : a ≤ b) (hb : b < 2000000) :
    ((crossS t a x y D m).2 ≠ 0 → (crossS t (-a) x y D m).2 = (crossS t a x y D m).2) ∧
    ((crossS t a x y D m).2 = 0 → (crossS t b x y D m).2 = 0 → (crossS t a x y D m).1 ≤ (crossS t b x y D m).1 ∧ (crossS t (-a) x y D m).2 = 0 ∧ (crossS t (-a) x y D m).1 = -(crossS t a x y D m).1 ∧ -1000000000000 ≤ (crossS t a x y D m).1 ∧ (crossS t a x y D m).1 ≤ 1000000000000) := by
  unfold crossS
  have R1 := atS_rng t x D
  have R2 := atS_rng t y D
  generalize atS t x D = u at *
  generalize atS t y D = v at *
  obtain ⟨u, ue⟩ := u
  obtain ⟨v, ve⟩ := v
  simp only [] at *
  by_cases hu : ue ≠ 0
  · rw [if_pos hu, if_pos hu, if_pos hu]
    exact ⟨fun _ => rfl, fun h => absurd h hu⟩
  · rw [if_neg hu, if_neg hu, if_neg hu]
    by_cases hv : ve ≠ 0
    · rw [if_pos hv, if_pos hv, if_pos hv]
      exact ⟨fun _ => rfl, fun h => absurd h hv⟩
    · rw [if_neg hv, if_neg hv, if_neg hv]
      obtain ⟨r1, r2⟩ := R1 (by simpa using hu)
      obtain ⟨r3, r4⟩ := R2 (by simpa using hv)
      obtain ⟨N, rfl⟩ : ∃ N : Nat, u = N := ⟨u.toNat, by omega⟩
      obtain ⟨C, rfl⟩ : ∃ C : Nat, v = C := ⟨v.toNat, by omega⟩
      have good : ∀ z : Int, -2000000 < z → z < 2000000 → scaleS z N C m = if (divS m (z.natAbs * N) C).2 ≠ 0 ∨ 1000000000000 < (divS m (z.natAbs * N) C).1 then (0, 3) else if z < 0 then (-((divS m (z.natAbs * N) C).1 : Int), 0) else (((divS m (z.natAbs * N) C).1 : Int), 0) := by
        intro z h1 h2
        refine scaleS_good z N C m N C _ _ rfl rfl ?_ rfl
        rw [inB_yes (by omega) (by omega), inB_yes (by omega) (by omega), inB_yes (by omega) (by omega)]; simp; omega
      rw [good a (by omega) (by omega), good b (by omega) (by omega), good (-a) (by omega) (by omega), Int.natAbs_neg]
      have zero : (divS m (0 * N) C).1 = 0 := by
        rw [Nat.zero_mul]
        unfold divS
        rw [if_neg (by omega), Nat.zero_div, Nat.zero_mod, upN_zero m _ _ (by omega), if_neg (by omega)]
      have mono : ∀ p q : Nat, p ≤ q → (divS m (p * N) C).2 = 0 → (divS m (q * N) C).2 = 0 → (divS m (p * N) C).1 ≤ (divS m (q * N) C).1 := fun p q h => divS_mono m _ _ C (Nat.mul_le_mul_right N h)
      have mab := mono a.natAbs b.natAbs
      have mba := mono b.natAbs a.natAbs
      have z0 : a.natAbs = 0 → (divS m (a.natAbs * N) C).1 = 0 := fun h => by rw [h]; exact zero
      generalize divS m (a.natAbs * N) C = s at *
      generalize divS m (b.natAbs * N) C = w at *
      obtain ⟨s, se⟩ := s
      obtain ⟨w, we⟩ := w
      simp only [] at *
      by_cases hs : se ≠ 0 ∨ 1000000000000 < s
      · rw [if_pos hs, if_pos hs]
        exact ⟨fun _ => rfl, fun h => by simp at h⟩
      · rw [if_neg hs, if_neg hs]
        have hse : se = 0 := Classical.byContradiction fun h => hs (.inl h)
        have hs1 : s ≤ 1000000000000 := by omega
        refine ⟨fun h => ?_, fun _ h => ?_⟩
        · exfalso; split at h <;> simp at h
        · by_cases hw : we ≠ 0 ∨ 1000000000000 < w
          · rw [if_pos hw] at h; simp at h
          · have hwe : we = 0 := Classical.byContradiction fun h => hw (.inl h)
            rw [if_neg hw]
            have m1 := fun h => mab h hse hwe
            have m2 := fun h => mba h hwe hse
            by_cases a0 : a < 0
            · have na : ¬ (-a < 0) := by omega
              rw [if_pos a0, if_neg na]
              by_cases b0 : b < 0
              · rw [if_pos b0]
                have := m2 (by omega)
                refine ⟨?_, rfl, ?_, ?_, ?_⟩ <;> dsimp only <;> omega
              · rw [if_neg b0]
                refine ⟨?_, rfl, ?_, ?_, ?_⟩ <;> dsimp only <;> omega
            · have nb : ¬ b < 0 := by omega
              rw [if_neg a0, if_neg nb]
              have := m1 (by omega)
              by_cases an : -a < 0
              · rw [if_pos an]; refine ⟨?_, rfl, ?_, ?_, ?_⟩ <;> dsimp only <;> omega
              · rw [if_neg an]
                have := z0 (by omega)
                refine ⟨?_, rfl, ?_, ?_, ?_⟩ <;> dsimp only <;> omega

set_option maxRecDepth 100000 in
set_option maxHeartbeats 2000000 in
theorem lawSelf (w : World) (A : Option Addr) (c : Nat) (xs : List Int) (a cc day mode : Int) (hA : Ints w w.heap.size A xs) (hn : xs.length ≤ c) (hc : c ≤ maxLen) :
    Calls Try.prog 8 #[.slice A xs.length c, .int .i64 a, .int .i64 cc, .int .i64 day, .int .i64 mode] w fun e w' => e = .returned (.bool true) ∧ Below w.heap.size w w' := by
  have HT := Lib.hid (madeTab w A c xs hA hn hc)
  have HC := Lib.hid (currency_any cc)
  have HW := Lib.hid (within_any day 120 (by omega) (by omega))
  have hcl := curOf_len cc
  obtain ⟨m3, hm3, h30, h33⟩ := and3 mode
  have d0 := Int.emod_nonneg day (show (120 : Int) ≠ 0 by omega)
  have d1 := Int.emod_lt_of_pos day (show (0 : Int) < 120 by omega)
  have t1 := Int.tmod_lt_of_pos a (show (0 : Int) < 1000000000001 by omega)
  have t2 := Int.lt_tmod_of_pos a (show (0 : Int) < 1000000000001 by omega)
  obtain ⟨a1, ha1⟩ : ∃ a1, a.tmod 1000000000001 = a1 := ⟨_, rfl⟩
  rw [ha1] at t1 t2
  have hel : (3 : Nat) ≤ maxLen := by unfold maxLen; omega
  generalize curOf cc = x at *
  generalize day % 120 = D at *
  have HM := Lib.hid fun (A' : Option Addr) (c' : Nat) (t : List Ex) (hl : t.length ≤ 9) (hE : ∀ k, exErr t k = 0) =>
    have hml : t.length ≤ maxLen := by unfold maxLen; omega
    have k1 : FnT A' t 18 #[.slice A' t.length c', .int .i64 a1, .string ⟨#[69, 85, 82]⟩, .int .i64 D, .int .i64 m3] (.tuple #[.int .i64 a1, .int .i64 0]) := fun w h => by
      have k := convert_any w A' c' t a1 ⟨#[69, 85, 82]⟩ D m3 h hml (tab_len t hE) hel
      rw [show (⟨#[69, 85, 82]⟩ : ByteArray).data.toList = eur from rfl, show convertS t a1 eur D m3 = (a1, 0) by
        unfold convertS; rw [atS_eur_made t D (tab_zero t hE hl) ⟨d0, d1⟩, if_neg (by simp)]; exact scale_same a1 1000000 m3 (by omega) (by omega) ⟨h30, h33⟩] at k
      exact k
    have k2 : FnT A' t 15 #[.slice A' t.length c', .string x, .int .i64 D] (.tuple #[.int .i64 (atS t x.data.toList D).1, .int .i64 (atS t x.data.toList D).2]) := fun w h => at_any w A' c' t x D h hml (tab_len t hE) hcl
    have k3 : (atS t x.data.toList D).2 = 0 → FnT A' t 20 #[.slice A' t.length c', .int .i64 a1, .string x, .string x, .int .i64 D, .int .i64 m3] (.tuple #[.int .i64 a1, .int .i64 0]) := fun h0 w h => by
      have k := cross_any w A' c' t a1 x x D m3 h hml (tab_len t hE) hcl hcl
      have rr := atS_rng t x.data.toList D h0
      rw [show crossS t a1 x.data.toList x.data.toList D m3 = (a1, 0) by
        unfold crossS; rw [if_neg (by simp [h0]), if_neg (by simp [h0])]; exact scale_same a1 _ m3 (by omega) (by omega) ⟨h30, h33⟩] at k
      exact k
    And.intro k1 (And.intro k2 k3)
  clear hcl t1 t2 d0 d1 h30 h33 hel
  have ea : (a1 != a1) = false := by simp
  have ea2 : (a1 == a1) = true := by simp
  go_enter Try.func8, Try.ntmps8
  go_wp2_with fail
  refine HT.out.mono ?_
  rintro e w1 ⟨⟨A', c', t, rfl, hT1, hl, hE, _⟩, hb1⟩
  obtain ⟨H1, H2, H3⟩ := HM.out A' c' t hl hE
  have HE := Lib.hid hE
  have HX := Lib.hid H3
  clear hE H3
  generalize (atS t x.data.toList D).1 = r at *
  generalize (atS t x.data.toList D).2 = er at *
  go_wp2_with fail
  refine (HW.out _).mono ?_
  rintro e w2 ⟨rfl, hb2⟩
  have hT2 := RowsW.ext hT1 hb2
  go_wp2_with fail
  refine (HC.out _).mono ?_
  rintro e w3 ⟨rfl, hb3⟩
  have hT3 := RowsW.ext hT2 hb3
  go_wp2_with fail
  refine (H1 _ hT3).mono ?_
  rintro e w4 ⟨rfl, hb4⟩
  have hT4 := RowsW.ext hT3 hb4
  by_cases h0 : er = 0
  · have H3 := HX.out h0
    subst h0
    go_wp2_with fail
    refine (H2 _ hT4).mono ?_
    rintro e w5 ⟨rfl, hb5⟩
    have hT5 := RowsW.ext hT4 hb5
    go_wp2_with fail
    refine (H3 _ hT5).mono ?_
    rintro e w6 ⟨rfl, hb6⟩
    go_wp2_with fail
    refine (awake5 _).mono ?_
    rintro e w7 ⟨rfl, hb7⟩
    go_wp2_with fail
    go_ret
    exact ⟨rfl, (by repeat (first | exact Below.refl _ _ | assumption | refine ext_alloc ?_ _ | refine Below.drew ?_ | refine drewN_below ?_ _ | refine ext_trans ?_ (by assumption) | refine Below.alloc ?_ ?_ _ | refine Below.setCell ?_ ?_ _ | omega | (simp <;> omega)))⟩
  · have hb : (er != 0) = true := by simpa using h0
    clear h0
    go_wp2_with fail
    refine (H2 _ hT4).mono ?_
    rintro e w5 ⟨rfl, hb5⟩
    go_wp2_with fail
    refine (awake5 _).mono ?_
    rintro e w7 ⟨rfl, hb7⟩
    go_wp2_with fail
    go_ret
    exact ⟨rfl, (by repeat (first | exact Below.refl _ _ | assumption | refine ext_alloc ?_ _ | refine Below.drew ?_ | refine drewN_below ?_ _ | refine ext_trans ?_ (by assumption) | refine Below.alloc ?_ ?_ _ | refine Below.setCell ?_ ?_ _ | omega | (simp <;> omega)))⟩

set_option maxRecDepth 100000 in
set_option maxHeartbeats 2000000 in
theorem lawMonotone (w : World) (A : Option Addr) (c : Nat) (xs : List Int) (a more fr to_ day mode : Int) (hA : Ints w w.heap.size A xs) (hn : xs.length ≤ c) (hc : c ≤ maxLen) :
    Calls Try.prog 9 #[.slice A xs.length c, .int .i64 a, .int .i64 more, .int .i64 fr, .int .i64 to_, .int .i64 day, .int .i64 mode] w fun e w' => e = .returned (.bool true) ∧ Below w.heap.size w w' := by
  have HT := Lib.hid (madeTab w A c xs hA hn hc)
  have HC := Lib.hid (currency_any fr)
  have HD := Lib.hid (currency_any to_)
  have HW := Lib.hid (within_any day 120 (by omega) (by omega))
  have HW2 := Lib.hid (within_any more 1000000 (by omega) (by omega))
  have hcl := curOf_len fr
  have hdl := curOf_len to_
  obtain ⟨m3, hm3, h30, h33⟩ := and3 mode
  have d0 := Int.emod_nonneg more (show (1000000 : Int) ≠ 0 by omega)
  have d1 := Int.emod_lt_of_pos more (show (0 : Int) < 1000000 by omega)
  have t1 := Int.tmod_lt_of_pos a (show (0 : Int) < 1000000 by omega)
  have t2 := Int.lt_tmod_of_pos a (show (0 : Int) < 1000000 by omega)
  obtain ⟨a1, ha1⟩ : ∃ a1, a.tmod 1000000 = a1 := ⟨_, rfl⟩
  rw [ha1] at t1 t2
  generalize curOf fr = x at *
  generalize curOf to_ = y at *
  generalize day % 120 = D at *
  generalize more % 1000000 = mo at *
  have HF := Lib.hid fun t => cross_fate t x.data.toList y.data.toList D m3 a1 (a1 + mo) ⟨h30, h33⟩ (by omega) (by omega) (by omega)
  have HM := Lib.hid fun (A' : Option Addr) (c' : Nat) (t : List Ex) (hl : t.length ≤ 9) (hE : ∀ k, exErr t k = 0) (z : Int) =>
    have hml : t.length ≤ maxLen := by unfold maxLen; omega
    have k : FnT A' t 20 #[.slice A' t.length c', .int .i64 z, .string x, .string y, .int .i64 D, .int .i64 m3] (.tuple #[.int .i64 (crossS t z x.data.toList y.data.toList D m3).1, .int .i64 (crossS t z x.data.toList y.data.toList D m3).2]) := fun w h => cross_any w A' c' t z x y D m3 h hml (tab_len t hE) hcl hdl
    k
  clear hcl hdl h30 h33
  go_enter Try.func9, Try.ntmps9
  go_wp2_with fail
  refine HT.out.mono ?_
  rintro e w1 ⟨⟨A', c', t, rfl, hT1, hl, hE, _⟩, hb1⟩
  have H1 := HM.out A' c' t hl hE a1
  have H2 := HM.out A' c' t hl hE (a1 + mo)
  have H3 := HM.out A' c' t hl hE (-a1)
  have HF2 := Lib.hid (HF.out t)
  have HE := Lib.hid hE
  clear hE
  generalize crossS t a1 x.data.toList y.data.toList D m3 = p at *
  generalize crossS t (a1 + mo) x.data.toList y.data.toList D m3 = q at *
  generalize crossS t (-a1) x.data.toList y.data.toList D m3 = r at *
  obtain ⟨p, pe⟩ := p
  obtain ⟨q, qe⟩ := q
  obtain ⟨r, re⟩ := r
  go_wp2_with fail
  refine (HW.out _).mono ?_
  rintro e w2 ⟨rfl, hb2⟩
  have hT2 := RowsW.ext hT1 hb2
  go_wp2_with fail
  refine (HW2.out _).mono ?_
  rintro e w3 ⟨rfl, hb3⟩
  have hT3 := RowsW.ext hT2 hb3
  go_wp2_with fail
  refine (HC.out _).mono ?_
  rintro e w4 ⟨rfl, hb4⟩
  have hT4 := RowsW.ext hT3 hb4
  go_wp2_with fail
  refine (HD.out _).mono ?_
  rintro e w5 ⟨rfl, hb5⟩
  have hT5 := RowsW.ext hT4 hb5
  go_wp2_with fail
  refine (H1 _ hT5).mono ?_
  rintro e w6 ⟨rfl, hb6⟩
  have hT6 := RowsW.ext hT5 hb6
  go_wp2_with fail
  refine (H2 _ hT6).mono ?_
  rintro e w7 ⟨rfl, hb7⟩
  have hT7 := RowsW.ext hT6 hb7
  go_wp2_with fail
  refine (H3 _ hT7).mono ?_
  rintro e w8 ⟨rfl, hb8⟩
  by_cases h0 : pe = 0
  · by_cases h1 : qe = 0
    · obtain ⟨f1, f2, f3, f4, f5⟩ := HF2.out.2 h0 h1
      change p ≤ q at f1; change re = 0 at f2; change r = -p at f3; change -1000000000000 ≤ p at f4; change p ≤ 1000000000000 at f5
      subst h0 h1 f2 f3
      clear HF2
      go_wp2_with fail
      refine (awake5 _).mono ?_
      rintro e w9 ⟨rfl, hb9⟩
      go_wp2_with fail
      go_ret
      exact ⟨rfl, (by repeat (first | exact Below.refl _ _ | assumption | refine ext_alloc ?_ _ | refine Below.drew ?_ | refine drewN_below ?_ _ | refine ext_trans ?_ (by assumption) | refine Below.alloc ?_ ?_ _ | refine Below.setCell ?_ ?_ _ | omega | (simp <;> omega)))⟩
    · have hb : (qe != 0) = true := by simpa using h1
      subst h0
      clear h1
      cases hz : (0 : Int) == re
      · go_wp2_with fail
        refine (awake5 _).mono ?_
        rintro e w9 ⟨rfl, hb9⟩
        go_wp2_with fail
        go_ret
        exact ⟨rfl, (by repeat (first | exact Below.refl _ _ | assumption | refine ext_alloc ?_ _ | refine Below.drew ?_ | refine drewN_below ?_ _ | refine ext_trans ?_ (by assumption) | refine Below.alloc ?_ ?_ _ | refine Below.setCell ?_ ?_ _ | omega | (simp <;> omega)))⟩
      · go_wp2_with fail
        refine (awake5 _).mono ?_
        rintro e w9 ⟨rfl, hb9⟩
        go_wp2_with fail
        go_ret
        exact ⟨rfl, (by repeat (first | exact Below.refl _ _ | assumption | refine ext_alloc ?_ _ | refine Below.drew ?_ | refine drewN_below ?_ _ | refine ext_trans ?_ (by assumption) | refine Below.alloc ?_ ?_ _ | refine Below.setCell ?_ ?_ _ | omega | (simp <;> omega)))⟩
  · have hb : (pe != 0) = true := by simpa using h0
    have hre := HF2.out.1 h0
    change re = pe at hre
    subst hre
    have hee : (re == re) = true := by simp
    clear h0 HF2
    go_wp2_with fail
    refine (awake5 _).mono ?_
    rintro e w9 ⟨rfl, hb9⟩
    go_wp2_with fail
    go_ret
    exact ⟨rfl, (by repeat (first | exact Below.refl _ _ | assumption | refine ext_alloc ?_ _ | refine Below.drew ?_ | refine drewN_below ?_ _ | refine ext_trans ?_ (by assumption) | refine Below.alloc ?_ ?_ _ | refine Below.setCell ?_ ?_ _ | omega | (simp <;> omega)))⟩

end Go.Proofs.Ytjlfllhokhekbaa
