/- Contracts of the reference of layer 1: Div, MulDiv, MulMod, Order, Compare, Gcd, Reduce. -/
import Derived.Test.YtjlfllhokhekbaaRefDm
import Derived.Deep.DeepCutAuto
import Derived.Deep.CutBlock
namespace Go.Proofs.Ytjlfllhokhekbaa
open Go.RowKit
set_option linter.unusedVariables false

theorem and1 (a : Nat) (ha : a < 18446744073709551616) : bits .and .u64 (a : Int) 1 = ((a % 2 : Nat) : Int) := by
  have h := bits_and_u64_nat a 1 ha (by omega)
  rw [Nat.and_one_is_mod] at h
  exact h

theorem up1 (q r c : Int) : upB 1 q r c = decide (0 < r) := rfl
theorem up2 (q r c : Int) : upB 2 q r c = decide (c - r ≤ r) := rfl
theorem up3 (q r c : Int) : upB 3 q r c = (decide (c - r < r) || (decide (r = c - r) && decide (q % 2 = 1))) := rfl
theorem up3_gt (q r c : Int) (h : c - r < r) : upB 3 q r c = true := by rw [up3]; simp [h]
theorem up3_ne (q r c : Int) (h : ¬ c - r < r) (h5 : ¬ r = c - r) : upB 3 q r c = false := by rw [up3]; simp [h, h5]
theorem up3_odd (q : Nat) (r c : Int) (h5 : r = c - r) (h6 : q % 2 = 1) : upB 3 q r c = true := by
  rw [up3, decide_eq_true h5, decide_eq_true (show (q : Int) % 2 = 1 by omega)]; simp
theorem up3_even (q : Nat) (r c : Int) (h4 : ¬ c - r < r) (h6 : q % 2 = 0) : upB 3 q r c = false := by
  rw [up3, decide_eq_false h4, decide_eq_false (show ¬ (q : Int) % 2 = 1 by omega)]; simp
theorem up_other (m q r c : Int) (h1 : ¬ m = 1) (h2 : ¬ m = 2) (h3 : ¬ m = 3) : upB m q r c = false := by unfold upB; rw [if_neg h1, if_neg h2, if_neg h3]

theorem plus1 (S X q : Nat) (h1 : S = q + 1) (h2 : X = q) : S = X + (0 * 18446744073709551616 + 1) := by omega

set_option maxRecDepth 100000 in
set_option maxHeartbeats 1000000 in
theorem rDiv_any (hi lo c : Nat) (m : Int) (hhi : hi < 18446744073709551616) (hlo : lo < 18446744073709551616) (hc : c < 18446744073709551616) (w : World) :
    Calls Try.prog 37 #[.agg #[.int .u64 hi, .int .u64 lo], .int .u64 c, .int .i64 m] w fun e w' =>
      e = .returned (divV m (hi * 18446744073709551616 + lo) c) ∧ Below w.heap.size w w' := by
  by_cases h0 : c = 0
  · have HV : Hid (divV m (hi * 18446744073709551616 + lo) c = .tuple #[.int .u64 0, .int .i64 2]) := divV_range _ _ _ (.inl h0)
    subst h0
    as_aux_lemma =>
      go_enter Try.func37, Try.ntmps37
      go_wp2
      go_ret2
      exact ⟨by rw [HV.out]; rfl, (by repeat (first | exact Below.refl _ _ | assumption | refine ext_alloc ?_ _ | refine Below.drew ?_ | refine drewN_below ?_ _ | refine ext_trans ?_ (by assumption) | refine Below.alloc ?_ ?_ _ | refine Below.setCell ?_ ?_ _ | omega | (simp <;> omega)))⟩
  · have h0b : ((c : Int) == 0) = false := by simp; omega
    by_cases h1 : m < 0
    · have HV : Hid (divV m (hi * 18446744073709551616 + lo) c = .tuple #[.int .u64 0, .int .i64 2]) := divV_range _ _ _ (.inr (.inl h1))
      as_aux_lemma =>
        go_enter Try.func37, Try.ntmps37
        go_wp2
        go_ret2
        exact ⟨by rw [HV.out]; rfl, (by repeat (first | exact Below.refl _ _ | assumption | refine ext_alloc ?_ _ | refine Below.drew ?_ | refine drewN_below ?_ _ | refine ext_trans ?_ (by assumption) | refine Below.alloc ?_ ?_ _ | refine Below.setCell ?_ ?_ _ | omega | (simp <;> omega)))⟩
    · by_cases h2 : 3 < m
      · have HV : Hid (divV m (hi * 18446744073709551616 + lo) c = .tuple #[.int .u64 0, .int .i64 2]) := divV_range _ _ _ (.inr (.inr h2))
        as_aux_lemma =>
          go_enter Try.func37, Try.ntmps37
          go_wp2
          go_ret2
          exact ⟨by rw [HV.out]; rfl, (by repeat (first | exact Below.refl _ _ | assumption | refine ext_alloc ?_ _ | refine Below.drew ?_ | refine drewN_below ?_ _ | refine ext_trans ?_ (by assumption) | refine Below.alloc ?_ ?_ _ | refine Below.setCell ?_ ?_ _ | omega | (simp <;> omega)))⟩
      · have hok : ¬ (c = 0 ∨ m < 0 ∨ 3 < m) := by omega
        have hcon := rDivMod_any hi lo c hhi hlo hc (by omega)
        have hrb : (hi * 18446744073709551616 + lo) % c < c := Nat.mod_lt _ (by omega)
        have hov := divV_over m (hi * 18446744073709551616 + lo) c hok
        have hgd := fun q => divV_ok m (hi * 18446744073709551616 + lo) c q hok
        have hNb : (hi * 18446744073709551616 + lo) / c ≤ hi * 18446744073709551616 + lo := Nat.div_le_self _ _
        have hNb2 : hi * 18446744073709551616 + lo < 340282366920938463463374607431768211456 := by omega
        have hq127 : 0 < (hi * 18446744073709551616 + lo) % c → (hi * 18446744073709551616 + lo) / c + 1 < 340282366920938463463374607431768211456 := by
          intro hpos
          have h2c : 2 ≤ c := by omega
          have h3 : (hi * 18446744073709551616 + lo) / c < 170141183460469231731687303715884105728 := by
            rw [Nat.div_lt_iff_lt_mul (by omega)]
            have := Nat.mul_le_mul_left 170141183460469231731687303715884105728 h2c
            omega
          omega
        generalize hi * 18446744073709551616 + lo = N at *
        generalize N / c = q at *
        generalize N % c = r at *
        have hq128 : q < 340282366920938463463374607431768211456 := by omega
        -- a quotient of two whole words is at most one less than 2^128, and is rounded up only where a rest is left
        have hrest : upB m q r c = true → 0 < r := by
          intro hu
          rcases Nat.eq_zero_or_pos r with h0' | h0'
          · subst h0'
            have hz := upB_zero m q c (by omega)
            have hu2 : upB m q 0 c = true := hu
            rw [hz] at hu2; cases hu2
          · exact h0'
        have Hcon := Lib.hid hcon
        have Hov := Lib.hid hov
        have Hgd := Lib.hid hgd
        clear hcon hov hgd hNb hNb2
        go_enter Try.func37, Try.ntmps37
        go_wp2_with fail
        refine (Hcon.out _).mono ?_
        rintro e w1 ⟨⟨h, l, hh, hl, hq, rfl⟩, hb1⟩
        have hbA : Below w.heap.size w w1 := (by repeat (first | exact Below.refl _ _ | assumption | refine ext_alloc ?_ _ | refine Below.drew ?_ | refine drewN_below ?_ _ | refine ext_trans ?_ (by assumption) | refine Below.alloc ?_ ?_ _ | refine Below.setCell ?_ ?_ _ | omega | (simp <;> omega)))
        have hlodd : l % 2 = q % 2 := by omega
        have el := and1 l hl
        rw [hlodd] at el
        have HQ := Lib.hid hq
        have hsz := hbA.size
        clear hq hlodd hb1
        go_upto_block 0 with (fail)
        go_cut [10] (fun u wc => u = .bool (upB m q r c) ∧ (w1.alloc (Obj.cells #[Value.int IntKind.u64 h, Value.int IntKind.u64 l] 68)) = wc)
        case first =>
          clear hq127 hq128 hrest hsz
          have hrb' : (r : Int) < c := by omega
          by_cases m1 : m = 1
          · subst m1
            have HV := Lib.hid (up1 q r c)
            as_aux_lemma =>
              go_wp2_with fail
              go_meet
              exact ⟨by first | (rw [HV.out]; done) | (rw [HV.out]; simp), rfl⟩
          · have m1b : (m == 1) = false := by simpa using m1
            by_cases m2 : m = 2
            · subst m2
              have HV := Lib.hid (up2 q r c)
              as_aux_lemma =>
                go_wp2_with fail
                go_meet
                exact ⟨by first | (rw [HV.out]; done) | (rw [HV.out]; simp), rfl⟩
            · have m2b : (m == 2) = false := by simpa using m2
              by_cases m3 : m = 3
              · subst m3
                by_cases h4 : (c : Int) - r < r
                · have HV := Lib.hid (up3_gt q r c h4)
                  as_aux_lemma =>
                    go_wp2_with fail
                    go_meet
                    exact ⟨by first | (rw [HV.out]; done) | (rw [HV.out]; simp), rfl⟩
                · have h4b : decide ((c : Int) - r < r) = false := by simpa using h4
                  by_cases h5 : (r : Int) = c - r
                  · have h5b : ((r : Int) == c - r) = true := by simpa using h5
                    rcases Nat.mod_two_eq_zero_or_one q with h6 | h6
                    · have HV := Lib.hid (up3_even q r c h4 h6)
                      rw [h6] at el
                      simp only [Int.ofNat_zero] at el
                      clear h5 h6
                      as_aux_lemma =>
                        go_wp2_with fail
                        go_meet
                        exact ⟨by first | (rw [HV.out]; done) | (rw [HV.out]; simp), rfl⟩
                    · have HV := Lib.hid (up3_odd q r c h5 h6)
                      rw [h6] at el
                      simp only [Int.ofNat_one] at el
                      clear h5 h6
                      as_aux_lemma =>
                        go_wp2_with fail
                        go_meet
                        exact ⟨by first | (rw [HV.out]; done) | (rw [HV.out]; simp), rfl⟩
                  · have HV := Lib.hid (up3_ne q r c h4 h5)
                    have h5b : ((r : Int) == c - r) = false := by simpa using h5
                    as_aux_lemma =>
                      go_wp2_with fail
                      go_meet
                      exact ⟨by first | (rw [HV.out]; done) | (rw [HV.out]; simp), rfl⟩
              · have m3b : (m == 3) = false := by simpa using m3
                have HV := Lib.hid (up_other m q r c m1 m2 m3)
                as_aux_lemma =>
                  go_wp2_with fail
                  go_meet
                  exact ⟨by first | (rw [HV.out]; done) | (rw [HV.out]; simp), rfl⟩
        case rest =>
          obtain ⟨rfl, rfl⟩ := hcut
          by_cases hup : upB m q r c = true
          · have e1 : upN m q r c = 1 := by unfold upN; rw [if_pos hup]
            rw [hup]
            have hr0 := hrest hup
            obtain ⟨H, L, hH, hL, hHL⟩ := split128 (q + 1) (hq127 hr0)
            have Hc1 := Lib.hid (rAdd_hl h l 0 1 H L hh hl (by omega) (by omega) hH hL (plus1 _ _ _ hHL HQ.out))
            by_cases hbig : H = 0
            · have HV := Lib.hid (Hgd.out (q + 1) (by omega) (by omega))
              have HV2 : Hid (((q + 1 : Nat) : Int) = (L : Int)) := by show ((q + 1 : Nat) : Int) = L; omega
              subst hbig
              clear e1 hHL hr0 hrest
              as_aux_lemma =>
                go_wp2_with fail
                refine (Hc1.out _).mono ?_
                rintro e w2 ⟨rfl, hb2⟩
                have D := (Blk.new w1 68 #[Value.int IntKind.u64 h, Value.int IntKind.u64 l]).ext hb2
                have y0 := D.cell 0
                have y1 := D.cell 1
                simp only [List.getElem?_toArray, List.getElem?_cons_zero, List.getElem?_cons_succ] at y0 y1
                have x0 := D.frozen 0
                have x1 := D.frozen 1
                go_wp2_with fail
                go_ret2
                refine ⟨by rw [HV.out, HV2.out]; rfl, ?_⟩
                exact ((ext_trans (ext_alloc hbA _) hb2).setCell (by simpa using hsz) _).setCell (by simpa using hsz) _
            · have HV := Lib.hid (Hov.out (by omega))
              have hbigI : (0 : Int) < (H : Int) := by omega
              clear e1 hHL hr0 hrest
              as_aux_lemma =>
                go_wp2_with fail
                refine (Hc1.out _).mono ?_
                rintro e w2 ⟨rfl, hb2⟩
                have D := (Blk.new w1 68 #[Value.int IntKind.u64 h, Value.int IntKind.u64 l]).ext hb2
                have y0 := D.cell 0
                have y1 := D.cell 1
                simp only [List.getElem?_toArray, List.getElem?_cons_zero, List.getElem?_cons_succ] at y0 y1
                have x0 := D.frozen 0
                have x1 := D.frozen 1
                go_wp2_with fail
                go_ret2
                refine ⟨by rw [HV.out]; rfl, ?_⟩
                exact ((ext_trans (ext_alloc hbA _) hb2).setCell (by simpa using hsz) _).setCell (by simpa using hsz) _
          · have e1 : upN m q r c = 0 := by unfold upN; rw [if_neg hup]
            have hupf : upB m q r c = false := by simpa using hup
            rw [hupf]
            by_cases hbig : h = 0
            · have HV := Lib.hid (Hgd.out q (by omega) (by have := HQ.out; omega))
              have HV2 : Hid ((q : Int) = (l : Int)) := by have := HQ.out; show (q : Int) = l; omega
              subst hbig
              clear e1 hup hrest
              as_aux_lemma =>
                go_wp2_with fail
                go_ret2
                exact ⟨by rw [HV.out, HV2.out]; rfl, ext_alloc hbA _⟩
            · have HV := Lib.hid (Hov.out (by have := HQ.out; omega))
              have hbigI : (0 : Int) < (h : Int) := by omega
              clear e1 hup hrest
              as_aux_lemma =>
                go_wp2_with fail
                go_ret2
                exact ⟨by rw [HV.out]; rfl, ext_alloc hbA _⟩

end Go.Proofs.Ytjlfllhokhekbaa
