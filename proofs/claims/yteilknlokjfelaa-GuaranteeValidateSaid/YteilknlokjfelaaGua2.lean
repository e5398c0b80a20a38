/- The reference's look at a guarantee, totals, and what must be reserved. -/
import Derived.Test.YteilknlokjfelaaGua1
import Derived.Test.YteilknlokjfelaaEx2
import Derived.IntWalk
namespace Go.Proofs.Yteilknlokjfelaa
open Go.RowKit Go.Sort
set_option linter.unusedVariables false

set_option maxRecDepth 100000 in
set_option maxHeartbeats 1000000 in
theorem rValidG_any (w : World) (id rf lv : Int) (A : Option Addr) (cap : Nat) (us : List Rv) (hA : Rvs w w.heap.size A us) (hn : us.length ≤ maxLen) :
    Calls Try.prog 12 #[gv id rf lv A us.length cap] w fun e w' => e = .returned (.int .i64 (guE id rf lv us)) ∧ Below w.heap.size w w' := by
  unfold maxLen at hn
  unfold gv
  by_cases hh : headOk id rf lv
  · by_cases hl : 64 < us.length
    · have HV := Lib.hid (guE_len id rf lv us hh hl)
      obtain ⟨k1, k2, k3, k4, k5, k6⟩ := hh
      go_enter Try.func12, Try.ntmps12
      go_wp2_with fail
      go_ret
      exact ⟨by rw [HV.out]; rfl, (by repeat (first | exact Below.refl _ _ | assumption | refine ext_alloc ?_ _ | refine Below.drew ?_ | refine drewN_below ?_ _ | refine ext_trans ?_ (by assumption) | refine Below.alloc ?_ ?_ _ | refine Below.setCell ?_ ?_ _ | omega | (simp <;> omega)))⟩
    · have HH := Lib.hid hh
      obtain ⟨k1, k2, k3, k4, k5, k6⟩ := hh
      have hd : decide ((64 : Int) < us.length) = false := by simp; omega
      have hl2 : (us.length : Int) ≤ 64 := by omega
      have HU := Lib.hid (guE_use id rf lv us HH.out hl)
      have HO := Lib.hid (guE_ord id rf lv us HH.out hl)
      have HS := Lib.hid (guE_sum id rf lv us HH.out hl)
      have hA1 : Rvs _ _ A us := RowsW.ext hA (below_alloc_refl w (Obj.cells #[.int .i64 id, .int .i64 rf, .int .i64 lv, .slice A us.length cap] 25))
      go_enter Try.func12, Try.ntmps12
      go_wp2_with fail
      have hk0 : Blk (w.alloc (Obj.cells #[.int .i64 id, .int .i64 rf, .int .i64 lv, .slice A us.length cap] 25)) w.heap.size 25 #[.int .i64 id, .int .i64 rf, .int .i64 lv, .slice A us.length cap] := Blk.new w _ _
      have hbw0 := below_alloc_refl w (Obj.cells #[.int .i64 id, .int .i64 rf, .int .i64 lv, .slice A us.length cap] 25)
      generalize w.alloc (Obj.cells #[.int .i64 id, .int .i64 rf, .int .i64 lv, .slice A us.length cap] 25) = W0 at *
      go_loopw [2, 3, 4, 5] (fun r s i p wr => ∃ j : Nat, j ≤ us.length ∧ i = .int .i64 j ∧ s = .int .i64 (sumA (us.take j)) ∧ Hid (∀ q, q < j → uErr us q = 0) ∧ Below W0.heap.size W0 wr) (fun _ _ i _ _ => us.length - (intOf i).toNat)
      case atStart => exact ⟨0, by omega, rfl, rfl, Lib.hid (fun _ h => absurd h (by omega)), Below.refl _ _⟩
      case round =>
        obtain ⟨j, hj, rfl, rfl, HL, hbl⟩ := hrel
        obtain ⟨y0, y1, y2, y3⟩ : wr.cell? ⟨w.heap.size, 0, none⟩ = some (.int .i64 id) ∧ wr.cell? ⟨w.heap.size, 1, none⟩ = some (.int .i64 rf) ∧ wr.cell? ⟨w.heap.size, 2, none⟩ = some (.int .i64 lv) ∧ wr.cell? ⟨w.heap.size, 3, none⟩ = some (.slice A us.length cap) :=
          ⟨(hk0.ext hbl).cell 0, (hk0.ext hbl).cell 1, (hk0.ext hbl).cell 2, (hk0.ext hbl).cell 3⟩
        have hwlt : w.heap.size < wr.heap.size := (hk0.ext hbl).lt
        by_cases hlt : j < us.length
        · obtain ⟨ad, hA', hB, c0, c1⟩ := Rvs.at_ (RowsW.below hA1 hbl) hlt
          have hx : Hid (us[j]? = some us[j]) := Lib.hid (by simp [hlt])
          have HS1 := Lib.hid (sumA_take us j hlt)
          have hin : ∀ x ∈ us.take j, 0 ≤ x.a ∧ x.a ≤ 1000000000000 := by
            intro x hx
            obtain ⟨q, hq, rfl⟩ := List.getElem_of_mem hx
            rw [List.length_take] at hq
            have h0 := HL.out q (by omega)
            rw [List.getElem_take]
            by_cases hr : RvIn (us[q]'(by omega))
            · exact ⟨hr.2.2.1, hr.2.2.2⟩
            · rw [uErr_out us _ q (List.getElem?_eq_getElem (by omega)) hr] at h0; cases h0
          obtain ⟨s0, s1⟩ := sumA_rng (us.take j) hin
          rw [List.length_take] at s1
          have s2 : sumA (us.take j) ≤ 64000000000000 := by omega
          clear hin s1
          have hsw := hbl.size
          subst hA'
          generalize us[j] = x at *
          generalize sumA (us.take j) = s at *
          by_cases hr : RvIn x
          · have HN := Lib.hid (uErr_in us x j hx.out hr)
            obtain ⟨r1, r2, r3, r4⟩ := hr
            go_wp2_with fail
            go_roundw
            case rel =>
              refine ⟨j + 1, by omega, by go_num, by rw [HS1.out], Lib.hid (fun q hq => ?_), (by repeat (first | exact Below.refl _ _ | assumption | refine ext_alloc ?_ _ | refine Below.drew ?_ | refine drewN_below ?_ _ | refine ext_trans ?_ (by assumption) | refine Below.alloc ?_ ?_ _ | refine Below.setCell ?_ ?_ _ | omega | (simp <;> omega)))⟩
              by_cases hqj : q < j
              · exact HL.out q hqj
              · obtain rfl : q = j := by omega
                exact HN.out
            case measure => simp [intOf]; omega
          · have HN : Hid (guE id rf lv us = 2) := by
              have e1 := uErr_out us x j hx.out hr
              exact Lib.hid (HU.out (by rw [firstE_at (uErr us) _ j hlt HL.out (by rw [e1]; decide), e1]; decide))
            unfold RvIn at hr
            go_wp2_with fail
            all_goals
              go_ret
              refine ⟨by rw [HN.out]; rfl, ?_⟩
              exact hbw0.trans (Below.mono (by repeat (first | exact Below.refl _ _ | assumption | refine ext_alloc ?_ _ | refine Below.drew ?_ | refine drewN_below ?_ _ | refine ext_trans ?_ (by assumption) | refine Below.alloc ?_ ?_ _ | refine Below.setCell ?_ ?_ _ | omega | (simp <;> omega))) hbw0.size)
        · have hu0 : firstE (uErr us) 0 us.length = 0 := firstE_ok _ _ (fun q hq => HL.out q (by omega))
          have HO2 := Lib.hid (HO.out hu0)
          have HS2 := Lib.hid (HS.out hu0)
          have HR := Lib.hid (uErr_all us hu0)
          obtain rfl : j = us.length := by omega
          clear hu0 HL
          rw [List.take_length]
          have hsum0 := sumA_rng us (fun x hx => ⟨(HR.out x hx).2.2.1, (HR.out x hx).2.2.2⟩)
          generalize hSS : sumA us = SS at *
          go_wp2_with fail
          obtain ⟨W1, hW1⟩ : ∃ W1 : World, W1 = wr := ⟨_, rfl⟩
          subst hW1
          go_loopw [2, 6] (fun r i wr => ∃ j : Nat, (j ≤ us.length ∨ us.length = 0) ∧ 1 ≤ j ∧ (us.length = 0 → j = 1) ∧ i = .int .i64 j ∧ Hid (∀ q, q + 1 < j → oErr us q = 0) ∧ ∃ q, wr = W1.drewN q) (fun _ i _ => us.length + 1 - (intOf i).toNat)
          case atStart => exact ⟨1, by omega, by omega, by omega, rfl, Lib.hid (fun _ h => absurd h (by omega)), 0, rfl⟩
          case round =>
            obtain ⟨i, hi, hi1, hi0, rfl, HL, dq, rfl⟩ := hrel
            by_cases hlt2 : i < us.length
            · obtain ⟨k, rfl⟩ : ∃ k, i = k + 1 := ⟨i - 1, by omega⟩
              obtain ⟨ad, hA', hB, c0, c1⟩ := Rvs.at_ (RowsW.below hA1 hbl) hlt2
              obtain ⟨ad2, hA2, hB2, d0, d1⟩ := Rvs.at_ (RowsW.below hA1 hbl) (k := k) (by omega)
              rw [hA'] at hA2
              obtain rfl := Option.some.inj hA2
              have HN := Lib.hid (oErr_at us us[k] us[k + 1] k (by rw [List.getElem?_eq_getElem]) (by rw [List.getElem?_eq_getElem]))
              subst hA'
              generalize us[k + 1] = x at *
              generalize us[k]'(by omega) = y at *
              by_cases hm : y.m < x.m
              · rw [if_pos hm] at HN
                go_wp2_with fail
                go_quiet (fail)
                go_wp2_with fail
                go_roundw
                case rel =>
                  refine ⟨k + 2, by omega, by omega, by omega, by go_num, Lib.hid (fun q hq => ?_), _, rfl⟩
                  by_cases hqj : q < k
                  · exact HL.out q (by omega)
                  · obtain rfl : q = k := by omega
                    exact HN.out
                case measure => simp [intOf]; omega
              · rw [if_neg hm] at HN
                have HV : Hid (guE id rf lv us = 9) := Lib.hid (HO2.out (by rw [firstE_at (oErr us) _ k (by omega) (fun q hq => HL.out q (by omega)) (by rw [HN.out]; decide), HN.out]; decide))
                go_wp2_with fail
                go_quiet (fail)
                go_wp2_with fail
                go_ret
                refine ⟨by rw [HV.out]; rfl, ?_⟩
                exact drewN_below (drewN_below (hbw0.trans (Below.mono hbl hbw0.size)) dq) _
            · have ho0 : firstE (oErr us) 0 (us.length - 1) = 0 := firstE_ok _ _ (fun q hq => HL.out q (by omega))
              have HV := Lib.hid (HS2.out ho0)
              clear ho0 HL HO2 HS2
              by_cases hsum : rf < SS
              · rw [if_pos hsum] at HV
                go_wp2_with fail
                go_ret
                refine ⟨by rw [HV.out]; rfl, ?_⟩
                exact drewN_below (hbw0.trans (Below.mono hbl hbw0.size)) dq
              · rw [if_neg hsum] at HV
                go_wp2_with fail
                go_ret
                refine ⟨by rw [HV.out]; rfl, ?_⟩
                exact drewN_below (hbw0.trans (Below.mono hbl hbw0.size)) dq
  · have HV := Lib.hid (guE_head id rf lv us hh)
    unfold headOk at hh
    go_enter Try.func12, Try.ntmps12
    go_wp2_with fail
    all_goals
      go_ret
      exact ⟨by rw [HV.out]; rfl, (by repeat (first | exact Below.refl _ _ | assumption | refine ext_alloc ?_ _ | refine Below.drew ?_ | refine drewN_below ?_ _ | refine ext_trans ?_ (by assumption) | refine Below.alloc ?_ ?_ _ | refine Below.setCell ?_ ?_ _ | omega | (simp <;> omega)))⟩

def guT (id rf lv : Int) (us : List Rv) : Int := if guE id rf lv us = 0 then sumA us else 0
theorem guE_zero {id rf lv : Int} {us : List Rv} (h : guE id rf lv us = 0) : headOk id rf lv ∧ us.length ≤ 64 ∧ (∀ x ∈ us, RvIn x) ∧ (∀ k, k < us.length - 1 → oErr us k = 0) ∧ sumA us ≤ rf := by
  unfold guE at h
  by_cases h1 : headOk id rf lv
  · rw [if_neg (by simpa using h1)] at h
    by_cases h2 : 64 < us.length
    · rw [if_pos h2] at h; cases h
    · rw [if_neg h2] at h
      by_cases h3 : firstE (uErr us) 0 us.length = 0
      · rw [if_neg (by simpa using h3)] at h
        by_cases h4 : firstE (oErr us) 0 (us.length - 1) = 0
        · rw [if_neg (by simpa using h4)] at h
          by_cases h5 : rf < sumA us
          · rw [if_pos h5] at h; cases h
          · exact ⟨h1, by omega, uErr_all us h3, firstE_zero_ _ _ h4, by omega⟩
        · rw [if_pos h4] at h; cases h
      · rw [if_pos h3] at h; cases h
  · rw [if_pos h1] at h; cases h

set_option maxHeartbeats 400000 in
theorem guTotal_any (w : World) (id rf lv : Int) (A : Option Addr) (cap : Nat) (us : List Rv) (hA : Rvs w w.heap.size A us) (hn : us.length ≤ maxLen) :
    Calls Try.prog 13 #[gv id rf lv A us.length cap] w fun e w' => e = .returned (.int .i64 (guT id rf lv us)) ∧ Below w.heap.size w w' := by
  have hA1 : Rvs _ _ A us := RowsW.ext hA (below_alloc_refl w (Obj.cells #[.int .i64 id, .int .i64 rf, .int .i64 lv, .slice A us.length cap] 25))
  have HV := Lib.hid (guValidate_any _ id rf lv A cap us hA1 hn)
  have hk0 : Blk (w.alloc (Obj.cells #[.int .i64 id, .int .i64 rf, .int .i64 lv, .slice A us.length cap] 25)) w.heap.size 25 #[.int .i64 id, .int .i64 rf, .int .i64 lv, .slice A us.length cap] := Blk.new w _ _
  unfold gv at HV ⊢
  by_cases h0 : guE id rf lv us = 0
  · have HT : Hid (guT id rf lv us = sumA us) := if_pos h0
    obtain ⟨_, hl, hr, _, _⟩ := guE_zero h0
    have hra : ∀ x ∈ us, 0 ≤ x.a ∧ x.a ≤ 1000000000000 := fun x hx => ⟨(hr x hx).2.2.1, (hr x hx).2.2.2⟩
    have HR := Lib.hid fun W (h : Rvs W W.heap.size A us) => reserved_any W A cap us h (by omega) hra
    rw [h0] at HV
    clear h0 hr hra
    go_enter Try.func13, Try.ntmps13
    go_wp2_with fail
    refine HV.out.mono ?_
    rintro e w1 ⟨rfl, hb1⟩
    have y3 := (hk0.ext hb1).cell 3
    simp only [List.getElem?_toArray, List.getElem?_cons_zero, List.getElem?_cons_succ] at y3
    go_wp2_with fail
    refine (HR.out _ (RowsW.ext hA1 hb1)).mono ?_
    rintro e w2 ⟨rfl, hb2⟩
    go_wp2_with fail
    go_ret
    exact ⟨by rw [HT.out]; rfl, (by repeat (first | exact Below.refl _ _ | assumption | refine ext_alloc ?_ _ | refine Below.drew ?_ | refine drewN_below ?_ _ | refine ext_trans ?_ (by assumption) | refine Below.alloc ?_ ?_ _ | refine Below.setCell ?_ ?_ _ | omega | (simp <;> omega)))⟩
  · have HT : Hid (guT id rf lv us = 0) := if_neg h0
    have hb : (guE id rf lv us != 0) = true := by simpa using h0
    clear h0
    go_enter Try.func13, Try.ntmps13
    go_wp2_with fail
    refine HV.out.mono ?_
    rintro e w1 ⟨rfl, hb1⟩
    go_wp2_with fail
    go_ret
    exact ⟨by rw [HT.out]; rfl, (by repeat (first | exact Below.refl _ _ | assumption | refine ext_alloc ?_ _ | refine Below.drew ?_ | refine drewN_below ?_ _ | refine ext_trans ?_ (by assumption) | refine Below.alloc ?_ ?_ _ | refine Below.setCell ?_ ?_ _ | omega | (simp <;> omega)))⟩

set_option maxHeartbeats 400000 in
theorem rTotal_any (w : World) (id rf lv : Int) (A : Option Addr) (cap : Nat) (us : List Rv) (hA : Rvs w w.heap.size A us) (hn : us.length ≤ maxLen) :
    Calls Try.prog 14 #[gv id rf lv A us.length cap] w fun e w' => e = .returned (.int .i64 (guT id rf lv us)) ∧ Below w.heap.size w w' := by
  have hA1 : Rvs _ _ A us := RowsW.ext hA (below_alloc_refl w (Obj.cells #[.int .i64 id, .int .i64 rf, .int .i64 lv, .slice A us.length cap] 25))
  have HV := Lib.hid (rValidG_any _ id rf lv A cap us hA1 hn)
  have hk0 : Blk (w.alloc (Obj.cells #[.int .i64 id, .int .i64 rf, .int .i64 lv, .slice A us.length cap] 25)) w.heap.size 25 #[.int .i64 id, .int .i64 rf, .int .i64 lv, .slice A us.length cap] := Blk.new w _ _
  unfold gv at HV ⊢
  by_cases h0 : guE id rf lv us = 0
  · have HT : Hid (guT id rf lv us = sumA us) := if_pos h0
    obtain ⟨_, hl, hr, _, _⟩ := guE_zero h0
    have HR := Lib.hid fun x hx => And.intro (hr x hx).2.2.1 (hr x hx).2.2.2
    rw [h0] at HV
    clear h0 hr
    go_enter Try.func14, Try.ntmps14
    go_wp2_with fail
    refine HV.out.mono ?_
    rintro e w1 ⟨rfl, hb1⟩
    have y3 := (hk0.ext hb1).cell 3
    simp only [List.getElem?_toArray, List.getElem?_cons_zero, List.getElem?_cons_succ] at y3
    go_wp2_with fail
    clear HV
    go_loop [3, 4] (fun s i => ∃ j : Nat, j ≤ us.length ∧ i = .int .i64 j ∧ s = .int .i64 (sumA (us.take j))) (fun _ i => us.length - (intOf i).toNat)
    case atStart => exact ⟨0, by omega, rfl, rfl⟩
    case round =>
      obtain ⟨j, hj, rfl, rfl⟩ := hrel
      by_cases hlt : j < us.length
      · obtain ⟨ad, hA', hB, c0, c1⟩ := Rvs.at_ (RowsW.ext hA1 hb1) hlt
        obtain ⟨s0, s1⟩ := sumA_rng (us.take j) (fun x hx => HR.out x (List.mem_of_mem_take hx))
        rw [List.length_take] at s1
        have s2 : sumA (us.take j) ≤ 64000000000000 := by omega
        obtain ⟨b0, b1⟩ := HR.out us[j] (List.getElem_mem _)
        have HS := Lib.hid (sumA_take us j hlt)
        subst hA'
        generalize us[j] = x at *
        generalize sumA (us.take j) = s at *
        go_wp2_with fail
        go_round
        case rel => exact ⟨j + 1, by omega, by go_num, by rw [HS.out]⟩
        case measure => simp [intOf]; omega
      · obtain rfl : j = us.length := by omega
        go_wp2_with fail
        go_ret
        exact ⟨by rw [HT.out]; rfl, (by repeat (first | exact Below.refl _ _ | assumption | refine ext_alloc ?_ _ | refine Below.drew ?_ | refine drewN_below ?_ _ | refine ext_trans ?_ (by assumption) | refine Below.alloc ?_ ?_ _ | refine Below.setCell ?_ ?_ _ | omega | (simp <;> omega)))⟩
  · have HT : Hid (guT id rf lv us = 0) := if_neg h0
    have hb : (guE id rf lv us != 0) = true := by simpa using h0
    clear h0
    go_enter Try.func14, Try.ntmps14
    go_wp2_with fail
    refine HV.out.mono ?_
    rintro e w1 ⟨rfl, hb1⟩
    go_wp2_with fail
    go_ret
    exact ⟨by rw [HT.out]; rfl, (by repeat (first | exact Below.refl _ _ | assumption | refine ext_alloc ?_ _ | refine Below.drew ?_ | refine drewN_below ?_ _ | refine ext_trans ?_ (by assumption) | refine Below.alloc ?_ ?_ _ | refine Below.setCell ?_ ?_ _ | omega | (simp <;> omega)))⟩

/-- What must be reserved (P23.2). -/
def reqS (lv a : Int) : Int × Int := if lv < 0 ∨ 1000000 < lv ∨ a < 0 ∨ 1000000000000 < a then (0, 2) else ((a * lv + 999999) / 1000000, 0)
theorem reqS_bad (lv a : Int) (h : lv < 0 ∨ 1000000 < lv ∨ a < 0 ∨ 1000000000000 < a) : reqS lv a = (0, 2) := if_pos h
theorem reqS_ok (lv a : Int) (h : ¬ (lv < 0 ∨ 1000000 < lv ∨ a < 0 ∨ 1000000000000 < a)) : reqS lv a = ((a * lv + 999999) / 1000000, 0) := if_neg h
def pairV_ (u : Int × Int) : Value := .tuple #[.int .i64 u.1, .int .i64 u.2]
theorem prod_rng (a lv : Nat) (ha : a ≤ 1000000000000) (hl : lv ≤ 1000000) : a * lv ≤ 1000000000000000000 := Nat.mul_le_mul ha hl
theorem ceil_eq (N : Nat) : N / 1000000 + upN 1 (N / 1000000 : Nat) (N % 1000000 : Nat) 1000000 = (N + 999999) / 1000000 := by
  unfold upN
  by_cases h : 0 < N % 1000000
  · rw [if_pos (by show decide _ = true; simp; omega)]; omega
  · rw [if_neg (by show ¬ decide _ = true; simp; omega)]; omega

set_option maxHeartbeats 400000 in
theorem required_any (id rf lv a : Int) (A : Option Addr) (n cap : Nat) : Fn 17 #[gv id rf lv A n cap, .int .i64 a] (pairV_ (reqS lv a)) := by
  intro w
  unfold gv
  by_cases h : lv < 0 ∨ 1000000 < lv ∨ a < 0 ∨ 1000000000000 < a
  · have HV := Lib.hid (reqS_bad lv a h)
    go_enter Try.func17, Try.ntmps17
    go_wp2_with fail
    all_goals
      go_ret2
      exact ⟨by rw [HV.out]; rfl, (by repeat (first | exact Below.refl _ _ | assumption | refine ext_alloc ?_ _ | refine Below.drew ?_ | refine drewN_below ?_ _ | refine ext_trans ?_ (by assumption) | refine Below.alloc ?_ ?_ _ | refine Below.setCell ?_ ?_ _ | omega | (simp <;> omega)))⟩
  · have HV := Lib.hid (reqS_ok lv a h)
    obtain ⟨L, rfl⟩ : ∃ L : Nat, lv = L := ⟨lv.toNat, by omega⟩
    obtain ⟨N, rfl⟩ : ∃ N : Nat, a = N := ⟨a.toNat, by omega⟩
    obtain ⟨k1, k2⟩ : (L : Int) ≤ 1000000 ∧ (N : Int) ≤ 1000000000000 := by omega
    have hp := prod_rng N L (by omega) (by omega)
    have H : Fn 35 #[.int .u64 N, .int .u64 L, .int .u64 (1000000 : Nat), .int .i64 1] _ := exMulDiv_any N L 1000000 1 (by omega) (by omega) (by omega)
    have e := divV_ok 1 (N * L) 1000000 ((N * L + 999999) / 1000000) (by omega) (ceil_eq (N * L)) (by omega)
    have H2 := Lib.hid (H.val e)
    have ee : ((N : Int) * L + 999999) / 1000000 = (((N * L + 999999) / 1000000 : Nat) : Int) := by rw [← Int.natCast_mul]; omega
    rw [ee] at HV
    have hq : (((N * L + 999999) / 1000000 : Nat) : Int) ≤ 1000000000001 := by omega
    generalize (N * L + 999999) / 1000000 = q at *
    clear hp H e ee h
    go_enter Try.func17, Try.ntmps17
    go_wp2_with fail
    refine (H2.out _).mono ?_
    rintro e w1 ⟨rfl, hb1⟩
    go_wp2_with fail
    go_ret2
    exact ⟨by rw [HV.out]; rfl, (by repeat (first | exact Below.refl _ _ | assumption | refine ext_alloc ?_ _ | refine Below.drew ?_ | refine drewN_below ?_ _ | refine ext_trans ?_ (by assumption) | refine Below.alloc ?_ ?_ _ | refine Below.setCell ?_ ?_ _ | omega | (simp <;> omega)))⟩

set_option maxHeartbeats 400000 in
theorem rRequired_any (id rf lv a : Int) (A : Option Addr) (n cap : Nat) : Fn 18 #[gv id rf lv A n cap, .int .i64 a] (pairV_ (reqS lv a)) := by
  intro w
  unfold gv
  by_cases h : lv < 0 ∨ 1000000 < lv ∨ a < 0 ∨ 1000000000000 < a
  · have HV := Lib.hid (reqS_bad lv a h)
    go_enter Try.func18, Try.ntmps18
    go_wp2_with fail
    all_goals
      go_ret2
      exact ⟨by rw [HV.out]; rfl, (by repeat (first | exact Below.refl _ _ | assumption | refine ext_alloc ?_ _ | refine Below.drew ?_ | refine drewN_below ?_ _ | refine ext_trans ?_ (by assumption) | refine Below.alloc ?_ ?_ _ | refine Below.setCell ?_ ?_ _ | omega | (simp <;> omega)))⟩
  · have HV := Lib.hid (reqS_ok lv a h)
    obtain ⟨L, rfl⟩ : ∃ L : Nat, lv = L := ⟨lv.toNat, by omega⟩
    obtain ⟨N, rfl⟩ : ∃ N : Nat, a = N := ⟨a.toNat, by omega⟩
    obtain ⟨k1, k2⟩ : (L : Int) ≤ 1000000 ∧ (N : Int) ≤ 1000000000000 := by omega
    have hp := prod_rng N L (by omega) (by omega)
    have hp2 : (N : Int) * L ≤ 1000000000000000000 := by rw [← Int.natCast_mul]; omega
    have hp0 : (0 : Int) ≤ (N : Int) * L := Int.mul_nonneg (by omega) (by omega)
    have ew : wrap64 ((N : Int) * L) = (N : Int) * L := IntWalk.wrap64_in _ (by omega)
    clear hp h
    go_enter Try.func18, Try.ntmps18
    go_wp2_with fail
    go_ret2
    refine ⟨?_, (by repeat (first | exact Below.refl _ _ | assumption | refine ext_alloc ?_ _ | refine Below.drew ?_ | refine drewN_below ?_ _ | refine ext_trans ?_ (by assumption) | refine Below.alloc ?_ ?_ _ | refine Below.setCell ?_ ?_ _ | omega | (simp <;> omega)))⟩
    rw [HV.out]
    generalize (N : Int) * L = P at *
    simp [pairV_]
    omega

end Go.Proofs.Yteilknlokjfelaa
