/- Guarantees: what is valid. -/
import Derived.Test.YteilknlokjfelaaAppend
namespace Go.Proofs.Yteilknlokjfelaa
open Go.RowKit Go.Sort
set_option linter.unusedVariables false

structure Rv where
  m : Int
  a : Int
def Rv.cells (x : Rv) : List Value := [.int .i64 x.m, .int .i64 x.a]
def Rvs (w : World) (B : Nat) (A : Option Addr) (us : List Rv) : Prop := RowsW w B A 2 (us.map Rv.cells)
theorem Rvs.at_ {w : World} {B : Nat} {A : Option Addr} {xs : List Rv} (h : Rvs w B A xs) {k : Nat} (hk : k < xs.length) :
    ∃ (ad : Addr), A = some ad ∧ (ad.add (k * 2)).block < B ∧ w.cell? (ad.add (k * 2)) = some (.int .i64 xs[k].m) ∧ w.cell? ⟨(ad.add (k * 2)).block, (ad.add (k * 2)).off + 1, none⟩ = some (.int .i64 xs[k].a) := by
  obtain ⟨ad, e, hb, h0, h1⟩ := RowsW.row h (k := k) (r := xs[k].cells) (by simp [hk])
  exact ⟨ad, e, hb, h0 _ rfl, h1 0 _ rfl⟩

def gv (id rf lv : Int) (A : Option Addr) (n c : Nat) : Value := .agg #[.int .i64 id, .int .i64 rf, .int .i64 lv, .slice A n c]

def RvIn (x : Rv) : Prop := 1 ≤ x.m ∧ x.m ≤ 1000000 ∧ 0 ≤ x.a ∧ x.a ≤ 1000000000000
instance (x : Rv) : Decidable (RvIn x) := by unfold RvIn; exact inferInstance
def sumA (us : List Rv) : Int := (us.map Rv.a).sum
theorem sumA_snoc (us : List Rv) (x : Rv) : sumA (us ++ [x]) = sumA us + x.a := by simp [sumA]
theorem sumA_take (us : List Rv) (k : Nat) (h : k < us.length) : sumA (us.take (k + 1)) = sumA (us.take k) + us[k].a := by
  rw [List.take_succ_eq_append_getElem h, sumA_snoc]
theorem sumA_rng : ∀ (us : List Rv), (∀ x ∈ us, 0 ≤ x.a ∧ x.a ≤ 1000000000000) → 0 ≤ sumA us ∧ sumA us ≤ 1000000000000 * us.length
  | [], _ => by simp [sumA]
  | x :: us, h => by
    have h1 := h x (by simp)
    have h2 := sumA_rng us (fun y hy => h y (by simp [hy]))
    have e : sumA (x :: us) = x.a + sumA us := by simp [sumA]
    rw [e, List.length_cons]
    omega

def uErr (us : List Rv) (i : Nat) : Int := match us[i]? with | none => 0 | some x => if RvIn x then 0 else 2
def oErr (us : List Rv) (i : Nat) : Int := match us[i]?, us[i + 1]? with | some x, some y => if x.m < y.m then 0 else 9 | _, _ => 0
def headOk (id rf lv : Int) : Prop := 1 ≤ id ∧ id ≤ 1000000 ∧ 0 ≤ rf ∧ rf ≤ 1000000000000 ∧ 0 ≤ lv ∧ lv ≤ 1000000
instance (id rf lv : Int) : Decidable (headOk id rf lv) := by unfold headOk; exact inferInstance
/-- The error of a guarantee (P23.1). -/
def guE (id rf lv : Int) (us : List Rv) : Int :=
  if ¬ headOk id rf lv then 2 else if 64 < us.length then 8 else if firstE (uErr us) 0 us.length ≠ 0 then 2 else if firstE (oErr us) 0 (us.length - 1) ≠ 0 then 9 else if rf < sumA us then 16 else 0

set_option maxHeartbeats 400000 in
theorem reserved_any (w : World) (A : Option Addr) (cap : Nat) (us : List Rv) (hA : Rvs w w.heap.size A us) (hn : us.length ≤ 1000) (hb : ∀ x ∈ us, 0 ≤ x.a ∧ x.a ≤ 1000000000000) :
    Calls Try.prog 34 #[.slice A us.length cap] w fun e w' => e = .returned (.int .i64 (sumA us)) ∧ Below w.heap.size w w' := by
  go_enter Try.func34, Try.ntmps34
  go_wp2
  go_loopw [3, 5, 8] (fun s p i wr => ∃ j : Nat, j ≤ us.length ∧ i = .int .i64 j ∧ s = .int .i64 (sumA (us.take j)) ∧ Below w.heap.size w wr) (fun _ _ i _ => us.length - (intOf i).toNat)
  case atStart => exact ⟨0, by omega, rfl, rfl, Below.refl _ _⟩
  case round =>
    obtain ⟨j, hj, rfl, rfl, hbl⟩ := hrel
    by_cases hlt : j < us.length
    · obtain ⟨ad, hA', hB, c0, c1⟩ := Rvs.at_ (RowsW.below hA hbl) hlt
      obtain ⟨s0, s1⟩ := sumA_rng (us.take j) (fun x hx => hb x (List.mem_of_mem_take hx))
      rw [List.length_take] at s1
      have s2 : sumA (us.take j) ≤ 1000000000000000 := by omega
      obtain ⟨b0, b1⟩ := hb us[j] (List.getElem_mem _)
      have HS := Lib.hid (sumA_take us j hlt)
      subst hA'
      generalize us[j] = x at *
      generalize sumA (us.take j) = s at *
      have hsw := hbl.size
      go_wp2
      go_roundw
      case rel => exact ⟨j + 1, by omega, by go_num, by rw [HS.out], (by repeat (first | exact Below.refl _ _ | assumption | refine ext_alloc ?_ _ | refine Below.drew ?_ | refine drewN_below ?_ _ | refine ext_trans ?_ (by assumption) | refine Below.alloc ?_ ?_ _ | refine Below.setCell ?_ ?_ _ | omega | (simp <;> omega)))⟩
      case measure => simp [intOf]; omega
    · obtain rfl : j = us.length := by omega
      go_wp2
      go_ret
      exact ⟨by rw [List.take_length]; rfl, hbl⟩

theorem uErr_in (us : List Rv) (x : Rv) (i : Nat) (h : us[i]? = some x) (hr : RvIn x) : uErr us i = 0 := by unfold uErr; rw [h]; exact if_pos hr
theorem uErr_out (us : List Rv) (x : Rv) (i : Nat) (h : us[i]? = some x) (hr : ¬ RvIn x) : uErr us i = 2 := by unfold uErr; rw [h]; exact if_neg hr
theorem oErr_at (us : List Rv) (x y : Rv) (i : Nat) (h : us[i]? = some x) (h' : us[i + 1]? = some y) : oErr us i = if x.m < y.m then 0 else 9 := by unfold oErr; rw [h, h']
theorem firstE_zero_ (f : Nat → Int) (n : Nat) (h : firstE f 0 n = 0) : ∀ k, k < n → f k = 0 := by
  have key : ∀ m k, k < m → k < n → f k = 0 := by
    intro m
    induction m with
    | zero => intro k h1; omega
    | succ m ih =>
      intro k h1 h2
      by_cases hf : f k = 0
      · exact hf
      · have := firstE_at f n k h2 (fun j hj => ih j (by omega) (by omega)) hf
        omega
  intro k hk
  exact key (k + 1) k (by omega) hk
theorem uErr_all (us : List Rv) (h : firstE (uErr us) 0 us.length = 0) : ∀ x ∈ us, RvIn x := by
  intro x hx
  obtain ⟨k, hk, rfl⟩ := List.getElem_of_mem hx
  have h0 := firstE_zero_ _ _ h k hk
  by_cases hr : RvIn us[k]
  · exact hr
  · rw [uErr_out us _ k (List.getElem?_eq_getElem hk) hr] at h0; cases h0

theorem guE_head (id rf lv : Int) (us : List Rv) (h : ¬ headOk id rf lv) : guE id rf lv us = 2 := if_pos h
theorem guE_len (id rf lv : Int) (us : List Rv) (h : headOk id rf lv) (hl : 64 < us.length) : guE id rf lv us = 8 := by unfold guE; rw [if_neg (by simpa using h), if_pos hl]
theorem guE_use (id rf lv : Int) (us : List Rv) (h : headOk id rf lv) (hl : ¬ 64 < us.length) (hu : firstE (uErr us) 0 us.length ≠ 0) : guE id rf lv us = 2 := by unfold guE; rw [if_neg (by simpa using h), if_neg hl, if_pos hu]
theorem guE_ord (id rf lv : Int) (us : List Rv) (h : headOk id rf lv) (hl : ¬ 64 < us.length) (hu : firstE (uErr us) 0 us.length = 0) (ho : firstE (oErr us) 0 (us.length - 1) ≠ 0) : guE id rf lv us = 9 := by
  unfold guE; rw [if_neg (by simpa using h), if_neg hl, if_neg (by simpa using hu), if_pos ho]
theorem guE_sum (id rf lv : Int) (us : List Rv) (h : headOk id rf lv) (hl : ¬ 64 < us.length) (hu : firstE (uErr us) 0 us.length = 0) (ho : firstE (oErr us) 0 (us.length - 1) = 0) : guE id rf lv us = if rf < sumA us then 16 else 0 := by
  unfold guE; rw [if_neg (by simpa using h), if_neg hl, if_neg (by simpa using hu), if_neg (by simpa using ho)]

set_option maxRecDepth 100000 in
set_option maxHeartbeats 1000000 in
theorem guValidate_any (w : World) (id rf lv : Int) (A : Option Addr) (cap : Nat) (us : List Rv) (hA : Rvs w w.heap.size A us) (hn : us.length ≤ maxLen) :
    Calls Try.prog 11 #[gv id rf lv A us.length cap] w fun e w' => e = .returned (.int .i64 (guE id rf lv us)) ∧ Below w.heap.size w w' := by
  unfold maxLen at hn
  unfold gv
  by_cases hh : headOk id rf lv
  · by_cases hl : 64 < us.length
    · have HV := Lib.hid (guE_len id rf lv us hh hl)
      obtain ⟨k1, k2, k3, k4, k5, k6⟩ := hh
      go_enter Try.func11, Try.ntmps11
      go_wp2_with fail
      go_ret
      exact ⟨by rw [HV.out]; rfl, (by repeat (first | exact Below.refl _ _ | assumption | refine ext_alloc ?_ _ | refine Below.drew ?_ | refine drewN_below ?_ _ | refine ext_trans ?_ (by assumption) | refine Below.alloc ?_ ?_ _ | refine Below.setCell ?_ ?_ _ | omega | (simp <;> omega)))⟩
    · have HH := Lib.hid hh
      obtain ⟨k1, k2, k3, k4, k5, k6⟩ := hh
      have hd : decide ((64 : Int) < us.length) = false := by simp; omega
      have hl2 : (us.length : Int) ≤ 64 := by omega
      have HU := Lib.hid (guE_use id rf lv us HH.out hl)
      have HO := Lib.hid (guE_ord id rf lv us HH.out hl)
      have HS := Lib.hid (guE_sum id rf lv us HH.out hl)
      have hA1 : Rvs _ _ A us := RowsW.ext hA (below_alloc_refl w (Obj.cells #[.int .i64 id, .int .i64 rf, .int .i64 lv, .slice A us.length cap] 25))
      go_enter Try.func11, Try.ntmps11
      go_wp2_with fail
      have hk0 : Blk (w.alloc (Obj.cells #[.int .i64 id, .int .i64 rf, .int .i64 lv, .slice A us.length cap] 25)) w.heap.size 25 #[.int .i64 id, .int .i64 rf, .int .i64 lv, .slice A us.length cap] := Blk.new w _ _
      have hbw0 := below_alloc_refl w (Obj.cells #[.int .i64 id, .int .i64 rf, .int .i64 lv, .slice A us.length cap] 25)
      generalize w.alloc (Obj.cells #[.int .i64 id, .int .i64 rf, .int .i64 lv, .slice A us.length cap] 25) = W0 at *
      go_loopw [2, 4, 41] (fun r p i wr => ∃ j : Nat, j ≤ us.length ∧ i = .int .i64 j ∧ Hid (∀ q, q < j → uErr us q = 0) ∧ Below W0.heap.size W0 wr) (fun _ _ i _ => us.length - (intOf i).toNat)
      case atStart => exact ⟨0, by omega, rfl, Lib.hid (fun _ h => absurd h (by omega)), Below.refl _ _⟩
      case round =>
        obtain ⟨j, hj, rfl, HL, hbl⟩ := hrel
        by_cases hlt : j < us.length
        · obtain ⟨ad, hA', hB, c0, c1⟩ := Rvs.at_ (RowsW.below hA1 hbl) hlt
          have hx : Hid (us[j]? = some us[j]) := Lib.hid (by simp [hlt])
          have hsw := hbl.size
          subst hA'
          generalize us[j] = x at *
          by_cases hr : RvIn x
          · have HN := Lib.hid (uErr_in us x j hx.out hr)
            obtain ⟨r1, r2, r3, r4⟩ := hr
            go_wp2_with fail
            go_roundw
            case rel =>
              refine ⟨j + 1, by omega, by go_num, Lib.hid (fun q hq => ?_), (by repeat (first | exact Below.refl _ _ | assumption | refine ext_alloc ?_ _ | refine Below.drew ?_ | refine drewN_below ?_ _ | refine ext_trans ?_ (by assumption) | refine Below.alloc ?_ ?_ _ | refine Below.setCell ?_ ?_ _ | omega | (simp <;> omega)))⟩
              by_cases hqj : q < j
              · exact HL.out q hqj
              · obtain rfl : q = j := by omega
                exact HN.out
            case measure => simp [intOf]; omega
          · have HN : Hid (guE id rf lv us = 2) := by
              have e1 := uErr_out us x j hx.out hr
              exact Lib.hid (HU.out (by rw [firstE_at (uErr us) _ j hlt HL.out (by rw [e1]; decide), e1]; decide))
            unfold RvIn at hr
            go_wp2_with fail
            all_goals
              go_ret
              refine ⟨by rw [HN.out]; rfl, ?_⟩
              exact hbw0.trans (Below.mono (by repeat (first | exact Below.refl _ _ | assumption | refine ext_alloc ?_ _ | refine Below.drew ?_ | refine drewN_below ?_ _ | refine ext_trans ?_ (by assumption) | refine Below.alloc ?_ ?_ _ | refine Below.setCell ?_ ?_ _ | omega | (simp <;> omega))) hbw0.size)
        · have hu0 : firstE (uErr us) 0 us.length = 0 := firstE_ok _ _ (fun q hq => HL.out q (by omega))
          have HO2 := Lib.hid (HO.out hu0)
          have HS2 := Lib.hid (HS.out hu0)
          have HR := Lib.hid (uErr_all us hu0)
          obtain rfl : j = us.length := by omega
          clear hu0 HL
          obtain ⟨y0, y1, y2, y3⟩ : wr.cell? ⟨w.heap.size, 0, none⟩ = some (.int .i64 id) ∧ wr.cell? ⟨w.heap.size, 1, none⟩ = some (.int .i64 rf) ∧ wr.cell? ⟨w.heap.size, 2, none⟩ = some (.int .i64 lv) ∧ wr.cell? ⟨w.heap.size, 3, none⟩ = some (.slice A us.length cap) :=
            ⟨(hk0.ext hbl).cell 0, (hk0.ext hbl).cell 1, (hk0.ext hbl).cell 2, (hk0.ext hbl).cell 3⟩
          go_wp2_with fail
          obtain ⟨W1, hW1⟩ : ∃ W1 : World, W1 = wr := ⟨_, rfl⟩
          subst hW1
          go_loopw [2, 5] (fun r i wr => ∃ j : Nat, (j ≤ us.length ∨ us.length = 0) ∧ 1 ≤ j ∧ (us.length = 0 → j = 1) ∧ i = .int .i64 j ∧ Hid (∀ q, q + 1 < j → oErr us q = 0) ∧ ∃ q, wr = W1.drewN q) (fun _ i _ => us.length + 1 - (intOf i).toNat)
          case atStart => exact ⟨1, by omega, by omega, by omega, rfl, Lib.hid (fun _ h => absurd h (by omega)), 0, rfl⟩
          case round =>
            obtain ⟨i, hi, hi1, hi0, rfl, HL, dq, rfl⟩ := hrel
            by_cases hlt2 : i < us.length
            · obtain ⟨k, rfl⟩ : ∃ k, i = k + 1 := ⟨i - 1, by omega⟩
              obtain ⟨ad, hA', hB, c0, c1⟩ := Rvs.at_ (RowsW.below hA1 hbl) hlt2
              obtain ⟨ad2, hA2, hB2, d0, d1⟩ := Rvs.at_ (RowsW.below hA1 hbl) (k := k) (by omega)
              rw [hA'] at hA2
              obtain rfl := Option.some.inj hA2
              have HN := Lib.hid (oErr_at us us[k] us[k + 1] k (by rw [List.getElem?_eq_getElem]) (by rw [List.getElem?_eq_getElem]))
              subst hA'
              generalize us[k + 1] = x at *
              generalize us[k]'(by omega) = y at *
              by_cases hm : y.m < x.m
              · rw [if_pos hm] at HN
                go_wp2_with fail
                go_quiet (fail)
                go_wp2_with fail
                go_roundw
                case rel =>
                  refine ⟨k + 2, by omega, by omega, by omega, by go_num, Lib.hid (fun q hq => ?_), _, rfl⟩
                  by_cases hqj : q < k
                  · exact HL.out q (by omega)
                  · obtain rfl : q = k := by omega
                    exact HN.out
                case measure => simp [intOf]; omega
              · rw [if_neg hm] at HN
                have HV : Hid (guE id rf lv us = 9) := Lib.hid (HO2.out (by rw [firstE_at (oErr us) _ k (by omega) (fun q hq => HL.out q (by omega)) (by rw [HN.out]; decide), HN.out]; decide))
                go_wp2_with fail
                go_quiet (fail)
                go_wp2_with fail
                go_ret
                refine ⟨by rw [HV.out]; rfl, ?_⟩
                exact drewN_below (drewN_below (hbw0.trans (Below.mono hbl hbw0.size)) dq) _
            · have ho0 : firstE (oErr us) 0 (us.length - 1) = 0 := firstE_ok _ _ (fun q hq => HL.out q (by omega))
              have HV := Lib.hid (HS2.out ho0)
              clear ho0 HL HO2 HS2
              have hRv : Rvs (W1.drewN dq) (W1.drewN dq).heap.size A us := (RowsW.below hA1 hbl).more hbl.size
              have hb2 : Below w.heap.size w (W1.drewN dq) := drewN_below (hbw0.trans (Below.mono hbl hbw0.size)) dq
              have hRo : ∀ x ∈ us, 0 ≤ x.a ∧ x.a ≤ 1000000000000 := fun x hx => ⟨(HR.out x hx).2.2.1, (HR.out x hx).2.2.2⟩
              have HRo := Lib.hid hRo
              have q1 : (W1.drewN dq).cell? ⟨w.heap.size, 1, none⟩ = some (.int .i64 rf) := y1
              have q3 : (W1.drewN dq).cell? ⟨w.heap.size, 3, none⟩ = some (.slice A us.length cap) := y3
              clear hRo y0 y1 y2 y3
              generalize W1.drewN dq = W2 at *
              go_wp2_with fail
              have z1 := cell_regrown q1
              have z3 := cell_regrown q3
              have C2 := Lib.hid fun d os => Calls.regrown_of (reserved_any (grow (redrawn W2 d) os) A cap us (RowsW.ext hRv (below_regrown W2 d os)) (by omega) HRo.out)
              have hsw2 := sumA_rng us HRo.out
              clear q1 q3
              by_cases hsum : rf < sumA us
              · rw [if_pos hsum] at HV
                (refine wp_region_quiet_below (by kernel_rfl) (by kernel_rfl) ?_; (repeat (first | go_big_quiet_step ((exact C2.out _ _)) | quiet_step ((exact C2.out _ _)))); refine wpQuiet_nil ?_; intro _ hwq; obtain ⟨⟨dq, osq⟩, hwq'⟩ := hwq; subst hwq')
                have hq := below_regrown W2 dq osq
                go_wp2_with fail
                go_ret
                exact ⟨by rw [HV.out]; rfl, ext_trans hb2 hq⟩
              · rw [if_neg hsum] at HV
                (refine wp_region_quiet_below (by kernel_rfl) (by kernel_rfl) ?_; (repeat (first | go_big_quiet_step ((exact C2.out _ _)) | quiet_step ((exact C2.out _ _)))); refine wpQuiet_nil ?_; intro _ hwq; obtain ⟨⟨dq, osq⟩, hwq'⟩ := hwq; subst hwq')
                have hq := below_regrown W2 dq osq
                go_wp2_with fail
                go_ret
                exact ⟨by rw [HV.out]; rfl, ext_trans hb2 hq⟩
  · have HV := Lib.hid (guE_head id rf lv us hh)
    unfold headOk at hh
    go_enter Try.func11, Try.ntmps11
    go_wp2_with fail
    all_goals
      go_ret
      exact ⟨by rw [HV.out]; rfl, (by repeat (first | exact Below.refl _ _ | assumption | refine ext_alloc ?_ _ | refine Below.drew ?_ | refine drewN_below ?_ _ | refine ext_trans ?_ (by assumption) | refine Below.alloc ?_ ?_ _ | refine Below.setCell ?_ ?_ _ | omega | (simp <;> omega)))⟩

end Go.Proofs.Yteilknlokjfelaa
