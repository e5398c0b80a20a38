/- The laws of Make and of Batches. -/
import Derived.Test.YtoeghejbgibioaaH5
namespace Go.Proofs.Ytoeghejbgibioaa
open Go Go.RowKit
set_option linter.unusedVariables false
set_option linter.unusedSimpArgs false
set_option maxRecDepth 100000
set_option maxHeartbeats 4000000
attribute [local irreducible] ResLe AVle ArgLe ArgP EntLe Dle ResH ArgQ strEq strLt

def rcB (r : Rc) : Prop := r.ins.length ≤ 9223372036854775807 ∧ r.outs.length ≤ 9223372036854775807 ∧ r.sc.length ≤ 9223372036854775807 ∧ (∀ y ∈ r.ins, y.c.size ≤ 9223372036854775807) ∧ ∀ y ∈ r.outs, y.c.size ≤ 9223372036854775807
theorem asc_size {us : List Nd} {lo hi : Int} (h : ascOk us lo hi) : ∀ y ∈ us, y.c.size ≤ 9223372036854775807 := fun y hy => by
  obtain ⟨i, hi', rfl⟩ := List.getElem_of_mem hy
  have := (h i hi').1.1
  rw [ygetD_of hi'] at this
  omega
theorem yr_rcB {r : Rc} (h : yrOk r) : rcB r := by
  obtain ⟨_, ⟨h1, _, h2⟩, ⟨h3, _, h4⟩, h5, _⟩ := h
  exact ⟨by omega, by omega, by omega, asc_size h1, asc_size h3⟩
theorem make_both (r : Rc) (n : Int) (hr : rcB r) : ∃ (a b : List Nd) (e : Int), a.length ≤ 1000 ∧ b.length ≤ 1000 ∧ ACalls XX 27 [rcA r, iA n] (.tup [.dat (ndD a), .dat (ndD b), iA e]) ∧ ACalls XX 28 [rcA r, iA n] (.tup [.dat (ndD a), .dat (ndD b), iA e]) := by
  obtain ⟨h1, h2, h3, h4, h5⟩ := hr
  by_cases h : yrOk r ∧ 1 ≤ n ∧ n ≤ 1000
  · refine ⟨_, _, _, ?_, ?_, ymake_t r n h.1 h.2, ymake2_t r n h.1 h.2 h4 h5⟩
    · have := h.1.2.1.2.2
      rw [tmL_len]
      omega
    · have := h.1.2.2.1.2.2
      rw [tmL_len]
      omega
  · exact ⟨_, _, _, by simp, by simp, ymake_no r n h1 h2 h3 h, ymake2_no r n h1 h2 h3 h4 h5 h⟩
theorem batches_both (r : Rc) (us : List Nd) (hr : rcB r) (hl : us.length ≤ 9223372036854775807) (hu : ∀ y ∈ us, y.c.size ≤ 9223372036854775807) : ∃ n : Int, ACalls XX 11 [rcA r, .dat (ndD us)] (iA n) ∧ ACalls XX 31 [rcA r, .dat (ndD us)] (iA n) := by
  obtain ⟨h1, h2, h3, h4, h5⟩ := hr
  by_cases h : btOk r us
  · exact ⟨_, ybatches_t r us h, rbatches_t r us h h4 h5 hu⟩
  · exact ⟨_, ybatches_no r us h1 h2 h3 hl h, rbatches_no r us h1 h2 h3 hl h4 h5 hu h⟩
abbrev HS := Nat × List Nd
def hvS (L : List Int) (k : Nat) (s : HS) : HS := if 0 < nx L s.1 5 then (ni L (ni L (ni L s.1)), s.2 ++ [⟨ygA k, sx L (ni L s.1) 40 1000000000001⟩]) else (ni L s.1, s.2)
def hvN (L : List Int) : Nat → HS
  | 0 => (0, [])
  | k + 1 => hvS L k (hvN L k)
theorem hv_len (L : List Int) : ∀ k, k ≤ 4 → (hvN L k).2.length ≤ k ∧ ∀ x ∈ (hvN L k).2, x.c.size ≤ 8
  | 0, _ => ⟨by simp [hvN], fun x hx => by simp [hvN] at hx⟩
  | k + 1, hk => by
    have ih := hv_len L k (by omega)
    show ((hvS L k (hvN L k)).2.length ≤ k + 1) ∧ ∀ x ∈ (hvS L k (hvN L k)).2, x.c.size ≤ 8
    unfold hvS
    split
    · refine ⟨by simp; omega, fun x hx => ?_⟩
      rcases List.mem_append.1 hx with hx | hx
      · exact ih.2 x hx
      · rw [List.mem_singleton] at hx
        subst hx
        exact Nat.le_of_eq (ygA_ok k (by omega)).1
    · exact ⟨by simp only; omega, ih.2⟩
theorem lawMake_t (x0 x1 : List Int) (r : Rc) (hv0 : List Nd) (a4 a5 : Int) (k0 : x0.length ≤ 9223372036854775807) (k1 : x1.length ≤ 9223372036854775807) (hr0 : rcB r) (hl0 : hv0.length ≤ 9223372036854775807) (hc0 : ∀ y ∈ hv0, y.c.size ≤ 9223372036854775807) :
    ACalls XX 8 [.dat (ilst x0), .dat (ilst x1), rcA r, .dat (ndD hv0), iA a4, iA a5] (bA true) := by
  have kg := ygoods_t
  have hr := ymrecipe_t x0 k0
  have n0 := nx_rng x0 0 (m := 20) (by decide)
  have hy := mr_yr x0 (id := 1 + nx x0 0 20) (by omega)
  have hyB := yr_rcB hy
  have hw := within_t a4 1003 (by decide) (by decide)
  have hyl : ygs.length = 4 := rfl
  by_cases w1 : andI .i64 a5 1 = 0
  · by_cases w2 : andI .i64 a5 2 = 0
    · refine ACalls.of (n := Try.f8.ntmps) XX_ok Try.func8 rfl (by kernel_rfl) rfl rfl (Nat.le_of_ble_eq_true rfl) ?_
      (repeat' (first | refine Zs ?_ | refine Zk ?_ | ((first | refine Zas 8 ?_ | refine Zr ?_ | refine Zp ?_ | refine Ze ?_ | refine Zd ?_ | refine W.drawT dr8 rfl mixed rfl ?_ | refine Zn ?_ | refine Zc ?_ | refine UnK.mk (fun b hb => ?_) | refine Zy kg ?_ | refine Zz kg ?_ | refine Zy hr ?_ | refine Zz hr ?_ | refine Zy hw ?_ | refine Zz hw ?_); conv => whnf) | (refine Zb (fun h => ?_) (fun h => ?_) <;> first | exact Zx | (conv => whnf))))
      all_goals first | (exfalso; omega) | skip
      (repeat' (first | refine Zs ?_ | refine Zk ?_ | ((first | refine Za ?_ | refine Zr ?_ | refine Zp ?_ | refine Ze ?_ | refine Zd ?_ | refine W.drawT dr8 rfl mixed rfl ?_ | refine Zn ?_ | refine Zc ?_ | refine UnK.mk (fun b hb => ?_)); conv => whnf) | (refine Zb (fun h => ?_) (fun h => ?_) <;> first | exact Zx | (conv => whnf))))
      refine (W.adopt 3 56 31 2 (rowF ndE []) rfl rfl rfl rfl ?_); conv => whnf
      refine (W.loopK (ι := Nat) [4, 13, 14, 15] [13] (fun k => [(16, iA k), (3, .own 56 2 0 (hvN x1 k).2.length)]) (fun k => [(37, srcE x1 (hvN x1 k).1), (56, .row 31 2 (hvN x1 k).2.length (rowF ndE (hvN x1 k).2))]) (fun k => k ≤ 4) (fun k => 4 - k) 0 (Nat.zero_le _) ?_ ?_ ?_)
      · exact Yz
      · exact Yz
      conv => whnf
      intro k hk
      have hlen := hv_len x1 k hk
      by_cases hk' : k < 4
      · have eS : hvN x1 (k + 1) = hvS x1 k (hvN x1 k) := rfl
        unfold hvS at eS
        have q := sx_rng x1 (ni x1 (hvN x1 k).1) (few := 40) (n := 1000000000001) (by decide) (by decide)
        have q1 := next_h x1 (hvN x1 k).1 5 k1 (by decide) (by decide)
        have q2 := small_h x1 (ni x1 (hvN x1 k).1) 40 1000000000001 k1 (by decide) (by decide) (by decide) (by decide)
        obtain ⟨t2, ht2⟩ : ∃ t2, hvN x1 (k + 1) = t2 := ⟨_, rfl⟩
        rw [ht2] at eS
        generalize hvN x1 k = t at *
        obtain ⟨i, us⟩ := t
        dsimp only at *
        generalize sx x1 (ni x1 i) 40 1000000000001 = sv at *
        generalize nx x1 i 5 = d at *
        have hg : ∀ n : Nat, n = k → ygs.getD n default = ygA k := fun n hn => by subst hn; rcases n with _ | _ | _ | _ | n <;> first | rfl | omega
        (repeat' (first | refine Zs ?_ | refine Zk ?_ | ((first | refine Za ?_ | refine Zr ?_ | refine Zp ?_ | refine Ze ?_ | refine Zd ?_ | refine W.drawT dr8 rfl mixed rfl ?_ | refine Zn ?_ | refine Zc ?_ | refine UnK.mk (fun b hb => ?_) | refine ExCall.h [(5000, 37)] rfl q1 rfl ⟨rfl, trivial⟩ ?_ | refine CallK.h [(5000, 37)] rfl q1 rfl rfl ⟨rfl, trivial⟩ rfl rfl ?_ | refine ExCall.h [(5000, 37)] rfl q2 rfl ⟨rfl, trivial⟩ ?_ | refine CallK.h [(5000, 37)] rfl q2 rfl rfl ⟨rfl, trivial⟩ rfl rfl ?_); conv => whnf) | (refine Zb (fun h => ?_) (fun h => ?_) <;> first | exact Zx | (conv => whnf))))
        all_goals first | (exfalso; omega) | skip
        · rw [if_pos (by omega)] at eS
          refine ⟨k + 1, by omega, by omega, ?_, ?_, ?_, ?_⟩
          all_goals (try rw [ht2, eS])
          all_goals (try dsimp only)
          all_goals (repeat' (first | exact trivial | exact Yr | exact Yi (by first | rfl | (simp; done) | omega) | exact Yo (by first | rfl | (simp; done) | omega) | exact Yd | exact Yn | exact Ye (by first | rfl | (simp; done) | omega) | exact ⟨_, rfl, Yf, rfl⟩ | refine ⟨_, rfl, Yb ?_, rfl⟩ | refine ⟨_, rfl, Yw (by first | rfl | (simp; done) | omega) ?_, rfl⟩ | refine And.intro ?_ ?_))
          refine rowF_snoc rfl fun j hj => ?_
          rcases j with _ | _ | j
          all_goals first | exact Dle.refl _ | (exact Dle.of_eq (by rw [hg _ (by omega)]; rfl)) | omega
        · rw [if_neg (by omega)] at eS
          refine ⟨k + 1, by omega, by omega, ?_, ?_, ?_, ?_⟩
          all_goals (try rw [ht2, eS])
          all_goals (try dsimp only)
          all_goals exact Yz
      obtain rfl : k = 4 := by omega
      obtain ⟨hl4, hc4⟩ := hlen
      generalize (hvN x1 4).2 = hv at *
      (repeat' (first | refine Zs ?_ | refine Zk ?_ | ((first | refine Zas 13 ?_ | refine Zr ?_ | refine Zp ?_ | refine Ze ?_ | refine Zd ?_ | refine W.drawT dr8 rfl mixed rfl ?_ | refine Zn ?_ | refine Zc ?_ | refine UnK.mk (fun b hb => ?_)); conv => whnf) | (refine Zb (fun h => ?_) (fun h => ?_) <;> first | exact Zx | (conv => whnf))))
      all_goals first | (exfalso; omega) | skip
      refine W.pubD 3 56 rfl rfl ?_
      conv => whnf
      obtain ⟨a, b, e, l1, l2, m1, m2⟩ := make_both (⟨1 + nx x0 0 20, mrI (mrN x0 4), mrO (mrN x0 4), mrC (mrN x0 4)⟩) (a4 % 1003) (hyB)
      obtain ⟨n, n1, n2⟩ := batches_both (⟨1 + nx x0 0 20, mrI (mrN x0 4), mrO (mrN x0 4), mrC (mrN x0 4)⟩) (hv) (hyB) (by omega) (fun y hy => by have := hc4 y hy; omega)
      have v1 := yvalidate_t (⟨1 + nx x0 0 20, mrI (mrN x0 4), mrO (mrN x0 4), mrC (mrN x0 4)⟩) (hyB).1 (hyB).2.1 (hyB).2.2.1
      have v2 := yrecipe_t (⟨1 + nx x0 0 20, mrI (mrN x0 4), mrO (mrN x0 4), mrC (mrN x0 4)⟩) (hyB).1 (hyB).2.1 (hyB).2.2.1 (hyB).2.2.2.1 (hyB).2.2.2.2
      have s1 := ysame_t a (by omega)
      have s2 := ysame_t b (by omega)
      generalize yrErr (⟨1 + nx x0 0 20, mrI (mrN x0 4), mrO (mrN x0 4), mrC (mrN x0 4)⟩) = ve at *
      (repeat' (first | refine Zs ?_ | refine Zk ?_ | ((first | refine Za ?_ | refine Zr ?_ | refine Zp ?_ | refine Ze ?_ | refine Zd ?_ | refine W.drawT dr8 rfl mixed rfl ?_ | refine Zn ?_ | refine Zc ?_ | refine UnK.mk (fun b hb => ?_) | refine Zy m1 ?_ | refine Zz m1 ?_ | refine Zy m2 ?_ | refine Zz m2 ?_ | refine Zy n1 ?_ | refine Zz n1 ?_ | refine Zy n2 ?_ | refine Zz n2 ?_ | refine Zy v1 ?_ | refine Zz v1 ?_ | refine Zy v2 ?_ | refine Zz v2 ?_ | refine Zy s1 ?_ | refine Zz s1 ?_ | refine Zy s2 ?_ | refine Zz s2 ?_ | refine Zy yawake_t ?_ | refine Zz yawake_t ?_); conv => whnf) | (refine Zb (fun h => ?_) (fun h => ?_) <;> first | exact Zx | (conv => whnf))))
      all_goals first | (exfalso; omega) | (exfalso; exact h rfl) | ((repeat' (first | exact trivial | exact Zm | exact Zl | exact ResLe.row0 rfl | exact Zi (by first | rfl | simp) | exact Zo (h := by first | rfl | simp) | exact ResLe.bo rfl rfl Iff.rfl | refine ResLe.agg ?_ | refine And.intro ?_ ?_ | ((conv => whnf); first | exact Zl | exact ResLe.row0 rfl | exact Zi (by first | rfl | simp) | exact Zo (h := by first | rfl | simp) | exact ResLe.bo rfl rfl Iff.rfl | refine ResLe.agg ?_ | refine And.intro ?_ ?_))); done)
    · refine ACalls.of (n := Try.f8.ntmps) XX_ok Try.func8 rfl (by kernel_rfl) rfl rfl (Nat.le_of_ble_eq_true rfl) ?_
      (repeat' (first | refine Zs ?_ | refine Zk ?_ | ((first | refine Zas 13 ?_ | refine Zr ?_ | refine Zp ?_ | refine Ze ?_ | refine Zd ?_ | refine W.drawT dr8 rfl mixed rfl ?_ | refine Zn ?_ | refine Zc ?_ | refine UnK.mk (fun b hb => ?_) | refine Zy kg ?_ | refine Zz kg ?_ | refine Zy hr ?_ | refine Zz hr ?_ | refine Zy hw ?_ | refine Zz hw ?_); conv => whnf) | (refine Zb (fun h => ?_) (fun h => ?_) <;> first | exact Zx | (conv => whnf))))
      all_goals first | (exfalso; omega) | skip
      obtain ⟨a, b, e, l1, l2, m1, m2⟩ := make_both (⟨1 + nx x0 0 20, mrI (mrN x0 4), mrO (mrN x0 4), mrC (mrN x0 4)⟩) (a4 % 1003) (hyB)
      obtain ⟨n, n1, n2⟩ := batches_both (⟨1 + nx x0 0 20, mrI (mrN x0 4), mrO (mrN x0 4), mrC (mrN x0 4)⟩) (hv0) (hyB) (hl0) (hc0)
      have v1 := yvalidate_t (⟨1 + nx x0 0 20, mrI (mrN x0 4), mrO (mrN x0 4), mrC (mrN x0 4)⟩) (hyB).1 (hyB).2.1 (hyB).2.2.1
      have v2 := yrecipe_t (⟨1 + nx x0 0 20, mrI (mrN x0 4), mrO (mrN x0 4), mrC (mrN x0 4)⟩) (hyB).1 (hyB).2.1 (hyB).2.2.1 (hyB).2.2.2.1 (hyB).2.2.2.2
      have s1 := ysame_t a (by omega)
      have s2 := ysame_t b (by omega)
      generalize yrErr (⟨1 + nx x0 0 20, mrI (mrN x0 4), mrO (mrN x0 4), mrC (mrN x0 4)⟩) = ve at *
      (repeat' (first | refine Zs ?_ | refine Zk ?_ | ((first | refine Za ?_ | refine Zr ?_ | refine Zp ?_ | refine Ze ?_ | refine Zd ?_ | refine W.drawT dr8 rfl mixed rfl ?_ | refine Zn ?_ | refine Zc ?_ | refine UnK.mk (fun b hb => ?_) | refine Zy m1 ?_ | refine Zz m1 ?_ | refine Zy m2 ?_ | refine Zz m2 ?_ | refine Zy n1 ?_ | refine Zz n1 ?_ | refine Zy n2 ?_ | refine Zz n2 ?_ | refine Zy v1 ?_ | refine Zz v1 ?_ | refine Zy v2 ?_ | refine Zz v2 ?_ | refine Zy s1 ?_ | refine Zz s1 ?_ | refine Zy s2 ?_ | refine Zz s2 ?_ | refine Zy yawake_t ?_ | refine Zz yawake_t ?_); conv => whnf) | (refine Zb (fun h => ?_) (fun h => ?_) <;> first | exact Zx | (conv => whnf))))
      all_goals first | (exfalso; omega) | (exfalso; exact h rfl) | ((repeat' (first | exact trivial | exact Zm | exact Zl | exact ResLe.row0 rfl | exact Zi (by first | rfl | simp) | exact Zo (h := by first | rfl | simp) | exact ResLe.bo rfl rfl Iff.rfl | refine ResLe.agg ?_ | refine And.intro ?_ ?_ | ((conv => whnf); first | exact Zl | exact ResLe.row0 rfl | exact Zi (by first | rfl | simp) | exact Zo (h := by first | rfl | simp) | exact ResLe.bo rfl rfl Iff.rfl | refine ResLe.agg ?_ | refine And.intro ?_ ?_))); done)
  · by_cases w2 : andI .i64 a5 2 = 0
    · refine ACalls.of (n := Try.f8.ntmps) XX_ok Try.func8 rfl (by kernel_rfl) rfl rfl (Nat.le_of_ble_eq_true rfl) ?_
      (repeat' (first | refine Zs ?_ | refine Zk ?_ | ((first | refine Zas 8 ?_ | refine Zr ?_ | refine Zp ?_ | refine Ze ?_ | refine Zd ?_ | refine W.drawT dr8 rfl mixed rfl ?_ | refine Zn ?_ | refine Zc ?_ | refine UnK.mk (fun b hb => ?_) | refine Zy kg ?_ | refine Zz kg ?_ | refine Zy hr ?_ | refine Zz hr ?_ | refine Zy hw ?_ | refine Zz hw ?_); conv => whnf) | (refine Zb (fun h => ?_) (fun h => ?_) <;> first | exact Zx | (conv => whnf))))
      all_goals first | (exfalso; omega) | skip
      (repeat' (first | refine Zs ?_ | refine Zk ?_ | ((first | refine Za ?_ | refine Zr ?_ | refine Zp ?_ | refine Ze ?_ | refine Zd ?_ | refine W.drawT dr8 rfl mixed rfl ?_ | refine Zn ?_ | refine Zc ?_ | refine UnK.mk (fun b hb => ?_)); conv => whnf) | (refine Zb (fun h => ?_) (fun h => ?_) <;> first | exact Zx | (conv => whnf))))
      refine (W.adopt 3 56 31 2 (rowF ndE []) rfl rfl rfl rfl ?_); conv => whnf
      refine (W.loopK (ι := Nat) [4, 13, 14, 15] [13] (fun k => [(16, iA k), (3, .own 56 2 0 (hvN x1 k).2.length)]) (fun k => [(37, srcE x1 (hvN x1 k).1), (56, .row 31 2 (hvN x1 k).2.length (rowF ndE (hvN x1 k).2))]) (fun k => k ≤ 4) (fun k => 4 - k) 0 (Nat.zero_le _) ?_ ?_ ?_)
      · exact Yz
      · exact Yz
      conv => whnf
      intro k hk
      have hlen := hv_len x1 k hk
      by_cases hk' : k < 4
      · have eS : hvN x1 (k + 1) = hvS x1 k (hvN x1 k) := rfl
        unfold hvS at eS
        have q := sx_rng x1 (ni x1 (hvN x1 k).1) (few := 40) (n := 1000000000001) (by decide) (by decide)
        have q1 := next_h x1 (hvN x1 k).1 5 k1 (by decide) (by decide)
        have q2 := small_h x1 (ni x1 (hvN x1 k).1) 40 1000000000001 k1 (by decide) (by decide) (by decide) (by decide)
        obtain ⟨t2, ht2⟩ : ∃ t2, hvN x1 (k + 1) = t2 := ⟨_, rfl⟩
        rw [ht2] at eS
        generalize hvN x1 k = t at *
        obtain ⟨i, us⟩ := t
        dsimp only at *
        generalize sx x1 (ni x1 i) 40 1000000000001 = sv at *
        generalize nx x1 i 5 = d at *
        have hg : ∀ n : Nat, n = k → ygs.getD n default = ygA k := fun n hn => by subst hn; rcases n with _ | _ | _ | _ | n <;> first | rfl | omega
        (repeat' (first | refine Zs ?_ | refine Zk ?_ | ((first | refine Za ?_ | refine Zr ?_ | refine Zp ?_ | refine Ze ?_ | refine Zd ?_ | refine W.drawT dr8 rfl mixed rfl ?_ | refine Zn ?_ | refine Zc ?_ | refine UnK.mk (fun b hb => ?_) | refine ExCall.h [(5000, 37)] rfl q1 rfl ⟨rfl, trivial⟩ ?_ | refine CallK.h [(5000, 37)] rfl q1 rfl rfl ⟨rfl, trivial⟩ rfl rfl ?_ | refine ExCall.h [(5000, 37)] rfl q2 rfl ⟨rfl, trivial⟩ ?_ | refine CallK.h [(5000, 37)] rfl q2 rfl rfl ⟨rfl, trivial⟩ rfl rfl ?_); conv => whnf) | (refine Zb (fun h => ?_) (fun h => ?_) <;> first | exact Zx | (conv => whnf))))
        all_goals first | (exfalso; omega) | skip
        · rw [if_pos (by omega)] at eS
          refine ⟨k + 1, by omega, by omega, ?_, ?_, ?_, ?_⟩
          all_goals (try rw [ht2, eS])
          all_goals (try dsimp only)
          all_goals (repeat' (first | exact trivial | exact Yr | exact Yi (by first | rfl | (simp; done) | omega) | exact Yo (by first | rfl | (simp; done) | omega) | exact Yd | exact Yn | exact Ye (by first | rfl | (simp; done) | omega) | exact ⟨_, rfl, Yf, rfl⟩ | refine ⟨_, rfl, Yb ?_, rfl⟩ | refine ⟨_, rfl, Yw (by first | rfl | (simp; done) | omega) ?_, rfl⟩ | refine And.intro ?_ ?_))
          refine rowF_snoc rfl fun j hj => ?_
          rcases j with _ | _ | j
          all_goals first | exact Dle.refl _ | (exact Dle.of_eq (by rw [hg _ (by omega)]; rfl)) | omega
        · rw [if_neg (by omega)] at eS
          refine ⟨k + 1, by omega, by omega, ?_, ?_, ?_, ?_⟩
          all_goals (try rw [ht2, eS])
          all_goals (try dsimp only)
          all_goals exact Yz
      obtain rfl : k = 4 := by omega
      obtain ⟨hl4, hc4⟩ := hlen
      generalize (hvN x1 4).2 = hv at *
      (repeat' (first | refine Zs ?_ | refine Zk ?_ | ((first | refine Zas 13 ?_ | refine Zr ?_ | refine Zp ?_ | refine Ze ?_ | refine Zd ?_ | refine W.drawT dr8 rfl mixed rfl ?_ | refine Zn ?_ | refine Zc ?_ | refine UnK.mk (fun b hb => ?_)); conv => whnf) | (refine Zb (fun h => ?_) (fun h => ?_) <;> first | exact Zx | (conv => whnf))))
      all_goals first | (exfalso; omega) | skip
      refine W.pubD 3 56 rfl rfl ?_
      conv => whnf
      obtain ⟨a, b, e, l1, l2, m1, m2⟩ := make_both (r) (a4) (hr0)
      obtain ⟨n, n1, n2⟩ := batches_both (r) (hv) (hr0) (by omega) (fun y hy => by have := hc4 y hy; omega)
      have v1 := yvalidate_t (r) (hr0).1 (hr0).2.1 (hr0).2.2.1
      have v2 := yrecipe_t (r) (hr0).1 (hr0).2.1 (hr0).2.2.1 (hr0).2.2.2.1 (hr0).2.2.2.2
      have s1 := ysame_t a (by omega)
      have s2 := ysame_t b (by omega)
      generalize yrErr (r) = ve at *
      (repeat' (first | refine Zs ?_ | refine Zk ?_ | ((first | refine Za ?_ | refine Zr ?_ | refine Zp ?_ | refine Ze ?_ | refine Zd ?_ | refine W.drawT dr8 rfl mixed rfl ?_ | refine Zn ?_ | refine Zc ?_ | refine UnK.mk (fun b hb => ?_) | refine Zy m1 ?_ | refine Zz m1 ?_ | refine Zy m2 ?_ | refine Zz m2 ?_ | refine Zy n1 ?_ | refine Zz n1 ?_ | refine Zy n2 ?_ | refine Zz n2 ?_ | refine Zy v1 ?_ | refine Zz v1 ?_ | refine Zy v2 ?_ | refine Zz v2 ?_ | refine Zy s1 ?_ | refine Zz s1 ?_ | refine Zy s2 ?_ | refine Zz s2 ?_ | refine Zy yawake_t ?_ | refine Zz yawake_t ?_); conv => whnf) | (refine Zb (fun h => ?_) (fun h => ?_) <;> first | exact Zx | (conv => whnf))))
      all_goals first | (exfalso; omega) | (exfalso; exact h rfl) | ((repeat' (first | exact trivial | exact Zm | exact Zl | exact ResLe.row0 rfl | exact Zi (by first | rfl | simp) | exact Zo (h := by first | rfl | simp) | exact ResLe.bo rfl rfl Iff.rfl | refine ResLe.agg ?_ | refine And.intro ?_ ?_ | ((conv => whnf); first | exact Zl | exact ResLe.row0 rfl | exact Zi (by first | rfl | simp) | exact Zo (h := by first | rfl | simp) | exact ResLe.bo rfl rfl Iff.rfl | refine ResLe.agg ?_ | refine And.intro ?_ ?_))); done)
    · refine ACalls.of (n := Try.f8.ntmps) XX_ok Try.func8 rfl (by kernel_rfl) rfl rfl (Nat.le_of_ble_eq_true rfl) ?_
      (repeat' (first | refine Zs ?_ | refine Zk ?_ | ((first | refine Zas 13 ?_ | refine Zr ?_ | refine Zp ?_ | refine Ze ?_ | refine Zd ?_ | refine W.drawT dr8 rfl mixed rfl ?_ | refine Zn ?_ | refine Zc ?_ | refine UnK.mk (fun b hb => ?_) | refine Zy kg ?_ | refine Zz kg ?_ | refine Zy hr ?_ | refine Zz hr ?_ | refine Zy hw ?_ | refine Zz hw ?_); conv => whnf) | (refine Zb (fun h => ?_) (fun h => ?_) <;> first | exact Zx | (conv => whnf))))
      all_goals first | (exfalso; omega) | skip
      obtain ⟨a, b, e, l1, l2, m1, m2⟩ := make_both (r) (a4) (hr0)
      obtain ⟨n, n1, n2⟩ := batches_both (r) (hv0) (hr0) (hl0) (hc0)
      have v1 := yvalidate_t (r) (hr0).1 (hr0).2.1 (hr0).2.2.1
      have v2 := yrecipe_t (r) (hr0).1 (hr0).2.1 (hr0).2.2.1 (hr0).2.2.2.1 (hr0).2.2.2.2
      have s1 := ysame_t a (by omega)
      have s2 := ysame_t b (by omega)
      generalize yrErr (r) = ve at *
      (repeat' (first | refine Zs ?_ | refine Zk ?_ | ((first | refine Za ?_ | refine Zr ?_ | refine Zp ?_ | refine Ze ?_ | refine Zd ?_ | refine W.drawT dr8 rfl mixed rfl ?_ | refine Zn ?_ | refine Zc ?_ | refine UnK.mk (fun b hb => ?_) | refine Zy m1 ?_ | refine Zz m1 ?_ | refine Zy m2 ?_ | refine Zz m2 ?_ | refine Zy n1 ?_ | refine Zz n1 ?_ | refine Zy n2 ?_ | refine Zz n2 ?_ | refine Zy v1 ?_ | refine Zz v1 ?_ | refine Zy v2 ?_ | refine Zz v2 ?_ | refine Zy s1 ?_ | refine Zz s1 ?_ | refine Zy s2 ?_ | refine Zz s2 ?_ | refine Zy yawake_t ?_ | refine Zz yawake_t ?_); conv => whnf) | (refine Zb (fun h => ?_) (fun h => ?_) <;> first | exact Zx | (conv => whnf))))
      all_goals first | (exfalso; omega) | (exfalso; exact h rfl) | ((repeat' (first | exact trivial | exact Zm | exact Zl | exact ResLe.row0 rfl | exact Zi (by first | rfl | simp) | exact Zo (h := by first | rfl | simp) | exact ResLe.bo rfl rfl Iff.rfl | refine ResLe.agg ?_ | refine And.intro ?_ ?_ | ((conv => whnf); first | exact Zl | exact ResLe.row0 rfl | exact Zi (by first | rfl | simp) | exact Zo (h := by first | rfl | simp) | exact ResLe.bo rfl rfl Iff.rfl | refine ResLe.agg ?_ | refine And.intro ?_ ?_))); done)
end Go.Proofs.Ytoeghejbgibioaa
