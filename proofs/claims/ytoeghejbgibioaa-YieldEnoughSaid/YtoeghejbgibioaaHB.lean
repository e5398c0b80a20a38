/- The law that what is exploded suffices. -/
import Derived.Test.YtoeghejbgibioaaHA
import Derived.Test.YtoeghejbgibioaaH9
namespace Go.Proofs.Ytoeghejbgibioaa
open Go Go.RowKit
set_option linter.unusedVariables false
set_option linter.unusedSimpArgs false
set_option maxRecDepth 100000
set_option maxHeartbeats 4000000
attribute [local irreducible] ResLe AVle ArgLe ArgP EntLe Dle ResH ArgQ strEq strLt

def sB (b : Int) (us : List Nd) (c : ByteArray) : Int := b * qtyS us c
theorem sB_snoc (b : Int) (us : List Nd) (c : ByteArray) {k : Nat} (h : k < us.length) : sB b (us.take (k + 1)) c = sB b (us.take k) c + if (us.getD k default).c = c then b * (us.getD k default).q else 0 := by
  unfold sB
  rw [take_snoc us h, qtyS_snoc, Int.mul_add]
  split <;> simp
theorem sB_bnd {b m : Int} {us : List Nd} (c : ByteArray) (hm : 0 ≤ m) (h : ∀ x ∈ us, 0 ≤ b * x.q ∧ b * x.q ≤ m) : ∀ k, k ≤ us.length → 0 ≤ sB b (us.take k) c ∧ sB b (us.take k) c ≤ k * m
  | 0, _ => by simp [sB, qtyS]
  | k + 1, hk => by
    have ih := sB_bnd c hm h k (by omega)
    have hx := h _ (ygetD_in (us := us) (k := k) (by omega))
    rw [sB_snoc b us c (by omega)]
    have : ((k + 1 : Nat) : Int) * m = k * m + m := by push_cast; rw [Int.add_mul, Int.one_mul]
    split <;> omega
theorem sB_all {b m : Int} {us : List Nd} (c : ByteArray) (hm : 0 ≤ m) (h : ∀ x ∈ us, 0 ≤ b * x.q ∧ b * x.q ≤ m) (h8 : us.length ≤ 8) : 0 ≤ b * qtyS us c ∧ b * qtyS us c ≤ 8 * m := by
  have h1 := sB_bnd c hm h us.length (Nat.le_refl _)
  rw [List.take_length] at h1
  have h2 : (us.length : Int) * m ≤ 8 * m := Int.mul_le_mul_of_nonneg_right (by omega) hm
  unfold sB at h1
  omega
theorem lmade_t (rs : List Rc) (B : List Int) (c : ByteArray) (hl : B.length = rs.length) (h : rcsOk rs)
    (ho : ∀ i, i < rs.length → ∀ x ∈ (rs.getD i default).outs, 0 ≤ B.getD i 0 * x.q ∧ B.getD i 0 * x.q ≤ 4000000000000)
    (hi : ∀ i, i < rs.length → ∀ x ∈ (rs.getD i default).ins, 0 ≤ B.getD i 0 * x.q ∧ B.getD i 0 * x.q ≤ 4000000000000) :
    ACalls XX 19 [.dat (rcD rs), .dat (iD B), sY c] (.tup [iA (mdA rs B c rs.length), iA (mdU rs B c rs.length)]) := by
  have h32 := h.1
  refine ACalls.of (n := Try.f19.ntmps) XX_ok Try.func19 rfl (by kernel_rfl) rfl rfl (Nat.le_of_ble_eq_true rfl) ?_
  (repeat' (first | refine Zs ?_ | refine Zk ?_ | ((first | refine Za ?_ | refine Zr ?_ | refine Zp ?_ | refine Ze ?_ | refine Zd ?_ | refine W.drawT dr19 rfl mixed rfl ?_ | refine Zn ?_ | refine Zc ?_ | refine UnK.mk (fun b hb => ?_)); conv => whnf) | (refine Zb (fun h => ?_) (fun h => ?_) <;> first | exact Zx | (conv => whnf))))
  refine (W.loopK (ι := Nat) [0, 1, 2] [] (fun n => [(10, iA n), (8, iA (mdA rs B c n)), (9, iA (mdU rs B c n))]) (fun _ => []) (fun n => n ≤ rs.length) (fun n => rs.length - n) 0 (Nat.zero_le _) ?_ ?_ ?_)
  · exact Yz
  · exact Yz
  conv => whnf
  intro n hn
  have hA := sumN_bnd (f := fun i => B.getD i 0 * qtyS (rs.getD i default).outs c) (m := 32000000000000) n fun i hin => by
    obtain ⟨_, _, _, a4⟩ := h.at (k := i) (by omega)
    exact sB_all c (by decide) (ho i (by omega)) a4
  have hU := sumN_bnd (f := fun i => B.getD i 0 * qtyS (rs.getD i default).ins c) (m := 32000000000000) n fun i hin => by
    obtain ⟨_, a2, _, _⟩ := h.at (k := i) (by omega)
    exact sB_all c (by decide) (hi i (by omega)) a2
  by_cases hn' : n < rs.length
  · obtain ⟨_, a2, _, a4⟩ := h.at hn'
    have ho := ho n hn'
    have hi := hi n hn'
    have eA : mdA rs B c (n + 1) = mdA rs B c n + sB (B.getD n 0) (rs.getD n default).outs c := rfl
    have eU : mdU rs B c (n + 1) = mdU rs B c n + sB (B.getD n 0) (rs.getD n default).ins c := rfl
    have hA : 0 ≤ mdA rs B c n ∧ mdA rs B c n ≤ n * 32000000000000 := hA
    have hU : 0 ≤ mdU rs B c n ∧ mdU rs B c n ≤ n * 32000000000000 := hU
    have bO := sB_bnd c (by decide) ho
    have bI := sB_bnd c (by decide) hi
    generalize mdA rs B c n = A at *
    generalize mdU rs B c n = U at *
    (repeat' (first | refine Zs ?_ | refine Zk ?_ | ((first | refine Za ?_ | refine Zr ?_ | refine Zp ?_ | refine Ze ?_ | refine Zd ?_ | refine W.drawT dr19 rfl mixed rfl ?_ | refine Zn ?_ | refine Zc ?_ | refine UnK.mk (fun b hb => ?_)); conv => whnf) | (refine Zb (fun h => ?_) (fun h => ?_) <;> first | exact Zx | (conv => whnf))))
    all_goals (try dsimp only [Int.toNat_natCast] at *)
    all_goals first | (exfalso; omega) | skip
    refine (W.loopK (ι := Nat) [0, 1, 2, 9, 10] [] (fun k => [(11, iA k), (8, iA (A + sB (B.getD n 0) ((rs.getD n default).outs.take k) c))]) (fun _ => []) (fun k => k ≤ (rs.getD n default).outs.length) (fun k => (rs.getD n default).outs.length - k) 0 (Nat.zero_le _) ?_ ?_ ?_)
    · (repeat' (first | exact trivial | exact Yr | exact Yi (by first | rfl | (simp [sB, qtyS]; done)) | exact Yo (by first | rfl | (simp [sB, qtyS]; done)) | exact Yd | exact Yn | exact Ye (by first | rfl | (simp [sB, qtyS]; done)) | exact ⟨_, rfl, Yf, rfl⟩ | refine ⟨_, rfl, Yb ?_, rfl⟩ | refine ⟨_, rfl, Yw (by first | rfl | (simp [sB, qtyS]; done)) ?_, rfl⟩ | refine And.intro ?_ ?_))
    · exact Yz
    conv => whnf
    intro k hk
    have b1 := bO k hk
    by_cases hk' : k < (rs.getD n default).outs.length
    · have e1 : sB (B.getD n 0) ((rs.getD n default).outs.take (k + 1)) c = sB (B.getD n 0) ((rs.getD n default).outs.take k) c + if ((rs.getD n default).outs.getD k default).c = c then B.getD n default * ((rs.getD n default).outs.getD k default).q else 0 := sB_snoc (B.getD n 0) (rs.getD n default).outs c hk'
      have b2 := ho _ (ygetD_in hk')
      have b2' : 0 ≤ B.getD n default * ((rs.getD n default).outs.getD k default).q ∧ B.getD n default * ((rs.getD n default).outs.getD k default).q ≤ 4000000000000 := b2
      have hst := strEq_iff ((rs.getD n default).outs.getD k default).c c
      generalize sB (B.getD n 0) ((rs.getD n default).outs.take k) c = S at *
      clear ho hi bO bI b2
      (repeat' (first | refine Zs ?_ | refine Zk ?_ | ((first | refine Za ?_ | refine Zr ?_ | refine Zp ?_ | refine Ze ?_ | refine Zd ?_ | refine W.drawT dr19 rfl mixed rfl ?_ | refine Zn ?_ | refine Zc ?_ | refine UnK.mk (fun b hb => ?_)); conv => whnf) | (refine Zb (fun h => ?_) (fun h => ?_) <;> first | exact Zx | (conv => whnf))))
      all_goals (try dsimp only [Int.toNat_natCast] at *)
      (repeat' (first | refine Zs ?_ | refine Zk ?_ | ((first | refine Za ?_ | refine Zr ?_ | refine Zp ?_ | refine Ze ?_ | refine Zd ?_ | refine W.drawT dr19 rfl mixed rfl ?_ | refine Zn ?_ | refine Zc ?_ | refine UnK.mk (fun b hb => ?_)); conv => whnf) | (refine Zb (fun h => ?_) (fun h => ?_) <;> first | exact Zx | (conv => whnf))))
      all_goals (try dsimp only [Int.toNat_natCast] at *)
      (repeat' (first | refine Zs ?_ | refine Zk ?_ | ((first | refine Za ?_ | refine Zr ?_ | refine Zp ?_ | refine Ze ?_ | refine Zd ?_ | refine W.drawT dr19 rfl mixed rfl ?_ | refine Zn ?_ | refine Zc ?_ | refine UnK.mk (fun b hb => ?_)); conv => whnf) | (refine Zb (fun h => ?_) (fun h => ?_) <;> first | exact Zx | (conv => whnf))))
      all_goals first | (exfalso; omega) | skip
      · rw [if_pos (hst.1 h)] at e1
        refine ⟨k + 1, by omega, by omega, ?_, ?_, ?_, ?_⟩
        all_goals (try rw [e1])
        all_goals exact Yz
      · rw [if_neg (fun hh => by rw [hst.2 hh] at h; cases h)] at e1
        refine ⟨k + 1, by omega, by omega, ?_, ?_, ?_, ?_⟩
        all_goals (try rw [e1])
        all_goals exact Yz
    obtain rfl : k = (rs.getD n default).outs.length := by omega
    rw [List.take_length] at *
    (repeat' (first | refine Zs ?_ | refine Zk ?_ | ((first | refine Za ?_ | refine Zr ?_ | refine Zp ?_ | refine Ze ?_ | refine Zd ?_ | refine W.drawT dr19 rfl mixed rfl ?_ | refine Zn ?_ | refine Zc ?_ | refine UnK.mk (fun b hb => ?_)); conv => whnf) | (refine Zb (fun h => ?_) (fun h => ?_) <;> first | exact Zx | (conv => whnf))))
    all_goals (try dsimp only [Int.toNat_natCast] at *)
    all_goals first | (exfalso; omega) | skip
    refine (W.loopK (ι := Nat) [0, 1, 2, 8, 10] [] (fun k => [(12, iA k), (9, iA (U + sB (B.getD n 0) ((rs.getD n default).ins.take k) c))]) (fun _ => []) (fun k => k ≤ (rs.getD n default).ins.length) (fun k => (rs.getD n default).ins.length - k) 0 (Nat.zero_le _) ?_ ?_ ?_)
    · (repeat' (first | exact trivial | exact Yr | exact Yi (by first | rfl | (simp [sB, qtyS]; done)) | exact Yo (by first | rfl | (simp [sB, qtyS]; done)) | exact Yd | exact Yn | exact Ye (by first | rfl | (simp [sB, qtyS]; done)) | exact ⟨_, rfl, Yf, rfl⟩ | refine ⟨_, rfl, Yb ?_, rfl⟩ | refine ⟨_, rfl, Yw (by first | rfl | (simp [sB, qtyS]; done)) ?_, rfl⟩ | refine And.intro ?_ ?_))
    · exact Yz
    conv => whnf
    intro k hk
    have b1 := bI k hk
    by_cases hk' : k < (rs.getD n default).ins.length
    · have e1 : sB (B.getD n 0) ((rs.getD n default).ins.take (k + 1)) c = sB (B.getD n 0) ((rs.getD n default).ins.take k) c + if ((rs.getD n default).ins.getD k default).c = c then B.getD n default * ((rs.getD n default).ins.getD k default).q else 0 := sB_snoc (B.getD n 0) (rs.getD n default).ins c hk'
      have b2 := hi _ (ygetD_in hk')
      have b2' : 0 ≤ B.getD n default * ((rs.getD n default).ins.getD k default).q ∧ B.getD n default * ((rs.getD n default).ins.getD k default).q ≤ 4000000000000 := b2
      have hst := strEq_iff ((rs.getD n default).ins.getD k default).c c
      generalize sB (B.getD n 0) ((rs.getD n default).ins.take k) c = S at *
      clear ho hi bO bI b2
      (repeat' (first | refine Zs ?_ | refine Zk ?_ | ((first | refine Za ?_ | refine Zr ?_ | refine Zp ?_ | refine Ze ?_ | refine Zd ?_ | refine W.drawT dr19 rfl mixed rfl ?_ | refine Zn ?_ | refine Zc ?_ | refine UnK.mk (fun b hb => ?_)); conv => whnf) | (refine Zb (fun h => ?_) (fun h => ?_) <;> first | exact Zx | (conv => whnf))))
      all_goals (try dsimp only [Int.toNat_natCast] at *)
      (repeat' (first | refine Zs ?_ | refine Zk ?_ | ((first | refine Za ?_ | refine Zr ?_ | refine Zp ?_ | refine Ze ?_ | refine Zd ?_ | refine W.drawT dr19 rfl mixed rfl ?_ | refine Zn ?_ | refine Zc ?_ | refine UnK.mk (fun b hb => ?_)); conv => whnf) | (refine Zb (fun h => ?_) (fun h => ?_) <;> first | exact Zx | (conv => whnf))))
      all_goals (try dsimp only [Int.toNat_natCast] at *)
      (repeat' (first | refine Zs ?_ | refine Zk ?_ | ((first | refine Za ?_ | refine Zr ?_ | refine Zp ?_ | refine Ze ?_ | refine Zd ?_ | refine W.drawT dr19 rfl mixed rfl ?_ | refine Zn ?_ | refine Zc ?_ | refine UnK.mk (fun b hb => ?_)); conv => whnf) | (refine Zb (fun h => ?_) (fun h => ?_) <;> first | exact Zx | (conv => whnf))))
      all_goals first | (exfalso; omega) | skip
      · rw [if_pos (hst.1 h)] at e1
        refine ⟨k + 1, by omega, by omega, ?_, ?_, ?_, ?_⟩
        all_goals (try rw [e1])
        all_goals exact Yz
      · rw [if_neg (fun hh => by rw [hst.2 hh] at h; cases h)] at e1
        refine ⟨k + 1, by omega, by omega, ?_, ?_, ?_, ?_⟩
        all_goals (try rw [e1])
        all_goals exact Yz
    obtain rfl : k = (rs.getD n default).ins.length := by omega
    rw [List.take_length] at *
    (repeat' (first | refine Zs ?_ | refine Zk ?_ | ((first | refine Za ?_ | refine Zr ?_ | refine Zp ?_ | refine Ze ?_ | refine Zd ?_ | refine W.drawT dr19 rfl mixed rfl ?_ | refine Zn ?_ | refine Zc ?_ | refine UnK.mk (fun b hb => ?_)); conv => whnf) | (refine Zb (fun h => ?_) (fun h => ?_) <;> first | exact Zx | (conv => whnf))))
    all_goals (try dsimp only [Int.toNat_natCast] at *)
    all_goals first | (exfalso; omega) | skip
    refine ⟨n + 1, by omega, by omega, ?_, ?_, ?_, ?_⟩
    all_goals (try rw [eA, eU])
    all_goals exact Yz
  · obtain rfl : n = rs.length := by omega
    have hA : 0 ≤ mdA rs B c rs.length ∧ mdA rs B c rs.length ≤ rs.length * 32000000000000 := hA
    have hU : 0 ≤ mdU rs B c rs.length ∧ mdU rs B c rs.length ≤ rs.length * 32000000000000 := hU
    (repeat' (first | refine Zs ?_ | refine Zk ?_ | ((first | refine Za ?_ | refine Zr ?_ | refine Zp ?_ | refine Ze ?_ | refine Zd ?_ | refine W.drawT dr19 rfl mixed rfl ?_ | refine Zn ?_ | refine Zc ?_ | refine UnK.mk (fun b hb => ?_)); conv => whnf) | (refine Zb (fun h => ?_) (fun h => ?_) <;> first | exact Zx | (conv => whnf))))
    all_goals first | (exfalso; omega) | ((repeat' (first | exact trivial | exact Zm | exact Zl | exact ResLe.row0 rfl | exact Zi (by first | rfl | omega) | exact Zo (h := by first | rfl | omega) | exact ResLe.bo rfl rfl Iff.rfl | refine ResLe.agg ?_ | refine And.intro ?_ ?_ | ((conv => whnf); first | exact Zl | exact ResLe.row0 rfl | exact Zi (by first | rfl | omega) | exact Zo (h := by first | rfl | omega) | exact ResLe.bo rfl rfl Iff.rfl | refine ResLe.agg ?_ | refine And.intro ?_ ?_))); done)
def ecs : List ByteArray := [mc0, mc1, mc2, mc3, mc4, mc5, mc6, mc7, mc9]
theorem ecs_zero : ∀ i, i < 9 → (ecs.getD i default = mc0 ↔ i = 0) := by decide +kernel
theorem qtyS_take {us : List Nd} {c : ByteArray} {k : Nat} (h : k < us.length) : qtyS (us.take (k + 1)) c = qtyS (us.take k) c + if (us.getD k default).c = c then (us.getD k default).q else 0 := by
  rw [take_snoc us h, qtyS_snoc]
theorem lawEnough_t (x0 : List Int) (a1 : Int) (k0 : x0.length ≤ 9223372036854775807) : ACalls XX 5 [.dat (ilst x0), iA a1] (bA true) := by
  obtain ⟨rs, ⟨L0, s0, hs, hrs⟩, hM⟩ := mill_t x0 k0
  have hw := within_t a1 300 (by decide) (by decide)
  have hw1 := Int.emod_nonneg a1 (show (300 : Int) ≠ 0 by decide)
  have hw2 := Int.emod_lt_of_pos a1 (show (0 : Int) < 300 by decide)
  have hlen : rs.length ≤ 8 := by rw [hrs]; exact hs.len
  have hok : ∀ r ∈ rs, yrOk r ∧ ∀ x ∈ r.outs, x.q ≤ 4 := fun r hr => by
    rw [hrs] at hr
    exact ⟨(hs.ok r hr).1, (hs.ok r hr).2.2⟩
  have hR : rcsOk rs := ⟨by omega, fun r hr => (hok r hr).1⟩
  have hF : exErr rs = 0 := exF_of rs (fun i hi => by rw [hrs] at hi ⊢; exact hs.ord i hi) _ 0 (by omega)
  clear hs hrs
  obtain ⟨q, hq⟩ : ∃ q, q = 1 + a1 % 300 := ⟨_, rfl⟩
  have hq1 : 1 ≤ q ∧ q ≤ 300 := by omega
  have hX := yexplode_t rs mc0 q (by omega) (fun r hr => by
    obtain ⟨_, ⟨_, _, h2⟩, ⟨_, _, h4⟩, h5, _⟩ := (hok r hr).1
    exact ⟨by omega, by omega, by omega⟩)
  have hEq : exE rs mc0 q = if (ordR rs mc0).1 = false then 19 else match rnAll rs (ordL rs mc0) mc0 q with
      | none => 16
      | some _ => 0 := by
    unfold exE
    rw [if_neg (by omega), if_neg (by simpa using hF), if_neg (fun h => h ⟨mco_ok 0 (by decide), by omega, by omega⟩)]
    rfl
  by_cases ho : (ordR rs mc0).1 = true
  rotate_left
  · rw [if_pos (by simpa using ho)] at hEq
    rw [hEq] at hX
    refine ACalls.of (n := Try.f5.ntmps) XX_ok Try.func5 rfl (by kernel_rfl) rfl rfl (Nat.le_of_ble_eq_true rfl) ?_
    (repeat' (first | refine Zs ?_ | refine Zk ?_ | ((first | refine Zas 3 ?_ | refine Zr ?_ | refine Zp ?_ | refine Ze ?_ | refine Zd ?_ | refine W.drawT dr5 rfl mixed rfl ?_ | refine Zn ?_ | refine Zc ?_ | refine UnK.mk (fun b hb => ?_) | refine Zy hM ?_ | refine Zz hM ?_ | refine Zy hw ?_ | refine Zz hw ?_); conv => whnf) | (refine Zb (fun h => ?_) (fun h => ?_) <;> first | exact Zx | (conv => whnf))))
    rw [← hq]
    (repeat' (first | refine Zs ?_ | refine Zk ?_ | ((first | refine Za ?_ | refine Zr ?_ | refine Zp ?_ | refine Ze ?_ | refine Zd ?_ | refine W.drawT dr5 rfl mixed rfl ?_ | refine Zn ?_ | refine Zc ?_ | refine UnK.mk (fun b hb => ?_) | refine Zy hX ?_ | refine Zz hX ?_ | refine Zy yawake_t ?_ | refine Zz yawake_t ?_); conv => whnf) | (refine Zb (fun h => ?_) (fun h => ?_) <;> first | exact Zx | (conv => whnf))))
    all_goals first | (exfalso; omega) | ((repeat' (first | exact trivial | exact Zm | exact Zl | exact ResLe.row0 rfl | exact Zi (by first | rfl | simp) | exact Zo (h := by first | rfl | simp) | exact ResLe.bo rfl rfl Iff.rfl | refine ResLe.agg ?_ | refine And.intro ?_ ?_ | ((conv => whnf); first | exact Zl | exact ResLe.row0 rfl | exact Zi (by first | rfl | simp) | exact Zo (h := by first | rfl | simp) | exact ResLe.bo rfl rfl Iff.rfl | refine ResLe.agg ?_ | refine And.intro ?_ ?_))); done)
  rw [if_neg (by rw [ho]; decide)] at hEq
  cases hrn : rnAll rs (ordL rs mc0) mc0 q with
  | none =>
    rw [hrn] at hEq
    dsimp only at hEq
    rw [hEq] at hX
    refine ACalls.of (n := Try.f5.ntmps) XX_ok Try.func5 rfl (by kernel_rfl) rfl rfl (Nat.le_of_ble_eq_true rfl) ?_
    (repeat' (first | refine Zs ?_ | refine Zk ?_ | ((first | refine Zas 3 ?_ | refine Zr ?_ | refine Zp ?_ | refine Ze ?_ | refine Zd ?_ | refine W.drawT dr5 rfl mixed rfl ?_ | refine Zn ?_ | refine Zc ?_ | refine UnK.mk (fun b hb => ?_) | refine Zy hM ?_ | refine Zz hM ?_ | refine Zy hw ?_ | refine Zz hw ?_); conv => whnf) | (refine Zb (fun h => ?_) (fun h => ?_) <;> first | exact Zx | (conv => whnf))))
    rw [← hq]
    (repeat' (first | refine Zs ?_ | refine Zk ?_ | ((first | refine Za ?_ | refine Zr ?_ | refine Zp ?_ | refine Ze ?_ | refine Zd ?_ | refine W.drawT dr5 rfl mixed rfl ?_ | refine Zn ?_ | refine Zc ?_ | refine UnK.mk (fun b hb => ?_) | refine Zy hX ?_ | refine Zz hX ?_ | refine Zy yawake_t ?_ | refine Zz yawake_t ?_); conv => whnf) | (refine Zb (fun h => ?_) (fun h => ?_) <;> first | exact Zx | (conv => whnf))))
    all_goals first | (exfalso; omega) | ((repeat' (first | exact trivial | exact Zm | exact Zl | exact ResLe.row0 rfl | exact Zi (by first | rfl | simp) | exact Zo (h := by first | rfl | simp) | exact ResLe.bo rfl rfl Iff.rfl | refine ResLe.agg ?_ | refine And.intro ?_ ?_ | ((conv => whnf); first | exact Zl | exact ResLe.row0 rfl | exact Zi (by first | rfl | simp) | exact Zo (h := by first | rfl | simp) | exact ResLe.bo rfl rfl Iff.rfl | refine ResLe.agg ?_ | refine And.intro ?_ ?_))); done)
  | some s =>
    obtain ⟨L, B⟩ := s
    rw [hrn] at hEq
    dsimp only at hEq
    have hE := eno_of hR (show 0 ≤ q ∧ q ≤ 1000000000 by omega) ho hrn
    have hN : exN rs mc0 q = sortN (ndsOf rs L) := by unfold exN; rw [if_pos hEq, hrn]
    have hBe : exB rs mc0 q = B := by unfold exB; rw [if_pos hEq, hrn]
    rw [hEq, hN, hBe] at hX
    clear hrn hN hBe hEq ho
    obtain ⟨e1, e2, e3, e4, e5, e6⟩ := hE
    have hml := fun c => lmade_t rs B c e1 hR (fun i hi x hx => by
      have h1 := e2 i
      have h2 := (hok _ (ygetD_in hi)).2 x hx
      obtain ⟨_, _, a3, _⟩ := hR.at hi
      have h3 := (asc_q a3 x hx).1
      refine ⟨Int.mul_nonneg h1.1 (by omega), ?_⟩
      have h4 : B.getD i 0 * x.q ≤ 1000000000000 * x.q := Int.mul_le_mul_of_nonneg_right h1.2 (by omega)
      omega) (fun i hi x hx => by have := e3 i hi x hx; omega)
    have hmb : ∀ c, 0 ≤ mdA rs B c rs.length ∧ mdA rs B c rs.length ≤ 1000000000000000 := fun c => by
      have := sumN_bnd (f := fun i => B.getD i 0 * qtyS (rs.getD i default).outs c) (m := 32000000000000) rs.length fun i hi => by
        obtain ⟨_, _, a3, a4⟩ := hR.at hi
        refine sB_all (m := 4000000000000) c (by decide) (fun x hx => ?_) a4
        have h1 := e2 i
        have h2 := (hok _ (ygetD_in hi)).2 x hx
        have h3 := (asc_q a3 x hx).1
        refine ⟨Int.mul_nonneg h1.1 (by omega), ?_⟩
        have h4 : B.getD i 0 * x.q ≤ 1000000000000 * x.q := Int.mul_le_mul_of_nonneg_right h1.2 (by omega)
        omega
      have h2 : 0 ≤ mdA rs B c rs.length ∧ mdA rs B c rs.length ≤ rs.length * 32000000000000 := this
      omega
    have hmu : ∀ c, 0 ≤ mdU rs B c rs.length ∧ mdU rs B c rs.length ≤ 1000000000000000 := fun c => by
      have := sumN_bnd (f := fun i => B.getD i 0 * qtyS (rs.getD i default).ins c) (m := 32000000000000) rs.length fun i hi => by
        obtain ⟨_, a2, _, _⟩ := hR.at hi
        exact sB_all (m := 4000000000000) c (by decide) (fun x hx => by have := e3 i hi x hx; omega) a2
      have h2 : 0 ≤ mdU rs B c rs.length ∧ mdU rs B c rs.length ≤ rs.length * 32000000000000 := this
      omega
    obtain ⟨us, hus⟩ : ∃ us, us = sortN (ndsOf rs L) := ⟨_, rfl⟩
    have hul : us.length ≤ 257 := by
      rw [hus, sortN_len]
      unfold ndsOf
      rw [List.length_map]
      have := List.length_filter_le (ndP rs) L
      have := e4.2
      omega
    have huq : ∀ x ∈ us, 0 ≤ x.q ∧ x.q ≤ 1000000000000 := fun x hx => by
      rw [hus] at hx
      have hx' := (sortN_perm (ndsOf rs L)).mem_iff.1 hx
      unfold ndsOf at hx'
      obtain ⟨p, hp, rfl⟩ := List.mem_map.1 hx'
      have hpL := (List.mem_filter.1 hp).1
      have h1 := getM_in e5 hpL
      have h2 := e4.1 p.1
      simp only; omega
    rw [← hus] at hX e6
    clear hus e2 e3 e4 e5 hok hF
    refine ACalls.of (n := Try.f5.ntmps) XX_ok Try.func5 rfl (by kernel_rfl) rfl rfl (Nat.le_of_ble_eq_true rfl) ?_
    (repeat' (first | refine Zs ?_ | refine Zk ?_ | ((first | refine Zas 3 ?_ | refine Zr ?_ | refine Zp ?_ | refine Ze ?_ | refine Zd ?_ | refine W.drawT dr5 rfl mixed rfl ?_ | refine Zn ?_ | refine Zc ?_ | refine UnK.mk (fun b hb => ?_) | refine Zy hM ?_ | refine Zz hM ?_ | refine Zy hw ?_ | refine Zz hw ?_); conv => whnf) | (refine Zb (fun h => ?_) (fun h => ?_) <;> first | exact Zx | (conv => whnf))))
    rw [← hq]
    clear hq hw1 hw2 hw
    have hel : ecs.length = 9 := rfl
    (repeat' (first | refine Zs ?_ | refine Zk ?_ | ((first | refine Za ?_ | refine Zr ?_ | refine Zp ?_ | refine Ze ?_ | refine Zd ?_ | refine W.drawT dr5 rfl mixed rfl ?_ | refine Zn ?_ | refine Zc ?_ | refine UnK.mk (fun b hb => ?_) | refine Zy hX ?_ | refine Zz hX ?_); conv => whnf) | (refine Zb (fun h => ?_) (fun h => ?_) <;> first | exact Zx | (conv => whnf))))
    all_goals first | (exfalso; omega) | skip
    refine W.pubD 9 42 rfl rfl ?_
    conv => whnf
    refine (W.loopK (ι := Nat) [1, 5, 6, 7] [] (fun i => [(10, iA i), (9, .dat (bsD ecs))]) (fun _ => []) (fun i => i ≤ 9) (fun i => 9 - i) 0 (Nat.zero_le _) ?_ ?_ ?_)
    · (repeat' (first | exact trivial | exact Yr | exact Yi (by first | rfl | omega) | exact Yo (by first | rfl | omega) | exact Yd | exact Yn | exact Ye (by first | rfl | omega) | exact ⟨_, rfl, Yf, rfl⟩ | refine ⟨_, rfl, Yb ?_, rfl⟩ | refine ⟨_, rfl, Yw (by first | rfl | omega) ?_, rfl⟩ | refine And.intro ?_ ?_))
      refine AVle.dat (Dle.lst rfl fun i hi j hj => ?_)
      obtain rfl : j = 0 := by omega
      rcases i with _ | _ | _ | _ | _ | _ | _ | _ | _ | i
      all_goals first | exact Dle.refl _ | omega
    · exact Yz
    conv => whnf
    intro i hi
    by_cases hi9 : i < 9
    rotate_left
    · obtain rfl : i = 9 := by omega
      (repeat' (first | refine Zs ?_ | refine Zk ?_ | ((first | refine Za ?_ | refine Zr ?_ | refine Zp ?_ | refine Ze ?_ | refine Zd ?_ | refine W.drawT dr5 rfl mixed rfl ?_ | refine Zn ?_ | refine Zc ?_ | refine UnK.mk (fun b hb => ?_) | refine Zy yawake_t ?_ | refine Zz yawake_t ?_); conv => whnf) | (refine Zb (fun h => ?_) (fun h => ?_) <;> first | exact Zx | (conv => whnf))))
      all_goals first | (exfalso; omega) | ((repeat' (first | exact trivial | exact Zm | exact Zl | exact ResLe.row0 rfl | exact Zi (by first | rfl | omega) | exact Zo (h := by first | rfl | omega) | exact ResLe.bo rfl rfl Iff.rfl | refine ResLe.agg ?_ | refine And.intro ?_ ?_ | ((conv => whnf); first | exact Zl | exact ResLe.row0 rfl | exact Zi (by first | rfl | omega) | exact Zo (h := by first | rfl | omega) | exact ResLe.bo rfl rfl Iff.rfl | refine ResLe.agg ?_ | refine And.intro ?_ ?_))); done)
    have h6 := e6 (ecs.getD i default)
    have hz := ecs_zero i hi9
    have h7 := hmb (ecs.getD i default)
    have h8 := hmu (ecs.getD i default)
    have h9 := hml (ecs.getD i default)
    clear e6 hmb hmu hml
    (repeat' (first | refine Zs ?_ | refine Zk ?_ | ((first | refine Zas 12 ?_ | refine Zr ?_ | refine Zp ?_ | refine Ze ?_ | refine Zd ?_ | refine W.drawT dr5 rfl mixed rfl ?_ | refine Zn ?_ | refine Zc ?_ | refine UnK.mk (fun b hb => ?_)); conv => whnf) | (refine Zb (fun h => ?_) (fun h => ?_) <;> first | exact Zx | (conv => whnf))))
    all_goals first | (exfalso; omega) | skip
    (repeat' (first | refine Zs ?_ | refine Zk ?_ | ((first | refine Zas 15 ?_ | refine Zr ?_ | refine Zp ?_ | refine Ze ?_ | refine Zd ?_ | refine W.drawT dr5 rfl mixed rfl ?_ | refine Zn ?_ | refine Zc ?_ | refine UnK.mk (fun b hb => ?_) | refine Zy h9 ?_ | refine Zz h9 ?_); conv => whnf) | (refine Zb (fun h => ?_) (fun h => ?_) <;> first | exact Zx | (conv => whnf))))
    all_goals first | (exfalso; omega) | skip
    · rw [if_pos (hz.2 (by omega))] at h6
      obtain ⟨U, hU⟩ : ∃ U, U = mdU rs B (ecs.getD i default) rs.length + q := ⟨_, rfl⟩
      rw [← hU] at h6 ⊢
      have hU2 : 0 ≤ U ∧ U ≤ 2000000000000000 := by omega
      clear h8 h9 hz hU
      obtain ⟨c, hc⟩ : ∃ c, c = ecs.getD i default := ⟨_, rfl⟩
      rw [← hc] at h6 h7
      rw [← hc]
      generalize mdA rs B c rs.length = A at *
      (repeat' (first | refine Zs ?_ | refine Zk ?_ | ((first | refine Za ?_ | refine Zr ?_ | refine Zp ?_ | refine Ze ?_ | refine Zd ?_ | refine W.drawT dr5 rfl mixed rfl ?_ | refine Zn ?_ | refine Zc ?_ | refine UnK.mk (fun b hb => ?_)); conv => whnf) | (refine Zb (fun h => ?_) (fun h => ?_) <;> first | exact Zx | (conv => whnf))))
      refine (W.loopK (ι := Nat) [1, 5, 6, 7, 9, 10, 12] [] (fun k => [(13, iA k), (11, iA (A + qtyS (us.take k) c))]) (fun _ => []) (fun k => k ≤ us.length) (fun k => us.length - k) 0 (Nat.zero_le _) ?_ ?_ ?_)
      · (repeat' (first | exact trivial | exact Yr | exact Yi (by first | rfl | (simp [qtyS]; done)) | exact Yo (by first | rfl | (simp [qtyS]; done)) | exact Yd | exact Yn | exact Ye (by first | rfl | (simp [qtyS]; done)) | exact ⟨_, rfl, Yf, rfl⟩ | refine ⟨_, rfl, Yb ?_, rfl⟩ | refine ⟨_, rfl, Yw (by first | rfl | (simp [qtyS]; done)) ?_, rfl⟩ | refine And.intro ?_ ?_))
      · exact Yz
      conv => whnf
      intro k hk
      have b1 := qty_bnd (us.take k) c 1000000000000 (by decide) (fun x hx => huq x (List.mem_of_mem_take hx))
      have b2 : (us.take k).length ≤ 257 := by rw [List.length_take]; omega
      by_cases hk' : k < us.length
      · have e1 := qtyS_take (c := c) hk'
        have q1 := huq _ (ygetD_in hk')
        have hst := strEq_iff (us.getD k default).c c
        generalize qtyS (us.take k) c = S at *
        (repeat' (first | refine Zs ?_ | refine Zk ?_ | ((first | refine Za ?_ | refine Zr ?_ | refine Zp ?_ | refine Ze ?_ | refine Zd ?_ | refine W.drawT dr5 rfl mixed rfl ?_ | refine Zn ?_ | refine Zc ?_ | refine UnK.mk (fun b hb => ?_)); conv => whnf) | (refine Zb (fun h => ?_) (fun h => ?_) <;> first | exact Zx | (conv => whnf))))
        all_goals (try dsimp only [Int.toNat_natCast] at *)
        (repeat' (first | refine Zs ?_ | refine Zk ?_ | ((first | refine Za ?_ | refine Zr ?_ | refine Zp ?_ | refine Ze ?_ | refine Zd ?_ | refine W.drawT dr5 rfl mixed rfl ?_ | refine Zn ?_ | refine Zc ?_ | refine UnK.mk (fun b hb => ?_)); conv => whnf) | (refine Zb (fun h => ?_) (fun h => ?_) <;> first | exact Zx | (conv => whnf))))
        · rw [← hc] at h
          rw [if_pos (hst.1 h)] at e1
          refine ⟨k + 1, by omega, by omega, ?_, ?_, ?_, ?_⟩
          all_goals (try rw [e1])
          all_goals exact Yz
        · rw [← hc] at h
          rw [if_neg (fun hh => by rw [hst.2 hh] at h; cases h)] at e1
          refine ⟨k + 1, by omega, by omega, ?_, ?_, ?_, ?_⟩
          all_goals (try rw [e1])
          all_goals exact Yz
      obtain rfl : k = us.length := by omega
      rw [List.take_length] at *
      (repeat' (first | refine Zs ?_ | refine Zk ?_ | ((first | refine Za ?_ | refine Zr ?_ | refine Zp ?_ | refine Ze ?_ | refine Zd ?_ | refine W.drawT dr5 rfl mixed rfl ?_ | refine Zn ?_ | refine Zc ?_ | refine UnK.mk (fun b hb => ?_)); conv => whnf) | (refine Zb (fun h => ?_) (fun h => ?_) <;> first | exact Zx | (conv => whnf))))
      all_goals first | (exfalso; omega) | skip
      refine ⟨i + 1, by omega, by omega, ?_, ?_, ?_, ?_⟩
      all_goals exact Yz
    · rw [if_neg (fun hh => h (by rw [hz.1 hh]; rfl)), Int.add_zero] at h6
      obtain ⟨U, hU⟩ : ∃ U, U = mdU rs B (ecs.getD i default) rs.length := ⟨_, rfl⟩
      rw [← hU] at h6 ⊢
      have hU2 : 0 ≤ U ∧ U ≤ 2000000000000000 := by omega
      clear h8 h9 hz hU
      obtain ⟨c, hc⟩ : ∃ c, c = ecs.getD i default := ⟨_, rfl⟩
      rw [← hc] at h6 h7
      rw [← hc]
      generalize mdA rs B c rs.length = A at *
      (repeat' (first | refine Zs ?_ | refine Zk ?_ | ((first | refine Za ?_ | refine Zr ?_ | refine Zp ?_ | refine Ze ?_ | refine Zd ?_ | refine W.drawT dr5 rfl mixed rfl ?_ | refine Zn ?_ | refine Zc ?_ | refine UnK.mk (fun b hb => ?_)); conv => whnf) | (refine Zb (fun h => ?_) (fun h => ?_) <;> first | exact Zx | (conv => whnf))))
      refine (W.loopK (ι := Nat) [1, 5, 6, 7, 9, 10, 12] [] (fun k => [(13, iA k), (11, iA (A + qtyS (us.take k) c))]) (fun _ => []) (fun k => k ≤ us.length) (fun k => us.length - k) 0 (Nat.zero_le _) ?_ ?_ ?_)
      · (repeat' (first | exact trivial | exact Yr | exact Yi (by first | rfl | (simp [qtyS]; done)) | exact Yo (by first | rfl | (simp [qtyS]; done)) | exact Yd | exact Yn | exact Ye (by first | rfl | (simp [qtyS]; done)) | exact ⟨_, rfl, Yf, rfl⟩ | refine ⟨_, rfl, Yb ?_, rfl⟩ | refine ⟨_, rfl, Yw (by first | rfl | (simp [qtyS]; done)) ?_, rfl⟩ | refine And.intro ?_ ?_))
      · exact Yz
      conv => whnf
      intro k hk
      have b1 := qty_bnd (us.take k) c 1000000000000 (by decide) (fun x hx => huq x (List.mem_of_mem_take hx))
      have b2 : (us.take k).length ≤ 257 := by rw [List.length_take]; omega
      by_cases hk' : k < us.length
      · have e1 := qtyS_take (c := c) hk'
        have q1 := huq _ (ygetD_in hk')
        have hst := strEq_iff (us.getD k default).c c
        generalize qtyS (us.take k) c = S at *
        (repeat' (first | refine Zs ?_ | refine Zk ?_ | ((first | refine Za ?_ | refine Zr ?_ | refine Zp ?_ | refine Ze ?_ | refine Zd ?_ | refine W.drawT dr5 rfl mixed rfl ?_ | refine Zn ?_ | refine Zc ?_ | refine UnK.mk (fun b hb => ?_)); conv => whnf) | (refine Zb (fun h => ?_) (fun h => ?_) <;> first | exact Zx | (conv => whnf))))
        all_goals (try dsimp only [Int.toNat_natCast] at *)
        (repeat' (first | refine Zs ?_ | refine Zk ?_ | ((first | refine Za ?_ | refine Zr ?_ | refine Zp ?_ | refine Ze ?_ | refine Zd ?_ | refine W.drawT dr5 rfl mixed rfl ?_ | refine Zn ?_ | refine Zc ?_ | refine UnK.mk (fun b hb => ?_)); conv => whnf) | (refine Zb (fun h => ?_) (fun h => ?_) <;> first | exact Zx | (conv => whnf))))
        · rw [← hc] at h
          rw [if_pos (hst.1 h)] at e1
          refine ⟨k + 1, by omega, by omega, ?_, ?_, ?_, ?_⟩
          all_goals (try rw [e1])
          all_goals exact Yz
        · rw [← hc] at h
          rw [if_neg (fun hh => by rw [hst.2 hh] at h; cases h)] at e1
          refine ⟨k + 1, by omega, by omega, ?_, ?_, ?_, ?_⟩
          all_goals (try rw [e1])
          all_goals exact Yz
      obtain rfl : k = us.length := by omega
      rw [List.take_length] at *
      (repeat' (first | refine Zs ?_ | refine Zk ?_ | ((first | refine Za ?_ | refine Zr ?_ | refine Zp ?_ | refine Ze ?_ | refine Zd ?_ | refine W.drawT dr5 rfl mixed rfl ?_ | refine Zn ?_ | refine Zc ?_ | refine UnK.mk (fun b hb => ?_)); conv => whnf) | (refine Zb (fun h => ?_) (fun h => ?_) <;> first | exact Zx | (conv => whnf))))
      all_goals first | (exfalso; omega) | skip
      refine ⟨i + 1, by omega, by omega, ?_, ?_, ?_, ?_⟩
      all_goals exact Yz
end Go.Proofs.Ytoeghejbgibioaa
