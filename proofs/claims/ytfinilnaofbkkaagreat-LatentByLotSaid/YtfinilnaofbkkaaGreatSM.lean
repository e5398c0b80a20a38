/- The laws of portions. The reference's duty of a lot. The reference's duty of a lot, whole. -/
import Derived.Test.YtfinilnaofbkkaaGreatSL
import Derived.Test.YtfinilnaofbkkaaGreatRM
import Derived.Test.YtfinilnaofbkkaaGreatS7

namespace Go.Proofs.YtfinilnaofbkkaaGreat
open Go Go.RowKit
set_option linter.unusedVariables false
set_option linter.unusedSimpArgs false
set_option maxRecDepth 100000
set_option maxHeartbeats 4000000
attribute [local irreducible] ResLe AVle ArgLe ArgP EntLe Dle ResH ArgQ

theorem rmd_t (a u n : Int) (ha : amOk a) (hu : unOk u) (hn : 0 ≤ n ∧ n ≤ u) : ACalls XX 68 [iA a, iA n, iA u] (iA (a * n / u)) := by
  unfold amOk at ha
  unfold unOk at hu
  obtain ⟨x, rfl⟩ := Int.eq_ofNat_of_zero_le ha.1
  obtain ⟨y, rfl⟩ := Int.eq_ofNat_of_zero_le hn.1
  obtain ⟨z, rfl⟩ := Int.eq_ofNat_of_zero_le (show 0 ≤ u by omega)
  have h1 : x / z * y ≤ x := by
    have h2 : x / z * y ≤ x / z * z := Nat.mul_le_mul_left _ (by omega)
    have h3 := Nat.div_mul_le_self x z
    omega
  have k := rmulDiv_t x y z (by omega) (by omega) (by omega) (by omega) (by omega)
  have e : ((x * y / z : Nat) : Int) = (x : Int) * y / z := by simp
  rw [e] at k
  exact k
theorem rportion_t (a u s e : Int) : ACalls XX 59 [iA a, iA u, iA s, iA e] (.tup [iA (if porOk a u s e then porI a u s e else 0), iA (if porOk a u s e then 0 else 2)]) := by
  by_cases hp : porOk a u s e
  · rw [if_pos hp, if_pos hp]
    obtain ⟨h1, h2, h3⟩ := hp
    have k1 := rmd_t a u e h1 h2 (by omega)
    have k2 := rmd_t a u s h1 h2 (by omega)
    have r1 := mulDiv_rng h1 h2 (n := e) (by omega)
    have r2 := mulDiv_rng h1 h2 (n := s) (by omega)
    unfold amOk at h1
    unfold unOk at h2
    unfold porI
    generalize a * e / u = r at *
    generalize a * s / u = r' at *
    refine ACalls.of (n := Tryz.f59.ntmps) XX_ok Tryz.func59 rfl (by kernel_rfl) rfl rfl (Nat.le_of_ble_eq_true rfl) ?_
    (repeat' (first | refine Zs ?_ | refine Zk ?_ | ((first | refine Za ?_ | refine Zr ?_ | refine Zp ?_ | refine Ze ?_ | refine Zd ?_ | refine Zn ?_ | refine Zc ?_ | refine UnK.mk (fun b hb => ?_) | refine Zy k1 ?_ | refine Zy k2 ?_); conv => whnf) | (refine Zb (fun h => ?_) (fun h => ?_) <;> first | exact Zx | (conv => whnf))))
    all_goals exact Zrz
  · rw [if_neg hp, if_neg hp]
    unfold porOk amOk unOk at hp
    refine ACalls.of (n := Tryz.f59.ntmps) XX_ok Tryz.func59 rfl (by kernel_rfl) rfl rfl (Nat.le_of_ble_eq_true rfl) ?_
    (repeat' (first | refine Zs ?_ | refine Zk ?_ | ((first | refine Za ?_ | refine Zr ?_ | refine Zp ?_ | refine Ze ?_ | refine Zd ?_ | refine Zn ?_ | refine Zc ?_ | refine UnK.mk (fun b hb => ?_)); conv => whnf) | (refine Zb (fun h => ?_) (fun h => ?_) <;> first | exact Zx | (conv => whnf))))
    all_goals exact Zrz
end Go.Proofs.YtfinilnaofbkkaaGreat

namespace Go.Proofs.YtfinilnaofbkkaaGreat
open Go Go.RowKit
set_option linter.unusedVariables false
set_option linter.unusedSimpArgs false
set_option maxRecDepth 100000
set_option maxHeartbeats 4000000
attribute [local irreducible] ResLe AVle ArgLe ArgP EntLe Dle ResH ArgQ

theorem rcharges_t (us : List Ch) (hL : us.length ≤ 9223372036854775807) : ACalls XX 28 [.dat (chD us)] (iA (chErr us)) := by
  refine ACalls.of (n := Tryz.f28.ntmps) XX_ok Tryz.func28 rfl (by kernel_rfl) rfl rfl (Nat.le_of_ble_eq_true rfl) ?_
  (repeat' (first | refine Zs ?_ | refine Zk ?_ | ((first | refine Za ?_ | refine Zr ?_ | refine Zp ?_ | refine Ze ?_ | refine Zd ?_ | refine W.drawT dr28 rfl mixed rfl ?_ | refine Zn ?_ | refine Zc ?_ | refine UnK.mk (fun b hb => ?_)); conv => whnf) | (refine Zb (fun h => ?_) (fun h => ?_) <;> first | exact Zx | (conv => whnf))))
  · (repeat' (first | exact trivial | exact Zm | exact Zl | exact ResLe.row0 rfl | exact Zi (by unfold chErr; rw [if_pos (by omega)]) | exact Zo (h := by unfold chErr; rw [if_pos (by omega)]) | exact ResLe.bo rfl rfl Iff.rfl | refine ResLe.agg ?_ | refine And.intro ?_ ?_ | ((conv => whnf); first | exact Zl | exact ResLe.row0 rfl | exact Zi (by unfold chErr; rw [if_pos (by omega)]) | exact Zo (h := by unfold chErr; rw [if_pos (by omega)]) | exact ResLe.bo rfl rfl Iff.rfl | refine ResLe.agg ?_ | refine And.intro ?_ ?_)))
  have hl : us.length ≤ 64 := by omega
  refine (W.loopK (ι := Nat) [0] [] (fun k => [(3, iA k)]) (fun _ => []) (fun k => k ≤ us.length ∧ ∀ i, i < k → chOk (us.getD i default)) (fun k => us.length - k) 0 ⟨Nat.zero_le _, fun i hi => absurd hi (by omega)⟩ ?_ ?_ ?_)
  · exact Yz
  · exact Yz
  conv => whnf
  intro k ⟨hk, hz⟩
  have hbad : ¬ chOk (us.getD k default) → k < us.length → chErr us = 2 := fun h1 h2 => by
    unfold chErr
    rw [if_neg (by omega), if_pos (fun ha => h1 (ha _ (getD_in h2)))]
  (repeat' (first | refine Zs ?_ | refine Zk ?_ | ((first | refine Za ?_ | refine Zr ?_ | refine Zp ?_ | refine Ze ?_ | refine Zd ?_ | refine W.drawT dr28 rfl mixed rfl ?_ | refine Zn ?_ | refine Zc ?_ | refine UnK.mk (fun b hb => ?_)); conv => whnf) | (refine Zb (fun h => ?_) (fun h => ?_) <;> first | exact Zx | (conv => whnf))))
  all_goals (try dsimp only [Int.toNat_natCast] at *)
  (repeat' (first | refine Zs ?_ | refine Zk ?_ | ((first | refine Za ?_ | refine Zr ?_ | refine Zp ?_ | refine Ze ?_ | refine Zd ?_ | refine W.drawT dr28 rfl mixed rfl ?_ | refine Zn ?_ | refine Zc ?_ | refine UnK.mk (fun b hb => ?_)); conv => whnf) | (refine Zb (fun h => ?_) (fun h => ?_) <;> first | exact Zx | (conv => whnf))))
  all_goals first | ((repeat' (first | exact trivial | exact Zm | exact Zl | exact ResLe.row0 rfl | exact Zi (by exact (hbad (fun hc => by unfold chOk unOk amOk at hc; first | omega | (simp_all; done) | (simp_all; omega)) (by omega)).symm) | exact Zo (h := by exact (hbad (fun hc => by unfold chOk unOk amOk at hc; first | omega | (simp_all; done) | (simp_all; omega)) (by omega)).symm) | exact ResLe.bo rfl rfl Iff.rfl | refine ResLe.agg ?_ | refine And.intro ?_ ?_ | ((conv => whnf); first | exact Zl | exact ResLe.row0 rfl | exact Zi (by exact (hbad (fun hc => by unfold chOk unOk amOk at hc; first | omega | (simp_all; done) | (simp_all; omega)) (by omega)).symm) | exact Zo (h := by exact (hbad (fun hc => by unfold chOk unOk amOk at hc; first | omega | (simp_all; done) | (simp_all; omega)) (by omega)).symm) | exact ResLe.bo rfl rfl Iff.rfl | refine ResLe.agg ?_ | refine And.intro ?_ ?_))); done) | skip
  · refine ⟨k + 1, ⟨by omega, fun i hi => ?_⟩, by omega, ?_, ?_, ?_, ?_⟩
    · by_cases hik : i = k
      · subst hik; unfold chOk unOk amOk; first | (simp_all; done) | (simp_all; omega) | omega
      · exact hz i (by omega)
    all_goals exact Yz
  · have ha : ∀ x ∈ us, chOk x := all_getD.2 fun i hi => hz i (by omega)
    refine (W.loopK (ι := Nat) [0] [] (fun k => [(4, iA (1 + k))]) (fun _ => []) (fun k => (k = 0 ∨ k + 1 ≤ us.length) ∧ ∀ i, i < k → (us.getD i default).m < (us.getD (i + 1) default).m) (fun k => us.length - k) 0 ⟨.inl rfl, fun i hi => absurd hi (by omega)⟩ ?_ ?_ ?_)
    · exact Yz
    · exact Yz
    conv => whnf
    intro j ⟨hj, hy⟩
    (repeat' (first | refine Zs ?_ | refine Zk ?_ | ((first | refine Za ?_ | refine Zr ?_ | refine Zp ?_ | refine Ze ?_ | refine Zd ?_ | refine W.drawT dr28 rfl mixed rfl ?_ | refine Zn ?_ | refine Zc ?_ | refine UnK.mk (fun b hb => ?_)); conv => whnf) | (refine Zb (fun h => ?_) (fun h => ?_) <;> first | exact Zx | (conv => whnf))))
    all_goals (try rw [show (1 + (j : Int)).toNat = j + 1 by omega, show (1 + (j : Int) - 1).toNat = j by omega] at *)
    (repeat' (first | refine Zs ?_ | refine Zk ?_ | ((first | refine Za ?_ | refine Zr ?_ | refine Zp ?_ | refine Ze ?_ | refine Zd ?_ | refine W.drawT dr28 rfl mixed rfl ?_ | refine Zn ?_ | refine Zc ?_ | refine UnK.mk (fun b hb => ?_)); conv => whnf) | (refine Zb (fun h => ?_) (fun h => ?_) <;> first | exact Zx | (conv => whnf))))
    · have hn : ¬ ascC us := fun hc => by have := hc j (by omega); omega
      (repeat' (first | exact trivial | exact Zm | exact Zl | exact ResLe.row0 rfl | exact Zi (by unfold chErr; rw [if_neg (by omega), if_neg (by simpa using ha), if_pos hn]) | exact Zo (h := by unfold chErr; rw [if_neg (by omega), if_neg (by simpa using ha), if_pos hn]) | exact ResLe.bo rfl rfl Iff.rfl | refine ResLe.agg ?_ | refine And.intro ?_ ?_ | ((conv => whnf); first | exact Zl | exact ResLe.row0 rfl | exact Zi (by unfold chErr; rw [if_neg (by omega), if_neg (by simpa using ha), if_pos hn]) | exact Zo (h := by unfold chErr; rw [if_neg (by omega), if_neg (by simpa using ha), if_pos hn]) | exact ResLe.bo rfl rfl Iff.rfl | refine ResLe.agg ?_ | refine And.intro ?_ ?_)))
    · refine ⟨j + 1, ⟨by omega, fun i hi => ?_⟩, by omega, ?_, ?_, ?_, ?_⟩
      · by_cases hik : i = j
        · subst hik; omega
        · exact hy i (by omega)
      all_goals exact Yz
    · have hc : ascC us := fun i hi => hy i (by omega)
      (repeat' (first | exact trivial | exact Zm | exact Zl | exact ResLe.row0 rfl | exact Zi (by unfold chErr; rw [if_neg (by omega), if_neg (by simpa using ha), if_neg (by simpa using hc)]) | exact Zo (h := by unfold chErr; rw [if_neg (by omega), if_neg (by simpa using ha), if_neg (by simpa using hc)]) | exact ResLe.bo rfl rfl Iff.rfl | refine ResLe.agg ?_ | refine And.intro ?_ ?_ | ((conv => whnf); first | exact Zl | exact ResLe.row0 rfl | exact Zi (by unfold chErr; rw [if_neg (by omega), if_neg (by simpa using ha), if_neg (by simpa using hc)]) | exact Zo (h := by unfold chErr; rw [if_neg (by omega), if_neg (by simpa using ha), if_neg (by simpa using hc)]) | exact ResLe.bo rfl rfl Iff.rfl | refine ResLe.agg ?_ | refine And.intro ?_ ?_)))


theorem chargeOf_t (cs : List Ch) (t : Int) (ha : ascC cs) (hl : cs.length ≤ 64) : ACalls XX 58 [.dat (chD cs), iA t] (.tup [chA (if hadC cs t then chOf cs t else ⟨0, 0, 0⟩), bA (decide (hadC cs t))]) := by
  obtain ⟨k1, k2⟩ := loC_parts (t := t) ha
  refine ACalls.of (n := Tryz.f58.ntmps) XX_ok Tryz.func58 rfl (by kernel_rfl) rfl rfl (Nat.le_of_ble_eq_true rfl) ?_
  (repeat' (first | refine Zs ?_ | refine Zk ?_ | ((first | refine Za ?_ | refine Zr ?_ | refine Zp ?_ | refine Ze ?_ | refine Zd ?_ | refine Zn ?_ | refine Zc ?_ | refine UnK.mk (fun b hb => ?_)); conv => whnf) | (refine Zb (fun h => ?_) (fun h => ?_) <;> first | exact Zx | (conv => whnf))))
  refine (W.loopK (ι := Nat) [0, 1, 4, 5] [4] (fun k => [(6, iA k)]) (fun _ => []) (fun k => k ≤ cs.length ∧ ∀ i, i < k → (cs.getD i default).m ≠ t) (fun k => cs.length - k) 0 ⟨Nat.zero_le _, fun i hi => absurd hi (by omega)⟩ ?_ ?_ ?_)
  · exact Yz
  · exact Yz
  conv => whnf
  intro k ⟨hk, hz⟩
  by_cases hk' : k < cs.length
  · by_cases hq : (cs.getD k default).m = t
    · have hh : hadC cs t := ⟨_, getD_in hk', hq⟩
      obtain ⟨k3, k4⟩ := k2 hh
      have hke : k = loC cs t := by
        rcases Nat.lt_trichotomy k (loC cs t) with h | h | h
        · have := (k1 k hk').2 h; omega
        · exact h
        · exact absurd k4 (hz _ h)
      have hch : chOf cs t = cs.getD k default := by rw [hke]; rfl
      rw [if_pos hh, hch, decide_eq_true hh]
      (repeat' (first | refine Zs ?_ | refine Zk ?_ | ((first | refine Za ?_ | refine Zr ?_ | refine Zp ?_ | refine Ze ?_ | refine Zd ?_ | refine Zn ?_ | refine Zc ?_ | refine UnK.mk (fun b hb => ?_)); conv => whnf) | (refine Zb (fun h => ?_) (fun h => ?_) <;> first | exact Zx | (conv => whnf))))
      all_goals (try dsimp only [Int.toNat_natCast] at *)
      (repeat' (first | refine Zs ?_ | refine Zk ?_ | ((first | refine Za ?_ | refine Zr ?_ | refine Zp ?_ | refine Ze ?_ | refine Zd ?_ | refine Zn ?_ | refine Zc ?_ | refine UnK.mk (fun b hb => ?_)); conv => whnf) | (refine Zb (fun h => ?_) (fun h => ?_) <;> first | exact Zx | (conv => whnf))))
      all_goals exact Zrz
    · (repeat' (first | refine Zs ?_ | refine Zk ?_ | ((first | refine Za ?_ | refine Zr ?_ | refine Zp ?_ | refine Ze ?_ | refine Zd ?_ | refine Zn ?_ | refine Zc ?_ | refine UnK.mk (fun b hb => ?_)); conv => whnf) | (refine Zb (fun h => ?_) (fun h => ?_) <;> first | exact Zx | (conv => whnf))))
      all_goals (try dsimp only [Int.toNat_natCast] at *)
      (repeat' (first | refine Zs ?_ | refine Zk ?_ | ((first | refine Za ?_ | refine Zr ?_ | refine Zp ?_ | refine Ze ?_ | refine Zd ?_ | refine Zn ?_ | refine Zc ?_ | refine UnK.mk (fun b hb => ?_)); conv => whnf) | (refine Zb (fun h => ?_) (fun h => ?_) <;> first | exact Zx | (conv => whnf))))
      refine ⟨k + 1, ⟨by omega, fun i hi => ?_⟩, by omega, ?_, ?_, ?_, ?_⟩
      · by_cases hik : i = k
        · subst hik; exact hq
        · exact hz i (by omega)
      all_goals exact Yz
  · have hh : ¬ hadC cs t := fun ⟨x, hx1, hx2⟩ => (all_getD (us := cs) (p := fun x => x.m ≠ t)).2 (fun i hi => hz i (by omega)) x hx1 hx2
    rw [if_neg hh, decide_eq_false hh]
    (repeat' (first | refine Zs ?_ | refine Zk ?_ | ((first | refine Za ?_ | refine Zr ?_ | refine Zp ?_ | refine Ze ?_ | refine Zd ?_ | refine Zn ?_ | refine Zc ?_ | refine UnK.mk (fun b hb => ?_)); conv => whnf) | (refine Zb (fun h => ?_) (fun h => ?_) <;> first | exact Zx | (conv => whnf))))
    all_goals exact Zrz

end Go.Proofs.YtfinilnaofbkkaaGreat

namespace Go.Proofs.YtfinilnaofbkkaaGreat
open Go Go.RowKit
set_option linter.unusedVariables false
set_option linter.unusedSimpArgs false
set_option maxRecDepth 100000
set_option maxHeartbeats 4000000
attribute [local irreducible] ResLe AVle ArgLe ArgP EntLe Dle ResH ArgQ

theorem rduty_t (us : List Sl) (cs : List Ch) (hu : us.length ≤ 64) (hv : ∀ x ∈ us, slOk x) (hc : cs.length ≤ 64) (hw : ∀ x ∈ cs, chOk x) (ha : ascC cs) : ACalls XX 29 [.dat (slD us), .dat (chD cs)] (.tup [iA (if dutE cs us = 0 then dutV cs us else 0), iA (dutE cs us)]) := by
  refine ACalls.of (n := Tryz.f29.ntmps) XX_ok Tryz.func29 rfl (by kernel_rfl) rfl rfl (Nat.le_of_ble_eq_true rfl) ?_
  (repeat' (first | refine Zs ?_ | refine Zk ?_ | ((first | refine Za ?_ | refine Zr ?_ | refine Zp ?_ | refine Ze ?_ | refine Zd ?_ | refine W.drawT dr29 rfl mixed rfl ?_ | refine Zn ?_ | refine Zc ?_ | refine UnK.mk (fun b hb => ?_)); conv => whnf) | (refine Zb (fun h => ?_) (fun h => ?_) <;> first | exact Zx | (conv => whnf))))
  refine (W.loopK (ι := Nat) [0, 1] [] (fun k => [(7, iA k), (6, iA (dutV cs (us.take k)))]) (fun _ => []) (fun k => k ≤ us.length ∧ ∀ i, i < k → stepE cs (us.getD i default) = 0) (fun k => us.length - k) 0 ⟨Nat.zero_le _, fun i hi => absurd hi (by omega)⟩ ?_ ?_ ?_)
  · exact Yz
  · exact Yz
  conv => whnf
  intro k ⟨hk, hz⟩
  by_cases hk' : k < us.length
  · have hb := chargeOf_t cs (us.getD k default).m ha hc
    have hp := rportion_t (chOf cs (us.getD k default).m).a (chOf cs (us.getD k default).m).u (us.getD k default).s (us.getD k default).e
    have hr := dutV_rng cs us k hk hz
    have hs := dutV_snoc cs us k hk'
    obtain ⟨_, k3⟩ := loC_parts (t := (us.getD k default).m) ha
    have hE : stepE cs (us.getD k default) = (if ¬ hadC cs (us.getD k default).m then 6 else if porOk (chOf cs (us.getD k default).m).a (chOf cs (us.getD k default).m).u (us.getD k default).s (us.getD k default).e then 0 else 2) := rfl
    have hD := dutE_at hk' hz
    have hV : stepE cs (us.getD k default) = 0 → _ := stepV_rng
    have hW : stepV cs (us.getD k default) = porI (chOf cs (us.getD k default).m).a (chOf cs (us.getD k default).m).u (us.getD k default).s (us.getD k default).e := rfl
    have hx := hv _ (getD_in hk')
    by_cases hh : hadC cs (us.getD k default).m
    · obtain ⟨k4, k5⟩ := k3 hh
      have hch : chOk (chOf cs (us.getD k default).m) := hw _ (getD_in k4)
      rw [decide_eq_true hh, if_pos hh] at hb
      rw [if_neg (by simpa using hh)] at hE
      generalize chOf cs (us.getD k default).m = ch at *
      have hpo : porOk ch.a ch.u (us.getD k default).s (us.getD k default).e ↔ ¬ ch.u < (us.getD k default).e := by
        unfold slOk at hx
        unfold chOk at hch
        unfold porOk
        constructor
        · intro h; omega
        · intro h; exact ⟨hch.2.2.2, hch.2.2.1, by omega, by omega, by omega⟩
      by_cases hq : ch.u < (us.getD k default).e
      · have hq' : ¬ porOk ch.a ch.u (us.getD k default).s (us.getD k default).e := fun h => hpo.1 h hq
        rw [if_neg hq'] at hE
        have hD := hD (by omega)
        rw [hE] at hD
        (repeat' (first | refine Zs ?_ | refine Zk ?_ | ((first | refine Za ?_ | refine Zr ?_ | refine Zp ?_ | refine Ze ?_ | refine Zd ?_ | refine W.drawT dr29 rfl mixed rfl ?_ | refine Zn ?_ | refine Zc ?_ | refine UnK.mk (fun b hb => ?_)); conv => whnf) | (refine Zb (fun h => ?_) (fun h => ?_) <;> first | exact Zx | (conv => whnf))))
        all_goals (try dsimp only [Int.toNat_natCast] at *)
        (repeat' (first | refine Zs ?_ | refine Zk ?_ | ((first | refine Za ?_ | refine Zr ?_ | refine Zp ?_ | refine Ze ?_ | refine Zd ?_ | refine W.drawT dr29 rfl mixed rfl ?_ | refine Zn ?_ | refine Zc ?_ | refine UnK.mk (fun b hb => ?_) | refine Zy hb ?_ | refine Zz hb ?_); conv => whnf) | (refine Zb (fun h => ?_) (fun h => ?_) <;> first | exact Zx | (conv => whnf))))
        all_goals (try dsimp only [Int.toNat_natCast] at *)
        (repeat' (first | refine Zs ?_ | refine Zk ?_ | ((first | refine Za ?_ | refine Zr ?_ | refine Zp ?_ | refine Ze ?_ | refine Zd ?_ | refine W.drawT dr29 rfl mixed rfl ?_ | refine Zn ?_ | refine Zc ?_ | refine UnK.mk (fun b hb => ?_) | refine Zy hb ?_ | refine Zz hb ?_); conv => whnf) | (refine Zb (fun h => ?_) (fun h => ?_) <;> first | exact Zx | (conv => whnf))))
        all_goals first | (exfalso; omega) | ((repeat' (first | exact trivial | exact Zm | exact Zl | exact ResLe.row0 rfl | exact Zi (by first | rfl | omega | (rw [hD]; rfl)) | exact Zo (h := by first | rfl | omega | (rw [hD]; rfl)) | exact ResLe.bo rfl rfl Iff.rfl | refine ResLe.agg ?_ | refine And.intro ?_ ?_ | ((conv => whnf); first | exact Zl | exact ResLe.row0 rfl | exact Zi (by first | rfl | omega | (rw [hD]; rfl)) | exact Zo (h := by first | rfl | omega | (rw [hD]; rfl)) | exact ResLe.bo rfl rfl Iff.rfl | refine ResLe.agg ?_ | refine And.intro ?_ ?_))); done)
      · have hq' := hpo.2 hq
        rw [if_pos hq'] at hE
        rw [if_pos hq', if_pos hq', ← hW] at hp
        have hV := hV hE
        (repeat' (first | refine Zs ?_ | refine Zk ?_ | ((first | refine Za ?_ | refine Zr ?_ | refine Zp ?_ | refine Ze ?_ | refine Zd ?_ | refine W.drawT dr29 rfl mixed rfl ?_ | refine Zn ?_ | refine Zc ?_ | refine UnK.mk (fun b hb => ?_)); conv => whnf) | (refine Zb (fun h => ?_) (fun h => ?_) <;> first | exact Zx | (conv => whnf))))
        all_goals (try dsimp only [Int.toNat_natCast] at *)
        (repeat' (first | refine Zs ?_ | refine Zk ?_ | ((first | refine Za ?_ | refine Zr ?_ | refine Zp ?_ | refine Ze ?_ | refine Zd ?_ | refine W.drawT dr29 rfl mixed rfl ?_ | refine Zn ?_ | refine Zc ?_ | refine UnK.mk (fun b hb => ?_) | refine Zy hb ?_ | refine Zz hb ?_ | refine Zy hp ?_ | refine Zz hp ?_); conv => whnf) | (refine Zb (fun h => ?_) (fun h => ?_) <;> first | exact Zx | (conv => whnf))))
        all_goals (try dsimp only [Int.toNat_natCast] at *)
        (repeat' (first | refine Zs ?_ | refine Zk ?_ | ((first | refine Za ?_ | refine Zr ?_ | refine Zp ?_ | refine Ze ?_ | refine Zd ?_ | refine W.drawT dr29 rfl mixed rfl ?_ | refine Zn ?_ | refine Zc ?_ | refine UnK.mk (fun b hb => ?_) | refine Zy hb ?_ | refine Zz hb ?_ | refine Zy hp ?_ | refine Zz hp ?_); conv => whnf) | (refine Zb (fun h => ?_) (fun h => ?_) <;> first | exact Zx | (conv => whnf))))
        all_goals first | (exfalso; omega) | skip
        refine ⟨k + 1, ⟨by omega, fun i hi => ?_⟩, by omega, ?_, ?_, ?_, ?_⟩
        · by_cases hik : i = k
          · subst hik; exact hE
          · exact hz i (by omega)
        all_goals exact Yz
    · rw [decide_eq_false hh] at hb
      rw [if_pos (by simpa using hh)] at hE
      have hD := hD (by omega)
      rw [hE] at hD
      (repeat' (first | refine Zs ?_ | refine Zk ?_ | ((first | refine Za ?_ | refine Zr ?_ | refine Zp ?_ | refine Ze ?_ | refine Zd ?_ | refine W.drawT dr29 rfl mixed rfl ?_ | refine Zn ?_ | refine Zc ?_ | refine UnK.mk (fun b hb => ?_)); conv => whnf) | (refine Zb (fun h => ?_) (fun h => ?_) <;> first | exact Zx | (conv => whnf))))
      all_goals (try dsimp only [Int.toNat_natCast] at *)
      (repeat' (first | refine Zs ?_ | refine Zk ?_ | ((first | refine Za ?_ | refine Zr ?_ | refine Zp ?_ | refine Ze ?_ | refine Zd ?_ | refine W.drawT dr29 rfl mixed rfl ?_ | refine Zn ?_ | refine Zc ?_ | refine UnK.mk (fun b hb => ?_) | refine Zy hb ?_ | refine Zz hb ?_); conv => whnf) | (refine Zb (fun h => ?_) (fun h => ?_) <;> first | exact Zx | (conv => whnf))))
      all_goals (repeat' (first | exact trivial | exact Zm | exact Zl | exact ResLe.row0 rfl | exact Zi (by first | rfl | omega | (rw [hD]; rfl)) | exact Zo (h := by first | rfl | omega | (rw [hD]; rfl)) | exact ResLe.bo rfl rfl Iff.rfl | refine ResLe.agg ?_ | refine And.intro ?_ ?_ | ((conv => whnf); first | exact Zl | exact ResLe.row0 rfl | exact Zi (by first | rfl | omega | (rw [hD]; rfl)) | exact Zo (h := by first | rfl | omega | (rw [hD]; rfl)) | exact ResLe.bo rfl rfl Iff.rfl | refine ResLe.agg ?_ | refine And.intro ?_ ?_)))
  · have hke : k = us.length := by omega
    subst hke
    have hD := dutE_none hz
    (repeat' (first | refine Zs ?_ | refine Zk ?_ | ((first | refine Za ?_ | refine Zr ?_ | refine Zp ?_ | refine Ze ?_ | refine Zd ?_ | refine W.drawT dr29 rfl mixed rfl ?_ | refine Zn ?_ | refine Zc ?_ | refine UnK.mk (fun b hb => ?_)); conv => whnf) | (refine Zb (fun h => ?_) (fun h => ?_) <;> first | exact Zx | (conv => whnf))))
    simp only [List.take_length]
    all_goals (repeat' (first | exact trivial | exact Zm | exact Zl | exact ResLe.row0 rfl | exact Zi (by first | rfl | omega | (rw [hD]; rfl)) | exact Zo (h := by first | rfl | omega | (rw [hD]; rfl)) | exact ResLe.bo rfl rfl Iff.rfl | refine ResLe.agg ?_ | refine And.intro ?_ ?_ | ((conv => whnf); first | exact Zl | exact ResLe.row0 rfl | exact Zi (by first | rfl | omega | (rw [hD]; rfl)) | exact Zo (h := by first | rfl | omega | (rw [hD]; rfl)) | exact ResLe.bo rfl rfl Iff.rfl | refine ResLe.agg ?_ | refine And.intro ?_ ?_)))
end Go.Proofs.YtfinilnaofbkkaaGreat
