/- The law of Explode. -/
import Derived.Test.YtoeghejbgibioaaE7
import Derived.Test.YtoeghejbgibioaaH9
import Derived.Test.YtoeghejbgibioaaZ9
import Derived.Test.YtoeghejbgibioaaHA
namespace Go.Proofs.Ytoeghejbgibioaa
open Go Go.RowKit
set_option linter.unusedVariables false
set_option linter.unusedSimpArgs false
set_option maxRecDepth 100000
set_option maxHeartbeats 4000000
attribute [local irreducible] ResLe AVle ArgLe ArgP EntLe Dle ResH ArgQ strEq strLt

theorem sints_t (us : List Int) (hL : us.length ≤ 9223372036854775807) : ACalls XX 18 [.dat (iD us), .dat (iD us)] (bA true) := by
  refine ACalls.of (n := Try.f18.ntmps) XX_ok Try.func18 rfl (by kernel_rfl) rfl rfl (Nat.le_of_ble_eq_true rfl) ?_
  (repeat' (first | refine Zs ?_ | refine Zk ?_ | ((first | refine Za ?_ | refine Zr ?_ | refine Zp ?_ | refine Ze ?_ | refine Zd ?_ | refine W.drawT dr18 rfl mixed rfl ?_ | refine Zn ?_ | refine Zc ?_ | refine UnK.mk (fun b hb => ?_)); conv => whnf) | (refine Zb (fun h => ?_) (fun h => ?_) <;> first | exact Zx | (conv => whnf))))
  all_goals first | (exfalso; omega) | skip
  refine (W.loopK (ι := Nat) [0, 1] [] (fun k => [(5, iA k)]) (fun _ => []) (fun k => k ≤ us.length) (fun k => us.length - k) 0 (Nat.zero_le _) ?_ ?_ ?_)
  · exact Yz
  · exact Yz
  conv => whnf
  intro k hk
  by_cases hk' : k < us.length
  · (repeat' (first | refine Zs ?_ | refine Zk ?_ | ((first | refine Za ?_ | refine Zr ?_ | refine Zp ?_ | refine Ze ?_ | refine Zd ?_ | refine W.drawT dr18 rfl mixed rfl ?_ | refine Zn ?_ | refine Zc ?_ | refine UnK.mk (fun b hb => ?_)); conv => whnf) | (refine Zb (fun h => ?_) (fun h => ?_) <;> first | exact Zx | (conv => whnf))))
    all_goals (try dsimp only [Int.toNat_natCast] at *)
    (repeat' (first | refine Zs ?_ | refine Zk ?_ | ((first | refine Za ?_ | refine Zr ?_ | refine Zp ?_ | refine Ze ?_ | refine Zd ?_ | refine W.drawT dr18 rfl mixed rfl ?_ | refine Zn ?_ | refine Zc ?_ | refine UnK.mk (fun b hb => ?_)); conv => whnf) | (refine Zb (fun h => ?_) (fun h => ?_) <;> first | exact Zx | (conv => whnf))))
    all_goals (try dsimp only [Int.toNat_natCast] at *)
    all_goals first | (exfalso; omega) | (exfalso; exact h rfl) | skip
    all_goals (refine ⟨k + 1, by omega, by omega, ?_, ?_, ?_, ?_⟩)
    all_goals exact Yz
  · (repeat' (first | refine Zs ?_ | refine Zk ?_ | ((first | refine Za ?_ | refine Zr ?_ | refine Zp ?_ | refine Ze ?_ | refine Zd ?_ | refine W.drawT dr18 rfl mixed rfl ?_ | refine Zn ?_ | refine Zc ?_ | refine UnK.mk (fun b hb => ?_)); conv => whnf) | (refine Zb (fun h => ?_) (fun h => ?_) <;> first | exact Zx | (conv => whnf))))
    all_goals first | (exfalso; omega) | ((repeat' (first | exact trivial | exact Zm | exact Zl | exact ResLe.row0 rfl | exact Zi (by first | rfl | omega) | exact Zo (h := by first | rfl | omega) | exact ResLe.bo rfl rfl Iff.rfl | refine ResLe.agg ?_ | refine And.intro ?_ ?_ | ((conv => whnf); first | exact Zl | exact ResLe.row0 rfl | exact Zi (by first | rfl | omega) | exact Zo (h := by first | rfl | omega) | exact ResLe.bo rfl rfl Iff.rfl | refine ResLe.agg ?_ | refine And.intro ?_ ?_))); done)
theorem ex_len (rs : List Rc) (c : ByteArray) (q : Int) : (exN rs c q).length ≤ 1000 ∧ (exB rs c q).length ≤ 1000 := by
  by_cases hE : exE rs c q = 0
  rotate_left
  · obtain ⟨e1, e2⟩ := ex_no rfl hE
    rw [e1, e2]
    simp
  have h32 : ¬ 32 < rs.length := fun h => by unfold exE at hE; rw [if_pos h] at hE; exact absurd hE (by decide)
  have hF : exErr rs = 0 := by
    by_cases h : exErr rs = 0
    · exact h
    · unfold exE at hE; rw [if_neg h32, if_pos h] at hE; exact absurd hE h
  have hR := exErr_ok hF (by omega)
  have hc : cOk c ∧ 1 ≤ q ∧ q ≤ 1000000000 := by
    by_cases h : cOk c ∧ 1 ≤ q ∧ q ≤ 1000000000
    · exact h
    · unfold exE at hE; rw [if_neg h32, if_neg (by simpa using hF), if_pos h] at hE; exact absurd hE (by decide)
  have ho : (ordR rs c).1 = true := by
    by_cases h : (ordR rs c).1 = false
    · unfold exE at hE; rw [if_neg h32, if_neg (by simpa using hF), if_neg (fun hh => hh hc), if_pos h] at hE; exact absurd hE (by decide)
    · simpa using h
  unfold exN exB
  rw [if_pos hE, if_pos hE]
  cases hr : rnAll rs (ordL rs c) c q with
  | none => simp
  | some s =>
    have hE2 := eno_of hR (by omega) ho hr
    dsimp only
    rw [sortN_len, hE2.len]
    unfold ndsOf
    rw [List.length_map]
    have h1 := List.length_filter_le (ndP rs) s.1
    have h2 := hE2.ok.2
    have h3 := hR.1
    omega
theorem lawExplode_t (x0 : List Int) (rs : List Rc) (c : ByteArray) (a3 : Int) (b4 : Bool) (k0 : x0.length ≤ 9223372036854775807) (hL : rs.length ≤ 9223372036854775807) (hB : ∀ r ∈ rs, rcF r) (hcs : c.size ≤ 9223372036854775807) :
    ACalls XX 4 [.dat (ilst x0), .dat (rcD rs), sY c, iA a3, bA b4] (bA true) := by
  cases b4 with
  | true =>
    by_cases h40 : 40 < rs.length
    · refine ACalls.of (n := Try.f4.ntmps) XX_ok Try.func4 rfl (by kernel_rfl) rfl rfl (Nat.le_of_ble_eq_true rfl) ?_
      (repeat' (first | refine Zs ?_ | refine Zk ?_ | ((first | refine Za ?_ | refine Zr ?_ | refine Zp ?_ | refine Ze ?_ | refine Zd ?_ | refine Zn ?_ | refine Zc ?_ | refine UnK.mk (fun b hb => ?_) | refine Zy yawake_t ?_); conv => whnf) | (refine Zb (fun h => ?_) (fun h => ?_) <;> first | exact Zx | (conv => whnf))))
      all_goals first | (exfalso; omega) | ((repeat' (first | exact trivial | exact Zm | exact Zl | exact ResLe.row0 rfl | exact Zi (by first | rfl | omega) | exact Zo (h := by first | rfl | omega) | exact ResLe.bo rfl rfl Iff.rfl | refine ResLe.agg ?_ | refine And.intro ?_ ?_ | ((conv => whnf); first | exact Zl | exact ResLe.row0 rfl | exact Zi (by first | rfl | omega) | exact Zo (h := by first | rfl | omega) | exact ResLe.bo rfl rfl Iff.rfl | refine ResLe.agg ?_ | refine And.intro ?_ ?_))); done)
    refine ACalls.of (n := Try.f4.ntmps) XX_ok Try.func4 rfl (by kernel_rfl) rfl rfl (Nat.le_of_ble_eq_true rfl) ?_
    · have m1 := yexplode_t rs (c) (a3) (by omega) (fun r hr => by have := (hB) r hr; exact ⟨this.1, this.2.1, this.2.2.1⟩)
      have m2 := rexplode_t rs (c) (a3) (by omega) (hB) (hcs)
      have hl := ex_len rs (c) (a3)
      have s1 := ysame_t (exN rs (c) (a3)) (by omega)
      have s2 := sints_t (exB rs (c) (a3)) (by omega)
      generalize exN rs (c) (a3) = eN at *
      generalize exB rs (c) (a3) = eB at *
      generalize exE rs (c) (a3) = eE at *
      (repeat' (first | refine Zs ?_ | refine Zk ?_ | ((first | refine Za ?_ | refine Zr ?_ | refine Zp ?_ | refine Ze ?_ | refine Zd ?_ | refine Zn ?_ | refine Zc ?_ | refine UnK.mk (fun b hb => ?_) | refine Zy m1 ?_ | refine Zy m2 ?_ | refine Zy s1 ?_ | refine Zy s2 ?_ | refine Zy yawake_t ?_); conv => whnf) | (refine Zb (fun h => ?_) (fun h => ?_) <;> first | exact Zx | (conv => whnf))))
      all_goals first | (exfalso; omega) | (exfalso; exact h rfl) | ((repeat' (first | exact trivial | exact Zm | exact Zl | exact ResLe.row0 rfl | exact Zi (by first | rfl | simp) | exact Zo (h := by first | rfl | simp) | exact ResLe.bo rfl rfl Iff.rfl | refine ResLe.agg ?_ | refine And.intro ?_ ?_ | ((conv => whnf); first | exact Zl | exact ResLe.row0 rfl | exact Zi (by first | rfl | simp) | exact Zo (h := by first | rfl | simp) | exact ResLe.bo rfl rfl Iff.rfl | refine ResLe.agg ?_ | refine And.intro ?_ ?_))); done)
  | false =>
    obtain ⟨ms, ⟨L0, s0, hs, hrs⟩, hM⟩ := mill_t x0 k0
    have hw := within_t a3 300 (by decide) (by decide)
    have hw1 := Int.emod_nonneg a3 (show (300 : Int) ≠ 0 by decide)
    have hw2 := Int.emod_lt_of_pos a3 (show (0 : Int) < 300 by decide)
    have hv := within_t a3 5 (by decide) (by decide)
    have hv1 := Int.emod_nonneg a3 (show (5 : Int) ≠ 0 by decide)
    have hv2 := Int.emod_lt_of_pos a3 (show (0 : Int) < 5 by decide)
    have hlen : ms.length ≤ 8 := by rw [hrs]; exact hs.len
    have hB2 : ∀ r ∈ ms, rcF r := fun r hr => by
      rw [hrs] at hr
      obtain ⟨_, ⟨g1, _, h2⟩, ⟨g3, _, h4⟩, h5, _⟩ := (hs.ok r hr).1
      have hsz : ∀ us : List Nd, ascOk us 1 1000000000 → ∀ y ∈ us, y.c.size ≤ 9223372036854775807 := fun us hu y hy => by
        obtain ⟨i, hi', rfl⟩ := List.getElem_of_mem hy
        have := (hu i hi').1.1
        rw [ygetD_of hi'] at this
        omega
      exact ⟨by omega, by omega, by omega, hsz _ g1, hsz _ g3⟩
    clear hs hrs
    obtain ⟨ck, hck⟩ : ∃ ck : ByteArray, ck = [mc0, mc1, mc2, mc5, mc7].getD ((0 + (a3 % 5).toNat) * 1 + 0) ByteArray.empty := ⟨_, rfl⟩
    have hcz : ck.size ≤ 9223372036854775807 := by
      have h1 : ∀ n, n < 5 → ([mc0, mc1, mc2, mc5, mc7].getD n ByteArray.empty).size ≤ 8 := by decide
      have h2 := h1 ((0 + (a3 % 5).toNat) * 1 + 0) (by omega)
      rw [← hck] at h2
      omega
    refine ACalls.of (n := Try.f4.ntmps) XX_ok Try.func4 rfl (by kernel_rfl) rfl rfl (Nat.le_of_ble_eq_true rfl) ?_
    (repeat' (first | refine Zs ?_ | refine Zk ?_ | ((first | refine Zas 6 ?_ | refine Zr ?_ | refine Zp ?_ | refine Ze ?_ | refine Zd ?_ | refine Zn ?_ | refine Zc ?_ | refine UnK.mk (fun b hb => ?_) | refine Zy hM ?_ | refine Zy hw ?_ | refine Zy hv ?_); conv => whnf) | (refine Zb (fun h => ?_) (fun h => ?_) <;> first | exact Zx | (conv => whnf))))
    all_goals first | (exfalso; omega) | skip
    rw [← hck]
    clear hck
    · have m1 := yexplode_t ms (ck) (1 + a3 % 300) (by omega) (fun r hr => by have := (hB2) r hr; exact ⟨this.1, this.2.1, this.2.2.1⟩)
      have m2 := rexplode_t ms (ck) (1 + a3 % 300) (by omega) (hB2) (hcz)
      have hl := ex_len ms (ck) (1 + a3 % 300)
      have s1 := ysame_t (exN ms (ck) (1 + a3 % 300)) (by omega)
      have s2 := sints_t (exB ms (ck) (1 + a3 % 300)) (by omega)
      generalize exN ms (ck) (1 + a3 % 300) = eN at *
      generalize exB ms (ck) (1 + a3 % 300) = eB at *
      generalize exE ms (ck) (1 + a3 % 300) = eE at *
      (repeat' (first | refine Zs ?_ | refine Zk ?_ | ((first | refine Za ?_ | refine Zr ?_ | refine Zp ?_ | refine Ze ?_ | refine Zd ?_ | refine Zn ?_ | refine Zc ?_ | refine UnK.mk (fun b hb => ?_) | refine Zy m1 ?_ | refine Zy m2 ?_ | refine Zy s1 ?_ | refine Zy s2 ?_ | refine Zy yawake_t ?_); conv => whnf) | (refine Zb (fun h => ?_) (fun h => ?_) <;> first | exact Zx | (conv => whnf))))
      all_goals first | (exfalso; omega) | (exfalso; exact h rfl) | ((repeat' (first | exact trivial | exact Zm | exact Zl | exact ResLe.row0 rfl | exact Zi (by first | rfl | simp) | exact Zo (h := by first | rfl | simp) | exact ResLe.bo rfl rfl Iff.rfl | refine ResLe.agg ?_ | refine And.intro ?_ ?_ | ((conv => whnf); first | exact Zl | exact ResLe.row0 rfl | exact Zi (by first | rfl | simp) | exact Zo (h := by first | rfl | simp) | exact ResLe.bo rfl rfl Iff.rfl | refine ResLe.agg ?_ | refine And.intro ?_ ?_))); done)
end Go.Proofs.Ytoeghejbgibioaa
