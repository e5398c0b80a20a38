/- The law that the duties of all lots add up to the duties of all sources. -/
import Derived.Test.YtfinilnaofbkkaaHH
namespace Go.Proofs.Ytfinilnaofbkkaa
open Go Go.RowKit
set_option linter.unusedVariables false
set_option linter.unusedSimpArgs false
set_option maxRecDepth 100000
set_option maxHeartbeats 4000000
attribute [local irreducible] ResLe AVle ArgLe ArgP EntLe Dle ResH ArgQ

theorem Brd.byA {ss : List Lt} {cs : List Ch} (h : Brd ss cs) : byE ss cs = 0 := by
  unfold byE
  rw [if_neg (by simpa using stkErr_zero h.stk), if_neg (by simpa using h.chs), orD_none fun i hi => h.dut (getD_in hi)]
theorem dut_topA {ss : List Lt} {cs : List Ch} (h : Brd ss cs) {x : Lt} (hx : x ∈ ss) : dutV cs x.us ≤ 64000000000000 := by
  have h1 := (dutV_rng cs x.us x.us.length (Nat.le_refl _) fun i hi => h.step hx (getD_in hi)).2
  have h2 := h.stk.us x hx
  rw [List.take_length] at h1
  omega
def duS (l : List Du) (k : Nat) : Int := ((l.take k).map Du.a).sum
theorem duS_snoc (l : List Du) (k : Nat) (h : k < l.length) : duS l (k + 1) = duS l k + (l.getD k default).a := by
  unfold duS
  rw [take_snoc l k h, List.map_append, List.sum_append]
  simp
def caS (l : List Ch) (k : Nat) : Int := ((l.take k).map Ch.a).sum
theorem caS_snoc (l : List Ch) (k : Nat) (h : k < l.length) : caS l (k + 1) = caS l k + (l.getD k default).a := by
  unfold caS
  rw [take_snoc l k h, List.map_append, List.sum_append]
  simp
theorem duS_rng {l : List Du} (h : ∀ y ∈ l, 0 ≤ y.a ∧ y.a ≤ 64000000000000) : ∀ k, k ≤ l.length → 0 ≤ duS l k ∧ duS l k ≤ 64000000000000 * k
  | 0, _ => by simp [duS]
  | k + 1, hk => by
    have h1 := duS_rng h k (by omega)
    have h2 := h _ (getD_in (k := k) (by omega))
    rw [duS_snoc l k (by omega)]
    push_cast
    omega
theorem caS_rng {l : List Ch} (h : ∀ c ∈ l, amOk c.a) : ∀ k, k ≤ l.length → 0 ≤ caS l k ∧ caS l k ≤ 1000000000000 * k
  | 0, _ => by simp [caS]
  | k + 1, hk => by
    have h1 := caS_rng h k (by omega)
    have h2 := h _ (getD_in (k := k) (by omega))
    unfold amOk at h2
    rw [caS_snoc l k (by omega)]
    push_cast
    omega
theorem lawExact27_t (x0 x1 : List Int) (k0 : x0.length ≤ 9223372036854775807) (k1 : x1.length ≤ 9223372036854775807) : ACalls XX 3 [.dat (ilst x0), .dat (ilst x1)] (bA true) := by
  have hQ := l27awake_t
  obtain ⟨n, ss, cs, f, hn, ⟨hA, hl25, hc31⟩, kM⟩ := make_ex2 x0 k0
  obtain ⟨hE, hf, hcl⟩ := acts_est hA
  have hO := hE.stk
  have B1 := est_brd hE (by omega) (by omega) x1
  have kC1 := charged_t ss cs f x1 k1 (by omega)
  have g1 := chgL_len cs x1
  have d1 := byLot_t ss (chgL cs x1) (by omega) (by omega)
  have b1 : byL ss (chgL cs x1) = dusL ss (chgL cs x1) := by unfold byL; rw [if_pos B1.byA]
  rw [b1, B1.byA] at d1
  have hdl := dusL_len ss (chgL cs x1)
  have hat := fun k (h : k < ss.length) => dusL_at (ss := ss) (cs := chgL cs x1) h
  have hdm : ∀ y ∈ dusL ss (chgL cs x1), 0 ≤ y.a ∧ y.a ≤ 64000000000000 := fun y hy => by
    obtain ⟨x, hx, rfl⟩ := List.mem_map.1 hy
    exact ⟨B1.nn hx, dut_topA B1 hx⟩
  have hsum : duS (dusL ss (chgL cs x1)) ss.length = caS (chgL cs x1) cs.length := by
    unfold duS caS
    rw [List.take_of_length_le (by omega), List.take_of_length_le (by omega), ← B1.all]
    unfold dusL
    rw [List.map_map]
    rfl
  have hm1 : ∀ c ∈ chgL cs x1, amOk c.a := fun c hc => (B1.ok c hc).2.2.2
  have r1 := duS_rng hdm
  have r2 := caS_rng hm1
  have hid : ∀ k, k < ss.length → ((dusL ss (chgL cs x1)).getD k default).l = (ss.getD k default).id := fun k hk => by rw [hat k hk]
  generalize dusL ss (chgL cs x1) = d at *
  generalize chgL cs x1 = ca at *
  clear B1 hE hA hO hcl hat b1
  refine ACalls.of (n := Try.f3.ntmps) XX_ok Try.func3 rfl (by kernel_rfl) rfl rfl (Nat.le_of_ble_eq_true rfl) ?_
  (repeat' (first | refine Zs ?_ | refine Zk ?_ | ((first | refine Za ?_ | refine Zr ?_ | refine Zp ?_ | refine Ze ?_ | refine Zd ?_ | refine W.drawT dr3 rfl mixed rfl ?_ | refine Zn ?_ | refine Zc ?_ | refine UnK.mk (fun b hb => ?_) | refine Zy kM ?_ | refine Zz kM ?_ | refine Zy kC1 ?_ | refine Zz kC1 ?_ | refine Zy d1 ?_ | refine Zz d1 ?_); conv => whnf) | (refine Zb (fun h => ?_) (fun h => ?_) <;> first | exact Zx | (conv => whnf))))
  all_goals first | (exfalso; omega) | skip
  refine (W.loopK (ι := Nat) [5, 6, 7] [5] (fun k => [(10, iA k), (9, iA (duS d k))]) (fun _ => []) (fun k => k ≤ ss.length) (fun k => ss.length - k) 0 (Nat.zero_le _) ?_ ?_ ?_)
  · exact Yz
  · exact Yz
  conv => whnf
  intro k hk
  by_cases hk' : k < ss.length
  · have h1 := hdm _ (getD_in (k := k) (by omega))
    have h2 := duS_snoc d k (by omega)
    have h3 := r1 k (by omega)
    have h5 := hid k hk'
    (repeat' (first | refine Zs ?_ | refine Zk ?_ | ((first | refine Za ?_ | refine Zr ?_ | refine Zp ?_ | refine Ze ?_ | refine Zd ?_ | refine W.drawT dr3 rfl mixed rfl ?_ | refine Zn ?_ | refine Zc ?_ | refine UnK.mk (fun b hb => ?_)); conv => whnf) | (refine Zb (fun h => ?_) (fun h => ?_) <;> first | exact Zx | (conv => whnf))))
    all_goals (try dsimp only [Int.toNat_natCast] at *)
    (repeat' (first | refine Zs ?_ | refine Zk ?_ | ((first | refine Za ?_ | refine Zr ?_ | refine Zp ?_ | refine Ze ?_ | refine Zd ?_ | refine W.drawT dr3 rfl mixed rfl ?_ | refine Zn ?_ | refine Zc ?_ | refine UnK.mk (fun b hb => ?_)); conv => whnf) | (refine Zb (fun h => ?_) (fun h => ?_) <;> first | exact Zx | (conv => whnf))))
    all_goals first | (exfalso; omega) | skip
    refine ⟨k + 1, by omega, by omega, ?_, ?_, ?_, ?_⟩
    all_goals (repeat' (first | exact trivial | exact Yr | exact Yi (by first | rfl | exact h2.symm | omega) | exact Yo (by first | rfl | exact h2.symm | omega) | exact Yd | exact Yn | exact Ye (by first | rfl | exact h2.symm | omega) | exact ⟨_, rfl, Yf, rfl⟩ | refine ⟨_, rfl, Yb ?_, rfl⟩ | refine ⟨_, rfl, Yw (by first | rfl | exact h2.symm | omega) ?_, rfl⟩ | refine And.intro ?_ ?_))
  · obtain rfl : k = ss.length := by omega
    rw [hsum]
    (repeat' (first | refine Zs ?_ | refine Zk ?_ | ((first | refine Za ?_ | refine Zr ?_ | refine Zp ?_ | refine Ze ?_ | refine Zd ?_ | refine W.drawT dr3 rfl mixed rfl ?_ | refine Zn ?_ | refine Zc ?_ | refine UnK.mk (fun b hb => ?_)); conv => whnf) | (refine Zb (fun h => ?_) (fun h => ?_) <;> first | exact Zx | (conv => whnf))))
    all_goals first | (exfalso; omega) | skip
    refine (W.loopK (ι := Nat) [6] [] (fun k => [(11, iA k), (9, iA (caS ca cs.length - caS ca k))]) (fun _ => []) (fun k => k ≤ cs.length) (fun k => cs.length - k) 0 (Nat.zero_le _) ?_ ?_ ?_)
    · (repeat' (first | exact trivial | exact Yr | exact Yi (by first | rfl | (simp [caS]; done) | omega) | exact Yo (by first | rfl | (simp [caS]; done) | omega) | exact Yd | exact Yn | exact Ye (by first | rfl | (simp [caS]; done) | omega) | exact ⟨_, rfl, Yf, rfl⟩ | refine ⟨_, rfl, Yb ?_, rfl⟩ | refine ⟨_, rfl, Yw (by first | rfl | (simp [caS]; done) | omega) ?_, rfl⟩ | refine And.intro ?_ ?_))
    · exact Yz
    conv => whnf
    intro k hk
    by_cases hk' : k < cs.length
    · have h1 := hm1 _ (getD_in (k := k) (by omega))
      have h3 := caS_snoc ca k (by omega)
      have h4 := r2 k (by omega)
      have h5 := r2 cs.length (by omega)
      unfold amOk at h1
      (repeat' (first | refine Zs ?_ | refine Zk ?_ | ((first | refine Za ?_ | refine Zr ?_ | refine Zp ?_ | refine Ze ?_ | refine Zd ?_ | refine W.drawT dr3 rfl mixed rfl ?_ | refine Zn ?_ | refine Zc ?_ | refine UnK.mk (fun b hb => ?_)); conv => whnf) | (refine Zb (fun h => ?_) (fun h => ?_) <;> first | exact Zx | (conv => whnf))))
      all_goals (try dsimp only [Int.toNat_natCast] at *)
      (repeat' (first | refine Zs ?_ | refine Zk ?_ | ((first | refine Za ?_ | refine Zr ?_ | refine Zp ?_ | refine Ze ?_ | refine Zd ?_ | refine W.drawT dr3 rfl mixed rfl ?_ | refine Zn ?_ | refine Zc ?_ | refine UnK.mk (fun b hb => ?_)); conv => whnf) | (refine Zb (fun h => ?_) (fun h => ?_) <;> first | exact Zx | (conv => whnf))))
      all_goals first | (exfalso; omega) | skip
      refine ⟨k + 1, by omega, by omega, ?_, ?_, ?_, ?_⟩
      all_goals exact Yz
    · obtain rfl : k = cs.length := by omega
      rw [Int.sub_self]
      (repeat' (first | refine Zs ?_ | refine Zk ?_ | ((first | refine Za ?_ | refine Zr ?_ | refine Zp ?_ | refine Ze ?_ | refine Zd ?_ | refine W.drawT dr3 rfl mixed rfl ?_ | refine Zn ?_ | refine Zc ?_ | refine UnK.mk (fun b hb => ?_) | refine Zy hQ ?_ | refine Zz hQ ?_); conv => whnf) | (refine Zb (fun h => ?_) (fun h => ?_) <;> first | exact Zx | (conv => whnf))))
      all_goals first | exact Zrz | (exfalso; omega)
end Go.Proofs.Ytfinilnaofbkkaa
