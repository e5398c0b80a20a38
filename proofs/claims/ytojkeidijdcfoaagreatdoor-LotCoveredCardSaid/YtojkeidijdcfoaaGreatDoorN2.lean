/- Lots moved and accepted: the package's and the reference's. -/
import Derived.Test.YtojkeidijdcfoaaGreatDoorLY
import Derived.Test.YtojkeidijdcfoaaGreatDoorN1
namespace Go.Proofs.YtojkeidijdcfoaaGreatDoor
open Go Go.RowKit
set_option linter.unusedVariables false
set_option linter.unusedSimpArgs false
set_option maxRecDepth 100000
set_option maxHeartbeats 4000000
attribute [local irreducible] ResLe AVle ArgLe ArgP EntLe Dle ResH ArgQ

def mt (p a : Int) (i : Nat) : Prop := mvL.getD (i * 3 + 0) 0 = a ∧ mvL.getD (i * 3 + 1) 0 = p
instance (p a : Int) (i : Nat) : Decidable (mt p a i) := by unfold mt; exact inferInstance
theorem pvalid_t (p : Int) : ACalls XX 69 [iA p] (bA (decide (0 ≤ p ∧ p ≤ 13))) := by
  refine ACalls.of (n := Tryz.f69.ntmps) XX_ok Tryz.func69 rfl (by kernel_rfl) rfl rfl (Nat.le_of_ble_eq_true rfl) ?_
  (repeat' (first | refine Zs ?_ | refine Zk ?_ | ((first | refine Za ?_ | refine Zr ?_ | refine Zp ?_ | refine Ze ?_ | refine Zd ?_ | refine Zn ?_ | refine Zc ?_ | refine UnK.mk (fun b hb => ?_)); conv => whnf) | (refine Zb (fun h => ?_) (fun h => ?_) <;> first | exact Zx | (conv => whnf))))
  all_goals exact Zrz
theorem pnext_at (p a : Int) (n : Nat) (hp : 0 ≤ p ∧ p ≤ 13) (ha : 1 ≤ a ∧ a ≤ 14) (hn : n ≤ 36) (h1 : ∀ i, i < n → ¬ mt p a i) (h2 : n = 36 ∨ mt p a n) :
    ACalls XX 43 [iA p, iA a] (.tup [iA (if n = 36 then 0 else mvL.getD (n * 3 + 2) 0), iA (if n = 36 then 17 else 0)]) := by
  have hv := pvalid_t p
  rw [decide_eq_true hp] at hv
  refine ACalls.of (n := Tryz.f43.ntmps) XX_ok Tryz.func43 rfl (by kernel_rfl) rfl rfl (Nat.le_of_ble_eq_true rfl) ?_
  (repeat' (first | refine Zs ?_ | refine Zk ?_ | ((first | refine Za ?_ | refine Zr ?_ | refine Zp ?_ | refine Ze ?_ | refine Zd ?_ | refine Zn ?_ | refine Zc ?_ | refine UnK.mk (fun b hb => ?_) | refine Zy hv ?_); conv => whnf) | (refine Zb (fun h => ?_) (fun h => ?_) <;> first | exact Zx | (conv => whnf))))
  all_goals first | (exfalso; omega) | skip
  refine (W.loopK (ι := Nat) [0, 1] [] (fun k => [(19, .agg (mvL.map iA)), (20, iA k)]) (fun _ => []) (fun k => k ≤ n) (fun k => n - k) 0 (by omega) ⟨AVle.of_eq rfl, AVle.refl _, trivial⟩ trivial ?_)
  conv => whnf
  intro k hk
  (repeat' (first | refine Zs ?_ | refine Zk ?_ | ((first | refine Za ?_ | refine Zr ?_ | refine Zp ?_ | refine Ze ?_ | refine Zd ?_ | refine Zn ?_ | refine Zc ?_ | refine UnK.mk (fun b hb => ?_)); conv => whnf) | (refine Zb (fun h => ?_) (fun h => ?_) <;> first | exact Zx | (conv => whnf))))
  · rename_i e4
    have hm : mt p a k := ⟨e4, h⟩
    have hkn : k = n := by
      have : ¬ k < n := fun hlt => h1 k hlt hm
      omega
    subst hkn
    rw [if_neg (by omega), if_neg (by omega)]
    (repeat' (first | exact trivial | exact AVle.refl _ | exact AVle.int (by first | rfl | omega) | exact ResLe.pure (AVle.refl _) rfl | exact ResLe.pure (AVle.int (by first | rfl | omega)) rfl | refine ResLe.pure (AVle.agg ?_) rfl | refine ⟨?_, ?_⟩ | ((conv => whnf); first | exact ResLe.pure (AVle.refl _) rfl | exact ResLe.pure (AVle.int (by first | rfl | omega)) rfl | refine ResLe.pure (AVle.agg ?_) rfl)))
  · have hkn : k ≠ n := fun e => by
      subst e
      rcases h2 with h2 | h2
      · omega
      · exact h h2.2
    (refine ⟨k + 1, by omega, by omega, ?_, ?_, ?_, ?_⟩ <;> (repeat' (first | exact trivial | exact AVle.refl _ | exact AVle.int (by omega) | exact AVle.int (by (try push_cast); omega) | exact ⟨_, rfl, EntLe.refl _, rfl⟩ | refine ⟨?_, ?_⟩)))
  · have hkn : k ≠ n := fun e => by
      subst e
      rcases h2 with h2 | h2
      · omega
      · exact h h2.1
    (refine ⟨k + 1, by omega, by omega, ?_, ?_, ?_, ?_⟩ <;> (repeat' (first | exact trivial | exact AVle.refl _ | exact AVle.int (by omega) | exact AVle.int (by (try push_cast); omega) | exact ⟨_, rfl, EntLe.refl _, rfl⟩ | refine ⟨?_, ?_⟩)))
  · have hkn : n = 36 := by omega
    subst hkn
    rw [if_pos rfl, if_pos rfl]
    (repeat' (first | exact trivial | exact AVle.refl _ | exact AVle.int (by first | rfl | omega) | exact ResLe.pure (AVle.refl _) rfl | exact ResLe.pure (AVle.int (by first | rfl | omega)) rfl | refine ResLe.pure (AVle.agg ?_) rfl | refine ⟨?_, ?_⟩ | ((conv => whnf); first | exact ResLe.pure (AVle.refl _) rfl | exact ResLe.pure (AVle.int (by first | rfl | omega)) rfl | refine ResLe.pure (AVle.agg ?_) rfl)))
theorem tab1 : ∀ n, n < 36 → nxQ (mvL.getD (n * 3 + 1) 0) (mvL.getD (n * 3 + 0) 0) = mvL.getD (n * 3 + 2) 0 ∧ mvL.getD (n * 3 + 2) 0 ≠ 0 := by decide
theorem tab2 : ∀ p, p < 14 → ∀ a, a < 15 → nxQ (p : Nat) (a : Nat) ≠ 0 → ∃ n, n < 36 ∧ mt (p : Nat) (a : Nat) n := by decide
theorem least_mt (p a : Int) : ∀ m, m ≤ 36 → ∃ n, n ≤ m ∧ (∀ i, i < n → ¬ mt p a i) ∧ (n = m ∨ mt p a n)
  | 0, _ => ⟨0, Nat.le_refl _, fun i hi => absurd hi (by omega), .inl rfl⟩
  | m + 1, hm => by
    obtain ⟨n, n1, n2, n3⟩ := least_mt p a m (by omega)
    rcases n3 with rfl | n3
    · by_cases hq : mt p a n
      · exact ⟨n, by omega, n2, .inr hq⟩
      · refine ⟨n + 1, Nat.le_refl _, fun i hi => ?_, .inl rfl⟩
        by_cases hin : i = n
        · subst hin; exact hq
        · exact n2 i (by omega)
    · exact ⟨n, by omega, n2, .inr n3⟩
theorem pnext_t (p a : Int) : ACalls XX 43 [iA p, iA a] (.tup [iA (nxR p a), iA (nxE p a)]) := by
  by_cases h0 : p < 0 ∨ 13 < p ∨ a < 1 ∨ 14 < a
  · have e : nxE p a = 2 := by unfold nxE; rw [if_pos h0]
    have e2 : nxR p a = 0 := by unfold nxR; rw [e]; rfl
    have hv := pvalid_t p
    rw [e, e2]
    by_cases hp : 0 ≤ p ∧ p ≤ 13
    · rw [decide_eq_true hp] at hv
      refine ACalls.of (n := Tryz.f43.ntmps) XX_ok Tryz.func43 rfl (by kernel_rfl) rfl rfl (Nat.le_of_ble_eq_true rfl) ?_
      (repeat' (first | refine Zs ?_ | refine Zk ?_ | ((first | refine Za ?_ | refine Zr ?_ | refine Zp ?_ | refine Ze ?_ | refine Zd ?_ | refine Zn ?_ | refine Zc ?_ | refine UnK.mk (fun b hb => ?_) | refine Zy hv ?_); conv => whnf) | (refine Zb (fun h => ?_) (fun h => ?_) <;> first | exact Zx | (conv => whnf))))
      all_goals first | exact Zrz | (exfalso; omega)
    · rw [decide_eq_false hp] at hv
      refine ACalls.of (n := Tryz.f43.ntmps) XX_ok Tryz.func43 rfl (by kernel_rfl) rfl rfl (Nat.le_of_ble_eq_true rfl) ?_
      (repeat' (first | refine Zs ?_ | refine Zk ?_ | ((first | refine Za ?_ | refine Zr ?_ | refine Zp ?_ | refine Ze ?_ | refine Zd ?_ | refine Zn ?_ | refine Zc ?_ | refine UnK.mk (fun b hb => ?_) | refine Zy hv ?_); conv => whnf) | (refine Zb (fun h => ?_) (fun h => ?_) <;> first | exact Zx | (conv => whnf))))
      all_goals first | exact Zrz | (exfalso; omega)
  · obtain ⟨n, n1, n2, n3⟩ := least_mt p a 36 (Nat.le_refl _)
    have hp : 0 ≤ p ∧ p ≤ 13 := by omega
    have ha : 1 ≤ a ∧ a ≤ 14 := by omega
    have h := pnext_at p a n hp ha n1 n2 n3
    by_cases hn : n = 36
    · subst hn
      have hq : nxQ p a = 0 := by
        by_cases hq : nxQ p a = 0
        · exact hq
        · have hP : ((p.toNat : Nat) : Int) = p := by omega
          have hA : ((a.toNat : Nat) : Int) = a := by omega
          obtain ⟨i, hi, hm⟩ := tab2 p.toNat (by omega) a.toNat (by omega) (by rw [hP, hA]; exact hq)
          rw [hP, hA] at hm
          exact absurd hm (n2 i hi)
      obtain ⟨e1, e2⟩ := nx_of h0 hq
      rw [if_pos rfl, if_pos rfl] at h
      rw [e1, e2, if_pos rfl]
      exact h
    · have hm : mt p a n := by
        rcases n3 with h1 | h1
        · exact absurd h1 hn
        · exact h1
      obtain ⟨t1, t2⟩ := tab1 n (by omega)
      rw [hm.1, hm.2] at t1
      obtain ⟨e1, e2⟩ := nx_of h0 t1
      rw [if_neg hn, if_neg hn] at h
      rw [e1, e2, if_neg t2]
      exact h

theorem move_t (ss : List Lt) (id a : Int) (hL : ss.length ≤ 9223372036854775807) : ACalls XX 15 [.dat (ltD ss), iA id, iA a] (.tup [.dat (ltD (movL ss id a)), iA (movE ss id a)]) := by
  have h1 := validate_t ss hL
  have hS : movL ss id a = if movE ss id a = 0 then ss.set (findI ss id) ⟨(findV ss id).id, (findV ss id).c, (findV ss id).q, nxR (findV ss id).p a, (findV ss id).us⟩ else [] := rfl
  by_cases e1 : stkErr ss = 0
  rotate_left
  · have hE : movE ss id a = stkErr ss := by unfold movE; rw [if_pos e1]
    rw [hS, hE, if_neg e1]
    refine ACalls.of (n := Tryz.f15.ntmps) XX_ok Tryz.func15 rfl (by kernel_rfl) rfl rfl (Nat.le_of_ble_eq_true rfl) ?_
    refine W.pb [40, 42] ?_
    (repeat' (first | refine Zs ?_ | refine Zk ?_ | ((first | refine Za ?_ | refine Zr ?_ | refine Zp ?_ | refine Ze ?_ | refine Zd ?_ | refine Zn ?_ | refine Zc ?_ | refine UnK.mk (fun b hb => ?_) | refine Zy (ACalls.at (h1)) ?_); conv => whnf) | (refine Zb (fun h => ?_) (fun h => ?_) <;> first | exact Zx | (conv => whnf))))
    all_goals first | exact Zrz | (exfalso; omega)
  have hO := stkErr_ok e1
  have hlen := hO.len
  have h2 := find_t ss id (by omega) (fun x hx => by have := hO.us x hx; omega)
  rw [e1] at h1
  by_cases hh : hasI ss id
  rotate_left
  · have hE : movE ss id a = 6 := by unfold movE; rw [if_neg (by simpa using e1), if_pos hh]
    rw [hS, hE, if_neg (by omega)]
    rw [decide_eq_false hh] at h2
    refine ACalls.of (n := Tryz.f15.ntmps) XX_ok Tryz.func15 rfl (by kernel_rfl) rfl rfl (Nat.le_of_ble_eq_true rfl) ?_
    refine W.pb [40, 42] ?_
    (repeat' (first | refine Zs ?_ | refine Zk ?_ | ((first | refine Za ?_ | refine Zr ?_ | refine Zp ?_ | refine Ze ?_ | refine Zd ?_ | refine Zn ?_ | refine Zc ?_ | refine UnK.mk (fun b hb => ?_) | refine Zy (ACalls.at (h1)) ?_ | refine Zy (ACalls.at (h2)) ?_); conv => whnf) | (refine Zb (fun h => ?_) (fun h => ?_) <;> first | exact Zx | (conv => whnf))))
    all_goals first | exact Zrz | (exfalso; omega)
  rw [decide_eq_true hh] at h2
  have hE : movE ss id a = nxE (findV ss id).p a := by unfold movE; rw [if_neg (by simpa using e1), if_neg (by simpa using hh)]
  have h3 := pnext_t (findV ss id).p a
  by_cases e3 : nxE (findV ss id).p a = 0
  · rw [mov_repl (hE.trans e3), hE, e3]
    rw [e3] at h3
    have hm := findV_mem hh
    have h4 := (replace_t ss [id] [⟨(findV ss id).id, (findV ss id).c, (findV ss id).q, nxR (findV ss id).p a, (findV ss id).us⟩] (by omega) (by simp) (by simp) (fun x hx => by have := hO.us x hx; omega) (fun x hx => by rw [List.mem_singleton.1 hx]; have := hO.us _ hm.1; show (findV ss id).us.length ≤ 1000000; omega)).args3 (AVle.refl _) (one_int _) (one_lt ⟨(findV ss id).id, (findV ss id).c, (findV ss id).q, nxR (findV ss id).p a, (findV ss id).us⟩)
    clear hE hS e1 e3 hm
    refine ACalls.of (n := Tryz.f15.ntmps) XX_ok Tryz.func15 rfl (by kernel_rfl) rfl rfl (Nat.le_of_ble_eq_true rfl) ?_
    refine W.pb [40, 42] ?_
    (repeat' (first | refine Zs ?_ | refine Zk ?_ | ((first | refine Za ?_ | refine Zr ?_ | refine Zp ?_ | refine Ze ?_ | refine Zd ?_ | refine Zn ?_ | refine Zc ?_ | refine UnK.mk (fun b hb => ?_) | refine Zy (ACalls.at (h1)) ?_ | refine Zy (ACalls.at (h2)) ?_ | refine Zy (ACalls.at (h3)) ?_ | refine Zy (ACalls.at (h4)) ?_); conv => whnf) | (refine Zb (fun h => ?_) (fun h => ?_) <;> first | exact Zx | (conv => whnf))))
    all_goals first | exact Zrz | (exfalso; omega)
  · rw [hS, hE, if_neg e3]
    clear hE hS e1
    refine ACalls.of (n := Tryz.f15.ntmps) XX_ok Tryz.func15 rfl (by kernel_rfl) rfl rfl (Nat.le_of_ble_eq_true rfl) ?_
    refine W.pb [40, 42] ?_
    (repeat' (first | refine Zs ?_ | refine Zk ?_ | ((first | refine Za ?_ | refine Zr ?_ | refine Zp ?_ | refine Ze ?_ | refine Zd ?_ | refine Zn ?_ | refine Zc ?_ | refine UnK.mk (fun b hb => ?_) | refine Zy (ACalls.at (h1)) ?_ | refine Zy (ACalls.at (h2)) ?_ | refine Zy (ACalls.at (h3)) ?_); conv => whnf) | (refine Zb (fun h => ?_) (fun h => ?_) <;> first | exact Zx | (conv => whnf))))
    all_goals first | exact Zrz | (exfalso; omega)

end Go.Proofs.YtojkeidijdcfoaaGreatDoor
