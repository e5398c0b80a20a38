/- Lots accepted by the reference; the law of lots presented, accepted, moved. -/
import Derived.Test.YtojkeidijdcfoaaGreatDoorN2
namespace Go.Proofs.YtojkeidijdcfoaaGreatDoor
open Go Go.RowKit
set_option linter.unusedVariables false
set_option linter.unusedSimpArgs false
set_option maxRecDepth 100000
set_option maxHeartbeats 4000000
attribute [local irreducible] ResLe AVle ArgLe ArgP EntLe Dle ResH ArgQ

theorem keep_none {ss : List Lt} {id : Int} (h : ¬ hasI ss id) : keepI ss [id] = ss := List.filter_eq_self.2 fun y hy => by
  have : y.id ≠ id := fun e => h ⟨y, hy, e⟩
  simpa using this
theorem raccept_t (ss : List Lt) (x : Lt) (hL : ss.length ≤ 9223372036854775807) (hC : ∀ y ∈ ss, y.c.size ≤ 9223372036854775807) (hx : x.c.size ≤ 9223372036854775807) : ACalls XX 14 [.dat (ltD ss), ltA x] (.tup [.dat (ltD (accL ss x)), iA (accE ss x)]) := by
  have h1 := rstock_t ss hL hC
  have h2 := (rstock_t [x] (by simp) (fun y hy => by rw [List.mem_singleton.1 hy]; exact hx)).args1 (one_lt x)
  have hS : accL ss x = if accE ss x = 0 then replL ss [x.id] [x] else [] := rfl
  by_cases e1 : stkErr ss = 0
  rotate_left
  · have hE : accE ss x = stkErr ss := by unfold accE; rw [if_pos e1]
    rw [hS, hE, if_neg e1]
    clear hE hS
    refine ACalls.of (n := Tryz.f14.ntmps) XX_ok Tryz.func14 rfl (by kernel_rfl) rfl rfl (Nat.le_of_ble_eq_true rfl) ?_
    refine W.pb [15, 62, 69] ?_
    (repeat' (first | refine Zs ?_ | refine Zk ?_ | ((first | refine Za ?_ | refine Zr ?_ | refine Zp ?_ | refine Ze ?_ | refine Zd ?_ | refine W.drawP dr14 rfl mixed rfl ?_ | refine Zn ?_ | refine Zc ?_ | refine UnK.mk (fun b hb => ?_) | refine Zy (ACalls.at (h1)) ?_ | refine Zz (ACalls.at (h1)) ?_); conv => whnf) | (refine Zb (fun h => ?_) (fun h => ?_) <;> first | exact Zx | (conv => whnf))))
    all_goals first | exact Zrz | (exfalso; omega)
  have hO := stkErr_ok e1
  have hlen := hO.len
  rw [e1] at h1
  by_cases e2 : stkErr [x] = 0
  rotate_left
  · have hE : accE ss x = stkErr [x] := by unfold accE; rw [if_neg (by simpa using e1), if_pos e2]
    rw [hS, hE, if_neg e2]
    clear hE hS e1
    refine ACalls.of (n := Tryz.f14.ntmps) XX_ok Tryz.func14 rfl (by kernel_rfl) rfl rfl (Nat.le_of_ble_eq_true rfl) ?_
    refine W.pb [15, 62, 69] ?_
    (repeat' (first | refine Zs ?_ | refine Zk ?_ | ((first | refine Za ?_ | refine Zr ?_ | refine Zp ?_ | refine Ze ?_ | refine Zd ?_ | refine W.drawP dr14 rfl mixed rfl ?_ | refine Zn ?_ | refine Zc ?_ | refine UnK.mk (fun b hb => ?_) | refine Zy (ACalls.at (h1)) ?_ | refine Zz (ACalls.at (h1)) ?_ | refine Zy (ACalls.at (h2)) ?_ | refine Zz (ACalls.at (h2)) ?_); conv => whnf) | (refine Zb (fun h => ?_) (fun h => ?_) <;> first | exact Zx | (conv => whnf))))
    all_goals first | exact Zrz | (exfalso; omega)
  have hO1 := stkErr_ok e2
  have hxu := hO1.us x (by simp)
  have hxo := hO1.ok x (by simp)
  have hxn := ((reps_nodup hO1.ok).1 hO1.rep).1 x (by simp)
  rw [e2] at h2
  by_cases e3 : x.p = 1
  rotate_left
  · have hE : accE ss x = 17 := by unfold accE; rw [if_neg (by simpa using e1), if_neg (by simpa using e2), if_pos e3]
    rw [hS, hE, if_neg (by omega)]
    clear hE hS e1 e2
    refine ACalls.of (n := Tryz.f14.ntmps) XX_ok Tryz.func14 rfl (by kernel_rfl) rfl rfl (Nat.le_of_ble_eq_true rfl) ?_
    refine W.pb [15, 62, 69] ?_
    (repeat' (first | refine Zs ?_ | refine Zk ?_ | ((first | refine Za ?_ | refine Zr ?_ | refine Zp ?_ | refine Ze ?_ | refine Zd ?_ | refine W.drawP dr14 rfl mixed rfl ?_ | refine Zn ?_ | refine Zc ?_ | refine UnK.mk (fun b hb => ?_) | refine Zy (ACalls.at (h1)) ?_ | refine Zz (ACalls.at (h1)) ?_ | refine Zy (ACalls.at (h2)) ?_ | refine Zz (ACalls.at (h2)) ?_); conv => whnf) | (refine Zb (fun h => ?_) (fun h => ?_) <;> first | exact Zx | (conv => whnf))))
    all_goals first | exact Zrz | (exfalso; omega)
  have h3 := rat_t ss x.id (by omega)
  have hE0 : accE ss x = if (hasI ss x.id ∧ (findV ss x.id).p ≠ 13) ∨ reps (ss ++ [x]) then 13 else if ¬ hasI ss x.id ∧ 64 ≤ ss.length then 8 else 0 := by
    unfold accE
    rw [if_neg (by simpa using e1), if_neg (by simpa using e2), if_neg (by simpa using e3)]
  have hR := reps_app hO hxo (by omega) hxn
  clear e1 e2
  by_cases e4 : hasI ss x.id ∧ (findV ss x.id).p ≠ 13
  · obtain ⟨hh, e5⟩ := e4
    have hE : accE ss x = 13 := by rw [hE0, if_pos (.inl ⟨hh, e5⟩)]
    rw [hS, hE, if_neg (by omega)]
    obtain ⟨k0, q1, q2, q3, q4, q5⟩ := findI_ex hh
    rw [at_has hh, q2] at h3
    rw [← q5] at e5
    have e5' : (ss.getD ((k0 : Int)).toNat default).p ≠ 13 := e5
    clear hE hE0 hS q2 q5
    refine ACalls.of (n := Tryz.f14.ntmps) XX_ok Tryz.func14 rfl (by kernel_rfl) rfl rfl (Nat.le_of_ble_eq_true rfl) ?_
    refine W.pb [15, 62, 69] ?_
    (repeat' (first | refine Zs ?_ | refine Zk ?_ | ((first | refine Za ?_ | refine Zr ?_ | refine Zp ?_ | refine Ze ?_ | refine Zd ?_ | refine W.drawP dr14 rfl mixed rfl ?_ | refine Zn ?_ | refine Zc ?_ | refine UnK.mk (fun b hb => ?_) | refine Zy (ACalls.at (h1)) ?_ | refine Zz (ACalls.at (h1)) ?_ | refine Zy (ACalls.at (h2)) ?_ | refine Zz (ACalls.at (h2)) ?_ | refine Zy (ACalls.at (h3)) ?_ | refine Zz (ACalls.at (h3)) ?_); conv => whnf) | (refine Zb (fun h => ?_) (fun h => ?_) <;> first | exact Zx | (conv => whnf))))
    all_goals first | exact Zrz | (exfalso; omega)
  have hno : ∀ k, k < ss.length → (ss.getD k default).p ≠ 13 → meetL (ss.getD k default).us x.us → reps (ss ++ [x]) := fun k hk h13 hm => hR.2 ⟨_, getD_in hk, h13, hm⟩
  have fin : (keepI ss [x.id]).length + (if hasI ss x.id then 1 else 0) = ss.length := by
    by_cases hh : hasI ss x.id
    · rw [if_pos hh]
      exact keep_cnt (asc_of hO.asc) (ids := [x.id]) (fun i hi => by rw [List.mem_singleton.1 hi]; exact hh) (by simp)
    · rw [if_neg hh, keep_none hh]
      rfl
  have h4 := (rwithout_t ss [x.id] (by omega) (by simp)).args2 (AVle.refl _) (one_int _)
  have h5 := (rput_t (keepI ss [x.id]) [x] (by have := keep_len ss [x.id]; omega) (by simp)).args2 (AVle.refl _) (one_lt x)
  have hpr : putL (keepI ss [x.id]) [x] = replL ss [x.id] [x] := put_repl (asc_of hO.asc) (fun z hz y hy e => by
    have := (keep_mem hy).2
    rw [List.mem_singleton.1 hz] at e
    rw [e] at this
    simp at this) (by simp)
  rw [hpr] at h5
  have hus : ∀ k, k < ss.length → (ss.getD k default).us.length ≤ 64 := fun k hk => hO.us _ (getD_in hk)
  have hat : atI ss x.id = -1 ∨ ∃ k0 : Nat, k0 < ss.length ∧ atI ss x.id = k0 ∧ (ss.getD k0 default).p = 13 := by
    by_cases hh : hasI ss x.id
    · obtain ⟨k0, q1, q2, q3, q4, q5⟩ := findI_ex hh
      refine .inr ⟨k0, q1, by rw [at_has hh, q2], ?_⟩
      rw [q5]
      exact Decidable.not_not.1 fun hn => e4 ⟨hh, hn⟩
    · exact .inl (at_no hh)
  rcases hat with hat | ⟨k0, hk0, hat, h13⟩
  · rw [hat] at h3
    clear hat
    refine ACalls.of (n := Tryz.f14.ntmps) XX_ok Tryz.func14 rfl (by kernel_rfl) rfl rfl (Nat.le_of_ble_eq_true rfl) ?_
    refine W.pb [15, 62, 69] ?_
    (repeat' (first | refine Zs ?_ | refine Zk ?_ | ((first | refine Za ?_ | refine Zr ?_ | refine Zp ?_ | refine Ze ?_ | refine Zd ?_ | refine W.drawP dr14 rfl mixed rfl ?_ | refine Zn ?_ | refine Zc ?_ | refine UnK.mk (fun b hb => ?_) | refine Zy (ACalls.at (h1)) ?_ | refine Zz (ACalls.at (h1)) ?_ | refine Zy (ACalls.at (h2)) ?_ | refine Zz (ACalls.at (h2)) ?_ | refine Zy (ACalls.at (h3)) ?_ | refine Zz (ACalls.at (h3)) ?_); conv => whnf) | (refine Zb (fun h => ?_) (fun h => ?_) <;> first | exact Zx | (conv => whnf))))
    all_goals first | (exfalso; omega) | skip
    refine (W.loopK (ι := Nat) [0, 3] [3] (fun k => [(8, iA k)]) (fun _ => []) (fun k => k ≤ ss.length ∧ ∀ i, i < k → (ss.getD i default).p ≠ 13 → ¬ meetL (ss.getD i default).us x.us) (fun k => ss.length - k) 0 ⟨Nat.zero_le _, fun i hi => absurd hi (by omega)⟩ ?_ ?_ ?_)
    · exact Yz
    · exact Yz
    conv => whnf
    intro k ⟨hk, hz⟩
    by_cases hk' : k < ss.length
    · have hm := Meet_t (ss.getD k default).us x.us (by have := hus k hk'; omega) (by omega)
      by_cases hmt : meetL (ss.getD k default).us x.us
      · rw [decide_eq_true (show ∃ y ∈ (ss.getD k default).us, meetAll y x.us from hmt)] at hm
        (repeat' (first | refine Zs ?_ | refine Zk ?_ | ((first | refine Za ?_ | refine Zr ?_ | refine Zp ?_ | refine Ze ?_ | refine Zd ?_ | refine W.drawP dr14 rfl mixed rfl ?_ | refine Zn ?_ | refine Zc ?_ | refine UnK.mk (fun b hb => ?_)); conv => whnf) | (refine Zb (fun h => ?_) (fun h => ?_) <;> first | exact Zx | (conv => whnf))))
        all_goals (try dsimp only [Int.toNat_natCast] at *)
        (repeat' (first | refine Zs ?_ | refine Zk ?_ | ((first | refine Za ?_ | refine Zr ?_ | refine Zp ?_ | refine Ze ?_ | refine Zd ?_ | refine W.drawP dr14 rfl mixed rfl ?_ | refine Zn ?_ | refine Zc ?_ | refine UnK.mk (fun b hb => ?_) | refine Zy (ACalls.at (hm)) ?_ | refine Zz (ACalls.at (hm)) ?_); conv => whnf) | (refine Zb (fun h => ?_) (fun h => ?_) <;> first | exact Zx | (conv => whnf))))
        all_goals first | (exfalso; omega) | skip
        · have hE : accE ss x = 13 := by rw [hE0, if_pos (.inr (hno k hk' (by assumption) hmt))]
          rw [hS, hE, if_neg (by omega)]
          (repeat' (first | exact trivial | exact Zm | exact Zl | exact ResLe.row0 rfl | exact Zi (by first | rfl | omega) | exact Zo (h := by first | rfl | omega) | exact ResLe.bo rfl rfl Iff.rfl | refine ResLe.agg ?_ | refine And.intro ?_ ?_ | ((conv => whnf); first | exact Zl | exact ResLe.row0 rfl | exact Zi (by first | rfl | omega) | exact Zo (h := by first | rfl | omega) | exact ResLe.bo rfl rfl Iff.rfl | refine ResLe.agg ?_ | refine And.intro ?_ ?_)))
        · refine ⟨k + 1, ⟨by omega, fun i hi h13 => ?_⟩, by omega, ?_, ?_, ?_, ?_⟩
          · by_cases hik : i = k
            · subst hik; omega
            · exact hz i (by omega) h13
          all_goals exact Yz
      · rw [decide_eq_false (show ¬ ∃ y ∈ (ss.getD k default).us, meetAll y x.us from hmt)] at hm
        (repeat' (first | refine Zs ?_ | refine Zk ?_ | ((first | refine Za ?_ | refine Zr ?_ | refine Zp ?_ | refine Ze ?_ | refine Zd ?_ | refine W.drawP dr14 rfl mixed rfl ?_ | refine Zn ?_ | refine Zc ?_ | refine UnK.mk (fun b hb => ?_)); conv => whnf) | (refine Zb (fun h => ?_) (fun h => ?_) <;> first | exact Zx | (conv => whnf))))
        all_goals (try dsimp only [Int.toNat_natCast] at *)
        (repeat' (first | refine Zs ?_ | refine Zk ?_ | ((first | refine Za ?_ | refine Zr ?_ | refine Zp ?_ | refine Ze ?_ | refine Zd ?_ | refine W.drawP dr14 rfl mixed rfl ?_ | refine Zn ?_ | refine Zc ?_ | refine UnK.mk (fun b hb => ?_) | refine Zy (ACalls.at (hm)) ?_ | refine Zz (ACalls.at (hm)) ?_); conv => whnf) | (refine Zb (fun h => ?_) (fun h => ?_) <;> first | exact Zx | (conv => whnf))))
        all_goals first | (exfalso; omega) | skip
        all_goals refine ⟨k + 1, ⟨by omega, fun i hi h13 => ?_⟩, by omega, ?_, ?_, ?_, ?_⟩
        all_goals first
          | (by_cases hik : i = k
             · subst hik; exact hmt
             · exact hz i (by omega) h13)
          | (repeat' (first | exact trivial | exact Yr | exact Yi (by first | rfl | omega) | exact Yo (by first | rfl | omega) | exact Yd | exact Yn | exact Ye (by first | rfl | omega) | exact ⟨_, rfl, Yf, rfl⟩ | refine ⟨_, rfl, Yb ?_, rfl⟩ | refine ⟨_, rfl, Yw (by first | rfl | omega) ?_, rfl⟩ | refine And.intro ?_ ?_))
    · have e6 : ¬ reps (ss ++ [x]) := fun hr => by
        obtain ⟨y, hy, h13, hm⟩ := hR.1 hr
        obtain ⟨i, hi, rfl⟩ := List.getElem_of_mem hy
        have := hz i (by omega)
        rw [getD_of hi] at this
        exact this h13 hm
      by_cases e7 : ¬ hasI ss x.id ∧ 64 ≤ ss.length
      · have hE : accE ss x = 8 := by rw [hE0, if_neg (fun hn => hn.elim e4 e6), if_pos e7]
        rw [if_neg e7.1] at fin
        have e8 := e7.2
        rw [hS, hE, if_neg (by omega)]
        clear hE hE0 hS hR hno e7
        (repeat' (first | refine Zs ?_ | refine Zk ?_ | ((first | refine Za ?_ | refine Zr ?_ | refine Zp ?_ | refine Ze ?_ | refine Zd ?_ | refine W.drawP dr14 rfl mixed rfl ?_ | refine Zn ?_ | refine Zc ?_ | refine UnK.mk (fun b hb => ?_) | refine Zy (ACalls.at (h4)) ?_ | refine Zz (ACalls.at (h4)) ?_ | refine Zy (ACalls.at (h5)) ?_ | refine Zz (ACalls.at (h5)) ?_); conv => whnf) | (refine Zb (fun h => ?_) (fun h => ?_) <;> first | exact Zx | (conv => whnf))))
        all_goals first | exact Zrz | (exfalso; omega)
      · have hE : accE ss x = 0 := by rw [hE0, if_neg (fun hn => hn.elim e4 e6), if_neg e7]
        rw [hS, hE, if_pos rfl]
        have e8 : (keepI ss [x.id]).length < 64 := by
          by_cases hh : hasI ss x.id
          · rw [if_pos hh] at fin; omega
          · rw [if_neg hh] at fin
            rcases Nat.lt_or_ge ss.length 64 with h | h
            · omega
            · exact absurd ⟨hh, h⟩ e7
        clear hE hE0 hS hR hno e7 fin
        (repeat' (first | refine Zs ?_ | refine Zk ?_ | ((first | refine Za ?_ | refine Zr ?_ | refine Zp ?_ | refine Ze ?_ | refine Zd ?_ | refine W.drawP dr14 rfl mixed rfl ?_ | refine Zn ?_ | refine Zc ?_ | refine UnK.mk (fun b hb => ?_) | refine Zy (ACalls.at (h4)) ?_ | refine Zz (ACalls.at (h4)) ?_ | refine Zy (ACalls.at (h5)) ?_ | refine Zz (ACalls.at (h5)) ?_); conv => whnf) | (refine Zb (fun h => ?_) (fun h => ?_) <;> first | exact Zx | (conv => whnf))))
        all_goals first | exact Zrz | (exfalso; omega)
  · rw [hat] at h3
    have h13' : (ss.getD ((k0 : Int)).toNat default).p = 13 := h13
    clear hat
    refine ACalls.of (n := Tryz.f14.ntmps) XX_ok Tryz.func14 rfl (by kernel_rfl) rfl rfl (Nat.le_of_ble_eq_true rfl) ?_
    refine W.pb [15, 62, 69] ?_
    (repeat' (first | refine Zs ?_ | refine Zk ?_ | ((first | refine Za ?_ | refine Zr ?_ | refine Zp ?_ | refine Ze ?_ | refine Zd ?_ | refine W.drawP dr14 rfl mixed rfl ?_ | refine Zn ?_ | refine Zc ?_ | refine UnK.mk (fun b hb => ?_) | refine Zy (ACalls.at (h1)) ?_ | refine Zz (ACalls.at (h1)) ?_ | refine Zy (ACalls.at (h2)) ?_ | refine Zz (ACalls.at (h2)) ?_ | refine Zy (ACalls.at (h3)) ?_ | refine Zz (ACalls.at (h3)) ?_); conv => whnf) | (refine Zb (fun h => ?_) (fun h => ?_) <;> first | exact Zx | (conv => whnf))))
    all_goals first | (exfalso; omega) | skip
    refine (W.loopK (ι := Nat) [0, 3] [3] (fun k => [(8, iA k)]) (fun _ => []) (fun k => k ≤ ss.length ∧ ∀ i, i < k → (ss.getD i default).p ≠ 13 → ¬ meetL (ss.getD i default).us x.us) (fun k => ss.length - k) 0 ⟨Nat.zero_le _, fun i hi => absurd hi (by omega)⟩ ?_ ?_ ?_)
    · exact Yz
    · exact Yz
    conv => whnf
    intro k ⟨hk, hz⟩
    by_cases hk' : k < ss.length
    · have hm := Meet_t (ss.getD k default).us x.us (by have := hus k hk'; omega) (by omega)
      by_cases hmt : meetL (ss.getD k default).us x.us
      · rw [decide_eq_true (show ∃ y ∈ (ss.getD k default).us, meetAll y x.us from hmt)] at hm
        (repeat' (first | refine Zs ?_ | refine Zk ?_ | ((first | refine Za ?_ | refine Zr ?_ | refine Zp ?_ | refine Ze ?_ | refine Zd ?_ | refine W.drawP dr14 rfl mixed rfl ?_ | refine Zn ?_ | refine Zc ?_ | refine UnK.mk (fun b hb => ?_)); conv => whnf) | (refine Zb (fun h => ?_) (fun h => ?_) <;> first | exact Zx | (conv => whnf))))
        all_goals (try dsimp only [Int.toNat_natCast] at *)
        (repeat' (first | refine Zs ?_ | refine Zk ?_ | ((first | refine Za ?_ | refine Zr ?_ | refine Zp ?_ | refine Ze ?_ | refine Zd ?_ | refine W.drawP dr14 rfl mixed rfl ?_ | refine Zn ?_ | refine Zc ?_ | refine UnK.mk (fun b hb => ?_) | refine Zy (ACalls.at (hm)) ?_ | refine Zz (ACalls.at (hm)) ?_); conv => whnf) | (refine Zb (fun h => ?_) (fun h => ?_) <;> first | exact Zx | (conv => whnf))))
        all_goals first | (exfalso; omega) | skip
        · have hE : accE ss x = 13 := by rw [hE0, if_pos (.inr (hno k hk' (by assumption) hmt))]
          rw [hS, hE, if_neg (by omega)]
          (repeat' (first | exact trivial | exact Zm | exact Zl | exact ResLe.row0 rfl | exact Zi (by first | rfl | omega) | exact Zo (h := by first | rfl | omega) | exact ResLe.bo rfl rfl Iff.rfl | refine ResLe.agg ?_ | refine And.intro ?_ ?_ | ((conv => whnf); first | exact Zl | exact ResLe.row0 rfl | exact Zi (by first | rfl | omega) | exact Zo (h := by first | rfl | omega) | exact ResLe.bo rfl rfl Iff.rfl | refine ResLe.agg ?_ | refine And.intro ?_ ?_)))
        · refine ⟨k + 1, ⟨by omega, fun i hi h13 => ?_⟩, by omega, ?_, ?_, ?_, ?_⟩
          · by_cases hik : i = k
            · subst hik; omega
            · exact hz i (by omega) h13
          all_goals exact Yz
      · rw [decide_eq_false (show ¬ ∃ y ∈ (ss.getD k default).us, meetAll y x.us from hmt)] at hm
        (repeat' (first | refine Zs ?_ | refine Zk ?_ | ((first | refine Za ?_ | refine Zr ?_ | refine Zp ?_ | refine Ze ?_ | refine Zd ?_ | refine W.drawP dr14 rfl mixed rfl ?_ | refine Zn ?_ | refine Zc ?_ | refine UnK.mk (fun b hb => ?_)); conv => whnf) | (refine Zb (fun h => ?_) (fun h => ?_) <;> first | exact Zx | (conv => whnf))))
        all_goals (try dsimp only [Int.toNat_natCast] at *)
        (repeat' (first | refine Zs ?_ | refine Zk ?_ | ((first | refine Za ?_ | refine Zr ?_ | refine Zp ?_ | refine Ze ?_ | refine Zd ?_ | refine W.drawP dr14 rfl mixed rfl ?_ | refine Zn ?_ | refine Zc ?_ | refine UnK.mk (fun b hb => ?_) | refine Zy (ACalls.at (hm)) ?_ | refine Zz (ACalls.at (hm)) ?_); conv => whnf) | (refine Zb (fun h => ?_) (fun h => ?_) <;> first | exact Zx | (conv => whnf))))
        all_goals first | (exfalso; omega) | skip
        all_goals refine ⟨k + 1, ⟨by omega, fun i hi h13 => ?_⟩, by omega, ?_, ?_, ?_, ?_⟩
        all_goals first
          | (by_cases hik : i = k
             · subst hik; exact hmt
             · exact hz i (by omega) h13)
          | (repeat' (first | exact trivial | exact Yr | exact Yi (by first | rfl | omega) | exact Yo (by first | rfl | omega) | exact Yd | exact Yn | exact Ye (by first | rfl | omega) | exact ⟨_, rfl, Yf, rfl⟩ | refine ⟨_, rfl, Yb ?_, rfl⟩ | refine ⟨_, rfl, Yw (by first | rfl | omega) ?_, rfl⟩ | refine And.intro ?_ ?_))
    · have e6 : ¬ reps (ss ++ [x]) := fun hr => by
        obtain ⟨y, hy, h13, hm⟩ := hR.1 hr
        obtain ⟨i, hi, rfl⟩ := List.getElem_of_mem hy
        have := hz i (by omega)
        rw [getD_of hi] at this
        exact this h13 hm
      by_cases e7 : ¬ hasI ss x.id ∧ 64 ≤ ss.length
      · have hE : accE ss x = 8 := by rw [hE0, if_neg (fun hn => hn.elim e4 e6), if_pos e7]
        rw [if_neg e7.1] at fin
        have e8 := e7.2
        rw [hS, hE, if_neg (by omega)]
        clear hE hE0 hS hR hno e7
        (repeat' (first | refine Zs ?_ | refine Zk ?_ | ((first | refine Za ?_ | refine Zr ?_ | refine Zp ?_ | refine Ze ?_ | refine Zd ?_ | refine W.drawP dr14 rfl mixed rfl ?_ | refine Zn ?_ | refine Zc ?_ | refine UnK.mk (fun b hb => ?_) | refine Zy (ACalls.at (h4)) ?_ | refine Zz (ACalls.at (h4)) ?_ | refine Zy (ACalls.at (h5)) ?_ | refine Zz (ACalls.at (h5)) ?_); conv => whnf) | (refine Zb (fun h => ?_) (fun h => ?_) <;> first | exact Zx | (conv => whnf))))
        all_goals first | exact Zrz | (exfalso; omega)
      · have hE : accE ss x = 0 := by rw [hE0, if_neg (fun hn => hn.elim e4 e6), if_neg e7]
        rw [hS, hE, if_pos rfl]
        have e8 : (keepI ss [x.id]).length < 64 := by
          by_cases hh : hasI ss x.id
          · rw [if_pos hh] at fin; omega
          · rw [if_neg hh] at fin
            rcases Nat.lt_or_ge ss.length 64 with h | h
            · omega
            · exact absurd ⟨hh, h⟩ e7
        clear hE hE0 hS hR hno e7 fin
        (repeat' (first | refine Zs ?_ | refine Zk ?_ | ((first | refine Za ?_ | refine Zr ?_ | refine Zp ?_ | refine Ze ?_ | refine Zd ?_ | refine W.drawP dr14 rfl mixed rfl ?_ | refine Zn ?_ | refine Zc ?_ | refine UnK.mk (fun b hb => ?_) | refine Zy (ACalls.at (h4)) ?_ | refine Zz (ACalls.at (h4)) ?_ | refine Zy (ACalls.at (h5)) ?_ | refine Zz (ACalls.at (h5)) ?_); conv => whnf) | (refine Zb (fun h => ?_) (fun h => ?_) <;> first | exact Zx | (conv => whnf))))
        all_goals first | exact Zrz | (exfalso; omega)
theorem accL_len (ss : List Lt) (x : Lt) : (accL ss x).length ≤ 65 ∧ ∀ y ∈ accL ss x, y.us.length ≤ 64 := by
  unfold accL
  split
  · rename_i h
    unfold accE at h
    obtain ⟨h1, h⟩ := ite0 (fun hh => hh) h
    obtain ⟨h2, h⟩ := ite0 (fun hh => hh) h
    have hO := stkErr_ok (Decidable.not_not.1 h1)
    have hO1 := stkErr_ok (Decidable.not_not.1 h2)
    have hp := repl_perm ss [x.id] [x]
    refine ⟨?_, fun y hy => ?_⟩
    · rw [hp.length_eq, List.length_append]
      have := keep_len ss [x.id]
      have := hO.len
      show _ + 1 ≤ 65
      omega
    · rcases List.mem_append.1 (hp.mem_iff.1 hy) with hy | hy
      · exact hO.us y (keep_mem hy).1
      · rw [List.mem_singleton.1 hy]
        exact hO1.us x (by simp)
  · simp
theorem preL_len (ss : List Lt) (id q : Int) (c : ByteArray) : (preL ss id c q).length ≤ 64 ∧ ∀ y ∈ preL ss id c q, y.us.length ≤ 64 := by
  by_cases h : preE ss id c q = 0
  · have := (pre_stk h).1
    exact ⟨this.len, this.us⟩
  · unfold preL
    rw [if_neg h]
    simp
theorem movL_len (ss : List Lt) (id a : Int) : (movL ss id a).length ≤ 64 ∧ ∀ y ∈ movL ss id a, y.us.length ≤ 64 := by
  by_cases h : movE ss id a = 0
  · obtain ⟨hO, hh, _, he⟩ := movE_inv h
    rw [he]
    refine ⟨by rw [List.length_set]; exact hO.len, fun y hy => ?_⟩
    rcases List.mem_or_eq_of_mem_set hy with hy | rfl
    · exact hO.us y hy
    · exact (hO.us _ (findV_mem hh).1 : (findV ss id).us.length ≤ 64)
  · unfold movL
    rw [if_neg h]
    simp
theorem one_lotA (id : Int) (c : ByteArray) (q m e : Int) : AVle (.agg [iA id, sA c, iA q, iA 1, .dat (.lst 3 1 fun i j => pickF (tabB 1 3) [.val (.int .i64 m), .val (.int .i64 0), .val (.int .i64 e)] (i * 3 + j))]) (ltA ⟨id, c, q, 1, [⟨m, 0, e⟩]⟩) :=
  AVle.agg ⟨AVle.refl _, AVle.refl _, AVle.refl _, AVle.refl _, one_sl ⟨m, 0, e⟩, trivial⟩
theorem lawPresent_t (x0 : List Int) (sr : List Lt) (xr : Lt) (a3 a4 a5 : Int) (b6 : Bool) (k0 : x0.length ≤ 9223372036854775807) (k1 : sr.length ≤ 9223372036854775807) (k2 : ∀ x ∈ sr, x.c.size ≤ 9223372036854775807) (k3 : xr.c.size ≤ 9223372036854775807) (k4 : xr.us.length ≤ 9223372036854775807) :
    ACalls XX 3 [.dat (ilst x0), .dat (ltD sr), ltA xr, iA a3, iA a4, iA a5, bA b6] (bA true) := by
  have hQ := l25awake_t
  cases b6 with
  | true =>
    have d0 := lightW_t sr (by omega)
    by_cases hl : lightW sr
    · have l1 := lightW_len hl
      rw [decide_eq_true hl] at d0
      have d1 := present_t sr a3 xr.c a4 (by omega)
      have d2 := rpresent_t sr a3 xr.c a4 (by omega) k2 k3
      have d3 := (accept_t sr xr (by omega)).args2 (AVle.refl _) (AVle.refl _)
      have d4 := (raccept_t sr xr (by omega) k2 k3).args2 (AVle.refl _) (AVle.refl _)
      have d5 := move_t sr a3 a5 (by omega)
      have d6 := rmove_t sr a3 a5 (by omega) k2
      obtain ⟨f1, g1⟩ := preL_len sr a3 a4 xr.c
      obtain ⟨f2, g2⟩ := accL_len sr xr
      obtain ⟨f3, g3⟩ := movL_len sr a3 a5
      have d7 := rsameStock_t (preL sr a3 xr.c a4) (by omega) (fun x hx => by have := g1 x hx; omega)
      have d8 := rsameStock_t (accL sr xr) (by omega) (fun x hx => by have := g2 x hx; omega)
      have d9 := rsameStock_t (movL sr a3 a5) (by omega) (fun x hx => by have := g3 x hx; omega)
      clear f1 g1 f2 g2 f3 g3
      refine ACalls.of (n := Tryz.f3.ntmps) XX_ok Tryz.func3 rfl (by kernel_rfl) rfl rfl (Nat.le_of_ble_eq_true rfl) ?_
      (repeat' (first | refine Zs ?_ | refine Zk ?_ | ((first | refine Za ?_ | refine Zr ?_ | refine Zp ?_ | refine Ze ?_ | refine Zd ?_ | refine W.drawT dr3 rfl mixed rfl ?_ | refine Zn ?_ | refine Zc ?_ | refine UnK.mk (fun b hb => ?_) | refine Zy d0 ?_ | refine Zz d0 ?_ | refine Zy d1 ?_ | refine Zz d1 ?_ | refine Zy d2 ?_ | refine Zz d2 ?_ | refine Zy d3 ?_ | refine Zz d3 ?_ | refine Zy d4 ?_ | refine Zz d4 ?_ | refine Zy d5 ?_ | refine Zz d5 ?_ | refine Zy d6 ?_ | refine Zz d6 ?_ | refine Zy d7 ?_ | refine Zz d7 ?_ | refine Zy d8 ?_ | refine Zz d8 ?_ | refine Zy d9 ?_ | refine Zz d9 ?_ | refine Zy hQ ?_ | refine Zz hQ ?_); conv => whnf) | (refine Zb (fun h => ?_) (fun h => ?_) <;> first | exact Zx | (conv => whnf))))
      all_goals first | exact Zrz | (exfalso; omega)
    · rw [decide_eq_false hl] at d0
      refine ACalls.of (n := Tryz.f3.ntmps) XX_ok Tryz.func3 rfl (by kernel_rfl) rfl rfl (Nat.le_of_ble_eq_true rfl) ?_
      (repeat' (first | refine Zs ?_ | refine Zk ?_ | ((first | refine Za ?_ | refine Zr ?_ | refine Zp ?_ | refine Ze ?_ | refine Zd ?_ | refine W.drawT dr3 rfl mixed rfl ?_ | refine Zn ?_ | refine Zc ?_ | refine UnK.mk (fun b hb => ?_) | refine Zy d0 ?_ | refine Zz d0 ?_ | refine Zy hQ ?_ | refine Zz hQ ?_); conv => whnf) | (refine Zb (fun h => ?_) (fun h => ?_) <;> first | exact Zx | (conv => whnf))))
      all_goals first | exact Zrz | (exfalso; omega)
  | false =>
    obtain ⟨n, ss, cs, f, hn, ⟨hA, hl25, hc31⟩, kM⟩ := make_ex2 x0 k0
    obtain ⟨hE, hf, hcl⟩ := acts_est hA
    have hf1 := hE.f
    have hsz : ∀ x ∈ ss, x.c.size ≤ 9223372036854775807 := fun x hx => by
      have h1 := (hE.stk.ok x hx).2.1.1
      omega
    have hg := goods_t
    have w1 := within_t a4 4 (by omega) (by omega)
    have w2 := within_t a3 (f + 3) (by omega) (by omega)
    have w3 := within_t a4 50 (by omega) (by omega)
    have w4 := within_t a5 16 (by omega) (by omega)
    have r1 := Int.emod_nonneg a4 (show (4 : Int) ≠ 0 by omega)
    have r1' := Int.emod_lt_of_pos a4 (show (0 : Int) < 4 by omega)
    have r2 := Int.emod_nonneg a3 (show f + 3 ≠ 0 by omega)
    have r2' := Int.emod_lt_of_pos a3 (show (0 : Int) < f + 3 by omega)
    have r4 := Int.emod_nonneg a5 (show (16 : Int) ≠ 0 by omega)
    have r4' := Int.emod_lt_of_pos a5 (show (0 : Int) < 16 by omega)
    have hcz : (gds.getD (a4 % 4).toNat default).size ≤ 9223372036854775807 := by
      have : ∀ c ∈ gds, c.size = 8 := by decide
      have := this _ (getD_in (us := gds) (k := (a4 % 4).toNat) (by show _ < 4; omega))
      omega
    clear hE hA hcl
    obtain ⟨V, hv, hV1⟩ : ∃ V, V = IntKind.i64.wrap ((a5 % 16).tmod 2 * (f + a3 % (f + 3) - 500)) ∧ -499 ≤ V ∧ V ≤ 10000 := by
      have e : (a5 % 16).tmod 2 = (a5 % 16) % 2 := Int.tmod_eq_emod_of_nonneg r4
      rcases (show (a5 % 16).tmod 2 = 0 ∨ (a5 % 16).tmod 2 = 1 by omega) with h | h
      · rw [h, Int.zero_mul]
        exact ⟨0, wrapOk (by omega), by omega, by omega⟩
      · rw [h, Int.one_mul]
        exact ⟨_, wrapOk (by omega), by omega, by omega⟩
    have d0 := lightW_t ss (by omega)
    by_cases hl : lightW ss
    · have l1 := lightW_len hl
      rw [decide_eq_true hl] at d0
      have d1 := present_t ss (a3 % (f + 3)) (gds.getD (a4 % 4).toNat default) (a4 % 50) (by omega)
      have d2 := rpresent_t ss (a3 % (f + 3)) (gds.getD (a4 % 4).toNat default) (a4 % 50) (by omega) hsz hcz
      have d3 := (accept_t ss ⟨a3 % (f + 3), gds.getD (a4 % 4).toNat default, a4 % 50, 1, [⟨500 + V, 0, 1 + a5 % 16⟩]⟩ (by omega)).args2 (AVle.refl _) (one_lotA _ _ _ _ _)
      have d4 := (raccept_t ss ⟨a3 % (f + 3), gds.getD (a4 % 4).toNat default, a4 % 50, 1, [⟨500 + V, 0, 1 + a5 % 16⟩]⟩ (by omega) hsz hcz).args2 (AVle.refl _) (one_lotA _ _ _ _ _)
      have d5 := move_t ss (a3 % (f + 3)) (a5 % 16) (by omega)
      have d6 := rmove_t ss (a3 % (f + 3)) (a5 % 16) (by omega) hsz
      obtain ⟨f1, g1⟩ := preL_len ss (a3 % (f + 3)) (a4 % 50) (gds.getD (a4 % 4).toNat default)
      obtain ⟨f2, g2⟩ := accL_len ss ⟨a3 % (f + 3), gds.getD (a4 % 4).toNat default, a4 % 50, 1, [⟨500 + V, 0, 1 + a5 % 16⟩]⟩
      obtain ⟨f3, g3⟩ := movL_len ss (a3 % (f + 3)) (a5 % 16)
      have d7 := rsameStock_t (preL ss (a3 % (f + 3)) (gds.getD (a4 % 4).toNat default) (a4 % 50)) (by omega) (fun x hx => by have := g1 x hx; omega)
      have d8 := rsameStock_t (accL ss ⟨a3 % (f + 3), gds.getD (a4 % 4).toNat default, a4 % 50, 1, [⟨500 + V, 0, 1 + a5 % 16⟩]⟩) (by omega) (fun x hx => by have := g2 x hx; omega)
      have d9 := rsameStock_t (movL ss (a3 % (f + 3)) (a5 % 16)) (by omega) (fun x hx => by have := g3 x hx; omega)
      clear f1 g1 f2 g2 f3 g3
      refine ACalls.of (n := Tryz.f3.ntmps) XX_ok Tryz.func3 rfl (by kernel_rfl) rfl rfl (Nat.le_of_ble_eq_true rfl) ?_
      refine W.pb [68] ?_
      (repeat' (first | refine Zs ?_ | refine Zk ?_ | ((first | refine Za ?_ | refine Zr ?_ | refine Zp ?_ | refine Ze ?_ | refine Zd ?_ | refine W.drawP dr3 rfl mixed rfl ?_ | refine Zn ?_ | refine Zc ?_ | refine UnK.mk (fun b hb => ?_) | refine Zy (ACalls.at (kM)) ?_ | refine Zz (ACalls.at (kM)) ?_ | refine Zy (ACalls.at (hg)) ?_ | refine Zz (ACalls.at (hg)) ?_ | refine Zy (ACalls.at (w1)) ?_ | refine Zz (ACalls.at (w1)) ?_ | refine Zy (ACalls.at (w2)) ?_ | refine Zz (ACalls.at (w2)) ?_ | refine Zy (ACalls.at (w3)) ?_ | refine Zz (ACalls.at (w3)) ?_ | refine Zy (ACalls.at (w4)) ?_ | refine Zz (ACalls.at (w4)) ?_); conv => whnf) | (refine Zb (fun h => ?_) (fun h => ?_) <;> first | exact Zx | (conv => whnf))))
      all_goals first | (exfalso; omega) | skip
      refine NumK.as V hv ?_
      conv => whnf
      (repeat' (first | refine Zs ?_ | refine Zk ?_ | ((first | refine Za ?_ | refine Zr ?_ | refine Zp ?_ | refine Ze ?_ | refine Zd ?_ | refine W.drawP dr3 rfl mixed rfl ?_ | refine Zn ?_ | refine Zc ?_ | refine UnK.mk (fun b hb => ?_) | refine Zy (ACalls.at (d0)) ?_ | refine Zz (ACalls.at (d0)) ?_ | refine Zy (ACalls.at (d1)) ?_ | refine Zz (ACalls.at (d1)) ?_ | refine Zy (ACalls.at (d2)) ?_ | refine Zz (ACalls.at (d2)) ?_ | refine Zy (ACalls.at (d3)) ?_ | refine Zz (ACalls.at (d3)) ?_ | refine Zy (ACalls.at (d4)) ?_ | refine Zz (ACalls.at (d4)) ?_ | refine Zy (ACalls.at (d5)) ?_ | refine Zz (ACalls.at (d5)) ?_ | refine Zy (ACalls.at (d6)) ?_ | refine Zz (ACalls.at (d6)) ?_ | refine Zy (ACalls.at (d7)) ?_ | refine Zz (ACalls.at (d7)) ?_ | refine Zy (ACalls.at (d8)) ?_ | refine Zz (ACalls.at (d8)) ?_ | refine Zy (ACalls.at (d9)) ?_ | refine Zz (ACalls.at (d9)) ?_ | refine Zy (ACalls.at (hQ)) ?_ | refine Zz (ACalls.at (hQ)) ?_); conv => whnf) | (refine Zb (fun h => ?_) (fun h => ?_) <;> first | exact Zx | (conv => whnf))))
      all_goals first | exact Zrz | (exfalso; omega)
    · rw [decide_eq_false hl] at d0
      refine ACalls.of (n := Tryz.f3.ntmps) XX_ok Tryz.func3 rfl (by kernel_rfl) rfl rfl (Nat.le_of_ble_eq_true rfl) ?_
      refine W.pb [68] ?_
      (repeat' (first | refine Zs ?_ | refine Zk ?_ | ((first | refine Za ?_ | refine Zr ?_ | refine Zp ?_ | refine Ze ?_ | refine Zd ?_ | refine W.drawP dr3 rfl mixed rfl ?_ | refine Zn ?_ | refine Zc ?_ | refine UnK.mk (fun b hb => ?_) | refine Zy (ACalls.at (kM)) ?_ | refine Zz (ACalls.at (kM)) ?_ | refine Zy (ACalls.at (hg)) ?_ | refine Zz (ACalls.at (hg)) ?_ | refine Zy (ACalls.at (w1)) ?_ | refine Zz (ACalls.at (w1)) ?_ | refine Zy (ACalls.at (w2)) ?_ | refine Zz (ACalls.at (w2)) ?_ | refine Zy (ACalls.at (w3)) ?_ | refine Zz (ACalls.at (w3)) ?_ | refine Zy (ACalls.at (w4)) ?_ | refine Zz (ACalls.at (w4)) ?_); conv => whnf) | (refine Zb (fun h => ?_) (fun h => ?_) <;> first | exact Zx | (conv => whnf))))
      all_goals first | (exfalso; omega) | skip
      refine NumK.as V hv ?_
      conv => whnf
      (repeat' (first | refine Zs ?_ | refine Zk ?_ | ((first | refine Za ?_ | refine Zr ?_ | refine Zp ?_ | refine Ze ?_ | refine Zd ?_ | refine W.drawP dr3 rfl mixed rfl ?_ | refine Zn ?_ | refine Zc ?_ | refine UnK.mk (fun b hb => ?_) | refine Zy (ACalls.at (d0)) ?_ | refine Zz (ACalls.at (d0)) ?_ | refine Zy (ACalls.at (hQ)) ?_ | refine Zz (ACalls.at (hQ)) ?_); conv => whnf) | (refine Zb (fun h => ?_) (fun h => ?_) <;> first | exact Zx | (conv => whnf))))
      all_goals first | exact Zrz | (exfalso; omega)
end Go.Proofs.YtojkeidijdcfoaaGreatDoor
