/- Lots united by the package. The law of lots united. -/
import Derived.Test.YtojkeidijdcfoaaGreatDoorLZ

namespace Go.Proofs.YtojkeidijdcfoaaGreatDoor
open Go Go.RowKit
set_option linter.unusedVariables false
set_option linter.unusedSimpArgs false
set_option maxRecDepth 100000
set_option maxHeartbeats 4000000
attribute [local irreducible] ResLe AVle ArgLe ArgP EntLe Dle ResH ArgQ

def mdU (ls : List Lt) : List Sl := (ls.map Lt.us).flatten
def mdQ (ls : List Lt) : Int := (ls.map Lt.q).sum
noncomputable def mdE (ls : List Lt) : Int := if ¬ ∀ x ∈ ls, rests x.p then 17 else if ¬ ∀ x ∈ ls, kin x (ls.getD 0 default) then 14 else if 1000000000 < mdQ ls then 16 else if 64 < (joinL (mdU ls)).length then 8 else 0
noncomputable def mdV (ls : List Lt) (id : Int) : Lt := if mdE ls = 0 then ⟨id, (ls.getD 0 default).c, mdQ ls, (ls.getD 0 default).p, joinL (mdU ls)⟩ else noLt
theorem mdQ_snoc (ls : List Lt) (k : Nat) (h : k < ls.length) : mdQ (ls.take (k + 1)) = mdQ (ls.take k) + (ls.getD k default).q := by
  unfold mdQ
  rw [take_snoc ls k h, List.map_append, List.sum_append]
  simp
theorem mdQ_rng {ls : List Lt} (hq : ∀ x ∈ ls, 0 ≤ x.q ∧ x.q ≤ 1000000000) : ∀ k, k ≤ ls.length → 0 ≤ mdQ (ls.take k) ∧ mdQ (ls.take k) ≤ 1000000000 * k := by
  intro k
  induction k with
  | zero => intro _; simp [mdQ]
  | succ k ih =>
    intro hk
    have := ih (by omega)
    have hx := hq _ (getD_in (k := k) (by omega))
    rw [mdQ_snoc ls k (by omega)]
    push_cast
    omega

def mdF (ls : List Lt) (k i : Nat) : List Sl := if i < k then (ls.getD i default).us else []
theorem mdF_set (ls : List Lt) (k : Nat) (h : k < ls.length) : ∀ i, i < ls.length → ∀ j, j < 1 → Dle (setF (fun i _ => slD (mdF ls k i)) k 0 [slD (ls.getD k default).us] i j) (slD (mdF ls (k + 1) i)) := by
  intro i hi j hj
  obtain rfl : j = 0 := by omega
  rw [setF_eq]
  split
  · rename_i hc
    obtain ⟨rfl, _⟩ := hc
    have e : mdF ls (i + 1) i = (ls.getD i default).us := by unfold mdF; rw [if_pos (by omega)]
    rw [e]
    exact Dle.refl _
  · rename_i hc
    have hne : i ≠ k := fun e => hc ⟨e, Nat.le_refl _, by simp⟩
    have e : mdF ls (k + 1) i = mdF ls k i := by
      unfold mdF
      by_cases h1 : i < k
      · rw [if_pos h1, if_pos (by omega)]
      · rw [if_neg h1, if_neg (by omega)]
    rw [e]
    exact Dle.refl _
theorem merged_t (ls : List Lt) (id : Int) (hl : 1 ≤ ls.length ∧ ls.length ≤ 1000) (hq : ∀ x ∈ ls, 0 ≤ x.q ∧ x.q ≤ 1000000000) (hu : ∀ x ∈ ls, x.us.length ≤ 64) (hv : ∀ x ∈ ls, ∀ y ∈ x.us, slOk y) : ACalls XX 50 [.dat (ltD ls), iA id] (.tup [ltA (mdV ls id), iA (mdE ls)]) := by
  have herr : ∀ e : Int, e ≠ 0 → mdE ls = e → mdV ls id = noLt := fun e he hc => by unfold mdV; rw [hc, if_neg he]
  have hE0 : mdE ls = if ¬ ∀ x ∈ ls, rests x.p then 17 else if ¬ ∀ x ∈ ls, kin x (ls.getD 0 default) then 14 else if 1000000000 < mdQ ls then 16 else if 64 < (joinL (mdU ls)).length then 8 else 0 := rfl
  have hfl : (mdU ls).length ≤ 64 * ls.length := by
    have := flat_len (ls := ls.map Lt.us) (B := 64) fun l hl => by
      obtain ⟨x, hx, rfl⟩ := List.mem_map.1 hl
      exact hu x hx
    rwa [List.length_map] at this
  refine ACalls.of (n := Tryz.f50.ntmps) XX_ok Tryz.func50 rfl (by kernel_rfl) rfl rfl (Nat.le_of_ble_eq_true rfl) ?_
  (repeat' (first | refine Zs ?_ | refine Zk ?_ | ((first | refine Za ?_ | refine Zr ?_ | refine Zp ?_ | refine Ze ?_ | refine Zd ?_ | refine W.drawT dr50 rfl mixed rfl ?_ | refine Zn ?_ | refine Zc ?_ | refine UnK.mk (fun b hb => ?_)); conv => whnf) | (refine Zb (fun h => ?_) (fun h => ?_) <;> first | exact Zx | (conv => whnf))))
  refine (W.loopK (ι := Nat) [0, 1, 4, 13, 14] [4] (fun k => [(15, iA k)]) (fun _ => []) (fun k => k ≤ ls.length ∧ ∀ i, i < k → rests (ls.getD i default).p) (fun k => ls.length - k) 0 ⟨Nat.zero_le _, fun i hi => absurd hi (by omega)⟩ ?_ ?_ ?_)
  · exact Yz
  · exact Yz
  conv => whnf
  intro k ⟨hk, hz⟩
  by_cases hk' : k < ls.length
  · have h1 := atRest_t (ls.getD k default).p
    by_cases hr : rests (ls.getD k default).p
    · rw [decide_eq_true hr] at h1
      (repeat' (first | refine Zs ?_ | refine Zk ?_ | ((first | refine Za ?_ | refine Zr ?_ | refine Zp ?_ | refine Ze ?_ | refine Zd ?_ | refine W.drawT dr50 rfl mixed rfl ?_ | refine Zn ?_ | refine Zc ?_ | refine UnK.mk (fun b hb => ?_)); conv => whnf) | (refine Zb (fun h => ?_) (fun h => ?_) <;> first | exact Zx | (conv => whnf))))
      all_goals (try dsimp only [Int.toNat_natCast] at *)
      (repeat' (first | refine Zs ?_ | refine Zk ?_ | ((first | refine Za ?_ | refine Zr ?_ | refine Zp ?_ | refine Ze ?_ | refine Zd ?_ | refine W.drawT dr50 rfl mixed rfl ?_ | refine Zn ?_ | refine Zc ?_ | refine UnK.mk (fun b hb => ?_) | refine Zy h1 ?_ | refine Zz h1 ?_); conv => whnf) | (refine Zb (fun h => ?_) (fun h => ?_) <;> first | exact Zx | (conv => whnf))))
      refine ⟨k + 1, ⟨by omega, fun i hi => ?_⟩, by omega, ?_, ?_, ?_, ?_⟩
      · by_cases hik : i = k
        · subst hik; exact hr
        · exact hz i (by omega)
      all_goals exact Yz
    · rw [decide_eq_false hr] at h1
      have hE : mdE ls = 17 := by rw [hE0, if_pos fun ha => hr (ha _ (getD_in hk'))]
      rw [herr 17 (by omega) hE, hE]
      (repeat' (first | refine Zs ?_ | refine Zk ?_ | ((first | refine Za ?_ | refine Zr ?_ | refine Zp ?_ | refine Ze ?_ | refine Zd ?_ | refine W.drawT dr50 rfl mixed rfl ?_ | refine Zn ?_ | refine Zc ?_ | refine UnK.mk (fun b hb => ?_)); conv => whnf) | (refine Zb (fun h => ?_) (fun h => ?_) <;> first | exact Zx | (conv => whnf))))
      all_goals (try dsimp only [Int.toNat_natCast] at *)
      (repeat' (first | refine Zs ?_ | refine Zk ?_ | ((first | refine Za ?_ | refine Zr ?_ | refine Zp ?_ | refine Ze ?_ | refine Zd ?_ | refine W.drawT dr50 rfl mixed rfl ?_ | refine Zn ?_ | refine Zc ?_ | refine UnK.mk (fun b hb => ?_) | refine Zy h1 ?_ | refine Zz h1 ?_); conv => whnf) | (refine Zb (fun h => ?_) (fun h => ?_) <;> first | exact Zx | (conv => whnf))))
      all_goals exact Zrz
  have hR : ∀ x ∈ ls, rests x.p := all_getD.2 fun i hi => hz i (by omega)
  clear hz
  rw [if_neg (by simpa using hR)] at hE0
  (repeat' (first | refine Zs ?_ | refine Zk ?_ | ((first | refine Za ?_ | refine Zr ?_ | refine Zp ?_ | refine Ze ?_ | refine Zd ?_ | refine W.drawT dr50 rfl mixed rfl ?_ | refine Zn ?_ | refine Zc ?_ | refine UnK.mk (fun b hb => ?_)); conv => whnf) | (refine Zb (fun h => ?_) (fun h => ?_) <;> first | exact Zx | (conv => whnf))))
  refine (W.loopK (ι := Nat) [0, 1, 4, 9, 28, 29] [4] (fun k => [(30, iA k), (8, iA (mdQ (ls.take k)))]) (fun k => [(27, .row 24 1 ls.length fun i _ => slD (mdF ls k i))]) (fun k => k ≤ ls.length ∧ ∀ i, i < k → kin (ls.getD i default) (ls.getD 0 default)) (fun k => ls.length - k) 0 ⟨Nat.zero_le _, fun i hi => absurd hi (by omega)⟩ ?_ ?_ ?_)
  · exact Yz
  · (repeat' (first | exact trivial | exact Yr | exact Yi (by first | rfl | omega) | exact Yo (by first | rfl | omega) | exact Yd | exact Yn | exact Ye (by first | rfl | omega) | exact ⟨_, rfl, Yf, rfl⟩ | refine ⟨_, rfl, Yb ?_, rfl⟩ | refine ⟨_, rfl, Yw (by first | rfl | omega) ?_, rfl⟩ | refine And.intro ?_ ?_))
    intro i hi j hj
    obtain rfl : j = 0 := by omega
    have e : mdF ls 0 i = [] := by unfold mdF; rw [if_neg (by omega)]
    rw [e]
    exact Dle.nil _ _
  conv => whnf
  intro k ⟨hk, hz⟩
  have hr := mdQ_rng hq k hk
  by_cases hk' : k < ls.length
  · have hqx := hq _ (getD_in hk')
    have sq := mdQ_snoc ls k hk'
    have hbad : ¬ kin (ls.getD k default) (ls.getD 0 default) → mdE ls = 14 ∧ mdV ls id = noLt := fun h => by
      have hE : mdE ls = 14 := by rw [hE0, if_pos fun ha => h (ha _ (getD_in hk'))]
      exact ⟨hE, herr 14 (by omega) hE⟩
    (repeat' (first | refine Zs ?_ | refine Zk ?_ | ((first | refine Za ?_ | refine Zr ?_ | refine Zp ?_ | refine Ze ?_ | refine Zd ?_ | refine W.drawT dr50 rfl mixed rfl ?_ | refine Zn ?_ | refine Zc ?_ | refine UnK.mk (fun b hb => ?_)); conv => whnf) | (refine Zb (fun h => ?_) (fun h => ?_) <;> first | exact Zx | (conv => whnf))))
    all_goals (try dsimp only [Int.toNat_natCast] at *)
    (repeat' (first | refine Zs ?_ | refine Zk ?_ | ((first | refine Za ?_ | refine Zr ?_ | refine Zp ?_ | refine Ze ?_ | refine Zd ?_ | refine W.drawT dr50 rfl mixed rfl ?_ | refine Zn ?_ | refine Zc ?_ | refine UnK.mk (fun b hb => ?_)); conv => whnf) | (refine Zb (fun h => ?_) (fun h => ?_) <;> first | exact Zx | (conv => whnf))))
    all_goals first
      | (obtain ⟨b1, b2⟩ := hbad (fun hq => by unfold kin at hq; simp_all)
         rw [b1, b2]
         (repeat' (first | exact trivial | exact Zm | exact Zl | exact ResLe.row0 rfl | exact Zi (by first | rfl | omega) | exact Zo (h := by first | rfl | omega) | exact ResLe.bo rfl rfl Iff.rfl | refine ResLe.agg ?_ | refine And.intro ?_ ?_ | ((conv => whnf); first | exact Zl | exact ResLe.row0 rfl | exact Zi (by first | rfl | omega) | exact Zo (h := by first | rfl | omega) | exact ResLe.bo rfl rfl Iff.rfl | refine ResLe.agg ?_ | refine And.intro ?_ ?_))); done)
      | skip
    refine ⟨k + 1, ⟨by omega, fun i hi => ?_⟩, by omega, ?_, ?_, ?_, ?_⟩
    · by_cases hik : i = k
      · subst hik
        exact ⟨by assumption, by first | assumption | exact Decidable.not_not.1 (by assumption)⟩
      · exact hz i (by omega)
    all_goals (repeat' (first | exact trivial | exact Yr | exact Yi (by first | rfl | exact sq.symm | omega) | exact Yo (by first | rfl | exact sq.symm | omega) | exact Yd | exact Yn | exact Ye (by first | rfl | exact sq.symm | omega) | exact ⟨_, rfl, Yf, rfl⟩ | refine ⟨_, rfl, Yb ?_, rfl⟩ | refine ⟨_, rfl, Yw (by first | rfl | exact sq.symm | omega) ?_, rfl⟩ | refine And.intro ?_ ?_))
    simp only [Nat.zero_add, Int.toNat_natCast]
    exact mdF_set ls k hk'
  obtain rfl : k = ls.length := by omega
  rw [List.take_length] at *
  have hK : ∀ x ∈ ls, kin x (ls.getD 0 default) := all_getD.2 hz
  rw [if_neg (by simpa using hK)] at hE0
  clear hz
  have hjn := (join_t (ls.map Lt.us) (by rw [List.length_map]; omega) (by have : (ls.map Lt.us).flatten = mdU ls := rfl; rw [this]; omega)).args1 (a := .dat (.lst 1 ls.length fun i _ => slD (mdF ls ls.length i))) (AVle.dat (Dle.lst (List.length_map ..).symm fun i hi j hj => by
    have e : (ls.map Lt.us).getD i [] = mdF ls ls.length i := by
      unfold mdF
      rw [if_pos hi]
      simp [hi]
    rw [e]
    exact Dle.refl _))
  have eU : (ls.map Lt.us).flatten = mdU ls := rfl
  rw [eU] at hjn
  have hjl := joinL_len (mdU ls)
  by_cases e6 : 1000000000 < mdQ ls
  · have hE : mdE ls = 16 := by rw [hE0, if_pos e6]
    rw [herr 16 (by omega) hE, hE]
    (repeat' (first | refine Zs ?_ | refine Zk ?_ | ((first | refine Za ?_ | refine Zr ?_ | refine Zp ?_ | refine Ze ?_ | refine Zd ?_ | refine W.drawT dr50 rfl mixed rfl ?_ | refine Zn ?_ | refine Zc ?_ | refine UnK.mk (fun b hb => ?_)); conv => whnf) | (refine Zb (fun h => ?_) (fun h => ?_) <;> first | exact Zx | (conv => whnf))))
    all_goals first | exact Zrz | (exfalso; omega)
  rw [if_neg e6] at hE0
  by_cases e8 : 64 < (joinL (mdU ls)).length
  · have hE : mdE ls = 8 := by rw [hE0, if_pos e8]
    rw [herr 8 (by omega) hE, hE]
    (repeat' (first | refine Zs ?_ | refine Zk ?_ | ((first | refine Za ?_ | refine Zr ?_ | refine Zp ?_ | refine Ze ?_ | refine Zd ?_ | refine W.drawT dr50 rfl mixed rfl ?_ | refine Zn ?_ | refine Zc ?_ | refine UnK.mk (fun b hb => ?_)); conv => whnf) | (refine Zb (fun h => ?_) (fun h => ?_) <;> first | exact Zx | (conv => whnf))))
    all_goals first | (exfalso; omega) | skip
    refine ExCall.pub 27 rfl ?_
    conv => whnf
    (repeat' (first | refine Zs ?_ | refine Zk ?_ | ((first | refine Za ?_ | refine Zr ?_ | refine Zp ?_ | refine Ze ?_ | refine Zd ?_ | refine W.drawT dr50 rfl mixed rfl ?_ | refine Zn ?_ | refine Zc ?_ | refine UnK.mk (fun b hb => ?_) | refine Zq hjn ?_ | refine Zw hjn ?_); conv => whnf) | (refine Zb (fun h => ?_) (fun h => ?_) <;> first | exact Zx | (conv => whnf))))
    all_goals first | exact Zrz | (exfalso; omega)
  rw [if_neg e8] at hE0
  have hV : mdV ls id = ⟨id, (ls.getD 0 default).c, mdQ ls, (ls.getD 0 default).p, joinL (mdU ls)⟩ := by unfold mdV; rw [if_pos hE0]
  rw [hV, hE0]
  (repeat' (first | refine Zs ?_ | refine Zk ?_ | ((first | refine Za ?_ | refine Zr ?_ | refine Zp ?_ | refine Ze ?_ | refine Zd ?_ | refine W.drawT dr50 rfl mixed rfl ?_ | refine Zn ?_ | refine Zc ?_ | refine UnK.mk (fun b hb => ?_)); conv => whnf) | (refine Zb (fun h => ?_) (fun h => ?_) <;> first | exact Zx | (conv => whnf))))
  all_goals first | (exfalso; omega) | skip
  refine ExCall.pub 27 rfl ?_
  conv => whnf
  (repeat' (first | refine Zs ?_ | refine Zk ?_ | ((first | refine Za ?_ | refine Zr ?_ | refine Zp ?_ | refine Ze ?_ | refine Zd ?_ | refine W.drawT dr50 rfl mixed rfl ?_ | refine Zn ?_ | refine Zc ?_ | refine UnK.mk (fun b hb => ?_) | refine Zq hjn ?_ | refine Zw hjn ?_); conv => whnf) | (refine Zb (fun h => ?_) (fun h => ?_) <;> first | exact Zx | (conv => whnf))))
  all_goals first | exact Zrz | (exfalso; omega)

end Go.Proofs.YtojkeidijdcfoaaGreatDoor

namespace Go.Proofs.YtojkeidijdcfoaaGreatDoor
open Go Go.RowKit
set_option linter.unusedVariables false
set_option linter.unusedSimpArgs false
set_option maxRecDepth 100000
set_option maxHeartbeats 4000000
attribute [local irreducible] ResLe AVle ArgLe ArgP EntLe Dle ResH ArgQ

def fillM (ss : List Lt) (ids : List Int) (k : Nat) : List Lt := (List.range ids.length).map fun i => if i < k then findV ss (ids.getD i default) else noLt
theorem fillM_len (ss : List Lt) (ids : List Int) (k : Nat) : (fillM ss ids k).length = ids.length := by simp [fillM]
theorem fillM_set (ss : List Lt) (ids : List Int) (k : Nat) (h : k < ids.length) : (fillM ss ids k).set k (findV ss (ids.getD k default)) = fillM ss ids (k + 1) := by
  apply List.ext_getElem?
  intro i
  rw [List.getElem?_set]
  unfold fillM
  by_cases hi : i < ids.length
  · by_cases he : k = i
    · subst he
      rw [if_pos rfl, if_pos (by simpa using hi)]
      simp [hi]
    · rw [if_neg he]
      simp only [List.getElem?_map, List.getElem?_range hi, Option.map_some]
      by_cases h1 : i < k
      · rw [if_pos h1, if_pos (by omega)]
      · rw [if_neg h1, if_neg (by omega)]
  · rw [if_neg (by omega)]
    simp [hi]
theorem fillM_full (ss : List Lt) (ids : List Int) : fillM ss ids ids.length = ids.map (findV ss) := by
  apply List.ext_getElem?
  intro i
  unfold fillM
  by_cases hi : i < ids.length
  · simp [hi]
  · simp [hi]
theorem merE_tail {ss : List Lt} {ids : List Int} {id : Int} (e1 : stkErr ss = 0) (e2 : ¬ (ids.length < 2 ∨ 16 < ids.length ∨ ¬ idOk id)) (e3 : ∀ i ∈ ids, hasI ss i) (e4 : ¬ (twiceP ids ∨ takenP ss id)) : merE ss ids id = mdE (ids.map (findV ss)) ∧ (mdE (ids.map (findV ss)) = 0 → mdV (ids.map (findV ss)) id = mgV ss ids id) := by
  have hU : mdU (ids.map (findV ss)) = mgU ss ids := by unfold mdU mgU; rw [List.map_map]; rfl
  have hQ : mdQ (ids.map (findV ss)) = mgQ ss ids := by unfold mdQ mgQ; rw [List.map_map]; rfl
  have h0 : (ids.map (findV ss)).getD 0 default = mg0 ss ids := by
    have : 0 < ids.length := by omega
    unfold mg0
    simp [this]
  have hE : merE ss ids id = mdE (ids.map (findV ss)) := by
    unfold merE
    rw [if_neg (by simpa using e1), if_neg e2, if_neg (by simpa using e3), if_neg e4]
    unfold mdE
    rw [hU, hQ, h0]
    have q1 : (∀ x ∈ ids.map (findV ss), rests x.p) ↔ ∀ i ∈ ids, rests (findV ss i).p := by simp only [List.mem_map, forall_exists_index, and_imp, forall_apply_eq_imp_iff₂]
    have q2 : (∀ x ∈ ids.map (findV ss), kin x (mg0 ss ids)) ↔ ∀ i ∈ ids, kin (findV ss i) (mg0 ss ids) := by simp only [List.mem_map, forall_exists_index, and_imp, forall_apply_eq_imp_iff₂]
    by_cases c1 : ∀ i ∈ ids, rests (findV ss i).p
    · have d1 : ¬ ¬ ∀ i ∈ ids, rests (findV ss i).p := fun h => h c1
      have d2 : ¬ ¬ ∀ x ∈ ids.map (findV ss), rests x.p := fun h => h (q1.2 c1)
      rw [if_neg d1, if_neg d2]
      by_cases c2 : ∀ i ∈ ids, kin (findV ss i) (mg0 ss ids)
      · have d3 : ¬ ¬ ∀ i ∈ ids, kin (findV ss i) (mg0 ss ids) := fun h => h c2
        have d4 : ¬ ¬ ∀ x ∈ ids.map (findV ss), kin x (mg0 ss ids) := fun h => h (q2.2 c2)
        rw [if_neg d3, if_neg d4]
      · have d4 : ¬ ∀ x ∈ ids.map (findV ss), kin x (mg0 ss ids) := fun h => c2 (q2.1 h)
        rw [if_pos c2, if_pos d4]
    · have d2 : ¬ ∀ x ∈ ids.map (findV ss), rests x.p := fun h => c1 (q1.1 h)
      rw [if_pos c1, if_pos d2]
  refine ⟨hE, fun hz => ?_⟩
  unfold mdV
  rw [if_pos hz, hU, hQ, h0]
  rfl
theorem merge_t (ss : List Lt) (ids : List Int) (id : Int) (hL : ss.length ≤ 9223372036854775807) (hI : ids.length ≤ 9223372036854775807) : ACalls XX 24 [.dat (ltD ss), .dat (iD ids), iA id] (.tup [.dat (ltD (merL ss ids id)), iA (merE ss ids id)]) := by
  have h1 := validate_t ss hL
  have hS : merL ss ids id = if merE ss ids id = 0 then replL ss ids [mgV ss ids id] else [] := rfl
  by_cases e1 : stkErr ss = 0
  rotate_left
  · have hE : merE ss ids id = stkErr ss := by unfold merE; rw [if_pos e1]
    rw [hE, if_neg e1] at hS
    rw [hS, hE]
    refine ACalls.of (n := Tryz.f24.ntmps) XX_ok Tryz.func24 rfl (by kernel_rfl) rfl rfl (Nat.le_of_ble_eq_true rfl) ?_
    (repeat' (first | refine Zs ?_ | refine Zk ?_ | ((first | refine Za ?_ | refine Zr ?_ | refine Zp ?_ | refine Ze ?_ | refine Zd ?_ | refine Zn ?_ | refine Zc ?_ | refine UnK.mk (fun b hb => ?_) | refine Zy h1 ?_); conv => whnf) | (refine Zb (fun h => ?_) (fun h => ?_) <;> first | exact Zx | (conv => whnf))))
    all_goals exact Zrz
  have hO := stkErr_ok e1
  have hlen := hO.len
  rw [e1] at h1
  have h2 := validID_t id
  have herr : ∀ e : Int, e ≠ 0 → merE ss ids id = e → merL ss ids id = [] := fun e he hc => by rw [hS, hc, if_neg he]
  by_cases e2 : ids.length < 2 ∨ 16 < ids.length ∨ ¬ idOk id
  · have hE : merE ss ids id = 2 := by unfold merE; rw [if_neg (by simpa using e1), if_pos e2]
    rw [hE, if_neg (by omega)] at hS
    rw [hS, hE]
    by_cases hi : idOk id
    · rw [decide_eq_true hi] at h2
      have e2' : ids.length < 2 ∨ 16 < ids.length := by
        rcases e2 with h | h | h
        · exact .inl h
        · exact .inr h
        · exact absurd hi h
      refine ACalls.of (n := Tryz.f24.ntmps) XX_ok Tryz.func24 rfl (by kernel_rfl) rfl rfl (Nat.le_of_ble_eq_true rfl) ?_
      (repeat' (first | refine Zs ?_ | refine Zk ?_ | ((first | refine Za ?_ | refine Zr ?_ | refine Zp ?_ | refine Ze ?_ | refine Zd ?_ | refine Zn ?_ | refine Zc ?_ | refine UnK.mk (fun b hb => ?_) | refine Zy h1 ?_ | refine Zy h2 ?_); conv => whnf) | (refine Zb (fun h => ?_) (fun h => ?_) <;> first | exact Zx | (conv => whnf))))
      all_goals first | exact Zrz | (exfalso; omega)
    · rw [decide_eq_false hi] at h2
      refine ACalls.of (n := Tryz.f24.ntmps) XX_ok Tryz.func24 rfl (by kernel_rfl) rfl rfl (Nat.le_of_ble_eq_true rfl) ?_
      (repeat' (first | refine Zs ?_ | refine Zk ?_ | ((first | refine Za ?_ | refine Zr ?_ | refine Zp ?_ | refine Ze ?_ | refine Zd ?_ | refine Zn ?_ | refine Zc ?_ | refine UnK.mk (fun b hb => ?_) | refine Zy h1 ?_ | refine Zy h2 ?_); conv => whnf) | (refine Zb (fun h => ?_) (fun h => ?_) <;> first | exact Zx | (conv => whnf))))
      all_goals exact Zrz
  have hi : idOk id := Decidable.not_not.1 fun hh => e2 (.inr (.inr hh))
  have n1 : 2 ≤ ids.length ∧ ids.length ≤ 16 := by
    constructor
    · rcases Nat.lt_or_ge ids.length 2 with hh | hh
      · exact absurd (.inl hh) e2
      · exact hh
    · rcases Nat.lt_or_ge 16 ids.length with hh | hh
      · exact absurd (.inr (.inl hh)) e2
      · exact hh
  rw [decide_eq_true hi] at h2
  have hfl := fun k => fillM_len ss ids k
  refine ACalls.of (n := Tryz.f24.ntmps) XX_ok Tryz.func24 rfl (by kernel_rfl) rfl rfl (Nat.le_of_ble_eq_true rfl) ?_
  refine W.pb [76] ?_
  (repeat' (first | refine Zs ?_ | refine Zk ?_ | ((first | refine Za ?_ | refine Zr ?_ | refine Zp ?_ | refine Ze ?_ | refine Zd ?_ | refine Zn ?_ | refine Zc ?_ | refine UnK.mk (fun b hb => ?_) | refine Zy (ACalls.at (h1)) ?_ | refine Zy (ACalls.at (h2)) ?_); conv => whnf) | (refine Zb (fun h => ?_) (fun h => ?_) <;> first | exact Zx | (conv => whnf))))
  all_goals first | (exfalso; omega) | skip
  refine (W.loopK (ι := Nat) [0, 1, 2, 9, 37, 38] [] (fun k => [(39, iA k)]) (fun k => [(36, .row 26 5 ids.length (rowF ltE (fillM ss ids k)))]) (fun k => k ≤ ids.length ∧ ∀ i, i < k → hasI ss (ids.getD i default)) (fun k => ids.length - k) 0 ⟨Nat.zero_le _, fun i hi => absurd hi (by omega)⟩ ?_ ?_ ?_)
  · exact Yz
  · (repeat' (first | exact trivial | exact Yr | exact Yi (by first | rfl | omega) | exact Yo (by first | rfl | omega) | exact Yd | exact Yn | exact Ye (by first | rfl | omega) | exact ⟨_, rfl, Yf, rfl⟩ | refine ⟨_, rfl, Yb ?_, rfl⟩ | refine ⟨_, rfl, Yw (by first | rfl | omega) ?_, rfl⟩ | refine And.intro ?_ ?_))
    intro i hi j hj
    have e : (fillM ss ids 0).getD i default = noLt := by
      unfold fillM
      have hi' : i < ids.length := by omega
      simp [hi']
    unfold rowF
    rw [e]
    rcases j with _ | _ | _ | _ | _ | j
    · exact Dle.refl _
    · exact Dle.refl _
    · exact Dle.refl _
    · exact Dle.refl _
    · exact Dle.nil _ _
    · omega
  conv => whnf
  intro k ⟨hk, hz⟩
  by_cases hk' : k < ids.length
  · have h3 := find_t ss (ids.getD k default) (by omega) (fun x hx => by have := hO.us x hx; omega)
    by_cases hh : hasI ss (ids.getD k default)
    · rw [decide_eq_true hh] at h3
      (repeat' (first | refine Zs ?_ | refine Zk ?_ | ((first | refine Za ?_ | refine Zr ?_ | refine Zp ?_ | refine Ze ?_ | refine Zd ?_ | refine Zn ?_ | refine Zc ?_ | refine UnK.mk (fun b hb => ?_)); conv => whnf) | (refine Zb (fun h => ?_) (fun h => ?_) <;> first | exact Zx | (conv => whnf))))
      all_goals (try dsimp only [Int.toNat_natCast] at *)
      (repeat' (first | refine Zs ?_ | refine Zk ?_ | ((first | refine Za ?_ | refine Zr ?_ | refine Zp ?_ | refine Ze ?_ | refine Zd ?_ | refine Zn ?_ | refine Zc ?_ | refine UnK.mk (fun b hb => ?_) | refine Zy (ACalls.at (h3)) ?_); conv => whnf) | (refine Zb (fun h => ?_) (fun h => ?_) <;> first | exact Zx | (conv => whnf))))
      refine ⟨k + 1, ⟨by omega, fun i hi => ?_⟩, by omega, ?_, ?_, ?_, ?_⟩
      · by_cases hik : i = k
        · subst hik; exact hh
        · exact hz i (by omega)
      all_goals (repeat' (first | exact trivial | exact Yr | exact Yi (by first | rfl | omega) | exact Yo (by first | rfl | omega) | exact Yd | exact Yn | exact Ye (by first | rfl | omega) | exact ⟨_, rfl, Yf, rfl⟩ | refine ⟨_, rfl, Yb ?_, rfl⟩ | refine ⟨_, rfl, Yw (by first | rfl | omega) ?_, rfl⟩ | refine And.intro ?_ ?_))
      have hset := (RowIs.refl ltE 5 (fillM ss ids k)).set (k := k) (x := findV ss (ids.getD k default)) (ds := [.val (.int .i64 (findV ss (ids.getD k default)).id), .val (.string (findV ss (ids.getD k default)).c), .val (.int .i64 (findV ss (ids.getD k default)).q), .val (.int .i64 (findV ss (ids.getD k default)).p), slD (findV ss (ids.getD k default)).us]) rfl fun j hj => by
        rcases j with _ | _ | _ | _ | _ | j
        all_goals first | exact Dle.refl _ | omega
      rw [fillM_set ss ids k hk', hfl] at hset
      intro i hi j hj
      simp only [Nat.zero_add, Int.toNat_natCast]
      exact hset.le i hi j hj
    · rw [decide_eq_false hh] at h3
      have hE : merE ss ids id = 6 := by unfold merE; rw [if_neg (by simpa using e1), if_neg e2, if_pos fun ha => hh (ha _ (getD_in hk'))]
      rw [herr 6 (by omega) hE, hE]
      (repeat' (first | refine Zs ?_ | refine Zk ?_ | ((first | refine Za ?_ | refine Zr ?_ | refine Zp ?_ | refine Ze ?_ | refine Zd ?_ | refine Zn ?_ | refine Zc ?_ | refine UnK.mk (fun b hb => ?_)); conv => whnf) | (refine Zb (fun h => ?_) (fun h => ?_) <;> first | exact Zx | (conv => whnf))))
      all_goals (try dsimp only [Int.toNat_natCast] at *)
      (repeat' (first | refine Zs ?_ | refine Zk ?_ | ((first | refine Za ?_ | refine Zr ?_ | refine Zp ?_ | refine Ze ?_ | refine Zd ?_ | refine Zn ?_ | refine Zc ?_ | refine UnK.mk (fun b hb => ?_) | refine Zy (ACalls.at (h3)) ?_); conv => whnf) | (refine Zb (fun h => ?_) (fun h => ?_) <;> first | exact Zx | (conv => whnf))))
      all_goals exact Zrz
  obtain rfl : k = ids.length := by omega
  have hA : ∀ i ∈ ids, hasI ss i := all_getD.2 fun i hi => hz i (by omega)
  clear hz
  have h4 := twice_t ids (by omega)
  have h5 := taken_t ss id (by omega) (fun x hx => by have := hO.us x hx; omega)
  by_cases e4 : twiceP ids ∨ takenP ss id
  · have hE : merE ss ids id = 13 := by unfold merE; rw [if_neg (by simpa using e1), if_neg e2, if_neg (by simpa using hA), if_pos e4]
    rw [herr 13 (by omega) hE, hE]
    by_cases e5 : twiceP ids
    · rw [decide_eq_true e5] at h4
      (repeat' (first | refine Zs ?_ | refine Zk ?_ | ((first | refine Za ?_ | refine Zr ?_ | refine Zp ?_ | refine Ze ?_ | refine Zd ?_ | refine Zn ?_ | refine Zc ?_ | refine UnK.mk (fun b hb => ?_) | refine Zy (ACalls.at (h4)) ?_); conv => whnf) | (refine Zb (fun h => ?_) (fun h => ?_) <;> first | exact Zx | (conv => whnf))))
      all_goals exact Zrz
    · rw [decide_eq_false e5] at h4
      rw [decide_eq_true (e4.resolve_left e5)] at h5
      (repeat' (first | refine Zs ?_ | refine Zk ?_ | ((first | refine Za ?_ | refine Zr ?_ | refine Zp ?_ | refine Ze ?_ | refine Zd ?_ | refine Zn ?_ | refine Zc ?_ | refine UnK.mk (fun b hb => ?_) | refine Zy (ACalls.at (h4)) ?_ | refine Zy (ACalls.at (h5)) ?_); conv => whnf) | (refine Zb (fun h => ?_) (fun h => ?_) <;> first | exact Zx | (conv => whnf))))
      all_goals exact Zrz
  rw [decide_eq_false (fun h => e4 (.inl h))] at h4
  rw [decide_eq_false (fun h => e4 (.inr h))] at h5
  obtain ⟨t1, t2⟩ := merE_tail e1 e2 hA e4
  rw [fillM_full]
  have hmem : ∀ x ∈ ids.map (findV ss), x ∈ ss := fun x hx => by
    obtain ⟨i, hi, rfl⟩ := List.mem_map.1 hx
    exact (findV_mem (hA i hi)).1
  have hml : (ids.map (findV ss)).length = ids.length := List.length_map ..
  have h6 := merged_t (ids.map (findV ss)) id (by omega) (fun x hx => by have := (hO.ok x (hmem x hx)).2.2.1; unfold qOk at this; omega) (fun x hx => hO.us x (hmem x hx)) (fun x hx => (hO.ok x (hmem x hx)).2.2.2.2)
  have h6 := h6.args2 (a := .dat (.lst 5 ids.length (rowF ltE (ids.map (findV ss))))) (b := iA id) (AVle.dat (Dle.lst hml.symm fun _ _ _ _ => Dle.refl _)) (AVle.refl _)
  by_cases e6 : mdE (ids.map (findV ss)) = 0
  · rw [e6] at h6 t1
    rw [t2 e6] at h6
    rw [t1, if_pos rfl] at hS
    rw [hS, t1]
    obtain ⟨s1, s2, s3, _⟩ := mer_stk t1
    have h7 := (replace_t ss ids [mgV ss ids id] (by omega) (by simp) (by omega) (fun x hx => by have := hO.us x hx; omega) (fun x hx => by
      rw [List.mem_singleton.1 hx]
      have := (merE_inv t1).2.2.2.2.2.2.2.2.1
      show (joinL (mgU ss ids)).length ≤ _
      omega)).args3 (AVle.refl _) (AVle.refl _) (one_lt (mgV ss ids id))
    (repeat' (first | refine Zs ?_ | refine Zk ?_ | ((first | refine Za ?_ | refine Zr ?_ | refine Zp ?_ | refine Ze ?_ | refine Zd ?_ | refine Zn ?_ | refine Zc ?_ | refine UnK.mk (fun b hb => ?_) | refine Zy (ACalls.at (h4)) ?_ | refine Zy (ACalls.at (h5)) ?_); conv => whnf) | (refine Zb (fun h => ?_) (fun h => ?_) <;> first | exact Zx | (conv => whnf))))
    refine ExCall.pub 36 rfl ?_
    conv => whnf
    (repeat' (first | refine Zs ?_ | refine Zk ?_ | ((first | refine Za ?_ | refine Zr ?_ | refine Zp ?_ | refine Ze ?_ | refine Zd ?_ | refine Zn ?_ | refine Zc ?_ | refine UnK.mk (fun b hb => ?_) | refine Zq (ACalls.at (h6)) ?_ | refine Zy (ACalls.at (h7)) ?_); conv => whnf) | (refine Zb (fun h => ?_) (fun h => ?_) <;> first | exact Zx | (conv => whnf))))
    all_goals exact Zrz
  · rw [herr _ e6 t1, t1]
    (repeat' (first | refine Zs ?_ | refine Zk ?_ | ((first | refine Za ?_ | refine Zr ?_ | refine Zp ?_ | refine Ze ?_ | refine Zd ?_ | refine Zn ?_ | refine Zc ?_ | refine UnK.mk (fun b hb => ?_) | refine Zy (ACalls.at (h4)) ?_ | refine Zy (ACalls.at (h5)) ?_); conv => whnf) | (refine Zb (fun h => ?_) (fun h => ?_) <;> first | exact Zx | (conv => whnf))))
    refine ExCall.pub 36 rfl ?_
    conv => whnf
    (repeat' (first | refine Zs ?_ | refine Zk ?_ | ((first | refine Za ?_ | refine Zr ?_ | refine Zp ?_ | refine Ze ?_ | refine Zd ?_ | refine Zn ?_ | refine Zc ?_ | refine UnK.mk (fun b hb => ?_) | refine Zq (ACalls.at (h6)) ?_); conv => whnf) | (refine Zb (fun h => ?_) (fun h => ?_) <;> first | exact Zx | (conv => whnf))))
    all_goals first | exact Zrz | (exfalso; omega)
end Go.Proofs.YtojkeidijdcfoaaGreatDoor
