/- The reference's division of a lot. -/
import Derived.Test.YtacpjihbbmoolaaGreatDoorC3
import Derived.Test.YtacpjihbbmoolaaGreatDoorGT

namespace Go.Proofs.YtacpjihbbmoolaaGreatDoor
open Go Go.RowKit
set_option linter.unusedVariables false
set_option linter.unusedSimpArgs false
set_option maxRecDepth 100000
set_option maxHeartbeats 4000000
attribute [local irreducible] ResLe AVle ArgLe ArgP EntLe Dle ResH ArgQ

theorem restP_v {m : Int} {x : Lt} {ps : List Pt} (h : PtsOk x ps) (hv : lotErr x.us = 0) (hc : cmpct x.us) : ∀ k, k ≤ ps.length → lotErr (restP m x ps k) = 0 ∧ cmpct (restP m x ps k)
  | 0, _ => ⟨hv, hc⟩
  | k + 1, hk => by
    obtain ⟨a, b⟩ := restP_v (m := m) h hv hc k (by omega)
    obtain ⟨l1, l2, l3⟩ := lotErr_iff.1 a
    have hp := partP_rng (m := m) h k (by omega)
    exact ⟨(div_valid (m := m) l2 l1 l3 hp).2, (divR (m := m) l2 hp).pB⟩
theorem rtakeP_t {m : Int} {us : List Sl} {u : Int} (hv : lotErr us = 0) (hc : cmpct us) (hu : 0 ≤ u ∧ u ≤ cnt us) (hm : mOk m) : ACalls XX 95 [.dat (slD us), iA u, iA m] (.tup [.dat (slD (divA m us u)), .dat (slD (divB m us u)), iA 0]) := by
  obtain ⟨l1, l2, l3⟩ := lotErr_iff.1 hv
  have h := rtake_t us u m (by omega)
  obtain ⟨h1, h2, h3⟩ := tak_ok hv hu hm
  rw [h1, h2, h3, join_self hc] at h
  exact h
theorem rmulDivI_t (a b c : Int) (ha : 0 ≤ a ∧ a < 4611686018427387904) (hb : 0 ≤ b ∧ b < 1152921504606846976) (hc : 0 < c ∧ c < 1152921504606846976) (hq : a / c * b + b < 4611686018427387904) : ACalls XX 94 [iA a, iA b, iA c] (iA (a * b / c)) := by
  obtain ⟨a, rfl⟩ := Int.eq_ofNat_of_zero_le ha.1
  obtain ⟨b, rfl⟩ := Int.eq_ofNat_of_zero_le hb.1
  obtain ⟨c, rfl⟩ := Int.eq_ofNat_of_zero_le (show 0 ≤ c by omega)
  have e : ((a / c * b + b : Nat) : Int) = (a : Int) / c * b + b := by simp
  have k := rmulDiv_t a b c (by omega) (by omega) (by omega) (by omega) (by omega)
  have e2 : ((a * b / c : Nat) : Int) = (a : Int) * b / c := by simp
  rw [e2] at k
  exact k
theorem not_twice {L : List Int} : ¬ twiceP L ↔ L.Nodup := by
  unfold twiceP
  constructor
  · intro h
    refine List.pairwise_iff_getElem.2 fun i j hi hj hij e => h ⟨j, hj, ?_⟩
    have e1 : L.getD j default = L[j] := by simp [hj]
    rw [e1, ← e]
    exact List.mem_take_iff_getElem.2 ⟨i, by omega, rfl⟩
  · rintro h ⟨k, hk, hm⟩
    obtain ⟨i, hi, e⟩ := List.mem_take_iff_getElem.1 hm
    have e1 : L.getD k default = L[k] := by simp [hk]
    rw [e1] at e
    exact List.pairwise_iff_getElem.1 h i k (by omega) hk (by omega) e
theorem parts_ids (m : Int) (x : Lt) (ps : List Pt) : (partsP m x ps ps.length).map Lt.id = ps.map Pt.id := by
  unfold partsP
  rw [List.map_map]
  apply List.ext_getElem?
  intro i
  by_cases h : i < ps.length
  · simp [h, partP]
  · simp [h]
theorem put_parts {ss : List Lt} {ls : List Lt} (hO : StkOk ss) (ht : ∀ x ∈ ls, ¬ takenP ss x.id) (hn : (ls.map Lt.id).Nodup) (ids : List Int) : putL (keepI ss ids) ls = replL ss ids ls :=
  put_repl (asc_of hO.asc) (fun x hx y hy e => ht x hx ⟨y, (keep_mem hy).1, .inl e⟩) hn
theorem rsplit_t (ss : List Lt) (id : Int) (ps : List Pt) (m : Int) (hL : ss.length ≤ 9223372036854775807) (hC : ∀ x ∈ ss, x.c.size ≤ 9223372036854775807) (hP : ps.length ≤ 9223372036854775807) : ACalls XX 53 [.dat (ltD ss), iA id, .dat (ptD ps), iA m] (.tup [.dat (ltD (splL ss id ps m)), iA (splE ss id ps m)]) := by
  have h1 := rstock_t ss hL hC
  have hS : splL ss id ps m = if splE ss id ps m = 0 then replL ss [id] (partsP m (findV ss id) ps ps.length) else [] := rfl
  by_cases e1 : stkErr ss = 0
  rotate_left
  · have hE : splE ss id ps m = stkErr ss := by unfold splE; rw [if_pos e1]
    rw [hE, if_neg e1] at hS
    rw [hS, hE]
    refine ACalls.of (n := Tryz.f53.ntmps) XX_ok Tryz.func53 rfl (by kernel_rfl) rfl rfl (Nat.le_of_ble_eq_true rfl) ?_
    (repeat' (first|((first|refine Zg ?_|refine Zt dr53 ?_|refine Zn ?_|refine Zc ?_|refine Zu fun b hb=>?_|refine Zy h1 ?_|refine Zz h1 ?_);conv=>whnf)|(refine Zb ?_ ?_<;>(intro h;first|exact Zx|conv=>whnf))))
    all_goals exact Zrz
  have hO := stkErr_ok e1
  have hlen := hO.len
  have h2 := rat_t ss id (by omega)
  rw [e1] at h1
  by_cases e2 : hasI ss id
  rotate_left
  · rw [at_no e2] at h2
    have hE : splE ss id ps m = 6 := by unfold splE; rw [if_neg (by simpa using e1), if_pos e2]
    rw [hE, if_neg (by omega)] at hS
    rw [hS, hE]
    refine ACalls.of (n := Tryz.f53.ntmps) XX_ok Tryz.func53 rfl (by kernel_rfl) rfl rfl (Nat.le_of_ble_eq_true rfl) ?_
    (repeat' (first|((first|refine Zg ?_|refine Zt dr53 ?_|refine Zn ?_|refine Zc ?_|refine Zu fun b hb=>?_|refine Zy h1 ?_|refine Zz h1 ?_|refine Zy h2 ?_|refine Zz h2 ?_);conv=>whnf)|(refine Zb ?_ ?_<;>(intro h;first|exact Zx|conv=>whnf))))
    all_goals exact Zrz
  obtain ⟨k0, q1, q2, q3, q4, q5⟩ := findI_ex e2
  rw [at_has e2, q2] at h2
  have hE0 : splE ss id ps m = if ¬ rests (findV ss id).p then 17 else if chkE ss (findV ss id).q ps m ≠ 0 then chkE ss (findV ss id).q ps m else if 64 < ss.length - 1 + ps.length then 8 else 0 := by unfold splE; rw [if_neg (by simpa using e1), if_neg (by simpa using e2)]
  have m1 : ss.getD k0 default ∈ ss := getD_in q1
  rw [← q5] at hE0 hS
  have h3 := rrests_t (ss.getD k0 default).p
  by_cases e3 : rests (ss.getD k0 default).p
  rotate_left
  · rw [decide_eq_false e3] at h3
    rw [if_pos e3] at hE0
    rw [hE0, if_neg (by omega)] at hS
    rw [hS, hE0]
    refine ACalls.of (n := Tryz.f53.ntmps) XX_ok Tryz.func53 rfl (by kernel_rfl) rfl rfl (Nat.le_of_ble_eq_true rfl) ?_
    (repeat' (first|((first|refine Zg ?_|refine Zt dr53 ?_|refine Zn ?_|refine Zc ?_|refine Zu fun b hb=>?_|refine Zy h1 ?_|refine Zz h1 ?_|refine Zy h2 ?_|refine Zz h2 ?_);conv=>whnf)|(refine Zb ?_ ?_<;>(intro h;first|exact Zx|conv=>whnf))))
    all_goals (try dsimp only [Int.toNat_natCast] at *)
    (repeat' (first|((first|refine Zg ?_|refine Zt dr53 ?_|refine Zn ?_|refine Zc ?_|refine Zu fun b hb=>?_|refine Zy h1 ?_|refine Zz h1 ?_|refine Zy h2 ?_|refine Zz h2 ?_|refine Zy h3 ?_|refine Zz h3 ?_);conv=>whnf)|(refine Zb ?_ ?_<;>(intro h;first|exact Zx|conv=>whnf))))
    all_goals exact Zrz
  rw [decide_eq_true e3] at h3
  rw [if_neg (by simpa using e3)] at hE0
  by_cases e4 : ps.length < 2 ∨ 16 < ps.length ∨ ¬ mOk m
  · have hc : chkE ss (ss.getD k0 default).q ps m = 2 := by unfold chkE; rw [if_pos e4]
    rw [hc, if_pos (by omega)] at hE0
    rw [hE0, if_neg (by omega)] at hS
    rw [hS, hE0]
    unfold mOk at e4
    refine ACalls.of (n := Tryz.f53.ntmps) XX_ok Tryz.func53 rfl (by kernel_rfl) rfl rfl (Nat.le_of_ble_eq_true rfl) ?_
    (repeat' (first|((first|refine Zg ?_|refine Zt dr53 ?_|refine Zn ?_|refine Zc ?_|refine Zu fun b hb=>?_|refine Zy h1 ?_|refine Zz h1 ?_|refine Zy h2 ?_|refine Zz h2 ?_);conv=>whnf)|(refine Zb ?_ ?_<;>(intro h;first|exact Zx|conv=>whnf))))
    all_goals (try dsimp only [Int.toNat_natCast] at *)
    (repeat' (first|((first|refine Zg ?_|refine Zt dr53 ?_|refine Zn ?_|refine Zc ?_|refine Zu fun b hb=>?_|refine Zy h1 ?_|refine Zz h1 ?_|refine Zy h2 ?_|refine Zz h2 ?_|refine Zy h3 ?_|refine Zz h3 ?_);conv=>whnf)|(refine Zb ?_ ?_<;>(intro h;first|exact Zx|conv=>whnf))))
    all_goals first|exact Zrz|(exfalso; omega)
  have n1 : 2 ≤ ps.length ∧ ps.length ≤ 16 := by omega
  have n2 : mOk m := by
    by_cases h : mOk m
    · exact h
    · exact absurd (.inr (.inr h)) e4
  have n2' := n2
  unfold mOk at n2'
  have hck : chkE ss (ss.getD k0 default).q ps m = if ¬ (∀ p ∈ ps, idOk p.id ∧ qOk p.q) then 2 else if twiceP (ps.map Pt.id) then 13 else if ∃ p ∈ ps, takenP ss p.id then 13 else if sumP ps ps.length ≠ (ss.getD k0 default).q then 14 else 0 := by unfold chkE; rw [if_neg e4]
  have herr : ∀ e : Int, e ≠ 0 → chkE ss (ss.getD k0 default).q ps m = e → splE ss id ps m = e ∧ splL ss id ps m = [] := fun e he hc => by
    rw [hc, if_pos he] at hE0
    rw [hE0, if_neg he] at hS
    exact ⟨hE0, hS⟩
  have hx := hO.ok _ m1
  have hxl := hO.us _ m1
  refine ACalls.of (n := Tryz.f53.ntmps) XX_ok Tryz.func53 rfl (by kernel_rfl) rfl rfl (Nat.le_of_ble_eq_true rfl) ?_
  (repeat' (first|((first|refine Zg ?_|refine Zt dr53 ?_|refine Zn ?_|refine Zc ?_|refine Zu fun b hb=>?_|refine Zy h1 ?_|refine Zz h1 ?_|refine Zy h2 ?_|refine Zz h2 ?_);conv=>whnf)|(refine Zb ?_ ?_<;>(intro h;first|exact Zx|conv=>whnf))))
  all_goals (try dsimp only [Int.toNat_natCast] at *)
  (repeat' (first|((first|refine Zg ?_|refine Zt dr53 ?_|refine Zn ?_|refine Zc ?_|refine Zu fun b hb=>?_|refine Zy h1 ?_|refine Zz h1 ?_|refine Zy h2 ?_|refine Zz h2 ?_|refine Zy h3 ?_|refine Zz h3 ?_);conv=>whnf)|(refine Zb ?_ ?_<;>(intro h;first|exact Zx|conv=>whnf))))
  all_goals first|(exfalso; omega)|skip
  refine (W.loopK (ι := Nat) [0, 1, 2, 3, 12] [12] (fun k => [(13, iA k)]) (fun _ => []) (fun k => k ≤ ps.length ∧ ∀ i, i < k → idOk (ps.getD i default).id ∧ qOk (ps.getD i default).q) (fun k => ps.length - k) 0 ⟨Nat.zero_le _, fun i hi => absurd hi (by omega)⟩ ?_ ?_ ?_)
  · exact Yz
  · exact Yz
  conv => whnf
  intro k ⟨hk, hz⟩
  by_cases hk' : k < ps.length
  · have hbad : ¬ (idOk (ps.getD k default).id ∧ qOk (ps.getD k default).q) → splE ss id ps m = 2 ∧ splL ss id ps m = [] := fun h => herr 2 (by omega) (by rw [hck, if_pos fun ha => h (ha _ (getD_in hk'))])
    by_cases hok : idOk (ps.getD k default).id ∧ qOk (ps.getD k default).q
    · have hok' := hok
      unfold idOk qOk at hok'
      (repeat' (first|((first|refine Zg ?_|refine Zt dr53 ?_|refine Zn ?_|refine Zc ?_|refine Zu fun b hb=>?_);conv=>whnf)|(refine Zb ?_ ?_<;>(intro h;first|exact Zx|conv=>whnf))))
      all_goals (try dsimp only [Int.toNat_natCast] at *)
      (repeat' (first|((first|refine Zg ?_|refine Zt dr53 ?_|refine Zn ?_|refine Zc ?_|refine Zu fun b hb=>?_);conv=>whnf)|(refine Zb ?_ ?_<;>(intro h;first|exact Zx|conv=>whnf))))
      all_goals first|(exfalso; omega)|skip
      refine ⟨k + 1, ⟨by omega, fun i hi => ?_⟩, by omega, ?_, ?_, ?_, ?_⟩
      · by_cases hik : i = k
        · subst hik; exact hok
        · exact hz i (by omega)
      all_goals exact Yz
    · obtain ⟨b1, b2⟩ := hbad hok
      rw [b1, b2]
      unfold idOk qOk at hok
      (repeat' (first|((first|refine Zg ?_|refine Zt dr53 ?_|refine Zn ?_|refine Zc ?_|refine Zu fun b hb=>?_);conv=>whnf)|(refine Zb ?_ ?_<;>(intro h;first|exact Zx|conv=>whnf))))
      all_goals (try dsimp only [Int.toNat_natCast] at *)
      (repeat' (first|((first|refine Zg ?_|refine Zt dr53 ?_|refine Zn ?_|refine Zc ?_|refine Zu fun b hb=>?_);conv=>whnf)|(refine Zb ?_ ?_<;>(intro h;first|exact Zx|conv=>whnf))))
      all_goals first|exact Zrz|(exfalso; omega)
  have hA : ∀ p ∈ ps, idOk p.id ∧ qOk p.q := all_getD.2 fun i hi => hz i (by omega)
  clear hz
  rw [if_neg (by simpa using hA)] at hck
  (repeat' (first|((first|refine Zg ?_|refine Zt dr53 ?_|refine Zn ?_|refine Zc ?_|refine Zu fun b hb=>?_);conv=>whnf)|(refine Zb ?_ ?_<;>(intro h;first|exact Zx|conv=>whnf))))
  have hsr : ∀ k, k ≤ ps.length → 0 ≤ sumP ps k ∧ sumP ps k ≤ 1000000000 * k := by
    intro k
    induction k with
    | zero => intro _; simp [sumP]
    | succ k ih =>
      intro hk
      have := ih (by omega)
      have hp := (hA _ (getD_in (k := k) (by omega))).2
      rw [sumP_succ ps k (by omega)]
      unfold qOk at hp
      push_cast
      omega
  have h13 : (twiceP (ps.map Pt.id) ∨ ∃ p ∈ ps, takenP ss p.id) → splE ss id ps m = 13 ∧ splL ss id ps m = [] := fun h => herr 13 (by omega) (by
    rw [hck]
    by_cases ht : twiceP (ps.map Pt.id)
    · rw [if_pos ht]
    · rw [if_neg ht, if_pos (h.resolve_left ht)])
  refine (W.loopK (ι := Nat) [0, 1, 2, 3, 12] [12] (fun k => [(15, iA k), (14, iA (sumP ps k))]) (fun _ => []) (fun k => k ≤ ps.length ∧ ∀ i, i < k → ¬ takenP ss (ps.getD i default).id ∧ ∀ q, q < i → (ps.getD q default).id ≠ (ps.getD i default).id) (fun k => ps.length - k) 0 ⟨Nat.zero_le _, fun i hi => absurd hi (by omega)⟩ ?_ ?_ ?_)
  · (repeat' (first|exact Yq|exact Yi (by first|rfl|(simp [sumP]; done)|omega)|exact Yo (by first|rfl|(simp [sumP]; done)|omega)|exact Ye (by first|rfl|(simp [sumP]; done)|omega)|refine ⟨_, rfl, Yb ?_, rfl⟩|refine ⟨_, rfl, Yw (by first|rfl|(simp [sumP]; done)|omega) ?_, rfl⟩|refine And.intro ?_ ?_))
  · exact Yz
  conv => whnf
  intro k ⟨hk, hz⟩
  by_cases hk' : k < ps.length
  · have hs := sumP_succ ps k hk'
    have hs0 := hsr k hk
    have hp := (hA _ (getD_in hk')).2
    unfold qOk at hp
    have ht := rtaken_t ss (ps.getD k default).id (by omega) (fun x hx => by have := hO.us x hx; omega)
    by_cases htk : takenP ss (ps.getD k default).id
    · obtain ⟨b1, b2⟩ := h13 (.inr ⟨_, getD_in hk', htk⟩)
      rw [b1, b2]
      rw [decide_eq_true htk] at ht
      (repeat' (first|((first|refine Zg ?_|refine Zt dr53 ?_|refine Zn ?_|refine Zc ?_|refine Zu fun b hb=>?_);conv=>whnf)|(refine Zb ?_ ?_<;>(intro h;first|exact Zx|conv=>whnf))))
      all_goals (try dsimp only [Int.toNat_natCast] at *)
      (repeat' (first|((first|refine Zg ?_|refine Zt dr53 ?_|refine Zn ?_|refine Zc ?_|refine Zu fun b hb=>?_|refine Zy ht ?_|refine Zz ht ?_);conv=>whnf)|(refine Zb ?_ ?_<;>(intro h;first|exact Zx|conv=>whnf))))
      all_goals (try dsimp only [Int.toNat_natCast] at *)
      (repeat' (first|((first|refine Zg ?_|refine Zt dr53 ?_|refine Zn ?_|refine Zc ?_|refine Zu fun b hb=>?_|refine Zy ht ?_|refine Zz ht ?_);conv=>whnf)|(refine Zb ?_ ?_<;>(intro h;first|exact Zx|conv=>whnf))))
      all_goals exact Zrz
    rw [decide_eq_false htk] at ht
    (repeat' (first|((first|refine Zg ?_|refine Zt dr53 ?_|refine Zn ?_|refine Zc ?_|refine Zu fun b hb=>?_);conv=>whnf)|(refine Zb ?_ ?_<;>(intro h;first|exact Zx|conv=>whnf))))
    all_goals (try dsimp only [Int.toNat_natCast] at *)
    (repeat' (first|((first|refine Zg ?_|refine Zt dr53 ?_|refine Zn ?_|refine Zc ?_|refine Zu fun b hb=>?_|refine Zy ht ?_|refine Zz ht ?_);conv=>whnf)|(refine Zb ?_ ?_<;>(intro h;first|exact Zx|conv=>whnf))))
    all_goals (try dsimp only [Int.toNat_natCast] at *)
    (repeat' (first|((first|refine Zg ?_|refine Zt dr53 ?_|refine Zn ?_|refine Zc ?_|refine Zu fun b hb=>?_|refine Zy ht ?_|refine Zz ht ?_);conv=>whnf)|(refine Zb ?_ ?_<;>(intro h;first|exact Zx|conv=>whnf))))
    refine (W.loopK (ι := Nat) [0, 1, 2, 3, 12, 14, 15] [12] (fun j => [(16, iA j)]) (fun _ => []) (fun j => j ≤ k ∧ ∀ q, q < j → (ps.getD q default).id ≠ (ps.getD k default).id) (fun j => k - j) 0 ⟨Nat.zero_le _, fun i hi => absurd hi (by omega)⟩ ?_ ?_ ?_)
    · exact Yz
    · exact Yz
    conv => whnf
    intro j ⟨hj, hy⟩
    by_cases hj' : j < k
    · (repeat' (first|((first|refine Zg ?_|refine Zt dr53 ?_|refine Zn ?_|refine Zc ?_|refine Zu fun b hb=>?_);conv=>whnf)|(refine Zb ?_ ?_<;>(intro h;first|exact Zx|conv=>whnf))))
      all_goals (try dsimp only [Int.toNat_natCast] at *)
      (repeat' (first|((first|refine Zg ?_|refine Zt dr53 ?_|refine Zn ?_|refine Zc ?_|refine Zu fun b hb=>?_);conv=>whnf)|(refine Zb ?_ ?_<;>(intro h;first|exact Zx|conv=>whnf))))
      all_goals (try dsimp only [Int.toNat_natCast] at *)
      (repeat' (first|((first|refine Zg ?_|refine Zt dr53 ?_|refine Zn ?_|refine Zc ?_|refine Zu fun b hb=>?_);conv=>whnf)|(refine Zb ?_ ?_<;>(intro h;first|exact Zx|conv=>whnf))))
      · obtain ⟨b1, b2⟩ := h13 (.inl (Classical.byContradiction fun hn => by
          have hnd := not_twice.1 hn
          have := List.pairwise_iff_getElem.1 hnd j k (by simpa using (show j < ps.length by omega)) (by simpa using hk') hj'
          simp only [List.getElem_map] at this
          rw [← getD_of (show j < ps.length by omega), ← getD_of hk'] at this
          exact this (by omega)))
        rw [b1, b2]
        (repeat' (first|exact Zrq|refine ResLe.agg ?_|refine And.intro ?_ ?_|((conv=>whnf); first|exact Zrq|refine ResLe.agg ?_|refine And.intro ?_ ?_)))
      · refine ⟨j + 1, ⟨by omega, fun q hq => ?_⟩, by omega, ?_, ?_, ?_, ?_⟩
        · by_cases hqj : q = j
          · subst hqj; omega
          · exact hy q (by omega)
        all_goals exact Yz
    · obtain rfl : j = k := by omega
      (repeat' (first|((first|refine Zg ?_|refine Zt dr53 ?_|refine Zn ?_|refine Zc ?_|refine Zu fun b hb=>?_);conv=>whnf)|(refine Zb ?_ ?_<;>(intro h;first|exact Zx|conv=>whnf))))
      refine ⟨j + 1, ⟨by omega, fun i hi => ?_⟩, by omega, ?_, ?_, ?_, ?_⟩
      · by_cases hik : i = j
        · subst hik; exact ⟨htk, hy⟩
        · exact hz i (by omega)
      all_goals (repeat' (first|exact Yq|exact Yi (by first|rfl|exact hs.symm|omega)|exact Yo (by first|rfl|exact hs.symm|omega)|exact Ye (by first|rfl|exact hs.symm|omega)|refine ⟨_, rfl, Yb ?_, rfl⟩|refine ⟨_, rfl, Yw (by first|rfl|exact hs.symm|omega) ?_, rfl⟩|refine And.intro ?_ ?_))
  obtain rfl : k = ps.length := by omega
  have hT : ¬ ∃ p ∈ ps, takenP ss p.id := fun ⟨p, hp, h⟩ => by
    obtain ⟨i, hi, rfl⟩ := List.getElem_of_mem hp
    have := (hz i (by omega)).1
    rw [getD_of hi] at this
    exact this h
  have hnd : (ps.map Pt.id).Nodup := List.pairwise_iff_getElem.2 fun i j hi hj hij => by
    rw [List.length_map] at hi hj
    have := (hz j (by omega)).2 i hij
    rw [getD_of hi, getD_of hj] at this
    simpa using this
  clear hz
  rw [if_neg (not_twice.2 hnd), if_neg hT] at hck
  have hs0 := hsr ps.length (Nat.le_refl _)
  by_cases e5 : sumP ps ps.length = (ss.getD k0 default).q
  rotate_left
  · obtain ⟨b1, b2⟩ := herr 14 (by omega) (by rw [hck, if_pos e5])
    rw [b1, b2]
    (repeat' (first|((first|refine Zg ?_|refine Zt dr53 ?_|refine Zn ?_|refine Zc ?_|refine Zu fun b hb=>?_);conv=>whnf)|(refine Zb ?_ ?_<;>(intro h;first|exact Zx|conv=>whnf))))
    all_goals first|(exfalso; omega)|(repeat' (first|exact Zrq|refine ResLe.agg ?_|refine And.intro ?_ ?_|((conv=>whnf); first|exact Zrq|refine ResLe.agg ?_|refine And.intro ?_ ?_)))
  rw [if_neg (by simpa using e5)] at hck
  rw [hck, if_neg (by omega)] at hE0
  by_cases e6 : 64 < ss.length - 1 + ps.length
  · rw [if_pos e6] at hE0
    rw [hE0, if_neg (by omega)] at hS
    rw [hS, hE0]
    (repeat' (first|((first|refine Zg ?_|refine Zt dr53 ?_|refine Zn ?_|refine Zc ?_|refine Zu fun b hb=>?_);conv=>whnf)|(refine Zb ?_ ?_<;>(intro h;first|exact Zx|conv=>whnf))))
    all_goals first|(exfalso; omega)|(repeat' (first|exact Zrq|refine ResLe.agg ?_|refine And.intro ?_ ?_|((conv=>whnf); first|exact Zrq|refine ResLe.agg ?_|refine And.intro ?_ ?_)))
  rw [if_neg e6] at hE0
  rw [hE0, if_pos rfl] at hS
  rw [hS, hE0]
  have hv : lotErr (ss.getD k0 default).us = 0 := lotErr_iff.2 ⟨hxl, hx.2.2.2.2, ((reps_nodup hO.ok).1 hO.rep).1 _ m1⟩
  have hcm := stk_cmpct hO m1
  have hPt : PtsOk (ss.getD k0 default) ps := ⟨hx.2.2.1, hx.2.2.2.2, hxl, fun p hp => (hA p hp).2, n1.2, e5⟩
  have hcn := rcount_t (ss.getD k0 default).us hx.2.2.2.2 (by omega)
  have hcb := cntOk hx.2.2.2.2 (by omega)
  have hq := hx.2.2.1
  unfold qOk at hq
  have h7 := (rwithout_t ss [id] (by omega) (by simp)).args2 (AVle.refl _) (one_int id)
  have hkl := keep_len ss [id]
  have h8 := rput_t (keepI ss [id]) (partsP m (ss.getD k0 default) ps ps.length) (by omega) (by rw [partsP_len]; omega)
  rw [put_parts hO (fun x hx => by
    have : x.id ∈ (partsP m (ss.getD k0 default) ps ps.length).map Lt.id := List.mem_map.2 ⟨x, hx, rfl⟩
    rw [parts_ids] at this
    obtain ⟨p, hp, he⟩ := List.mem_map.1 this
    rw [← he]
    exact fun ht => hT ⟨p, hp, ht⟩) (by rw [parts_ids]; exact hnd) [id]] at h8
  (repeat' (first|((first|refine Zg ?_|refine Zt dr53 ?_|refine Zn ?_|refine Zc ?_|refine Zu fun b hb=>?_|refine Zy hcn ?_|refine Zz hcn ?_);conv=>whnf)|(refine Zb ?_ ?_<;>(intro h;first|exact Zx|conv=>whnf))))
  all_goals first|(exfalso; omega)|skip
  refine (W.adopt 21 194 45 5 (rowF ltE []) rfl rfl rfl rfl ?_)
  conv => whnf
  refine (W.loopK (ι := Nat) [0, 1, 2, 3, 12, 17] [12] (fun k => [(22, iA k), (18, iA (bdP (ss.getD k0 default) ps k)), (19, iA (sumP ps k)), (20, .dat (slD (restP m (ss.getD k0 default) ps k))), (21, .own 194 5 0 (partsP m (ss.getD k0 default) ps k).length)]) (fun k => [(194, .row 45 5 (partsP m (ss.getD k0 default) ps k).length (rowF ltE (partsP m (ss.getD k0 default) ps k)))]) (fun k => k ≤ ps.length) (fun k => ps.length - k) 0 (Nat.zero_le _) ?_ ?_ ?_)
  · (repeat' (first|exact Yq|exact Yi (by first|rfl|(simp [sumP, bdP]; done)|omega)|exact Yo (by first|rfl|(simp [sumP, bdP]; done)|omega)|exact Ye (by first|rfl|(simp [sumP, bdP]; done)|omega)|refine ⟨_, rfl, Yb ?_, rfl⟩|refine ⟨_, rfl, Yw (by first|rfl|(simp [sumP, bdP]; done)|omega) ?_, rfl⟩|refine And.intro ?_ ?_))
  · exact Yz
  conv => whnf
  intro k hk
  have hr := sumP_rng hPt k hk
  have hb := bdP_rng hPt k hk
  have hl := partsP_len m (ss.getD k0 default) ps k
  by_cases hk' : k < ps.length
  · have hs := sumP_succ ps k hk'
    have hr1 := sumP_rng hPt (k + 1) hk'
    have hb1 := bdP_rng hPt (k + 1) hk'
    have hdv : cnt (ss.getD k0 default).us / (ss.getD k0 default).q * sumP ps (k + 1) ≤ cnt (ss.getD k0 default).us := by
      have g1 := Int.ediv_nonneg hcb.1 (show 0 ≤ (ss.getD k0 default).q by omega)
      have g2 := Int.mul_le_mul_of_nonneg_left hr1.2.2 g1
      have g3 := Int.ediv_mul_le (cnt (ss.getD k0 default).us) (show (ss.getD k0 default).q ≠ 0 by omega)
      omega
    have hM := rmulDivI_t (cnt (ss.getD k0 default).us) (sumP ps (k + 1)) (ss.getD k0 default).q (by omega) (by omega) (by omega) (by omega)
    have hbe : cnt (ss.getD k0 default).us * sumP ps (k + 1) / (ss.getD k0 default).q = bdP (ss.getD k0 default) ps (k + 1) := rfl
    rw [hbe, hs] at hM
    obtain ⟨o1, o2⟩ := restP_v (m := m) hPt hv hcm k hk
    have hp2 := partP_rng (m := m) hPt k hk'
    have hD := rtakeP_t (m := m) o1 o2 hp2 n2
    (repeat' (first|((first|refine Zg ?_|refine Zt dr53 ?_|refine Zn ?_|refine Zc ?_|refine Zu fun b hb=>?_);conv=>whnf)|(refine Zb ?_ ?_<;>(intro h;first|exact Zx|conv=>whnf))))
    all_goals (try dsimp only [Int.toNat_natCast] at *)
    (repeat' (first|((first|refine Zg ?_|refine Zt dr53 ?_|refine Zn ?_|refine Zc ?_|refine Zu fun b hb=>?_|refine Zy hM ?_|refine Zz hM ?_|refine Zy hD ?_|refine Zz hD ?_);conv=>whnf)|(refine Zb ?_ ?_<;>(intro h;first|exact Zx|conv=>whnf))))
    all_goals (try dsimp only [Int.toNat_natCast] at *)
    (repeat' (first|((first|refine Zg ?_|refine Zt dr53 ?_|refine Zn ?_|refine Zc ?_|refine Zu fun b hb=>?_|refine Zy hM ?_|refine Zz hM ?_|refine Zy hD ?_|refine Zz hD ?_);conv=>whnf)|(refine Zb ?_ ?_<;>(intro h;first|exact Zx|conv=>whnf))))
    have hl1 : (partsP m (ss.getD k0 default) ps k).length + 1 = (partsP m (ss.getD k0 default) ps (k + 1)).length := by rw [partsP_len, partsP_len]
    refine ⟨k + 1, by omega, by omega, ?_, ?_, ?_, ?_⟩
    all_goals (repeat' (first|exact Yq|exact Yi (by first|rfl|exact hs.symm|exact hl1|omega)|exact Yo (by first|rfl|exact hs.symm|exact hl1|omega)|exact Ye (by first|rfl|exact hs.symm|exact hl1|omega)|refine ⟨_, rfl, Yb ?_, rfl⟩|refine ⟨_, rfl, Yw (by first|rfl|exact hs.symm|exact hl1|omega) ?_, rfl⟩|refine And.intro ?_ ?_))
    rw [partsP_succ]
    refine rowF_snoc (us := partsP m (ss.getD k0 default) ps k) (x := partP m (ss.getD k0 default) ps k) rfl fun j hj => ?_
    rcases j with _|_|_|_|_|j
    all_goals first|exact Dle.refl _|omega
  · obtain rfl : k = ps.length := by omega
    (repeat' (first|((first|refine Zv 45 ?_|refine Zt dr53 ?_|refine Zn ?_|refine Zc ?_|refine Zu fun b hb=>?_);conv=>whnf)|(refine Zb ?_ ?_<;>(intro h;first|exact Zx|conv=>whnf))))
    refine W.pb [197] ?_
    (repeat' (first|((first|refine Zg ?_|refine W.drawP dr53 rfl mixed rfl ?_|refine Zn ?_|refine Zc ?_|refine Zu fun b hb=>?_|refine Zy (ACalls.at (h7)) ?_|refine Zz (ACalls.at (h7)) ?_);conv=>whnf)|(refine Zb ?_ ?_<;>(intro h;first|exact Zx|conv=>whnf))))
    refine ExCall.pub 194 rfl ?_
    conv => whnf
    (repeat' (first|((first|refine Zg ?_|refine W.drawP dr53 rfl mixed rfl ?_|refine Zn ?_|refine Zc ?_|refine Zu fun b hb=>?_|refine Zq (ACalls.at (h8)) ?_|refine Zw (ACalls.at (h8)) ?_);conv=>whnf)|(refine Zb ?_ ?_<;>(intro h;first|exact Zx|conv=>whnf))))
    all_goals exact Zrz

end Go.Proofs.YtacpjihbbmoolaaGreatDoor
