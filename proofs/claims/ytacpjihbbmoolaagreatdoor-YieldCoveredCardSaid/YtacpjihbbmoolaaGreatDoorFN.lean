/- The law of stocks: Validate, Find, Covers. The law of lots divided. Lots united by the package. The law of lots united. What a made stock comes to when a lot is divided in two, and when the parts are united again. Sources covered by made stocks; lots that are transferred and come back (plain). Lots moved and accepted: the package's and the reference's. -/
import Derived.Test.YtacpjihbbmoolaaGreatDoorCZ
import Derived.Test.YtacpjihbbmoolaaGreatDoorFG

namespace Go.Proofs.YtacpjihbbmoolaaGreatDoor
open Go Go.RowKit
set_option linter.unusedVariables false
set_option linter.unusedSimpArgs false
set_option maxRecDepth 100000
set_option maxHeartbeats 4000000
attribute [local irreducible] ResLe AVle ArgLe ArgP EntLe Dle ResH ArgQ
end Go.Proofs.YtacpjihbbmoolaaGreatDoor

namespace Go.Proofs.YtacpjihbbmoolaaGreatDoor
open Go Go.RowKit
set_option linter.unusedVariables false
set_option linter.unusedSimpArgs false
set_option maxRecDepth 100000
set_option maxHeartbeats 4000000
attribute [local irreducible] ResLe AVle ArgLe ArgP EntLe Dle ResH ArgQ

def nW (ss : List Lt) : Nat → Int
  | 0 => 0
  | k + 1 => IntKind.i64.wrap (nW ss k + ((ss.getD k default).us.length : Int))
def lightW (ss : List Lt) : Prop := ∀ i, i < ss.length → i < 80 ∧ nW ss (i + 1) ≤ 300
noncomputable instance (ss : List Lt) : Decidable (lightW ss) := Classical.propDecidable _
end Go.Proofs.YtacpjihbbmoolaaGreatDoor

namespace Go.Proofs.YtacpjihbbmoolaaGreatDoor
open Go Go.RowKit
set_option linter.unusedVariables false
set_option linter.unusedSimpArgs false
set_option maxRecDepth 100000
set_option maxHeartbeats 4000000
attribute [local irreducible] ResLe AVle ArgLe ArgP EntLe Dle ResH ArgQ

end Go.Proofs.YtacpjihbbmoolaaGreatDoor

namespace Go.Proofs.YtacpjihbbmoolaaGreatDoor
open Go Go.RowKit
set_option linter.unusedVariables false
set_option linter.unusedSimpArgs false
set_option maxRecDepth 100000
set_option maxHeartbeats 4000000
attribute [local irreducible] ResLe AVle ArgLe ArgP EntLe Dle ResH ArgQ

end Go.Proofs.YtacpjihbbmoolaaGreatDoor

namespace Go.Proofs.YtacpjihbbmoolaaGreatDoor
open Go Go.RowKit
set_option linter.unusedVariables false
set_option linter.unusedSimpArgs false
set_option maxRecDepth 100000

def totQ (ss : List Lt) : Int := (ss.map Lt.q).sum
def totN (ss : List Lt) : Int := (ss.map fun x => cnt x.us).sum
structure TwoR (ss S : List Lt) (y A B : Lt) : Prop where
  stk : StkOk S
  inA : A ∈ S
  inB : B ∈ S
  old : ¬ hasI S y.id
  tq : totQ S = totQ ss
  tn : totN S = totN ss
  kA : 0 ≤ cnt A.us
  kB : cnt A.us + cnt B.us = cnt y.us
  sh : cnt A.us = cnt y.us * A.q / y.q
end Go.Proofs.YtacpjihbbmoolaaGreatDoor

namespace Go.Proofs.YtacpjihbbmoolaaGreatDoor
open Go Go.RowKit
set_option linter.unusedVariables false
set_option linter.unusedSimpArgs false
set_option maxRecDepth 100000

theorem units_fst {s : Sl} {p : Int × Int} (h : p ∈ unitsOf s) : p.1 = s.m := (mem_units.1 (show (p.1, p.2) ∈ unitsOf s from h)).1
theorem cnt_ofS (src : Int) : ∀ us : List Sl, (∀ s ∈ us, s.s ≤ s.e) → cnt (ofS us src) = (((expand us).filter fun p => decide (p.1 = src)).length : Int)
  | [], _ => rfl
  | s :: l, h => by
    have ih := cnt_ofS src l fun y hy => h y (by simp [hy])
    have hs := h s (by simp)
    rw [expand_cons, List.filter_append, List.length_append]
    unfold ofS at ih ⊢
    by_cases hm : s.m = src
    · rw [List.filter_cons_of_pos (by simpa using hm), cnt_cons, ih]
      have e : (unitsOf s).filter (fun p => decide (p.1 = src)) = unitsOf s := List.filter_eq_self.2 fun p hp => by rw [units_fst hp]; simpa using hm
      rw [e, units_len]
      unfold lenS
      push_cast
      omega
    · rw [List.filter_cons_of_neg (by simpa using hm), ih]
      have e : (unitsOf s).filter (fun p => decide (p.1 = src)) = [] := List.filter_eq_nil_iff.2 fun p hp => by rw [units_fst hp]; simpa using hm
      rw [e]
      simp
theorem chU_none {m : Int} : ∀ {l : List Ch}, (∀ d ∈ l, d.m ≠ m) → (chU l).filter (fun p => decide (p.1 = m)) = [] := fun {l} h =>
  List.filter_eq_nil_iff.2 fun p hp => by
    unfold chU at hp
    obtain ⟨d, hd, hp⟩ := List.mem_flatMap.1 hp
    have e : p.1 = d.m := units_fst hp
    rw [e]
    simpa using h d hd
theorem chU_app (a b : List Ch) : chU (a ++ b) = chU a ++ chU b := List.flatMap_append
theorem chU_count {cs : List Ch} (h : cs.Pairwise fun a b => a.m < b.m) {c : Ch} (hc : c ∈ cs) (hu : 1 ≤ c.u) : (((chU cs).filter fun p => decide (p.1 = c.m)).length : Int) = c.u := by
  obtain ⟨a, b, rfl⟩ := List.append_of_mem hc
  obtain ⟨h1, h2, h3⟩ := List.pairwise_append.1 h
  obtain ⟨h4, h5⟩ := List.pairwise_cons.1 h2
  have e : chU (c :: b) = unitsOf ⟨c.m, 0, c.u⟩ ++ chU b := rfl
  rw [chU_app, e, List.filter_append, List.filter_append, chU_none (fun d hd => by have := h3 d hd c (by simp); omega), chU_none (fun d hd => by have := h4 d hd; omega), List.nil_append, List.append_nil, List.filter_eq_self.2 (fun p hp => by rw [units_fst hp]; simp), units_len]
  show ((c.u - 0).toNat : Int) = c.u
  omega
theorem ch_eq {cs : List Ch} (h : cs.Pairwise fun a b => a.m < b.m) {c d : Ch} (hc : c ∈ cs) (hd : d ∈ cs) (e : c.m = d.m) : c = d := by
  obtain ⟨i, hi, rfl⟩ := List.getElem_of_mem hc
  obtain ⟨j, hj, rfl⟩ := List.getElem_of_mem hd
  have hp := List.pairwise_iff_getElem.1 h
  rcases Nat.lt_trichotomy i j with hij|hij|hij
  · have := hp i j hi hj hij; omega
  · subst hij; rfl
  · have := hp j i hj hi hij; omega
theorem est_cov {ss : List Lt} {cs : List Ch} {f : Int} (h : EstOk ss cs f) {c : Ch} (hc : c ∈ cs) : qOk c.u ∧ stkErr ss = 0 ∧ covP ss c.m c.u := by
  have hr := h.chr c hc
  refine ⟨by unfold qOk; omega, stkErr_zero h.stk, fun s hs => ?_, ?_⟩
  · unfold covL ofS at hs
    obtain ⟨h1, h2⟩ := List.mem_filter.1 hs
    obtain ⟨us, hus, h1⟩ := List.mem_flatten.1 h1
    unfold here at hus
    obtain ⟨x, hx, rfl⟩ := List.mem_map.1 hus
    obtain ⟨_, d, hd, e1, e2⟩ := est_src h (List.mem_filter.1 hx).1 h1
    have e3 : s.m = c.m := by simpa using h2
    rw [ch_eq h.chs hc hd (by omega)]
    exact e2
  · have hle : ∀ s ∈ (here ss).flatten, s.s ≤ s.e := fun s hs => by
      obtain ⟨us, hus, h1⟩ := List.mem_flatten.1 hs
      unfold here at hus
      obtain ⟨x, hx, rfl⟩ := List.mem_map.1 hus
      exact slOk_le (h.stk.ok x (List.mem_filter.1 hx).1).2.2.2.2 s h1
    unfold covL
    rw [cnt_ofS c.m _ hle]
    have hp : (expand (here ss).flatten).Perm (chU cs) := h.cov
    rw [(hp.filter _).length_eq]
    exact chU_count h.chs hc hr.2.2.1
noncomputable def accE (ss : List Lt) (x : Lt) : Int := if stkErr ss ≠ 0 then stkErr ss else if stkErr [x] ≠ 0 then stkErr [x] else if x.p ≠ 1 then 17 else if (hasI ss x.id ∧ (findV ss x.id).p ≠ 13) ∨ reps (ss ++ [x]) then 13 else if ¬ hasI ss x.id ∧ 64 ≤ ss.length then 8 else 0
noncomputable def accL (ss : List Lt) (x : Lt) : List Lt := if accE ss x = 0 then replL ss [x.id] [x] else []
theorem reps_app {ss : List Lt} {x : Lt} (h : StkOk ss) (hx : ltOk x) (hp : x.p ≠ 13) (hn : (expand x.us).Nodup) : reps (ss ++ [x]) ↔ ∃ y ∈ ss, y.p ≠ 13 ∧ meetL y.us x.us := by
  have hok : ∀ y ∈ ss ++ [x], ltOk y := fun y hy => by
    rcases List.mem_append.1 hy with hy|hy
    · exact h.ok y hy
    · rw [List.mem_singleton.1 hy]; exact hx
  have h0 := (reps_nodup h.ok).1 h.rep
  have hu : unitsL (ss ++ [x]) = unitsL ss ++ expand x.us := by
    rw [unitsL_app, unitsL_all (a := [x]) fun y hy => by rw [List.mem_singleton.1 hy]; exact hp]
    simp
  rw [← Decidable.not_iff_not, reps_nodup hok, hu, List.nodup_append]
  constructor
  · rintro ⟨_, _, _, h3⟩ ⟨y, hy, hy13, hm⟩
    obtain ⟨p, p1, p2⟩ := (meetL_iff (slOk_lt (h.ok y hy).2.2.2.2) (slOk_lt hx.2.2.2.2)).1 hm
    exact h3 p (mem_unitsL.2 ⟨y, hy, hy13, p1⟩) p p2 rfl
  · intro hm
    refine ⟨fun y hy => ?_, h0.2, hn, fun a ha b hb hab => ?_⟩
    · rcases List.mem_append.1 hy with hy|hy
      · exact h0.1 y hy
      · rw [List.mem_singleton.1 hy]; exact hn
    · subst hab
      obtain ⟨y, hy, hy13, hp⟩ := mem_unitsL.1 ha
      exact hm ⟨y, hy, hy13, (meetL_iff (slOk_lt (h.ok y hy).2.2.2.2) (slOk_lt hx.2.2.2.2)).2 ⟨a, hp, hb⟩⟩
theorem stk_one {x : Lt} (h : ltOk x) (hu : x.us.length ≤ 64) (hj : joinL x.us = x.us) (hn : (expand x.us).Nodup) : StkOk [x] := by
  have h1 : ∀ y ∈ [x], ltOk y := fun y hy => by rw [List.mem_singleton.1 hy]; exact h
  refine ⟨by show 1 ≤ 64; omega, fun y hy => by rw [List.mem_singleton.1 hy]; exact hu, h1, fun y hy => by rw [List.mem_singleton.1 hy, hj], fun i hi => absurd hi (by show ¬ i + 1 < 1; omega), (reps_nodup h1).2 ⟨fun y hy => by rw [List.mem_singleton.1 hy]; exact hn, ?_⟩⟩
  rw [unitsL_eq]
  by_cases hp : x.p = 13
  · simp [hp]
  · simp [hp]
    exact hn
theorem set_keep {ss : List Lt} (ha : ascP ss) {x y : Lt} (hx : x ∈ ss) (hid : y.id = x.id) {k : Nat} (hk : k < ss.length) (hkx : ss.getD k default = x) : (ss.set k y).Perm (keepI ss [x.id] ++ [y]) ∧ keepI (ss.set k y) [x.id] = keepI ss [x.id] := by
  have h2 : ss.set k y = ss.take k ++ y :: ss.drop (k + 1) := List.set_eq_take_append_cons_drop.trans (if_pos hk)
  have h3 : ss = ss.take k ++ x :: ss.drop (k + 1) := by
    rw [← hkx, getD_of hk, List.getElem_cons_drop, List.take_append_drop]
  have hp := List.pairwise_iff_getElem.1 ha
  have ht : ∀ z ∈ ss.take k, z.id ≠ x.id := fun z hz => by
    obtain ⟨i, hi, rfl⟩ := List.getElem_of_mem hz
    rw [List.length_take] at hi
    rw [List.getElem_take]
    have := hp i k (by omega) hk (by omega)
    rw [getD_of hk] at hkx
    rw [hkx] at this
    omega
  have hd : ∀ z ∈ ss.drop (k + 1), z.id ≠ x.id := fun z hz => by
    obtain ⟨i, hi, rfl⟩ := List.getElem_of_mem hz
    rw [List.length_drop] at hi
    rw [List.getElem_drop]
    have := hp k (k + 1 + i) hk (by omega) (by omega)
    rw [getD_of hk] at hkx
    rw [hkx] at this
    omega
  have keep : ∀ l : List Lt, (∀ z ∈ l, z.id ≠ x.id) → keepI l [x.id] = l := fun l hl => List.filter_eq_self.2 fun z hz => by simpa using hl z hz
  have one : ∀ z : Lt, z.id = x.id → keepI [z] [x.id] = [] := fun z hz => by unfold keepI; simp [hz]
  have app : ∀ a b : List Lt, keepI (a ++ b) [x.id] = keepI a [x.id] ++ keepI b [x.id] := fun a b => List.filter_append ..
  have e : ∀ z : Lt, z.id = x.id → keepI (ss.take k ++ z :: ss.drop (k + 1)) [x.id] = ss.take k ++ ss.drop (k + 1) := fun z hz => by
    rw [show ss.take k ++ z :: ss.drop (k + 1) = ss.take k ++ ([z] ++ ss.drop (k + 1)) from rfl, app, app, keep _ ht, keep _ hd, one z hz, List.nil_append]
  have e1 : keepI ss [x.id] = ss.take k ++ ss.drop (k + 1) := by
    conv => lhs; rw [h3]
    exact e x rfl
  refine ⟨?_, ?_⟩
  · rw [h2, e1]
    refine List.perm_middle.trans ?_
    exact (List.perm_append_comm (l₁ := [y])).trans (List.Perm.refl _)
  · rw [h2, e y hid, e1]
theorem set_asc {ss : List Lt} (ha : ascP ss) {y : Lt} {k : Nat} (hk : k < ss.length) (hid : y.id = (ss.getD k default).id) : ascP (ss.set k y) := by
  have hp := List.pairwise_iff_getElem.1 ha
  refine List.pairwise_iff_getElem.2 fun i j hi hj hij => ?_
  rw [List.length_set] at hi hj
  have h1 := hp i j hi hj hij
  rw [getD_of hk] at hid
  rw [List.getElem_set, List.getElem_set]
  split
  · rename_i e
    subst e
    rw [if_neg (by omega), hid]
    exact h1
  · split
    · rename_i e
      subst e
      rw [hid]
      exact h1
    · exact h1
theorem repl_set {ss : List Lt} (ha : ascP ss) {x : Lt} (hx : x ∈ ss) {k : Nat} (hk : k < ss.length) (hkx : ss.getD k default = x) {y z : Lt} (hy : y.id = x.id) (hz : z.id = x.id) : replL (ss.set k y) [x.id] [z] = ss.set k z := by
  obtain ⟨h1, h2⟩ := set_keep ha hx hz hk hkx
  obtain ⟨_, h3⟩ := set_keep ha hx hy hk hkx
  unfold replL
  rw [h3]
  exact sort_unique h1.symm (set_asc ha hk (by rw [hkx, hz]))
theorem set_same {ss : List Lt} {k : Nat} (hk : k < ss.length) : ss.set k (ss.getD k default) = ss := by rw [getD_of hk, List.set_getElem_self]
theorem find_pos {ss : List Lt} (ha : ascP ss) {id : Int} (h : hasI ss id) : findI ss id < ss.length ∧ ss.getD (findI ss id) default = findV ss id ∧ (findV ss id).id = id := by
  obtain ⟨k, q1, q2, q3, q4, q5⟩ := findI_ex h
  rw [q2]
  exact ⟨q1, q5, (findV_mem h).2⟩
theorem mov_repl {ss : List Lt} {id a : Int} (h : movE ss id a = 0) : movL ss id a = replL ss [id] [⟨(findV ss id).id, (findV ss id).c, (findV ss id).q, nxR (findV ss id).p a, (findV ss id).us⟩] := by
  obtain ⟨hO, hh, _, he⟩ := movE_inv h
  obtain ⟨p1, p2, p3⟩ := find_pos (asc_of hO.asc) hh
  have := repl_set (asc_of hO.asc) (findV_mem hh).1 p1 p2 (y := findV ss id) (z := ⟨(findV ss id).id, (findV ss id).c, (findV ss id).q, nxR (findV ss id).p a, (findV ss id).us⟩) rfl rfl
  have e : ([id] : List Int) = [(findV ss id).id] := by rw [p3]
  rw [he, e]
  have hs := set_same p1
  rw [p2] at hs
  rw [hs] at this
  exact this.symm
theorem nx_two {p : Int} (hp : 1 ≤ p ∧ p ≤ 13) : nxE p 2 = 0 → nxR p 2 = 2 := by
  rcases (show p = 1 ∨ p = 2 ∨ p = 3 ∨ p = 4 ∨ p = 5 ∨ p = 6 ∨ p = 7 ∨ p = 8 ∨ p = 9 ∨ p = 10 ∨ p = 11 ∨ p = 12 ∨ p = 13 by omega) with rfl|rfl|rfl|rfl|rfl|rfl|rfl|rfl|rfl|rfl|rfl|rfl|rfl
  all_goals decide
abbrev wp (x : Lt) (p : Int) : Lt := ⟨x.id, x.c, x.q, p, x.us⟩
theorem here_split (a b : List Lt) (x : Lt) : unitsL (a ++ x :: b) = unitsL a ++ ((if x.p = 13 then [] else expand x.us) ++ unitsL b) := by
  rw [show a ++ x :: b = a ++ ([x] ++ b) from rfl, unitsL_app, unitsL_app]
  congr 2
  rw [unitsL_eq]
  by_cases hp : x.p = 13
  · simp [hp]
  · simp [hp]
theorem stk_setp {ss : List Lt} (h : StkOk ss) {k : Nat} (hk : k < ss.length) (h13 : (ss.getD k default).p ≠ 13) {p : Int} (hp : 1 ≤ p ∧ p ≤ 13) : StkOk (ss.set k (wp (ss.getD k default) p)) := by
  have hx := getD_in hk
  have hmem : ∀ z ∈ ss.set k (wp (ss.getD k default) p), z ∈ ss ∨ z = wp (ss.getD k default) p := fun z hz => List.mem_or_eq_of_mem_set hz
  have h0 := h.ok _ hx
  have hok : ∀ z ∈ ss.set k (wp (ss.getD k default) p), ltOk z := fun z hz => by
    rcases hmem z hz with hz|rfl
    · exact h.ok z hz
    · exact ⟨h0.1, h0.2.1, h0.2.2.1, hp, h0.2.2.2.2⟩
  have hn := (reps_nodup h.ok).1 h.rep
  have h2 : ss.set k (wp (ss.getD k default) p) = ss.take k ++ wp (ss.getD k default) p :: ss.drop (k + 1) := List.set_eq_take_append_cons_drop.trans (if_pos hk)
  have h3 : ss = ss.take k ++ ss.getD k default :: ss.drop (k + 1) := by
    rw [getD_of hk, List.getElem_cons_drop, List.take_append_drop]
  refine ⟨by rw [List.length_set]; exact h.len, fun z hz => ?_, hok, fun z hz => ?_, asc_to (set_asc (asc_of h.asc) hk rfl), (reps_nodup hok).2 ⟨fun z hz => ?_, ?_⟩⟩
  · rcases hmem z hz with hz|rfl
    · exact h.us z hz
    · exact (h.us _ hx : (ss.getD k default).us.length ≤ 64)
  · rcases hmem z hz with hz|rfl
    · exact h.jn z hz
    · exact (h.jn _ hx : (joinL (ss.getD k default).us).length = (ss.getD k default).us.length)
  · rcases hmem z hz with hz|rfl
    · exact hn.1 z hz
    · exact (hn.1 _ hx : (expand (ss.getD k default).us).Nodup)
  · have hu : (unitsL ss).Nodup := hn.2
    rw [h3, here_split, if_neg h13] at hu
    rw [h2, here_split]
    split
    · rw [List.nil_append]
      exact hu.sublist (List.Sublist.append (List.Sublist.refl _) (List.sublist_append_right ..))
    · exact hu
theorem back {ss : List Lt} {cs : List Ch} {f : Int} (h : EstOk ss cs f) {k : Nat} (hk : k < ss.length) (hm : movE ss (ss.getD k default).id 2 = 0) :
    movL ss (ss.getD k default).id 2 = ss.set k (wp (ss.getD k default) 2) ∧ StkOk (ss.set k (wp (ss.getD k default) 2)) ∧ accE (ss.set k (wp (ss.getD k default) 2)) (wp (ss.getD k default) 1) = 13
    ∧ movE (ss.set k (wp (ss.getD k default) 2)) (ss.getD k default).id 4 = 0 ∧ movL (ss.set k (wp (ss.getD k default) 2)) (ss.getD k default).id 4 = ss.set k (wp (ss.getD k default) 13) ∧ StkOk (ss.set k (wp (ss.getD k default) 13))
    ∧ accE (ss.set k (wp (ss.getD k default) 13)) (wp (ss.getD k default) 1) = 0 ∧ accL (ss.set k (wp (ss.getD k default) 13)) (wp (ss.getD k default) 1) = ss.set k (wp (ss.getD k default) 1) ∧ hasI (ss.set k (wp (ss.getD k default) 1)) (ss.getD k default).id ∧ findV (ss.set k (wp (ss.getD k default) 1)) (ss.getD k default).id = wp (ss.getD k default) 1
    ∧ StkOk (ss.set k (wp (ss.getD k default) 1)) := by
  have hO := h.stk
  have hx := getD_in hk
  have ha := asc_of hO.asc
  have h13 := (h.id _ hx).2
  have hfx := find_self ha hx
  generalize hX : ss.getD k default = x at *
  have v : ∀ p : Int, 1 ≤ p ∧ p ≤ 13 → StkOk (ss.set k (wp x p)) := fun p hp => by have := stk_setp hO hk (by rw [hX]; exact h13) hp; rwa [hX] at this
  have hin : ∀ p, wp x p ∈ ss.set k (wp x p) := fun p => List.mem_set hk _
  have hf : ∀ p : Int, 1 ≤ p ∧ p ≤ 13 → hasI (ss.set k (wp x p)) x.id ∧ findV (ss.set k (wp x p)) x.id = wp x p := fun p hp => ⟨⟨_, hin p, rfl⟩, find_self (asc_of (v p hp).asc) (hin p)⟩
  have hrs : ∀ (p : Int) (z : Lt), z.id = x.id → replL (ss.set k (wp x p)) [x.id] [z] = ss.set k z := fun p z hz => repl_set ha hx hk hX (y := wp x p) (z := z) rfl hz
  obtain ⟨_, _, hnx, _⟩ := movE_inv hm
  have hlx := hO.ok x hx
  have hnr : nxR (findV ss x.id).p 2 = 2 := by
    rw [hfx] at hnx ⊢
    exact nx_two hlx.2.2.2.1 hnx
  have m1 : movL ss x.id 2 = ss.set k (wp x 2) := by
    rw [mov_repl hm, hnr, hfx]
    have := repl_set ha hx hk hX (y := x) (z := wp x 2) rfl rfl
    have hs := set_same hk
    rw [hX] at hs
    rw [hs] at this
    exact this
  have v2 := v 2 (by omega)
  have v13 := v 13 (by omega)
  have hn := ((reps_nodup hO.ok).1 hO.rep).1 x hx
  have o1 : StkOk [wp x 1] := stk_one ⟨hlx.1, hlx.2.1, hlx.2.2.1, by show (1 : Int) ≤ 1 ∧ (1 : Int) ≤ 13; omega, hlx.2.2.2.2⟩ (hO.us x hx) (show joinL x.us = x.us from stk_join hO hx) hn
  have a1 : accE (ss.set k (wp x 2)) (wp x 1) = 13 := by
    unfold accE
    rw [if_neg (by simpa using stkErr_zero v2), if_neg (by simpa using stkErr_zero o1), if_neg (by simp), if_pos (.inl ⟨(hf 2 (by omega)).1, by rw [(hf 2 (by omega)).2]; show (2 : Int) ≠ 13; omega⟩)]
  have e4 : movE (ss.set k (wp x 2)) x.id 4 = 0 := by
    unfold movE
    rw [if_neg (by simpa using stkErr_zero v2), if_neg (fun hh => hh (hf 2 (by omega)).1), (hf 2 (by omega)).2]
    show nxE 2 4 = 0
    decide
  have m4 : movL (ss.set k (wp x 2)) x.id 4 = ss.set k (wp x 13) := by
    rw [mov_repl e4, (hf 2 (by omega)).2]
    have hr : nxR (wp x 2).p 4 = 13 := by show nxR 2 4 = 13; decide
    rw [hr]
    exact hrs 2 (wp x 13) rfl
  have a0 : accE (ss.set k (wp x 13)) (wp x 1) = 0 := by
    unfold accE
    rw [if_neg (by simpa using stkErr_zero v13), if_neg (by simpa using stkErr_zero o1), if_neg (by simp), if_neg (fun hh => ?_), if_neg (fun hh => hh.1 (hf 13 (by omega)).1)]
    rcases hh with ⟨_, hh⟩|hh
    · rw [(hf 13 (by omega)).2] at hh
      exact hh rfl
    · obtain ⟨y, hy, hy13, hmt⟩ := (reps_app v13 (x := wp x 1) ⟨hlx.1, hlx.2.1, hlx.2.2.1, by show (1 : Int) ≤ 1 ∧ (1 : Int) ≤ 13; omega, hlx.2.2.2.2⟩ (by show (1 : Int) ≠ 13; omega) hn).1 hh
      have hyk : y ∈ keepI ss [x.id] := by
        have hp := (set_keep ha hx (y := wp x 13) rfl hk hX).1
        rcases List.mem_append.1 (hp.mem_iff.1 hy) with hy|hy
        · exact hy
        · rw [List.mem_singleton.1 hy] at hy13
          exact absurd rfl hy13
      obtain ⟨p, p1, p2⟩ := (meetL_iff (slOk_lt (hO.ok y (keep_mem hyk).1).2.2.2.2) (slOk_lt hlx.2.2.2.2)).1 hmt
      have hss : ss.Perm (keepI ss [x.id] ++ [x]) := by
        have := rem_perm ha (ids := [x.id]) (fun i hi => by rw [List.mem_singleton.1 hi]; exact ⟨x, hx, rfl⟩) (by simp)
        rw [List.map_cons, List.map_nil, hfx] at this
        exact this
      have hnd := (unitsL_perm hss).nodup_iff.1 (est_nodup hO)
      rw [unitsL_app, List.nodup_append] at hnd
      exact hnd.2.2 p (mem_unitsL.2 ⟨y, hyk, hy13, p1⟩) p (mem_unitsL.2 ⟨x, by simp, h13, p2⟩) rfl
  refine ⟨m1, v2, a1, e4, m4, v13, a0, ?_, (hf 1 (by omega)).1, (hf 1 (by omega)).2, v 1 (by omega)⟩
  unfold accL
  rw [if_pos a0]
  exact hrs 13 (wp x 1) rfl
end Go.Proofs.YtacpjihbbmoolaaGreatDoor

namespace Go.Proofs.YtacpjihbbmoolaaGreatDoor
open Go Go.RowKit
set_option linter.unusedVariables false
set_option linter.unusedSimpArgs false
set_option maxRecDepth 100000
set_option maxHeartbeats 4000000
attribute [local irreducible] ResLe AVle ArgLe ArgP EntLe Dle ResH ArgQ

def mt (p a : Int) (i : Nat) : Prop := mvL.getD (i * 3 + 0) 0 = a ∧ mvL.getD (i * 3 + 1) 0 = p
instance (p a : Int) (i : Nat) : Decidable (mt p a i) := by unfold mt; exact inferInstance
theorem pvalid_t (p : Int) : ACalls XX 61 [iA p] (bA (decide (0 ≤ p ∧ p ≤ 13))) := by
  refine ACalls.of (n := Tryz.f61.ntmps) XX_ok Tryz.func61 rfl (by kernel_rfl) rfl rfl (Nat.le_of_ble_eq_true rfl) ?_
  (repeat' (first|((first|refine Zg ?_|refine Zn ?_|refine Zc ?_|refine Zu fun b hb=>?_);conv=>whnf)|(refine Zb ?_ ?_<;>(intro h;first|exact Zx|conv=>whnf))))
  all_goals exact Zrz
theorem pnext_at (p a : Int) (n : Nat) (hp : 0 ≤ p ∧ p ≤ 13) (ha : 1 ≤ a ∧ a ≤ 14) (hn : n ≤ 36) (h1 : ∀ i, i < n → ¬ mt p a i) (h2 : n = 36 ∨ mt p a n) :
    ACalls XX 25 [iA p, iA a] (.tup [iA (if n = 36 then 0 else mvL.getD (n * 3 + 2) 0), iA (if n = 36 then 17 else 0)]) := by
  have hv := pvalid_t p
  rw [decide_eq_true hp] at hv
  refine ACalls.of (n := Tryz.f25.ntmps) XX_ok Tryz.func25 rfl (by kernel_rfl) rfl rfl (Nat.le_of_ble_eq_true rfl) ?_
  (repeat' (first|((first|refine Zg ?_|refine Zn ?_|refine Zc ?_|refine Zu fun b hb=>?_|refine Zy hv ?_);conv=>whnf)|(refine Zb ?_ ?_<;>(intro h;first|exact Zx|conv=>whnf))))
  all_goals first|(exfalso; omega)|skip
  refine (W.loopK (ι := Nat) [0, 1] [] (fun k => [(19, .agg (mvL.map iA)), (20, iA k)]) (fun _ => []) (fun k => k ≤ n) (fun k => n - k) 0 (by omega) ⟨AVle.of_eq rfl, AVle.refl _, trivial⟩ trivial ?_)
  conv => whnf
  intro k hk
  (repeat' (first|((first|refine Zg ?_|refine Zn ?_|refine Zc ?_|refine Zu fun b hb=>?_);conv=>whnf)|(refine Zb ?_ ?_<;>(intro h;first|exact Zx|conv=>whnf))))
  · rename_i e4
    have hm : mt p a k := ⟨e4, h⟩
    have hkn : k = n := by
      have : ¬ k < n := fun hlt => h1 k hlt hm
      omega
    subst hkn
    rw [if_neg (by omega), if_neg (by omega)]
    (repeat' (first|exact trivial|exact AVle.refl _|exact AVle.int (by first|rfl|omega)|exact ResLe.pure (AVle.refl _) rfl|exact ResLe.pure (AVle.int (by first|rfl|omega)) rfl|refine ResLe.pure (AVle.agg ?_) rfl|refine ⟨?_, ?_⟩|((conv=>whnf); first|exact ResLe.pure (AVle.refl _) rfl|exact ResLe.pure (AVle.int (by first|rfl|omega)) rfl|refine ResLe.pure (AVle.agg ?_) rfl)))
  · have hkn : k ≠ n := fun e => by
      subst e
      rcases h2 with h2|h2
      · omega
      · exact h h2.2
    (refine ⟨k + 1, by omega, by omega, ?_, ?_, ?_, ?_⟩ <;> (repeat' (first|exact trivial|exact AVle.refl _|exact AVle.int (by omega)|exact AVle.int (by (try push_cast); omega)|exact ⟨_, rfl, EntLe.refl _, rfl⟩|refine ⟨?_, ?_⟩)))
  · have hkn : k ≠ n := fun e => by
      subst e
      rcases h2 with h2|h2
      · omega
      · exact h h2.1
    (refine ⟨k + 1, by omega, by omega, ?_, ?_, ?_, ?_⟩ <;> (repeat' (first|exact trivial|exact AVle.refl _|exact AVle.int (by omega)|exact AVle.int (by (try push_cast); omega)|exact ⟨_, rfl, EntLe.refl _, rfl⟩|refine ⟨?_, ?_⟩)))
  · have hkn : n = 36 := by omega
    subst hkn
    rw [if_pos rfl, if_pos rfl]
    (repeat' (first|exact trivial|exact AVle.refl _|exact AVle.int (by first|rfl|omega)|exact ResLe.pure (AVle.refl _) rfl|exact ResLe.pure (AVle.int (by first|rfl|omega)) rfl|refine ResLe.pure (AVle.agg ?_) rfl|refine ⟨?_, ?_⟩|((conv=>whnf); first|exact ResLe.pure (AVle.refl _) rfl|exact ResLe.pure (AVle.int (by first|rfl|omega)) rfl|refine ResLe.pure (AVle.agg ?_) rfl)))
theorem tab1 : ∀ n, n < 36 → nxQ (mvL.getD (n * 3 + 1) 0) (mvL.getD (n * 3 + 0) 0) = mvL.getD (n * 3 + 2) 0 ∧ mvL.getD (n * 3 + 2) 0 ≠ 0 := by decide
theorem tab2 : ∀ p, p < 14 → ∀ a, a < 15 → nxQ (p : Nat) (a : Nat) ≠ 0 → ∃ n, n < 36 ∧ mt (p : Nat) (a : Nat) n := by decide
theorem least_mt (p a : Int) : ∀ m, m ≤ 36 → ∃ n, n ≤ m ∧ (∀ i, i < n → ¬ mt p a i) ∧ (n = m ∨ mt p a n)
  | 0, _ => ⟨0, Nat.le_refl _, fun i hi => absurd hi (by omega), .inl rfl⟩
  | m + 1, hm => by
    obtain ⟨n, n1, n2, n3⟩ := least_mt p a m (by omega)
    rcases n3 with rfl|n3
    · by_cases hq : mt p a n
      · exact ⟨n, by omega, n2, .inr hq⟩
      · refine ⟨n + 1, Nat.le_refl _, fun i hi => ?_, .inl rfl⟩
        by_cases hin : i = n
        · subst hin; exact hq
        · exact n2 i (by omega)
    · exact ⟨n, by omega, n2, .inr n3⟩
theorem pnext_t (p a : Int) : ACalls XX 25 [iA p, iA a] (.tup [iA (nxR p a), iA (nxE p a)]) := by
  by_cases h0 : p < 0 ∨ 13 < p ∨ a < 1 ∨ 14 < a
  · have e : nxE p a = 2 := by unfold nxE; rw [if_pos h0]
    have e2 : nxR p a = 0 := by unfold nxR; rw [e]; rfl
    have hv := pvalid_t p
    rw [e, e2]
    by_cases hp : 0 ≤ p ∧ p ≤ 13
    · rw [decide_eq_true hp] at hv
      refine ACalls.of (n := Tryz.f25.ntmps) XX_ok Tryz.func25 rfl (by kernel_rfl) rfl rfl (Nat.le_of_ble_eq_true rfl) ?_
      (repeat' (first|((first|refine Zg ?_|refine Zn ?_|refine Zc ?_|refine Zu fun b hb=>?_|refine Zy hv ?_);conv=>whnf)|(refine Zb ?_ ?_<;>(intro h;first|exact Zx|conv=>whnf))))
      all_goals first|exact Zrz|(exfalso; omega)
    · rw [decide_eq_false hp] at hv
      refine ACalls.of (n := Tryz.f25.ntmps) XX_ok Tryz.func25 rfl (by kernel_rfl) rfl rfl (Nat.le_of_ble_eq_true rfl) ?_
      (repeat' (first|((first|refine Zg ?_|refine Zn ?_|refine Zc ?_|refine Zu fun b hb=>?_|refine Zy hv ?_);conv=>whnf)|(refine Zb ?_ ?_<;>(intro h;first|exact Zx|conv=>whnf))))
      all_goals first|exact Zrz|(exfalso; omega)
  · obtain ⟨n, n1, n2, n3⟩ := least_mt p a 36 (Nat.le_refl _)
    have hp : 0 ≤ p ∧ p ≤ 13 := by omega
    have ha : 1 ≤ a ∧ a ≤ 14 := by omega
    have h := pnext_at p a n hp ha n1 n2 n3
    by_cases hn : n = 36
    · subst hn
      have hq : nxQ p a = 0 := by
        by_cases hq : nxQ p a = 0
        · exact hq
        · have hP : ((p.toNat : Nat) : Int) = p := by omega
          have hA : ((a.toNat : Nat) : Int) = a := by omega
          obtain ⟨i, hi, hm⟩ := tab2 p.toNat (by omega) a.toNat (by omega) (by rw [hP, hA]; exact hq)
          rw [hP, hA] at hm
          exact absurd hm (n2 i hi)
      obtain ⟨e1, e2⟩ := nx_of h0 hq
      rw [if_pos rfl, if_pos rfl] at h
      rw [e1, e2, if_pos rfl]
      exact h
    · have hm : mt p a n := by
        rcases n3 with h1|h1
        · exact absurd h1 hn
        · exact h1
      obtain ⟨t1, t2⟩ := tab1 n (by omega)
      rw [hm.1, hm.2] at t1
      obtain ⟨e1, e2⟩ := nx_of h0 t1
      rw [if_neg hn, if_neg hn] at h
      rw [e1, e2, if_neg t2]
      exact h

theorem move_t (ss : List Lt) (id a : Int) (hL : ss.length ≤ 9223372036854775807) : ACalls XX 8 [.dat (ltD ss), iA id, iA a] (.tup [.dat (ltD (movL ss id a)), iA (movE ss id a)]) := by
  have h1 := validate_t ss hL
  have hS : movL ss id a = if movE ss id a = 0 then ss.set (findI ss id) ⟨(findV ss id).id, (findV ss id).c, (findV ss id).q, nxR (findV ss id).p a, (findV ss id).us⟩ else [] := rfl
  by_cases e1 : stkErr ss = 0
  rotate_left
  · have hE : movE ss id a = stkErr ss := by unfold movE; rw [if_pos e1]
    rw [hS, hE, if_neg e1]
    refine ACalls.of (n := Tryz.f8.ntmps) XX_ok Tryz.func8 rfl (by kernel_rfl) rfl rfl (Nat.le_of_ble_eq_true rfl) ?_
    refine W.pb [40, 42] ?_
    (repeat' (first|((first|refine Zg ?_|refine Zn ?_|refine Zc ?_|refine Zu fun b hb=>?_|refine Zy (ACalls.at (h1)) ?_);conv=>whnf)|(refine Zb ?_ ?_<;>(intro h;first|exact Zx|conv=>whnf))))
    all_goals first|exact Zrz|(exfalso; omega)
  have hO := stkErr_ok e1
  have hlen := hO.len
  have h2 := find_t ss id (by omega) (fun x hx => by have := hO.us x hx; omega)
  rw [e1] at h1
  by_cases hh : hasI ss id
  rotate_left
  · have hE : movE ss id a = 6 := by unfold movE; rw [if_neg (by simpa using e1), if_pos hh]
    rw [hS, hE, if_neg (by omega)]
    rw [decide_eq_false hh] at h2
    refine ACalls.of (n := Tryz.f8.ntmps) XX_ok Tryz.func8 rfl (by kernel_rfl) rfl rfl (Nat.le_of_ble_eq_true rfl) ?_
    refine W.pb [40, 42] ?_
    (repeat' (first|((first|refine Zg ?_|refine Zn ?_|refine Zc ?_|refine Zu fun b hb=>?_|refine Zy (ACalls.at (h1)) ?_|refine Zy (ACalls.at (h2)) ?_);conv=>whnf)|(refine Zb ?_ ?_<;>(intro h;first|exact Zx|conv=>whnf))))
    all_goals first|exact Zrz|(exfalso; omega)
  rw [decide_eq_true hh] at h2
  have hE : movE ss id a = nxE (findV ss id).p a := by unfold movE; rw [if_neg (by simpa using e1), if_neg (by simpa using hh)]
  have h3 := pnext_t (findV ss id).p a
  by_cases e3 : nxE (findV ss id).p a = 0
  · rw [mov_repl (hE.trans e3), hE, e3]
    rw [e3] at h3
    have hm := findV_mem hh
    have h4 := (replace_t ss [id] [⟨(findV ss id).id, (findV ss id).c, (findV ss id).q, nxR (findV ss id).p a, (findV ss id).us⟩] (by omega) (by simp) (by simp) (fun x hx => by have := hO.us x hx; omega) (fun x hx => by rw [List.mem_singleton.1 hx]; have := hO.us _ hm.1; show (findV ss id).us.length ≤ 1000000; omega)).args3 (AVle.refl _) (one_int _) (one_lt ⟨(findV ss id).id, (findV ss id).c, (findV ss id).q, nxR (findV ss id).p a, (findV ss id).us⟩)
    clear hE hS e1 e3 hm
    refine ACalls.of (n := Tryz.f8.ntmps) XX_ok Tryz.func8 rfl (by kernel_rfl) rfl rfl (Nat.le_of_ble_eq_true rfl) ?_
    refine W.pb [40, 42] ?_
    (repeat' (first|((first|refine Zg ?_|refine Zn ?_|refine Zc ?_|refine Zu fun b hb=>?_|refine Zy (ACalls.at (h1)) ?_|refine Zy (ACalls.at (h2)) ?_|refine Zy (ACalls.at (h3)) ?_|refine Zy (ACalls.at (h4)) ?_);conv=>whnf)|(refine Zb ?_ ?_<;>(intro h;first|exact Zx|conv=>whnf))))
    all_goals first|exact Zrz|(exfalso; omega)
  · rw [hS, hE, if_neg e3]
    clear hE hS e1
    refine ACalls.of (n := Tryz.f8.ntmps) XX_ok Tryz.func8 rfl (by kernel_rfl) rfl rfl (Nat.le_of_ble_eq_true rfl) ?_
    refine W.pb [40, 42] ?_
    (repeat' (first|((first|refine Zg ?_|refine Zn ?_|refine Zc ?_|refine Zu fun b hb=>?_|refine Zy (ACalls.at (h1)) ?_|refine Zy (ACalls.at (h2)) ?_|refine Zy (ACalls.at (h3)) ?_);conv=>whnf)|(refine Zb ?_ ?_<;>(intro h;first|exact Zx|conv=>whnf))))
    all_goals first|exact Zrz|(exfalso; omega)

end Go.Proofs.YtacpjihbbmoolaaGreatDoor
