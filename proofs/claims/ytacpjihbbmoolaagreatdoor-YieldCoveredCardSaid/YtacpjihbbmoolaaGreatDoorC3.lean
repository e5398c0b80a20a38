/- Where an action leads to, by the reference. The reference's presentation and change of procedure. -/
import Derived.Test.YtacpjihbbmoolaaGreatDoorC2

namespace Go.Proofs.YtacpjihbbmoolaaGreatDoor
open Go Go.RowKit
set_option linter.unusedVariables false
set_option linter.unusedSimpArgs false
set_option maxRecDepth 100000
set_option maxHeartbeats 4000000
attribute [local irreducible] ResLe AVle ArgLe ArgP EntLe Dle ResH ArgQ

def still (p : Int) : Prop := p = 1 ∨ p = 3
def bnd (p : Int) : Prop := (p = 1 ∨ p = 3) ∨ p = 4 ∨ p = 5
instance (p : Int) : Decidable (still p) := by unfold still; exact inferInstance
instance (p : Int) : Decidable (bnd p) := by unfold bnd; exact inferInstance
def nxQ (p a : Int) : Int :=
  if a = 1 then (if p = 0 then 1 else 0) else if a = 2 then (if bnd p then 2 else 0) else if a = 3 then (if p = 2 then 1 else 0) else if a = 4 then (if p = 2 then 13 else 0)
  else if a = 5 then (if bnd p ∧ p ≠ 3 then 3 else 0) else if a = 6 then (if still p then 4 else 0) else if a = 7 then (if still p then 5 else 0) else if a = 8 then (if bnd p then 6 else 0)
  else if a = 9 then (if p = 6 then 7 else 0) else if a = 10 then (if p = 7 then 6 else 0) else if a = 11 then (if p = 6 then 9 else if bnd p then 8 else 0) else if a = 12 then (if bnd p then 10 else 0)
  else if a = 13 then (if still p then 11 else 0) else if a = 14 then (if bnd p ∨ p = 2 then 12 else 0) else 0
def nxE (p a : Int) : Int := if p < 0 ∨ 13 < p ∨ a < 1 ∨ 14 < a then 2 else if nxQ p a = 0 then 17 else 0
def nxR (p a : Int) : Int := if nxE p a = 0 then nxQ p a else 0
theorem nx_of {p a q : Int} (h : ¬ (p < 0 ∨ 13 < p ∨ a < 1 ∨ 14 < a)) (hq : nxQ p a = q) : nxR p a = q ∧ nxE p a = if q = 0 then 17 else 0 := by
  have e : nxE p a = if q = 0 then 17 else 0 := by unfold nxE; rw [if_neg h, hq]
  refine ⟨?_, e⟩
  unfold nxR
  rw [e, hq]
  by_cases h0 : q = 0
  · rw [if_pos h0, if_neg (by omega), h0]
  · rw [if_neg h0, if_pos rfl]
theorem rnext_t (p a : Int) : ACalls XX 91 [iA p, iA a] (.tup [iA (nxR p a), iA (nxE p a)]) := by
  by_cases h0 : p < 0 ∨ 13 < p ∨ a < 1 ∨ 14 < a
  · have e : nxE p a = 2 := by unfold nxE; rw [if_pos h0]
    have e2 : nxR p a = 0 := by unfold nxR; rw [e]; rfl
    rw [e, e2]
    refine ACalls.of (n := Tryz.f91.ntmps) XX_ok Tryz.func91 rfl (by kernel_rfl) rfl rfl (Nat.le_of_ble_eq_true rfl) ?_
    (repeat' (first|((first|refine Zg ?_|refine Zn ?_|refine Zc ?_|refine Zu fun b hb=>?_);conv=>whnf)|(refine Zb ?_ ?_<;>(intro h;first|exact Zx|conv=>whnf))))
    all_goals first|exact Zrz|(exfalso; omega)
  · obtain ⟨q, hq⟩ : ∃ q, nxQ p a = q := ⟨_, rfl⟩
    obtain ⟨e1, e2⟩ := nx_of h0 hq
    rw [e1, e2]
    unfold nxQ bnd still at hq
    refine ACalls.of (n := Tryz.f91.ntmps) XX_ok Tryz.func91 rfl (by kernel_rfl) rfl rfl (Nat.le_of_ble_eq_true rfl) ?_
    (repeat' (first|((first|refine Zg ?_|refine Zn ?_|refine Zc ?_|refine Zu fun b hb=>?_);conv=>whnf)|(refine Zb ?_ ?_<;>(intro h;first|exact Zx|conv=>whnf))))
    all_goals ((repeat (first|rw [if_pos (by omega)] at hq|rw [if_neg (by omega)] at hq)); subst hq)
    all_goals exact Zrz
theorem nxm_rng (p a : Int) : nxE p a = 0 → 1 ≤ nxR p a ∧ nxR p a ≤ 13 ∧ (a ≠ 4 → nxR p a ≠ 13) := by
  intro h
  unfold nxR
  rw [if_pos h]
  unfold nxE at h
  split at h
  · cases h
  split at h
  · cases h
  rename_i h1 h2
  unfold nxQ at h2 ⊢
  repeat' split at h2
  all_goals (repeat' split)
  all_goals omega

end Go.Proofs.YtacpjihbbmoolaaGreatDoor

namespace Go.Proofs.YtacpjihbbmoolaaGreatDoor
open Go Go.RowKit
set_option linter.unusedVariables false
set_option linter.unusedSimpArgs false
set_option maxRecDepth 100000
set_option maxHeartbeats 4000000
attribute [local irreducible] ResLe AVle ArgLe ArgP EntLe Dle ResH ArgQ

theorem keep_mem {ss : List Lt} {ids : List Int} {x : Lt} (h : x ∈ keepI ss ids) : x ∈ ss ∧ x.id ∉ ids := by
  unfold keepI at h
  have := List.mem_filter.1 h
  exact ⟨this.1, by simpa using this.2⟩
theorem put_new {ss : List Lt} {x : Lt} (hO : StkOk ss) (ht : ¬ takenP ss x.id) : putL ss [x] = replL ss [] [x] := by
  have h := put_repl (ss := ss) (ids := []) (ls := [x]) (asc_of hO.asc) (fun y hy z hz => by
    obtain rfl := List.mem_singleton.1 hy
    exact fun e => ht ⟨z, (keep_mem hz).1, .inl e⟩) (by simp)
  rwa [keep_nil] at h
theorem rpresent_t (ss : List Lt) (id : Int) (c : ByteArray) (q : Int) (hL : ss.length ≤ 9223372036854775807) (hC : ∀ x ∈ ss, x.c.size ≤ 9223372036854775807) (hc : c.size ≤ 9223372036854775807) : ACalls XX 48 [.dat (ltD ss), iA id, sA c, iA q] (.tup [.dat (ltD (preL ss id c q)), iA (preE ss id c q)]) := by
  have h1 := rstock_t ss hL hC
  have h3 := rcode8_t c hc
  by_cases e1 : stkErr ss = 0
  · have hO := stkErr_ok e1
    have hlen := hO.len
    have h5 := rtaken_t ss id (by omega) (fun x hx => by have := hO.us x hx; omega)
    have h6 := (rput_t ss [newLt id c q] (by omega) (by simp)).args2 (AVle.refl _) (one_new id c q)
    rw [e1] at h1
    have hE : preE ss id c q = if ¬ (idOk id ∧ codeOk c ∧ qOk q) then 2 else if takenP ss id then 13 else if 64 ≤ ss.length then 8 else 0 := by unfold preE; rw [if_neg (by simpa using e1)]
    have hP : preL ss id c q = if preE ss id c q = 0 then replL ss [] [newLt id c q] else [] := rfl
    by_cases e2 : idOk id ∧ codeOk c ∧ qOk q
    · rw [if_neg (by simpa using e2)] at hE
      obtain ⟨f1, f2, f3⟩ := e2
      rw [decide_eq_true f2] at h3
      unfold idOk at f1
      unfold qOk at f3
      by_cases e3 : takenP ss id
      · rw [if_pos e3] at hE
        rw [decide_eq_true e3] at h5
        rw [hE, if_neg (by omega)] at hP
        rw [hP, hE]
        refine ACalls.of (n := Tryz.f48.ntmps) XX_ok Tryz.func48 rfl (by kernel_rfl) rfl rfl (Nat.le_of_ble_eq_true rfl) ?_
        (repeat' (first|((first|refine Zg ?_|refine Zn ?_|refine Zc ?_|refine Zu fun b hb=>?_|refine Zy h1 ?_|refine Zy h3 ?_|refine Zy h5 ?_);conv=>whnf)|(refine Zb ?_ ?_<;>(intro h;first|exact Zx|conv=>whnf))))
        all_goals exact Zrz
      rw [if_neg e3] at hE
      rw [decide_eq_false e3] at h5
      by_cases e4 : 64 ≤ ss.length
      · rw [if_pos e4] at hE
        rw [hE, if_neg (by omega)] at hP
        rw [hP, hE]
        refine ACalls.of (n := Tryz.f48.ntmps) XX_ok Tryz.func48 rfl (by kernel_rfl) rfl rfl (Nat.le_of_ble_eq_true rfl) ?_
        (repeat' (first|((first|refine Zg ?_|refine Zn ?_|refine Zc ?_|refine Zu fun b hb=>?_|refine Zy h1 ?_|refine Zy h3 ?_|refine Zy h5 ?_);conv=>whnf)|(refine Zb ?_ ?_<;>(intro h;first|exact Zx|conv=>whnf))))
        all_goals exact Zrz
      rw [if_neg e4] at hE
      rw [hE, if_pos rfl] at hP
      rw [put_new hO e3] at h6
      rw [hP, hE]
      refine ACalls.of (n := Tryz.f48.ntmps) XX_ok Tryz.func48 rfl (by kernel_rfl) rfl rfl (Nat.le_of_ble_eq_true rfl) ?_
      refine W.pb [48, 50] ?_
      (repeat' (first|((first|refine Zg ?_|refine Zn ?_|refine Zc ?_|refine Zu fun b hb=>?_|refine Zy (ACalls.at (h1)) ?_|refine Zy (ACalls.at (h3)) ?_|refine Zy (ACalls.at (h5)) ?_|refine Zy (ACalls.at (h6)) ?_);conv=>whnf)|(refine Zb ?_ ?_<;>(intro h;first|exact Zx|conv=>whnf))))
      all_goals exact Zrz
    · rw [if_pos e2] at hE
      rw [hE, if_neg (by omega)] at hP
      rw [hP, hE]
      by_cases f2 : codeOk c
      · have e2 : ¬ (idOk id ∧ qOk q) := fun h => e2 ⟨h.1, f2, h.2⟩
        unfold idOk qOk at e2
        rw [decide_eq_true f2] at h3
        refine ACalls.of (n := Tryz.f48.ntmps) XX_ok Tryz.func48 rfl (by kernel_rfl) rfl rfl (Nat.le_of_ble_eq_true rfl) ?_
        (repeat' (first|((first|refine Zg ?_|refine Zn ?_|refine Zc ?_|refine Zu fun b hb=>?_|refine Zy h1 ?_|refine Zy h3 ?_);conv=>whnf)|(refine Zb ?_ ?_<;>(intro h;first|exact Zx|conv=>whnf))))
        all_goals first|exact Zrz|(exfalso; omega)
      · rw [decide_eq_false f2] at h3
        refine ACalls.of (n := Tryz.f48.ntmps) XX_ok Tryz.func48 rfl (by kernel_rfl) rfl rfl (Nat.le_of_ble_eq_true rfl) ?_
        (repeat' (first|((first|refine Zg ?_|refine Zn ?_|refine Zc ?_|refine Zu fun b hb=>?_|refine Zy h1 ?_|refine Zy h3 ?_);conv=>whnf)|(refine Zb ?_ ?_<;>(intro h;first|exact Zx|conv=>whnf))))
        all_goals exact Zrz
  · have hE : preE ss id c q = stkErr ss := by unfold preE; rw [if_pos e1]
    have hP : preL ss id c q = [] := by unfold preL; rw [hE, if_neg e1]
    rw [hP, hE]
    refine ACalls.of (n := Tryz.f48.ntmps) XX_ok Tryz.func48 rfl (by kernel_rfl) rfl rfl (Nat.le_of_ble_eq_true rfl) ?_
    (repeat' (first|((first|refine Zg ?_|refine Zn ?_|refine Zc ?_|refine Zu fun b hb=>?_|refine Zy h1 ?_);conv=>whnf)|(refine Zb ?_ ?_<;>(intro h;first|exact Zx|conv=>whnf))))
    all_goals exact Zrz

noncomputable def movE (ss : List Lt) (id a : Int) : Int := if stkErr ss ≠ 0 then stkErr ss else if ¬ hasI ss id then 6 else nxE (findV ss id).p a
noncomputable def movL (ss : List Lt) (id a : Int) : List Lt := if movE ss id a = 0 then ss.set (findI ss id) ⟨(findV ss id).id, (findV ss id).c, (findV ss id).q, nxR (findV ss id).p a, (findV ss id).us⟩ else []
theorem row_setp {ss : List Lt} {N : Nat} {f : Nat → Nat → D} (h : RowIs ltE 5 N f ss) {k : Nat} (hk : k < ss.length) {p : Int} : RowIs ltE 5 N (setF f k 3 [.val (.int .i64 p)]) (ss.set k ⟨(ss.getD k default).id, (ss.getD k default).c, (ss.getD k default).q, p, (ss.getD k default).us⟩) := by
  obtain ⟨rfl, h⟩ := h
  refine ⟨by simp, fun i hi j hj => ?_⟩
  rw [setF_eq]
  split
  · rename_i hc
    obtain ⟨rfl, h1, h2⟩ := hc
    obtain rfl : j = 3 := by simp at h2; omega
    unfold rowF
    simp [hk]
    exact Dle.refl _
  · rename_i hc
    have := h i hi j hj
    unfold rowF at this ⊢
    by_cases hik : i = k
    · subst hik
      simp [hk] at this ⊢
      have hj3 : j ≠ 3 := fun e => hc ⟨rfl, by omega, by simp; omega⟩
      rcases j with _|_|_|_|_|j
      all_goals first|exact this|exact absurd rfl hj3|omega
    · simpa [List.getElem?_set, hik, Ne.symm hik] using this
theorem rmove_t (ss : List Lt) (id a : Int) (hL : ss.length ≤ 9223372036854775807) (hC : ∀ x ∈ ss, x.c.size ≤ 9223372036854775807) : ACalls XX 50 [.dat (ltD ss), iA id, iA a] (.tup [.dat (ltD (movL ss id a)), iA (movE ss id a)]) := by
  have h1 := rstock_t ss hL hC
  have hS : movL ss id a = if movE ss id a = 0 then ss.set (findI ss id) ⟨(findV ss id).id, (findV ss id).c, (findV ss id).q, nxR (findV ss id).p a, (findV ss id).us⟩ else [] := rfl
  by_cases e1 : stkErr ss = 0
  · have hO := stkErr_ok e1
    have hlen := hO.len
    have h2 := rat_t ss id (by omega)
    rw [e1] at h1
    by_cases e2 : hasI ss id
    · obtain ⟨k, q1, q2, q3, q4, q5⟩ := findI_ex e2
      rw [at_has e2, q2] at h2
      have hE : movE ss id a = nxE (findV ss id).p a := by unfold movE; rw [if_neg (by simpa using e1), if_neg (by simpa using e2)]
      have h3 := rnext_t (findV ss id).p a
      rw [q2, ← q5] at hS
      rw [← q5] at h3 hE
      by_cases e3 : nxE (ss.getD k default).p a = 0
      · rw [hE, if_pos e3] at hS
        rw [hS, hE, e3]
        rw [e3] at h3
        refine ACalls.of (n := Tryz.f50.ntmps) XX_ok Tryz.func50 rfl (by kernel_rfl) rfl rfl (Nat.le_of_ble_eq_true rfl) ?_
        (repeat' (first|((first|refine Zg ?_|refine Zn ?_|refine Zc ?_|refine Zu fun b hb=>?_|refine Zy h1 ?_|refine Zy h2 ?_|refine Zy h3 ?_);conv=>whnf)|(refine Zb ?_ ?_<;>(intro h;first|exact Zx|conv=>whnf))))
        all_goals (try dsimp only [Int.toNat_natCast] at *)
        (repeat' (first|((first|refine Zg ?_|refine Zn ?_|refine Zc ?_|refine Zu fun b hb=>?_|refine Zy h1 ?_|refine Zy h2 ?_|refine Zy h3 ?_);conv=>whnf)|(refine Zb ?_ ?_<;>(intro h;first|exact Zx|conv=>whnf))))
        simp only [Nat.zero_add]
        conv => whnf
        have r0 : RowIs ltE 5 ss.length (catF 0 (fun _ _ => .val undef) (rowF ltE ss)) ss := by
          have := RowIs.cat (RowIs.nil ltE 5 0 (fun _ _ => .val undef) rfl) (RowIs.refl ltE 5 ss)
          rwa [Nat.zero_add, List.nil_append] at this
        refine ⟨RowIs.res rfl (row_setp r0 q1) rfl, ?_⟩
        all_goals exact Zrz
      · rw [hE, if_neg e3] at hS
        rw [hS, hE]
        refine ACalls.of (n := Tryz.f50.ntmps) XX_ok Tryz.func50 rfl (by kernel_rfl) rfl rfl (Nat.le_of_ble_eq_true rfl) ?_
        (repeat' (first|((first|refine Zg ?_|refine Zn ?_|refine Zc ?_|refine Zu fun b hb=>?_|refine Zy h1 ?_|refine Zy h2 ?_);conv=>whnf)|(refine Zb ?_ ?_<;>(intro h;first|exact Zx|conv=>whnf))))
        all_goals (try dsimp only [Int.toNat_natCast] at *)
        (repeat' (first|((first|refine Zg ?_|refine Zn ?_|refine Zc ?_|refine Zu fun b hb=>?_|refine Zy h1 ?_|refine Zy h2 ?_|refine Zy h3 ?_);conv=>whnf)|(refine Zb ?_ ?_<;>(intro h;first|exact Zx|conv=>whnf))))
        all_goals exact Zrz
    · rw [at_no e2] at h2
      have hE : movE ss id a = 6 := by unfold movE; rw [if_neg (by simpa using e1), if_pos e2]
      rw [hE, if_neg (by omega)] at hS
      rw [hS, hE]
      refine ACalls.of (n := Tryz.f50.ntmps) XX_ok Tryz.func50 rfl (by kernel_rfl) rfl rfl (Nat.le_of_ble_eq_true rfl) ?_
      (repeat' (first|((first|refine Zg ?_|refine Zn ?_|refine Zc ?_|refine Zu fun b hb=>?_|refine Zy h1 ?_|refine Zy h2 ?_);conv=>whnf)|(refine Zb ?_ ?_<;>(intro h;first|exact Zx|conv=>whnf))))
      all_goals exact Zrz
  · have hE : movE ss id a = stkErr ss := by unfold movE; rw [if_pos e1]
    rw [hE, if_neg e1] at hS
    rw [hS, hE]
    refine ACalls.of (n := Tryz.f50.ntmps) XX_ok Tryz.func50 rfl (by kernel_rfl) rfl rfl (Nat.le_of_ble_eq_true rfl) ?_
    (repeat' (first|((first|refine Zg ?_|refine Zn ?_|refine Zc ?_|refine Zu fun b hb=>?_|refine Zy h1 ?_);conv=>whnf)|(refine Zb ?_ ?_<;>(intro h;first|exact Zx|conv=>whnf))))
    all_goals exact Zrz

end Go.Proofs.YtacpjihbbmoolaaGreatDoor
