/- The reference's union of lots. -/
import Derived.Test.YtacpjihbbmoolaaGreatDoorC4

namespace Go.Proofs.YtacpjihbbmoolaaGreatDoor
open Go Go.RowKit
set_option linter.unusedVariables false
set_option linter.unusedSimpArgs false
set_option maxRecDepth 100000
set_option maxHeartbeats 4000000
attribute [local irreducible] ResLe AVle ArgLe ArgP EntLe Dle ResH ArgQ

def mgU (ss : List Lt) (ids : List Int) : List Sl := (ids.map fun i => (findV ss i).us).flatten
def mgQ (ss : List Lt) (ids : List Int) : Int := (ids.map fun i => (findV ss i).q).sum
def kin (x y : Lt) : Prop := strEq x.c y.c = true ∧ x.p = y.p
instance (x y : Lt) : Decidable (kin x y) := by unfold kin; exact inferInstance
def mg0 (ss : List Lt) (ids : List Int) : Lt := findV ss (ids.getD 0 default)
def mgV (ss : List Lt) (ids : List Int) (id : Int) : Lt := ⟨id, (mg0 ss ids).c, mgQ ss ids, (mg0 ss ids).p, joinL (mgU ss ids)⟩
noncomputable def merE (ss : List Lt) (ids : List Int) (id : Int) : Int :=
  if stkErr ss ≠ 0 then stkErr ss else if ids.length < 2 ∨ 16 < ids.length ∨ ¬ idOk id then 2 else if ¬ ∀ i ∈ ids, hasI ss i then 6 else if twiceP ids ∨ takenP ss id then 13
  else if ¬ ∀ i ∈ ids, rests (findV ss i).p then 17 else if ¬ ∀ i ∈ ids, kin (findV ss i) (mg0 ss ids) then 14 else if 1000000000 < mgQ ss ids then 16 else if 64 < (joinL (mgU ss ids)).length then 8 else 0
noncomputable def merL (ss : List Lt) (ids : List Int) (id : Int) : List Lt := if merE ss ids id = 0 then replL ss ids [mgV ss ids id] else []
theorem mgU_snoc (ss : List Lt) (ids : List Int) (k : Nat) (h : k < ids.length) : mgU ss (ids.take (k + 1)) = mgU ss (ids.take k) ++ (findV ss (ids.getD k default)).us := by
  unfold mgU
  rw [take_snoc ids k h, List.map_append, List.flatten_append]
  simp
theorem mgQ_snoc (ss : List Lt) (ids : List Int) (k : Nat) (h : k < ids.length) : mgQ ss (ids.take (k + 1)) = mgQ ss (ids.take k) + (findV ss (ids.getD k default)).q := by
  unfold mgQ
  rw [take_snoc ids k h, List.map_append, List.sum_append]
  simp
theorem mg_rng {ss : List Lt} {ids : List Int} (hO : StkOk ss) (hh : ∀ i ∈ ids, hasI ss i) : ∀ k, k ≤ ids.length → (0 ≤ mgQ ss (ids.take k) ∧ mgQ ss (ids.take k) ≤ 1000000000 * k) ∧ (mgU ss (ids.take k)).length ≤ 64 * k ∧ ∀ y ∈ mgU ss (ids.take k), slOk y := by
  intro k
  induction k with
  | zero => intro _; simp [mgQ, mgU]
  | succ k ih =>
    intro hk
    obtain ⟨a, b, c⟩ := ih (by omega)
    obtain ⟨m1, _⟩ := findV_mem (hh _ (getD_in (k := k) (by omega)))
    have h1 := hO.ok _ m1
    have h2 := hO.us _ m1
    have h3 := h1.2.2.1
    unfold qOk at h3
    rw [mgU_snoc ss ids k (by omega), mgQ_snoc ss ids k (by omega), List.length_append]
    refine ⟨by push_cast; omega, by omega, fun y hy => ?_⟩
    rcases List.mem_append.1 hy with hy|hy
    · exact c y hy
    · exact h1.2.2.2.2 y hy
theorem one_lt (x : Lt) : AVle (.dat (.lst 5 1 fun i j => pickF (tabB 1 5) [.val (.int .i64 x.id), .val (.string x.c), .val (.int .i64 x.q), .val (.int .i64 x.p), slD x.us] (i * 5 + j))) (.dat (ltD [x])) := one_le 5 ltE x _ fun j hj => by
  rcases j with _|_|_|_|_|j
  all_goals first|exact Dle.refl _|omega
theorem rmerge_t (ss : List Lt) (ids : List Int) (id : Int) (hL : ss.length ≤ 9223372036854775807) (hC : ∀ x ∈ ss, x.c.size ≤ 9223372036854775807) (hI : ids.length ≤ 9223372036854775807) : ACalls XX 54 [.dat (ltD ss), .dat (iD ids), iA id] (.tup [.dat (ltD (merL ss ids id)), iA (merE ss ids id)]) := by
  have h1 := rstock_t ss hL hC
  have hS : merL ss ids id = if merE ss ids id = 0 then replL ss ids [mgV ss ids id] else [] := rfl
  by_cases e1 : stkErr ss = 0
  rotate_left
  · have hE : merE ss ids id = stkErr ss := by unfold merE; rw [if_pos e1]
    rw [hE, if_neg e1] at hS
    rw [hS, hE]
    refine ACalls.of (n := Tryz.f54.ntmps) XX_ok Tryz.func54 rfl (by kernel_rfl) rfl rfl (Nat.le_of_ble_eq_true rfl) ?_
    (repeat' (first|((first|refine Zg ?_|refine Zt dr54 ?_|refine Zn ?_|refine Zc ?_|refine Zu fun b hb=>?_|refine Zy h1 ?_|refine Zz h1 ?_);conv=>whnf)|(refine Zb ?_ ?_<;>(intro h;first|exact Zx|conv=>whnf))))
    all_goals exact Zrz
  have hO := stkErr_ok e1
  have hlen := hO.len
  rw [e1] at h1
  by_cases e2 : ids.length < 2 ∨ 16 < ids.length ∨ ¬ idOk id
  · have hE : merE ss ids id = 2 := by unfold merE; rw [if_neg (by simpa using e1), if_pos e2]
    rw [hE, if_neg (by omega)] at hS
    rw [hS, hE]
    unfold idOk at e2
    refine ACalls.of (n := Tryz.f54.ntmps) XX_ok Tryz.func54 rfl (by kernel_rfl) rfl rfl (Nat.le_of_ble_eq_true rfl) ?_
    (repeat' (first|((first|refine Zg ?_|refine Zt dr54 ?_|refine Zn ?_|refine Zc ?_|refine Zu fun b hb=>?_|refine Zy h1 ?_|refine Zz h1 ?_);conv=>whnf)|(refine Zb ?_ ?_<;>(intro h;first|exact Zx|conv=>whnf))))
    all_goals first|exact Zrz|(exfalso; omega)
  have hE0 : merE ss ids id = if ¬ ∀ i ∈ ids, hasI ss i then 6 else if twiceP ids ∨ takenP ss id then 13
  else if ¬ ∀ i ∈ ids, rests (findV ss i).p then 17 else if ¬ ∀ i ∈ ids, kin (findV ss i) (mg0 ss ids) then 14 else if 1000000000 < mgQ ss ids then 16 else if 64 < (joinL (mgU ss ids)).length then 8 else 0 := by unfold merE; rw [if_neg (by simpa using e1), if_neg e2]
  have n1 : 2 ≤ ids.length ∧ ids.length ≤ 16 := by omega
  have n2 : idOk id := by
    by_cases h : idOk id
    · exact h
    · exact absurd (.inr (.inr h)) e2
  have n2' := n2
  unfold idOk at n2'
  have herr : ∀ e : Int, e ≠ 0 → merE ss ids id = e → merL ss ids id = [] := fun e he hc => by rw [hS, hc, if_neg he]
  have hat := fun i => rat_t ss i (by omega)
  refine ACalls.of (n := Tryz.f54.ntmps) XX_ok Tryz.func54 rfl (by kernel_rfl) rfl rfl (Nat.le_of_ble_eq_true rfl) ?_
  (repeat' (first|((first|refine Zg ?_|refine Zt dr54 ?_|refine Zn ?_|refine Zc ?_|refine Zu fun b hb=>?_|refine Zy h1 ?_|refine Zz h1 ?_);conv=>whnf)|(refine Zb ?_ ?_<;>(intro h;first|exact Zx|conv=>whnf))))
  all_goals first|(exfalso; omega)|skip
  refine (W.loopK (ι := Nat) [0, 1, 2] [] (fun k => [(9, iA k)]) (fun _ => []) (fun k => k ≤ ids.length ∧ ∀ i, i < k → hasI ss (ids.getD i default)) (fun k => ids.length - k) 0 ⟨Nat.zero_le _, fun i hi => absurd hi (by omega)⟩ ?_ ?_ ?_)
  · exact Yz
  · exact Yz
  conv => whnf
  intro k ⟨hk, hz⟩
  by_cases hk' : k < ids.length
  · have h2 := hat (ids.getD k default)
    by_cases hh : hasI ss (ids.getD k default)
    · obtain ⟨k0, q1, q2, q3, q4, q5⟩ := findI_ex hh
      rw [at_has hh, q2] at h2
      (repeat' (first|((first|refine Zg ?_|refine Zt dr54 ?_|refine Zn ?_|refine Zc ?_|refine Zu fun b hb=>?_);conv=>whnf)|(refine Zb ?_ ?_<;>(intro h;first|exact Zx|conv=>whnf))))
      all_goals (try dsimp only [Int.toNat_natCast] at *)
      (repeat' (first|((first|refine Zg ?_|refine Zt dr54 ?_|refine Zn ?_|refine Zc ?_|refine Zu fun b hb=>?_|refine Zy h2 ?_|refine Zz h2 ?_);conv=>whnf)|(refine Zb ?_ ?_<;>(intro h;first|exact Zx|conv=>whnf))))
      refine ⟨k + 1, ⟨by omega, fun i hi => ?_⟩, by omega, ?_, ?_, ?_, ?_⟩
      · by_cases hik : i = k
        · subst hik; exact hh
        · exact hz i (by omega)
      all_goals exact Yz
    · have hE : merE ss ids id = 6 := by rw [hE0, if_pos fun ha => hh (ha _ (getD_in hk'))]
      rw [herr 6 (by omega) hE, hE]
      rw [at_no hh] at h2
      (repeat' (first|((first|refine Zg ?_|refine Zt dr54 ?_|refine Zn ?_|refine Zc ?_|refine Zu fun b hb=>?_);conv=>whnf)|(refine Zb ?_ ?_<;>(intro h;first|exact Zx|conv=>whnf))))
      all_goals (try dsimp only [Int.toNat_natCast] at *)
      (repeat' (first|((first|refine Zg ?_|refine Zt dr54 ?_|refine Zn ?_|refine Zc ?_|refine Zu fun b hb=>?_|refine Zy h2 ?_|refine Zz h2 ?_);conv=>whnf)|(refine Zb ?_ ?_<;>(intro h;first|exact Zx|conv=>whnf))))
      all_goals exact Zrz
  have hA : ∀ i ∈ ids, hasI ss i := all_getD.2 fun i hi => hz i (by omega)
  clear hz
  rw [if_neg (by simpa using hA)] at hE0
  (repeat' (first|((first|refine Zg ?_|refine Zt dr54 ?_|refine Zn ?_|refine Zc ?_|refine Zu fun b hb=>?_);conv=>whnf)|(refine Zb ?_ ?_<;>(intro h;first|exact Zx|conv=>whnf))))
  refine (W.loopK (ι := Nat) [0, 1, 2] [] (fun k => [(10, iA k)]) (fun _ => []) (fun k => k ≤ ids.length ∧ ∀ i, i < k → ids.getD i default ∉ ids.take i) (fun k => ids.length - k) 0 ⟨Nat.zero_le _, fun i hi => absurd hi (by omega)⟩ ?_ ?_ ?_)
  · exact Yz
  · exact Yz
  conv => whnf
  intro k ⟨hk, hz⟩
  by_cases hk' : k < ids.length
  · have hc := (rhas_t (ids.take k) (ids.getD k default) (by simp; omega)).args2 (iD_take ids k hk) (AVle.refl _)
    (repeat' (first|((first|refine Zg ?_|refine Zt dr54 ?_|refine Zn ?_|refine Zc ?_|refine Zu fun b hb=>?_);conv=>whnf)|(refine Zb ?_ ?_<;>(intro h;first|exact Zx|conv=>whnf))))
    all_goals (try dsimp only [Int.toNat_natCast] at *)
    (repeat' (first|((first|refine Zg ?_|refine Zt dr54 ?_|refine Zn ?_|refine Zc ?_|refine Zu fun b hb=>?_|refine Zy hc ?_|refine Zz hc ?_);conv=>whnf)|(refine Zb ?_ ?_<;>(intro h;first|exact Zx|conv=>whnf))))
    · have hE : merE ss ids id = 13 := by rw [hE0, if_pos (.inl ⟨k, hk', by simp_all⟩)]
      rw [herr 13 (by omega) hE, hE]
      (repeat' (first|exact Zrq|refine ResLe.agg ?_|refine And.intro ?_ ?_|((conv=>whnf); first|exact Zrq|refine ResLe.agg ?_|refine And.intro ?_ ?_)))
    · refine ⟨k + 1, ⟨by omega, fun i hi => ?_⟩, by omega, ?_, ?_, ?_, ?_⟩
      · by_cases hik : i = k
        · subst hik; simp_all
        · exact hz i (by omega)
      all_goals exact Yz
  have hT : ¬ twiceP ids := fun ⟨i, hi, he⟩ => hz i (by omega) he
  clear hz
  have h3 := rtaken_t ss id (by omega) (fun x hx => by have := hO.us x hx; omega)
  by_cases e3 : takenP ss id
  · have hE : merE ss ids id = 13 := by rw [hE0, if_pos (.inr e3)]
    rw [herr 13 (by omega) hE, hE]
    rw [decide_eq_true e3] at h3
    (repeat' (first|((first|refine Zg ?_|refine Zt dr54 ?_|refine Zn ?_|refine Zc ?_|refine Zu fun b hb=>?_|refine Zy h3 ?_|refine Zz h3 ?_);conv=>whnf)|(refine Zb ?_ ?_<;>(intro h;first|exact Zx|conv=>whnf))))
    all_goals exact Zrz
  rw [decide_eq_false e3] at h3
  rw [if_neg (fun h => h.elim hT e3)] at hE0
  (repeat' (first|((first|refine Zg ?_|refine Zt dr54 ?_|refine Zn ?_|refine Zc ?_|refine Zu fun b hb=>?_|refine Zy h3 ?_|refine Zz h3 ?_);conv=>whnf)|(refine Zb ?_ ?_<;>(intro h;first|exact Zx|conv=>whnf))))
  refine (W.loopK (ι := Nat) [0, 1, 2] [] (fun k => [(11, iA k)]) (fun _ => []) (fun k => k ≤ ids.length ∧ ∀ i, i < k → rests (findV ss (ids.getD i default)).p) (fun k => ids.length - k) 0 ⟨Nat.zero_le _, fun i hi => absurd hi (by omega)⟩ ?_ ?_ ?_)
  · exact Yz
  · exact Yz
  conv => whnf
  intro k ⟨hk, hz⟩
  by_cases hk' : k < ids.length
  · have h2 := hat (ids.getD k default)
    have hh := hA _ (getD_in hk')
    obtain ⟨k0, q1, q2, q3, q4, q5⟩ := findI_ex hh
    rw [at_has hh, q2] at h2
    have h4 := rrests_t (ss.getD k0 default).p
    (repeat' (first|((first|refine Zg ?_|refine Zt dr54 ?_|refine Zn ?_|refine Zc ?_|refine Zu fun b hb=>?_);conv=>whnf)|(refine Zb ?_ ?_<;>(intro h;first|exact Zx|conv=>whnf))))
    all_goals (try dsimp only [Int.toNat_natCast] at *)
    (repeat' (first|((first|refine Zg ?_|refine Zt dr54 ?_|refine Zn ?_|refine Zc ?_|refine Zu fun b hb=>?_|refine Zy h2 ?_|refine Zz h2 ?_);conv=>whnf)|(refine Zb ?_ ?_<;>(intro h;first|exact Zx|conv=>whnf))))
    all_goals (try dsimp only [Int.toNat_natCast] at *)
    (repeat' (first|((first|refine Zg ?_|refine Zt dr54 ?_|refine Zn ?_|refine Zc ?_|refine Zu fun b hb=>?_|refine Zy h2 ?_|refine Zz h2 ?_|refine Zy h4 ?_|refine Zz h4 ?_);conv=>whnf)|(refine Zb ?_ ?_<;>(intro h;first|exact Zx|conv=>whnf))))
    · have hE : merE ss ids id = 17 := by
        rw [hE0, if_pos fun ha => ?_]
        have := ha _ (getD_in hk')
        rw [← q5] at this
        simp_all
      rw [herr 17 (by omega) hE, hE]
      (repeat' (first|exact Zrq|refine ResLe.agg ?_|refine And.intro ?_ ?_|((conv=>whnf); first|exact Zrq|refine ResLe.agg ?_|refine And.intro ?_ ?_)))
    · refine ⟨k + 1, ⟨by omega, fun i hi => ?_⟩, by omega, ?_, ?_, ?_, ?_⟩
      · by_cases hik : i = k
        · subst hik; rw [← q5]; simp_all
        · exact hz i (by omega)
      all_goals exact Yz
  have hR : ∀ i ∈ ids, rests (findV ss i).p := all_getD.2 fun i hi => hz i (by omega)
  clear hz
  rw [if_neg (by simpa using hR)] at hE0
  have h2 := hat (ids.getD 0 default)
  have hh := hA _ (getD_in (show 0 < ids.length by omega))
  obtain ⟨k0, q1, q2, q3, q4, q5⟩ := findI_ex hh
  rw [at_has hh, q2] at h2
  (repeat' (first|((first|refine Zg ?_|refine Zt dr54 ?_|refine Zn ?_|refine Zc ?_|refine Zu fun b hb=>?_);conv=>whnf)|(refine Zb ?_ ?_<;>(intro h;first|exact Zx|conv=>whnf))))
  all_goals (try dsimp only [Int.toNat_natCast] at *)
  (repeat' (first|((first|refine Zg ?_|refine Zt dr54 ?_|refine Zn ?_|refine Zc ?_|refine Zu fun b hb=>?_|refine Zy h2 ?_|refine Zz h2 ?_);conv=>whnf)|(refine Zb ?_ ?_<;>(intro h;first|exact Zx|conv=>whnf))))
  all_goals (try dsimp only [Int.toNat_natCast] at *)
  (repeat' (first|((first|refine Zg ?_|refine Zt dr54 ?_|refine Zn ?_|refine Zc ?_|refine Zu fun b hb=>?_|refine Zy h2 ?_|refine Zz h2 ?_);conv=>whnf)|(refine Zb ?_ ?_<;>(intro h;first|exact Zx|conv=>whnf))))
  have hrng := mg_rng hO hA
  have hm0 : mg0 ss ids = ss.getD k0 default := q5.symm
  refine (W.adopt 14 136 63 3 (rowF slE []) rfl rfl rfl rfl ?_)
  conv => whnf
  refine (W.loopK (ι := Nat) [0, 1, 2, 13] [] (fun k => [(15, iA k), (14, .own 136 3 0 (mgU ss (ids.take k)).length)]) (fun k => [(13, .blk 45 [iA id, sA (ss.getD k0 default).c, iA (mgQ ss (ids.take k)), iA (ss.getD k0 default).p, .dat (.val (.slice none 0 0))]), (136, .row 63 3 (mgU ss (ids.take k)).length (rowF slE (mgU ss (ids.take k))))]) (fun k => k ≤ ids.length ∧ ∀ i, i < k → kin (findV ss (ids.getD i default)) (ss.getD k0 default)) (fun k => ids.length - k) 0 ⟨Nat.zero_le _, fun i hi => absurd hi (by omega)⟩ ?_ ?_ ?_)
  · exact Yz
  · exact Yz
  conv => whnf
  intro k ⟨hk, hz⟩
  obtain ⟨r1, r2, r3⟩ := hrng k hk
  by_cases hk' : k < ids.length
  · obtain ⟨t1, t2, t3⟩ := hrng (k + 1) (by omega)
    have su := mgU_snoc ss ids k hk'
    have sq := mgQ_snoc ss ids k hk'
    have h5 := hat (ids.getD k default)
    have hh1 := hA _ (getD_in hk')
    obtain ⟨k1, p1, p2, p3, p4, p5⟩ := findI_ex hh1
    rw [at_has hh1, p2] at h5
    rw [← p5] at su sq
    have m1 : ss.getD k1 default ∈ ss := getD_in p1
    have hq1 := (hO.ok _ m1).2.2.1
    have hu1 := hO.us _ m1
    unfold qOk at hq1
    have hbad : ¬ kin (ss.getD k1 default) (ss.getD k0 default) → merE ss ids id = 14 ∧ merL ss ids id = [] := fun h => by
      have hE : merE ss ids id = 14 := by
        rw [hE0, if_pos fun ha => ?_]
        have := ha _ (getD_in hk')
        rw [← p5, hm0] at this
        exact h this
      exact ⟨hE, herr 14 (by omega) hE⟩
    have hul : (mgU ss (ids.take (k + 1))).length = (mgU ss (ids.take k)).length + (ss.getD k1 default).us.length := by rw [su, List.length_append]
    (repeat' (first|((first|refine Zg ?_|refine Zt dr54 ?_|refine Zn ?_|refine Zc ?_|refine Zu fun b hb=>?_);conv=>whnf)|(refine Zb ?_ ?_<;>(intro h;first|exact Zx|conv=>whnf))))
    all_goals (try dsimp only [Int.toNat_natCast] at *)
    (repeat' (first|((first|refine Zg ?_|refine Zt dr54 ?_|refine Zn ?_|refine Zc ?_|refine Zu fun b hb=>?_|refine Zy h5 ?_|refine Zz h5 ?_);conv=>whnf)|(refine Zb ?_ ?_<;>(intro h;first|exact Zx|conv=>whnf))))
    all_goals (try dsimp only [Int.toNat_natCast] at *)
    (repeat' (first|((first|refine Zg ?_|refine Zt dr54 ?_|refine Zn ?_|refine Zc ?_|refine Zu fun b hb=>?_|refine Zy h5 ?_|refine Zz h5 ?_);conv=>whnf)|(refine Zb ?_ ?_<;>(intro h;first|exact Zx|conv=>whnf))))
    all_goals first
      | (obtain ⟨b1, b2⟩ := hbad (fun hq => by unfold kin at hq; simp_all)
         rw [b1, b2]
         (repeat' (first|exact Zrq|refine ResLe.agg ?_|refine And.intro ?_ ?_|((conv=>whnf); first|exact Zrq|refine ResLe.agg ?_|refine And.intro ?_ ?_))); done)
      | skip
    refine ⟨k + 1, ⟨by omega, fun i hi => ?_⟩, by omega, ?_, ?_, ?_, ?_⟩
    · by_cases hik : i = k
      · subst hik
        rw [← p5]
        exact ⟨by assumption, by first|assumption|omega⟩
      · exact hz i (by omega)
    all_goals (repeat' (first|exact Yq|exact Yi (by first|rfl|exact sq.symm|exact hul.symm|omega)|exact Yo (by first|rfl|exact sq.symm|exact hul.symm|omega)|exact Ye (by first|rfl|exact sq.symm|exact hul.symm|omega)|refine ⟨_, rfl, Yb ?_, rfl⟩|refine ⟨_, rfl, Yw (by first|rfl|exact sq.symm|exact hul.symm|omega) ?_, rfl⟩|refine And.intro ?_ ?_))
    rw [su]
    exact rowF_app rfl fun i hi j hj => Dle.refl _
  obtain rfl : k = ids.length := by omega
  rw [List.take_length] at *
  have hK : ∀ i ∈ ids, kin (findV ss i) (mg0 ss ids) := all_getD.2 fun i hi => by rw [hm0]; exact hz i hi
  rw [if_neg (by simpa using hK)] at hE0
  clear hz
  by_cases e6 : 1000000000 < mgQ ss ids
  · have hE : merE ss ids id = 16 := by rw [hE0, if_pos e6]
    rw [herr 16 (by omega) hE, hE]
    (repeat' (first|((first|refine Zg ?_|refine Zt dr54 ?_|refine Zn ?_|refine Zc ?_|refine Zu fun b hb=>?_);conv=>whnf)|(refine Zb ?_ ?_<;>(intro h;first|exact Zx|conv=>whnf))))
    all_goals exact Zrz
  rw [if_neg e6] at hE0
  have h6 := rjoin_t (mgU ss ids) (by omega)
  rw [joinR_eq (slOk_lt r3)] at h6
  have hjl := joinL_len (mgU ss ids)
  (repeat' (first|((first|refine Zg ?_|refine Zt dr54 ?_|refine Zn ?_|refine Zc ?_|refine Zu fun b hb=>?_);conv=>whnf)|(refine Zb ?_ ?_<;>(intro h;first|exact Zx|conv=>whnf))))
  refine ExCall.pub 136 rfl ?_
  conv => whnf
  (repeat' (first|((first|refine Zg ?_|refine Zn ?_|refine Zc ?_|refine Zu fun b hb=>?_|refine Zq h6 ?_|refine Zw h6 ?_);conv=>whnf)|(refine Zb ?_ ?_<;>(intro h;first|exact Zx|conv=>whnf))))
  all_goals (try (exfalso; omega))
  · have hE : merE ss ids id = 8 := by rw [hE0, if_pos (by omega)]
    rw [herr 8 (by omega) hE, hE]
    (repeat' (first|exact Zrq|refine ResLe.agg ?_|refine And.intro ?_ ?_|((conv=>whnf); first|exact Zrq|refine ResLe.agg ?_|refine And.intro ?_ ?_)))
  have hE : merE ss ids id = 0 := by rw [hE0, if_neg (by omega)]
  rw [hE, if_pos rfl] at hS
  rw [hS, hE]
  have hkl := keep_len ss ids
  have h7 := rwithout_t ss ids (by omega) (by omega)
  have h8 := (rput_t (keepI ss ids) [mgV ss ids id] (by omega) (by simp)).args2 (AVle.refl _) (one_lt (mgV ss ids id))
  rw [put_parts hO (fun x hx => by rw [List.mem_singleton.1 hx]; exact e3) (by simp) ids] at h8
  unfold mgV at h8 ⊢
  rw [hm0] at h8 ⊢
  refine W.pb [151] ?_
  (repeat' (first|((first|refine Zg ?_|refine W.drawP dr54 rfl mixed rfl ?_|refine Zn ?_|refine Zc ?_|refine Zu fun b hb=>?_|refine Zy (ACalls.at (h7)) ?_|refine Zz (ACalls.at (h7)) ?_|refine Zy (ACalls.at (h8)) ?_|refine Zz (ACalls.at (h8)) ?_);conv=>whnf)|(refine Zb ?_ ?_<;>(intro h;first|exact Zx|conv=>whnf))))
  all_goals exact Zrz

end Go.Proofs.YtacpjihbbmoolaaGreatDoor
