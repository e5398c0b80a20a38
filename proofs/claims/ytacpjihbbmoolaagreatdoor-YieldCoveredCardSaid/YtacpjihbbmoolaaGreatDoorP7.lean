/- yield.Process. -/
import Derived.Test.YtacpjihbbmoolaaGreatDoorP3
import Derived.Test.YtacpjihbbmoolaaGreatDoorFQ

namespace Go.Proofs.YtacpjihbbmoolaaGreatDoor
open Go Go.RowKit
set_option linter.unusedVariables false
set_option linter.unusedSimpArgs false
set_option maxRecDepth 100000
set_option maxHeartbeats 4000000
attribute [local irreducible] ResLe AVle ArgLe ArgP EntLe Dle ResH ArgQ strEq strLt

def ltsY (ss : List Lt) (ins : List Int) : List Lt := ins.map (findV ss)
def dlY (ss : List Lt) (r : Rc) (ins : List Int) : List (List Sl) := dealL (alU (ltsY ss ins)) r.sc
def ptY (ss : List Lt) (r : Rc) (b : Int) (ins outs : List Int) (k : Nat) : Lt := ⟨outs.getD k default, ((tmL r.outs b).getD k default).c, ((tmL r.outs b).getD k default).q, ((ltsY ss ins).getD 0 default).p, (dlY ss r ins).getD k []⟩
def ptsY (ss : List Lt) (r : Rc) (b : Int) (ins outs : List Int) (k : Nat) : List Lt := (List.range k).map (ptY ss r b ins outs)
noncomputable def yE (ss : List Lt) (r : Rc) (b : Int) (ins outs : List Int) : Int :=
  open Classical in
  if stkErr ss ≠ 0 then stkErr ss else if ¬ yrOk r then 1 else if ¬ (1 ≤ b ∧ b ≤ 1000) then 2 else if ynE (tmL r.outs b).length ins outs ≠ 0 then 2 else if ¬ ∀ i ∈ ins, hasI ss i then 6
  else if twiceP ins ∨ twiceP outs ∨ tknL ss outs then 13 else if clE (ltsY ss ins) (tmL r.ins b) ≠ 0 then clE (ltsY ss ins) (tmL r.ins b) else if ¬ ∀ x ∈ tmL r.outs b, x.q ≤ 1000000000 then 16
  else if 64 < (ss.length : Int) - ins.length + outs.length then 8 else if ¬ ∀ k, k < outs.length → ((dlY ss r ins).getD k []).length ≤ 64 then 8 else 0
noncomputable def yL (ss : List Lt) (r : Rc) (b : Int) (ins outs : List Int) : List Lt := if yE ss r b ins outs = 0 then sortLt (keepI ss ins ++ ptsY ss r b ins outs outs.length) else []
def zLt (j : Nat) : D := match j with
  | 1 => .val (.string ByteArray.empty)
  | 4 => .val (.slice none 0 0)
  | _ => .val (.int .i64 0)
def loF (ss : List Lt) (ins : List Int) (k i j : Nat) : D := if i < k then ltE (findV ss (ins.getD i default)) j else zLt j
theorem loF_set (ss : List Lt) (ins : List Int) (k : Nat) (x : Lt) (hx : x = findV ss (ins.getD k default)) (n : Nat) : ∀ i, i < n → ∀ j, j < 5 → Dle (setF (loF ss ins k) k 0 [.val (.int .i64 x.id), .val (.string x.c), .val (.int .i64 x.q), .val (.int .i64 x.p), slD x.us] i j) (loF ss ins (k + 1) i j) := by
  subst hx
  intro i hi j hj
  rw [setF_eq]
  unfold loF
  split
  · rename_i h
    obtain ⟨rfl, _, _⟩ := h
    rw [if_pos (by omega)]
    rcases j with _|_|_|_|_|j <;> first|exact Dle.refl _|omega
  · rename_i h
    have hne : i ≠ k := fun e => h ⟨e, Nat.zero_le _, by simp; omega⟩
    by_cases hlt : i < k
    · rw [if_pos hlt, if_pos (by omega)]; exact Dle.refl _
    · rw [if_neg hlt, if_neg (by omega)]; exact Dle.refl _
theorem loF_all (ss : List Lt) (ins : List Int) : ∀ i, i < ins.length → ∀ j, j < 5 → Dle (loF ss ins ins.length i j) (rowF ltE (ltsY ss ins) i j) := fun i hi j hj => Dle.of_eq (by
  unfold loF rowF ltsY
  rw [if_pos hi, List.getD_eq_getElem?_getD, List.getD_eq_getElem?_getD, List.getElem?_map, List.getElem?_eq_getElem hi]
  rfl)
theorem tmL_code {us : List Nd} {n lo hi : Int} (h : ascOk us lo hi) : ∀ x ∈ tmL us n, x.c.size ≤ 1000 := fun x hx => by
  obtain ⟨y, hy, rfl⟩ := List.mem_map.1 hx
  obtain ⟨i, hi2, rfl⟩ := List.getElem_of_mem hy
  have h1 := (h i hi2).1.1
  rw [List.getD_eq_getElem?_getD, List.getElem?_eq_getElem hi2] at h1
  show us[i].c.size ≤ 1000
  simp only [Option.getD_some] at h1
  omega
theorem yprocess_t (ss : List Lt) (r : Rc) (b : Int) (ins outs : List Int) (hL : ss.length ≤ 9223372036854775807) (hC : ∀ x ∈ ss, x.c.size ≤ 9223372036854775807)
    (hi : r.ins.length ≤ 9223372036854775807) (ho : r.outs.length ≤ 9223372036854775807) (hs : r.sc.length ≤ 9223372036854775807) (hI : ins.length ≤ 9223372036854775807) (hU : outs.length ≤ 9223372036854775807) :
    ACalls XX 9 [.dat (ltD ss), rcA r, iA b, .dat (iD ins), .dat (iD outs)] (.tup [.dat (ltD (yL ss r b ins outs)), iA (yE ss r b ins outs)]) := by
  have h1 := validate_t ss hL
  have hS : yL ss r b ins outs = if yE ss r b ins outs = 0 then sortLt (keepI ss ins ++ ptsY ss r b ins outs outs.length) else [] := rfl
  have herr : ∀ e : Int, e ≠ 0 → yE ss r b ins outs = e → yL ss r b ins outs = [] := fun e he hc => by rw [hS, hc, if_neg he]
  by_cases e1 : stkErr ss = 0
  rotate_left
  · have hE : yE ss r b ins outs = stkErr ss := by unfold yE; rw [if_pos e1]
    rw [herr _ e1 hE, hE]
    refine ACalls.of (n := Tryz.f9.ntmps) XX_ok Tryz.func9 rfl (by kernel_rfl) rfl rfl (Nat.le_of_ble_eq_true rfl) ?_
    (repeat' (first|((first|refine Zg ?_|refine Zt dr9 ?_|refine Zn ?_|refine Zc ?_|refine Zu fun b hb=>?_|refine Zy h1 ?_|refine Zz h1 ?_);conv=>whnf)|(refine Zb ?_ ?_<;>(intro h;first|exact Zx|conv=>whnf))))
    all_goals exact Zrz
  have hO := stkErr_ok e1
  have hlen := hO.len
  rw [e1] at h1
  by_cases e2 : yrOk r ∧ 1 ≤ b ∧ b ≤ 1000
  rotate_left
  · have hm := ymake_no r b hi ho hs e2
    have hE : yE ss r b ins outs = if yrOk r then 2 else 1 := by
      unfold yE
      rw [if_neg (by simpa using e1)]
      by_cases hy : yrOk r
      · rw [if_neg (by simpa using hy), if_pos (fun hb => e2 ⟨hy, hb⟩), if_pos hy]
      · rw [if_pos hy, if_neg hy]
    have hne : (if yrOk r then (2 : Int) else 1) ≠ 0 := by split <;> decide
    rw [herr _ hne hE, hE]
    generalize (if yrOk r then (2 : Int) else 1) = e at *
    refine ACalls.of (n := Tryz.f9.ntmps) XX_ok Tryz.func9 rfl (by kernel_rfl) rfl rfl (Nat.le_of_ble_eq_true rfl) ?_
    (repeat' (first|((first|refine Zg ?_|refine Zt dr9 ?_|refine Zn ?_|refine Zc ?_|refine Zu fun b hb=>?_|refine Zy h1 ?_|refine Zz h1 ?_|refine Zy hm ?_|refine Zz hm ?_);conv=>whnf)|(refine Zb ?_ ?_<;>(intro h;first|exact Zx|conv=>whnf))))
    all_goals first|(exfalso; omega)|((repeat' (first|exact Zrq|refine ResLe.agg ?_|refine And.intro ?_ ?_|((conv=>whnf); first|exact Zrq|refine ResLe.agg ?_|refine And.intro ?_ ?_))); done)
  have hm := ymake_t r b e2.1 e2.2
  have b1 := e2.1.2.1
  have b2 := e2.1.2.2.1
  have l1 := b1.2
  have l2 := b2.2
  have m1 : (tmL r.ins b).length = r.ins.length := tmL_len _ _
  have m2 : (tmL r.outs b).length = r.outs.length := tmL_len _ _
  have hnu := ynumbers_t (tmL r.outs b) ins outs (by omega) hU hI
  have hE0 : yE ss r b ins outs = open Classical in if ynE (tmL r.outs b).length ins outs ≠ 0 then 2 else if ¬ ∀ i ∈ ins, hasI ss i then 6
  else if twiceP ins ∨ twiceP outs ∨ tknL ss outs then 13 else if clE (ltsY ss ins) (tmL r.ins b) ≠ 0 then clE (ltsY ss ins) (tmL r.ins b) else if ¬ ∀ x ∈ tmL r.outs b, x.q ≤ 1000000000 then 16
  else if 64 < (ss.length : Int) - ins.length + outs.length then 8 else if ¬ ∀ k, k < outs.length → ((dlY ss r ins).getD k []).length ≤ 64 then 8 else 0 := by
    unfold yE
    rw [if_neg (by simpa using e1), if_neg (by simpa using e2.1), if_neg (by simpa using e2.2)]
  by_cases e3 : ynE (tmL r.outs b).length ins outs = 0
  rotate_left
  · rw [if_pos e3] at hE0
    have h2 : ynE (tmL r.outs b).length ins outs = 2 := by
      unfold ynE at e3 ⊢
      split
      · rfl
      · split
        · rfl
        · simp_all
    rw [herr 2 (by decide) hE0, hE0]
    rw [h2] at hnu
    refine ACalls.of (n := Tryz.f9.ntmps) XX_ok Tryz.func9 rfl (by kernel_rfl) rfl rfl (Nat.le_of_ble_eq_true rfl) ?_
    (repeat' (first|((first|refine Zg ?_|refine Zt dr9 ?_|refine Zn ?_|refine Zc ?_|refine Zu fun b hb=>?_|refine Zy h1 ?_|refine Zz h1 ?_|refine Zy hm ?_|refine Zz hm ?_|refine Zy hnu ?_|refine Zz hnu ?_);conv=>whnf)|(refine Zb ?_ ?_<;>(intro h;first|exact Zx|conv=>whnf))))
    all_goals first|(exfalso; omega)|((repeat' (first|exact Zrq|refine ResLe.agg ?_|refine And.intro ?_ ?_|((conv=>whnf); first|exact Zrq|refine ResLe.agg ?_|refine And.intro ?_ ?_))); done)
  rw [if_neg (by simpa using e3)] at hE0
  rw [e3] at hnu
  have n1 : 1 ≤ ins.length ∧ ins.length ≤ 16 ∧ outs.length = r.outs.length := by
    unfold ynE at e3
    split at e3
    · cases e3
    · omega
  have hU64 : ∀ x ∈ ss, x.us.length ≤ 1000000 := fun x hx => by have := hO.us x hx; omega
  have hfd := fun i => find_t ss i (by omega) hU64
  refine ACalls.of (n := Tryz.f9.ntmps) XX_ok Tryz.func9 rfl (by kernel_rfl) rfl rfl (Nat.le_of_ble_eq_true rfl) ?_
  (repeat' (first|((first|refine Zg ?_|refine Zt dr9 ?_|refine Zn ?_|refine Zc ?_|refine Zu fun b hb=>?_|refine Zy h1 ?_|refine Zz h1 ?_|refine Zy hm ?_|refine Zz hm ?_|refine Zy hnu ?_|refine Zz hnu ?_);conv=>whnf)|(refine Zb ?_ ?_<;>(intro h;first|exact Zx|conv=>whnf))))
  all_goals first|(exfalso; omega)|skip
  refine (W.loopK (ι := Nat) [0, 2, 3, 4, 6, 13, 14, 17, 54, 55] [6] (fun k => [(56, iA k)]) (fun k => [(53, .row 45 5 ins.length (loF ss ins k))]) (fun k => k ≤ ins.length ∧ ∀ i, i < k → hasI ss (ins.getD i default)) (fun k => ins.length - k) 0 ⟨Nat.zero_le _, fun i hi => absurd hi (by omega)⟩ ?_ ?_ ?_)
  · exact Yz
  · (repeat' (first|exact Yq|refine ⟨_, rfl, Yb ?_, rfl⟩|refine ⟨_, rfl, Yw (by first|rfl|omega) ?_, rfl⟩|refine And.intro ?_ ?_))
    all_goals (intro i hi j hj)
    all_goals (unfold loF; rw [if_neg (by omega)])
    all_goals (rcases j with _|_|_|_|_|j <;> first|exact Dle.refl _|omega|exact Dle.of_eq rfl)
  conv => whnf
  intro k ⟨hk, hz⟩
  by_cases hk' : k < ins.length
  · have h3 := hfd (ins.getD k default)
    by_cases hh : hasI ss (ins.getD k default)
    · rw [decide_eq_true hh] at h3
      (repeat' (first|((first|refine Zg ?_|refine Zt dr9 ?_|refine Zn ?_|refine Zc ?_|refine Zu fun b hb=>?_);conv=>whnf)|(refine Zb ?_ ?_<;>(intro h;first|exact Zx|conv=>whnf))))
      all_goals (try dsimp only [Int.toNat_natCast] at *)
      (repeat' (first|((first|refine Zg ?_|refine Zt dr9 ?_|refine Zn ?_|refine Zc ?_|refine Zu fun b hb=>?_|refine Zy h3 ?_|refine Zz h3 ?_);conv=>whnf)|(refine Zb ?_ ?_<;>(intro h;first|exact Zx|conv=>whnf))))
      all_goals first|(exfalso; omega)|skip
      have hrow := loF_set ss ins k _ rfl ins.length
      refine ⟨k + 1, ⟨by omega, fun i hi => ?_⟩, by omega, ?_, ?_, ?_, ?_⟩
      · by_cases hik : i = k
        · subst hik; exact hh
        · exact hz i (by omega)
      all_goals (repeat' (first|exact Yq|refine ⟨_, rfl, Yb ?_, rfl⟩|refine ⟨_, rfl, Yw (by first|rfl|omega) ?_, rfl⟩|refine And.intro ?_ ?_))
      exact fun i hi j hj => by
        have h5 := hrow i hi j hj
        rw [show 0 + ((k : Int)).toNat = k by simp]
        exact h5
    · have hE : yE ss r b ins outs = 6 := by rw [hE0, if_pos fun ha => hh (ha _ (getD_in hk'))]
      rw [herr _ (by omega) hE, hE]
      rw [decide_eq_false hh] at h3
      (repeat' (first|((first|refine Zg ?_|refine Zt dr9 ?_|refine Zn ?_|refine Zc ?_|refine Zu fun b hb=>?_);conv=>whnf)|(refine Zb ?_ ?_<;>(intro h;first|exact Zx|conv=>whnf))))
      all_goals (try dsimp only [Int.toNat_natCast] at *)
      (repeat' (first|((first|refine Zg ?_|refine Zt dr9 ?_|refine Zn ?_|refine Zc ?_|refine Zu fun b hb=>?_|refine Zy h3 ?_|refine Zz h3 ?_);conv=>whnf)|(refine Zb ?_ ?_<;>(intro h;first|exact Zx|conv=>whnf))))
      all_goals first|exact Zrz|(exfalso; omega)
  have hO1 : ∀ i ∈ ins, hasI ss i := all_getD.2 fun i hi => hz i (by omega)
  obtain rfl : k = ins.length := by omega
  clear hz hfd
  rw [if_neg (by simpa using hO1)] at hE0
  have t1 := ytwice_t ins (by omega)
  have t2 := ytwice_t outs (by omega)
  have t3 := ytaken_t ss outs (by omega) (by omega) (fun x hx => by have := hO.us x hx; omega)
  have hlot : (ltsY ss ins).length = ins.length := by simp [ltsY]
  refine (W.weak ⟨[(0, .dat (ltD ss)), (2, iA b), (3, .dat (iD ins)), (4, .dat (iD outs)), (6, .ptr 6 0), (13, .dat (ndD (tmL r.ins b))), (14, .dat (ndD (tmL r.outs b))), (17, .own 53 5 0 (ltsY ss ins).length), (54, .dat (iD ins)), (55, iA ins.length), (56, iA ins.length)], [(53, .row 45 5 (ltsY ss ins).length (rowF ltE (ltsY ss ins))), (6, .blk 33 [iA r.id, .dat (ndD r.ins), .dat (ndD r.outs), .dat (iD r.sc)])]⟩ ?_ ?_ ?_)
  · (repeat' (first|exact Yq|exact Yi (by first|rfl|exact hlot.symm|omega)|exact Yo (by first|rfl|exact hlot.symm|omega)|exact Ye (by first|rfl|exact hlot.symm|omega)|refine ⟨_, rfl, Yb ?_, rfl⟩|refine ⟨_, rfl, Yw (by first|rfl|exact hlot.symm|omega) ?_, rfl⟩|refine And.intro ?_ ?_))
  · (repeat' (first|exact Yq|exact Yi (by first|rfl|exact hlot.symm|omega)|exact Yo (by first|rfl|exact hlot.symm|omega)|exact Ye (by first|rfl|exact hlot.symm|omega)|refine ⟨_, rfl, Yb ?_, rfl⟩|refine ⟨_, rfl, Yw (by first|rfl|exact hlot.symm|omega) ?_, rfl⟩|refine And.intro ?_ ?_))
    exact loF_all ss ins
  conv => whnf
  refine (W.pubD 17 53 rfl rfl ?_)
  conv => whnf
  by_cases e4 : twiceP ins ∨ twiceP outs ∨ tknL ss outs
  · have hE : yE ss r b ins outs = 13 := by rw [hE0, if_pos e4]
    rw [herr _ (by omega) hE, hE]
    clear hE0 hE herr hS
    (repeat' (first|((first|refine Zg ?_|refine Zt dr9 ?_|refine Zn ?_|refine Zc ?_|refine Zu fun b hb=>?_|refine Zy t1 ?_|refine Zz t1 ?_|refine Zy t2 ?_|refine Zz t2 ?_|refine Zy t3 ?_|refine Zz t3 ?_);conv=>whnf)|(refine Zb ?_ ?_<;>(intro h;first|exact Zx|conv=>whnf))))
    all_goals first|exact Zrz|(exfalso; omega)|(exfalso; simp_all; done)
  rw [if_neg e4] at hE0
  rw [decide_eq_false (fun h => e4 (.inl h))] at t1
  rw [decide_eq_false (fun h => e4 (.inr (.inl h)))] at t2
  rw [decide_eq_false (fun h => e4 (.inr (.inr h)))] at t3
  have hmem : ∀ x ∈ ltsY ss ins, x ∈ ss := fun x hx => by
    obtain ⟨i, hi2, rfl⟩ := List.mem_map.1 hx
    exact (findV_mem (hO1 i hi2)).1
  have hck := ylots_t (ltsY ss ins) (tmL r.ins b) (by omega) (by omega) (fun x hx => by have := (hO.ok x (hmem x hx)).2.1.1; omega) (fun x hx => by have := (hO.ok x (hmem x hx)).2.2.1; unfold qOk at this; omega) (tmL_code b1.1)
  by_cases e5 : clE (ltsY ss ins) (tmL r.ins b) = 0
  rotate_left
  · rw [if_pos e5] at hE0
    rw [herr _ e5 hE0, hE0]
    clear hE0 herr hS
    (repeat' (first|((first|refine Zg ?_|refine Zt dr9 ?_|refine Zn ?_|refine Zc ?_|refine Zu fun b hb=>?_|refine Zy t1 ?_|refine Zz t1 ?_|refine Zy t2 ?_|refine Zz t2 ?_|refine Zy t3 ?_|refine Zz t3 ?_|refine Zy hck ?_|refine Zz hck ?_);conv=>whnf)|(refine Zb ?_ ?_<;>(intro h;first|exact Zx|conv=>whnf))))
    all_goals first|exact Zrz|(exfalso; omega)|(exfalso; simp_all; done)
  rw [if_neg (by simpa using e5)] at hE0
  rw [e5] at hck
  (repeat' (first|((first|refine Zg ?_|refine Zt dr9 ?_|refine Zn ?_|refine Zc ?_|refine Zu fun b hb=>?_|refine Zy t1 ?_|refine Zz t1 ?_|refine Zy t2 ?_|refine Zz t2 ?_|refine Zy t3 ?_|refine Zz t3 ?_|refine Zy hck ?_|refine Zz hck ?_);conv=>whnf)|(refine Zb ?_ ?_<;>(intro h;first|exact Zx|conv=>whnf))))
  all_goals first|(exfalso; omega)|skip
  refine (W.loopK (ι := Nat) [0, 3, 4, 6, 14, 17, 91, 92] [6] (fun k => [(93, iA k)]) (fun _ => []) (fun k => k ≤ (tmL r.outs b).length ∧ ∀ i, i < k → ((tmL r.outs b).getD i default).q ≤ 1000000000) (fun k => (tmL r.outs b).length - k) 0 ⟨Nat.zero_le _, fun i hi => absurd hi (by omega)⟩ ?_ ?_ ?_)
  · exact Yz
  · exact Yz
  conv => whnf
  intro k ⟨hk, hz⟩
  by_cases hk' : k < (tmL r.outs b).length
  · by_cases hok : ((tmL r.outs b).getD k default).q ≤ 1000000000
    · (repeat' (first|((first|refine Zg ?_|refine Zt dr9 ?_|refine Zn ?_|refine Zc ?_|refine Zu fun b hb=>?_);conv=>whnf)|(refine Zb ?_ ?_<;>(intro h;first|exact Zx|conv=>whnf))))
      all_goals (try dsimp only [Int.toNat_natCast] at *)
      (repeat' (first|((first|refine Zg ?_|refine Zt dr9 ?_|refine Zn ?_|refine Zc ?_|refine Zu fun b hb=>?_);conv=>whnf)|(refine Zb ?_ ?_<;>(intro h;first|exact Zx|conv=>whnf))))
      all_goals first|(exfalso; omega)|skip
      refine ⟨k + 1, ⟨by omega, fun i hi => ?_⟩, by omega, ?_, ?_, ?_, ?_⟩
      · by_cases hik : i = k
        · subst hik; exact hok
        · exact hz i (by omega)
      all_goals exact Yz
    · have hE : yE ss r b ins outs = 16 := by rw [hE0, if_pos fun ha => hok (ha _ (getD_in hk'))]
      rw [herr _ (by omega) hE, hE]
      (repeat' (first|((first|refine Zg ?_|refine Zt dr9 ?_|refine Zn ?_|refine Zc ?_|refine Zu fun b hb=>?_);conv=>whnf)|(refine Zb ?_ ?_<;>(intro h;first|exact Zx|conv=>whnf))))
      all_goals (try dsimp only [Int.toNat_natCast] at *)
      (repeat' (first|((first|refine Zg ?_|refine Zt dr9 ?_|refine Zn ?_|refine Zc ?_|refine Zu fun b hb=>?_);conv=>whnf)|(refine Zb ?_ ?_<;>(intro h;first|exact Zx|conv=>whnf))))
      all_goals first|exact Zrz|(exfalso; omega)
  have hO2 : ∀ x ∈ tmL r.outs b, x.q ≤ 1000000000 := all_getD.2 fun i hi => hz i (by omega)
  obtain rfl : k = (tmL r.outs b).length := by omega
  clear hz
  rw [if_neg (by simpa using hO2)] at hE0
  have hdl := deal_t (ltsY ss ins) r.sc (by omega) (fun x hx => hO.us x (hmem x hx)) (fun y hy => by
    obtain ⟨x, hx, hy⟩ := List.mem_flatMap.1 hy
    have := (hO.ok x (hmem x hx)).2.2.2.2 y hy
    unfold slOk at this
    unfold duOk
    omega) (by have := e2.1.2.2.2.1; omega) (fun x hx => by
    obtain ⟨i, hi2, rfl⟩ := List.getElem_of_mem hx
    have := e2.1.2.2.2.2.1 i hi2
    rw [List.getD_eq_getElem?_getD, List.getElem?_eq_getElem hi2] at this
    exact this) e2.1.2.2.2.2.2
  have hdd : dealL (alU (ltsY ss ins)) r.sc = dlY ss r ins := rfl
  rw [hdd] at hdl
  have hdn : (dlY ss r ins).length = outs.length := by
    have := e2.1.2.2.2.1
    simp [dlY, dealL]
    omega
  by_cases e6 : 64 < (ss.length : Int) - ins.length + outs.length
  · have hE : yE ss r b ins outs = 8 := by rw [hE0, if_pos e6]
    rw [herr _ (by omega) hE, hE]
    (repeat' (first|((first|refine Zg ?_|refine Zt dr9 ?_|refine Zn ?_|refine Zc ?_|refine Zu fun b hb=>?_|refine Zy hdl ?_|refine Zz hdl ?_);conv=>whnf)|(refine Zb ?_ ?_<;>(intro h;first|exact Zx|conv=>whnf))))
    all_goals first|exact Zrz|(exfalso; omega)
  rw [if_neg e6] at hE0
  (repeat' (first|((first|refine Zv 33 ?_|refine Zt dr9 ?_|refine Zn ?_|refine Zc ?_|refine Zu fun b hb=>?_|refine Zy hdl ?_|refine Zz hdl ?_);conv=>whnf)|(refine Zb ?_ ?_<;>(intro h;first|exact Zx|conv=>whnf))))
  all_goals first|(exfalso; omega)|skip
  (repeat' (first|((first|refine Zv 34 ?_|refine Zt dr9 ?_|refine Zn ?_|refine Zc ?_|refine Zu fun b hb=>?_);conv=>whnf)|(refine Zb ?_ ?_<;>(intro h;first|exact Zx|conv=>whnf))))
  refine (W.adopt 26 146 45 5 (rowF ltE []) rfl rfl rfl rfl ?_)
  conv => whnf
  have hp0 : ptsY ss r b ins outs 0 = [] := rfl
  have hpn : ∀ k, (ptsY ss r b ins outs k).length = k := fun k => by simp [ptsY]
  (repeat' (first|((first|refine Zg ?_|refine Zt dr9 ?_|refine Zn ?_|refine Zc ?_|refine Zu fun b hb=>?_);conv=>whnf)|(refine Zb ?_ ?_<;>(intro h;first|exact Zx|conv=>whnf))))
  refine (W.loopK (ι := Nat) [0, 3, 4, 17, 25, 114, 115] [] (fun k => [(116, iA k), (26, .own 146 5 0 (ptsY ss r b ins outs k).length)]) (fun k => [(146, .row 45 5 (ptsY ss r b ins outs k).length (rowF ltE (ptsY ss r b ins outs k)))]) (fun k => k ≤ outs.length ∧ ∀ i, i < k → ((dlY ss r ins).getD i []).length ≤ 64) (fun k => outs.length - k) 0 ⟨Nat.zero_le _, fun i hi => absurd hi (by omega)⟩ ?_ ?_ ?_)
  · exact Yz
  · exact Yz
  conv => whnf
  intro k ⟨hk, hz⟩
  have hpk := hpn k
  by_cases hk' : k < outs.length
  · by_cases hok : ((dlY ss r ins).getD k []).length ≤ 64
    · (repeat' (first|((first|refine Zg ?_|refine Zt dr9 ?_|refine Zn ?_|refine Zc ?_|refine Zu fun b hb=>?_);conv=>whnf)|(refine Zb ?_ ?_<;>(intro h;first|exact Zx|conv=>whnf))))
      all_goals (try dsimp only [Int.toNat_natCast] at *)
      (repeat' (first|((first|refine Zg ?_|refine Zt dr9 ?_|refine Zn ?_|refine Zc ?_|refine Zu fun b hb=>?_);conv=>whnf)|(refine Zb ?_ ?_<;>(intro h;first|exact Zx|conv=>whnf))))
      all_goals first|(exfalso; omega)|skip
      have hs : ptsY ss r b ins outs (k + 1) = ptsY ss r b ins outs k ++ [ptY ss r b ins outs k] := by unfold ptsY; rw [List.range_succ, List.map_append]; rfl
      have hpk1 := hpn (k + 1)
      refine ⟨k + 1, ⟨by omega, fun i hi => ?_⟩, by omega, ?_, ?_, ?_, ?_⟩
      · by_cases hik : i = k
        · subst hik; exact hok
        · exact hz i (by omega)
      all_goals (repeat' (first|exact Yq|refine ⟨_, rfl, Yb ?_, rfl⟩|refine ⟨_, rfl, Yw (by first|rfl|omega) ?_, rfl⟩|refine And.intro ?_ ?_))
      rw [hs]
      refine rowF_snoc rfl fun j hj => ?_
      rcases j with _|_|_|_|_|j
      all_goals first|exact Dle.refl _|omega
    · have hE : yE ss r b ins outs = 8 := by rw [hE0, if_pos fun ha => hok (ha k hk')]
      rw [herr _ (by omega) hE, hE]
      (repeat' (first|((first|refine Zg ?_|refine Zt dr9 ?_|refine Zn ?_|refine Zc ?_|refine Zu fun b hb=>?_);conv=>whnf)|(refine Zb ?_ ?_<;>(intro h;first|exact Zx|conv=>whnf))))
      all_goals (try dsimp only [Int.toNat_natCast] at *)
      (repeat' (first|((first|refine Zg ?_|refine Zt dr9 ?_|refine Zn ?_|refine Zc ?_|refine Zu fun b hb=>?_);conv=>whnf)|(refine Zb ?_ ?_<;>(intro h;first|exact Zx|conv=>whnf))))
      all_goals first|exact Zrz|(exfalso; omega)
  obtain rfl : k = outs.length := by omega
  have hE : yE ss r b ins outs = 0 := by rw [hE0, if_neg (by simpa using fun k hk2 => hz k hk2)]
  rw [hE, if_pos rfl] at hS
  rw [hS, hE]
  have hwo := without_h ss ins (by omega) (by omega) hU64
  have hkl := keep_len ss ins
  have hso := sorted_h (keepI ss ins ++ ptsY ss r b ins outs outs.length) (by simp [hpk]; omega) (by simp [hpk]; omega)
  have hal : (keepI ss ins).length + (ptsY ss r b ins outs outs.length).length = (keepI ss ins ++ ptsY ss r b ins outs outs.length).length := by simp
  (repeat' (first|((first|refine Zv 41 ?_|refine Zt dr9 ?_|refine Zn ?_|refine Zc ?_|refine Zu fun b hb=>?_);conv=>whnf)|(refine Zb ?_ ?_<;>(intro h;first|exact Zx|conv=>whnf))))
  all_goals first|(exfalso; omega)|skip
  refine (W.pubD 26 146 rfl rfl ?_)
  conv => whnf
  have hcat := RowIs.ent 45 (RowIs.cat (RowIs.refl ltE 5 (keepI ss ins)) (RowIs.refl ltE 5 (ptsY ss r b ins outs outs.length)))
  (repeat' (first|((first|refine Zg ?_|refine Zt dr9 ?_|refine Zn ?_|refine Zc ?_|refine Zu fun b hb=>?_|refine ExCall.h [(27, 150)] rfl hwo rfl trivial ?_|refine ExCall.byH (hso.ren [(5000, 150)] rfl) ⟨AVle.own hal, trivial⟩ ⟨⟨_, rfl, hcat, rfl⟩, trivial⟩ ?_);conv=>whnf)|(refine Zb ?_ ?_<;>(intro h;first|exact Zx|conv=>whnf))))
  all_goals first|(exfalso; omega)|skip
  (repeat' (first|exact Zrq|refine ResLe.agg ?_|refine And.intro ?_ ?_|((conv=>whnf); first|exact Zrq|refine ResLe.agg ?_|refine And.intro ?_ ?_)))
  exact RowIs.res rfl ⟨(sortLt_len _).symm, fun i hi j hj => Dle.refl _⟩ rfl
end Go.Proofs.YtacpjihbbmoolaaGreatDoor
