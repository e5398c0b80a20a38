/- Slices made from numbers; the law of Duty. Whether the law's package is awake; the law of lists of slices. Units taken from the front and from the back; the law that it makes no difference whether they are taken in one or in two times. -/
import Derived.Test.YtojkeidijdcfoaaGreatDoorS7
import Derived.Test.YtojkeidijdcfoaaGreatDoorB9
import Derived.Test.YtojkeidijdcfoaaGreatDoorU3

namespace Go.Proofs.YtojkeidijdcfoaaGreatDoor
open Go Go.RowKit
set_option linter.unusedVariables false
set_option linter.unusedSimpArgs false
set_option maxRecDepth 100000
set_option maxHeartbeats 4000000
attribute [local irreducible] ResLe AVle ArgLe ArgP EntLe Dle ResH ArgQ

structure MS where
  i : Nat
  e0 : Int
  e1 : Int
  e2 : Int
  e3 : Int
  us : List Sl
def msE (s : MS) (m : Int) : Int := if m = 0 then s.e0 else if m = 1 then s.e1 else if m = 2 then s.e2 else s.e3
structure MsI (L : List Int) (s : MS) : Prop where
  i : s.i ≤ L.length
  len : s.us.length ≤ 20
  e0 : 0 ≤ s.e0 ∧ s.e0 ≤ 17 * s.us.length
  e1 : 0 ≤ s.e1 ∧ s.e1 ≤ 17 * s.us.length
  e2 : 0 ≤ s.e2 ∧ s.e2 ≤ 17 * s.us.length
  e3 : 0 ≤ s.e3 ∧ s.e3 ≤ 17 * s.us.length
structure MsV (s : MS) : Prop where
  ok : ∀ x ∈ s.us, slOk x ∧ x.m ≤ 4 ∧ x.e ≤ msE s (x.m - 1)
  nm : ¬ anyMeet s.us
end Go.Proofs.YtojkeidijdcfoaaGreatDoor

namespace Go.Proofs.YtojkeidijdcfoaaGreatDoor
open Go Go.RowKit
set_option linter.unusedVariables false
set_option linter.unusedSimpArgs false
set_option maxRecDepth 100000
set_option maxHeartbeats 4000000
attribute [local irreducible] ResLe AVle ArgLe ArgP EntLe Dle ResH ArgQ

theorem nilLots : AVle (.dat (.val (.slice none 0 0))) (.dat (ltD [])) := AVle.dat (Dle.nil _ _)
theorem two_pt : AVle (.dat (.lst 2 2 fun i j => pickF (tabB 2 2) [.val (.int .i64 2), .val (.int .i64 4), .val (.int .i64 3), .val (.int .i64 6)] (i * 2 + j))) (.dat (ptD ps0)) := AVle.dat (Dle.lst rfl fun i hi j hj => by
  rcases i with _ | _ | i
  · rcases j with _ | _ | j
    all_goals first | exact Dle.refl _ | omega
  · rcases j with _ | _ | j
    all_goals first | exact Dle.refl _ | omega
  · omega)
theorem has3 : hasI s2 3 := ⟨_, List.mem_cons_of_mem _ (List.mem_singleton.2 rfl), rfl⟩
theorem l25awake_t : ACalls XX 10 [] (bA true) := by
  have p1 := present_t [] 1 code0 10 (by simp)
  rw [pre0.1, pre0.2] at p1
  have p1 := p1.args4 nilLots (AVle.refl _) (AVle.refl _) (AVle.refl _)
  have p2 := split_t s1 1 ps0 1 (by simp) (by simp) (fun _ => divOk1)
  rw [spl0.1, spl0.2] at p2
  have p2 := p2.args4 (AVle.refl _) (AVle.refl _) two_pt (AVle.refl _)
  have p3 := find_t s2 3 (by simp) (by simp)
  rw [decide_eq_true has3, show findV s2 3 = ⟨3, code0, 6, 1, [⟨1, 4, 10⟩]⟩ from rfl] at p3
  have p4 := (rsame_t [⟨1, 4, 10⟩] (by simp)).args2 (AVle.refl _) (one_sl ⟨1, 4, 10⟩)
  have p5 := covers_t s2 1 10 (by simp)
  have hc : covL s2 1 = [⟨1, 0, 4⟩, ⟨1, 4, 10⟩] := rfl
  rw [decide_eq_true (show qOk 10 ∧ stkErr s2 = 0 ∧ covP s2 1 10 from ⟨by decide, stkErr_zero stk_s2, by rw [hc]; simp, by rw [hc]; rfl⟩)] at p5
  have p6 := covers_t s2 1 9 (by simp)
  rw [decide_eq_false (show ¬ (qOk 9 ∧ stkErr s2 = 0 ∧ covP s2 1 9) from fun h => by have := h.2.2.1; rw [hc] at this; simp at this)] at p6
  refine ACalls.of (n := Tryz.f10.ntmps) XX_ok Tryz.func10 rfl (by kernel_rfl) rfl rfl (Nat.le_of_ble_eq_true rfl) ?_
  refine W.pb [14, 41] ?_
  (repeat' (first | refine Zs ?_ | refine Zk ?_ | ((first | refine Za ?_ | refine Zr ?_ | refine Zp ?_ | refine Ze ?_ | refine Zd ?_ | refine Zn ?_ | refine Zc ?_ | refine UnK.mk (fun b hb => ?_) | refine Zy (ACalls.at (p1)) ?_ | refine Zy (ACalls.at (p2)) ?_ | refine Zy (ACalls.at (p3)) ?_ | refine Zy (ACalls.at (p4)) ?_ | refine Zy (ACalls.at (p5)) ?_ | refine Zy (ACalls.at (p6)) ?_); conv => whnf) | (refine Zb (fun h => ?_) (fun h => ?_) <;> first | exact Zx | (conv => whnf))))
  all_goals exact Zrz
end Go.Proofs.YtojkeidijdcfoaaGreatDoor

namespace Go.Proofs.YtojkeidijdcfoaaGreatDoor
open Go Go.RowKit
set_option linter.unusedVariables false
set_option linter.unusedSimpArgs false
set_option maxRecDepth 100000
set_option maxHeartbeats 4000000
attribute [local irreducible] ResLe AVle ArgLe ArgP EntLe Dle ResH ArgQ

noncomputable def takE (us : List Sl) (u m : Int) : Int := if lotErr us ≠ 0 then lotErr us else if u < 0 ∨ cnt us < u ∨ ¬ mOk m then 2 else 0
noncomputable def takA (us : List Sl) (u m : Int) : List Sl := if takE us u m = 0 then divA m (joinL us) u else []
noncomputable def takB (us : List Sl) (u m : Int) : List Sl := if takE us u m = 0 then divB m (joinL us) u else []
theorem tak_ok {us : List Sl} {u m : Int} (h : lotErr us = 0) (hu : 0 ≤ u ∧ u ≤ cnt us) (hm : mOk m) : takE us u m = 0 ∧ takA us u m = divA m (joinL us) u ∧ takB us u m = divB m (joinL us) u := by
  have hE : takE us u m = 0 := by unfold takE; rw [if_neg (by simpa using h), if_neg (by rintro (h1 | h1 | h1) <;> first | omega | exact h1 hm)]
  exact ⟨hE, by unfold takA; rw [hE, if_pos rfl], by unfold takB; rw [hE, if_pos rfl]⟩

theorem divA1 (us : List Sl) (u : Int) : divA 1 us u = frA us u := by unfold divA ksM frA; rw [if_neg (by decide), if_neg (by decide)]
theorem divB1 (us : List Sl) (u : Int) : divB 1 us u = frB us u := by unfold divB ksM frB; rw [if_neg (by decide), if_neg (by decide)]
theorem divA2 (us : List Sl) (u : Int) : divA 2 us u = frB us (cnt us - u) := by unfold divA; rw [if_pos rfl]
theorem divB2 (us : List Sl) (u : Int) : divB 2 us u = frA us (cnt us - u) := by unfold divB; rw [if_pos rfl]
end Go.Proofs.YtojkeidijdcfoaaGreatDoor
