/- Lots presented and split. -/
import Derived.Test.YtojkeidijdcfoaaGreatDoorB7
namespace Go.Proofs.YtojkeidijdcfoaaGreatDoor
open Go Go.RowKit
set_option linter.unusedVariables false
set_option linter.unusedSimpArgs false
set_option maxRecDepth 100000
set_option maxHeartbeats 4000000
attribute [local irreducible] ResLe AVle ArgLe ArgP EntLe Dle ResH ArgQ

theorem ACalls.args1 {X : Cx} {f : FuncId} {a a' r : AV} (h : ACalls X f [a'] r) (ha : AVle a a') : ACalls X f [a] r := h.args ⟨ha, trivial⟩
theorem ACalls.args2 {X : Cx} {f : FuncId} {a a' b b' r : AV} (h : ACalls X f [a', b'] r) (ha : AVle a a') (hb : AVle b b') : ACalls X f [a, b] r := h.args ⟨ha, hb, trivial⟩
theorem ACalls.args3 {X : Cx} {f : FuncId} {a a' b b' c c' r : AV} (h : ACalls X f [a', b', c'] r) (ha : AVle a a') (hb : AVle b b') (hc : AVle c c') : ACalls X f [a, b, c] r := h.args ⟨ha, hb, hc, trivial⟩
theorem ACalls.args4 {X : Cx} {f : FuncId} {a a' b b' c c' d d' r : AV} (h : ACalls X f [a', b', c', d'] r) (ha : AVle a a') (hb : AVle b b') (hc : AVle c c') (hd : AVle d d') : ACalls X f [a, b, c, d] r := h.args ⟨ha, hb, hc, hd, trivial⟩
theorem one_le (s : Nat) {α : Type} [Inhabited α] (enc : α → Nat → D) (x : α) (ds : List D) (h : ∀ j, j < s → Dle (pickF (tabB 1 s) ds (0 * s + j)) (enc x j)) : AVle (.dat (.lst s 1 fun i j => pickF (tabB 1 s) ds (i * s + j))) (.dat (.lst s [x].length (rowF enc [x]))) := AVle.dat (Dle.lst rfl fun i hi j hj => by
  obtain rfl : i = 0 := by omega
  exact h j hj)
theorem one_int (v : Int) : AVle (.dat (.lst 1 1 fun i j => pickF (tabB 1 1) [.val (.int .i64 v)] (i * 1 + j))) (.dat (iD [v])) := one_le 1 iE v _ fun j hj => by
  obtain rfl : j = 0 := by omega
  exact Dle.refl _
theorem one_sl (x : Sl) : AVle (.dat (.lst 3 1 fun i j => pickF (tabB 1 3) [.val (.int .i64 x.m), .val (.int .i64 x.s), .val (.int .i64 x.e)] (i * 3 + j))) (.dat (slD [x])) := one_le 3 slE x _ fun j hj => by
  rcases j with _ | _ | _ | j
  all_goals first | exact Dle.refl _ | omega
abbrev newLt (id : Int) (c : ByteArray) (q : Int) : Lt := ⟨id, c, q, 1, [⟨id, 0, q⟩]⟩
theorem one_new (id : Int) (c : ByteArray) (q : Int) : AVle (.dat (.lst 5 1 fun i j => pickF (tabB 1 5) [.val (.int .i64 id), .val (.string c), .val (.int .i64 q), .val (.int .i64 1), .lst 3 1 fun i j => pickF (tabB 1 3) [.val (.int .i64 id), .val (.int .i64 0), .val (.int .i64 q)] (i * 3 + j)] (i * 5 + j))) (.dat (ltD [newLt id c q])) := one_le 5 ltE (newLt id c q) _ fun j hj => by
  rcases j with _ | _ | _ | _ | _ | j
  · exact Dle.refl _
  · exact Dle.refl _
  · exact Dle.refl _
  · exact Dle.refl _
  · refine Dle.lst rfl fun i hi j hj => ?_
    obtain rfl : i = 0 := by omega
    rcases j with _ | _ | _ | j
    all_goals first | exact Dle.refl _ | omega
  · omega
theorem nilInts : AVle (.dat (.val (.slice none 0 0))) (.dat (iD [])) := AVle.dat (Dle.nil _ _)
theorem present_t (ss : List Lt) (id : Int) (c : ByteArray) (q : Int) (hL : ss.length ≤ 9223372036854775807) : ACalls XX 11 [.dat (ltD ss), iA id, sA c, iA q] (.tup [.dat (ltD (preL ss id c q)), iA (preE ss id c q)]) := by
  have h1 := validate_t ss hL
  have h2 := validID_t id
  have h3 := validCode_t c
  have h4 := validQ_t q
  by_cases e1 : stkErr ss = 0
  · have hO := stkErr_ok e1
    have hlen := hO.len
    have h5 := taken_t ss id (by omega) (fun x hx => by have := hO.us x hx; omega)
    have h6 := (replace_t ss [] [newLt id c q] (by omega) (by simp) (by simp) (fun x hx => by have := hO.us x hx; omega) (by simp)).args3 (AVle.refl _) nilInts (one_new id c q)
    rw [e1] at h1
    have hE : preE ss id c q = if ¬ (idOk id ∧ codeOk c ∧ qOk q) then 2 else if takenP ss id then 13 else if 64 ≤ ss.length then 8 else 0 := by unfold preE; rw [if_neg (by simpa using e1)]
    have hP : preL ss id c q = if preE ss id c q = 0 then replL ss [] [newLt id c q] else [] := rfl
    by_cases e2 : idOk id ∧ codeOk c ∧ qOk q
    · rw [if_neg (by simpa using e2)] at hE
      obtain ⟨f1, f2, f3⟩ := e2
      rw [decide_eq_true f1] at h2
      rw [decide_eq_true f2] at h3
      rw [decide_eq_true f3] at h4
      by_cases e3 : takenP ss id
      · rw [if_pos e3] at hE
        rw [decide_eq_true e3] at h5
        rw [hE, if_neg (by omega)] at hP
        rw [hP, hE]
        refine ACalls.of (n := Tryz.f11.ntmps) XX_ok Tryz.func11 rfl (by kernel_rfl) rfl rfl (Nat.le_of_ble_eq_true rfl) ?_
        (repeat' (first | refine Zs ?_ | refine Zk ?_ | ((first | refine Za ?_ | refine Zr ?_ | refine Zp ?_ | refine Ze ?_ | refine Zd ?_ | refine Zn ?_ | refine Zc ?_ | refine UnK.mk (fun b hb => ?_) | refine Zy h1 ?_ | refine Zy h2 ?_ | refine Zy h3 ?_ | refine Zy h4 ?_ | refine Zy h5 ?_); conv => whnf) | (refine Zb (fun h => ?_) (fun h => ?_) <;> first | exact Zx | (conv => whnf))))
        all_goals exact Zrz
      rw [if_neg e3] at hE
      rw [decide_eq_false e3] at h5
      by_cases e4 : 64 ≤ ss.length
      · rw [if_pos e4] at hE
        rw [hE, if_neg (by omega)] at hP
        rw [hP, hE]
        refine ACalls.of (n := Tryz.f11.ntmps) XX_ok Tryz.func11 rfl (by kernel_rfl) rfl rfl (Nat.le_of_ble_eq_true rfl) ?_
        (repeat' (first | refine Zs ?_ | refine Zk ?_ | ((first | refine Za ?_ | refine Zr ?_ | refine Zp ?_ | refine Ze ?_ | refine Zd ?_ | refine Zn ?_ | refine Zc ?_ | refine UnK.mk (fun b hb => ?_) | refine Zy h1 ?_ | refine Zy h2 ?_ | refine Zy h3 ?_ | refine Zy h4 ?_ | refine Zy h5 ?_); conv => whnf) | (refine Zb (fun h => ?_) (fun h => ?_) <;> first | exact Zx | (conv => whnf))))
        all_goals exact Zrz
      rw [if_neg e4] at hE
      rw [hE, if_pos rfl] at hP
      rw [hP, hE]
      refine ACalls.of (n := Tryz.f11.ntmps) XX_ok Tryz.func11 rfl (by kernel_rfl) rfl rfl (Nat.le_of_ble_eq_true rfl) ?_
      refine W.pb [40, 48] ?_
      (repeat' (first | refine Zs ?_ | refine Zk ?_ | ((first | refine Za ?_ | refine Zr ?_ | refine Zp ?_ | refine Ze ?_ | refine Zd ?_ | refine Zn ?_ | refine Zc ?_ | refine UnK.mk (fun b hb => ?_) | refine Zy (ACalls.at (h1)) ?_ | refine Zy (ACalls.at (h2)) ?_ | refine Zy (ACalls.at (h3)) ?_ | refine Zy (ACalls.at (h4)) ?_ | refine Zy (ACalls.at (h5)) ?_ | refine Zy (ACalls.at (h6)) ?_); conv => whnf) | (refine Zb (fun h => ?_) (fun h => ?_) <;> first | exact Zx | (conv => whnf))))
      all_goals exact Zrz
    · rw [if_pos e2] at hE
      rw [hE, if_neg (by omega)] at hP
      rw [hP, hE]
      by_cases f1 : idOk id
      · by_cases f2 : codeOk c
        · have f3 : ¬ qOk q := fun h => e2 ⟨f1, f2, h⟩
          rw [decide_eq_true f1] at h2
          rw [decide_eq_true f2] at h3
          rw [decide_eq_false f3] at h4
          refine ACalls.of (n := Tryz.f11.ntmps) XX_ok Tryz.func11 rfl (by kernel_rfl) rfl rfl (Nat.le_of_ble_eq_true rfl) ?_
          (repeat' (first | refine Zs ?_ | refine Zk ?_ | ((first | refine Za ?_ | refine Zr ?_ | refine Zp ?_ | refine Ze ?_ | refine Zd ?_ | refine Zn ?_ | refine Zc ?_ | refine UnK.mk (fun b hb => ?_) | refine Zy h1 ?_ | refine Zy h2 ?_ | refine Zy h3 ?_ | refine Zy h4 ?_); conv => whnf) | (refine Zb (fun h => ?_) (fun h => ?_) <;> first | exact Zx | (conv => whnf))))
          all_goals exact Zrz
        · rw [decide_eq_true f1] at h2
          rw [decide_eq_false f2] at h3
          refine ACalls.of (n := Tryz.f11.ntmps) XX_ok Tryz.func11 rfl (by kernel_rfl) rfl rfl (Nat.le_of_ble_eq_true rfl) ?_
          (repeat' (first | refine Zs ?_ | refine Zk ?_ | ((first | refine Za ?_ | refine Zr ?_ | refine Zp ?_ | refine Ze ?_ | refine Zd ?_ | refine Zn ?_ | refine Zc ?_ | refine UnK.mk (fun b hb => ?_) | refine Zy h1 ?_ | refine Zy h2 ?_ | refine Zy h3 ?_); conv => whnf) | (refine Zb (fun h => ?_) (fun h => ?_) <;> first | exact Zx | (conv => whnf))))
          all_goals exact Zrz
      · rw [decide_eq_false f1] at h2
        refine ACalls.of (n := Tryz.f11.ntmps) XX_ok Tryz.func11 rfl (by kernel_rfl) rfl rfl (Nat.le_of_ble_eq_true rfl) ?_
        (repeat' (first | refine Zs ?_ | refine Zk ?_ | ((first | refine Za ?_ | refine Zr ?_ | refine Zp ?_ | refine Ze ?_ | refine Zd ?_ | refine Zn ?_ | refine Zc ?_ | refine UnK.mk (fun b hb => ?_) | refine Zy h1 ?_ | refine Zy h2 ?_); conv => whnf) | (refine Zb (fun h => ?_) (fun h => ?_) <;> first | exact Zx | (conv => whnf))))
        all_goals exact Zrz
  · have hE : preE ss id c q = stkErr ss := by unfold preE; rw [if_pos e1]
    have hP : preL ss id c q = [] := by unfold preL; rw [hE, if_neg e1]
    rw [hP, hE]
    refine ACalls.of (n := Tryz.f11.ntmps) XX_ok Tryz.func11 rfl (by kernel_rfl) rfl rfl (Nat.le_of_ble_eq_true rfl) ?_
    (repeat' (first | refine Zs ?_ | refine Zk ?_ | ((first | refine Za ?_ | refine Zr ?_ | refine Zp ?_ | refine Ze ?_ | refine Zd ?_ | refine Zn ?_ | refine Zc ?_ | refine UnK.mk (fun b hb => ?_) | refine Zy h1 ?_); conv => whnf) | (refine Zb (fun h => ?_) (fun h => ?_) <;> first | exact Zx | (conv => whnf))))
    all_goals exact Zrz

def ptE (x : Pt) (j : Nat) : D := match j with
  | 0 => .val (.int .i64 x.id)
  | _ => .val (.int .i64 x.q)
abbrev ptD (ps : List Pt) : D := .lst 2 ps.length (rowF ptE ps)
theorem validMethod_t (m : Int) : ACalls XX 71 [iA m] (bA (decide (mOk m))) := by
  refine ACalls.of (n := Tryz.f71.ntmps) XX_ok Tryz.func71 rfl (by kernel_rfl) rfl rfl (Nat.le_of_ble_eq_true rfl) ?_
  (repeat' (first | refine Zs ?_ | refine Zk ?_ | ((first | refine Za ?_ | refine Zr ?_ | refine Zp ?_ | refine Ze ?_ | refine Zd ?_ | refine Zn ?_ | refine Zc ?_ | refine UnK.mk (fun b hb => ?_)); conv => whnf) | (refine Zb (fun h => ?_) (fun h => ?_) <;> first | exact Zx | (conv => whnf))))
  all_goals (repeat' (first | exact trivial | exact Zm | exact Zl | exact ResLe.row0 rfl | exact Zi (by unfold mOk; omega) | exact Zo (h := by unfold mOk; omega) | exact ResLe.bo rfl rfl Iff.rfl | refine ResLe.agg ?_ | refine And.intro ?_ ?_ | ((conv => whnf); first | exact Zl | exact ResLe.row0 rfl | exact Zi (by unfold mOk; omega) | exact Zo (h := by unfold mOk; omega) | exact ResLe.bo rfl rfl Iff.rfl | refine ResLe.agg ?_ | refine And.intro ?_ ?_)))
theorem checkParts_t (ss : List Lt) (q : Int) (ps : List Pt) (m : Int) (hO : StkOk ss) (hP : ps.length ≤ 9223372036854775807) : ACalls XX 47 [.dat (ltD ss), iA q, .dat (ptD ps), iA m] (iA (chkE ss q ps m)) := by
  have h1 := validMethod_t m
  by_cases e1 : ps.length < 2 ∨ 16 < ps.length ∨ ¬ mOk m
  · have hE : chkE ss q ps m = 2 := by unfold chkE; rw [if_pos e1]
    refine ACalls.of (n := Tryz.f47.ntmps) XX_ok Tryz.func47 rfl (by kernel_rfl) rfl rfl (Nat.le_of_ble_eq_true rfl) ?_
    (repeat' (first | refine Zs ?_ | refine Zk ?_ | ((first | refine Za ?_ | refine Zr ?_ | refine Zp ?_ | refine Ze ?_ | refine Zd ?_ | refine Zn ?_ | refine Zc ?_ | refine UnK.mk (fun b hb => ?_) | refine Zy h1 ?_); conv => whnf) | (refine Zb (fun h => ?_) (fun h => ?_) <;> first | exact Zx | (conv => whnf))))
    all_goals first | ((repeat' (first | exact trivial | exact Zm | exact Zl | exact ResLe.row0 rfl | exact Zi (by exact hE.symm) | exact Zo (h := by exact hE.symm) | exact ResLe.bo rfl rfl Iff.rfl | refine ResLe.agg ?_ | refine And.intro ?_ ?_ | ((conv => whnf); first | exact Zl | exact ResLe.row0 rfl | exact Zi (by exact hE.symm) | exact Zo (h := by exact hE.symm) | exact ResLe.bo rfl rfl Iff.rfl | refine ResLe.agg ?_ | refine And.intro ?_ ?_))); done) | skip
    all_goals (exfalso; simp_all; omega)
  have e1' : 2 ≤ ps.length ∧ ps.length ≤ 16 ∧ mOk m := ⟨by omega, by omega, by
    by_cases h : mOk m
    · exact h
    · exact absurd (.inr (.inr h)) e1⟩
  obtain ⟨n1, n2, n3⟩ := e1'
  rw [decide_eq_true n3] at h1
  obtain ⟨F, hF⟩ : ∃ F : Nat → Int, F = fun i => (ps.map Pt.id).getD i 0 := ⟨_, rfl⟩
  have hFk : ∀ k, k < ps.length → F k = (ps.getD k default).id := fun k hk => by rw [hF]; simp [hk]
  have hfull : fillL F ps.length ps.length = ps.map Pt.id := by
    have e := map_getD0 (ps.map Pt.id)
    rw [List.length_map] at e
    rw [fillL_full, hF, e]
  refine ACalls.of (n := Tryz.f47.ntmps) XX_ok Tryz.func47 rfl (by kernel_rfl) rfl rfl (Nat.le_of_ble_eq_true rfl) ?_
  (repeat' (first | refine Zs ?_ | refine Zk ?_ | ((first | refine Za ?_ | refine Zr ?_ | refine Zp ?_ | refine Ze ?_ | refine Zd ?_ | refine Zn ?_ | refine Zc ?_ | refine UnK.mk (fun b hb => ?_) | refine Zy h1 ?_); conv => whnf) | (refine Zb (fun h => ?_) (fun h => ?_) <;> first | exact Zx | (conv => whnf))))
  all_goals (try dsimp only [Int.toNat_natCast] at *)
  refine (W.loopK (ι := Nat) [0, 1, 9, 31, 32] [] (fun k => [(33, iA k), (10, iA (sumP ps k))]) (fun k => [(30, .row 3 1 ps.length (rowF iE (fillL F ps.length k)))]) (fun k => k ≤ ps.length ∧ (∀ i, i < k → idOk (ps.getD i default).id ∧ qOk (ps.getD i default).q) ∧ 0 ≤ sumP ps k ∧ sumP ps k ≤ 1000000000 * k) (fun k => ps.length - k) 0 ⟨Nat.zero_le _, fun i hi => absurd hi (by omega), by simp [sumP], by simp [sumP]⟩ ?_ ?_ ?_)
  · (repeat' (first | exact trivial | exact Yr | exact Yi (by first | rfl | (simp [sumP]; done) | omega) | exact Yo (by first | rfl | (simp [sumP]; done) | omega) | exact Yd | exact Yn | exact Ye (by first | rfl | (simp [sumP]; done) | omega) | exact ⟨_, rfl, Yf, rfl⟩ | refine ⟨_, rfl, Yb ?_, rfl⟩ | refine ⟨_, rfl, Yw (by first | rfl | (simp [sumP]; done) | omega) ?_, rfl⟩ | refine And.intro ?_ ?_))
  · (repeat' (first | exact trivial | exact Yr | exact Yi (by first | rfl | omega) | exact Yo (by first | rfl | omega) | exact Yd | exact Yn | exact Ye (by first | rfl | omega) | exact ⟨_, rfl, Yf, rfl⟩ | refine ⟨_, rfl, Yb ?_, rfl⟩ | refine ⟨_, rfl, Yw (by first | rfl | omega) ?_, rfl⟩ | refine And.intro ?_ ?_))
    exact fill_zero fun i j hj => by obtain rfl : j = 0 := by omega
                                     rfl
  conv => whnf
  intro k ⟨hk, hz, hs0, hs1⟩
  by_cases hk' : k < ps.length
  · have h2 := validID_t (ps.getD k default).id
    have h3 := validQ_t (ps.getD k default).q
    have hs := sumP_succ ps k hk'
    by_cases f : idOk (ps.getD k default).id ∧ qOk (ps.getD k default).q
    · obtain ⟨f1, f2⟩ := f
      rw [decide_eq_true f1] at h2
      rw [decide_eq_true f2] at h3
      have f2' := f2
      unfold qOk at f2'
      (repeat' (first | refine Zs ?_ | refine Zk ?_ | ((first | refine Za ?_ | refine Zr ?_ | refine Zp ?_ | refine Ze ?_ | refine Zd ?_ | refine Zn ?_ | refine Zc ?_ | refine UnK.mk (fun b hb => ?_)); conv => whnf) | (refine Zb (fun h => ?_) (fun h => ?_) <;> first | exact Zx | (conv => whnf))))
      all_goals (try dsimp only [Int.toNat_natCast] at *)
      (repeat' (first | refine Zs ?_ | refine Zk ?_ | ((first | refine Za ?_ | refine Zr ?_ | refine Zp ?_ | refine Ze ?_ | refine Zd ?_ | refine Zn ?_ | refine Zc ?_ | refine UnK.mk (fun b hb => ?_) | refine Zy h2 ?_ | refine Zy h3 ?_); conv => whnf) | (refine Zb (fun h => ?_) (fun h => ?_) <;> first | exact Zx | (conv => whnf))))
      refine ⟨k + 1, ⟨by omega, fun i hi => ?_, by omega, by omega⟩, by omega, ?_, ?_, ?_, ?_⟩
      · by_cases hik : i = k
        · subst hik; exact ⟨f1, f2⟩
        · exact hz i (by omega)
      all_goals (repeat' (first | exact trivial | exact Yr | exact Yi (by first | rfl | omega) | exact Yo (by first | rfl | omega) | exact Yd | exact Yn | exact Ye (by first | rfl | omega) | exact ⟨_, rfl, Yf, rfl⟩ | refine ⟨_, rfl, Yb ?_, rfl⟩ | refine ⟨_, rfl, Yw (by first | rfl | omega) ?_, rfl⟩ | refine And.intro ?_ ?_))
      simp only [Nat.zero_add, Int.toNat_natCast]
      exact fill_row (hFk k hk').symm
    · have hE : chkE ss q ps m = 2 := by unfold chkE; rw [if_neg e1, if_pos fun ha => f (ha _ (getD_in hk'))]
      (repeat' (first | refine Zs ?_ | refine Zk ?_ | ((first | refine Za ?_ | refine Zr ?_ | refine Zp ?_ | refine Ze ?_ | refine Zd ?_ | refine Zn ?_ | refine Zc ?_ | refine UnK.mk (fun b hb => ?_)); conv => whnf) | (refine Zb (fun h => ?_) (fun h => ?_) <;> first | exact Zx | (conv => whnf))))
      all_goals (try dsimp only [Int.toNat_natCast] at *)
      (repeat' (first | refine Zs ?_ | refine Zk ?_ | ((first | refine Za ?_ | refine Zr ?_ | refine Zp ?_ | refine Ze ?_ | refine Zd ?_ | refine Zn ?_ | refine Zc ?_ | refine UnK.mk (fun b hb => ?_) | refine Zy h2 ?_ | refine Zy h3 ?_); conv => whnf) | (refine Zb (fun h => ?_) (fun h => ?_) <;> first | exact Zx | (conv => whnf))))
      all_goals first | ((repeat' (first | exact trivial | exact Zm | exact Zl | exact ResLe.row0 rfl | exact Zi (by exact hE.symm) | exact Zo (h := by exact hE.symm) | exact ResLe.bo rfl rfl Iff.rfl | refine ResLe.agg ?_ | refine And.intro ?_ ?_ | ((conv => whnf); first | exact Zl | exact ResLe.row0 rfl | exact Zi (by exact hE.symm) | exact Zo (h := by exact hE.symm) | exact ResLe.bo rfl rfl Iff.rfl | refine ResLe.agg ?_ | refine And.intro ?_ ?_))); done) | skip
      all_goals (exfalso; simp_all)
  obtain rfl : k = ps.length := by omega
  have hA : ∀ p ∈ ps, idOk p.id ∧ qOk p.q := all_getD.2 hz
  have hlm : (ps.map Pt.id).length = ps.length := List.length_map ..
  have hT := twice_t (ps.map Pt.id) (by rw [hlm]; omega)
  rw [hfull]
  have hT' : ACalls XX 49 [.dat (.lst 1 ps.length (rowF iE (ps.map Pt.id)))] (bA (decide (twiceP (ps.map Pt.id)))) := hT.args1 (AVle.dat (Dle.lst hlm.symm fun _ _ _ _ => Dle.refl _))
  (repeat' (first | refine Zs ?_ | refine Zk ?_ | ((first | refine Za ?_ | refine Zr ?_ | refine Zp ?_ | refine Ze ?_ | refine Zd ?_ | refine Zn ?_ | refine Zc ?_ | refine UnK.mk (fun b hb => ?_)); conv => whnf) | (refine Zb (fun h => ?_) (fun h => ?_) <;> first | exact Zx | (conv => whnf))))
  refine ExCall.pub 30 rfl ?_
  conv => whnf
  (repeat' (first | refine Zs ?_ | refine Zk ?_ | ((first | refine Za ?_ | refine Zr ?_ | refine Zp ?_ | refine Ze ?_ | refine Zd ?_ | refine Zn ?_ | refine Zc ?_ | refine UnK.mk (fun b hb => ?_) | refine Zq (hT') ?_); conv => whnf) | (refine Zb (fun h => ?_) (fun h => ?_) <;> first | exact Zx | (conv => whnf))))
  · have hE : chkE ss q ps m = 13 := by unfold chkE; rw [if_neg e1, if_neg (by simpa using hA), if_pos (by simp_all)]
    (repeat' (first | exact trivial | exact Zm | exact Zl | exact ResLe.row0 rfl | exact Zi (by exact hE.symm) | exact Zo (h := by exact hE.symm) | exact ResLe.bo rfl rfl Iff.rfl | refine ResLe.agg ?_ | refine And.intro ?_ ?_ | ((conv => whnf); first | exact Zl | exact ResLe.row0 rfl | exact Zi (by exact hE.symm) | exact Zo (h := by exact hE.symm) | exact ResLe.bo rfl rfl Iff.rfl | refine ResLe.agg ?_ | refine And.intro ?_ ?_)))
  have hT2 : ¬ twiceP (ps.map Pt.id) := by simp_all
  refine (W.loopK (ι := Nat) [0, 1, 10, 60, 61] [30] (fun k => [(62, iA k)]) (fun _ => []) (fun k => k ≤ ps.length ∧ ∀ i, i < k → ¬ takenP ss (ps.getD i default).id) (fun k => ps.length - k) 0 ⟨Nat.zero_le _, fun i hi => absurd hi (by omega)⟩ ?_ ?_ ?_)
  · exact Yz
  · exact Yz
  conv => whnf
  intro k ⟨hk, hy⟩
  by_cases hk' : k < ps.length
  · have hid : (ps.map Pt.id).getD k default = (ps.getD k default).id := by simp [hk']
    have hc := taken_t ss ((ps.map Pt.id).getD k default) (by have := hO.len; omega) (fun x hx => by have := hO.us x hx; omega)
    (repeat' (first | refine Zs ?_ | refine Zk ?_ | ((first | refine Za ?_ | refine Zr ?_ | refine Zp ?_ | refine Ze ?_ | refine Zd ?_ | refine Zn ?_ | refine Zc ?_ | refine UnK.mk (fun b hb => ?_)); conv => whnf) | (refine Zb (fun h => ?_) (fun h => ?_) <;> first | exact Zx | (conv => whnf))))
    all_goals (try simp only [Int.toNat_natCast, Nat.zero_add] at *)
    (repeat' (first | refine Zs ?_ | refine Zk ?_ | ((first | refine Za ?_ | refine Zr ?_ | refine Zp ?_ | refine Ze ?_ | refine Zd ?_ | refine Zn ?_ | refine Zc ?_ | refine UnK.mk (fun b hb => ?_) | refine Zy hc ?_); conv => whnf) | (refine Zb (fun h => ?_) (fun h => ?_) <;> first | exact Zx | (conv => whnf))))
    · have hE : chkE ss q ps m = 13 := by
        unfold chkE
        rw [if_neg e1, if_neg (by simpa using hA), if_neg hT2, if_pos ⟨_, getD_in hk', by rw [← hid]; simp_all⟩]
      (repeat' (first | exact trivial | exact Zm | exact Zl | exact ResLe.row0 rfl | exact Zi (by exact hE.symm) | exact Zo (h := by exact hE.symm) | exact ResLe.bo rfl rfl Iff.rfl | refine ResLe.agg ?_ | refine And.intro ?_ ?_ | ((conv => whnf); first | exact Zl | exact ResLe.row0 rfl | exact Zi (by exact hE.symm) | exact Zo (h := by exact hE.symm) | exact ResLe.bo rfl rfl Iff.rfl | refine ResLe.agg ?_ | refine And.intro ?_ ?_)))
    · refine ⟨k + 1, ⟨by omega, fun i hi => ?_⟩, by omega, ?_, ?_, ?_, ?_⟩
      · by_cases hik : i = k
        · subst hik; rw [← hid]; simp_all
        · exact hy i (by omega)
      all_goals exact Yz
  have hN : ¬ ∃ p ∈ ps, takenP ss p.id := fun ⟨p, hp, h⟩ => by
    obtain ⟨i, hi, rfl⟩ := List.getElem_of_mem hp
    have := hy i (by omega)
    rw [getD_of hi] at this
    exact this h
  have hE : chkE ss q ps m = if sumP ps ps.length ≠ q then 14 else 0 := by unfold chkE; rw [if_neg e1, if_neg (by simpa using hA), if_neg hT2, if_neg hN]
  rw [hE]
  (repeat' (first | refine Zs ?_ | refine Zk ?_ | ((first | refine Za ?_ | refine Zr ?_ | refine Zp ?_ | refine Ze ?_ | refine Zd ?_ | refine Zn ?_ | refine Zc ?_ | refine UnK.mk (fun b hb => ?_)); conv => whnf) | (refine Zb (fun h => ?_) (fun h => ?_) <;> first | exact Zx | (conv => whnf))))
  all_goals first | ((repeat' (first | exact trivial | exact Zm | exact Zl | exact ResLe.row0 rfl | exact Zi (by rw [if_pos (by assumption)]) | exact Zo (h := by rw [if_pos (by assumption)]) | exact ResLe.bo rfl rfl Iff.rfl | refine ResLe.agg ?_ | refine And.intro ?_ ?_ | ((conv => whnf); first | exact Zl | exact ResLe.row0 rfl | exact Zi (by rw [if_pos (by assumption)]) | exact Zo (h := by rw [if_pos (by assumption)]) | exact ResLe.bo rfl rfl Iff.rfl | refine ResLe.agg ?_ | refine And.intro ?_ ?_))); done) | ((repeat' (first | exact trivial | exact Zm | exact Zl | exact ResLe.row0 rfl | exact Zi (by rw [if_neg (by assumption)]) | exact Zo (h := by rw [if_neg (by assumption)]) | exact ResLe.bo rfl rfl Iff.rfl | refine ResLe.agg ?_ | refine And.intro ?_ ?_ | ((conv => whnf); first | exact Zl | exact ResLe.row0 rfl | exact Zi (by rw [if_neg (by assumption)]) | exact Zo (h := by rw [if_neg (by assumption)]) | exact ResLe.bo rfl rfl Iff.rfl | refine ResLe.agg ?_ | refine And.intro ?_ ?_))); done) | (repeat' (first | exact trivial | exact Zm | exact Zl | exact ResLe.row0 rfl | exact Zi (by rw [if_neg (by omega)]) | exact Zo (h := by rw [if_neg (by omega)]) | exact ResLe.bo rfl rfl Iff.rfl | refine ResLe.agg ?_ | refine And.intro ?_ ?_ | ((conv => whnf); first | exact Zl | exact ResLe.row0 rfl | exact Zi (by rw [if_neg (by omega)]) | exact Zo (h := by rw [if_neg (by omega)]) | exact ResLe.bo rfl rfl Iff.rfl | refine ResLe.agg ?_ | refine And.intro ?_ ?_)))

def DivOk (m : Int) : Prop := ∀ (us : List Sl) (u : Int), (∀ y ∈ us, slOk y) → us.length ≤ 64 → 0 ≤ u ∧ u ≤ cnt us → ACalls XX 74 [.dat (slD us), iA u, iA m] (.tup [.dat (slD (divA m us u)), .dat (slD (divB m us u))])
theorem divOk1 : DivOk 1 := fun us u hv hL hu => by
  have hc := cntOk hv (by omega)
  exact divF_t us u hv (by omega) (by omega)
theorem divOk2 : DivOk 2 := fun us u hv hL hu => divL_t us u hv (by omega) hu
theorem divided_t (x : Lt) (ps : List Pt) (m : Int) (hd : DivOk m) (hP : PtsOk x ps) : ACalls XX 48 [ltA x, .dat (ptD ps), iA m] (.dat (ltD (partsP m x ps ps.length))) := by
  have h1 := count_t x.us hP.us (by have := hP.len; omega)
  have hcn := cntOk hP.us (by have := hP.len; omega)
  have hq := hP.q
  have hn := hP.n
  refine ACalls.of (n := Tryz.f48.ntmps) XX_ok Tryz.func48 rfl (by kernel_rfl) rfl rfl (Nat.le_of_ble_eq_true rfl) ?_
  (repeat' (first | refine Zs ?_ | refine Zk ?_ | ((first | refine Za ?_ | refine Zr ?_ | refine Zp ?_ | refine Ze ?_ | refine Zd ?_ | refine Zn ?_ | refine Zc ?_ | refine UnK.mk (fun b hb => ?_) | refine Zy h1 ?_); conv => whnf) | (refine Zb (fun h => ?_) (fun h => ?_) <;> first | exact Zx | (conv => whnf))))
  refine (W.adopt 11 68 26 5 (rowF ltE []) rfl rfl rfl rfl ?_)
  conv => whnf
  refine (W.loopK (ι := Nat) [2, 3, 7, 23, 24] [3] (fun k => [(25, iA k), (9, iA (sumP ps k)), (10, iA (bdP x ps k)), (8, .dat (slD (restP m x ps k))), (11, .own 68 5 0 (partsP m x ps k).length)]) (fun k => [(68, .row 26 5 (partsP m x ps k).length (rowF ltE (partsP m x ps k)))]) (fun k => k ≤ ps.length) (fun k => ps.length - k) 0 (Nat.zero_le _) ?_ ?_ ?_)
  · (repeat' (first | exact trivial | exact Yr | exact Yi (by first | rfl | (simp [sumP, bdP]; done) | omega) | exact Yo (by first | rfl | (simp [sumP, bdP]; done) | omega) | exact Yd | exact Yn | exact Ye (by first | rfl | (simp [sumP, bdP]; done) | omega) | exact ⟨_, rfl, Yf, rfl⟩ | refine ⟨_, rfl, Yb ?_, rfl⟩ | refine ⟨_, rfl, Yw (by first | rfl | (simp [sumP, bdP]; done) | omega) ?_, rfl⟩ | refine And.intro ?_ ?_))
  · exact Yz
  conv => whnf
  intro k hk
  have hr := sumP_rng hP k hk
  have hb := bdP_rng hP k hk
  have hl := partsP_len m x ps k
  by_cases hk' : k < ps.length
  · have hs := sumP_succ ps k hk'
    have hr1 := sumP_rng hP (k + 1) hk'
    have hb1 := bdP_rng hP (k + 1) hk'
    have hM := mulDiv_t (cnt x.us) (sumP ps (k + 1)) x.q (by omega) (by omega) (by omega) (by have := hb1.2; unfold bdP at this; omega)
    have hbe : cnt x.us * sumP ps (k + 1) / x.q = bdP x ps (k + 1) := rfl
    rw [hbe, hs] at hM
    obtain ⟨_, o2, o3⟩ := restP_ok (m := m) hP k hk
    have hD := hd (restP m x ps k) (bdP x ps (k + 1) - bdP x ps k) o2 o3 (partP_rng hP k hk')
    have hp2 := partP_rng (m := m) hP k hk'
    (repeat' (first | refine Zs ?_ | refine Zk ?_ | ((first | refine Za ?_ | refine Zr ?_ | refine Zp ?_ | refine Ze ?_ | refine Zd ?_ | refine Zn ?_ | refine Zc ?_ | refine UnK.mk (fun b hb => ?_)); conv => whnf) | (refine Zb (fun h => ?_) (fun h => ?_) <;> first | exact Zx | (conv => whnf))))
    all_goals (try dsimp only [Int.toNat_natCast] at *)
    (repeat' (first | refine Zs ?_ | refine Zk ?_ | ((first | refine Za ?_ | refine Zr ?_ | refine Zp ?_ | refine Ze ?_ | refine Zd ?_ | refine Zn ?_ | refine Zc ?_ | refine UnK.mk (fun b hb => ?_) | refine Zy hM ?_ | refine Zy hD ?_); conv => whnf) | (refine Zb (fun h => ?_) (fun h => ?_) <;> first | exact Zx | (conv => whnf))))
    have hl1 : (partsP m x ps k).length + 1 = (partsP m x ps (k + 1)).length := by rw [partsP_len, partsP_len]
    refine ⟨k + 1, by omega, by omega, ?_, ?_, ?_, ?_⟩
    all_goals (repeat' (first | exact trivial | exact Yr | exact Yi (by first | rfl | exact hs.symm | exact hl1 | omega) | exact Yo (by first | rfl | exact hs.symm | exact hl1 | omega) | exact Yd | exact Yn | exact Ye (by first | rfl | exact hs.symm | exact hl1 | omega) | exact ⟨_, rfl, Yf, rfl⟩ | refine ⟨_, rfl, Yb ?_, rfl⟩ | refine ⟨_, rfl, Yw (by first | rfl | exact hs.symm | exact hl1 | omega) ?_, rfl⟩ | refine And.intro ?_ ?_))
    rw [partsP_succ]
    refine rowF_snoc (us := partsP m x ps k) (x := partP m x ps k) rfl fun j hj => ?_
    rcases j with _ | _ | _ | _ | _ | j
    all_goals first | exact Dle.refl _ | omega
  · obtain rfl : k = ps.length := by omega
    (repeat' (first | refine Zs ?_ | refine Zk ?_ | ((first | refine Za ?_ | refine Zr ?_ | refine Zp ?_ | refine Ze ?_ | refine Zd ?_ | refine Zn ?_ | refine Zc ?_ | refine UnK.mk (fun b hb => ?_)); conv => whnf) | (refine Zb (fun h => ?_) (fun h => ?_) <;> first | exact Zx | (conv => whnf))))
    all_goals exact Zrz

theorem findV_mem {ss : List Lt} {id : Int} (h : hasI ss id) : findV ss id ∈ ss ∧ (findV ss id).id = id := by
  obtain ⟨x, hx, he⟩ := h
  unfold findV
  cases hf : ss.find? (fun x => decide (x.id = id)) with
  | none => exact absurd he (by have := List.find?_eq_none.1 hf x hx; simpa using this)
  | some y => exact ⟨List.mem_of_find?_eq_some hf, by have := List.find?_some hf; simpa using this⟩
theorem split_t (ss : List Lt) (id : Int) (ps : List Pt) (m : Int) (hL : ss.length ≤ 9223372036854775807) (hP : ps.length ≤ 9223372036854775807) (hd : mOk m → DivOk m) : ACalls XX 23 [.dat (ltD ss), iA id, .dat (ptD ps), iA m] (.tup [.dat (ltD (splL ss id ps m)), iA (splE ss id ps m)]) := by
  have h1 := validate_t ss hL
  have hS : splL ss id ps m = if splE ss id ps m = 0 then replL ss [id] (partsP m (findV ss id) ps ps.length) else [] := rfl
  by_cases e1 : stkErr ss = 0
  · have hO := stkErr_ok e1
    have hlen := hO.len
    have h2 := find_t ss id (by omega) (fun x hx => by have := hO.us x hx; omega)
    rw [e1] at h1
    by_cases e2 : hasI ss id
    · obtain ⟨m1, m2⟩ := findV_mem e2
      rw [decide_eq_true e2] at h2
      have h3 := atRest_t (findV ss id).p
      by_cases e3 : rests (findV ss id).p
      · rw [decide_eq_true e3] at h3
        have h4 := checkParts_t ss (findV ss id).q ps m hO hP
        by_cases e4 : chkE ss (findV ss id).q ps m = 0
        · rw [e4] at h4
          have hE : splE ss id ps m = if 64 < ss.length - 1 + ps.length then 8 else 0 := by unfold splE; rw [if_neg (by simpa using e1), if_neg (by simpa using e2), if_neg (by simpa using e3), if_neg (by simpa using e4)]
          have hC := e4
          unfold chkE at hC
          split at hC
          · contradiction
          rename_i c1
          split at hC
          · contradiction
          rename_i c2
          split at hC
          · contradiction
          split at hC
          · contradiction
          split at hC
          · contradiction
          rename_i c5
          have c2 := Decidable.not_not.1 c2
          have c5 := Decidable.not_not.1 c5
          have hm : mOk m := by
            by_cases h : mOk m
            · exact h
            · exact absurd (.inr (.inr h)) c1
          have hpl : 2 ≤ ps.length ∧ ps.length ≤ 16 := by
            constructor
            · rcases Nat.lt_or_ge ps.length 2 with h | h
              · exact absurd (.inl h) c1
              · exact h
            · rcases Nat.lt_or_ge 16 ps.length with h | h
              · exact absurd (.inr (.inl h)) c1
              · exact h
          have hx := hO.ok _ m1
          have hxl := hO.us _ m1
          have hPt : PtsOk (findV ss id) ps := ⟨hx.2.2.1, hx.2.2.2.2, hxl, fun p hp => (c2 p hp).2, hpl.2, c5⟩
          have h5 := divided_t (findV ss id) ps m (hd hm) hPt
          by_cases e5 : 64 < ss.length - 1 + ps.length
          · rw [if_pos e5] at hE
            rw [hE, if_neg (by omega)] at hS
            rw [hS, hE]
            refine ACalls.of (n := Tryz.f23.ntmps) XX_ok Tryz.func23 rfl (by kernel_rfl) rfl rfl (Nat.le_of_ble_eq_true rfl) ?_
            (repeat' (first | refine Zs ?_ | refine Zk ?_ | ((first | refine Za ?_ | refine Zr ?_ | refine Zp ?_ | refine Ze ?_ | refine Zd ?_ | refine Zn ?_ | refine Zc ?_ | refine UnK.mk (fun b hb => ?_) | refine Zy h1 ?_ | refine Zy h2 ?_ | refine Zy h3 ?_ | refine Zy h4 ?_); conv => whnf) | (refine Zb (fun h => ?_) (fun h => ?_) <;> first | exact Zx | (conv => whnf))))
            all_goals exact Zrz
          · rw [if_neg e5] at hE
            rw [hE, if_pos rfl] at hS
            rw [hS, hE]
            have h6 := (replace_t ss [id] (partsP m (findV ss id) ps ps.length) (by omega) (by rw [partsP_len]; omega) (by simp) (fun x hx => by have := hO.us x hx; omega) (fun y hy => by
              unfold partsP at hy
              obtain ⟨k, hk, rfl⟩ := List.mem_map.1 hy
              have hk := List.mem_range.1 hk
              obtain ⟨_, o2, o3⟩ := restP_ok (m := m) hPt k (by omega)
              have := (divR (m := m) o2 (partP_rng hPt k hk)).lA
              unfold partP
              show (divA m _ _).length ≤ _
              omega)).args3 (AVle.refl _) (one_int id) (AVle.refl _)
            refine ACalls.of (n := Tryz.f23.ntmps) XX_ok Tryz.func23 rfl (by kernel_rfl) rfl rfl (Nat.le_of_ble_eq_true rfl) ?_
            refine W.pb [49] ?_
            (repeat' (first | refine Zs ?_ | refine Zk ?_ | ((first | refine Za ?_ | refine Zr ?_ | refine Zp ?_ | refine Ze ?_ | refine Zd ?_ | refine Zn ?_ | refine Zc ?_ | refine UnK.mk (fun b hb => ?_) | refine Zy (ACalls.at (h1)) ?_ | refine Zy (ACalls.at (h2)) ?_ | refine Zy (ACalls.at (h3)) ?_ | refine Zy (ACalls.at (h4)) ?_ | refine Zy (ACalls.at (h5)) ?_ | refine Zy (ACalls.at (h6)) ?_); conv => whnf) | (refine Zb (fun h => ?_) (fun h => ?_) <;> first | exact Zx | (conv => whnf))))
            all_goals exact Zrz
        · have hE : splE ss id ps m = chkE ss (findV ss id).q ps m := by unfold splE; rw [if_neg (by simpa using e1), if_neg (by simpa using e2), if_neg (by simpa using e3), if_pos e4]
          rw [hE, if_neg e4] at hS
          rw [hS, hE]
          refine ACalls.of (n := Tryz.f23.ntmps) XX_ok Tryz.func23 rfl (by kernel_rfl) rfl rfl (Nat.le_of_ble_eq_true rfl) ?_
          (repeat' (first | refine Zs ?_ | refine Zk ?_ | ((first | refine Za ?_ | refine Zr ?_ | refine Zp ?_ | refine Ze ?_ | refine Zd ?_ | refine Zn ?_ | refine Zc ?_ | refine UnK.mk (fun b hb => ?_) | refine Zy h1 ?_ | refine Zy h2 ?_ | refine Zy h3 ?_ | refine Zy h4 ?_); conv => whnf) | (refine Zb (fun h => ?_) (fun h => ?_) <;> first | exact Zx | (conv => whnf))))
          all_goals exact Zrz
      · rw [decide_eq_false e3] at h3
        have hE : splE ss id ps m = 17 := by unfold splE; rw [if_neg (by simpa using e1), if_neg (by simpa using e2), if_pos e3]
        rw [hE, if_neg (by omega)] at hS
        rw [hS, hE]
        refine ACalls.of (n := Tryz.f23.ntmps) XX_ok Tryz.func23 rfl (by kernel_rfl) rfl rfl (Nat.le_of_ble_eq_true rfl) ?_
        (repeat' (first | refine Zs ?_ | refine Zk ?_ | ((first | refine Za ?_ | refine Zr ?_ | refine Zp ?_ | refine Ze ?_ | refine Zd ?_ | refine Zn ?_ | refine Zc ?_ | refine UnK.mk (fun b hb => ?_) | refine Zy h1 ?_ | refine Zy h2 ?_ | refine Zy h3 ?_); conv => whnf) | (refine Zb (fun h => ?_) (fun h => ?_) <;> first | exact Zx | (conv => whnf))))
        all_goals exact Zrz
    · rw [decide_eq_false e2] at h2
      have hE : splE ss id ps m = 6 := by unfold splE; rw [if_neg (by simpa using e1), if_pos e2]
      rw [hE, if_neg (by omega)] at hS
      rw [hS, hE]
      refine ACalls.of (n := Tryz.f23.ntmps) XX_ok Tryz.func23 rfl (by kernel_rfl) rfl rfl (Nat.le_of_ble_eq_true rfl) ?_
      (repeat' (first | refine Zs ?_ | refine Zk ?_ | ((first | refine Za ?_ | refine Zr ?_ | refine Zp ?_ | refine Ze ?_ | refine Zd ?_ | refine Zn ?_ | refine Zc ?_ | refine UnK.mk (fun b hb => ?_) | refine Zy h1 ?_ | refine Zy h2 ?_); conv => whnf) | (refine Zb (fun h => ?_) (fun h => ?_) <;> first | exact Zx | (conv => whnf))))
      all_goals exact Zrz
  · have hE : splE ss id ps m = stkErr ss := by unfold splE; rw [if_pos e1]
    rw [hE, if_neg e1] at hS
    rw [hS, hE]
    refine ACalls.of (n := Tryz.f23.ntmps) XX_ok Tryz.func23 rfl (by kernel_rfl) rfl rfl (Nat.le_of_ble_eq_true rfl) ?_
    (repeat' (first | refine Zs ?_ | refine Zk ?_ | ((first | refine Za ?_ | refine Zr ?_ | refine Zp ?_ | refine Ze ?_ | refine Zd ?_ | refine Zn ?_ | refine Zc ?_ | refine UnK.mk (fun b hb => ?_) | refine Zy h1 ?_); conv => whnf) | (refine Zb (fun h => ?_) (fun h => ?_) <;> first | exact Zx | (conv => whnf))))
    all_goals exact Zrz

end Go.Proofs.YtojkeidijdcfoaaGreatDoor
