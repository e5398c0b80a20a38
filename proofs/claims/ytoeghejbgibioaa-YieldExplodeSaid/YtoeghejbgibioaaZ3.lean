/- Yields: the recipes are visited. -/
import Derived.Test.YtoeghejbgibioaaZ2
namespace Go.Proofs.Ytoeghejbgibioaa
open Go Go.RowKit
set_option linter.unusedVariables false
set_option linter.unusedSimpArgs false
set_option maxRecDepth 100000
set_option maxHeartbeats 4000000
attribute [local irreducible] ResLe AVle ArgLe ArgP EntLe Dle ResH ArgQ strEq strLt

theorem ygetD_of {α : Type} [Inhabited α] {us : List α} {k : Nat} (h : k < us.length) : us.getD k default = us[k] := by
  rw [List.getD_eq_getElem?_getD, List.getElem?_eq_getElem h]; rfl
noncomputable abbrev visH (rs : List Rc) (st od : List Int) : List (Nat × Ent) :=
  [(5000, .blk 68 [.mp 5005]), (5005, .mp XX.P 9 3 (mkT rs rs.length)), (5001, .blk 22 [.own 5006 1 0 rs.length]), (5006, .row 3 1 rs.length (rowF iE st)), (5002, .blk 36 [.dat (rcD rs)]),
   (5003, .blk 70 [.clo 53 [.ptr 5000 0, .ptr 5001 0, .ptr 5002 0, .ptr 5003 0, .ptr 5004 0]]), (5004, .blk 22 [.own 1000000 1 0 od.length]), (1000000, .row 3 1 od.length (rowF iE od))]
theorem visit_h (rs : List Rc) (h : rcsOk rs) : ∀ (m : Nat) (c : ByteArray) (st od : List Int), VG rs.length (st, od) → fresh st < m → c.size ≤ 1000 → od.length + fresh st ≤ 100 →
    HC XX 53 [sY c, .ptr 5000 0, .ptr 5001 0, .ptr 5002 0, .ptr 5003 0, .ptr 5004 0] (visH rs st od) (bA (visF rs m c (st, od)).1) (visH rs (visF rs m c (st, od)).2.1 (visF rs m c (st, od)).2.2) (some 1000000)
  | 0, _, _, _, _, hf, _, _ => absurd hf (by omega)
  | m + 1, c, st, od, hg, hf, hc, ho => by
    have ih := visit_h rs h m
    have hm : (1000 : Nat) ≤ maxLen := by decide
    have h32 := h.1
    have s1 : c.size ≤ maxLen := by omega
    have hhas := mkT_has rs c rs.length (Nat.le_refl _)
    have hget := mkT_get rs c rs.length (Nat.le_refl _)
    by_cases hk : mk rs c < rs.length
    rotate_left
    · have e : visF rs (m + 1) c (st, od) = (true, (st, od)) := by unfold visF; rw [if_pos (.inl hk)]
      rw [e]
      dsimp only
      rw [decide_eq_false hk] at hhas
      refine HC.of (n := Try.f53.ntmps) XX_ok Try.func53 rfl (by kernel_rfl) rfl rfl (Nat.le_of_ble_eq_true rfl) rfl rfl ?_
      (repeat' (first | refine Zs ?_ | refine Zk ?_ | ((first | refine Za ?_ | refine Zr ?_ | refine Zp ?_ | refine Ze ?_ | refine Zd ?_ | refine Zn ?_ | refine Zc ?_ | refine UnK.mk (fun b hb => ?_) | refine Zc ?_ ⟨rfl, rfl, rfl, s1⟩); conv => whnf) | (refine Zb (fun h => ?_) (fun h => ?_) <;> first | exact Zx | (conv => whnf))))
      all_goals first | (exfalso; rw [hhas] at h; cases h; done) | ((conv => whnf); (repeat' (first | exact trivial | exact AVle.refl _ | exact EntLe.refl _ | exact AVle.int (by first | rfl | omega) | exact ResH.same (AVle.refl _) | exact ResH.same (AVle.own (by first | rfl | omega)) | exact ResH.same (AVle.int (by first | rfl | omega)) | exact ResH.same (AVle.bool (by simp only [decide_eq_true_eq, decide_eq_false_iff_not, decide_eq_decide]; first | rfl | omega)) | exact ResH.same (AVle.tt_ (by simp only [decide_eq_true_eq, decide_eq_false_iff_not, decide_eq_decide]; first | rfl | omega)) | exact ResH.same (AVle.ff_ (by simp only [decide_eq_true_eq, decide_eq_false_iff_not, decide_eq_decide]; first | rfl | omega)) | exact ResH.same (AVle.tt_ rfl) | exact ResH.same (AVle.ff_ rfl) | refine ResH.agg ?_ | exact ⟨_, rfl, EntLe.refl _, rfl⟩ | refine ⟨_, rfl, EntLe.blk ?_, rfl⟩ | refine ⟨_, rfl, EntLe.row (by first | rfl | omega) ?_, rfl⟩ | refine And.intro ?_ ?_ | ((conv => whnf); first | exact ResH.same (AVle.refl _) | exact ResH.same (AVle.own (by first | rfl | omega)) | exact ResH.same (AVle.int (by first | rfl | omega)) | exact ResH.same (AVle.bool (by simp only [decide_eq_true_eq, decide_eq_false_iff_not, decide_eq_decide]; first | rfl | omega)) | exact ResH.same (AVle.tt_ (by simp only [decide_eq_true_eq, decide_eq_false_iff_not, decide_eq_decide]; first | rfl | omega)) | exact ResH.same (AVle.ff_ (by simp only [decide_eq_true_eq, decide_eq_false_iff_not, decide_eq_decide]; first | rfl | omega)) | exact ResH.same (AVle.tt_ rfl) | exact ResH.same (AVle.ff_ rfl) | refine ResH.agg ?_))); done)
    rw [decide_eq_true hk] at hhas
    rw [if_pos hk] at hget
    have hkl : mk rs c < st.length := by have := hg.1; simp only at this; omega
    have hst := hg.2 (mk rs c)
    simp only at hst
    have eF : visF rs (m + 1) c (st, od) = if ¬ mk rs c < rs.length ∨ st.getD (mk rs c) 0 = 2 then (true, (st, od)) else if st.getD (mk rs c) 0 = 1 then (false, (st, od)) else match visL (visF rs m) (rs.getD (mk rs c) default).ins (st.set (mk rs c) 1, od) with
      | (true, s') => (true, (s'.1.set (mk rs c) 2, s'.2 ++ [(mk rs c : Int)]))
      | (false, s') => (false, s') := rfl
    obtain ⟨a1, a2, -, -⟩ := h.at hk
    have g1 := hg.set (mk rs c) (v := 1) (.inl rfl) od
    generalize mk rs c = k at *
    have e0 : st.getD (0 + k) default = st.getD k 0 := by rw [Nat.zero_add]; rfl
    rcases hst with hv | hv | hv
    rotate_left
    · rw [hv, if_neg (by omega), if_pos rfl] at eF
      rw [eF]
      dsimp only
      rw [hv] at e0
      refine HC.of (n := Try.f53.ntmps) XX_ok Try.func53 rfl (by kernel_rfl) rfl rfl (Nat.le_of_ble_eq_true rfl) rfl rfl ?_
      (repeat' (first | refine Zs ?_ | refine Zk ?_ | ((first | refine Zas 2 ?_ | refine Zr ?_ | refine Zp ?_ | refine Ze ?_ | refine Zd ?_ | refine Zn ?_ | refine Zc ?_ | refine UnK.mk (fun b hb => ?_) | refine Zc ?_ ⟨rfl, rfl, rfl, s1⟩); conv => whnf) | (refine Zb (fun h => ?_) (fun h => ?_) <;> first | exact Zx | (conv => whnf))))
      all_goals (conv => whnf)
      rw [hget, hhas]
      (repeat' (first | refine Zs ?_ | refine Zk ?_ | ((first | refine Za ?_ | refine Zr ?_ | refine Zp ?_ | refine Ze ?_ | refine Zd ?_ | refine Zn ?_ | refine Zc ?_ | refine UnK.mk (fun b hb => ?_)); conv => whnf) | (refine Zb (fun h => ?_) (fun h => ?_) <;> first | exact Zx | (conv => whnf))))
      all_goals (try dsimp only [Int.toNat_natCast] at *)
      (repeat' (first | refine Zs ?_ | refine Zk ?_ | ((first | refine Za ?_ | refine Zr ?_ | refine Zp ?_ | refine Ze ?_ | refine Zd ?_ | refine Zn ?_ | refine Zc ?_ | refine UnK.mk (fun b hb => ?_)); conv => whnf) | (refine Zb (fun h => ?_) (fun h => ?_) <;> first | exact Zx | (conv => whnf))))
      all_goals first | (exfalso; omega) | ((conv => whnf); (repeat' (first | exact trivial | exact AVle.refl _ | exact EntLe.refl _ | exact AVle.int (by first | rfl | omega) | exact ResH.same (AVle.refl _) | exact ResH.same (AVle.own (by first | rfl | omega)) | exact ResH.same (AVle.int (by first | rfl | omega)) | exact ResH.same (AVle.bool (by simp only [decide_eq_true_eq, decide_eq_false_iff_not, decide_eq_decide]; first | rfl | omega)) | exact ResH.same (AVle.tt_ (by simp only [decide_eq_true_eq, decide_eq_false_iff_not, decide_eq_decide]; first | rfl | omega)) | exact ResH.same (AVle.ff_ (by simp only [decide_eq_true_eq, decide_eq_false_iff_not, decide_eq_decide]; first | rfl | omega)) | exact ResH.same (AVle.tt_ rfl) | exact ResH.same (AVle.ff_ rfl) | refine ResH.agg ?_ | exact ⟨_, rfl, EntLe.refl _, rfl⟩ | refine ⟨_, rfl, EntLe.blk ?_, rfl⟩ | refine ⟨_, rfl, EntLe.row (by first | rfl | omega) ?_, rfl⟩ | refine And.intro ?_ ?_ | ((conv => whnf); first | exact ResH.same (AVle.refl _) | exact ResH.same (AVle.own (by first | rfl | omega)) | exact ResH.same (AVle.int (by first | rfl | omega)) | exact ResH.same (AVle.bool (by simp only [decide_eq_true_eq, decide_eq_false_iff_not, decide_eq_decide]; first | rfl | omega)) | exact ResH.same (AVle.tt_ (by simp only [decide_eq_true_eq, decide_eq_false_iff_not, decide_eq_decide]; first | rfl | omega)) | exact ResH.same (AVle.ff_ (by simp only [decide_eq_true_eq, decide_eq_false_iff_not, decide_eq_decide]; first | rfl | omega)) | exact ResH.same (AVle.tt_ rfl) | exact ResH.same (AVle.ff_ rfl) | refine ResH.agg ?_))); done)
    · rw [hv, if_pos (.inr rfl)] at eF
      rw [eF]
      dsimp only
      rw [hv] at e0
      refine HC.of (n := Try.f53.ntmps) XX_ok Try.func53 rfl (by kernel_rfl) rfl rfl (Nat.le_of_ble_eq_true rfl) rfl rfl ?_
      (repeat' (first | refine Zs ?_ | refine Zk ?_ | ((first | refine Zas 2 ?_ | refine Zr ?_ | refine Zp ?_ | refine Ze ?_ | refine Zd ?_ | refine Zn ?_ | refine Zc ?_ | refine UnK.mk (fun b hb => ?_) | refine Zc ?_ ⟨rfl, rfl, rfl, s1⟩); conv => whnf) | (refine Zb (fun h => ?_) (fun h => ?_) <;> first | exact Zx | (conv => whnf))))
      all_goals (conv => whnf)
      rw [hget, hhas]
      (repeat' (first | refine Zs ?_ | refine Zk ?_ | ((first | refine Za ?_ | refine Zr ?_ | refine Zp ?_ | refine Ze ?_ | refine Zd ?_ | refine Zn ?_ | refine Zc ?_ | refine UnK.mk (fun b hb => ?_)); conv => whnf) | (refine Zb (fun h => ?_) (fun h => ?_) <;> first | exact Zx | (conv => whnf))))
      all_goals (try dsimp only [Int.toNat_natCast] at *)
      (repeat' (first | refine Zs ?_ | refine Zk ?_ | ((first | refine Za ?_ | refine Zr ?_ | refine Zp ?_ | refine Ze ?_ | refine Zd ?_ | refine Zn ?_ | refine Zc ?_ | refine UnK.mk (fun b hb => ?_)); conv => whnf) | (refine Zb (fun h => ?_) (fun h => ?_) <;> first | exact Zx | (conv => whnf))))
      all_goals first | (exfalso; omega) | ((conv => whnf); (repeat' (first | exact trivial | exact AVle.refl _ | exact EntLe.refl _ | exact AVle.int (by first | rfl | omega) | exact ResH.same (AVle.refl _) | exact ResH.same (AVle.own (by first | rfl | omega)) | exact ResH.same (AVle.int (by first | rfl | omega)) | exact ResH.same (AVle.bool (by simp only [decide_eq_true_eq, decide_eq_false_iff_not, decide_eq_decide]; first | rfl | omega)) | exact ResH.same (AVle.tt_ (by simp only [decide_eq_true_eq, decide_eq_false_iff_not, decide_eq_decide]; first | rfl | omega)) | exact ResH.same (AVle.ff_ (by simp only [decide_eq_true_eq, decide_eq_false_iff_not, decide_eq_decide]; first | rfl | omega)) | exact ResH.same (AVle.tt_ rfl) | exact ResH.same (AVle.ff_ rfl) | refine ResH.agg ?_ | exact ⟨_, rfl, EntLe.refl _, rfl⟩ | refine ⟨_, rfl, EntLe.blk ?_, rfl⟩ | refine ⟨_, rfl, EntLe.row (by first | rfl | omega) ?_, rfl⟩ | refine And.intro ?_ ?_ | ((conv => whnf); first | exact ResH.same (AVle.refl _) | exact ResH.same (AVle.own (by first | rfl | omega)) | exact ResH.same (AVle.int (by first | rfl | omega)) | exact ResH.same (AVle.bool (by simp only [decide_eq_true_eq, decide_eq_false_iff_not, decide_eq_decide]; first | rfl | omega)) | exact ResH.same (AVle.tt_ (by simp only [decide_eq_true_eq, decide_eq_false_iff_not, decide_eq_decide]; first | rfl | omega)) | exact ResH.same (AVle.ff_ (by simp only [decide_eq_true_eq, decide_eq_false_iff_not, decide_eq_decide]; first | rfl | omega)) | exact ResH.same (AVle.tt_ rfl) | exact ResH.same (AVle.ff_ rfl) | refine ResH.agg ?_))); done)
    have hfr := fresh_set hkl hv (v := 1) (by decide)
    rw [hv, if_neg (by omega), if_neg (by omega)] at eF
    rw [hv] at e0
    have hs1 := RowIs.set (RowIs.refl iE 1 st) (k := k) (x := 1) (ds := [.val (.int .i64 1)]) rfl (fun q hq => by
      obtain rfl : q = 0 := by omega
      exact Dle.refl _)
    have hlen := hg.1
    simp only at hlen
    have hl1 : (st.set k 1).getD k 0 = 1 := by rw [getD_set, if_pos ⟨rfl, hkl⟩]
    obtain ⟨R, hR⟩ : ∃ R, visL (visF rs m) (rs.getD k default).ins (st.set k 1, od) = R := ⟨_, rfl⟩
    rw [hR] at eF
    rw [eF]
    generalize st.set k 1 = st1 at *
    refine HC.of (n := Try.f53.ntmps) XX_ok Try.func53 rfl (by kernel_rfl) rfl rfl (Nat.le_of_ble_eq_true rfl) rfl rfl ?_
    (repeat' (first | refine Zs ?_ | refine Zk ?_ | ((first | refine Zas 2 ?_ | refine Zr ?_ | refine Zp ?_ | refine Ze ?_ | refine Zd ?_ | refine Zn ?_ | refine Zc ?_ | refine UnK.mk (fun b hb => ?_) | refine Zc ?_ ⟨rfl, rfl, rfl, s1⟩); conv => whnf) | (refine Zb (fun h => ?_) (fun h => ?_) <;> first | exact Zx | (conv => whnf))))
    all_goals (conv => whnf)
    rw [hget, hhas]
    (repeat' (first | refine Zs ?_ | refine Zk ?_ | ((first | refine Za ?_ | refine Zr ?_ | refine Zp ?_ | refine Ze ?_ | refine Zd ?_ | refine Zn ?_ | refine Zc ?_ | refine UnK.mk (fun b hb => ?_)); conv => whnf) | (refine Zb (fun h => ?_) (fun h => ?_) <;> first | exact Zx | (conv => whnf))))
    all_goals (try dsimp only [Int.toNat_natCast] at *)
    (repeat' (first | refine Zs ?_ | refine Zk ?_ | ((first | refine Za ?_ | refine Zr ?_ | refine Zp ?_ | refine Ze ?_ | refine Zd ?_ | refine Zn ?_ | refine Zc ?_ | refine UnK.mk (fun b hb => ?_)); conv => whnf) | (refine Zb (fun h => ?_) (fun h => ?_) <;> first | exact Zx | (conv => whnf))))
    all_goals (try dsimp only [Int.toNat_natCast] at *)
    all_goals first | (exfalso; omega) | skip
    refine (W.loopK (ι := Nat × List Int × List Int) [1, 2, 3, 4, 5, 8, 39, 40] [5000, 5005, 5001, 5002, 5003] (fun s => [(41, iA s.1)]) (fun s => [(5006, .row 3 1 rs.length (rowF iE s.2.1)), (5004, .blk 22 [.own 1000000 1 0 s.2.2.length]), (1000000, .row 3 1 s.2.2.length (rowF iE s.2.2))]) (fun s => s.1 ≤ (rs.getD k default).ins.length ∧ VG rs.length s.2 ∧ fresh s.2.1 < m ∧ s.2.2.length + fresh s.2.1 ≤ 99 ∧ s.2.1.getD k 0 = 1 ∧ visL (visF rs m) ((rs.getD k default).ins.drop s.1) s.2 = R) (fun s => (rs.getD k default).ins.length - s.1) (0, st1, od) ⟨Nat.zero_le _, g1, by simp only; omega, by simp only; omega, hl1, hR⟩ ?_ ?_ ?_)
    · exact Yz
    · (repeat' (first | exact trivial | exact Yr | exact Yi (by first | rfl | omega) | exact Yo (by first | rfl | omega) | exact Yd | exact Yn | exact Ye (by first | rfl | omega) | exact ⟨_, rfl, Yf, rfl⟩ | refine ⟨_, rfl, Yb ?_, rfl⟩ | refine ⟨_, rfl, Yw (by first | rfl | omega) ?_, rfl⟩ | refine And.intro ?_ ?_))
      intro a ha b hb
      have := hs1.le a (by omega) b hb
      simpa only [Nat.zero_add, visL] using this
    conv => whnf
    intro ⟨i, st', od'⟩ ⟨p1, p2, p3, p4, p5, p6⟩
    simp only at p1 p2 p3 p4 p5 p6
    dsimp only
    by_cases hi : i < (rs.getD k default).ins.length
    · have hx := a1 i hi
      have hd : (rs.getD k default).ins.drop i = (rs.getD k default).ins.getD i default :: (rs.getD k default).ins.drop (i + 1) := by
        rw [ygetD_of hi]; exact List.drop_eq_getElem_cons hi
      have hok := visF_ok rs m ((rs.getD k default).ins.getD i default).c (st', od') p2
      have ihc := ih ((rs.getD k default).ins.getD i default).c st' od' p2 p3 (by rw [hx.1.1]; omega) (by omega)
      rw [hd] at p6
      unfold visL at p6
      cases hq : visF rs m ((rs.getD k default).ins.getD i default).c (st', od') with
      | mk b s2 =>
        obtain ⟨st2, od2⟩ := s2
        rw [hq] at ihc hok p6
        obtain ⟨o1, o2, o3, o4⟩ := hok
        simp only at o1 o2 o3 o4
        cases b with
        | true =>
          (repeat' (first | refine Zs ?_ | refine Zk ?_ | ((first | refine Za ?_ | refine Zr ?_ | refine Zp ?_ | refine Ze ?_ | refine Zd ?_ | refine Zn ?_ | refine Zc ?_ | refine UnK.mk (fun b hb => ?_) | refine ExCall.h [(5000, 5000), (5005, 5005), (5001, 5001), (5006, 5006), (5002, 5002), (5003, 5003), (5004, 5004), (1000000, 1000000)] rfl ihc rfl ⟨rfl, rfl, rfl, rfl, rfl, rfl, rfl, rfl, trivial⟩ ?_); conv => whnf) | (refine Zb (fun h => ?_) (fun h => ?_) <;> first | exact Zx | (conv => whnf))))
          all_goals (try dsimp only [Int.toNat_natCast] at *)
          (repeat' (first | refine Zs ?_ | refine Zk ?_ | ((first | refine Za ?_ | refine Zr ?_ | refine Zp ?_ | refine Ze ?_ | refine Zd ?_ | refine Zn ?_ | refine Zc ?_ | refine UnK.mk (fun b hb => ?_) | refine ExCall.h [(5000, 5000), (5005, 5005), (5001, 5001), (5006, 5006), (5002, 5002), (5003, 5003), (5004, 5004), (1000000, 1000000)] rfl ihc rfl ⟨rfl, rfl, rfl, rfl, rfl, rfl, rfl, rfl, trivial⟩ ?_); conv => whnf) | (refine Zb (fun h => ?_) (fun h => ?_) <;> first | exact Zx | (conv => whnf))))
          all_goals first | (exfalso; omega) | skip
          refine ⟨(i + 1, st2, od2), ⟨by simp only; omega, o1, by simp only; omega, by simp only; omega, by simp only; rw [o2 k (by omega)]; exact p5, p6⟩, by simp only; omega, ?_, ?_, ?_, ?_⟩
          all_goals exact Yz
        | false =>
          subst p6
          (repeat' (first | refine Zs ?_ | refine Zk ?_ | ((first | refine Za ?_ | refine Zr ?_ | refine Zp ?_ | refine Ze ?_ | refine Zd ?_ | refine Zn ?_ | refine Zc ?_ | refine UnK.mk (fun b hb => ?_) | refine ExCall.h [(5000, 5000), (5005, 5005), (5001, 5001), (5006, 5006), (5002, 5002), (5003, 5003), (5004, 5004), (1000000, 1000000)] rfl ihc rfl ⟨rfl, rfl, rfl, rfl, rfl, rfl, rfl, rfl, trivial⟩ ?_); conv => whnf) | (refine Zb (fun h => ?_) (fun h => ?_) <;> first | exact Zx | (conv => whnf))))
          all_goals (try dsimp only [Int.toNat_natCast] at *)
          (repeat' (first | refine Zs ?_ | refine Zk ?_ | ((first | refine Za ?_ | refine Zr ?_ | refine Zp ?_ | refine Ze ?_ | refine Zd ?_ | refine Zn ?_ | refine Zc ?_ | refine UnK.mk (fun b hb => ?_) | refine ExCall.h [(5000, 5000), (5005, 5005), (5001, 5001), (5006, 5006), (5002, 5002), (5003, 5003), (5004, 5004), (1000000, 1000000)] rfl ihc rfl ⟨rfl, rfl, rfl, rfl, rfl, rfl, rfl, rfl, trivial⟩ ?_); conv => whnf) | (refine Zb (fun h => ?_) (fun h => ?_) <;> first | exact Zx | (conv => whnf))))
          all_goals first | (exfalso; omega) | ((conv => whnf); (repeat' (first | exact trivial | exact AVle.refl _ | exact EntLe.refl _ | exact AVle.int (by first | rfl | omega) | exact ResH.same (AVle.refl _) | exact ResH.same (AVle.own (by first | rfl | omega)) | exact ResH.same (AVle.int (by first | rfl | omega)) | exact ResH.same (AVle.bool (by simp only [decide_eq_true_eq, decide_eq_false_iff_not, decide_eq_decide]; first | rfl | omega)) | exact ResH.same (AVle.tt_ (by simp only [decide_eq_true_eq, decide_eq_false_iff_not, decide_eq_decide]; first | rfl | omega)) | exact ResH.same (AVle.ff_ (by simp only [decide_eq_true_eq, decide_eq_false_iff_not, decide_eq_decide]; first | rfl | omega)) | exact ResH.same (AVle.tt_ rfl) | exact ResH.same (AVle.ff_ rfl) | refine ResH.agg ?_ | exact ⟨_, rfl, EntLe.refl _, rfl⟩ | refine ⟨_, rfl, EntLe.blk ?_, rfl⟩ | refine ⟨_, rfl, EntLe.row (by first | rfl | omega) ?_, rfl⟩ | refine And.intro ?_ ?_ | ((conv => whnf); first | exact ResH.same (AVle.refl _) | exact ResH.same (AVle.own (by first | rfl | omega)) | exact ResH.same (AVle.int (by first | rfl | omega)) | exact ResH.same (AVle.bool (by simp only [decide_eq_true_eq, decide_eq_false_iff_not, decide_eq_decide]; first | rfl | omega)) | exact ResH.same (AVle.tt_ (by simp only [decide_eq_true_eq, decide_eq_false_iff_not, decide_eq_decide]; first | rfl | omega)) | exact ResH.same (AVle.ff_ (by simp only [decide_eq_true_eq, decide_eq_false_iff_not, decide_eq_decide]; first | rfl | omega)) | exact ResH.same (AVle.tt_ rfl) | exact ResH.same (AVle.ff_ rfl) | refine ResH.agg ?_))); done)
    · obtain rfl : i = (rs.getD k default).ins.length := by omega
      rw [List.drop_length] at p6
      subst p6
      have hs2 := RowIs.set (RowIs.refl iE 1 st') (k := k) (x := 2) (ds := [.val (.int .i64 2)]) rfl (fun q hq => by
        obtain rfl : q = 0 := by omega
        exact Dle.refl _)
      have hlen2 := p2.1
      simp only at hlen2
      (repeat' (first | refine Zs ?_ | refine Zk ?_ | ((first | refine Za ?_ | refine Zr ?_ | refine Zp ?_ | refine Ze ?_ | refine Zd ?_ | refine Zn ?_ | refine Zc ?_ | refine UnK.mk (fun b hb => ?_)); conv => whnf) | (refine Zb (fun h => ?_) (fun h => ?_) <;> first | exact Zx | (conv => whnf))))
      all_goals (try dsimp only [Int.toNat_natCast] at *)
      (repeat' (first | refine Zs ?_ | refine Zk ?_ | ((first | refine Za ?_ | refine Zr ?_ | refine Zp ?_ | refine Ze ?_ | refine Zd ?_ | refine Zn ?_ | refine Zc ?_ | refine UnK.mk (fun b hb => ?_)); conv => whnf) | (refine Zb (fun h => ?_) (fun h => ?_) <;> first | exact Zx | (conv => whnf))))
      all_goals first | (exfalso; omega) | skip
      (conv => whnf); (repeat' (first | exact trivial | exact AVle.refl _ | exact EntLe.refl _ | exact AVle.int (by first | rfl | omega) | exact ResH.same (AVle.refl _) | exact ResH.same (AVle.own (by first | rfl | omega)) | exact ResH.same (AVle.int (by first | rfl | omega)) | exact ResH.same (AVle.bool (by simp only [decide_eq_true_eq, decide_eq_false_iff_not, decide_eq_decide]; first | rfl | omega)) | exact ResH.same (AVle.tt_ (by simp only [decide_eq_true_eq, decide_eq_false_iff_not, decide_eq_decide]; first | rfl | omega)) | exact ResH.same (AVle.ff_ (by simp only [decide_eq_true_eq, decide_eq_false_iff_not, decide_eq_decide]; first | rfl | omega)) | exact ResH.same (AVle.tt_ rfl) | exact ResH.same (AVle.ff_ rfl) | refine ResH.agg ?_ | exact ⟨_, rfl, EntLe.refl _, rfl⟩ | refine ⟨_, rfl, EntLe.blk ?_, rfl⟩ | refine ⟨_, rfl, EntLe.row (by first | rfl | omega) ?_, rfl⟩ | refine And.intro ?_ ?_ | ((conv => whnf); first | exact ResH.same (AVle.refl _) | exact ResH.same (AVle.own (by first | rfl | omega)) | exact ResH.same (AVle.int (by first | rfl | omega)) | exact ResH.same (AVle.bool (by simp only [decide_eq_true_eq, decide_eq_false_iff_not, decide_eq_decide]; first | rfl | omega)) | exact ResH.same (AVle.tt_ (by simp only [decide_eq_true_eq, decide_eq_false_iff_not, decide_eq_decide]; first | rfl | omega)) | exact ResH.same (AVle.ff_ (by simp only [decide_eq_true_eq, decide_eq_false_iff_not, decide_eq_decide]; first | rfl | omega)) | exact ResH.same (AVle.tt_ rfl) | exact ResH.same (AVle.ff_ rfl) | refine ResH.agg ?_)))
      · intro a ha b hb
        have := hs2.le a (by omega) b hb
        simpa only [Nat.zero_add, visL] using this
      · exact AVle.own (by simp [visL])
      · exact ⟨_, rfl, EntLe.row (by simp [visL]) (rowF_snoc rfl fun q hq => by
          obtain rfl : q = 0 := by omega
          exact Dle.refl _), rfl⟩
end Go.Proofs.Ytoeghejbgibioaa
