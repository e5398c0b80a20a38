/- Currency, by descriptions: the rates of a day, conversion. -/
import Derived.Test.YtdfnnbamkaldmaaK1
namespace Go.Proofs.Ytdfnnbamkaldmaa
open Go Go.RowKit
set_option linter.unusedVariables false
set_option linter.unusedSimpArgs false
set_option maxRecDepth 100000
set_option maxHeartbeats 4000000
attribute [local irreducible] ResLe AVle ArgLe ArgP EntLe Dle ResH ArgQ strEq strLt

theorem ktake_snoc {α : Type} [Inhabited α] (l : List α) {k : Nat} (h : k < l.length) : l.take (k + 1) = l.take k ++ [l.getD k default] := by
  rw [List.take_add_one, List.getD_eq_getElem?_getD, List.getElem?_eq_getElem h]
  rfl
def rtM (us : List Xc) (day : Int) : ML := us.foldl (fun L x => if x.f ≤ day then putM L x.c x.p else L) (putM [] eur 1000000)
theorem rtM_snoc (us : List Xc) (x : Xc) (day : Int) : rtM (us ++ [x]) day = if x.f ≤ day then putM (rtM us day) x.c x.p else rtM us day := by unfold rtM; rw [List.foldl_append]; rfl
theorem klen_put (L : ML) (s : ByteArray) (v : Int) : (putM L s v).length ≤ L.length + 1 := by
  unfold putM
  have := List.length_filter_le (fun p : ByteArray × Int => !decide (p.1 = s)) L
  rw [List.length_cons]
  omega
theorem rtM_len (us : List Xc) (day : Int) (k : Nat) (hk : k ≤ us.length) : (rtM (us.take k) day).length ≤ k + 1 := by
  induction k with
  | zero => exact klen_put [] eur 1000000
  | succ k ih =>
    have h := ih (by omega)
    rw [ktake_snoc us (by omega), rtM_snoc]
    split
    · have := klen_put (rtM (us.take k) day) (us.getD k default).c (us.getD k default).p
      omega
    · omega
theorem rates_h (us : List Xc) (day : Int) (hL : us.length ≤ 1000) (hs : ∀ x ∈ us, x.c.size ≤ 3 ∧ 0 ≤ x.p ∧ x.p ≤ 1000000000) :
    HC XX 16 [.dat (xcD us), iA day] [] (.mp 8) [(8, .mp XX.P 9 3 (rtM us day))] (some 8) := by
  have hm : (1003 : Nat) ≤ maxLen := by decide
  refine HC.of (n := Try.f16.ntmps) XX_ok Try.func16 rfl (by kernel_rfl) rfl rfl (Nat.le_of_ble_eq_true rfl) rfl rfl ?_
  (repeat' (first | refine Zs ?_ | refine Zk ?_ | ((first | refine Za ?_ | refine Zr ?_ | refine Zp ?_ | refine Ze ?_ | refine Zd ?_ | refine Zn ?_ | refine Zc ?_ | refine UnK.mk (fun b hb => ?_)); conv => whnf) | (refine Zb (fun h => ?_) (fun h => ?_) <;> first | exact Zx | (conv => whnf))))
  refine ⟨⟨rfl, rfl, rfl, by show (3 : Nat) ≤ maxLen; omega, by show (0 : Nat) < maxLen; omega, by omega, by omega⟩, ?_⟩
  conv => whnf
  (repeat' (first | refine Zs ?_ | refine Zk ?_ | ((first | refine Za ?_ | refine Zr ?_ | refine Zp ?_ | refine Ze ?_ | refine Zd ?_ | refine Zn ?_ | refine Zc ?_ | refine UnK.mk (fun b hb => ?_)); conv => whnf) | (refine Zb (fun h => ?_) (fun h => ?_) <;> first | exact Zx | (conv => whnf))))
  refine (W.loopK (ι := Nat) [1, 5, 10, 11] [] (fun k => [(12, iA k)]) (fun k => [(8, .mp XX.P 9 3 (rtM (us.take k) day))]) (fun k => k ≤ us.length) (fun k => us.length - k) 0 (Nat.zero_le _) ?_ ?_ ?_)
  · exact Yz
  · exact Yz
  conv => whnf
  intro k hk
  by_cases hk' : k < us.length
  · have hx := hs _ (kgetD_in hk')
    have s1 : (us.getD k default).c.size ≤ maxLen := by omega
    have s2 : (rtM (us.take k) day).length < maxLen := by have := rtM_len us day k hk; omega
    have e1 : rtM (us.take (k + 1)) day = if (us.getD k default).f ≤ day then putM (rtM (us.take k) day) (us.getD k default).c (us.getD k default).p else rtM (us.take k) day := by rw [ktake_snoc us hk', rtM_snoc]
    (repeat' (first | refine Zs ?_ | refine Zk ?_ | ((first | refine Za ?_ | refine Zr ?_ | refine Zp ?_ | refine Ze ?_ | refine Zd ?_ | refine Zn ?_ | refine Zc ?_ | refine UnK.mk (fun b hb => ?_)); conv => whnf) | (refine Zb (fun h => ?_) (fun h => ?_) <;> first | exact Zx | (conv => whnf))))
    all_goals (try dsimp only [Int.toNat_natCast] at *)
    (repeat' (first | refine Zs ?_ | refine Zk ?_ | ((first | refine Za ?_ | refine Zr ?_ | refine Zp ?_ | refine Ze ?_ | refine Zd ?_ | refine Zn ?_ | refine Zc ?_ | refine UnK.mk (fun b hb => ?_)); conv => whnf) | (refine Zb (fun h => ?_) (fun h => ?_) <;> first | exact Zx | (conv => whnf))))
    all_goals (try dsimp only [Int.toNat_natCast] at *)
    all_goals first | (exfalso; omega) | skip
    · rw [if_pos h] at e1
      refine ⟨⟨rfl, rfl, rfl, s1, s2, by omega, by omega⟩, ?_⟩
      conv => whnf
      (repeat' (first | refine Zs ?_ | refine Zk ?_ | ((first | refine Za ?_ | refine Zr ?_ | refine Zp ?_ | refine Ze ?_ | refine Zd ?_ | refine Zn ?_ | refine Zc ?_ | refine UnK.mk (fun b hb => ?_)); conv => whnf) | (refine Zb (fun h => ?_) (fun h => ?_) <;> first | exact Zx | (conv => whnf))))
      refine ⟨k + 1, by omega, by omega, ?_, ?_, ?_, ?_⟩
      all_goals (try rw [e1])
      all_goals exact Yz
    · rw [if_neg (by omega)] at e1
      refine ⟨k + 1, by omega, by omega, ?_, ?_, ?_, ?_⟩
      all_goals (try rw [e1])
      all_goals exact Yz
  obtain rfl : k = us.length := by omega
  rw [List.take_length]
  (repeat' (first | refine Zs ?_ | refine Zk ?_ | ((first | refine Za ?_ | refine Zr ?_ | refine Zp ?_ | refine Ze ?_ | refine Zd ?_ | refine Zn ?_ | refine Zc ?_ | refine UnK.mk (fun b hb => ?_)); conv => whnf) | (refine Zb (fun h => ?_) (fun h => ?_) <;> first | exact Zx | (conv => whnf))))
  all_goals first | (exfalso; omega) | skip
  (conv => whnf); (repeat' (first | exact trivial | exact AVle.refl _ | exact EntLe.refl _ | exact AVle.int (by first | rfl | omega) | exact ResH.same (AVle.refl _) | exact ResH.same (AVle.own (by first | rfl | omega)) | exact ResH.same (AVle.int (by first | rfl | omega)) | exact ResH.same (AVle.bool (by simp only [decide_eq_true_eq, decide_eq_false_iff_not, decide_eq_decide]; first | rfl | omega)) | exact ResH.same (AVle.tt_ (by simp only [decide_eq_true_eq, decide_eq_false_iff_not, decide_eq_decide]; first | rfl | omega)) | exact ResH.same (AVle.ff_ (by simp only [decide_eq_true_eq, decide_eq_false_iff_not, decide_eq_decide]; first | rfl | omega)) | refine ResH.agg ?_ | exact ⟨_, rfl, EntLe.refl _, rfl⟩ | refine ⟨_, rfl, EntLe.blk ?_, rfl⟩ | refine ⟨_, rfl, EntLe.row (by first | rfl | omega) ?_, rfl⟩ | refine And.intro ?_ ?_ | ((conv => whnf); first | exact ResH.same (AVle.refl _) | exact ResH.same (AVle.own (by first | rfl | omega)) | exact ResH.same (AVle.int (by first | rfl | omega)) | exact ResH.same (AVle.bool (by simp only [decide_eq_true_eq, decide_eq_false_iff_not, decide_eq_decide]; first | rfl | omega)) | exact ResH.same (AVle.tt_ (by simp only [decide_eq_true_eq, decide_eq_false_iff_not, decide_eq_decide]; first | rfl | omega)) | exact ResH.same (AVle.ff_ (by simp only [decide_eq_true_eq, decide_eq_false_iff_not, decide_eq_decide]; first | rfl | omega)) | refine ResH.agg ?_)))
theorem xcF_zero (us : List Xc) : ∀ m i, xcF us m i = 0 → ∀ j, i ≤ j → j < i + m → xcK us j = 0
  | 0, i, _, j, h1, h2 => absurd h2 (by omega)
  | m + 1, i, h, j, h1, h2 => by
    unfold xcF at h
    by_cases h0 : xcK us i = 0
    · rw [if_neg (by simpa using h0)] at h
      by_cases hj : j = i
      · rw [hj]; exact h0
      · exact xcF_zero us m (i + 1) h j (by omega) (by omega)
    · rw [if_pos h0] at h
      exact absurd h h0
theorem tabE_zero {us : List Xc} (h : tabE us = 0) : us.length ≤ 1000 ∧ ∀ x ∈ us, x.c.size ≤ 3 ∧ 0 ≤ x.p ∧ x.p ≤ 1000000000 := by
  unfold tabE at h
  split at h
  · cases h
  refine ⟨by omega, fun x hx => ?_⟩
  obtain ⟨i, hi, rfl⟩ := List.getElem_of_mem hx
  have hk := xcF_zero us _ _ h i (Nat.zero_le _) (by omega)
  unfold xcK at hk
  rw [List.getD_eq_getElem?_getD, List.getElem?_eq_getElem hi, Option.getD_some] at hk
  split at hk
  · rename_i h1
    exact absurd hk h1
  rename_i h1
  have h2 : xcR us[i] = 0 := by simpa using h1
  unfold xcR at h2
  split at h2
  · cases h2
  rename_i h3
  split at h2
  · cases h2
  rename_i h4
  have h5 : curOk us[i].c := by
    by_cases h5 : curOk us[i].c
    · exact h5
    · exact absurd (.inl h5) h3
  exact ⟨by rw [h5.1]; omega, by omega, by omega⟩
noncomputable def atE (us : List Xc) (c : ByteArray) (day : Int) : Int := if tabE us ≠ 0 then tabE us else if day < 0 ∨ 36524 < day then 2 else if hasM (rtM us day) c = true then 0 else 6
noncomputable def atV (us : List Xc) (c : ByteArray) (day : Int) : Int := if atE us c day ≠ 0 then 0 else getM (rtM us day) c
theorem at_t (us : List Xc) (c : ByteArray) (day : Int) (hL : us.length ≤ 9223372036854775807) (hc : c.size ≤ maxLen) : ACalls XX 12 [.dat (xcD us), sK c, iA day] (.tup [iA (atV us c day), iA (atE us c day)]) := by
  have k1 := tabE_t us hL
  by_cases h0 : tabE us = 0
  rotate_left
  · have e1 : atE us c day = tabE us := if_pos h0
    have e2 : atV us c day = 0 := if_pos (by rw [e1]; exact h0)
    rw [e1, e2]
    refine ACalls.of (n := Try.f12.ntmps) XX_ok Try.func12 rfl (by kernel_rfl) rfl rfl (Nat.le_of_ble_eq_true rfl) ?_
    (repeat' (first | refine Zs ?_ | refine Zk ?_ | ((first | refine Za ?_ | refine Zr ?_ | refine Zp ?_ | refine Ze ?_ | refine Zd ?_ | refine Zn ?_ | refine Zc ?_ | refine UnK.mk (fun b hb => ?_) | refine Zy k1 ?_); conv => whnf) | (refine Zb (fun h => ?_) (fun h => ?_) <;> first | exact Zx | (conv => whnf))))
    all_goals first | (exfalso; omega) | ((repeat' (first | exact trivial | exact Zm | exact Zl | exact ResLe.row0 rfl | exact Zi (by first | rfl | omega) | exact Zo (h := by first | rfl | omega) | exact ResLe.bo rfl rfl Iff.rfl | refine ResLe.agg ?_ | refine And.intro ?_ ?_ | ((conv => whnf); first | exact Zl | exact ResLe.row0 rfl | exact Zi (by first | rfl | omega) | exact Zo (h := by first | rfl | omega) | exact ResLe.bo rfl rfl Iff.rfl | refine ResLe.agg ?_ | refine And.intro ?_ ?_))); done)
  obtain ⟨h1, h2⟩ := tabE_zero h0
  have k2 := rates_h us day h1 h2
  by_cases h3 : day < 0 ∨ 36524 < day
  · have e1 : atE us c day = 2 := by unfold atE; rw [if_neg (by simpa using h0), if_pos h3]
    have e2 : atV us c day = 0 := if_pos (by rw [e1]; decide)
    rw [e1, e2]
    refine ACalls.of (n := Try.f12.ntmps) XX_ok Try.func12 rfl (by kernel_rfl) rfl rfl (Nat.le_of_ble_eq_true rfl) ?_
    (repeat' (first | refine Zs ?_ | refine Zk ?_ | ((first | refine Za ?_ | refine Zr ?_ | refine Zp ?_ | refine Ze ?_ | refine Zd ?_ | refine Zn ?_ | refine Zc ?_ | refine UnK.mk (fun b hb => ?_) | refine Zy k1 ?_); conv => whnf) | (refine Zb (fun h => ?_) (fun h => ?_) <;> first | exact Zx | (conv => whnf))))
    all_goals first | (exfalso; omega) | ((repeat' (first | exact trivial | exact Zm | exact Zl | exact ResLe.row0 rfl | exact Zi (by first | rfl | omega) | exact Zo (h := by first | rfl | omega) | exact ResLe.bo rfl rfl Iff.rfl | refine ResLe.agg ?_ | refine And.intro ?_ ?_ | ((conv => whnf); first | exact Zl | exact ResLe.row0 rfl | exact Zi (by first | rfl | omega) | exact Zo (h := by first | rfl | omega) | exact ResLe.bo rfl rfl Iff.rfl | refine ResLe.agg ?_ | refine And.intro ?_ ?_))); done)
  have e1 : atE us c day = if hasM (rtM us day) c = true then 0 else 6 := by unfold atE; rw [if_neg (by simpa using h0), if_neg h3]
  rw [h0] at k1
  cases h4 : hasM (rtM us day) c
  · rw [h4, if_neg (by decide)] at e1
    have e2 : atV us c day = 0 := if_pos (by rw [e1]; decide)
    rw [e1, e2]
    refine ACalls.of (n := Try.f12.ntmps) XX_ok Try.func12 rfl (by kernel_rfl) rfl rfl (Nat.le_of_ble_eq_true rfl) ?_
    (repeat' (first | refine Zs ?_ | refine Zk ?_ | ((first | refine Za ?_ | refine Zr ?_ | refine Zp ?_ | refine Ze ?_ | refine Zd ?_ | refine Zn ?_ | refine Zc ?_ | refine UnK.mk (fun b hb => ?_) | refine Zy k1 ?_ | refine ExCall.h [(8, 25)] rfl k2 rfl trivial ?_); conv => whnf) | (refine Zb (fun h => ?_) (fun h => ?_) <;> first | exact Zx | (conv => whnf))))
    all_goals first | (exfalso; omega) | (exfalso; rw [h4] at h; cases h; done) | ((repeat' (first | exact trivial | exact Zm | exact Zl | exact ResLe.row0 rfl | exact Zi (by first | rfl | omega) | exact Zo (h := by first | rfl | omega) | exact ResLe.bo rfl rfl Iff.rfl | refine ResLe.agg ?_ | refine And.intro ?_ ?_ | ((conv => whnf); first | exact Zl | exact ResLe.row0 rfl | exact Zi (by first | rfl | omega) | exact Zo (h := by first | rfl | omega) | exact ResLe.bo rfl rfl Iff.rfl | refine ResLe.agg ?_ | refine And.intro ?_ ?_))); done)
  · rw [h4, if_pos rfl] at e1
    have e2 : atV us c day = getM (rtM us day) c := if_neg (by rw [e1]; decide)
    rw [e1, e2]
    refine ACalls.of (n := Try.f12.ntmps) XX_ok Try.func12 rfl (by kernel_rfl) rfl rfl (Nat.le_of_ble_eq_true rfl) ?_
    (repeat' (first | refine Zs ?_ | refine Zk ?_ | ((first | refine Za ?_ | refine Zr ?_ | refine Zp ?_ | refine Ze ?_ | refine Zd ?_ | refine Zn ?_ | refine Zc ?_ | refine UnK.mk (fun b hb => ?_) | refine Zy k1 ?_ | refine ExCall.h [(8, 25)] rfl k2 rfl trivial ?_); conv => whnf) | (refine Zb (fun h => ?_) (fun h => ?_) <;> first | exact Zx | (conv => whnf))))
    all_goals first | (exfalso; omega) | (exfalso; rw [h4] at h; cases h; done) | ((repeat' (first | exact trivial | exact Zm | exact Zl | exact ResLe.row0 rfl | exact Zi (by first | rfl | omega) | exact Zo (h := by first | rfl | omega) | exact ResLe.bo rfl rfl Iff.rfl | refine ResLe.agg ?_ | refine And.intro ?_ ?_ | ((conv => whnf); first | exact Zl | exact ResLe.row0 rfl | exact Zi (by first | rfl | omega) | exact Zo (h := by first | rfl | omega) | exact ResLe.bo rfl rfl Iff.rfl | refine ResLe.agg ?_ | refine And.intro ?_ ?_))); done)
theorem fnOk_Scale : FnOk Try.prog 13 := ⟨_, Try.func13, rfl, rfl⟩
theorem scale_t (a n d m : Int) : ACalls XX 13 [iA a, iA n, iA d, iA m] (.tup [iA (scaleS a n d m).1, iA (scaleS a n d m).2]) :=
  ACalls.of_calls (vs := [.int .i64 a, .int .i64 n, .int .i64 d, .int .i64 m]) (v := scaleV a n d m) fnOk_Scale rfl rfl fun w => scale_any a n d m w
noncomputable def cvE (us : List Xc) (a : Int) (c : ByteArray) (day m : Int) : Int := if atE us c day ≠ 0 then atE us c day else (scaleS a (atV us c day) 1000000 m).2
noncomputable def cvV (us : List Xc) (a : Int) (c : ByteArray) (day m : Int) : Int := if atE us c day ≠ 0 then 0 else (scaleS a (atV us c day) 1000000 m).1
theorem convert_t (us : List Xc) (a : Int) (c : ByteArray) (day m : Int) (hL : us.length ≤ 9223372036854775807) (hc : c.size ≤ maxLen) : ACalls XX 6 [.dat (xcD us), iA a, sK c, iA day, iA m] (.tup [iA (cvV us a c day m), iA (cvE us a c day m)]) := by
  have k1 := at_t us c day hL hc
  have k2 := scale_t a (atV us c day) 1000000 m
  by_cases h : atE us c day = 0
  · have e1 : cvV us a c day m = (scaleS a (atV us c day) 1000000 m).1 := if_neg (by simpa using h)
    have e2 : cvE us a c day m = (scaleS a (atV us c day) 1000000 m).2 := if_neg (by simpa using h)
    rw [e1, e2]
    rw [h] at k1
    refine ACalls.of (n := Try.f6.ntmps) XX_ok Try.func6 rfl (by kernel_rfl) rfl rfl (Nat.le_of_ble_eq_true rfl) ?_
    (repeat' (first | refine Zs ?_ | refine Zk ?_ | ((first | refine Za ?_ | refine Zr ?_ | refine Zp ?_ | refine Ze ?_ | refine Zd ?_ | refine Zn ?_ | refine Zc ?_ | refine UnK.mk (fun b hb => ?_) | refine Zy k1 ?_ | refine Zy k2 ?_); conv => whnf) | (refine Zb (fun h => ?_) (fun h => ?_) <;> first | exact Zx | (conv => whnf))))
    all_goals first | (exfalso; omega) | ((repeat' (first | exact trivial | exact Zm | exact Zl | exact ResLe.row0 rfl | exact Zi (by first | rfl | omega) | exact Zo (h := by first | rfl | omega) | exact ResLe.bo rfl rfl Iff.rfl | refine ResLe.agg ?_ | refine And.intro ?_ ?_ | ((conv => whnf); first | exact Zl | exact ResLe.row0 rfl | exact Zi (by first | rfl | omega) | exact Zo (h := by first | rfl | omega) | exact ResLe.bo rfl rfl Iff.rfl | refine ResLe.agg ?_ | refine And.intro ?_ ?_))); done)
  · have e1 : cvV us a c day m = 0 := if_pos h
    have e2 : cvE us a c day m = atE us c day := if_pos h
    rw [e1, e2]
    refine ACalls.of (n := Try.f6.ntmps) XX_ok Try.func6 rfl (by kernel_rfl) rfl rfl (Nat.le_of_ble_eq_true rfl) ?_
    (repeat' (first | refine Zs ?_ | refine Zk ?_ | ((first | refine Za ?_ | refine Zr ?_ | refine Zp ?_ | refine Ze ?_ | refine Zd ?_ | refine Zn ?_ | refine Zc ?_ | refine UnK.mk (fun b hb => ?_) | refine Zy k1 ?_); conv => whnf) | (refine Zb (fun h => ?_) (fun h => ?_) <;> first | exact Zx | (conv => whnf))))
    all_goals first | (exfalso; omega) | ((repeat' (first | exact trivial | exact Zm | exact Zl | exact ResLe.row0 rfl | exact Zi (by first | rfl | omega) | exact Zo (h := by first | rfl | omega) | exact ResLe.bo rfl rfl Iff.rfl | refine ResLe.agg ?_ | refine And.intro ?_ ?_ | ((conv => whnf); first | exact Zl | exact ResLe.row0 rfl | exact Zi (by first | rfl | omega) | exact Zo (h := by first | rfl | omega) | exact ResLe.bo rfl rfl Iff.rfl | refine ResLe.agg ?_ | refine And.intro ?_ ?_))); done)
end Go.Proofs.Ytdfnnbamkaldmaa
