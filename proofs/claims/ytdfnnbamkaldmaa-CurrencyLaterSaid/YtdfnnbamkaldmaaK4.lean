/- Currency, by descriptions: a later rate; the law CurrencyLater. -/
import Derived.Test.YtdfnnbamkaldmaaK3
namespace Go.Proofs.Ytdfnnbamkaldmaa
open Go Go.RowKit
set_option linter.unusedVariables false
set_option linter.unusedSimpArgs false
set_option maxRecDepth 100000
set_option maxHeartbeats 4000000

theorem kEq (a b : ByteArray) : strEq a b = decide (a = b) := by
  unfold strEq
  rw [ByteArray.toList_eq, ByteArray.toList_eq]
  by_cases h : a = b
  · simp [h]
  · have : ¬ a.data.toList = b.data.toList := fun e => h (bytes_inj e)
    rw [beq_eq_false_iff_ne.2 this]
    simp [h]
theorem kLt (a b : ByteArray) : strLt a b = Op.bytesLess a.data.toList b.data.toList := by
  unfold strLt
  rw [ByteArray.toList_eq, ByteArray.toList_eq]
theorem W.reK {X : Cx} {n : Nat} {st : St} {Q : Exit → St → Prop} {cd : Code} (t : Nat) (c : AV) (h : AVle (st.get t) c) (k : St.un st fun fr hp => W X n cd ⟨(t, c) :: fr, hp⟩ Q) : W X n cd st Q := ⟨fun hX R hn ρ M a w hs =>
  (show W X n cd ⟨(t, c) :: st.fr, st.hp⟩ Q from k).out hX R hn ρ M a w (hs.reslot (h _ _ _ (hs.slots t)))⟩
theorem xcK_app (us : List Xc) (x : Xc) {j : Nat} (h : j < us.length) : xcK (us ++ [x]) j = xcK us j := by
  have e1 : (us ++ [x]).getD j default = us.getD j default := by simp [List.getD_eq_getElem?_getD, List.getElem?_append, h]
  have e2 : (us ++ [x]).getD (j - 1) default = us.getD (j - 1) default := by simp [List.getD_eq_getElem?_getD, List.getElem?_append, show j - 1 < us.length by omega]
  unfold xcK
  rw [e1, e2]
theorem xcF_app (us : List Xc) (x : Xc) : ∀ m i, i + m = us.length → xcF (us ++ [x]) (m + 1) i = if xcF us m i ≠ 0 then xcF us m i else xcK (us ++ [x]) us.length
  | 0, i, h => by
    have : i = us.length := by omega
    subst this
    show (if xcK (us ++ [x]) us.length ≠ 0 then xcK (us ++ [x]) us.length else 0) = if (0 : Int) ≠ 0 then 0 else xcK (us ++ [x]) us.length
    rw [if_neg (show ¬ (0 : Int) ≠ 0 by decide)]
    split
    · rfl
    · rename_i h0
      exact (by simpa using h0 : xcK (us ++ [x]) us.length = 0).symm
  | m + 1, i, h => by
    have ih := xcF_app us x m (i + 1) (by omega)
    show (if xcK (us ++ [x]) i ≠ 0 then xcK (us ++ [x]) i else xcF (us ++ [x]) (m + 1) (i + 1)) = if (if xcK us i ≠ 0 then xcK us i else xcF us m (i + 1)) ≠ 0 then (if xcK us i ≠ 0 then xcK us i else xcF us m (i + 1)) else xcK (us ++ [x]) us.length
    rw [ih, xcK_app us x (by omega)]
    by_cases h0 : xcK us i = 0
    · simp [h0]
    · simp [h0]
theorem tabE_app (us : List Xc) (x : Xc) (hl : us.length ≤ 999) (hx : xcK (us ++ [x]) us.length = 0) : tabE (us ++ [x]) = tabE us := by
  unfold tabE
  rw [if_neg (by simp; omega), if_neg (by omega), List.length_append, List.length_singleton, xcF_app us x us.length 0 (by omega), hx]
  split
  · rfl
  · rename_i h0
    exact (by simpa using h0 : xcF us us.length 0 = 0).symm
theorem usd_ok : curOk usd := ⟨rfl, fun i hi => by rcases (show i = 0 ∨ i = 1 ∨ i = 2 by omega) with rfl | rfl | rfl <;> decide⟩
theorem xcR_usd {f p : Int} (hf : 0 ≤ f ∧ f ≤ 36524) (hp : 1 ≤ p ∧ p ≤ 1000000000) : xcR ⟨usd, f, p⟩ = 0 := by
  unfold xcR
  rw [if_neg (by simp [usd_ok, kEq, usd, eur]), if_neg (by simp only; omega)]
theorem bef_usd {y : Xc} (hy : TOk y) {f p : Int} (hf : 1000 ≤ f) : befB y ⟨usd, f, p⟩ = true := by
  obtain ⟨h1, h2, h3⟩ := hy
  have e : y.c = chf ∨ y.c = gbp ∨ y.c = usd := by simpa [cur3] using h1
  unfold befB
  rcases e with e | e | e <;> rw [e]
  · show (if strEq chf usd = true then decide (y.f < f) else strLt chf usd) = true
    rw [kEq, if_neg (by decide), kLt]; decide
  · show (if strEq gbp usd = true then decide (y.f < f) else strLt gbp usd) = true
    rw [kEq, if_neg (by decide), kLt]; decide
  · show (if strEq usd usd = true then decide (y.f < f) else strLt usd usd) = true
    rw [kEq, if_pos (by decide)]
    simp only [decide_eq_true_eq]
    omega
theorem later_E {us : List Xc} (hl : us.length ≤ 9) (hu : ∀ x ∈ us, TOk x) {f p : Int} (hf : 1000 ≤ f ∧ f ≤ 36524) (hp : 1 ≤ p ∧ p ≤ 1000000000) : tabE (us ++ [⟨usd, f, p⟩]) = tabE us := by
  refine tabE_app us _ (by omega) ?_
  have e1 : (us ++ [(⟨usd, f, p⟩ : Xc)]).getD us.length default = ⟨usd, f, p⟩ := by simp [List.getD_eq_getElem?_getD]
  unfold xcK
  rw [e1, xcR_usd (by omega) hp, if_neg (by decide)]
  by_cases h0 : 0 < us.length
  · have e2 : (us ++ [(⟨usd, f, p⟩ : Xc)]).getD (us.length - 1) default = us.getD (us.length - 1) default := by simp [List.getD_eq_getElem?_getD, List.getElem?_append, show us.length - 1 < us.length by omega]
    rw [e2, bef_usd (hu _ (kgetD_in (by omega))) hf.1]
    simp
  · simp [h0]
theorem later_cv {us : List Xc} (hl : us.length ≤ 9) (hu : ∀ x ∈ us, TOk x) {f p : Int} (hf : 1000 ≤ f ∧ f ≤ 36524) (hp : 1 ≤ p ∧ p ≤ 1000000000) (a : Int) (c : ByteArray) {day : Int} (hd : day < 1000) (m : Int) :
    cvE (us ++ [⟨usd, f, p⟩]) a c day m = cvE us a c day m ∧ cvV (us ++ [⟨usd, f, p⟩]) a c day m = cvV us a c day m := by
  have e1 := later_E hl hu hf hp
  have e2 : rtM (us ++ [(⟨usd, f, p⟩ : Xc)]) day = rtM us day := by
    rw [rtM_snoc, if_neg (by simp only; omega)]
  have e3 : atE (us ++ [(⟨usd, f, p⟩ : Xc)]) c day = atE us c day := by unfold atE; rw [e1, e2]
  have e4 : atV (us ++ [(⟨usd, f, p⟩ : Xc)]) c day = atV us c day := by unfold atV; rw [e3, e2]
  unfold cvE cvV
  rw [e3, e4]
  exact ⟨rfl, rfl⟩
def fixL : List Xc := [⟨usd, 0, 900000⟩, ⟨usd, 10, 950000⟩]
theorem fix_E : tabE fixL = 0 := by
  have h1 : xcR ⟨usd, 0, 900000⟩ = 0 := xcR_usd (by omega) (by omega)
  have h2 : xcR ⟨usd, 10, 950000⟩ = 0 := xcR_usd (by omega) (by omega)
  have h3 : xcK fixL 0 = 0 := by
    unfold xcK
    rw [show fixL.getD 0 default = ⟨usd, 0, 900000⟩ from rfl, h1]
    simp
  have h4 : xcK fixL 1 = 0 := by
    unfold xcK
    rw [show fixL.getD 1 default = ⟨usd, 10, 950000⟩ from rfl, show fixL.getD (1 - 1) default = ⟨usd, 0, 900000⟩ from rfl, h2]
    unfold befB
    rw [kEq]
    simp
  unfold tabE
  rw [if_neg (by show ¬ 1000 < 2; omega)]
  show (if xcK fixL 0 ≠ 0 then xcK fixL 0 else if xcK fixL 1 ≠ 0 then xcK fixL 1 else 0) = 0
  rw [h3, h4]
  rfl
theorem fix_at9 : atE fixL usd 9 = 0 ∧ atV fixL usd 9 = 900000 := by
  have e : atE fixL usd 9 = 0 := by unfold atE; rw [fix_E]; decide +kernel
  exact ⟨e, by unfold atV; rw [e]; decide +kernel⟩
theorem fix_at10 : atE fixL usd 10 = 0 ∧ atV fixL usd 10 = 950000 := by
  have e : atE fixL usd 10 = 0 := by unfold atE; rw [fix_E]; decide +kernel
  exact ⟨e, by unfold atV; rw [e]; decide +kernel⟩
theorem fix_chf : atE fixL chf 10 = 6 := by unfold atE; rw [fix_E]; decide +kernel
theorem fix_cv9 : cvE fixL 1000 usd 9 0 = 0 ∧ cvV fixL 1000 usd 9 0 = 900 := by
  unfold cvE cvV
  rw [fix_at9.1, fix_at9.2]
  decide +kernel
theorem fix_cv10 : cvE fixL 1000 usd 10 0 = 0 ∧ cvV fixL 1000 usd 10 0 = 950 := by
  unfold cvE cvV
  rw [fix_at10.1, fix_at10.2]
  decide +kernel
attribute [local irreducible] ResLe AVle ArgLe ArgP EntLe Dle ResH ArgQ strEq strLt
theorem fixed_t : ACalls XX 14 [] (.dat (xcD fixL)) := by
  refine ACalls.of (n := Try.f14.ntmps) XX_ok Try.func14 rfl (by kernel_rfl) rfl rfl (Nat.le_of_ble_eq_true rfl) ?_
  (repeat' (first | refine Zs ?_ | refine Zk ?_ | ((first | refine Za ?_ | refine Zr ?_ | refine Zp ?_ | refine Ze ?_ | refine Zd ?_ | refine Zn ?_ | refine Zc ?_ | refine UnK.mk (fun b hb => ?_)); conv => whnf) | (refine Zb (fun h => ?_) (fun h => ?_) <;> first | exact Zx | (conv => whnf))))
  refine ResLe.own rfl (Nat.le_refl _) fun i hi j hj => ?_
  rcases (show i = 0 ∨ i = 1 by omega) with rfl | rfl <;> rcases (show j = 0 ∨ j = 1 ∨ j = 2 by omega) with rfl | rfl | rfl <;> exact Dle.of_eq rfl
theorem awake_t : ACalls XX 8 [] (bA true) := by
  have k0 := fixed_t
  have hm : (3 : Nat) ≤ maxLen := by decide
  have k1 := convert_t fixL 1000 usd 9 0 (by show 2 ≤ 9223372036854775807; omega) hm
  have k2 := convert_t fixL 1000 usd 10 0 (by show 2 ≤ 9223372036854775807; omega) hm
  have k3 := at_t fixL chf 10 (by show 2 ≤ 9223372036854775807; omega) hm
  rw [fix_cv9.1, fix_cv9.2] at k1
  rw [fix_cv10.1, fix_cv10.2] at k2
  rw [fix_chf] at k3
  refine ACalls.of (n := Try.f8.ntmps) XX_ok Try.func8 rfl (by kernel_rfl) rfl rfl (Nat.le_of_ble_eq_true rfl) ?_
  (repeat' (first | refine Zs ?_ | refine Zk ?_ | ((first | refine Za ?_ | refine Zr ?_ | refine Zp ?_ | refine Ze ?_ | refine Zd ?_ | refine Zn ?_ | refine Zc ?_ | refine UnK.mk (fun b hb => ?_) | refine Zy k0 ?_ | refine Zy k1 ?_ | refine Zy k2 ?_ | refine Zy k3 ?_); conv => whnf) | (refine Zb (fun h => ?_) (fun h => ?_) <;> first | exact Zx | (conv => whnf))))
  all_goals first | (exfalso; omega) | ((repeat' (first | exact trivial | exact Zm | exact Zl | exact ResLe.row0 rfl | exact Zi (by first | rfl | omega) | exact Zo (h := by first | rfl | omega) | exact ResLe.bo rfl rfl Iff.rfl | refine ResLe.agg ?_ | refine And.intro ?_ ?_ | ((conv => whnf); first | exact Zl | exact ResLe.row0 rfl | exact Zi (by first | rfl | omega) | exact Zo (h := by first | rfl | omega) | exact ResLe.bo rfl rfl Iff.rfl | refine ResLe.agg ?_ | refine And.intro ?_ ?_))); done)
theorem size5 (x : Int) : (cur5.getD x.toNat default).size ≤ maxLen := by
  have hm : (3 : Nat) ≤ maxLen := by decide
  refine Nat.le_trans ?_ hm
  rcases (show x.toNat = 0 ∨ x.toNat = 1 ∨ x.toNat = 2 ∨ x.toNat = 3 ∨ x.toNat = 4 ∨ 5 ≤ x.toNat by omega) with h | h | h | h | h | h
  · rw [h]; decide
  · rw [h]; decide
  · rw [h]; decide
  · rw [h]; decide
  · rw [h]; decide
  · rw [List.getD_eq_getElem?_getD, List.getElem?_eq_none (by simpa [cur5] using h)]; decide
theorem lawLater_t (l : List Int) (a c day f p : Int) (hl : l.length ≤ 9223372036854775807) : ACalls XX 3 [.dat (ilst l), iA a, iA c, iA day, iA f, iA p] (bA true) := by
  have k1 := table_t l hl
  obtain ⟨-, o1, o2⟩ := tabS_ok (l.take 40) 3 (Nat.le_refl _)
  generalize (tabS (l.take 40) 3).2 = us at *
  have k2 := within_t day 120 (by omega) (by omega)
  have k3 := within_t f 100 (by omega) (by omega)
  have k4 := within_t p 1000 (by omega) (by omega)
  have k5 := cur5_t c
  have k6 := awake_t
  have d1 := Int.emod_nonneg day (show (120 : Int) ≠ 0 by omega)
  have d2 := Int.emod_lt_of_pos day (show (0 : Int) < 120 by omega)
  have f1 := Int.emod_nonneg f (show (100 : Int) ≠ 0 by omega)
  have f2 := Int.emod_lt_of_pos f (show (0 : Int) < 100 by omega)
  have p1 := Int.emod_nonneg p (show (1000 : Int) ≠ 0 by omega)
  have p2 := Int.emod_lt_of_pos p (show (0 : Int) < 1000 by omega)
  have hs := size5 (c % 5)
  generalize day % 120 = dy at *
  generalize f % 100 = fr at *
  generalize p % 1000 = pr at *
  generalize cur5.getD (c % 5).toNat default = cc at *
  obtain ⟨e1, e2⟩ := later_cv (us := us) (by omega) o2 (f := 1000 + fr) (p := 1 + pr) (by omega) (by omega) (a.tmod 1000000) cc (day := dy) (by omega) 2
  have c1 := convert_t us (a.tmod 1000000) cc dy 2 (by omega) hs
  have c2 := convert_t (us ++ [⟨usd, 1000 + fr, 1 + pr⟩]) (a.tmod 1000000) cc dy 2 (by simp; omega) hs
  rw [e1, e2] at c2
  generalize cvE us (a.tmod 1000000) cc dy 2 = E at *
  generalize cvV us (a.tmod 1000000) cc dy 2 = V at *
  refine ACalls.of (n := Try.f3.ntmps) XX_ok Try.func3 rfl (by kernel_rfl) rfl rfl (Nat.le_of_ble_eq_true rfl) ?_
  (repeat' (first | refine Zs ?_ | refine Zk ?_ | ((first | refine Zas 5 ?_ | refine Zr ?_ | refine Zp ?_ | refine Ze ?_ | refine Zd ?_ | refine W.drawT dr3 rfl mixed rfl ?_ | refine Zn ?_ | refine Zc ?_ | refine UnK.mk (fun b hb => ?_) | refine Zy k1 ?_ | refine Zz k1 ?_ | refine Zy k2 ?_ | refine Zz k2 ?_ | refine Zy k3 ?_ | refine Zz k3 ?_ | refine Zy k4 ?_ | refine Zz k4 ?_); conv => whnf) | (refine Zb (fun h => ?_) (fun h => ?_) <;> first | exact Zx | (conv => whnf))))
  all_goals (conv => whnf)
  refine (W.pubD 15 33 rfl rfl ?_)
  conv => whnf
  refine (W.reK 15 (.dat (xcD (us ++ [⟨usd, 1000 + fr, 1 + pr⟩]))) (((RowIs.cat (RowIs.cat (RowIs.nil xcE 3 0 _ rfl) (RowIs.refl xcE 3 us)) (RowIs.one (x := (⟨usd, 1000 + fr, 1 + pr⟩ : Xc)) fun j hj => ?_)).congr (by simp)).dat) ?_)
  · rcases (show j = 0 ∨ j = 1 ∨ j = 2 by omega) with rfl | rfl | rfl <;> exact Dle.of_eq rfl
  conv => whnf
  (repeat' (first | refine Zs ?_ | refine Zk ?_ | ((first | refine Za ?_ | refine Zr ?_ | refine Zp ?_ | refine Ze ?_ | refine Zd ?_ | refine W.drawT dr3 rfl mixed rfl ?_ | refine Zn ?_ | refine Zc ?_ | refine UnK.mk (fun b hb => ?_) | refine Zy k5 ?_ | refine Zz k5 ?_ | refine Zy c1 ?_ | refine Zz c1 ?_ | refine Zy c2 ?_ | refine Zz c2 ?_ | refine Zy k6 ?_ | refine Zz k6 ?_); conv => whnf) | (refine Zb (fun h => ?_) (fun h => ?_) <;> first | exact Zx | (conv => whnf))))
  all_goals first | (exfalso; omega) | ((repeat' (first | exact trivial | exact Zm | exact Zl | exact ResLe.row0 rfl | exact Zi (by first | rfl | omega) | exact Zo (h := by first | rfl | omega) | exact ResLe.bo rfl rfl Iff.rfl | refine ResLe.agg ?_ | refine And.intro ?_ ?_ | ((conv => whnf); first | exact Zl | exact ResLe.row0 rfl | exact Zi (by first | rfl | omega) | exact Zo (h := by first | rfl | omega) | exact ResLe.bo rfl rfl Iff.rfl | refine ResLe.agg ?_ | refine And.intro ?_ ?_))); done)
end Go.Proofs.Ytdfnnbamkaldmaa
