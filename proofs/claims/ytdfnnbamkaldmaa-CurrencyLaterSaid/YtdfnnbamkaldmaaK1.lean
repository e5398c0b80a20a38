/- Currency, by descriptions: tables in range. -/
import Derived.Test.YtdfnnbamkaldmaaW0
import Derived.Test.YtdfnnbamkaldmaaMon
namespace Go.Proofs.Ytdfnnbamkaldmaa
open Go Go.RowKit
set_option linter.unusedVariables false
set_option linter.unusedSimpArgs false
set_option maxRecDepth 100000
set_option maxHeartbeats 4000000
attribute [local irreducible] ResLe AVle ArgLe ArgP EntLe Dle ResH ArgQ strEq strLt

theorem kgetD_in {α : Type} [Inhabited α] {us : List α} {k : Nat} (h : k < us.length) : us.getD k default ∈ us := by
  rw [List.getD_eq_getElem?_getD, List.getElem?_eq_getElem h]; exact List.getElem_mem _
structure Xc where
  c : ByteArray
  f : Int
  p : Int
instance : Inhabited Xc := ⟨⟨⟨#[]⟩, 0, 0⟩⟩
def xcE (x : Xc) (j : Nat) : D := match j with
  | 0 => .val (.string x.c)
  | 1 => .val (.int .i64 x.f)
  | _ => .val (.int .i64 x.p)
abbrev xcD (us : List Xc) : D := .lst 3 us.length (rowF xcE us)
abbrev sK (c : ByteArray) : AV := .dat (.val (.string c))
abbrev xcA (x : Xc) : AV := .agg [sK x.c, iA x.f, iA x.p]
def curOk (c : ByteArray) : Prop := c.size = 3 ∧ ∀ i, i < 3 → 65 ≤ byteAt c i ∧ byteAt c i ≤ 90
noncomputable instance (c : ByteArray) : Decidable (curOk c) := Classical.propDecidable _
theorem isCur_t (c : ByteArray) : ACalls XX 20 [sK c] (bA (decide (curOk c))) := by
  refine ACalls.of (n := Try.f20.ntmps) XX_ok Try.func20 rfl (by kernel_rfl) rfl rfl (Nat.le_of_ble_eq_true rfl) ?_
  (repeat' (first | refine Zs ?_ | refine Zk ?_ | ((first | refine Za ?_ | refine Zr ?_ | refine Zp ?_ | refine Ze ?_ | refine Zd ?_ | refine Zn ?_ | refine Zc ?_ | refine UnK.mk (fun b hb => ?_)); conv => whnf) | (refine Zb (fun h => ?_) (fun h => ?_) <;> first | exact Zx | (conv => whnf))))
  · (repeat' (first | exact trivial | exact Zm | exact Zl | exact ResLe.row0 rfl | exact Zi (by unfold curOk; omega) | exact Zo (h := by unfold curOk; omega) | exact ResLe.bo rfl rfl Iff.rfl | refine ResLe.agg ?_ | refine And.intro ?_ ?_ | ((conv => whnf); first | exact Zl | exact ResLe.row0 rfl | exact Zi (by unfold curOk; omega) | exact Zo (h := by unfold curOk; omega) | exact ResLe.bo rfl rfl Iff.rfl | refine ResLe.agg ?_ | refine And.intro ?_ ?_)))
  have hs : c.size = 3 := by omega
  refine (W.loopK (ι := Nat) [0, 8] [] (fun k => [(9, iA k)]) (fun _ => []) (fun k => k ≤ 3 ∧ ∀ i, i < k → 65 ≤ byteAt c i ∧ byteAt c i ≤ 90) (fun k => 3 - k) 0 ⟨Nat.zero_le _, fun i hi => absurd hi (by omega)⟩ ?_ ?_ ?_)
  · exact Yz
  · exact Yz
  conv => whnf
  intro k ⟨hk, hz⟩
  (repeat' (first | refine Zs ?_ | refine Zk ?_ | ((first | refine Za ?_ | refine Zr ?_ | refine Zp ?_ | refine Ze ?_ | refine Zd ?_ | refine Zn ?_ | refine Zc ?_ | refine UnK.mk (fun b hb => ?_)); conv => whnf) | (refine Zb (fun h => ?_) (fun h => ?_) <;> first | exact Zx | (conv => whnf))))
  all_goals (try dsimp only [Int.toNat_natCast] at *)
  (repeat' (first | refine Zs ?_ | refine Zk ?_ | ((first | refine Za ?_ | refine Zr ?_ | refine Zp ?_ | refine Ze ?_ | refine Zd ?_ | refine Zn ?_ | refine Zc ?_ | refine UnK.mk (fun b hb => ?_)); conv => whnf) | (refine Zb (fun h => ?_) (fun h => ?_) <;> first | exact Zx | (conv => whnf))))
  all_goals first | (have hn : ¬ curOk c := fun hc => (by have := hc.2 k (by omega); omega)); (repeat' (first | exact trivial | exact Zm | exact Zl | exact ResLe.row0 rfl | exact Zi (by simp [hn]) | exact Zo (h := by simp [hn]) | exact ResLe.bo rfl rfl Iff.rfl | refine ResLe.agg ?_ | refine And.intro ?_ ?_ | ((conv => whnf); first | exact Zl | exact ResLe.row0 rfl | exact Zi (by simp [hn]) | exact Zo (h := by simp [hn]) | exact ResLe.bo rfl rfl Iff.rfl | refine ResLe.agg ?_ | refine And.intro ?_ ?_))); done | skip
  all_goals first | (have hn : curOk c := ⟨hs, fun i hi => hz i (by omega)⟩); (repeat' (first | exact trivial | exact Zm | exact Zl | exact ResLe.row0 rfl | exact Zi (by simp [hn]) | exact Zo (h := by simp [hn]) | exact ResLe.bo rfl rfl Iff.rfl | refine ResLe.agg ?_ | refine And.intro ?_ ?_ | ((conv => whnf); first | exact Zl | exact ResLe.row0 rfl | exact Zi (by simp [hn]) | exact Zo (h := by simp [hn]) | exact ResLe.bo rfl rfl Iff.rfl | refine ResLe.agg ?_ | refine And.intro ?_ ?_))); done | skip
  all_goals (refine ⟨k + 1, ⟨by omega, fun i hi => ?_⟩, by omega, ?_, ?_, ?_, ?_⟩)
  all_goals first | exact Yz | skip
  all_goals (by_cases hik : i = k
             · subst hik; omega
             · exact hz i (by omega))
def befB (a b : Xc) : Bool := if strEq a.c b.c = true then decide (a.f < b.f) else strLt a.c b.c
theorem before_t (a b : Xc) : ACalls XX 21 [xcA a, xcA b] (bA (befB a b)) := by
  refine ACalls.of (n := Try.f21.ntmps) XX_ok Try.func21 rfl (by kernel_rfl) rfl rfl (Nat.le_of_ble_eq_true rfl) ?_
  (repeat' (first | refine Zs ?_ | refine Zk ?_ | ((first | refine Za ?_ | refine Zr ?_ | refine Zp ?_ | refine Ze ?_ | refine Zd ?_ | refine Zn ?_ | refine Zc ?_ | refine UnK.mk (fun b hb => ?_)); conv => whnf) | (refine Zb (fun h => ?_) (fun h => ?_) <;> first | exact Zx | (conv => whnf))))
  · have e : befB a b = strLt a.c b.c := if_neg (by rw [h]; decide)
    rw [e]
    (repeat' (first | exact trivial | exact Zm | exact Zl | exact ResLe.row0 rfl | exact Zi (by first | rfl | omega) | exact Zo (h := by first | rfl | omega) | exact ResLe.bo rfl rfl Iff.rfl | refine ResLe.agg ?_ | refine And.intro ?_ ?_ | ((conv => whnf); first | exact Zl | exact ResLe.row0 rfl | exact Zi (by first | rfl | omega) | exact Zo (h := by first | rfl | omega) | exact ResLe.bo rfl rfl Iff.rfl | refine ResLe.agg ?_ | refine And.intro ?_ ?_)))
  · have e : befB a b = decide (a.f < b.f) := if_pos h
    rw [e]
    (repeat' (first | exact trivial | exact Zm | exact Zl | exact ResLe.row0 rfl | exact Zi (by first | rfl | omega) | exact Zo (h := by first | rfl | omega) | exact ResLe.bo rfl rfl Iff.rfl | refine ResLe.agg ?_ | refine And.intro ?_ ?_ | ((conv => whnf); first | exact Zl | exact ResLe.row0 rfl | exact Zi (by first | rfl | omega) | exact Zo (h := by first | rfl | omega) | exact ResLe.bo rfl rfl Iff.rfl | refine ResLe.agg ?_ | refine And.intro ?_ ?_)))
abbrev eur : ByteArray := ⟨#[69, 85, 82]⟩
abbrev usd : ByteArray := ⟨#[85, 83, 68]⟩
noncomputable def xcR (x : Xc) : Int := if ¬ curOk x.c ∨ strEq x.c eur = true then 1 else if x.f < 0 ∨ 36524 < x.f ∨ x.p < 1 ∨ 1000000000 < x.p then 2 else 0
noncomputable def xcK (us : List Xc) (i : Nat) : Int := if xcR (us.getD i default) ≠ 0 then xcR (us.getD i default) else if 0 < i ∧ befB (us.getD (i - 1) default) (us.getD i default) = false then 9 else 0
noncomputable def xcF (us : List Xc) : Nat → Nat → Int
  | 0, _ => 0
  | m + 1, i => if xcK us i ≠ 0 then xcK us i else xcF us m (i + 1)
noncomputable def tabE (us : List Xc) : Int := if 1000 < us.length then 8 else xcF us us.length 0
theorem xcF_step (us : List Xc) {k : Nat} (h : k < us.length) : xcF us (us.length - k) k = if xcK us k ≠ 0 then xcK us k else xcF us (us.length - (k + 1)) (k + 1) := by
  rw [show us.length - k = (us.length - (k + 1)) + 1 by omega]
  rfl
theorem xcF_end (us : List Xc) : xcF us (us.length - us.length) us.length = 0 := by rw [Nat.sub_self]; rfl
theorem tabE_t (us : List Xc) (hL : us.length ≤ 9223372036854775807) : ACalls XX 15 [.dat (xcD us)] (iA (tabE us)) := by
  by_cases h8 : 1000 < us.length
  · refine ACalls.of (n := Try.f15.ntmps) XX_ok Try.func15 rfl (by kernel_rfl) rfl rfl (Nat.le_of_ble_eq_true rfl) ?_
    (repeat' (first | refine Zs ?_ | refine Zk ?_ | ((first | refine Za ?_ | refine Zr ?_ | refine Zp ?_ | refine Ze ?_ | refine Zd ?_ | refine W.drawT dr15 rfl mixed rfl ?_ | refine Zn ?_ | refine Zc ?_ | refine UnK.mk (fun b hb => ?_)); conv => whnf) | (refine Zb (fun h => ?_) (fun h => ?_) <;> first | exact Zx | (conv => whnf))))
    all_goals first | (exfalso; omega) | skip
    all_goals (repeat' (first | exact trivial | exact Zm | exact Zl | exact ResLe.row0 rfl | exact Zi (by simp [tabE, h8]) | exact Zo (h := by simp [tabE, h8]) | exact ResLe.bo rfl rfl Iff.rfl | refine ResLe.agg ?_ | refine And.intro ?_ ?_ | ((conv => whnf); first | exact Zl | exact ResLe.row0 rfl | exact Zi (by simp [tabE, h8]) | exact Zo (h := by simp [tabE, h8]) | exact ResLe.bo rfl rfl Iff.rfl | refine ResLe.agg ?_ | refine And.intro ?_ ?_)))
  have e8 : tabE us = xcF us us.length 0 := if_neg h8
  rw [e8]
  refine ACalls.of (n := Try.f15.ntmps) XX_ok Try.func15 rfl (by kernel_rfl) rfl rfl (Nat.le_of_ble_eq_true rfl) ?_
  (repeat' (first | refine Zs ?_ | refine Zk ?_ | ((first | refine Za ?_ | refine Zr ?_ | refine Zp ?_ | refine Ze ?_ | refine Zd ?_ | refine W.drawT dr15 rfl mixed rfl ?_ | refine Zn ?_ | refine Zc ?_ | refine UnK.mk (fun b hb => ?_)); conv => whnf) | (refine Zb (fun h => ?_) (fun h => ?_) <;> first | exact Zx | (conv => whnf))))
  all_goals first | (exfalso; omega) | skip
  refine (W.loopK (ι := Nat) [0, 8, 9] [] (fun k => [(10, iA k)]) (fun _ => []) (fun k => k ≤ us.length ∧ xcF us (us.length - k) k = xcF us us.length 0) (fun k => us.length - k) 0 ⟨Nat.zero_le _, rfl⟩ ?_ ?_ ?_)
  · exact Yz
  · exact Yz
  conv => whnf
  intro k ⟨hk, hz⟩
  by_cases hk' : k < us.length
  · rw [xcF_step us hk'] at hz
    have e : 0 < k → ((k : Int) - 1).toNat = k - 1 := by omega
    have k1 := isCur_t (us.getD k default).c
    have k2 := before_t (us.getD (k - 1) default) (us.getD k default)
    by_cases o1 : curOk (us.getD k default).c
    rotate_left
    · have hr : xcR (us.getD k default) = 1 := if_pos (.inl o1)
      have ha : xcK us k = 1 := by unfold xcK; rw [hr, if_pos (by decide)]
      rw [ha, if_pos (by decide)] at hz
      rw [decide_eq_false o1] at k1
      (repeat' (first | refine Zs ?_ | refine Zk ?_ | ((first | refine Za ?_ | refine Zr ?_ | refine Zp ?_ | refine Ze ?_ | refine Zd ?_ | refine W.drawT dr15 rfl mixed rfl ?_ | refine Zn ?_ | refine Zc ?_ | refine UnK.mk (fun b hb => ?_) | refine Zy k1 ?_ | refine Zz k1 ?_); conv => whnf) | (refine Zb (fun h => ?_) (fun h => ?_) <;> first | exact Zx | (conv => whnf))))
      all_goals (try dsimp only [Int.toNat_natCast] at *)
      (repeat' (first | refine Zs ?_ | refine Zk ?_ | ((first | refine Za ?_ | refine Zr ?_ | refine Zp ?_ | refine Ze ?_ | refine Zd ?_ | refine W.drawT dr15 rfl mixed rfl ?_ | refine Zn ?_ | refine Zc ?_ | refine UnK.mk (fun b hb => ?_) | refine Zy k1 ?_ | refine Zz k1 ?_); conv => whnf) | (refine Zb (fun h => ?_) (fun h => ?_) <;> first | exact Zx | (conv => whnf))))
      all_goals first | (exfalso; omega) | ((repeat' (first | exact trivial | exact Zm | exact Zl | exact ResLe.row0 rfl | exact Zi (by exact hz) | exact Zo (h := by exact hz) | exact ResLe.bo rfl rfl Iff.rfl | refine ResLe.agg ?_ | refine And.intro ?_ ?_ | ((conv => whnf); first | exact Zl | exact ResLe.row0 rfl | exact Zi (by exact hz) | exact Zo (h := by exact hz) | exact ResLe.bo rfl rfl Iff.rfl | refine ResLe.agg ?_ | refine And.intro ?_ ?_))); done)
    rw [decide_eq_true o1] at k1
    cases o2 : strEq (us.getD k default).c eur
    rotate_left
    · have hr : xcR (us.getD k default) = 1 := if_pos (.inr o2)
      have ha : xcK us k = 1 := by unfold xcK; rw [hr, if_pos (by decide)]
      rw [ha, if_pos (by decide)] at hz
      (repeat' (first | refine Zs ?_ | refine Zk ?_ | ((first | refine Za ?_ | refine Zr ?_ | refine Zp ?_ | refine Ze ?_ | refine Zd ?_ | refine W.drawT dr15 rfl mixed rfl ?_ | refine Zn ?_ | refine Zc ?_ | refine UnK.mk (fun b hb => ?_) | refine Zy k1 ?_ | refine Zz k1 ?_); conv => whnf) | (refine Zb (fun h => ?_) (fun h => ?_) <;> first | exact Zx | (conv => whnf))))
      all_goals (try dsimp only [Int.toNat_natCast] at *)
      (repeat' (first | refine Zs ?_ | refine Zk ?_ | ((first | refine Za ?_ | refine Zr ?_ | refine Zp ?_ | refine Ze ?_ | refine Zd ?_ | refine W.drawT dr15 rfl mixed rfl ?_ | refine Zn ?_ | refine Zc ?_ | refine UnK.mk (fun b hb => ?_) | refine Zy k1 ?_ | refine Zz k1 ?_); conv => whnf) | (refine Zb (fun h => ?_) (fun h => ?_) <;> first | exact Zx | (conv => whnf))))
      all_goals first | (exfalso; omega) | (exfalso; exact absurd (o2.symm.trans ‹strEq (us.getD k default).c eur = false›) (by decide)) | ((repeat' (first | exact trivial | exact Zm | exact Zl | exact ResLe.row0 rfl | exact Zi (by exact hz) | exact Zo (h := by exact hz) | exact ResLe.bo rfl rfl Iff.rfl | refine ResLe.agg ?_ | refine And.intro ?_ ?_ | ((conv => whnf); first | exact Zl | exact ResLe.row0 rfl | exact Zi (by exact hz) | exact Zo (h := by exact hz) | exact ResLe.bo rfl rfl Iff.rfl | refine ResLe.agg ?_ | refine And.intro ?_ ?_))); done)
    have hr1 : xcR (us.getD k default) = if (us.getD k default).f < 0 ∨ 36524 < (us.getD k default).f ∨ (us.getD k default).p < 1 ∨ 1000000000 < (us.getD k default).p then 2 else 0 := by
      unfold xcR
      rw [if_neg (by rw [o2]; simpa using o1)]
    by_cases o3 : (us.getD k default).f < 0 ∨ 36524 < (us.getD k default).f ∨ (us.getD k default).p < 1 ∨ 1000000000 < (us.getD k default).p
    · rw [if_pos o3] at hr1
      have ha : xcK us k = 2 := by unfold xcK; rw [hr1, if_pos (by decide)]
      rw [ha, if_pos (by decide)] at hz
      (repeat' (first | refine Zs ?_ | refine Zk ?_ | ((first | refine Za ?_ | refine Zr ?_ | refine Zp ?_ | refine Ze ?_ | refine Zd ?_ | refine W.drawT dr15 rfl mixed rfl ?_ | refine Zn ?_ | refine Zc ?_ | refine UnK.mk (fun b hb => ?_) | refine Zy k1 ?_ | refine Zz k1 ?_); conv => whnf) | (refine Zb (fun h => ?_) (fun h => ?_) <;> first | exact Zx | (conv => whnf))))
      all_goals (try dsimp only [Int.toNat_natCast] at *)
      (repeat' (first | refine Zs ?_ | refine Zk ?_ | ((first | refine Za ?_ | refine Zr ?_ | refine Zp ?_ | refine Ze ?_ | refine Zd ?_ | refine W.drawT dr15 rfl mixed rfl ?_ | refine Zn ?_ | refine Zc ?_ | refine UnK.mk (fun b hb => ?_) | refine Zy k1 ?_ | refine Zz k1 ?_); conv => whnf) | (refine Zb (fun h => ?_) (fun h => ?_) <;> first | exact Zx | (conv => whnf))))
      all_goals first | (exfalso; omega) | (exfalso; exact absurd (o2.symm.trans ‹strEq (us.getD k default).c eur = true›) (by decide)) | ((repeat' (first | exact trivial | exact Zm | exact Zl | exact ResLe.row0 rfl | exact Zi (by exact hz) | exact Zo (h := by exact hz) | exact ResLe.bo rfl rfl Iff.rfl | refine ResLe.agg ?_ | refine And.intro ?_ ?_ | ((conv => whnf); first | exact Zl | exact ResLe.row0 rfl | exact Zi (by exact hz) | exact Zo (h := by exact hz) | exact ResLe.bo rfl rfl Iff.rfl | refine ResLe.agg ?_ | refine And.intro ?_ ?_))); done)
    rw [if_neg o3] at hr1
    have ha : xcK us k = if 0 < k ∧ befB (us.getD (k - 1) default) (us.getD k default) = false then 9 else 0 := by unfold xcK; rw [hr1, if_neg (by decide)]
    by_cases o9 : 0 < k ∧ befB (us.getD (k - 1) default) (us.getD k default) = false
    · rw [ha, if_pos o9, if_pos (by decide)] at hz
      rw [o9.2] at k2
      rw [← e o9.1] at k2
      (repeat' (first | refine Zs ?_ | refine Zk ?_ | ((first | refine Za ?_ | refine Zr ?_ | refine Zp ?_ | refine Ze ?_ | refine Zd ?_ | refine W.drawT dr15 rfl mixed rfl ?_ | refine Zn ?_ | refine Zc ?_ | refine UnK.mk (fun b hb => ?_) | refine Zy k1 ?_ | refine Zz k1 ?_ | refine Zy k2 ?_ | refine Zz k2 ?_); conv => whnf) | (refine Zb (fun h => ?_) (fun h => ?_) <;> first | exact Zx | (conv => whnf))))
      all_goals (try dsimp only [Int.toNat_natCast] at *)
      (repeat' (first | refine Zs ?_ | refine Zk ?_ | ((first | refine Za ?_ | refine Zr ?_ | refine Zp ?_ | refine Ze ?_ | refine Zd ?_ | refine W.drawT dr15 rfl mixed rfl ?_ | refine Zn ?_ | refine Zc ?_ | refine UnK.mk (fun b hb => ?_) | refine Zy k1 ?_ | refine Zz k1 ?_ | refine Zy k2 ?_ | refine Zz k2 ?_); conv => whnf) | (refine Zb (fun h => ?_) (fun h => ?_) <;> first | exact Zx | (conv => whnf))))
      all_goals first | (exfalso; omega) | (exfalso; exact absurd (o2.symm.trans ‹strEq (us.getD k default).c eur = true›) (by decide)) | ((repeat' (first | exact trivial | exact Zm | exact Zl | exact ResLe.row0 rfl | exact Zi (by exact hz) | exact Zo (h := by exact hz) | exact ResLe.bo rfl rfl Iff.rfl | refine ResLe.agg ?_ | refine And.intro ?_ ?_ | ((conv => whnf); first | exact Zl | exact ResLe.row0 rfl | exact Zi (by exact hz) | exact Zo (h := by exact hz) | exact ResLe.bo rfl rfl Iff.rfl | refine ResLe.agg ?_ | refine And.intro ?_ ?_))); done)
    · rw [ha, if_neg o9, if_neg (by decide)] at hz
      have k3 : 0 < k → ACalls XX 21 [xcA (us.getD ((k : Int) - 1).toNat default), xcA (us.getD k default)] (bA true) := fun h0 => by
        have h1 : befB (us.getD (k - 1) default) (us.getD k default) = true := by
          cases hb : befB (us.getD (k - 1) default) (us.getD k default)
          · exact absurd ⟨h0, hb⟩ o9
          · rfl
        rw [h1] at k2
        rw [e h0]
        exact k2
      (repeat' (first | refine Zs ?_ | refine Zk ?_ | ((first | refine Za ?_ | refine Zr ?_ | refine Zp ?_ | refine Ze ?_ | refine Zd ?_ | refine W.drawT dr15 rfl mixed rfl ?_ | refine Zn ?_ | refine Zc ?_ | refine UnK.mk (fun b hb => ?_) | refine Zy k1 ?_ | refine Zz k1 ?_ | refine Zy ((k3 (by omega))) ?_ | refine Zz ((k3 (by omega))) ?_); conv => whnf) | (refine Zb (fun h => ?_) (fun h => ?_) <;> first | exact Zx | (conv => whnf))))
      all_goals (try dsimp only [Int.toNat_natCast] at *)
      (repeat' (first | refine Zs ?_ | refine Zk ?_ | ((first | refine Za ?_ | refine Zr ?_ | refine Zp ?_ | refine Ze ?_ | refine Zd ?_ | refine W.drawT dr15 rfl mixed rfl ?_ | refine Zn ?_ | refine Zc ?_ | refine UnK.mk (fun b hb => ?_) | refine Zy k1 ?_ | refine Zz k1 ?_ | refine Zy ((k3 (by omega))) ?_ | refine Zz ((k3 (by omega))) ?_); conv => whnf) | (refine Zb (fun h => ?_) (fun h => ?_) <;> first | exact Zx | (conv => whnf))))
      all_goals (try dsimp only [Int.toNat_natCast] at *)
      all_goals first | (exfalso; omega) | (exfalso; exact absurd (o2.symm.trans ‹strEq (us.getD k default).c eur = true›) (by decide)) | skip
      all_goals (refine ⟨k + 1, ⟨by omega, hz⟩, by omega, ?_, ?_, ?_, ?_⟩)
      all_goals exact Yz
  · obtain rfl : k = us.length := by omega
    rw [xcF_end] at hz
    (repeat' (first | refine Zs ?_ | refine Zk ?_ | ((first | refine Za ?_ | refine Zr ?_ | refine Zp ?_ | refine Ze ?_ | refine Zd ?_ | refine W.drawT dr15 rfl mixed rfl ?_ | refine Zn ?_ | refine Zc ?_ | refine UnK.mk (fun b hb => ?_)); conv => whnf) | (refine Zb (fun h => ?_) (fun h => ?_) <;> first | exact Zx | (conv => whnf))))
    all_goals first | (exfalso; omega) | ((repeat' (first | exact trivial | exact Zm | exact Zl | exact ResLe.row0 rfl | exact Zi (by exact hz) | exact Zo (h := by exact hz) | exact ResLe.bo rfl rfl Iff.rfl | refine ResLe.agg ?_ | refine And.intro ?_ ?_ | ((conv => whnf); first | exact Zl | exact ResLe.row0 rfl | exact Zi (by exact hz) | exact Zo (h := by exact hz) | exact ResLe.bo rfl rfl Iff.rfl | refine ResLe.agg ?_ | refine And.intro ?_ ?_))); done)
end Go.Proofs.Ytdfnnbamkaldmaa
