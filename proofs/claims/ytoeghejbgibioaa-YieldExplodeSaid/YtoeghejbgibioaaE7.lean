/- The reference's Explode. -/
import Derived.Test.YtoeghejbgibioaaE6
namespace Go.Proofs.Ytoeghejbgibioaa
open Go Go.RowKit
set_option linter.unusedVariables false
set_option linter.unusedSimpArgs false
set_option maxRecDepth 100000
set_option maxHeartbeats 4000000
attribute [local irreducible] ResLe AVle ArgLe ArgP EntLe Dle ResH ArgQ strEq strLt

theorem ArgLe.row {X : Cx} {st : St} {r s n : Nat} {f : Nat → Nat → D} (hr : rowOf (st.ent r) s = some (n, f)) : ArgLe X st (.own r s 0 n) (.dat (.lst s n f)) := ArgLe.own hr (by omega) fun i hi j hj => by rw [Nat.zero_add]; exact Dle.refl _
def rcF (r : Rc) : Prop := r.ins.length ≤ 9223372036854775807 ∧ r.outs.length ≤ 9223372036854775807 ∧ r.sc.length ≤ 9223372036854775807 ∧ (∀ y ∈ r.ins, y.c.size ≤ 9223372036854775807) ∧ ∀ y ∈ r.outs, y.c.size ≤ 9223372036854775807
structure GS where
  i : Nat
  cs : List ByteArray
theorem put_nd {out : List Nd} {x : Nd} {j : Nat} (hj : j ≤ out.length) {f : Nat → Nat → D} (hf : ∀ q, q < 2 → Dle (f 0 q) (ndE x q)) :
    AVle (.dat (.lst 2 (0 + ((j : Int) - 0).toNat + 1 + ((out.length : Int) - j).toNat) (catF (0 + ((j : Int) - 0).toNat + 1) (catF (0 + ((j : Int) - 0).toNat) (catF 0 (fun _ _ => .val undef) fun i q => rowF ndE out (Int.toNat 0 + i) q) f) fun i q => rowF ndE out (j + i) q))) (.dat (ndD (out.take j ++ x :: out.drop j))) := by
  have a := (RowIs.refl ndE 2 out).part (l := 0) (m := j) (k := ((j : Int) - 0).toNat) (by omega) hj
  have b := (RowIs.refl ndE 2 out).part (l := j) (m := out.length) (k := ((out.length : Int) - j).toNat) (by omega) (Nat.le_refl _)
  have c := ((RowIs.cat (RowIs.nil ndE 2 0 (fun _ _ => .val undef) rfl) a).cat (RowIs.one (enc := ndE) (s := 2) (x := x) hf)).cat b
  refine RowIs.dat (us := out.take j ++ x :: out.drop j) (c.congr ?_)
  simp
theorem rexplode_t (rs : List Rc) (c : ByteArray) (q : Int) (hL : rs.length ≤ 9223372036854775807) (hB : ∀ r ∈ rs, rcF r) (hcs : c.size ≤ 9223372036854775807) :
    ACalls XX 16 [.dat (rcD rs), sY c, iA q] (.tup [.dat (ndD (exN rs c q)), .dat (iD (exB rs c q)), iA (exE rs c q)]) := by
  by_cases h32 : 32 < rs.length
  · have hE : exE rs c q = 8 := if_pos h32
    obtain ⟨e1, e2⟩ := ex_no hE (by decide)
    rw [hE, e1, e2]
    refine ACalls.of (n := Try.f16.ntmps) XX_ok Try.func16 rfl (by kernel_rfl) rfl rfl (Nat.le_of_ble_eq_true rfl) ?_
    (repeat' (first | refine Zs ?_ | refine Zk ?_ | ((first | refine Za ?_ | refine Zr ?_ | refine Zp ?_ | refine Ze ?_ | refine Zd ?_ | refine W.drawT dr16 rfl mixed rfl ?_ | refine Zn ?_ | refine Zc ?_ | refine UnK.mk (fun b hb => ?_)); conv => whnf) | (refine Zb (fun h => ?_) (fun h => ?_) <;> first | exact Zx | (conv => whnf))))
    all_goals first | (exfalso; omega) | ((repeat' (first | exact trivial | exact Zm | exact Zl | exact ResLe.row0 rfl | exact Zi (by first | rfl | omega) | exact Zo (h := by first | rfl | omega) | exact ResLe.bo rfl rfl Iff.rfl | refine ResLe.agg ?_ | refine And.intro ?_ ?_ | ((conv => whnf); first | exact Zl | exact ResLe.row0 rfl | exact Zi (by first | rfl | omega) | exact Zo (h := by first | rfl | omega) | exact ResLe.bo rfl rfl Iff.rfl | refine ResLe.agg ?_ | refine And.intro ?_ ?_))); done)
  by_cases hF : exErr rs = 0
  rotate_left
  · have hE : exE rs c q = exErr rs := by unfold exE; rw [if_neg h32, if_pos hF]
    obtain ⟨e1, e2⟩ := ex_no hE hF
    rw [hE, e1, e2]
    refine ACalls.of (n := Try.f16.ntmps) XX_ok Try.func16 rfl (by kernel_rfl) rfl rfl (Nat.le_of_ble_eq_true rfl) ?_
    (repeat' (first | refine Zs ?_ | refine Zk ?_ | ((first | refine Za ?_ | refine Zr ?_ | refine Zp ?_ | refine Ze ?_ | refine Zd ?_ | refine W.drawT dr16 rfl mixed rfl ?_ | refine Zn ?_ | refine Zc ?_ | refine UnK.mk (fun b hb => ?_)); conv => whnf) | (refine Zb (fun h => ?_) (fun h => ?_) <;> first | exact Zx | (conv => whnf))))
    all_goals first | (exfalso; omega) | skip
    refine (W.loopK (ι := Nat) [0, 1, 2] [] (fun k => [(9, iA k)]) (fun _ => []) (fun k => k ≤ rs.length ∧ exF rs (rs.length - k) k = exErr rs) (fun k => rs.length - k) 0 ⟨Nat.zero_le _, rfl⟩ ?_ ?_ ?_)
    · exact Yz
    · exact Yz
    conv => whnf
    intro k ⟨hk, hz⟩
    by_cases hk' : k < rs.length
    · rw [exF_step rs hk'] at hz
      obtain ⟨l1, l2, l3, l4, l5⟩ := hB _ (ygetD_in hk')
      have hv := yrecipe_t (rs.getD k default) l1 l2 l3 l4 l5
      have e : 0 < k → ((k : Int) - 1).toNat = k - 1 := by omega
      by_cases hr : yrOk (rs.getD k default)
      rotate_left
      · have ha : exA rs k = 1 := if_pos hr
        rw [ha, if_pos (by decide)] at hz
        have hy : yrErr (rs.getD k default) = 1 := if_neg hr
        rw [hy] at hv
        (repeat' (first | refine Zs ?_ | refine Zk ?_ | ((first | refine Za ?_ | refine Zr ?_ | refine Zp ?_ | refine Ze ?_ | refine Zd ?_ | refine W.drawT dr16 rfl mixed rfl ?_ | refine Zn ?_ | refine Zc ?_ | refine UnK.mk (fun b hb => ?_)); conv => whnf) | (refine Zb (fun h => ?_) (fun h => ?_) <;> first | exact Zx | (conv => whnf))))
        all_goals (try dsimp only [Int.toNat_natCast] at *)
        (repeat' (first | refine Zs ?_ | refine Zk ?_ | ((first | refine Za ?_ | refine Zr ?_ | refine Zp ?_ | refine Ze ?_ | refine Zd ?_ | refine W.drawT dr16 rfl mixed rfl ?_ | refine Zn ?_ | refine Zc ?_ | refine UnK.mk (fun b hb => ?_) | refine Zy hv ?_ | refine Zz hv ?_); conv => whnf) | (refine Zb (fun h => ?_) (fun h => ?_) <;> first | exact Zx | (conv => whnf))))
        all_goals first | (exfalso; omega) | ((repeat' (first | exact trivial | exact Zm | exact Zl | exact ResLe.row0 rfl | exact Zi (by first | rfl | omega) | exact Zo (h := by first | rfl | omega) | exact ResLe.bo rfl rfl Iff.rfl | refine ResLe.agg ?_ | refine And.intro ?_ ?_ | ((conv => whnf); first | exact Zl | exact ResLe.row0 rfl | exact Zi (by first | rfl | omega) | exact Zo (h := by first | rfl | omega) | exact ResLe.bo rfl rfl Iff.rfl | refine ResLe.agg ?_ | refine And.intro ?_ ?_))); done)
      · have hy : yrErr (rs.getD k default) = 0 := if_pos hr
        rw [hy] at hv
        have ha : exA rs k = if 0 < k ∧ (rs.getD k default).id ≤ (rs.getD (k - 1) default).id then 9 else 0 := if_neg (fun h => h hr)
        by_cases h9 : 0 < k ∧ (rs.getD k default).id ≤ (rs.getD (k - 1) default).id
        · rw [ha, if_pos h9, if_pos (by decide)] at hz
          have h9' : (rs.getD k default).id ≤ (rs.getD ((k : Int) - 1).toNat default).id := by rw [e h9.1]; exact h9.2
          (repeat' (first | refine Zs ?_ | refine Zk ?_ | ((first | refine Za ?_ | refine Zr ?_ | refine Zp ?_ | refine Ze ?_ | refine Zd ?_ | refine W.drawT dr16 rfl mixed rfl ?_ | refine Zn ?_ | refine Zc ?_ | refine UnK.mk (fun b hb => ?_)); conv => whnf) | (refine Zb (fun h => ?_) (fun h => ?_) <;> first | exact Zx | (conv => whnf))))
          all_goals (try dsimp only [Int.toNat_natCast] at *)
          (repeat' (first | refine Zs ?_ | refine Zk ?_ | ((first | refine Za ?_ | refine Zr ?_ | refine Zp ?_ | refine Ze ?_ | refine Zd ?_ | refine W.drawT dr16 rfl mixed rfl ?_ | refine Zn ?_ | refine Zc ?_ | refine UnK.mk (fun b hb => ?_) | refine Zy hv ?_ | refine Zz hv ?_); conv => whnf) | (refine Zb (fun h => ?_) (fun h => ?_) <;> first | exact Zx | (conv => whnf))))
          all_goals (try dsimp only [Int.toNat_natCast] at *)
          (repeat' (first | refine Zs ?_ | refine Zk ?_ | ((first | refine Za ?_ | refine Zr ?_ | refine Zp ?_ | refine Ze ?_ | refine Zd ?_ | refine W.drawT dr16 rfl mixed rfl ?_ | refine Zn ?_ | refine Zc ?_ | refine UnK.mk (fun b hb => ?_)); conv => whnf) | (refine Zb (fun h => ?_) (fun h => ?_) <;> first | exact Zx | (conv => whnf))))
          all_goals first | (exfalso; omega) | ((repeat' (first | exact trivial | exact Zm | exact Zl | exact ResLe.row0 rfl | exact Zi (by first | rfl | omega) | exact Zo (h := by first | rfl | omega) | exact ResLe.bo rfl rfl Iff.rfl | refine ResLe.agg ?_ | refine And.intro ?_ ?_ | ((conv => whnf); first | exact Zl | exact ResLe.row0 rfl | exact Zi (by first | rfl | omega) | exact Zo (h := by first | rfl | omega) | exact ResLe.bo rfl rfl Iff.rfl | refine ResLe.agg ?_ | refine And.intro ?_ ?_))); done)
        · rw [ha, if_neg h9, if_neg (by decide)] at hz
          have h9' : 0 < k → ¬ (rs.getD k default).id ≤ (rs.getD ((k : Int) - 1).toNat default).id := fun h => by rw [e h]; exact fun hh => h9 ⟨h, hh⟩
          (repeat' (first | refine Zs ?_ | refine Zk ?_ | ((first | refine Za ?_ | refine Zr ?_ | refine Zp ?_ | refine Ze ?_ | refine Zd ?_ | refine W.drawT dr16 rfl mixed rfl ?_ | refine Zn ?_ | refine Zc ?_ | refine UnK.mk (fun b hb => ?_)); conv => whnf) | (refine Zb (fun h => ?_) (fun h => ?_) <;> first | exact Zx | (conv => whnf))))
          all_goals (try dsimp only [Int.toNat_natCast] at *)
          (repeat' (first | refine Zs ?_ | refine Zk ?_ | ((first | refine Za ?_ | refine Zr ?_ | refine Zp ?_ | refine Ze ?_ | refine Zd ?_ | refine W.drawT dr16 rfl mixed rfl ?_ | refine Zn ?_ | refine Zc ?_ | refine UnK.mk (fun b hb => ?_) | refine Zy hv ?_ | refine Zz hv ?_); conv => whnf) | (refine Zb (fun h => ?_) (fun h => ?_) <;> first | exact Zx | (conv => whnf))))
          all_goals (try dsimp only [Int.toNat_natCast] at *)
          (repeat' (first | refine Zs ?_ | refine Zk ?_ | ((first | refine Za ?_ | refine Zr ?_ | refine Zp ?_ | refine Ze ?_ | refine Zd ?_ | refine W.drawT dr16 rfl mixed rfl ?_ | refine Zn ?_ | refine Zc ?_ | refine UnK.mk (fun b hb => ?_)); conv => whnf) | (refine Zb (fun h => ?_) (fun h => ?_) <;> first | exact Zx | (conv => whnf))))
          all_goals first | (exfalso; omega) | skip
          all_goals (refine ⟨k + 1, ⟨by omega, hz⟩, by omega, ?_, ?_, ?_, ?_⟩)
          all_goals exact Yz
    obtain rfl : k = rs.length := by omega
    rw [exF_end] at hz
    exact absurd hz.symm hF
  have hR := exErr_ok hF (by omega)
  have k1 := ycode8_t c hcs
  by_cases hc : cOk c ∧ 1 ≤ q ∧ q ≤ 1000000000
  rotate_left
  · have hE : exE rs c q = 2 := by unfold exE; rw [if_neg h32, if_neg (by simpa using hF), if_pos hc]
    obtain ⟨e1, e2⟩ := ex_no hE (by decide)
    rw [hE, e1, e2]
    refine ACalls.of (n := Try.f16.ntmps) XX_ok Try.func16 rfl (by kernel_rfl) rfl rfl (Nat.le_of_ble_eq_true rfl) ?_
    (repeat' (first | refine Zs ?_ | refine Zk ?_ | ((first | refine Za ?_ | refine Zr ?_ | refine Zp ?_ | refine Ze ?_ | refine Zd ?_ | refine W.drawT dr16 rfl mixed rfl ?_ | refine Zn ?_ | refine Zc ?_ | refine UnK.mk (fun b hb => ?_)); conv => whnf) | (refine Zb (fun h => ?_) (fun h => ?_) <;> first | exact Zx | (conv => whnf))))
    all_goals first | (exfalso; omega) | skip
    refine (W.loopK (ι := Nat) [0, 1, 2] [] (fun k => [(9, iA k)]) (fun _ => []) (fun k => k ≤ rs.length ∧ exF rs (rs.length - k) k = exErr rs) (fun k => rs.length - k) 0 ⟨Nat.zero_le _, rfl⟩ ?_ ?_ ?_)
    · exact Yz
    · exact Yz
    conv => whnf
    intro k ⟨hk, hz⟩
    by_cases hk' : k < rs.length
    · rw [exF_step rs hk'] at hz
      obtain ⟨l1, l2, l3, l4, l5⟩ := hB _ (ygetD_in hk')
      have hv := yrecipe_t (rs.getD k default) l1 l2 l3 l4 l5
      have e : 0 < k → ((k : Int) - 1).toNat = k - 1 := by omega
      by_cases hr : yrOk (rs.getD k default)
      rotate_left
      · have ha : exA rs k = 1 := if_pos hr
        rw [ha, if_pos (by decide)] at hz
        have hy : yrErr (rs.getD k default) = 1 := if_neg hr
        rw [hy] at hv
        (repeat' (first | refine Zs ?_ | refine Zk ?_ | ((first | refine Za ?_ | refine Zr ?_ | refine Zp ?_ | refine Ze ?_ | refine Zd ?_ | refine W.drawT dr16 rfl mixed rfl ?_ | refine Zn ?_ | refine Zc ?_ | refine UnK.mk (fun b hb => ?_)); conv => whnf) | (refine Zb (fun h => ?_) (fun h => ?_) <;> first | exact Zx | (conv => whnf))))
        all_goals (try dsimp only [Int.toNat_natCast] at *)
        (repeat' (first | refine Zs ?_ | refine Zk ?_ | ((first | refine Za ?_ | refine Zr ?_ | refine Zp ?_ | refine Ze ?_ | refine Zd ?_ | refine W.drawT dr16 rfl mixed rfl ?_ | refine Zn ?_ | refine Zc ?_ | refine UnK.mk (fun b hb => ?_) | refine Zy hv ?_ | refine Zz hv ?_); conv => whnf) | (refine Zb (fun h => ?_) (fun h => ?_) <;> first | exact Zx | (conv => whnf))))
        all_goals first | (exfalso; omega) | ((repeat' (first | exact trivial | exact Zm | exact Zl | exact ResLe.row0 rfl | exact Zi (by first | rfl | omega) | exact Zo (h := by first | rfl | omega) | exact ResLe.bo rfl rfl Iff.rfl | refine ResLe.agg ?_ | refine And.intro ?_ ?_ | ((conv => whnf); first | exact Zl | exact ResLe.row0 rfl | exact Zi (by first | rfl | omega) | exact Zo (h := by first | rfl | omega) | exact ResLe.bo rfl rfl Iff.rfl | refine ResLe.agg ?_ | refine And.intro ?_ ?_))); done)
      · have hy : yrErr (rs.getD k default) = 0 := if_pos hr
        rw [hy] at hv
        have ha : exA rs k = if 0 < k ∧ (rs.getD k default).id ≤ (rs.getD (k - 1) default).id then 9 else 0 := if_neg (fun h => h hr)
        by_cases h9 : 0 < k ∧ (rs.getD k default).id ≤ (rs.getD (k - 1) default).id
        · rw [ha, if_pos h9, if_pos (by decide)] at hz
          have h9' : (rs.getD k default).id ≤ (rs.getD ((k : Int) - 1).toNat default).id := by rw [e h9.1]; exact h9.2
          (repeat' (first | refine Zs ?_ | refine Zk ?_ | ((first | refine Za ?_ | refine Zr ?_ | refine Zp ?_ | refine Ze ?_ | refine Zd ?_ | refine W.drawT dr16 rfl mixed rfl ?_ | refine Zn ?_ | refine Zc ?_ | refine UnK.mk (fun b hb => ?_)); conv => whnf) | (refine Zb (fun h => ?_) (fun h => ?_) <;> first | exact Zx | (conv => whnf))))
          all_goals (try dsimp only [Int.toNat_natCast] at *)
          (repeat' (first | refine Zs ?_ | refine Zk ?_ | ((first | refine Za ?_ | refine Zr ?_ | refine Zp ?_ | refine Ze ?_ | refine Zd ?_ | refine W.drawT dr16 rfl mixed rfl ?_ | refine Zn ?_ | refine Zc ?_ | refine UnK.mk (fun b hb => ?_) | refine Zy hv ?_ | refine Zz hv ?_); conv => whnf) | (refine Zb (fun h => ?_) (fun h => ?_) <;> first | exact Zx | (conv => whnf))))
          all_goals (try dsimp only [Int.toNat_natCast] at *)
          (repeat' (first | refine Zs ?_ | refine Zk ?_ | ((first | refine Za ?_ | refine Zr ?_ | refine Zp ?_ | refine Ze ?_ | refine Zd ?_ | refine W.drawT dr16 rfl mixed rfl ?_ | refine Zn ?_ | refine Zc ?_ | refine UnK.mk (fun b hb => ?_)); conv => whnf) | (refine Zb (fun h => ?_) (fun h => ?_) <;> first | exact Zx | (conv => whnf))))
          all_goals first | (exfalso; omega) | ((repeat' (first | exact trivial | exact Zm | exact Zl | exact ResLe.row0 rfl | exact Zi (by first | rfl | omega) | exact Zo (h := by first | rfl | omega) | exact ResLe.bo rfl rfl Iff.rfl | refine ResLe.agg ?_ | refine And.intro ?_ ?_ | ((conv => whnf); first | exact Zl | exact ResLe.row0 rfl | exact Zi (by first | rfl | omega) | exact Zo (h := by first | rfl | omega) | exact ResLe.bo rfl rfl Iff.rfl | refine ResLe.agg ?_ | refine And.intro ?_ ?_))); done)
        · rw [ha, if_neg h9, if_neg (by decide)] at hz
          have h9' : 0 < k → ¬ (rs.getD k default).id ≤ (rs.getD ((k : Int) - 1).toNat default).id := fun h => by rw [e h]; exact fun hh => h9 ⟨h, hh⟩
          (repeat' (first | refine Zs ?_ | refine Zk ?_ | ((first | refine Za ?_ | refine Zr ?_ | refine Zp ?_ | refine Ze ?_ | refine Zd ?_ | refine W.drawT dr16 rfl mixed rfl ?_ | refine Zn ?_ | refine Zc ?_ | refine UnK.mk (fun b hb => ?_)); conv => whnf) | (refine Zb (fun h => ?_) (fun h => ?_) <;> first | exact Zx | (conv => whnf))))
          all_goals (try dsimp only [Int.toNat_natCast] at *)
          (repeat' (first | refine Zs ?_ | refine Zk ?_ | ((first | refine Za ?_ | refine Zr ?_ | refine Zp ?_ | refine Ze ?_ | refine Zd ?_ | refine W.drawT dr16 rfl mixed rfl ?_ | refine Zn ?_ | refine Zc ?_ | refine UnK.mk (fun b hb => ?_) | refine Zy hv ?_ | refine Zz hv ?_); conv => whnf) | (refine Zb (fun h => ?_) (fun h => ?_) <;> first | exact Zx | (conv => whnf))))
          all_goals (try dsimp only [Int.toNat_natCast] at *)
          (repeat' (first | refine Zs ?_ | refine Zk ?_ | ((first | refine Za ?_ | refine Zr ?_ | refine Zp ?_ | refine Ze ?_ | refine Zd ?_ | refine W.drawT dr16 rfl mixed rfl ?_ | refine Zn ?_ | refine Zc ?_ | refine UnK.mk (fun b hb => ?_)); conv => whnf) | (refine Zb (fun h => ?_) (fun h => ?_) <;> first | exact Zx | (conv => whnf))))
          all_goals first | (exfalso; omega) | skip
          all_goals (refine ⟨k + 1, ⟨by omega, hz⟩, by omega, ?_, ?_, ?_, ?_⟩)
          all_goals exact Yz
    obtain rfl : k = rs.length := by omega
    rw [exF_end] at hz
    by_cases hc1 : cOk c
    · rw [decide_eq_true hc1] at k1
      have : ¬ (1 ≤ q ∧ q ≤ 1000000000) := fun hh => hc ⟨hc1, hh⟩
      (repeat' (first | refine Zs ?_ | refine Zk ?_ | ((first | refine Za ?_ | refine Zr ?_ | refine Zp ?_ | refine Ze ?_ | refine Zd ?_ | refine W.drawT dr16 rfl mixed rfl ?_ | refine Zn ?_ | refine Zc ?_ | refine UnK.mk (fun b hb => ?_) | refine Zy k1 ?_ | refine Zz k1 ?_); conv => whnf) | (refine Zb (fun h => ?_) (fun h => ?_) <;> first | exact Zx | (conv => whnf))))
      all_goals first | (exfalso; omega) | ((repeat' (first | exact trivial | exact Zm | exact Zl | exact ResLe.row0 rfl | exact Zi (by first | rfl | omega) | exact Zo (h := by first | rfl | omega) | exact ResLe.bo rfl rfl Iff.rfl | refine ResLe.agg ?_ | refine And.intro ?_ ?_ | ((conv => whnf); first | exact Zl | exact ResLe.row0 rfl | exact Zi (by first | rfl | omega) | exact Zo (h := by first | rfl | omega) | exact ResLe.bo rfl rfl Iff.rfl | refine ResLe.agg ?_ | refine And.intro ?_ ?_))); done)
    · rw [decide_eq_false hc1] at k1
      (repeat' (first | refine Zs ?_ | refine Zk ?_ | ((first | refine Za ?_ | refine Zr ?_ | refine Zp ?_ | refine Ze ?_ | refine Zd ?_ | refine W.drawT dr16 rfl mixed rfl ?_ | refine Zn ?_ | refine Zc ?_ | refine UnK.mk (fun b hb => ?_) | refine Zy k1 ?_ | refine Zz k1 ?_); conv => whnf) | (refine Zb (fun h => ?_) (fun h => ?_) <;> first | exact Zx | (conv => whnf))))
      all_goals first | (exfalso; omega) | ((repeat' (first | exact trivial | exact Zm | exact Zl | exact ResLe.row0 rfl | exact Zi (by first | rfl | omega) | exact Zo (h := by first | rfl | omega) | exact ResLe.bo rfl rfl Iff.rfl | refine ResLe.agg ?_ | refine And.intro ?_ ?_ | ((conv => whnf); first | exact Zl | exact ResLe.row0 rfl | exact Zi (by first | rfl | omega) | exact Zo (h := by first | rfl | omega) | exact ResLe.bo rfl rfl Iff.rfl | refine ResLe.agg ?_ | refine And.intro ?_ ?_))); done)
  obtain ⟨hc1, hc2, hc3⟩ := hc
  rw [decide_eq_true hc1] at k1
  refine ACalls.of (n := Try.f16.ntmps) XX_ok Try.func16 rfl (by kernel_rfl) rfl rfl (Nat.le_of_ble_eq_true rfl) ?_
  (repeat' (first | refine Zs ?_ | refine Zk ?_ | ((first | refine Za ?_ | refine Zr ?_ | refine Zp ?_ | refine Ze ?_ | refine Zd ?_ | refine W.drawT dr16 rfl mixed rfl ?_ | refine Zn ?_ | refine Zc ?_ | refine UnK.mk (fun b hb => ?_)); conv => whnf) | (refine Zb (fun h => ?_) (fun h => ?_) <;> first | exact Zx | (conv => whnf))))
  all_goals first | (exfalso; omega) | skip
  refine (W.loopK (ι := Nat) [0, 1, 2] [] (fun k => [(9, iA k)]) (fun _ => []) (fun k => k ≤ rs.length ∧ exF rs (rs.length - k) k = exErr rs) (fun k => rs.length - k) 0 ⟨Nat.zero_le _, rfl⟩ ?_ ?_ ?_)
  · exact Yz
  · exact Yz
  conv => whnf
  intro k ⟨hk, hz⟩
  by_cases hk' : k < rs.length
  · rw [exF_step rs hk'] at hz
    obtain ⟨l1, l2, l3, l4, l5⟩ := hB _ (ygetD_in hk')
    have hv := yrecipe_t (rs.getD k default) l1 l2 l3 l4 l5
    have e : 0 < k → ((k : Int) - 1).toNat = k - 1 := by omega
    by_cases hr : yrOk (rs.getD k default)
    rotate_left
    · have ha : exA rs k = 1 := if_pos hr
      rw [ha, if_pos (by decide)] at hz
      have hy : yrErr (rs.getD k default) = 1 := if_neg hr
      rw [hy] at hv
      (repeat' (first | refine Zs ?_ | refine Zk ?_ | ((first | refine Za ?_ | refine Zr ?_ | refine Zp ?_ | refine Ze ?_ | refine Zd ?_ | refine W.drawT dr16 rfl mixed rfl ?_ | refine Zn ?_ | refine Zc ?_ | refine UnK.mk (fun b hb => ?_)); conv => whnf) | (refine Zb (fun h => ?_) (fun h => ?_) <;> first | exact Zx | (conv => whnf))))
      all_goals (try dsimp only [Int.toNat_natCast] at *)
      (repeat' (first | refine Zs ?_ | refine Zk ?_ | ((first | refine Za ?_ | refine Zr ?_ | refine Zp ?_ | refine Ze ?_ | refine Zd ?_ | refine W.drawT dr16 rfl mixed rfl ?_ | refine Zn ?_ | refine Zc ?_ | refine UnK.mk (fun b hb => ?_) | refine Zy hv ?_ | refine Zz hv ?_); conv => whnf) | (refine Zb (fun h => ?_) (fun h => ?_) <;> first | exact Zx | (conv => whnf))))
      all_goals first | (exfalso; omega) | ((repeat' (first | exact trivial | exact Zm | exact Zl | exact ResLe.row0 rfl | exact Zi (by first | rfl | omega) | exact Zo (h := by first | rfl | omega) | exact ResLe.bo rfl rfl Iff.rfl | refine ResLe.agg ?_ | refine And.intro ?_ ?_ | ((conv => whnf); first | exact Zl | exact ResLe.row0 rfl | exact Zi (by first | rfl | omega) | exact Zo (h := by first | rfl | omega) | exact ResLe.bo rfl rfl Iff.rfl | refine ResLe.agg ?_ | refine And.intro ?_ ?_))); done)
    · have hy : yrErr (rs.getD k default) = 0 := if_pos hr
      rw [hy] at hv
      have ha : exA rs k = if 0 < k ∧ (rs.getD k default).id ≤ (rs.getD (k - 1) default).id then 9 else 0 := if_neg (fun h => h hr)
      by_cases h9 : 0 < k ∧ (rs.getD k default).id ≤ (rs.getD (k - 1) default).id
      · rw [ha, if_pos h9, if_pos (by decide)] at hz
        have h9' : (rs.getD k default).id ≤ (rs.getD ((k : Int) - 1).toNat default).id := by rw [e h9.1]; exact h9.2
        (repeat' (first | refine Zs ?_ | refine Zk ?_ | ((first | refine Za ?_ | refine Zr ?_ | refine Zp ?_ | refine Ze ?_ | refine Zd ?_ | refine W.drawT dr16 rfl mixed rfl ?_ | refine Zn ?_ | refine Zc ?_ | refine UnK.mk (fun b hb => ?_)); conv => whnf) | (refine Zb (fun h => ?_) (fun h => ?_) <;> first | exact Zx | (conv => whnf))))
        all_goals (try dsimp only [Int.toNat_natCast] at *)
        (repeat' (first | refine Zs ?_ | refine Zk ?_ | ((first | refine Za ?_ | refine Zr ?_ | refine Zp ?_ | refine Ze ?_ | refine Zd ?_ | refine W.drawT dr16 rfl mixed rfl ?_ | refine Zn ?_ | refine Zc ?_ | refine UnK.mk (fun b hb => ?_) | refine Zy hv ?_ | refine Zz hv ?_); conv => whnf) | (refine Zb (fun h => ?_) (fun h => ?_) <;> first | exact Zx | (conv => whnf))))
        all_goals (try dsimp only [Int.toNat_natCast] at *)
        (repeat' (first | refine Zs ?_ | refine Zk ?_ | ((first | refine Za ?_ | refine Zr ?_ | refine Zp ?_ | refine Ze ?_ | refine Zd ?_ | refine W.drawT dr16 rfl mixed rfl ?_ | refine Zn ?_ | refine Zc ?_ | refine UnK.mk (fun b hb => ?_)); conv => whnf) | (refine Zb (fun h => ?_) (fun h => ?_) <;> first | exact Zx | (conv => whnf))))
        all_goals first | (exfalso; omega) | ((repeat' (first | exact trivial | exact Zm | exact Zl | exact ResLe.row0 rfl | exact Zi (by first | rfl | omega) | exact Zo (h := by first | rfl | omega) | exact ResLe.bo rfl rfl Iff.rfl | refine ResLe.agg ?_ | refine And.intro ?_ ?_ | ((conv => whnf); first | exact Zl | exact ResLe.row0 rfl | exact Zi (by first | rfl | omega) | exact Zo (h := by first | rfl | omega) | exact ResLe.bo rfl rfl Iff.rfl | refine ResLe.agg ?_ | refine And.intro ?_ ?_))); done)
      · rw [ha, if_neg h9, if_neg (by decide)] at hz
        have h9' : 0 < k → ¬ (rs.getD k default).id ≤ (rs.getD ((k : Int) - 1).toNat default).id := fun h => by rw [e h]; exact fun hh => h9 ⟨h, hh⟩
        (repeat' (first | refine Zs ?_ | refine Zk ?_ | ((first | refine Za ?_ | refine Zr ?_ | refine Zp ?_ | refine Ze ?_ | refine Zd ?_ | refine W.drawT dr16 rfl mixed rfl ?_ | refine Zn ?_ | refine Zc ?_ | refine UnK.mk (fun b hb => ?_)); conv => whnf) | (refine Zb (fun h => ?_) (fun h => ?_) <;> first | exact Zx | (conv => whnf))))
        all_goals (try dsimp only [Int.toNat_natCast] at *)
        (repeat' (first | refine Zs ?_ | refine Zk ?_ | ((first | refine Za ?_ | refine Zr ?_ | refine Zp ?_ | refine Ze ?_ | refine Zd ?_ | refine W.drawT dr16 rfl mixed rfl ?_ | refine Zn ?_ | refine Zc ?_ | refine UnK.mk (fun b hb => ?_) | refine Zy hv ?_ | refine Zz hv ?_); conv => whnf) | (refine Zb (fun h => ?_) (fun h => ?_) <;> first | exact Zx | (conv => whnf))))
        all_goals (try dsimp only [Int.toNat_natCast] at *)
        (repeat' (first | refine Zs ?_ | refine Zk ?_ | ((first | refine Za ?_ | refine Zr ?_ | refine Zp ?_ | refine Ze ?_ | refine Zd ?_ | refine W.drawT dr16 rfl mixed rfl ?_ | refine Zn ?_ | refine Zc ?_ | refine UnK.mk (fun b hb => ?_)); conv => whnf) | (refine Zb (fun h => ?_) (fun h => ?_) <;> first | exact Zx | (conv => whnf))))
        all_goals first | (exfalso; omega) | skip
        all_goals (refine ⟨k + 1, ⟨by omega, hz⟩, by omega, ?_, ?_, ?_, ?_⟩)
        all_goals exact Yz
  obtain rfl : k = rs.length := by omega
  rw [exF_end] at hz
  have hrl : rs.length ≤ 32 := hR.1
  clear hz hk hk' hL hB h32
  (repeat' (first | refine Zs ?_ | refine Zk ?_ | ((first | refine Za ?_ | refine Zr ?_ | refine Zp ?_ | refine Ze ?_ | refine Zd ?_ | refine W.drawT dr16 rfl mixed rfl ?_ | refine Zn ?_ | refine Zc ?_ | refine UnK.mk (fun b hb => ?_) | refine Zy k1 ?_ | refine Zz k1 ?_); conv => whnf) | (refine Zb (fun h => ?_) (fun h => ?_) <;> first | exact Zx | (conv => whnf))))
  all_goals first | (exfalso; omega) | skip
  refine (W.loopK (ι := GS) [0, 1, 2] [] (fun s => [(12, iA s.i), (11, .own 79 1 0 s.cs.length)]) (fun s => [(79, .row 9 1 s.cs.length (rowF ybsE s.cs))]) (fun s => s.i ≤ s.cs.length ∧ CI rs c s.i s.cs) (fun s => 300 - s.i) ⟨0, [c]⟩ ⟨Nat.zero_le _, CI.start rs c⟩ ?_ ?_ ?_)
  · exact Yz
  · (repeat' (first | exact trivial | exact Yr | exact Yi (by first | rfl | omega) | exact Yo (by first | rfl | omega) | exact Yd | exact Yn | exact Ye (by first | rfl | omega) | exact ⟨_, rfl, Yf, rfl⟩ | refine ⟨_, rfl, Yb ?_, rfl⟩ | refine ⟨_, rfl, Yw (by first | rfl | omega) ?_, rfl⟩ | refine And.intro ?_ ?_))
    intro a ha b hb
    obtain rfl : a = 0 := by omega
    obtain rfl : b = 0 := by omega
    exact Dle.refl _
  conv => whnf
  intro ⟨i, cs⟩ ⟨p1, p2⟩
  dsimp only at p1 p2 ⊢
  have hl := p2.len hR
  by_cases hi : i < cs.length
  · have hr := rrec_t rs (cs.getD (0 + i) default) hR
    have ez : cs.getD (0 + i) default = cs.getD i default := by rw [Nat.zero_add]
    have hrc := p2.rch _ (ygetD_in hi)
    by_cases hm : mk rs (cs.getD i default) < rs.length
    rotate_left
    · have e1 : recI rs (cs.getD (0 + i) default) = -1 := by rw [ez]; exact if_neg hm
      rw [e1] at hr
      have hn := p2.next fun hh => absurd hh hm
      (repeat' (first | refine Zs ?_ | refine Zk ?_ | ((first | refine Zas 17 ?_ | refine Zr ?_ | refine Zp ?_ | refine Ze ?_ | refine Zd ?_ | refine W.drawT dr16 rfl mixed rfl ?_ | refine Zn ?_ | refine Zc ?_ | refine UnK.mk (fun b hb => ?_)); conv => whnf) | (refine Zb (fun h => ?_) (fun h => ?_) <;> first | exact Zx | (conv => whnf))))
      all_goals first | (exfalso; omega) | skip
      (repeat' (first | refine Zs ?_ | refine Zk ?_ | ((first | refine Za ?_ | refine Zr ?_ | refine Zp ?_ | refine Ze ?_ | refine Zd ?_ | refine W.drawT dr16 rfl mixed rfl ?_ | refine Zn ?_ | refine Zc ?_ | refine UnK.mk (fun b hb => ?_) | refine Zy hr ?_ | refine Zz hr ?_); conv => whnf) | (refine Zb (fun h => ?_) (fun h => ?_) <;> first | exact Zx | (conv => whnf))))
      all_goals first | (exfalso; omega) | skip
      refine (W.loopK (ι := Unit) [0, 1, 2, 11, 12, 13] [79] (fun _ => [(14, iA 0)]) (fun _ => []) (fun _ => True) (fun _ => 0) () trivial ?_ ?_ ?_)
      · exact Yz
      · exact Yz
      conv => whnf
      intro _ _
      (repeat' (first | refine Zs ?_ | refine Zk ?_ | ((first | refine Za ?_ | refine Zr ?_ | refine Zp ?_ | refine Ze ?_ | refine Zd ?_ | refine W.drawT dr16 rfl mixed rfl ?_ | refine Zn ?_ | refine Zc ?_ | refine UnK.mk (fun b hb => ?_)); conv => whnf) | (refine Zb (fun h => ?_) (fun h => ?_) <;> first | exact Zx | (conv => whnf))))
      all_goals first | (exfalso; omega) | skip
      refine ⟨⟨i + 1, cs⟩, ⟨by simp only; omega, hn⟩, by simp only; omega, ?_, ?_, ?_, ?_⟩
      all_goals exact Yz
    have e1 : recI rs (cs.getD (0 + i) default) = mk rs (cs.getD i default) := by rw [ez]; exact if_pos hm
    rw [e1] at hr
    obtain ⟨a1, a2, _, _⟩ := hR.at hm
    have hst : ∀ x ∈ (rs.getD (mk rs (cs.getD i default)) default).ins, Rch rs c x.c := fun x hx => .step hrc hm hx
    obtain ⟨m, hmm⟩ : ∃ m, m = mk rs (cs.getD i default) := ⟨_, rfl⟩
    rw [← hmm] at hm a1 a2 hst hr
    (repeat' (first | refine Zs ?_ | refine Zk ?_ | ((first | refine Zas 17 ?_ | refine Zr ?_ | refine Zp ?_ | refine Ze ?_ | refine Zd ?_ | refine W.drawT dr16 rfl mixed rfl ?_ | refine Zn ?_ | refine Zc ?_ | refine UnK.mk (fun b hb => ?_)); conv => whnf) | (refine Zb (fun h => ?_) (fun h => ?_) <;> first | exact Zx | (conv => whnf))))
    all_goals first | (exfalso; omega) | skip
    (repeat' (first | refine Zs ?_ | refine Zk ?_ | ((first | refine Za ?_ | refine Zr ?_ | refine Zp ?_ | refine Ze ?_ | refine Zd ?_ | refine W.drawT dr16 rfl mixed rfl ?_ | refine Zn ?_ | refine Zc ?_ | refine UnK.mk (fun b hb => ?_) | refine Zy hr ?_ | refine Zz hr ?_); conv => whnf) | (refine Zb (fun h => ?_) (fun h => ?_) <;> first | exact Zx | (conv => whnf))))
    all_goals first | (exfalso; omega) | skip
    refine (W.loopK (ι := GS) [0, 1, 2, 12, 13] [] (fun s => [(14, iA s.i), (11, .own 79 1 0 s.cs.length)]) (fun s => [(79, .row 9 1 s.cs.length (rowF ybsE s.cs))]) (fun s => s.i ≤ (rs.getD m default).ins.length ∧ CI rs c i s.cs ∧ i < s.cs.length ∧ s.cs.getD i default = cs.getD i default ∧ ∀ t, t < s.i → ((rs.getD m default).ins.getD t default).c ∈ s.cs) (fun s => (rs.getD m default).ins.length - s.i) ⟨0, cs⟩ ⟨Nat.zero_le _, p2, hi, rfl, fun t ht => absurd ht (by simp)⟩ ?_ ?_ ?_)
    · exact Yz
    · exact Yz
    conv => whnf
    intro ⟨j, ds⟩ ⟨r1, r2, r3, r4, r5⟩
    dsimp only at r1 r2 r3 r4 r5 ⊢
    have hl2 := r2.len hR
    by_cases hj : j < (rs.getD m default).ins.length
    · have hx := ygetD_in hj
      have hix := rindex_t ds ((rs.getD m default).ins.getD j default).c (by omega)
      have hxr := hst _ hx
      by_cases hin : ((rs.getD m default).ins.getD j default).c ∈ ds
      · have e2 : idxI ds ((rs.getD m default).ins.getD j default).c = idxN ds ((rs.getD m default).ins.getD j default).c := if_pos (idxN_in hin)
        rw [e2] at hix
        have r6 : ∀ t, t < j + 1 → ((rs.getD m default).ins.getD t default).c ∈ ds := fun t ht => by
          by_cases htj : t = j
          · subst htj; exact hin
          · exact r5 t (by omega)
        (repeat' (first | refine Zs ?_ | refine Zk ?_ | ((first | refine Za ?_ | refine Zr ?_ | refine Zp ?_ | refine Ze ?_ | refine Zd ?_ | refine W.drawT dr16 rfl mixed rfl ?_ | refine Zn ?_ | refine Zc ?_ | refine UnK.mk (fun b hb => ?_)); conv => whnf) | (refine Zb (fun h => ?_) (fun h => ?_) <;> first | exact Zx | (conv => whnf))))
        all_goals (try dsimp only [Int.toNat_natCast] at *)
        (repeat' (first | refine Zs ?_ | refine Zk ?_ | ((first | refine Za ?_ | refine Zr ?_ | refine Zp ?_ | refine Ze ?_ | refine Zd ?_ | refine W.drawT dr16 rfl mixed rfl ?_ | refine Zn ?_ | refine Zc ?_ | refine UnK.mk (fun b hb => ?_) | refine ExCall.by (CallA.plain hix ⟨ArgLe.row rfl, ArgLe.refl rfl, trivial⟩ rfl) ?_); conv => whnf) | (refine Zb (fun h => ?_) (fun h => ?_) <;> first | exact Zx | (conv => whnf))))
        all_goals first | (exfalso; omega) | skip
        refine ⟨⟨j + 1, ds⟩, ⟨by simp only; omega, r2, r3, r4, r6⟩, by simp only; omega, ?_, ?_, ?_, ?_⟩
        all_goals exact Yz
      · have e2 : idxI ds ((rs.getD m default).ins.getD j default).c = -1 := if_neg (fun hh => hin (by
          have := idxN_at hh
          rw [← this]
          exact ygetD_in hh))
        rw [e2] at hix
        have r6 : ∀ t, t < j + 1 → ((rs.getD m default).ins.getD t default).c ∈ ds ++ [((rs.getD m default).ins.getD j default).c] := fun t ht => by
          by_cases htj : t = j
          · subst htj; simp
          · exact List.mem_append_left _ (r5 t (by omega))
        have r7 := r2.add hin hxr (by omega)
        have r8 : (ds ++ [((rs.getD m default).ins.getD j default).c]).getD i default = cs.getD i default := by
          rw [← r4, List.getD_eq_getElem?_getD, List.getD_eq_getElem?_getD, List.getElem?_append_left r3]; rfl
        (repeat' (first | refine Zs ?_ | refine Zk ?_ | ((first | refine Za ?_ | refine Zr ?_ | refine Zp ?_ | refine Ze ?_ | refine Zd ?_ | refine W.drawT dr16 rfl mixed rfl ?_ | refine Zn ?_ | refine Zc ?_ | refine UnK.mk (fun b hb => ?_)); conv => whnf) | (refine Zb (fun h => ?_) (fun h => ?_) <;> first | exact Zx | (conv => whnf))))
        all_goals (try dsimp only [Int.toNat_natCast] at *)
        (repeat' (first | refine Zs ?_ | refine Zk ?_ | ((first | refine Za ?_ | refine Zr ?_ | refine Zp ?_ | refine Ze ?_ | refine Zd ?_ | refine W.drawT dr16 rfl mixed rfl ?_ | refine Zn ?_ | refine Zc ?_ | refine UnK.mk (fun b hb => ?_) | refine ExCall.by (CallA.plain hix ⟨ArgLe.row rfl, ArgLe.refl rfl, trivial⟩ rfl) ?_); conv => whnf) | (refine Zb (fun h => ?_) (fun h => ?_) <;> first | exact Zx | (conv => whnf))))
        all_goals (try dsimp only [Int.toNat_natCast] at *)
        (repeat' (first | refine Zs ?_ | refine Zk ?_ | ((first | refine Za ?_ | refine Zr ?_ | refine Zp ?_ | refine Ze ?_ | refine Zd ?_ | refine W.drawT dr16 rfl mixed rfl ?_ | refine Zn ?_ | refine Zc ?_ | refine UnK.mk (fun b hb => ?_)); conv => whnf) | (refine Zb (fun h => ?_) (fun h => ?_) <;> first | exact Zx | (conv => whnf))))
        all_goals first | (exfalso; omega) | skip
        refine ⟨⟨j + 1, ds ++ [((rs.getD m default).ins.getD j default).c]⟩, ⟨by simp only; omega, r7, by simp; omega, r8, r6⟩, by simp only; omega, ?_, ?_, ?_, ?_⟩
        all_goals (try dsimp only)
        all_goals (repeat' (first | exact trivial | exact Yr | exact Yi (by first | rfl | (simp; done) | omega) | exact Yo (by first | rfl | (simp; done) | omega) | exact Yd | exact Yn | exact Ye (by first | rfl | (simp; done) | omega) | exact ⟨_, rfl, Yf, rfl⟩ | refine ⟨_, rfl, Yb ?_, rfl⟩ | refine ⟨_, rfl, Yw (by first | rfl | (simp; done) | omega) ?_, rfl⟩ | refine And.intro ?_ ?_))
        refine rowF_snoc rfl fun b hb => ?_
        obtain rfl : b = 0 := by omega
        exact Dle.refl _
    · have hn := r2.next fun _ x hx => by
        rw [r4, ← hmm] at hx
        obtain ⟨t, ht, rfl⟩ := List.getElem_of_mem hx
        have := r5 t (by omega)
        rwa [ygetD_of ht] at this
      (repeat' (first | refine Zs ?_ | refine Zk ?_ | ((first | refine Za ?_ | refine Zr ?_ | refine Zp ?_ | refine Ze ?_ | refine Zd ?_ | refine W.drawT dr16 rfl mixed rfl ?_ | refine Zn ?_ | refine Zc ?_ | refine UnK.mk (fun b hb => ?_)); conv => whnf) | (refine Zb (fun h => ?_) (fun h => ?_) <;> first | exact Zx | (conv => whnf))))
      all_goals (try dsimp only [Int.toNat_natCast] at *)
      all_goals first | (exfalso; omega) | skip
      refine ⟨⟨i + 1, ds⟩, ⟨by simp only; omega, hn⟩, by simp only; omega, ?_, ?_, ?_, ?_⟩
      all_goals exact Yz
  obtain rfl : i = cs.length := by omega
  have hCd := p2.done
  clear p1 p2 hi
  (repeat' (first | refine Zs ?_ | refine Zk ?_ | ((first | refine Zas 23 ?_ | refine Zr ?_ | refine Zp ?_ | refine Ze ?_ | refine Zd ?_ | refine W.drawT dr16 rfl mixed rfl ?_ | refine Zn ?_ | refine Zc ?_ | refine UnK.mk (fun b hb => ?_)); conv => whnf) | (refine Zb (fun h => ?_) (fun h => ?_) <;> first | exact Zx | (conv => whnf))))
  all_goals first | (exfalso; omega) | skip
  refine W.pubD 11 79 rfl rfl ?_
  conv => whnf
  have hcp := hCd.pos
  (repeat' (first | refine Zs ?_ | refine Zk ?_ | ((first | refine Zas 27 ?_ | refine Zr ?_ | refine Zp ?_ | refine Ze ?_ | refine Zd ?_ | refine W.drawT dr16 rfl mixed rfl ?_ | refine Zn ?_ | refine Zc ?_ | refine UnK.mk (fun b hb => ?_)); conv => whnf) | (refine Zb (fun h => ?_) (fun h => ?_) <;> first | exact Zx | (conv => whnf))))
  all_goals (try dsimp only [Int.toNat_natCast] at *)
  (repeat' (first | refine Zs ?_ | refine Zk ?_ | ((first | refine Zas 27 ?_ | refine Zr ?_ | refine Zp ?_ | refine Ze ?_ | refine Zd ?_ | refine W.drawT dr16 rfl mixed rfl ?_ | refine Zn ?_ | refine Zc ?_ | refine UnK.mk (fun b hb => ?_)); conv => whnf) | (refine Zb (fun h => ?_) (fun h => ?_) <;> first | exact Zx | (conv => whnf))))
  all_goals (try dsimp only [Int.toNat_natCast] at *)
  (repeat' (first | refine Zs ?_ | refine Zk ?_ | ((first | refine Zas 27 ?_ | refine Zr ?_ | refine Zp ?_ | refine Ze ?_ | refine Zd ?_ | refine W.drawT dr16 rfl mixed rfl ?_ | refine Zn ?_ | refine Zc ?_ | refine UnK.mk (fun b hb => ?_)); conv => whnf) | (refine Zb (fun h => ?_) (fun h => ?_) <;> first | exact Zx | (conv => whnf))))
  obtain ⟨K, hK⟩ := kh_of hR hc1 ⟨hc2, hc3⟩ hF hCd
  have hzI : ∀ n : Nat, RowIs iE 1 n (fun i j => D.val ((Value.int IntKind.i64 0).cells.toList.getD j undef)) (List.replicate n 0) := fun n => ⟨by simp, fun a ha b hb => by
    obtain rfl : b = 0 := by omega
    refine Dle.of_eq ?_
    show D.val (Value.int .i64 0) = .val (.int .i64 ((List.replicate n (0 : Int)).getD a default))
    rw [show (List.replicate n (0 : Int)).getD a default = 0 from rep_zero n a]⟩
  have hzB : RowIs bE 1 cs.length (fun i j => D.val ((Value.bool false).cells.toList.getD j undef)) (List.replicate cs.length false) := ⟨by simp, fun a ha b hb => by
    obtain rfl : b = 0 := by omega
    refine Dle.of_eq ?_
    show D.val (Value.bool false) = .val (.bool ((List.replicate cs.length false).getD a default))
    rw [show (List.replicate cs.length false).getD a default = false from rep_false _ a]⟩
  have hzS := (hzI cs.length).set (k := 0) (x := q) (ds := [.val (.int .i64 q)]) rfl (fun t ht => by
    obtain rfl : t = 0 := by omega
    exact Dle.refl _)
  have huG : unG (List.replicate cs.length false) = cs.length := by unfold unG; rw [List.countP_replicate]; simp
  clear hc1
  (repeat' (first | refine Zs ?_ | refine Zk ?_ | ((first | refine Za ?_ | refine Zr ?_ | refine Zp ?_ | refine Ze ?_ | refine Zd ?_ | refine W.drawT dr16 rfl mixed rfl ?_ | refine Zn ?_ | refine Zc ?_ | refine UnK.mk (fun b hb => ?_)); conv => whnf) | (refine Zb (fun h => ?_) (fun h => ?_) <;> first | exact Zx | (conv => whnf))))
  refine (W.loopK (ι := Nat × R4) [0, 11, 15, 16, 17] [] (fun s => [(19, iA s.1), (18, bA s.2.over)]) (fun s => [(132, .row 3 1 cs.length (rowF iE s.2.dem)), (138, .row 3 1 rs.length (rowF iE s.2.bat)), (141, .row 4 1 cs.length (rowF bE s.2.gone))]) (fun s => s.1 ≤ cs.length ∧ K s.2 ∧ s.1 + unG s.2.gone = cs.length) (fun s => cs.length - s.1) (0, r40 rs cs q) ⟨Nat.zero_le _, hK.k0, by simp only; unfold r40; simp only; omega⟩ ?_ ?_ ?_)
  · (repeat' (first | exact trivial | exact AVle.refl _ | exact AVle.bo rfl rfl (by simp [r40]) | refine And.intro ?_ ?_))
  · (repeat' (first | exact trivial | refine ⟨_, rfl, EntLe.row rfl ?_, rfl⟩ | refine And.intro ?_ ?_))
    · exact hzS.le
    · exact (hzI rs.length).le
    · exact hzB.le
  clear hzI hzB hzS huG
  conv => whnf
  intro ⟨m, s⟩ ⟨p1, p2, p3⟩
  have hrb := hK.rb _ p2
  obtain ⟨dl, bl, gl, dr, br⟩ := hrb
  dsimp only at p1 p2 p3 dl bl gl dr br ⊢
  by_cases hm : m < cs.length
  rotate_left
  · obtain rfl : m = cs.length := by omega
    obtain ⟨dem, bat, gone, over⟩ := s
    dsimp only at p2 p3 dl bl gl dr br ⊢
    have hall : ∀ i, i < cs.length → gone.getD i false = true := fun i hi => unG_zero (by omega) i (by omega)
    cases over with
    | true =>
      have hE := hK.k3 _ p2 hall rfl
      obtain ⟨e1, e2⟩ := ex_no hE (by decide)
      rw [hE, e1, e2]
      (repeat' (first | refine Zs ?_ | refine Zk ?_ | ((first | refine Za ?_ | refine Zr ?_ | refine Zp ?_ | refine Ze ?_ | refine Zd ?_ | refine W.drawT dr16 rfl mixed rfl ?_ | refine Zn ?_ | refine Zc ?_ | refine UnK.mk (fun b hb => ?_)); conv => whnf) | (refine Zb (fun h => ?_) (fun h => ?_) <;> first | exact Zx | (conv => whnf))))
      all_goals first | (exfalso; omega) | ((repeat' (first | exact trivial | exact Zm | exact Zl | exact ResLe.row0 rfl | exact Zi (by first | rfl | omega) | exact Zo (h := by first | rfl | omega) | exact ResLe.bo rfl rfl Iff.rfl | refine ResLe.agg ?_ | refine And.intro ?_ ?_ | ((conv => whnf); first | exact Zl | exact ResLe.row0 rfl | exact Zi (by first | rfl | omega) | exact Zo (h := by first | rfl | omega) | exact ResLe.bo rfl rfl Iff.rfl | refine ResLe.agg ?_ | refine And.intro ?_ ?_))); done)
    | false =>
      obtain ⟨hE, hEB, hEN⟩ := hK.k4 _ p2 hall rfl
      dsimp only at hEB hEN
      rw [hE, hEB]
      clear hall p2 p3 hK
      (repeat' (first | refine Zs ?_ | refine Zk ?_ | ((first | refine Za ?_ | refine Zr ?_ | refine Zp ?_ | refine Ze ?_ | refine Zd ?_ | refine W.drawT dr16 rfl mixed rfl ?_ | refine Zn ?_ | refine Zc ?_ | refine UnK.mk (fun b hb => ?_)); conv => whnf) | (refine Zb (fun h => ?_) (fun h => ?_) <;> first | exact Zx | (conv => whnf))))
      all_goals first | (exfalso; omega) | skip
      refine (W.loopK (ι := Nat × List Nd) [0, 11, 15, 16] [132, 138] (fun s => [(28, iA s.1), (27, .dat (ndD s.2))]) (fun _ => []) (fun s => s.1 ≤ cs.length ∧ s.2.Pairwise (fun a b => strLt a.c b.c = true) ∧ s.2.Perm (ndT rs cs dem s.1)) (fun s => cs.length - s.1) (0, []) ⟨Nat.zero_le _, List.Pairwise.nil, List.Perm.refl _⟩ ?_ ?_ ?_)
      · exact Yz
      · exact Yz
      conv => whnf
      intro ⟨i, us⟩ ⟨q1, q2, q3⟩
      dsimp only at q1 q2 q3 ⊢
      have hul : us.length ≤ i := by
        rw [q3.length_eq]
        unfold ndT
        rw [List.length_map]
        have := List.length_filter_le (ndQ rs cs dem) (List.range i)
        rwa [List.length_range] at this
      by_cases hi : i < cs.length
      rotate_left
      · obtain rfl : i = cs.length := by omega
        rw [hEN us q2 q3]
        (repeat' (first | refine Zs ?_ | refine Zk ?_ | ((first | refine Za ?_ | refine Zr ?_ | refine Zp ?_ | refine Ze ?_ | refine Zd ?_ | refine W.drawT dr16 rfl mixed rfl ?_ | refine Zn ?_ | refine Zc ?_ | refine UnK.mk (fun b hb => ?_)); conv => whnf) | (refine Zb (fun h => ?_) (fun h => ?_) <;> first | exact Zx | (conv => whnf))))
        all_goals first | (exfalso; omega) | skip
        all_goals (repeat' (first | exact trivial | exact Zm | exact Zl | exact ResLe.row0 rfl | exact Zi (by first | rfl | omega) | exact Zo (h := by first | rfl | omega) | exact ResLe.bo rfl rfl Iff.rfl | refine ResLe.agg ?_ | refine And.intro ?_ ?_ | ((conv => whnf); first | exact Zl | exact ResLe.row0 rfl | exact Zi (by first | rfl | omega) | exact Zo (h := by first | rfl | omega) | exact ResLe.bo rfl rfl Iff.rfl | refine ResLe.agg ?_ | refine And.intro ?_ ?_)))
        exact RowIs.res rfl ⟨bl.symm, fun _ _ _ _ => Dle.refl _⟩ rfl
      have hrec := rrec_t rs (cs.getD i default) hR
      have eT := ndT_succ rs cs dem i
      have ed : dem.getD (0 + i) default = dem.getD i 0 := by rw [Nat.zero_add]; rfl
      have hQd : ndQ rs cs dem i = (!decide (mk rs (cs.getD i default) < rs.length) && !decide (dem.getD i 0 = 0)) := rfl
      by_cases hQ : ndQ rs cs dem i = true
      rotate_left
      · rw [if_neg hQ] at eT
        have hsk : mk rs (cs.getD i default) < rs.length ∨ dem.getD (0 + i) default = 0 := by
          rw [hQd] at hQ
          rw [ed]
          by_cases h1 : mk rs (cs.getD i default) < rs.length
          · exact .inl h1
          · by_cases h2 : dem.getD i 0 = 0
            · exact .inr h2
            · exact absurd (by rw [decide_eq_false h1, decide_eq_false h2]; rfl) hQ
        have hre : recI rs (cs.getD i default) = if mk rs (cs.getD i default) < rs.length then (mk rs (cs.getD i default) : Int) else -1 := rfl
        have hsk2 : recI rs (cs.getD i default) < 0 → dem.getD (0 + i) default = 0 := fun h => by
          rcases hsk with h1 | h1
          · rw [hre, if_pos h1] at h; omega
          · exact h1
        clear hre hsk
        generalize recI rs (cs.getD i default) = rI at *
        (repeat' (first | refine Zs ?_ | refine Zk ?_ | ((first | refine Zas 58 ?_ | refine Zr ?_ | refine Zp ?_ | refine Ze ?_ | refine Zd ?_ | refine W.drawT dr16 rfl mixed rfl ?_ | refine Zn ?_ | refine Zc ?_ | refine UnK.mk (fun b hb => ?_)); conv => whnf) | (refine Zb (fun h => ?_) (fun h => ?_) <;> first | exact Zx | (conv => whnf))))
        all_goals first | (exfalso; omega) | skip
        (repeat' (first | refine Zs ?_ | refine Zk ?_ | ((first | refine Za ?_ | refine Zr ?_ | refine Zp ?_ | refine Ze ?_ | refine Zd ?_ | refine W.drawT dr16 rfl mixed rfl ?_ | refine Zn ?_ | refine Zc ?_ | refine UnK.mk (fun b hb => ?_)); conv => whnf) | (refine Zb (fun h => ?_) (fun h => ?_) <;> first | exact Zx | (conv => whnf))))
        all_goals (try dsimp only [Int.toNat_natCast] at *)
        (repeat' (first | refine Zs ?_ | refine Zk ?_ | ((first | refine Za ?_ | refine Zr ?_ | refine Zp ?_ | refine Ze ?_ | refine Zd ?_ | refine W.drawT dr16 rfl mixed rfl ?_ | refine Zn ?_ | refine Zc ?_ | refine UnK.mk (fun b hb => ?_) | refine Zy hrec ?_ | refine Zz hrec ?_); conv => whnf) | (refine Zb (fun h => ?_) (fun h => ?_) <;> first | exact Zx | (conv => whnf))))
        all_goals (try dsimp only [Int.toNat_natCast] at *)
        (repeat' (first | refine Zs ?_ | refine Zk ?_ | ((first | refine Za ?_ | refine Zr ?_ | refine Zp ?_ | refine Ze ?_ | refine Zd ?_ | refine W.drawT dr16 rfl mixed rfl ?_ | refine Zn ?_ | refine Zc ?_ | refine UnK.mk (fun b hb => ?_) | refine Zy hrec ?_ | refine Zz hrec ?_); conv => whnf) | (refine Zb (fun h => ?_) (fun h => ?_) <;> first | exact Zx | (conv => whnf))))
        all_goals first | (exfalso; omega) | skip
        all_goals (refine ⟨(i + 1, us), ⟨by simp only; omega, q2, by simp only; rw [eT]; exact q3⟩, by simp only; omega, ?_, ?_, ?_, ?_⟩)
        all_goals exact Yz
      rw [if_pos hQ] at eT
      rw [hQd, Bool.and_eq_true, Bool.not_eq_true', Bool.not_eq_true', decide_eq_false_iff_not, decide_eq_false_iff_not] at hQ
      have hre : recI rs (cs.getD i default) = -1 := if_neg hQ.1
      rw [hre] at hrec
      have hdz : dem.getD (0 + i) default ≠ 0 := by rw [ed]; exact hQ.2
      have hne : ∀ y ∈ us, y.c ≠ cs.getD i default := fun y hy => ndT_codes rs hCd.nd dem hi y (q3.mem_iff.1 hy)
      clear hQd
      (repeat' (first | refine Zs ?_ | refine Zk ?_ | ((first | refine Zas 58 ?_ | refine Zr ?_ | refine Zp ?_ | refine Ze ?_ | refine Zd ?_ | refine W.drawT dr16 rfl mixed rfl ?_ | refine Zn ?_ | refine Zc ?_ | refine UnK.mk (fun b hb => ?_)); conv => whnf) | (refine Zb (fun h => ?_) (fun h => ?_) <;> first | exact Zx | (conv => whnf))))
      all_goals first | (exfalso; omega) | skip
      (repeat' (first | refine Zs ?_ | refine Zk ?_ | ((first | refine Za ?_ | refine Zr ?_ | refine Zp ?_ | refine Ze ?_ | refine Zd ?_ | refine W.drawT dr16 rfl mixed rfl ?_ | refine Zn ?_ | refine Zc ?_ | refine UnK.mk (fun b hb => ?_)); conv => whnf) | (refine Zb (fun h => ?_) (fun h => ?_) <;> first | exact Zx | (conv => whnf))))
      all_goals (try dsimp only [Int.toNat_natCast] at *)
      (repeat' (first | refine Zs ?_ | refine Zk ?_ | ((first | refine Za ?_ | refine Zr ?_ | refine Zp ?_ | refine Ze ?_ | refine Zd ?_ | refine W.drawT dr16 rfl mixed rfl ?_ | refine Zn ?_ | refine Zc ?_ | refine UnK.mk (fun b hb => ?_) | refine Zy hrec ?_ | refine Zz hrec ?_); conv => whnf) | (refine Zb (fun h => ?_) (fun h => ?_) <;> first | exact Zx | (conv => whnf))))
      all_goals (try dsimp only [Int.toNat_natCast] at *)
      (repeat' (first | refine Zs ?_ | refine Zk ?_ | ((first | refine Za ?_ | refine Zr ?_ | refine Zp ?_ | refine Ze ?_ | refine Zd ?_ | refine W.drawT dr16 rfl mixed rfl ?_ | refine Zn ?_ | refine Zc ?_ | refine UnK.mk (fun b hb => ?_) | refine Zy hrec ?_ | refine Zz hrec ?_); conv => whnf) | (refine Zb (fun h => ?_) (fun h => ?_) <;> first | exact Zx | (conv => whnf))))
      all_goals first | (exfalso; omega) | skip
      refine (W.loopK (ι := Nat) [0, 11, 15, 16, 27, 28] [132, 138] (fun j => [(29, iA j)]) (fun _ => []) (fun j => j ≤ us.length ∧ ∀ t, t < j → strLt (us.getD t default).c (cs.getD i default) = true) (fun j => us.length - j) 0 ⟨Nat.zero_le _, fun t ht => absurd ht (by omega)⟩ ?_ ?_ ?_)
      · exact Yz
      · exact Yz
      conv => whnf
      intro j ⟨hj, hz⟩
      have hput : (j < us.length → strLt (us.getD j default).c (cs.getD i default) = false) → (us.take j ++ ⟨cs.getD i default, dem.getD i 0⟩ :: us.drop j).Pairwise (fun a b => strLt a.c b.c = true) ∧ (us.take j ++ ⟨cs.getD i default, dem.getD i 0⟩ :: us.drop j).Perm (ndT rs cs dem (i + 1)) := fun hh => by
        obtain ⟨g1, g2⟩ := ins_sorted q2 (x := ⟨cs.getD i default, dem.getD i 0⟩) hj hz hh hne
        exact ⟨g1, by rw [eT]; exact g2.trans (q3.append_right _)⟩
      clear hEN q3 eT hne hre hQ
      (repeat' (first | refine Zs ?_ | refine Zk ?_ | ((first | refine Zas 57 ?_ | refine Zr ?_ | refine Zp ?_ | refine Ze ?_ | refine Zd ?_ | refine W.drawT dr16 rfl mixed rfl ?_ | refine Zn ?_ | refine Zc ?_ | refine UnK.mk (fun b hb => ?_)); conv => whnf) | (refine Zb (fun h => ?_) (fun h => ?_) <;> first | exact Zx | (conv => whnf))))
      all_goals (try dsimp only [Int.toNat_natCast] at *)
      (repeat' (first | refine Zs ?_ | refine Zk ?_ | ((first | refine Zas 57 ?_ | refine Zr ?_ | refine Zp ?_ | refine Ze ?_ | refine Zd ?_ | refine W.drawT dr16 rfl mixed rfl ?_ | refine Zn ?_ | refine Zc ?_ | refine UnK.mk (fun b hb => ?_)); conv => whnf) | (refine Zb (fun h => ?_) (fun h => ?_) <;> first | exact Zx | (conv => whnf))))
      all_goals (try dsimp only [Int.toNat_natCast] at *)
      (repeat' (first | refine Zs ?_ | refine Zk ?_ | ((first | refine Zas 57 ?_ | refine Zr ?_ | refine Zp ?_ | refine Ze ?_ | refine Zd ?_ | refine W.drawT dr16 rfl mixed rfl ?_ | refine Zn ?_ | refine Zc ?_ | refine UnK.mk (fun b hb => ?_)); conv => whnf) | (refine Zb (fun h => ?_) (fun h => ?_) <;> first | exact Zx | (conv => whnf))))
      · refine ⟨j + 1, ⟨by omega, fun t ht => ?_⟩, by omega, ?_, ?_, ?_, ?_⟩
        · by_cases htj : t = j
          · subst htj; exact h
          · exact hz t (by omega)
        all_goals exact Yz
      all_goals
        obtain ⟨g1, g2⟩ := hput (fun hh => by first | exact h | omega)
        refine (W.pubD 27 332 rfl rfl ?_)
        conv => whnf
        (repeat' (first | refine Zs ?_ | refine Zk ?_ | ((first | refine Za ?_ | refine Zr ?_ | refine Zp ?_ | refine Ze ?_ | refine Zd ?_ | refine W.drawT dr16 rfl mixed rfl ?_ | refine Zn ?_ | refine Zc ?_ | refine UnK.mk (fun b hb => ?_)); conv => whnf) | (refine Zb (fun h => ?_) (fun h => ?_) <;> first | exact Zx | (conv => whnf))))
        refine ⟨(i + 1, us.take j ++ ⟨cs.getD i default, dem.getD i 0⟩ :: us.drop j), ⟨by simp only; omega, g1, g2⟩, by simp only; omega, ?_, ?_, ?_, ?_⟩
        all_goals (repeat' (first | exact trivial | exact Yr | exact Yi (by first | rfl | omega) | exact Yo (by first | rfl | omega) | exact Yd | exact Yn | exact Ye (by first | rfl | omega) | exact ⟨_, rfl, Yf, rfl⟩ | refine ⟨_, rfl, Yb ?_, rfl⟩ | refine ⟨_, rfl, Yw (by first | rfl | omega) ?_, rfl⟩ | refine And.intro ?_ ?_))
        refine put_nd hj fun q hq => ?_
        rcases q with _ | _ | q
        · exact Dle.refl _
        · exact Dle.of_eq (congrArg (fun z => D.val (Value.int .i64 z)) ed)
        · omega
  obtain ⟨dem, bat, gone, over⟩ := s
  dsimp only at p2 p3 dl bl gl dr br ⊢
  (repeat' (first | refine Zs ?_ | refine Zk ?_ | ((first | refine Za ?_ | refine Zr ?_ | refine Zp ?_ | refine Ze ?_ | refine Zd ?_ | refine W.drawT dr16 rfl mixed rfl ?_ | refine Zn ?_ | refine Zc ?_ | refine UnK.mk (fun b hb => ?_)); conv => whnf) | (refine Zb (fun h => ?_) (fun h => ?_) <;> first | exact Zx | (conv => whnf))))
  all_goals first | (exfalso; omega) | skip
  refine (W.loopK (ι := Nat × Int) [0, 11, 15, 16, 17, 18, 19] [132, 138, 141] (fun s => [(21, iA s.1), (20, iA s.2)]) (fun _ => []) (fun s => s.1 ≤ cs.length ∧ ((s.2 = -1 ∧ ∀ j, j < s.1 → gone.getD j false = false → usedP rs cs gone (cs.getD j default)) ∨ (0 ≤ s.2 ∧ s.2.toNat < cs.length ∧ gone.getD s.2.toNat false = false ∧ ¬ usedP rs cs gone (cs.getD s.2.toNat default)))) (fun s => cs.length - s.1) (0, -1) ⟨Nat.zero_le _, .inl ⟨rfl, fun j hj => absurd hj (by simp)⟩⟩ ?_ ?_ ?_)
  · exact Yz
  · exact Yz
  conv => whnf
  intro ⟨i, a⟩ ⟨q1, q2⟩
  dsimp only at q1 q2 ⊢
  by_cases hgo : i < cs.length ∧ a < 0
  · obtain ⟨hi, ha⟩ := hgo
    have q3 : ∀ j, j < i → gone.getD j false = false → usedP rs cs gone (cs.getD j default) := by
      rcases q2 with h | h
      · exact h.2
      · omega
    have q4 : a = -1 := by
      rcases q2 with h | h
      · exact h.1
      · omega
    have hus := rused_t rs cs gone (cs.getD i default) hR (by omega) gl
    have ebD : AV.dat (bD gone) = .dat (.lst 1 cs.length (rowF bE gone)) := by
      show AV.dat (.lst 1 gone.length _) = _
      rw [gl]
    rw [ebD] at hus
    have eg : gone.getD (0 + i) default = gone.getD i false := by rw [Nat.zero_add]; rfl
    have q5 : (gone.getD i false = false → usedP rs cs gone (cs.getD i default)) → ∀ j, j < i + 1 → gone.getD j false = false → usedP rs cs gone (cs.getD j default) := fun hh j hj hg => by
      by_cases hji : j = i
      · subst hji; exact hh hg
      · exact q3 j (by omega) hg
    (repeat' (first | refine Zs ?_ | refine Zk ?_ | ((first | refine Zas 35 ?_ | refine Zr ?_ | refine Zp ?_ | refine Ze ?_ | refine Zd ?_ | refine W.drawT dr16 rfl mixed rfl ?_ | refine Zn ?_ | refine Zc ?_ | refine UnK.mk (fun b hb => ?_)); conv => whnf) | (refine Zb (fun h => ?_) (fun h => ?_) <;> first | exact Zx | (conv => whnf))))
    all_goals first | (exfalso; omega) | skip
    all_goals (try dsimp only [Int.toNat_natCast] at *)
    (repeat' (first | refine Zs ?_ | refine Zk ?_ | ((first | refine Za ?_ | refine Zr ?_ | refine Zp ?_ | refine Ze ?_ | refine Zd ?_ | refine W.drawT dr16 rfl mixed rfl ?_ | refine Zn ?_ | refine Zc ?_ | refine UnK.mk (fun b hb => ?_)); conv => whnf) | (refine Zb (fun h => ?_) (fun h => ?_) <;> first | exact Zx | (conv => whnf))))
    all_goals (try dsimp only [Int.toNat_natCast] at *)
    (repeat' (first | refine Zs ?_ | refine Zk ?_ | ((first | refine Za ?_ | refine Zr ?_ | refine Zp ?_ | refine Ze ?_ | refine Zd ?_ | refine W.drawT dr16 rfl mixed rfl ?_ | refine Zn ?_ | refine Zc ?_ | refine UnK.mk (fun b hb => ?_) | refine ExCall.by (CallA.plain hus ⟨ArgLe.refl rfl, ArgLe.refl rfl, ArgLe.row rfl, ArgLe.refl rfl, trivial⟩ rfl) ?_); conv => whnf) | (refine Zb (fun h => ?_) (fun h => ?_) <;> first | exact Zx | (conv => whnf))))
    · refine ⟨(i + 1, (i : Int)), ⟨by simp only; omega, .inr ⟨by simp only; omega, by simp only [Int.toNat_natCast]; exact hi, by simp only [Int.toNat_natCast]; rw [← eg]; assumption, by simpa only [Int.toNat_natCast] using h⟩⟩, by simp only; omega, ?_, ?_, ?_, ?_⟩
      all_goals exact Yz
    · refine ⟨(i + 1, a), ⟨by simp only; omega, .inl ⟨q4, q5 fun _ => h⟩⟩, by simp only; omega, ?_, ?_, ?_, ?_⟩
      all_goals exact Yz
    · refine ⟨(i + 1, a), ⟨by simp only; omega, .inl ⟨q4, q5 fun hg => by rw [eg, hg] at h; cases h⟩⟩, by simp only; omega, ?_, ?_, ?_, ?_⟩
      all_goals exact Yz
  by_cases ha : a < 0
  · have q3 : i = cs.length ∧ ∀ j, j < i → gone.getD j false = false → usedP rs cs gone (cs.getD j default) := by
      rcases q2 with h | h
      · exact ⟨by omega, h.2⟩
      · omega
    obtain ⟨j, hj, hgj⟩ := unG_pos (l := gone) (by omega)
    have hE := hK.k1 _ p2 j (by omega) hgj fun t ht hgt => q3.2 t (by omega) hgt
    obtain ⟨e1, e2⟩ := ex_no hE (by decide)
    rw [hE, e1, e2]
    (repeat' (first | refine Zs ?_ | refine Zk ?_ | ((first | refine Za ?_ | refine Zr ?_ | refine Zp ?_ | refine Ze ?_ | refine Zd ?_ | refine W.drawT dr16 rfl mixed rfl ?_ | refine Zn ?_ | refine Zc ?_ | refine UnK.mk (fun b hb => ?_)); conv => whnf) | (refine Zb (fun h => ?_) (fun h => ?_) <;> first | exact Zx | (conv => whnf))))
    all_goals first | (exfalso; omega) | ((repeat' (first | exact trivial | exact Zm | exact Zl | exact ResLe.row0 rfl | exact Zi (by first | rfl | omega) | exact Zo (h := by first | rfl | omega) | exact ResLe.bo rfl rfl Iff.rfl | refine ResLe.agg ?_ | refine And.intro ?_ ?_ | ((conv => whnf); first | exact Zl | exact ResLe.row0 rfl | exact Zi (by first | rfl | omega) | exact Zo (h := by first | rfl | omega) | exact ResLe.bo rfl rfl Iff.rfl | refine ResLe.agg ?_ | refine And.intro ?_ ?_))); done)
  obtain ⟨b, rfl⟩ : ∃ b : Nat, a = (b : Int) := ⟨a.toNat, by omega⟩
  rcases q2 with q2 | ⟨_, hb, hgb, hub⟩
  · omega
  rw [Int.toNat_natCast] at hb hgb hub
  have hK2 := hK.k2 _ p2 b hb hgb hub
  have hun := unG_set (l := gone) (a := b) (by omega) hgb
  have hgo2 := rdS_gone rs cs b ⟨dem, bat, gone, over⟩
  have hrec := rrec_t rs (cs.getD b default) hR
  have hg0 : RowIs bE 1 cs.length (rowF bE gone) gone := by rw [← gl]; exact RowIs.refl bE 1 gone
  have hgs := hg0.set (k := b) (x := true) (ds := [.val (.bool true)]) rfl (fun t ht => by
    obtain rfl : t = 0 := by omega
    exact Dle.refl _)
  have hgl := hgs.le
  clear hgs hg0 hgo hub
  (repeat' (first | refine Zs ?_ | refine Zk ?_ | ((first | refine Zas 40 ?_ | refine Zr ?_ | refine Zp ?_ | refine Ze ?_ | refine Zd ?_ | refine W.drawT dr16 rfl mixed rfl ?_ | refine Zn ?_ | refine Zc ?_ | refine UnK.mk (fun b hb => ?_)); conv => whnf) | (refine Zb (fun h => ?_) (fun h => ?_) <;> first | exact Zx | (conv => whnf))))
  all_goals first | (exfalso; omega) | skip
  all_goals
    by_cases hcont : ¬ mk rs (cs.getD b default) < rs.length ∨ over = true
    · have eS : rdS rs cs b ⟨dem, bat, gone, over⟩ = ⟨dem, bat, gone.set b true, over⟩ := if_pos hcont
      have hrec2 : over = false → recI rs (cs.getD b default) = -1 := fun ho => by
        rcases hcont with h | h
        · exact if_neg h
        · rw [ho] at h; cases h
      generalize recI rs (cs.getD b default) = rI at *
      cases over with
      | false =>
        rw [hrec2 rfl] at hrec
        (repeat' (first | refine Zs ?_ | refine Zk ?_ | ((first | refine Zas 41 ?_ | refine Zr ?_ | refine Zp ?_ | refine Ze ?_ | refine Zd ?_ | refine W.drawT dr16 rfl mixed rfl ?_ | refine Zn ?_ | refine Zc ?_ | refine UnK.mk (fun b hb => ?_)); conv => whnf) | (refine Zb (fun h => ?_) (fun h => ?_) <;> first | exact Zx | (conv => whnf))))
        all_goals (try dsimp only [Int.toNat_natCast] at *)
        (repeat' (first | refine Zs ?_ | refine Zk ?_ | ((first | refine Za ?_ | refine Zr ?_ | refine Zp ?_ | refine Ze ?_ | refine Zd ?_ | refine W.drawT dr16 rfl mixed rfl ?_ | refine Zn ?_ | refine Zc ?_ | refine UnK.mk (fun b hb => ?_) | refine Zy hrec ?_ | refine Zz hrec ?_); conv => whnf) | (refine Zb (fun h => ?_) (fun h => ?_) <;> first | exact Zx | (conv => whnf))))
        all_goals first | (exfalso; omega) | skip
        all_goals (refine ⟨(m + 1, rdS rs cs b ⟨dem, bat, gone, false⟩), ⟨by simp only; omega, hK2, by rw [hgo2]; simp only; omega⟩, by simp only; omega, ?_, ?_, ?_, ?_⟩)
        all_goals (try rw [eS])
        all_goals (try dsimp only)
        all_goals (repeat' (first | exact trivial | exact Yr | exact Yi (by first | rfl | (simp; done) | omega) | exact Yo (by first | rfl | (simp; done) | omega) | exact Yd | exact Yn | exact Ye (by first | rfl | (simp; done) | omega) | exact ⟨_, rfl, Yf, rfl⟩ | refine ⟨_, rfl, Yb ?_, rfl⟩ | refine ⟨_, rfl, Yw (by first | rfl | (simp; done) | omega) ?_, rfl⟩ | refine And.intro ?_ ?_))
        all_goals (intro x hx y hy; have := hgl x (by simpa using hx) y hy; simpa only [Nat.zero_add] using this)
      | true =>
        (repeat' (first | refine Zs ?_ | refine Zk ?_ | ((first | refine Zas 41 ?_ | refine Zr ?_ | refine Zp ?_ | refine Ze ?_ | refine Zd ?_ | refine W.drawT dr16 rfl mixed rfl ?_ | refine Zn ?_ | refine Zc ?_ | refine UnK.mk (fun b hb => ?_)); conv => whnf) | (refine Zb (fun h => ?_) (fun h => ?_) <;> first | exact Zx | (conv => whnf))))
        all_goals (try dsimp only [Int.toNat_natCast] at *)
        (repeat' (first | refine Zs ?_ | refine Zk ?_ | ((first | refine Za ?_ | refine Zr ?_ | refine Zp ?_ | refine Ze ?_ | refine Zd ?_ | refine W.drawT dr16 rfl mixed rfl ?_ | refine Zn ?_ | refine Zc ?_ | refine UnK.mk (fun b hb => ?_) | refine Zy hrec ?_ | refine Zz hrec ?_); conv => whnf) | (refine Zb (fun h => ?_) (fun h => ?_) <;> first | exact Zx | (conv => whnf))))
        all_goals first | (exfalso; omega) | skip
        all_goals (refine ⟨(m + 1, rdS rs cs b ⟨dem, bat, gone, true⟩), ⟨by simp only; omega, hK2, by rw [hgo2]; simp only; omega⟩, by simp only; omega, ?_, ?_, ?_, ?_⟩)
        all_goals (try rw [eS])
        all_goals (try dsimp only)
        all_goals (repeat' (first | exact trivial | exact Yr | exact Yi (by first | rfl | (simp; done) | omega) | exact Yo (by first | rfl | (simp; done) | omega) | exact Yd | exact Yn | exact Ye (by first | rfl | (simp; done) | omega) | exact ⟨_, rfl, Yf, rfl⟩ | refine ⟨_, rfl, Yb ?_, rfl⟩ | refine ⟨_, rfl, Yw (by first | rfl | (simp; done) | omega) ?_, rfl⟩ | refine And.intro ?_ ?_))
        all_goals (intro x hx y hy; have := hgl x (by simpa using hx) y hy; simpa only [Nat.zero_add] using this)
    have eS : rdS rs cs b ⟨dem, bat, gone, over⟩ = ⟨(rdX rs cs b ⟨dem, bat, gone, over⟩).2, rdB rs cs b ⟨dem, bat, gone, over⟩, gone.set b true, (rdX rs cs b ⟨dem, bat, gone, over⟩).1⟩ := if_neg hcont
    have hkk : mk rs (cs.getD b default) < rs.length := by
      by_cases hh : mk rs (cs.getD b default) < rs.length
      · exact hh
      · exact absurd (.inl hh) hcont
    have hov : over = false := by
      cases hh : over with
      | false => rfl
      | true => exact absurd (.inr hh) hcont
    subst hov
    clear hcont
    have hrec1 : recI rs (cs.getD b default) = mk rs (cs.getD b default) := if_pos hkk
    rw [hrec1] at hrec
    obtain ⟨a1, a2, a3, a4⟩ := hR.at hkk
    have hq0 := outQ_pos hR hkk
    have hqc := yqty_t (rs.getD (mk rs (cs.getD b default)) default).outs (cs.getD b default) (by omega) (fun x hx => by have := asc_q a3 x hx; omega)
    have hqd : qtyS (rs.getD (mk rs (cs.getD b default)) default).outs (cs.getD b default) = outQ rs (mk rs (cs.getD b default)) (cs.getD b default) := rfl
    rw [hqd] at hqc
    have hN := ceilD_rng (dr b) hq0.1
    have eN : rdN rs cs b ⟨dem, bat, gone, false⟩ = (dem.getD (0 + b) default + outQ rs (mk rs (cs.getD b default)) (cs.getD b default) - 1) / outQ rs (mk rs (cs.getD b default)) (cs.getD b default) := by rw [Nat.zero_add]; rfl
    have eN2 : ceilD (dem.getD b 0) (outQ rs (mk rs (cs.getD b default)) (cs.getD b default)) = rdN rs cs b ⟨dem, bat, gone, false⟩ := rfl
    rw [eN2] at hN
    have eM : rdM rs cs b ⟨dem, bat, gone, false⟩ = rdN rs cs b ⟨dem, bat, gone, false⟩ - bat.getD (0 + mk rs (cs.getD b default)) default := by rw [Nat.zero_add]; rfl
    have eX : rdX rs cs b ⟨dem, bat, gone, false⟩ = if 0 < rdM rs cs b ⟨dem, bat, gone, false⟩ then rdL cs (rdM rs cs b ⟨dem, bat, gone, false⟩) (rs.getD (mk rs (cs.getD b default)) default).ins dem else (false, dem) := rfl
    have eB : rdB rs cs b ⟨dem, bat, gone, false⟩ = bat.set (mk rs (cs.getD b default)) (if bat.getD (0 + mk rs (cs.getD b default)) default < rdN rs cs b ⟨dem, bat, gone, false⟩ then rdN rs cs b ⟨dem, bat, gone, false⟩ else bat.getD (0 + mk rs (cs.getD b default)) default) := by rw [Nat.zero_add]; rfl
    have hin : ∀ x ∈ (rs.getD (mk rs (cs.getD b default)) default).ins, x.c ∈ cs := hCd.clo _ (ygetD_in hb) hkk
    have drb : 0 ≤ dem.getD (0 + b) default ∧ dem.getD (0 + b) default ≤ 1000000000000 := by rw [Nat.zero_add]; exact dr b
    have brk : 0 ≤ bat.getD (0 + mk rs (cs.getD b default)) default ∧ bat.getD (0 + mk rs (cs.getD b default)) default ≤ 1000000000000 := by rw [Nat.zero_add]; exact br _
    unfold mx at hN
    clear hqd eN2 hrec1
    generalize outQ rs (mk rs (cs.getD b default)) (cs.getD b default) = q0 at *
    generalize rdN rs cs b ⟨dem, bat, gone, false⟩ = N at *
    generalize rdM rs cs b ⟨dem, bat, gone, false⟩ = M at *
    generalize hXe : rdX rs cs b ⟨dem, bat, gone, false⟩ = X at *
    generalize hBe : rdB rs cs b ⟨dem, bat, gone, false⟩ = BB at *
    clear hXe hBe
    generalize mk rs (cs.getD b default) = kk at *
    have hbs : RowIs iE 1 rs.length (rowF iE bat) bat := by rw [← bl]; exact RowIs.refl iE 1 bat
    have hbs2 := hbs.set (k := kk) (x := if bat.getD (0 + kk) default < N then N else bat.getD (0 + kk) default) (ds := [.val (.int .i64 (if bat.getD (0 + kk) default < N then N else bat.getD (0 + kk) default))]) rfl (fun t ht => by
      obtain rfl : t = 0 := by omega
      exact Dle.refl _)
    have hbl := hbs2.le
    clear hbs hbs2
    rw [← eB] at hbl
    (repeat' (first | refine Zs ?_ | refine Zk ?_ | ((first | refine Zas 41 ?_ | refine Zr ?_ | refine Zp ?_ | refine Ze ?_ | refine Zd ?_ | refine W.drawT dr16 rfl mixed rfl ?_ | refine Zn ?_ | refine Zc ?_ | refine UnK.mk (fun b hb => ?_)); conv => whnf) | (refine Zb (fun h => ?_) (fun h => ?_) <;> first | exact Zx | (conv => whnf))))
    all_goals (try dsimp only [Int.toNat_natCast] at *)
    (repeat' (first | refine Zs ?_ | refine Zk ?_ | ((first | refine Zas 42 ?_ | refine Zr ?_ | refine Zp ?_ | refine Ze ?_ | refine Zd ?_ | refine W.drawT dr16 rfl mixed rfl ?_ | refine Zn ?_ | refine Zc ?_ | refine UnK.mk (fun b hb => ?_) | refine Zy hrec ?_ | refine Zz hrec ?_); conv => whnf) | (refine Zb (fun h => ?_) (fun h => ?_) <;> first | exact Zx | (conv => whnf))))
    all_goals (try dsimp only [Int.toNat_natCast] at *)
    all_goals first | (exfalso; omega) | skip
    (repeat' (first | refine Zs ?_ | refine Zk ?_ | ((first | refine Zas 43 ?_ | refine Zr ?_ | refine Zp ?_ | refine Ze ?_ | refine Zd ?_ | refine W.drawT dr16 rfl mixed rfl ?_ | refine Zn ?_ | refine Zc ?_ | refine UnK.mk (fun b hb => ?_) | refine Zy hqc ?_ | refine Zz hqc ?_); conv => whnf) | (refine Zb (fun h => ?_) (fun h => ?_) <;> first | exact Zx | (conv => whnf))))
    all_goals (try dsimp only [Int.toNat_natCast] at *)
    (repeat' (first | refine Zs ?_ | refine Zk ?_ | ((first | refine Zas 43 ?_ | refine Zr ?_ | refine Zp ?_ | refine Ze ?_ | refine Zd ?_ | refine W.drawT dr16 rfl mixed rfl ?_ | refine Zn ?_ | refine Zc ?_ | refine UnK.mk (fun b hb => ?_) | refine Zy hqc ?_ | refine Zz hqc ?_); conv => whnf) | (refine Zb (fun h => ?_) (fun h => ?_) <;> first | exact Zx | (conv => whnf))))
    rw [← eN]
    (repeat' (first | refine Zs ?_ | refine Zk ?_ | ((first | refine Zas 44 ?_ | refine Zr ?_ | refine Zp ?_ | refine Ze ?_ | refine Zd ?_ | refine W.drawT dr16 rfl mixed rfl ?_ | refine Zn ?_ | refine Zc ?_ | refine UnK.mk (fun b hb => ?_)); conv => whnf) | (refine Zb (fun h => ?_) (fun h => ?_) <;> first | exact Zx | (conv => whnf))))
    all_goals (try dsimp only [Int.toNat_natCast] at *)
    (repeat' (first | refine Zs ?_ | refine Zk ?_ | ((first | refine Zas 44 ?_ | refine Zr ?_ | refine Zp ?_ | refine Ze ?_ | refine Zd ?_ | refine W.drawT dr16 rfl mixed rfl ?_ | refine Zn ?_ | refine Zc ?_ | refine UnK.mk (fun b hb => ?_)); conv => whnf) | (refine Zb (fun h => ?_) (fun h => ?_) <;> first | exact Zx | (conv => whnf))))
    rw [← eM]
    have hMb : M ≤ 1000000000000 := by omega
    clear eM eN hqc hrec drb hq0
    by_cases hM : 0 < M
    rotate_left
    · rw [if_neg hM] at eX
      subst eX
      (repeat' (first | refine Zs ?_ | refine Zk ?_ | ((first | refine Za ?_ | refine Zr ?_ | refine Zp ?_ | refine Ze ?_ | refine Zd ?_ | refine W.drawT dr16 rfl mixed rfl ?_ | refine Zn ?_ | refine Zc ?_ | refine UnK.mk (fun b hb => ?_)); conv => whnf) | (refine Zb (fun h => ?_) (fun h => ?_) <;> first | exact Zx | (conv => whnf))))
      refine (W.loopK (ι := Unit) [0, 11, 15, 16, 17, 18, 19, 22, 23, 24] [132, 138, 141] (fun _ => [(25, iA 0)]) (fun _ => []) (fun _ => True) (fun _ => 0) () trivial ?_ ?_ ?_)
      · exact Yz
      · exact Yz
      conv => whnf
      intro _ _
      (repeat' (first | refine Zs ?_ | refine Zk ?_ | ((first | refine Za ?_ | refine Zr ?_ | refine Zp ?_ | refine Ze ?_ | refine Zd ?_ | refine W.drawT dr16 rfl mixed rfl ?_ | refine Zn ?_ | refine Zc ?_ | refine UnK.mk (fun b hb => ?_)); conv => whnf) | (refine Zb (fun h => ?_) (fun h => ?_) <;> first | exact Zx | (conv => whnf))))
      all_goals first | (exfalso; omega) | skip
      all_goals (try dsimp only [Int.toNat_natCast] at *)
      (repeat' (first | refine Zs ?_ | refine Zk ?_ | ((first | refine Za ?_ | refine Zr ?_ | refine Zp ?_ | refine Ze ?_ | refine Zd ?_ | refine W.drawT dr16 rfl mixed rfl ?_ | refine Zn ?_ | refine Zc ?_ | refine UnK.mk (fun b hb => ?_)); conv => whnf) | (refine Zb (fun h => ?_) (fun h => ?_) <;> first | exact Zx | (conv => whnf))))
      all_goals (refine ⟨(m + 1, rdS rs cs b ⟨dem, bat, gone, false⟩), ⟨by simp only; omega, hK2, by rw [hgo2]; simp only; omega⟩, by simp only; omega, ?_, ?_, ?_, ?_⟩)
      all_goals (try rw [eS])
      all_goals (try dsimp only)
      all_goals (repeat' (first | exact trivial | exact Yr | exact Yi (by first | rfl | (simp; done) | omega) | exact Yo (by first | rfl | (simp; done) | omega) | exact Yd | exact Yn | exact Ye (by first | rfl | (simp; done) | omega) | exact ⟨_, rfl, Yf, rfl⟩ | refine ⟨_, rfl, Yb ?_, rfl⟩ | refine ⟨_, rfl, Yw (by first | rfl | (simp; done) | omega) ?_, rfl⟩ | refine And.intro ?_ ?_))
      all_goals first | exact AVle.bo rfl rfl Iff.rfl | skip
      all_goals (intro x hx y hy)
      all_goals first | (have := hgl x (by simpa using hx) y hy; simpa only [Nat.zero_add] using this) | (have := hbl x (by simpa using hx) y hy; simpa only [Nat.zero_add] using this)
    rw [if_pos hM] at eX
    (repeat' (first | refine Zs ?_ | refine Zk ?_ | ((first | refine Za ?_ | refine Zr ?_ | refine Zp ?_ | refine Ze ?_ | refine Zd ?_ | refine W.drawT dr16 rfl mixed rfl ?_ | refine Zn ?_ | refine Zc ?_ | refine UnK.mk (fun b hb => ?_)); conv => whnf) | (refine Zb (fun h => ?_) (fun h => ?_) <;> first | exact Zx | (conv => whnf))))
    refine (W.loopK (ι := Nat × List Int) [0, 11, 15, 16, 17, 18, 19, 22, 23, 24] [138, 141] (fun s => [(25, iA s.1)]) (fun s => [(132, .row 3 1 cs.length (rowF iE s.2))]) (fun s => s.1 ≤ (rs.getD kk default).ins.length ∧ s.2.length = cs.length ∧ (∀ i, 0 ≤ s.2.getD i 0 ∧ s.2.getD i 0 ≤ 1000000000000) ∧ rdL cs M ((rs.getD kk default).ins.drop s.1) s.2 = X) (fun s => (rs.getD kk default).ins.length - s.1) (0, dem) ⟨Nat.zero_le _, dl, dr, eX.symm⟩ ?_ ?_ ?_)
    · exact Yz
    · exact Yz
    conv => whnf
    intro ⟨j, de⟩ ⟨y1, y2, y3, y4⟩
    dsimp only at y1 y2 y3 y4 ⊢
    clear eX
    by_cases hj : j < (rs.getD kk default).ins.length
    · have hd : (rs.getD kk default).ins.drop j = (rs.getD kk default).ins.getD j default :: (rs.getD kk default).ins.drop (j + 1) := by rw [ygetD_of hj]; exact List.drop_eq_getElem_cons hj
      have hx := a1 j hj
      have hxc := hin _ (ygetD_in hj)
      have hix := rindex_t cs ((rs.getD kk default).ins.getD j default).c (by omega)
      rw [show idxI cs ((rs.getD kk default).ins.getD j default).c = idxN cs ((rs.getD kk default).ins.getD j default).c from if_pos (idxN_in hxc)] at hix
      have hil := idxN_in hxc
      have y5 : (if mx / ((rs.getD kk default).ins.getD j default).q < M ∨ mx - M * ((rs.getD kk default).ins.getD j default).q < de.getD (idxN cs ((rs.getD kk default).ins.getD j default).c) 0 then (true, de) else rdL cs M ((rs.getD kk default).ins.drop (j + 1)) (de.set (idxN cs ((rs.getD kk default).ins.getD j default).c) (de.getD (idxN cs ((rs.getD kk default).ins.getD j default).c) 0 + M * ((rs.getD kk default).ins.getD j default).q))) = X := by
        rw [← y4, hd]
        rfl
      have y6 := y3 (idxN cs ((rs.getD kk default).ins.getD j default).c)
      have x1 := hx.2.1
      have x2 := hx.2.2.1
      clear hx hd y4
      (repeat' (first | refine Zs ?_ | refine Zk ?_ | ((first | refine Zas 47 ?_ | refine Zr ?_ | refine Zp ?_ | refine Ze ?_ | refine Zd ?_ | refine W.drawT dr16 rfl mixed rfl ?_ | refine Zn ?_ | refine Zc ?_ | refine UnK.mk (fun b hb => ?_)); conv => whnf) | (refine Zb (fun h => ?_) (fun h => ?_) <;> first | exact Zx | (conv => whnf))))
      all_goals (try dsimp only [Int.toNat_natCast] at *)
      all_goals first | (exfalso; omega) | skip
      (repeat' (first | refine Zs ?_ | refine Zk ?_ | ((first | refine Za ?_ | refine Zr ?_ | refine Zp ?_ | refine Ze ?_ | refine Zd ?_ | refine Zn ?_ | refine Zc ?_ | refine UnK.mk (fun b hb => ?_)); conv => whnf) | (refine Zb (fun h => ?_) (fun h => ?_) <;> first | exact Zx | (conv => whnf))))
      all_goals (try dsimp only [Int.toNat_natCast] at *)
      (repeat' (first | refine Zs ?_ | refine Zk ?_ | ((first | refine Za ?_ | refine Zr ?_ | refine Zp ?_ | refine Ze ?_ | refine Zd ?_ | refine Zn ?_ | refine Zc ?_ | refine UnK.mk (fun b hb => ?_)); conv => whnf) | (refine Zb (fun h => ?_) (fun h => ?_) <;> first | exact Zx | (conv => whnf))))
      generalize (rs.getD kk default).ins.getD j default = x at *
      have ed : de.getD (0 + idxN cs x.c) default = de.getD (idxN cs x.c) 0 := by rw [Nat.zero_add]; rfl
      have hdv : 0 ≤ 1000000000000 / x.q ∧ 1000000000000 / x.q ≤ 1000000000000 := ⟨Int.ediv_nonneg (by omega) (by omega), Int.ediv_le_self _ (by omega)⟩
      unfold mx at y5
      by_cases h1 : 1000000000000 / x.q < M
      · rw [if_pos (.inl h1)] at y5
        subst y5
        (repeat' (first | refine Zs ?_ | refine Zk ?_ | ((first | refine Za ?_ | refine Zr ?_ | refine Zp ?_ | refine Ze ?_ | refine Zd ?_ | refine W.drawT dr16 rfl mixed rfl ?_ | refine Zn ?_ | refine Zc ?_ | refine UnK.mk (fun b hb => ?_)); conv => whnf) | (refine Zb (fun h => ?_) (fun h => ?_) <;> first | exact Zx | (conv => whnf))))
        all_goals first | (exfalso; omega) | skip
        all_goals (try dsimp only [Int.toNat_natCast] at *)
        (repeat' (first | refine Zs ?_ | refine Zk ?_ | ((first | refine Za ?_ | refine Zr ?_ | refine Zp ?_ | refine Ze ?_ | refine Zd ?_ | refine W.drawT dr16 rfl mixed rfl ?_ | refine Zn ?_ | refine Zc ?_ | refine UnK.mk (fun b hb => ?_)); conv => whnf) | (refine Zb (fun h => ?_) (fun h => ?_) <;> first | exact Zx | (conv => whnf))))
        all_goals (refine ⟨(m + 1, rdS rs cs b ⟨dem, bat, gone, false⟩), ⟨by simp only; omega, hK2, by rw [hgo2]; simp only; omega⟩, by simp only; omega, ?_, ?_, ?_, ?_⟩)
        all_goals (try rw [eS])
        all_goals (try dsimp only)
        all_goals (repeat' (first | exact trivial | exact Yr | exact Yi (by first | rfl | (simp; done) | omega) | exact Yo (by first | rfl | (simp; done) | omega) | exact Yd | exact Yn | exact Ye (by first | rfl | (simp; done) | omega) | exact ⟨_, rfl, Yf, rfl⟩ | refine ⟨_, rfl, Yb ?_, rfl⟩ | refine ⟨_, rfl, Yw (by first | rfl | (simp; done) | omega) ?_, rfl⟩ | refine And.intro ?_ ?_))
        all_goals first | exact AVle.bo rfl rfl Iff.rfl | skip
        all_goals (intro x hx y hy)
        all_goals first | (have := hgl x (by simpa using hx) y hy; simpa only [Nat.zero_add] using this) | (have := hbl x (by simpa using hx) y hy; simpa only [Nat.zero_add] using this)
      have h3 : M * x.q ≤ 1000000000000 := mul_le_div x1 h1
      have h4 : 0 ≤ M * x.q := Int.mul_nonneg (by omega) (by omega)
      by_cases h2 : 1000000000000 - M * x.q < de.getD (idxN cs x.c) 0
      · rw [if_pos (.inr h2)] at y5
        subst y5
        rw [← ed] at h2 y6
        (repeat' (first | refine Zs ?_ | refine Zk ?_ | ((first | refine Za ?_ | refine Zr ?_ | refine Zp ?_ | refine Ze ?_ | refine Zd ?_ | refine W.drawT dr16 rfl mixed rfl ?_ | refine Zn ?_ | refine Zc ?_ | refine UnK.mk (fun b hb => ?_) | refine Zy hix ?_ | refine Zz hix ?_); conv => whnf) | (refine Zb (fun h => ?_) (fun h => ?_) <;> first | exact Zx | (conv => whnf))))
        all_goals (try dsimp only [Int.toNat_natCast] at *)
        (repeat' (first | refine Zs ?_ | refine Zk ?_ | ((first | refine Za ?_ | refine Zr ?_ | refine Zp ?_ | refine Ze ?_ | refine Zd ?_ | refine W.drawT dr16 rfl mixed rfl ?_ | refine Zn ?_ | refine Zc ?_ | refine UnK.mk (fun b hb => ?_) | refine Zy hix ?_ | refine Zz hix ?_); conv => whnf) | (refine Zb (fun h => ?_) (fun h => ?_) <;> first | exact Zx | (conv => whnf))))
        all_goals first | (exfalso; omega) | skip
        all_goals (try dsimp only [Int.toNat_natCast] at *)
        (repeat' (first | refine Zs ?_ | refine Zk ?_ | ((first | refine Za ?_ | refine Zr ?_ | refine Zp ?_ | refine Ze ?_ | refine Zd ?_ | refine W.drawT dr16 rfl mixed rfl ?_ | refine Zn ?_ | refine Zc ?_ | refine UnK.mk (fun b hb => ?_)); conv => whnf) | (refine Zb (fun h => ?_) (fun h => ?_) <;> first | exact Zx | (conv => whnf))))
        all_goals (refine ⟨(m + 1, rdS rs cs b ⟨dem, bat, gone, false⟩), ⟨by simp only; omega, hK2, by rw [hgo2]; simp only; omega⟩, by simp only; omega, ?_, ?_, ?_, ?_⟩)
        all_goals (try rw [eS])
        all_goals (try dsimp only)
        all_goals (repeat' (first | exact trivial | exact Yr | exact Yi (by first | rfl | (simp; done) | omega) | exact Yo (by first | rfl | (simp; done) | omega) | exact Yd | exact Yn | exact Ye (by first | rfl | (simp; done) | omega) | exact ⟨_, rfl, Yf, rfl⟩ | refine ⟨_, rfl, Yb ?_, rfl⟩ | refine ⟨_, rfl, Yw (by first | rfl | (simp; done) | omega) ?_, rfl⟩ | refine And.intro ?_ ?_))
        all_goals first | exact AVle.bo rfl rfl Iff.rfl | skip
        all_goals (intro x hx y hy)
        all_goals first | (have := hgl x (by simpa using hx) y hy; simpa only [Nat.zero_add] using this) | (have := hbl x (by simpa using hx) y hy; simpa only [Nat.zero_add] using this)
      rw [if_neg (fun hh => by rcases hh with hh | hh <;> omega)] at y5
      have hds : RowIs iE 1 cs.length (rowF iE de) de := by rw [← y2]; exact RowIs.refl iE 1 de
      have hds2 := hds.set (k := idxN cs x.c) (x := de.getD (idxN cs x.c) 0 + M * x.q) (ds := [.val (.int .i64 (de.getD (0 + idxN cs x.c) default + M * x.q))]) rfl (fun t ht => by
        obtain rfl : t = 0 := by omega
        rw [ed]
        exact Dle.refl _)
      have hdl := hds2.le
      clear hds hds2
      have y7 : ∀ i, 0 ≤ (de.set (idxN cs x.c) (de.getD (idxN cs x.c) 0 + M * x.q)).getD i 0 ∧ (de.set (idxN cs x.c) (de.getD (idxN cs x.c) 0 + M * x.q)).getD i 0 ≤ 1000000000000 := fun i => by
        rw [getD_set]
        split
        · omega
        · exact y3 i
      rw [← ed] at h2 y6
      (repeat' (first | refine Zs ?_ | refine Zk ?_ | ((first | refine Za ?_ | refine Zr ?_ | refine Zp ?_ | refine Ze ?_ | refine Zd ?_ | refine W.drawT dr16 rfl mixed rfl ?_ | refine Zn ?_ | refine Zc ?_ | refine UnK.mk (fun b hb => ?_) | refine Zy hix ?_ | refine Zz hix ?_); conv => whnf) | (refine Zb (fun h => ?_) (fun h => ?_) <;> first | exact Zx | (conv => whnf))))
      all_goals (try dsimp only [Int.toNat_natCast] at *)
      (repeat' (first | refine Zs ?_ | refine Zk ?_ | ((first | refine Za ?_ | refine Zr ?_ | refine Zp ?_ | refine Ze ?_ | refine Zd ?_ | refine W.drawT dr16 rfl mixed rfl ?_ | refine Zn ?_ | refine Zc ?_ | refine UnK.mk (fun b hb => ?_) | refine Zy hix ?_ | refine Zz hix ?_); conv => whnf) | (refine Zb (fun h => ?_) (fun h => ?_) <;> first | exact Zx | (conv => whnf))))
      all_goals (try dsimp only [Int.toNat_natCast] at *)
      (repeat' (first | refine Zs ?_ | refine Zk ?_ | ((first | refine Za ?_ | refine Zr ?_ | refine Zp ?_ | refine Ze ?_ | refine Zd ?_ | refine W.drawT dr16 rfl mixed rfl ?_ | refine Zn ?_ | refine Zc ?_ | refine UnK.mk (fun b hb => ?_) | refine Zy hix ?_ | refine Zz hix ?_); conv => whnf) | (refine Zb (fun h => ?_) (fun h => ?_) <;> first | exact Zx | (conv => whnf))))
      all_goals first | (exfalso; omega) | skip
      all_goals (refine ⟨(j + 1, de.set (idxN cs x.c) (de.getD (idxN cs x.c) 0 + M * x.q)), ⟨by simp only; omega, by simpa using y2, y7, y5⟩, by simp only; omega, ?_, ?_, ?_, ?_⟩)
      all_goals (try dsimp only)
      all_goals (repeat' (first | exact trivial | exact Yr | exact Yi (by first | rfl | (simp; done) | omega) | exact Yo (by first | rfl | (simp; done) | omega) | exact Yd | exact Yn | exact Ye (by first | rfl | (simp; done) | omega) | exact ⟨_, rfl, Yf, rfl⟩ | refine ⟨_, rfl, Yb ?_, rfl⟩ | refine ⟨_, rfl, Yw (by first | rfl | (simp; done) | omega) ?_, rfl⟩ | refine And.intro ?_ ?_))
      all_goals (intro x hx y hy; have := hdl x (by simpa using hx) y hy; simpa only [Nat.zero_add] using this)
    obtain rfl : j = (rs.getD kk default).ins.length := by omega
    rw [List.drop_length] at y4
    have y5 : X = (false, de) := y4.symm
    subst y5
    (repeat' (first | refine Zs ?_ | refine Zk ?_ | ((first | refine Za ?_ | refine Zr ?_ | refine Zp ?_ | refine Ze ?_ | refine Zd ?_ | refine W.drawT dr16 rfl mixed rfl ?_ | refine Zn ?_ | refine Zc ?_ | refine UnK.mk (fun b hb => ?_)); conv => whnf) | (refine Zb (fun h => ?_) (fun h => ?_) <;> first | exact Zx | (conv => whnf))))
    all_goals (try dsimp only [Int.toNat_natCast] at *)
    all_goals first | (exfalso; omega) | skip
    (repeat' (first | refine Zs ?_ | refine Zk ?_ | ((first | refine Za ?_ | refine Zr ?_ | refine Zp ?_ | refine Ze ?_ | refine Zd ?_ | refine W.drawT dr16 rfl mixed rfl ?_ | refine Zn ?_ | refine Zc ?_ | refine UnK.mk (fun b hb => ?_)); conv => whnf) | (refine Zb (fun h => ?_) (fun h => ?_) <;> first | exact Zx | (conv => whnf))))
    all_goals (try dsimp only [Int.toNat_natCast] at *)
    (repeat' (first | refine Zs ?_ | refine Zk ?_ | ((first | refine Za ?_ | refine Zr ?_ | refine Zp ?_ | refine Ze ?_ | refine Zd ?_ | refine W.drawT dr16 rfl mixed rfl ?_ | refine Zn ?_ | refine Zc ?_ | refine UnK.mk (fun b hb => ?_)); conv => whnf) | (refine Zb (fun h => ?_) (fun h => ?_) <;> first | exact Zx | (conv => whnf))))
    all_goals (refine ⟨(m + 1, rdS rs cs b ⟨dem, bat, gone, false⟩), ⟨by simp only; omega, hK2, by rw [hgo2]; simp only; omega⟩, by simp only; omega, ?_, ?_, ?_, ?_⟩)
    all_goals (try rw [eS])
    all_goals (try dsimp only)
    all_goals (repeat' (first | exact trivial | exact Yr | exact Yi (by first | rfl | (simp; done) | omega) | exact Yo (by first | rfl | (simp; done) | omega) | exact Yd | exact Yn | exact Ye (by first | rfl | (simp; done) | omega) | exact ⟨_, rfl, Yf, rfl⟩ | refine ⟨_, rfl, Yb ?_, rfl⟩ | refine ⟨_, rfl, Yw (by first | rfl | (simp; done) | omega) ?_, rfl⟩ | refine And.intro ?_ ?_))
    all_goals first | exact AVle.bo rfl rfl Iff.rfl | skip
    all_goals (intro x hx y hy)
    all_goals first | (have := hgl x (by simpa using hx) y hy; simpa only [Nat.zero_add] using this) | (have := hbl x (by simpa using hx) y hy; simpa only [Nat.zero_add] using this)
end Go.Proofs.Ytoeghejbgibioaa
