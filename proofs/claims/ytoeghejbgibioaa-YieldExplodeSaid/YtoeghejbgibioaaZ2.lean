/- Yields: the recipes that make the codes, found. -/
import Derived.Test.YtoeghejbgibioaaYN
import Derived.Test.YtoeghejbgibioaaZ1
namespace Go.Proofs.Ytoeghejbgibioaa
open Go Go.RowKit
set_option linter.unusedVariables false
set_option linter.unusedSimpArgs false
set_option maxRecDepth 100000
set_option maxHeartbeats 4000000
attribute [local irreducible] ResLe AVle ArgLe ArgP EntLe Dle ResH ArgQ strEq strLt

def rcsOk (rs : List Rc) : Prop := rs.length ≤ 32 ∧ ∀ r ∈ rs, yrOk r
theorem rcsOk.at {rs : List Rc} (h : rcsOk rs) {k : Nat} (hk : k < rs.length) : ascOk (rs.getD k default).ins 1 1000000000 ∧ (rs.getD k default).ins.length ≤ 8 ∧ ascOk (rs.getD k default).outs 1 1000000000 ∧ (rs.getD k default).outs.length ≤ 8 := by
  have h1 := h.2 _ (ygetD_in hk)
  have h2 := h1.2.1
  have h3 := h1.2.2.1
  exact ⟨h2.1, h2.2.2, h3.1, h3.2.2⟩
theorem rcsOk.len {rs : List Rc} (h : rcsOk rs) (n : Nat) (hn : n ≤ rs.length) : (mkT rs n).length ≤ 256 := by
  have h1 := len_mkT rs (fun r hr => by
    obtain ⟨i, hi, rfl⟩ := List.getElem_of_mem hr
    have := (h.at hi).2.2.2
    rwa [List.getD_eq_getElem?_getD, List.getElem?_eq_getElem hi] at this) n hn
  have := h.1
  omega
theorem makers_h (rs : List Rc) (h : rcsOk rs) : HC XX 36 [.dat (rcD rs)] [] (.mp 10) [(10, .mp XX.P 9 3 (mkT rs rs.length))] (some 10) := by
  have hm : (1000 : Nat) ≤ maxLen := by decide
  have h32 := h.1
  refine HC.of (n := Try.f36.ntmps) XX_ok Try.func36 rfl (by kernel_rfl) rfl rfl (Nat.le_of_ble_eq_true rfl) rfl rfl ?_
  (repeat' (first | refine Zs ?_ | refine Zk ?_ | ((first | refine Za ?_ | refine Zr ?_ | refine Zp ?_ | refine Ze ?_ | refine Zd ?_ | refine Zn ?_ | refine Zc ?_ | refine UnK.mk (fun b hb => ?_)); conv => whnf) | (refine Zb (fun h => ?_) (fun h => ?_) <;> first | exact Zx | (conv => whnf))))
  refine (W.loopK (ι := Nat) [3, 11, 12] [] (fun n => [(13, iA n)]) (fun n => [(10, .mp XX.P 9 3 (mkT rs n))]) (fun n => n ≤ rs.length) (fun n => rs.length - n) 0 (Nat.zero_le _) ?_ ?_ ?_)
  · exact Yz
  · exact Yz
  conv => whnf
  intro n hn
  by_cases hn' : n < rs.length
  · obtain ⟨-, -, a1, a2⟩ := h.at hn'
    have eT : mkT rs (n + 1) = mkOne n (rs.getD n default).outs (mkT rs n) := rfl
    have hl := h.len n hn
    (repeat' (first | refine Zs ?_ | refine Zk ?_ | ((first | refine Za ?_ | refine Zr ?_ | refine Zp ?_ | refine Ze ?_ | refine Zd ?_ | refine Zn ?_ | refine Zc ?_ | refine UnK.mk (fun b hb => ?_)); conv => whnf) | (refine Zb (fun h => ?_) (fun h => ?_) <;> first | exact Zx | (conv => whnf))))
    all_goals (try dsimp only [Int.toNat_natCast] at *)
    (repeat' (first | refine Zs ?_ | refine Zk ?_ | ((first | refine Za ?_ | refine Zr ?_ | refine Zp ?_ | refine Ze ?_ | refine Zd ?_ | refine Zn ?_ | refine Zc ?_ | refine UnK.mk (fun b hb => ?_)); conv => whnf) | (refine Zb (fun h => ?_) (fun h => ?_) <;> first | exact Zx | (conv => whnf))))
    all_goals (try dsimp only [Int.toNat_natCast] at *)
    all_goals first | (exfalso; omega) | skip
    refine (W.loopK (ι := Nat) [3, 4, 11, 12, 13, 19, 20] [] (fun i => [(21, iA i)]) (fun i => [(10, .mp XX.P 9 3 (mkOne n ((rs.getD n default).outs.take i) (mkT rs n)))]) (fun i => i ≤ (rs.getD n default).outs.length) (fun i => (rs.getD n default).outs.length - i) 0 (Nat.zero_le _) ?_ ?_ ?_)
    · exact Yz
    · exact Yz
    conv => whnf
    intro i hi
    by_cases hi' : i < (rs.getD n default).outs.length
    · have hx := a1 i hi'
      have s1 : ((rs.getD n default).outs.getD i default).c.size ≤ maxLen := by rw [hx.1.1]; omega
      have s2 : (mkOne n ((rs.getD n default).outs.take i) (mkT rs n)).length < maxLen := by
        have := len_mkOne n (mkT rs n) ((rs.getD n default).outs.take i)
        rw [List.length_take] at this
        omega
      have e1 : mkOne n ((rs.getD n default).outs.take (i + 1)) (mkT rs n) = if hasM (mkOne n ((rs.getD n default).outs.take i) (mkT rs n)) ((rs.getD n default).outs.getD i default).c then mkOne n ((rs.getD n default).outs.take i) (mkT rs n) else putM (mkOne n ((rs.getD n default).outs.take i) (mkT rs n)) ((rs.getD n default).outs.getD i default).c n := by rw [take_snoc _ hi', mkOne_snoc]
      have s3 : -9223372036854775808 ≤ (n : Int) ∧ (n : Int) ≤ 9223372036854775807 := by omega
      generalize mkOne n ((rs.getD n default).outs.take i) (mkT rs n) = M at *
      (repeat' (first | refine Zs ?_ | refine Zk ?_ | ((first | refine Za ?_ | refine Zr ?_ | refine Zp ?_ | refine Ze ?_ | refine Zd ?_ | refine Zn ?_ | refine Zc ?_ | refine UnK.mk (fun b hb => ?_) | refine Zc ?_ ⟨rfl, rfl, rfl, s1⟩ | refine Zc ?_ ⟨rfl, rfl, rfl, s1, s2, s3⟩); conv => whnf) | (refine Zb (fun h => ?_) (fun h => ?_) <;> first | exact Zx | (conv => whnf))))
      all_goals (try dsimp only [Int.toNat_natCast] at *)
      all_goals first | (exfalso; omega) | skip
      · rw [if_neg (by rw [h]; decide)] at e1
        refine ⟨i + 1, by omega, by omega, ?_, ?_, ?_, ?_⟩
        all_goals (try rw [e1])
        all_goals exact Yz
      · rw [if_pos h] at e1
        refine ⟨i + 1, by omega, by omega, ?_, ?_, ?_, ?_⟩
        all_goals (try rw [e1])
        all_goals exact Yz
    obtain rfl : i = (rs.getD n default).outs.length := by omega
    rw [List.take_length]
    (repeat' (first | refine Zs ?_ | refine Zk ?_ | ((first | refine Za ?_ | refine Zr ?_ | refine Zp ?_ | refine Ze ?_ | refine Zd ?_ | refine Zn ?_ | refine Zc ?_ | refine UnK.mk (fun b hb => ?_)); conv => whnf) | (refine Zb (fun h => ?_) (fun h => ?_) <;> first | exact Zx | (conv => whnf))))
    all_goals first | (exfalso; omega) | skip
    refine ⟨n + 1, by omega, by omega, ?_, ?_, ?_, ?_⟩
    all_goals (try rw [eT])
    all_goals exact Yz
  obtain rfl : n = rs.length := by omega
  (repeat' (first | refine Zs ?_ | refine Zk ?_ | ((first | refine Za ?_ | refine Zr ?_ | refine Zp ?_ | refine Ze ?_ | refine Zd ?_ | refine Zn ?_ | refine Zc ?_ | refine UnK.mk (fun b hb => ?_)); conv => whnf) | (refine Zb (fun h => ?_) (fun h => ?_) <;> first | exact Zx | (conv => whnf))))
  all_goals first | (exfalso; omega) | skip
  (conv => whnf); (repeat' (first | exact trivial | exact AVle.refl _ | exact EntLe.refl _ | exact AVle.int (by first | rfl | omega) | exact ResH.same (AVle.refl _) | exact ResH.same (AVle.own (by first | rfl | omega)) | exact ResH.same (AVle.int (by first | rfl | omega)) | exact ResH.same (AVle.bool (by simp only [decide_eq_true_eq, decide_eq_false_iff_not, decide_eq_decide]; first | rfl | omega)) | exact ResH.same (AVle.tt_ (by simp only [decide_eq_true_eq, decide_eq_false_iff_not, decide_eq_decide]; first | rfl | omega)) | exact ResH.same (AVle.ff_ (by simp only [decide_eq_true_eq, decide_eq_false_iff_not, decide_eq_decide]; first | rfl | omega)) | exact ResH.same (AVle.tt_ rfl) | exact ResH.same (AVle.ff_ rfl) | refine ResH.agg ?_ | exact ⟨_, rfl, EntLe.refl _, rfl⟩ | refine ⟨_, rfl, EntLe.blk ?_, rfl⟩ | refine ⟨_, rfl, EntLe.row (by first | rfl | omega) ?_, rfl⟩ | refine And.intro ?_ ?_ | ((conv => whnf); first | exact ResH.same (AVle.refl _) | exact ResH.same (AVle.own (by first | rfl | omega)) | exact ResH.same (AVle.int (by first | rfl | omega)) | exact ResH.same (AVle.bool (by simp only [decide_eq_true_eq, decide_eq_false_iff_not, decide_eq_decide]; first | rfl | omega)) | exact ResH.same (AVle.tt_ (by simp only [decide_eq_true_eq, decide_eq_false_iff_not, decide_eq_decide]; first | rfl | omega)) | exact ResH.same (AVle.ff_ (by simp only [decide_eq_true_eq, decide_eq_false_iff_not, decide_eq_decide]; first | rfl | omega)) | exact ResH.same (AVle.tt_ rfl) | exact ResH.same (AVle.ff_ rfl) | refine ResH.agg ?_)))
end Go.Proofs.Ytoeghejbgibioaa
