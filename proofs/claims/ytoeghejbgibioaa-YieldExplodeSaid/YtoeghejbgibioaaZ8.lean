/- Yields: what a quantity of a code needs (the package's Explode). -/
import Derived.Test.YtoeghejbgibioaaE4
namespace Go.Proofs.Ytoeghejbgibioaa
open Go Go.RowKit Go.Sort
set_option linter.unusedVariables false
set_option linter.unusedSimpArgs false
set_option maxRecDepth 100000
set_option maxHeartbeats 4000000
attribute [local irreducible] ResLe AVle ArgLe ArgP EntLe Dle ResH ArgQ strEq strLt

noncomputable def exA (rs : List Rc) (i : Nat) : Int := if ¬ yrOk (rs.getD i default) then 1 else if 0 < i ∧ (rs.getD i default).id ≤ (rs.getD (i - 1) default).id then 9 else 0
noncomputable def exF (rs : List Rc) : Nat → Nat → Int
  | 0, _ => 0
  | m + 1, i => if exA rs i ≠ 0 then exA rs i else exF rs m (i + 1)
noncomputable def exErr (rs : List Rc) : Int := exF rs rs.length 0
theorem exF_step (rs : List Rc) {k : Nat} (h : k < rs.length) : exF rs (rs.length - k) k = if exA rs k ≠ 0 then exA rs k else exF rs (rs.length - (k + 1)) (k + 1) := by
  rw [show rs.length - k = (rs.length - (k + 1)) + 1 by omega]
  rfl
theorem exF_end (rs : List Rc) : exF rs (rs.length - rs.length) rs.length = 0 := by rw [Nat.sub_self]; rfl
theorem exF_zero (rs : List Rc) : ∀ m i, exF rs m i = 0 → ∀ j, i ≤ j → j < i + m → exA rs j = 0
  | 0, i, _, j, h1, h2 => absurd h2 (by omega)
  | m + 1, i, h, j, h1, h2 => by
    unfold exF at h
    by_cases h0 : exA rs i = 0
    · rw [if_neg (by simpa using h0)] at h
      by_cases hj : j = i
      · subst hj; exact h0
      · exact exF_zero rs m (i + 1) h j (by omega) (by omega)
    · rw [if_pos h0] at h
      exact absurd h h0
theorem exErr_ok {rs : List Rc} (h : exErr rs = 0) (hl : rs.length ≤ 32) : rcsOk rs := by
  refine ⟨hl, fun r hr => ?_⟩
  obtain ⟨i, hi, rfl⟩ := List.getElem_of_mem hr
  have h1 := exF_zero rs rs.length 0 h i (Nat.zero_le _) (by omega)
  unfold exA at h1
  by_cases h2 : yrOk (rs.getD i default)
  · rwa [ygetD_of hi] at h2
  · rw [if_pos h2] at h1
    exact absurd h1 (by decide)
noncomputable def exE (rs : List Rc) (c : ByteArray) (q : Int) : Int := if 32 < rs.length then 8 else if exErr rs ≠ 0 then exErr rs else if ¬ (cOk c ∧ 1 ≤ q ∧ q ≤ 1000000000) then 2 else if (ordR rs c).1 = false then 19 else match rnAll rs (ordL rs c) c q with
  | none => 16
  | some _ => 0
noncomputable def exN (rs : List Rc) (c : ByteArray) (q : Int) : List Nd := if exE rs c q = 0 then match rnAll rs (ordL rs c) c q with
  | none => []
  | some s => sortN (ndsOf rs s.1) else []
noncomputable def exB (rs : List Rc) (c : ByteArray) (q : Int) : List Int := if exE rs c q = 0 then match rnAll rs (ordL rs c) c q with
  | none => []
  | some s => s.2 else []
theorem ex_no {rs : List Rc} {c : ByteArray} {q e : Int} (h : exE rs c q = e) (he : e ≠ 0) : exN rs c q = [] ∧ exB rs c q = [] := by
  unfold exN exB
  rw [if_neg (by rw [h]; exact he), if_neg (by rw [h]; exact he)]
  exact ⟨rfl, rfl⟩
theorem rnIi_keys {P : ByteArray → Prop} (b : Int) : ∀ (us : List Nd) (L : ML), (∀ x ∈ us, P x.c) → (∀ p ∈ L, P p.1) → ∀ p ∈ rnIi b L us, P p.1
  | [], L, _, h => h
  | x :: l, L, hu, h => rnIi_keys b l _ (fun y hy => hu y (by simp [hy])) fun p hp => by
    unfold rnP putM at hp
    rcases List.mem_cons.1 hp with rfl | hp
    · exact hu x (by simp)
    · exact h p (List.mem_filter.1 hp).1
theorem rnFi_keys {P : ByteArray → Prop} (rs : List Rc) (hr : ∀ k : Nat, ∀ x ∈ (rs.getD k default).ins, P x.c) : ∀ (od : List Int) (s : ML × List Int), (∀ p ∈ s.1, P p.1) → ∀ p ∈ (rnFi rs od s).1, P p.1
  | [], s, h => h
  | k :: l, s, h => rnFi_keys rs hr l _ (rnIi_keys _ _ _ (hr k.toNat) h)
theorem ins_size {rs : List Rc} (h : rcsOk rs) (k : Nat) : ∀ x ∈ (rs.getD k default).ins, x.c.size ≤ 1000 := fun x hx => by
  by_cases hk : k < rs.length
  · obtain ⟨a1, _, _, _⟩ := h.at hk
    obtain ⟨i, hi, rfl⟩ := List.getElem_of_mem hx
    have := (a1 i hi).1.1
    rw [ygetD_of hi] at this
    omega
  · rw [List.getD_eq_getElem?_getD, List.getElem?_eq_none (by omega)] at hx
    cases hx
theorem yexplode_t (rs : List Rc) (c : ByteArray) (q : Int) (hL : rs.length ≤ 9223372036854775807) (hB : ∀ r ∈ rs, r.ins.length ≤ 9223372036854775807 ∧ r.outs.length ≤ 9223372036854775807 ∧ r.sc.length ≤ 9223372036854775807) :
    ACalls XX 15 [.dat (rcD rs), sY c, iA q] (.tup [.dat (ndD (exN rs c q)), .dat (iD (exB rs c q)), iA (exE rs c q)]) := by
  by_cases h32 : 32 < rs.length
  · have hE : exE rs c q = 8 := if_pos h32
    obtain ⟨e1, e2⟩ := ex_no hE (by decide)
    rw [hE, e1, e2]
    refine ACalls.of (n := Try.f15.ntmps) XX_ok Try.func15 rfl (by kernel_rfl) rfl rfl (Nat.le_of_ble_eq_true rfl) ?_
    (repeat' (first | refine Zs ?_ | refine Zk ?_ | ((first | refine Za ?_ | refine Zr ?_ | refine Zp ?_ | refine Ze ?_ | refine Zd ?_ | refine W.drawT dr15 rfl mixed rfl ?_ | refine Zn ?_ | refine Zc ?_ | refine UnK.mk (fun b hb => ?_)); conv => whnf) | (refine Zb (fun h => ?_) (fun h => ?_) <;> first | exact Zx | (conv => whnf))))
    all_goals first | (exfalso; omega) | ((repeat' (first | exact trivial | exact Zm | exact Zl | exact ResLe.row0 rfl | exact Zi (by first | rfl | omega) | exact Zo (h := by first | rfl | omega) | exact ResLe.bo rfl rfl Iff.rfl | refine ResLe.agg ?_ | refine And.intro ?_ ?_ | ((conv => whnf); first | exact Zl | exact ResLe.row0 rfl | exact Zi (by first | rfl | omega) | exact Zo (h := by first | rfl | omega) | exact ResLe.bo rfl rfl Iff.rfl | refine ResLe.agg ?_ | refine And.intro ?_ ?_))); done)
  by_cases hF : exErr rs = 0
  rotate_left
  · have hE : exE rs c q = exErr rs := by unfold exE; rw [if_neg h32, if_pos hF]
    obtain ⟨e1, e2⟩ := ex_no hE hF
    rw [hE, e1, e2]
    refine ACalls.of (n := Try.f15.ntmps) XX_ok Try.func15 rfl (by kernel_rfl) rfl rfl (Nat.le_of_ble_eq_true rfl) ?_
    (repeat' (first | refine Zs ?_ | refine Zk ?_ | ((first | refine Za ?_ | refine Zr ?_ | refine Zp ?_ | refine Ze ?_ | refine Zd ?_ | refine W.drawT dr15 rfl mixed rfl ?_ | refine Zn ?_ | refine Zc ?_ | refine UnK.mk (fun b hb => ?_)); conv => whnf) | (refine Zb (fun h => ?_) (fun h => ?_) <;> first | exact Zx | (conv => whnf))))
    all_goals first | (exfalso; omega) | skip
    refine (W.loopK (ι := Nat) [0, 1, 2, 26, 27] [] (fun k => [(28, iA k)]) (fun _ => []) (fun k => k ≤ rs.length ∧ exF rs (rs.length - k) k = exErr rs) (fun k => rs.length - k) 0 ⟨Nat.zero_le _, rfl⟩ ?_ ?_ ?_)
    · exact Yz
    · exact Yz
    conv => whnf
    intro k ⟨hk, hz⟩
    by_cases hk' : k < rs.length
    · rw [exF_step rs hk'] at hz
      obtain ⟨l1, l2, l3⟩ := hB _ (ygetD_in hk')
      have hv := yvalidate_t (rs.getD k default) l1 l2 l3
      have e : 0 < k → ((k : Int) - 1).toNat = k - 1 := by omega
      by_cases hr : yrOk (rs.getD k default)
      rotate_left
      · have ha : exA rs k = 1 := if_pos hr
        rw [ha, if_pos (by decide)] at hz
        have hy : yrErr (rs.getD k default) = 1 := if_neg hr
        rw [hy] at hv
        (repeat' (first | refine Zs ?_ | refine Zk ?_ | ((first | refine Za ?_ | refine Zr ?_ | refine Zp ?_ | refine Ze ?_ | refine Zd ?_ | refine W.drawT dr15 rfl mixed rfl ?_ | refine Zn ?_ | refine Zc ?_ | refine UnK.mk (fun b hb => ?_)); conv => whnf) | (refine Zb (fun h => ?_) (fun h => ?_) <;> first | exact Zx | (conv => whnf))))
        all_goals (try dsimp only [Int.toNat_natCast] at *)
        (repeat' (first | refine Zs ?_ | refine Zk ?_ | ((first | refine Za ?_ | refine Zr ?_ | refine Zp ?_ | refine Ze ?_ | refine Zd ?_ | refine W.drawT dr15 rfl mixed rfl ?_ | refine Zn ?_ | refine Zc ?_ | refine UnK.mk (fun b hb => ?_) | refine Zy hv ?_ | refine Zz hv ?_); conv => whnf) | (refine Zb (fun h => ?_) (fun h => ?_) <;> first | exact Zx | (conv => whnf))))
        all_goals first | (exfalso; omega) | ((repeat' (first | exact trivial | exact Zm | exact Zl | exact ResLe.row0 rfl | exact Zi (by first | rfl | omega) | exact Zo (h := by first | rfl | omega) | exact ResLe.bo rfl rfl Iff.rfl | refine ResLe.agg ?_ | refine And.intro ?_ ?_ | ((conv => whnf); first | exact Zl | exact ResLe.row0 rfl | exact Zi (by first | rfl | omega) | exact Zo (h := by first | rfl | omega) | exact ResLe.bo rfl rfl Iff.rfl | refine ResLe.agg ?_ | refine And.intro ?_ ?_))); done)
      · have hy : yrErr (rs.getD k default) = 0 := if_pos hr
        rw [hy] at hv
        have ha : exA rs k = if 0 < k ∧ (rs.getD k default).id ≤ (rs.getD (k - 1) default).id then 9 else 0 := if_neg (fun h => h hr)
        by_cases h9 : 0 < k ∧ (rs.getD k default).id ≤ (rs.getD (k - 1) default).id
        · rw [ha, if_pos h9, if_pos (by decide)] at hz
          have h9' : (rs.getD k default).id ≤ (rs.getD ((k : Int) - 1).toNat default).id := by rw [e h9.1]; exact h9.2
          (repeat' (first | refine Zs ?_ | refine Zk ?_ | ((first | refine Za ?_ | refine Zr ?_ | refine Zp ?_ | refine Ze ?_ | refine Zd ?_ | refine W.drawT dr15 rfl mixed rfl ?_ | refine Zn ?_ | refine Zc ?_ | refine UnK.mk (fun b hb => ?_)); conv => whnf) | (refine Zb (fun h => ?_) (fun h => ?_) <;> first | exact Zx | (conv => whnf))))
          all_goals (try dsimp only [Int.toNat_natCast] at *)
          (repeat' (first | refine Zs ?_ | refine Zk ?_ | ((first | refine Za ?_ | refine Zr ?_ | refine Zp ?_ | refine Ze ?_ | refine Zd ?_ | refine W.drawT dr15 rfl mixed rfl ?_ | refine Zn ?_ | refine Zc ?_ | refine UnK.mk (fun b hb => ?_) | refine Zy hv ?_ | refine Zz hv ?_); conv => whnf) | (refine Zb (fun h => ?_) (fun h => ?_) <;> first | exact Zx | (conv => whnf))))
          all_goals (try dsimp only [Int.toNat_natCast] at *)
          all_goals first | (exfalso; omega) | ((repeat' (first | exact trivial | exact Zm | exact Zl | exact ResLe.row0 rfl | exact Zi (by first | rfl | omega) | exact Zo (h := by first | rfl | omega) | exact ResLe.bo rfl rfl Iff.rfl | refine ResLe.agg ?_ | refine And.intro ?_ ?_ | ((conv => whnf); first | exact Zl | exact ResLe.row0 rfl | exact Zi (by first | rfl | omega) | exact Zo (h := by first | rfl | omega) | exact ResLe.bo rfl rfl Iff.rfl | refine ResLe.agg ?_ | refine And.intro ?_ ?_))); done)
        · rw [ha, if_neg h9, if_neg (by decide)] at hz
          have h9' : 0 < k → ¬ (rs.getD k default).id ≤ (rs.getD ((k : Int) - 1).toNat default).id := fun h => by rw [e h]; exact fun hh => h9 ⟨h, hh⟩
          (repeat' (first | refine Zs ?_ | refine Zk ?_ | ((first | refine Za ?_ | refine Zr ?_ | refine Zp ?_ | refine Ze ?_ | refine Zd ?_ | refine W.drawT dr15 rfl mixed rfl ?_ | refine Zn ?_ | refine Zc ?_ | refine UnK.mk (fun b hb => ?_)); conv => whnf) | (refine Zb (fun h => ?_) (fun h => ?_) <;> first | exact Zx | (conv => whnf))))
          all_goals (try dsimp only [Int.toNat_natCast] at *)
          (repeat' (first | refine Zs ?_ | refine Zk ?_ | ((first | refine Za ?_ | refine Zr ?_ | refine Zp ?_ | refine Ze ?_ | refine Zd ?_ | refine W.drawT dr15 rfl mixed rfl ?_ | refine Zn ?_ | refine Zc ?_ | refine UnK.mk (fun b hb => ?_) | refine Zy hv ?_ | refine Zz hv ?_); conv => whnf) | (refine Zb (fun h => ?_) (fun h => ?_) <;> first | exact Zx | (conv => whnf))))
          all_goals (try dsimp only [Int.toNat_natCast] at *)
          all_goals first | (exfalso; omega) | skip
          all_goals (refine ⟨k + 1, ⟨by omega, hz⟩, by omega, ?_, ?_, ?_, ?_⟩)
          all_goals exact Yz
    obtain rfl : k = rs.length := by omega
    rw [exF_end] at hz
    exact absurd hz.symm hF
  have hR := exErr_ok hF (by omega)
  have k1 := yvalidCode_t c
  by_cases hc : cOk c ∧ 1 ≤ q ∧ q ≤ 1000000000
  rotate_left
  · have hE : exE rs c q = 2 := by unfold exE; rw [if_neg h32, if_neg (by simpa using hF), if_pos hc]
    obtain ⟨e1, e2⟩ := ex_no hE (by decide)
    rw [hE, e1, e2]
    refine ACalls.of (n := Try.f15.ntmps) XX_ok Try.func15 rfl (by kernel_rfl) rfl rfl (Nat.le_of_ble_eq_true rfl) ?_
    (repeat' (first | refine Zs ?_ | refine Zk ?_ | ((first | refine Za ?_ | refine Zr ?_ | refine Zp ?_ | refine Ze ?_ | refine Zd ?_ | refine W.drawT dr15 rfl mixed rfl ?_ | refine Zn ?_ | refine Zc ?_ | refine UnK.mk (fun b hb => ?_)); conv => whnf) | (refine Zb (fun h => ?_) (fun h => ?_) <;> first | exact Zx | (conv => whnf))))
    all_goals first | (exfalso; omega) | skip
    refine (W.loopK (ι := Nat) [0, 1, 2, 26, 27] [] (fun k => [(28, iA k)]) (fun _ => []) (fun k => k ≤ rs.length ∧ exF rs (rs.length - k) k = exErr rs) (fun k => rs.length - k) 0 ⟨Nat.zero_le _, rfl⟩ ?_ ?_ ?_)
    · exact Yz
    · exact Yz
    conv => whnf
    intro k ⟨hk, hz⟩
    by_cases hk' : k < rs.length
    · rw [exF_step rs hk'] at hz
      obtain ⟨l1, l2, l3⟩ := hB _ (ygetD_in hk')
      have hv := yvalidate_t (rs.getD k default) l1 l2 l3
      have e : 0 < k → ((k : Int) - 1).toNat = k - 1 := by omega
      by_cases hr : yrOk (rs.getD k default)
      rotate_left
      · have ha : exA rs k = 1 := if_pos hr
        rw [ha, if_pos (by decide)] at hz
        have hy : yrErr (rs.getD k default) = 1 := if_neg hr
        rw [hy] at hv
        (repeat' (first | refine Zs ?_ | refine Zk ?_ | ((first | refine Za ?_ | refine Zr ?_ | refine Zp ?_ | refine Ze ?_ | refine Zd ?_ | refine W.drawT dr15 rfl mixed rfl ?_ | refine Zn ?_ | refine Zc ?_ | refine UnK.mk (fun b hb => ?_)); conv => whnf) | (refine Zb (fun h => ?_) (fun h => ?_) <;> first | exact Zx | (conv => whnf))))
        all_goals (try dsimp only [Int.toNat_natCast] at *)
        (repeat' (first | refine Zs ?_ | refine Zk ?_ | ((first | refine Za ?_ | refine Zr ?_ | refine Zp ?_ | refine Ze ?_ | refine Zd ?_ | refine W.drawT dr15 rfl mixed rfl ?_ | refine Zn ?_ | refine Zc ?_ | refine UnK.mk (fun b hb => ?_) | refine Zy hv ?_ | refine Zz hv ?_); conv => whnf) | (refine Zb (fun h => ?_) (fun h => ?_) <;> first | exact Zx | (conv => whnf))))
        all_goals first | (exfalso; omega) | ((repeat' (first | exact trivial | exact Zm | exact Zl | exact ResLe.row0 rfl | exact Zi (by first | rfl | omega) | exact Zo (h := by first | rfl | omega) | exact ResLe.bo rfl rfl Iff.rfl | refine ResLe.agg ?_ | refine And.intro ?_ ?_ | ((conv => whnf); first | exact Zl | exact ResLe.row0 rfl | exact Zi (by first | rfl | omega) | exact Zo (h := by first | rfl | omega) | exact ResLe.bo rfl rfl Iff.rfl | refine ResLe.agg ?_ | refine And.intro ?_ ?_))); done)
      · have hy : yrErr (rs.getD k default) = 0 := if_pos hr
        rw [hy] at hv
        have ha : exA rs k = if 0 < k ∧ (rs.getD k default).id ≤ (rs.getD (k - 1) default).id then 9 else 0 := if_neg (fun h => h hr)
        by_cases h9 : 0 < k ∧ (rs.getD k default).id ≤ (rs.getD (k - 1) default).id
        · rw [ha, if_pos h9, if_pos (by decide)] at hz
          have h9' : (rs.getD k default).id ≤ (rs.getD ((k : Int) - 1).toNat default).id := by rw [e h9.1]; exact h9.2
          (repeat' (first | refine Zs ?_ | refine Zk ?_ | ((first | refine Za ?_ | refine Zr ?_ | refine Zp ?_ | refine Ze ?_ | refine Zd ?_ | refine W.drawT dr15 rfl mixed rfl ?_ | refine Zn ?_ | refine Zc ?_ | refine UnK.mk (fun b hb => ?_)); conv => whnf) | (refine Zb (fun h => ?_) (fun h => ?_) <;> first | exact Zx | (conv => whnf))))
          all_goals (try dsimp only [Int.toNat_natCast] at *)
          (repeat' (first | refine Zs ?_ | refine Zk ?_ | ((first | refine Za ?_ | refine Zr ?_ | refine Zp ?_ | refine Ze ?_ | refine Zd ?_ | refine W.drawT dr15 rfl mixed rfl ?_ | refine Zn ?_ | refine Zc ?_ | refine UnK.mk (fun b hb => ?_) | refine Zy hv ?_ | refine Zz hv ?_); conv => whnf) | (refine Zb (fun h => ?_) (fun h => ?_) <;> first | exact Zx | (conv => whnf))))
          all_goals (try dsimp only [Int.toNat_natCast] at *)
          all_goals first | (exfalso; omega) | ((repeat' (first | exact trivial | exact Zm | exact Zl | exact ResLe.row0 rfl | exact Zi (by first | rfl | omega) | exact Zo (h := by first | rfl | omega) | exact ResLe.bo rfl rfl Iff.rfl | refine ResLe.agg ?_ | refine And.intro ?_ ?_ | ((conv => whnf); first | exact Zl | exact ResLe.row0 rfl | exact Zi (by first | rfl | omega) | exact Zo (h := by first | rfl | omega) | exact ResLe.bo rfl rfl Iff.rfl | refine ResLe.agg ?_ | refine And.intro ?_ ?_))); done)
        · rw [ha, if_neg h9, if_neg (by decide)] at hz
          have h9' : 0 < k → ¬ (rs.getD k default).id ≤ (rs.getD ((k : Int) - 1).toNat default).id := fun h => by rw [e h]; exact fun hh => h9 ⟨h, hh⟩
          (repeat' (first | refine Zs ?_ | refine Zk ?_ | ((first | refine Za ?_ | refine Zr ?_ | refine Zp ?_ | refine Ze ?_ | refine Zd ?_ | refine W.drawT dr15 rfl mixed rfl ?_ | refine Zn ?_ | refine Zc ?_ | refine UnK.mk (fun b hb => ?_)); conv => whnf) | (refine Zb (fun h => ?_) (fun h => ?_) <;> first | exact Zx | (conv => whnf))))
          all_goals (try dsimp only [Int.toNat_natCast] at *)
          (repeat' (first | refine Zs ?_ | refine Zk ?_ | ((first | refine Za ?_ | refine Zr ?_ | refine Zp ?_ | refine Ze ?_ | refine Zd ?_ | refine W.drawT dr15 rfl mixed rfl ?_ | refine Zn ?_ | refine Zc ?_ | refine UnK.mk (fun b hb => ?_) | refine Zy hv ?_ | refine Zz hv ?_); conv => whnf) | (refine Zb (fun h => ?_) (fun h => ?_) <;> first | exact Zx | (conv => whnf))))
          all_goals (try dsimp only [Int.toNat_natCast] at *)
          all_goals first | (exfalso; omega) | skip
          all_goals (refine ⟨k + 1, ⟨by omega, hz⟩, by omega, ?_, ?_, ?_, ?_⟩)
          all_goals exact Yz
    obtain rfl : k = rs.length := by omega
    rw [exF_end] at hz
    by_cases hc1 : cOk c
    · rw [decide_eq_true hc1] at k1
      have : ¬ (1 ≤ q ∧ q ≤ 1000000000) := fun hh => hc ⟨hc1, hh⟩
      (repeat' (first | refine Zs ?_ | refine Zk ?_ | ((first | refine Za ?_ | refine Zr ?_ | refine Zp ?_ | refine Ze ?_ | refine Zd ?_ | refine W.drawT dr15 rfl mixed rfl ?_ | refine Zn ?_ | refine Zc ?_ | refine UnK.mk (fun b hb => ?_) | refine Zy k1 ?_ | refine Zz k1 ?_); conv => whnf) | (refine Zb (fun h => ?_) (fun h => ?_) <;> first | exact Zx | (conv => whnf))))
      all_goals first | (exfalso; omega) | ((repeat' (first | exact trivial | exact Zm | exact Zl | exact ResLe.row0 rfl | exact Zi (by first | rfl | omega) | exact Zo (h := by first | rfl | omega) | exact ResLe.bo rfl rfl Iff.rfl | refine ResLe.agg ?_ | refine And.intro ?_ ?_ | ((conv => whnf); first | exact Zl | exact ResLe.row0 rfl | exact Zi (by first | rfl | omega) | exact Zo (h := by first | rfl | omega) | exact ResLe.bo rfl rfl Iff.rfl | refine ResLe.agg ?_ | refine And.intro ?_ ?_))); done)
    · rw [decide_eq_false hc1] at k1
      (repeat' (first | refine Zs ?_ | refine Zk ?_ | ((first | refine Za ?_ | refine Zr ?_ | refine Zp ?_ | refine Ze ?_ | refine Zd ?_ | refine W.drawT dr15 rfl mixed rfl ?_ | refine Zn ?_ | refine Zc ?_ | refine UnK.mk (fun b hb => ?_) | refine Zy k1 ?_ | refine Zz k1 ?_); conv => whnf) | (refine Zb (fun h => ?_) (fun h => ?_) <;> first | exact Zx | (conv => whnf))))
      all_goals first | (exfalso; omega) | ((repeat' (first | exact trivial | exact Zm | exact Zl | exact ResLe.row0 rfl | exact Zi (by first | rfl | omega) | exact Zo (h := by first | rfl | omega) | exact ResLe.bo rfl rfl Iff.rfl | refine ResLe.agg ?_ | refine And.intro ?_ ?_ | ((conv => whnf); first | exact Zl | exact ResLe.row0 rfl | exact Zi (by first | rfl | omega) | exact Zo (h := by first | rfl | omega) | exact ResLe.bo rfl rfl Iff.rfl | refine ResLe.agg ?_ | refine And.intro ?_ ?_))); done)
  obtain ⟨hc1, hc2, hc3⟩ := hc
  have hc8 : c.size ≤ 1000 := by have := hc1.1; omega
  rw [decide_eq_true hc1] at k1
  have k2 := makers_h rs hR
  have k3 := order_h rs hR c hc8
  have hoL := ordL_len rs c
  by_cases ho : (ordR rs c).1 = true
  rotate_left
  · have ho' : (ordR rs c).1 = false := by simpa using ho
    have hE : exE rs c q = 19 := by unfold exE; rw [if_neg h32, if_neg (by simpa using hF), if_neg (by simp [hc1, hc2, hc3]), if_pos ho']
    obtain ⟨e1, e2⟩ := ex_no hE (by decide)
    rw [ho'] at k3
    rw [hE, e1, e2]
    refine ACalls.of (n := Try.f15.ntmps) XX_ok Try.func15 rfl (by kernel_rfl) rfl rfl (Nat.le_of_ble_eq_true rfl) ?_
    (repeat' (first | refine Zs ?_ | refine Zk ?_ | ((first | refine Za ?_ | refine Zr ?_ | refine Zp ?_ | refine Ze ?_ | refine Zd ?_ | refine W.drawT dr15 rfl mixed rfl ?_ | refine Zn ?_ | refine Zc ?_ | refine UnK.mk (fun b hb => ?_)); conv => whnf) | (refine Zb (fun h => ?_) (fun h => ?_) <;> first | exact Zx | (conv => whnf))))
    all_goals first | (exfalso; omega) | skip
    refine (W.loopK (ι := Nat) [0, 1, 2, 26, 27] [] (fun k => [(28, iA k)]) (fun _ => []) (fun k => k ≤ rs.length ∧ exF rs (rs.length - k) k = exErr rs) (fun k => rs.length - k) 0 ⟨Nat.zero_le _, rfl⟩ ?_ ?_ ?_)
    · exact Yz
    · exact Yz
    conv => whnf
    intro k ⟨hk, hz⟩
    by_cases hk' : k < rs.length
    · rw [exF_step rs hk'] at hz
      obtain ⟨l1, l2, l3⟩ := hB _ (ygetD_in hk')
      have hv := yvalidate_t (rs.getD k default) l1 l2 l3
      have e : 0 < k → ((k : Int) - 1).toNat = k - 1 := by omega
      by_cases hr : yrOk (rs.getD k default)
      rotate_left
      · have ha : exA rs k = 1 := if_pos hr
        rw [ha, if_pos (by decide)] at hz
        have hy : yrErr (rs.getD k default) = 1 := if_neg hr
        rw [hy] at hv
        (repeat' (first | refine Zs ?_ | refine Zk ?_ | ((first | refine Za ?_ | refine Zr ?_ | refine Zp ?_ | refine Ze ?_ | refine Zd ?_ | refine W.drawT dr15 rfl mixed rfl ?_ | refine Zn ?_ | refine Zc ?_ | refine UnK.mk (fun b hb => ?_)); conv => whnf) | (refine Zb (fun h => ?_) (fun h => ?_) <;> first | exact Zx | (conv => whnf))))
        all_goals (try dsimp only [Int.toNat_natCast] at *)
        (repeat' (first | refine Zs ?_ | refine Zk ?_ | ((first | refine Za ?_ | refine Zr ?_ | refine Zp ?_ | refine Ze ?_ | refine Zd ?_ | refine W.drawT dr15 rfl mixed rfl ?_ | refine Zn ?_ | refine Zc ?_ | refine UnK.mk (fun b hb => ?_) | refine Zy hv ?_ | refine Zz hv ?_); conv => whnf) | (refine Zb (fun h => ?_) (fun h => ?_) <;> first | exact Zx | (conv => whnf))))
        all_goals first | (exfalso; omega) | ((repeat' (first | exact trivial | exact Zm | exact Zl | exact ResLe.row0 rfl | exact Zi (by first | rfl | omega) | exact Zo (h := by first | rfl | omega) | exact ResLe.bo rfl rfl Iff.rfl | refine ResLe.agg ?_ | refine And.intro ?_ ?_ | ((conv => whnf); first | exact Zl | exact ResLe.row0 rfl | exact Zi (by first | rfl | omega) | exact Zo (h := by first | rfl | omega) | exact ResLe.bo rfl rfl Iff.rfl | refine ResLe.agg ?_ | refine And.intro ?_ ?_))); done)
      · have hy : yrErr (rs.getD k default) = 0 := if_pos hr
        rw [hy] at hv
        have ha : exA rs k = if 0 < k ∧ (rs.getD k default).id ≤ (rs.getD (k - 1) default).id then 9 else 0 := if_neg (fun h => h hr)
        by_cases h9 : 0 < k ∧ (rs.getD k default).id ≤ (rs.getD (k - 1) default).id
        · rw [ha, if_pos h9, if_pos (by decide)] at hz
          have h9' : (rs.getD k default).id ≤ (rs.getD ((k : Int) - 1).toNat default).id := by rw [e h9.1]; exact h9.2
          (repeat' (first | refine Zs ?_ | refine Zk ?_ | ((first | refine Za ?_ | refine Zr ?_ | refine Zp ?_ | refine Ze ?_ | refine Zd ?_ | refine W.drawT dr15 rfl mixed rfl ?_ | refine Zn ?_ | refine Zc ?_ | refine UnK.mk (fun b hb => ?_)); conv => whnf) | (refine Zb (fun h => ?_) (fun h => ?_) <;> first | exact Zx | (conv => whnf))))
          all_goals (try dsimp only [Int.toNat_natCast] at *)
          (repeat' (first | refine Zs ?_ | refine Zk ?_ | ((first | refine Za ?_ | refine Zr ?_ | refine Zp ?_ | refine Ze ?_ | refine Zd ?_ | refine W.drawT dr15 rfl mixed rfl ?_ | refine Zn ?_ | refine Zc ?_ | refine UnK.mk (fun b hb => ?_) | refine Zy hv ?_ | refine Zz hv ?_); conv => whnf) | (refine Zb (fun h => ?_) (fun h => ?_) <;> first | exact Zx | (conv => whnf))))
          all_goals (try dsimp only [Int.toNat_natCast] at *)
          all_goals first | (exfalso; omega) | ((repeat' (first | exact trivial | exact Zm | exact Zl | exact ResLe.row0 rfl | exact Zi (by first | rfl | omega) | exact Zo (h := by first | rfl | omega) | exact ResLe.bo rfl rfl Iff.rfl | refine ResLe.agg ?_ | refine And.intro ?_ ?_ | ((conv => whnf); first | exact Zl | exact ResLe.row0 rfl | exact Zi (by first | rfl | omega) | exact Zo (h := by first | rfl | omega) | exact ResLe.bo rfl rfl Iff.rfl | refine ResLe.agg ?_ | refine And.intro ?_ ?_))); done)
        · rw [ha, if_neg h9, if_neg (by decide)] at hz
          have h9' : 0 < k → ¬ (rs.getD k default).id ≤ (rs.getD ((k : Int) - 1).toNat default).id := fun h => by rw [e h]; exact fun hh => h9 ⟨h, hh⟩
          (repeat' (first | refine Zs ?_ | refine Zk ?_ | ((first | refine Za ?_ | refine Zr ?_ | refine Zp ?_ | refine Ze ?_ | refine Zd ?_ | refine W.drawT dr15 rfl mixed rfl ?_ | refine Zn ?_ | refine Zc ?_ | refine UnK.mk (fun b hb => ?_)); conv => whnf) | (refine Zb (fun h => ?_) (fun h => ?_) <;> first | exact Zx | (conv => whnf))))
          all_goals (try dsimp only [Int.toNat_natCast] at *)
          (repeat' (first | refine Zs ?_ | refine Zk ?_ | ((first | refine Za ?_ | refine Zr ?_ | refine Zp ?_ | refine Ze ?_ | refine Zd ?_ | refine W.drawT dr15 rfl mixed rfl ?_ | refine Zn ?_ | refine Zc ?_ | refine UnK.mk (fun b hb => ?_) | refine Zy hv ?_ | refine Zz hv ?_); conv => whnf) | (refine Zb (fun h => ?_) (fun h => ?_) <;> first | exact Zx | (conv => whnf))))
          all_goals (try dsimp only [Int.toNat_natCast] at *)
          all_goals first | (exfalso; omega) | skip
          all_goals (refine ⟨k + 1, ⟨by omega, hz⟩, by omega, ?_, ?_, ?_, ?_⟩)
          all_goals exact Yz
    obtain rfl : k = rs.length := by omega
    rw [exF_end] at hz
    generalize mkT rs rs.length = MK at *
    generalize ordL rs c = od at *
    (repeat' (first | refine Zs ?_ | refine Zk ?_ | ((first | refine Za ?_ | refine Zr ?_ | refine Zp ?_ | refine Ze ?_ | refine Zd ?_ | refine W.drawT dr15 rfl mixed rfl ?_ | refine Zn ?_ | refine Zc ?_ | refine UnK.mk (fun b hb => ?_) | refine Zy k1 ?_ | refine Zz k1 ?_ | refine ExCall.h [(10, 64)] rfl k2 rfl trivial ?_ | refine ExCall.h [(5000, 64)] rfl k3 rfl ⟨rfl, trivial⟩ ?_ | refine CallK.h [(5000, 64)] rfl k3 rfl rfl ⟨rfl, trivial⟩ rfl rfl ?_); conv => whnf) | (refine Zb (fun h => ?_) (fun h => ?_) <;> first | exact Zx | (conv => whnf))))
    all_goals first | (exfalso; omega) | ((repeat' (first | exact trivial | exact Zm | exact Zl | exact ResLe.row0 rfl | exact Zi (by first | rfl | omega) | exact Zo (h := by first | rfl | omega) | exact ResLe.bo rfl rfl Iff.rfl | refine ResLe.agg ?_ | refine And.intro ?_ ?_ | ((conv => whnf); first | exact Zl | exact ResLe.row0 rfl | exact Zi (by first | rfl | omega) | exact Zo (h := by first | rfl | omega) | exact ResLe.bo rfl rfl Iff.rfl | refine ResLe.agg ?_ | refine And.intro ?_ ?_))); done)
  have hod := ord_of ho
  rw [ho] at k3
  obtain ⟨k4, k5⟩ := run_any rs hR (ordL rs c) (by omega) hod.rng c q hc8 (by omega)
  cases hrn : rnAll rs (ordL rs c) c q with
  | none =>
    have hE : exE rs c q = 16 := by unfold exE; rw [if_neg h32, if_neg (by simpa using hF), if_neg (by simp [hc1, hc2, hc3]), if_neg (by rw [ho]; decide), hrn]
    obtain ⟨e1, e2⟩ := ex_no hE (by decide)
    have k5 := k5 hrn
    rw [hE, e1, e2]
    refine ACalls.of (n := Try.f15.ntmps) XX_ok Try.func15 rfl (by kernel_rfl) rfl rfl (Nat.le_of_ble_eq_true rfl) ?_
    (repeat' (first | refine Zs ?_ | refine Zk ?_ | ((first | refine Za ?_ | refine Zr ?_ | refine Zp ?_ | refine Ze ?_ | refine Zd ?_ | refine W.drawT dr15 rfl mixed rfl ?_ | refine Zn ?_ | refine Zc ?_ | refine UnK.mk (fun b hb => ?_)); conv => whnf) | (refine Zb (fun h => ?_) (fun h => ?_) <;> first | exact Zx | (conv => whnf))))
    all_goals first | (exfalso; omega) | skip
    refine (W.loopK (ι := Nat) [0, 1, 2, 26, 27] [] (fun k => [(28, iA k)]) (fun _ => []) (fun k => k ≤ rs.length ∧ exF rs (rs.length - k) k = exErr rs) (fun k => rs.length - k) 0 ⟨Nat.zero_le _, rfl⟩ ?_ ?_ ?_)
    · exact Yz
    · exact Yz
    conv => whnf
    intro k ⟨hk, hz⟩
    by_cases hk' : k < rs.length
    · rw [exF_step rs hk'] at hz
      obtain ⟨l1, l2, l3⟩ := hB _ (ygetD_in hk')
      have hv := yvalidate_t (rs.getD k default) l1 l2 l3
      have e : 0 < k → ((k : Int) - 1).toNat = k - 1 := by omega
      by_cases hr : yrOk (rs.getD k default)
      rotate_left
      · have ha : exA rs k = 1 := if_pos hr
        rw [ha, if_pos (by decide)] at hz
        have hy : yrErr (rs.getD k default) = 1 := if_neg hr
        rw [hy] at hv
        (repeat' (first | refine Zs ?_ | refine Zk ?_ | ((first | refine Za ?_ | refine Zr ?_ | refine Zp ?_ | refine Ze ?_ | refine Zd ?_ | refine W.drawT dr15 rfl mixed rfl ?_ | refine Zn ?_ | refine Zc ?_ | refine UnK.mk (fun b hb => ?_)); conv => whnf) | (refine Zb (fun h => ?_) (fun h => ?_) <;> first | exact Zx | (conv => whnf))))
        all_goals (try dsimp only [Int.toNat_natCast] at *)
        (repeat' (first | refine Zs ?_ | refine Zk ?_ | ((first | refine Za ?_ | refine Zr ?_ | refine Zp ?_ | refine Ze ?_ | refine Zd ?_ | refine W.drawT dr15 rfl mixed rfl ?_ | refine Zn ?_ | refine Zc ?_ | refine UnK.mk (fun b hb => ?_) | refine Zy hv ?_ | refine Zz hv ?_); conv => whnf) | (refine Zb (fun h => ?_) (fun h => ?_) <;> first | exact Zx | (conv => whnf))))
        all_goals first | (exfalso; omega) | ((repeat' (first | exact trivial | exact Zm | exact Zl | exact ResLe.row0 rfl | exact Zi (by first | rfl | omega) | exact Zo (h := by first | rfl | omega) | exact ResLe.bo rfl rfl Iff.rfl | refine ResLe.agg ?_ | refine And.intro ?_ ?_ | ((conv => whnf); first | exact Zl | exact ResLe.row0 rfl | exact Zi (by first | rfl | omega) | exact Zo (h := by first | rfl | omega) | exact ResLe.bo rfl rfl Iff.rfl | refine ResLe.agg ?_ | refine And.intro ?_ ?_))); done)
      · have hy : yrErr (rs.getD k default) = 0 := if_pos hr
        rw [hy] at hv
        have ha : exA rs k = if 0 < k ∧ (rs.getD k default).id ≤ (rs.getD (k - 1) default).id then 9 else 0 := if_neg (fun h => h hr)
        by_cases h9 : 0 < k ∧ (rs.getD k default).id ≤ (rs.getD (k - 1) default).id
        · rw [ha, if_pos h9, if_pos (by decide)] at hz
          have h9' : (rs.getD k default).id ≤ (rs.getD ((k : Int) - 1).toNat default).id := by rw [e h9.1]; exact h9.2
          (repeat' (first | refine Zs ?_ | refine Zk ?_ | ((first | refine Za ?_ | refine Zr ?_ | refine Zp ?_ | refine Ze ?_ | refine Zd ?_ | refine W.drawT dr15 rfl mixed rfl ?_ | refine Zn ?_ | refine Zc ?_ | refine UnK.mk (fun b hb => ?_)); conv => whnf) | (refine Zb (fun h => ?_) (fun h => ?_) <;> first | exact Zx | (conv => whnf))))
          all_goals (try dsimp only [Int.toNat_natCast] at *)
          (repeat' (first | refine Zs ?_ | refine Zk ?_ | ((first | refine Za ?_ | refine Zr ?_ | refine Zp ?_ | refine Ze ?_ | refine Zd ?_ | refine W.drawT dr15 rfl mixed rfl ?_ | refine Zn ?_ | refine Zc ?_ | refine UnK.mk (fun b hb => ?_) | refine Zy hv ?_ | refine Zz hv ?_); conv => whnf) | (refine Zb (fun h => ?_) (fun h => ?_) <;> first | exact Zx | (conv => whnf))))
          all_goals (try dsimp only [Int.toNat_natCast] at *)
          all_goals first | (exfalso; omega) | ((repeat' (first | exact trivial | exact Zm | exact Zl | exact ResLe.row0 rfl | exact Zi (by first | rfl | omega) | exact Zo (h := by first | rfl | omega) | exact ResLe.bo rfl rfl Iff.rfl | refine ResLe.agg ?_ | refine And.intro ?_ ?_ | ((conv => whnf); first | exact Zl | exact ResLe.row0 rfl | exact Zi (by first | rfl | omega) | exact Zo (h := by first | rfl | omega) | exact ResLe.bo rfl rfl Iff.rfl | refine ResLe.agg ?_ | refine And.intro ?_ ?_))); done)
        · rw [ha, if_neg h9, if_neg (by decide)] at hz
          have h9' : 0 < k → ¬ (rs.getD k default).id ≤ (rs.getD ((k : Int) - 1).toNat default).id := fun h => by rw [e h]; exact fun hh => h9 ⟨h, hh⟩
          (repeat' (first | refine Zs ?_ | refine Zk ?_ | ((first | refine Za ?_ | refine Zr ?_ | refine Zp ?_ | refine Ze ?_ | refine Zd ?_ | refine W.drawT dr15 rfl mixed rfl ?_ | refine Zn ?_ | refine Zc ?_ | refine UnK.mk (fun b hb => ?_)); conv => whnf) | (refine Zb (fun h => ?_) (fun h => ?_) <;> first | exact Zx | (conv => whnf))))
          all_goals (try dsimp only [Int.toNat_natCast] at *)
          (repeat' (first | refine Zs ?_ | refine Zk ?_ | ((first | refine Za ?_ | refine Zr ?_ | refine Zp ?_ | refine Ze ?_ | refine Zd ?_ | refine W.drawT dr15 rfl mixed rfl ?_ | refine Zn ?_ | refine Zc ?_ | refine UnK.mk (fun b hb => ?_) | refine Zy hv ?_ | refine Zz hv ?_); conv => whnf) | (refine Zb (fun h => ?_) (fun h => ?_) <;> first | exact Zx | (conv => whnf))))
          all_goals (try dsimp only [Int.toNat_natCast] at *)
          all_goals first | (exfalso; omega) | skip
          all_goals (refine ⟨k + 1, ⟨by omega, hz⟩, by omega, ?_, ?_, ?_, ?_⟩)
          all_goals exact Yz
    obtain rfl : k = rs.length := by omega
    rw [exF_end] at hz
    clear hrn hod
    generalize mkT rs rs.length = MK at *
    generalize ordL rs c = od at *
    (repeat' (first | refine Zs ?_ | refine Zk ?_ | ((first | refine Za ?_ | refine Zr ?_ | refine Zp ?_ | refine Ze ?_ | refine Zd ?_ | refine W.drawT dr15 rfl mixed rfl ?_ | refine Zn ?_ | refine Zc ?_ | refine UnK.mk (fun b hb => ?_) | refine Zy k1 ?_ | refine Zz k1 ?_ | refine ExCall.h [(10, 64)] rfl k2 rfl trivial ?_ | refine ExCall.h [(5000, 64)] rfl k3 rfl ⟨rfl, trivial⟩ ?_ | refine CallK.h [(5000, 64)] rfl k3 rfl rfl ⟨rfl, trivial⟩ rfl rfl ?_ | refine ExCall.h [(5000, 64)] rfl k5 rfl ⟨rfl, trivial⟩ ?_ | refine CallK.h [(5000, 64)] rfl k5 rfl rfl ⟨rfl, trivial⟩ rfl rfl ?_); conv => whnf) | (refine Zb (fun h => ?_) (fun h => ?_) <;> first | exact Zx | (conv => whnf))))
    all_goals first | (exfalso; omega) | ((repeat' (first | exact trivial | exact Zm | exact Zl | exact ResLe.row0 rfl | exact Zi (by first | rfl | omega) | exact Zo (h := by first | rfl | omega) | exact ResLe.bo rfl rfl Iff.rfl | refine ResLe.agg ?_ | refine And.intro ?_ ?_ | ((conv => whnf); first | exact Zl | exact ResLe.row0 rfl | exact Zi (by first | rfl | omega) | exact Zo (h := by first | rfl | omega) | exact ResLe.bo rfl rfl Iff.rfl | refine ResLe.agg ?_ | refine And.intro ?_ ?_))); done)
  | some s =>
    obtain ⟨L, B⟩ := s
    have hE : exE rs c q = 0 := by unfold exE; rw [if_neg h32, if_neg (by simpa using hF), if_neg (by simp [hc1, hc2, hc3]), if_neg (by rw [ho]; decide), hrn]
    have hN : exN rs c q = sortN (ndsOf rs L) := by unfold exN; rw [if_pos hE, hrn]
    have hBe : exB rs c q = B := by unfold exB; rw [if_pos hE, hrn]
    have k4 := k4 L B hrn
    have hs := rnF_some _ _ _ hrn
    have hL1 : L = (rnFi rs (ordL rs c) (putM [] c q, List.replicate rs.length 0)).1 := by rw [← hs]
    have hnd : (L.map Prod.fst).Nodup := by rw [hL1]; exact rnFi_nd _ _ _ (putM_nd (L := []) (by simp) _ _)
    have hkeys : ∀ p ∈ L, p.1.size ≤ 1000 := by
      rw [hL1]
      exact rnFi_keys (P := fun x => x.size ≤ 1000) rs (ins_size hR) _ _ (fun p hp => by
        have : p = (c, q) := by simpa [putM] using hp
        rw [this]; exact hc8)
    have hlen : L.length ≤ 1 + 8 * (ordL rs c).length := by
      have h0 : LOk 1 (putM [] c q) := ⟨fun x => by rw [getM_put]; split <;> first | omega | (show 0 ≤ (0 : Int) ∧ (0 : Int) ≤ 1000000000000; omega), len_put [] c q⟩
      have h1 : BOk rs.length (List.replicate rs.length (0 : Int)) := ⟨by simp, fun k => by rw [List.getD_eq_getElem?_getD, List.getElem?_replicate]; split <;> simp⟩
      exact (rnF_ok hR _ _ _ 1 hod.rng h0 h1 hrn).1.2
    have hlen' : L.length ≤ 1000 := by omega
    have hhas := fun x => mkT_has rs x rs.length (Nat.le_refl _)
    rw [hE, hN, hBe]
    refine ACalls.of (n := Try.f15.ntmps) XX_ok Try.func15 rfl (by kernel_rfl) rfl rfl (Nat.le_of_ble_eq_true rfl) ?_
    (repeat' (first | refine Zs ?_ | refine Zk ?_ | ((first | refine Za ?_ | refine Zr ?_ | refine Zp ?_ | refine Ze ?_ | refine Zd ?_ | refine W.drawT dr15 rfl mixed rfl ?_ | refine Zn ?_ | refine Zc ?_ | refine UnK.mk (fun b hb => ?_)); conv => whnf) | (refine Zb (fun h => ?_) (fun h => ?_) <;> first | exact Zx | (conv => whnf))))
    all_goals first | (exfalso; omega) | skip
    refine (W.loopK (ι := Nat) [0, 1, 2, 26, 27] [] (fun k => [(28, iA k)]) (fun _ => []) (fun k => k ≤ rs.length ∧ exF rs (rs.length - k) k = exErr rs) (fun k => rs.length - k) 0 ⟨Nat.zero_le _, rfl⟩ ?_ ?_ ?_)
    · exact Yz
    · exact Yz
    conv => whnf
    intro k ⟨hk, hz⟩
    by_cases hk' : k < rs.length
    · rw [exF_step rs hk'] at hz
      obtain ⟨l1, l2, l3⟩ := hB _ (ygetD_in hk')
      have hv := yvalidate_t (rs.getD k default) l1 l2 l3
      have e : 0 < k → ((k : Int) - 1).toNat = k - 1 := by omega
      by_cases hr : yrOk (rs.getD k default)
      rotate_left
      · have ha : exA rs k = 1 := if_pos hr
        rw [ha, if_pos (by decide)] at hz
        have hy : yrErr (rs.getD k default) = 1 := if_neg hr
        rw [hy] at hv
        (repeat' (first | refine Zs ?_ | refine Zk ?_ | ((first | refine Za ?_ | refine Zr ?_ | refine Zp ?_ | refine Ze ?_ | refine Zd ?_ | refine W.drawT dr15 rfl mixed rfl ?_ | refine Zn ?_ | refine Zc ?_ | refine UnK.mk (fun b hb => ?_)); conv => whnf) | (refine Zb (fun h => ?_) (fun h => ?_) <;> first | exact Zx | (conv => whnf))))
        all_goals (try dsimp only [Int.toNat_natCast] at *)
        (repeat' (first | refine Zs ?_ | refine Zk ?_ | ((first | refine Za ?_ | refine Zr ?_ | refine Zp ?_ | refine Ze ?_ | refine Zd ?_ | refine W.drawT dr15 rfl mixed rfl ?_ | refine Zn ?_ | refine Zc ?_ | refine UnK.mk (fun b hb => ?_) | refine Zy hv ?_ | refine Zz hv ?_); conv => whnf) | (refine Zb (fun h => ?_) (fun h => ?_) <;> first | exact Zx | (conv => whnf))))
        all_goals first | (exfalso; omega) | ((repeat' (first | exact trivial | exact Zm | exact Zl | exact ResLe.row0 rfl | exact Zi (by first | rfl | omega) | exact Zo (h := by first | rfl | omega) | exact ResLe.bo rfl rfl Iff.rfl | refine ResLe.agg ?_ | refine And.intro ?_ ?_ | ((conv => whnf); first | exact Zl | exact ResLe.row0 rfl | exact Zi (by first | rfl | omega) | exact Zo (h := by first | rfl | omega) | exact ResLe.bo rfl rfl Iff.rfl | refine ResLe.agg ?_ | refine And.intro ?_ ?_))); done)
      · have hy : yrErr (rs.getD k default) = 0 := if_pos hr
        rw [hy] at hv
        have ha : exA rs k = if 0 < k ∧ (rs.getD k default).id ≤ (rs.getD (k - 1) default).id then 9 else 0 := if_neg (fun h => h hr)
        by_cases h9 : 0 < k ∧ (rs.getD k default).id ≤ (rs.getD (k - 1) default).id
        · rw [ha, if_pos h9, if_pos (by decide)] at hz
          have h9' : (rs.getD k default).id ≤ (rs.getD ((k : Int) - 1).toNat default).id := by rw [e h9.1]; exact h9.2
          (repeat' (first | refine Zs ?_ | refine Zk ?_ | ((first | refine Za ?_ | refine Zr ?_ | refine Zp ?_ | refine Ze ?_ | refine Zd ?_ | refine W.drawT dr15 rfl mixed rfl ?_ | refine Zn ?_ | refine Zc ?_ | refine UnK.mk (fun b hb => ?_)); conv => whnf) | (refine Zb (fun h => ?_) (fun h => ?_) <;> first | exact Zx | (conv => whnf))))
          all_goals (try dsimp only [Int.toNat_natCast] at *)
          (repeat' (first | refine Zs ?_ | refine Zk ?_ | ((first | refine Za ?_ | refine Zr ?_ | refine Zp ?_ | refine Ze ?_ | refine Zd ?_ | refine W.drawT dr15 rfl mixed rfl ?_ | refine Zn ?_ | refine Zc ?_ | refine UnK.mk (fun b hb => ?_) | refine Zy hv ?_ | refine Zz hv ?_); conv => whnf) | (refine Zb (fun h => ?_) (fun h => ?_) <;> first | exact Zx | (conv => whnf))))
          all_goals (try dsimp only [Int.toNat_natCast] at *)
          all_goals first | (exfalso; omega) | ((repeat' (first | exact trivial | exact Zm | exact Zl | exact ResLe.row0 rfl | exact Zi (by first | rfl | omega) | exact Zo (h := by first | rfl | omega) | exact ResLe.bo rfl rfl Iff.rfl | refine ResLe.agg ?_ | refine And.intro ?_ ?_ | ((conv => whnf); first | exact Zl | exact ResLe.row0 rfl | exact Zi (by first | rfl | omega) | exact Zo (h := by first | rfl | omega) | exact ResLe.bo rfl rfl Iff.rfl | refine ResLe.agg ?_ | refine And.intro ?_ ?_))); done)
        · rw [ha, if_neg h9, if_neg (by decide)] at hz
          have h9' : 0 < k → ¬ (rs.getD k default).id ≤ (rs.getD ((k : Int) - 1).toNat default).id := fun h => by rw [e h]; exact fun hh => h9 ⟨h, hh⟩
          (repeat' (first | refine Zs ?_ | refine Zk ?_ | ((first | refine Za ?_ | refine Zr ?_ | refine Zp ?_ | refine Ze ?_ | refine Zd ?_ | refine W.drawT dr15 rfl mixed rfl ?_ | refine Zn ?_ | refine Zc ?_ | refine UnK.mk (fun b hb => ?_)); conv => whnf) | (refine Zb (fun h => ?_) (fun h => ?_) <;> first | exact Zx | (conv => whnf))))
          all_goals (try dsimp only [Int.toNat_natCast] at *)
          (repeat' (first | refine Zs ?_ | refine Zk ?_ | ((first | refine Za ?_ | refine Zr ?_ | refine Zp ?_ | refine Ze ?_ | refine Zd ?_ | refine W.drawT dr15 rfl mixed rfl ?_ | refine Zn ?_ | refine Zc ?_ | refine UnK.mk (fun b hb => ?_) | refine Zy hv ?_ | refine Zz hv ?_); conv => whnf) | (refine Zb (fun h => ?_) (fun h => ?_) <;> first | exact Zx | (conv => whnf))))
          all_goals (try dsimp only [Int.toNat_natCast] at *)
          all_goals first | (exfalso; omega) | skip
          all_goals (refine ⟨k + 1, ⟨by omega, hz⟩, by omega, ?_, ?_, ?_, ?_⟩)
          all_goals exact Yz
    obtain rfl : k = rs.length := by omega
    rw [exF_end] at hz
    have hB2 : B.length ≤ 1000000 := by
      have := (show B = (rnFi rs (ordL rs c) (putM [] c q, List.replicate rs.length 0)).2 by rw [← hs])
      have h2 := (ids_of hR c q (ordL rs c) hod.nd hod.rng hod.back).len
      rw [this]
      have h3 : (rnFi rs (ordL rs c) (putM [] c q, List.replicate rs.length 0)).2.length = rs.length := h2
      omega
    clear hrn hod hs hL1 hlen hoL
    generalize ordL rs c = od at *
    have hm : (1000 : Nat) ≤ maxLen := by decide
    (repeat' (first | refine Zs ?_ | refine Zk ?_ | ((first | refine Zas 22 ?_ | refine Zr ?_ | refine Zp ?_ | refine Ze ?_ | refine Zd ?_ | refine W.drawT dr15 rfl mixed rfl ?_ | refine Zn ?_ | refine Zc ?_ | refine UnK.mk (fun b hb => ?_) | refine Zy k1 ?_ | refine Zz k1 ?_ | refine ExCall.h [(10, 64)] rfl k2 rfl trivial ?_ | refine ExCall.h [(5000, 64)] rfl k3 rfl ⟨rfl, trivial⟩ ?_ | refine CallK.h [(5000, 64)] rfl k3 rfl rfl ⟨rfl, trivial⟩ rfl rfl ?_ | refine ExCall.h [(5000, 64), (19, 81)] rfl k4 rfl ⟨rfl, trivial⟩ ?_); conv => whnf) | (refine Zb (fun h => ?_) (fun h => ?_) <;> first | exact Zx | (conv => whnf))))
    all_goals first | (exfalso; omega) | skip
    refine W.openM 81 rfl fun es clock gm => ?_
    conv => whnf
    (repeat' (first | refine Zs ?_ | refine Zk ?_ | ((first | refine Za ?_ | refine Zr ?_ | refine Zp ?_ | refine Ze ?_ | refine Zd ?_ | refine W.drawT dr15 rfl mixed rfl ?_ | refine Zn ?_ | refine Zc ?_ | refine UnK.mk (fun b hb => ?_)); conv => whnf) | (refine Zb (fun h => ?_) (fun h => ?_) <;> first | exact Zx | (conv => whnf))))
    refine (W.adopt 18 112 31 2 (rowF ndE []) rfl rfl rfl rfl ?_)
    conv => whnf
    refine (W.loopK (ι := ML × ML × Option (ByteArray × Int)) [12, 16, 89] [64, 81] (fun s => [(18, .own 112 2 0 (ndsOf rs s.1).length)]) (fun s => [(89, .it 81 gm es clock s.2.1 s.2.2), (112, .row 31 2 (ndsOf rs s.1).length (rowF ndE (ndsOf rs s.1)))]) (fun s => (s.1 ++ s.2.1).Perm L) (fun s => s.2.1.length) ([], L, none) (by rw [List.nil_append]) ?_ ?_ ?_)
    · exact Yz
    · exact Yz
    conv => whnf
    intro ⟨dn, lf, cu⟩ hp
    dsimp only at hp ⊢
    have hdl : dn.length + lf.length = L.length := by rw [← List.length_append]; exact hp.length_eq
    have hul : (ndsOf rs dn).length ≤ dn.length := by unfold ndsOf; rw [List.length_map]; exact List.length_filter_le ..
    (repeat' (first | refine Zs ?_ | refine Zk ?_ | ((first | refine Za ?_ | refine Zr ?_ | refine Zp ?_ | refine Ze ?_ | refine Zd ?_ | refine W.drawT dr15 rfl mixed rfl ?_ | refine Zn ?_ | refine Zc ?_ | refine UnK.mk (fun b hb => ?_) | refine NextK.mk (fun h => ?_) (fun p l h => ?_)); conv => whnf) | (refine Zb (fun h => ?_) (fun h => ?_) <;> first | exact Zx | (conv => whnf))))
    · subst h
      rw [List.append_nil] at hp
      have hs := sortN_perm_eq ((hp.filter (ndP rs)).map fun p : ByteArray × Int => (⟨p.1, p.2⟩ : Nd)) (nds_codes (rs := rs) hnd)
      have hs' : sortN (ndsOf rs L) = sortN (ndsOf rs dn) := hs.symm
      rw [hs']
      have hso := sortN_h (ndsOf rs dn) (by omega)
      (repeat' (first | refine Zs ?_ | refine Zk ?_ | ((first | refine Za ?_ | refine Zr ?_ | refine Zp ?_ | refine Ze ?_ | refine Zd ?_ | refine W.drawT dr15 rfl mixed rfl ?_ | refine Zn ?_ | refine Zc ?_ | refine UnK.mk (fun b hb => ?_) | refine ExCall.h [(5000, 112)] rfl hso rfl ⟨rfl, trivial⟩ ?_ | refine CallK.h [(5000, 112)] rfl hso rfl rfl ⟨rfl, trivial⟩ rfl rfl ?_); conv => whnf) | (refine Zb (fun h => ?_) (fun h => ?_) <;> first | exact Zx | (conv => whnf))))
      all_goals (repeat' (first | exact trivial | exact Zm | exact Zl | exact ResLe.row0 rfl | exact Zi (by first | rfl | omega) | exact Zo (h := by first | rfl | omega) | exact ResLe.bo rfl rfl Iff.rfl | refine ResLe.agg ?_ | refine And.intro ?_ ?_ | ((conv => whnf); first | exact Zl | exact ResLe.row0 rfl | exact Zi (by first | rfl | omega) | exact Zo (h := by first | rfl | omega) | exact ResLe.bo rfl rfl Iff.rfl | refine ResLe.agg ?_ | refine And.intro ?_ ?_)))
      refine RowIs.res (enc := ndE) (us := sortN (ndsOf rs dn)) rfl ⟨(sortN_len _).symm, fun i hi j hj => ?_⟩ rfl
      have e : (sortN (ndsOf rs dn)).getD i default = (ndsOf rs dn).getD (sortAt (ndsOf rs dn).length (cfS (ndsOf rs dn)) i) default := by
        unfold sortN
        rw [List.getD_eq_getElem?_getD, List.getElem?_map, List.getElem?_range hi]
        rfl
      unfold rowF
      rw [e]
      exact Dle.refl _
    · have hp2 : ((dn ++ [p]) ++ l).Perm L := by
        rw [List.append_assoc]
        exact (List.Perm.append_left dn h.symm).trans hp
      have hpL : p ∈ L := hp2.subset (by simp)
      have s1 : p.1.size ≤ maxLen := by have := hkeys p hpL; omega
      have hll : l.length < lf.length := by have := h.length_eq; rw [List.length_cons] at this; omega
      have hh := hhas p.1
      have e1 : ndsOf rs (dn ++ [p]) = if ndP rs p then ndsOf rs dn ++ [⟨p.1, p.2⟩] else ndsOf rs dn := by
        unfold ndsOf
        rw [List.filter_append, List.map_append]
        by_cases hq : ndP rs p = true
        · simp [hq]
        · simp [hq]
      unfold ndP at e1
      rw [← hh] at e1
      clear hhas hh
      (repeat' (first | refine Zs ?_ | refine Zk ?_ | ((first | refine Za ?_ | refine Zr ?_ | refine Zp ?_ | refine Ze ?_ | refine Zd ?_ | refine W.drawT dr15 rfl mixed rfl ?_ | refine Zn ?_ | refine Zc ?_ | refine UnK.mk (fun b hb => ?_) | refine Zc ?_ ⟨rfl, rfl, rfl, s1⟩); conv => whnf) | (refine Zb (fun h => ?_) (fun h => ?_) <;> first | exact Zx | (conv => whnf))))
      · rw [if_pos (by simp_all)] at e1
        refine ⟨(dn ++ [p], l, some p), hp2, hll, ?_, ?_, ?_, ?_⟩
        all_goals (try dsimp only)
        all_goals (try rw [e1])
        all_goals (repeat' (first | exact trivial | exact Yr | exact Yi (by first | rfl | (simp; done) | omega) | exact Yo (by first | rfl | (simp; done) | omega) | exact Yd | exact Yn | exact Ye (by first | rfl | (simp; done) | omega) | exact ⟨_, rfl, Yf, rfl⟩ | refine ⟨_, rfl, Yb ?_, rfl⟩ | refine ⟨_, rfl, Yw (by first | rfl | (simp; done) | omega) ?_, rfl⟩ | refine And.intro ?_ ?_))
        refine rowF_snoc rfl fun j hj => ?_
        rcases j with _ | _ | j
        all_goals first | exact Dle.refl _ | omega
      all_goals (rw [if_neg (by simp_all)] at e1)
      all_goals (refine ⟨(dn ++ [p], l, some p), hp2, hll, ?_, ?_, ?_, ?_⟩)
      all_goals (try dsimp only)
      all_goals (try rw [e1])
      all_goals exact Yz
end Go.Proofs.Ytoeghejbgibioaa
