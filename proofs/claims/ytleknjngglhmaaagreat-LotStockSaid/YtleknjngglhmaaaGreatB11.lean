/- Units taken from the front and from the back; the law that it makes no difference whether they are taken in one or in two times. -/
import Derived.Test.YtleknjngglhmaaaGreatB10
import Derived.Test.YtleknjngglhmaaaGreatU3
namespace Go.Proofs.YtleknjngglhmaaaGreat
open Go Go.RowKit
set_option linter.unusedVariables false
set_option linter.unusedSimpArgs false
set_option maxRecDepth 100000
set_option maxHeartbeats 4000000
attribute [local irreducible] ResLe AVle ArgLe ArgP EntLe Dle ResH ArgQ

noncomputable def takE (us : List Sl) (u m : Int) : Int := if lotErr us ≠ 0 then lotErr us else if u < 0 ∨ cnt us < u ∨ ¬ mOk m then 2 else 0
noncomputable def takA (us : List Sl) (u m : Int) : List Sl := if takE us u m = 0 then divA m (joinL us) u else []
noncomputable def takB (us : List Sl) (u m : Int) : List Sl := if takE us u m = 0 then divB m (joinL us) u else []
theorem take_t (us : List Sl) (u m : Int) (hL : us.length ≤ 9223372036854775807) (hd : mOk m → DivOk m) : ACalls XX 14 [.dat (slD us), iA u, iA m] (.tup [.dat (slD (takA us u m)), .dat (slD (takB us u m)), iA (takE us u m)]) := by
  have h1 := valid_t us hL
  by_cases e1 : lotErr us = 0
  · obtain ⟨k1, k2, k3⟩ := lotErr_ok e1
    rw [e1] at h1
    have h2 := count_t us k2 (by omega)
    have h3 := validMethod_t m
    by_cases e2 : u < 0 ∨ cnt us < u ∨ ¬ mOk m
    · have hE : takE us u m = 2 := by unfold takE; rw [if_neg (by simpa using e1), if_pos e2]
      have hA : takA us u m = [] := by unfold takA; rw [hE, if_neg (by omega)]
      have hB : takB us u m = [] := by unfold takB; rw [hE, if_neg (by omega)]
      rw [hE, hA, hB]
      refine ACalls.of (n := Tryz.f14.ntmps) XX_ok Tryz.func14 rfl (by kernel_rfl) rfl rfl (Nat.le_of_ble_eq_true rfl) ?_
      (repeat' (first | refine Zs ?_ | refine Zk ?_ | ((first | refine Za ?_ | refine Zr ?_ | refine Zp ?_ | refine Ze ?_ | refine Zd ?_ | refine Zn ?_ | refine Zc ?_ | refine UnK.mk (fun b hb => ?_) | refine Zy h1 ?_ | refine Zy h2 ?_ | refine Zy h3 ?_); conv => whnf) | (refine Zb (fun h => ?_) (fun h => ?_) <;> first | exact Zx | (conv => whnf))))
      all_goals first | exact Zrz | (exfalso; simp_all; omega)
    · have hE : takE us u m = 0 := by unfold takE; rw [if_neg (by simpa using e1), if_neg e2]
      have hA : takA us u m = divA m (joinL us) u := by unfold takA; rw [hE, if_pos rfl]
      have hB : takB us u m = divB m (joinL us) u := by unfold takB; rw [hE, if_pos rfl]
      have hm : mOk m := by
        by_cases h : mOk m
        · exact h
        · exact absurd (.inr (.inr h)) e2
      have hu : 0 ≤ u ∧ u ≤ cnt us := by omega
      rw [decide_eq_true hm] at h3
      have h4 := join1_t us (by omega)
      have h5 := hd hm (joinL us) u (joinL_ok k2) (by have := joinL_len us; omega) (by rw [cnt_join (slOk_le k2)]; exact hu)
      rw [hE, hA, hB]
      refine ACalls.of (n := Tryz.f14.ntmps) XX_ok Tryz.func14 rfl (by kernel_rfl) rfl rfl (Nat.le_of_ble_eq_true rfl) ?_
      refine W.pb [32] ?_
      (repeat' (first | refine Zs ?_ | refine Zk ?_ | ((first | refine Za ?_ | refine Zr ?_ | refine Zp ?_ | refine Ze ?_ | refine Zd ?_ | refine Zn ?_ | refine Zc ?_ | refine UnK.mk (fun b hb => ?_) | refine Zy (ACalls.at (h1)) ?_ | refine Zy (ACalls.at (h2)) ?_ | refine Zy (ACalls.at (h3)) ?_ | refine Zy (ACalls.at (h4)) ?_ | refine Zy (ACalls.at (h5)) ?_); conv => whnf) | (refine Zb (fun h => ?_) (fun h => ?_) <;> first | exact Zx | (conv => whnf))))
      all_goals exact Zrz
  · have hE : takE us u m = lotErr us := by unfold takE; rw [if_pos e1]
    have hA : takA us u m = [] := by unfold takA; rw [hE, if_neg e1]
    have hB : takB us u m = [] := by unfold takB; rw [hE, if_neg e1]
    rw [hE, hA, hB]
    refine ACalls.of (n := Tryz.f14.ntmps) XX_ok Tryz.func14 rfl (by kernel_rfl) rfl rfl (Nat.le_of_ble_eq_true rfl) ?_
    (repeat' (first | refine Zs ?_ | refine Zk ?_ | ((first | refine Za ?_ | refine Zr ?_ | refine Zp ?_ | refine Ze ?_ | refine Zd ?_ | refine Zn ?_ | refine Zc ?_ | refine UnK.mk (fun b hb => ?_) | refine Zy h1 ?_); conv => whnf) | (refine Zb (fun h => ?_) (fun h => ?_) <;> first | exact Zx | (conv => whnf))))
    all_goals exact Zrz
theorem tak_ok {us : List Sl} {u m : Int} (h : lotErr us = 0) (hu : 0 ≤ u ∧ u ≤ cnt us) (hm : mOk m) : takE us u m = 0 ∧ takA us u m = divA m (joinL us) u ∧ takB us u m = divB m (joinL us) u := by
  have hE : takE us u m = 0 := by unfold takE; rw [if_neg (by simpa using h), if_neg (by rintro (h1 | h1 | h1) <;> first | omega | exact h1 hm)]
  exact ⟨hE, by unfold takA; rw [hE, if_pos rfl], by unfold takB; rw [hE, if_pos rfl]⟩

theorem divA1 (us : List Sl) (u : Int) : divA 1 us u = frA us u := by unfold divA ksM frA; rw [if_neg (by decide), if_neg (by decide)]
theorem divB1 (us : List Sl) (u : Int) : divB 1 us u = frB us u := by unfold divB ksM frB; rw [if_neg (by decide), if_neg (by decide)]
theorem divA2 (us : List Sl) (u : Int) : divA 2 us u = frB us (cnt us - u) := by unfold divA; rw [if_pos rfl]
theorem divB2 (us : List Sl) (u : Int) : divB 2 us u = frA us (cnt us - u) := by unfold divB; rw [if_pos rfl]
theorem twice_ok {us : List Sl} {u w m : Int} (h : lotErr us = 0) (hm : m = 1 ∨ m = 2) (h20 : us.length ≤ 32) (hu : 0 ≤ u) (hw : 0 ≤ w) (huw : u + w ≤ cnt us) :
    takE us u m = 0 ∧ takE (takB us u m) w m = 0 ∧ takE us (u + w) m = 0 ∧ takB (takB us u m) w m = takB us (u + w) m ∧
    (takA us u m).length ≤ us.length ∧ (takA (takB us u m) w m).length ≤ us.length ∧ (takB us u m).length ≤ us.length ∧ (takA us (u + w) m).length ≤ us.length ∧ (takB us (u + w) m).length ≤ us.length ∧
    (if lotErr (if m = 2 then takA (takB us u m) w m ++ takA us u m else takA us u m ++ takA (takB us u m) w m) = 0 then joinL (if m = 2 then takA (takB us u m) w m ++ takA us u m else takA us u m ++ takA (takB us u m) w m) else []) = takA us (u + w) m := by
  obtain ⟨l1, l2, l3⟩ := lotErr_iff.1 h
  have hj := join_valid h
  obtain ⟨j1, j2, j3⟩ := lotErr_iff.1 hj
  have hc := cnt_join (slOk_le l2)
  have hjl := joinL_len us
  have hmm : mOk m := by unfold mOk; omega
  obtain ⟨a1, a2, a3⟩ := tak_ok (m := m) h (u := u) (by omega) hmm
  obtain ⟨c1, c2, c3⟩ := tak_ok (m := m) h (u := u + w) (by omega) hmm
  rw [a1, a2, a3, c1, c2, c3]
  generalize hJ : joinL us = J at *
  have dR := divR (m := m) (u := u) j2 (by omega)
  have dC := divR (m := m) (u := u + w) j2 (by omega)
  obtain ⟨dv1, dv2⟩ := div_valid (m := m) (u := u) j2 j1 j3 (by omega)
  have dRc := dR.cB
  have dRp := dR.pB
  have dRl := dR.lB
  generalize hR : divB m J u = R at *
  obtain ⟨r1, r2, r3⟩ := lotErr_iff.1 dv2
  have hRc : cnt R = cnt J - u := dRc
  have hRj : joinL R = R := join_self dRp
  obtain ⟨b1, b2, b3⟩ := tak_ok (m := m) dv2 (u := w) (by omega) hmm
  rw [hRj] at b2 b3
  rw [b1, b2, b3]
  have dB := divR (m := m) (u := w) r2 (by omega)
  have hRl := dRl
  have hAl := dR.lA
  have hBl := dB.lA
  have hCl := dC.lA
  have hCl2 := dC.lB
  refine ⟨rfl, rfl, rfl, ?_, by omega, by omega, by omega, by omega, by omega, ?_⟩
  · refine canon dB.pB dC.pB ?_
    rw [← hR]
    rcases hm with rfl | rfl
    · rw [divB1, divB1, divB1] at *
      have o1 := divR (m := 1) (u := u) j2 (by omega)
      rw [(fr_expand (hR ▸ r2) hw).2, (fr_expand j2 hu).2, (fr_expand j2 (by omega)).2, List.drop_drop]
      congr 1
      omega
    · rw [divB2, divB2, divB2] at *
      rw [(fr_expand (hR ▸ r2) (by rw [hR]; omega)).1, (fr_expand j2 (by omega)).1, (fr_expand j2 (by omega)).1, List.take_take]
      congr 1
      rw [hR]
      omega
  · have hE : (expand J).length = (cnt J).toNat := by rw [cnt_expand (slOk_le j2)]; omega
    have key : ∀ both : List Sl, both.length ≤ 64 → (∀ y ∈ both, slOk y) → expand both = expand (divA m J (u + w)) → (if lotErr both = 0 then joinL both else []) = divA m J (u + w) := fun both h1 h2 h3 => by
      have hv : lotErr both = 0 := by
        refine lotErr_iff.2 ⟨h1, h2, ?_⟩
        rw [h3]
        exact (lotErr_iff.1 (div_valid (m := m) (u := u + w) j2 j1 j3 (by omega)).1).2.2
      rw [if_pos hv]
      refine canon (cmpct_join (slOk_le h2)) dC.pA ?_
      rw [expand_join (slOk_le h2), h3]
    have hok : ∀ y, (y ∈ divA m J u ∨ y ∈ divA m R w) → slOk y := fun y hy => by
      rcases hy with hy | hy
      · exact dR.oA y hy
      · exact dB.oA y hy
    rcases hm with rfl | rfl
    · rw [if_neg (show ¬ (1 : Int) = 2 by decide)]
      refine key _ (by rw [List.length_append]; omega) (fun y hy => hok y (List.mem_append.1 hy)) ?_
      rw [expand_app, divA1, divA1, divA1, (fr_expand r2 hw).1, (fr_expand j2 hu).1, (fr_expand j2 (by omega)).1]
      have e : expand R = (expand J).drop u.toNat := by rw [← hR, divB1, (fr_expand j2 hu).2]
      rw [e, ← List.take_add]
      congr 1
      omega
    · rw [if_pos rfl]
      refine key _ (by rw [List.length_append]; omega) (fun y hy => hok y (List.mem_append.1 hy).symm) ?_
      rw [expand_app, divA2, divA2, divA2, (fr_expand r2 (by omega)).2, (fr_expand j2 (by omega)).2, (fr_expand j2 (by omega)).2]
      have e : expand R = (expand J).take (cnt J - u).toNat := by rw [← hR, divB2, (fr_expand j2 (by omega)).1]
      have e2 : (cnt R - w).toNat = (cnt J - (u + w)).toNat := by omega
      rw [e, e2]
      conv => rhs; rw [← List.take_append_drop (cnt J - u).toNat (expand J)]
      rw [List.drop_append_of_le_length]
      rw [List.length_take, hE]
      omega


end Go.Proofs.YtleknjngglhmaaaGreat
