/- Units taken from the front and from the back; the law that it makes no difference whether they are taken in one or in two times. -/
import Derived.Test.YtekdobbhkklapaaGreatB10
import Derived.Test.YtekdobbhkklapaaGreatU3
namespace Go.Proofs.YtekdobbhkklapaaGreat
open Go Go.RowKit
set_option linter.unusedVariables false
set_option linter.unusedSimpArgs false
set_option maxRecDepth 100000
set_option maxHeartbeats 4000000
attribute [local irreducible] ResLe AVle ArgLe ArgP EntLe Dle ResH ArgQ

noncomputable def takE (us : List Sl) (u m : Int) : Int := if lotErr us ≠ 0 then lotErr us else if u < 0 ∨ cnt us < u ∨ ¬ mOk m then 2 else 0
noncomputable def takA (us : List Sl) (u m : Int) : List Sl := if takE us u m = 0 then divA m (joinL us) u else []
noncomputable def takB (us : List Sl) (u m : Int) : List Sl := if takE us u m = 0 then divB m (joinL us) u else []
theorem take_t (us : List Sl) (u m : Int) (hL : us.length ≤ 9223372036854775807) (hd : mOk m → DivOk m) : ACalls XX 12 [.dat (slD us), iA u, iA m] (.tup [.dat (slD (takA us u m)), .dat (slD (takB us u m)), iA (takE us u m)]) := by
  have h1 := valid_t us hL
  by_cases e1 : lotErr us = 0
  · obtain ⟨k1, k2, k3⟩ := lotErr_ok e1
    rw [e1] at h1
    have h2 := count_t us k2 (by omega)
    have h3 := validMethod_t m
    by_cases e2 : u < 0 ∨ cnt us < u ∨ ¬ mOk m
    · have hE : takE us u m = 2 := by unfold takE; rw [if_neg (by simpa using e1), if_pos e2]
      have hA : takA us u m = [] := by unfold takA; rw [hE, if_neg (by omega)]
      have hB : takB us u m = [] := by unfold takB; rw [hE, if_neg (by omega)]
      rw [hE, hA, hB]
      refine ACalls.of (n := Tryz.f12.ntmps) XX_ok Tryz.func12 rfl (by kernel_rfl) rfl rfl (Nat.le_of_ble_eq_true rfl) ?_
      (repeat' (first | refine W.seq ?_ | refine W.block ?_ | ((first | refine W.region ?_ | refine W.ret ?_ | refine W.skip ?_ | refine W.exit ?_ | refine W.cond ?_ | (with_reducible first | refine NumK.as _ (divOk (by omega) (by omega) (by omega)) ?_ | refine NumK.as _ (modOk (by omega) (by omega) (by omega) (by omega)) ?_) | refine NumK.as _ (wrapOk (by omega)) ?_ | (with_reducible refine NumK.as _ (wrapU (by omega)) ?_) | refine NumK.as _ (wrapOk (by (simp only [Int.toNat_natCast] at *); omega)) ?_ | refine CndK.mk (by omega) ?_ | (refine CndK.mk ?_ ?_; (focus (first | omega | (simp; done) | (simp; omega)))) | refine UnK.mk (fun b hb => ?_) | refine CndK.mk rfl ?_ | refine CndK.mk ⟨by assumption, rfl⟩ ?_ | refine ExCall.by (CallA.d2 rfl (h1)) ?_ | refine ExCall.by (CallA.d2 rfl (h2)) ?_ | refine ExCall.by (CallA.d2 rfl (h3)) ?_); conv => whnf) | (refine BrK.mk (fun h => ?_) (fun h => ?_) <;> (try simp only [decide_eq_true_eq, decide_eq_false_iff_not, Bool.and_eq_true, Bool.or_eq_true, Bool.not_eq_true', Bool.not_eq_false', Bool.or_eq_false_iff, Bool.and_eq_false_iff, Int.not_lt, Int.not_le, gt_iff_lt, ge_iff_le] at h) <;> first | (exfalso; first | omega | exact h rfl | exact Bool.noConfusion h) | contradiction | (conv => whnf))))
      all_goals first | ((repeat' (first | exact trivial | exact ResLe.pure (AVle.refl _) rfl | exact ResLe.row0 rfl | exact ResLe.pure (AVle.int (by first | rfl | omega)) rfl | exact ResLe.bo rfl rfl (by first | exact Iff.rfl | (simp only [decide_eq_true_eq, true_iff, iff_true, false_iff, iff_false, Bool.false_eq_true, Bool.not_eq_true', decide_eq_false_iff_not]; first | rfl | omega)) | exact ResLe.pure (AVle.dat (Dle.nil _ _)) rfl | refine ResLe.agg ?_ | refine And.intro ?_ ?_ | ((conv => whnf); first | refine And.intro ?_ ?_ | refine ResLe.agg ?_ | exact ResLe.pure (AVle.refl _) rfl | exact ResLe.row0 rfl | exact ResLe.pure (AVle.int (by first | rfl | omega)) rfl | exact ResLe.bo rfl rfl Iff.rfl))); done) | (exfalso; simp_all; omega)
    · have hE : takE us u m = 0 := by unfold takE; rw [if_neg (by simpa using e1), if_neg e2]
      have hA : takA us u m = divA m (joinL us) u := by unfold takA; rw [hE, if_pos rfl]
      have hB : takB us u m = divB m (joinL us) u := by unfold takB; rw [hE, if_pos rfl]
      have hm : mOk m := by
        by_cases h : mOk m
        · exact h
        · exact absurd (.inr (.inr h)) e2
      have hu : 0 ≤ u ∧ u ≤ cnt us := by omega
      rw [decide_eq_true hm] at h3
      have h4 := join1_t us (by omega)
      have h5 := hd hm (joinL us) u (joinL_ok k2) (by have := joinL_len us; omega) (by rw [cnt_join (slOk_le k2)]; exact hu)
      rw [hE, hA, hB]
      refine ACalls.of (n := Tryz.f12.ntmps) XX_ok Tryz.func12 rfl (by kernel_rfl) rfl rfl (Nat.le_of_ble_eq_true rfl) ?_
      refine W.pb [32] ?_
      (repeat' (first | refine W.seq ?_ | refine W.block ?_ | ((first | refine W.region ?_ | refine W.ret ?_ | refine W.skip ?_ | refine W.exit ?_ | refine W.cond ?_ | (with_reducible first | refine NumK.as _ (divOk (by omega) (by omega) (by omega)) ?_ | refine NumK.as _ (modOk (by omega) (by omega) (by omega) (by omega)) ?_) | refine NumK.as _ (wrapOk (by omega)) ?_ | (with_reducible refine NumK.as _ (wrapU (by omega)) ?_) | refine NumK.as _ (wrapOk (by (simp only [Int.toNat_natCast] at *); omega)) ?_ | refine CndK.mk (by omega) ?_ | (refine CndK.mk ?_ ?_; (focus (first | omega | (simp; done) | (simp; omega)))) | refine UnK.mk (fun b hb => ?_) | refine CndK.mk rfl ?_ | refine CndK.mk ⟨by assumption, rfl⟩ ?_ | refine ExCall.by (CallA.d2 rfl (ACalls.at (h1))) ?_ | refine ExCall.by (CallA.d2 rfl (ACalls.at (h2))) ?_ | refine ExCall.by (CallA.d2 rfl (ACalls.at (h3))) ?_ | refine ExCall.by (CallA.d2 rfl (ACalls.at (h4))) ?_ | refine ExCall.by (CallA.d2 rfl (ACalls.at (h5))) ?_); conv => whnf) | (refine BrK.mk (fun h => ?_) (fun h => ?_) <;> (try simp only [decide_eq_true_eq, decide_eq_false_iff_not, Bool.and_eq_true, Bool.or_eq_true, Bool.not_eq_true', Bool.not_eq_false', Bool.or_eq_false_iff, Bool.and_eq_false_iff, Int.not_lt, Int.not_le, gt_iff_lt, ge_iff_le] at h) <;> first | (exfalso; first | omega | exact h rfl | exact Bool.noConfusion h) | contradiction | (conv => whnf))))
      all_goals (repeat' (first | exact trivial | exact ResLe.pure (AVle.refl _) rfl | exact ResLe.row0 rfl | exact ResLe.pure (AVle.int (by first | rfl | omega)) rfl | exact ResLe.bo rfl rfl (by first | exact Iff.rfl | (simp only [decide_eq_true_eq, true_iff, iff_true, false_iff, iff_false, Bool.false_eq_true, Bool.not_eq_true', decide_eq_false_iff_not]; first | rfl | omega)) | exact ResLe.pure (AVle.dat (Dle.nil _ _)) rfl | refine ResLe.agg ?_ | refine And.intro ?_ ?_ | ((conv => whnf); first | refine And.intro ?_ ?_ | refine ResLe.agg ?_ | exact ResLe.pure (AVle.refl _) rfl | exact ResLe.row0 rfl | exact ResLe.pure (AVle.int (by first | rfl | omega)) rfl | exact ResLe.bo rfl rfl Iff.rfl)))
  · have hE : takE us u m = lotErr us := by unfold takE; rw [if_pos e1]
    have hA : takA us u m = [] := by unfold takA; rw [hE, if_neg e1]
    have hB : takB us u m = [] := by unfold takB; rw [hE, if_neg e1]
    rw [hE, hA, hB]
    refine ACalls.of (n := Tryz.f12.ntmps) XX_ok Tryz.func12 rfl (by kernel_rfl) rfl rfl (Nat.le_of_ble_eq_true rfl) ?_
    (repeat' (first | refine W.seq ?_ | refine W.block ?_ | ((first | refine W.region ?_ | refine W.ret ?_ | refine W.skip ?_ | refine W.exit ?_ | refine W.cond ?_ | (with_reducible first | refine NumK.as _ (divOk (by omega) (by omega) (by omega)) ?_ | refine NumK.as _ (modOk (by omega) (by omega) (by omega) (by omega)) ?_) | refine NumK.as _ (wrapOk (by omega)) ?_ | (with_reducible refine NumK.as _ (wrapU (by omega)) ?_) | refine NumK.as _ (wrapOk (by (simp only [Int.toNat_natCast] at *); omega)) ?_ | refine CndK.mk (by omega) ?_ | (refine CndK.mk ?_ ?_; (focus (first | omega | (simp; done) | (simp; omega)))) | refine UnK.mk (fun b hb => ?_) | refine CndK.mk rfl ?_ | refine CndK.mk ⟨by assumption, rfl⟩ ?_ | refine ExCall.by (CallA.d2 rfl (h1)) ?_); conv => whnf) | (refine BrK.mk (fun h => ?_) (fun h => ?_) <;> (try simp only [decide_eq_true_eq, decide_eq_false_iff_not, Bool.and_eq_true, Bool.or_eq_true, Bool.not_eq_true', Bool.not_eq_false', Bool.or_eq_false_iff, Bool.and_eq_false_iff, Int.not_lt, Int.not_le, gt_iff_lt, ge_iff_le] at h) <;> first | (exfalso; first | omega | exact h rfl | exact Bool.noConfusion h) | contradiction | (conv => whnf))))
    all_goals (repeat' (first | exact trivial | exact ResLe.pure (AVle.refl _) rfl | exact ResLe.row0 rfl | exact ResLe.pure (AVle.int (by first | rfl | omega)) rfl | exact ResLe.bo rfl rfl (by first | exact Iff.rfl | (simp only [decide_eq_true_eq, true_iff, iff_true, false_iff, iff_false, Bool.false_eq_true, Bool.not_eq_true', decide_eq_false_iff_not]; first | rfl | omega)) | exact ResLe.pure (AVle.dat (Dle.nil _ _)) rfl | refine ResLe.agg ?_ | refine And.intro ?_ ?_ | ((conv => whnf); first | refine And.intro ?_ ?_ | refine ResLe.agg ?_ | exact ResLe.pure (AVle.refl _) rfl | exact ResLe.row0 rfl | exact ResLe.pure (AVle.int (by first | rfl | omega)) rfl | exact ResLe.bo rfl rfl Iff.rfl)))
theorem tak_ok {us : List Sl} {u m : Int} (h : lotErr us = 0) (hu : 0 ≤ u ∧ u ≤ cnt us) (hm : mOk m) : takE us u m = 0 ∧ takA us u m = divA m (joinL us) u ∧ takB us u m = divB m (joinL us) u := by
  have hE : takE us u m = 0 := by unfold takE; rw [if_neg (by simpa using h), if_neg (by rintro (h1 | h1 | h1) <;> first | omega | exact h1 hm)]
  exact ⟨hE, by unfold takA; rw [hE, if_pos rfl], by unfold takB; rw [hE, if_pos rfl]⟩

theorem divA1 (us : List Sl) (u : Int) : divA 1 us u = frA us u := by unfold divA ksM frA; rw [if_neg (by decide), if_neg (by decide)]
theorem divB1 (us : List Sl) (u : Int) : divB 1 us u = frB us u := by unfold divB ksM frB; rw [if_neg (by decide), if_neg (by decide)]
theorem divA2 (us : List Sl) (u : Int) : divA 2 us u = frB us (cnt us - u) := by unfold divA; rw [if_pos rfl]
theorem divB2 (us : List Sl) (u : Int) : divB 2 us u = frA us (cnt us - u) := by unfold divB; rw [if_pos rfl]
/-- What two takings come to (method 1 or 2). -/
theorem twice_ok {us : List Sl} {u w m : Int} (h : lotErr us = 0) (hm : m = 1 ∨ m = 2) (h20 : us.length ≤ 32) (hu : 0 ≤ u) (hw : 0 ≤ w) (huw : u + w ≤ cnt us) :
    takE us u m = 0 ∧ takE (takB us u m) w m = 0 ∧ takE us (u + w) m = 0 ∧ takB (takB us u m) w m = takB us (u + w) m ∧
    (takA us u m).length ≤ us.length ∧ (takA (takB us u m) w m).length ≤ us.length ∧ (takB us u m).length ≤ us.length ∧ (takA us (u + w) m).length ≤ us.length ∧ (takB us (u + w) m).length ≤ us.length ∧
    (if lotErr (if m = 2 then takA (takB us u m) w m ++ takA us u m else takA us u m ++ takA (takB us u m) w m) = 0 then joinL (if m = 2 then takA (takB us u m) w m ++ takA us u m else takA us u m ++ takA (takB us u m) w m) else []) = takA us (u + w) m := by
  obtain ⟨l1, l2, l3⟩ := lotErr_iff.1 h
  have hj := join_valid h
  obtain ⟨j1, j2, j3⟩ := lotErr_iff.1 hj
  have hc := cnt_join (slOk_le l2)
  have hjl := joinL_len us
  have hmm : mOk m := by unfold mOk; omega
  obtain ⟨a1, a2, a3⟩ := tak_ok (m := m) h (u := u) (by omega) hmm
  obtain ⟨c1, c2, c3⟩ := tak_ok (m := m) h (u := u + w) (by omega) hmm
  rw [a1, a2, a3, c1, c2, c3]
  generalize hJ : joinL us = J at *
  have dR := divR (m := m) (u := u) j2 (by omega)
  have dC := divR (m := m) (u := u + w) j2 (by omega)
  obtain ⟨dv1, dv2⟩ := div_valid (m := m) (u := u) j2 j1 j3 (by omega)
  have dRc := dR.cB
  have dRp := dR.pB
  have dRl := dR.lB
  generalize hR : divB m J u = R at *
  obtain ⟨r1, r2, r3⟩ := lotErr_iff.1 dv2
  have hRc : cnt R = cnt J - u := dRc
  have hRj : joinL R = R := join_self dRp
  obtain ⟨b1, b2, b3⟩ := tak_ok (m := m) dv2 (u := w) (by omega) hmm
  rw [hRj] at b2 b3
  rw [b1, b2, b3]
  have dB := divR (m := m) (u := w) r2 (by omega)
  have hRl := dRl
  have hAl := dR.lA
  have hBl := dB.lA
  have hCl := dC.lA
  have hCl2 := dC.lB
  refine ⟨rfl, rfl, rfl, ?_, by omega, by omega, by omega, by omega, by omega, ?_⟩
  · refine canon dB.pB dC.pB ?_
    rw [← hR]
    rcases hm with rfl | rfl
    · rw [divB1, divB1, divB1] at *
      have o1 := divR (m := 1) (u := u) j2 (by omega)
      rw [(fr_expand (hR ▸ r2) hw).2, (fr_expand j2 hu).2, (fr_expand j2 (by omega)).2, List.drop_drop]
      congr 1
      omega
    · rw [divB2, divB2, divB2] at *
      rw [(fr_expand (hR ▸ r2) (by rw [hR]; omega)).1, (fr_expand j2 (by omega)).1, (fr_expand j2 (by omega)).1, List.take_take]
      congr 1
      rw [hR]
      omega
  · have hE : (expand J).length = (cnt J).toNat := by rw [cnt_expand (slOk_le j2)]; omega
    have key : ∀ both : List Sl, both.length ≤ 64 → (∀ y ∈ both, slOk y) → expand both = expand (divA m J (u + w)) → (if lotErr both = 0 then joinL both else []) = divA m J (u + w) := fun both h1 h2 h3 => by
      have hv : lotErr both = 0 := by
        refine lotErr_iff.2 ⟨h1, h2, ?_⟩
        rw [h3]
        exact (lotErr_iff.1 (div_valid (m := m) (u := u + w) j2 j1 j3 (by omega)).1).2.2
      rw [if_pos hv]
      refine canon (cmpct_join (slOk_le h2)) dC.pA ?_
      rw [expand_join (slOk_le h2), h3]
    have hok : ∀ y, (y ∈ divA m J u ∨ y ∈ divA m R w) → slOk y := fun y hy => by
      rcases hy with hy | hy
      · exact dR.oA y hy
      · exact dB.oA y hy
    rcases hm with rfl | rfl
    · rw [if_neg (show ¬ (1 : Int) = 2 by decide)]
      refine key _ (by rw [List.length_append]; omega) (fun y hy => hok y (List.mem_append.1 hy)) ?_
      rw [expand_app, divA1, divA1, divA1, (fr_expand r2 hw).1, (fr_expand j2 hu).1, (fr_expand j2 (by omega)).1]
      have e : expand R = (expand J).drop u.toNat := by rw [← hR, divB1, (fr_expand j2 hu).2]
      rw [e, ← List.take_add]
      congr 1
      omega
    · rw [if_pos rfl]
      refine key _ (by rw [List.length_append]; omega) (fun y hy => hok y (List.mem_append.1 hy).symm) ?_
      rw [expand_app, divA2, divA2, divA2, (fr_expand r2 (by omega)).2, (fr_expand j2 (by omega)).2, (fr_expand j2 (by omega)).2]
      have e : expand R = (expand J).take (cnt J - u).toNat := by rw [← hR, divB2, (fr_expand j2 (by omega)).1]
      have e2 : (cnt R - w).toNat = (cnt J - (u + w)).toNat := by omega
      rw [e, e2]
      conv => rhs; rw [← List.take_append_drop (cnt J - u).toNat (expand J)]
      rw [List.drop_append_of_le_length]
      rw [List.length_take, hE]
      omega

theorem both_t (a b : List Sl) {r : AV} (h : ACalls XX 18 [.dat (slD (a ++ b))] r) : ACalls XX 18 [.dat (.lst 3 (0 + a.length + b.length) (catF (0 + a.length) (catF 0 (fun _ _ => .val undef) (rowF slE a)) (rowF slE b)))] r :=
  h.args1 (RowIs.dat (us := a ++ b) ((RowIs.cat (RowIs.nil slE 3 0 _ rfl) (RowIs.refl slE 3 a)).cat (RowIs.refl slE 3 b)))
theorem lawTakeTwice_t (x0 : List Int) (a1 a2 : Int) (b3 : Bool) (k0 : x0.length ≤ 9223372036854775807) : ACalls XX 6 [.dat (ilst x0), iA a1, iA a2, bA b3] (bA true) := by
  obtain ⟨us, hus, hv, kS⟩ := slices_t x0 k0
  have hQ := l25awake_t
  obtain ⟨l1, l2, l3⟩ := lotErr_iff.1 hv
  have hc := cntOk l2 (by omega)
  have hU := runits_t us (by omega)
  rw [if_pos hv] at hU
  generalize hN : cnt us = N at *
  have w1 := within_t a1 (N + 1) (by omega) (by omega)
  have r1 := Int.emod_nonneg a1 (show (N + 1 : Int) ≠ 0 by omega)
  have r1' := Int.emod_lt_of_pos a1 (show (0 : Int) < N + 1 by omega)
  generalize a1 % (N + 1) = u at *
  have w2 := within_t a2 (N - u + 1) (by omega) (by omega)
  have r2 := Int.emod_nonneg a2 (show (N - u + 1 : Int) ≠ 0 by omega)
  have r2' := Int.emod_lt_of_pos a2 (show (0 : Int) < N - u + 1 by omega)
  generalize a2 % (N - u + 1) = w at *
  cases b3 with
  | false =>
    obtain ⟨t1, t2, t3, t4, t5, t6, t7, t8, t9, t10⟩ := twice_ok (m := 1) (u := u) (w := w) hv (.inl rfl) (by omega) (by omega) (by omega) (by omega)
    rw [if_neg (show ¬ (1 : Int) = 2 by decide)] at t10
    have d1 := take_t us u 1 (by omega) (fun _ => divOk1)
    have d2 := take_t (takB us u 1) w 1 (by omega) (fun _ => divOk1)
    have d3 := take_t us (u + w) 1 (by omega) (fun _ => divOk1)
    rw [t1] at d1
    rw [t2, t4] at d2
    rw [t3] at d3
    have d4 := compact_t (takA us u 1 ++ takA (takB us u 1) w 1) (by rw [List.length_append]; omega)
    rw [t10] at d4
    have d4 := both_t _ _ d4
    have d5 := rsame_t (takA us (u + w) 1) (by omega)
    have d6 := rsame_t (takB us (u + w) 1) (by omega)
    refine ACalls.of (n := Tryz.f6.ntmps) XX_ok Tryz.func6 rfl (by kernel_rfl) rfl rfl (Nat.le_of_ble_eq_true rfl) ?_
    (repeat' (first | refine W.seq ?_ | refine W.block ?_ | ((first | refine W.region ?_ | refine W.ret ?_ | refine W.skip ?_ | refine W.exit ?_ | refine W.cond ?_ | (with_reducible first | refine NumK.as _ (divOk (by omega) (by omega) (by omega)) ?_ | refine NumK.as _ (modOk (by omega) (by omega) (by omega) (by omega)) ?_) | refine NumK.as _ (wrapOk (by omega)) ?_ | (with_reducible refine NumK.as _ (wrapU (by omega)) ?_) | refine NumK.as _ (wrapOk (by (simp only [Int.toNat_natCast] at *); omega)) ?_ | refine CndK.mk (by omega) ?_ | (refine CndK.mk ?_ ?_; (focus (first | omega | (simp; done) | (simp; omega)))) | refine UnK.mk (fun b hb => ?_) | refine CndK.mk rfl ?_ | refine CndK.mk ⟨by assumption, rfl⟩ ?_ | refine ExCall.by (CallA.d2 rfl (kS)) ?_ | refine ExCall.by (CallA.d2 rfl (hU)) ?_ | refine ExCall.by (CallA.d2 rfl (w1)) ?_ | refine ExCall.by (CallA.d2 rfl (w2)) ?_ | refine ExCall.by (CallA.d2 rfl (d1)) ?_ | refine ExCall.by (CallA.d2 rfl (d2)) ?_ | refine ExCall.by (CallA.d2 rfl (d3)) ?_ | refine ExCall.by (CallA.d2 rfl (d5)) ?_ | refine ExCall.by (CallA.d2 rfl (d6)) ?_ | refine ExCall.by (CallA.d2 rfl (hQ)) ?_); conv => whnf) | (refine BrK.mk (fun h => ?_) (fun h => ?_) <;> (try simp only [decide_eq_true_eq, decide_eq_false_iff_not, Bool.and_eq_true, Bool.or_eq_true, Bool.not_eq_true', Bool.not_eq_false', Bool.or_eq_false_iff, Bool.and_eq_false_iff, Int.not_lt, Int.not_le, gt_iff_lt, ge_iff_le] at h) <;> first | (exfalso; first | omega | exact h rfl | exact Bool.noConfusion h) | contradiction | (conv => whnf))))
    refine ExCall.pub 72 rfl ?_
    conv => whnf
    (repeat' (first | refine W.seq ?_ | refine W.block ?_ | ((first | refine W.region ?_ | refine W.ret ?_ | refine W.skip ?_ | refine W.exit ?_ | refine W.cond ?_ | (with_reducible first | refine NumK.as _ (divOk (by omega) (by omega) (by omega)) ?_ | refine NumK.as _ (modOk (by omega) (by omega) (by omega) (by omega)) ?_) | refine NumK.as _ (wrapOk (by omega)) ?_ | (with_reducible refine NumK.as _ (wrapU (by omega)) ?_) | refine NumK.as _ (wrapOk (by (simp only [Int.toNat_natCast] at *); omega)) ?_ | refine CndK.mk (by omega) ?_ | (refine CndK.mk ?_ ?_; (focus (first | omega | (simp; done) | (simp; omega)))) | refine UnK.mk (fun b hb => ?_) | refine CndK.mk rfl ?_ | refine CndK.mk ⟨by assumption, rfl⟩ ?_ | (refine ExCall.by (CallA.d4 (d4) ?_) ?_; (focus ((repeat' (first | exact trivial | exact ArgQ.refl rfl | exact ArgQ.nil | exact ArgQ.own rfl rfl (fun _ _ _ _ => Dle.refl _) | refine ArgQ.agg ?_ | refine And.intro ?_ ?_ | exact ArgQ.pure (AVle.int (by omega)) rfl)); done))) | refine ExCall.by (CallA.d2 rfl (d5)) ?_ | refine ExCall.by (CallA.d2 rfl (d6)) ?_ | refine ExCall.by (CallA.d2 rfl (hQ)) ?_); conv => whnf) | (refine BrK.mk (fun h => ?_) (fun h => ?_) <;> (try simp only [decide_eq_true_eq, decide_eq_false_iff_not, Bool.and_eq_true, Bool.or_eq_true, Bool.not_eq_true', Bool.not_eq_false', Bool.or_eq_false_iff, Bool.and_eq_false_iff, Int.not_lt, Int.not_le, gt_iff_lt, ge_iff_le] at h) <;> first | (exfalso; first | omega | exact h rfl | exact Bool.noConfusion h) | contradiction | (conv => whnf))))
    all_goals (repeat' (first | exact trivial | exact ResLe.pure (AVle.refl _) rfl | exact ResLe.row0 rfl | exact ResLe.pure (AVle.int (by first | rfl | omega)) rfl | exact ResLe.bo rfl rfl (by first | exact Iff.rfl | (simp only [decide_eq_true_eq, true_iff, iff_true, false_iff, iff_false, Bool.false_eq_true, Bool.not_eq_true', decide_eq_false_iff_not]; first | rfl | omega)) | exact ResLe.pure (AVle.dat (Dle.nil _ _)) rfl | refine ResLe.agg ?_ | refine And.intro ?_ ?_ | ((conv => whnf); first | refine And.intro ?_ ?_ | refine ResLe.agg ?_ | exact ResLe.pure (AVle.refl _) rfl | exact ResLe.row0 rfl | exact ResLe.pure (AVle.int (by first | rfl | omega)) rfl | exact ResLe.bo rfl rfl Iff.rfl)))
  | true =>
    obtain ⟨t1, t2, t3, t4, t5, t6, t7, t8, t9, t10⟩ := twice_ok (m := 2) (u := u) (w := w) hv (.inr rfl) (by omega) (by omega) (by omega) (by omega)
    rw [if_pos rfl] at t10
    have d1 := take_t us u 2 (by omega) (fun _ => divOk2)
    have d2 := take_t (takB us u 2) w 2 (by omega) (fun _ => divOk2)
    have d3 := take_t us (u + w) 2 (by omega) (fun _ => divOk2)
    rw [t1] at d1
    rw [t2, t4] at d2
    rw [t3] at d3
    have d4 := compact_t (takA (takB us u 2) w 2 ++ takA us u 2) (by rw [List.length_append]; omega)
    rw [t10] at d4
    have d4 := both_t _ _ d4
    have d5 := rsame_t (takA us (u + w) 2) (by omega)
    have d6 := rsame_t (takB us (u + w) 2) (by omega)
    refine ACalls.of (n := Tryz.f6.ntmps) XX_ok Tryz.func6 rfl (by kernel_rfl) rfl rfl (Nat.le_of_ble_eq_true rfl) ?_
    (repeat' (first | refine W.seq ?_ | refine W.block ?_ | ((first | refine W.region ?_ | refine W.ret ?_ | refine W.skip ?_ | refine W.exit ?_ | refine W.cond ?_ | (with_reducible first | refine NumK.as _ (divOk (by omega) (by omega) (by omega)) ?_ | refine NumK.as _ (modOk (by omega) (by omega) (by omega) (by omega)) ?_) | refine NumK.as _ (wrapOk (by omega)) ?_ | (with_reducible refine NumK.as _ (wrapU (by omega)) ?_) | refine NumK.as _ (wrapOk (by (simp only [Int.toNat_natCast] at *); omega)) ?_ | refine CndK.mk (by omega) ?_ | (refine CndK.mk ?_ ?_; (focus (first | omega | (simp; done) | (simp; omega)))) | refine UnK.mk (fun b hb => ?_) | refine CndK.mk rfl ?_ | refine CndK.mk ⟨by assumption, rfl⟩ ?_ | refine ExCall.by (CallA.d2 rfl (kS)) ?_ | refine ExCall.by (CallA.d2 rfl (hU)) ?_ | refine ExCall.by (CallA.d2 rfl (w1)) ?_ | refine ExCall.by (CallA.d2 rfl (w2)) ?_ | refine ExCall.by (CallA.d2 rfl (d1)) ?_ | refine ExCall.by (CallA.d2 rfl (d2)) ?_ | refine ExCall.by (CallA.d2 rfl (d3)) ?_ | refine ExCall.by (CallA.d2 rfl (d5)) ?_ | refine ExCall.by (CallA.d2 rfl (d6)) ?_ | refine ExCall.by (CallA.d2 rfl (hQ)) ?_); conv => whnf) | (refine BrK.mk (fun h => ?_) (fun h => ?_) <;> (try simp only [decide_eq_true_eq, decide_eq_false_iff_not, Bool.and_eq_true, Bool.or_eq_true, Bool.not_eq_true', Bool.not_eq_false', Bool.or_eq_false_iff, Bool.and_eq_false_iff, Int.not_lt, Int.not_le, gt_iff_lt, ge_iff_le] at h) <;> first | (exfalso; first | omega | exact h rfl | exact Bool.noConfusion h) | contradiction | (conv => whnf))))
    refine ExCall.pub 78 rfl ?_
    conv => whnf
    (repeat' (first | refine W.seq ?_ | refine W.block ?_ | ((first | refine W.region ?_ | refine W.ret ?_ | refine W.skip ?_ | refine W.exit ?_ | refine W.cond ?_ | (with_reducible first | refine NumK.as _ (divOk (by omega) (by omega) (by omega)) ?_ | refine NumK.as _ (modOk (by omega) (by omega) (by omega) (by omega)) ?_) | refine NumK.as _ (wrapOk (by omega)) ?_ | (with_reducible refine NumK.as _ (wrapU (by omega)) ?_) | refine NumK.as _ (wrapOk (by (simp only [Int.toNat_natCast] at *); omega)) ?_ | refine CndK.mk (by omega) ?_ | (refine CndK.mk ?_ ?_; (focus (first | omega | (simp; done) | (simp; omega)))) | refine UnK.mk (fun b hb => ?_) | refine CndK.mk rfl ?_ | refine CndK.mk ⟨by assumption, rfl⟩ ?_ | (refine ExCall.by (CallA.d4 (d4) ?_) ?_; (focus ((repeat' (first | exact trivial | exact ArgQ.refl rfl | exact ArgQ.nil | exact ArgQ.own rfl rfl (fun _ _ _ _ => Dle.refl _) | refine ArgQ.agg ?_ | refine And.intro ?_ ?_ | exact ArgQ.pure (AVle.int (by omega)) rfl)); done))) | refine ExCall.by (CallA.d2 rfl (d5)) ?_ | refine ExCall.by (CallA.d2 rfl (d6)) ?_ | refine ExCall.by (CallA.d2 rfl (hQ)) ?_); conv => whnf) | (refine BrK.mk (fun h => ?_) (fun h => ?_) <;> (try simp only [decide_eq_true_eq, decide_eq_false_iff_not, Bool.and_eq_true, Bool.or_eq_true, Bool.not_eq_true', Bool.not_eq_false', Bool.or_eq_false_iff, Bool.and_eq_false_iff, Int.not_lt, Int.not_le, gt_iff_lt, ge_iff_le] at h) <;> first | (exfalso; first | omega | exact h rfl | exact Bool.noConfusion h) | contradiction | (conv => whnf))))
    all_goals (repeat' (first | exact trivial | exact ResLe.pure (AVle.refl _) rfl | exact ResLe.row0 rfl | exact ResLe.pure (AVle.int (by first | rfl | omega)) rfl | exact ResLe.bo rfl rfl (by first | exact Iff.rfl | (simp only [decide_eq_true_eq, true_iff, iff_true, false_iff, iff_false, Bool.false_eq_true, Bool.not_eq_true', decide_eq_false_iff_not]; first | rfl | omega)) | exact ResLe.pure (AVle.dat (Dle.nil _ _)) rfl | refine ResLe.agg ?_ | refine And.intro ?_ ?_ | ((conv => whnf); first | refine And.intro ?_ ?_ | refine ResLe.agg ?_ | exact ResLe.pure (AVle.refl _) rfl | exact ResLe.row0 rfl | exact ResLe.pure (AVle.int (by first | rfl | omega)) rfl | exact ResLe.bo rfl rfl Iff.rfl)))

end Go.Proofs.YtekdobbhkklapaaGreat
