/- Guarantees that are made from numbers. -/
import Derived.Test.YteilknlokjfelaaT2
namespace Go.Proofs.Yteilknlokjfelaa
open Go Go.RowKit
set_option linter.unusedVariables false
set_option linter.unusedSimpArgs false
set_option maxRecDepth 100000
set_option maxHeartbeats 4000000
attribute [local irreducible] ResLe AVle ArgLe ArgP EntLe Dle ResH ArgQ

structure GS where
  i : Nat
  mv : Int
  sum : Int
  us : List Rw
def gsC (L : List Int) (s : GS) : Prop := s.i < L.length ∧ s.us.length < 10
def gsN (L : List Int) (s : GS) : GS := ⟨ni L (ni L (ni L s.i)), s.mv + 1 + nx L s.i 2, s.sum + sx L (ni L s.i) 60 10000, s.us ++ [⟨s.mv + 1 + nx L s.i 2, sx L (ni L s.i) 60 10000⟩]⟩
structure GsI (L : List Int) (s : GS) : Prop where
  i : s.i ≤ L.length
  len : s.us.length ≤ 10
  mv : 0 ≤ s.mv ∧ s.mv ≤ 2 * s.us.length
  sum : s.sum = sumR s.us
  rows : ∀ x ∈ s.us, 1 ≤ x.m ∧ x.m ≤ s.mv ∧ 0 ≤ x.a ∧ x.a ≤ 10000
  asc : ascR s.us
theorem sumR_snoc (us : List Rw) (x : Rw) : sumR (us ++ [x]) = sumR us + x.a := by
  unfold sumR
  simp
theorem ascR_snoc {us : List Rw} {x : Rw} (h : ascR us) (hx : ∀ y ∈ us, y.m < x.m) : ascR (us ++ [x]) := by
  intro i hi
  simp at hi
  by_cases h1 : i + 1 < us.length
  · have := h i (by omega)
    simpa [List.getElem?_append, h1, show i < us.length by omega] using this
  · have h2 : i + 1 = us.length := by omega
    have h3 := hx (us.getD i default) (getD_in_list (by omega))
    simpa [List.getElem?_append, show i < us.length by omega, h2] using h3
theorem gsI_next {L : List Int} {s : GS} (h : GsI L s) (hc : gsC L s) : GsI L (gsN L s) ∧ L.length - (gsN L s).i < L.length - s.i := by
  obtain ⟨h1, h2⟩ := hc
  have k1 := ni_le L s.i h.i
  have k2 := ni_le L (ni L s.i) k1.2.1
  have k3 := ni_le L (ni L (ni L s.i)) k2.2.1
  have n1 := nx_rng L s.i (m := 2) (by omega)
  have n2 := sx_rng L (ni L s.i) (few := 60) (n := 10000) (by omega) (by omega)
  have hm := h.mv
  refine ⟨⟨k3.2.1, by simp [gsN]; omega, by simp [gsN]; omega, by simp [gsN, sumR_snoc, h.sum], fun x hx => ?_, ?_⟩, by simp [gsN]; omega⟩
  · simp [gsN] at hx ⊢
    rcases hx with hx | rfl
    · have := h.rows x hx
      omega
    · simp; omega
  · exact ascR_snoc h.asc fun y hy => by have := h.rows y hy; simp; omega
/-- What a made guarantee is. -/
structure MadeG (id rf lv : Int) (us : List Rw) : Prop where
  id : 1 ≤ id ∧ id ≤ 9
  lv : 0 ≤ lv ∧ lv ≤ 1000000
  len : us.length ≤ 10
  rows : ∀ x ∈ us, 1 ≤ x.m ∧ x.m ≤ 20 ∧ 0 ≤ x.a ∧ x.a ≤ 10000
  asc : ascR us
  sum : sumR us ≤ rf ∧ rf ≤ 2000000
def lvl (k : Int) : Int := [0, 300000, 500000, 999999, 1000000].getD k.toNat 0
theorem lvl_rng (k : Int) : 0 ≤ lvl k ∧ lvl k ≤ 1000000 := by
  unfold lvl
  have : k.toNat = 0 ∨ k.toNat = 1 ∨ k.toNat = 2 ∨ k.toNat = 3 ∨ k.toNat = 4 ∨ 5 ≤ k.toNat := by omega
  rcases this with h | h | h | h | h | h
  · rw [h]; decide
  · rw [h]; decide
  · rw [h]; decide
  · rw [h]; decide
  · rw [h]; decide
  · rw [List.getD_eq_getElem?_getD, List.getElem?_eq_none (by simpa using h)]; decide
theorem made_t (L0 : List Int) (hL0 : L0.length ≤ 9223372036854775807) : ∃ id rf lv us, MadeG id rf lv us ∧ ACalls XX 10 [.dat (ilst L0)] (guA id rf lv us) := by
  have hcut := cut_t L0 40 (by omega) hL0
  generalize hLL : L0.take (40 : Int).toNat = L at hcut
  have hL : L.length ≤ 40 := by rw [← hLL]; simp; omega
  have n1 := nx_rng L 0 (m := 9) (by omega)
  have n2 := nx_rng L (ni L 0) (m := 5) (by omega)
  have k1 := ni_le L 0 (Nat.zero_le _)
  have k2 := ni_le L (ni L 0) k1.2.1
  obtain ⟨t, ht, hI, hd⟩ := Ends.of (c := gsC L) (step := gsN L) (GsI L) (fun s => L.length - s.i) ⟨ni L (ni L 0), 0, 0, []⟩ ⟨k2.2.1, by simp, by simp, rfl, by simp, fun i hi => by simp at hi⟩ fun s hs hc => gsI_next hs hc
  have n3 := sx_rng L t.i (few := 100) (n := 1000000) (by omega) (by omega)
  have hs := sumR_rng t.us (fun x hx => by have := hI.rows x hx; omega)
  refine ⟨1 + nx L 0 9, t.sum + sx L t.i 100 1000000, lvl (nx L (ni L 0) 5), t.us, ⟨by omega, lvl_rng _, hI.len, fun x hx => ?_, hI.asc, ?_⟩, ?_⟩
  · have h1 := hI.rows x hx
    have h2 := hI.mv
    have h3 := hI.len
    omega
  · have h1 := hI.sum
    have : sumR t.us ≤ 10000 * t.us.length := by
      have : ∀ l : List Rw, (∀ x ∈ l, x.a ≤ 10000) → sumR l ≤ 10000 * l.length := by
        intro l
        induction l with
        | nil => intro _; simp [sumR]
        | cons x l ih =>
          intro h
          have h1 := ih fun y hy => h y (List.mem_cons_of_mem _ hy)
          have h2 := h x (List.mem_cons_self ..)
          simp [sumR] at h1 ⊢
          omega
      exact this t.us fun x hx => (hI.rows x hx).2.2.2
    have h3 := hI.len
    omega
  clear hLL
  refine ACalls.of (n := Try.f10.ntmps) XX_ok Try.func10 rfl (by kernel_rfl) rfl rfl (Nat.le_of_ble_eq_true rfl) ?_
  (repeat' (first | refine W.seq ?_ | refine W.block ?_ | (refine W.region ?_; conv => whnf) | (refine W.ret ?_; conv => whnf) | (refine W.skip ?_; conv => whnf) | (refine W.exit ?_; conv => whnf) | (refine W.cond ?_; conv => whnf) | (refine W.drawT dr10 rfl mixed rfl ?_; conv => whnf) | ((with_reducible refine NumK.as _ (divOk (by omega) (by omega) (by omega)) ?_); conv => whnf) | ((with_reducible refine NumK.as _ (modOk (by omega) (by omega) (by omega) (by omega)) ?_); conv => whnf) | (refine NumK.as _ (wrapOk (by omega)) ?_; conv => whnf) | ((with_reducible refine NumK.as _ (wrapU (by omega)) ?_); conv => whnf) | (refine CndK.mk (by omega) ?_; conv => whnf) | (refine CndK.mk ?_ ?_; (focus (first | omega | (simp; done) | (simp; omega))); conv => whnf) | (refine UnK.mk (fun b hb => ?_); conv => whnf) | (refine CndK.mk rfl ?_; conv => whnf) | (refine CndK.mk ⟨by assumption, rfl⟩ ?_; conv => whnf) | (refine ExCall.by (CallA.p2 rfl (hcut) rfl) ?_; conv => whnf) | (refine CallK.by (CallA.p2 rfl (hcut) rfl) ?_; conv => whnf) | (refine ExCall.by (CallA.d2 rfl (hcut)) ?_; conv => whnf) | (refine CallK.by (CallA.d2 rfl (hcut)) ?_; conv => whnf) | (refine ExCall.h [(5000, 10)] rfl (next_h L 0 9 (by omega) (by omega) (by omega)) rfl ⟨rfl, trivial⟩ ?_; conv => whnf) | (refine CallK.h [(5000, 10)] rfl (next_h L 0 9 (by omega) (by omega) (by omega)) rfl rfl ⟨rfl, trivial⟩ rfl rfl ?_; conv => whnf) | (refine ExCall.h [(5000, 10)] rfl (next_h L _ _ (by omega) (by omega) (by omega)) rfl ⟨rfl, trivial⟩ ?_; conv => whnf) | (refine CallK.h [(5000, 10)] rfl (next_h L _ _ (by omega) (by omega) (by omega)) rfl rfl ⟨rfl, trivial⟩ rfl rfl ?_; conv => whnf) | (refine BrK.mk (fun h => ?_) (fun h => ?_) <;> (try simp only [decide_eq_true_eq, decide_eq_false_iff_not, Bool.and_eq_true, Bool.or_eq_true, Bool.not_eq_true', Bool.not_eq_false', Bool.or_eq_false_iff, Bool.and_eq_false_iff, Int.not_lt, Int.not_le, gt_iff_lt, ge_iff_le] at h) <;> first | (exfalso; omega) | (exfalso; exact h rfl) | (exfalso; exact Bool.noConfusion h) | contradiction | (conv => whnf))))
  refine (W.adoptB 4 3 41 39 2 (rowF rwE []) rfl rfl rfl rfl rfl rfl ?_); conv => whnf
  refine (W.loopK (ι := GS) [2, 3, 4] [2] (fun s => [(5, iA s.mv)]) (fun s => [(10, srcE L s.i), (4, .blk 25 [iA (1 + nx L 0 9), iA s.sum, iA (lvl (nx L (ni L 0) 5)), .own 41 2 0 s.us.length]), (41, .row 39 2 s.us.length (rowF rwE s.us))]) (fun s => GsI L s ∧ Ends (gsC L) (gsN L) s t) (fun s => L.length - s.i) ⟨ni L (ni L 0), 0, 0, []⟩ ⟨⟨k2.2.1, by simp, by simp, rfl, by simp, fun i hi => by simp at hi⟩, ht⟩ ?_ ?_ ?_)
  · (repeat' (first | exact trivial | exact AVle.refl _ | exact AVle.int (by first | rfl | omega) | exact AVle.own (by first | rfl | omega) | exact AVle.dat (Dle.refl _) | exact AVle.dat (Dle.nil _ _) | exact AVle.of_eq (by first | rfl | omega) | exact ⟨_, rfl, EntLe.refl _, rfl⟩ | refine ⟨_, rfl, EntLe.blk ?_, rfl⟩ | refine ⟨_, rfl, EntLe.row (by first | rfl | omega) ?_, rfl⟩ | refine And.intro ?_ ?_))
  · (repeat' (first | exact trivial | exact AVle.refl _ | exact AVle.int (by first | rfl | omega | (simp [lvl]; done)) | exact AVle.own (by first | rfl | omega | (simp [lvl]; done)) | exact AVle.dat (Dle.refl _) | exact AVle.dat (Dle.nil _ _) | exact AVle.of_eq (by first | rfl | omega | (simp [lvl]; done)) | exact ⟨_, rfl, EntLe.refl _, rfl⟩ | refine ⟨_, rfl, EntLe.blk ?_, rfl⟩ | refine ⟨_, rfl, EntLe.row (by first | rfl | omega | (simp [lvl]; done)) ?_, rfl⟩ | refine And.intro ?_ ?_))
  conv => whnf
  intro s ⟨hs, hE⟩
  have k1 := ni_le L s.i hs.i
  have k2 := ni_le L (ni L s.i) k1.2.1
  have k3 := ni_le L (ni L (ni L s.i)) k2.2.1
  have n1 := nx_rng L s.i (m := 2) (by omega)
  have n2 := sx_rng L (ni L s.i) (few := 60) (n := 10000) (by omega) (by omega)
  have hm := hs.mv
  have hl := hs.len
  have hsum := sumR_rng s.us (fun x hx => by have := hs.rows x hx; omega)
  have hsum2 := hs.sum
  (repeat' (first | refine W.seq ?_ | refine W.block ?_ | (refine W.region ?_; conv => whnf) | (refine W.ret ?_; conv => whnf) | (refine W.skip ?_; conv => whnf) | (refine W.exit ?_; conv => whnf) | (refine W.cond ?_; conv => whnf) | (refine W.drawT dr10 rfl mixed rfl ?_; conv => whnf) | ((with_reducible refine NumK.as _ (divOk (by omega) (by omega) (by omega)) ?_); conv => whnf) | ((with_reducible refine NumK.as _ (modOk (by omega) (by omega) (by omega) (by omega)) ?_); conv => whnf) | (refine NumK.as _ (wrapOk (by omega)) ?_; conv => whnf) | ((with_reducible refine NumK.as _ (wrapU (by omega)) ?_); conv => whnf) | (refine CndK.mk (by omega) ?_; conv => whnf) | (refine CndK.mk ?_ ?_; (focus (first | omega | (simp; done) | (simp; omega))); conv => whnf) | (refine UnK.mk (fun b hb => ?_); conv => whnf) | (refine CndK.mk rfl ?_; conv => whnf) | (refine CndK.mk ⟨by assumption, rfl⟩ ?_; conv => whnf) | (refine ExCall.h [(5000, 10)] rfl (next_h L _ _ (by omega) (by omega) (by omega)) rfl ⟨rfl, trivial⟩ ?_; conv => whnf) | (refine CallK.h [(5000, 10)] rfl (next_h L _ _ (by omega) (by omega) (by omega)) rfl rfl ⟨rfl, trivial⟩ rfl rfl ?_; conv => whnf) | (refine ExCall.h [(5000, 10)] rfl (left_h L _) rfl ⟨rfl, trivial⟩ ?_; conv => whnf) | (refine CallK.h [(5000, 10)] rfl (left_h L _) rfl rfl ⟨rfl, trivial⟩ rfl rfl ?_; conv => whnf) | (refine ExCall.h [(5000, 10)] rfl (small_h L _ _ _ (by omega) (by omega) (by omega) (by omega) (by omega)) rfl ⟨rfl, trivial⟩ ?_; conv => whnf) | (refine CallK.h [(5000, 10)] rfl (small_h L _ _ _ (by omega) (by omega) (by omega) (by omega) (by omega)) rfl rfl ⟨rfl, trivial⟩ rfl rfl ?_; conv => whnf) | (refine BrK.mk (fun h => ?_) (fun h => ?_) <;> (try simp only [decide_eq_true_eq, decide_eq_false_iff_not, Bool.and_eq_true, Bool.or_eq_true, Bool.not_eq_true', Bool.not_eq_false', Bool.or_eq_false_iff, Bool.and_eq_false_iff, Int.not_lt, Int.not_le, gt_iff_lt, ge_iff_le] at h) <;> first | (exfalso; omega) | (exfalso; exact h rfl) | (exfalso; exact Bool.noConfusion h) | contradiction | (conv => whnf))))
  · have hc : gsC L s := ⟨by assumption, by omega⟩
    refine ⟨gsN L s, ⟨(gsI_next hs hc).1, hE.next hc⟩, (gsI_next hs hc).2, ?_, ?_, ?_, ?_⟩
    all_goals (repeat' (first | exact trivial | exact AVle.refl _ | exact AVle.int (by first | rfl | omega | (simp [gsN]; done)) | exact AVle.own (by first | rfl | omega | (simp [gsN]; done)) | exact AVle.dat (Dle.refl _) | exact AVle.dat (Dle.nil _ _) | exact AVle.of_eq (by first | rfl | omega | (simp [gsN]; done)) | exact ⟨_, rfl, EntLe.refl _, rfl⟩ | refine ⟨_, rfl, EntLe.blk ?_, rfl⟩ | refine ⟨_, rfl, EntLe.row (by first | rfl | omega | (simp [gsN]; done)) ?_, rfl⟩ | refine And.intro ?_ ?_))
    exact rowF_snoc rfl fun j hj => by
      have : j = 0 ∨ j = 1 := by omega
      rcases this with rfl | rfl <;> exact Dle.refl _
  all_goals obtain rfl := hE.done (fun hc => by have := hc.1; have := hc.2; omega)
  all_goals (repeat' (first | refine W.seq ?_ | refine W.block ?_ | (refine W.region ?_; conv => whnf) | (refine W.ret ?_; conv => whnf) | (refine W.skip ?_; conv => whnf) | (refine W.exit ?_; conv => whnf) | (refine W.cond ?_; conv => whnf) | (refine W.drawT dr10 rfl mixed rfl ?_; conv => whnf) | ((with_reducible refine NumK.as _ (divOk (by omega) (by omega) (by omega)) ?_); conv => whnf) | ((with_reducible refine NumK.as _ (modOk (by omega) (by omega) (by omega) (by omega)) ?_); conv => whnf) | (refine NumK.as _ (wrapOk (by omega)) ?_; conv => whnf) | ((with_reducible refine NumK.as _ (wrapU (by omega)) ?_); conv => whnf) | (refine CndK.mk (by omega) ?_; conv => whnf) | (refine CndK.mk ?_ ?_; (focus (first | omega | (simp; done) | (simp; omega))); conv => whnf) | (refine UnK.mk (fun b hb => ?_); conv => whnf) | (refine CndK.mk rfl ?_; conv => whnf) | (refine CndK.mk ⟨by assumption, rfl⟩ ?_; conv => whnf) | (refine ExCall.h [(5000, 10)] rfl (small_h L _ _ _ (by omega) (by omega) (by omega) (by omega) (by omega)) rfl ⟨rfl, trivial⟩ ?_; conv => whnf) | (refine CallK.h [(5000, 10)] rfl (small_h L _ _ _ (by omega) (by omega) (by omega) (by omega) (by omega)) rfl rfl ⟨rfl, trivial⟩ rfl rfl ?_; conv => whnf) | (refine BrK.mk (fun h => ?_) (fun h => ?_) <;> (try simp only [decide_eq_true_eq, decide_eq_false_iff_not, Bool.and_eq_true, Bool.or_eq_true, Bool.not_eq_true', Bool.not_eq_false', Bool.or_eq_false_iff, Bool.and_eq_false_iff, Int.not_lt, Int.not_le, gt_iff_lt, ge_iff_le] at h) <;> first | (exfalso; omega) | (exfalso; exact h rfl) | (exfalso; exact Bool.noConfusion h) | contradiction | (conv => whnf))))
  all_goals (repeat' (first | exact trivial | exact ResLe.pure (AVle.refl _) rfl | exact ResLe.pure (AVle.tt_ rfl) rfl | exact ResLe.pure (AVle.ff_ rfl) rfl | exact ResLe.row0 rfl | exact ResLe.pure (AVle.int (by first | rfl | omega)) rfl | exact ResLe.pure (AVle.bool (by simp only [decide_eq_true_eq, decide_eq_false_iff_not, decide_eq_decide]; first | rfl | omega)) rfl | exact ResLe.pure (AVle.tt_ (by simp only [decide_eq_true_eq, decide_eq_false_iff_not, decide_eq_decide]; first | rfl | omega)) rfl | exact ResLe.pure (AVle.ff_ (by simp only [decide_eq_true_eq, decide_eq_false_iff_not, decide_eq_decide]; first | rfl | omega)) rfl | exact ResLe.pure (AVle.of_tt (by simp only [decide_eq_true_eq, decide_eq_false_iff_not, decide_eq_decide]; first | rfl | omega)) rfl | exact ResLe.pure (AVle.of_ff (by simp only [decide_eq_true_eq, decide_eq_false_iff_not, decide_eq_decide]; first | rfl | omega)) rfl | exact ResLe.pure (AVle.dat (Dle.nil _ _)) rfl | refine ResLe.agg ?_ | refine And.intro ?_ ?_ | ((conv => whnf); first | exact ResLe.pure (AVle.refl _) rfl | exact ResLe.pure (AVle.tt_ rfl) rfl | exact ResLe.pure (AVle.ff_ rfl) rfl | exact ResLe.row0 rfl | exact ResLe.pure (AVle.int (by first | rfl | omega)) rfl | exact ResLe.pure (AVle.bool (by simp only [decide_eq_true_eq, decide_eq_false_iff_not, decide_eq_decide]; first | rfl | omega)) rfl | exact ResLe.pure (AVle.tt_ (by simp only [decide_eq_true_eq, decide_eq_false_iff_not, decide_eq_decide]; first | rfl | omega)) rfl | exact ResLe.pure (AVle.ff_ (by simp only [decide_eq_true_eq, decide_eq_false_iff_not, decide_eq_decide]; first | rfl | omega)) rfl | exact ResLe.pure (AVle.of_tt (by simp only [decide_eq_true_eq, decide_eq_false_iff_not, decide_eq_decide]; first | rfl | omega)) rfl | exact ResLe.pure (AVle.of_ff (by simp only [decide_eq_true_eq, decide_eq_false_iff_not, decide_eq_decide]; first | rfl | omega)) rfl | exact ResLe.pure (AVle.dat (Dle.nil _ _)) rfl | refine ResLe.agg ?_)))
end Go.Proofs.Yteilknlokjfelaa
