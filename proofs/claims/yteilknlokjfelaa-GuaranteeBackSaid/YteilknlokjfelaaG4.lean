/- Steps on guarantees; the reference. -/
import Derived.Test.YteilknlokjfelaaG3
namespace Go.Proofs.Yteilknlokjfelaa
open Go Go.RowKit
set_option linter.unusedVariables false
set_option linter.unusedSimpArgs false
set_option maxRecDepth 100000
set_option maxHeartbeats 4000000
attribute [local irreducible] ResLe AVle ArgLe ArgP EntLe Dle ResH ArgQ

structure Stp where
  k : Int
  mv : Int
  am : Int
  deriving Inhabited
def stE (x : Stp) (j : Nat) : D := match j with
  | 0 => .val (.int .i64 x.k)
  | 1 => .val (.int .i64 x.mv)
  | _ => .val (.int .i64 x.am)
abbrev stD (us : List Stp) : D := .lst 3 us.length (rowF stE us)
structure Gu where
  id : Int
  rf : Int
  lv : Int
  us : List Rw
  deriving Inhabited
abbrev gA (g : Gu) : AV := guA g.id g.rf g.lv g.us
def stepE (g : Gu) (s : Stp) : Int :=
  if s.k = 1 then setE g.id g.rf g.lv g.us s.mv s.am else if s.k = 2 then relE g.id g.rf g.lv g.us s.mv else if s.k = 3 then rszE g.id g.rf g.lv g.us s.am else if guErr g.id g.rf g.lv g.us ≠ 0 then guErr g.id g.rf g.lv g.us else 2
def stepN (g : Gu) (s : Stp) : Gu :=
  if s.k = 1 then { g with us := setR g.us s.mv (reqI g.lv s.am) } else if s.k = 2 then { g with us := relR g.us s.mv } else if s.k = 3 then { g with rf := s.am } else g
theorem step_t (g : Gu) (s : Stp) (hn : g.us.length ≤ 9223372036854775807) : ACalls XX 42 [gA g, .agg [iA s.k, iA s.mv, iA s.am]] (.tup [guO (stepE g s) (stepN g s).id (stepN g s).rf (stepN g s).lv (stepN g s).us, iA (stepE g s)]) := by
  have hv := validate_t g.id g.rf g.lv g.us hn
  by_cases h1 : s.k = 1
  · have e1 : stepE g s = setE g.id g.rf g.lv g.us s.mv s.am := by unfold stepE; rw [if_pos h1]
    have e2 : stepN g s = { g with us := setR g.us s.mv (reqI g.lv s.am) } := by unfold stepN; rw [if_pos h1]
    have hc := set_t g.id g.rf g.lv g.us s.mv s.am hn
    rw [e1, e2]
    refine ACalls.of (n := Try.f42.ntmps) XX_ok Try.func42 rfl (by kernel_rfl) rfl rfl (Nat.le_of_ble_eq_true rfl) ?_
    (repeat' (first | refine W.seq ?_ | refine W.block ?_ | (refine W.region ?_; conv => whnf) | (refine W.ret ?_; conv => whnf) | (refine W.skip ?_; conv => whnf) | (refine W.exit ?_; conv => whnf) | (refine W.cond ?_; conv => whnf) | (refine W.drawT dr42 rfl mixed rfl ?_; conv => whnf) | ((with_reducible refine NumK.as _ (divOk (by omega) (by omega) (by omega)) ?_); conv => whnf) | ((with_reducible refine NumK.as _ (modOk (by omega) (by omega) (by omega) (by omega)) ?_); conv => whnf) | (refine NumK.as _ (wrapOk (by omega)) ?_; conv => whnf) | ((with_reducible refine NumK.as _ (wrapU (by omega)) ?_); conv => whnf) | (refine CndK.mk (by omega) ?_; conv => whnf) | (refine CndK.mk ?_ ?_; (focus (first | omega | (simp; done) | (simp; omega))); conv => whnf) | (refine UnK.mk (fun b hb => ?_); conv => whnf) | (refine CndK.mk rfl ?_; conv => whnf) | (refine CndK.mk ⟨by assumption, rfl⟩ ?_; conv => whnf) | (refine ExCall.by (CallA.p2 rfl (hc) rfl) ?_; conv => whnf) | (refine CallK.by (CallA.p2 rfl (hc) rfl) ?_; conv => whnf) | (refine ExCall.by (CallA.d2 rfl (hc)) ?_; conv => whnf) | (refine CallK.by (CallA.d2 rfl (hc)) ?_; conv => whnf) | (refine BrK.mk (fun h => ?_) (fun h => ?_) <;> (try simp only [decide_eq_true_eq, decide_eq_false_iff_not, Bool.and_eq_true, Bool.or_eq_true, Bool.not_eq_true', Bool.not_eq_false', Bool.or_eq_false_iff, Bool.and_eq_false_iff, Int.not_lt, Int.not_le, gt_iff_lt, ge_iff_le] at h) <;> first | (exfalso; omega) | (exfalso; exact h rfl) | (exfalso; exact Bool.noConfusion h) | contradiction | (conv => whnf))))
    (repeat' (first | exact trivial | exact ResLe.pure (AVle.refl _) rfl | exact ResLe.pure (AVle.tt_ rfl) rfl | exact ResLe.pure (AVle.ff_ rfl) rfl | exact ResLe.row0 rfl | exact ResLe.pure (AVle.int (by first | rfl | omega)) rfl | exact ResLe.pure (AVle.bool (by simp only [decide_eq_true_eq, decide_eq_false_iff_not, decide_eq_decide]; first | rfl | omega)) rfl | exact ResLe.pure (AVle.tt_ (by simp only [decide_eq_true_eq, decide_eq_false_iff_not, decide_eq_decide]; first | rfl | omega)) rfl | exact ResLe.pure (AVle.ff_ (by simp only [decide_eq_true_eq, decide_eq_false_iff_not, decide_eq_decide]; first | rfl | omega)) rfl | exact ResLe.pure (AVle.of_tt (by simp only [decide_eq_true_eq, decide_eq_false_iff_not, decide_eq_decide]; first | rfl | omega)) rfl | exact ResLe.pure (AVle.of_ff (by simp only [decide_eq_true_eq, decide_eq_false_iff_not, decide_eq_decide]; first | rfl | omega)) rfl | exact ResLe.pure (AVle.dat (Dle.nil _ _)) rfl | refine ResLe.agg ?_ | refine And.intro ?_ ?_ | ((conv => whnf); first | exact ResLe.pure (AVle.refl _) rfl | exact ResLe.pure (AVle.tt_ rfl) rfl | exact ResLe.pure (AVle.ff_ rfl) rfl | exact ResLe.row0 rfl | exact ResLe.pure (AVle.int (by first | rfl | omega)) rfl | exact ResLe.pure (AVle.bool (by simp only [decide_eq_true_eq, decide_eq_false_iff_not, decide_eq_decide]; first | rfl | omega)) rfl | exact ResLe.pure (AVle.tt_ (by simp only [decide_eq_true_eq, decide_eq_false_iff_not, decide_eq_decide]; first | rfl | omega)) rfl | exact ResLe.pure (AVle.ff_ (by simp only [decide_eq_true_eq, decide_eq_false_iff_not, decide_eq_decide]; first | rfl | omega)) rfl | exact ResLe.pure (AVle.of_tt (by simp only [decide_eq_true_eq, decide_eq_false_iff_not, decide_eq_decide]; first | rfl | omega)) rfl | exact ResLe.pure (AVle.of_ff (by simp only [decide_eq_true_eq, decide_eq_false_iff_not, decide_eq_decide]; first | rfl | omega)) rfl | exact ResLe.pure (AVle.dat (Dle.nil _ _)) rfl | refine ResLe.agg ?_)))
  by_cases h2 : s.k = 2
  · have e1 : stepE g s = relE g.id g.rf g.lv g.us s.mv := by unfold stepE; rw [if_neg h1, if_pos h2]
    have e2 : stepN g s = { g with us := relR g.us s.mv } := by unfold stepN; rw [if_neg h1, if_pos h2]
    have hc := release_t g.id g.rf g.lv g.us s.mv hn
    rw [e1, e2]
    refine ACalls.of (n := Try.f42.ntmps) XX_ok Try.func42 rfl (by kernel_rfl) rfl rfl (Nat.le_of_ble_eq_true rfl) ?_
    (repeat' (first | refine W.seq ?_ | refine W.block ?_ | (refine W.region ?_; conv => whnf) | (refine W.ret ?_; conv => whnf) | (refine W.skip ?_; conv => whnf) | (refine W.exit ?_; conv => whnf) | (refine W.cond ?_; conv => whnf) | (refine W.drawT dr42 rfl mixed rfl ?_; conv => whnf) | ((with_reducible refine NumK.as _ (divOk (by omega) (by omega) (by omega)) ?_); conv => whnf) | ((with_reducible refine NumK.as _ (modOk (by omega) (by omega) (by omega) (by omega)) ?_); conv => whnf) | (refine NumK.as _ (wrapOk (by omega)) ?_; conv => whnf) | ((with_reducible refine NumK.as _ (wrapU (by omega)) ?_); conv => whnf) | (refine CndK.mk (by omega) ?_; conv => whnf) | (refine CndK.mk ?_ ?_; (focus (first | omega | (simp; done) | (simp; omega))); conv => whnf) | (refine UnK.mk (fun b hb => ?_); conv => whnf) | (refine CndK.mk rfl ?_; conv => whnf) | (refine CndK.mk ⟨by assumption, rfl⟩ ?_; conv => whnf) | (refine ExCall.by (CallA.p2 rfl (hc) rfl) ?_; conv => whnf) | (refine CallK.by (CallA.p2 rfl (hc) rfl) ?_; conv => whnf) | (refine ExCall.by (CallA.d2 rfl (hc)) ?_; conv => whnf) | (refine CallK.by (CallA.d2 rfl (hc)) ?_; conv => whnf) | (refine BrK.mk (fun h => ?_) (fun h => ?_) <;> (try simp only [decide_eq_true_eq, decide_eq_false_iff_not, Bool.and_eq_true, Bool.or_eq_true, Bool.not_eq_true', Bool.not_eq_false', Bool.or_eq_false_iff, Bool.and_eq_false_iff, Int.not_lt, Int.not_le, gt_iff_lt, ge_iff_le] at h) <;> first | (exfalso; omega) | (exfalso; exact h rfl) | (exfalso; exact Bool.noConfusion h) | contradiction | (conv => whnf))))
    (repeat' (first | exact trivial | exact ResLe.pure (AVle.refl _) rfl | exact ResLe.pure (AVle.tt_ rfl) rfl | exact ResLe.pure (AVle.ff_ rfl) rfl | exact ResLe.row0 rfl | exact ResLe.pure (AVle.int (by first | rfl | omega)) rfl | exact ResLe.pure (AVle.bool (by simp only [decide_eq_true_eq, decide_eq_false_iff_not, decide_eq_decide]; first | rfl | omega)) rfl | exact ResLe.pure (AVle.tt_ (by simp only [decide_eq_true_eq, decide_eq_false_iff_not, decide_eq_decide]; first | rfl | omega)) rfl | exact ResLe.pure (AVle.ff_ (by simp only [decide_eq_true_eq, decide_eq_false_iff_not, decide_eq_decide]; first | rfl | omega)) rfl | exact ResLe.pure (AVle.of_tt (by simp only [decide_eq_true_eq, decide_eq_false_iff_not, decide_eq_decide]; first | rfl | omega)) rfl | exact ResLe.pure (AVle.of_ff (by simp only [decide_eq_true_eq, decide_eq_false_iff_not, decide_eq_decide]; first | rfl | omega)) rfl | exact ResLe.pure (AVle.dat (Dle.nil _ _)) rfl | refine ResLe.agg ?_ | refine And.intro ?_ ?_ | ((conv => whnf); first | exact ResLe.pure (AVle.refl _) rfl | exact ResLe.pure (AVle.tt_ rfl) rfl | exact ResLe.pure (AVle.ff_ rfl) rfl | exact ResLe.row0 rfl | exact ResLe.pure (AVle.int (by first | rfl | omega)) rfl | exact ResLe.pure (AVle.bool (by simp only [decide_eq_true_eq, decide_eq_false_iff_not, decide_eq_decide]; first | rfl | omega)) rfl | exact ResLe.pure (AVle.tt_ (by simp only [decide_eq_true_eq, decide_eq_false_iff_not, decide_eq_decide]; first | rfl | omega)) rfl | exact ResLe.pure (AVle.ff_ (by simp only [decide_eq_true_eq, decide_eq_false_iff_not, decide_eq_decide]; first | rfl | omega)) rfl | exact ResLe.pure (AVle.of_tt (by simp only [decide_eq_true_eq, decide_eq_false_iff_not, decide_eq_decide]; first | rfl | omega)) rfl | exact ResLe.pure (AVle.of_ff (by simp only [decide_eq_true_eq, decide_eq_false_iff_not, decide_eq_decide]; first | rfl | omega)) rfl | exact ResLe.pure (AVle.dat (Dle.nil _ _)) rfl | refine ResLe.agg ?_)))
  by_cases h3 : s.k = 3
  · have e1 : stepE g s = rszE g.id g.rf g.lv g.us s.am := by unfold stepE; rw [if_neg h1, if_neg h2, if_pos h3]
    have e2 : stepN g s = { g with rf := s.am } := by unfold stepN; rw [if_neg h1, if_neg h2, if_pos h3]
    have hc := resize_t g.id g.rf g.lv g.us s.am hn
    rw [e1, e2]
    refine ACalls.of (n := Try.f42.ntmps) XX_ok Try.func42 rfl (by kernel_rfl) rfl rfl (Nat.le_of_ble_eq_true rfl) ?_
    (repeat' (first | refine W.seq ?_ | refine W.block ?_ | (refine W.region ?_; conv => whnf) | (refine W.ret ?_; conv => whnf) | (refine W.skip ?_; conv => whnf) | (refine W.exit ?_; conv => whnf) | (refine W.cond ?_; conv => whnf) | (refine W.drawT dr42 rfl mixed rfl ?_; conv => whnf) | ((with_reducible refine NumK.as _ (divOk (by omega) (by omega) (by omega)) ?_); conv => whnf) | ((with_reducible refine NumK.as _ (modOk (by omega) (by omega) (by omega) (by omega)) ?_); conv => whnf) | (refine NumK.as _ (wrapOk (by omega)) ?_; conv => whnf) | ((with_reducible refine NumK.as _ (wrapU (by omega)) ?_); conv => whnf) | (refine CndK.mk (by omega) ?_; conv => whnf) | (refine CndK.mk ?_ ?_; (focus (first | omega | (simp; done) | (simp; omega))); conv => whnf) | (refine UnK.mk (fun b hb => ?_); conv => whnf) | (refine CndK.mk rfl ?_; conv => whnf) | (refine CndK.mk ⟨by assumption, rfl⟩ ?_; conv => whnf) | (refine ExCall.by (CallA.p2 rfl (hc) rfl) ?_; conv => whnf) | (refine CallK.by (CallA.p2 rfl (hc) rfl) ?_; conv => whnf) | (refine ExCall.by (CallA.d2 rfl (hc)) ?_; conv => whnf) | (refine CallK.by (CallA.d2 rfl (hc)) ?_; conv => whnf) | (refine BrK.mk (fun h => ?_) (fun h => ?_) <;> (try simp only [decide_eq_true_eq, decide_eq_false_iff_not, Bool.and_eq_true, Bool.or_eq_true, Bool.not_eq_true', Bool.not_eq_false', Bool.or_eq_false_iff, Bool.and_eq_false_iff, Int.not_lt, Int.not_le, gt_iff_lt, ge_iff_le] at h) <;> first | (exfalso; omega) | (exfalso; exact h rfl) | (exfalso; exact Bool.noConfusion h) | contradiction | (conv => whnf))))
    (repeat' (first | exact trivial | exact ResLe.pure (AVle.refl _) rfl | exact ResLe.pure (AVle.tt_ rfl) rfl | exact ResLe.pure (AVle.ff_ rfl) rfl | exact ResLe.row0 rfl | exact ResLe.pure (AVle.int (by first | rfl | omega)) rfl | exact ResLe.pure (AVle.bool (by simp only [decide_eq_true_eq, decide_eq_false_iff_not, decide_eq_decide]; first | rfl | omega)) rfl | exact ResLe.pure (AVle.tt_ (by simp only [decide_eq_true_eq, decide_eq_false_iff_not, decide_eq_decide]; first | rfl | omega)) rfl | exact ResLe.pure (AVle.ff_ (by simp only [decide_eq_true_eq, decide_eq_false_iff_not, decide_eq_decide]; first | rfl | omega)) rfl | exact ResLe.pure (AVle.of_tt (by simp only [decide_eq_true_eq, decide_eq_false_iff_not, decide_eq_decide]; first | rfl | omega)) rfl | exact ResLe.pure (AVle.of_ff (by simp only [decide_eq_true_eq, decide_eq_false_iff_not, decide_eq_decide]; first | rfl | omega)) rfl | exact ResLe.pure (AVle.dat (Dle.nil _ _)) rfl | refine ResLe.agg ?_ | refine And.intro ?_ ?_ | ((conv => whnf); first | exact ResLe.pure (AVle.refl _) rfl | exact ResLe.pure (AVle.tt_ rfl) rfl | exact ResLe.pure (AVle.ff_ rfl) rfl | exact ResLe.row0 rfl | exact ResLe.pure (AVle.int (by first | rfl | omega)) rfl | exact ResLe.pure (AVle.bool (by simp only [decide_eq_true_eq, decide_eq_false_iff_not, decide_eq_decide]; first | rfl | omega)) rfl | exact ResLe.pure (AVle.tt_ (by simp only [decide_eq_true_eq, decide_eq_false_iff_not, decide_eq_decide]; first | rfl | omega)) rfl | exact ResLe.pure (AVle.ff_ (by simp only [decide_eq_true_eq, decide_eq_false_iff_not, decide_eq_decide]; first | rfl | omega)) rfl | exact ResLe.pure (AVle.of_tt (by simp only [decide_eq_true_eq, decide_eq_false_iff_not, decide_eq_decide]; first | rfl | omega)) rfl | exact ResLe.pure (AVle.of_ff (by simp only [decide_eq_true_eq, decide_eq_false_iff_not, decide_eq_decide]; first | rfl | omega)) rfl | exact ResLe.pure (AVle.dat (Dle.nil _ _)) rfl | refine ResLe.agg ?_)))
  have e1 : stepE g s = if guErr g.id g.rf g.lv g.us ≠ 0 then guErr g.id g.rf g.lv g.us else 2 := by unfold stepE; rw [if_neg h1, if_neg h2, if_neg h3]
  have e0 : stepE g s ≠ 0 := by rw [e1]; split <;> omega
  rw [guO_no e0]
  refine ACalls.of (n := Try.f42.ntmps) XX_ok Try.func42 rfl (by kernel_rfl) rfl rfl (Nat.le_of_ble_eq_true rfl) ?_
  (repeat' (first | refine W.seq ?_ | refine W.block ?_ | (refine W.region ?_; conv => whnf) | (refine W.ret ?_; conv => whnf) | (refine W.skip ?_; conv => whnf) | (refine W.exit ?_; conv => whnf) | (refine W.cond ?_; conv => whnf) | (refine W.drawT dr42 rfl mixed rfl ?_; conv => whnf) | ((with_reducible refine NumK.as _ (divOk (by omega) (by omega) (by omega)) ?_); conv => whnf) | ((with_reducible refine NumK.as _ (modOk (by omega) (by omega) (by omega) (by omega)) ?_); conv => whnf) | (refine NumK.as _ (wrapOk (by omega)) ?_; conv => whnf) | ((with_reducible refine NumK.as _ (wrapU (by omega)) ?_); conv => whnf) | (refine CndK.mk (by omega) ?_; conv => whnf) | (refine CndK.mk ?_ ?_; (focus (first | omega | (simp; done) | (simp; omega))); conv => whnf) | (refine UnK.mk (fun b hb => ?_); conv => whnf) | (refine CndK.mk rfl ?_; conv => whnf) | (refine CndK.mk ⟨by assumption, rfl⟩ ?_; conv => whnf) | (refine ExCall.by (CallA.p2 rfl (hv) rfl) ?_; conv => whnf) | (refine CallK.by (CallA.p2 rfl (hv) rfl) ?_; conv => whnf) | (refine ExCall.by (CallA.d2 rfl (hv)) ?_; conv => whnf) | (refine CallK.by (CallA.d2 rfl (hv)) ?_; conv => whnf) | (refine BrK.mk (fun h => ?_) (fun h => ?_) <;> (try simp only [decide_eq_true_eq, decide_eq_false_iff_not, Bool.and_eq_true, Bool.or_eq_true, Bool.not_eq_true', Bool.not_eq_false', Bool.or_eq_false_iff, Bool.and_eq_false_iff, Int.not_lt, Int.not_le, gt_iff_lt, ge_iff_le] at h) <;> first | (exfalso; omega) | (exfalso; exact h rfl) | (exfalso; exact Bool.noConfusion h) | contradiction | (conv => whnf))))
  all_goals (repeat' (first | exact trivial | exact ResLe.pure (AVle.refl _) rfl | exact ResLe.pure (AVle.tt_ rfl) rfl | exact ResLe.pure (AVle.ff_ rfl) rfl | exact ResLe.row0 rfl | exact ResLe.pure (AVle.int (by first | rfl | omega | (rw [e1, if_pos (by assumption)]) | (rw [e1, if_neg (by simpa using by assumption)]))) rfl | exact ResLe.pure (AVle.bool (by simp only [decide_eq_true_eq, decide_eq_false_iff_not, decide_eq_decide]; first | rfl | omega | (rw [e1, if_pos (by assumption)]) | (rw [e1, if_neg (by simpa using by assumption)]))) rfl | exact ResLe.pure (AVle.tt_ (by simp only [decide_eq_true_eq, decide_eq_false_iff_not, decide_eq_decide]; first | rfl | omega | (rw [e1, if_pos (by assumption)]) | (rw [e1, if_neg (by simpa using by assumption)]))) rfl | exact ResLe.pure (AVle.ff_ (by simp only [decide_eq_true_eq, decide_eq_false_iff_not, decide_eq_decide]; first | rfl | omega | (rw [e1, if_pos (by assumption)]) | (rw [e1, if_neg (by simpa using by assumption)]))) rfl | exact ResLe.pure (AVle.of_tt (by simp only [decide_eq_true_eq, decide_eq_false_iff_not, decide_eq_decide]; first | rfl | omega | (rw [e1, if_pos (by assumption)]) | (rw [e1, if_neg (by simpa using by assumption)]))) rfl | exact ResLe.pure (AVle.of_ff (by simp only [decide_eq_true_eq, decide_eq_false_iff_not, decide_eq_decide]; first | rfl | omega | (rw [e1, if_pos (by assumption)]) | (rw [e1, if_neg (by simpa using by assumption)]))) rfl | exact ResLe.pure (AVle.dat (Dle.nil _ _)) rfl | refine ResLe.agg ?_ | refine And.intro ?_ ?_ | ((conv => whnf); first | exact ResLe.pure (AVle.refl _) rfl | exact ResLe.pure (AVle.tt_ rfl) rfl | exact ResLe.pure (AVle.ff_ rfl) rfl | exact ResLe.row0 rfl | exact ResLe.pure (AVle.int (by first | rfl | omega | (rw [e1, if_pos (by assumption)]) | (rw [e1, if_neg (by simpa using by assumption)]))) rfl | exact ResLe.pure (AVle.bool (by simp only [decide_eq_true_eq, decide_eq_false_iff_not, decide_eq_decide]; first | rfl | omega | (rw [e1, if_pos (by assumption)]) | (rw [e1, if_neg (by simpa using by assumption)]))) rfl | exact ResLe.pure (AVle.tt_ (by simp only [decide_eq_true_eq, decide_eq_false_iff_not, decide_eq_decide]; first | rfl | omega | (rw [e1, if_pos (by assumption)]) | (rw [e1, if_neg (by simpa using by assumption)]))) rfl | exact ResLe.pure (AVle.ff_ (by simp only [decide_eq_true_eq, decide_eq_false_iff_not, decide_eq_decide]; first | rfl | omega | (rw [e1, if_pos (by assumption)]) | (rw [e1, if_neg (by simpa using by assumption)]))) rfl | exact ResLe.pure (AVle.of_tt (by simp only [decide_eq_true_eq, decide_eq_false_iff_not, decide_eq_decide]; first | rfl | omega | (rw [e1, if_pos (by assumption)]) | (rw [e1, if_neg (by simpa using by assumption)]))) rfl | exact ResLe.pure (AVle.of_ff (by simp only [decide_eq_true_eq, decide_eq_false_iff_not, decide_eq_decide]; first | rfl | omega | (rw [e1, if_pos (by assumption)]) | (rw [e1, if_neg (by simpa using by assumption)]))) rfl | exact ResLe.pure (AVle.dat (Dle.nil _ _)) rfl | refine ResLe.agg ?_)))
/-- The guarantee and the errors after so many steps. -/
def runS (g : Gu) (l : List Stp) : Nat → Gu × List Int
  | 0 => (g, List.replicate l.length 0)
  | k + 1 => (ifz (stepE (runS g l k).1 (l.getD k default)) (stepN (runS g l k).1 (l.getD k default)) (runS g l k).1, (runS g l k).2.set k (stepE (runS g l k).1 (l.getD k default)))
theorem runS_len (g : Gu) (l : List Stp) : ∀ k, (runS g l k).2.length = l.length
  | 0 => by simp [runS]
  | k + 1 => by simp [runS, runS_len g l k]
theorem setE_len {id rf lv : Int} {us : List Rw} {mv am : Int} (h : setE id rf lv us mv am = 0) (a : Int) : (setR us mv a).length ≤ 64 := by
  unfold setE at h
  split at h
  · contradiction
  rename_i h0
  obtain ⟨_, k2, _, k4, _⟩ := guErr_ok (Decidable.not_not.1 h0)
  rw [set_len k4]
  split at h
  · cases h
  split at h
  · cases h
  rename_i h8
  split
  · omega
  · rename_i hh
    have : ¬ 64 ≤ us.length := fun h => h8 ⟨hh, h⟩
    omega
theorem step_len {g : Gu} {s : Stp} (h : g.us.length ≤ 64) (he : stepE g s = 0) : (stepN g s).us.length ≤ 64 := by
  unfold stepE at he
  unfold stepN
  split
  · rename_i h1; rw [if_pos h1] at he; exact setE_len he _
  · rename_i h1
    rw [if_neg h1] at he
    split
    · simp only [relR, List.length_append]
      have := (List.length_filter_le (fun x : Rw => decide (x.m < s.mv)) g.us)
      rename_i h2
      rw [if_pos h2] at he
      unfold relE at he
      split at he
      · contradiction
      rename_i h0
      obtain ⟨_, k2, _, k4, _⟩ := guErr_ok (Decidable.not_not.1 h0)
      have := len_parts k4 s.mv
      omega
    · split <;> exact h
theorem runS_us (g : Gu) (l : List Stp) (h : g.us.length ≤ 64) : ∀ k, (runS g l k).1.us.length ≤ 64
  | 0 => h
  | k + 1 => by
    simp only [runS]
    unfold ifz
    split
    · rename_i he; exact step_len (runS_us g l h k) he
    · exact runS_us g l h k
theorem run_t (g : Gu) (l : List Stp) (hg : g.us.length ≤ 64) (hl : l.length ≤ 1000) : ACalls XX 27 [gA g, .dat (stD l)] (.tup [gA (runS g l l.length).1, .dat (iD (runS g l l.length).2)]) := by
  have hcl := clone_t g.us (by omega)
  refine ACalls.of (n := Try.f27.ntmps) XX_ok Try.func27 rfl (by kernel_rfl) rfl rfl (Nat.le_of_ble_eq_true rfl) ?_
  (repeat' (first | refine W.seq ?_ | refine W.block ?_ | (refine W.region ?_; conv => whnf) | (refine W.ret ?_; conv => whnf) | (refine W.skip ?_; conv => whnf) | (refine W.exit ?_; conv => whnf) | (refine W.cond ?_; conv => whnf) | (refine W.drawT dr27 rfl mixed rfl ?_; conv => whnf) | ((with_reducible refine NumK.as _ (divOk (by omega) (by omega) (by omega)) ?_); conv => whnf) | ((with_reducible refine NumK.as _ (modOk (by omega) (by omega) (by omega) (by omega)) ?_); conv => whnf) | (refine NumK.as _ (wrapOk (by omega)) ?_; conv => whnf) | ((with_reducible refine NumK.as _ (wrapU (by omega)) ?_); conv => whnf) | (refine CndK.mk (by omega) ?_; conv => whnf) | (refine CndK.mk ?_ ?_; (focus (first | omega | (simp; done) | (simp; omega))); conv => whnf) | (refine UnK.mk (fun b hb => ?_); conv => whnf) | (refine CndK.mk rfl ?_; conv => whnf) | (refine CndK.mk ⟨by assumption, rfl⟩ ?_; conv => whnf) | (refine ExCall.by (CallA.p2 rfl (hcl) rfl) ?_; conv => whnf) | (refine CallK.by (CallA.p2 rfl (hcl) rfl) ?_; conv => whnf) | (refine ExCall.by (CallA.d2 rfl (hcl)) ?_; conv => whnf) | (refine CallK.by (CallA.d2 rfl (hcl)) ?_; conv => whnf) | (refine BrK.mk (fun h => ?_) (fun h => ?_) <;> (try simp only [decide_eq_true_eq, decide_eq_false_iff_not, Bool.and_eq_true, Bool.or_eq_true, Bool.not_eq_true', Bool.not_eq_false', Bool.or_eq_false_iff, Bool.and_eq_false_iff, Int.not_lt, Int.not_le, gt_iff_lt, ge_iff_le] at h) <;> first | (exfalso; omega) | (exfalso; exact h rfl) | (exfalso; exact Bool.noConfusion h) | contradiction | (conv => whnf))))
  refine (W.loopK (ι := Nat) [2, 4, 6, 18, 19] [4] (fun k => [(20, iA k)]) (fun k => [(2, .blk 25 [iA (runS g l k).1.id, iA (runS g l k).1.rf, iA (runS g l k).1.lv, .dat (rwD (runS g l k).1.us)]), (17, .row 27 1 l.length (rowF iE (runS g l k).2))]) (fun k => k ≤ l.length) (fun k => l.length - k) 0 (Nat.zero_le _) ?_ ?_ ?_)
  · (repeat' (first | exact trivial | exact AVle.refl _ | exact AVle.int (by first | rfl | omega) | exact AVle.own (by first | rfl | omega) | exact AVle.dat (Dle.refl _) | exact AVle.dat (Dle.nil _ _) | exact AVle.of_eq (by first | rfl | omega) | exact ⟨_, rfl, EntLe.refl _, rfl⟩ | refine ⟨_, rfl, EntLe.blk ?_, rfl⟩ | refine ⟨_, rfl, EntLe.row (by first | rfl | omega) ?_, rfl⟩ | refine And.intro ?_ ?_))
  · (repeat' (first | exact trivial | exact AVle.refl _ | exact AVle.int (by first | rfl | omega) | exact AVle.own (by first | rfl | omega) | exact AVle.dat (Dle.refl _) | exact AVle.dat (Dle.nil _ _) | exact AVle.of_eq (by first | rfl | omega) | exact ⟨_, rfl, EntLe.refl _, rfl⟩ | refine ⟨_, rfl, EntLe.blk ?_, rfl⟩ | refine ⟨_, rfl, EntLe.row (by first | rfl | omega) ?_, rfl⟩ | refine And.intro ?_ ?_))
    intro i hi j hj
    refine Dle.of_eq ?_
    obtain rfl : j = 0 := by omega
    simp [rowF, iE, runS, Value.cells, List.getElem?_replicate]
    split <;> rfl
  conv => whnf
  intro k hk
  have hc := step_t (runS g l k).1 (l.getD k default) (by have := runS_us g l hg k; omega)
  have hrow := ((⟨(runS_len g l k).symm, fun _ _ _ _ => Dle.refl _⟩ : RowIs iE 1 l.length (rowF iE (runS g l k).2) (runS g l k).2).set (k := 0 + (k : Int).toNat) (x := stepE (runS g l k).1 (l.getD k default)) (ds := [.val (.int .i64 (stepE (runS g l k).1 (l.getD k default)))]) rfl fun j hj => by
    obtain rfl : j = 0 := by omega
    exact Dle.refl _).congr (vs := (runS g l (k + 1)).2) (by simp [runS])
  have hrow := hrow.le
  (repeat' (first | refine W.seq ?_ | refine W.block ?_ | (refine W.region ?_; conv => whnf) | (refine W.ret ?_; conv => whnf) | (refine W.skip ?_; conv => whnf) | (refine W.exit ?_; conv => whnf) | (refine W.cond ?_; conv => whnf) | (refine W.drawT dr27 rfl mixed rfl ?_; conv => whnf) | ((with_reducible refine NumK.as _ (divOk (by omega) (by omega) (by omega)) ?_); conv => whnf) | ((with_reducible refine NumK.as _ (modOk (by omega) (by omega) (by omega) (by omega)) ?_); conv => whnf) | (refine NumK.as _ (wrapOk (by omega)) ?_; conv => whnf) | ((with_reducible refine NumK.as _ (wrapU (by omega)) ?_); conv => whnf) | (refine CndK.mk (by omega) ?_; conv => whnf) | (refine CndK.mk ?_ ?_; (focus (first | omega | (simp; done) | (simp; omega))); conv => whnf) | (refine UnK.mk (fun b hb => ?_); conv => whnf) | (refine CndK.mk rfl ?_; conv => whnf) | (refine CndK.mk ⟨by assumption, rfl⟩ ?_; conv => whnf) | (refine ExCall.by (CallA.p2 rfl (hc) rfl) ?_; conv => whnf) | (refine CallK.by (CallA.p2 rfl (hc) rfl) ?_; conv => whnf) | (refine ExCall.by (CallA.d2 rfl (hc)) ?_; conv => whnf) | (refine CallK.by (CallA.d2 rfl (hc)) ?_; conv => whnf) | (refine BrK.mk (fun h => ?_) (fun h => ?_) <;> (try simp only [decide_eq_true_eq, decide_eq_false_iff_not, Bool.and_eq_true, Bool.or_eq_true, Bool.not_eq_true', Bool.not_eq_false', Bool.or_eq_false_iff, Bool.and_eq_false_iff, Int.not_lt, Int.not_le, gt_iff_lt, ge_iff_le] at h) <;> first | (exfalso; omega) | (exfalso; exact h rfl) | (exfalso; exact Bool.noConfusion h) | contradiction | (conv => whnf))))
  · have h1 : (runS g l (k + 1)).1 = stepN (runS g l k).1 (l.getD k default) := ifz_ok h
    refine ⟨k + 1, by omega, by omega, ?_, ?_, ?_, ?_⟩
    all_goals (repeat' (first | exact trivial | exact AVle.refl _ | exact AVle.int (by first | rfl | omega | (rw [h1, ifz_ok h])) | exact AVle.own (by first | rfl | omega | (rw [h1, ifz_ok h])) | exact AVle.dat (Dle.refl _) | exact AVle.dat (Dle.nil _ _) | exact AVle.of_eq (by first | rfl | omega | (rw [h1, ifz_ok h])) | exact ⟨_, rfl, EntLe.refl _, rfl⟩ | refine ⟨_, rfl, EntLe.blk ?_, rfl⟩ | refine ⟨_, rfl, EntLe.row (by first | rfl | omega | (rw [h1, ifz_ok h])) ?_, rfl⟩ | refine And.intro ?_ ?_))
    exact hrow
  · have h1 : (runS g l (k + 1)).1 = (runS g l k).1 := ifz_no h
    refine ⟨k + 1, by omega, by omega, ?_, ?_, ?_, ?_⟩
    all_goals (repeat' (first | exact trivial | exact AVle.refl _ | exact AVle.int (by first | rfl | omega | (rw [h1])) | exact AVle.own (by first | rfl | omega | (rw [h1])) | exact AVle.dat (Dle.refl _) | exact AVle.dat (Dle.nil _ _) | exact AVle.of_eq (by first | rfl | omega | (rw [h1])) | exact ⟨_, rfl, EntLe.refl _, rfl⟩ | refine ⟨_, rfl, EntLe.blk ?_, rfl⟩ | refine ⟨_, rfl, EntLe.row (by first | rfl | omega | (rw [h1])) ?_, rfl⟩ | refine And.intro ?_ ?_))
    exact hrow
  · obtain rfl : k = l.length := by omega
    refine And.intro ?_ (And.intro ?_ trivial)
    · (repeat' (first | exact trivial | exact ResLe.pure (AVle.refl _) rfl | exact ResLe.pure (AVle.tt_ rfl) rfl | exact ResLe.pure (AVle.ff_ rfl) rfl | exact ResLe.row0 rfl | exact ResLe.pure (AVle.int (by first | rfl | omega)) rfl | exact ResLe.pure (AVle.bool (by simp only [decide_eq_true_eq, decide_eq_false_iff_not, decide_eq_decide]; first | rfl | omega)) rfl | exact ResLe.pure (AVle.tt_ (by simp only [decide_eq_true_eq, decide_eq_false_iff_not, decide_eq_decide]; first | rfl | omega)) rfl | exact ResLe.pure (AVle.ff_ (by simp only [decide_eq_true_eq, decide_eq_false_iff_not, decide_eq_decide]; first | rfl | omega)) rfl | exact ResLe.pure (AVle.of_tt (by simp only [decide_eq_true_eq, decide_eq_false_iff_not, decide_eq_decide]; first | rfl | omega)) rfl | exact ResLe.pure (AVle.of_ff (by simp only [decide_eq_true_eq, decide_eq_false_iff_not, decide_eq_decide]; first | rfl | omega)) rfl | exact ResLe.pure (AVle.dat (Dle.nil _ _)) rfl | refine ResLe.agg ?_ | refine And.intro ?_ ?_ | ((conv => whnf); first | exact ResLe.pure (AVle.refl _) rfl | exact ResLe.pure (AVle.tt_ rfl) rfl | exact ResLe.pure (AVle.ff_ rfl) rfl | exact ResLe.row0 rfl | exact ResLe.pure (AVle.int (by first | rfl | omega)) rfl | exact ResLe.pure (AVle.bool (by simp only [decide_eq_true_eq, decide_eq_false_iff_not, decide_eq_decide]; first | rfl | omega)) rfl | exact ResLe.pure (AVle.tt_ (by simp only [decide_eq_true_eq, decide_eq_false_iff_not, decide_eq_decide]; first | rfl | omega)) rfl | exact ResLe.pure (AVle.ff_ (by simp only [decide_eq_true_eq, decide_eq_false_iff_not, decide_eq_decide]; first | rfl | omega)) rfl | exact ResLe.pure (AVle.of_tt (by simp only [decide_eq_true_eq, decide_eq_false_iff_not, decide_eq_decide]; first | rfl | omega)) rfl | exact ResLe.pure (AVle.of_ff (by simp only [decide_eq_true_eq, decide_eq_false_iff_not, decide_eq_decide]; first | rfl | omega)) rfl | exact ResLe.pure (AVle.dat (Dle.nil _ _)) rfl | refine ResLe.agg ?_)))
    · conv => whnf
      exact RowIs.res rfl ⟨(runS_len g l _).symm, fun _ _ _ _ => Dle.refl _⟩ rfl
end Go.Proofs.Yteilknlokjfelaa
