/- Slices of lots by descriptions: whether one is good; comparisons with the draws counted. -/
import Derived.Test.YtekdobbhkklapaaGreatEM
import Derived.Test.YtekdobbhkklapaaGreatLays
namespace Go.Proofs.YtekdobbhkklapaaGreat
open Go Go.RowKit
set_option linter.unusedVariables false
set_option linter.unusedSimpArgs false
set_option maxRecDepth 100000
set_option maxHeartbeats 4000000
attribute [local irreducible] ResLe AVle ArgLe ArgP EntLe Dle ResH ArgQ

def cmpI (a b : Int) : Int := if a < b then -1 else if b < a then 1 else 0
theorem isNaN_d (a : Int) : ACalls XD 78 [iA a] (bA false) := by
  refine ACalls.of (n := Tryz.f78.ntmps) XD_ok Tryz.func78 rfl (by kernel_rfl) rfl rfl (Nat.le_of_ble_eq_true rfl) ?_
  (repeat' (first | refine W.seq ?_ | refine W.block ?_ | ((first | refine W.region ?_ | refine W.ret ?_ | refine W.skip ?_ | refine W.exit ?_ | refine W.cond ?_ | (with_reducible first | refine NumK.as _ (divOk (by omega) (by omega) (by omega)) ?_ | refine NumK.as _ (modOk (by omega) (by omega) (by omega) (by omega)) ?_) | refine NumK.as _ (wrapOk (by omega)) ?_ | (with_reducible refine NumK.as _ (wrapU (by omega)) ?_) | refine NumK.as _ (wrapOk (by (simp only [Int.toNat_natCast] at *); omega)) ?_ | refine CndK.mk (by omega) ?_ | (refine CndK.mk ?_ ?_; (focus (first | omega | (simp; done) | (simp; omega)))) | refine UnK.mk (fun b hb => ?_) | refine CndK.mk rfl ?_ | refine CndK.mk ⟨by assumption, rfl⟩ ?_); conv => whnf) | (refine BrK.mk (fun h => ?_) (fun h => ?_) <;> (try simp only [decide_eq_true_eq, decide_eq_false_iff_not, Bool.and_eq_true, Bool.or_eq_true, Bool.not_eq_true', Bool.not_eq_false', Bool.or_eq_false_iff, Bool.and_eq_false_iff, Int.not_lt, Int.not_le, gt_iff_lt, ge_iff_le] at h) <;> first | (exfalso; first | omega | exact h rfl | exact Bool.noConfusion h) | contradiction | (conv => whnf))))
  all_goals (repeat' (first | exact trivial | exact ResLe.pure (AVle.refl _) rfl | exact ResLe.row0 rfl | exact ResLe.pure (AVle.int (by simp)) rfl | exact ResLe.bo rfl rfl (by first | exact Iff.rfl | (simp only [decide_eq_true_eq, true_iff, iff_true, false_iff, iff_false, Bool.false_eq_true, Bool.not_eq_true', decide_eq_false_iff_not]; simp)) | exact ResLe.pure (AVle.dat (Dle.nil _ _)) rfl | refine ResLe.agg ?_ | refine And.intro ?_ ?_ | ((conv => whnf); first | refine And.intro ?_ ?_ | refine ResLe.agg ?_ | exact ResLe.pure (AVle.refl _) rfl | exact ResLe.row0 rfl | exact ResLe.pure (AVle.int (by simp)) rfl | exact ResLe.bo rfl rfl Iff.rfl)))
theorem cmp_d (a b : Int) : ACalls XD 60 [iA a, iA b] (iA (cmpI a b)) := by
  have h := isNaN_d
  refine ACalls.of (n := Tryz.f60.ntmps) XD_ok Tryz.func60 rfl (by kernel_rfl) rfl rfl (Nat.le_of_ble_eq_true rfl) ?_
  (repeat' (first | refine W.seq ?_ | refine W.block ?_ | ((first | refine W.region ?_ | refine W.ret ?_ | refine W.skip ?_ | refine W.exit ?_ | refine W.cond ?_ | (with_reducible first | refine NumK.as _ (divOk (by omega) (by omega) (by omega)) ?_ | refine NumK.as _ (modOk (by omega) (by omega) (by omega) (by omega)) ?_) | refine NumK.as _ (wrapOk (by omega)) ?_ | (with_reducible refine NumK.as _ (wrapU (by omega)) ?_) | refine NumK.as _ (wrapOk (by (simp only [Int.toNat_natCast] at *); omega)) ?_ | refine CndK.mk (by omega) ?_ | (refine CndK.mk ?_ ?_; (focus (first | omega | (simp; done) | (simp; omega)))) | refine UnK.mk (fun b hb => ?_) | refine CndK.mk rfl ?_ | refine CndK.mk ⟨by assumption, rfl⟩ ?_ | refine ExCall.by (CallA.d2 rfl (h _)) ?_); conv => whnf) | (refine BrK.mk (fun h => ?_) (fun h => ?_) <;> (try simp only [decide_eq_true_eq, decide_eq_false_iff_not, Bool.and_eq_true, Bool.or_eq_true, Bool.not_eq_true', Bool.not_eq_false', Bool.or_eq_false_iff, Bool.and_eq_false_iff, Int.not_lt, Int.not_le, gt_iff_lt, ge_iff_le] at h) <;> first | (exfalso; first | omega | exact h rfl | exact Bool.noConfusion h) | contradiction | (conv => whnf))))
  all_goals (repeat' (first | exact trivial | exact ResLe.pure (AVle.refl _) rfl | exact ResLe.row0 rfl | exact ResLe.pure (AVle.int (by unfold cmpI; first | rw [if_pos (by omega)] | rw [if_neg (by omega), if_pos (by omega)] | rw [if_neg (by omega), if_neg (by omega)])) rfl | exact ResLe.bo rfl rfl (by first | exact Iff.rfl | (simp only [decide_eq_true_eq, true_iff, iff_true, false_iff, iff_false, Bool.false_eq_true, Bool.not_eq_true', decide_eq_false_iff_not]; unfold cmpI; first | rw [if_pos (by omega)] | rw [if_neg (by omega), if_pos (by omega)] | rw [if_neg (by omega), if_neg (by omega)])) | exact ResLe.pure (AVle.dat (Dle.nil _ _)) rfl | refine ResLe.agg ?_ | refine And.intro ?_ ?_ | ((conv => whnf); first | refine And.intro ?_ ?_ | refine ResLe.agg ?_ | exact ResLe.pure (AVle.refl _) rfl | exact ResLe.row0 rfl | exact ResLe.pure (AVle.int (by unfold cmpI; first | rw [if_pos (by omega)] | rw [if_neg (by omega), if_pos (by omega)] | rw [if_neg (by omega), if_neg (by omega)])) rfl | exact ResLe.bo rfl rfl Iff.rfl)))
theorem cmp_t (a b : Int) : ACalls XX 60 [iA a, iA b] (iA (cmpI a b)) := (cmp_d a b).undr
/-- The first that is not nought. -/
def orL (L : List Int) : Int := (L.find? fun x => decide (x ≠ 0)).getD 0
theorem orL_at {L : List Int} {k : Nat} (hk : k < L.length) (h : ∀ i, i < k → L.getD i 0 = 0) (hx : L.getD k 0 ≠ 0) : orL L = L.getD k 0 := by
  induction L generalizing k with
  | nil => simp at hk
  | cons a l ih =>
    unfold orL
    by_cases ha : a = 0
    · subst ha
      cases k with
      | zero => simp at hx
      | succ k =>
        have := ih (k := k) (by simpa using hk) (fun i hi => by simpa using h (i + 1) (by omega)) (by simpa using hx)
        unfold orL at this
        simpa using this
    · cases k with
      | zero => simp [ha]
      | succ k => exact absurd (by simpa using h 0 (by omega)) ha
theorem orL_none {L : List Int} (h : ∀ i, i < L.length → L.getD i 0 = 0) : orL L = 0 := by
  induction L with
  | nil => rfl
  | cons a l ih =>
    have h0 : a = 0 := by simpa using h 0 (by simp)
    subst h0
    have := ih fun i hi => by simpa using h (i + 1) (by simp; omega)
    unfold orL at this ⊢
    simpa using this
theorem or_d (L : List Int) (hL : L.length ≤ 1000000) : ACalls XD 59 [.dat (ilst L)] (iA (orL L)) := by
  refine ACalls.of (n := Tryz.f59.ntmps) XD_ok Tryz.func59 rfl (by kernel_rfl) rfl rfl (Nat.le_of_ble_eq_true rfl) ?_
  (repeat' (first | refine W.seq ?_ | refine W.block ?_ | ((first | refine W.region ?_ | refine W.ret ?_ | refine W.skip ?_ | refine W.exit ?_ | refine W.cond ?_ | (with_reducible first | refine NumK.as _ (divOk (by omega) (by omega) (by omega)) ?_ | refine NumK.as _ (modOk (by omega) (by omega) (by omega) (by omega)) ?_) | refine NumK.as _ (wrapOk (by omega)) ?_ | (with_reducible refine NumK.as _ (wrapU (by omega)) ?_) | refine NumK.as _ (wrapOk (by (simp only [Int.toNat_natCast] at *); omega)) ?_ | refine CndK.mk (by omega) ?_ | (refine CndK.mk ?_ ?_; (focus (first | omega | (simp; done) | (simp; omega)))) | refine UnK.mk (fun b hb => ?_) | refine CndK.mk rfl ?_ | refine CndK.mk ⟨by assumption, rfl⟩ ?_); conv => whnf) | (refine BrK.mk (fun h => ?_) (fun h => ?_) <;> (try simp only [decide_eq_true_eq, decide_eq_false_iff_not, Bool.and_eq_true, Bool.or_eq_true, Bool.not_eq_true', Bool.not_eq_false', Bool.or_eq_false_iff, Bool.and_eq_false_iff, Int.not_lt, Int.not_le, gt_iff_lt, ge_iff_le] at h) <;> first | (exfalso; first | omega | exact h rfl | exact Bool.noConfusion h) | contradiction | (conv => whnf))))
  refine (W.loopK (ι := Nat) [3, 6, 7] [] (fun k => [(8, iA k)]) (fun _ => []) (fun k => k ≤ L.length ∧ ∀ i, i < k → L.getD i 0 = 0) (fun k => L.length - k) 0 ⟨Nat.zero_le _, fun i hi => absurd hi (by omega)⟩ ?_ ?_ ?_)
  · (repeat' (first | exact trivial | exact AVle.refl _ | exact AVle.int (by first | rfl | omega) | exact AVle.own (by first | rfl | omega) | exact AVle.dat (Dle.refl _) | exact AVle.dat (Dle.nil _ _) | exact AVle.of_eq (by first | rfl | omega) | exact ⟨_, rfl, EntLe.refl _, rfl⟩ | refine ⟨_, rfl, EntLe.blk ?_, rfl⟩ | refine ⟨_, rfl, EntLe.row (by first | rfl | omega) ?_, rfl⟩ | refine And.intro ?_ ?_))
  · (repeat' (first | exact trivial | exact AVle.refl _ | exact AVle.int (by first | rfl | omega) | exact AVle.own (by first | rfl | omega) | exact AVle.dat (Dle.refl _) | exact AVle.dat (Dle.nil _ _) | exact AVle.of_eq (by first | rfl | omega) | exact ⟨_, rfl, EntLe.refl _, rfl⟩ | refine ⟨_, rfl, EntLe.blk ?_, rfl⟩ | refine ⟨_, rfl, EntLe.row (by first | rfl | omega) ?_, rfl⟩ | refine And.intro ?_ ?_))
  conv => whnf
  intro k ⟨hk, hz⟩
  (repeat' (first | refine W.seq ?_ | refine W.block ?_ | ((first | refine W.region ?_ | refine W.ret ?_ | refine W.skip ?_ | refine W.exit ?_ | refine W.cond ?_ | (with_reducible first | refine NumK.as _ (divOk (by omega) (by omega) (by omega)) ?_ | refine NumK.as _ (modOk (by omega) (by omega) (by omega) (by omega)) ?_) | refine NumK.as _ (wrapOk (by omega)) ?_ | (with_reducible refine NumK.as _ (wrapU (by omega)) ?_) | refine NumK.as _ (wrapOk (by (simp only [Int.toNat_natCast] at *); omega)) ?_ | refine CndK.mk (by omega) ?_ | (refine CndK.mk ?_ ?_; (focus (first | omega | (simp; done) | (simp; omega)))) | refine UnK.mk (fun b hb => ?_) | refine CndK.mk rfl ?_ | refine CndK.mk ⟨by assumption, rfl⟩ ?_); conv => whnf) | (refine BrK.mk (fun h => ?_) (fun h => ?_) <;> (try simp only [decide_eq_true_eq, decide_eq_false_iff_not, Bool.and_eq_true, Bool.or_eq_true, Bool.not_eq_true', Bool.not_eq_false', Bool.or_eq_false_iff, Bool.and_eq_false_iff, Int.not_lt, Int.not_le, gt_iff_lt, ge_iff_le] at h) <;> first | (exfalso; first | omega | exact h rfl | exact Bool.noConfusion h) | contradiction | (conv => whnf))))
  all_goals (try dsimp only [Int.toNat_natCast] at *)
  · (repeat' (first | exact trivial | exact ResLe.pure (AVle.refl _) rfl | exact ResLe.row0 rfl | exact ResLe.pure (AVle.int (by exact (orL_at (k := k) (by omega) hz (by omega)).symm)) rfl | exact ResLe.bo rfl rfl (by first | exact Iff.rfl | (simp only [decide_eq_true_eq, true_iff, iff_true, false_iff, iff_false, Bool.false_eq_true, Bool.not_eq_true', decide_eq_false_iff_not]; exact (orL_at (k := k) (by omega) hz (by omega)).symm)) | exact ResLe.pure (AVle.dat (Dle.nil _ _)) rfl | refine ResLe.agg ?_ | refine And.intro ?_ ?_ | ((conv => whnf); first | refine And.intro ?_ ?_ | refine ResLe.agg ?_ | exact ResLe.pure (AVle.refl _) rfl | exact ResLe.row0 rfl | exact ResLe.pure (AVle.int (by exact (orL_at (k := k) (by omega) hz (by omega)).symm)) rfl | exact ResLe.bo rfl rfl Iff.rfl)))
  · exact ⟨k + 1, ⟨by omega, fun i hi => by
      by_cases hik : i = k
      · subst hik; omega
      · exact hz i (by omega)⟩, by omega, ⟨AVle.refl _, trivial⟩, trivial, ⟨AVle.refl _, AVle.refl _, AVle.refl _, trivial⟩, trivial⟩
  · (repeat' (first | exact trivial | exact ResLe.pure (AVle.refl _) rfl | exact ResLe.row0 rfl | exact ResLe.pure (AVle.int (by exact (orL_none (fun i hi => hz i (by omega))).symm)) rfl | exact ResLe.bo rfl rfl (by first | exact Iff.rfl | (simp only [decide_eq_true_eq, true_iff, iff_true, false_iff, iff_false, Bool.false_eq_true, Bool.not_eq_true', decide_eq_false_iff_not]; exact (orL_none (fun i hi => hz i (by omega))).symm)) | exact ResLe.pure (AVle.dat (Dle.nil _ _)) rfl | refine ResLe.agg ?_ | refine And.intro ?_ ?_ | ((conv => whnf); first | refine And.intro ?_ ?_ | refine ResLe.agg ?_ | exact ResLe.pure (AVle.refl _) rfl | exact ResLe.row0 rfl | exact ResLe.pure (AVle.int (by exact (orL_none (fun i hi => hz i (by omega))).symm)) rfl | exact ResLe.bo rfl rfl Iff.rfl)))

/-- A slice of a lot. -/
structure Sl where
  m : Int
  s : Int
  e : Int
  deriving Inhabited
abbrev slA (x : Sl) : AV := .agg [iA x.m, iA x.s, iA x.e]
def slE (x : Sl) (j : Nat) : D := match j with
  | 0 => .val (.int .i64 x.m)
  | 1 => .val (.int .i64 x.s)
  | _ => .val (.int .i64 x.e)
abbrev slD (us : List Sl) : D := .lst 3 us.length (rowF slE us)
def slOk (x : Sl) : Prop := 1 ≤ x.m ∧ x.m ≤ 1000000 ∧ 0 ≤ x.s ∧ x.s < x.e ∧ x.e ≤ 1000000000
instance (x : Sl) : Decidable (slOk x) := by unfold slOk; exact inferInstance
theorem validSlice_t (x : Sl) : ACalls XX 36 [slA x] (bA (decide (slOk x))) := by
  refine ACalls.of (n := Tryz.f36.ntmps) XX_ok Tryz.func36 rfl (by kernel_rfl) rfl rfl (Nat.le_of_ble_eq_true rfl) ?_
  (repeat' (first | refine W.seq ?_ | refine W.block ?_ | ((first | refine W.region ?_ | refine W.ret ?_ | refine W.skip ?_ | refine W.exit ?_ | refine W.cond ?_ | (with_reducible first | refine NumK.as _ (divOk (by omega) (by omega) (by omega)) ?_ | refine NumK.as _ (modOk (by omega) (by omega) (by omega) (by omega)) ?_) | refine NumK.as _ (wrapOk (by omega)) ?_ | (with_reducible refine NumK.as _ (wrapU (by omega)) ?_) | refine NumK.as _ (wrapOk (by (simp only [Int.toNat_natCast] at *); omega)) ?_ | refine CndK.mk (by omega) ?_ | (refine CndK.mk ?_ ?_; (focus (first | omega | (simp; done) | (simp; omega)))) | refine UnK.mk (fun b hb => ?_) | refine CndK.mk rfl ?_ | refine CndK.mk ⟨by assumption, rfl⟩ ?_); conv => whnf) | (refine BrK.mk (fun h => ?_) (fun h => ?_) <;> (try simp only [decide_eq_true_eq, decide_eq_false_iff_not, Bool.and_eq_true, Bool.or_eq_true, Bool.not_eq_true', Bool.not_eq_false', Bool.or_eq_false_iff, Bool.and_eq_false_iff, Int.not_lt, Int.not_le, gt_iff_lt, ge_iff_le] at h) <;> first | (exfalso; first | omega | exact h rfl | exact Bool.noConfusion h) | contradiction | (conv => whnf))))
  all_goals (repeat' (first | exact trivial | exact ResLe.pure (AVle.refl _) rfl | exact ResLe.row0 rfl | exact ResLe.pure (AVle.int (by unfold slOk; omega)) rfl | exact ResLe.bo rfl rfl (by first | exact Iff.rfl | (simp only [decide_eq_true_eq, true_iff, iff_true, false_iff, iff_false, Bool.false_eq_true, Bool.not_eq_true', decide_eq_false_iff_not]; unfold slOk; omega)) | exact ResLe.pure (AVle.dat (Dle.nil _ _)) rfl | refine ResLe.agg ?_ | refine And.intro ?_ ?_ | ((conv => whnf); first | refine And.intro ?_ ?_ | refine ResLe.agg ?_ | exact ResLe.pure (AVle.refl _) rfl | exact ResLe.row0 rfl | exact ResLe.pure (AVle.int (by unfold slOk; omega)) rfl | exact ResLe.bo rfl rfl Iff.rfl)))
/-- The order of a lot's slices. -/
def slCf (x y : Sl) : Int := orL [cmpI x.m y.m, cmpI x.s y.s]
theorem overlap1_d (x y : Sl) : ACalls XD 58 [slA x, slA y] (iA (slCf x y)) := by
  have k := or_d [cmpI x.m y.m, cmpI x.s y.s] (by simp)
  refine ACalls.of (n := Tryz.f58.ntmps) XD_ok Tryz.func58 rfl (by kernel_rfl) rfl rfl (Nat.le_of_ble_eq_true rfl) ?_
  (repeat' (first | refine W.seq ?_ | refine W.block ?_ | ((first | refine W.region ?_ | refine W.ret ?_ | refine W.skip ?_ | refine W.exit ?_ | refine W.cond ?_ | refine W.drawT dr58 rfl mixed rfl ?_ | (with_reducible first | refine NumK.as _ (divOk (by omega) (by omega) (by omega)) ?_ | refine NumK.as _ (modOk (by omega) (by omega) (by omega) (by omega)) ?_) | refine NumK.as _ (wrapOk (by omega)) ?_ | (with_reducible refine NumK.as _ (wrapU (by omega)) ?_) | refine NumK.as _ (wrapOk (by (simp only [Int.toNat_natCast] at *); omega)) ?_ | refine CndK.mk (by omega) ?_ | (refine CndK.mk ?_ ?_; (focus (first | omega | (simp; done) | (simp; omega)))) | refine UnK.mk (fun b hb => ?_) | refine CndK.mk rfl ?_ | refine CndK.mk ⟨by assumption, rfl⟩ ?_ | refine ExCall.by (CallA.d2 rfl (cmp_d _ _)) ?_ | refine CallK.by (CallA.d2 rfl (cmp_d _ _)) ?_); conv => whnf) | (refine BrK.mk (fun h => ?_) (fun h => ?_) <;> (try simp only [decide_eq_true_eq, decide_eq_false_iff_not, Bool.and_eq_true, Bool.or_eq_true, Bool.not_eq_true', Bool.not_eq_false', Bool.or_eq_false_iff, Bool.and_eq_false_iff, Int.not_lt, Int.not_le, gt_iff_lt, ge_iff_le] at h) <;> first | (exfalso; first | omega | exact h rfl | exact Bool.noConfusion h) | contradiction | (conv => whnf))))
  refine CallK.by (CallA.plain k ⟨ArgLe.own rfl (Nat.le_refl _) (fun i hi j hj => ?_), trivial⟩ rfl) ?_
  · obtain rfl : j = 0 := by omega
    rcases i with _ | _ | i
    · exact Dle.of_eq rfl
    · exact Dle.of_eq rfl
    · exact absurd hi (by have : [cmpI x.m y.m, cmpI x.s y.s].length = 2 := rfl; omega)
  conv => whnf
  (repeat' (first | refine W.seq ?_ | refine W.block ?_ | ((first | refine W.region ?_ | refine W.ret ?_ | refine W.skip ?_ | refine W.exit ?_ | refine W.cond ?_ | refine W.drawT dr58 rfl mixed rfl ?_ | (with_reducible first | refine NumK.as _ (divOk (by omega) (by omega) (by omega)) ?_ | refine NumK.as _ (modOk (by omega) (by omega) (by omega) (by omega)) ?_) | refine NumK.as _ (wrapOk (by omega)) ?_ | (with_reducible refine NumK.as _ (wrapU (by omega)) ?_) | refine NumK.as _ (wrapOk (by (simp only [Int.toNat_natCast] at *); omega)) ?_ | refine CndK.mk (by omega) ?_ | (refine CndK.mk ?_ ?_; (focus (first | omega | (simp; done) | (simp; omega)))) | refine UnK.mk (fun b hb => ?_) | refine CndK.mk rfl ?_ | refine CndK.mk ⟨by assumption, rfl⟩ ?_); conv => whnf) | (refine BrK.mk (fun h => ?_) (fun h => ?_) <;> (try simp only [decide_eq_true_eq, decide_eq_false_iff_not, Bool.and_eq_true, Bool.or_eq_true, Bool.not_eq_true', Bool.not_eq_false', Bool.or_eq_false_iff, Bool.and_eq_false_iff, Int.not_lt, Int.not_le, gt_iff_lt, ge_iff_le] at h) <;> first | (exfalso; first | omega | exact h rfl | exact Bool.noConfusion h) | contradiction | (conv => whnf))))
  all_goals (repeat' (first | exact trivial | exact ResLe.pure (AVle.refl _) rfl | exact ResLe.row0 rfl | exact ResLe.pure (AVle.int (by first | rfl | omega)) rfl | exact ResLe.bo rfl rfl (by first | exact Iff.rfl | (simp only [decide_eq_true_eq, true_iff, iff_true, false_iff, iff_false, Bool.false_eq_true, Bool.not_eq_true', decide_eq_false_iff_not]; first | rfl | omega)) | exact ResLe.pure (AVle.dat (Dle.nil _ _)) rfl | refine ResLe.agg ?_ | refine And.intro ?_ ?_ | ((conv => whnf); first | refine And.intro ?_ ?_ | refine ResLe.agg ?_ | exact ResLe.pure (AVle.refl _) rfl | exact ResLe.row0 rfl | exact ResLe.pure (AVle.int (by first | rfl | omega)) rfl | exact ResLe.bo rfl rfl Iff.rfl)))

end Go.Proofs.YtekdobbhkklapaaGreat
