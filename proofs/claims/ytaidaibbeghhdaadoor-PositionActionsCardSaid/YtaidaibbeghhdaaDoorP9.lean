/- The actions: the table of moves, Next, and the law of actions. -/
import Derived.Test.YtaidaibbeghhdaaDoorP7
namespace Go.Proofs.YtaidaibbeghhdaaDoor
open Go Go.RowKit
set_option linter.unusedVariables false
set_option linter.unusedSimpArgs false
set_option maxRecDepth 100000
set_option maxHeartbeats 4000000

theorem ACalls.mono {X X' : Cx} {f : FuncId} {args : List AV} {r : AV} (hP : X'.P = X.P) (hg : ∀ M, X'.glob M → X.glob M) (h : ACalls X f args r) : ACalls X' f args r := by
  obtain ⟨h1, h2⟩ := h
  refine ⟨hP ▸ h1, fun M w vs hgl a b c => ?_⟩
  rw [hP]
  exact h2 M w vs (hg M hgl) a b c
def mvL : List Int := [1, 0, 1, 2, 1, 2, 2, 3, 2, 2, 4, 2, 2, 5, 2, 3, 2, 1, 4, 2, 13, 5, 1, 3, 5, 4, 3, 5, 5, 3, 6, 1, 4, 6, 3, 4, 7, 1, 5, 7, 3, 5, 8, 1, 6, 8, 3, 6, 8, 4, 6, 8, 5, 6, 9, 6, 7, 10, 7, 6, 11, 1, 8, 11, 3, 8, 11, 4, 8, 11, 5, 8, 11, 6, 9, 12, 1, 10, 12, 3, 10, 12, 4, 10, 12, 5, 10, 13, 1, 11, 13, 3, 11, 14, 1, 12, 14, 2, 12, 14, 3, 12, 14, 4, 12, 14, 5, 12]
noncomputable def XY : Cx := ⟨Tryd.prog, tT, [(1, (12, fun j => .val (.int .i64 (mlTab j)))), (0, (108, fun j => .val (.int .i64 (mvL.getD j 0))))]⟩
theorem XY_ok : XY.ok := tT_ok
theorem XY_glob (M : Mem) (h : XY.glob M) : XX.glob M := by
  intro g n c hl
  refine h g n c ?_
  simp only [XX, lk_cons] at hl
  split at hl
  · rename_i hg
    subst hg
    cases hl
    rfl
  · cases hl
theorem ACalls.xy {f : FuncId} {args : List AV} {r : AV} (h : ACalls XX f args r) : ACalls XY f args r := ACalls.mono (X := XX) (X' := XY) rfl XY_glob h

attribute [local irreducible] ResLe AVle ArgLe ArgP EntLe Dle
theorem valid_t (p : Int) : ACalls XX 24 [iA p] (bA (decide (0 ≤ p ∧ p ≤ 13))) := by
  refine ACalls.of (n := Tryd.f24.ntmps) XX_ok Tryd.func24 rfl (by kernel_rfl) rfl rfl (Nat.le_of_ble_eq_true rfl) ?_
  (repeat' (first | refine W.seq ?_ | refine W.block ?_ | (refine W.region ?_; conv => whnf) | (refine W.ret ?_; conv => whnf) | (refine W.skip ?_; conv => whnf) | (refine W.exit ?_; conv => whnf) | (refine W.cond ?_; conv => whnf) | (refine W.drawT dr24 rfl mixed rfl ?_; conv => whnf) | ((with_reducible refine NumK.as _ (divOk (by omega) (by omega) (by omega)) ?_); conv => whnf) | ((with_reducible refine NumK.as _ (modOk (by omega) (by omega) (by omega) (by omega)) ?_); conv => whnf) | (refine NumK.as _ (wrapOk (by omega)) ?_; conv => whnf) | ((with_reducible refine NumK.as _ (wrapU (by omega)) ?_); conv => whnf) | (refine CndK.mk (by omega) ?_; conv => whnf) | (refine CndK.mk rfl ?_; conv => whnf) | (refine CndK.mk ⟨by assumption, rfl⟩ ?_; conv => whnf) | (refine BrK.mk (fun h => ?_) (fun h => ?_) <;> (try simp only [decide_eq_true_eq, decide_eq_false_iff_not, Bool.and_eq_true, Bool.or_eq_true, Bool.not_eq_true', Bool.not_eq_false', Bool.or_eq_false_iff, Bool.and_eq_false_iff, Int.not_lt, Int.not_le, gt_iff_lt, ge_iff_le] at h) <;> first | (exfalso; omega) | (exfalso; exact h rfl) | (exfalso; exact Bool.noConfusion h) | (conv => whnf))))
  all_goals (first | exact ResLe.pure (AVle.bool (by simp only [decide_eq_true_eq, decide_eq_false_iff_not, decide_eq_decide]; omega)) rfl | exact ResLe.pure (AVle.tt_ (by simp only [decide_eq_true_eq, decide_eq_false_iff_not, decide_eq_decide]; omega)) rfl | exact ResLe.pure (AVle.ff_ (by simp only [decide_eq_true_eq, decide_eq_false_iff_not, decide_eq_decide]; omega)) rfl)
def mt (p a : Int) (i : Nat) : Prop := mvL.getD (i * 3 + 0) 0 = a ∧ mvL.getD (i * 3 + 1) 0 = p
theorem next_t (p a : Int) (n : Nat) (hp : 1 ≤ p ∧ p ≤ 13) (ha : 1 ≤ a ∧ a ≤ 14) (hn : n ≤ 36) (h1 : ∀ i, i < n → ¬ mt p a i) (h2 : n = 36 ∨ mt p a n) :
    ACalls XY 16 [iA p, iA a] (.tup [iA (if n = 36 then 0 else mvL.getD (n * 3 + 2) 0), iA (if n = 36 then 17 else 0)]) := by
  have hv := (valid_t p).xy
  refine ACalls.of (n := Tryd.f16.ntmps) XY_ok Tryd.func16 rfl (by kernel_rfl) rfl rfl (Nat.le_of_ble_eq_true rfl) ?_
  (repeat' (first | refine W.seq ?_ | refine W.block ?_ | (refine W.region ?_; conv => whnf) | (refine W.ret ?_; conv => whnf) | (refine W.skip ?_; conv => whnf) | (refine W.exit ?_; conv => whnf) | (refine W.cond ?_; conv => whnf) | (refine W.drawT dr16 rfl mixed rfl ?_; conv => whnf) | ((with_reducible refine NumK.as _ (divOk (by omega) (by omega) (by omega)) ?_); conv => whnf) | ((with_reducible refine NumK.as _ (modOk (by omega) (by omega) (by omega) (by omega)) ?_); conv => whnf) | (refine NumK.as _ (wrapOk (by omega)) ?_; conv => whnf) | ((with_reducible refine NumK.as _ (wrapU (by omega)) ?_); conv => whnf) | (refine CndK.mk (by omega) ?_; conv => whnf) | (refine CndK.mk rfl ?_; conv => whnf) | (refine CndK.mk ⟨by assumption, rfl⟩ ?_; conv => whnf) | (refine ExCall.by (CallA.p2 rfl (hv) rfl) ?_; conv => whnf) | (refine CallK.by (CallA.p2 rfl (hv) rfl) ?_; conv => whnf) | (refine BrK.mk (fun h => ?_) (fun h => ?_) <;> (try simp only [decide_eq_true_eq, decide_eq_false_iff_not, Bool.and_eq_true, Bool.or_eq_true, Bool.not_eq_true', Bool.not_eq_false', Bool.or_eq_false_iff, Bool.and_eq_false_iff, Int.not_lt, Int.not_le, gt_iff_lt, ge_iff_le] at h) <;> first | (exfalso; omega) | (exfalso; exact h rfl) | (exfalso; exact Bool.noConfusion h) | (conv => whnf))))
  refine (W.loopK (ι := Nat) [0, 1] [] (fun k => [(19, .agg (mvL.map iA)), (20, iA k)]) (fun _ => []) (fun k => k ≤ n) (fun k => n - k) 0 (by omega) ⟨AVle.of_eq rfl, AVle.refl _, trivial⟩ trivial ?_)
  conv => whnf
  intro k hk
  (repeat' (first | refine W.seq ?_ | refine W.block ?_ | (refine W.region ?_; conv => whnf) | (refine W.ret ?_; conv => whnf) | (refine W.skip ?_; conv => whnf) | (refine W.exit ?_; conv => whnf) | (refine W.cond ?_; conv => whnf) | (refine W.drawT dr16 rfl mixed rfl ?_; conv => whnf) | ((with_reducible refine NumK.as _ (divOk (by omega) (by omega) (by omega)) ?_); conv => whnf) | ((with_reducible refine NumK.as _ (modOk (by omega) (by omega) (by omega) (by omega)) ?_); conv => whnf) | (refine NumK.as _ (wrapOk (by omega)) ?_; conv => whnf) | ((with_reducible refine NumK.as _ (wrapU (by omega)) ?_); conv => whnf) | (refine CndK.mk (by omega) ?_; conv => whnf) | (refine CndK.mk rfl ?_; conv => whnf) | (refine CndK.mk ⟨by assumption, rfl⟩ ?_; conv => whnf) | (refine BrK.mk (fun h => ?_) (fun h => ?_) <;> (try simp only [decide_eq_true_eq, decide_eq_false_iff_not, Bool.and_eq_true, Bool.or_eq_true, Bool.not_eq_true', Bool.not_eq_false', Bool.or_eq_false_iff, Bool.and_eq_false_iff, Int.not_lt, Int.not_le, gt_iff_lt, ge_iff_le] at h) <;> first | (exfalso; omega) | (exfalso; exact h rfl) | (exfalso; exact Bool.noConfusion h) | (conv => whnf))))
  · rename_i e4
    have hm : mt p a k := ⟨e4, h⟩
    have hkn : k = n := by
      have : ¬ k < n := fun hlt => h1 k hlt hm
      omega
    subst hkn
    rw [if_neg (by omega), if_neg (by omega)]
    (repeat' (first | exact trivial | exact AVle.refl _ | exact AVle.int (by first | rfl | omega) | exact ResLe.pure (AVle.refl _) rfl | exact ResLe.pure (AVle.int (by first | rfl | omega)) rfl | refine ResLe.pure (AVle.agg ?_) rfl | refine ⟨?_, ?_⟩ | ((conv => whnf); first | exact ResLe.pure (AVle.refl _) rfl | exact ResLe.pure (AVle.int (by first | rfl | omega)) rfl | refine ResLe.pure (AVle.agg ?_) rfl)))
  · have hkn : k ≠ n := fun e => by
      subst e
      rcases h2 with h2 | h2
      · omega
      · exact h h2.2
    (refine ⟨k + 1, by omega, by omega, ?_, ?_, ?_, ?_⟩ <;> (repeat' (first | exact trivial | exact AVle.refl _ | exact AVle.int (by omega) | exact AVle.int (by (try push_cast); omega) | exact ⟨_, rfl, EntLe.refl _, rfl⟩ | refine ⟨?_, ?_⟩)))
  · have hkn : k ≠ n := fun e => by
      subst e
      rcases h2 with h2 | h2
      · omega
      · exact h h2.1
    (refine ⟨k + 1, by omega, by omega, ?_, ?_, ?_, ?_⟩ <;> (repeat' (first | exact trivial | exact AVle.refl _ | exact AVle.int (by omega) | exact AVle.int (by (try push_cast); omega) | exact ⟨_, rfl, EntLe.refl _, rfl⟩ | refine ⟨?_, ?_⟩)))
  · have hkn : n = 36 := by omega
    subst hkn
    rw [if_pos rfl, if_pos rfl]
    (repeat' (first | exact trivial | exact AVle.refl _ | exact AVle.int (by first | rfl | omega) | exact ResLe.pure (AVle.refl _) rfl | exact ResLe.pure (AVle.int (by first | rfl | omega)) rfl | refine ResLe.pure (AVle.agg ?_) rfl | refine ⟨?_, ?_⟩ | ((conv => whnf); first | exact ResLe.pure (AVle.refl _) rfl | exact ResLe.pure (AVle.int (by first | rfl | omega)) rfl | refine ResLe.pure (AVle.agg ?_) rfl)))
theorem mv_facts : ∀ i, i < 36 → 1 ≤ mvL.getD (i * 3 + 2) 0 ∧ mvL.getD (i * 3 + 2) 0 ≤ 13 ∧ (mvL.getD (i * 3 + 1) 0 ≠ 2 → mvL.getD (i * 3 + 2) 0 ≠ 2 → cls (mvL.getD (i * 3 + 1) 0) = 2 → cls (mvL.getD (i * 3 + 2) 0) = 2) := by decide
theorem next_ex (p a : Int) (hp : 1 ≤ p ∧ p ≤ 13) (ha : 1 ≤ a ∧ a ≤ 14) : ∃ q e, ACalls XY 16 [iA p, iA a] (.tup [iA q, iA e]) ∧ (e = 0 → 1 ≤ q ∧ q ≤ 13 ∧ (p ≠ 2 → q ≠ 2 → cls p = 2 → cls q = 2)) := by
  have least : ∃ n, n ≤ 36 ∧ (∀ i, i < n → ¬ mt p a i) ∧ (n = 36 ∨ mt p a n) := by
    have : ∀ m, m ≤ 36 → ∃ n, n ≤ m ∧ (∀ i, i < n → ¬ mt p a i) ∧ (n = m ∨ mt p a n) := by
      intro m
      induction m with
      | zero => exact fun _ => ⟨0, Nat.le_refl _, fun i hi => absurd hi (by omega), .inl rfl⟩
      | succ m ih =>
        intro hm
        obtain ⟨n, h1, h2, h3⟩ := ih (by omega)
        rcases h3 with rfl | h3
        · by_cases hx : mt p a n
          · exact ⟨n, by omega, h2, .inr hx⟩
          · exact ⟨n + 1, Nat.le_refl _, fun i hi => by
              rcases Nat.lt_or_ge i n with h4 | h4
              · exact h2 i h4
              · obtain rfl : i = n := by omega
                exact hx, .inl rfl⟩
        · exact ⟨n, by omega, h2, .inr h3⟩
    exact this 36 (Nat.le_refl _)
  obtain ⟨n, h1, h2, h3⟩ := least
  refine ⟨_, _, next_t p a n hp ha h1 h2 h3, fun he => ?_⟩
  have hn : n ≠ 36 := fun e => by rw [if_pos e] at he; omega
  rw [if_neg hn]
  rcases h3 with h3 | h3
  · exact absurd h3 hn
  · have := mv_facts n (by omega)
    rw [show mvL.getD (n * 3 + 1) 0 = p from h3.2] at this
    exact this
theorem lawActions_t (p a d : Int) : ACalls XY 7 [iA p, iA a, iA d] (bA true) := by
  have he := eqs
  have hA := awake_t.xy
  generalize hp : p % 13 = P
  generalize ha : a % 14 = A
  generalize hd : d % 1000 = D0
  have hP : 0 ≤ P ∧ P ≤ 12 ∧ 0 ≤ A ∧ A ≤ 13 ∧ 0 ≤ D0 ∧ D0 ≤ 999 := by omega
  have w1 : ACalls XY 8 [iA p, iA 13] (iA P) := (hp ▸ within_t p _ (by omega) (by omega) : ACalls XX _ _ _).xy
  have w2 : ACalls XY 8 [iA a, iA 14] (iA A) := (ha ▸ within_t a _ (by omega) (by omega) : ACalls XX _ _ _).xy
  have w3 : ACalls XY 8 [iA d, iA 1000] (iA D0) := (hd ▸ within_t d _ (by omega) (by omega) : ACalls XX _ _ _).xy
  obtain ⟨q, e, hN, hq⟩ := next_ex (1 + P) (1 + A) (by omega) (by omega)
  have h1 : ∀ p d r, ACalls XY 9 [iA p, iA d, iA r] (.tup [.agg [iA (po p d r), iA (ps p d r), iA (pe p d r), iA (pm p d r)], iA (pErr p d r)]) := fun p d r => (pos_t p d r).xy
  have hC : ∀ p, ACalls XY 17 [iA p] (iA (cls p)) := fun p => (class_t p).xy
  refine ACalls.of (n := Tryd.f7.ntmps) XY_ok Tryd.func7 rfl (by kernel_rfl) rfl rfl (Nat.le_of_ble_eq_true rfl) ?_
  (repeat' (first | refine W.seq ?_ | refine W.block ?_ | (refine W.region ?_; conv => whnf) | (refine W.ret ?_; conv => whnf) | (refine W.skip ?_; conv => whnf) | (refine W.exit ?_; conv => whnf) | (refine W.cond ?_; conv => whnf) | (refine W.drawT dr7 rfl mixed rfl ?_; conv => whnf) | ((with_reducible refine NumK.as _ (divOk (by omega) (by omega) (by omega)) ?_); conv => whnf) | ((with_reducible refine NumK.as _ (modOk (by omega) (by omega) (by omega) (by omega)) ?_); conv => whnf) | (refine NumK.as _ (wrapOk (by omega)) ?_; conv => whnf) | ((with_reducible refine NumK.as _ (wrapU (by omega)) ?_); conv => whnf) | (refine CndK.mk (by omega) ?_; conv => whnf) | (refine CndK.mk rfl ?_; conv => whnf) | (refine CndK.mk ⟨by assumption, rfl⟩ ?_; conv => whnf) | (refine ExCall.by (CallA.p2 rfl (w1) rfl) ?_; conv => whnf) | (refine CallK.by (CallA.p2 rfl (w1) rfl) ?_; conv => whnf) | (refine ExCall.by (CallA.p2 rfl (w2) rfl) ?_; conv => whnf) | (refine CallK.by (CallA.p2 rfl (w2) rfl) ?_; conv => whnf) | (refine ExCall.by (CallA.p2 rfl (w3) rfl) ?_; conv => whnf) | (refine CallK.by (CallA.p2 rfl (w3) rfl) ?_; conv => whnf) | (refine ExCall.by (CallA.p2 rfl (hN) rfl) ?_; conv => whnf) | (refine CallK.by (CallA.p2 rfl (hN) rfl) ?_; conv => whnf) | (refine ExCall.by (CallA.p2 rfl (hA) rfl) ?_; conv => whnf) | (refine CallK.by (CallA.p2 rfl (hA) rfl) ?_; conv => whnf) | (refine BrK.mk (fun h => ?_) (fun h => ?_) <;> (try simp only [decide_eq_true_eq, decide_eq_false_iff_not, Bool.and_eq_true, Bool.or_eq_true, Bool.not_eq_true', Bool.not_eq_false', Bool.or_eq_false_iff, Bool.and_eq_false_iff, Int.not_lt, Int.not_le, gt_iff_lt, ge_iff_le] at h) <;> first | (exfalso; omega) | (exfalso; exact h rfl) | (exfalso; exact Bool.noConfusion h) | (conv => whnf))))
  · exact ResLe.pure (AVle.bool rfl) rfl
  · exact ResLe.pure (AVle.bool rfl) rfl
  · exact ResLe.pure (AVle.bool rfl) rfl
  have he0 : e = 0 := by omega
  have hp2 : ¬ 1 + P = 2 := by omega
  have hq2 : ¬ q = 2 := by omega
  obtain ⟨q1, q13, hq3⟩ := hq he0
  have hq3 := hq3 hp2 hq2
  have hok1 : posOk (1 + P) (1 + D0) 0 := by unfold posOk; omega
  have hok2 : posOk q (1 + D0) 0 := by unfold posOk; omega
  obtain ⟨c1, _⟩ := cls_rng (p := 1 + P) (by omega) (by omega)
  obtain ⟨c2, _⟩ := cls_rng q1 q13
  have hE1 : pErr (1 + P) (1 + D0) 0 = 0 := by unfold pErr; rw [if_pos hok1]
  have hE2 : pErr q (1 + D0) 0 = 0 := by unfold pErr; rw [if_pos hok2]
  have hk : decide (cls (1 + P) = cls q) = decide ([po (1 + P) (1 + D0) 0, ps (1 + P) (1 + D0) 0, pe (1 + P) (1 + D0) 0, pm (1 + P) (1 + D0) 0] = [po q (1 + D0) 0, ps q (1 + D0) 0, pe q (1 + D0) 0, pm q (1 + D0) 0]) := by
    simp only [po, ps, pe, pm, if_pos hok1, if_pos hok2, if_neg hp2, if_neg hq2]
    rcases c1 with c1 | c1 | c1 | c1 <;> rcases c2 with c2 | c2 | c2 | c2 <;> simp [c1, c2] <;> omega
  have hO : po (1 + P) (1 + D0) 0 = 0 ∨ po q (1 + D0) 0 = 1 + D0 := by
    simp only [po, if_pos hok1, if_pos hok2, if_neg hp2, if_neg hq2]
    by_cases c3 : cls (1 + P) = 2
    · right; rw [if_pos (hq3 c3)]
    · left; rw [if_neg c3]
  have k1 := h1 (1 + P) (1 + D0) 0
  have k2 := h1 q (1 + D0) 0
  rw [hE1] at k1
  rw [hE2] at k2
  clear hE1 hE2 h1
  (repeat' (first | refine W.seq ?_ | refine W.block ?_ | (refine W.region ?_; conv => whnf) | (refine W.ret ?_; conv => whnf) | (refine W.skip ?_; conv => whnf) | (refine W.exit ?_; conv => whnf) | (refine W.cond ?_; conv => whnf) | (refine W.drawT dr7 rfl mixed rfl ?_; conv => whnf) | ((with_reducible refine NumK.as _ (divOk (by omega) (by omega) (by omega)) ?_); conv => whnf) | ((with_reducible refine NumK.as _ (modOk (by omega) (by omega) (by omega) (by omega)) ?_); conv => whnf) | (refine NumK.as _ (wrapOk (by omega)) ?_; conv => whnf) | ((with_reducible refine NumK.as _ (wrapU (by omega)) ?_); conv => whnf) | (refine CndK.mk (by omega) ?_; conv => whnf) | (refine CndK.mk rfl ?_; conv => whnf) | (refine CndK.mk ⟨by assumption, rfl⟩ ?_; conv => whnf) | (refine ExCall.by (CallA.p2 rfl (k1) rfl) ?_; conv => whnf) | (refine CallK.by (CallA.p2 rfl (k1) rfl) ?_; conv => whnf) | (refine ExCall.by (CallA.p2 rfl (k2) rfl) ?_; conv => whnf) | (refine CallK.by (CallA.p2 rfl (k2) rfl) ?_; conv => whnf) | (refine ExCall.by (CallA.p2 rfl (hC _) rfl) ?_; conv => whnf) | (refine CallK.by (CallA.p2 rfl (hC _) rfl) ?_; conv => whnf) | (refine ExCall.by (CallA.p2 rfl (hA) rfl) ?_; conv => whnf) | (refine CallK.by (CallA.p2 rfl (hA) rfl) ?_; conv => whnf) | (refine BrK.mk (fun h => ?_) (fun h => ?_) <;> (try simp only [decide_eq_true_eq, decide_eq_false_iff_not, Bool.and_eq_true, Bool.or_eq_true, Bool.not_eq_true', Bool.not_eq_false', Bool.or_eq_false_iff, Bool.and_eq_false_iff, Int.not_lt, Int.not_le, gt_iff_lt, ge_iff_le] at h) <;> first | (exfalso; omega) | (exfalso; exact h rfl) | (exfalso; exact Bool.noConfusion h) | (conv => whnf))))
  all_goals first
    | exact ResLe.pure (AVle.bool rfl) rfl
    | (exfalso; rw [hk] at h; simp at h; done)
end Go.Proofs.YtaidaibbeghhdaaDoor
