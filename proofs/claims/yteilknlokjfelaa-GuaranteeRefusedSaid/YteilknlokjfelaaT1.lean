/- A trial of the walk by descriptions. -/
import Derived.Test.YteilknlokjfelaaW0
namespace Go.Proofs.Yteilknlokjfelaa
open Go Go.RowKit
set_option linter.unusedVariables false
set_option linter.unusedSimpArgs false

structure Rw where
  m : Int
  a : Int
  deriving Inhabited
def rwE (x : Rw) (j : Nat) : D := match j with
  | 0 => .val (.int .i64 x.m)
  | _ => .val (.int .i64 x.a)
abbrev rwD (us : List Rw) : D := .lst 2 us.length (rowF rwE us)
def sumR (us : List Rw) : Int := (us.map Rw.a).sum

attribute [local irreducible] ResLe AVle ArgLe ArgP EntLe Dle

theorem sumR_take (us : List Rw) (k : Nat) (h : k < us.length) : sumR (us.take (k + 1)) = sumR (us.take k) + (us.getD k default).a := by
  rw [List.take_succ_eq_append_getElem h, List.getD_eq_getElem?_getD, List.getElem?_eq_getElem h]
  unfold sumR
  rw [List.map_append, List.sum_append]
  simp
theorem sumR_rng : ∀ (us : List Rw), (∀ x ∈ us, 0 ≤ x.a ∧ x.a ≤ 1000000000000) → 0 ≤ sumR us ∧ sumR us ≤ 1000000000000 * us.length
  | [], _ => by simp [sumR]
  | x :: l, h => by
    have h1 := sumR_rng l (fun y hy => h y (List.mem_cons_of_mem _ hy))
    have h2 := h x (List.mem_cons_self ..)
    simp [sumR] at h1 ⊢
    omega
theorem reserved_t (us : List Rw) (hn : us.length ≤ 1000) (hb : ∀ x ∈ us, 0 ≤ x.a ∧ x.a ≤ 1000000000000) : ACalls XX 34 [.dat (rwD us)] (.dat (.val (.int .i64 (sumR us)))) := by
  refine ACalls.of (n := 18) (rs := [.tmp 2]) XX_ok Try.func34 rfl (by kernel_rfl) rfl rfl (Nat.le_of_ble_eq_true rfl) ?_
  (repeat (first | refine W.seq ?_ | refine W.block ?_ | (refine W.region ?_; conv => whnf) | (refine W.ret ?_; conv => whnf) | (refine W.skip ?_; conv => whnf) | (refine W.exit ?_; conv => whnf) | (refine W.cond ?_; conv => whnf) | ((with_reducible refine NumK.as _ (divOk (by omega) (by omega) (by omega)) ?_); conv => whnf) | ((with_reducible refine NumK.as _ (modOk (by omega) (by omega) (by omega) (by omega)) ?_); conv => whnf) | (refine NumK.as _ (wrapOk (by omega)) ?_; conv => whnf) | ((with_reducible refine NumK.as _ (wrapU (by omega)) ?_); conv => whnf) | (refine CndK.mk (by omega) ?_; conv => whnf) | (refine CndK.mk ?_ ?_; (focus (first | omega | (simp; done) | (simp; omega))); conv => whnf) | (refine UnK.mk (fun b hb => ?_); conv => whnf) | (refine CndK.mk rfl ?_; conv => whnf) | (refine CndK.mk ⟨by assumption, rfl⟩ ?_; conv => whnf)))
  refine (W.loopK (ι := Nat) [0, 6, 7] [] (fun k => [(8, .dat (.val (.int .i64 k))), (3, .dat (.val (.int .i64 (sumR (us.take k)))))]) (fun _ => []) (fun k => k ≤ us.length) (fun k => us.length - k) 0 (Nat.zero_le _) ⟨AVle.refl _, AVle.int rfl, trivial⟩ trivial ?_)
  conv => whnf
  intro k hk
  (repeat (first | refine W.seq ?_ | refine W.block ?_ | (refine W.region ?_; conv => whnf) | (refine W.ret ?_; conv => whnf) | (refine W.skip ?_; conv => whnf) | (refine W.exit ?_; conv => whnf) | (refine W.cond ?_; conv => whnf) | ((with_reducible refine NumK.as _ (divOk (by omega) (by omega) (by omega)) ?_); conv => whnf) | ((with_reducible refine NumK.as _ (modOk (by omega) (by omega) (by omega) (by omega)) ?_); conv => whnf) | (refine NumK.as _ (wrapOk (by omega)) ?_; conv => whnf) | ((with_reducible refine NumK.as _ (wrapU (by omega)) ?_); conv => whnf) | (refine CndK.mk (by omega) ?_; conv => whnf) | (refine CndK.mk ?_ ?_; (focus (first | omega | (simp; done) | (simp; omega))); conv => whnf) | (refine UnK.mk (fun b hb => ?_); conv => whnf) | (refine CndK.mk rfl ?_; conv => whnf) | (refine CndK.mk ⟨by assumption, rfl⟩ ?_; conv => whnf)))
  refine BrK.mk (fun h => ?_) (fun h => ?_)
  · have h := of_decide_eq_true h
    have hk' : k < us.length := by omega
    have hr := sumR_rng (us.take k) (fun x hx => hb x (List.mem_of_mem_take hx))
    have hl : (us.take k).length = k := by simp; omega
    have hx := hb (us.getD k default) (by rw [List.getD_eq_getElem?_getD, List.getElem?_eq_getElem hk']; exact List.getElem_mem _)
    have e := sumR_take us k hk'
    (repeat (first | refine W.seq ?_ | refine W.block ?_ | (refine W.region ?_; conv => whnf) | (refine W.ret ?_; conv => whnf) | (refine W.skip ?_; conv => whnf) | (refine W.exit ?_; conv => whnf) | (refine W.cond ?_; conv => whnf) | ((with_reducible refine NumK.as _ (divOk (by omega) (by omega) (by omega)) ?_); conv => whnf) | ((with_reducible refine NumK.as _ (modOk (by omega) (by omega) (by omega) (by omega)) ?_); conv => whnf) | (refine NumK.as _ (wrapOk (by omega)) ?_; conv => whnf) | ((with_reducible refine NumK.as _ (wrapU (by omega)) ?_); conv => whnf) | (refine CndK.mk (by omega) ?_; conv => whnf) | (refine CndK.mk ?_ ?_; (focus (first | omega | (simp; done) | (simp; omega))); conv => whnf) | (refine UnK.mk (fun b hb => ?_); conv => whnf) | (refine CndK.mk rfl ?_; conv => whnf) | (refine CndK.mk ⟨by assumption, rfl⟩ ?_; conv => whnf)))
    dsimp only [Int.toNat_natCast]
    (repeat (first | refine W.seq ?_ | refine W.block ?_ | (refine W.region ?_; conv => whnf) | (refine W.ret ?_; conv => whnf) | (refine W.skip ?_; conv => whnf) | (refine W.exit ?_; conv => whnf) | (refine W.cond ?_; conv => whnf) | ((with_reducible refine NumK.as _ (divOk (by omega) (by omega) (by omega)) ?_); conv => whnf) | ((with_reducible refine NumK.as _ (modOk (by omega) (by omega) (by omega) (by omega)) ?_); conv => whnf) | (refine NumK.as _ (wrapOk (by omega)) ?_; conv => whnf) | ((with_reducible refine NumK.as _ (wrapU (by omega)) ?_); conv => whnf) | (refine CndK.mk (by omega) ?_; conv => whnf) | (refine CndK.mk ?_ ?_; (focus (first | omega | (simp; done) | (simp; omega))); conv => whnf) | (refine UnK.mk (fun b hb => ?_); conv => whnf) | (refine CndK.mk rfl ?_; conv => whnf) | (refine CndK.mk ⟨by assumption, rfl⟩ ?_; conv => whnf)))
    refine ⟨k + 1, by omega, by omega, ⟨AVle.refl _, AVle.int e.symm, trivial⟩, trivial, ⟨AVle.refl _, AVle.refl _, AVle.refl _, trivial⟩, trivial⟩
  · have h := of_decide_eq_false h
    have hk' : k = us.length := by omega
    subst hk'
    (repeat (first | refine W.seq ?_ | refine W.block ?_ | (refine W.region ?_; conv => whnf) | (refine W.ret ?_; conv => whnf) | (refine W.skip ?_; conv => whnf) | (refine W.exit ?_; conv => whnf) | (refine W.cond ?_; conv => whnf) | ((with_reducible refine NumK.as _ (divOk (by omega) (by omega) (by omega)) ?_); conv => whnf) | ((with_reducible refine NumK.as _ (modOk (by omega) (by omega) (by omega) (by omega)) ?_); conv => whnf) | (refine NumK.as _ (wrapOk (by omega)) ?_; conv => whnf) | ((with_reducible refine NumK.as _ (wrapU (by omega)) ?_); conv => whnf) | (refine CndK.mk (by omega) ?_; conv => whnf) | (refine CndK.mk ?_ ?_; (focus (first | omega | (simp; done) | (simp; omega))); conv => whnf) | (refine UnK.mk (fun b hb => ?_); conv => whnf) | (refine CndK.mk rfl ?_; conv => whnf) | (refine CndK.mk ⟨by assumption, rfl⟩ ?_; conv => whnf)))
    rw [List.take_length]
    exact ResLe.pure (AVle.refl _) rfl

end Go.Proofs.Yteilknlokjfelaa
