/- The reference's Share. -/
import Derived.Test.YtleknjngglhmaaaGreatB14
namespace Go.Proofs.YtleknjngglhmaaaGreat
open Go Go.RowKit
set_option linter.unusedVariables false
set_option linter.unusedSimpArgs false
set_option maxRecDepth 100000
set_option maxHeartbeats 4000000
attribute [local irreducible] ResLe AVle ArgLe ArgP EntLe Dle ResH ArgQ

theorem rshare_t (t : Int) (ws : List Int) (hw : wOk ws) (hn : ws.length ≤ 1000) (ht : 0 ≤ t ∧ t ≤ 1000000000000) (h0 : ws = [] → t = 0) (hpos : 0 < ws.length) : ACalls XX 47 [iA t, .dat (iD ws)] (.dat (iD (shareL t ws))) := by
  have hs0 := sum_nonneg hw
  have hs1 := sum_le hw
  have hlr := left_rng hw ht.1 h0
  obtain ⟨Q, hQ⟩ : ∃ Q, Q = shQ t ws := ⟨_, rfl⟩
  have hQr : ∀ k, k < ws.length → 0 ≤ Q k ∧ Q k ≤ t := fun k hk => by rw [hQ]; exact shQ_rng hw ht.1 hk
  have hsq : ∀ k, k ≤ ws.length → 0 ≤ sumQ t ws k ∧ sumQ t ws k ≤ 1000000000000 * k := by
    intro k
    induction k with
    | zero => intro _; simp [sumQ]
    | succ k ih =>
      intro hk
      have := ih (by omega)
      have := hQr k (by omega)
      rw [sumQ_succ]
      rw [hQ] at this
      push_cast
      omega
  have hS := cfP_swo (shR t ws)
  have hfull : outP t ws (leftQ t ws).toNat = shareL t ws := rfl
  refine ACalls.of (n := Tryz.f47.ntmps) XX_ok Tryz.func47 rfl (by kernel_rfl) rfl rfl (Nat.le_of_ble_eq_true rfl) ?_
  (repeat' (first | refine Zs ?_ | refine Zk ?_ | ((first | refine Za ?_ | refine Zr ?_ | refine Zp ?_ | refine Ze ?_ | refine Zd ?_ | refine W.drawT dr47 rfl mixed rfl ?_ | refine Zn ?_ | refine Zc ?_ | refine UnK.mk (fun b hb => ?_)); conv => whnf) | (refine Zb (fun h => ?_) (fun h => ?_) <;> first | exact Zx | (conv => whnf))))
  refine (W.loopK (ι := Nat) [0, 1] [] (fun k => [(6, iA k), (5, iA (ws.take k).sum)]) (fun _ => []) (fun k => k ≤ ws.length ∧ 0 ≤ (ws.take k).sum ∧ (ws.take k).sum ≤ 1000000000000 * k) (fun k => ws.length - k) 0 ⟨Nat.zero_le _, by simp, by simp⟩ ?_ ?_ ?_)
  · (repeat' (first | exact trivial | exact Yr | exact Yi (by first | rfl | (simp; done) | omega) | exact Yo (by first | rfl | (simp; done) | omega) | exact Yd | exact Yn | exact Ye (by first | rfl | (simp; done) | omega) | exact ⟨_, rfl, Yf, rfl⟩ | refine ⟨_, rfl, Yb ?_, rfl⟩ | refine ⟨_, rfl, Yw (by first | rfl | (simp; done) | omega) ?_, rfl⟩ | refine And.intro ?_ ?_))
  · exact Yz
  conv => whnf
  intro k ⟨hk, hq0, hq1⟩
  by_cases hk' : k < ws.length
  · have hx := hw _ (getD_in hk')
    have hs : (ws.take (k + 1)).sum = (ws.take k).sum + ws.getD k default := sum_take0 ws k hk'
    (repeat' (first | refine Zs ?_ | refine Zk ?_ | ((first | refine Za ?_ | refine Zr ?_ | refine Zp ?_ | refine Ze ?_ | refine Zd ?_ | refine W.drawT dr47 rfl mixed rfl ?_ | refine Zn ?_ | refine Zc ?_ | refine UnK.mk (fun b hb => ?_)); conv => whnf) | (refine Zb (fun h => ?_) (fun h => ?_) <;> first | exact Zx | (conv => whnf))))
    all_goals (try dsimp only [Int.toNat_natCast] at *)
    refine ⟨k + 1, ⟨by omega, by omega, by omega⟩, by omega, ?_, ?_, ?_, ?_⟩ <;> (repeat' (first | exact trivial | exact Yr | exact Yi (by first | rfl | omega) | exact Yo (by first | rfl | omega) | exact Yd | exact Yn | exact Ye (by first | rfl | omega) | exact ⟨_, rfl, Yf, rfl⟩ | refine ⟨_, rfl, Yb ?_, rfl⟩ | refine ⟨_, rfl, Yw (by first | rfl | omega) ?_, rfl⟩ | refine And.intro ?_ ?_))
  obtain rfl : k = ws.length := by omega
  rw [List.take_length] at *
  (repeat' (first | refine Zs ?_ | refine Zk ?_ | ((first | refine Za ?_ | refine Zr ?_ | refine Zp ?_ | refine Ze ?_ | refine Zd ?_ | refine W.drawT dr47 rfl mixed rfl ?_ | refine Zn ?_ | refine Zc ?_ | refine UnK.mk (fun b hb => ?_)); conv => whnf) | (refine Zb (fun h => ?_) (fun h => ?_) <;> first | exact Zx | (conv => whnf))))
  refine (W.loopK (ι := Nat) [0, 5] [] (fun k => [(7, .own 27 1 0 ws.length), (9, .own 45 1 0 ws.length), (11, iA k), (10, iA (t - sumQ t ws k))]) (fun k => [(27, .row 3 1 ws.length (rowF iE ws)), (45, .row 3 1 ws.length (rowF iE (fillL Q ws.length k)))]) (fun k => k ≤ ws.length) (fun k => ws.length - k) 0 (Nat.zero_le _) ?_ ?_ ?_)
  · (repeat' (first | exact trivial | exact Yr | exact Yi (by first | rfl | (simp [sumQ]; done) | omega) | exact Yo (by first | rfl | (simp [sumQ]; done) | omega) | exact Yd | exact Yn | exact Ye (by first | rfl | (simp [sumQ]; done) | omega) | exact ⟨_, rfl, Yf, rfl⟩ | refine ⟨_, rfl, Yb ?_, rfl⟩ | refine ⟨_, rfl, Yw (by first | rfl | (simp [sumQ]; done) | omega) ?_, rfl⟩ | refine And.intro ?_ ?_))
  · (repeat' (first | exact trivial | exact Yr | exact Yi (by first | rfl | omega) | exact Yo (by first | rfl | omega) | exact Yd | exact Yn | exact Ye (by first | rfl | omega) | exact ⟨_, rfl, Yf, rfl⟩ | refine ⟨_, rfl, Yb ?_, rfl⟩ | refine ⟨_, rfl, Yw (by first | rfl | omega) ?_, rfl⟩ | refine And.intro ?_ ?_))
    · have h := RowIs.cat (RowIs.nil iE 1 0 (fun _ _ => .val undef) rfl) (RowIs.refl iE 1 ws)
      exact h.le
    · intro i hi j hj
      obtain rfl : j = 0 := by omega
      have e : (fillL Q ws.length 0).getD i default = 0 := fillL_zero Q ws.length i
      show Dle _ (.val (.int .i64 ((fillL Q ws.length 0).getD i default)))
      rw [e]
      exact Dle.refl _
  conv => whnf
  intro k hk
  by_cases hk' : k < ws.length
  · have hM := rQ_t hw hn ht hk'
    have hqk := hQr k hk'
    have hsk := hsq k hk
    have hsk1 : sumQ t ws (k + 1) = sumQ t ws k + Q k := by rw [hQ]; exact sumQ_succ t ws k
    rw [← hQ] at hM
    (repeat' (first | refine Zs ?_ | refine Zk ?_ | ((first | refine Za ?_ | refine Zr ?_ | refine Zp ?_ | refine Ze ?_ | refine Zd ?_ | refine W.drawT dr47 rfl mixed rfl ?_ | refine Zn ?_ | refine Zc ?_ | refine UnK.mk (fun b hb => ?_)); conv => whnf) | (refine Zb (fun h => ?_) (fun h => ?_) <;> first | exact Zx | (conv => whnf))))
    all_goals (try dsimp only [Int.toNat_natCast] at *)
    rw [Nat.zero_add k]
    (repeat' (first | refine Zs ?_ | refine Zk ?_ | ((first | refine Za ?_ | refine Zr ?_ | refine Zp ?_ | refine Ze ?_ | refine Zd ?_ | refine W.drawT dr47 rfl mixed rfl ?_ | refine Zn ?_ | refine Zc ?_ | refine UnK.mk (fun b hb => ?_) | refine Zy hM ?_ | refine Zz hM ?_); conv => whnf) | (refine Zb (fun h => ?_) (fun h => ?_) <;> first | exact Zx | (conv => whnf))))
    refine NumK.as (t - sumQ t ws k - Q k) ?_ ?_
    · rw [if_pos ⟨rfl, Nat.le_refl _, Nat.zero_lt_succ _⟩]
      exact wrapOk (by omega)
    conv => whnf
    (repeat' (first | refine Zs ?_ | refine Zk ?_ | ((first | refine Za ?_ | refine Zr ?_ | refine Zp ?_ | refine Ze ?_ | refine Zd ?_ | refine W.drawT dr47 rfl mixed rfl ?_ | refine Zn ?_ | refine Zc ?_ | refine UnK.mk (fun b hb => ?_)); conv => whnf) | (refine Zb (fun h => ?_) (fun h => ?_) <;> first | exact Zx | (conv => whnf))))
    refine ⟨k + 1, by omega, by omega, ?_, ?_, ?_, ?_⟩
    all_goals (repeat' (first | exact trivial | exact Yr | exact Yi (by first | rfl | omega) | exact Yo (by first | rfl | omega) | exact Yd | exact Yn | exact Ye (by first | rfl | omega) | exact ⟨_, rfl, Yf, rfl⟩ | refine ⟨_, rfl, Yb ?_, rfl⟩ | refine ⟨_, rfl, Yw (by first | rfl | omega) ?_, rfl⟩ | refine And.intro ?_ ?_))
    simp only [Nat.zero_add, Int.toNat_natCast]
    exact fill_row rfl
  obtain rfl : k = ws.length := by omega
  have hlq : t - sumQ t ws ws.length = leftQ t ws := rfl
  have hf0 : fillL Q ws.length ws.length = outP t ws 0 := by rw [fillL_full, outP_zero, hQ]
  obtain ⟨R, hR⟩ : ∃ R, R = shR t ws := ⟨_, rfl⟩
  (repeat' (first | refine Zs ?_ | refine Zk ?_ | ((first | refine Za ?_ | refine Zr ?_ | refine Zp ?_ | refine Ze ?_ | refine Zd ?_ | refine W.drawT dr47 rfl mixed rfl ?_ | refine Zn ?_ | refine Zc ?_ | refine UnK.mk (fun b hb => ?_)); conv => whnf) | (refine Zb (fun h => ?_) (fun h => ?_) <;> first | exact Zx | (conv => whnf))))
  all_goals (try dsimp only [Int.toNat_natCast] at *)
  refine (W.loopK (ι := Nat) [0, 5, 7, 9] [27] (fun j => [(12, .own 71 1 0 ws.length), (10, iA (leftQ t ws - j))]) (fun j => [(45, .row 3 1 ws.length (rowF iE (outP t ws j))), (71, .row 4 1 ws.length fun i _ => .val (.bool (among ws.length R j i)))]) (fun j => j ≤ ws.length ∧ (j : Int) ≤ leftQ t ws) (fun j => ws.length - j) 0 ⟨Nat.zero_le _, by omega⟩ ?_ ?_ ?_)
  · exact Yz
  · (repeat' (first | exact trivial | exact Yr | exact Yi (by first | rfl | omega) | exact Yo (by first | rfl | omega) | exact Yd | exact Yn | exact Ye (by first | rfl | omega) | exact ⟨_, rfl, Yf, rfl⟩ | refine ⟨_, rfl, Yb ?_, rfl⟩ | refine ⟨_, rfl, Yw (by first | rfl | omega) ?_, rfl⟩ | refine And.intro ?_ ?_))
    · rw [hf0]
      exact fun _ _ _ _ => Dle.refl _
    · intro i hi j hj
      obtain rfl : j = 0 := by omega
      have e : among ws.length R 0 i = false := by
        cases hb : among ws.length R 0 i with
        | false => rfl
        | true => obtain ⟨q, hq, _⟩ := among_iff.1 hb; omega
      rw [e]
      exact Dle.refl _
  conv => whnf
  intro j ⟨hj, hjl⟩
  (repeat' (first | refine Zs ?_ | refine Zk ?_ | ((first | refine Za ?_ | refine Zr ?_ | refine Zp ?_ | refine Ze ?_ | refine Zd ?_ | refine W.drawT dr47 rfl mixed rfl ?_ | refine Zn ?_ | refine Zc ?_ | refine UnK.mk (fun b hb => ?_)); conv => whnf) | (refine Zb (fun h => ?_) (fun h => ?_) <;> first | exact Zx | (conv => whnf))))
  · refine (W.loopK (ι := Nat × Int) [0, 5, 7, 9, 10, 12] [27, 45, 71] (fun q => [(14, iA q.1), (13, iA q.2)]) (fun _ => []) (fun q => q.1 ≤ ws.length ∧ bestP ws.length R j q.1 q.2) (fun q => ws.length - q.1) (0, -1) ⟨Nat.zero_le _, .inl ⟨rfl, fun q hq => absurd hq (by omega)⟩⟩ ?_ ?_ ?_)
    · exact Yz
    · exact Yz
    conv => whnf
    intro ⟨i, b⟩ ⟨hi, hb⟩
    dsimp only at hi hb ⊢
    by_cases hi' : i < ws.length
    · have f1 := rR_t hw hn ht hi'
      rw [← hR] at f1
      rcases hb with ⟨rfl, hb⟩ | ⟨m, rfl, hm, hm1, hm2⟩
      · (repeat' (first | refine Zs ?_ | refine Zk ?_ | ((first | refine Za ?_ | refine Zr ?_ | refine Zp ?_ | refine Ze ?_ | refine Zd ?_ | refine W.drawT dr47 rfl mixed rfl ?_ | refine Zn ?_ | refine Zc ?_ | refine UnK.mk (fun b hb => ?_)); conv => whnf) | (refine Zb (fun h => ?_) (fun h => ?_) <;> first | exact Zx | (conv => whnf))))
        all_goals (try dsimp only [Int.toNat_natCast] at *)
        all_goals (try rw [Nat.zero_add i] at *)
        (repeat' (first | refine Zs ?_ | refine Zk ?_ | ((first | refine Za ?_ | refine Zr ?_ | refine Zp ?_ | refine Ze ?_ | refine Zd ?_ | refine W.drawT dr47 rfl mixed rfl ?_ | refine Zn ?_ | refine Zc ?_ | refine UnK.mk (fun b hb => ?_) | refine Zy f1 ?_ | refine Zz f1 ?_); conv => whnf) | (refine Zb (fun h => ?_) (fun h => ?_) <;> first | exact Zx | (conv => whnf))))
        all_goals first
          | (refine ⟨(i + 1, (i : Int)), ⟨by dsimp only; omega, bestP_first hb (by first | assumption | (simp_all; done))⟩, by dsimp only; omega, ?_, ?_, ?_, ?_⟩ <;> (repeat' (first | exact trivial | exact Yr | exact Yi (by first | rfl | omega) | exact Yo (by first | rfl | omega) | exact Yd | exact Yn | exact Ye (by first | rfl | omega) | exact ⟨_, rfl, Yf, rfl⟩ | refine ⟨_, rfl, Yb ?_, rfl⟩ | refine ⟨_, rfl, Yw (by first | rfl | omega) ?_, rfl⟩ | refine And.intro ?_ ?_)); done)
          | (refine ⟨(i + 1, -1), ⟨by dsimp only; omega, bestP_keep0 hb (by first | assumption | (simp_all; done))⟩, by dsimp only; omega, ?_, ?_, ?_, ?_⟩ <;> (repeat' (first | exact trivial | exact Yr | exact Yi (by first | rfl | omega) | exact Yo (by first | rfl | omega) | exact Yd | exact Yn | exact Ye (by first | rfl | omega) | exact ⟨_, rfl, Yf, rfl⟩ | refine ⟨_, rfl, Yb ?_, rfl⟩ | refine ⟨_, rfl, Yw (by first | rfl | omega) ?_, rfl⟩ | refine And.intro ?_ ?_)); done)
      · have f2 := rR_t hw hn ht (show m < ws.length by omega)
        rw [← hR] at f2
        (repeat' (first | refine Zs ?_ | refine Zk ?_ | ((first | refine Za ?_ | refine Zr ?_ | refine Zp ?_ | refine Ze ?_ | refine Zd ?_ | refine W.drawT dr47 rfl mixed rfl ?_ | refine Zn ?_ | refine Zc ?_ | refine UnK.mk (fun b hb => ?_)); conv => whnf) | (refine Zb (fun h => ?_) (fun h => ?_) <;> first | exact Zx | (conv => whnf))))
        all_goals (try dsimp only [Int.toNat_natCast] at *)
        all_goals (try simp only [Nat.zero_add] at *)
        (repeat' (first | refine Zs ?_ | refine Zk ?_ | ((first | refine Za ?_ | refine Zr ?_ | refine Zp ?_ | refine Ze ?_ | refine Zd ?_ | refine W.drawT dr47 rfl mixed rfl ?_ | refine Zn ?_ | refine Zc ?_ | refine UnK.mk (fun b hb => ?_) | refine Zy f1 ?_ | refine Zz f1 ?_ | refine Zy f2 ?_ | refine Zz f2 ?_); conv => whnf) | (refine Zb (fun h => ?_) (fun h => ?_) <;> first | exact Zx | (conv => whnf))))
        all_goals (try dsimp only [Int.toNat_natCast] at *)
        all_goals (try simp only [Nat.zero_add] at *)
        (repeat' (first | refine Zs ?_ | refine Zk ?_ | ((first | refine Za ?_ | refine Zr ?_ | refine Zp ?_ | refine Ze ?_ | refine Zd ?_ | refine W.drawT dr47 rfl mixed rfl ?_ | refine Zn ?_ | refine Zc ?_ | refine UnK.mk (fun b hb => ?_) | refine Zy f1 ?_ | refine Zz f1 ?_ | refine Zy f2 ?_ | refine Zz f2 ?_); conv => whnf) | (refine Zb (fun h => ?_) (fun h => ?_) <;> first | exact Zx | (conv => whnf))))
        all_goals first
          | (refine ⟨(i + 1, (i : Int)), ⟨by dsimp only; omega, bestP_new hm2 (by first | assumption | (simp_all; done)) (by first | assumption | omega)⟩, by dsimp only; omega, ?_, ?_, ?_, ?_⟩ <;> (repeat' (first | exact trivial | exact Yr | exact Yi (by first | rfl | omega) | exact Yo (by first | rfl | omega) | exact Yd | exact Yn | exact Ye (by first | rfl | omega) | exact ⟨_, rfl, Yf, rfl⟩ | refine ⟨_, rfl, Yb ?_, rfl⟩ | refine ⟨_, rfl, Yw (by first | rfl | omega) ?_, rfl⟩ | refine And.intro ?_ ?_)); done)
          | (refine ⟨(i + 1, (m : Int)), ⟨by dsimp only; omega, bestP_keep hm hm1 hm2 (by first | (left; assumption) | (right; omega) | (simp_all; done))⟩, by dsimp only; omega, ?_, ?_, ?_, ?_⟩ <;> (repeat' (first | exact trivial | exact Yr | exact Yi (by first | rfl | omega) | exact Yo (by first | rfl | omega) | exact Yd | exact Yn | exact Ye (by first | rfl | omega) | exact ⟨_, rfl, Yf, rfl⟩ | refine ⟨_, rfl, Yb ?_, rfl⟩ | refine ⟨_, rfl, Yw (by first | rfl | omega) ?_, rfl⟩ | refine And.intro ?_ ?_)); done)
    · obtain rfl : i = ws.length := by omega
      rcases hb with ⟨rfl, hb⟩ | ⟨m, rfl, hm, hm1, hm2⟩
      · (repeat' (first | refine Zs ?_ | refine Zk ?_ | ((first | refine Za ?_ | refine Zr ?_ | refine Zp ?_ | refine Ze ?_ | refine Zd ?_ | refine W.drawT dr47 rfl mixed rfl ?_ | refine Zn ?_ | refine Zc ?_ | refine UnK.mk (fun b hb => ?_)); conv => whnf) | (refine Zb (fun h => ?_) (fun h => ?_) <;> first | exact Zx | (conv => whnf))))
        have hjn := all_among hj hb
        exfalso; omega
      · obtain ⟨hjn, hms⟩ := best_sort hm hm1 hm2
        have hv := shV_rng (k := j) hw ht.1 hm
        have hg : (outP t ws j).getD m default = shV t ws j m := by simp [outP, hm]
        have hset : (outP t ws j).set m (shV t ws j m + 1) = outP t ws (j + 1) := by
          have e := outP_set t ws j hjn
          rw [← hR, ← hms] at e
          exact e
        have hsucc : ∀ i, among ws.length R (j + 1) i = (among ws.length R j i || Nat.beq m i) := fun i => by rw [among_succ hjn, ← hms]
        (repeat' (first | refine Zs ?_ | refine Zk ?_ | ((first | refine Za ?_ | refine Zr ?_ | refine Zp ?_ | refine Ze ?_ | refine Zd ?_ | refine W.drawT dr47 rfl mixed rfl ?_ | refine Zn ?_ | refine Zc ?_ | refine UnK.mk (fun b hb => ?_)); conv => whnf) | (refine Zb (fun h => ?_) (fun h => ?_) <;> first | exact Zx | (conv => whnf))))
        all_goals (try dsimp only [Int.toNat_natCast] at *)
        all_goals (try simp only [Nat.zero_add] at *)
        refine NumK.as (shV t ws j m + 1) ?_ ?_
        · rw [hg]
          exact wrapOk (by omega)
        conv => whnf
        (repeat' (first | refine Zs ?_ | refine Zk ?_ | ((first | refine Za ?_ | refine Zr ?_ | refine Zp ?_ | refine Ze ?_ | refine Zd ?_ | refine W.drawT dr47 rfl mixed rfl ?_ | refine Zn ?_ | refine Zc ?_ | refine UnK.mk (fun b hb => ?_)); conv => whnf) | (refine Zb (fun h => ?_) (fun h => ?_) <;> first | exact Zx | (conv => whnf))))
        refine ⟨j + 1, ⟨by omega, by omega⟩, by omega, ?_, ?_, ?_, ?_⟩
        all_goals (repeat' (first | exact trivial | exact Yr | exact Yi (by first | rfl | omega) | exact Yo (by first | rfl | omega) | exact Yd | exact Yn | exact Ye (by first | rfl | omega) | exact ⟨_, rfl, Yf, rfl⟩ | refine ⟨_, rfl, Yb ?_, rfl⟩ | refine ⟨_, rfl, Yw (by first | rfl | omega) ?_, rfl⟩ | refine And.intro ?_ ?_))
        · rw [← hset]
          have h := (RowIs.refl iE 1 (outP t ws j)).set (k := m) (x := shV t ws j m + 1) (ds := [.val (.int .i64 (shV t ws j m + 1))]) rfl fun j hj => by
            obtain rfl : j = 0 := by omega
            exact Dle.refl _
          intro i hi j' hj'
          simp only [Nat.zero_add, Int.toNat_natCast]
          exact h.le i (by rw [outP_len]; exact hi) j' hj'
        · intro i hi j' hj'
          (try simp only [Nat.zero_add, Int.toNat_natCast])
          rw [setF_eq]
          split
          · rename_i h
            obtain ⟨rfl, _, h3⟩ := h
            obtain rfl : j' = 0 := by omega
            rw [hsucc]
            simp
            exact Dle.refl _
          · rename_i h
            have hne : ¬ i = m := fun e => h ⟨e, Nat.zero_le _, by simpa using hj'⟩
            rw [hsucc]
            have : Nat.beq m i = false := by
              cases hb : Nat.beq m i with
              | false => rfl
              | true => exact absurd (Nat.eq_of_beq_eq_true hb).symm hne
            rw [this, Bool.or_false]
            exact Dle.refl _
  · have hj2 : (leftQ t ws).toNat = j := by omega
    all_goals first
      | (rw [← hfull, hj2]; exact RowIs.res rfl ⟨(outP_len t ws j).symm, fun _ _ _ _ => Dle.refl _⟩ rfl)

end Go.Proofs.YtleknjngglhmaaaGreat
