/- The reference's shares, its lists divided. The reference's Share. The reference's front and Take. The reference's Take. -/
import Derived.Test.YtacpjihbbmoolaaGreatDoorFG
import Derived.Test.YtacpjihbbmoolaaGreatDoorRM

namespace Go.Proofs.YtacpjihbbmoolaaGreatDoor
open Go Go.RowKit
set_option linter.unusedVariables false
set_option linter.unusedSimpArgs false
set_option maxRecDepth 100000
set_option maxHeartbeats 4000000
attribute [local irreducible] ResLe AVle ArgLe ArgP EntLe Dle ResH ArgQ

theorem rRest_t (a b c : Nat) (hc : 0 < c) (hc2 : c < 1152921504606846976) (hb : b < 1152921504606846976) (ha : a < 4611686018427387904) : ACalls XX 146 [iA a, iA b, iA c] (iA ((a * b % c : Nat) : Int)) := by
  have hm : (a : Int).tmod c = ((a % c : Nat) : Int) := by rw [Int.tmod_eq_emod_of_nonneg (by omega)]; simp
  have hm2 : a % c < c := Nat.mod_lt _ hc
  have hfin : a * b % c = b * (a % c) % c := by rw [Nat.mul_comm a b, Nat.mul_mod, Nat.mul_mod b (a % c), Nat.mod_mod]
  refine ACalls.of (n := Tryz.f146.ntmps) XX_ok Tryz.func146 rfl (by kernel_rfl) rfl rfl (Nat.le_of_ble_eq_true rfl) ?_
  (repeat' (first|((first|refine Zg ?_|refine Zn ?_|refine Zc ?_|refine Zu fun b hb=>?_);conv=>whnf)|(refine Zb ?_ ?_<;>(intro h;first|exact Zx|conv=>whnf))))
  simp only [hm]
  rw [hfin]
  clear hm hfin
  generalize a % c = rest at *
  refine (W.loopK (ι := Nat × Int × Int) [1, 2, 7] [] (fun q => [(8, iA q.2.2), (9, iA (60 - (q.1 : Int)))]) (fun _ => []) (fun q => q.1 ≤ 61 ∧ ((b / 2 ^ (61 - q.1) : Nat) : Int) * rest = c * q.2.1 + q.2.2 ∧ 0 ≤ q.2.2 ∧ q.2.2 < c ∧ 0 ≤ q.2.1) (fun q => 61 - q.1) (0, 0, 0) ⟨by omega, by
    rw [Nat.div_eq_of_lt (by show b < 2 ^ 61; omega)]; simp, by dsimp only; omega, by dsimp only; omega, by dsimp only; omega⟩ ⟨AVle.refl _, AVle.refl _, trivial⟩ trivial ?_)
  conv => whnf
  intro ⟨k, t, r⟩ ⟨hk, hE, hr0, hr1, ht0⟩
  dsimp only at hk hE hr0 hr1 ht0 ⊢
  have q1 : (c : Int) * (2 * t) = 2 * (c * t) := by rw [Int.mul_left_comm]
  have q2 : (c : Int) * (2 * t + 1) = 2 * (c * t) + c := by rw [Int.mul_add, Int.mul_one, q1]
  have q3 : (c : Int) * (2 * t + 1 + 1) = 2 * (c * t) + c + c := by rw [Int.mul_add, Int.mul_one, q2]
  have hE1 : k ≤ 60 → andI IntKind.i64 ((b : Int).fdiv (2 ^ min (60 - (k : Int)).toNat IntKind.i64.bits)) 1 = 1 → ((b / 2 ^ (60 - k) : Nat) : Int) * rest = 2 * (c * t) + 2 * r + rest := fun hk' h => by
    have hbit : andI .i64 ((b : Int).fdiv (2 ^ (min (60 - (k : Int)).toNat 64))) 1 = ((b / 2 ^ (60 - k) % 2 : Nat) : Int) := by rw [shr_nat b k hk', andI_one]
    have h' := hbit.symm.trans h
    have hB := half b k hk'
    have h3 : ((b / 2 ^ (60 - k) : Nat) : Int) = 2 * ((b / 2 ^ (61 - k) : Nat) : Int) + 1 := by omega
    rw [h3, Int.add_mul, Int.mul_assoc, hE]; omega
  have hE0 : k ≤ 60 → ¬ andI IntKind.i64 ((b : Int).fdiv (2 ^ min (60 - (k : Int)).toNat IntKind.i64.bits)) 1 = 1 → ((b / 2 ^ (60 - k) : Nat) : Int) * rest = 2 * (c * t) + 2 * r := fun hk' h => by
    have hbit : andI .i64 ((b : Int).fdiv (2 ^ (min (60 - (k : Int)).toNat 64))) 1 = ((b / 2 ^ (60 - k) % 2 : Nat) : Int) := by rw [shr_nat b k hk', andI_one]
    have h' : ¬ ((b / 2 ^ (60 - k) % 2 : Nat) : Int) = 1 := fun e => h (hbit.trans e)
    have hB := half b k hk'
    have h3 : ((b / 2 ^ (60 - k) : Nat) : Int) = 2 * ((b / 2 ^ (61 - k) : Nat) : Int) := by omega
    rw [h3, Int.mul_assoc, hE]; omega
  have e61 : 61 - (k + 1) = 60 - k := by omega
  (repeat' (first|((first|refine Zg ?_|refine Zn ?_|refine Zc ?_|refine Zu fun b hb=>?_);conv=>whnf)|(refine Zb ?_ ?_<;>(intro h;first|exact Zx|conv=>whnf))))
  all_goals first
    | (refine ⟨(k + 1, 2 * t + 1 + 1, _), ⟨?_, ?_, ?_, ?_, ?_⟩, ?_, ⟨AVle.refl _, AVle.int ?_, trivial⟩, trivial, ⟨AVle.refl _, AVle.refl _, AVle.refl _, trivial⟩, trivial⟩ <;> (dsimp only; (try rw [e61]); first|omega|(rw [hE1 (by omega) (by assumption)]; omega)|(rw [hE0 (by omega) (by assumption)]; omega)); done)
    | (refine ⟨(k + 1, 2 * t + 1, _), ⟨?_, ?_, ?_, ?_, ?_⟩, ?_, ⟨AVle.refl _, AVle.int ?_, trivial⟩, trivial, ⟨AVle.refl _, AVle.refl _, AVle.refl _, trivial⟩, trivial⟩ <;> (dsimp only; (try rw [e61]); first|omega|(rw [hE1 (by omega) (by assumption)]; omega)|(rw [hE0 (by omega) (by assumption)]; omega)); done)
    | (refine ⟨(k + 1, 2 * t, _), ⟨?_, ?_, ?_, ?_, ?_⟩, ?_, ⟨AVle.refl _, AVle.int ?_, trivial⟩, trivial, ⟨AVle.refl _, AVle.refl _, AVle.refl _, trivial⟩, trivial⟩ <;> (dsimp only; (try rw [e61]); first|omega|(rw [hE1 (by omega) (by assumption)]; omega)|(rw [hE0 (by omega) (by assumption)]; omega)); done)
    | skip
  have hk61 : k = 61 := by omega
  subst hk61
  have hd : ((b * rest % c : Nat) : Int) = r := by
    have hE' : (b : Int) * rest = c * t + r := by simpa using hE
    rw [Int.natCast_emod, Int.natCast_mul, hE', Int.add_comm, Int.add_mul_emod_self_left, Int.emod_eq_of_lt hr0 hr1]
  rw [hd]
  (repeat' (first|exact Zrq|refine ResLe.agg ?_|refine And.intro ?_ ?_|((conv=>whnf); first|exact Zrq|refine ResLe.agg ?_|refine And.intro ?_ ?_)))

theorem w_le_sum {ws : List Int} (h : wOk ws) {i : Nat} (hi : i < ws.length) : ws.getD i default ≤ ws.sum := by
  have : ∀ (l : List Int), wOk l → ∀ w ∈ l, w ≤ l.sum := by
    intro l
    induction l with
    | nil => intro _ w hw; simp at hw
    | cons a l ih =>
      intro hl w hw
      have hl' : wOk l := fun x hx => hl x (by simp [hx])
      have h4 := sum_nonneg hl'
      have ha := hl a (by simp)
      rcases List.mem_cons.1 hw with rfl|hw
      · simp; omega
      · have := ih hl' w hw
        simp; omega
  exact this ws h _ (getD_mem0 hi)
theorem rQ_t {t : Int} {ws : List Int} (hw : wOk ws) (hn : ws.length ≤ 1000) (ht : 0 ≤ t ∧ t ≤ 1000000000000) {i : Nat} (hi : i < ws.length) : ACalls XX 94 [iA t, iA (ws.getD i default), iA ws.sum] (iA (shQ t ws i)) := by
  have hx := hw _ (getD_in hi)
  have h1 := sum_nonneg hw
  have h2 := sum_le hw
  have h3 := w_le_sum hw hi
  have e : shQ t ws i = t * ws.getD i default / ws.sum := rfl
  rw [e]
  obtain ⟨a, rfl⟩ := Int.eq_ofNat_of_zero_le ht.1
  obtain ⟨b, hb⟩ := Int.eq_ofNat_of_zero_le (show 0 ≤ ws.getD i default by omega)
  obtain ⟨c, hc⟩ := Int.eq_ofNat_of_zero_le (show 0 ≤ ws.sum by omega)
  rw [hb, hc] at h3 ⊢
  rw [hb] at hx
  rw [hc] at h1 h2
  have q1 : a / c * b ≤ a / c * c := Nat.mul_le_mul_left _ (by omega)
  have q2 := Nat.div_mul_le_self a c
  have k := rmulDiv_t a b c (by omega) (by omega) (by omega) (by omega) (by omega)
  have e2 : ((a * b / c : Nat) : Int) = (a : Int) * b / c := by simp
  rw [e2] at k
  exact k
theorem rR_t {t : Int} {ws : List Int} (hw : wOk ws) (hn : ws.length ≤ 1000) (ht : 0 ≤ t ∧ t ≤ 1000000000000) {i : Nat} (hi : i < ws.length) : ACalls XX 146 [iA t, iA (ws.getD i default), iA ws.sum] (iA (shR t ws i)) := by
  have hx := hw _ (getD_in hi)
  have h1 := sum_nonneg hw
  have h2 := sum_le hw
  have e : shR t ws i = t * ws.getD i default % ws.sum := rfl
  rw [e]
  obtain ⟨a, rfl⟩ := Int.eq_ofNat_of_zero_le ht.1
  obtain ⟨b, hb⟩ := Int.eq_ofNat_of_zero_le (show 0 ≤ ws.getD i default by omega)
  obtain ⟨c, hc⟩ := Int.eq_ofNat_of_zero_le (show 0 ≤ ws.sum by omega)
  rw [hb, hc]
  rw [hb] at hx
  rw [hc] at h1 h2
  have k := rRest_t a b c (by omega) (by omega) (by omega) (by omega)
  have e2 : ((a * b % c : Nat) : Int) = (a : Int) * b % c := by simp
  rw [e2] at k
  exact k
def outP (t : Int) (ws : List Int) (j : Nat) : List Int := (List.range ws.length).map (shV t ws j)
theorem outP_len (t : Int) (ws : List Int) (j : Nat) : (outP t ws j).length = ws.length := by simp [outP]
theorem outP_zero (t : Int) (ws : List Int) : outP t ws 0 = (List.range ws.length).map (shQ t ws) := by
  unfold outP
  apply List.map_congr_left
  intro i hi
  unfold shV
  have : among ws.length (shR t ws) 0 i = false := by
    cases hb : among ws.length (shR t ws) 0 i with
    | false => rfl
    | true => obtain ⟨q, hq, _⟩ := among_iff.1 hb; omega
  rw [this]
  simp
theorem outP_set (t : Int) (ws : List Int) (j : Nat) (hj : j < ws.length) : (outP t ws j).set (sortAt ws.length (cfP (shR t ws)) j) (shV t ws j (sortAt ws.length (cfP (shR t ws)) j) + 1) = outP t ws (j + 1) := by
  have hs := sortAt_lt (cfP_swo (shR t ws)) hj
  apply List.ext_getElem?
  intro i
  rw [List.getElem?_set]
  unfold outP
  by_cases hi : i < ws.length
  · by_cases he : sortAt ws.length (cfP (shR t ws)) j = i
    · subst he
      rw [if_pos rfl, if_pos (by simpa using hs), List.getElem?_map, List.getElem?_range hs]
      simp only [Option.map_some, shV, among_at hj]
      simp
    · rw [if_neg he, List.getElem?_map, List.getElem?_map, List.getElem?_range hi]
      simp only [Option.map_some, shV]
      rw [among_succ hj]
      have : Nat.beq (sortAt ws.length (cfP (shR t ws)) j) i = false := by
        cases hb : Nat.beq (sortAt ws.length (cfP (shR t ws)) j) i with
        | false => rfl
        | true => exact absurd (Nat.eq_of_beq_eq_true hb) he
      rw [this, Bool.or_false]
  · have hne : ¬ sortAt ws.length (cfP (shR t ws)) j = i := by omega
    rw [if_neg hne]
    simp [hi]
def bestP (n : Nat) (R : Nat → Int) (j i : Nat) (b : Int) : Prop := (b = -1 ∧ ∀ q, q < i → among n R j q = true) ∨ ∃ m : Nat, b = m ∧ m < i ∧ among n R j m = false ∧ ∀ q, q < i → among n R j q = false → q = m ∨ cfP R m q < 0
theorem best_sort {n : Nat} {R : Nat → Int} {j : Nat} {m : Nat} (hm : m < n) (h1 : among n R j m = false) (h2 : ∀ q, q < n → among n R j q = false → q = m ∨ cfP R m q < 0) : j < n ∧ m = sortAt n (cfP R) j := by
  have hj : j < n := by
    rcases Nat.lt_or_ge j n with h|h
    · exact h
    · rw [among_full h hm] at h1; cases h1
  refine ⟨hj, ?_⟩
  have hs := sortAt_lt (cfP_swo R) hj
  have ha : among n R j (sortAt n (cfP R) j) = false := by rw [among_at hj]; simp
  rcases next_least hj hm h1 with h|h
  · exact h
  · rcases h2 _ hs ha with h'|h'
    · exact h'.symm
    · rw [cfP_neg] at h h'
      omega

theorem bestP_first {n : Nat} {R : Nat → Int} {j i : Nat} (h : ∀ q, q < i → among n R j q = true) (ha : among n R j i = false) : bestP n R j (i + 1) i :=
  .inr ⟨i, rfl, by omega, ha, fun q hq hqa => by
    rcases Nat.lt_or_ge q i with h1|h1
    · rw [h q h1] at hqa; cases hqa
    · exact .inl (by omega)⟩
theorem bestP_keep0 {n : Nat} {R : Nat → Int} {j i : Nat} (h : ∀ q, q < i → among n R j q = true) (ha : among n R j i = true) : bestP n R j (i + 1) (-1) :=
  .inl ⟨rfl, fun q hq => by
    rcases Nat.lt_or_ge q i with h1|h1
    · exact h q h1
    · obtain rfl : q = i := by omega
      exact ha⟩
theorem bestP_new {n : Nat} {R : Nat → Int} {j i m : Nat} (hm2 : ∀ q, q < i → among n R j q = false → q = m ∨ cfP R m q < 0) (ha : among n R j i = false) (hgt : R m < R i) : bestP n R j (i + 1) i :=
  .inr ⟨i, rfl, by omega, ha, fun q hq hqa => by
    rcases Nat.lt_or_ge q i with h1|h1
    · right
      rw [cfP_neg]
      rcases hm2 q h1 hqa with rfl|h2
      · omega
      · rw [cfP_neg] at h2; omega
    · exact .inl (by omega)⟩
theorem bestP_keep {n : Nat} {R : Nat → Int} {j i m : Nat} (hm : m < i) (hm1 : among n R j m = false) (hm2 : ∀ q, q < i → among n R j q = false → q = m ∨ cfP R m q < 0) (hk : among n R j i = true ∨ R i ≤ R m) : bestP n R j (i + 1) m :=
  .inr ⟨m, rfl, by omega, hm1, fun q hq hqa => by
    rcases Nat.lt_or_ge q i with h1|h1
    · exact hm2 q h1 hqa
    · obtain rfl : q = i := by omega
      rcases hk with hk|hk
      · rw [hk] at hqa; cases hqa
      · right
        rw [cfP_neg]
        omega⟩
theorem all_among {n : Nat} {R : Nat → Int} {j : Nat} (hj : j ≤ n) (h : ∀ q, q < n → among n R j q = true) : j = n := by
  rcases Nat.lt_or_ge j n with h1|h1
  · have := h _ (sortAt_lt (cfP_swo R) h1)
    rw [among_at h1] at this
    simp at this
  · omega
theorem shV_rng {t : Int} {ws : List Int} (h : wOk ws) (ht : 0 ≤ t) {k i : Nat} (hi : i < ws.length) : 0 ≤ shV t ws k i ∧ shV t ws k i ≤ t + 1 := by
  have := shQ_rng h ht hi
  unfold shV
  split <;> omega

end Go.Proofs.YtacpjihbbmoolaaGreatDoor

namespace Go.Proofs.YtacpjihbbmoolaaGreatDoor
open Go Go.RowKit
set_option linter.unusedVariables false
set_option linter.unusedSimpArgs false
set_option maxRecDepth 100000
set_option maxHeartbeats 4000000
attribute [local irreducible] ResLe AVle ArgLe ArgP EntLe Dle ResH ArgQ

theorem rshare_t (t : Int) (ws : List Int) (hw : wOk ws) (hn : ws.length ≤ 1000) (ht : 0 ≤ t ∧ t ≤ 1000000000000) (h0 : ws = [] → t = 0) (hpos : 0 < ws.length) : ACalls XX 120 [iA t, .dat (iD ws)] (.dat (iD (shareL t ws))) := by
  have hs0 := sum_nonneg hw
  have hs1 := sum_le hw
  have hlr := left_rng hw ht.1 h0
  obtain ⟨Q, hQ⟩ : ∃ Q, Q = shQ t ws := ⟨_, rfl⟩
  have hQr : ∀ k, k < ws.length → 0 ≤ Q k ∧ Q k ≤ t := fun k hk => by rw [hQ]; exact shQ_rng hw ht.1 hk
  have hsq : ∀ k, k ≤ ws.length → 0 ≤ sumQ t ws k ∧ sumQ t ws k ≤ 1000000000000 * k := by
    intro k
    induction k with
    | zero => intro _; simp [sumQ]
    | succ k ih =>
      intro hk
      have := ih (by omega)
      have := hQr k (by omega)
      rw [sumQ_succ]
      rw [hQ] at this
      push_cast
      omega
  have hS := cfP_swo (shR t ws)
  have hfull : outP t ws (leftQ t ws).toNat = shareL t ws := rfl
  refine ACalls.of (n := Tryz.f120.ntmps) XX_ok Tryz.func120 rfl (by kernel_rfl) rfl rfl (Nat.le_of_ble_eq_true rfl) ?_
  (repeat' (first|((first|refine Zg ?_|refine Zt dr120 ?_|refine Zn ?_|refine Zc ?_|refine Zu fun b hb=>?_);conv=>whnf)|(refine Zb ?_ ?_<;>(intro h;first|exact Zx|conv=>whnf))))
  refine (W.loopK (ι := Nat) [0, 1] [] (fun k => [(6, iA k), (5, iA (ws.take k).sum)]) (fun _ => []) (fun k => k ≤ ws.length ∧ 0 ≤ (ws.take k).sum ∧ (ws.take k).sum ≤ 1000000000000 * k) (fun k => ws.length - k) 0 ⟨Nat.zero_le _, by simp, by simp⟩ ?_ ?_ ?_)
  · (repeat' (first|exact Yq|exact Yi (by first|rfl|(simp; done)|omega)|exact Yo (by first|rfl|(simp; done)|omega)|exact Ye (by first|rfl|(simp; done)|omega)|refine ⟨_, rfl, Yb ?_, rfl⟩|refine ⟨_, rfl, Yw (by first|rfl|(simp; done)|omega) ?_, rfl⟩|refine And.intro ?_ ?_))
  · exact Yz
  conv => whnf
  intro k ⟨hk, hq0, hq1⟩
  by_cases hk' : k < ws.length
  · have hx := hw _ (getD_in hk')
    have hs : (ws.take (k + 1)).sum = (ws.take k).sum + ws.getD k default := sum_take0 ws k hk'
    (repeat' (first|((first|refine Zg ?_|refine Zt dr120 ?_|refine Zn ?_|refine Zc ?_|refine Zu fun b hb=>?_);conv=>whnf)|(refine Zb ?_ ?_<;>(intro h;first|exact Zx|conv=>whnf))))
    all_goals (try dsimp only [Int.toNat_natCast] at *)
    refine ⟨k + 1, ⟨by omega, by omega, by omega⟩, by omega, ?_, ?_, ?_, ?_⟩ <;> (repeat' (first|exact Yq|refine ⟨_, rfl, Yb ?_, rfl⟩|refine ⟨_, rfl, Yw (by first|rfl|omega) ?_, rfl⟩|refine And.intro ?_ ?_))
  obtain rfl : k = ws.length := by omega
  rw [List.take_length] at *
  (repeat' (first|((first|refine Zg ?_|refine Zt dr120 ?_|refine Zn ?_|refine Zc ?_|refine Zu fun b hb=>?_);conv=>whnf)|(refine Zb ?_ ?_<;>(intro h;first|exact Zx|conv=>whnf))))
  refine (W.loopK (ι := Nat) [0, 5] [] (fun k => [(7, .own 27 1 0 ws.length), (9, .own 45 1 0 ws.length), (11, iA k), (10, iA (t - sumQ t ws k))]) (fun k => [(27, .row 3 1 ws.length (rowF iE ws)), (45, .row 3 1 ws.length (rowF iE (fillL Q ws.length k)))]) (fun k => k ≤ ws.length) (fun k => ws.length - k) 0 (Nat.zero_le _) ?_ ?_ ?_)
  · (repeat' (first|exact Yq|exact Yi (by first|rfl|(simp [sumQ]; done)|omega)|exact Yo (by first|rfl|(simp [sumQ]; done)|omega)|exact Ye (by first|rfl|(simp [sumQ]; done)|omega)|refine ⟨_, rfl, Yb ?_, rfl⟩|refine ⟨_, rfl, Yw (by first|rfl|(simp [sumQ]; done)|omega) ?_, rfl⟩|refine And.intro ?_ ?_))
  · (repeat' (first|exact Yq|refine ⟨_, rfl, Yb ?_, rfl⟩|refine ⟨_, rfl, Yw (by first|rfl|omega) ?_, rfl⟩|refine And.intro ?_ ?_))
    · have h := RowIs.cat (RowIs.nil iE 1 0 (fun _ _ => .val undef) rfl) (RowIs.refl iE 1 ws)
      exact h.le
    · intro i hi j hj
      obtain rfl : j = 0 := by omega
      have e : (fillL Q ws.length 0).getD i default = 0 := fillL_zero Q ws.length i
      show Dle _ (.val (.int .i64 ((fillL Q ws.length 0).getD i default)))
      rw [e]
      exact Dle.refl _
  conv => whnf
  intro k hk
  by_cases hk' : k < ws.length
  · have hM := rQ_t hw hn ht hk'
    have hqk := hQr k hk'
    have hsk := hsq k hk
    have hsk1 : sumQ t ws (k + 1) = sumQ t ws k + Q k := by rw [hQ]; exact sumQ_succ t ws k
    rw [← hQ] at hM
    (repeat' (first|((first|refine Zg ?_|refine Zt dr120 ?_|refine Zn ?_|refine Zc ?_|refine Zu fun b hb=>?_);conv=>whnf)|(refine Zb ?_ ?_<;>(intro h;first|exact Zx|conv=>whnf))))
    all_goals (try dsimp only [Int.toNat_natCast] at *)
    rw [Nat.zero_add k]
    (repeat' (first|((first|refine Zg ?_|refine Zt dr120 ?_|refine Zn ?_|refine Zc ?_|refine Zu fun b hb=>?_|refine Zy hM ?_|refine Zz hM ?_);conv=>whnf)|(refine Zb ?_ ?_<;>(intro h;first|exact Zx|conv=>whnf))))
    refine NumK.as (t - sumQ t ws k - Q k) ?_ ?_
    · rw [if_pos ⟨rfl, Nat.le_refl _, Nat.zero_lt_succ _⟩]
      exact wrapOk (by omega)
    conv => whnf
    (repeat' (first|((first|refine Zg ?_|refine Zt dr120 ?_|refine Zn ?_|refine Zc ?_|refine Zu fun b hb=>?_);conv=>whnf)|(refine Zb ?_ ?_<;>(intro h;first|exact Zx|conv=>whnf))))
    refine ⟨k + 1, by omega, by omega, ?_, ?_, ?_, ?_⟩
    all_goals (repeat' (first|exact Yq|refine ⟨_, rfl, Yb ?_, rfl⟩|refine ⟨_, rfl, Yw (by first|rfl|omega) ?_, rfl⟩|refine And.intro ?_ ?_))
    simp only [Nat.zero_add, Int.toNat_natCast]
    exact fill_row rfl
  obtain rfl : k = ws.length := by omega
  have hlq : t - sumQ t ws ws.length = leftQ t ws := rfl
  have hf0 : fillL Q ws.length ws.length = outP t ws 0 := by rw [fillL_full, outP_zero, hQ]
  obtain ⟨R, hR⟩ : ∃ R, R = shR t ws := ⟨_, rfl⟩
  (repeat' (first|((first|refine Zg ?_|refine Zt dr120 ?_|refine Zn ?_|refine Zc ?_|refine Zu fun b hb=>?_);conv=>whnf)|(refine Zb ?_ ?_<;>(intro h;first|exact Zx|conv=>whnf))))
  all_goals (try dsimp only [Int.toNat_natCast] at *)
  refine (W.loopK (ι := Nat) [0, 5, 7, 9] [27] (fun j => [(12, .own 71 1 0 ws.length), (10, iA (leftQ t ws - j))]) (fun j => [(45, .row 3 1 ws.length (rowF iE (outP t ws j))), (71, .row 4 1 ws.length fun i _ => .val (.bool (among ws.length R j i)))]) (fun j => j ≤ ws.length ∧ (j : Int) ≤ leftQ t ws) (fun j => ws.length - j) 0 ⟨Nat.zero_le _, by omega⟩ ?_ ?_ ?_)
  · exact Yz
  · (repeat' (first|exact Yq|refine ⟨_, rfl, Yb ?_, rfl⟩|refine ⟨_, rfl, Yw (by first|rfl|omega) ?_, rfl⟩|refine And.intro ?_ ?_))
    · rw [hf0]
      exact fun _ _ _ _ => Dle.refl _
    · intro i hi j hj
      obtain rfl : j = 0 := by omega
      have e : among ws.length R 0 i = false := by
        cases hb : among ws.length R 0 i with
        | false => rfl
        | true => obtain ⟨q, hq, _⟩ := among_iff.1 hb; omega
      rw [e]
      exact Dle.refl _
  conv => whnf
  intro j ⟨hj, hjl⟩
  (repeat' (first|((first|refine Zg ?_|refine Zt dr120 ?_|refine Zn ?_|refine Zc ?_|refine Zu fun b hb=>?_);conv=>whnf)|(refine Zb ?_ ?_<;>(intro h;first|exact Zx|conv=>whnf))))
  · refine (W.loopK (ι := Nat × Int) [0, 5, 7, 9, 10, 12] [27, 45, 71] (fun q => [(14, iA q.1), (13, iA q.2)]) (fun _ => []) (fun q => q.1 ≤ ws.length ∧ bestP ws.length R j q.1 q.2) (fun q => ws.length - q.1) (0, -1) ⟨Nat.zero_le _, .inl ⟨rfl, fun q hq => absurd hq (by omega)⟩⟩ ?_ ?_ ?_)
    · exact Yz
    · exact Yz
    conv => whnf
    intro ⟨i, b⟩ ⟨hi, hb⟩
    dsimp only at hi hb ⊢
    by_cases hi' : i < ws.length
    · have f1 := rR_t hw hn ht hi'
      rw [← hR] at f1
      rcases hb with ⟨rfl, hb⟩|⟨m, rfl, hm, hm1, hm2⟩
      · (repeat' (first|((first|refine Zg ?_|refine Zt dr120 ?_|refine Zn ?_|refine Zc ?_|refine Zu fun b hb=>?_);conv=>whnf)|(refine Zb ?_ ?_<;>(intro h;first|exact Zx|conv=>whnf))))
        all_goals (try dsimp only [Int.toNat_natCast] at *)
        all_goals (try rw [Nat.zero_add i] at *)
        (repeat' (first|((first|refine Zg ?_|refine Zt dr120 ?_|refine Zn ?_|refine Zc ?_|refine Zu fun b hb=>?_|refine Zy f1 ?_|refine Zz f1 ?_);conv=>whnf)|(refine Zb ?_ ?_<;>(intro h;first|exact Zx|conv=>whnf))))
        all_goals first
          | (refine ⟨(i + 1, (i : Int)), ⟨by dsimp only; omega, bestP_first hb (by first|assumption|(simp_all; done))⟩, by dsimp only; omega, ?_, ?_, ?_, ?_⟩ <;> (repeat' (first|exact Yq|refine ⟨_, rfl, Yb ?_, rfl⟩|refine ⟨_, rfl, Yw (by first|rfl|omega) ?_, rfl⟩|refine And.intro ?_ ?_)); done)
          | (refine ⟨(i + 1, -1), ⟨by dsimp only; omega, bestP_keep0 hb (by first|assumption|(simp_all; done))⟩, by dsimp only; omega, ?_, ?_, ?_, ?_⟩ <;> (repeat' (first|exact Yq|refine ⟨_, rfl, Yb ?_, rfl⟩|refine ⟨_, rfl, Yw (by first|rfl|omega) ?_, rfl⟩|refine And.intro ?_ ?_)); done)
      · have f2 := rR_t hw hn ht (show m < ws.length by omega)
        rw [← hR] at f2
        (repeat' (first|((first|refine Zg ?_|refine Zt dr120 ?_|refine Zn ?_|refine Zc ?_|refine Zu fun b hb=>?_);conv=>whnf)|(refine Zb ?_ ?_<;>(intro h;first|exact Zx|conv=>whnf))))
        all_goals (try dsimp only [Int.toNat_natCast] at *)
        all_goals (try simp only [Nat.zero_add] at *)
        (repeat' (first|((first|refine Zg ?_|refine Zt dr120 ?_|refine Zn ?_|refine Zc ?_|refine Zu fun b hb=>?_|refine Zy f1 ?_|refine Zz f1 ?_|refine Zy f2 ?_|refine Zz f2 ?_);conv=>whnf)|(refine Zb ?_ ?_<;>(intro h;first|exact Zx|conv=>whnf))))
        all_goals (try dsimp only [Int.toNat_natCast] at *)
        all_goals (try simp only [Nat.zero_add] at *)
        (repeat' (first|((first|refine Zg ?_|refine Zt dr120 ?_|refine Zn ?_|refine Zc ?_|refine Zu fun b hb=>?_|refine Zy f1 ?_|refine Zz f1 ?_|refine Zy f2 ?_|refine Zz f2 ?_);conv=>whnf)|(refine Zb ?_ ?_<;>(intro h;first|exact Zx|conv=>whnf))))
        all_goals first
          | (refine ⟨(i + 1, (i : Int)), ⟨by dsimp only; omega, bestP_new hm2 (by first|assumption|(simp_all; done)) (by first|assumption|omega)⟩, by dsimp only; omega, ?_, ?_, ?_, ?_⟩ <;> (repeat' (first|exact Yq|refine ⟨_, rfl, Yb ?_, rfl⟩|refine ⟨_, rfl, Yw (by first|rfl|omega) ?_, rfl⟩|refine And.intro ?_ ?_)); done)
          | (refine ⟨(i + 1, (m : Int)), ⟨by dsimp only; omega, bestP_keep hm hm1 hm2 (by first|(left; assumption)|(right; omega)|(simp_all; done))⟩, by dsimp only; omega, ?_, ?_, ?_, ?_⟩ <;> (repeat' (first|exact Yq|refine ⟨_, rfl, Yb ?_, rfl⟩|refine ⟨_, rfl, Yw (by first|rfl|omega) ?_, rfl⟩|refine And.intro ?_ ?_)); done)
    · obtain rfl : i = ws.length := by omega
      rcases hb with ⟨rfl, hb⟩|⟨m, rfl, hm, hm1, hm2⟩
      · (repeat' (first|((first|refine Zg ?_|refine Zt dr120 ?_|refine Zn ?_|refine Zc ?_|refine Zu fun b hb=>?_);conv=>whnf)|(refine Zb ?_ ?_<;>(intro h;first|exact Zx|conv=>whnf))))
        have hjn := all_among hj hb
        exfalso; omega
      · obtain ⟨hjn, hms⟩ := best_sort hm hm1 hm2
        have hv := shV_rng (k := j) hw ht.1 hm
        have hg : (outP t ws j).getD m default = shV t ws j m := by simp [outP, hm]
        have hset : (outP t ws j).set m (shV t ws j m + 1) = outP t ws (j + 1) := by
          have e := outP_set t ws j hjn
          rw [← hR, ← hms] at e
          exact e
        have hsucc : ∀ i, among ws.length R (j + 1) i = (among ws.length R j i || Nat.beq m i) := fun i => by rw [among_succ hjn, ← hms]
        (repeat' (first|((first|refine Zg ?_|refine Zt dr120 ?_|refine Zn ?_|refine Zc ?_|refine Zu fun b hb=>?_);conv=>whnf)|(refine Zb ?_ ?_<;>(intro h;first|exact Zx|conv=>whnf))))
        all_goals (try dsimp only [Int.toNat_natCast] at *)
        all_goals (try simp only [Nat.zero_add] at *)
        refine NumK.as (shV t ws j m + 1) ?_ ?_
        · rw [hg]
          exact wrapOk (by omega)
        conv => whnf
        (repeat' (first|((first|refine Zg ?_|refine Zt dr120 ?_|refine Zn ?_|refine Zc ?_|refine Zu fun b hb=>?_);conv=>whnf)|(refine Zb ?_ ?_<;>(intro h;first|exact Zx|conv=>whnf))))
        refine ⟨j + 1, ⟨by omega, by omega⟩, by omega, ?_, ?_, ?_, ?_⟩
        all_goals (repeat' (first|exact Yq|refine ⟨_, rfl, Yb ?_, rfl⟩|refine ⟨_, rfl, Yw (by first|rfl|omega) ?_, rfl⟩|refine And.intro ?_ ?_))
        · rw [← hset]
          have h := (RowIs.refl iE 1 (outP t ws j)).set (k := m) (x := shV t ws j m + 1) (ds := [.val (.int .i64 (shV t ws j m + 1))]) rfl fun j hj => by
            obtain rfl : j = 0 := by omega
            exact Dle.refl _
          intro i hi j' hj'
          simp only [Nat.zero_add, Int.toNat_natCast]
          exact h.le i (by rw [outP_len]; exact hi) j' hj'
        · intro i hi j' hj'
          (try simp only [Nat.zero_add, Int.toNat_natCast])
          rw [setF_eq]
          split
          · rename_i h
            obtain ⟨rfl, _, h3⟩ := h
            obtain rfl : j' = 0 := by omega
            rw [hsucc]
            simp
            exact Dle.refl _
          · rename_i h
            have hne : ¬ i = m := fun e => h ⟨e, Nat.zero_le _, by simpa using hj'⟩
            rw [hsucc]
            have : Nat.beq m i = false := by
              cases hb : Nat.beq m i with
              | false => rfl
              | true => exact absurd (Nat.eq_of_beq_eq_true hb).symm hne
            rw [this, Bool.or_false]
            exact Dle.refl _
  · have hj2 : (leftQ t ws).toNat = j := by omega
    all_goals first
      | (rw [← hfull, hj2]; exact RowIs.res rfl ⟨(outP_len t ws j).symm, fun _ _ _ _ => Dle.refl _⟩ rfl)

end Go.Proofs.YtacpjihbbmoolaaGreatDoor

namespace Go.Proofs.YtacpjihbbmoolaaGreatDoor
open Go Go.RowKit
set_option linter.unusedVariables false
set_option linter.unusedSimpArgs false
set_option maxRecDepth 100000
set_option maxHeartbeats 4000000
attribute [local irreducible] ResLe AVle ArgLe ArgP EntLe Dle ResH ArgQ

theorem shL_clamp : ∀ {us : List Sl} (n : Int) (_ : ∀ y ∈ us, y.s ≤ y.e) {k : Nat} (_ : k < us.length), (shL us (max n 0)).getD k default = min (max (n - cnt (us.take k)) 0) (lenS (us.getD k default))
  | [], n, _, k, h => by simp at h
  | x :: l, n, hv, 0, h => by simp [shL, cnt_nil]
  | x :: l, n, hv, k + 1, h => by
    have hx := hv x (by simp)
    have ih := shL_clamp (n - lenS x) (fun y hy => hv y (List.mem_cons_of_mem _ hy)) (k := k) (by simpa using h)
    have e : max n 0 - min (max n 0) (lenS x) = max (n - lenS x) 0 := by unfold lenS; omega
    have e2 : n - (lenS x + cnt (l.take k)) = n - lenS x - cnt (l.take k) := by omega
    rw [← e] at ih
    simp only [shL, List.take_succ_cons, cnt_cons, e2]
    simpa using ih
theorem zip_filter_succ {f : Sl → Int → Sl} {us : List Sl} {ks : List Int} (hl : ks.length = us.length) {k : Nat} (hk : k < us.length) : ((List.zipWith f us ks).take (k + 1)).filter nz = ((List.zipWith f us ks).take k).filter nz ++ (if nz (f (us.getD k default) (ks.getD k default)) = true then [f (us.getD k default) (ks.getD k default)] else []) := by
  rw [take_snoc _ _ (by simp; omega), List.filter_append, zip_at hl hk]
  congr 1
  by_cases h : nz (f (us.getD k default) (ks.getD k default)) = true
  · rw [if_pos h, List.filter_cons_of_pos h, List.filter_nil]
  · rw [if_neg h, List.filter_cons_of_neg h, List.filter_nil]
theorem filt_len {f : Sl → Int → Sl} (us : List Sl) (ks : List Int) (k : Nat) : (((List.zipWith f us ks).take k).filter nz).length ≤ k := by
  have h1 := List.length_filter_le nz ((List.zipWith f us ks).take k)
  have h2 := List.length_take_le k (List.zipWith f us ks)
  omega
theorem rfront_t (us : List Sl) (n : Int) (hv : ∀ y ∈ us, slOk y) (hL : us.length ≤ 100000) (hn : -100000000000000 ≤ n ∧ n ≤ 4611686018427387904) : ACalls XX 119 [.dat (slD us), iA n] (.tup [.dat (slD (frA us (max n 0))), .dat (slD (frB us (max n 0)))]) := by
  have hlen := shL_len us (max n 0)
  have hcl := fun k (hk : k < us.length) => shL_clamp n (slOk_le hv) hk
  obtain ⟨ks, hks⟩ : ∃ ks, ks = shL us (max n 0) := ⟨_, rfl⟩
  rw [← hks] at hlen hcl
  have hA1 : frA us (max n 0) = (((List.zipWith fstP us ks).take us.length).filter nz).foldl extR [] := by
    rw [← foldl_extL, hks]
    have : (List.zipWith fstP us (shL us (max n 0))).take us.length = List.zipWith fstP us (shL us (max n 0)) := List.take_of_length_le (by rw [List.length_zipWith]; exact Nat.min_le_left _ _)
    rw [this]; rfl
  have hB1 : frB us (max n 0) = (((List.zipWith sndP us ks).take us.length).filter nz).foldl extR [] := by
    rw [← foldl_extL, hks]
    have : (List.zipWith sndP us (shL us (max n 0))).take us.length = List.zipWith sndP us (shL us (max n 0)) := List.take_of_length_le (by rw [List.length_zipWith]; exact Nat.min_le_left _ _)
    rw [this]; rfl
  obtain ⟨A, hA⟩ : ∃ A : Nat → List Sl, A = fun k => ((List.zipWith fstP us ks).take k).filter nz := ⟨_, rfl⟩
  obtain ⟨B, hB⟩ : ∃ B : Nat → List Sl, B = fun k => ((List.zipWith sndP us ks).take k).filter nz := ⟨_, rfl⟩
  have hA0 : A 0 = [] := by rw [hA]; rfl
  have hB0 : B 0 = [] := by rw [hB]; rfl
  have hAS : ∀ k, k < us.length → A (k + 1) = A k ++ (if nz (fstP (us.getD k default) (ks.getD k default)) = true then [fstP (us.getD k default) (ks.getD k default)] else []) := fun k hk => by
    rw [hA]; exact zip_filter_succ hlen hk
  have hBS : ∀ k, k < us.length → B (k + 1) = B k ++ (if nz (sndP (us.getD k default) (ks.getD k default)) = true then [sndP (us.getD k default) (ks.getD k default)] else []) := fun k hk => by
    rw [hB]; exact zip_filter_succ hlen hk
  have hAl : ∀ k, (A k).length ≤ k := fun k => by rw [hA]; exact filt_len us ks k
  have hBl : ∀ k, (B k).length ≤ k := fun k => by rw [hB]; exact filt_len us ks k
  have j1 := rjoin_t (A us.length) (by have := hAl us.length; omega)
  have j2 := rjoin_t (B us.length) (by have := hBl us.length; omega)
  have hA2 : (((List.zipWith fstP us ks).take us.length).filter nz) = A us.length := by rw [hA]
  have hB2 : (((List.zipWith sndP us ks).take us.length).filter nz) = B us.length := by rw [hB]
  rw [hA1, hB1, hA2, hB2]
  clear hA hB hA1 hB1 hA2 hB2 hks
  refine ACalls.of (n := Tryz.f119.ntmps) XX_ok Tryz.func119 rfl (by kernel_rfl) rfl rfl (Nat.le_of_ble_eq_true rfl) ?_
  (repeat' (first|((first|refine Zg ?_|refine Zn ?_|refine Zc ?_|refine Zu fun b hb=>?_);conv=>whnf)|(refine Zb ?_ ?_<;>(intro h;first|exact Zx|conv=>whnf))))
  refine (W.adopt 6 49 63 3 (rowF slE []) rfl rfl rfl rfl ?_)
  conv => whnf
  refine (W.adopt 7 68 63 3 (rowF slE []) rfl rfl rfl rfl ?_)
  conv => whnf
  refine (W.loopK (ι := Nat) [0] [] (fun k => [(8, iA k), (1, iA (n - cnt (us.take k))), (6, .own 49 3 0 (A k).length), (7, .own 68 3 0 (B k).length)]) (fun k => [(49, .row 63 3 (A k).length (rowF slE (A k))), (68, .row 63 3 (B k).length (rowF slE (B k)))]) (fun k => k ≤ us.length) (fun k => us.length - k) 0 (Nat.zero_le _) ?_ ?_ ?_)
  · (repeat' (first|exact Yq|exact Yi (by first|rfl|(rw [hA0]; rfl)|(rw [hB0]; rfl)|(simp [cnt_nil]; done)|omega)|exact Yo (by first|rfl|(rw [hA0]; rfl)|(rw [hB0]; rfl)|(simp [cnt_nil]; done)|omega)|exact Ye (by first|rfl|(rw [hA0]; rfl)|(rw [hB0]; rfl)|(simp [cnt_nil]; done)|omega)|refine ⟨_, rfl, Yb ?_, rfl⟩|refine ⟨_, rfl, Yw (by first|rfl|(rw [hA0]; rfl)|(rw [hB0]; rfl)|(simp [cnt_nil]; done)|omega) ?_, rfl⟩|refine And.intro ?_ ?_))
  · (repeat' (first|exact Yq|exact Yi (by first|rfl|(rw [hA0]; rfl)|(rw [hB0]; rfl)|omega)|exact Yo (by first|rfl|(rw [hA0]; rfl)|(rw [hB0]; rfl)|omega)|exact Ye (by first|rfl|(rw [hA0]; rfl)|(rw [hB0]; rfl)|omega)|refine ⟨_, rfl, Yb ?_, rfl⟩|refine ⟨_, rfl, Yw (by first|rfl|(rw [hA0]; rfl)|(rw [hB0]; rfl)|omega) ?_, rfl⟩|refine And.intro ?_ ?_))
    all_goals (intro i hi; exact absurd hi (Nat.not_lt_zero _))
  conv => whnf
  intro k hk
  have hr := cnt_rng hv k
  by_cases hk' : k < us.length
  · have hx := hv _ (getD_in hk')
    have hc := hcl k hk'
    have ht := cnt_take us k hk'
    have ea := hAS k hk'
    have eb := hBS k hk'
    have la := hAl k
    have lb := hBl k
    generalize ks.getD k default = q at *
    unfold slOk at hx
    unfold lenS at hc ht
    unfold nz fstP at ea
    unfold nz sndP at eb
    have hq : (if (us.getD k default).e - (us.getD k default).s < (if n - cnt (us.take k) < 0 then 0 else n - cnt (us.take k)) then (us.getD k default).e - (us.getD k default).s else (if n - cnt (us.take k) < 0 then 0 else n - cnt (us.take k))) = q := by
      rw [hc]
      split <;> split at * <;> omega
    have hq0 : 0 ≤ q ∧ q ≤ (us.getD k default).e - (us.getD k default).s := by rw [hc]; omega
    clear hc
    (repeat' (first|((first|refine Zg ?_|refine Zn ?_|refine Zc ?_|refine Zu fun b hb=>?_);conv=>whnf)|(refine Zb ?_ ?_<;>(intro h;first|exact Zx|conv=>whnf))))
    all_goals (try dsimp only [Int.toNat_natCast] at *)
    (repeat' (first|((first|refine Zg ?_|refine Zn ?_|refine Zc ?_|refine Zu fun b hb=>?_);conv=>whnf)|(refine Zb ?_ ?_<;>(intro h;first|exact Zx|conv=>whnf))))
    all_goals (simp only [hq] at *)
    all_goals (first|(exfalso; omega)|skip)
    all_goals (first|rw [if_pos (by rw [decide_eq_true_eq]; omega)] at ea|rw [if_neg (by rw [decide_eq_true_eq]; omega), List.append_nil] at ea)
    all_goals (first|rw [if_pos (by rw [decide_eq_true_eq]; omega)] at eb|rw [if_neg (by rw [decide_eq_true_eq]; omega), List.append_nil] at eb)
    all_goals (refine ⟨k + 1, by omega, by omega, ?_, ?_, ?_, ?_⟩)
    all_goals (repeat' (first|exact Yq|exact Yi (by first|rfl|(rw [ea]; done)|(rw [eb]; done)|(rw [ea]; simp; done)|(rw [eb]; simp; done)|omega)|exact Yo (by first|rfl|(rw [ea]; done)|(rw [eb]; done)|(rw [ea]; simp; done)|(rw [eb]; simp; done)|omega)|exact Ye (by first|rfl|(rw [ea]; done)|(rw [eb]; done)|(rw [ea]; simp; done)|(rw [eb]; simp; done)|omega)|refine ⟨_, rfl, Yb ?_, rfl⟩|refine ⟨_, rfl, Yw (by first|rfl|(rw [ea]; done)|(rw [eb]; done)|(rw [ea]; simp; done)|(rw [eb]; simp; done)|omega) ?_, rfl⟩|refine And.intro ?_ ?_))
    all_goals first
      | (rw [ea]; refine rowF_snoc rfl fun j hj => ?_; rcases j with _|_|_|j <;> first|exact Dle.refl _|omega)
      | (rw [eb]; refine rowF_snoc rfl fun j hj => ?_; rcases j with _|_|_|j <;> first|exact Dle.refl _|omega)
      | (rw [ea]; exact fun _ _ _ _ => Dle.refl _)
      | (rw [eb]; exact fun _ _ _ _ => Dle.refl _)
      | (refine AVle.int ?_; omega)
      | (refine AVle.int ?_; rw [ht]; omega)
  · obtain rfl : k = us.length := by omega
    (repeat' (first|((first|refine Zg ?_|refine Zn ?_|refine Zc ?_|refine Zu fun b hb=>?_);conv=>whnf)|(refine Zb ?_ ?_<;>(intro h;first|exact Zx|conv=>whnf))))
    refine ExCall.pub 49 rfl ?_
    conv => whnf
    (repeat' (first|((first|refine Zg ?_|refine Zn ?_|refine Zc ?_|refine Zu fun b hb=>?_|refine Zq j1 ?_);conv=>whnf)|(refine Zb ?_ ?_<;>(intro h;first|exact Zx|conv=>whnf))))
    refine ExCall.pub 68 rfl ?_
    conv => whnf
    (repeat' (first|((first|refine Zg ?_|refine Zn ?_|refine Zc ?_|refine Zu fun b hb=>?_|refine Zq j2 ?_);conv=>whnf)|(refine Zb ?_ ?_<;>(intro h;first|exact Zx|conv=>whnf))))
    all_goals first|exact Zrz

end Go.Proofs.YtacpjihbbmoolaaGreatDoor

namespace Go.Proofs.YtacpjihbbmoolaaGreatDoor
open Go Go.RowKit
set_option linter.unusedVariables false
set_option linter.unusedSimpArgs false
set_option maxRecDepth 100000
set_option maxHeartbeats 4000000
attribute [local irreducible] ResLe AVle ArgLe ArgP EntLe Dle ResH ArgQ

theorem rshare0_t : ACalls XX 120 [iA 0, .dat (iD [])] (.dat (iD [])) := by
  refine ACalls.of (n := Tryz.f120.ntmps) XX_ok Tryz.func120 rfl (by kernel_rfl) rfl rfl (Nat.le_of_ble_eq_true rfl) ?_
  (repeat' (first|((first|refine Zg ?_|refine Zt dr120 ?_|refine Zn ?_|refine Zc ?_|refine Zu fun b hb=>?_);conv=>whnf)|(refine Zb ?_ ?_<;>(intro h;first|exact Zx|conv=>whnf))))
  refine (W.loopK (ι := Unit) [0, 1] [] (fun k => [(6, iA 0), (5, iA 0)]) (fun _ => []) (fun k => True) (fun k => 0) () trivial ?_ ?_ ?_)
  · exact Yz
  · exact Yz
  conv => whnf
  intro _ _
  (repeat' (first|((first|refine Zg ?_|refine Zt dr120 ?_|refine Zn ?_|refine Zc ?_|refine Zu fun b hb=>?_);conv=>whnf)|(refine Zb ?_ ?_<;>(intro h;first|exact Zx|conv=>whnf))))
  refine (W.loopK (ι := Unit) [0, 5, 7, 8] [27] (fun k => []) (fun _ => []) (fun k => True) (fun k => 0) () trivial ?_ ?_ ?_)
  · exact Yz
  · exact Yz
  conv => whnf
  intro _ _
  (repeat' (first|((first|refine Zg ?_|refine Zt dr120 ?_|refine Zn ?_|refine Zc ?_|refine Zu fun b hb=>?_);conv=>whnf)|(refine Zb ?_ ?_<;>(intro h;first|exact Zx|conv=>whnf))))
  all_goals (try dsimp only [Int.toNat_natCast] at *)
  refine (W.loopK (ι := Unit) [0, 5, 7, 9, 10, 11] [27, 45] (fun k => []) (fun _ => []) (fun k => True) (fun k => 0) () trivial ?_ ?_ ?_)
  · exact Yz
  · exact Yz
  conv => whnf
  intro _ _
  (repeat' (first|((first|refine Zg ?_|refine Zt dr120 ?_|refine Zn ?_|refine Zc ?_|refine Zu fun b hb=>?_);conv=>whnf)|(refine Zb ?_ ?_<;>(intro h;first|exact Zx|conv=>whnf))))
  all_goals (try dsimp only [Int.toNat_natCast] at *)
  refine (W.loopK (ι := Unit) [9, 10] [45] (fun k => []) (fun _ => []) (fun k => True) (fun k => 0) () trivial ?_ ?_ ?_)
  · exact Yz
  · exact Yz
  conv => whnf
  intro _ _
  (repeat' (first|((first|refine Zg ?_|refine Zt dr120 ?_|refine Zn ?_|refine Zc ?_|refine Zu fun b hb=>?_);conv=>whnf)|(refine Zb ?_ ?_<;>(intro h;first|exact Zx|conv=>whnf))))
  all_goals first|(exact RowIs.res rfl (RowIs.nil iE 1 _ _ rfl) rfl)
theorem frA_one {x : Sl} {k : Int} (hk : 0 ≤ k ∧ k ≤ lenS x) : frA [x] (max k 0) = (if nz (fstP x k) = true then [fstP x k] else []) ∧ frB [x] (max k 0) = (if nz (sndP x k) = true then [sndP x k] else []) := by
  have e : max k 0 = k := by omega
  have e2 : min k (lenS x) = k := by omega
  unfold frA frB cutA cutB
  rw [e]
  simp only [shL, e2, List.zipWith_cons_cons, List.zipWith_nil_left, List.foldl_cons, List.foldl_nil]
  constructor
  · unfold extL nz
    by_cases h : (fstP x k).s = (fstP x k).e
    · rw [if_pos h, if_neg (by rw [decide_eq_true_eq]; exact fun hh => hh h)]
    · rw [if_neg h, if_pos (by rw [decide_eq_true_eq]; exact h), extR_nil]
  · unfold extL nz
    by_cases h : (sndP x k).s = (sndP x k).e
    · rw [if_pos h, if_neg (by rw [decide_eq_true_eq]; exact fun hh => hh h)]
    · rw [if_neg h, if_pos (by rw [decide_eq_true_eq]; exact h), extR_nil]

theorem rshareAny_t (t : Int) (ws : List Int) (hw : wOk ws) (hn : ws.length ≤ 1000) (ht : 0 ≤ t ∧ t ≤ 1000000000000) (h0 : ws = [] → t = 0) : ACalls XX 120 [iA t, .dat (iD ws)] (.dat (iD (shareL t ws))) := by
  rcases Nat.eq_zero_or_pos ws.length with h|h
  · obtain rfl := List.length_eq_zero_iff.1 h
    obtain rfl := h0 rfl
    exact rshare0_t
  · exact rshare_t t ws hw hn ht h0 h
theorem one_part (J : List Sl) (k : Nat) (h : k < J.length) : AVle (.dat (.lst 3 ((k : Int) + 1 - k).toNat fun i j => rowF slE J ((k : Int).toNat + i) j)) (.dat (slD [J.getD k default])) := AVle.dat (Dle.lst (by simp; try omega) fun i hi j hj => by
  obtain rfl : i = 0 := by omega
  exact Dle.of_eq (by unfold rowF; simp))
theorem rtake_t (us : List Sl) (u m : Int) (hL : us.length ≤ 9223372036854775807) : ACalls XX 95 [.dat (slD us), iA u, iA m] (.tup [.dat (slD (takA us u m)), .dat (slD (takB us u m)), iA (takE us u m)]) := by
  have h1 := rvalid_t us hL
  by_cases e1 : lotErr us = 0
  rotate_left
  · have hE : takE us u m = lotErr us := by unfold takE; rw [if_pos e1]
    have hA : takA us u m = [] := by unfold takA; rw [hE, if_neg e1]
    have hB : takB us u m = [] := by unfold takB; rw [hE, if_neg e1]
    rw [hE, hA, hB]
    refine ACalls.of (n := Tryz.f95.ntmps) XX_ok Tryz.func95 rfl (by kernel_rfl) rfl rfl (Nat.le_of_ble_eq_true rfl) ?_
    (repeat' (first|((first|refine Zg ?_|refine Zt dr95 ?_|refine Zn ?_|refine Zc ?_|refine Zu fun b hb=>?_|refine Zy h1 ?_|refine Zz h1 ?_);conv=>whnf)|(refine Zb ?_ ?_<;>(intro h;first|exact Zx|conv=>whnf))))
    all_goals exact Zrz
  obtain ⟨k1, k2, k3⟩ := lotErr_ok e1
  rw [e1] at h1
  have h2 := rcount_t us k2 (by omega)
  by_cases e2 : u < 0 ∨ cnt us < u ∨ ¬ mOk m
  · have hE : takE us u m = 2 := by unfold takE; rw [if_neg (by simpa using e1), if_pos e2]
    have hA : takA us u m = [] := by unfold takA; rw [hE, if_neg (by omega)]
    have hB : takB us u m = [] := by unfold takB; rw [hE, if_neg (by omega)]
    rw [hE, hA, hB]
    unfold mOk at e2
    refine ACalls.of (n := Tryz.f95.ntmps) XX_ok Tryz.func95 rfl (by kernel_rfl) rfl rfl (Nat.le_of_ble_eq_true rfl) ?_
    (repeat' (first|((first|refine Zg ?_|refine Zt dr95 ?_|refine Zn ?_|refine Zc ?_|refine Zu fun b hb=>?_|refine Zy h1 ?_|refine Zz h1 ?_|refine Zy h2 ?_|refine Zz h2 ?_);conv=>whnf)|(refine Zb ?_ ?_<;>(intro h;first|exact Zx|conv=>whnf))))
    all_goals first|exact Zrz|(exfalso; omega)
  have hm : mOk m := by
    by_cases h : mOk m
    · exact h
    · exact absurd (.inr (.inr h)) e2
  have hu : 0 ≤ u ∧ u ≤ cnt us := by omega
  obtain ⟨hE, hA, hB⟩ := tak_ok e1 hu hm
  rw [hE, hA, hB]
  have hc := cntOk k2 (by omega)
  have hj := join_valid e1
  obtain ⟨j1, j2, j3⟩ := lotErr_iff.1 hj
  have hcj := cnt_join (slOk_le k2)
  have hcl := cnt_le k2
  have h4 := rjoin_t us (by omega)
  rw [joinR_eq (slOk_lt k2)] at h4
  generalize hJ : joinL us = J at *
  rcases hm with rfl|rfl|rfl
  · have h5 := rfront_t J u j2 (by omega) (by omega)
    rw [show max u 0 = u by omega] at h5
    rw [divA1, divB1]
    refine ACalls.of (n := Tryz.f95.ntmps) XX_ok Tryz.func95 rfl (by kernel_rfl) rfl rfl (Nat.le_of_ble_eq_true rfl) ?_
    (repeat' (first|((first|refine Zg ?_|refine Zt dr95 ?_|refine Zn ?_|refine Zc ?_|refine Zu fun b hb=>?_|refine Zy h1 ?_|refine Zz h1 ?_|refine Zy h2 ?_|refine Zz h2 ?_|refine Zy h4 ?_|refine Zz h4 ?_|refine Zy h5 ?_|refine Zz h5 ?_);conv=>whnf)|(refine Zb ?_ ?_<;>(intro h;first|exact Zx|conv=>whnf))))
    all_goals exact Zrz
  · have h5 := rfront_t J (cnt us - u) j2 (by omega) (by omega)
    rw [show max (cnt us - u) 0 = cnt us - u by omega] at h5
    rw [divA2, divB2, hcj]
    refine ACalls.of (n := Tryz.f95.ntmps) XX_ok Tryz.func95 rfl (by kernel_rfl) rfl rfl (Nat.le_of_ble_eq_true rfl) ?_
    (repeat' (first|((first|refine Zg ?_|refine Zt dr95 ?_|refine Zn ?_|refine Zc ?_|refine Zu fun b hb=>?_|refine Zy h1 ?_|refine Zz h1 ?_|refine Zy h2 ?_|refine Zz h2 ?_|refine Zy h4 ?_|refine Zz h4 ?_|refine Zy h5 ?_|refine Zz h5 ?_);conv=>whnf)|(refine Zb ?_ ?_<;>(intro h;first|exact Zx|conv=>whnf))))
    all_goals exact Zrz
  have hll : (lensL J).length = J.length := by simp [lensL]
  have h6 := rshareAny_t u (lensL J) (lens_ok j2) (by omega) (by omega) (fun he => by
    have : J.length = 0 := by rw [← hll, he]; rfl
    have : J = [] := List.length_eq_zero_iff.1 this
    subst this
    simp [cnt] at hcj
    unfold cnt at hu
    omega)
  obtain ⟨hf, _⟩ := ksM_ok (m := 3) (u := u) j2 (by omega)
  have e3 : ksM 3 J u = shareL u (lensL J) := by unfold ksM; rw [if_pos rfl]
  rw [e3] at hf
  have hks := fits_len hf
  obtain ⟨f1, f2⟩ := fits_mem hf (slOk_le j2)
  rw [divA3, divB3]
  unfold cutA cutB
  generalize shareL u (lensL J) = ks at *
  rw [foldl_extL, foldl_extL]
  obtain ⟨A, hA⟩ : ∃ A : Nat → List Sl, A = fun k => ((List.zipWith fstP J ks).take k).filter nz := ⟨_, rfl⟩
  obtain ⟨B, hB⟩ : ∃ B : Nat → List Sl, B = fun k => ((List.zipWith sndP J ks).take k).filter nz := ⟨_, rfl⟩
  have hA0 : A 0 = [] := by rw [hA]; rfl
  have hB0 : B 0 = [] := by rw [hB]; rfl
  have hAS : ∀ k, k < J.length → A (k + 1) = A k ++ (if nz (fstP (J.getD k default) (ks.getD k default)) = true then [fstP (J.getD k default) (ks.getD k default)] else []) := fun k hk => by
    rw [hA]; exact zip_filter_succ hks hk
  have hBS : ∀ k, k < J.length → B (k + 1) = B k ++ (if nz (sndP (J.getD k default) (ks.getD k default)) = true then [sndP (J.getD k default) (ks.getD k default)] else []) := fun k hk => by
    rw [hB]; exact zip_filter_succ hks hk
  have hAl : ∀ k, (A k).length ≤ k := fun k => by rw [hA]; exact filt_len J ks k
  have hBl : ∀ k, (B k).length ≤ k := fun k => by rw [hB]; exact filt_len J ks k
  have hAe : (List.zipWith fstP J ks).filter nz = A J.length := by rw [hA]; dsimp only; rw [List.take_of_length_le (by rw [List.length_zipWith]; exact Nat.min_le_left _ _)]
  have hBe : (List.zipWith sndP J ks).filter nz = B J.length := by rw [hB]; dsimp only; rw [List.take_of_length_le (by rw [List.length_zipWith]; exact Nat.min_le_left _ _)]
  have hfit : ∀ k, k < J.length → 0 ≤ ks.getD k default ∧ ks.getD k default ≤ lenS (J.getD k default) := fun k hk => fits_at hf hk
  rw [hAe, hBe]
  have j7 := rjoin_t (A J.length) (by have := hAl J.length; omega)
  have j8 := rjoin_t (B J.length) (by have := hBl J.length; omega)
  clear hA hB hAe hBe f1 f2 hf
  refine ACalls.of (n := Tryz.f95.ntmps) XX_ok Tryz.func95 rfl (by kernel_rfl) rfl rfl (Nat.le_of_ble_eq_true rfl) ?_
  (repeat' (first|((first|refine Zg ?_|refine Zt dr95 ?_|refine Zn ?_|refine Zc ?_|refine Zu fun b hb=>?_|refine Zy h1 ?_|refine Zz h1 ?_|refine Zy h2 ?_|refine Zz h2 ?_|refine Zy h4 ?_|refine Zz h4 ?_);conv=>whnf)|(refine Zb ?_ ?_<;>(intro h;first|exact Zx|conv=>whnf))))
  refine (W.adopt 16 90 3 1 (rowF iE []) rfl rfl rfl rfl ?_)
  conv => whnf
  refine (W.loopK (ι := Nat) [1, 11] [] (fun k => [(17, iA k), (16, .own 90 1 0 k)]) (fun k => [(90, .row 3 1 k (rowF iE ((lensL J).take k)))]) (fun k => k ≤ J.length) (fun k => J.length - k) 0 (Nat.zero_le _) ?_ ?_ ?_)
  · exact Yz
  · exact Yz
  conv => whnf
  intro k hk
  by_cases hk' : k < J.length
  · have hx := j2 _ (getD_in hk')
    unfold slOk at hx
    (repeat' (first|((first|refine Zg ?_|refine Zt dr95 ?_|refine Zn ?_|refine Zc ?_|refine Zu fun b hb=>?_);conv=>whnf)|(refine Zb ?_ ?_<;>(intro h;first|exact Zx|conv=>whnf))))
    all_goals (try dsimp only [Int.toNat_natCast] at *)
    (repeat' (first|((first|refine Zg ?_|refine Zt dr95 ?_|refine Zn ?_|refine Zc ?_|refine Zu fun b hb=>?_);conv=>whnf)|(refine Zb ?_ ?_<;>(intro h;first|exact Zx|conv=>whnf))))
    refine ⟨k + 1, by omega, by omega, ?_, ?_, ?_, ?_⟩
    all_goals (repeat' (first|exact Yq|refine ⟨_, rfl, Yb ?_, rfl⟩|refine ⟨_, rfl, Yw (by first|rfl|omega) ?_, rfl⟩|refine And.intro ?_ ?_))
    · rw [take_snoc (lensL J) k (by omega)]
      refine rowF_snoc (by simp; try omega) fun j hj => ?_
      obtain rfl : j = 0 := by omega
      refine Dle.of_eq ?_
      show D.val (.int .i64 _) = D.val (.int .i64 _)
      congr 2
      simp [lensL, hk', lenS]
  obtain rfl : k = J.length := by omega
  rw [List.take_of_length_le (by omega)]
  have h6 := h6.args2 (a := iA u) (b := .dat (.lst 1 J.length (rowF iE (lensL J)))) (AVle.refl _) (AVle.dat (Dle.lst hll.symm fun _ _ _ _ => Dle.refl _))
  (repeat' (first|((first|refine Zg ?_|refine Zt dr95 ?_|refine Zn ?_|refine Zc ?_|refine Zu fun b hb=>?_);conv=>whnf)|(refine Zb ?_ ?_<;>(intro h;first|exact Zx|conv=>whnf))))
  refine ExCall.pub 90 rfl ?_
  conv => whnf
  (repeat' (first|((first|refine Zg ?_|refine Zt dr95 ?_|refine Zn ?_|refine Zc ?_|refine Zu fun b hb=>?_|refine Zq h6 ?_|refine Zw h6 ?_);conv=>whnf)|(refine Zb ?_ ?_<;>(intro h;first|exact Zx|conv=>whnf))))
  refine (W.adopt 19 115 63 3 (rowF slE []) rfl rfl rfl rfl ?_)
  conv => whnf
  refine (W.adopt 20 118 63 3 (rowF slE []) rfl rfl rfl rfl ?_)
  conv => whnf
  refine (W.loopK (ι := Nat) [11, 18] [] (fun k => [(21, iA k), (19, .own 115 3 0 (A k).length), (20, .own 118 3 0 (B k).length)]) (fun k => [(115, .row 63 3 (A k).length (rowF slE (A k))), (118, .row 63 3 (B k).length (rowF slE (B k)))]) (fun k => k ≤ J.length) (fun k => J.length - k) 0 (Nat.zero_le _) ?_ ?_ ?_)
  · (repeat' (first|exact Yq|exact Yi (by first|rfl|(rw [hA0]; rfl)|(rw [hB0]; rfl)|omega)|exact Yo (by first|rfl|(rw [hA0]; rfl)|(rw [hB0]; rfl)|omega)|exact Ye (by first|rfl|(rw [hA0]; rfl)|(rw [hB0]; rfl)|omega)|refine ⟨_, rfl, Yb ?_, rfl⟩|refine ⟨_, rfl, Yw (by first|rfl|(rw [hA0]; rfl)|(rw [hB0]; rfl)|omega) ?_, rfl⟩|refine And.intro ?_ ?_))
  · (repeat' (first|exact Yq|exact Yi (by first|rfl|(rw [hA0]; rfl)|(rw [hB0]; rfl)|omega)|exact Yo (by first|rfl|(rw [hA0]; rfl)|(rw [hB0]; rfl)|omega)|exact Ye (by first|rfl|(rw [hA0]; rfl)|(rw [hB0]; rfl)|omega)|refine ⟨_, rfl, Yb ?_, rfl⟩|refine ⟨_, rfl, Yw (by first|rfl|(rw [hA0]; rfl)|(rw [hB0]; rfl)|omega) ?_, rfl⟩|refine And.intro ?_ ?_))
    all_goals (intro i hi; exact absurd hi (Nat.not_lt_zero _))
  conv => whnf
  intro k hk
  have hAk := hAl k
  have hBk := hBl k
  by_cases hk' : k < J.length
  · have hfk := hfit k hk'
    have h5 := rfront_t [J.getD k default] (ks.getD k default) (fun y hy => by rw [List.mem_singleton.1 hy]; exact j2 _ (getD_in hk')) (by simp) (by have := j2 _ (getD_in hk'); unfold slOk at this; unfold lenS at hfk; omega)
    obtain ⟨g1, g2⟩ := frA_one hfk
    rw [g1, g2] at h5
    have ea := hAS k hk'
    have eb := hBS k hk'
    have hA1 := hAl (k + 1)
    have hB1 := hBl (k + 1)
    generalize (if nz (fstP (J.getD k default) (ks.getD k default)) = true then [fstP (J.getD k default) (ks.getD k default)] else []) = pa at *
    generalize (if nz (sndP (J.getD k default) (ks.getD k default)) = true then [sndP (J.getD k default) (ks.getD k default)] else []) = pb at *
    have la : (A (k + 1)).length = (A k).length + pa.length := by rw [ea, List.length_append]
    have lb : (B (k + 1)).length = (B k).length + pb.length := by rw [eb, List.length_append]
    have h5 := h5.args2 (one_part J k hk') (AVle.refl _)
    (repeat' (first|((first|refine Zg ?_|refine Zt dr95 ?_|refine Zn ?_|refine Zc ?_|refine Zu fun b hb=>?_);conv=>whnf)|(refine Zb ?_ ?_<;>(intro h;first|exact Zx|conv=>whnf))))
    all_goals (try dsimp only [Int.toNat_natCast] at *)
    (repeat' (first|((first|refine Zg ?_|refine Zt dr95 ?_|refine Zn ?_|refine Zc ?_|refine Zu fun b hb=>?_|refine Zy h5 ?_|refine Zz h5 ?_);conv=>whnf)|(refine Zb ?_ ?_<;>(intro h;first|exact Zx|conv=>whnf))))
    refine ⟨k + 1, by omega, by omega, ?_, ?_, ?_, ?_⟩
    all_goals (repeat' (first|exact Yq|exact Yi (by first|rfl|exact la.symm|exact lb.symm|omega)|exact Yo (by first|rfl|exact la.symm|exact lb.symm|omega)|exact Ye (by first|rfl|exact la.symm|exact lb.symm|omega)|refine ⟨_, rfl, Yb ?_, rfl⟩|refine ⟨_, rfl, Yw (by first|rfl|exact la.symm|exact lb.symm|omega) ?_, rfl⟩|refine And.intro ?_ ?_))
    · rw [ea]; exact rowF_app rfl fun i hi j hj => Dle.refl _
    · rw [eb]; exact rowF_app rfl fun i hi j hj => Dle.refl _
  · obtain rfl : k = J.length := by omega
    (repeat' (first|((first|refine Zg ?_|refine Zt dr95 ?_|refine Zn ?_|refine Zc ?_|refine Zu fun b hb=>?_);conv=>whnf)|(refine Zb ?_ ?_<;>(intro h;first|exact Zx|conv=>whnf))))
    refine ExCall.pub 115 rfl ?_
    conv => whnf
    (repeat' (first|((first|refine Zg ?_|refine Zt dr95 ?_|refine Zn ?_|refine Zc ?_|refine Zu fun b hb=>?_|refine Zq j7 ?_|refine Zw j7 ?_);conv=>whnf)|(refine Zb ?_ ?_<;>(intro h;first|exact Zx|conv=>whnf))))
    refine ExCall.pub 118 rfl ?_
    conv => whnf
    (repeat' (first|((first|refine Zg ?_|refine Zt dr95 ?_|refine Zn ?_|refine Zc ?_|refine Zu fun b hb=>?_|refine Zq j8 ?_|refine Zw j8 ?_);conv=>whnf)|(refine Zb ?_ ?_<;>(intro h;first|exact Zx|conv=>whnf))))
    all_goals exact Zrz



end Go.Proofs.YtacpjihbbmoolaaGreatDoor
