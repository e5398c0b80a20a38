/- The reference's shares, its lists divided. -/
import Derived.Test.YtleknjngglhmaaaGreatB13
import Derived.Test.YtleknjngglhmaaaGreatRM
namespace Go.Proofs.YtleknjngglhmaaaGreat
open Go Go.RowKit
set_option linter.unusedVariables false
set_option linter.unusedSimpArgs false
set_option maxRecDepth 100000
set_option maxHeartbeats 4000000
attribute [local irreducible] ResLe AVle ArgLe ArgP EntLe Dle ResH ArgQ

theorem rRest_t (a b c : Nat) (hc : 0 < c) (hc2 : c < 1152921504606846976) (hb : b < 1152921504606846976) (ha : a < 4611686018427387904) : ACalls XX 76 [iA a, iA b, iA c] (iA ((a * b % c : Nat) : Int)) := by
  have hm : (a : Int).tmod c = ((a % c : Nat) : Int) := by rw [Int.tmod_eq_emod_of_nonneg (by omega)]; simp
  have hm2 : a % c < c := Nat.mod_lt _ hc
  have hfin : a * b % c = b * (a % c) % c := by rw [Nat.mul_comm a b, Nat.mul_mod, Nat.mul_mod b (a % c), Nat.mod_mod]
  refine ACalls.of (n := Tryz.f76.ntmps) XX_ok Tryz.func76 rfl (by kernel_rfl) rfl rfl (Nat.le_of_ble_eq_true rfl) ?_
  (repeat' (first | refine Zs ?_ | refine Zk ?_ | ((first | refine Za ?_ | refine Zr ?_ | refine Zp ?_ | refine Ze ?_ | refine Zd ?_ | refine Zn ?_ | refine Zc ?_ | refine UnK.mk (fun b hb => ?_)); conv => whnf) | (refine Zb (fun h => ?_) (fun h => ?_) <;> first | exact Zx | (conv => whnf))))
  simp only [hm]
  rw [hfin]
  clear hm hfin
  generalize a % c = rest at *
  refine (W.loopK (ι := Nat × Int × Int) [1, 2, 7] [] (fun q => [(8, iA q.2.2), (9, iA (60 - (q.1 : Int)))]) (fun _ => []) (fun q => q.1 ≤ 61 ∧ ((b / 2 ^ (61 - q.1) : Nat) : Int) * rest = c * q.2.1 + q.2.2 ∧ 0 ≤ q.2.2 ∧ q.2.2 < c ∧ 0 ≤ q.2.1) (fun q => 61 - q.1) (0, 0, 0) ⟨by omega, by
    rw [Nat.div_eq_of_lt (by show b < 2 ^ 61; omega)]; simp, by dsimp only; omega, by dsimp only; omega, by dsimp only; omega⟩ ⟨AVle.refl _, AVle.refl _, trivial⟩ trivial ?_)
  conv => whnf
  intro ⟨k, t, r⟩ ⟨hk, hE, hr0, hr1, ht0⟩
  dsimp only at hk hE hr0 hr1 ht0 ⊢
  have q1 : (c : Int) * (2 * t) = 2 * (c * t) := by rw [Int.mul_left_comm]
  have q2 : (c : Int) * (2 * t + 1) = 2 * (c * t) + c := by rw [Int.mul_add, Int.mul_one, q1]
  have q3 : (c : Int) * (2 * t + 1 + 1) = 2 * (c * t) + c + c := by rw [Int.mul_add, Int.mul_one, q2]
  have hE1 : k ≤ 60 → andI IntKind.i64 ((b : Int).fdiv (2 ^ min (60 - (k : Int)).toNat IntKind.i64.bits)) 1 = 1 → ((b / 2 ^ (60 - k) : Nat) : Int) * rest = 2 * (c * t) + 2 * r + rest := fun hk' h => by
    have hbit : andI .i64 ((b : Int).fdiv (2 ^ (min (60 - (k : Int)).toNat 64))) 1 = ((b / 2 ^ (60 - k) % 2 : Nat) : Int) := by rw [shr_nat b k hk', andI_one]
    have h' := hbit.symm.trans h
    have hB := half b k hk'
    have h3 : ((b / 2 ^ (60 - k) : Nat) : Int) = 2 * ((b / 2 ^ (61 - k) : Nat) : Int) + 1 := by omega
    rw [h3, Int.add_mul, Int.mul_assoc, hE]; omega
  have hE0 : k ≤ 60 → ¬ andI IntKind.i64 ((b : Int).fdiv (2 ^ min (60 - (k : Int)).toNat IntKind.i64.bits)) 1 = 1 → ((b / 2 ^ (60 - k) : Nat) : Int) * rest = 2 * (c * t) + 2 * r := fun hk' h => by
    have hbit : andI .i64 ((b : Int).fdiv (2 ^ (min (60 - (k : Int)).toNat 64))) 1 = ((b / 2 ^ (60 - k) % 2 : Nat) : Int) := by rw [shr_nat b k hk', andI_one]
    have h' : ¬ ((b / 2 ^ (60 - k) % 2 : Nat) : Int) = 1 := fun e => h (hbit.trans e)
    have hB := half b k hk'
    have h3 : ((b / 2 ^ (60 - k) : Nat) : Int) = 2 * ((b / 2 ^ (61 - k) : Nat) : Int) := by omega
    rw [h3, Int.mul_assoc, hE]; omega
  have e61 : 61 - (k + 1) = 60 - k := by omega
  (repeat' (first | refine Zs ?_ | refine Zk ?_ | ((first | refine Za ?_ | refine Zr ?_ | refine Zp ?_ | refine Ze ?_ | refine Zd ?_ | refine Zn ?_ | refine Zc ?_ | refine UnK.mk (fun b hb => ?_)); conv => whnf) | (refine Zb (fun h => ?_) (fun h => ?_) <;> first | exact Zx | (conv => whnf))))
  all_goals first
    | (refine ⟨(k + 1, 2 * t + 1 + 1, _), ⟨?_, ?_, ?_, ?_, ?_⟩, ?_, ⟨AVle.refl _, AVle.int ?_, trivial⟩, trivial, ⟨AVle.refl _, AVle.refl _, AVle.refl _, trivial⟩, trivial⟩ <;> (dsimp only; (try rw [e61]); first | omega | (rw [hE1 (by omega) (by assumption)]; omega) | (rw [hE0 (by omega) (by assumption)]; omega)); done)
    | (refine ⟨(k + 1, 2 * t + 1, _), ⟨?_, ?_, ?_, ?_, ?_⟩, ?_, ⟨AVle.refl _, AVle.int ?_, trivial⟩, trivial, ⟨AVle.refl _, AVle.refl _, AVle.refl _, trivial⟩, trivial⟩ <;> (dsimp only; (try rw [e61]); first | omega | (rw [hE1 (by omega) (by assumption)]; omega) | (rw [hE0 (by omega) (by assumption)]; omega)); done)
    | (refine ⟨(k + 1, 2 * t, _), ⟨?_, ?_, ?_, ?_, ?_⟩, ?_, ⟨AVle.refl _, AVle.int ?_, trivial⟩, trivial, ⟨AVle.refl _, AVle.refl _, AVle.refl _, trivial⟩, trivial⟩ <;> (dsimp only; (try rw [e61]); first | omega | (rw [hE1 (by omega) (by assumption)]; omega) | (rw [hE0 (by omega) (by assumption)]; omega)); done)
    | skip
  have hk61 : k = 61 := by omega
  subst hk61
  have hd : ((b * rest % c : Nat) : Int) = r := by
    have hE' : (b : Int) * rest = c * t + r := by simpa using hE
    rw [Int.natCast_emod, Int.natCast_mul, hE', Int.add_comm, Int.add_mul_emod_self_left, Int.emod_eq_of_lt hr0 hr1]
  rw [hd]
  (repeat' (first | exact trivial | exact Zm | exact Zl | exact ResLe.row0 rfl | exact Zi (by first | rfl | omega) | exact Zo (h := by first | rfl | omega) | exact ResLe.bo rfl rfl Iff.rfl | refine ResLe.agg ?_ | refine And.intro ?_ ?_ | ((conv => whnf); first | exact Zl | exact ResLe.row0 rfl | exact Zi (by first | rfl | omega) | exact Zo (h := by first | rfl | omega) | exact ResLe.bo rfl rfl Iff.rfl | refine ResLe.agg ?_ | refine And.intro ?_ ?_)))

theorem w_le_sum {ws : List Int} (h : wOk ws) {i : Nat} (hi : i < ws.length) : ws.getD i default ≤ ws.sum := by
  have : ∀ (l : List Int), wOk l → ∀ w ∈ l, w ≤ l.sum := by
    intro l
    induction l with
    | nil => intro _ w hw; simp at hw
    | cons a l ih =>
      intro hl w hw
      have hl' : wOk l := fun x hx => hl x (by simp [hx])
      have h4 := sum_nonneg hl'
      have ha := hl a (by simp)
      rcases List.mem_cons.1 hw with rfl | hw
      · simp; omega
      · have := ih hl' w hw
        simp; omega
  exact this ws h _ (getD_mem0 hi)
theorem rQ_t {t : Int} {ws : List Int} (hw : wOk ws) (hn : ws.length ≤ 1000) (ht : 0 ≤ t ∧ t ≤ 1000000000000) {i : Nat} (hi : i < ws.length) : ACalls XX 61 [iA t, iA (ws.getD i default), iA ws.sum] (iA (shQ t ws i)) := by
  have hx := hw _ (getD_in hi)
  have h1 := sum_nonneg hw
  have h2 := sum_le hw
  have h3 := w_le_sum hw hi
  have e : shQ t ws i = t * ws.getD i default / ws.sum := rfl
  rw [e]
  obtain ⟨a, rfl⟩ := Int.eq_ofNat_of_zero_le ht.1
  obtain ⟨b, hb⟩ := Int.eq_ofNat_of_zero_le (show 0 ≤ ws.getD i default by omega)
  obtain ⟨c, hc⟩ := Int.eq_ofNat_of_zero_le (show 0 ≤ ws.sum by omega)
  rw [hb, hc] at h3 ⊢
  rw [hb] at hx
  rw [hc] at h1 h2
  have q1 : a / c * b ≤ a / c * c := Nat.mul_le_mul_left _ (by omega)
  have q2 := Nat.div_mul_le_self a c
  have k := rmulDiv_t a b c (by omega) (by omega) (by omega) (by omega) (by omega)
  have e2 : ((a * b / c : Nat) : Int) = (a : Int) * b / c := by simp
  rw [e2] at k
  exact k
theorem rR_t {t : Int} {ws : List Int} (hw : wOk ws) (hn : ws.length ≤ 1000) (ht : 0 ≤ t ∧ t ≤ 1000000000000) {i : Nat} (hi : i < ws.length) : ACalls XX 76 [iA t, iA (ws.getD i default), iA ws.sum] (iA (shR t ws i)) := by
  have hx := hw _ (getD_in hi)
  have h1 := sum_nonneg hw
  have h2 := sum_le hw
  have e : shR t ws i = t * ws.getD i default % ws.sum := rfl
  rw [e]
  obtain ⟨a, rfl⟩ := Int.eq_ofNat_of_zero_le ht.1
  obtain ⟨b, hb⟩ := Int.eq_ofNat_of_zero_le (show 0 ≤ ws.getD i default by omega)
  obtain ⟨c, hc⟩ := Int.eq_ofNat_of_zero_le (show 0 ≤ ws.sum by omega)
  rw [hb, hc]
  rw [hb] at hx
  rw [hc] at h1 h2
  have k := rRest_t a b c (by omega) (by omega) (by omega) (by omega)
  have e2 : ((a * b % c : Nat) : Int) = (a : Int) * b % c := by simp
  rw [e2] at k
  exact k
def outP (t : Int) (ws : List Int) (j : Nat) : List Int := (List.range ws.length).map (shV t ws j)
theorem outP_len (t : Int) (ws : List Int) (j : Nat) : (outP t ws j).length = ws.length := by simp [outP]
theorem outP_zero (t : Int) (ws : List Int) : outP t ws 0 = (List.range ws.length).map (shQ t ws) := by
  unfold outP
  apply List.map_congr_left
  intro i hi
  unfold shV
  have : among ws.length (shR t ws) 0 i = false := by
    cases hb : among ws.length (shR t ws) 0 i with
    | false => rfl
    | true => obtain ⟨q, hq, _⟩ := among_iff.1 hb; omega
  rw [this]
  simp
theorem outP_set (t : Int) (ws : List Int) (j : Nat) (hj : j < ws.length) : (outP t ws j).set (sortAt ws.length (cfP (shR t ws)) j) (shV t ws j (sortAt ws.length (cfP (shR t ws)) j) + 1) = outP t ws (j + 1) := by
  have hs := sortAt_lt (cfP_swo (shR t ws)) hj
  apply List.ext_getElem?
  intro i
  rw [List.getElem?_set]
  unfold outP
  by_cases hi : i < ws.length
  · by_cases he : sortAt ws.length (cfP (shR t ws)) j = i
    · subst he
      rw [if_pos rfl, if_pos (by simpa using hs), List.getElem?_map, List.getElem?_range hs]
      simp only [Option.map_some, shV, among_at hj]
      simp
    · rw [if_neg he, List.getElem?_map, List.getElem?_map, List.getElem?_range hi]
      simp only [Option.map_some, shV]
      rw [among_succ hj]
      have : Nat.beq (sortAt ws.length (cfP (shR t ws)) j) i = false := by
        cases hb : Nat.beq (sortAt ws.length (cfP (shR t ws)) j) i with
        | false => rfl
        | true => exact absurd (Nat.eq_of_beq_eq_true hb) he
      rw [this, Bool.or_false]
  · have hne : ¬ sortAt ws.length (cfP (shR t ws)) j = i := by omega
    rw [if_neg hne]
    simp [hi]
def bestP (n : Nat) (R : Nat → Int) (j i : Nat) (b : Int) : Prop := (b = -1 ∧ ∀ q, q < i → among n R j q = true) ∨ ∃ m : Nat, b = m ∧ m < i ∧ among n R j m = false ∧ ∀ q, q < i → among n R j q = false → q = m ∨ cfP R m q < 0
theorem best_sort {n : Nat} {R : Nat → Int} {j : Nat} {m : Nat} (hm : m < n) (h1 : among n R j m = false) (h2 : ∀ q, q < n → among n R j q = false → q = m ∨ cfP R m q < 0) : j < n ∧ m = sortAt n (cfP R) j := by
  have hj : j < n := by
    rcases Nat.lt_or_ge j n with h | h
    · exact h
    · rw [among_full h hm] at h1; cases h1
  refine ⟨hj, ?_⟩
  have hs := sortAt_lt (cfP_swo R) hj
  have ha : among n R j (sortAt n (cfP R) j) = false := by rw [among_at hj]; simp
  rcases next_least hj hm h1 with h | h
  · exact h
  · rcases h2 _ hs ha with h' | h'
    · exact h'.symm
    · rw [cfP_neg] at h h'
      omega

theorem bestP_first {n : Nat} {R : Nat → Int} {j i : Nat} (h : ∀ q, q < i → among n R j q = true) (ha : among n R j i = false) : bestP n R j (i + 1) i :=
  .inr ⟨i, rfl, by omega, ha, fun q hq hqa => by
    rcases Nat.lt_or_ge q i with h1 | h1
    · rw [h q h1] at hqa; cases hqa
    · exact .inl (by omega)⟩
theorem bestP_keep0 {n : Nat} {R : Nat → Int} {j i : Nat} (h : ∀ q, q < i → among n R j q = true) (ha : among n R j i = true) : bestP n R j (i + 1) (-1) :=
  .inl ⟨rfl, fun q hq => by
    rcases Nat.lt_or_ge q i with h1 | h1
    · exact h q h1
    · obtain rfl : q = i := by omega
      exact ha⟩
theorem bestP_new {n : Nat} {R : Nat → Int} {j i m : Nat} (hm2 : ∀ q, q < i → among n R j q = false → q = m ∨ cfP R m q < 0) (ha : among n R j i = false) (hgt : R m < R i) : bestP n R j (i + 1) i :=
  .inr ⟨i, rfl, by omega, ha, fun q hq hqa => by
    rcases Nat.lt_or_ge q i with h1 | h1
    · right
      rw [cfP_neg]
      rcases hm2 q h1 hqa with rfl | h2
      · omega
      · rw [cfP_neg] at h2; omega
    · exact .inl (by omega)⟩
theorem bestP_keep {n : Nat} {R : Nat → Int} {j i m : Nat} (hm : m < i) (hm1 : among n R j m = false) (hm2 : ∀ q, q < i → among n R j q = false → q = m ∨ cfP R m q < 0) (hk : among n R j i = true ∨ R i ≤ R m) : bestP n R j (i + 1) m :=
  .inr ⟨m, rfl, by omega, hm1, fun q hq hqa => by
    rcases Nat.lt_or_ge q i with h1 | h1
    · exact hm2 q h1 hqa
    · obtain rfl : q = i := by omega
      rcases hk with hk | hk
      · rw [hk] at hqa; cases hqa
      · right
        rw [cfP_neg]
        omega⟩
theorem all_among {n : Nat} {R : Nat → Int} {j : Nat} (hj : j ≤ n) (h : ∀ q, q < n → among n R j q = true) : j = n := by
  rcases Nat.lt_or_ge j n with h1 | h1
  · have := h _ (sortAt_lt (cfP_swo R) h1)
    rw [among_at h1] at this
    simp at this
  · omega
theorem shV_rng {t : Int} {ws : List Int} (h : wOk ws) (ht : 0 ≤ t) {k i : Nat} (hi : i < ws.length) : 0 ≤ shV t ws k i ∧ shV t ws k i ≤ t + 1 := by
  have := shQ_rng h ht hi
  unfold shV
  split <;> omega

end Go.Proofs.YtleknjngglhmaaaGreat
