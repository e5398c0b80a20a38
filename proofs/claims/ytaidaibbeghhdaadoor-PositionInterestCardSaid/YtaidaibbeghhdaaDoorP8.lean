/- The reference's MulDiv, and its Interest. -/
import Derived.Test.YtaidaibbeghhdaaDoorP7
namespace Go.Proofs.YtaidaibbeghhdaaDoor
open Go Go.RowKit
set_option linter.unusedVariables false
set_option linter.unusedSimpArgs false
set_option maxRecDepth 100000
set_option maxHeartbeats 4000000
attribute [local irreducible] ResLe AVle ArgLe ArgP EntLe Dle

theorem andI_one (n : Nat) : andI .i64 (n : Int) 1 = ((n % 2 : Nat) : Int) := by
  have h : (BitVec.ofInt 64 (n : Int) &&& BitVec.ofInt 64 1).toNat = n % 2 := by
    rw [BitVec.toNat_and, show BitVec.ofInt 64 (n : Int) = BitVec.ofNat 64 n from BitVec.ofInt_natCast .., show BitVec.ofInt 64 1 = BitVec.ofNat 64 1 by rfl, BitVec.toNat_ofNat, BitVec.toNat_ofNat]
    rw [show 1 % 2 ^ 64 = 1 by decide, Nat.and_one_is_mod]
    omega
  unfold andI
  show IntKind.i64.wrap ((BitVec.ofInt 64 (n : Int) &&& BitVec.ofInt 64 1).toNat : Int) = _
  rw [h, ← wrapOk (by omega)]
theorem shr_nat (n k : Nat) (hk : k ≤ 60) : (n : Int).fdiv (2 ^ (min (60 - (k : Int)).toNat 64)) = ((n / 2 ^ (60 - k) : Nat) : Int) := by
  rw [show min (60 - (k : Int)).toNat 64 = 60 - k by omega, show (2 : Int) ^ (60 - k) = ((2 ^ (60 - k) : Nat) : Int) by simp]
  rw [Int.ofNat_fdiv]
theorem half (n k : Nat) (hk : k ≤ 60) : n / 2 ^ (60 - k) = 2 * (n / 2 ^ (61 - k)) + n / 2 ^ (60 - k) % 2 := by
  rw [show 61 - k = (60 - k) + 1 by omega, Nat.pow_succ, ← Nat.div_div_eq_div_mul]
  omega
theorem tle {c t r B rest : Int} (hc : 0 < c) (h : B * rest = c * t + r) (hr : 0 ≤ r) (h0 : 0 ≤ rest) (h1 : rest < c) (hB : 0 ≤ B) : t ≤ B := by
  rcases Int.lt_or_le B t with hlt | hle
  · have h2 : c * (B + 1) ≤ c * t := Int.mul_le_mul_of_nonneg_left (by omega) (by omega)
    have h3 : B * rest ≤ B * c := Int.mul_le_mul_of_nonneg_left (by omega) hB
    rw [Int.mul_add, Int.mul_one, Int.mul_comm c B] at h2
    omega
  · exact hle
theorem rmulDiv_t (a b c : Nat) (hc : 0 < c) (hc2 : c < 1152921504606846976) (hb : b < 1152921504606846976) (hq : a / c * b + b < 4611686018427387904) (ha : a < 4611686018427387904) : ACalls XX 23 [iA a, iA b, iA c] (iA ((a * b / c : Nat) : Int)) := by
  have hx : (0 : Int) ≤ (a : Int) / c * b ∧ (a : Int) / c * b < 4611686018427387904 - b := by
    have : ((a : Int) / c * b) = ((a / c * b : Nat) : Int) := by simp
    rw [this]; omega
  have hx0 : (a : Int) / c = ((a / c : Nat) : Int) := by simp
  have hxc : a / c ≤ a := Nat.div_le_self a c
  have hm : (a : Int).tmod c = ((a % c : Nat) : Int) := by rw [Int.tmod_eq_emod_of_nonneg (by omega)]; simp
  have hm2 : a % c < c := Nat.mod_lt _ hc
  refine ACalls.of (n := Tryd.f23.ntmps) XX_ok Tryd.func23 rfl (by kernel_rfl) rfl rfl (Nat.le_of_ble_eq_true rfl) ?_
  (repeat' (first | refine W.seq ?_ | refine W.block ?_ | (refine W.region ?_; conv => whnf) | (refine W.ret ?_; conv => whnf) | (refine W.skip ?_; conv => whnf) | (refine W.exit ?_; conv => whnf) | (refine W.cond ?_; conv => whnf) | (refine W.drawT dr23 rfl mixed rfl ?_; conv => whnf) | ((with_reducible refine NumK.as _ (divOk (by omega) (by omega) (by omega)) ?_); conv => whnf) | ((with_reducible refine NumK.as _ (modOk (by omega) (by omega) (by omega) (by omega)) ?_); conv => whnf) | (refine NumK.as _ (wrapOk (by omega)) ?_; conv => whnf) | ((with_reducible refine NumK.as _ (wrapU (by omega)) ?_); conv => whnf) | (refine CndK.mk (by omega) ?_; conv => whnf) | (refine CndK.mk rfl ?_; conv => whnf) | (refine CndK.mk ⟨by assumption, rfl⟩ ?_; conv => whnf) | (refine BrK.mk (fun h => ?_) (fun h => ?_) <;> (try simp only [decide_eq_true_eq, decide_eq_false_iff_not, Bool.and_eq_true, Bool.or_eq_true, Bool.not_eq_true', Bool.not_eq_false', Bool.or_eq_false_iff, Bool.and_eq_false_iff, Int.not_lt, Int.not_le, gt_iff_lt, ge_iff_le] at h) <;> first | (exfalso; omega) | (exfalso; exact h rfl) | (exfalso; exact Bool.noConfusion h) | (conv => whnf))))
  simp only [hm]
  have hfin : a * b / c = a / c * b + b * (a % c) / c := by
    have e1 : a * b = c * (a / c * b) + b * (a % c) := by
      have := Nat.div_add_mod a c
      calc a * b = (c * (a / c) + a % c) * b := by rw [this]
        _ = c * (a / c * b) + b * (a % c) := by rw [Nat.add_mul, Nat.mul_assoc, Nat.mul_comm (a % c) b]
    rw [e1, Nat.mul_add_div hc]
  have hxe : (a : Int) / c * b = ((a / c * b : Nat) : Int) := by simp
  simp only [hxe] at hx ⊢
  rw [hfin]
  clear hxe hfin hm hx0 hxc
  generalize a / c * b = X at *
  generalize a % c = rest at *
  refine (W.loopK (ι := Nat × Int × Int) [1, 2, 7, 8] [] (fun q => [(9, iA q.2.1), (10, iA q.2.2), (11, iA (60 - (q.1 : Int)))]) (fun _ => []) (fun q => q.1 ≤ 61 ∧ ((b / 2 ^ (61 - q.1) : Nat) : Int) * rest = c * q.2.1 + q.2.2 ∧ 0 ≤ q.2.2 ∧ q.2.2 < c ∧ 0 ≤ q.2.1) (fun q => 61 - q.1) (0, 0, 0) ⟨by omega, by
    rw [Nat.div_eq_of_lt (by show b < 2 ^ 61; omega)]; simp, by dsimp only; omega, by dsimp only; omega, by dsimp only; omega⟩ ⟨AVle.refl _, AVle.refl _, AVle.refl _, trivial⟩ trivial ?_)
  conv => whnf
  intro ⟨k, t, r⟩ ⟨hk, hE, hr0, hr1, ht0⟩
  dsimp only at hk hE hr0 hr1 ht0 ⊢
  have htB := tle (by omega) hE hr0 (Int.natCast_nonneg rest) (by omega) (Int.natCast_nonneg _)
  have hBb : b / 2 ^ (61 - k) ≤ b := Nat.div_le_self _ _
  have q1 : (c : Int) * (2 * t) = 2 * (c * t) := by rw [Int.mul_left_comm]
  have q2 : (c : Int) * (2 * t + 1) = 2 * (c * t) + c := by rw [Int.mul_add, Int.mul_one, q1]
  have q3 : (c : Int) * (2 * t + 1 + 1) = 2 * (c * t) + c + c := by rw [Int.mul_add, Int.mul_one, q2]
  have hE1 : k ≤ 60 → andI IntKind.i64 ((b : Int).fdiv (2 ^ min (60 - (k : Int)).toNat IntKind.i64.bits)) 1 = 1 → ((b / 2 ^ (60 - k) : Nat) : Int) * rest = 2 * (c * t) + 2 * r + rest := fun hk' h => by
    have hbit : andI .i64 ((b : Int).fdiv (2 ^ (min (60 - (k : Int)).toNat 64))) 1 = ((b / 2 ^ (60 - k) % 2 : Nat) : Int) := by rw [shr_nat b k hk', andI_one]
    have h' := hbit.symm.trans h
    have hB := half b k hk'
    have h3 : ((b / 2 ^ (60 - k) : Nat) : Int) = 2 * ((b / 2 ^ (61 - k) : Nat) : Int) + 1 := by omega
    rw [h3, Int.add_mul, Int.mul_assoc, hE]; omega
  have hE0 : k ≤ 60 → ¬ andI IntKind.i64 ((b : Int).fdiv (2 ^ min (60 - (k : Int)).toNat IntKind.i64.bits)) 1 = 1 → ((b / 2 ^ (60 - k) : Nat) : Int) * rest = 2 * (c * t) + 2 * r := fun hk' h => by
    have hbit : andI .i64 ((b : Int).fdiv (2 ^ (min (60 - (k : Int)).toNat 64))) 1 = ((b / 2 ^ (60 - k) % 2 : Nat) : Int) := by rw [shr_nat b k hk', andI_one]
    have h' : ¬ ((b / 2 ^ (60 - k) % 2 : Nat) : Int) = 1 := fun e => h (hbit.trans e)
    have hB := half b k hk'
    have h3 : ((b / 2 ^ (60 - k) : Nat) : Int) = 2 * ((b / 2 ^ (61 - k) : Nat) : Int) := by omega
    rw [h3, Int.mul_assoc, hE]; omega
  have e61 : 61 - (k + 1) = 60 - k := by omega
  (repeat' (first | refine W.seq ?_ | refine W.block ?_ | (refine W.region ?_; conv => whnf) | (refine W.ret ?_; conv => whnf) | (refine W.skip ?_; conv => whnf) | (refine W.exit ?_; conv => whnf) | (refine W.cond ?_; conv => whnf) | (refine W.drawT dr23 rfl mixed rfl ?_; conv => whnf) | ((with_reducible refine NumK.as _ (divOk (by omega) (by omega) (by omega)) ?_); conv => whnf) | ((with_reducible refine NumK.as _ (modOk (by omega) (by omega) (by omega) (by omega)) ?_); conv => whnf) | (refine NumK.as _ (wrapOk (by omega)) ?_; conv => whnf) | ((with_reducible refine NumK.as _ (wrapU (by omega)) ?_); conv => whnf) | (refine CndK.mk (by omega) ?_; conv => whnf) | (refine CndK.mk rfl ?_; conv => whnf) | (refine CndK.mk ⟨by assumption, rfl⟩ ?_; conv => whnf) | (refine BrK.mk (fun h => ?_) (fun h => ?_) <;> (try simp only [decide_eq_true_eq, decide_eq_false_iff_not, Bool.and_eq_true, Bool.or_eq_true, Bool.not_eq_true', Bool.not_eq_false', Bool.or_eq_false_iff, Bool.and_eq_false_iff, Int.not_lt, Int.not_le, gt_iff_lt, ge_iff_le] at h) <;> first | (exfalso; omega) | (exfalso; exact h rfl) | (exfalso; exact Bool.noConfusion h) | (conv => whnf))))
  all_goals first
    | (refine ⟨(k + 1, _, _), ⟨?_, ?_, ?_, ?_, ?_⟩, ?_, ⟨AVle.refl _, AVle.refl _, AVle.int ?_, trivial⟩, trivial, ⟨AVle.refl _, AVle.refl _, AVle.refl _, AVle.refl _, trivial⟩, trivial⟩ <;> (dsimp only; (try rw [e61]); first | omega | (rw [hE1 (by omega) (by assumption)]; omega) | (rw [hE0 (by omega) (by assumption)]; omega)))
    | skip
  have hk61 : k = 61 := by omega
  subst hk61
  have hd : b * rest / c = t.toNat := by
    have hE' : (b : Int) * rest = c * t + r := by simpa using hE
    have : ((b * rest / c : Nat) : Int) = t := by
      rw [Int.natCast_ediv, Int.natCast_mul, hE', Int.mul_add_ediv_left _ _ (by omega), Int.ediv_eq_zero_of_lt hr0 hr1, Int.add_zero]
    omega
  rw [hd]
  (exact ResLe.pure (AVle.int (by omega)) rfl)
theorem rint_m (amount rate f t : Int) (h : intP amount rate f t) : ACalls XX 23 [iA amount, iA (rate * (t - f)), iA 365000000] (iA (amount * (rate * (t - f)) / 365000000)) := by
  obtain ⟨⟨h1, h2⟩, h3, h4⟩ := intB h
  obtain ⟨a0, a1, r0, r1, f0, f1, t1⟩ := h
  obtain ⟨x, rfl⟩ := Int.eq_ofNat_of_zero_le a0
  revert h1 h2 h3 h4
  generalize rate * (t - f) = y
  intro h1 h2 h3 h4
  obtain ⟨y, rfl⟩ := Int.eq_ofNat_of_zero_le h1
  have hq : x / 365000000 * y ≤ 2740 * 36524000000 := Nat.mul_le_mul (by omega) (by omega)
  have := rmulDiv_t x y 365000000 (by omega) (by omega) (by omega) (by omega) (by omega)
  have e : ((x * y / 365000000 : Nat) : Int) = (x : Int) * y / 365000000 := by simp
  rw [e] at this
  exact this
theorem rinterest_bad (amount rate f t : Int) (h : ¬ intP amount rate f t) : ACalls XX 15 [iA amount, iA rate, iA f, iA t] (.tup [iA 0, iA 2]) := by
  unfold intP at h
  refine ACalls.of (n := Tryd.f15.ntmps) XX_ok Tryd.func15 rfl (by kernel_rfl) rfl rfl (Nat.le_of_ble_eq_true rfl) ?_
  (repeat' (first | refine W.seq ?_ | refine W.block ?_ | (refine W.region ?_; conv => whnf) | (refine W.ret ?_; conv => whnf) | (refine W.skip ?_; conv => whnf) | (refine W.exit ?_; conv => whnf) | (refine W.cond ?_; conv => whnf) | (refine W.drawT dr15 rfl mixed rfl ?_; conv => whnf) | ((with_reducible refine NumK.as _ (divOk (by omega) (by omega) (by omega)) ?_); conv => whnf) | ((with_reducible refine NumK.as _ (modOk (by omega) (by omega) (by omega) (by omega)) ?_); conv => whnf) | (refine NumK.as _ (wrapOk (by omega)) ?_; conv => whnf) | ((with_reducible refine NumK.as _ (wrapU (by omega)) ?_); conv => whnf) | (refine CndK.mk (by omega) ?_; conv => whnf) | (refine CndK.mk rfl ?_; conv => whnf) | (refine CndK.mk ⟨by assumption, rfl⟩ ?_; conv => whnf) | (refine BrK.mk (fun h => ?_) (fun h => ?_) <;> (try simp only [decide_eq_true_eq, decide_eq_false_iff_not, Bool.and_eq_true, Bool.or_eq_true, Bool.not_eq_true', Bool.not_eq_false', Bool.or_eq_false_iff, Bool.and_eq_false_iff, Int.not_lt, Int.not_le, gt_iff_lt, ge_iff_le] at h) <;> first | (exfalso; omega) | (exfalso; exact h rfl) | (exfalso; exact Bool.noConfusion h) | (conv => whnf))))
  all_goals (repeat' (first | exact trivial | exact AVle.refl _ | exact AVle.int (by omega) | exact ResLe.pure (AVle.refl _) rfl | exact ResLe.pure (AVle.int (by omega)) rfl | refine ResLe.pure (AVle.agg ?_) rfl | refine ⟨?_, ?_⟩ | ((conv => whnf); first | exact ResLe.pure (AVle.refl _) rfl | exact ResLe.pure (AVle.int (by omega)) rfl | refine ResLe.pure (AVle.agg ?_) rfl)))
theorem rinterest_t (amount rate f t : Int) (h : intP amount rate f t) : ACalls XX 15 [iA amount, iA rate, iA f, iA t] (.tup [iA (amount * (rate * (t - f)) / 365000000), iA 0]) := by
  have hm := rint_m amount rate f t h
  obtain ⟨⟨h1, h2⟩, h3, h4⟩ := intB h
  obtain ⟨a0, a1, r0, r1, f0, f1, t1⟩ := h
  refine ACalls.of (n := Tryd.f15.ntmps) XX_ok Tryd.func15 rfl (by kernel_rfl) rfl rfl (Nat.le_of_ble_eq_true rfl) ?_
  (repeat' (first | refine W.seq ?_ | refine W.block ?_ | (refine W.region ?_; conv => whnf) | (refine W.ret ?_; conv => whnf) | (refine W.skip ?_; conv => whnf) | (refine W.exit ?_; conv => whnf) | (refine W.cond ?_; conv => whnf) | (refine W.drawT dr15 rfl mixed rfl ?_; conv => whnf) | ((with_reducible refine NumK.as _ (divOk (by omega) (by omega) (by omega)) ?_); conv => whnf) | ((with_reducible refine NumK.as _ (modOk (by omega) (by omega) (by omega) (by omega)) ?_); conv => whnf) | (refine NumK.as _ (wrapOk (by omega)) ?_; conv => whnf) | ((with_reducible refine NumK.as _ (wrapU (by omega)) ?_); conv => whnf) | (refine CndK.mk (by omega) ?_; conv => whnf) | (refine CndK.mk rfl ?_; conv => whnf) | (refine CndK.mk ⟨by assumption, rfl⟩ ?_; conv => whnf) | (refine ExCall.by (CallA.p2 rfl (hm) rfl) ?_; conv => whnf) | (refine CallK.by (CallA.p2 rfl (hm) rfl) ?_; conv => whnf) | (refine BrK.mk (fun h => ?_) (fun h => ?_) <;> (try simp only [decide_eq_true_eq, decide_eq_false_iff_not, Bool.and_eq_true, Bool.or_eq_true, Bool.not_eq_true', Bool.not_eq_false', Bool.or_eq_false_iff, Bool.and_eq_false_iff, Int.not_lt, Int.not_le, gt_iff_lt, ge_iff_le] at h) <;> first | (exfalso; omega) | (exfalso; exact h rfl) | (exfalso; exact Bool.noConfusion h) | (conv => whnf))))
  all_goals (repeat' (first | exact trivial | exact AVle.refl _ | exact AVle.int (by omega) | exact ResLe.pure (AVle.refl _) rfl | exact ResLe.pure (AVle.int (by omega)) rfl | refine ResLe.pure (AVle.agg ?_) rfl | refine ⟨?_, ?_⟩ | ((conv => whnf); first | exact ResLe.pure (AVle.refl _) rfl | exact ResLe.pure (AVle.int (by omega)) rfl | refine ResLe.pure (AVle.agg ?_) rfl)))
theorem lawInterest_t (a r f t m : Int) (raw : Bool) : ACalls XX 6 [iA a, iA r, iA f, iA t, iA m, bA raw] (bA true) := by
  have hA := awake_t
  cases raw
  · generalize ha : a % 1000000000001 = A
    generalize hr : r % 1000001 = R
    generalize hf : f % 30000 = F0
    generalize ht : t % 6000 = T
    have hP : 0 ≤ A ∧ A ≤ 1000000000000 ∧ 0 ≤ R ∧ R ≤ 1000000 ∧ 0 ≤ F0 ∧ F0 ≤ 29999 ∧ 0 ≤ T ∧ T ≤ 5999 := by omega
    have hM0 := Int.emod_nonneg m (show (F0 + T - F0 + 1) ≠ 0 by omega)
    have hM1 := Int.emod_lt_of_pos m (show 0 < F0 + T - F0 + 1 by omega)
    generalize hm : m % (F0 + T - F0 + 1) = M at hM0 hM1
    have w1 : ACalls XX 8 [iA a, iA 1000000000001] (iA A) := ha ▸ within_t a _ (by omega) (by omega)
    have w2 : ACalls XX 8 [iA r, iA 1000001] (iA R) := hr ▸ within_t r _ (by omega) (by omega)
    have w3 : ACalls XX 8 [iA f, iA 30000] (iA F0) := hf ▸ within_t f _ (by omega) (by omega)
    have w4 : ACalls XX 8 [iA t, iA 6000] (iA T) := ht ▸ within_t t _ (by omega) (by omega)
    have w5 : ACalls XX 8 [iA m, iA (F0 + T - F0 + 1)] (iA M) := hm ▸ within_t m _ (by omega) (by omega)
    have i1 := interest_t A R F0 (F0 + T) (by unfold intP; omega)
    have i2 := rinterest_t A R F0 (F0 + T) (by unfold intP; omega)
    have i3 := interest_t A R F0 (F0 + M) (by unfold intP; omega)
    have i4 := interest_t A R (F0 + M) (F0 + T) (by unfold intP; omega)
    have b1 := intB (amount := A) (rate := R) (f := F0) (t := F0 + T) (by unfold intP; omega)
    have b3 := intB (amount := A) (rate := R) (f := F0) (t := F0 + M) (by unfold intP; omega)
    have b4 := intB (amount := A) (rate := R) (f := F0 + M) (t := F0 + T) (by unfold intP; omega)
    have hs : A * (R * (F0 + T - F0)) = A * (R * (F0 + M - F0)) + A * (R * (F0 + T - (F0 + M))) := by
      rw [← Int.mul_add, ← Int.mul_add]; congr 2; omega
    have hx : ∀ p d : Int, 0 ≤ p → 0 ≤ d → p / 365000000 + d / 365000000 ≤ (p + d) / 365000000 ∧ (p + d) / 365000000 ≤ p / 365000000 + d / 365000000 + 1 := fun p d h1 h2 => by omega
    have hx' := hx (A * (R * (F0 + M - F0))) (A * (R * (F0 + T - (F0 + M)))) (Int.mul_nonneg hP.1 b3.1.1) (Int.mul_nonneg hP.1 b4.1.1)
    rw [← hs] at hx'
    clear hx hs
    obtain ⟨_, b1⟩ := b1
    obtain ⟨_, b3⟩ := b3
    obtain ⟨_, b4⟩ := b4
    generalize A * (R * (F0 + T - F0)) / 365000000 = v1 at *
    generalize A * (R * (F0 + M - F0)) / 365000000 = v3 at *
    generalize A * (R * (F0 + T - (F0 + M))) / 365000000 = v4 at *
    refine ACalls.of (n := Tryd.f6.ntmps) XX_ok Tryd.func6 rfl (by kernel_rfl) rfl rfl (Nat.le_of_ble_eq_true rfl) ?_
    (repeat' (first | refine W.seq ?_ | refine W.block ?_ | (refine W.region ?_; conv => whnf) | (refine W.ret ?_; conv => whnf) | (refine W.skip ?_; conv => whnf) | (refine W.exit ?_; conv => whnf) | (refine W.cond ?_; conv => whnf) | (refine W.drawT dr6 rfl mixed rfl ?_; conv => whnf) | ((with_reducible refine NumK.as _ (divOk (by omega) (by omega) (by omega)) ?_); conv => whnf) | ((with_reducible refine NumK.as _ (modOk (by omega) (by omega) (by omega) (by omega)) ?_); conv => whnf) | (refine NumK.as _ (wrapOk (by omega)) ?_; conv => whnf) | ((with_reducible refine NumK.as _ (wrapU (by omega)) ?_); conv => whnf) | (refine CndK.mk (by omega) ?_; conv => whnf) | (refine CndK.mk rfl ?_; conv => whnf) | (refine CndK.mk ⟨by assumption, rfl⟩ ?_; conv => whnf) | (refine ExCall.by (CallA.p2 rfl (w1) rfl) ?_; conv => whnf) | (refine CallK.by (CallA.p2 rfl (w1) rfl) ?_; conv => whnf) | (refine ExCall.by (CallA.p2 rfl (w2) rfl) ?_; conv => whnf) | (refine CallK.by (CallA.p2 rfl (w2) rfl) ?_; conv => whnf) | (refine ExCall.by (CallA.p2 rfl (w3) rfl) ?_; conv => whnf) | (refine CallK.by (CallA.p2 rfl (w3) rfl) ?_; conv => whnf) | (refine ExCall.by (CallA.p2 rfl (w4) rfl) ?_; conv => whnf) | (refine CallK.by (CallA.p2 rfl (w4) rfl) ?_; conv => whnf) | (refine ExCall.by (CallA.p2 rfl (w5) rfl) ?_; conv => whnf) | (refine CallK.by (CallA.p2 rfl (w5) rfl) ?_; conv => whnf) | (refine ExCall.by (CallA.p2 rfl (i1) rfl) ?_; conv => whnf) | (refine CallK.by (CallA.p2 rfl (i1) rfl) ?_; conv => whnf) | (refine ExCall.by (CallA.p2 rfl (i2) rfl) ?_; conv => whnf) | (refine CallK.by (CallA.p2 rfl (i2) rfl) ?_; conv => whnf) | (refine ExCall.by (CallA.p2 rfl (i3) rfl) ?_; conv => whnf) | (refine CallK.by (CallA.p2 rfl (i3) rfl) ?_; conv => whnf) | (refine ExCall.by (CallA.p2 rfl (i4) rfl) ?_; conv => whnf) | (refine CallK.by (CallA.p2 rfl (i4) rfl) ?_; conv => whnf) | (refine ExCall.by (CallA.p2 rfl (hA) rfl) ?_; conv => whnf) | (refine CallK.by (CallA.p2 rfl (hA) rfl) ?_; conv => whnf) | (refine BrK.mk (fun h => ?_) (fun h => ?_) <;> (try simp only [decide_eq_true_eq, decide_eq_false_iff_not, Bool.and_eq_true, Bool.or_eq_true, Bool.not_eq_true', Bool.not_eq_false', Bool.or_eq_false_iff, Bool.and_eq_false_iff, Int.not_lt, Int.not_le, gt_iff_lt, ge_iff_le] at h) <;> first | (exfalso; omega) | (exfalso; exact h rfl) | (exfalso; exact Bool.noConfusion h) | (conv => whnf))))
    all_goals first
      | exact ResLe.pure (AVle.bool rfl) rfl
      | (first | exact ResLe.pure (AVle.bool (by simp only [decide_eq_true_eq, decide_eq_false_iff_not, decide_eq_decide]; omega)) rfl | exact ResLe.pure (AVle.tt_ (by simp only [decide_eq_true_eq, decide_eq_false_iff_not, decide_eq_decide]; omega)) rfl | exact ResLe.pure (AVle.ff_ (by simp only [decide_eq_true_eq, decide_eq_false_iff_not, decide_eq_decide]; omega)) rfl)
      | (exfalso; first | omega | (simp at *; done))
  · have key : ∃ v e, ACalls XX 14 [iA a, iA r, iA f, iA t] (.tup [iA v, iA e]) ∧ ACalls XX 15 [iA a, iA r, iA f, iA t] (.tup [iA v, iA e]) := by
      by_cases h : intP a r f t
      · exact ⟨_, _, interest_t a r f t h, rinterest_t a r f t h⟩
      · exact ⟨_, _, interest_bad a r f t h, rinterest_bad a r f t h⟩
    obtain ⟨v, e, k1, k2⟩ := key
    refine ACalls.of (n := Tryd.f6.ntmps) XX_ok Tryd.func6 rfl (by kernel_rfl) rfl rfl (Nat.le_of_ble_eq_true rfl) ?_
    (repeat' (first | refine W.seq ?_ | refine W.block ?_ | (refine W.region ?_; conv => whnf) | (refine W.ret ?_; conv => whnf) | (refine W.skip ?_; conv => whnf) | (refine W.exit ?_; conv => whnf) | (refine W.cond ?_; conv => whnf) | (refine W.drawT dr6 rfl mixed rfl ?_; conv => whnf) | ((with_reducible refine NumK.as _ (divOk (by omega) (by omega) (by omega)) ?_); conv => whnf) | ((with_reducible refine NumK.as _ (modOk (by omega) (by omega) (by omega) (by omega)) ?_); conv => whnf) | (refine NumK.as _ (wrapOk (by omega)) ?_; conv => whnf) | ((with_reducible refine NumK.as _ (wrapU (by omega)) ?_); conv => whnf) | (refine CndK.mk (by omega) ?_; conv => whnf) | (refine CndK.mk rfl ?_; conv => whnf) | (refine CndK.mk ⟨by assumption, rfl⟩ ?_; conv => whnf) | (refine ExCall.by (CallA.p2 rfl (k1) rfl) ?_; conv => whnf) | (refine CallK.by (CallA.p2 rfl (k1) rfl) ?_; conv => whnf) | (refine ExCall.by (CallA.p2 rfl (k2) rfl) ?_; conv => whnf) | (refine CallK.by (CallA.p2 rfl (k2) rfl) ?_; conv => whnf) | (refine ExCall.by (CallA.p2 rfl (hA) rfl) ?_; conv => whnf) | (refine CallK.by (CallA.p2 rfl (hA) rfl) ?_; conv => whnf) | (refine BrK.mk (fun h => ?_) (fun h => ?_) <;> (try simp only [decide_eq_true_eq, decide_eq_false_iff_not, Bool.and_eq_true, Bool.or_eq_true, Bool.not_eq_true', Bool.not_eq_false', Bool.or_eq_false_iff, Bool.and_eq_false_iff, Int.not_lt, Int.not_le, gt_iff_lt, ge_iff_le] at h) <;> first | (exfalso; omega) | (exfalso; exact h rfl) | (exfalso; exact Bool.noConfusion h) | (conv => whnf))))
    all_goals first
      | exact ResLe.pure (AVle.bool rfl) rfl
      | (first | exact ResLe.pure (AVle.bool (by simp only [decide_eq_true_eq, decide_eq_false_iff_not, decide_eq_decide]; omega)) rfl | exact ResLe.pure (AVle.tt_ (by simp only [decide_eq_true_eq, decide_eq_false_iff_not, decide_eq_decide]; omega)) rfl | exact ResLe.pure (AVle.ff_ (by simp only [decide_eq_true_eq, decide_eq_false_iff_not, decide_eq_decide]; omega)) rfl)
      | (exfalso; first | omega | (simp at *; done))
end Go.Proofs.YtaidaibbeghhdaaDoor
