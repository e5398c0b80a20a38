/- The reference's MulDiv. -/
import Derived.Test.YtacpjihbbmoolaaGreatDoorEM

namespace Go.Proofs.YtacpjihbbmoolaaGreatDoor
open Go Go.RowKit
set_option linter.unusedVariables false
set_option linter.unusedSimpArgs false
set_option maxRecDepth 100000
set_option maxHeartbeats 4000000
attribute [local irreducible] ResLe AVle ArgLe ArgP EntLe Dle

theorem andI_one (n : Nat) : andI .i64 (n : Int) 1 = ((n % 2 : Nat) : Int) := by
  have h : (BitVec.ofInt 64 (n : Int) &&& BitVec.ofInt 64 1).toNat = n % 2 := by
    rw [BitVec.toNat_and, show BitVec.ofInt 64 (n : Int) = BitVec.ofNat 64 n from BitVec.ofInt_natCast .., show BitVec.ofInt 64 1 = BitVec.ofNat 64 1 by rfl, BitVec.toNat_ofNat, BitVec.toNat_ofNat]
    rw [show 1 % 2 ^ 64 = 1 by decide, Nat.and_one_is_mod]
    omega
  unfold andI
  show IntKind.i64.wrap ((BitVec.ofInt 64 (n : Int) &&& BitVec.ofInt 64 1).toNat : Int) = _
  rw [h, ← wrapOk (by omega)]
theorem shr_nat (n k : Nat) (hk : k ≤ 60) : (n : Int).fdiv (2 ^ (min (60 - (k : Int)).toNat 64)) = ((n / 2 ^ (60 - k) : Nat) : Int) := by
  rw [show min (60 - (k : Int)).toNat 64 = 60 - k by omega, show (2 : Int) ^ (60 - k) = ((2 ^ (60 - k) : Nat) : Int) by simp]
  rw [Int.ofNat_fdiv]
theorem half (n k : Nat) (hk : k ≤ 60) : n / 2 ^ (60 - k) = 2 * (n / 2 ^ (61 - k)) + n / 2 ^ (60 - k) % 2 := by
  rw [show 61 - k = (60 - k) + 1 by omega, Nat.pow_succ, ← Nat.div_div_eq_div_mul]
  omega
theorem tle {c t r B rest : Int} (hc : 0 < c) (h : B * rest = c * t + r) (hr : 0 ≤ r) (h0 : 0 ≤ rest) (h1 : rest < c) (hB : 0 ≤ B) : t ≤ B := by
  rcases Int.lt_or_le B t with hlt|hle
  · have h2 : c * (B + 1) ≤ c * t := Int.mul_le_mul_of_nonneg_left (by omega) (by omega)
    have h3 : B * rest ≤ B * c := Int.mul_le_mul_of_nonneg_left (by omega) hB
    rw [Int.mul_add, Int.mul_one, Int.mul_comm c B] at h2
    omega
  · exact hle
theorem rmulDiv_t (a b c : Nat) (hc : 0 < c) (hc2 : c < 1152921504606846976) (hb : b < 1152921504606846976) (hq : a / c * b + b < 4611686018427387904) (ha : a < 4611686018427387904) : ACalls XX 94 [iA a, iA b, iA c] (iA ((a * b / c : Nat) : Int)) := by
  have hx : (0 : Int) ≤ (a : Int) / c * b ∧ (a : Int) / c * b < 4611686018427387904 - b := by
    have : ((a : Int) / c * b) = ((a / c * b : Nat) : Int) := by simp
    rw [this]; omega
  have hx0 : (a : Int) / c = ((a / c : Nat) : Int) := by simp
  have hxc : a / c ≤ a := Nat.div_le_self a c
  have hm : (a : Int).tmod c = ((a % c : Nat) : Int) := by rw [Int.tmod_eq_emod_of_nonneg (by omega)]; simp
  have hm2 : a % c < c := Nat.mod_lt _ hc
  refine ACalls.of (n := Tryz.f94.ntmps) XX_ok Tryz.func94 rfl (by kernel_rfl) rfl rfl (Nat.le_of_ble_eq_true rfl) ?_
  (repeat' (first|((first|refine Zg ?_|refine Zt dr94 ?_|refine Zn ?_|refine Zc ?_|refine Zu fun b hb=>?_);conv=>whnf)|(refine Zb ?_ ?_<;>(intro h;first|exact Zx|conv=>whnf))))
  simp only [hm]
  have hfin : a * b / c = a / c * b + b * (a % c) / c := by
    have e1 : a * b = c * (a / c * b) + b * (a % c) := by
      have := Nat.div_add_mod a c
      calc a * b = (c * (a / c) + a % c) * b := by rw [this]
        _ = c * (a / c * b) + b * (a % c) := by rw [Nat.add_mul, Nat.mul_assoc, Nat.mul_comm (a % c) b]
    rw [e1, Nat.mul_add_div hc]
  have hxe : (a : Int) / c * b = ((a / c * b : Nat) : Int) := by simp
  simp only [hxe] at hx ⊢
  rw [hfin]
  clear hxe hfin hm hx0 hxc
  generalize a / c * b = X at *
  generalize a % c = rest at *
  refine (W.loopK (ι := Nat × Int × Int) [1, 2, 7, 8] [] (fun q => [(9, iA q.2.1), (10, iA q.2.2), (11, iA (60 - (q.1 : Int)))]) (fun _ => []) (fun q => q.1 ≤ 61 ∧ ((b / 2 ^ (61 - q.1) : Nat) : Int) * rest = c * q.2.1 + q.2.2 ∧ 0 ≤ q.2.2 ∧ q.2.2 < c ∧ 0 ≤ q.2.1) (fun q => 61 - q.1) (0, 0, 0) ⟨by omega, by
    rw [Nat.div_eq_of_lt (by show b < 2 ^ 61; omega)]; simp, by dsimp only; omega, by dsimp only; omega, by dsimp only; omega⟩ ⟨AVle.refl _, AVle.refl _, AVle.refl _, trivial⟩ trivial ?_)
  conv => whnf
  intro ⟨k, t, r⟩ ⟨hk, hE, hr0, hr1, ht0⟩
  dsimp only at hk hE hr0 hr1 ht0 ⊢
  have htB := tle (by omega) hE hr0 (Int.natCast_nonneg rest) (by omega) (Int.natCast_nonneg _)
  have hBb : b / 2 ^ (61 - k) ≤ b := Nat.div_le_self _ _
  have q1 : (c : Int) * (2 * t) = 2 * (c * t) := by rw [Int.mul_left_comm]
  have q2 : (c : Int) * (2 * t + 1) = 2 * (c * t) + c := by rw [Int.mul_add, Int.mul_one, q1]
  have q3 : (c : Int) * (2 * t + 1 + 1) = 2 * (c * t) + c + c := by rw [Int.mul_add, Int.mul_one, q2]
  have hE1 : k ≤ 60 → andI IntKind.i64 ((b : Int).fdiv (2 ^ min (60 - (k : Int)).toNat IntKind.i64.bits)) 1 = 1 → ((b / 2 ^ (60 - k) : Nat) : Int) * rest = 2 * (c * t) + 2 * r + rest := fun hk' h => by
    have hbit : andI .i64 ((b : Int).fdiv (2 ^ (min (60 - (k : Int)).toNat 64))) 1 = ((b / 2 ^ (60 - k) % 2 : Nat) : Int) := by rw [shr_nat b k hk', andI_one]
    have h' := hbit.symm.trans h
    have hB := half b k hk'
    have h3 : ((b / 2 ^ (60 - k) : Nat) : Int) = 2 * ((b / 2 ^ (61 - k) : Nat) : Int) + 1 := by omega
    rw [h3, Int.add_mul, Int.mul_assoc, hE]; omega
  have hE0 : k ≤ 60 → ¬ andI IntKind.i64 ((b : Int).fdiv (2 ^ min (60 - (k : Int)).toNat IntKind.i64.bits)) 1 = 1 → ((b / 2 ^ (60 - k) : Nat) : Int) * rest = 2 * (c * t) + 2 * r := fun hk' h => by
    have hbit : andI .i64 ((b : Int).fdiv (2 ^ (min (60 - (k : Int)).toNat 64))) 1 = ((b / 2 ^ (60 - k) % 2 : Nat) : Int) := by rw [shr_nat b k hk', andI_one]
    have h' : ¬ ((b / 2 ^ (60 - k) % 2 : Nat) : Int) = 1 := fun e => h (hbit.trans e)
    have hB := half b k hk'
    have h3 : ((b / 2 ^ (60 - k) : Nat) : Int) = 2 * ((b / 2 ^ (61 - k) : Nat) : Int) := by omega
    rw [h3, Int.mul_assoc, hE]; omega
  have e61 : 61 - (k + 1) = 60 - k := by omega
  (repeat' (first|((first|refine Zg ?_|refine Zt dr94 ?_|refine Zn ?_|refine Zc ?_|refine Zu fun b hb=>?_);conv=>whnf)|(refine Zb ?_ ?_<;>(intro h;first|exact Zx|conv=>whnf))))
  all_goals first
    | (refine ⟨(k + 1, _, _), ⟨?_, ?_, ?_, ?_, ?_⟩, ?_, ⟨AVle.refl _, AVle.refl _, AVle.int ?_, trivial⟩, trivial, ⟨AVle.refl _, AVle.refl _, AVle.refl _, AVle.refl _, trivial⟩, trivial⟩ <;> (dsimp only; (try rw [e61]); first|omega|(rw [hE1 (by omega) (by assumption)]; omega)|(rw [hE0 (by omega) (by assumption)]; omega)))
    | skip
  have hk61 : k = 61 := by omega
  subst hk61
  have hd : b * rest / c = t.toNat := by
    have hE' : (b : Int) * rest = c * t + r := by simpa using hE
    have : ((b * rest / c : Nat) : Int) = t := by
      rw [Int.natCast_ediv, Int.natCast_mul, hE', Int.mul_add_ediv_left _ _ (by omega), Int.ediv_eq_zero_of_lt hr0 hr1, Int.add_zero]
    omega
  rw [hd]
  (exact ResLe.pure (AVle.int (by omega)) rfl)

end Go.Proofs.YtacpjihbbmoolaaGreatDoor
