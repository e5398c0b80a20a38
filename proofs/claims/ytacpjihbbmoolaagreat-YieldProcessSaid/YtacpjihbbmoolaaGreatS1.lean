/- Slices of lots by descriptions: whether one is good; comparisons with the draws counted. -/
import Derived.Test.YtacpjihbbmoolaaGreatEM
import Derived.Test.YtacpjihbbmoolaaGreatLays
namespace Go.Proofs.YtacpjihbbmoolaaGreat
open Go Go.RowKit
set_option linter.unusedVariables false
set_option linter.unusedSimpArgs false
set_option maxRecDepth 100000
set_option maxHeartbeats 4000000
attribute [local irreducible] ResLe AVle ArgLe ArgP EntLe Dle ResH ArgQ

def cmpI (a b : Int) : Int := if a < b then -1 else if b < a then 1 else 0
theorem isNaN_d (a : Int) : ACalls XD 95 [iA a] (bA false) := by
  refine ACalls.of (n := Tryz.f95.ntmps) XD_ok Tryz.func95 rfl (by kernel_rfl) rfl rfl (Nat.le_of_ble_eq_true rfl) ?_
  (repeat' (first | ((first | refine Zg ?_ | refine Zn ?_ | refine Zc ?_ | refine Zu fun b hb => ?_); conv => whnf) | (refine Zb (fun h => ?_) (fun h => ?_) <;> first | exact Zx | (conv => whnf))))
  all_goals (repeat' (first | exact Zrq | exact Zi (by simp) | exact Zo (h := by simp) | refine ResLe.agg ?_ | refine And.intro ?_ ?_ | ((conv => whnf); first | exact Zrq | exact Zi (by simp) | exact Zo (h := by simp) | refine ResLe.agg ?_ | refine And.intro ?_ ?_)))
theorem cmp_d (a b : Int) : ACalls XD 68 [iA a, iA b] (iA (cmpI a b)) := by
  have h := isNaN_d
  refine ACalls.of (n := Tryz.f68.ntmps) XD_ok Tryz.func68 rfl (by kernel_rfl) rfl rfl (Nat.le_of_ble_eq_true rfl) ?_
  (repeat' (first | ((first | refine Zg ?_ | refine Zn ?_ | refine Zc ?_ | refine Zu fun b hb => ?_ | refine Zy (h _) ?_); conv => whnf) | (refine Zb (fun h => ?_) (fun h => ?_) <;> first | exact Zx | (conv => whnf))))
  all_goals (repeat' (first | exact Zrq | exact Zi (by unfold cmpI; first | rw [if_pos (by omega)] | rw [if_neg (by omega), if_pos (by omega)] | rw [if_neg (by omega), if_neg (by omega)]) | exact Zo (h := by unfold cmpI; first | rw [if_pos (by omega)] | rw [if_neg (by omega), if_pos (by omega)] | rw [if_neg (by omega), if_neg (by omega)]) | refine ResLe.agg ?_ | refine And.intro ?_ ?_ | ((conv => whnf); first | exact Zrq | exact Zi (by unfold cmpI; first | rw [if_pos (by omega)] | rw [if_neg (by omega), if_pos (by omega)] | rw [if_neg (by omega), if_neg (by omega)]) | exact Zo (h := by unfold cmpI; first | rw [if_pos (by omega)] | rw [if_neg (by omega), if_pos (by omega)] | rw [if_neg (by omega), if_neg (by omega)]) | refine ResLe.agg ?_ | refine And.intro ?_ ?_)))
def orL (L : List Int) : Int := (L.find? fun x => decide (x ≠ 0)).getD 0
theorem orL_at {L : List Int} {k : Nat} (hk : k < L.length) (h : ∀ i, i < k → L.getD i 0 = 0) (hx : L.getD k 0 ≠ 0) : orL L = L.getD k 0 := by
  induction L generalizing k with
  | nil => simp at hk
  | cons a l ih =>
    unfold orL
    by_cases ha : a = 0
    · subst ha
      cases k with
      | zero => simp at hx
      | succ k =>
        have := ih (k := k) (by simpa using hk) (fun i hi => by simpa using h (i + 1) (by omega)) (by simpa using hx)
        unfold orL at this
        simpa using this
    · cases k with
      | zero => simp [ha]
      | succ k => exact absurd (by simpa using h 0 (by omega)) ha
theorem orL_none {L : List Int} (h : ∀ i, i < L.length → L.getD i 0 = 0) : orL L = 0 := by
  induction L with
  | nil => rfl
  | cons a l ih =>
    have h0 : a = 0 := by simpa using h 0 (by simp)
    subst h0
    have := ih fun i hi => by simpa using h (i + 1) (by simp; omega)
    unfold orL at this ⊢
    simpa using this
theorem or_d (L : List Int) (hL : L.length ≤ 1000000) : ACalls XD 112 [.dat (ilst L)] (iA (orL L)) := by
  refine ACalls.of (n := Tryz.f112.ntmps) XD_ok Tryz.func112 rfl (by kernel_rfl) rfl rfl (Nat.le_of_ble_eq_true rfl) ?_
  (repeat' (first | ((first | refine Zg ?_ | refine Zn ?_ | refine Zc ?_ | refine Zu fun b hb => ?_); conv => whnf) | (refine Zb (fun h => ?_) (fun h => ?_) <;> first | exact Zx | (conv => whnf))))
  refine (W.loopK (ι := Nat) [3, 6, 7] [] (fun k => [(8, iA k)]) (fun _ => []) (fun k => k ≤ L.length ∧ ∀ i, i < k → L.getD i 0 = 0) (fun k => L.length - k) 0 ⟨Nat.zero_le _, fun i hi => absurd hi (by omega)⟩ ?_ ?_ ?_)
  · exact Yz
  · exact Yz
  conv => whnf
  intro k ⟨hk, hz⟩
  (repeat' (first | ((first | refine Zg ?_ | refine Zn ?_ | refine Zc ?_ | refine Zu fun b hb => ?_); conv => whnf) | (refine Zb (fun h => ?_) (fun h => ?_) <;> first | exact Zx | (conv => whnf))))
  all_goals (try dsimp only [Int.toNat_natCast] at *)
  · (repeat' (first | exact Zrq | exact Zi (by exact (orL_at (k := k) (by omega) hz (by omega)).symm) | exact Zo (h := by exact (orL_at (k := k) (by omega) hz (by omega)).symm) | refine ResLe.agg ?_ | refine And.intro ?_ ?_ | ((conv => whnf); first | exact Zrq | exact Zi (by exact (orL_at (k := k) (by omega) hz (by omega)).symm) | exact Zo (h := by exact (orL_at (k := k) (by omega) hz (by omega)).symm) | refine ResLe.agg ?_ | refine And.intro ?_ ?_)))
  · exact ⟨k + 1, ⟨by omega, fun i hi => by
      by_cases hik : i = k
      · subst hik; omega
      · exact hz i (by omega)⟩, by omega, ⟨AVle.refl _, trivial⟩, trivial, ⟨AVle.refl _, AVle.refl _, AVle.refl _, trivial⟩, trivial⟩
  · (repeat' (first | exact Zrq | exact Zi (by exact (orL_none (fun i hi => hz i (by omega))).symm) | exact Zo (h := by exact (orL_none (fun i hi => hz i (by omega))).symm) | refine ResLe.agg ?_ | refine And.intro ?_ ?_ | ((conv => whnf); first | exact Zrq | exact Zi (by exact (orL_none (fun i hi => hz i (by omega))).symm) | exact Zo (h := by exact (orL_none (fun i hi => hz i (by omega))).symm) | refine ResLe.agg ?_ | refine And.intro ?_ ?_)))

structure Sl where
  m : Int
  s : Int
  e : Int
  deriving Inhabited
abbrev slA (x : Sl) : AV := .agg [iA x.m, iA x.s, iA x.e]
def slE (x : Sl) (j : Nat) : D := match j with
  | 0 => .val (.int .i64 x.m)
  | 1 => .val (.int .i64 x.s)
  | _ => .val (.int .i64 x.e)
abbrev slD (us : List Sl) : D := .lst 3 us.length (rowF slE us)
structure Ch where
  m : Int
  u : Int
  a : Int
  deriving Inhabited
def chE (x : Ch) (j : Nat) : D := match j with
  | 0 => .val (.int .i64 x.m)
  | 1 => .val (.int .i64 x.u)
  | _ => .val (.int .i64 x.a)
abbrev chD (us : List Ch) : D := .lst 3 us.length (rowF chE us)
def slOk (x : Sl) : Prop := 1 ≤ x.m ∧ x.m ≤ 1000000 ∧ 0 ≤ x.s ∧ x.s < x.e ∧ x.e ≤ 1000000000
instance (x : Sl) : Decidable (slOk x) := by unfold slOk; exact inferInstance
theorem validSlice_t (x : Sl) : ACalls XX 88 [slA x] (bA (decide (slOk x))) := by
  refine ACalls.of (n := Tryz.f88.ntmps) XX_ok Tryz.func88 rfl (by kernel_rfl) rfl rfl (Nat.le_of_ble_eq_true rfl) ?_
  (repeat' (first | ((first | refine Zg ?_ | refine Zn ?_ | refine Zc ?_ | refine Zu fun b hb => ?_); conv => whnf) | (refine Zb (fun h => ?_) (fun h => ?_) <;> first | exact Zx | (conv => whnf))))
  all_goals (repeat' (first | exact Zrq | exact Zi (by unfold slOk; omega) | exact Zo (h := by unfold slOk; omega) | refine ResLe.agg ?_ | refine And.intro ?_ ?_ | ((conv => whnf); first | exact Zrq | exact Zi (by unfold slOk; omega) | exact Zo (h := by unfold slOk; omega) | refine ResLe.agg ?_ | refine And.intro ?_ ?_)))
def slCf (x y : Sl) : Int := orL [cmpI x.m y.m, cmpI x.s y.s]
theorem overlap1_d (x y : Sl) : ACalls XD 111 [slA x, slA y] (iA (slCf x y)) := by
  have k := or_d [cmpI x.m y.m, cmpI x.s y.s] (by simp)
  refine ACalls.of (n := Tryz.f111.ntmps) XD_ok Tryz.func111 rfl (by kernel_rfl) rfl rfl (Nat.le_of_ble_eq_true rfl) ?_
  (repeat' (first | ((first | refine Zg ?_ | refine Zt dr111 ?_ | refine Zn ?_ | refine Zc ?_ | refine Zu fun b hb => ?_ | refine Zy (cmp_d _ _) ?_ | refine Zz (cmp_d _ _) ?_); conv => whnf) | (refine Zb (fun h => ?_) (fun h => ?_) <;> first | exact Zx | (conv => whnf))))
  refine CallK.by (CallA.plain k ⟨ArgLe.own rfl (Nat.le_refl _) (fun i hi j hj => ?_), trivial⟩ rfl) ?_
  · obtain rfl : j = 0 := by omega
    rcases i with _ | _ | i
    · exact Dle.of_eq rfl
    · exact Dle.of_eq rfl
    · exact absurd hi (by have : [cmpI x.m y.m, cmpI x.s y.s].length = 2 := rfl; omega)
  conv => whnf
  (repeat' (first | ((first | refine Zg ?_ | refine Zt dr111 ?_ | refine Zn ?_ | refine Zc ?_ | refine Zu fun b hb => ?_); conv => whnf) | (refine Zb (fun h => ?_) (fun h => ?_) <;> first | exact Zx | (conv => whnf))))
  all_goals exact Zrz

end Go.Proofs.YtacpjihbbmoolaaGreat
