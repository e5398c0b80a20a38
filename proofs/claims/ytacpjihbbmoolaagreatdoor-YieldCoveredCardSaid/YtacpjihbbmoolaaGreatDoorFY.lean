/- Yields: needs, recipes, what is in range. Yields: recipes in range. Yields: quantities times a number; Make. Yields: the order of codes; quantities found. -/
import Derived.Test.YtacpjihbbmoolaaGreatDoorW0
import Derived.Test.YtacpjihbbmoolaaGreatDoorC6

namespace Go.Proofs.YtacpjihbbmoolaaGreatDoor
open Go Go.RowKit
set_option linter.unusedVariables false
set_option linter.unusedSimpArgs false
set_option maxRecDepth 100000
set_option maxHeartbeats 4000000
attribute [local irreducible] ResLe AVle ArgLe ArgP EntLe Dle ResH ArgQ strEq strLt

theorem ygetD_in {α : Type} [Inhabited α] {us : List α} {k : Nat} (h : k < us.length) : us.getD k default ∈ us := by
  rw [List.getD_eq_getElem?_getD, List.getElem?_eq_getElem h]; exact List.getElem_mem _
abbrev sY (c : ByteArray) : AV := .dat (.val (.string c))
def cOk (c : ByteArray) : Prop := c.size = 8 ∧ ∀ i, i < 8 → 48 ≤ byteAt c i ∧ byteAt c i ≤ 57
noncomputable instance (c : ByteArray) : Decidable (cOk c) := Classical.propDecidable _
theorem yvalidID_t (n : Int) : ACalls XX 64 [iA n] (bA (decide (1 ≤ n ∧ n ≤ 1000000))) := by
  refine ACalls.of (n := Tryz.f64.ntmps) XX_ok Tryz.func64 rfl (by kernel_rfl) rfl rfl (Nat.le_of_ble_eq_true rfl) ?_
  (repeat' (first|((first|refine Zg ?_|refine Zn ?_|refine Zc ?_|refine Zu fun b hb=>?_);conv=>whnf)|(refine Zb ?_ ?_<;>(intro h;first|exact Zx|conv=>whnf))))
  all_goals (repeat' (first|exact Zrq|exact Zi (by omega)|exact Zo (h := by omega)|refine ResLe.agg ?_|refine And.intro ?_ ?_|((conv=>whnf); first|exact Zrq|exact Zi (by omega)|exact Zo (h := by omega)|refine ResLe.agg ?_|refine And.intro ?_ ?_)))
theorem yvalidCode_t (c : ByteArray) : ACalls XX 73 [sY c] (bA (decide (cOk c))) := by
  refine ACalls.of (n := Tryz.f73.ntmps) XX_ok Tryz.func73 rfl (by kernel_rfl) rfl rfl (Nat.le_of_ble_eq_true rfl) ?_
  (repeat' (first|((first|refine Zg ?_|refine Zn ?_|refine Zc ?_|refine Zu fun b hb=>?_);conv=>whnf)|(refine Zb ?_ ?_<;>(intro h;first|exact Zx|conv=>whnf))))
  · (repeat' (first|exact Zrq|exact Zi (by unfold cOk; omega)|exact Zo (h := by unfold cOk; omega)|refine ResLe.agg ?_|refine And.intro ?_ ?_|((conv=>whnf); first|exact Zrq|exact Zi (by unfold cOk; omega)|exact Zo (h := by unfold cOk; omega)|refine ResLe.agg ?_|refine And.intro ?_ ?_)))
  have hs : c.size = 8 := by omega
  refine (W.loopK (ι := Nat) [0, 8] [] (fun k => [(9, iA k)]) (fun _ => []) (fun k => k ≤ 8 ∧ ∀ i, i < k → 48 ≤ byteAt c i ∧ byteAt c i ≤ 57) (fun k => 8 - k) 0 ⟨Nat.zero_le _, fun i hi => absurd hi (by omega)⟩ ?_ ?_ ?_)
  · exact Yz
  · exact Yz
  conv => whnf
  intro k ⟨hk, hz⟩
  (repeat' (first|((first|refine Zg ?_|refine Zn ?_|refine Zc ?_|refine Zu fun b hb=>?_);conv=>whnf)|(refine Zb ?_ ?_<;>(intro h;first|exact Zx|conv=>whnf))))
  all_goals (try dsimp only [Int.toNat_natCast] at *)
  (repeat' (first|((first|refine Zg ?_|refine Zn ?_|refine Zc ?_|refine Zu fun b hb=>?_);conv=>whnf)|(refine Zb ?_ ?_<;>(intro h;first|exact Zx|conv=>whnf))))
  all_goals first|(have hn : ¬ cOk c := fun hc => (by have := hc.2 k (by omega); omega)); (repeat' (first|exact Zrq|exact Zi (by simp [hn])|exact Zo (h := by simp [hn])|refine ResLe.agg ?_|refine And.intro ?_ ?_|((conv=>whnf); first|exact Zrq|exact Zi (by simp [hn])|exact Zo (h := by simp [hn])|refine ResLe.agg ?_|refine And.intro ?_ ?_))); done|skip
  all_goals first|(have hn : cOk c := ⟨hs, fun i hi => hz i (by omega)⟩); (repeat' (first|exact Zrq|exact Zi (by simp [hn])|exact Zo (h := by simp [hn])|refine ResLe.agg ?_|refine And.intro ?_ ?_|((conv=>whnf); first|exact Zrq|exact Zi (by simp [hn])|exact Zo (h := by simp [hn])|refine ResLe.agg ?_|refine And.intro ?_ ?_))); done|skip
  all_goals (refine ⟨k + 1, ⟨by omega, fun i hi => ?_⟩, by omega, ?_, ?_, ?_, ?_⟩)
  all_goals first|exact Yz|skip
  all_goals (by_cases hik : i = k
             · subst hik; omega
             · exact hz i (by omega))
def ascAt (us : List Nd) (lo hi : Int) (i : Nat) : Prop := cOk (us.getD i default).c ∧ lo ≤ (us.getD i default).q ∧ (us.getD i default).q ≤ hi ∧ (0 < i → strLt (us.getD i default).c (us.getD (i - 1) default).c = false ∧ strEq (us.getD i default).c (us.getD (i - 1) default).c = false)
def ascOk (us : List Nd) (lo hi : Int) : Prop := ∀ i, i < us.length → ascAt us lo hi i
noncomputable instance (us : List Nd) (lo hi : Int) : Decidable (ascOk us lo hi) := Classical.propDecidable _
theorem yasc_t (us : List Nd) (lo hi : Int) (hL : us.length ≤ 9223372036854775807) : ACalls XX 81 [.dat (ndD us), iA lo, iA hi] (bA (decide (ascOk us lo hi))) := by
  refine ACalls.of (n := Tryz.f81.ntmps) XX_ok Tryz.func81 rfl (by kernel_rfl) rfl rfl (Nat.le_of_ble_eq_true rfl) ?_
  (repeat' (first|((first|refine Zg ?_|refine Zt dr81 ?_|refine Zn ?_|refine Zc ?_|refine Zu fun b hb=>?_);conv=>whnf)|(refine Zb ?_ ?_<;>(intro h;first|exact Zx|conv=>whnf))))
  refine (W.loopK (ι := Nat) [0, 1, 2, 9, 10] [] (fun k => [(11, iA k)]) (fun _ => []) (fun k => k ≤ us.length ∧ ∀ i, i < k → ascAt us lo hi i) (fun k => us.length - k) 0 ⟨Nat.zero_le _, fun i hi => absurd hi (by omega)⟩ ?_ ?_ ?_)
  · exact Yz
  · exact Yz
  conv => whnf
  intro k ⟨hk, hz⟩
  have h2 := yvalidCode_t (us.getD k default).c
  (repeat' (first|((first|refine Zg ?_|refine Zt dr81 ?_|refine Zn ?_|refine Zc ?_|refine Zu fun b hb=>?_);conv=>whnf)|(refine Zb ?_ ?_<;>(intro h;first|exact Zx|conv=>whnf))))
  all_goals (try dsimp only [Int.toNat_natCast] at *)
  (repeat' (first|((first|refine Zg ?_|refine Zt dr81 ?_|refine Zn ?_|refine Zc ?_|refine Zu fun b hb=>?_|refine Zy h2 ?_|refine Zz h2 ?_);conv=>whnf)|(refine Zb ?_ ?_<;>(intro h;first|exact Zx|conv=>whnf))))
  all_goals (try dsimp only [Int.toNat_natCast] at *)
  all_goals (have e : ((k : Int) - 1).toNat = k - 1 := by omega)
  all_goals (try rw [e] at h)
  all_goals first|(have hn : ¬ ascOk us lo hi := fun hc => (by
      obtain ⟨q1, q2, q3, q4⟩ := hc k (by omega)
      first|omega|exact h q1|(obtain ⟨q5, q6⟩ := q4 (by omega); rcases h with h|h <;> simp_all))); (repeat' (first|exact Zrq|exact Zi (by simp [hn])|exact Zo (h := by simp [hn])|refine ResLe.agg ?_|refine And.intro ?_ ?_|((conv=>whnf); first|exact Zrq|exact Zi (by simp [hn])|exact Zo (h := by simp [hn])|refine ResLe.agg ?_|refine And.intro ?_ ?_))); done|skip
  all_goals first|(have hn : ascOk us lo hi := fun i hi => hz i (by omega)); (repeat' (first|exact Zrq|exact Zi (by simp [hn])|exact Zo (h := by simp [hn])|refine ResLe.agg ?_|refine And.intro ?_ ?_|((conv=>whnf); first|exact Zrq|exact Zi (by simp [hn])|exact Zo (h := by simp [hn])|refine ResLe.agg ?_|refine And.intro ?_ ?_))); done|skip
  all_goals (refine ⟨k + 1, ⟨by omega, fun i hi => ?_⟩, by omega, ?_, ?_, ?_, ?_⟩)
  all_goals first|exact Yz|skip
  all_goals (by_cases hik : i = k
             · subst hik; exact ⟨by assumption, by assumption, by assumption, fun _ => by first|omega|assumption⟩
             · exact hz i (by omega))
def ndsOk (us : List Nd) : Prop := ascOk us 1 1000000000 ∧ 1 ≤ us.length ∧ us.length ≤ 8
noncomputable instance (us : List Nd) : Decidable (ndsOk us) := Classical.propDecidable _
end Go.Proofs.YtacpjihbbmoolaaGreatDoor

namespace Go.Proofs.YtacpjihbbmoolaaGreatDoor
open Go Go.RowKit
set_option linter.unusedVariables false
set_option linter.unusedSimpArgs false
set_option maxRecDepth 100000
set_option maxHeartbeats 4000000
attribute [local irreducible] ResLe AVle ArgLe ArgP EntLe Dle ResH ArgQ strEq strLt

def shOk (l : List Int) : Prop := ∀ i, i < l.length → 0 ≤ l.getD i default ∧ l.getD i default ≤ 1000000
def yrOk (x : Rc) : Prop := (1 ≤ x.id ∧ x.id ≤ 1000000) ∧ ndsOk x.ins ∧ ndsOk x.outs ∧ x.sc.length = x.outs.length ∧ shOk x.sc ∧ x.sc.sum ≠ 0
noncomputable instance (x : Rc) : Decidable (yrOk x) := Classical.propDecidable _
noncomputable def yrErr (x : Rc) : Int := if yrOk x then 0 else 1
theorem sum_take (l : List Int) (k : Nat) (h : k < l.length) : (l.take (k + 1)).sum = (l.take k).sum + l.getD k 0 := by
  induction l generalizing k with
  | nil => simp at h
  | cons a l ih =>
    cases k with
    | zero => simp
    | succ k =>
      have := ih k (by simpa using h)
      simp only [List.take_succ_cons, List.sum_cons, List.getD_cons_succ]
      omega
theorem sum_bnd (l : List Int) (h : ∀ i, i < l.length → 0 ≤ l.getD i 0 ∧ l.getD i 0 ≤ 1000000) (k : Nat) (hk : k ≤ l.length) : 0 ≤ (l.take k).sum ∧ (l.take k).sum ≤ 1000000 * k := by
  induction k with
  | zero => simp
  | succ k ih =>
    have h1 := ih (by omega)
    have h2 := h k (by omega)
    rw [sum_take l k (by omega)]
    omega
theorem yvalidate_t (x : Rc) (h1 : x.ins.length ≤ 9223372036854775807) (h2 : x.outs.length ≤ 9223372036854775807) (h3 : x.sc.length ≤ 9223372036854775807) : ACalls XX 62 [rcA x] (iA (yrErr x)) := by
  have k1 := yvalidID_t x.id
  have k2 := yasc_t x.ins 1 1000000000 h1
  have k3 := yasc_t x.outs 1 1000000000 h2
  by_cases hid : 1 ≤ x.id ∧ x.id ≤ 1000000
  rotate_left
  · rw [decide_eq_false hid] at k1
    refine ACalls.of (n := Tryz.f62.ntmps) XX_ok Tryz.func62 rfl (by kernel_rfl) rfl rfl (Nat.le_of_ble_eq_true rfl) ?_
    (repeat' (first|((first|refine Zg ?_|refine Zn ?_|refine Zc ?_|refine Zu fun b hb=>?_|refine Zy k1 ?_);conv=>whnf)|(refine Zb ?_ ?_<;>(intro h;first|exact Zx|conv=>whnf))))
    all_goals (have hn : ¬ yrOk x := fun hc => hid hc.1)
    all_goals (repeat' (first|exact Zrq|exact Zi (by simp [yrErr, hn])|exact Zo (h := by simp [yrErr, hn])|refine ResLe.agg ?_|refine And.intro ?_ ?_|((conv=>whnf); first|exact Zrq|exact Zi (by simp [yrErr, hn])|exact Zo (h := by simp [yrErr, hn])|refine ResLe.agg ?_|refine And.intro ?_ ?_)))
  rw [decide_eq_true hid] at k1
  refine ACalls.of (n := Tryz.f62.ntmps) XX_ok Tryz.func62 rfl (by kernel_rfl) rfl rfl (Nat.le_of_ble_eq_true rfl) ?_
  (repeat' (first|((first|refine Zg ?_|refine Zn ?_|refine Zc ?_|refine Zu fun b hb=>?_|refine Zy k1 ?_);conv=>whnf)|(refine Zb ?_ ?_<;>(intro h;first|exact Zx|conv=>whnf))))
  refine (W.loopK (ι := Nat) [1, 16, 17] [1, 16] (fun k => [(18, iA k)]) (fun _ => []) (fun k => k ≤ 2 ∧ (0 < k → ndsOk x.ins) ∧ (1 < k → ndsOk x.outs)) (fun k => 2 - k) 0 ⟨Nat.zero_le _, fun h => absurd h (by omega), fun h => absurd h (by omega)⟩ ?_ ?_ ?_)
  · exact Yz
  · exact Yz
  conv => whnf
  intro k ⟨hk, hz1, hz2⟩
  rcases (show k = 0 ∨ k = 1 ∨ k = 2 by omega) with rfl|rfl|rfl
  · (repeat' (first|((first|refine Zg ?_|refine Zn ?_|refine Zc ?_|refine Zu fun b hb=>?_|refine Zy k2 ?_);conv=>whnf)|(refine Zb ?_ ?_<;>(intro h;first|exact Zx|conv=>whnf))))
    all_goals first|(have hn : ¬ yrOk x := fun hc => (by
        have q := hc.2.1
        unfold ndsOk at q
        first|omega|exact h q.1)); (repeat' (first|exact Zrq|exact Zi (by simp [yrErr, hn])|exact Zo (h := by simp [yrErr, hn])|refine ResLe.agg ?_|refine And.intro ?_ ?_|((conv=>whnf); first|exact Zrq|exact Zi (by simp [yrErr, hn])|exact Zo (h := by simp [yrErr, hn])|refine ResLe.agg ?_|refine And.intro ?_ ?_))); done|skip
    all_goals (refine ⟨1, ⟨by omega, fun _ => ⟨by assumption, by omega, by omega⟩, fun hh => absurd hh (by omega)⟩, by omega, ?_, ?_, ?_, ?_⟩)
    all_goals exact Yz
  · (repeat' (first|((first|refine Zg ?_|refine Zn ?_|refine Zc ?_|refine Zu fun b hb=>?_|refine Zy k3 ?_);conv=>whnf)|(refine Zb ?_ ?_<;>(intro h;first|exact Zx|conv=>whnf))))
    all_goals first|(have hn : ¬ yrOk x := fun hc => (by
        have q := hc.2.2.1
        unfold ndsOk at q
        first|omega|exact h q.1)); (repeat' (first|exact Zrq|exact Zi (by simp [yrErr, hn])|exact Zo (h := by simp [yrErr, hn])|refine ResLe.agg ?_|refine And.intro ?_ ?_|((conv=>whnf); first|exact Zrq|exact Zi (by simp [yrErr, hn])|exact Zo (h := by simp [yrErr, hn])|refine ResLe.agg ?_|refine And.intro ?_ ?_))); done|skip
    all_goals (refine ⟨2, ⟨by omega, fun _ => hz1 (by omega), fun _ => ⟨by assumption, by omega, by omega⟩⟩, by omega, ?_, ?_, ?_, ?_⟩)
    all_goals exact Yz
  · have o1 := hz1 (by omega)
    have o2 := hz2 (by omega)
    have o2' := o2.2
    by_cases hl : x.sc.length = x.outs.length
    rotate_left
    · have hn : ¬ yrOk x := fun hc => hl hc.2.2.2.1
      (repeat' (first|((first|refine Zg ?_|refine Zn ?_|refine Zc ?_|refine Zu fun b hb=>?_);conv=>whnf)|(refine Zb ?_ ?_<;>(intro h;first|exact Zx|conv=>whnf))))
      all_goals first|(exfalso; omega)|((repeat' (first|exact Zrq|exact Zi (by simp [yrErr, hn])|exact Zo (h := by simp [yrErr, hn])|refine ResLe.agg ?_|refine And.intro ?_ ?_|((conv=>whnf); first|exact Zrq|exact Zi (by simp [yrErr, hn])|exact Zo (h := by simp [yrErr, hn])|refine ResLe.agg ?_|refine And.intro ?_ ?_))); done)
    (repeat' (first|((first|refine Zg ?_|refine Zn ?_|refine Zc ?_|refine Zu fun b hb=>?_);conv=>whnf)|(refine Zb ?_ ?_<;>(intro h;first|exact Zx|conv=>whnf))))
    all_goals first|(exfalso; omega)|skip
    refine (W.loopK (ι := Nat) [44, 45] [] (fun k => [(5, iA (x.sc.take k).sum), (46, iA k)]) (fun _ => []) (fun k => k ≤ x.sc.length ∧ ∀ i, i < k → 0 ≤ x.sc.getD i default ∧ x.sc.getD i default ≤ 1000000) (fun k => x.sc.length - k) 0 ⟨Nat.zero_le _, fun i hi => absurd hi (by omega)⟩ ?_ ?_ ?_)
    · exact Yz
    · exact Yz
    conv => whnf
    intro k ⟨hk, hz⟩
    by_cases hk' : k < x.sc.length
    · have b0 := sum_bnd (x.sc.take k) (fun i hi => by
        rw [List.length_take] at hi
        have : 0 ≤ x.sc.getD i 0 ∧ x.sc.getD i 0 ≤ 1000000 := hz i (by omega)
        simpa [List.getD_eq_getElem?_getD, List.getElem?_take, show i < k by omega] using this) k (by rw [List.length_take]; omega)
      rw [List.take_take, Nat.min_self] at b0
      have b1 : (x.sc.take (k + 1)).sum = (x.sc.take k).sum + x.sc.getD k default := sum_take x.sc k hk'
      (repeat' (first|((first|refine Zg ?_|refine Zn ?_|refine Zc ?_|refine Zu fun b hb=>?_);conv=>whnf)|(refine Zb ?_ ?_<;>(intro h;first|exact Zx|conv=>whnf))))
      all_goals (try dsimp only [Int.toNat_natCast] at *)
      (repeat' (first|((first|refine Zg ?_|refine Zn ?_|refine Zc ?_|refine Zu fun b hb=>?_);conv=>whnf)|(refine Zb ?_ ?_<;>(intro h;first|exact Zx|conv=>whnf))))
      all_goals (try dsimp only [Int.toNat_natCast] at *)
      · have hn : ¬ yrOk x := fun hc => by have := hc.2.2.2.2.1 k hk'; omega
        (repeat' (first|exact Zrq|exact Zi (by simp [yrErr, hn])|exact Zo (h := by simp [yrErr, hn])|refine ResLe.agg ?_|refine And.intro ?_ ?_|((conv=>whnf); first|exact Zrq|exact Zi (by simp [yrErr, hn])|exact Zo (h := by simp [yrErr, hn])|refine ResLe.agg ?_|refine And.intro ?_ ?_)))
      · have hn : ¬ yrOk x := fun hc => by have := hc.2.2.2.2.1 k hk'; omega
        (repeat' (first|exact Zrq|exact Zi (by simp [yrErr, hn])|exact Zo (h := by simp [yrErr, hn])|refine ResLe.agg ?_|refine And.intro ?_ ?_|((conv=>whnf); first|exact Zrq|exact Zi (by simp [yrErr, hn])|exact Zo (h := by simp [yrErr, hn])|refine ResLe.agg ?_|refine And.intro ?_ ?_)))
      refine ⟨k + 1, ⟨by omega, fun i hi => ?_⟩, by omega, ?_, ?_, ?_, ?_⟩
      · by_cases hik : i = k
        · subst hik; exact ⟨by assumption, by assumption⟩
        · exact hz i (by omega)
      all_goals exact Yz
    · obtain rfl : k = x.sc.length := by omega
      rw [List.take_length]
      by_cases hs : x.sc.sum = 0
      · have hn : ¬ yrOk x := fun hc => hc.2.2.2.2.2 hs
        (repeat' (first|((first|refine Zg ?_|refine Zn ?_|refine Zc ?_|refine Zu fun b hb=>?_);conv=>whnf)|(refine Zb ?_ ?_<;>(intro h;first|exact Zx|conv=>whnf))))
        all_goals first|(exfalso; omega)|((repeat' (first|exact Zrq|exact Zi (by simp [yrErr, hn])|exact Zo (h := by simp [yrErr, hn])|refine ResLe.agg ?_|refine And.intro ?_ ?_|((conv=>whnf); first|exact Zrq|exact Zi (by simp [yrErr, hn])|exact Zo (h := by simp [yrErr, hn])|refine ResLe.agg ?_|refine And.intro ?_ ?_))); done)
      · have hn : yrOk x := ⟨hid, o1, o2, hl, hz, hs⟩
        (repeat' (first|((first|refine Zg ?_|refine Zn ?_|refine Zc ?_|refine Zu fun b hb=>?_);conv=>whnf)|(refine Zb ?_ ?_<;>(intro h;first|exact Zx|conv=>whnf))))
        all_goals first|(exfalso; omega)|((repeat' (first|exact Zrq|exact Zi (by simp [yrErr, hn])|exact Zo (h := by simp [yrErr, hn])|refine ResLe.agg ?_|refine And.intro ?_ ?_|((conv=>whnf); first|exact Zrq|exact Zi (by simp [yrErr, hn])|exact Zo (h := by simp [yrErr, hn])|refine ResLe.agg ?_|refine And.intro ?_ ?_))); done)
end Go.Proofs.YtacpjihbbmoolaaGreatDoor

namespace Go.Proofs.YtacpjihbbmoolaaGreatDoor
open Go Go.RowKit
set_option linter.unusedVariables false
set_option linter.unusedSimpArgs false
set_option maxRecDepth 100000
set_option maxHeartbeats 4000000
attribute [local irreducible] ResLe AVle ArgLe ArgP EntLe Dle ResH ArgQ strEq strLt

def tmN (n : Int) (x : Nd) : Nd := ⟨x.c, x.q * n⟩
def tmL (us : List Nd) (n : Int) : List Nd := us.map (tmN n)
theorem tm_bnd {q n : Int} (h1 : 1 ≤ q ∧ q ≤ 1000000000) (h2 : 1 ≤ n ∧ n ≤ 1000) : 0 ≤ q * n ∧ q * n ≤ 1000000000000 := by
  constructor
  · exact Int.mul_nonneg (by omega) (by omega)
  · have := Int.mul_le_mul h1.2 h2.2 (by omega) (by omega)
    omega
theorem tmL_at (us : List Nd) (n : Int) {k : Nat} (h : k < us.length) : (tmL us n).getD k default = tmN n (us.getD k default) := by
  unfold tmL
  simp [List.getD_eq_getElem?_getD, h]
def tmF (us : List Nd) (n : Int) (k i j : Nat) : D := if i < k then ndE (tmN n (us.getD i default)) j else if j = 0 then .val (.string ByteArray.empty) else .val (.int .i64 0)
theorem tmF_set (us : List Nd) (n : Int) (k : Nat) (i j : Nat) (hj : j < 2) : Dle (setF (tmF us n k) k 0 [.val (.string (us.getD k default).c), .val (.int .i64 ((us.getD k default).q * n))] i j) (tmF us n (k + 1) i j) := by
  rw [setF_eq]
  unfold tmF
  by_cases hik : i = k
  · subst hik
    rw [if_pos ⟨rfl, by omega, by simp; omega⟩, if_pos (by omega)]
    rcases j with _|_|j
    · exact Dle.refl _
    · exact Dle.refl _
    · omega
  · rw [if_neg (by omega)]
    by_cases h : i < k
    · rw [if_pos h, if_pos (by omega)]; exact Dle.refl _
    · rw [if_neg h, if_neg (show ¬ i < k + 1 by omega)]; exact Dle.refl _
theorem tmF_end (us : List Nd) (n : Int) (i j : Nat) (hi : i < us.length) : tmF us n us.length i j = rowF ndE (tmL us n) i j := by
  unfold tmF rowF
  rw [if_pos hi, tmL_at us n hi]
theorem tmL_len (us : List Nd) (n : Int) : (tmL us n).length = us.length := by simp [tmL]
theorem ytimes_t (us : List Nd) (n : Int) (hL : us.length ≤ 1000000) (hn : 1 ≤ n ∧ n ≤ 1000) (hq : ∀ x ∈ us, 1 ≤ x.q ∧ x.q ≤ 1000000000) : ACalls XX 63 [.dat (ndD us), iA n] (.dat (ndD (tmL us n))) := by
  have e : AV.dat (ndD (tmL us n)) = .dat (.lst 2 us.length (rowF ndE (tmL us n))) := by
    show AV.dat (.lst 2 (tmL us n).length _) = _
    rw [tmL_len]
  rw [e]
  refine ACalls.of (n := Tryz.f63.ntmps) XX_ok Tryz.func63 rfl (by kernel_rfl) rfl rfl (Nat.le_of_ble_eq_true rfl) ?_
  (repeat' (first|((first|refine Zg ?_|refine Zn ?_|refine Zc ?_|refine Zu fun b hb=>?_);conv=>whnf)|(refine Zb ?_ ?_<;>(intro h;first|exact Zx|conv=>whnf))))
  refine (W.loopK (ι := Nat) [0, 1, 11, 12, 5] [] (fun k => [(13, iA k)]) (fun k => [(10, .row 30 2 us.length (tmF us n k))]) (fun k => k ≤ us.length) (fun k => us.length - k) 0 (Nat.zero_le _) ?_ ?_ ?_)
  · exact Yz
  · (repeat' (first|exact Yq|refine ⟨_, rfl, Yb ?_, rfl⟩|refine ⟨_, rfl, Yw (by first|rfl|omega) ?_, rfl⟩|refine And.intro ?_ ?_))
    intro i hi j hj
    unfold tmF
    rw [if_neg (by omega)]
    rcases j with _|_|j
    · exact Dle.refl _
    · exact Dle.refl _
    · omega
  conv => whnf
  intro k hk
  by_cases hk' : k < us.length
  · have hb := tm_bnd (hq _ (ygetD_in hk')) hn
    (repeat' (first|((first|refine Zg ?_|refine Zn ?_|refine Zc ?_|refine Zu fun b hb=>?_);conv=>whnf)|(refine Zb ?_ ?_<;>(intro h;first|exact Zx|conv=>whnf))))
    all_goals (try dsimp only [Int.toNat_natCast] at *)
    (repeat' (first|((first|refine Zg ?_|refine Zn ?_|refine Zc ?_|refine Zu fun b hb=>?_);conv=>whnf)|(refine Zb ?_ ?_<;>(intro h;first|exact Zx|conv=>whnf))))
    all_goals (try dsimp only [Int.toNat_natCast] at *)
    refine ⟨k + 1, by omega, by omega, ?_, ?_, ?_, ?_⟩
    all_goals (repeat' (first|exact Yq|refine ⟨_, rfl, Yb ?_, rfl⟩|refine ⟨_, rfl, Yw (by first|rfl|omega) ?_, rfl⟩|refine And.intro ?_ ?_))
    intro i hi j hj
    rw [Nat.zero_add]
    exact tmF_set us n k i j hj
  · obtain rfl : k = us.length := by omega
    (repeat' (first|((first|refine Zg ?_|refine Zn ?_|refine Zc ?_|refine Zu fun b hb=>?_);conv=>whnf)|(refine Zb ?_ ?_<;>(intro h;first|exact Zx|conv=>whnf))))
    all_goals first|(exfalso; omega)|skip
    refine ResLe.own rfl (by omega) fun i hi j hj => ?_
    rw [Nat.zero_add]
    exact Dle.of_eq (tmF_end us n i j (by omega))
theorem asc_q {us : List Nd} {lo hi : Int} (h : ascOk us lo hi) : ∀ x ∈ us, lo ≤ x.q ∧ x.q ≤ hi := fun x hx => by
  obtain ⟨i, hi', rfl⟩ := List.getElem_of_mem hx
  obtain ⟨_, q1, q2, _⟩ := h i hi'
  rw [List.getD_eq_getElem?_getD, List.getElem?_eq_getElem hi'] at q1 q2
  exact ⟨q1, q2⟩
theorem ymake_t (r : Rc) (n : Int) (hr : yrOk r) (hn : 1 ≤ n ∧ n ≤ 1000) : ACalls XX 26 [rcA r, iA n] (.tup [.dat (ndD (tmL r.ins n)), .dat (ndD (tmL r.outs n)), iA 0]) := by
  have b1 := hr.2.1
  have b2 := hr.2.2.1
  have l1 := b1.2
  have l2 := b2.2
  have l3 := hr.2.2.2.1
  have h1 := yvalidate_t r (by omega) (by omega) (by omega)
  rw [show yrErr r = 0 from if_pos hr] at h1
  have h2 := ytimes_t r.ins n (by omega) hn (asc_q b1.1)
  have h3 := ytimes_t r.outs n (by omega) hn (asc_q b2.1)
  refine ACalls.of (n := Tryz.f26.ntmps) XX_ok Tryz.func26 rfl (by kernel_rfl) rfl rfl (Nat.le_of_ble_eq_true rfl) ?_
  (repeat' (first|((first|refine Zg ?_|refine Zt dr26 ?_|refine Zn ?_|refine Zc ?_|refine Zu fun b hb=>?_|refine Zy h1 ?_|refine Zz h1 ?_|refine Zy h2 ?_|refine Zz h2 ?_|refine Zy h3 ?_|refine Zz h3 ?_);conv=>whnf)|(refine Zb ?_ ?_<;>(intro h;first|exact Zx|conv=>whnf))))
  all_goals first|(exfalso; omega)|((repeat' (first|exact Zrq|refine ResLe.agg ?_|refine And.intro ?_ ?_|((conv=>whnf); first|exact Zrq|refine ResLe.agg ?_|refine And.intro ?_ ?_))); done)
theorem ymake_no (r : Rc) (n : Int) (h1 : r.ins.length ≤ 9223372036854775807) (h2 : r.outs.length ≤ 9223372036854775807) (h3 : r.sc.length ≤ 9223372036854775807) (hr : ¬ (yrOk r ∧ 1 ≤ n ∧ n ≤ 1000)) : ACalls XX 26 [rcA r, iA n] (.tup [.dat (ndD []), .dat (ndD []), iA (if yrOk r then 2 else 1)]) := by
  have k1 := yvalidate_t r h1 h2 h3
  by_cases hk : yrOk r
  · rw [show yrErr r = 0 from if_pos hk] at k1
    rw [if_pos hk]
    refine ACalls.of (n := Tryz.f26.ntmps) XX_ok Tryz.func26 rfl (by kernel_rfl) rfl rfl (Nat.le_of_ble_eq_true rfl) ?_
    (repeat' (first|((first|refine Zg ?_|refine Zt dr26 ?_|refine Zn ?_|refine Zc ?_|refine Zu fun b hb=>?_|refine Zy k1 ?_|refine Zz k1 ?_);conv=>whnf)|(refine Zb ?_ ?_<;>(intro h;first|exact Zx|conv=>whnf))))
    all_goals first|(exfalso; exact hr ⟨hk, by omega, by omega⟩)|(exfalso; omega)|((repeat' (first|exact Zrq|refine ResLe.agg ?_|refine And.intro ?_ ?_|((conv=>whnf); first|exact Zrq|refine ResLe.agg ?_|refine And.intro ?_ ?_))); done)
  · rw [show yrErr r = 1 from if_neg hk] at k1
    rw [if_neg hk]
    refine ACalls.of (n := Tryz.f26.ntmps) XX_ok Tryz.func26 rfl (by kernel_rfl) rfl rfl (Nat.le_of_ble_eq_true rfl) ?_
    (repeat' (first|((first|refine Zg ?_|refine Zt dr26 ?_|refine Zn ?_|refine Zc ?_|refine Zu fun b hb=>?_|refine Zy k1 ?_|refine Zz k1 ?_);conv=>whnf)|(refine Zb ?_ ?_<;>(intro h;first|exact Zx|conv=>whnf))))
    all_goals first|(exfalso; omega)|((repeat' (first|exact Zrq|refine ResLe.agg ?_|refine And.intro ?_ ?_|((conv=>whnf); first|exact Zrq|refine ResLe.agg ?_|refine And.intro ?_ ?_))); done)
end Go.Proofs.YtacpjihbbmoolaaGreatDoor

namespace Go.Proofs.YtacpjihbbmoolaaGreatDoor
open Go Go.RowKit
set_option linter.unusedVariables false
set_option linter.unusedSimpArgs false
set_option maxRecDepth 100000
set_option maxHeartbeats 4000000

theorem bl_eq : ∀ (x y : List UInt8), Op.bytesLess x y = decide (x < y)
  | [], [] => by simp [Op.bytesLess]
  | _ :: _, [] => by simp [Op.bytesLess]
  | [], _ :: _ => by simp [Op.bytesLess]
  | a :: x, b :: y => by
    rw [Op.bytesLess, bl_eq x y]
    simp only [List.cons_lt_cons_iff]
    by_cases h1 : a < b <;> by_cases h2 : a = b <;> by_cases h3 : x < y <;> simp [h1, h2, h3]
theorem strLt_iff (a b : ByteArray) : strLt a b = true ↔ a.toList < b.toList := by unfold strLt; rw [bl_eq]; exact decide_eq_true_iff
theorem strEq_iff (a b : ByteArray) : strEq a b = true ↔ a = b := by
  unfold strEq
  rw [beq_iff_eq]
  exact ⟨fun h => by rw [ByteArray.toList_eq, ByteArray.toList_eq] at h; exact bytes_inj h, fun h => by rw [h]⟩
theorem strLt_trans {a b c : ByteArray} (h : strLt a b = true) (k : strLt b c = true) : strLt a c = true := by
  rw [strLt_iff] at *
  exact List.lt_trans h k
theorem strLt_irr (a : ByteArray) : strLt a a = false := by
  cases h : strLt a a with
  | false => rfl
  | true => rw [strLt_iff] at h; exact absurd h (List.lt_irrefl _)
theorem strLt_con {a b : ByteArray} (h : strLt a b = false) (k : strEq a b = false) : strLt b a = true := by
  have h1 : ¬ a.toList < b.toList := fun hh => by rw [(strLt_iff a b).2 hh] at h; cases h
  have h2 : a ≠ b := fun hh => by rw [(strEq_iff a b).2 hh] at k; cases k
  have h3 : a.toList ≠ b.toList := fun hh => h2 (by rw [ByteArray.toList_eq, ByteArray.toList_eq] at hh; exact bytes_inj hh)
  rw [strLt_iff]
  by_cases h5 : b.toList < a.toList
  · exact h5
  · exact absurd (List.le_antisymm (List.not_lt.1 h5) (List.not_lt.1 h1)) h3
theorem asc_lt {us : List Nd} {lo hi : Int} (h : ascOk us lo hi) {i j : Nat} (hij : i < j) (hj : j < us.length) : strLt (us.getD i default).c (us.getD j default).c = true := by
  induction j with
  | zero => omega
  | succ j ih =>
    obtain ⟨_, _, _, q⟩ := h (j + 1) hj
    obtain ⟨q1, q2⟩ := q (by omega)
    have q3 := strLt_con q1 q2
    rw [show j + 1 - 1 = j from rfl] at q3
    rcases Nat.lt_or_ge i j with hi|hi
    · exact strLt_trans (ih hi (by omega)) q3
    · obtain rfl : i = j := by omega
      exact q3
theorem asc_ne {us : List Nd} {lo hi : Int} (h : ascOk us lo hi) {i j : Nat} (hi' : i < us.length) (hj : j < us.length) (he : (us.getD i default).c = (us.getD j default).c) : i = j := by
  rcases Nat.lt_trichotomy i j with h1|h1|h1
  · have := asc_lt h h1 hj
    rw [he, strLt_irr] at this; cases this
  · exact h1
  · have := asc_lt h h1 hi'
    rw [he, strLt_irr] at this; cases this
theorem getM_put (L : ML) (s t : ByteArray) (v : Int) : getM (putM L s v) t = if s = t then v else getM L t := by
  unfold getM putM
  rw [List.find?_cons]
  by_cases h : s = t
  · simp [h]
  · rw [if_neg h]
    simp only [h, decide_false]
    rw [List.find?_filter]
    have : (fun a : ByteArray × Int => decide ((!decide (a.fst = s)) = true ∧ decide (a.fst = t) = true)) = fun p => decide (p.1 = t) := by
      funext p
      by_cases hp : p.1 = t
      · subst hp
        simp [Ne.symm h]
      · simp [hp]
    rw [this]
theorem len_put (L : ML) (s : ByteArray) (v : Int) : (putM L s v).length ≤ L.length + 1 := by
  unfold putM
  have := List.length_filter_le (fun p : ByteArray × Int => !decide (p.1 = s)) L
  rw [List.length_cons]
  omega
end Go.Proofs.YtacpjihbbmoolaaGreatDoor
