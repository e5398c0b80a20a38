/- Lots: whether one is in range, copies, whether an ID is taken, whether units occur twice. -/
import Derived.Test.YtacpjihbbmoolaaGreatDoorFB

namespace Go.Proofs.YtacpjihbbmoolaaGreatDoor
open Go Go.RowKit
set_option linter.unusedVariables false
set_option linter.unusedSimpArgs false
set_option maxRecDepth 100000
set_option maxHeartbeats 4000000
attribute [local irreducible] ResLe AVle ArgLe ArgP EntLe Dle ResH ArgQ

theorem getD_of {α : Type} [Inhabited α] {l : List α} {i : Nat} (h : i < l.length) : l.getD i default = l[i] := by rw [List.getD_eq_getElem?_getD, List.getElem?_eq_getElem h]; rfl
theorem validID_t (n : Int) : ACalls XX 20 [iA n] (bA (decide (idOk n))) := by
  refine ACalls.of (n := Tryz.f20.ntmps) XX_ok Tryz.func20 rfl (by kernel_rfl) rfl rfl (Nat.le_of_ble_eq_true rfl) ?_
  (repeat' (first|((first|refine Zg ?_|refine Zn ?_|refine Zc ?_|refine Zu fun b hb=>?_);conv=>whnf)|(refine Zb ?_ ?_<;>(intro h;first|exact Zx|conv=>whnf))))
  all_goals (repeat' (first|exact Zrq|exact Zi (by unfold idOk; omega)|exact Zo (h := by unfold idOk; omega)|refine ResLe.agg ?_|refine And.intro ?_ ?_|((conv=>whnf); first|exact Zrq|exact Zi (by unfold idOk; omega)|exact Zo (h := by unfold idOk; omega)|refine ResLe.agg ?_|refine And.intro ?_ ?_)))
theorem validQ_t (n : Int) : ACalls XX 22 [iA n] (bA (decide (qOk n))) := by
  refine ACalls.of (n := Tryz.f22.ntmps) XX_ok Tryz.func22 rfl (by kernel_rfl) rfl rfl (Nat.le_of_ble_eq_true rfl) ?_
  (repeat' (first|((first|refine Zg ?_|refine Zn ?_|refine Zc ?_|refine Zu fun b hb=>?_);conv=>whnf)|(refine Zb ?_ ?_<;>(intro h;first|exact Zx|conv=>whnf))))
  all_goals (repeat' (first|exact Zrq|exact Zi (by unfold qOk; omega)|exact Zo (h := by unfold qOk; omega)|refine ResLe.agg ?_|refine And.intro ?_ ?_|((conv=>whnf); first|exact Zrq|exact Zi (by unfold qOk; omega)|exact Zo (h := by unfold qOk; omega)|refine ResLe.agg ?_|refine And.intro ?_ ?_)))
theorem validCode_t (c : ByteArray) : ACalls XX 21 [sA c] (bA (decide (codeOk c))) := by
  refine ACalls.of (n := Tryz.f21.ntmps) XX_ok Tryz.func21 rfl (by kernel_rfl) rfl rfl (Nat.le_of_ble_eq_true rfl) ?_
  (repeat' (first|((first|refine Zg ?_|refine Zn ?_|refine Zc ?_|refine Zu fun b hb=>?_);conv=>whnf)|(refine Zb ?_ ?_<;>(intro h;first|exact Zx|conv=>whnf))))
  · (repeat' (first|exact Zrq|exact Zi (by unfold codeOk; omega)|exact Zo (h := by unfold codeOk; omega)|refine ResLe.agg ?_|refine And.intro ?_ ?_|((conv=>whnf); first|exact Zrq|exact Zi (by unfold codeOk; omega)|exact Zo (h := by unfold codeOk; omega)|refine ResLe.agg ?_|refine And.intro ?_ ?_)))
  have hs : c.size = 8 := by omega
  refine (W.loopK (ι := Nat) [0, 8] [] (fun k => [(9, iA k)]) (fun _ => []) (fun k => k ≤ 8 ∧ ∀ i, i < k → 48 ≤ byteAt c i ∧ byteAt c i ≤ 57) (fun k => 8 - k) 0 ⟨Nat.zero_le _, fun i hi => absurd hi (by omega)⟩ ?_ ?_ ?_)
  · exact Yz
  · exact Yz
  conv => whnf
  intro k ⟨hk, hz⟩
  (repeat' (first|((first|refine Zg ?_|refine Zn ?_|refine Zc ?_|refine Zu fun b hb=>?_);conv=>whnf)|(refine Zb ?_ ?_<;>(intro h;first|exact Zx|conv=>whnf))))
  all_goals (try dsimp only [Int.toNat_natCast] at *)
  (repeat' (first|((first|refine Zg ?_|refine Zn ?_|refine Zc ?_|refine Zu fun b hb=>?_);conv=>whnf)|(refine Zb ?_ ?_<;>(intro h;first|exact Zx|conv=>whnf))))
  all_goals first|(have hn : ¬ codeOk c := fun hc => (by have := hc.2 k (by omega); omega)); (repeat' (first|exact Zrq|exact Zi (by simp [hn])|exact Zo (h := by simp [hn])|refine ResLe.agg ?_|refine And.intro ?_ ?_|((conv=>whnf); first|exact Zrq|exact Zi (by simp [hn])|exact Zo (h := by simp [hn])|refine ResLe.agg ?_|refine And.intro ?_ ?_))); done|skip
  all_goals first|(have hn : codeOk c := ⟨hs, fun i hi => hz i (by omega)⟩); (repeat' (first|exact Zrq|exact Zi (by simp [hn])|exact Zo (h := by simp [hn])|refine ResLe.agg ?_|refine And.intro ?_ ?_|((conv=>whnf); first|exact Zrq|exact Zi (by simp [hn])|exact Zo (h := by simp [hn])|refine ResLe.agg ?_|refine And.intro ?_ ?_))); done|skip
  all_goals (refine ⟨k + 1, ⟨by omega, fun i hi => ?_⟩, by omega, ?_, ?_, ?_, ?_⟩)
  all_goals first|exact Yz|skip
  all_goals (by_cases hik : i = k
             · subst hik; omega
             · exact hz i (by omega))
theorem inRange_t (x : Lt) (hL : x.us.length ≤ 9223372036854775807) : ACalls XX 34 [ltA x] (bA (decide (ltOk x))) := by
  have h1 := validID_t x.id
  have h2 := validCode_t x.c
  have h3 := validQ_t x.q
  refine ACalls.of (n := Tryz.f34.ntmps) XX_ok Tryz.func34 rfl (by kernel_rfl) rfl rfl (Nat.le_of_ble_eq_true rfl) ?_
  (repeat' (first|((first|refine Zg ?_|refine Zn ?_|refine Zc ?_|refine Zu fun b hb=>?_|refine Zy h1 ?_|refine Zy h2 ?_|refine Zy h3 ?_);conv=>whnf)|(refine Zb ?_ ?_<;>(intro h;first|exact Zx|conv=>whnf))))
  all_goals first|(have hn : ¬ ltOk x := fun hc => (by unfold ltOk at hc; simp_all; try omega)); (repeat' (first|exact Zrq|exact Zi (by simp [hn])|exact Zo (h := by simp [hn])|refine ResLe.agg ?_|refine And.intro ?_ ?_|((conv=>whnf); first|exact Zrq|exact Zi (by simp [hn])|exact Zo (h := by simp [hn])|refine ResLe.agg ?_|refine And.intro ?_ ?_))); done|skip
  refine (W.loopK (ι := Nat) [30, 31] [] (fun k => [(32, iA k)]) (fun _ => []) (fun k => k ≤ x.us.length ∧ ∀ i, i < k → slOk (x.us.getD i default)) (fun k => x.us.length - k) 0 ⟨Nat.zero_le _, fun i hi => absurd hi (by omega)⟩ ?_ ?_ ?_)
  · exact Yz
  · exact Yz
  conv => whnf
  intro k ⟨hk, hz⟩
  have hv := validSlice_t (x.us.getD k default)
  (repeat' (first|((first|refine Zg ?_|refine Zn ?_|refine Zc ?_|refine Zu fun b hb=>?_);conv=>whnf)|(refine Zb ?_ ?_<;>(intro h;first|exact Zx|conv=>whnf))))
  all_goals (try dsimp only [Int.toNat_natCast] at *)
  (repeat' (first|((first|refine Zg ?_|refine Zn ?_|refine Zc ?_|refine Zu fun b hb=>?_|refine Zy hv ?_);conv=>whnf)|(refine Zb ?_ ?_<;>(intro h;first|exact Zx|conv=>whnf))))
  · have hn : ¬ ltOk x := fun hc => by
      have := hc.2.2.2.2 _ (getD_in (k := k) (by omega))
      simp_all
    (repeat' (first|exact Zrq|exact Zi (by simp [hn])|exact Zo (h := by simp [hn])|refine ResLe.agg ?_|refine And.intro ?_ ?_|((conv=>whnf); first|exact Zrq|exact Zi (by simp [hn])|exact Zo (h := by simp [hn])|refine ResLe.agg ?_|refine And.intro ?_ ?_)))
  · refine ⟨k + 1, ⟨by omega, fun i hi => ?_⟩, by omega, ?_, ?_, ?_, ?_⟩
    · by_cases hik : i = k
      · subst hik; simp_all
      · exact hz i (by omega)
    all_goals exact Yz
  · have ha : ∀ s ∈ x.us, slOk s := all_getD.2 fun i hi => hz i (by omega)
    have hn : ltOk x := ⟨by simp_all, by simp_all, by simp_all, by omega, ha⟩
    (repeat' (first|exact Zrq|exact Zi (by simp [hn])|exact Zo (h := by simp [hn])|refine ResLe.agg ?_|refine And.intro ?_ ?_|((conv=>whnf); first|exact Zrq|exact Zi (by simp [hn])|exact Zo (h := by simp [hn])|refine ResLe.agg ?_|refine And.intro ?_ ?_)))
def rests (p : Int) : Prop := p = 1 ∨ p = 3 ∨ p = 4 ∨ p = 5 ∨ p = 6
instance (p : Int) : Decidable (rests p) := by unfold rests; exact inferInstance
theorem clone_t (us : List Sl) (hL : us.length ≤ 1000000) : ACalls XX 67 [.dat (slD us)] (.dat (slD us)) := by
  refine ACalls.of (n := Tryz.f67.ntmps) XX_ok Tryz.func67 rfl (by kernel_rfl) rfl rfl (Nat.le_of_ble_eq_true rfl) ?_
  (repeat' (first|((first|refine Zg ?_|refine Zn ?_|refine Zc ?_|refine Zu fun b hb=>?_);conv=>whnf)|(refine Zb ?_ ?_<;>(intro h;first|exact Zx|conv=>whnf))))
  · obtain rfl : us = [] := List.length_eq_zero_iff.1 (hb h)
    exact ResLe.pure (AVle.dat (Dle.nil _ _)) rfl
  · exact RowIs.res rfl (RowIs.cat (RowIs.nil slE 3 0 _ rfl) (RowIs.refl slE 3 us)) rfl
theorem copied_t (x : Lt) (hL : x.us.length ≤ 1000000) : ACalls XX 37 [ltA x] (ltA x) := by
  have h := clone_t x.us hL
  refine ACalls.of (n := Tryz.f37.ntmps) XX_ok Tryz.func37 rfl (by kernel_rfl) rfl rfl (Nat.le_of_ble_eq_true rfl) ?_
  (repeat' (first|((first|refine Zg ?_|refine Zn ?_|refine Zc ?_|refine Zu fun b hb=>?_|refine Zy h ?_);conv=>whnf)|(refine Zb ?_ ?_<;>(intro h;first|exact Zx|conv=>whnf))))
  all_goals exact Zrz

def idx (L : List Int) (v : Int) : Int := if v ∈ L then (L.takeWhile fun x => decide (x ≠ v)).length else -1
theorem takeWhile_at {L : List Int} {v : Int} {k : Nat} (hk : k < L.length) (hz : ∀ i, i < k → L.getD i default ≠ v) (hv : L.getD k default = v) : (L.takeWhile fun x => decide (x ≠ v)).length = k := by
  induction L generalizing k with
  | nil => simp at hk
  | cons a l ih =>
    cases k with
    | zero =>
      have : a = v := by simpa using hv
      simp [this]
    | succ k =>
      have h0 : a ≠ v := by simpa using hz 0 (by omega)
      have := ih (k := k) (by simpa using hk) (fun i hi => by simpa using hz (i + 1) (by omega)) (by simpa using hv)
      simp [h0]
      simpa using this
theorem mem_getD {L : List Int} {v : Int} : v ∈ L ↔ ∃ i, i < L.length ∧ L.getD i default = v := by
  constructor
  · intro h
    obtain ⟨i, hi, rfl⟩ := List.getElem_of_mem h
    exact ⟨i, hi, by simp [hi]⟩
  · rintro ⟨i, hi, rfl⟩
    exact getD_in hi
theorem index_t (L : List Int) (v : Int) (hL : L.length ≤ 1000000) : ACalls XX 102 [.dat (iD L), iA v] (iA (idx L v)) := by
  refine ACalls.of (n := Tryz.f102.ntmps) XX_ok Tryz.func102 rfl (by kernel_rfl) rfl rfl (Nat.le_of_ble_eq_true rfl) ?_
  (repeat' (first|((first|refine Zg ?_|refine Zn ?_|refine Zc ?_|refine Zu fun b hb=>?_);conv=>whnf)|(refine Zb ?_ ?_<;>(intro h;first|exact Zx|conv=>whnf))))
  refine (W.loopK (ι := Nat) [0, 1, 7] [] (fun k => [(8, iA k)]) (fun _ => []) (fun k => k ≤ L.length ∧ ∀ i, i < k → L.getD i default ≠ v) (fun k => L.length - k) 0 ⟨Nat.zero_le _, fun i hi => absurd hi (by omega)⟩ ?_ ?_ ?_)
  · exact Yz
  · exact Yz
  conv => whnf
  intro k ⟨hk, hz⟩
  (repeat' (first|((first|refine Zg ?_|refine Zn ?_|refine Zc ?_|refine Zu fun b hb=>?_);conv=>whnf)|(refine Zb ?_ ?_<;>(intro h;first|exact Zx|conv=>whnf))))
  all_goals (try dsimp only [Int.toNat_natCast] at *)
  · have e : idx L v = k := by
      unfold idx
      rw [if_pos (mem_getD.2 ⟨k, by omega, by omega⟩), takeWhile_at (by omega) hz (by omega)]
    (repeat' (first|exact Zrq|exact Zi (by exact e.symm)|exact Zo (h := by exact e.symm)|refine ResLe.agg ?_|refine And.intro ?_ ?_|((conv=>whnf); first|exact Zrq|exact Zi (by exact e.symm)|exact Zo (h := by exact e.symm)|refine ResLe.agg ?_|refine And.intro ?_ ?_)))
  · refine ⟨k + 1, ⟨by omega, fun i hi => ?_⟩, by omega, ?_, ?_, ?_, ?_⟩
    · by_cases hik : i = k
      · subst hik; omega
      · exact hz i (by omega)
    all_goals exact Yz
  · have e : idx L v = -1 := by
      unfold idx
      rw [if_neg]
      intro hm
      obtain ⟨i, hi, he⟩ := mem_getD.1 hm
      exact hz i (by omega) he
    (repeat' (first|exact Zrq|exact Zi (by exact e.symm)|exact Zo (h := by exact e.symm)|refine ResLe.agg ?_|refine And.intro ?_ ?_|((conv=>whnf); first|exact Zrq|exact Zi (by exact e.symm)|exact Zo (h := by exact e.symm)|refine ResLe.agg ?_|refine And.intro ?_ ?_)))
theorem contains_t (L : List Int) (v : Int) (hL : L.length ≤ 1000000) : ACalls XX 57 [.dat (iD L), iA v] (bA (decide (v ∈ L))) := by
  have h := index_t L v hL
  have e : (idx L v ≥ 0) ↔ v ∈ L := by
    unfold idx
    split
    · rename_i hm; simp [hm]
    · rename_i hm; simp [hm]
  refine ACalls.of (n := Tryz.f57.ntmps) XX_ok Tryz.func57 rfl (by kernel_rfl) rfl rfl (Nat.le_of_ble_eq_true rfl) ?_
  (repeat' (first|((first|refine Zg ?_|refine Zn ?_|refine Zc ?_|refine Zu fun b hb=>?_|refine Zy h ?_);conv=>whnf)|(refine Zb ?_ ?_<;>(intro h;first|exact Zx|conv=>whnf))))
  all_goals (repeat' (first|exact Zrq|exact Zi (by exact e)|exact Zo (h := by exact e)|refine ResLe.agg ?_|refine And.intro ?_ ?_|((conv=>whnf); first|exact Zrq|exact Zi (by exact e)|exact Zo (h := by exact e)|refine ResLe.agg ?_|refine And.intro ?_ ?_)))
def twiceP (L : List Int) : Prop := ∃ k, k < L.length ∧ L.getD k default ∈ L.take k
instance (L : List Int) : Decidable (twiceP L) := by unfold twiceP; exact inferInstance
theorem iD_take (L : List Int) (k : Nat) (hk : k ≤ L.length) : AVle (.dat (.lst 1 ((k : Int) - 0).toNat fun i j => rowF iE L ((0 : Int).toNat + i) j)) (.dat (iD (L.take k))) := AVle.dat (Dle.lst (by simp; omega) fun i hi j hj => by
  unfold rowF
  have hi' : i < k := by omega
  have : (L.take k).getD i default = L.getD ((0 : Int).toNat + i) default := by simp [List.getElem?_take, hi']
  rw [this]
  exact Dle.refl _)
theorem taken_t (ss : List Lt) (id : Int) (hS : ss.length ≤ 100000) (hU : ∀ x ∈ ss, x.us.length ≤ 100000) : ACalls XX 23 [.dat (ltD ss), iA id] (bA (decide (takenP ss id))) := by
  refine ACalls.of (n := Tryz.f23.ntmps) XX_ok Tryz.func23 rfl (by kernel_rfl) rfl rfl (Nat.le_of_ble_eq_true rfl) ?_
  (repeat' (first|((first|refine Zg ?_|refine Zn ?_|refine Zc ?_|refine Zu fun b hb=>?_);conv=>whnf)|(refine Zb ?_ ?_<;>(intro h;first|exact Zx|conv=>whnf))))
  refine (W.loopK (ι := Nat) [1, 9, 10] [] (fun k => [(11, iA k)]) (fun _ => []) (fun k => k ≤ ss.length ∧ ∀ i, i < k → ¬ ((ss.getD i default).id = id ∨ ∃ s ∈ (ss.getD i default).us, s.m = id)) (fun k => ss.length - k) 0 ⟨Nat.zero_le _, fun i hi => absurd hi (by omega)⟩ ?_ ?_ ?_)
  · exact Yz
  · exact Yz
  conv => whnf
  intro k ⟨hk, hz⟩
  by_cases hk' : k < ss.length
  · have hx := hU _ (getD_in hk')
    have hm := getD_in hk'
    (repeat' (first|((first|refine Zg ?_|refine Zn ?_|refine Zc ?_|refine Zu fun b hb=>?_);conv=>whnf)|(refine Zb ?_ ?_<;>(intro h;first|exact Zx|conv=>whnf))))
    all_goals (try dsimp only [Int.toNat_natCast] at *)
    · have hn : takenP ss id := ⟨_, hm, .inl (by omega)⟩
      (repeat' (first|exact Zrq|exact Zi (by simp [hn])|exact Zo (h := by simp [hn])|refine ResLe.agg ?_|refine And.intro ?_ ?_|((conv=>whnf); first|exact Zrq|exact Zi (by simp [hn])|exact Zo (h := by simp [hn])|refine ResLe.agg ?_|refine And.intro ?_ ?_)))
    refine (W.loopK (ι := Nat) [1, 9, 10, 11, 20, 21] [] (fun i => [(22, iA i)]) (fun _ => []) (fun i => i ≤ (ss.getD k default).us.length ∧ ∀ j, j < i → ((ss.getD k default).us.getD j default).m ≠ id) (fun i => (ss.getD k default).us.length - i) 0 ⟨Nat.zero_le _, fun i hi => absurd hi (by omega)⟩ ?_ ?_ ?_)
    · exact Yz
    · exact Yz
    conv => whnf
    intro i ⟨hi, hy⟩
    (repeat' (first|((first|refine Zg ?_|refine Zn ?_|refine Zc ?_|refine Zu fun b hb=>?_);conv=>whnf)|(refine Zb ?_ ?_<;>(intro h;first|exact Zx|conv=>whnf))))
    all_goals (try dsimp only [Int.toNat_natCast] at *)
    · have hn : takenP ss id := ⟨_, hm, .inr ⟨_, getD_in (k := i) (by omega), by omega⟩⟩
      (repeat' (first|exact Zrq|exact Zi (by simp [hn])|exact Zo (h := by simp [hn])|refine ResLe.agg ?_|refine And.intro ?_ ?_|((conv=>whnf); first|exact Zrq|exact Zi (by simp [hn])|exact Zo (h := by simp [hn])|refine ResLe.agg ?_|refine And.intro ?_ ?_)))
    · refine ⟨i + 1, ⟨by omega, fun j hj => ?_⟩, by omega, ?_, ?_, ?_, ?_⟩
      · by_cases hik : j = i
        · subst hik; omega
        · exact hy j (by omega)
      all_goals exact Yz
    · refine ⟨k + 1, ⟨by omega, fun j hj => ?_⟩, by omega, ?_, ?_, ?_, ?_⟩
      · by_cases hik : j = k
        · subst hik
          rintro (h1|⟨s, h1, h2⟩)
          · omega
          · obtain ⟨q, hq, rfl⟩ := List.getElem_of_mem h1
            refine hy q (by omega) ?_
            rw [getD_of hq]
            exact h2
        · exact hz j (by omega)
      all_goals exact Yz
  · have hn : ¬ takenP ss id := fun ⟨y, hy, he⟩ => by
      obtain ⟨i, hi, rfl⟩ := List.getElem_of_mem hy
      have := hz i (by omega)
      rw [List.getD_eq_getElem?_getD, List.getElem?_eq_getElem hi] at this
      exact this he
    (repeat' (first|((first|refine Zg ?_|refine Zn ?_|refine Zc ?_|refine Zu fun b hb=>?_);conv=>whnf)|(refine Zb ?_ ?_<;>(intro h;first|exact Zx|conv=>whnf))))
    all_goals (repeat' (first|exact Zrq|exact Zi (by simp [hn])|exact Zo (h := by simp [hn])|refine ResLe.agg ?_|refine And.intro ?_ ?_|((conv=>whnf); first|exact Zrq|exact Zi (by simp [hn])|exact Zo (h := by simp [hn])|refine ResLe.agg ?_|refine And.intro ?_ ?_)))

abbrev lsD (ls : List (List Sl)) : D := .lst 1 ls.length (rowF (fun (us : List Sl) (_ : Nat) => slD us) ls)
theorem lsD_le (ls : List (List Sl)) : AVle (.dat (lsD ls)) (.dat (llD ls)) := AVle.dat (Dle.lst rfl fun i hi j hj => Dle.refl _)
theorem overlapL_t (ls : List (List Sl)) (hL : ls.length ≤ 100000) (hn : ls.flatten.length ≤ 100000) : ACalls XX 72 [.dat (lsD ls)] (bA (decide (ovl ls.flatten))) := (overlap_t ls hL hn).args ⟨lsD_le ls, trivial⟩
theorem overlap1_t (us : List Sl) (hn : us.length ≤ 100000) : ACalls XX 72 [.dat (.lst 1 1 fun i j => pickF (tabB 1 1) [slD us] (i * 1 + j))] (bA (decide (ovl us))) := by
  have h := overlap_t [us] (by simp) (by simpa using hn)
  rw [List.flatten_singleton] at h
  exact h.args ⟨llD_one us, trivial⟩
theorem here_snoc (ss : List Lt) (k : Nat) (h : k < ss.length) : here (ss.take (k + 1)) = if (ss.getD k default).p = 13 then here (ss.take k) else here (ss.take k) ++ [(ss.getD k default).us] := by
  rw [List.take_succ_eq_append_getElem h, getD_of h]
  unfold here
  rw [List.filter_append, List.map_append]
  split
  · rename_i hp; simp [hp]
  · rename_i hp; simp [hp]
theorem here_len (ss : List Lt) : (here ss).length ≤ ss.length := by unfold here; rw [List.length_map]; exact List.length_filter_le ..
theorem flat_len {ls : List (List Sl)} {B : Nat} (h : ∀ l ∈ ls, l.length ≤ B) : ls.flatten.length ≤ B * ls.length := by
  induction ls with
  | nil => simp
  | cons l ls ih =>
    have h1 := h l (by simp)
    have h2 := ih fun x hx => h x (by simp [hx])
    rw [List.flatten_cons, List.length_append, List.length_cons, Nat.mul_add]
    omega
theorem here_flat {ss : List Lt} (hU : ∀ x ∈ ss, x.us.length ≤ 64) (hS : ss.length ≤ 1000) : (here ss).flatten.length ≤ 100000 := by
  have h1 := here_len ss
  have h2 : (here ss).flatten.length ≤ 64 * (here ss).length := flat_len fun l hl => by
    unfold here at hl
    obtain ⟨x, hx, rfl⟩ := List.mem_map.1 hl
    exact hU x (List.mem_filter.1 hx).1
  omega
theorem repeats_t (ss : List Lt) (hS : ss.length ≤ 1000) (hU : ∀ x ∈ ss, x.us.length ≤ 64) : ACalls XX 36 [.dat (ltD ss)] (bA (decide (reps ss))) := by
  have hO := overlapL_t (here ss) (by have := here_len ss; omega) (here_flat hU hS)
  have hO1 := fun us (h : us.length ≤ 64) => overlap1_t us (by omega)
  have hh0 : here (ss.take 0) = [] := rfl
  refine ACalls.of (n := Tryz.f36.ntmps) XX_ok Tryz.func36 rfl (by kernel_rfl) rfl rfl (Nat.le_of_ble_eq_true rfl) ?_
  refine W.pb [22] ?_
  (repeat' (first|((first|refine Zg ?_|refine Zn ?_|refine Zc ?_|refine Zu fun b hb=>?_);conv=>whnf)|(refine Zb ?_ ?_<;>(intro h;first|exact Zx|conv=>whnf))))
  refine (W.adopt 3 19 43 1 (rowF (fun (us : List Sl) (_ : Nat) => slD us) []) rfl rfl rfl rfl ?_)
  conv => whnf
  refine (W.loopK (ι := Nat) [6, 7] [] (fun k => [(8, iA k), (3, .own 19 1 0 (here (ss.take k)).length)]) (fun k => [(19, .row 43 1 (here (ss.take k)).length (rowF (fun (us : List Sl) (_ : Nat) => slD us) (here (ss.take k))))]) (fun k => k ≤ ss.length ∧ ∀ i, i < k → (ss.getD i default).p = 13 → ¬ ovl (ss.getD i default).us) (fun k => ss.length - k) 0 ⟨Nat.zero_le _, fun i hi => absurd hi (by omega)⟩ ?_ ?_ ?_)
  · exact Yz
  · exact Yz
  conv => whnf
  intro k ⟨hk, hz⟩
  have hb := here_len (ss.take k)
  have hb2 : (ss.take k).length ≤ ss.length := List.length_take_le' ..
  by_cases hk' : k < ss.length
  · have hx := hU _ (getD_in hk')
    have hs := here_snoc ss k hk'
    have hc := hO1 _ hx
    (repeat' (first|((first|refine Zg ?_|refine Zn ?_|refine Zc ?_|refine Zu fun b hb=>?_);conv=>whnf)|(refine Zb ?_ ?_<;>(intro h;first|exact Zx|conv=>whnf))))
    all_goals (try dsimp only [Int.toNat_natCast] at *)
    (repeat' (first|((first|refine Zg ?_|refine Zn ?_|refine Zc ?_|refine Zu fun b hb=>?_|refine Zy (ACalls.at (hc)) ?_);conv=>whnf)|(refine Zb ?_ ?_<;>(intro h;first|exact Zx|conv=>whnf))))
    · have hp : (ss.getD k default).p ≠ 13 := by simp_all
      rw [if_neg hp] at hs
      refine ⟨k + 1, ⟨by omega, fun i hi h13 => ?_⟩, by omega, ?_, ?_, ?_, ?_⟩
      · by_cases hik : i = k
        · subst hik; exact absurd h13 hp
        · exact hz i (by omega) h13
      all_goals (repeat' (first|exact Yq|exact Yi (by first|rfl|(rw [hs]; simp; done)|omega)|exact Yo (by first|rfl|(rw [hs]; simp; done)|omega)|exact Ye (by first|rfl|(rw [hs]; simp; done)|omega)|refine ⟨_, rfl, Yb ?_, rfl⟩|refine ⟨_, rfl, Yw (by first|rfl|(rw [hs]; simp; done)|omega) ?_, rfl⟩|refine And.intro ?_ ?_))
      rw [hs]
      refine rowF_snoc rfl fun j hj => ?_
      obtain rfl : j = 0 := by omega
      exact Dle.refl _
    · have hn : reps ss := .inl ⟨_, getD_in hk', by simp_all, by simp_all⟩
      (repeat' (first|exact Zrq|exact Zi (by simp [hn])|exact Zo (h := by simp [hn])|refine ResLe.agg ?_|refine And.intro ?_ ?_|((conv=>whnf); first|exact Zrq|exact Zi (by simp [hn])|exact Zo (h := by simp [hn])|refine ResLe.agg ?_|refine And.intro ?_ ?_)))
    · have hp : (ss.getD k default).p = 13 := by simp_all
      rw [if_pos hp] at hs
      refine ⟨k + 1, ⟨by omega, fun i hi h13 => ?_⟩, by omega, ?_, ?_, ?_, ?_⟩
      · by_cases hik : i = k
        · subst hik; simp_all
        · exact hz i (by omega) h13
      all_goals (repeat' (first|exact Yq|exact Yi (by first|rfl|(rw [hs]; done)|omega)|exact Yo (by first|rfl|(rw [hs]; done)|omega)|exact Ye (by first|rfl|(rw [hs]; done)|omega)|refine ⟨_, rfl, Yb ?_, rfl⟩|refine ⟨_, rfl, Yw (by first|rfl|(rw [hs]; done)|omega) ?_, rfl⟩|refine And.intro ?_ ?_))
      rw [hs]
      exact fun _ _ _ _ => Dle.refl _
  · obtain rfl : k = ss.length := by omega
    rw [List.take_length] at *
    have e : reps ss ↔ ovl (here ss).flatten := by
      unfold reps
      refine ⟨fun h => ?_, .inr⟩
      rcases h with ⟨x, hx, h1, h2⟩|h
      · obtain ⟨i, hi, rfl⟩ := List.getElem_of_mem hx
        have := hz i hi
        rw [getD_of hi] at this
        exact absurd h2 (this h1)
      · exact h
    (repeat' (first|((first|refine Zg ?_|refine Zn ?_|refine Zc ?_|refine Zu fun b hb=>?_);conv=>whnf)|(refine Zb ?_ ?_<;>(intro h;first|exact Zx|conv=>whnf))))
    refine ExCall.pub 19 rfl ?_
    conv => whnf
    (repeat' (first|((first|refine Zg ?_|refine Zn ?_|refine Zc ?_|refine Zu fun b hb=>?_|refine Zq (ACalls.at (hO)) ?_);conv=>whnf)|(refine Zb ?_ ?_<;>(intro h;first|exact Zx|conv=>whnf))))
    all_goals (repeat' (first|exact Zrq|exact Zi (by exact e.symm)|exact Zo (h := by exact e.symm)|refine ResLe.agg ?_|refine And.intro ?_ ?_|((conv=>whnf); first|exact Zrq|exact Zi (by exact e.symm)|exact Zo (h := by exact e.symm)|refine ResLe.agg ?_|refine And.intro ?_ ?_)))

end Go.Proofs.YtacpjihbbmoolaaGreatDoor
