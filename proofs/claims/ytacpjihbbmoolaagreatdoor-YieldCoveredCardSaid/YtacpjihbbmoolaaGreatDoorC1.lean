/- The reference's functions on stocks: places, IDs taken, lots put in their places, lots left out. -/
import Derived.Test.YtacpjihbbmoolaaGreatDoorC0

namespace Go.Proofs.YtacpjihbbmoolaaGreatDoor
open Go Go.RowKit
set_option linter.unusedVariables false
set_option linter.unusedSimpArgs false
set_option maxRecDepth 100000
set_option maxHeartbeats 4000000
attribute [local irreducible] ResLe AVle ArgLe ArgP EntLe Dle ResH ArgQ

theorem rcode8_t (c : ByteArray) (hc : c.size ≤ 9223372036854775807) : ACalls XX 88 [sA c] (bA (decide (codeOk c))) := by
  refine ACalls.of (n := Tryz.f88.ntmps) XX_ok Tryz.func88 rfl (by kernel_rfl) rfl rfl (Nat.le_of_ble_eq_true rfl) ?_
  (repeat' (first|((first|refine Zg ?_|refine Zn ?_|refine Zc ?_|refine Zu fun b hb=>?_);conv=>whnf)|(refine Zb ?_ ?_<;>(intro h;first|exact Zx|conv=>whnf))))
  refine (W.loopK (ι := Nat) [0] [] (fun k => [(3, iA k)]) (fun _ => []) (fun k => k ≤ c.size ∧ ∀ i, i < k → 48 ≤ byteAt c i ∧ byteAt c i ≤ 57) (fun k => c.size - k) 0 ⟨Nat.zero_le _, fun i hi => absurd hi (by omega)⟩ ?_ ?_ ?_)
  · exact Yz
  · exact Yz
  conv => whnf
  intro k ⟨hk, hz⟩
  by_cases hk' : k < c.size
  · (repeat' (first|((first|refine Zg ?_|refine Zn ?_|refine Zc ?_|refine Zu fun b hb=>?_);conv=>whnf)|(refine Zb ?_ ?_<;>(intro h;first|exact Zx|conv=>whnf))))
    all_goals (try dsimp only [Int.toNat_natCast] at *)
    (repeat' (first|((first|refine Zg ?_|refine Zn ?_|refine Zc ?_|refine Zu fun b hb=>?_);conv=>whnf)|(refine Zb ?_ ?_<;>(intro h;first|exact Zx|conv=>whnf))))
    all_goals first|(have hn : ¬ codeOk c := fun hc => (by have := hc.2 k (by have := hc.1; omega); omega)); (repeat' (first|exact Zrq|exact Zi (by simp [hn])|exact Zo (h := by simp [hn])|refine ResLe.agg ?_|refine And.intro ?_ ?_|((conv=>whnf); first|exact Zrq|exact Zi (by simp [hn])|exact Zo (h := by simp [hn])|refine ResLe.agg ?_|refine And.intro ?_ ?_))); done|skip
    refine ⟨k + 1, ⟨by omega, fun i hi => ?_⟩, by omega, ?_, ?_, ?_, ?_⟩
    · by_cases hik : i = k
      · subst hik; omega
      · exact hz i (by omega)
    all_goals exact Yz
  · have e : codeOk c ↔ c.size = 8 := ⟨fun h => h.1, fun h => ⟨h, fun i hi => hz i (by omega)⟩⟩
    (repeat' (first|((first|refine Zg ?_|refine Zn ?_|refine Zc ?_|refine Zu fun b hb=>?_);conv=>whnf)|(refine Zb ?_ ?_<;>(intro h;first|exact Zx|conv=>whnf))))
    all_goals (repeat' (first|exact Zrq|exact Zi (by rw [e]; omega)|exact Zo (h := by rw [e]; omega)|refine ResLe.agg ?_|refine And.intro ?_ ?_|((conv=>whnf); first|exact Zrq|exact Zi (by rw [e]; omega)|exact Zo (h := by rw [e]; omega)|refine ResLe.agg ?_|refine And.intro ?_ ?_)))

def atI (ss : List Lt) (id : Int) : Int := if hasI ss id then findI ss id else -1
theorem findI_at {ss : List Lt} {id : Int} {k : Nat} (hk : k < ss.length) (hz : ∀ i, i < k → (ss.getD i default).id ≠ id) (hv : (ss.getD k default).id = id) : findI ss id = k := by
  unfold findI
  induction ss generalizing k with
  | nil => simp at hk
  | cons a l ih =>
    cases k with
    | zero =>
      have : a.id = id := by simpa using hv
      simp [this]
    | succ k =>
      have h0 : a.id ≠ id := by simpa using hz 0 (by omega)
      have := ih (k := k) (by simpa using hk) (fun i hi => by simpa using hz (i + 1) (by omega)) (by simpa using hv)
      simp [h0]
      simpa using this
theorem findI_ex {ss : List Lt} {id : Int} (h : hasI ss id) : ∃ k, k < ss.length ∧ findI ss id = k ∧ (ss.getD k default).id = id ∧ (∀ i, i < k → (ss.getD i default).id ≠ id) ∧ ss.getD k default = findV ss id := by
  have hex : ∃ k, k < ss.length ∧ (ss.getD k default).id = id := by
    obtain ⟨x, hx, he⟩ := h
    obtain ⟨i, hi, rfl⟩ := List.getElem_of_mem hx
    exact ⟨i, hi, by rw [getD_of hi]; exact he⟩
  have key : ∀ n k, k = n → k < ss.length → (ss.getD k default).id = id → ∃ k, k < ss.length ∧ (ss.getD k default).id = id ∧ ∀ i, i < k → (ss.getD i default).id ≠ id := by
    intro n
    induction n using Nat.strongRecOn with
    | _ n ih =>
      intro k hk h1 h2
      by_cases hq : ∃ i, i < k ∧ (ss.getD i default).id = id
      · obtain ⟨i, hi, he⟩ := hq
        exact ih i (by omega) i rfl (by omega) he
      · exact ⟨k, h1, h2, fun i hi he => hq ⟨i, hi, he⟩⟩
  obtain ⟨k0, h1, h2⟩ := hex
  obtain ⟨k, h1, h2, h3⟩ := key k0 k0 rfl h1 h2
  refine ⟨k, h1, findI_at h1 h3 h2, h2, h3, ?_⟩
  unfold findV
  rw [find_at h1 h3 h2]
  rfl
theorem at_has {ss : List Lt} {id : Int} (h : hasI ss id) : atI ss id = findI ss id := by unfold atI; rw [if_pos h]
theorem at_no {ss : List Lt} {id : Int} (h : ¬ hasI ss id) : atI ss id = -1 := by unfold atI; rw [if_neg h]
theorem rat_t (ss : List Lt) (id : Int) (hS : ss.length ≤ 1000000) : ACalls XX 52 [.dat (ltD ss), iA id] (iA (atI ss id)) := by
  refine ACalls.of (n := Tryz.f52.ntmps) XX_ok Tryz.func52 rfl (by kernel_rfl) rfl rfl (Nat.le_of_ble_eq_true rfl) ?_
  (repeat' (first|((first|refine Zg ?_|refine Zn ?_|refine Zc ?_|refine Zu fun b hb=>?_);conv=>whnf)|(refine Zb ?_ ?_<;>(intro h;first|exact Zx|conv=>whnf))))
  refine (W.loopK (ι := Nat) [0, 1] [] (fun k => [(5, iA k)]) (fun _ => []) (fun k => k ≤ ss.length ∧ ∀ i, i < k → (ss.getD i default).id ≠ id) (fun k => ss.length - k) 0 ⟨Nat.zero_le _, fun i hi => absurd hi (by omega)⟩ ?_ ?_ ?_)
  · exact Yz
  · exact Yz
  conv => whnf
  intro k ⟨hk, hz⟩
  by_cases hk' : k < ss.length
  · (repeat' (first|((first|refine Zg ?_|refine Zn ?_|refine Zc ?_|refine Zu fun b hb=>?_);conv=>whnf)|(refine Zb ?_ ?_<;>(intro h;first|exact Zx|conv=>whnf))))
    all_goals (try dsimp only [Int.toNat_natCast] at *)
    (repeat' (first|((first|refine Zg ?_|refine Zn ?_|refine Zc ?_|refine Zu fun b hb=>?_);conv=>whnf)|(refine Zb ?_ ?_<;>(intro h;first|exact Zx|conv=>whnf))))
    · have hh : hasI ss id := ⟨_, getD_in hk', by assumption⟩
      have e : atI ss id = k := by rw [at_has hh, findI_at hk' hz (by assumption)]
      (repeat' (first|exact Zrq|exact Zi (by exact e.symm)|exact Zo (h := by exact e.symm)|refine ResLe.agg ?_|refine And.intro ?_ ?_|((conv=>whnf); first|exact Zrq|exact Zi (by exact e.symm)|exact Zo (h := by exact e.symm)|refine ResLe.agg ?_|refine And.intro ?_ ?_)))
    · refine ⟨k + 1, ⟨by omega, fun i hi => ?_⟩, by omega, ?_, ?_, ?_, ?_⟩
      · by_cases hik : i = k
        · subst hik; omega
        · exact hz i (by omega)
      all_goals exact Yz
  · have e : atI ss id = -1 := at_no fun ⟨x, hx, he⟩ => by
      obtain ⟨i, hi, rfl⟩ := List.getElem_of_mem hx
      have := hz i (by omega)
      rw [getD_of hi] at this
      exact this he
    (repeat' (first|((first|refine Zg ?_|refine Zn ?_|refine Zc ?_|refine Zu fun b hb=>?_);conv=>whnf)|(refine Zb ?_ ?_<;>(intro h;first|exact Zx|conv=>whnf))))
    all_goals (repeat' (first|exact Zrq|exact Zi (by exact e.symm)|exact Zo (h := by exact e.symm)|refine ResLe.agg ?_|refine And.intro ?_ ?_|((conv=>whnf); first|exact Zrq|exact Zi (by exact e.symm)|exact Zo (h := by exact e.symm)|refine ResLe.agg ?_|refine And.intro ?_ ?_)))
theorem rhas_t (L : List Int) (v : Int) (hL : L.length ≤ 1000000) : ACalls XX 97 [.dat (iD L), iA v] (bA (decide (v ∈ L))) := by
  refine ACalls.of (n := Tryz.f97.ntmps) XX_ok Tryz.func97 rfl (by kernel_rfl) rfl rfl (Nat.le_of_ble_eq_true rfl) ?_
  (repeat' (first|((first|refine Zg ?_|refine Zn ?_|refine Zc ?_|refine Zu fun b hb=>?_);conv=>whnf)|(refine Zb ?_ ?_<;>(intro h;first|exact Zx|conv=>whnf))))
  refine (W.loopK (ι := Nat) [0, 1] [] (fun k => [(5, iA k)]) (fun _ => []) (fun k => k ≤ L.length ∧ ∀ i, i < k → L.getD i default ≠ v) (fun k => L.length - k) 0 ⟨Nat.zero_le _, fun i hi => absurd hi (by omega)⟩ ?_ ?_ ?_)
  · exact Yz
  · exact Yz
  conv => whnf
  intro k ⟨hk, hz⟩
  by_cases hk' : k < L.length
  · (repeat' (first|((first|refine Zg ?_|refine Zn ?_|refine Zc ?_|refine Zu fun b hb=>?_);conv=>whnf)|(refine Zb ?_ ?_<;>(intro h;first|exact Zx|conv=>whnf))))
    all_goals (try dsimp only [Int.toNat_natCast] at *)
    (repeat' (first|((first|refine Zg ?_|refine Zn ?_|refine Zc ?_|refine Zu fun b hb=>?_);conv=>whnf)|(refine Zb ?_ ?_<;>(intro h;first|exact Zx|conv=>whnf))))
    · have hh : v ∈ L := mem_getD.2 ⟨k, hk', by assumption⟩
      (repeat' (first|exact Zrq|exact Zi (by exact hh)|exact Zo (h := by exact hh)|refine ResLe.agg ?_|refine And.intro ?_ ?_|((conv=>whnf); first|exact Zrq|exact Zi (by exact hh)|exact Zo (h := by exact hh)|refine ResLe.agg ?_|refine And.intro ?_ ?_)))
    · refine ⟨k + 1, ⟨by omega, fun i hi => ?_⟩, by omega, ?_, ?_, ?_, ?_⟩
      · by_cases hik : i = k
        · subst hik; omega
        · exact hz i (by omega)
      all_goals exact Yz
  · have hh : ¬ v ∈ L := fun hm => by
      obtain ⟨i, hi, he⟩ := mem_getD.1 hm
      exact hz i (by omega) he
    (repeat' (first|((first|refine Zg ?_|refine Zn ?_|refine Zc ?_|refine Zu fun b hb=>?_);conv=>whnf)|(refine Zb ?_ ?_<;>(intro h;first|exact Zx|conv=>whnf))))
    all_goals (repeat' (first|exact Zrq|exact Zi (by exact hh)|exact Zo (h := by exact hh)|refine ResLe.agg ?_|refine And.intro ?_ ?_|((conv=>whnf); first|exact Zrq|exact Zi (by exact hh)|exact Zo (h := by exact hh)|refine ResLe.agg ?_|refine And.intro ?_ ?_)))
theorem rtaken_t (ss : List Lt) (id : Int) (hS : ss.length ≤ 100000) (hU : ∀ x ∈ ss, x.us.length ≤ 100000) : ACalls XX 89 [.dat (ltD ss), iA id] (bA (decide (takenP ss id))) := by
  refine ACalls.of (n := Tryz.f89.ntmps) XX_ok Tryz.func89 rfl (by kernel_rfl) rfl rfl (Nat.le_of_ble_eq_true rfl) ?_
  (repeat' (first|((first|refine Zg ?_|refine Zn ?_|refine Zc ?_|refine Zu fun b hb=>?_);conv=>whnf)|(refine Zb ?_ ?_<;>(intro h;first|exact Zx|conv=>whnf))))
  refine (W.loopK (ι := Nat) [0, 1] [] (fun k => [(5, iA k)]) (fun _ => []) (fun k => k ≤ ss.length ∧ ∀ i, i < k → ¬ ((ss.getD i default).id = id ∨ ∃ s ∈ (ss.getD i default).us, s.m = id)) (fun k => ss.length - k) 0 ⟨Nat.zero_le _, fun i hi => absurd hi (by omega)⟩ ?_ ?_ ?_)
  · exact Yz
  · exact Yz
  conv => whnf
  intro k ⟨hk, hz⟩
  by_cases hk' : k < ss.length
  · have hx := hU _ (getD_in hk')
    have hm := getD_in hk'
    (repeat' (first|((first|refine Zg ?_|refine Zn ?_|refine Zc ?_|refine Zu fun b hb=>?_);conv=>whnf)|(refine Zb ?_ ?_<;>(intro h;first|exact Zx|conv=>whnf))))
    all_goals (try dsimp only [Int.toNat_natCast] at *)
    (repeat' (first|((first|refine Zg ?_|refine Zn ?_|refine Zc ?_|refine Zu fun b hb=>?_);conv=>whnf)|(refine Zb ?_ ?_<;>(intro h;first|exact Zx|conv=>whnf))))
    · have hn : takenP ss id := ⟨_, hm, .inl (by omega)⟩
      (repeat' (first|exact Zrq|exact Zi (by exact hn)|exact Zo (h := by exact hn)|refine ResLe.agg ?_|refine And.intro ?_ ?_|((conv=>whnf); first|exact Zrq|exact Zi (by exact hn)|exact Zo (h := by exact hn)|refine ResLe.agg ?_|refine And.intro ?_ ?_)))
    refine (W.loopK (ι := Nat) [0, 1, 5] [] (fun i => [(6, iA i)]) (fun _ => []) (fun i => i ≤ (ss.getD k default).us.length ∧ ∀ j, j < i → ((ss.getD k default).us.getD j default).m ≠ id) (fun i => (ss.getD k default).us.length - i) 0 ⟨Nat.zero_le _, fun i hi => absurd hi (by omega)⟩ ?_ ?_ ?_)
    · exact Yz
    · exact Yz
    conv => whnf
    intro i ⟨hi, hy⟩
    (repeat' (first|((first|refine Zg ?_|refine Zn ?_|refine Zc ?_|refine Zu fun b hb=>?_);conv=>whnf)|(refine Zb ?_ ?_<;>(intro h;first|exact Zx|conv=>whnf))))
    all_goals (try dsimp only [Int.toNat_natCast] at *)
    (repeat' (first|((first|refine Zg ?_|refine Zn ?_|refine Zc ?_|refine Zu fun b hb=>?_);conv=>whnf)|(refine Zb ?_ ?_<;>(intro h;first|exact Zx|conv=>whnf))))
    all_goals (try dsimp only [Int.toNat_natCast] at *)
    (repeat' (first|((first|refine Zg ?_|refine Zn ?_|refine Zc ?_|refine Zu fun b hb=>?_);conv=>whnf)|(refine Zb ?_ ?_<;>(intro h;first|exact Zx|conv=>whnf))))
    · have hn : takenP ss id := ⟨_, hm, .inr ⟨_, getD_in (k := i) (by omega), by omega⟩⟩
      (repeat' (first|exact Zrq|exact Zi (by exact hn)|exact Zo (h := by exact hn)|refine ResLe.agg ?_|refine And.intro ?_ ?_|((conv=>whnf); first|exact Zrq|exact Zi (by exact hn)|exact Zo (h := by exact hn)|refine ResLe.agg ?_|refine And.intro ?_ ?_)))
    · refine ⟨i + 1, ⟨by omega, fun j hj => ?_⟩, by omega, ?_, ?_, ?_, ?_⟩
      · by_cases hik : j = i
        · subst hik; omega
        · exact hy j (by omega)
      all_goals exact Yz
    · refine ⟨k + 1, ⟨by omega, fun j hj => ?_⟩, by omega, ?_, ?_, ?_, ?_⟩
      · by_cases hik : j = k
        · subst hik
          rintro (h1|⟨s, h1, h2⟩)
          · omega
          · obtain ⟨q, hq, rfl⟩ := List.getElem_of_mem h1
            refine hy q (by omega) ?_
            rw [getD_of hq]
            exact h2
        · exact hz j (by omega)
      all_goals exact Yz
  · have hn : ¬ takenP ss id := fun ⟨y, hy, he⟩ => by
      obtain ⟨i, hi, rfl⟩ := List.getElem_of_mem hy
      have := hz i (by omega)
      rw [List.getD_eq_getElem?_getD, List.getElem?_eq_getElem hi] at this
      exact this he
    (repeat' (first|((first|refine Zg ?_|refine Zn ?_|refine Zc ?_|refine Zu fun b hb=>?_);conv=>whnf)|(refine Zb ?_ ?_<;>(intro h;first|exact Zx|conv=>whnf))))
    all_goals (repeat' (first|exact Zrq|exact Zi (by exact hn)|exact Zo (h := by exact hn)|refine ResLe.agg ?_|refine And.intro ?_ ?_|((conv=>whnf); first|exact Zrq|exact Zi (by exact hn)|exact Zo (h := by exact hn)|refine ResLe.agg ?_|refine And.intro ?_ ?_)))
theorem rrests_t (p : Int) : ACalls XX 92 [iA p] (bA (decide (rests p))) := by
  refine ACalls.of (n := Tryz.f92.ntmps) XX_ok Tryz.func92 rfl (by kernel_rfl) rfl rfl (Nat.le_of_ble_eq_true rfl) ?_
  (repeat' (first|((first|refine Zg ?_|refine Zn ?_|refine Zc ?_|refine Zu fun b hb=>?_);conv=>whnf)|(refine Zb ?_ ?_<;>(intro h;first|exact Zx|conv=>whnf))))
  all_goals (repeat' (first|exact Zrq|exact Zi (by unfold rests; omega)|exact Zo (h := by unfold rests; omega)|refine ResLe.agg ?_|refine And.intro ?_ ?_|((conv=>whnf); first|exact Zrq|exact Zi (by unfold rests; omega)|exact Zo (h := by unfold rests; omega)|refine ResLe.agg ?_|refine And.intro ?_ ?_)))

theorem rwithout_t (ss : List Lt) (ids : List Int) (hS : ss.length ≤ 1000000) (hI : ids.length ≤ 1000000) : ACalls XX 96 [.dat (ltD ss), .dat (iD ids)] (.dat (ltD (keepI ss ids))) := by
  have h0 : keepI (ss.take 0) ids = [] := rfl
  refine ACalls.of (n := Tryz.f96.ntmps) XX_ok Tryz.func96 rfl (by kernel_rfl) rfl rfl (Nat.le_of_ble_eq_true rfl) ?_
  (repeat' (first|((first|refine Zg ?_|refine Zn ?_|refine Zc ?_|refine Zu fun b hb=>?_);conv=>whnf)|(refine Zb ?_ ?_<;>(intro h;first|exact Zx|conv=>whnf))))
  refine (W.adopt 5 27 45 5 (rowF ltE []) rfl rfl rfl rfl ?_)
  conv => whnf
  refine (W.loopK (ι := Nat) [0, 1] [] (fun k => [(6, iA k), (5, .own 27 5 0 (keepI (ss.take k) ids).length)]) (fun k => [(27, .row 45 5 (keepI (ss.take k) ids).length (rowF ltE (keepI (ss.take k) ids)))]) (fun k => k ≤ ss.length) (fun k => ss.length - k) 0 (Nat.zero_le _) ?_ ?_ ?_)
  · exact Yz
  · exact Yz
  conv => whnf
  intro k hk
  have hkl := keep_len (ss.take k) ids
  have hkl2 := List.length_take_le' k ss
  by_cases hk' : k < ss.length
  · have hc := rhas_t ids (ss.getD k default).id hI
    have hs := keep_snoc ss ids k hk'
    (repeat' (first|((first|refine Zg ?_|refine Zn ?_|refine Zc ?_|refine Zu fun b hb=>?_);conv=>whnf)|(refine Zb ?_ ?_<;>(intro h;first|exact Zx|conv=>whnf))))
    all_goals (try dsimp only [Int.toNat_natCast] at *)
    (repeat' (first|((first|refine Zg ?_|refine Zn ?_|refine Zc ?_|refine Zu fun b hb=>?_|refine Zy hc ?_);conv=>whnf)|(refine Zb ?_ ?_<;>(intro h;first|exact Zx|conv=>whnf))))
    · rw [if_neg (by simp_all)] at hs
      refine ⟨k + 1, by omega, by omega, ?_, ?_, ?_, ?_⟩
      all_goals (repeat' (first|exact Yq|exact Yi (by first|rfl|(rw [hs]; simp; done)|omega)|exact Yo (by first|rfl|(rw [hs]; simp; done)|omega)|exact Ye (by first|rfl|(rw [hs]; simp; done)|omega)|refine ⟨_, rfl, Yb ?_, rfl⟩|refine ⟨_, rfl, Yw (by first|rfl|(rw [hs]; simp; done)|omega) ?_, rfl⟩|refine And.intro ?_ ?_))
      rw [hs]
      refine rowF_snoc rfl fun j hj => ?_
      rcases j with _|_|_|_|_|j
      all_goals first|exact Dle.refl _|omega
    · rw [if_pos (by simp_all)] at hs
      refine ⟨k + 1, by omega, by omega, ?_, ?_, ?_, ?_⟩
      all_goals (repeat' (first|exact Yq|exact Yi (by first|rfl|(rw [hs]; done)|omega)|exact Yo (by first|rfl|(rw [hs]; done)|omega)|exact Ye (by first|rfl|(rw [hs]; done)|omega)|refine ⟨_, rfl, Yb ?_, rfl⟩|refine ⟨_, rfl, Yw (by first|rfl|(rw [hs]; done)|omega) ?_, rfl⟩|refine And.intro ?_ ?_))
      rw [hs]
      exact fun _ _ _ _ => Dle.refl _
  · obtain rfl : k = ss.length := by omega
    rw [List.take_length] at *
    (repeat' (first|((first|refine Zg ?_|refine Zn ?_|refine Zc ?_|refine Zu fun b hb=>?_);conv=>whnf)|(refine Zb ?_ ?_<;>(intro h;first|exact Zx|conv=>whnf))))
    all_goals exact Zrz
theorem putL_succ (ss ls : List Lt) (k : Nat) (h : k < ls.length) : putL ss (ls.take (k + 1)) = insL (putL ss (ls.take k)) (ls.getD k default) := by
  unfold putL
  rw [take_snoc ls k h, List.foldl_append]
  rfl
theorem putL_len (ss ls : List Lt) : (putL ss ls).length = ss.length + ls.length := by rw [(putL_perm ls ss).length_eq, List.length_append]
theorem put_row {out : List Lt} {x : Lt} {j : Nat} (hj : j ≤ out.length) {f : Nat → Nat → D} (hf : ∀ q, q < 5 → Dle (f 0 q) (ltE x q)) :
    AVle (.dat (.lst 5 (0 + ((j : Int) - 0).toNat + 1 + ((out.length : Int) - j).toNat) (catF (0 + ((j : Int) - 0).toNat + 1) (catF (0 + ((j : Int) - 0).toNat) (catF 0 (fun _ _ => .val undef) fun i q => rowF ltE out (Int.toNat 0 + i) q) f) fun i q => rowF ltE out (j + i) q))) (.dat (ltD (out.take j ++ x :: out.drop j))) := by
  have a := (RowIs.refl ltE 5 out).part (l := 0) (m := j) (k := ((j : Int) - 0).toNat) (by omega) hj
  have b := (RowIs.refl ltE 5 out).part (l := j) (m := out.length) (k := ((out.length : Int) - j).toNat) (by omega) (Nat.le_refl _)
  have c := ((RowIs.cat (RowIs.nil ltE 5 0 (fun _ _ => .val undef) rfl) a).cat (RowIs.one (enc := ltE) (s := 5) (x := x) hf)).cat b
  refine RowIs.dat (us := out.take j ++ x :: out.drop j) (c.congr ?_)
  simp
theorem rput_t (ss ls : List Lt) (hS : ss.length ≤ 1000000) (hA : ls.length ≤ 1000000) : ACalls XX 90 [.dat (ltD ss), .dat (ltD ls)] (.dat (ltD (putL ss ls))) := by
  refine ACalls.of (n := Tryz.f90.ntmps) XX_ok Tryz.func90 rfl (by kernel_rfl) rfl rfl (Nat.le_of_ble_eq_true rfl) ?_
  (repeat' (first|((first|refine Zv 2 ?_|refine Zt dr90 ?_|refine Zn ?_|refine Zc ?_|refine Zu fun b hb=>?_);conv=>whnf)|(refine Zb ?_ ?_<;>(intro h;first|exact Zx|conv=>whnf))))
  refine (W.pubD 5 8 rfl rfl ?_)
  conv => whnf
  (repeat' (first|((first|refine Zg ?_|refine Zt dr90 ?_|refine Zn ?_|refine Zc ?_|refine Zu fun b hb=>?_);conv=>whnf)|(refine Zb ?_ ?_<;>(intro h;first|exact Zx|conv=>whnf))))
  refine (W.loopK (ι := Nat) [0, 1] [] (fun k => [(6, iA k), (5, .dat (ltD (putL ss (ls.take k))))]) (fun _ => []) (fun k => k ≤ ls.length) (fun k => ls.length - k) 0 (Nat.zero_le _) ?_ ?_ ?_)
  · (repeat' (first|exact Yq|refine ⟨_, rfl, Yb ?_, rfl⟩|refine ⟨_, rfl, Yw (by first|rfl|omega) ?_, rfl⟩|refine And.intro ?_ ?_))
    exact RowIs.dat (RowIs.cat (RowIs.nil ltE 5 0 _ rfl) (RowIs.refl ltE 5 ss))
  · exact Yz
  conv => whnf
  intro k hk
  by_cases hk' : k < ls.length
  · have hpl := putL_len ss (ls.take k)
    have hpl2 := List.length_take_le' k ls
    have hs := putL_succ ss ls k hk'
    generalize putL ss (ls.take k) = out at *
    (repeat' (first|((first|refine Zg ?_|refine Zt dr90 ?_|refine Zn ?_|refine Zc ?_|refine Zu fun b hb=>?_);conv=>whnf)|(refine Zb ?_ ?_<;>(intro h;first|exact Zx|conv=>whnf))))
    refine (W.loopK (ι := Nat) [0, 1, 5, 6] [] (fun j => [(7, iA j)]) (fun _ => []) (fun j => j ≤ out.length ∧ ∀ i, i < j → (out.getD i default).id < (ls.getD k default).id) (fun j => out.length - j) 0 ⟨Nat.zero_le _, fun i hi => absurd hi (by omega)⟩ ?_ ?_ ?_)
    · exact Yz
    · exact Yz
    conv => whnf
    intro j ⟨hj, hz⟩
    (repeat' (first|((first|refine Zv 4 ?_|refine Zt dr90 ?_|refine Zn ?_|refine Zc ?_|refine Zu fun b hb=>?_);conv=>whnf)|(refine Zb ?_ ?_<;>(intro h;first|exact Zx|conv=>whnf))))
    all_goals (try dsimp only [Int.toNat_natCast] at *)
    · refine ⟨j + 1, ⟨by omega, fun i hi => ?_⟩, by omega, ?_, ?_, ?_, ?_⟩
      · by_cases hij : i = j
        · subst hij; omega
        · exact hz i (by omega)
      all_goals exact Yz
    · refine (W.pubD 5 36 rfl rfl ?_)
      conv => whnf
      (repeat' (first|((first|refine Zg ?_|refine Zt dr90 ?_|refine Zn ?_|refine Zc ?_|refine Zu fun b hb=>?_);conv=>whnf)|(refine Zb ?_ ?_<;>(intro h;first|exact Zx|conv=>whnf))))
      refine ⟨k + 1, by omega, by omega, ?_, ?_, ?_, ?_⟩
      all_goals (repeat' (first|exact Yq|refine ⟨_, rfl, Yb ?_, rfl⟩|refine ⟨_, rfl, Yw (by first|rfl|omega) ?_, rfl⟩|refine And.intro ?_ ?_))
      rw [hs, insL_at hj hz (fun _ => by omega)]
      refine put_row hj fun q hq => ?_
      rcases q with _|_|_|_|_|q
      all_goals first|exact Dle.refl _|omega
    · refine (W.pubD 5 36 rfl rfl ?_)
      conv => whnf
      (repeat' (first|((first|refine Zg ?_|refine Zt dr90 ?_|refine Zn ?_|refine Zc ?_|refine Zu fun b hb=>?_);conv=>whnf)|(refine Zb ?_ ?_<;>(intro h;first|exact Zx|conv=>whnf))))
      refine ⟨k + 1, by omega, by omega, ?_, ?_, ?_, ?_⟩
      all_goals (repeat' (first|exact Yq|refine ⟨_, rfl, Yb ?_, rfl⟩|refine ⟨_, rfl, Yw (by first|rfl|omega) ?_, rfl⟩|refine And.intro ?_ ?_))
      rw [hs, insL_at hj hz (fun _ => by omega)]
      refine put_row hj fun q hq => ?_
      rcases q with _|_|_|_|_|q
      all_goals first|exact Dle.refl _|omega
  · obtain rfl : k = ls.length := by omega
    rw [List.take_length] at *
    (repeat' (first|((first|refine Zg ?_|refine Zt dr90 ?_|refine Zn ?_|refine Zc ?_|refine Zu fun b hb=>?_);conv=>whnf)|(refine Zb ?_ ?_<;>(intro h;first|exact Zx|conv=>whnf))))
    all_goals exact Zrz

end Go.Proofs.YtacpjihbbmoolaaGreatDoor
