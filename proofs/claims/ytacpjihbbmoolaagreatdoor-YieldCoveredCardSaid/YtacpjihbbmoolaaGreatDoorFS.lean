/- Slices of lots by descriptions: whether one is good; comparisons with the draws counted. Slices of lots: joined, sorted, whether two meet; whether a lot is valid. Whether a lot is valid; portions of charges. The reference's validity of a lot; that it is the package's. -/
import Derived.Test.YtacpjihbbmoolaaGreatDoorEM
import Derived.Test.YtacpjihbbmoolaaGreatDoorLays
import Derived.Test.YtacpjihbbmoolaaGreatDoorVt

namespace Go.Proofs.YtacpjihbbmoolaaGreatDoor
open Go Go.RowKit
set_option linter.unusedVariables false
set_option linter.unusedSimpArgs false
set_option maxRecDepth 100000
set_option maxHeartbeats 4000000
attribute [local irreducible] ResLe AVle ArgLe ArgP EntLe Dle ResH ArgQ

def cmpI (a b : Int) : Int := if a < b then -1 else if b < a then 1 else 0
theorem isNaN_d (a : Int) : ACalls XD 105 [iA a] (bA false) := by
  refine ACalls.of (n := Tryz.f105.ntmps) XD_ok Tryz.func105 rfl (by kernel_rfl) rfl rfl (Nat.le_of_ble_eq_true rfl) ?_
  (repeat' (first|((first|refine Zg ?_|refine Zn ?_|refine Zc ?_|refine Zu fun b hb=>?_);conv=>whnf)|(refine Zb ?_ ?_<;>(intro h;first|exact Zx|conv=>whnf))))
  all_goals (repeat' (first|exact Zrq|exact Zi (by simp)|exact Zo (h := by simp)|refine ResLe.agg ?_|refine And.intro ?_ ?_|((conv=>whnf); first|exact Zrq|exact Zi (by simp)|exact Zo (h := by simp)|refine ResLe.agg ?_|refine And.intro ?_ ?_)))
theorem cmp_d (a b : Int) : ACalls XD 60 [iA a, iA b] (iA (cmpI a b)) := by
  have h := isNaN_d
  refine ACalls.of (n := Tryz.f60.ntmps) XD_ok Tryz.func60 rfl (by kernel_rfl) rfl rfl (Nat.le_of_ble_eq_true rfl) ?_
  (repeat' (first|((first|refine Zg ?_|refine Zn ?_|refine Zc ?_|refine Zu fun b hb=>?_|refine Zy (h _) ?_);conv=>whnf)|(refine Zb ?_ ?_<;>(intro h;first|exact Zx|conv=>whnf))))
  all_goals (repeat' (first|exact Zrq|exact Zi (by unfold cmpI; first|rw [if_pos (by omega)]|rw [if_neg (by omega), if_pos (by omega)]|rw [if_neg (by omega), if_neg (by omega)])|exact Zo (h := by unfold cmpI; first|rw [if_pos (by omega)]|rw [if_neg (by omega), if_pos (by omega)]|rw [if_neg (by omega), if_neg (by omega)])|refine ResLe.agg ?_|refine And.intro ?_ ?_|((conv=>whnf); first|exact Zrq|exact Zi (by unfold cmpI; first|rw [if_pos (by omega)]|rw [if_neg (by omega), if_pos (by omega)]|rw [if_neg (by omega), if_neg (by omega)])|exact Zo (h := by unfold cmpI; first|rw [if_pos (by omega)]|rw [if_neg (by omega), if_pos (by omega)]|rw [if_neg (by omega), if_neg (by omega)])|refine ResLe.agg ?_|refine And.intro ?_ ?_)))
theorem cmp_t (a b : Int) : ACalls XX 60 [iA a, iA b] (iA (cmpI a b)) := (cmp_d a b).undr
def orL (L : List Int) : Int := (L.find? fun x => decide (x ≠ 0)).getD 0
theorem orL_at {L : List Int} {k : Nat} (hk : k < L.length) (h : ∀ i, i < k → L.getD i 0 = 0) (hx : L.getD k 0 ≠ 0) : orL L = L.getD k 0 := by
  induction L generalizing k with
  | nil => simp at hk
  | cons a l ih =>
    unfold orL
    by_cases ha : a = 0
    · subst ha
      cases k with
      | zero => simp at hx
      | succ k =>
        have := ih (k := k) (by simpa using hk) (fun i hi => by simpa using h (i + 1) (by omega)) (by simpa using hx)
        unfold orL at this
        simpa using this
    · cases k with
      | zero => simp [ha]
      | succ k => exact absurd (by simpa using h 0 (by omega)) ha
theorem orL_none {L : List Int} (h : ∀ i, i < L.length → L.getD i 0 = 0) : orL L = 0 := by
  induction L with
  | nil => rfl
  | cons a l ih =>
    have h0 : a = 0 := by simpa using h 0 (by simp)
    subst h0
    have := ih fun i hi => by simpa using h (i + 1) (by simp; omega)
    unfold orL at this ⊢
    simpa using this
theorem or_d (L : List Int) (hL : L.length ≤ 1000000) : ACalls XD 111 [.dat (ilst L)] (iA (orL L)) := by
  refine ACalls.of (n := Tryz.f111.ntmps) XD_ok Tryz.func111 rfl (by kernel_rfl) rfl rfl (Nat.le_of_ble_eq_true rfl) ?_
  (repeat' (first|((first|refine Zg ?_|refine Zn ?_|refine Zc ?_|refine Zu fun b hb=>?_);conv=>whnf)|(refine Zb ?_ ?_<;>(intro h;first|exact Zx|conv=>whnf))))
  refine (W.loopK (ι := Nat) [3, 6, 7] [] (fun k => [(8, iA k)]) (fun _ => []) (fun k => k ≤ L.length ∧ ∀ i, i < k → L.getD i 0 = 0) (fun k => L.length - k) 0 ⟨Nat.zero_le _, fun i hi => absurd hi (by omega)⟩ ?_ ?_ ?_)
  · exact Yz
  · exact Yz
  conv => whnf
  intro k ⟨hk, hz⟩
  (repeat' (first|((first|refine Zg ?_|refine Zn ?_|refine Zc ?_|refine Zu fun b hb=>?_);conv=>whnf)|(refine Zb ?_ ?_<;>(intro h;first|exact Zx|conv=>whnf))))
  all_goals (try dsimp only [Int.toNat_natCast] at *)
  · (repeat' (first|exact Zrq|exact Zi (by exact (orL_at (k := k) (by omega) hz (by omega)).symm)|exact Zo (h := by exact (orL_at (k := k) (by omega) hz (by omega)).symm)|refine ResLe.agg ?_|refine And.intro ?_ ?_|((conv=>whnf); first|exact Zrq|exact Zi (by exact (orL_at (k := k) (by omega) hz (by omega)).symm)|exact Zo (h := by exact (orL_at (k := k) (by omega) hz (by omega)).symm)|refine ResLe.agg ?_|refine And.intro ?_ ?_)))
  · exact ⟨k + 1, ⟨by omega, fun i hi => by
      by_cases hik : i = k
      · subst hik; omega
      · exact hz i (by omega)⟩, by omega, ⟨AVle.refl _, trivial⟩, trivial, ⟨AVle.refl _, AVle.refl _, AVle.refl _, trivial⟩, trivial⟩
  · (repeat' (first|exact Zrq|exact Zi (by exact (orL_none (fun i hi => hz i (by omega))).symm)|exact Zo (h := by exact (orL_none (fun i hi => hz i (by omega))).symm)|refine ResLe.agg ?_|refine And.intro ?_ ?_|((conv=>whnf); first|exact Zrq|exact Zi (by exact (orL_none (fun i hi => hz i (by omega))).symm)|exact Zo (h := by exact (orL_none (fun i hi => hz i (by omega))).symm)|refine ResLe.agg ?_|refine And.intro ?_ ?_)))

structure Sl where
  m : Int
  s : Int
  e : Int
  deriving Inhabited
abbrev slA (x : Sl) : AV := .agg [iA x.m, iA x.s, iA x.e]
def slE (x : Sl) (j : Nat) : D := match j with
  | 0 => .val (.int .i64 x.m)
  | 1 => .val (.int .i64 x.s)
  | _ => .val (.int .i64 x.e)
abbrev slD (us : List Sl) : D := .lst 3 us.length (rowF slE us)
structure Ch where
  m : Int
  u : Int
  a : Int
  deriving Inhabited
abbrev chA (x : Ch) : AV := .agg [iA x.m, iA x.u, iA x.a]
def chE (x : Ch) (j : Nat) : D := match j with
  | 0 => .val (.int .i64 x.m)
  | 1 => .val (.int .i64 x.u)
  | _ => .val (.int .i64 x.a)
abbrev chD (us : List Ch) : D := .lst 3 us.length (rowF chE us)
def slOk (x : Sl) : Prop := 1 ≤ x.m ∧ x.m ≤ 1000000 ∧ 0 ≤ x.s ∧ x.s < x.e ∧ x.e ≤ 1000000000
instance (x : Sl) : Decidable (slOk x) := by unfold slOk; exact inferInstance
theorem validSlice_t (x : Sl) : ACalls XX 70 [slA x] (bA (decide (slOk x))) := by
  refine ACalls.of (n := Tryz.f70.ntmps) XX_ok Tryz.func70 rfl (by kernel_rfl) rfl rfl (Nat.le_of_ble_eq_true rfl) ?_
  (repeat' (first|((first|refine Zg ?_|refine Zn ?_|refine Zc ?_|refine Zu fun b hb=>?_);conv=>whnf)|(refine Zb ?_ ?_<;>(intro h;first|exact Zx|conv=>whnf))))
  all_goals (repeat' (first|exact Zrq|exact Zi (by unfold slOk; omega)|exact Zo (h := by unfold slOk; omega)|refine ResLe.agg ?_|refine And.intro ?_ ?_|((conv=>whnf); first|exact Zrq|exact Zi (by unfold slOk; omega)|exact Zo (h := by unfold slOk; omega)|refine ResLe.agg ?_|refine And.intro ?_ ?_)))
def slCf (x y : Sl) : Int := orL [cmpI x.m y.m, cmpI x.s y.s]
theorem overlap1_d (x y : Sl) : ACalls XD 110 [slA x, slA y] (iA (slCf x y)) := by
  have k := or_d [cmpI x.m y.m, cmpI x.s y.s] (by simp)
  refine ACalls.of (n := Tryz.f110.ntmps) XD_ok Tryz.func110 rfl (by kernel_rfl) rfl rfl (Nat.le_of_ble_eq_true rfl) ?_
  (repeat' (first|((first|refine Zg ?_|refine Zt dr110 ?_|refine Zn ?_|refine Zc ?_|refine Zu fun b hb=>?_|refine Zy (cmp_d _ _) ?_|refine Zz (cmp_d _ _) ?_);conv=>whnf)|(refine Zb ?_ ?_<;>(intro h;first|exact Zx|conv=>whnf))))
  refine CallK.by (CallA.plain k ⟨ArgLe.own rfl (Nat.le_refl _) (fun i hi j hj => ?_), trivial⟩ rfl) ?_
  · obtain rfl : j = 0 := by omega
    rcases i with _|_|i
    · exact Dle.of_eq rfl
    · exact Dle.of_eq rfl
    · exact absurd hi (by have : [cmpI x.m y.m, cmpI x.s y.s].length = 2 := rfl; omega)
  conv => whnf
  (repeat' (first|((first|refine Zg ?_|refine Zt dr110 ?_|refine Zn ?_|refine Zc ?_|refine Zu fun b hb=>?_);conv=>whnf)|(refine Zb ?_ ?_<;>(intro h;first|exact Zx|conv=>whnf))))
  all_goals exact Zrz

end Go.Proofs.YtacpjihbbmoolaaGreatDoor

namespace Go.Proofs.YtacpjihbbmoolaaGreatDoor
open Go Go.RowKit
set_option linter.unusedVariables false
set_option linter.unusedSimpArgs false
set_option maxRecDepth 100000
set_option maxHeartbeats 4000000
attribute [local irreducible] ResLe AVle ArgLe ArgP EntLe Dle ResH ArgQ

abbrev llD (ls : List (List Sl)) : D := .lst 1 ls.length fun i _ => slD (ls.getD i [])
theorem flat_snoc (ls : List (List Sl)) (k : Nat) (h : k < ls.length) : (ls.take (k + 1)).flatten = (ls.take k).flatten ++ ls.getD k [] := by
  rw [List.take_succ_eq_append_getElem h, List.flatten_append, List.getD_eq_getElem?_getD, List.getElem?_eq_getElem h]
  simp
theorem flat_le (ls : List (List Sl)) (k : Nat) : (ls.take k).flatten.length ≤ ls.flatten.length := by
  conv => rhs; rw [← List.take_append_drop k ls]
  rw [List.flatten_append, List.length_append]
  omega
theorem growS_h (n : Nat) (hn : n ≤ 100000) : HC XX 135 [.dat (.val (.slice none 0 0)), iA n] [] (.own 24 3 0 0) [(24, .row 63 3 0 (rowF slE []))] (some 24) := by
  obtain ⟨i0, hi0, e1, e2, e3⟩ : ∃ i0 : TypeInfo, Tryz.prog.info? 63 = some i0 ∧ i0.size = 3 ∧ i0.bytes = 24 ∧ ∃ z, i0.zero = some z ∧ z.cells.size = 3 := ⟨_, rfl, rfl, rfl, _, rfl, rfl⟩
  obtain ⟨z, e3, e4⟩ := e3
  exact grow_h (X := XX) Tryz.grow135 rfl ⟨_, Tryz.func135, rfl, rfl⟩ rfl hi0 e3 e4 e1 (Nat.zero_lt_succ 2) n (by rw [e2]; omega) (by omega) _
theorem concat_h (ls : List (List Sl)) (hL : ls.length ≤ 100000) (hn : ls.flatten.length ≤ 100000) :
    HC XX 108 [.dat (llD ls)] [] (.own 24 3 0 ls.flatten.length) [(24, .row 63 3 ls.flatten.length (rowF slE ls.flatten))] (some 24) := by
  refine HC.of (n := Tryz.f108.ntmps) XX_ok Tryz.func108 rfl (by kernel_rfl) rfl rfl (Nat.le_of_ble_eq_true rfl) rfl rfl ?_
  (repeat' (first|((first|refine Zg ?_|refine Zn ?_|refine Zc ?_|refine Zu fun b hb=>?_);conv=>whnf)|(refine Zb ?_ ?_<;>(intro h;first|exact Zx|conv=>whnf))))
  refine (W.loopK (ι := Nat) [0, 9, 10] [] (fun k => [(11, iA k), (3, iA (ls.take k).flatten.length)]) (fun _ => []) (fun k => k ≤ ls.length) (fun k => ls.length - k) 0 (Nat.zero_le _) ?_ ?_ ?_)
  · exact Yz
  · exact Yz
  conv => whnf
  intro k hk
  have hf := flat_le ls k
  by_cases hk' : k < ls.length
  · have hf1 := flat_le ls (k + 1)
    have hs := flat_snoc ls k hk'
    have hlen : (ls.take (k + 1)).flatten.length = (ls.take k).flatten.length + (ls.getD k []).length := by rw [hs, List.length_append]
    (repeat' (first|((first|refine Zg ?_|refine Zn ?_|refine Zc ?_|refine Zu fun b hb=>?_);conv=>whnf)|(refine Zb ?_ ?_<;>(intro h;first|exact Zx|conv=>whnf))))
    all_goals (try dsimp only [Int.toNat_natCast] at *)
    (repeat' (first|((first|refine Zg ?_|refine Zn ?_|refine Zc ?_|refine Zu fun b hb=>?_);conv=>whnf)|(refine Zb ?_ ?_<;>(intro h;first|exact Zx|conv=>whnf))))
    refine ⟨k + 1, by omega, by omega, ?_, ?_, ?_, ?_⟩ <;> (repeat' (first|exact Yq|refine ⟨_, rfl, Yb ?_, rfl⟩|refine ⟨_, rfl, Yw (by first|rfl|omega) ?_, rfl⟩|refine And.intro ?_ ?_))
  · have hke : k = ls.length := by omega
    subst hke
    (repeat' (first|((first|refine Zg ?_|refine Zn ?_|refine Zc ?_|refine Zu fun b hb=>?_);conv=>whnf)|(refine Zb ?_ ?_<;>(intro h;first|exact Zx|conv=>whnf))))
    simp only [List.take_length]
    refine ExCall.h [(24, 24)] rfl (growS_h ls.flatten.length (by omega)) rfl trivial ?_
    conv => whnf
    (repeat' (first|((first|refine Zg ?_|refine Zn ?_|refine Zc ?_|refine Zu fun b hb=>?_);conv=>whnf)|(refine Zb ?_ ?_<;>(intro h;first|exact Zx|conv=>whnf))))
    refine (W.loopK (ι := Nat) [25, 26] [] (fun k => [(27, iA k), (6, .own 24 3 0 (ls.take k).flatten.length)]) (fun k => [(24, .row 63 3 (ls.take k).flatten.length (rowF slE (ls.take k).flatten))]) (fun k => k ≤ ls.length) (fun k => ls.length - k) 0 (Nat.zero_le _) ?_ ?_ ?_)
    · exact Yz
    · exact Yz
    conv => whnf
    intro k hk
    have hf := flat_le ls k
    by_cases hk' : k < ls.length
    · have hf1 := flat_le ls (k + 1)
      have hs := flat_snoc ls k hk'
      have hlen : (ls.take (k + 1)).flatten.length = (ls.take k).flatten.length + (ls.getD k []).length := by rw [hs, List.length_append]
      (repeat' (first|((first|refine Zg ?_|refine Zn ?_|refine Zc ?_|refine Zu fun b hb=>?_);conv=>whnf)|(refine Zb ?_ ?_<;>(intro h;first|exact Zx|conv=>whnf))))
      all_goals (try dsimp only [Int.toNat_natCast] at *)
      (repeat' (first|((first|refine Zg ?_|refine Zn ?_|refine Zc ?_|refine Zu fun b hb=>?_);conv=>whnf)|(refine Zb ?_ ?_<;>(intro h;first|exact Zx|conv=>whnf))))
      refine ⟨k + 1, by omega, by omega, ?_, ?_, ?_, ?_⟩ <;> (repeat' (first|exact Yq|refine ⟨_, rfl, Yb ?_, rfl⟩|refine ⟨_, rfl, Yw (by first|rfl|omega) ?_, rfl⟩|refine And.intro ?_ ?_))
      all_goals (rw [hs]; exact rowF_app rfl fun i hi j hj => Dle.refl _)
    · have hke : k = ls.length := by omega
      subst hke
      simp only [List.take_length]
      (repeat' (first|((first|refine Zg ?_|refine Zn ?_|refine Zc ?_|refine Zu fun b hb=>?_);conv=>whnf)|(refine Zb ?_ ?_<;>(intro h;first|exact Zx|conv=>whnf))))
      all_goals (conv=>whnf); (repeat' (first|exact Zhq|refine ResH.agg ?_|refine ⟨_, rfl, EntLe.blk ?_, rfl⟩|refine ⟨_, rfl, EntLe.row (by first|rfl|omega) ?_, rfl⟩|refine And.intro ?_ ?_|((conv=>whnf); first|exact Zhq|refine ResH.agg ?_)))

def cfL (us : List Sl) (i j : Nat) : Int := slCf (us.getD i default) (us.getD j default)
def srt (us : List Sl) (i : Nat) : Sl := us.getD (sortAt us.length (cfL us) i) default
theorem slCf_neg (x y : Sl) : slCf x y < 0 ↔ (x.m < y.m ∨ (x.m = y.m ∧ x.s < y.s)) := by
  unfold slCf orL cmpI
  by_cases h1 : x.m < y.m
  · simp [h1]
  · by_cases h2 : y.m < x.m
    · simp [h1, h2]; omega
    · have : x.m = y.m := by omega
      by_cases h3 : x.s < y.s
      · simp [this, h3]
      · by_cases h4 : y.s < x.s
        · simp [this, h3, h4]
        · simp [this, h3, h4]
theorem cfL_swo (us : List Sl) : Go.Sort.SWO (ltOf (cfL us)) := by
  refine ⟨fun x => ?_, fun x y z => ?_, fun x y z => ?_⟩ <;> unfold ltOf cfL <;> simp only [slCf_neg, decide_eq_true_eq, decide_eq_false_iff_not] <;> omega
theorem sortS_h (us : List Sl) (hn : us.length ≤ 100000) :
    HC XX 109 [.own 5000 3 0 us.length, .dat (.val (.func (.func 110) #[] #[]))] [(5000, .row 63 3 us.length (rowF slE us))] (.tup []) [(5000, .row 63 3 us.length fun i j => slE (srt us i) j)] none :=
  sort_h (X := XX) (cf := cfL us) Tryz.sort109 rfl ⟨_, Tryz.func109, rfl, rfl⟩ Tryz.isAgg63 Tryz.sizeOf63
    (enters_of Tryz.func110 (by kernel_rfl) rfl) (cfL_swo us) (by omega) (by omega) (fun i j hi hj => overlap1_d (us.getD i default) (us.getD j default))
def ovl (us : List Sl) : Prop := ∃ i, i + 1 < us.length ∧ (srt us (i + 1)).m = (srt us i).m ∧ (srt us (i + 1)).s < (srt us i).e
noncomputable instance (us : List Sl) : Decidable (ovl us) := Classical.propDecidable _
theorem overlap_t (ls : List (List Sl)) (hL : ls.length ≤ 100000) (hn : ls.flatten.length ≤ 100000) : ACalls XX 72 [.dat (llD ls)] (bA (decide (ovl ls.flatten))) := by
  have k1 := concat_h ls hL hn
  have k2 := sortS_h ls.flatten hn
  generalize ls.flatten = us at k1 k2 hn ⊢
  refine ACalls.of (n := Tryz.f72.ntmps) XX_ok Tryz.func72 rfl (by kernel_rfl) rfl rfl (Nat.le_of_ble_eq_true rfl) ?_
  (repeat' (first|((first|refine Zg ?_|refine Zt dr72 ?_|refine Zn ?_|refine Zc ?_|refine Zu fun b hb=>?_);conv=>whnf)|(refine Zb ?_ ?_<;>(intro h;first|exact Zx|conv=>whnf))))
  refine ExCall.h [(24, 6)] rfl k1 rfl trivial ?_
  conv => whnf
  (repeat' (first|((first|refine Zg ?_|refine Zt dr72 ?_|refine Zn ?_|refine Zc ?_|refine Zu fun b hb=>?_|refine ExCall.h [(5000, 6)] rfl k2 rfl ⟨rfl, trivial⟩ ?_|refine CallK.h [(5000, 6)] rfl k2 rfl rfl ⟨rfl, trivial⟩ rfl rfl ?_);conv=>whnf)|(refine Zb ?_ ?_<;>(intro h;first|exact Zx|conv=>whnf))))
  refine (W.loopK (ι := Nat) [3] [6] (fun k => [(4, iA (1 + k))]) (fun _ => []) (fun k => (k = 0 ∨ k + 1 ≤ us.length) ∧ ∀ i, i < k → ¬ ((srt us (i + 1)).m = (srt us i).m ∧ (srt us (i + 1)).s < (srt us i).e)) (fun k => us.length - k) 0 ⟨.inl rfl, fun i hi => absurd hi (by omega)⟩ ?_ ?_ ?_)
  · exact Yz
  · exact Yz
  conv => whnf
  intro k ⟨hk, hz⟩
  have hu : ¬ k + 1 < us.length → ¬ ovl us := fun h ⟨i, h1, h2⟩ => hz i (by omega) h2
  have hv : k + 1 < us.length → (srt us (k + 1)).m = (srt us k).m → (srt us (k + 1)).s < (srt us k).e → ovl us := fun h1 h2 h3 => ⟨k, h1, h2, h3⟩
  (repeat' (first|((first|refine Zg ?_|refine Zt dr72 ?_|refine Zn ?_|refine Zc ?_|refine Zu fun b hb=>?_);conv=>whnf)|(refine Zb ?_ ?_<;>(intro h;first|exact Zx|conv=>whnf))))
  all_goals (try rw [show (1 + (k : Int)).toNat = k + 1 by omega, show (1 + (k : Int) - 1).toNat = k by omega] at *)
  (repeat' (first|((first|refine Zg ?_|refine Zt dr72 ?_|refine Zn ?_|refine Zc ?_|refine Zu fun b hb=>?_);conv=>whnf)|(refine Zb ?_ ?_<;>(intro h;first|exact Zx|conv=>whnf))))
  all_goals (try simp only [Nat.zero_add] at *)
  all_goals first|((repeat' (first|exact Zrq|exact Zi (by exact hv (by omega) (by omega) (by omega))|exact Zo (h := by exact hv (by omega) (by omega) (by omega))|refine ResLe.agg ?_|refine And.intro ?_ ?_|((conv=>whnf); first|exact Zrq|exact Zi (by exact hv (by omega) (by omega) (by omega))|exact Zo (h := by exact hv (by omega) (by omega) (by omega))|refine ResLe.agg ?_|refine And.intro ?_ ?_))); done)|((repeat' (first|exact Zrq|exact Zi (by exact hu (by omega))|exact Zo (h := by exact hu (by omega))|refine ResLe.agg ?_|refine And.intro ?_ ?_|((conv=>whnf); first|exact Zrq|exact Zi (by exact hu (by omega))|exact Zo (h := by exact hu (by omega))|refine ResLe.agg ?_|refine And.intro ?_ ?_))); done)|(refine ⟨k + 1, ⟨by omega, fun i hi => by
      rcases Nat.lt_or_ge i k with hik|hik
      · exact hz i hik
      · obtain rfl : i = k := by omega
        omega⟩, by omega, ?_, ?_, ?_, ?_⟩ <;> (repeat' (first|exact Yq|refine ⟨_, rfl, Yb ?_, rfl⟩|refine ⟨_, rfl, Yw (by first|rfl|omega) ?_, rfl⟩|refine And.intro ?_ ?_)))

end Go.Proofs.YtacpjihbbmoolaaGreatDoor

namespace Go.Proofs.YtacpjihbbmoolaaGreatDoor
open Go Go.RowKit
set_option linter.unusedVariables false
set_option linter.unusedSimpArgs false
set_option maxRecDepth 100000
set_option maxHeartbeats 4000000
attribute [local irreducible] ResLe AVle ArgLe ArgP EntLe Dle ResH ArgQ

theorem getD_in {α : Type} [Inhabited α] {us : List α} {k : Nat} (h : k < us.length) : us.getD k default ∈ us := by
  rw [List.getD_eq_getElem?_getD, List.getElem?_eq_getElem h]; exact List.getElem_mem _
theorem all_getD {α : Type} [Inhabited α] {us : List α} {p : α → Prop} : (∀ x ∈ us, p x) ↔ ∀ i, i < us.length → p (us.getD i default) := by
  refine ⟨fun h i hi => h _ (getD_in hi), fun h x hx => ?_⟩
  obtain ⟨i, hi, rfl⟩ := List.getElem_of_mem hx
  have := h i hi
  rwa [List.getD_eq_getElem?_getD, List.getElem?_eq_getElem hi] at this
noncomputable def lotErr (us : List Sl) : Int := if 64 < us.length then 8 else if ¬ (∀ x ∈ us, slOk x) then 2 else if ovl us then 13 else 0
theorem valid_t (us : List Sl) (hL : us.length ≤ 9223372036854775807) : ACalls XX 38 [.dat (slD us)] (iA (lotErr us)) := by
  refine ACalls.of (n := Tryz.f38.ntmps) XX_ok Tryz.func38 rfl (by kernel_rfl) rfl rfl (Nat.le_of_ble_eq_true rfl) ?_
  (repeat' (first|((first|refine Zg ?_|refine Zn ?_|refine Zc ?_|refine Zu fun b hb=>?_);conv=>whnf)|(refine Zb ?_ ?_<;>(intro h;first|exact Zx|conv=>whnf))))
  · (repeat' (first|exact Zrq|exact Zi (by unfold lotErr; rw [if_pos (by omega)])|exact Zo (h := by unfold lotErr; rw [if_pos (by omega)])|refine ResLe.agg ?_|refine And.intro ?_ ?_|((conv=>whnf); first|exact Zrq|exact Zi (by unfold lotErr; rw [if_pos (by omega)])|exact Zo (h := by unfold lotErr; rw [if_pos (by omega)])|refine ResLe.agg ?_|refine And.intro ?_ ?_)))
  have hl : us.length ≤ 64 := by omega
  refine (W.loopK (ι := Nat) [0, 8, 9] [] (fun k => [(10, iA k)]) (fun _ => []) (fun k => k ≤ us.length ∧ ∀ i, i < k → slOk (us.getD i default)) (fun k => us.length - k) 0 ⟨Nat.zero_le _, fun i hi => absurd hi (by omega)⟩ ?_ ?_ ?_)
  · exact Yz
  · exact Yz
  conv => whnf
  intro k ⟨hk, hz⟩
  have hv := validSlice_t (us.getD k default)
  (repeat' (first|((first|refine Zg ?_|refine Zn ?_|refine Zc ?_|refine Zu fun b hb=>?_|refine Zy hv ?_);conv=>whnf)|(refine Zb ?_ ?_<;>(intro h;first|exact Zx|conv=>whnf))))
  all_goals (try dsimp only [Int.toNat_natCast] at *)
  (repeat' (first|((first|refine Zg ?_|refine Zn ?_|refine Zc ?_|refine Zu fun b hb=>?_|refine Zy hv ?_);conv=>whnf)|(refine Zb ?_ ?_<;>(intro h;first|exact Zx|conv=>whnf))))
  · have hn : ¬ ∀ x ∈ us, slOk x := fun ha => by
      have := ha _ (getD_in (k := k) (by omega))
      simp_all
    (repeat' (first|exact Zrq|exact Zi (by unfold lotErr; rw [if_neg (by omega), if_pos hn])|exact Zo (h := by unfold lotErr; rw [if_neg (by omega), if_pos hn])|refine ResLe.agg ?_|refine And.intro ?_ ?_|((conv=>whnf); first|exact Zrq|exact Zi (by unfold lotErr; rw [if_neg (by omega), if_pos hn])|exact Zo (h := by unfold lotErr; rw [if_neg (by omega), if_pos hn])|refine ResLe.agg ?_|refine And.intro ?_ ?_)))
  · refine ⟨k + 1, ⟨by omega, fun i hi => ?_⟩, by omega, ?_, ?_, ?_, ?_⟩
    · by_cases hik : i = k
      · subst hik; simp_all
      · exact hz i (by omega)
    all_goals exact Yz
  · have ha : ∀ x ∈ us, slOk x := all_getD.2 fun i hi => hz i (by omega)
    have ho := overlap_t [us] (by simp) (by simp; omega)
    rw [List.flatten_singleton] at ho
    refine ExCall.by (CallA.plain ho ⟨ArgLe.own rfl (Nat.le_refl _) (fun i hi j hj => ?_), trivial⟩ rfl) ?_
    · obtain rfl : i = 0 := by simp at hi; omega
      obtain rfl : j = 0 := by omega
      exact Dle.refl _
    conv => whnf
    (repeat' (first|((first|refine Zg ?_|refine Zn ?_|refine Zc ?_|refine Zu fun b hb=>?_);conv=>whnf)|(refine Zb ?_ ?_<;>(intro h;first|exact Zx|conv=>whnf))))
    · (repeat' (first|exact Zrq|exact Zi (by unfold lotErr; rw [if_neg (by omega), if_neg (by simpa using ha), if_pos (by simpa using h)])|exact Zo (h := by unfold lotErr; rw [if_neg (by omega), if_neg (by simpa using ha), if_pos (by simpa using h)])|refine ResLe.agg ?_|refine And.intro ?_ ?_|((conv=>whnf); first|exact Zrq|exact Zi (by unfold lotErr; rw [if_neg (by omega), if_neg (by simpa using ha), if_pos (by simpa using h)])|exact Zo (h := by unfold lotErr; rw [if_neg (by omega), if_neg (by simpa using ha), if_pos (by simpa using h)])|refine ResLe.agg ?_|refine And.intro ?_ ?_)))
    · (repeat' (first|exact Zrq|exact Zi (by unfold lotErr; rw [if_neg (by omega), if_neg (by simpa using ha), if_neg (by simpa using h)])|exact Zo (h := by unfold lotErr; rw [if_neg (by omega), if_neg (by simpa using ha), if_neg (by simpa using h)])|refine ResLe.agg ?_|refine And.intro ?_ ?_|((conv=>whnf); first|exact Zrq|exact Zi (by unfold lotErr; rw [if_neg (by omega), if_neg (by simpa using ha), if_neg (by simpa using h)])|exact Zo (h := by unfold lotErr; rw [if_neg (by omega), if_neg (by simpa using ha), if_neg (by simpa using h)])|refine ResLe.agg ?_|refine And.intro ?_ ?_)))

end Go.Proofs.YtacpjihbbmoolaaGreatDoor

namespace Go.Proofs.YtacpjihbbmoolaaGreatDoor
open Go Go.RowKit
set_option linter.unusedVariables false
set_option linter.unusedSimpArgs false
set_option maxRecDepth 100000
set_option maxHeartbeats 4000000
attribute [local irreducible] ResLe AVle ArgLe ArgP EntLe Dle ResH ArgQ

def meets (x y : Sl) : Prop := x.m = y.m ∧ x.s < y.e ∧ y.s < x.e
instance (x y : Sl) : Decidable (meets x y) := by unfold meets; exact inferInstance
def anyMeet (us : List Sl) : Prop := ∃ i j, i < j ∧ j < us.length ∧ meets (us.getD i default) (us.getD j default)
noncomputable instance (us : List Sl) : Decidable (anyMeet us) := Classical.propDecidable _
theorem sortAt_inj {n : Nat} {cf : Nat → Nat → Int} (h : Go.Sort.SWO (ltOf cf)) {i j : Nat} (hi : i < n) (hj : j < n) (he : sortAt n cf i = sortAt n cf j) : i = j := by
  have hn : ((List.range n).map (sortAt n cf)).Nodup := (sortAt_perm h).nodup_iff.2 List.nodup_range
  have hp := List.pairwise_iff_getElem.1 hn
  rcases Nat.lt_trichotomy i j with hlt|heq|hgt
  · exact absurd (by rw [List.getElem_map, List.getElem_map, List.getElem_range, List.getElem_range]; exact he) (hp i j (by simpa using hi) (by simpa using hj) hlt)
  · exact heq
  · exact absurd (by rw [List.getElem_map, List.getElem_map, List.getElem_range, List.getElem_range]; exact he.symm) (hp j i (by simpa using hj) (by simpa using hi) hgt)
theorem sortAt_sur {n : Nat} {cf : Nat → Nat → Int} (h : Go.Sort.SWO (ltOf cf)) {a : Nat} (ha : a < n) : ∃ i, i < n ∧ sortAt n cf i = a := by
  have := (sortAt_perm (n := n) h).mem_iff.2 (List.mem_range.2 ha)
  obtain ⟨i, hi, he⟩ := List.mem_map.1 this
  exact ⟨i, List.mem_range.1 hi, he⟩
theorem srt_le (us : List Sl) {i j : Nat} (hij : i < j) (hj : j < us.length) : (srt us i).m < (srt us j).m ∨ ((srt us i).m = (srt us j).m ∧ (srt us i).s ≤ (srt us j).s) := by
  have h : ¬ slCf (srt us j) (srt us i) < 0 := sortAt_le (cfL_swo us) hij hj
  rw [slCf_neg] at h
  omega
theorem ovl_iff (us : List Sl) (hv : ∀ x ∈ us, slOk x) : ovl us ↔ anyMeet us := by
  have hS := cfL_swo us
  constructor
  · rintro ⟨i, hi, hm, hs⟩
    have h1 := srt_le us (i := i) (j := i + 1) (by omega) hi
    have l1 := sortAt_lt hS (show i < us.length by omega)
    have l2 := sortAt_lt hS hi
    have hne : sortAt us.length (cfL us) i ≠ sortAt us.length (cfL us) (i + 1) := fun e => by
      have := sortAt_inj hS (by omega) hi e
      omega
    have v1 := hv _ (getD_in l1)
    have v2 := hv _ (getD_in l2)
    unfold slOk at v1 v2
    have hmt : meets (srt us i) (srt us (i + 1)) := by
      unfold meets
      unfold srt at *
      omega
    rcases Nat.lt_or_gt_of_ne hne with h|h
    · exact ⟨_, _, h, l2, hmt⟩
    · refine ⟨_, _, h, l1, ?_⟩
      unfold meets at hmt ⊢
      unfold srt at hmt
      omega
  · rintro ⟨a, b, hab, hb, hm⟩
    obtain ⟨i, hi, rfl⟩ := sortAt_sur hS (show a < us.length by omega)
    obtain ⟨j, hj, rfl⟩ := sortAt_sur hS hb
    have hm : meets (srt us i) (srt us j) := hm
    unfold meets at hm
    have key : ∀ i j, i < j → j < us.length → (srt us i).m = (srt us j).m → (srt us j).s < (srt us i).e → ovl us := fun i j hij hj e1 e2 => by
      refine ⟨i, by omega, ?_⟩
      have h1 := srt_le us (i := i) (j := i + 1) (by omega) (by omega)
      rcases Nat.lt_or_ge (i + 1) j with h|h
      · have h2 := srt_le us h hj
        omega
      · obtain rfl : j = i + 1 := by omega
        omega
    rcases Nat.lt_trichotomy i j with h|h|h
    · exact key i j h hj hm.1 hm.2.2
    · subst h; omega
    · exact key j i h hi hm.1.symm hm.2.1
theorem goodSlice_t (x : Sl) : ACalls XX 116 [slA x] (bA (decide (slOk x))) := by
  refine ACalls.of (n := Tryz.f116.ntmps) XX_ok Tryz.func116 rfl (by kernel_rfl) rfl rfl (Nat.le_of_ble_eq_true rfl) ?_
  (repeat' (first|((first|refine Zg ?_|refine Zn ?_|refine Zc ?_|refine Zu fun b hb=>?_);conv=>whnf)|(refine Zb ?_ ?_<;>(intro h;first|exact Zx|conv=>whnf))))
  all_goals (repeat' (first|exact Zrq|exact Zi (by unfold slOk; omega)|exact Zo (h := by unfold slOk; omega)|refine ResLe.agg ?_|refine And.intro ?_ ?_|((conv=>whnf); first|exact Zrq|exact Zi (by unfold slOk; omega)|exact Zo (h := by unfold slOk; omega)|refine ResLe.agg ?_|refine And.intro ?_ ?_)))
theorem meet_t (x y : Sl) : ACalls XX 145 [slA x, slA y] (bA (decide (meets x y))) := by
  refine ACalls.of (n := Tryz.f145.ntmps) XX_ok Tryz.func145 rfl (by kernel_rfl) rfl rfl (Nat.le_of_ble_eq_true rfl) ?_
  (repeat' (first|((first|refine Zg ?_|refine Zn ?_|refine Zc ?_|refine Zu fun b hb=>?_);conv=>whnf)|(refine Zb ?_ ?_<;>(intro h;first|exact Zx|conv=>whnf))))
  all_goals (repeat' (first|exact Zrq|exact Zi (by unfold meets; omega)|exact Zo (h := by unfold meets; omega)|refine ResLe.agg ?_|refine And.intro ?_ ?_|((conv=>whnf); first|exact Zrq|exact Zi (by unfold meets; omega)|exact Zo (h := by unfold meets; omega)|refine ResLe.agg ?_|refine And.intro ?_ ?_)))
def meetAll (x : Sl) (vs : List Sl) : Prop := ∃ y ∈ vs, meets x y
instance (x : Sl) (vs : List Sl) : Decidable (meetAll x vs) := by unfold meetAll; exact inferInstance
theorem Meet_t (us vs : List Sl) (hu : us.length ≤ 1000) (hv : vs.length ≤ 1000) : ACalls XX 118 [.dat (slD us), .dat (slD vs)] (bA (decide (∃ x ∈ us, meetAll x vs))) := by
  refine ACalls.of (n := Tryz.f118.ntmps) XX_ok Tryz.func118 rfl (by kernel_rfl) rfl rfl (Nat.le_of_ble_eq_true rfl) ?_
  (repeat' (first|((first|refine Zg ?_|refine Zt dr118 ?_|refine Zn ?_|refine Zc ?_|refine Zu fun b hb=>?_);conv=>whnf)|(refine Zb ?_ ?_<;>(intro h;first|exact Zx|conv=>whnf))))
  refine (W.loopK (ι := Nat) [0, 1] [] (fun k => [(5, iA k)]) (fun _ => []) (fun k => k ≤ us.length ∧ ∀ i, i < k → ¬ meetAll (us.getD i default) vs) (fun k => us.length - k) 0 ⟨Nat.zero_le _, fun i hi => absurd hi (by omega)⟩ ?_ ?_ ?_)
  · exact Yz
  · exact Yz
  conv => whnf
  intro k ⟨hk, hz⟩
  by_cases hk' : k < us.length
  · (repeat' (first|((first|refine Zg ?_|refine Zt dr118 ?_|refine Zn ?_|refine Zc ?_|refine Zu fun b hb=>?_);conv=>whnf)|(refine Zb ?_ ?_<;>(intro h;first|exact Zx|conv=>whnf))))
    refine (W.loopK (ι := Nat) [0, 1, 5] [] (fun j => [(6, iA j)]) (fun _ => []) (fun j => j ≤ vs.length ∧ ∀ i, i < j → ¬ meets (us.getD k default) (vs.getD i default)) (fun j => vs.length - j) 0 ⟨Nat.zero_le _, fun i hi => absurd hi (by omega)⟩ ?_ ?_ ?_)
    · exact Yz
    · exact Yz
    conv => whnf
    intro j ⟨hj, hy⟩
    have hm := meet_t (us.getD k default) (vs.getD j default)
    by_cases hj' : j < vs.length
    · by_cases hq : meets (us.getD k default) (vs.getD j default)
      · rw [decide_eq_true hq] at hm
        have hres : ∃ x ∈ us, meetAll x vs := ⟨_, getD_in hk', _, getD_in hj', hq⟩
        (repeat' (first|((first|refine Zg ?_|refine Zt dr118 ?_|refine Zn ?_|refine Zc ?_|refine Zu fun b hb=>?_);conv=>whnf)|(refine Zb ?_ ?_<;>(intro h;first|exact Zx|conv=>whnf))))
        all_goals (try dsimp only [Int.toNat_natCast] at *)
        (repeat' (first|((first|refine Zg ?_|refine Zt dr118 ?_|refine Zn ?_|refine Zc ?_|refine Zu fun b hb=>?_|refine Zy hm ?_|refine Zz hm ?_);conv=>whnf)|(refine Zb ?_ ?_<;>(intro h;first|exact Zx|conv=>whnf))))
        all_goals (repeat' (first|exact Zrq|exact Zi (by exact hres)|exact Zo (h := by exact hres)|refine ResLe.agg ?_|refine And.intro ?_ ?_|((conv=>whnf); first|exact Zrq|exact Zi (by exact hres)|exact Zo (h := by exact hres)|refine ResLe.agg ?_|refine And.intro ?_ ?_)))
      · rw [decide_eq_false hq] at hm
        (repeat' (first|((first|refine Zg ?_|refine Zt dr118 ?_|refine Zn ?_|refine Zc ?_|refine Zu fun b hb=>?_);conv=>whnf)|(refine Zb ?_ ?_<;>(intro h;first|exact Zx|conv=>whnf))))
        all_goals (try dsimp only [Int.toNat_natCast] at *)
        (repeat' (first|((first|refine Zg ?_|refine Zt dr118 ?_|refine Zn ?_|refine Zc ?_|refine Zu fun b hb=>?_|refine Zy hm ?_|refine Zz hm ?_);conv=>whnf)|(refine Zb ?_ ?_<;>(intro h;first|exact Zx|conv=>whnf))))
        refine ⟨j + 1, ⟨by omega, fun i hi => ?_⟩, by omega, ?_, ?_, ?_, ?_⟩
        · by_cases hij : i = j
          · subst hij; exact hq
          · exact hy i (by omega)
        all_goals exact Yz
    · have hn : ¬ meetAll (us.getD k default) vs := fun ⟨y, hy1, hy2⟩ => by
        have := (all_getD (us := vs) (p := fun y => ¬ meets (us.getD k default) y)).2 (fun i hi => hy i (by omega)) y hy1
        exact this hy2
      (repeat' (first|((first|refine Zg ?_|refine Zt dr118 ?_|refine Zn ?_|refine Zc ?_|refine Zu fun b hb=>?_);conv=>whnf)|(refine Zb ?_ ?_<;>(intro h;first|exact Zx|conv=>whnf))))
      refine ⟨k + 1, ⟨by omega, fun i hi => ?_⟩, by omega, ?_, ?_, ?_, ?_⟩
      · by_cases hik : i = k
        · subst hik; exact hn
        · exact hz i (by omega)
      all_goals exact Yz
  · have hres : ¬ ∃ x ∈ us, meetAll x vs := fun ⟨x, hx1, hx2⟩ =>
      (all_getD (us := us) (p := fun x => ¬ meetAll x vs)).2 (fun i hi => hz i (by omega)) x hx1 hx2
    (repeat' (first|((first|refine Zg ?_|refine Zt dr118 ?_|refine Zn ?_|refine Zc ?_|refine Zu fun b hb=>?_);conv=>whnf)|(refine Zb ?_ ?_<;>(intro h;first|exact Zx|conv=>whnf))))
    all_goals (repeat' (first|exact Zrq|exact Zi (by exact hres)|exact Zo (h := by exact hres)|refine ResLe.agg ?_|refine And.intro ?_ ?_|((conv=>whnf); first|exact Zrq|exact Zi (by exact hres)|exact Zo (h := by exact hres)|refine ResLe.agg ?_|refine And.intro ?_ ?_)))
noncomputable def rlotErr (us : List Sl) : Int := if 64 < us.length then 8 else if ¬ (∀ x ∈ us, slOk x) then 2 else if anyMeet us then 13 else 0
theorem rlot_eq (us : List Sl) : rlotErr us = lotErr us := by
  unfold rlotErr lotErr
  by_cases h1 : 64 < us.length
  · rw [if_pos h1, if_pos h1]
  · rw [if_neg h1, if_neg h1]
    by_cases h2 : ∀ x ∈ us, slOk x
    · have h2' : ¬ ¬ ∀ x ∈ us, slOk x := Classical.not_not.2 h2
      rw [if_neg h2', if_neg h2']
      by_cases h3 : ovl us
      · rw [if_pos h3, if_pos ((ovl_iff us h2).1 h3)]
      · rw [if_neg h3, if_neg (fun h => h3 ((ovl_iff us h2).2 h))]
    · rw [if_pos h2, if_pos h2]
theorem meet_drop {us : List Sl} {k : Nat} : meetAll (us.getD k default) (us.drop (k + 1)) ↔ ∃ j, k < j ∧ j < us.length ∧ meets (us.getD k default) (us.getD j default) := by
  constructor
  · rintro ⟨y, hy, hm⟩
    obtain ⟨i, hi, rfl⟩ := List.getElem_of_mem hy
    have hi' : i < us.length - (k + 1) := by simpa using hi
    refine ⟨k + 1 + i, by omega, by omega, ?_⟩
    rw [List.getElem_drop] at hm
    rwa [List.getD_eq_getElem?_getD (i := k + 1 + i), List.getElem?_eq_getElem (by omega)]
  · rintro ⟨j, h1, h2, hm⟩
    refine ⟨us.getD j default, ?_, hm⟩
    have : us.getD j default = (us.drop (k + 1))[j - (k + 1)]'(by simp; omega) := by
      rw [List.getElem_drop, List.getD_eq_getElem?_getD, List.getElem?_eq_getElem (by omega)]
      simp [show k + 1 + (j - (k + 1)) = j by omega]
    rw [this]
    exact List.getElem_mem _
theorem rvalid_t (us : List Sl) (hL : us.length ≤ 9223372036854775807) : ACalls XX 117 [.dat (slD us)] (iA (lotErr us)) := by
  rw [← rlot_eq]
  refine ACalls.of (n := Tryz.f117.ntmps) XX_ok Tryz.func117 rfl (by kernel_rfl) rfl rfl (Nat.le_of_ble_eq_true rfl) ?_
  (repeat' (first|((first|refine Zg ?_|refine Zt dr117 ?_|refine Zn ?_|refine Zc ?_|refine Zu fun b hb=>?_);conv=>whnf)|(refine Zb ?_ ?_<;>(intro h;first|exact Zx|conv=>whnf))))
  · (repeat' (first|exact Zrq|exact Zi (by unfold rlotErr; rw [if_pos (by omega)])|exact Zo (h := by unfold rlotErr; rw [if_pos (by omega)])|refine ResLe.agg ?_|refine And.intro ?_ ?_|((conv=>whnf); first|exact Zrq|exact Zi (by unfold rlotErr; rw [if_pos (by omega)])|exact Zo (h := by unfold rlotErr; rw [if_pos (by omega)])|refine ResLe.agg ?_|refine And.intro ?_ ?_)))
  have hl : us.length ≤ 64 := by omega
  refine (W.loopK (ι := Nat) [0] [] (fun k => [(3, iA k)]) (fun _ => []) (fun k => k ≤ us.length ∧ ∀ i, i < k → slOk (us.getD i default)) (fun k => us.length - k) 0 ⟨Nat.zero_le _, fun i hi => absurd hi (by omega)⟩ ?_ ?_ ?_)
  · exact Yz
  · exact Yz
  conv => whnf
  intro k ⟨hk, hz⟩
  by_cases hk' : k < us.length
  · have hv := goodSlice_t (us.getD k default)
    by_cases hq : slOk (us.getD k default)
    · rw [decide_eq_true hq] at hv
      (repeat' (first|((first|refine Zg ?_|refine Zt dr117 ?_|refine Zn ?_|refine Zc ?_|refine Zu fun b hb=>?_);conv=>whnf)|(refine Zb ?_ ?_<;>(intro h;first|exact Zx|conv=>whnf))))
      all_goals (try dsimp only [Int.toNat_natCast] at *)
      (repeat' (first|((first|refine Zg ?_|refine Zt dr117 ?_|refine Zn ?_|refine Zc ?_|refine Zu fun b hb=>?_|refine Zy hv ?_|refine Zz hv ?_);conv=>whnf)|(refine Zb ?_ ?_<;>(intro h;first|exact Zx|conv=>whnf))))
      refine ⟨k + 1, ⟨by omega, fun i hi => ?_⟩, by omega, ?_, ?_, ?_, ?_⟩
      · by_cases hik : i = k
        · subst hik; exact hq
        · exact hz i (by omega)
      all_goals exact Yz
    · rw [decide_eq_false hq] at hv
      have hn : rlotErr us = 2 := by unfold rlotErr; rw [if_neg (by omega), if_pos (fun ha => hq (ha _ (getD_in hk')))]
      (repeat' (first|((first|refine Zg ?_|refine Zt dr117 ?_|refine Zn ?_|refine Zc ?_|refine Zu fun b hb=>?_);conv=>whnf)|(refine Zb ?_ ?_<;>(intro h;first|exact Zx|conv=>whnf))))
      all_goals (try dsimp only [Int.toNat_natCast] at *)
      (repeat' (first|((first|refine Zg ?_|refine Zt dr117 ?_|refine Zn ?_|refine Zc ?_|refine Zu fun b hb=>?_|refine Zy hv ?_|refine Zz hv ?_);conv=>whnf)|(refine Zb ?_ ?_<;>(intro h;first|exact Zx|conv=>whnf))))
      all_goals (repeat' (first|exact Zrq|exact Zi (by exact hn.symm)|exact Zo (h := by exact hn.symm)|refine ResLe.agg ?_|refine And.intro ?_ ?_|((conv=>whnf); first|exact Zrq|exact Zi (by exact hn.symm)|exact Zo (h := by exact hn.symm)|refine ResLe.agg ?_|refine And.intro ?_ ?_)))
  have ha : ∀ x ∈ us, slOk x := all_getD.2 fun i hi => hz i (by omega)
  (repeat' (first|((first|refine Zg ?_|refine Zt dr117 ?_|refine Zn ?_|refine Zc ?_|refine Zu fun b hb=>?_);conv=>whnf)|(refine Zb ?_ ?_<;>(intro h;first|exact Zx|conv=>whnf))))
  refine (W.loopK (ι := Nat) [0] [] (fun k => [(4, iA k)]) (fun _ => []) (fun k => k ≤ us.length ∧ ∀ i, i < k → ¬ meetAll (us.getD i default) (us.drop (i + 1))) (fun k => us.length - k) 0 ⟨Nat.zero_le _, fun i hi => absurd hi (by omega)⟩ ?_ ?_ ?_)
  · exact Yz
  · exact Yz
  conv => whnf
  intro j ⟨hj, hy⟩
  by_cases hj' : j < us.length
  · have hM := Meet_t [us.getD j default] (us.drop (j + 1)) (by simp) (by simp; omega)
    have e0 : (∃ x ∈ [us.getD j default], meetAll x (us.drop (j + 1))) ↔ meetAll (us.getD j default) (us.drop (j + 1)) := by simp
    have e1 : decide (∃ x ∈ [us.getD j default], meetAll x (us.drop (j + 1))) = decide (meetAll (us.getD j default) (us.drop (j + 1))) := decide_eq_decide.2 e0
    rw [e1] at hM
    (repeat' (first|((first|refine Zg ?_|refine Zt dr117 ?_|refine Zn ?_|refine Zc ?_|refine Zu fun b hb=>?_);conv=>whnf)|(refine Zb ?_ ?_<;>(intro h;first|exact Zx|conv=>whnf))))
    all_goals (try dsimp only [Int.toNat_natCast] at *)
    refine CallK.by (CallA.plain hM ⟨ArgLe.pure (AVle.dat (Dle.lst (by first|(simp; done)|(simp; omega)) fun i hi q hq => Dle.of_eq ?_)) rfl, ArgLe.pure (AVle.dat (Dle.lst (by first|(simp; done)|(simp; omega)) fun i hi q hq => Dle.of_eq ?_)) rfl, trivial⟩ rfl) ?_
    · obtain rfl : i = 0 := by omega
      simp [rowF]
    · unfold rowF
      rw [show ((j : Int) + 1).toNat = j + 1 by omega]
      simp [List.getD_eq_getElem?_getD, List.getElem?_drop]
    conv => whnf
    (repeat' (first|((first|refine Zg ?_|refine Zt dr117 ?_|refine Zn ?_|refine Zc ?_|refine Zu fun b hb=>?_);conv=>whnf)|(refine Zb ?_ ?_<;>(intro h;first|exact Zx|conv=>whnf))))
    · have hr : anyMeet us := by
        obtain ⟨b, h1, h2, h3⟩ := (meet_drop (us := us) (k := j)).1 (by assumption)
        exact ⟨j, b, h1, h2, h3⟩
      (repeat' (first|exact Zrq|exact Zi (by unfold rlotErr; rw [if_neg (by omega), if_neg (by simpa using ha), if_pos hr])|exact Zo (h := by unfold rlotErr; rw [if_neg (by omega), if_neg (by simpa using ha), if_pos hr])|refine ResLe.agg ?_|refine And.intro ?_ ?_|((conv=>whnf); first|exact Zrq|exact Zi (by unfold rlotErr; rw [if_neg (by omega), if_neg (by simpa using ha), if_pos hr])|exact Zo (h := by unfold rlotErr; rw [if_neg (by omega), if_neg (by simpa using ha), if_pos hr])|refine ResLe.agg ?_|refine And.intro ?_ ?_)))
    · have hy' : ∀ i, i < j + 1 → ¬ meetAll (us.getD i default) (us.drop (i + 1)) := fun i hi => by
        rcases Nat.lt_or_ge i j with hij|hij
        · exact hy i hij
        · obtain rfl : i = j := by omega
          assumption
      exact ⟨j + 1, ⟨by omega, hy'⟩, by omega, ⟨AVle.refl _, trivial⟩, trivial, ⟨AVle.refl _, trivial⟩, trivial⟩
  · have hres : ¬ anyMeet us := fun ⟨a, b, h1, h2, h3⟩ => hy a (by omega) (meet_drop.2 ⟨b, h1, h2, h3⟩)
    (repeat' (first|((first|refine Zg ?_|refine Zt dr117 ?_|refine Zn ?_|refine Zc ?_|refine Zu fun b hb=>?_);conv=>whnf)|(refine Zb ?_ ?_<;>(intro h;first|exact Zx|conv=>whnf))))
    all_goals (repeat' (first|exact Zrq|exact Zi (by unfold rlotErr; rw [if_neg (by omega), if_neg (by simpa using ha), if_neg hres])|exact Zo (h := by unfold rlotErr; rw [if_neg (by omega), if_neg (by simpa using ha), if_neg hres])|refine ResLe.agg ?_|refine And.intro ?_ ?_|((conv=>whnf); first|exact Zrq|exact Zi (by unfold rlotErr; rw [if_neg (by omega), if_neg (by simpa using ha), if_neg hres])|exact Zo (h := by unfold rlotErr; rw [if_neg (by omega), if_neg (by simpa using ha), if_neg hres])|refine ResLe.agg ?_|refine And.intro ?_ ?_)))

end Go.Proofs.YtacpjihbbmoolaaGreatDoor
