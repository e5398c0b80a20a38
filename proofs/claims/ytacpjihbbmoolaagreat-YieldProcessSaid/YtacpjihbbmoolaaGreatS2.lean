/- Slices of lots: joined, sorted, whether two meet; whether a lot is valid. -/
import Derived.Test.YtacpjihbbmoolaaGreatS1
import Derived.Test.YtacpjihbbmoolaaGreatVt
namespace Go.Proofs.YtacpjihbbmoolaaGreat
open Go Go.RowKit
set_option linter.unusedVariables false
set_option linter.unusedSimpArgs false
set_option maxRecDepth 100000
set_option maxHeartbeats 4000000
attribute [local irreducible] ResLe AVle ArgLe ArgP EntLe Dle ResH ArgQ

abbrev llD (ls : List (List Sl)) : D := .lst 1 ls.length fun i _ => slD (ls.getD i [])
theorem flat_snoc (ls : List (List Sl)) (k : Nat) (h : k < ls.length) : (ls.take (k + 1)).flatten = (ls.take k).flatten ++ ls.getD k [] := by
  rw [List.take_succ_eq_append_getElem h, List.flatten_append, List.getD_eq_getElem?_getD, List.getElem?_eq_getElem h]
  simp
theorem flat_le (ls : List (List Sl)) (k : Nat) : (ls.take k).flatten.length ≤ ls.flatten.length := by
  conv => rhs; rw [← List.take_append_drop k ls]
  rw [List.flatten_append, List.length_append]
  omega
theorem growS_h (n : Nat) (hn : n ≤ 100000) : HC XX 130 [.dat (.val (.slice none 0 0)), iA n] [] (.own 24 3 0 0) [(24, .row 84 3 0 (rowF slE []))] (some 24) := by
  obtain ⟨i0, hi0, e1, e2, e3⟩ : ∃ i0 : TypeInfo, Tryz.prog.info? 84 = some i0 ∧ i0.size = 3 ∧ i0.bytes = 24 ∧ ∃ z, i0.zero = some z ∧ z.cells.size = 3 := ⟨_, rfl, rfl, rfl, _, rfl, rfl⟩
  obtain ⟨z, e3, e4⟩ := e3
  exact grow_h (X := XX) Tryz.grow130 rfl ⟨_, Tryz.func130, rfl, rfl⟩ rfl hi0 e3 e4 e1 (Nat.zero_lt_succ 2) n (by rw [e2]; omega) (by omega) _
theorem concat_h (ls : List (List Sl)) (hL : ls.length ≤ 100000) (hn : ls.flatten.length ≤ 100000) :
    HC XX 109 [.dat (llD ls)] [] (.own 24 3 0 ls.flatten.length) [(24, .row 84 3 ls.flatten.length (rowF slE ls.flatten))] (some 24) := by
  refine HC.of (n := Tryz.f109.ntmps) XX_ok Tryz.func109 rfl (by kernel_rfl) rfl rfl (Nat.le_of_ble_eq_true rfl) rfl rfl ?_
  (repeat' (first | ((first | refine Zg ?_ | refine Zn ?_ | refine Zc ?_ | refine Zu fun b hb => ?_); conv => whnf) | (refine Zb (fun h => ?_) (fun h => ?_) <;> first | exact Zx | (conv => whnf))))
  refine (W.loopK (ι := Nat) [0, 9, 10] [] (fun k => [(11, iA k), (3, iA (ls.take k).flatten.length)]) (fun _ => []) (fun k => k ≤ ls.length) (fun k => ls.length - k) 0 (Nat.zero_le _) ?_ ?_ ?_)
  · exact Yz
  · exact Yz
  conv => whnf
  intro k hk
  have hf := flat_le ls k
  by_cases hk' : k < ls.length
  · have hf1 := flat_le ls (k + 1)
    have hs := flat_snoc ls k hk'
    have hlen : (ls.take (k + 1)).flatten.length = (ls.take k).flatten.length + (ls.getD k []).length := by rw [hs, List.length_append]
    (repeat' (first | ((first | refine Zg ?_ | refine Zn ?_ | refine Zc ?_ | refine Zu fun b hb => ?_); conv => whnf) | (refine Zb (fun h => ?_) (fun h => ?_) <;> first | exact Zx | (conv => whnf))))
    all_goals (try dsimp only [Int.toNat_natCast] at *)
    (repeat' (first | ((first | refine Zg ?_ | refine Zn ?_ | refine Zc ?_ | refine Zu fun b hb => ?_); conv => whnf) | (refine Zb (fun h => ?_) (fun h => ?_) <;> first | exact Zx | (conv => whnf))))
    refine ⟨k + 1, by omega, by omega, ?_, ?_, ?_, ?_⟩ <;> (repeat' (first | exact Yq | refine ⟨_, rfl, Yb ?_, rfl⟩ | refine ⟨_, rfl, Yw (by first | rfl | omega) ?_, rfl⟩ | refine And.intro ?_ ?_))
  · have hke : k = ls.length := by omega
    subst hke
    (repeat' (first | ((first | refine Zg ?_ | refine Zn ?_ | refine Zc ?_ | refine Zu fun b hb => ?_); conv => whnf) | (refine Zb (fun h => ?_) (fun h => ?_) <;> first | exact Zx | (conv => whnf))))
    simp only [List.take_length]
    refine ExCall.h [(24, 24)] rfl (growS_h ls.flatten.length (by omega)) rfl trivial ?_
    conv => whnf
    (repeat' (first | ((first | refine Zg ?_ | refine Zn ?_ | refine Zc ?_ | refine Zu fun b hb => ?_); conv => whnf) | (refine Zb (fun h => ?_) (fun h => ?_) <;> first | exact Zx | (conv => whnf))))
    refine (W.loopK (ι := Nat) [25, 26] [] (fun k => [(27, iA k), (6, .own 24 3 0 (ls.take k).flatten.length)]) (fun k => [(24, .row 84 3 (ls.take k).flatten.length (rowF slE (ls.take k).flatten))]) (fun k => k ≤ ls.length) (fun k => ls.length - k) 0 (Nat.zero_le _) ?_ ?_ ?_)
    · exact Yz
    · exact Yz
    conv => whnf
    intro k hk
    have hf := flat_le ls k
    by_cases hk' : k < ls.length
    · have hf1 := flat_le ls (k + 1)
      have hs := flat_snoc ls k hk'
      have hlen : (ls.take (k + 1)).flatten.length = (ls.take k).flatten.length + (ls.getD k []).length := by rw [hs, List.length_append]
      (repeat' (first | ((first | refine Zg ?_ | refine Zn ?_ | refine Zc ?_ | refine Zu fun b hb => ?_); conv => whnf) | (refine Zb (fun h => ?_) (fun h => ?_) <;> first | exact Zx | (conv => whnf))))
      all_goals (try dsimp only [Int.toNat_natCast] at *)
      (repeat' (first | ((first | refine Zg ?_ | refine Zn ?_ | refine Zc ?_ | refine Zu fun b hb => ?_); conv => whnf) | (refine Zb (fun h => ?_) (fun h => ?_) <;> first | exact Zx | (conv => whnf))))
      refine ⟨k + 1, by omega, by omega, ?_, ?_, ?_, ?_⟩ <;> (repeat' (first | exact Yq | refine ⟨_, rfl, Yb ?_, rfl⟩ | refine ⟨_, rfl, Yw (by first | rfl | omega) ?_, rfl⟩ | refine And.intro ?_ ?_))
      all_goals (rw [hs]; exact rowF_app rfl fun i hi j hj => Dle.refl _)
    · have hke : k = ls.length := by omega
      subst hke
      simp only [List.take_length]
      (repeat' (first | ((first | refine Zg ?_ | refine Zn ?_ | refine Zc ?_ | refine Zu fun b hb => ?_); conv => whnf) | (refine Zb (fun h => ?_) (fun h => ?_) <;> first | exact Zx | (conv => whnf))))
      all_goals (conv => whnf); (repeat' (first | exact Zhq | refine ResH.agg ?_ | refine ⟨_, rfl, EntLe.blk ?_, rfl⟩ | refine ⟨_, rfl, EntLe.row (by first | rfl | omega) ?_, rfl⟩ | refine And.intro ?_ ?_ | ((conv => whnf); first | exact Zhq | refine ResH.agg ?_)))

def cfL (us : List Sl) (i j : Nat) : Int := slCf (us.getD i default) (us.getD j default)
def srt (us : List Sl) (i : Nat) : Sl := us.getD (sortAt us.length (cfL us) i) default
theorem slCf_neg (x y : Sl) : slCf x y < 0 ↔ (x.m < y.m ∨ (x.m = y.m ∧ x.s < y.s)) := by
  unfold slCf orL cmpI
  by_cases h1 : x.m < y.m
  · simp [h1]
  · by_cases h2 : y.m < x.m
    · simp [h1, h2]; omega
    · have : x.m = y.m := by omega
      by_cases h3 : x.s < y.s
      · simp [this, h3]
      · by_cases h4 : y.s < x.s
        · simp [this, h3, h4]
        · simp [this, h3, h4]
theorem cfL_swo (us : List Sl) : Go.Sort.SWO (ltOf (cfL us)) := by
  refine ⟨fun x => ?_, fun x y z => ?_, fun x y z => ?_⟩ <;> unfold ltOf cfL <;> simp only [slCf_neg, decide_eq_true_eq, decide_eq_false_iff_not] <;> omega
theorem sortS_h (us : List Sl) (hn : us.length ≤ 100000) :
    HC XX 110 [.own 5000 3 0 us.length, .dat (.val (.func (.func 111) #[] #[]))] [(5000, .row 84 3 us.length (rowF slE us))] (.tup []) [(5000, .row 84 3 us.length fun i j => slE (srt us i) j)] none :=
  sort_h (X := XX) (cf := cfL us) Tryz.sort110 rfl ⟨_, Tryz.func110, rfl, rfl⟩ Tryz.isAgg84 Tryz.sizeOf84
    (enters_of Tryz.func111 (by kernel_rfl) rfl) (cfL_swo us) (by omega) (by omega) (fun i j hi hj => overlap1_d (us.getD i default) (us.getD j default))
def ovl (us : List Sl) : Prop := ∃ i, i + 1 < us.length ∧ (srt us (i + 1)).m = (srt us i).m ∧ (srt us (i + 1)).s < (srt us i).e
noncomputable instance (us : List Sl) : Decidable (ovl us) := Classical.propDecidable _
theorem overlap_t (ls : List (List Sl)) (hL : ls.length ≤ 100000) (hn : ls.flatten.length ≤ 100000) : ACalls XX 90 [.dat (llD ls)] (bA (decide (ovl ls.flatten))) := by
  have k1 := concat_h ls hL hn
  have k2 := sortS_h ls.flatten hn
  generalize ls.flatten = us at k1 k2 hn ⊢
  refine ACalls.of (n := Tryz.f90.ntmps) XX_ok Tryz.func90 rfl (by kernel_rfl) rfl rfl (Nat.le_of_ble_eq_true rfl) ?_
  (repeat' (first | ((first | refine Zg ?_ | refine Zt dr90 ?_ | refine Zn ?_ | refine Zc ?_ | refine Zu fun b hb => ?_); conv => whnf) | (refine Zb (fun h => ?_) (fun h => ?_) <;> first | exact Zx | (conv => whnf))))
  refine ExCall.h [(24, 6)] rfl k1 rfl trivial ?_
  conv => whnf
  (repeat' (first | ((first | refine Zg ?_ | refine Zt dr90 ?_ | refine Zn ?_ | refine Zc ?_ | refine Zu fun b hb => ?_ | refine ExCall.h [(5000, 6)] rfl k2 rfl ⟨rfl, trivial⟩ ?_ | refine CallK.h [(5000, 6)] rfl k2 rfl rfl ⟨rfl, trivial⟩ rfl rfl ?_); conv => whnf) | (refine Zb (fun h => ?_) (fun h => ?_) <;> first | exact Zx | (conv => whnf))))
  refine (W.loopK (ι := Nat) [3] [6] (fun k => [(4, iA (1 + k))]) (fun _ => []) (fun k => (k = 0 ∨ k + 1 ≤ us.length) ∧ ∀ i, i < k → ¬ ((srt us (i + 1)).m = (srt us i).m ∧ (srt us (i + 1)).s < (srt us i).e)) (fun k => us.length - k) 0 ⟨.inl rfl, fun i hi => absurd hi (by omega)⟩ ?_ ?_ ?_)
  · exact Yz
  · exact Yz
  conv => whnf
  intro k ⟨hk, hz⟩
  have hu : ¬ k + 1 < us.length → ¬ ovl us := fun h ⟨i, h1, h2⟩ => hz i (by omega) h2
  have hv : k + 1 < us.length → (srt us (k + 1)).m = (srt us k).m → (srt us (k + 1)).s < (srt us k).e → ovl us := fun h1 h2 h3 => ⟨k, h1, h2, h3⟩
  (repeat' (first | ((first | refine Zg ?_ | refine Zt dr90 ?_ | refine Zn ?_ | refine Zc ?_ | refine Zu fun b hb => ?_); conv => whnf) | (refine Zb (fun h => ?_) (fun h => ?_) <;> first | exact Zx | (conv => whnf))))
  all_goals (try rw [show (1 + (k : Int)).toNat = k + 1 by omega, show (1 + (k : Int) - 1).toNat = k by omega] at *)
  (repeat' (first | ((first | refine Zg ?_ | refine Zt dr90 ?_ | refine Zn ?_ | refine Zc ?_ | refine Zu fun b hb => ?_); conv => whnf) | (refine Zb (fun h => ?_) (fun h => ?_) <;> first | exact Zx | (conv => whnf))))
  all_goals (try simp only [Nat.zero_add] at *)
  all_goals first | ((repeat' (first | exact Zrq | exact Zi (by exact hv (by omega) (by omega) (by omega)) | exact Zo (h := by exact hv (by omega) (by omega) (by omega)) | refine ResLe.agg ?_ | refine And.intro ?_ ?_ | ((conv => whnf); first | exact Zrq | exact Zi (by exact hv (by omega) (by omega) (by omega)) | exact Zo (h := by exact hv (by omega) (by omega) (by omega)) | refine ResLe.agg ?_ | refine And.intro ?_ ?_))); done) | ((repeat' (first | exact Zrq | exact Zi (by exact hu (by omega)) | exact Zo (h := by exact hu (by omega)) | refine ResLe.agg ?_ | refine And.intro ?_ ?_ | ((conv => whnf); first | exact Zrq | exact Zi (by exact hu (by omega)) | exact Zo (h := by exact hu (by omega)) | refine ResLe.agg ?_ | refine And.intro ?_ ?_))); done) | (refine ⟨k + 1, ⟨by omega, fun i hi => by
      rcases Nat.lt_or_ge i k with hik | hik
      · exact hz i hik
      · obtain rfl : i = k := by omega
        omega⟩, by omega, ?_, ?_, ?_, ?_⟩ <;> (repeat' (first | exact Yq | refine ⟨_, rfl, Yb ?_, rfl⟩ | refine ⟨_, rfl, Yw (by first | rfl | omega) ?_, rfl⟩ | refine And.intro ?_ ?_)))

end Go.Proofs.YtacpjihbbmoolaaGreat
