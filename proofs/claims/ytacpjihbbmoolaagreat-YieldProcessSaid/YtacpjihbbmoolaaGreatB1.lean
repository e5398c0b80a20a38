/- Lists of slices: counted, extended, joined. -/
import Derived.Test.YtacpjihbbmoolaaGreatB0
namespace Go.Proofs.YtacpjihbbmoolaaGreat
open Go Go.RowKit
set_option linter.unusedVariables false
set_option linter.unusedSimpArgs false
set_option maxRecDepth 100000
set_option maxHeartbeats 4000000
attribute [local irreducible] ResLe AVle ArgLe ArgP EntLe Dle ResH ArgQ

theorem slOk_take {us : List Sl} (h : ∀ y ∈ us, slOk y) (k : Nat) : ∀ y ∈ us.take k, slOk y := fun y hy => h y (List.mem_of_mem_take hy)
theorem slOk_le {us : List Sl} (h : ∀ y ∈ us, slOk y) : ∀ y ∈ us, y.s ≤ y.e := fun y hy => by have := h y hy; unfold slOk at this; omega
theorem cnt_rng {us : List Sl} (h : ∀ y ∈ us, slOk y) (k : Nat) : 0 ≤ cnt (us.take k) ∧ cnt (us.take k) ≤ 1000000000 * (us.length : Int) := by
  have h1 := cnt_nonneg (slOk_le (slOk_take h k))
  have h2 := cnt_le (slOk_take h k)
  have : (us.take k).length ≤ us.length := List.length_take_le' ..
  omega
theorem glues_row {l : List Sl} {x : Sl} (h : glues l x) (f : Nat → Nat → D) (hf : f = setF (rowF slE l) (l.length - 1) 2 [.val (.int .i64 x.e)]) : ∀ i, i < l.length → ∀ j, j < 3 → Dle (f i j) (rowF slE (extR l x) i j) := by
  subst hf
  intro i hi j hj
  have e : extR l x = l.set (l.length - 1) ⟨(lastS l).m, (lastS l).s, x.e⟩ := by unfold extR; rw [if_pos h]
  rw [e]
  rw [setF_eq]
  unfold rowF
  split
  · rename_i hc
    obtain ⟨rfl, h2, h3⟩ := hc
    obtain rfl : j = 2 := by simp at h3; omega
    have : l.length - 1 < l.length := by omega
    simp [this]
    exact Dle.refl _
  · rename_i hc
    by_cases hil : i = l.length - 1
    · subst hil
      have hj2 : j = 0 ∨ j = 1 := by
        rcases (show j = 0 ∨ j = 1 ∨ j = 2 by omega) with h | h | h
        · exact .inl h
        · exact .inr h
        · subst h; exact absurd ⟨rfl, Nat.le_refl _, by simp⟩ hc
      have h0 : l.length - 1 < l.length := by omega
      have e2 : (l.set (l.length - 1) (⟨(lastS l).m, (lastS l).s, x.e⟩ : Sl)).getD (l.length - 1) default = ⟨(lastS l).m, (lastS l).s, x.e⟩ := by simp [h0]
      rw [e2]
      rcases hj2 with rfl | rfl <;> exact Dle.refl _
    · have e2 : (l.set (l.length - 1) (⟨(lastS l).m, (lastS l).s, x.e⟩ : Sl)).getD i default = l.getD i default := by
        simp [List.getElem?_set, Ne.symm hil]
      rw [e2]
      exact Dle.refl _
theorem extR_glue {l : List Sl} {x : Sl} (h : glues l x) : (extR l x).length = l.length := by unfold extR; rw [if_pos h]; simp
theorem extR_snoc {l : List Sl} {x : Sl} (h : ¬ glues l x) : extR l x = l ++ [x] := by unfold extR; rw [if_neg h]
theorem extend_h (l : List Sl) (x : Sl) (hL : l.length ≤ 100000) :
    HC XX 89 [.own 1000000 3 0 l.length, slA x] [(1000000, .row 84 3 l.length (rowF slE l))] (.own 1000000 3 0 (extL l x).length) [(1000000, .row 84 3 (extL l x).length (rowF slE (extL l x)))] (some 1000000) := by
  by_cases hs : x.s = x.e
  · have e : extL l x = l := by unfold extL; rw [if_pos hs]
    rw [e]
    refine HC.of (n := Tryz.f89.ntmps) XX_ok Tryz.func89 rfl (by kernel_rfl) rfl rfl (Nat.le_of_ble_eq_true rfl) rfl rfl ?_
    (repeat' (first | ((first | refine Zg ?_ | refine Zt dr89 ?_ | refine Zn ?_ | refine Zc ?_ | refine Zu fun b hb => ?_); conv => whnf) | (refine Zb (fun h => ?_) (fun h => ?_) <;> first | exact Zx | (conv => whnf))))
    all_goals (conv => whnf); (repeat' (first | exact Zhq | refine ResH.agg ?_ | refine ⟨_, rfl, EntLe.blk ?_, rfl⟩ | refine ⟨_, rfl, EntLe.row (by first | rfl | omega) ?_, rfl⟩ | refine And.intro ?_ ?_ | ((conv => whnf); first | exact Zhq | refine ResH.agg ?_)))
  have e : extL l x = extR l x := by unfold extL; rw [if_neg hs]
  rw [e]
  by_cases hg : glues l x
  · have hrow := glues_row hg _ rfl
    have hlen := extR_glue hg
    have hg' := hg
    unfold glues lastS at hg'
    have hn : ((l.length : Int) - 1).toNat = l.length - 1 := by omega
    refine HC.of (n := Tryz.f89.ntmps) XX_ok Tryz.func89 rfl (by kernel_rfl) rfl rfl (Nat.le_of_ble_eq_true rfl) rfl rfl ?_
    (repeat' (first | ((first | refine Zg ?_ | refine Zt dr89 ?_ | refine Zn ?_ | refine Zc ?_ | refine Zu fun b hb => ?_); conv => whnf) | (refine Zb (fun h => ?_) (fun h => ?_) <;> first | exact Zx | (conv => whnf))))
    all_goals (try rw [hn] at *)
    (repeat' (first | ((first | refine Zg ?_ | refine Zt dr89 ?_ | refine Zn ?_ | refine Zc ?_ | refine Zu fun b hb => ?_); conv => whnf) | (refine Zb (fun h => ?_) (fun h => ?_) <;> first | exact Zx | (conv => whnf))))
    all_goals (try simp only [Nat.zero_add] at *)
    all_goals first | (exfalso; omega) | skip
    (conv => whnf); (repeat' (first | exact Zhq | refine ResH.agg ?_ | refine ⟨_, rfl, EntLe.blk ?_, rfl⟩ | refine ⟨_, rfl, EntLe.row (by first | rfl | omega) ?_, rfl⟩ | refine And.intro ?_ ?_ | ((conv => whnf); first | exact Zhq | refine ResH.agg ?_)))
    exact hrow
  · have e2 := extR_snoc hg
    unfold glues lastS at hg
    have hn : ((l.length : Int) - 1).toNat = l.length - 1 := by omega
    refine HC.of (n := Tryz.f89.ntmps) XX_ok Tryz.func89 rfl (by kernel_rfl) rfl rfl (Nat.le_of_ble_eq_true rfl) rfl rfl ?_
    (repeat' (first | ((first | refine Zg ?_ | refine Zt dr89 ?_ | refine Zn ?_ | refine Zc ?_ | refine Zu fun b hb => ?_); conv => whnf) | (refine Zb (fun h => ?_) (fun h => ?_) <;> first | exact Zx | (conv => whnf))))
    all_goals (try rw [hn] at *)
    (repeat' (first | ((first | refine Zg ?_ | refine Zt dr89 ?_ | refine Zn ?_ | refine Zc ?_ | refine Zu fun b hb => ?_); conv => whnf) | (refine Zb (fun h => ?_) (fun h => ?_) <;> first | exact Zx | (conv => whnf))))
    all_goals (try simp only [Nat.zero_add] at *)
    all_goals first | (exfalso; omega) | skip
    all_goals (conv => whnf); (repeat' (first | exact Zhq | exact AVle.int (by first | rfl | (rw [e2]; simp; done) | omega) | exact ResH.same (AVle.own (by first | rfl | (rw [e2]; simp; done) | omega)) | exact ResH.same (AVle.int (by first | rfl | (rw [e2]; simp; done) | omega)) | exact ResH.same (AVle.bool (by simp only [decide_eq_true_eq, decide_eq_false_iff_not, decide_eq_decide]; first | rfl | (rw [e2]; simp; done) | omega)) | exact ResH.same (AVle.tt_ (by simp only [decide_eq_true_eq, decide_eq_false_iff_not, decide_eq_decide]; first | rfl | (rw [e2]; simp; done) | omega)) | exact ResH.same (AVle.ff_ (by simp only [decide_eq_true_eq, decide_eq_false_iff_not, decide_eq_decide]; first | rfl | (rw [e2]; simp; done) | omega)) | refine ResH.agg ?_ | refine ⟨_, rfl, EntLe.blk ?_, rfl⟩ | refine ⟨_, rfl, EntLe.row (by first | rfl | (rw [e2]; simp; done) | omega) ?_, rfl⟩ | refine And.intro ?_ ?_ | ((conv => whnf); first | exact Zhq | exact ResH.same (AVle.own (by first | rfl | (rw [e2]; simp; done) | omega)) | exact ResH.same (AVle.int (by first | rfl | (rw [e2]; simp; done) | omega)) | exact ResH.same (AVle.bool (by simp only [decide_eq_true_eq, decide_eq_false_iff_not, decide_eq_decide]; first | rfl | (rw [e2]; simp; done) | omega)) | exact ResH.same (AVle.tt_ (by simp only [decide_eq_true_eq, decide_eq_false_iff_not, decide_eq_decide]; first | rfl | (rw [e2]; simp; done) | omega)) | exact ResH.same (AVle.ff_ (by simp only [decide_eq_true_eq, decide_eq_false_iff_not, decide_eq_decide]; first | rfl | (rw [e2]; simp; done) | omega)) | refine ResH.agg ?_)))
    all_goals (rw [e2]; refine rowF_snoc rfl fun j hj => ?_)
    all_goals (rcases j with _ | _ | _ | j <;> first | exact Dle.refl _ | omega)

theorem foldl_take_succ (us : List Sl) (a : List Sl) (i : Nat) (h : i < us.length) : (us.take (i + 1)).foldl extL a = extL ((us.take i).foldl extL a) (us.getD i default) := by
  rw [List.take_succ_eq_append_getElem h, List.foldl_append, List.getD_eq_getElem?_getD, List.getElem?_eq_getElem h]
  rfl
theorem join_t (ls : List (List Sl)) (hL : ls.length ≤ 100000) (hn : ls.flatten.length ≤ 100000) : ACalls XX 57 [.dat (llD ls)] (.dat (slD (joinL ls.flatten))) := by
  refine ACalls.of (n := Tryz.f57.ntmps) XX_ok Tryz.func57 rfl (by kernel_rfl) rfl rfl (Nat.le_of_ble_eq_true rfl) ?_
  (repeat' (first | ((first | refine Zg ?_ | refine Zn ?_ | refine Zc ?_ | refine Zu fun b hb => ?_); conv => whnf) | (refine Zb (fun h => ?_) (fun h => ?_) <;> first | exact Zx | (conv => whnf))))
  refine (W.adopt 3 22 84 3 (rowF slE []) rfl rfl rfl rfl ?_)
  conv => whnf
  refine (W.loopK (ι := Nat) [8, 9] [] (fun k => [(10, iA k), (3, .own 22 3 0 (joinL (ls.take k).flatten).length)]) (fun k => [(22, .row 84 3 (joinL (ls.take k).flatten).length (rowF slE (joinL (ls.take k).flatten)))]) (fun k => k ≤ ls.length) (fun k => ls.length - k) 0 (Nat.zero_le _) ?_ ?_ ?_)
  · exact Yz
  · exact Yz
  conv => whnf
  intro k hk
  by_cases hk' : k < ls.length
  · have hf := flat_le ls k
    have hf1 := flat_le ls (k + 1)
    have hs := flat_snoc ls k hk'
    have hlen : (ls.take (k + 1)).flatten.length = (ls.take k).flatten.length + (ls.getD k []).length := by rw [hs, List.length_append]
    have hj := joinL_len (ls.take k).flatten
    (repeat' (first | ((first | refine Zg ?_ | refine Zn ?_ | refine Zc ?_ | refine Zu fun b hb => ?_); conv => whnf) | (refine Zb (fun h => ?_) (fun h => ?_) <;> first | exact Zx | (conv => whnf))))
    all_goals (try dsimp only [Int.toNat_natCast] at *)
    (repeat' (first | ((first | refine Zg ?_ | refine Zn ?_ | refine Zc ?_ | refine Zu fun b hb => ?_); conv => whnf) | (refine Zb (fun h => ?_) (fun h => ?_) <;> first | exact Zx | (conv => whnf))))
    generalize hA : joinL (ls.take k).flatten = A at *
    generalize hU : ls.getD k [] = us at *
    refine (W.loopK (ι := Nat) [8, 9, 10, 14, 15] [] (fun i => [(16, iA i), (3, .own 22 3 0 ((us.take i).foldl extL A).length)]) (fun i => [(22, .row 84 3 ((us.take i).foldl extL A).length (rowF slE ((us.take i).foldl extL A)))]) (fun i => i ≤ us.length) (fun i => us.length - i) 0 (Nat.zero_le _) ?_ ?_ ?_)
    · exact Yz
    · exact Yz
    conv => whnf
    intro i hi
    have hb := foldl_extL_len (us.take i) A
    have hb2 : (us.take i).length ≤ us.length := List.length_take_le' ..
    by_cases hi' : i < us.length
    · have hx := extend_h ((us.take i).foldl extL A) (us.getD i default) (by omega)
      have ht := foldl_take_succ us A i hi'
      (repeat' (first | ((first | refine Zg ?_ | refine Zn ?_ | refine Zc ?_ | refine Zu fun b hb => ?_); conv => whnf) | (refine Zb (fun h => ?_) (fun h => ?_) <;> first | exact Zx | (conv => whnf))))
      all_goals (try dsimp only [Int.toNat_natCast] at *)
      (repeat' (first | ((first | refine Zg ?_ | refine Zn ?_ | refine Zc ?_ | refine Zu fun b hb => ?_ | refine ExCall.h [(1000000, 22)] rfl hx rfl ⟨rfl, trivial⟩ ?_); conv => whnf) | (refine Zb (fun h => ?_) (fun h => ?_) <;> first | exact Zx | (conv => whnf))))
      refine ⟨i + 1, by omega, by omega, ?_, ?_, ?_, ?_⟩ <;> (repeat' (first | exact Yq | exact Yi (by first | rfl | (rw [ht]; done) | omega) | exact Yo (by first | rfl | (rw [ht]; done) | omega) | exact Ye (by first | rfl | (rw [ht]; done) | omega) | refine ⟨_, rfl, Yb ?_, rfl⟩ | refine ⟨_, rfl, Yw (by first | rfl | (rw [ht]; done) | omega) ?_, rfl⟩ | refine And.intro ?_ ?_))
      intro i' _ j _
      rw [ht]
      exact Dle.refl _
    · obtain rfl : i = us.length := by omega
      rw [List.take_length] at *
      have hJ : joinL (ls.take (k + 1)).flatten = us.foldl extL A := by rw [hs, ← hA]; unfold joinL; rw [List.foldl_append]
      (repeat' (first | ((first | refine Zg ?_ | refine Zn ?_ | refine Zc ?_ | refine Zu fun b hb => ?_); conv => whnf) | (refine Zb (fun h => ?_) (fun h => ?_) <;> first | exact Zx | (conv => whnf))))
      refine ⟨k + 1, by omega, by omega, ?_, ?_, ?_, ?_⟩ <;> (repeat' (first | exact Yq | exact Yi (by first | rfl | (rw [hJ]; done) | omega) | exact Yo (by first | rfl | (rw [hJ]; done) | omega) | exact Ye (by first | rfl | (rw [hJ]; done) | omega) | refine ⟨_, rfl, Yb ?_, rfl⟩ | refine ⟨_, rfl, Yw (by first | rfl | (rw [hJ]; done) | omega) ?_, rfl⟩ | refine And.intro ?_ ?_))
      intro i' _ j _
      rw [hJ]
      exact Dle.refl _
  · obtain rfl : k = ls.length := by omega
    rw [List.take_length] at *
    (repeat' (first | ((first | refine Zg ?_ | refine Zn ?_ | refine Zc ?_ | refine Zu fun b hb => ?_); conv => whnf) | (refine Zb (fun h => ?_) (fun h => ?_) <;> first | exact Zx | (conv => whnf))))
    all_goals exact Zrz

end Go.Proofs.YtacpjihbbmoolaaGreat
