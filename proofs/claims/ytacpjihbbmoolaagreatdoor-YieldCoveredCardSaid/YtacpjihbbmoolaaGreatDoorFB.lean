/- Lots and stocks: their descriptions, and what the package computes of them (plain definitions). Lists of slices: counted, extended, joined. Lists of slices: shares, cuts, divided from the front and from the back; the reference's. Units and compact lists; the reference's lists of slices. -/
import Derived.Test.YtacpjihbbmoolaaGreatDoorGU

namespace Go.Proofs.YtacpjihbbmoolaaGreatDoor
open Go Go.RowKit
set_option linter.unusedVariables false
set_option linter.unusedSimpArgs false
set_option maxRecDepth 100000
set_option maxHeartbeats 4000000
attribute [local irreducible] ResLe AVle ArgLe ArgP EntLe Dle ResH ArgQ

def fillL (F : Nat → Int) (n k : Nat) : List Int := (List.range n).map fun i => if i < k then F i else 0
theorem fillL_len (F : Nat → Int) (n k : Nat) : (fillL F n k).length = n := by simp [fillL]
theorem fillL_zero (F : Nat → Int) (n i : Nat) : (fillL F n 0).getD i 0 = 0 := by
  unfold fillL
  by_cases h : i < n
  · simp [h]
  · simp [h]
theorem fillL_set (F : Nat → Int) (n k : Nat) : (fillL F n k).set k (F k) = fillL F n (k + 1) := by
  apply List.ext_getElem?
  intro i
  unfold fillL
  rw [List.getElem?_set]
  by_cases h : k = i
  · subst h
    rw [if_pos rfl]
    by_cases hk : k < n
    · simp [hk]
    · simp [hk]
  · rw [if_neg h]
    by_cases hi : i < n
    · simp [hi]
      have : i < k + 1 ↔ i < k := by omega
      simp [this]
    · simp [hi]
theorem fillL_full (F : Nat → Int) (n : Nat) : fillL F n n = (List.range n).map F := by
  unfold fillL
  apply List.map_congr_left
  intro i hi
  rw [if_pos (List.mem_range.1 hi)]
structure Lt where
  id : Int
  c : ByteArray
  q : Int
  p : Int
  us : List Sl
  deriving Inhabited
abbrev sA (c : ByteArray) : AV := .dat (.val (.string c))
abbrev ltA (x : Lt) : AV := .agg [iA x.id, sA x.c, iA x.q, iA x.p, .dat (slD x.us)]
def ltE (x : Lt) (j : Nat) : D := match j with
  | 0 => .val (.int .i64 x.id)
  | 1 => .val (.string x.c)
  | 2 => .val (.int .i64 x.q)
  | 3 => .val (.int .i64 x.p)
  | _ => slD x.us
abbrev ltD (ss : List Lt) : D := .lst 5 ss.length (rowF ltE ss)
def codeOk (c : ByteArray) : Prop := c.size = 8 ∧ ∀ i, i < 8 → 48 ≤ byteAt c i ∧ byteAt c i ≤ 57
noncomputable instance (c : ByteArray) : Decidable (codeOk c) := Classical.propDecidable _
def idOk (n : Int) : Prop := 1 ≤ n ∧ n ≤ 1000000
def qOk (n : Int) : Prop := 1 ≤ n ∧ n ≤ 1000000000
instance (n : Int) : Decidable (idOk n) := by unfold idOk; exact inferInstance
instance (n : Int) : Decidable (qOk n) := by unfold qOk; exact inferInstance
def ltOk (x : Lt) : Prop := idOk x.id ∧ codeOk x.c ∧ qOk x.q ∧ (1 ≤ x.p ∧ x.p ≤ 13) ∧ ∀ s ∈ x.us, slOk s
noncomputable instance (x : Lt) : Decidable (ltOk x) := Classical.propDecidable _
def here (ss : List Lt) : List (List Sl) := (ss.filter fun x => decide (x.p ≠ 13)).map Lt.us
def reps (ss : List Lt) : Prop := (∃ x ∈ ss, x.p = 13 ∧ ovl x.us) ∨ ovl (here ss).flatten
noncomputable instance (ss : List Lt) : Decidable (reps ss) := Classical.propDecidable _
def ascI (ss : List Lt) : Prop := ∀ i, i + 1 < ss.length → (ss.getD i default).id < (ss.getD (i + 1) default).id
noncomputable instance (ss : List Lt) : Decidable (ascI ss) := Classical.propDecidable _
noncomputable def stkErr (ss : List Lt) : Int := if 64 < ss.length then 8 else if ∃ x ∈ ss, 64 < x.us.length then 8 else if ¬ (∀ x ∈ ss, ltOk x) then 2 else if ∃ x ∈ ss, (joinL x.us).length ≠ x.us.length then 1 else if ¬ ascI ss then 9 else if reps ss then 13 else 0
def findI (ss : List Lt) (id : Int) : Nat := (ss.takeWhile fun x => decide (x.id ≠ id)).length
def takenP (ss : List Lt) (id : Int) : Prop := ∃ x ∈ ss, x.id = id ∨ ∃ s ∈ x.us, s.m = id
noncomputable instance (ss : List Lt) (id : Int) : Decidable (takenP ss id) := Classical.propDecidable _

end Go.Proofs.YtacpjihbbmoolaaGreatDoor

namespace Go.Proofs.YtacpjihbbmoolaaGreatDoor
open Go Go.RowKit
set_option linter.unusedVariables false
set_option linter.unusedSimpArgs false
set_option maxRecDepth 100000
set_option maxHeartbeats 4000000
attribute [local irreducible] ResLe AVle ArgLe ArgP EntLe Dle ResH ArgQ

theorem slOk_take {us : List Sl} (h : ∀ y ∈ us, slOk y) (k : Nat) : ∀ y ∈ us.take k, slOk y := fun y hy => h y (List.mem_of_mem_take hy)
theorem slOk_le {us : List Sl} (h : ∀ y ∈ us, slOk y) : ∀ y ∈ us, y.s ≤ y.e := fun y hy => by have := h y hy; unfold slOk at this; omega
theorem cnt_rng {us : List Sl} (h : ∀ y ∈ us, slOk y) (k : Nat) : 0 ≤ cnt (us.take k) ∧ cnt (us.take k) ≤ 1000000000 * (us.length : Int) := by
  have h1 := cnt_nonneg (slOk_le (slOk_take h k))
  have h2 := cnt_le (slOk_take h k)
  have : (us.take k).length ≤ us.length := List.length_take_le' ..
  omega
theorem count_t (us : List Sl) (h : ∀ y ∈ us, slOk y) (hL : us.length ≤ 100000) : ACalls XX 39 [.dat (slD us)] (iA (cnt us)) := by
  refine ACalls.of (n := Tryz.f39.ntmps) XX_ok Tryz.func39 rfl (by kernel_rfl) rfl rfl (Nat.le_of_ble_eq_true rfl) ?_
  (repeat' (first|((first|refine Zg ?_|refine Zn ?_|refine Zc ?_|refine Zu fun b hb=>?_);conv=>whnf)|(refine Zb ?_ ?_<;>(intro h;first|exact Zx|conv=>whnf))))
  refine (W.loopK (ι := Nat) [6, 7] [] (fun k => [(8, iA k), (3, iA (cnt (us.take k)))]) (fun _ => []) (fun k => k ≤ us.length) (fun k => us.length - k) 0 (Nat.zero_le _) ?_ ?_ ?_)
  · exact Yz
  · exact Yz
  conv => whnf
  intro k hk
  have hr := cnt_rng h k
  by_cases hk' : k < us.length
  · have hx := h _ (getD_in hk')
    have ht := cnt_take us k hk'
    unfold slOk at hx
    unfold lenS at ht
    (repeat' (first|((first|refine Zg ?_|refine Zn ?_|refine Zc ?_|refine Zu fun b hb=>?_);conv=>whnf)|(refine Zb ?_ ?_<;>(intro h;first|exact Zx|conv=>whnf))))
    all_goals (try dsimp only [Int.toNat_natCast] at *)
    (repeat' (first|((first|refine Zg ?_|refine Zn ?_|refine Zc ?_|refine Zu fun b hb=>?_);conv=>whnf)|(refine Zb ?_ ?_<;>(intro h;first|exact Zx|conv=>whnf))))
    refine ⟨k + 1, by omega, by omega, ?_, ?_, ?_, ?_⟩ <;> (repeat' (first|exact Yq|refine ⟨_, rfl, Yb ?_, rfl⟩|refine ⟨_, rfl, Yw (by first|rfl|omega) ?_, rfl⟩|refine And.intro ?_ ?_))
  · obtain rfl : k = us.length := by omega
    rw [List.take_length] at *
    (repeat' (first|((first|refine Zg ?_|refine Zn ?_|refine Zc ?_|refine Zu fun b hb=>?_);conv=>whnf)|(refine Zb ?_ ?_<;>(intro h;first|exact Zx|conv=>whnf))))
    all_goals exact Zrz

theorem glues_row {l : List Sl} {x : Sl} (h : glues l x) (f : Nat → Nat → D) (hf : f = setF (rowF slE l) (l.length - 1) 2 [.val (.int .i64 x.e)]) : ∀ i, i < l.length → ∀ j, j < 3 → Dle (f i j) (rowF slE (extR l x) i j) := by
  subst hf
  intro i hi j hj
  have e : extR l x = l.set (l.length - 1) ⟨(lastS l).m, (lastS l).s, x.e⟩ := by unfold extR; rw [if_pos h]
  rw [e]
  rw [setF_eq]
  unfold rowF
  split
  · rename_i hc
    obtain ⟨rfl, h2, h3⟩ := hc
    obtain rfl : j = 2 := by simp at h3; omega
    have : l.length - 1 < l.length := by omega
    simp [this]
    exact Dle.refl _
  · rename_i hc
    by_cases hil : i = l.length - 1
    · subst hil
      have hj2 : j = 0 ∨ j = 1 := by
        rcases (show j = 0 ∨ j = 1 ∨ j = 2 by omega) with h|h|h
        · exact .inl h
        · exact .inr h
        · subst h; exact absurd ⟨rfl, Nat.le_refl _, by simp⟩ hc
      have h0 : l.length - 1 < l.length := by omega
      have e2 : (l.set (l.length - 1) (⟨(lastS l).m, (lastS l).s, x.e⟩ : Sl)).getD (l.length - 1) default = ⟨(lastS l).m, (lastS l).s, x.e⟩ := by simp [h0]
      rw [e2]
      rcases hj2 with rfl|rfl <;> exact Dle.refl _
    · have e2 : (l.set (l.length - 1) (⟨(lastS l).m, (lastS l).s, x.e⟩ : Sl)).getD i default = l.getD i default := by
        simp [List.getElem?_set, Ne.symm hil]
      rw [e2]
      exact Dle.refl _
theorem extR_glue {l : List Sl} {x : Sl} (h : glues l x) : (extR l x).length = l.length := by unfold extR; rw [if_pos h]; simp
theorem extR_snoc {l : List Sl} {x : Sl} (h : ¬ glues l x) : extR l x = l ++ [x] := by unfold extR; rw [if_neg h]
theorem extend_h (l : List Sl) (x : Sl) (hL : l.length ≤ 100000) :
    HC XX 71 [.own 1000000 3 0 l.length, slA x] [(1000000, .row 63 3 l.length (rowF slE l))] (.own 1000000 3 0 (extL l x).length) [(1000000, .row 63 3 (extL l x).length (rowF slE (extL l x)))] (some 1000000) := by
  by_cases hs : x.s = x.e
  · have e : extL l x = l := by unfold extL; rw [if_pos hs]
    rw [e]
    refine HC.of (n := Tryz.f71.ntmps) XX_ok Tryz.func71 rfl (by kernel_rfl) rfl rfl (Nat.le_of_ble_eq_true rfl) rfl rfl ?_
    (repeat' (first|((first|refine Zg ?_|refine Zt dr71 ?_|refine Zn ?_|refine Zc ?_|refine Zu fun b hb=>?_);conv=>whnf)|(refine Zb ?_ ?_<;>(intro h;first|exact Zx|conv=>whnf))))
    all_goals (conv=>whnf); (repeat' (first|exact Zhq|refine ResH.agg ?_|refine ⟨_, rfl, EntLe.blk ?_, rfl⟩|refine ⟨_, rfl, EntLe.row (by first|rfl|omega) ?_, rfl⟩|refine And.intro ?_ ?_|((conv=>whnf); first|exact Zhq|refine ResH.agg ?_)))
  have e : extL l x = extR l x := by unfold extL; rw [if_neg hs]
  rw [e]
  by_cases hg : glues l x
  · have hrow := glues_row hg _ rfl
    have hlen := extR_glue hg
    have hg' := hg
    unfold glues lastS at hg'
    have hn : ((l.length : Int) - 1).toNat = l.length - 1 := by omega
    refine HC.of (n := Tryz.f71.ntmps) XX_ok Tryz.func71 rfl (by kernel_rfl) rfl rfl (Nat.le_of_ble_eq_true rfl) rfl rfl ?_
    (repeat' (first|((first|refine Zg ?_|refine Zt dr71 ?_|refine Zn ?_|refine Zc ?_|refine Zu fun b hb=>?_);conv=>whnf)|(refine Zb ?_ ?_<;>(intro h;first|exact Zx|conv=>whnf))))
    all_goals (try rw [hn] at *)
    (repeat' (first|((first|refine Zg ?_|refine Zt dr71 ?_|refine Zn ?_|refine Zc ?_|refine Zu fun b hb=>?_);conv=>whnf)|(refine Zb ?_ ?_<;>(intro h;first|exact Zx|conv=>whnf))))
    all_goals (try simp only [Nat.zero_add] at *)
    all_goals first|(exfalso; omega)|skip
    (conv=>whnf); (repeat' (first|exact Zhq|refine ResH.agg ?_|refine ⟨_, rfl, EntLe.blk ?_, rfl⟩|refine ⟨_, rfl, EntLe.row (by first|rfl|omega) ?_, rfl⟩|refine And.intro ?_ ?_|((conv=>whnf); first|exact Zhq|refine ResH.agg ?_)))
    exact hrow
  · have e2 := extR_snoc hg
    unfold glues lastS at hg
    have hn : ((l.length : Int) - 1).toNat = l.length - 1 := by omega
    refine HC.of (n := Tryz.f71.ntmps) XX_ok Tryz.func71 rfl (by kernel_rfl) rfl rfl (Nat.le_of_ble_eq_true rfl) rfl rfl ?_
    (repeat' (first|((first|refine Zg ?_|refine Zt dr71 ?_|refine Zn ?_|refine Zc ?_|refine Zu fun b hb=>?_);conv=>whnf)|(refine Zb ?_ ?_<;>(intro h;first|exact Zx|conv=>whnf))))
    all_goals (try rw [hn] at *)
    (repeat' (first|((first|refine Zg ?_|refine Zt dr71 ?_|refine Zn ?_|refine Zc ?_|refine Zu fun b hb=>?_);conv=>whnf)|(refine Zb ?_ ?_<;>(intro h;first|exact Zx|conv=>whnf))))
    all_goals (try simp only [Nat.zero_add] at *)
    all_goals first|(exfalso; omega)|skip
    all_goals (conv=>whnf); (repeat' (first|exact Zhq|exact AVle.int (by first|rfl|(rw [e2]; simp; done)|omega)|exact ResH.same (AVle.own (by first|rfl|(rw [e2]; simp; done)|omega))|exact ResH.same (AVle.int (by first|rfl|(rw [e2]; simp; done)|omega))|exact ResH.same (AVle.bool (by simp only [decide_eq_true_eq, decide_eq_false_iff_not, decide_eq_decide]; first|rfl|(rw [e2]; simp; done)|omega))|exact ResH.same (AVle.tt_ (by simp only [decide_eq_true_eq, decide_eq_false_iff_not, decide_eq_decide]; first|rfl|(rw [e2]; simp; done)|omega))|exact ResH.same (AVle.ff_ (by simp only [decide_eq_true_eq, decide_eq_false_iff_not, decide_eq_decide]; first|rfl|(rw [e2]; simp; done)|omega))|refine ResH.agg ?_|refine ⟨_, rfl, EntLe.blk ?_, rfl⟩|refine ⟨_, rfl, EntLe.row (by first|rfl|(rw [e2]; simp; done)|omega) ?_, rfl⟩|refine And.intro ?_ ?_|((conv=>whnf); first|exact Zhq|exact ResH.same (AVle.own (by first|rfl|(rw [e2]; simp; done)|omega))|exact ResH.same (AVle.int (by first|rfl|(rw [e2]; simp; done)|omega))|exact ResH.same (AVle.bool (by simp only [decide_eq_true_eq, decide_eq_false_iff_not, decide_eq_decide]; first|rfl|(rw [e2]; simp; done)|omega))|exact ResH.same (AVle.tt_ (by simp only [decide_eq_true_eq, decide_eq_false_iff_not, decide_eq_decide]; first|rfl|(rw [e2]; simp; done)|omega))|exact ResH.same (AVle.ff_ (by simp only [decide_eq_true_eq, decide_eq_false_iff_not, decide_eq_decide]; first|rfl|(rw [e2]; simp; done)|omega))|refine ResH.agg ?_)))
    all_goals (rw [e2]; refine rowF_snoc rfl fun j hj => ?_)
    all_goals (rcases j with _|_|_|j <;> first|exact Dle.refl _|omega)

theorem foldl_take_succ (us : List Sl) (a : List Sl) (i : Nat) (h : i < us.length) : (us.take (i + 1)).foldl extL a = extL ((us.take i).foldl extL a) (us.getD i default) := by
  rw [List.take_succ_eq_append_getElem h, List.foldl_append, List.getD_eq_getElem?_getD, List.getElem?_eq_getElem h]
  rfl
theorem join_t (ls : List (List Sl)) (hL : ls.length ≤ 100000) (hn : ls.flatten.length ≤ 100000) : ACalls XX 35 [.dat (llD ls)] (.dat (slD (joinL ls.flatten))) := by
  refine ACalls.of (n := Tryz.f35.ntmps) XX_ok Tryz.func35 rfl (by kernel_rfl) rfl rfl (Nat.le_of_ble_eq_true rfl) ?_
  (repeat' (first|((first|refine Zg ?_|refine Zn ?_|refine Zc ?_|refine Zu fun b hb=>?_);conv=>whnf)|(refine Zb ?_ ?_<;>(intro h;first|exact Zx|conv=>whnf))))
  refine (W.adopt 3 22 63 3 (rowF slE []) rfl rfl rfl rfl ?_)
  conv => whnf
  refine (W.loopK (ι := Nat) [8, 9] [] (fun k => [(10, iA k), (3, .own 22 3 0 (joinL (ls.take k).flatten).length)]) (fun k => [(22, .row 63 3 (joinL (ls.take k).flatten).length (rowF slE (joinL (ls.take k).flatten)))]) (fun k => k ≤ ls.length) (fun k => ls.length - k) 0 (Nat.zero_le _) ?_ ?_ ?_)
  · exact Yz
  · exact Yz
  conv => whnf
  intro k hk
  by_cases hk' : k < ls.length
  · have hf := flat_le ls k
    have hf1 := flat_le ls (k + 1)
    have hs := flat_snoc ls k hk'
    have hlen : (ls.take (k + 1)).flatten.length = (ls.take k).flatten.length + (ls.getD k []).length := by rw [hs, List.length_append]
    have hj := joinL_len (ls.take k).flatten
    (repeat' (first|((first|refine Zg ?_|refine Zn ?_|refine Zc ?_|refine Zu fun b hb=>?_);conv=>whnf)|(refine Zb ?_ ?_<;>(intro h;first|exact Zx|conv=>whnf))))
    all_goals (try dsimp only [Int.toNat_natCast] at *)
    (repeat' (first|((first|refine Zg ?_|refine Zn ?_|refine Zc ?_|refine Zu fun b hb=>?_);conv=>whnf)|(refine Zb ?_ ?_<;>(intro h;first|exact Zx|conv=>whnf))))
    generalize hA : joinL (ls.take k).flatten = A at *
    generalize hU : ls.getD k [] = us at *
    refine (W.loopK (ι := Nat) [8, 9, 10, 14, 15] [] (fun i => [(16, iA i), (3, .own 22 3 0 ((us.take i).foldl extL A).length)]) (fun i => [(22, .row 63 3 ((us.take i).foldl extL A).length (rowF slE ((us.take i).foldl extL A)))]) (fun i => i ≤ us.length) (fun i => us.length - i) 0 (Nat.zero_le _) ?_ ?_ ?_)
    · exact Yz
    · exact Yz
    conv => whnf
    intro i hi
    have hb := foldl_extL_len (us.take i) A
    have hb2 : (us.take i).length ≤ us.length := List.length_take_le' ..
    by_cases hi' : i < us.length
    · have hx := extend_h ((us.take i).foldl extL A) (us.getD i default) (by omega)
      have ht := foldl_take_succ us A i hi'
      (repeat' (first|((first|refine Zg ?_|refine Zn ?_|refine Zc ?_|refine Zu fun b hb=>?_);conv=>whnf)|(refine Zb ?_ ?_<;>(intro h;first|exact Zx|conv=>whnf))))
      all_goals (try dsimp only [Int.toNat_natCast] at *)
      (repeat' (first|((first|refine Zg ?_|refine Zn ?_|refine Zc ?_|refine Zu fun b hb=>?_|refine ExCall.h [(1000000, 22)] rfl hx rfl ⟨rfl, trivial⟩ ?_);conv=>whnf)|(refine Zb ?_ ?_<;>(intro h;first|exact Zx|conv=>whnf))))
      refine ⟨i + 1, by omega, by omega, ?_, ?_, ?_, ?_⟩ <;> (repeat' (first|exact Yq|exact Yi (by first|rfl|(rw [ht]; done)|omega)|exact Yo (by first|rfl|(rw [ht]; done)|omega)|exact Ye (by first|rfl|(rw [ht]; done)|omega)|refine ⟨_, rfl, Yb ?_, rfl⟩|refine ⟨_, rfl, Yw (by first|rfl|(rw [ht]; done)|omega) ?_, rfl⟩|refine And.intro ?_ ?_))
      intro i' _ j _
      rw [ht]
      exact Dle.refl _
    · obtain rfl : i = us.length := by omega
      rw [List.take_length] at *
      have hJ : joinL (ls.take (k + 1)).flatten = us.foldl extL A := by rw [hs, ← hA]; unfold joinL; rw [List.foldl_append]
      (repeat' (first|((first|refine Zg ?_|refine Zn ?_|refine Zc ?_|refine Zu fun b hb=>?_);conv=>whnf)|(refine Zb ?_ ?_<;>(intro h;first|exact Zx|conv=>whnf))))
      refine ⟨k + 1, by omega, by omega, ?_, ?_, ?_, ?_⟩ <;> (repeat' (first|exact Yq|exact Yi (by first|rfl|(rw [hJ]; done)|omega)|exact Yo (by first|rfl|(rw [hJ]; done)|omega)|exact Ye (by first|rfl|(rw [hJ]; done)|omega)|refine ⟨_, rfl, Yb ?_, rfl⟩|refine ⟨_, rfl, Yw (by first|rfl|(rw [hJ]; done)|omega) ?_, rfl⟩|refine And.intro ?_ ?_))
      intro i' _ j _
      rw [hJ]
      exact Dle.refl _
  · obtain rfl : k = ls.length := by omega
    rw [List.take_length] at *
    (repeat' (first|((first|refine Zg ?_|refine Zn ?_|refine Zc ?_|refine Zu fun b hb=>?_);conv=>whnf)|(refine Zb ?_ ?_<;>(intro h;first|exact Zx|conv=>whnf))))
    all_goals exact Zrz

end Go.Proofs.YtacpjihbbmoolaaGreatDoor

namespace Go.Proofs.YtacpjihbbmoolaaGreatDoor
open Go Go.RowKit
set_option linter.unusedVariables false
set_option linter.unusedSimpArgs false
set_option maxRecDepth 100000
set_option maxHeartbeats 4000000
attribute [local irreducible] ResLe AVle ArgLe ArgP EntLe Dle ResH ArgQ

theorem ACalls.args {X : Cx} {f : FuncId} {cs ds : List AV} {r : AV} (h : ACalls X f ds r) (hle : AVsLe cs ds) : ACalls X f cs r := by
  obtain ⟨h1, h2⟩ := AVsLe_at hle
  exact ⟨h.fn, fun M w vs hg hp hl hd => h.out M w vs hg hp (by omega) fun i d v e1 e2 => by
    obtain ⟨c, e3, e4⟩ := h2 i d e1
    unfold AVle at e4
    exact fun ρ => e4 ρ M v (hd i c v e3 e2 ρ)⟩
theorem llD_one (us : List Sl) : AVle (.dat (.lst 1 1 fun i j => pickF (tabB 1 1) [slD us] (i * 1 + j))) (.dat (llD [us])) := AVle.dat (Dle.lst rfl fun i hi j hj => by
  obtain rfl : i = 0 := by omega
  obtain rfl : j = 0 := by omega
  exact Dle.refl _)
theorem join1_t (us : List Sl) (hn : us.length ≤ 100000) : ACalls XX 35 [.dat (.lst 1 1 fun i j => pickF (tabB 1 1) [slD us] (i * 1 + j))] (.dat (slD (joinL us))) := by
  have h := join_t [us] (by simp) (by simpa using hn)
  rw [List.flatten_singleton] at h
  exact h.args ⟨llD_one us, trivial⟩
theorem fill_row {F : Nat → Int} {n k : Nat} {v : Int} (hv : v = F k) : ∀ i, i < n → ∀ j, j < 1 → Dle (setF (rowF iE (fillL F n k)) k 0 [.val (.int .i64 v)] i j) (rowF iE (fillL F n (k + 1)) i j) := by
  have h := ((RowIs.refl iE 1 (fillL F n k)).set (k := k) (x := F k) (ds := [.val (.int .i64 v)]) rfl fun j hj => by
    obtain rfl : j = 0 := by omega
    subst hv
    exact Dle.refl _)
  rw [fillL_set] at h
  intro i hi j hj
  exact h.le i (by rw [fillL_len]; exact hi) j hj
theorem fits_at {us : List Sl} {ks : List Int} (h : fits us ks) {i : Nat} (hi : i < us.length) : 0 ≤ ks.getD i default ∧ ks.getD i default ≤ lenS (us.getD i default) := by
  induction us generalizing ks i with
  | nil => simp at hi
  | cons x l ih =>
    cases ks with
    | nil => exact h.elim
    | cons k ks =>
      cases i with
      | zero => simpa using h.1
      | succ i => simpa using ih h.2 (by simpa using hi)
theorem zip_at {f : Sl → Int → Sl} {us : List Sl} {ks : List Int} (hl : ks.length = us.length) {i : Nat} (hi : i < us.length) : (List.zipWith f us ks).getD i default = f (us.getD i default) (ks.getD i default) := by
  have h1 : i < ks.length := by omega
  simp [List.getElem?_zipWith, hi, h1]
theorem cntOk {us : List Sl} (hv : ∀ y ∈ us, slOk y) (hL : us.length ≤ 100000) : 0 ≤ cnt us ∧ cnt us ≤ 100000000000000 := by
  have h1 := cnt_nonneg (slOk_le hv)
  have h2 := cnt_le hv
  omega
def frA (us : List Sl) (u : Int) : List Sl := cutA us (shL us u)
def frB (us : List Sl) (u : Int) : List Sl := cutB us (shL us u)
end Go.Proofs.YtacpjihbbmoolaaGreatDoor

namespace Go.Proofs.YtacpjihbbmoolaaGreatDoor
open Go Go.RowKit
set_option linter.unusedVariables false
set_option linter.unusedSimpArgs false
set_option maxRecDepth 100000
set_option maxHeartbeats 4000000
attribute [local irreducible] ResLe AVle ArgLe ArgP EntLe Dle ResH ArgQ

theorem lotErr_ok {us : List Sl} (h : lotErr us = 0) : us.length ≤ 64 ∧ (∀ y ∈ us, slOk y) ∧ ¬ ovl us := by
  unfold lotErr at h
  split at h
  · contradiction
  rename_i h1
  split at h
  · contradiction
  rename_i h2
  split at h
  · contradiction
  rename_i h3
  exact ⟨by omega, by simpa using h2, h3⟩
theorem units_t (us : List Sl) (hL : us.length ≤ 9223372036854775807) : ACalls XX 13 [.dat (slD us)] (iA (if lotErr us = 0 then cnt us else 0)) := by
  have h1 := valid_t us hL
  by_cases h : lotErr us = 0
  · obtain ⟨k1, k2, _⟩ := lotErr_ok h
    have h2 := count_t us k2 (by omega)
    rw [if_pos h]
    refine ACalls.of (n := Tryz.f13.ntmps) XX_ok Tryz.func13 rfl (by kernel_rfl) rfl rfl (Nat.le_of_ble_eq_true rfl) ?_
    (repeat' (first|((first|refine Zg ?_|refine Zn ?_|refine Zc ?_|refine Zu fun b hb=>?_|refine Zy h1 ?_|refine Zy h2 ?_);conv=>whnf)|(refine Zb ?_ ?_<;>(intro h;first|exact Zx|conv=>whnf))))
    all_goals exact Zrz
  · rw [if_neg h]
    refine ACalls.of (n := Tryz.f13.ntmps) XX_ok Tryz.func13 rfl (by kernel_rfl) rfl rfl (Nat.le_of_ble_eq_true rfl) ?_
    (repeat' (first|((first|refine Zg ?_|refine Zn ?_|refine Zc ?_|refine Zu fun b hb=>?_|refine Zy h1 ?_);conv=>whnf)|(refine Zb ?_ ?_<;>(intro h;first|exact Zx|conv=>whnf))))
    all_goals exact Zrz

theorem rcount_t (us : List Sl) (h : ∀ y ∈ us, slOk y) (hL : us.length ≤ 100000) : ACalls XX 93 [.dat (slD us)] (iA (cnt us)) := by
  refine ACalls.of (n := Tryz.f93.ntmps) XX_ok Tryz.func93 rfl (by kernel_rfl) rfl rfl (Nat.le_of_ble_eq_true rfl) ?_
  (repeat' (first|((first|refine Zg ?_|refine Zt dr93 ?_|refine Zn ?_|refine Zc ?_|refine Zu fun b hb=>?_);conv=>whnf)|(refine Zb ?_ ?_<;>(intro h;first|exact Zx|conv=>whnf))))
  refine (W.loopK (ι := Nat) [0] [] (fun k => [(4, iA k), (3, iA (cnt (us.take k)))]) (fun _ => []) (fun k => k ≤ us.length) (fun k => us.length - k) 0 (Nat.zero_le _) ?_ ?_ ?_)
  · exact Yz
  · exact Yz
  conv => whnf
  intro k hk
  have hr := cnt_rng h k
  by_cases hk' : k < us.length
  · have hx := h _ (getD_in hk')
    have ht := cnt_take us k hk'
    unfold slOk at hx
    unfold lenS at ht
    (repeat' (first|((first|refine Zg ?_|refine Zt dr93 ?_|refine Zn ?_|refine Zc ?_|refine Zu fun b hb=>?_);conv=>whnf)|(refine Zb ?_ ?_<;>(intro h;first|exact Zx|conv=>whnf))))
    all_goals (try dsimp only [Int.toNat_natCast] at *)
    refine ⟨k + 1, by omega, by omega, ?_, ?_, ?_, ?_⟩ <;> (repeat' (first|exact Yq|refine ⟨_, rfl, Yb ?_, rfl⟩|refine ⟨_, rfl, Yw (by first|rfl|omega) ?_, rfl⟩|refine And.intro ?_ ?_))
  · obtain rfl : k = us.length := by omega
    rw [List.take_length] at *
    (repeat' (first|((first|refine Zg ?_|refine Zt dr93 ?_|refine Zn ?_|refine Zc ?_|refine Zu fun b hb=>?_);conv=>whnf)|(refine Zb ?_ ?_<;>(intro h;first|exact Zx|conv=>whnf))))
    all_goals exact Zrz
theorem foldR_take_succ (us : List Sl) (a : List Sl) (i : Nat) (h : i < us.length) : (us.take (i + 1)).foldl extR a = extR ((us.take i).foldl extR a) (us.getD i default) := by
  rw [List.take_succ_eq_append_getElem h, List.foldl_append, List.getD_eq_getElem?_getD, List.getElem?_eq_getElem h]
  rfl
theorem foldl_extR_len (us : List Sl) : ∀ l, (us.foldl extR l).length ≤ l.length + us.length := by
  induction us with
  | nil => intro l; simp
  | cons x us ih =>
    intro l
    have h1 := ih (extR l x)
    have h2 := extR_len l x
    simp only [List.foldl_cons, List.length_cons]
    omega
theorem rjoin_t (us : List Sl) (hL : us.length ≤ 100000) : ACalls XX 98 [.dat (slD us)] (.dat (slD (us.foldl extR []))) := by
  refine ACalls.of (n := Tryz.f98.ntmps) XX_ok Tryz.func98 rfl (by kernel_rfl) rfl rfl (Nat.le_of_ble_eq_true rfl) ?_
  (repeat' (first|((first|refine Zg ?_|refine Zt dr98 ?_|refine Zn ?_|refine Zc ?_|refine Zu fun b hb=>?_);conv=>whnf)|(refine Zb ?_ ?_<;>(intro h;first|exact Zx|conv=>whnf))))
  refine (W.adopt 3 60 63 3 (rowF slE []) rfl rfl rfl rfl ?_)
  conv => whnf
  refine (W.loopK (ι := Nat) [0] [] (fun i => [(4, iA i), (3, .own 60 3 0 ((us.take i).foldl extR []).length)]) (fun i => [(60, .row 63 3 ((us.take i).foldl extR []).length (rowF slE ((us.take i).foldl extR [])))]) (fun i => i ≤ us.length) (fun i => us.length - i) 0 (Nat.zero_le _) ?_ ?_ ?_)
  · exact Yz
  · exact Yz
  conv => whnf
  intro i hi
  have hb := foldl_extR_len (us.take i) []
  have hb2 : (us.take i).length ≤ us.length := List.length_take_le' ..
  by_cases hi' : i < us.length
  · have ht := foldR_take_succ us [] i hi'
    generalize hA : (us.take i).foldl extR [] = A at *
    obtain ⟨x, hX⟩ : ∃ x, us.getD i default = x := ⟨_, rfl⟩
    rw [hX] at ht
    subst hX
    simp only [List.length_nil] at hb
    have hn : 0 < A.length → ((A.length : Int) - 1).toNat = A.length - 1 := fun _ => by omega
    by_cases hg : glues A (us.getD i default)
    · have hrow := glues_row hg _ rfl
      have hlen := extR_glue hg
      have hg' := hg
      unfold glues lastS at hg'
      (repeat' (first|((first|refine Zg ?_|refine Zt dr98 ?_|refine Zn ?_|refine Zc ?_|refine Zu fun b hb=>?_);conv=>whnf)|(refine Zb ?_ ?_<;>(intro h;first|exact Zx|conv=>whnf))))
      all_goals (try dsimp only [Int.toNat_natCast] at *)
      all_goals (try dsimp only [Int.toNat_natCast] at *)
      all_goals (try rw [hn (by omega)] at *)
      (repeat' (first|((first|refine Zg ?_|refine Zt dr98 ?_|refine Zn ?_|refine Zc ?_|refine Zu fun b hb=>?_);conv=>whnf)|(refine Zb ?_ ?_<;>(intro h;first|exact Zx|conv=>whnf))))
      all_goals (try simp only [Nat.zero_add] at *)
      all_goals (try dsimp only [Int.toNat_natCast] at *)
      all_goals first|(exfalso; omega)|skip
      refine ⟨i + 1, by omega, by omega, ?_, ?_, ?_, ?_⟩ <;> (repeat' (first|exact Yq|exact Yi (by first|rfl|(rw [ht, hlen]; done)|omega)|exact Yo (by first|rfl|(rw [ht, hlen]; done)|omega)|exact Ye (by first|rfl|(rw [ht, hlen]; done)|omega)|refine ⟨_, rfl, Yb ?_, rfl⟩|refine ⟨_, rfl, Yw (by first|rfl|(rw [ht, hlen]; done)|omega) ?_, rfl⟩|refine And.intro ?_ ?_))
      rw [ht]
      exact hrow
    · have e2 := extR_snoc hg
      unfold glues lastS at hg
      (repeat' (first|((first|refine Zg ?_|refine Zt dr98 ?_|refine Zn ?_|refine Zc ?_|refine Zu fun b hb=>?_);conv=>whnf)|(refine Zb ?_ ?_<;>(intro h;first|exact Zx|conv=>whnf))))
      all_goals (try dsimp only [Int.toNat_natCast] at *)
      all_goals (try dsimp only [Int.toNat_natCast] at *)
      all_goals (try rw [hn (by omega)] at *)
      (repeat' (first|((first|refine Zg ?_|refine Zt dr98 ?_|refine Zn ?_|refine Zc ?_|refine Zu fun b hb=>?_);conv=>whnf)|(refine Zb ?_ ?_<;>(intro h;first|exact Zx|conv=>whnf))))
      all_goals (try simp only [Nat.zero_add] at *)
      all_goals (try dsimp only [Int.toNat_natCast] at *)
      all_goals first|(exfalso; omega)|skip
      all_goals (refine ⟨i + 1, by omega, by omega, ?_, ?_, ?_, ?_⟩)
      all_goals (repeat' (first|exact Yq|exact Yi (by first|rfl|(rw [ht, e2]; simp; done)|omega)|exact Yo (by first|rfl|(rw [ht, e2]; simp; done)|omega)|exact Ye (by first|rfl|(rw [ht, e2]; simp; done)|omega)|refine ⟨_, rfl, Yb ?_, rfl⟩|refine ⟨_, rfl, Yw (by first|rfl|(rw [ht, e2]; simp; done)|omega) ?_, rfl⟩|refine And.intro ?_ ?_))
      all_goals (rw [ht, e2]; refine rowF_snoc rfl fun j hj => ?_)
      all_goals (rcases j with _|_|_|j <;> first|exact Dle.refl _|omega)
  · obtain rfl : i = us.length := by omega
    rw [List.take_length] at *
    (repeat' (first|((first|refine Zg ?_|refine Zt dr98 ?_|refine Zn ?_|refine Zc ?_|refine Zu fun b hb=>?_);conv=>whnf)|(refine Zb ?_ ?_<;>(intro h;first|exact Zx|conv=>whnf))))
    all_goals exact Zrz

end Go.Proofs.YtacpjihbbmoolaaGreatDoor
