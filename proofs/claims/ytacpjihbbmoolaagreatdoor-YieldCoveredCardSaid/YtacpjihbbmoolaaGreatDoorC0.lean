/- The reference's stocks, plain law: lots put in their places, compact lists, whether units occur twice. -/
import Derived.Test.YtacpjihbbmoolaaGreatDoorFK

namespace Go.Proofs.YtacpjihbbmoolaaGreatDoor
open Go Go.RowKit
set_option linter.unusedVariables false
set_option linter.unusedSimpArgs false

def insL (ss : List Lt) (x : Lt) : List Lt := ss.takeWhile (fun y => decide (y.id < x.id)) ++ x :: ss.dropWhile (fun y => decide (y.id < x.id))
def putL (ss ls : List Lt) : List Lt := ls.foldl insL ss
def ascP (ss : List Lt) : Prop := ss.Pairwise fun a b => a.id < b.id
theorem insL_perm (ss : List Lt) (x : Lt) : (insL ss x).Perm (x :: ss) := by
  unfold insL
  refine List.perm_middle.trans ?_
  rw [List.takeWhile_append_dropWhile]
theorem insL_asc : ∀ {ss : List Lt} {x : Lt}, ascP ss → (∀ y ∈ ss, y.id ≠ x.id) → ascP (insL ss x)
  | [], x, _, _ => List.pairwise_singleton ..
  | y :: l, x, h, hx => by
    obtain ⟨h1, h2⟩ := List.pairwise_cons.1 h
    have hy := hx y (by simp)
    by_cases hc : y.id < x.id
    · have e : insL (y :: l) x = y :: insL l x := by
        unfold insL
        rw [List.takeWhile_cons_of_pos (by simpa using hc), List.dropWhile_cons_of_pos (by simpa using hc)]
        rfl
      rw [e]
      refine List.pairwise_cons.2 ⟨fun z hz => ?_, insL_asc h2 fun z hz => hx z (by simp [hz])⟩
      rcases List.mem_cons.1 ((insL_perm l x).mem_iff.1 hz) with rfl|hz
      · exact hc
      · exact h1 z hz
    · have e : insL (y :: l) x = x :: y :: l := by
        unfold insL
        rw [List.takeWhile_cons_of_neg (by simpa using hc), List.dropWhile_cons_of_neg (by simpa using hc)]
        rfl
      rw [e]
      refine List.pairwise_cons.2 ⟨fun z hz => ?_, h⟩
      rcases List.mem_cons.1 hz with rfl|hz
      · omega
      · have := h1 z hz; omega
theorem putL_perm : ∀ (ls ss : List Lt), (putL ss ls).Perm (ss ++ ls)
  | [], ss => by unfold putL; simp
  | x :: ls, ss => by
    have h := putL_perm ls (insL ss x)
    unfold putL at h ⊢
    rw [List.foldl_cons]
    refine h.trans ?_
    refine ((insL_perm ss x).append_right ls).trans ?_
    exact List.perm_middle.symm
theorem putL_asc : ∀ {ls ss : List Lt}, ascP ss → (∀ x ∈ ls, ∀ y ∈ ss, y.id ≠ x.id) → (ls.map Lt.id).Nodup → ascP (putL ss ls)
  | [], ss, h, _, _ => h
  | x :: ls, ss, h, hd, hn => by
    rw [List.map_cons, List.nodup_cons] at hn
    unfold putL
    rw [List.foldl_cons]
    refine putL_asc (insL_asc h (hd x (by simp))) (fun z hz y hy => ?_) hn.2
    rcases List.mem_cons.1 ((insL_perm ss x).mem_iff.1 hy) with rfl|hy
    · exact fun e => hn.1 (e ▸ List.mem_map.2 ⟨z, hz, rfl⟩)
    · exact hd z (by simp [hz]) y hy
theorem asc_of {ss : List Lt} (h : ascI ss) : ascP ss := by
  have key : ∀ j i, i + j + 1 < ss.length → (ss.getD i default).id < (ss.getD (i + j + 1) default).id := by
    intro j
    induction j with
    | zero => intro i hi; exact h i hi
    | succ j ih =>
      intro i hi
      have h1 := ih i (by omega)
      have h2 := h (i + j + 1) (by omega)
      show _ < (ss.getD (i + j + 1 + 1) default).id
      omega
  refine List.pairwise_iff_getElem.2 fun i j hi hj hij => ?_
  have := key (j - i - 1) i (by omega)
  rw [show i + (j - i - 1) + 1 = j by omega, getD_of hi, getD_of hj] at this
  exact this
theorem asc_to {ss : List Lt} (h : ascP ss) : ascI ss := fun i hi => by
  have := List.pairwise_iff_getElem.1 h i (i + 1) (by omega) hi (by omega)
  rwa [getD_of, getD_of]
theorem keep_asc {ss : List Lt} (ids : List Int) (h : ascP ss) : ascP (keepI ss ids) := h.filter _
theorem put_repl {ss : List Lt} {ids : List Int} {ls : List Lt} (h : ascP ss) (hd : ∀ x ∈ ls, ∀ y ∈ keepI ss ids, y.id ≠ x.id) (hn : (ls.map Lt.id).Nodup) : putL (keepI ss ids) ls = replL ss ids ls := by
  unfold replL
  exact (sort_unique (putL_perm ls _).symm (putL_asc (keep_asc ids h) hd hn)).symm
theorem keep_nil (ss : List Lt) : keepI ss [] = ss := List.filter_eq_self.2 fun x _ => by simp
theorem repl_perm (ss : List Lt) (ids : List Int) (ls : List Lt) : (replL ss ids ls).Perm (keepI ss ids ++ ls) := sortLt_perm _
theorem repl_asc {ss : List Lt} {ids : List Int} {ls : List Lt} (h : ascP ss) (hd : ∀ x ∈ ls, ∀ y ∈ keepI ss ids, y.id ≠ x.id) (hn : (ls.map Lt.id).Nodup) : ascP (replL ss ids ls) := by
  rw [← put_repl h hd hn]
  exact putL_asc (keep_asc ids h) hd hn
theorem insL_at {ss : List Lt} {x : Lt} {k : Nat} (hk : k ≤ ss.length) (hz : ∀ i, i < k → (ss.getD i default).id < x.id) (hv : k < ss.length → ¬ (ss.getD k default).id < x.id) : insL ss x = ss.take k ++ x :: ss.drop k := by
  have e : ss.takeWhile (fun y => decide (y.id < x.id)) = ss.take k := by
    induction ss generalizing k with
    | nil => simp
    | cons a l ih =>
      cases k with
      | zero =>
        have := hv (by simp)
        rw [List.takeWhile_cons_of_neg (by simpa using this), List.take_zero]
      | succ k =>
        have h0 : a.id < x.id := by simpa using hz 0 (by omega)
        rw [List.takeWhile_cons_of_pos (by simpa using h0), List.take_succ_cons, ih (k := k) (by simpa using hk) (fun i hi => by simpa using hz (i + 1) (by omega)) (fun hi => by simpa using hv (by simpa using hi))]
  have e2 : ss.dropWhile (fun y => decide (y.id < x.id)) = ss.drop k := by
    have h1 := List.takeWhile_append_dropWhile (p := fun y : Lt => decide (y.id < x.id)) (l := ss)
    rw [e] at h1
    exact List.append_cancel_left (h1.trans (List.take_append_drop k ss).symm)
  unfold insL
  rw [e, e2]

theorem foldl_same : ∀ {us l : List Sl}, (∀ y ∈ us, y.s < y.e) → (us.foldl extL l).length = l.length + us.length → us.foldl extL l = l ++ us
  | [], l, _, _ => by simp
  | x :: us, l, h, hl => by
    have hx := h x (by simp)
    have h1 := foldl_extL_len us (extL l x)
    rw [List.foldl_cons] at hl ⊢
    have e : extL l x = extR l x := by unfold extL; rw [if_neg (by omega)]
    rw [e] at h1 hl ⊢
    have hg : ¬ glues l x := fun hg => by
      have := extR_glue hg
      rw [List.length_cons] at hl
      omega
    rw [extR_snoc hg] at hl ⊢
    rw [foldl_same (fun y hy => h y (by simp [hy])) (by rw [hl]; simp; omega)]
    simp
theorem join_same {us : List Sl} (h : ∀ y ∈ us, y.s < y.e) (hl : (joinL us).length = us.length) : joinL us = us := by
  unfold joinL at hl ⊢
  have := foldl_same (us := us) (l := []) h (by simpa using hl)
  simpa using this
theorem stk_join {ss : List Lt} (h : StkOk ss) {x : Lt} (hx : x ∈ ss) : joinL x.us = x.us := join_same (slOk_lt (h.ok x hx).2.2.2.2) (h.jn x hx)
theorem stk_cmpct {ss : List Lt} (h : StkOk ss) {x : Lt} (hx : x ∈ ss) : cmpct x.us := by
  rw [← stk_join h hx]
  exact cmpct_join (slOk_le (h.ok x hx).2.2.2.2)

def meetL (us vs : List Sl) : Prop := ∃ x ∈ us, meetAll x vs
instance (us vs : List Sl) : Decidable (meetL us vs) := by unfold meetL; exact inferInstance
theorem meetL_iff {us vs : List Sl} (hu : ∀ y ∈ us, y.s < y.e) (hv : ∀ y ∈ vs, y.s < y.e) : meetL us vs ↔ ∃ p, p ∈ expand us ∧ p ∈ expand vs := by
  unfold meetL meetAll expand
  constructor
  · rintro ⟨x, hx, y, hy, h⟩
    obtain ⟨p, h1, h2⟩ := (meets_units (hu x hx) (hv y hy)).1 h
    exact ⟨p, List.mem_flatMap.2 ⟨x, hx, h1⟩, List.mem_flatMap.2 ⟨y, hy, h2⟩⟩
  · rintro ⟨p, h1, h2⟩
    obtain ⟨x, hx, h1⟩ := List.mem_flatMap.1 h1
    obtain ⟨y, hy, h2⟩ := List.mem_flatMap.1 h2
    exact ⟨x, hx, y, hy, (meets_units (hu x hx) (hv y hy)).2 ⟨p, h1, h2⟩⟩
def unitsL (ss : List Lt) : List (Int × Int) := expand (here ss).flatten
theorem unitsL_eq (ss : List Lt) : unitsL ss = (ss.filter fun x => decide (x.p ≠ 13)).flatMap fun x => expand x.us := by
  unfold unitsL here
  generalize (ss.filter fun x => decide (x.p ≠ 13)) = l
  induction l with
  | nil => rfl
  | cons x l ih => rw [List.map_cons, List.flatten_cons, expand_app, ih, List.flatMap_cons]
theorem here_ok {ss : List Lt} (h : ∀ x ∈ ss, ltOk x) : ∀ y ∈ (here ss).flatten, slOk y := fun y hy => by
  obtain ⟨l, hl, hy⟩ := List.mem_flatten.1 hy
  unfold here at hl
  obtain ⟨x, hx, rfl⟩ := List.mem_map.1 hl
  exact (h x (List.mem_filter.1 hx).1).2.2.2.2 y hy
theorem reps_nodup {ss : List Lt} (h : ∀ x ∈ ss, ltOk x) : ¬ reps ss ↔ (∀ x ∈ ss, (expand x.us).Nodup) ∧ (unitsL ss).Nodup := by
  have h1 : ∀ x ∈ ss, ((expand x.us).Nodup ↔ ¬ ovl x.us) := fun x hx => by
    rw [ovl_iff _ (h x hx).2.2.2.2]
    exact nodup_iff (slOk_lt (h x hx).2.2.2.2)
  have h2 : (unitsL ss).Nodup ↔ ¬ ovl (here ss).flatten := by
    rw [ovl_iff _ (here_ok h)]
    exact nodup_iff (slOk_lt (here_ok h))
  constructor
  · intro hr
    have hU : (unitsL ss).Nodup := h2.2 fun ho => hr (.inr ho)
    refine ⟨fun x hx => ?_, hU⟩
    by_cases hp : x.p = 13
    · exact (h1 x hx).2 fun ho => hr (.inl ⟨x, hx, hp, ho⟩)
    · rw [unitsL_eq] at hU
      have hs : (expand x.us).Sublist ((ss.filter fun x => decide (x.p ≠ 13)).flatMap fun x => expand x.us) := List.sublist_flatten_of_mem (List.mem_map.2 ⟨x, List.mem_filter.2 ⟨hx, by simpa using hp⟩, rfl⟩)
      exact hU.sublist hs
  · rintro ⟨g1, g2⟩ (⟨x, hx, _, ho⟩|ho)
    · exact (h1 x hx).1 (g1 x hx) ho
    · exact h2.1 g2 ho
theorem nodup_flat {α : Type} : ∀ {L : List (List α)}, L.flatten.Nodup ↔ (∀ l ∈ L, l.Nodup) ∧ L.Pairwise fun a b => ∀ x, x ∈ a → x ∈ b → False
  | [] => by simp
  | l :: L => by
    rw [List.flatten_cons, List.nodup_append, nodup_flat, List.pairwise_cons]
    constructor
    · rintro ⟨h1, ⟨h2, h3⟩, h4⟩
      refine ⟨fun x hx => ?_, fun m hm x h5 h6 => h4 x h5 x (List.mem_flatten.2 ⟨m, hm, h6⟩) rfl, h3⟩
      rcases List.mem_cons.1 hx with rfl|hx
      · exact h1
      · exact h2 x hx
    · rintro ⟨h1, h2, h3⟩
      refine ⟨h1 l (by simp), ⟨fun x hx => h1 x (by simp [hx]), h3⟩, fun a ha b hb he => ?_⟩
      subst he
      obtain ⟨m, hm, h6⟩ := List.mem_flatten.1 hb
      exact h2 m hm a ha h6
def badL (ss : List Lt) (i : Nat) : Prop := lotErr (ss.getD i default).us ≠ 0 ∨ ∃ k, k < i ∧ (ss.getD i default).p ≠ 13 ∧ (ss.getD k default).p ≠ 13 ∧ meetL (ss.getD i default).us (ss.getD k default).us
theorem reps_bad {ss : List Lt} (h : ∀ x ∈ ss, ltOk x) (hl : ∀ x ∈ ss, x.us.length ≤ 64) : reps ss ↔ ∃ i, i < ss.length ∧ badL ss i := by
  have hlt : ∀ x ∈ ss, ∀ y ∈ x.us, y.s < y.e := fun x hx => slOk_lt (h x hx).2.2.2.2
  have hE : ∀ x ∈ ss, (lotErr x.us = 0 ↔ (expand x.us).Nodup) := fun x hx => by
    rw [lotErr_iff]
    exact ⟨fun h => h.2.2, fun hn => ⟨hl x hx, (h x hx).2.2.2.2, hn⟩⟩
  have key : ¬ reps ss ↔ ∀ i, i < ss.length → ¬ badL ss i := by
    rw [reps_nodup h, unitsL_eq]
    rw [List.flatMap_def, nodup_flat, List.pairwise_map, List.pairwise_filter]
    constructor
    · rintro ⟨g1, g2, g3⟩ i hi (hb|⟨k, hk, p1, p2, hm⟩)
      · exact hb ((hE _ (getD_in hi)).2 (g1 _ (getD_in hi)))
      · have := List.pairwise_iff_getElem.1 g3 k i (by omega) hi hk
        rw [← getD_of (show k < ss.length by omega), ← getD_of hi] at this
        obtain ⟨p, q1, q2⟩ := (meetL_iff (hlt _ (getD_in hi)) (hlt _ (getD_in (show k < ss.length by omega)))).1 hm
        exact this (by simpa using p2) (by simpa using p1) p q2 q1
    · intro hb
      have g1 : ∀ x ∈ ss, (expand x.us).Nodup := fun x hx => by
        obtain ⟨i, hi, rfl⟩ := List.getElem_of_mem hx
        have := hb i hi
        rw [← getD_of hi]
        refine (hE _ (getD_in hi)).1 ?_
        by_cases he : lotErr (ss.getD i default).us = 0
        · exact he
        · exact absurd (.inl he) this
      refine ⟨g1, fun l hl => ?_, ?_⟩
      · obtain ⟨x, hx, rfl⟩ := List.mem_map.1 hl
        exact g1 x (List.mem_filter.1 hx).1
      · refine List.pairwise_iff_getElem.2 fun k i hk hi hki => ?_
        intro p2 p1 p q2 q1
        rw [← getD_of hi] at p1 q1
        rw [← getD_of hk] at p2 q2
        exact hb i hi (.inr ⟨k, hki, by simpa using p1, by simpa using p2, (meetL_iff (hlt _ (getD_in hi)) (hlt _ (getD_in hk))).2 ⟨p, q1, q2⟩⟩)
  constructor
  · intro hr
    refine Classical.byContradiction fun hn => ?_
    exact (key.2 fun i hi hb => hn ⟨i, hi, hb⟩) hr
  · rintro ⟨i, hi, hb⟩
    refine Classical.byContradiction fun hr => ?_
    exact key.1 hr i hi hb

end Go.Proofs.YtacpjihbbmoolaaGreatDoor
