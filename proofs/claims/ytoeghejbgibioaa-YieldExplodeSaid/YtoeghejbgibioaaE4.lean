/- What is wanted of the codes that nothing makes, in the order of the codes (plain). -/
import Derived.Test.YtoeghejbgibioaaE3
import Derived.Test.YtoeghejbgibioaaZ7
namespace Go.Proofs.Ytoeghejbgibioaa
open Go Go.RowKit
set_option linter.unusedVariables false
set_option linter.unusedSimpArgs false
set_option maxRecDepth 100000

theorem putM_nd {L : ML} (h : (L.map Prod.fst).Nodup) (c : ByteArray) (v : Int) : ((putM L c v).map Prod.fst).Nodup := by
  unfold putM
  rw [List.map_cons, List.nodup_cons]
  refine ⟨fun hh => ?_, ?_⟩
  · obtain ⟨p, hp, e⟩ := List.mem_map.1 hh
    have h1 := (List.mem_filter.1 hp).2
    simp only [Bool.not_eq_true', decide_eq_false_iff_not] at h1
    exact h1 e
  · exact (List.Sublist.map Prod.fst (List.filter_sublist (l := L))).nodup h
theorem rnIi_nd (b : Int) : ∀ (us : List Nd) (L : ML), (L.map Prod.fst).Nodup → ((rnIi b L us).map Prod.fst).Nodup
  | [], L, h => h
  | x :: l, L, h => rnIi_nd b l _ (putM_nd h _ _)
theorem rnFi_nd (rs : List Rc) : ∀ (od : List Int) (s : ML × List Int), (s.1.map Prod.fst).Nodup → ((rnFi rs od s).1.map Prod.fst).Nodup
  | [], s, h => h
  | k :: l, s, h => rnFi_nd rs l _ (rnIi_nd _ _ _ h)
theorem getM_in {L : ML} (h : (L.map Prod.fst).Nodup) {p : ByteArray × Int} (hp : p ∈ L) : getM L p.1 = p.2 := by
  induction L with
  | nil => cases hp
  | cons a l ih =>
    rw [List.map_cons, List.nodup_cons] at h
    unfold getM
    rw [List.find?_cons]
    rcases List.mem_cons.1 hp with rfl | hp
    · simp
    · have : a.1 ≠ p.1 := fun e => h.1 (e ▸ List.mem_map.2 ⟨p, hp, rfl⟩)
      simp only [this, decide_false]
      exact ih h.2 hp
theorem getM_ne {L : ML} {x : ByteArray} (h : getM L x ≠ 0) : (x, getM L x) ∈ L := by
  unfold getM at h ⊢
  cases hq : L.find? (fun p => decide (p.1 = x)) with
  | none => rw [hq] at h; exact absurd rfl h
  | some p =>
    have h1 := List.mem_of_find?_eq_some hq
    have h2 := List.find?_some hq
    simp only [decide_eq_true_eq] at h2
    subst h2
    exact h1
def ndP (rs : List Rc) (p : ByteArray × Int) : Bool := !decide (mk rs p.1 < rs.length) && decide (0 < p.2)
def ndsOf (rs : List Rc) (L : ML) : List Nd := (L.filter (ndP rs)).map fun p => ⟨p.1, p.2⟩
def rdP (rs : List Rc) (L : ML) (x : ByteArray) : Bool := !decide (mk rs x < rs.length) && !decide (getM L x = 0)
def rdsOf (rs : List Rc) (L : ML) (cs : List ByteArray) : List Nd := (cs.filter (rdP rs L)).map fun x => ⟨x, getM L x⟩
theorem nd_inj {a b : ByteArray} {v w : Int} (h : (⟨a, v⟩ : Nd) = ⟨b, w⟩) : a = b ∧ v = w := by injection h with h1 h2; exact ⟨h1, h2⟩
theorem nodup_map_of {α β : Type} {f : α → β} {l : List α} (hf : ∀ a ∈ l, ∀ b ∈ l, f a = f b → a = b) (h : l.Nodup) : (l.map f).Nodup := by
  unfold List.Nodup at *
  rw [List.pairwise_map]
  exact List.Pairwise.imp_of_mem (fun {a b} ha hb hn e => hn (hf a ha b hb e)) h
theorem nds_perm {rs : List Rc} {L : ML} (hn : (L.map Prod.fst).Nodup) (h0 : ∀ x, 0 ≤ getM L x) {cs : List ByteArray} (hc : cs.Nodup) (hin : ∀ x, getM L x ≠ 0 → x ∈ cs) : (ndsOf rs L).Perm (rdsOf rs L cs) := by
  have hL : L.Nodup := by
    unfold List.Nodup at hn ⊢
    rw [List.pairwise_map] at hn
    exact hn.imp fun h e => h (by rw [e])
  refine (List.perm_ext_iff_of_nodup ?_ ?_).2 fun x => ?_
  · exact nodup_map_of (fun a _ b _ e => Prod.ext (nd_inj e).1 (nd_inj e).2) (hL.filter _)
  · exact nodup_map_of (fun a _ b _ e => (nd_inj e).1) (hc.filter _)
  · unfold ndsOf rdsOf
    rw [List.mem_map, List.mem_map]
    constructor
    · rintro ⟨p, hp, rfl⟩
      obtain ⟨h1, h2⟩ := List.mem_filter.1 hp
      have h3 := getM_in hn h1
      unfold ndP at h2
      rw [Bool.and_eq_true, decide_eq_true_eq] at h2
      have h4 : getM L p.1 ≠ 0 := by omega
      refine ⟨p.1, List.mem_filter.2 ⟨hin _ h4, ?_⟩, by rw [h3]⟩
      unfold rdP
      rw [h2.1, decide_eq_false h4]
      rfl
    · rintro ⟨y, hy, rfl⟩
      obtain ⟨h1, h2⟩ := List.mem_filter.1 hy
      unfold rdP at h2
      rw [Bool.and_eq_true, Bool.not_eq_true', Bool.not_eq_true', decide_eq_false_iff_not, decide_eq_false_iff_not] at h2
      have h3 := h0 y
      refine ⟨(y, getM L y), List.mem_filter.2 ⟨getM_ne h2.2, ?_⟩, rfl⟩
      unfold ndP
      rw [decide_eq_false h2.1, decide_eq_true (show 0 < getM L y by omega)]
      rfl
theorem ins_sorted {us : List Nd} (hs : us.Pairwise fun a b => strLt a.c b.c = true) {x : Nd} {k : Nat} (hk : k ≤ us.length) (h1 : ∀ t, t < k → strLt (us.getD t default).c x.c = true) (h2 : k < us.length → strLt (us.getD k default).c x.c = false) (h3 : ∀ y ∈ us, y.c ≠ x.c) :
    (us.take k ++ x :: us.drop k).Pairwise (fun a b => strLt a.c b.c = true) ∧ (us.take k ++ x :: us.drop k).Perm (us ++ [x]) := by
  refine ⟨?_, ?_⟩
  · have hs' := hs
    rw [← List.take_append_drop k us, List.pairwise_append] at hs'
    have hd : ∀ y ∈ us.drop k, strLt x.c y.c = true := fun y hy => by
      have hkl : k < us.length := by
        rcases Nat.lt_or_ge k us.length with h | h
        · exact h
        · rw [List.drop_eq_nil_of_le h] at hy; cases hy
      have h4 := h2 hkl
      rw [ygetD_of hkl] at h4
      have h5 : strLt x.c us[k].c = true := strLt_con h4 (by
        cases he : strEq us[k].c x.c with
        | false => rfl
        | true => exact absurd ((strEq_iff _ _).1 he) (h3 _ (List.getElem_mem _)))
      have hdd := List.drop_eq_getElem_cons hkl
      rw [hdd] at hy hs'
      rcases List.mem_cons.1 hy with rfl | hy
      · exact h5
      · exact strLt_trans h5 ((List.pairwise_cons.1 hs'.2.1).1 y hy)
    refine List.pairwise_append.2 ⟨hs'.1, List.pairwise_cons.2 ⟨hd, hs'.2.1⟩, fun a ha b hb => ?_⟩
    obtain ⟨t, ht, rfl⟩ := List.getElem_of_mem ha
    rw [List.length_take] at ht
    have hax : strLt (us.take k)[t].c x.c = true := by
      have := h1 t (by omega)
      rw [ygetD_of (by omega)] at this
      simpa using this
    rcases List.mem_cons.1 hb with rfl | hb
    · exact hax
    · exact strLt_trans hax (hd b hb)
  · refine List.perm_middle.trans ?_
    rw [List.take_append_drop]
    exact (List.perm_append_singleton x us).symm
theorem sortN_perm_eq {us vs : List Nd} (hp : us.Perm vs) (hv : (vs.map Nd.c).Nodup) : sortN us = sortN vs := by
  refine sortN_unique (hp.trans (sortN_perm vs).symm) ?_
  have hn : ((sortN vs).map Nd.c).Nodup := ((sortN_perm vs).map Nd.c).nodup_iff.2 hv
  unfold List.Nodup at hn
  rw [List.pairwise_map] at hn
  refine ((sortN_le vs).and hn).imp fun {a b} h => ?_
  rcases strLt_tot h.2 with h1 | h1
  · exact h1
  · rw [h1] at h; exact absurd h.1 (by decide)
theorem nds_codes {rs : List Rc} {L : ML} (hn : (L.map Prod.fst).Nodup) : ((ndsOf rs L).map Nd.c).Nodup := by
  unfold ndsOf
  rw [List.map_map]
  exact (List.Sublist.map Prod.fst (List.filter_sublist (l := L))).nodup hn
end Go.Proofs.Ytoeghejbgibioaa
