/- Recipes that are run: what the order says (plain). -/
import Derived.Test.YtoeghejbgibioaaZ5
namespace Go.Proofs.Ytoeghejbgibioaa
open Go Go.RowKit
set_option linter.unusedVariables false
set_option linter.unusedSimpArgs false
set_option maxRecDepth 100000

inductive Rch (rs : List Rc) (a : ByteArray) : ByteArray → Prop where
  | refl : Rch rs a a
  | step {b : ByteArray} {x : Nd} (h : Rch rs a b) (hk : mk rs b < rs.length) (hx : x ∈ (rs.getD (mk rs b) default).ins) : Rch rs a x.c
theorem Rch.trans {rs : List Rc} {a b c : ByteArray} (h : Rch rs a b) (k : Rch rs b c) : Rch rs a c := by
  induction k with
  | refl => exact h
  | step _ hk hx ih => exact .step ih hk hx
def Cyc (rs : List Rc) (c : ByteArray) : Prop := ∃ d, mk rs d < rs.length ∧ Rch rs c d ∧ ∃ x ∈ (rs.getD (mk rs d) default).ins, Rch rs x.c d
structure PO (rs : List Rc) (s : VS) : Prop where
  st2 : ∀ k : Nat, s.1.getD k 0 = 2 ↔ (k : Int) ∈ s.2
  nd : s.2.Nodup
  top : ∀ i, i < s.2.length → ∀ k : Nat, s.2.getD i 0 = (k : Int) → ∀ x ∈ (rs.getD k default).ins, mk rs x.c < rs.length → (mk rs x.c : Int) ∈ s.2.take i
structure VT (rs : List Rc) (s s' : VS) : Prop where
  po : PO rs s'
  ent : ∀ j, s'.1.getD j 0 = 1 → s.1.getD j 0 = 1
theorem visL_true {rs : List Rc} {m : Nat} {f : ByteArray → VS → Bool × VS} (hok : ∀ c s, VG rs.length s → VOk rs.length s (f c s).2)
    (hf : ∀ c s s', VG rs.length s → PO rs s → fresh s.1 < m → f c s = (true, s') → VT rs s s' ∧ (mk rs c < rs.length → s'.1.getD (mk rs c) 0 = 2)) :
    ∀ (l : List Nd) (s s' : VS), VG rs.length s → PO rs s → fresh s.1 < m → visL f l s = (true, s') → VT rs s s' ∧ ∀ x ∈ l, mk rs x.c < rs.length → s'.1.getD (mk rs x.c) 0 = 2
  | [], s, s', hg, hp, hm, e => by
    have e' : (true, s) = (true, s') := e
    injection e' with _ e'
    subst e'
    exact ⟨⟨hp, fun _ h => h⟩, fun x hx => absurd hx (by simp)⟩
  | y :: l, s, s', hg, hp, hm, e => by
    unfold visL at e
    have h1 := hok y.c s hg
    cases hq : f y.c s with
    | mk b s1 =>
      rw [hq] at e h1
      cases b with
      | false => injection e with e0 _; cases e0
      | true =>
        obtain ⟨v1, v2⟩ := hf y.c s s1 hg hp hm hq
        have hm1 : fresh s1.1 < m := by have := h1.fr; simp only at this; omega
        obtain ⟨w1, w2⟩ := visL_true hok hf l s1 s' h1.good v1.po hm1 e
        have h2 := visL_ok hok l s1 h1.good
        have e2 : (visL f l s1).2 = s' := by
          have e3 : visL f l s1 = (true, s') := e
          rw [e3]
        rw [e2] at h2
        refine ⟨⟨w1.po, fun j hj => v1.ent j (w1.ent j hj)⟩, fun x hx hk => ?_⟩
        rcases List.mem_cons.1 hx with rfl | hx
        · have h3 := v2 hk
          rw [h2.keep _ (by rw [h3]; decide)]
          exact h3
        · exact w2 x hx hk
theorem take_app_le {α : Type} (l r : List α) {i : Nat} (h : i ≤ l.length) : (l ++ r).take i = l.take i := by rw [List.take_append, show i - l.length = 0 by omega]; simp
theorem visF_true (rs : List Rc) : ∀ (m : Nat) (c : ByteArray) (s s' : VS), VG rs.length s → PO rs s → fresh s.1 < m → visF rs m c s = (true, s') → VT rs s s' ∧ (mk rs c < rs.length → s'.1.getD (mk rs c) 0 = 2)
  | 0, _, _, _, _, _, h, _ => absurd h (by omega)
  | m + 1, c, s, s', hg, hp, hm, e => by
    unfold visF at e
    by_cases h1 : ¬ mk rs c < rs.length ∨ s.1.getD (mk rs c) 0 = 2
    · rw [if_pos h1] at e
      injection e with _ e
      subst e
      exact ⟨⟨hp, fun _ h => h⟩, fun hk => by
        rcases h1 with h1 | h1
        · exact absurd hk h1
        · exact h1⟩
    rw [if_neg h1] at e
    by_cases h2 : s.1.getD (mk rs c) 0 = 1
    · rw [if_pos h2] at e
      injection e with e _
      cases e
    rw [if_neg h2] at e
    have hk : mk rs c < rs.length := by
      by_cases h : mk rs c < rs.length
      · exact h
      · exact absurd (.inl h) h1
    have hks : mk rs c < s.1.length := by rw [hg.1]; exact hk
    have h0 : s.1.getD (mk rs c) 0 = 0 := by
      rcases hg.2 (mk rs c) with h | h | h
      · exact h
      · exact absurd h h2
      · exact absurd (.inr h) h1
    have hfr := fresh_set hks h0 (v := 1) (by decide)
    have hok := visL_ok (visF_ok rs m) (rs.getD (mk rs c) default).ins (s.1.set (mk rs c) 1, s.2) (hg.set _ (.inl rfl) _)
    have hp1 : PO rs (s.1.set (mk rs c) 1, s.2) := by
      refine ⟨fun j => ?_, hp.nd, hp.top⟩
      show (s.1.set (mk rs c) 1).getD j 0 = 2 ↔ _
      rw [getD_set]
      split
      · rename_i hj
        obtain ⟨rfl, _⟩ := hj
        refine ⟨fun h => absurd h (by decide), fun h => ?_⟩
        have := (hp.st2 (mk rs c)).2 h
        rw [h0] at this
        exact absurd this (by decide)
      · exact hp.st2 j
    cases hq : visL (visF rs m) (rs.getD (mk rs c) default).ins (s.1.set (mk rs c) 1, s.2) with
    | mk b s1 =>
      rw [hq] at e hok
      cases b with
      | false => injection e with e _; cases e
      | true =>
        injection e with _ e
        obtain ⟨v1, v2⟩ := visL_true (visF_ok rs m) (visF_true rs m) _ _ s1 (hg.set _ (.inl rfl) _) hp1 (by simp only; omega) hq
        have hks1 : mk rs c < s1.1.length := by rw [hok.good.1]; exact hk
        have hk1 : s1.1.getD (mk rs c) 0 = 1 := by
          have h3 : (s.1.set (mk rs c) 1).getD (mk rs c) 0 = 1 := by rw [getD_set, if_pos ⟨rfl, hks⟩]
          have := hok.keep (mk rs c) (by show (s.1.set (mk rs c) 1).getD (mk rs c) 0 ≠ 0; rw [h3]; decide)
          rw [this]
          exact h3
        have hni : ((mk rs c : Nat) : Int) ∉ s1.2 := fun h => by
          have := (v1.po.st2 (mk rs c)).2 h
          rw [hk1] at this
          exact absurd this (by decide)
        subst e
        refine ⟨⟨⟨fun j => ?_, ?_, fun i hi k hik x hx hxk => ?_⟩, fun j hj => ?_⟩, fun _ => ?_⟩
        · show (s1.1.set (mk rs c) 2).getD j 0 = 2 ↔ (j : Int) ∈ s1.2 ++ [(mk rs c : Int)]
          rw [getD_set, List.mem_append, List.mem_singleton]
          split
          · rename_i hj
            obtain ⟨rfl, _⟩ := hj
            simp
          · rename_i hj
            rw [v1.po.st2 j]
            refine ⟨.inl, fun h => ?_⟩
            rcases h with h | h
            · exact h
            · have : j = mk rs c := by omega
              subst this
              exact absurd ⟨rfl, hks1⟩ hj
        · show (s1.2 ++ [(mk rs c : Int)]).Nodup
          rw [List.nodup_append]
          refine ⟨v1.po.nd, by simp, fun a ha b hb => ?_⟩
          rw [List.mem_singleton] at hb
          subst hb
          intro hab
          subst hab
          exact hni ha
        · have hi' : i < s1.2.length + 1 := by
            have : i < (s1.2 ++ [(mk rs c : Int)]).length := hi
            rw [List.length_append, List.length_singleton] at this
            exact this
          have hik' : (s1.2 ++ [(mk rs c : Int)]).getD i 0 = (k : Int) := hik
          show _ ∈ (s1.2 ++ [(mk rs c : Int)]).take i
          rw [take_app_le _ _ (by omega)]
          by_cases hil : i < s1.2.length
          · refine v1.po.top i hil k ?_ x hx hxk
            rw [List.getD_eq_getElem?_getD, List.getElem?_append_left hil] at hik'
            rw [List.getD_eq_getElem?_getD]
            exact hik'
          · obtain rfl : i = s1.2.length := by omega
            rw [List.take_length]
            rw [List.getD_eq_getElem?_getD, List.getElem?_append_right (Nat.le_refl _), Nat.sub_self] at hik'
            have : mk rs c = k := by
              have h5 : (mk rs c : Int) = k := by simpa using hik'
              omega
            subst this
            exact (v1.po.st2 _).1 (v2 x hx hxk)
        · have hj' : (s1.1.set (mk rs c) 2).getD j 0 = 1 := hj
          rw [getD_set] at hj'
          split at hj'
          · cases hj'
          · rename_i hne
            have h6 : (s.1.set (mk rs c) 1).getD j 0 = 1 := v1.ent j hj'
            rw [getD_set] at h6
            split at h6
            · rename_i hh
              exact absurd ⟨hh.1, by rw [hok.good.1, ← hg.1]; exact hh.2⟩ hne
            · exact h6
        · show (s1.1.set (mk rs c) 2).getD (mk rs c) 0 = 2
          rw [getD_set, if_pos ⟨rfl, hks1⟩]
theorem visL_false {rs : List Rc} {m : Nat} {f : ByteArray → VS → Bool × VS} (hok : ∀ c s, VG rs.length s → VOk rs.length s (f c s).2)
    (ht : ∀ c s s', VG rs.length s → PO rs s → fresh s.1 < m → f c s = (true, s') → VT rs s s' ∧ (mk rs c < rs.length → s'.1.getD (mk rs c) 0 = 2))
    (hf : ∀ c s s', VG rs.length s → PO rs s → fresh s.1 < m → (∀ k, s.1.getD k 0 = 1 → ∃ x ∈ (rs.getD k default).ins, Rch rs x.c c) → f c s = (false, s') → Cyc rs c) :
    ∀ (l : List Nd) (s s' : VS), VG rs.length s → PO rs s → fresh s.1 < m → (∀ y ∈ l, ∀ k, s.1.getD k 0 = 1 → ∃ x ∈ (rs.getD k default).ins, Rch rs x.c y.c) → visL f l s = (false, s') → ∃ y ∈ l, Cyc rs y.c
  | [], s, s', hg, hp, hm, he, e => by
    have e' : (true, s) = (false, s') := e
    injection e' with e' _
    cases e'
  | y :: l, s, s', hg, hp, hm, he, e => by
    unfold visL at e
    have h1 := hok y.c s hg
    cases hq : f y.c s with
    | mk b s1 =>
      rw [hq] at e h1
      cases b with
      | false => exact ⟨y, by simp, hf y.c s s1 hg hp hm (he y (by simp)) hq⟩
      | true =>
        obtain ⟨v1, _⟩ := ht y.c s s1 hg hp hm hq
        have hm1 : fresh s1.1 < m := by have := h1.fr; simp only at this; omega
        obtain ⟨z, hz, hc⟩ := visL_false hok ht hf l s1 s' h1.good v1.po hm1 (fun z hz k hk => he z (by simp [hz]) k (v1.ent k hk)) e
        exact ⟨z, by simp [hz], hc⟩
theorem visF_false (rs : List Rc) : ∀ (m : Nat) (c : ByteArray) (s s' : VS), VG rs.length s → PO rs s → fresh s.1 < m → (∀ k, s.1.getD k 0 = 1 → ∃ x ∈ (rs.getD k default).ins, Rch rs x.c c) → visF rs m c s = (false, s') → Cyc rs c
  | 0, _, _, _, _, _, h, _, _ => absurd h (by omega)
  | m + 1, c, s, s', hg, hp, hm, he, e => by
    unfold visF at e
    by_cases h1 : ¬ mk rs c < rs.length ∨ s.1.getD (mk rs c) 0 = 2
    · rw [if_pos h1] at e
      injection e with e _
      cases e
    rw [if_neg h1] at e
    have hk : mk rs c < rs.length := by
      by_cases h : mk rs c < rs.length
      · exact h
      · exact absurd (.inl h) h1
    by_cases h2 : s.1.getD (mk rs c) 0 = 1
    · obtain ⟨x, hx, hr⟩ := he _ h2
      exact ⟨c, hk, .refl, x, hx, hr⟩
    rw [if_neg h2] at e
    have hks : mk rs c < s.1.length := by rw [hg.1]; exact hk
    have h0 : s.1.getD (mk rs c) 0 = 0 := by
      rcases hg.2 (mk rs c) with h | h | h
      · exact h
      · exact absurd h h2
      · exact absurd (.inr h) h1
    have hfr := fresh_set hks h0 (v := 1) (by decide)
    have hp1 : PO rs (s.1.set (mk rs c) 1, s.2) := by
      refine ⟨fun j => ?_, hp.nd, hp.top⟩
      show (s.1.set (mk rs c) 1).getD j 0 = 2 ↔ _
      rw [getD_set]
      split
      · rename_i hj
        obtain ⟨rfl, _⟩ := hj
        refine ⟨fun h => absurd h (by decide), fun h => ?_⟩
        have := (hp.st2 (mk rs c)).2 h
        rw [h0] at this
        exact absurd this (by decide)
      · exact hp.st2 j
    cases hq : visL (visF rs m) (rs.getD (mk rs c) default).ins (s.1.set (mk rs c) 1, s.2) with
    | mk b s1 =>
      rw [hq] at e
      cases b with
      | true => injection e with e _; cases e
      | false =>
        obtain ⟨y, hy, d, hd, hr, hx⟩ := visL_false (visF_ok rs m) (visF_true rs m) (visF_false rs m) _ _ s1 (hg.set _ (.inl rfl) _) hp1 (by simp only; omega) (fun y hy k hk1 => by
          have hk2 : (s.1.set (mk rs c) 1).getD k 0 = 1 := hk1
          rw [getD_set] at hk2
          split at hk2
          · rename_i hj
            obtain ⟨rfl, _⟩ := hj
            exact ⟨y, hy, .refl⟩
          · obtain ⟨x, hx, hr⟩ := he k hk2
            exact ⟨x, hx, .step hr hk hy⟩) hq
        exact ⟨d, hd, (Rch.step .refl hk hy).trans hr, hx⟩
structure Ord (rs : List Rc) (c : ByteArray) (od : List Int) : Prop where
  nd : od.Nodup
  rng : ∀ x ∈ od, 0 ≤ x ∧ x < (rs.length : Int)
  back : ∀ i j, i ≤ j → j < od.length → ∀ x ∈ (rs.getD (od.getD j 0).toNat default).ins, (mk rs x.c : Int) ≠ od.getD i 0
  all : ∀ b, Rch rs c b → mk rs b < rs.length → (mk rs b : Int) ∈ od
  only : ∃ r : ByteArray → Nat, ∀ b x, Rch rs c b → mk rs b < rs.length → x ∈ (rs.getD (mk rs b) default).ins → r x.c < r b
theorem start_po (rs : List Rc) : VG rs.length (List.replicate rs.length (0 : Int), ([] : List Int)) ∧ PO rs (List.replicate rs.length (0 : Int), []) ∧ fresh (List.replicate rs.length (0 : Int)) = rs.length := by
  have h0 : ∀ k, (List.replicate rs.length (0 : Int)).getD k 0 = 0 := fun k => by
    rw [List.getD_eq_getElem?_getD, List.getElem?_replicate]
    split <;> rfl
  refine ⟨⟨by simp, fun k => .inl (h0 k)⟩, ⟨fun k => ?_, by simp, fun i hi => absurd hi (by simp)⟩, ?_⟩
  · show (List.replicate rs.length (0 : Int)).getD k 0 = 2 ↔ _
    rw [h0]
    simp
  · unfold fresh
    rw [List.countP_replicate]
    simp
theorem idxOf_take {l : List Int} {a : Int} {i : Nat} (h : a ∈ l.take i) : l.idxOf a < i := by
  have h1 : (l.take i).idxOf a < (l.take i).length := List.idxOf_lt_length_of_mem h
  have h2 : l.idxOf a = (l.take i).idxOf a := by
    conv => lhs; rw [← List.take_append_drop i l]
    rw [List.idxOf_append, if_pos h]
  rw [List.length_take] at h1
  omega
theorem nd_at {α : Type} {l : List α} (h : l.Nodup) {i j : Nat} {hi : i < l.length} {hj : j < l.length} (e : l[i] = l[j]) : i = j := by
  have hq := List.pairwise_iff_getElem.1 h
  rcases Nat.lt_trichotomy i j with h1 | h1 | h1
  · exact absurd e (hq i j hi hj h1)
  · exact h1
  · exact absurd e.symm (hq j i hj hi h1)
theorem idx_nd {l : List Int} (h : l.Nodup) {i : Nat} (hi : i < l.length) : l.idxOf l[i] = i := nd_at h (List.getElem_idxOf (List.idxOf_lt_length_of_mem (List.getElem_mem hi)))
theorem po_all {rs : List Rc} {c : ByteArray} {s : VS} (h : PO rs s) (hc : mk rs c < rs.length → (mk rs c : Int) ∈ s.2) {b : ByteArray} (hr : Rch rs c b) (hb : mk rs b < rs.length) : (mk rs b : Int) ∈ s.2 := by
  induction hr with
  | refl => exact hc hb
  | step h1 hk hx ih =>
    have h2 := ih hk
    obtain ⟨i, hi, he⟩ := List.getElem_of_mem h2
    have h3 := h.top i hi _ (by rw [List.getD_eq_getElem?_getD, List.getElem?_eq_getElem hi]; exact he) _ hx hb
    exact List.mem_of_mem_take h3
theorem ord_of {rs : List Rc} {c : ByteArray} (h : (ordR rs c).1 = true) : Ord rs c (ordL rs c) := by
  obtain ⟨g1, g2, g3⟩ := start_po rs
  cases hq : ordR rs c with
  | mk b s =>
    have h' : b = true := by rw [hq] at h; exact h
    subst h'
    obtain ⟨v1, v2⟩ := visF_true rs (rs.length + 1) c _ s g1 g2 (by simp only; omega) hq
    have hL : ordL rs c = s.2.reverse := by unfold ordL; rw [if_pos h, hq]
    have hc : mk rs c < rs.length → (mk rs c : Int) ∈ s.2 := fun hk => (v1.po.st2 _).1 (v2 hk)
    have hall := fun b (hr : Rch rs c b) hb => po_all v1.po hc hr hb
    have htop := v1.po.top
    refine ⟨by rw [hL]; exact (List.reverse_perm s.2).nodup_iff.2 v1.po.nd, ordL_rng rs c, fun i j hij hj x hx he => ?_, fun b hr hb => by rw [hL]; exact List.mem_reverse.2 (hall b hr hb), fun b => if mk rs b < rs.length then s.2.idxOf (mk rs b : Int) + 1 else 0, fun b x hr hb hx => ?_⟩
    · have hrng := ordL_rng rs c ((ordL rs c).getD j 0) (ygetD_in (α := Int) hj)
      rw [hL] at hj hx he hrng
      rw [List.length_reverse] at hj
      have e1 : ∀ t, t < s.2.length → s.2.reverse.getD t 0 = s.2.getD (s.2.length - 1 - t) 0 := fun t ht => by
        rw [List.getD_eq_getElem?_getD, List.getD_eq_getElem?_getD, List.getElem?_reverse ht]
      rw [e1 j hj] at hx hrng
      rw [e1 i (by omega)] at he
      have hrx : mk rs x.c < rs.length := by
        have h5 := ordL_rng rs c ((ordL rs c).getD i 0) (ygetD_in (α := Int) (by rw [hL, List.length_reverse]; omega))
        rw [hL, e1 i (by omega), ← he] at h5
        omega
      have h6 := htop (s.2.length - 1 - j) (by omega) (s.2.getD (s.2.length - 1 - j) 0).toNat (by omega) x hx hrx
      have h7 := idxOf_take h6
      rw [he] at h7
      have h8 : s.2.length - 1 - i < s.2.length := by omega
      have h9 : s.2.idxOf (s.2.getD (s.2.length - 1 - i) 0) = s.2.length - 1 - i := by
        rw [List.getD_eq_getElem?_getD, List.getElem?_eq_getElem h8, Option.getD_some]
        exact idx_nd v1.po.nd _
      omega
    · show (if mk rs x.c < rs.length then s.2.idxOf (mk rs x.c : Int) + 1 else 0) < (if mk rs b < rs.length then s.2.idxOf (mk rs b : Int) + 1 else 0)
      rw [if_pos hb]
      split
      · rename_i hx2
        have h2 := hall b hr hb
        obtain ⟨i, hi, he⟩ := List.getElem_of_mem h2
        have h3 := htop i hi (mk rs b) (by rw [List.getD_eq_getElem?_getD, List.getElem?_eq_getElem hi]; exact he) x hx hx2
        have h4 := idxOf_take h3
        have h5 : s.2.idxOf (mk rs b : Int) = i := by rw [← he]; exact idx_nd v1.po.nd _
        omega
      · omega
theorem cyc_of {rs : List Rc} {c : ByteArray} (h : (ordR rs c).1 = false) : ∃ S : ByteArray → Prop, (∃ d, S d) ∧ (∀ e, S e → Rch rs c e) ∧ ∀ e, S e → ∃ b, S b ∧ mk rs b < rs.length ∧ ∃ x ∈ (rs.getD (mk rs b) default).ins, x.c = e := by
  obtain ⟨g1, g2, g3⟩ := start_po rs
  cases hq : ordR rs c with
  | mk b s =>
    have h' : b = false := by rw [hq] at h; exact h
    subst h'
    obtain ⟨d, hd, hr, x, hx, hxd⟩ := visF_false rs (rs.length + 1) c _ s g1 g2 (by simp only; omega) (fun k hk => by
      have : (List.replicate rs.length (0 : Int)).getD k 0 = 1 := hk
      rw [List.getD_eq_getElem?_getD, List.getElem?_replicate] at this
      split at this <;> cases this) hq
    refine ⟨fun e => Rch rs d e ∧ Rch rs e d, ⟨d, .refl, .refl⟩, fun e he => hr.trans he.1, fun e he => ?_⟩
    have hlast : ∀ a e, Rch rs d a → Rch rs a e → Rch rs e d → a = e ∨ ∃ b, (Rch rs d b ∧ Rch rs b d) ∧ mk rs b < rs.length ∧ ∃ x ∈ (rs.getD (mk rs b) default).ins, x.c = e := fun a e h1 h2 h3 => by
      cases h2 with
      | refl => exact .inl rfl
      | step h4 hk hx => exact .inr ⟨_, ⟨h1.trans h4, (Rch.step .refl hk hx).trans h3⟩, hk, _, hx, rfl⟩
    rcases hlast d e .refl he.1 he.2 with rfl | h1
    · rcases hlast x.c d (.step .refl hd hx) hxd .refl with h2 | h2
      · exact ⟨d, ⟨.refl, .refl⟩, hd, x, hx, h2⟩
      · exact h2
    · exact h1
theorem visL_from {rs : List Rc} {f : ByteArray → VS → Bool × VS} (hf : ∀ c s, ∀ x ∈ (f c s).2.2, x ∈ s.2 ∨ ∃ b, Rch rs c b ∧ mk rs b < rs.length ∧ x = (mk rs b : Int)) : ∀ (l : List Nd) (s : VS), ∀ x ∈ (visL f l s).2.2, x ∈ s.2 ∨ ∃ y ∈ l, ∃ b, Rch rs y.c b ∧ mk rs b < rs.length ∧ x = (mk rs b : Int)
  | [], s, x, hx => .inl hx
  | y :: l, s, x, hx => by
    have h1 := hf y.c s
    unfold visL at hx
    cases hq : f y.c s with
    | mk b s1 =>
      rw [hq] at hx h1
      have h2 : x ∈ s1.2 → x ∈ s.2 ∨ ∃ z ∈ y :: l, ∃ b, Rch rs z.c b ∧ mk rs b < rs.length ∧ x = (mk rs b : Int) := fun hh => by
        rcases h1 x hh with h3 | h3
        · exact .inl h3
        · exact .inr ⟨y, by simp, h3⟩
      cases b with
      | false => exact h2 hx
      | true =>
        rcases visL_from hf l s1 x hx with h3 | ⟨z, hz, h3⟩
        · exact h2 h3
        · exact .inr ⟨z, by simp [hz], h3⟩
theorem visF_from (rs : List Rc) : ∀ (m : Nat) (c : ByteArray) (s : VS), ∀ x ∈ (visF rs m c s).2.2, x ∈ s.2 ∨ ∃ b, Rch rs c b ∧ mk rs b < rs.length ∧ x = (mk rs b : Int)
  | 0, _, s, x, hx => .inl hx
  | m + 1, c, s, x, hx => by
    unfold visF at hx
    by_cases h1 : ¬ mk rs c < rs.length ∨ s.1.getD (mk rs c) 0 = 2
    · rw [if_pos h1] at hx
      exact .inl hx
    rw [if_neg h1] at hx
    have hk : mk rs c < rs.length := by
      by_cases h : mk rs c < rs.length
      · exact h
      · exact absurd (.inl h) h1
    by_cases h2 : s.1.getD (mk rs c) 0 = 1
    · rw [if_pos h2] at hx
      exact .inl hx
    rw [if_neg h2] at hx
    have h3 := visL_from (visF_from rs m) (rs.getD (mk rs c) default).ins (s.1.set (mk rs c) 1, s.2) x
    cases hq : visL (visF rs m) (rs.getD (mk rs c) default).ins (s.1.set (mk rs c) 1, s.2) with
    | mk b s1 =>
      rw [hq] at hx h3
      have h4 : x ∈ s1.2 → x ∈ s.2 ∨ ∃ b, Rch rs c b ∧ mk rs b < rs.length ∧ x = (mk rs b : Int) := fun hh => by
        rcases h3 hh with h5 | ⟨y, hy, b, hb, h6⟩
        · exact .inl h5
        · exact .inr ⟨b, (Rch.step .refl hk hy).trans hb, h6⟩
      cases b with
      | false => exact h4 hx
      | true =>
        have hx' : x ∈ s1.2 ++ [(mk rs c : Int)] := hx
        rcases List.mem_append.1 hx' with h5 | h5
        · exact h4 h5
        · rw [List.mem_singleton] at h5
          exact .inr ⟨c, .refl, hk, h5⟩
theorem ord_from {rs : List Rc} {c : ByteArray} : ∀ k ∈ ordL rs c, ∃ b, Rch rs c b ∧ mk rs b < rs.length ∧ k = (mk rs b : Int) := fun k hk => by
  unfold ordL at hk
  split at hk
  · rcases visF_from rs (rs.length + 1) c (List.replicate rs.length 0, []) k (List.mem_reverse.1 hk) with h | h
    · cases h
    · exact h
  · cases hk
end Go.Proofs.Ytoeghejbgibioaa
