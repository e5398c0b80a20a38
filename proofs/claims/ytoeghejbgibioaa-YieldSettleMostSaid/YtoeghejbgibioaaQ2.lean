/- The greatest flow by paths, plain law: the search, the path, what is moved along it. -/
import Derived.Test.YtoeghejbgibioaaQ1
namespace Go.Proofs.Ytoeghejbgibioaa
open Go Go.RowKit
set_option linter.unusedVariables false
set_option linter.unusedSimpArgs false

structure MS where
  hv : List Int
  lv : List Int
  F : Nat → Nat → Int
abbrev Fw := Nat → Nat → Int
def updF (F : Fw) (i k : Nat) (d : Int) : Fw := fun a b => if a = i ∧ b = k then F a b + d else F a b
theorem updF_row (F : Fw) (i k : Nat) (d : Int) {n : Nat} (hk : k < n) (a : Nat) : sN n (updF F i k d a) = sN n (F a) + if a = i then d else 0 := by
  by_cases h : a = i
  · rw [if_pos h, ← sN_upd n (F a) k d hk]
    refine sN_congr n fun b _ => ?_
    unfold updF
    by_cases hb : b = k
    · rw [if_pos ⟨h, hb⟩, if_pos hb]
    · rw [if_neg (fun e => hb e.2), if_neg hb]
  · rw [if_neg h, Int.add_zero]
    refine sN_congr n fun b _ => ?_
    unfold updF
    rw [if_neg (fun e => h e.1)]
theorem updF_col (F : Fw) (i k : Nat) (d : Int) {m : Nat} (hi : i < m) (b : Nat) : sN m (fun a => updF F i k d a b) = sN m (fun a => F a b) + if b = k then d else 0 := by
  by_cases h : b = k
  · rw [if_pos h, ← sN_upd m (fun a => F a b) i d hi]
    refine sN_congr m fun a _ => ?_
    unfold updF
    by_cases ha : a = i
    · rw [if_pos ⟨ha, h⟩, if_pos ha]
    · rw [if_neg (fun e => ha e.1), if_neg ha]
  · rw [if_neg h, Int.add_zero]
    refine sN_congr m fun a _ => ?_
    unfold updF
    rw [if_neg (fun e => h e.2)]
section
variable (is es : List Dt) (af bf : Int)
abbrev InM (i k : Nat) : Prop := inW (is.getD i default) (es.getD k default) af bf
structure MOk (s : MS) (T : Int) : Prop where
  hl : s.hv.length = is.length
  ll : s.lv.length = es.length
  h0 : ∀ i, i < is.length → 0 ≤ s.hv.getD i 0
  l0 : ∀ k, k < es.length → 0 ≤ s.lv.getD k 0
  f0 : ∀ i, i < is.length → ∀ k, k < es.length → 0 ≤ s.F i k
  fW : ∀ i, i < is.length → ∀ k, k < es.length → 0 < s.F i k → InM is es af bf i k
  row : ∀ i, i < is.length → sN es.length (s.F i) = (is.getD i default).q - s.hv.getD i 0
  col : ∀ k, k < es.length → sN is.length (fun i => s.F i k) = (es.getD k default).q - s.lv.getD k 0
  tot : T = sN is.length (fun i => (is.getD i default).q - s.hv.getD i 0)
structure BOk (s : MS) (fI fE qu : List Int) : Prop where
  il : fI.length = is.length
  el : fE.length = es.length
  fi : ∀ i, i < is.length → fI.getD i 0 = 0 ∨ (fI.getD i 0 = -1 ∧ 0 < s.hv.getD i 0) ∨ ∃ k t t', k < es.length ∧ fI.getD i 0 = (k : Int) + 1 ∧ 0 < s.F i k ∧ t' < t ∧ t < qu.length ∧ qu.getD t 0 = i ∧ qu.getD t' 0 = (is.length : Int) + k
  fe : ∀ k, k < es.length → fE.getD k 0 = 0 ∨ ∃ x t t', x < is.length ∧ fE.getD k 0 = (x : Int) + 1 ∧ InM is es af bf x k ∧ t' < t ∧ t < qu.length ∧ qu.getD t 0 = (is.length : Int) + k ∧ qu.getD t' 0 = x
  si : ∀ i, i < is.length → fI.getD i 0 ≠ 0 → (i : Int) ∈ qu
  se : ∀ k, k < es.length → fE.getD k 0 ≠ 0 → (is.length : Int) + k ∈ qu
  qr : ∀ x ∈ qu, (∃ i : Nat, i < is.length ∧ x = i ∧ fI.getD i 0 ≠ 0) ∨ ∃ k : Nat, k < es.length ∧ x = (is.length : Int) + k ∧ fE.getD k 0 ≠ 0
  nd : qu.Nodup
structure PrOk (s : MS) (fI fE qu : List Int) (q : Nat) : Prop where
  im : ∀ t, t < q → ∀ x, x < is.length → qu.getD t 0 = x → ∀ k, k < es.length → InM is es af bf x k → fE.getD k 0 ≠ 0
  ex : ∀ t, t < q → ∀ k, k < es.length → qu.getD t 0 = (is.length : Int) + k → s.lv.getD k 0 = 0 ∧ ∀ i, i < is.length → 0 < s.F i k → fI.getD i 0 ≠ 0
end
theorem mnd_le {C K : List Int} : C.Nodup → (∀ c ∈ C, c ∈ K) → C.length ≤ K.length := by
  induction C generalizing K with
  | nil => exact fun _ _ => Nat.zero_le _
  | cons c C ih =>
    intro h hs
    have h1 := List.nodup_cons.1 h
    have h2 := ih (K := K.erase c) h1.2 (fun x hx => (List.mem_erase_of_ne (fun e : x = c => h1.1 (e ▸ hx))).2 (hs x (List.mem_cons_of_mem _ hx)))
    have h3 := hs c List.mem_cons_self
    rw [List.length_erase_of_mem h3] at h2
    have h4 := List.length_pos_of_mem h3
    simp only [List.length_cons]
    omega
theorem getD_app {qu : List Int} {x : Int} {t : Nat} (h : t < qu.length) : (qu ++ [x]).getD t 0 = qu.getD t 0 := by
  rw [List.getD_eq_getElem?_getD, List.getD_eq_getElem?_getD, List.getElem?_append_left h]
theorem getD_new {qu : List Int} {x : Int} : (qu ++ [x]).getD qu.length 0 = x := by simp [List.getD_eq_getElem?_getD]
theorem getD_mem {qu : List Int} {t : Nat} (h : t < qu.length) : qu.getD t 0 ∈ qu := by
  rw [List.getD_eq_getElem?_getD, List.getElem?_eq_getElem h]
  exact List.getElem_mem h
theorem mem_getD {qu : List Int} {x : Int} (h : x ∈ qu) : ∃ t, t < qu.length ∧ qu.getD t 0 = x := by
  obtain ⟨t, ht, rfl⟩ := List.getElem_of_mem h
  exact ⟨t, ht, by rw [List.getD_eq_getElem?_getD, List.getElem?_eq_getElem ht]; rfl⟩
theorem nd_inj {qu : List Int} (h : qu.Nodup) {s t : Nat} (hs : s < qu.length) (ht : t < qu.length) (e : qu.getD s 0 = qu.getD t 0) : s = t := by
  rw [List.getD_eq_getElem?_getD, List.getD_eq_getElem?_getD, List.getElem?_eq_getElem hs, List.getElem?_eq_getElem ht] at e
  simp only [Option.getD_some] at e
  rcases Nat.lt_trichotomy s t with h1 | h1 | h1
  · exact absurd e (List.pairwise_iff_getElem.1 h s t hs ht h1)
  · exact h1
  · exact absurd e.symm (List.pairwise_iff_getElem.1 h t s ht hs h1)
variable {is es : List Dt} {af bf : Int}
theorem BOk.len {s : MS} {fI fE qu : List Int} (h : BOk is es af bf s fI fE qu) : qu.length ≤ is.length + es.length := by
  have := mnd_le (K := (List.range (is.length + es.length)).map fun k : Nat => (k : Int)) h.nd (fun x hx => by
    rcases h.qr x hx with ⟨i, hi, rfl, _⟩ | ⟨k, hk, rfl, _⟩
    · exact List.mem_map.2 ⟨i, List.mem_range.2 (by omega), rfl⟩
    · exact List.mem_map.2 ⟨is.length + k, List.mem_range.2 (by omega), by push_cast; rfl⟩)
  simpa using this
theorem BOk.nil (s : MS) : BOk is es af bf s (List.replicate is.length 0) (List.replicate es.length 0) [] := by
  have h0 : ∀ (n i : Nat), (List.replicate n (0 : Int)).getD i 0 = 0 := fun n i => by
    rw [List.getD_eq_getElem?_getD, List.getElem?_replicate]
    split <;> rfl
  exact ⟨by simp, by simp, fun i _ => .inl (h0 _ _), fun k _ => .inl (h0 _ _), fun i _ h => absurd (h0 _ _) h, fun k _ h => absurd (h0 _ _) h, fun x hx => (by cases hx), List.nodup_nil⟩
theorem BOk.addI {s : MS} {fI fE qu : List Int} (h : BOk is es af bf s fI fE qu) {i : Nat} (hi : i < is.length) (h0 : fI.getD i 0 = 0) {v : Int} (hv : (v = -1 ∧ 0 < s.hv.getD i 0) ∨ ∃ k t', k < es.length ∧ v = (k : Int) + 1 ∧ 0 < s.F i k ∧ t' < qu.length ∧ qu.getD t' 0 = (is.length : Int) + k) :
    BOk is es af bf s (fI.set i v) fE (qu ++ [(i : Int)]) := by
  have hg : ∀ j, (fI.set i v).getD j 0 = if i = j then v else fI.getD j 0 := fun j => by
    rw [mgetD_set]
    by_cases e : i = j
    · rw [if_pos ⟨e, by rw [h.il]; exact hi⟩, if_pos e]
    · rw [if_neg (fun q => e q.1), if_neg e]
  have hv0 : v ≠ 0 := by rcases hv with ⟨e, _⟩ | ⟨k, _, _, e, _⟩ <;> omega
  have hnz : ∀ j, fI.getD j 0 ≠ 0 → (fI.set i v).getD j 0 ≠ 0 := fun j hj => by
    rw [hg]
    split
    · exact hv0
    · exact hj
  refine ⟨by rw [List.length_set]; exact h.il, h.el, fun j hj => ?_, fun k hk => ?_, fun j hj hn => ?_, fun k hk hn => List.mem_append_left _ (h.se k hk hn), fun x hx => ?_, ?_⟩
  · rw [hg]
    by_cases e : i = j
    · subst e
      rw [if_pos rfl]
      rcases hv with hv | ⟨k, t', h1, h2, h3, h4, h5⟩
      · exact .inr (.inl hv)
      · exact .inr (.inr ⟨k, qu.length, t', h1, h2, h3, h4, by simp, getD_new, by rw [getD_app h4]; exact h5⟩)
    · rw [if_neg e]
      rcases h.fi j hj with h1 | h1 | ⟨k, t, t', h1, h2, h3, h4, h5, h6, h7⟩
      · exact .inl h1
      · exact .inr (.inl h1)
      · exact .inr (.inr ⟨k, t, t', h1, h2, h3, h4, by simp; omega, by rw [getD_app h5]; exact h6, by rw [getD_app (by omega)]; exact h7⟩)
  · rcases h.fe k hk with h1 | ⟨x, t, t', h1, h2, h3, h4, h5, h6, h7⟩
    · exact .inl h1
    · exact .inr ⟨x, t, t', h1, h2, h3, h4, by simp; omega, by rw [getD_app h5]; exact h6, by rw [getD_app (by omega)]; exact h7⟩
  · by_cases e : i = j
    · subst e; simp
    · rw [hg, if_neg e] at hn
      exact List.mem_append_left _ (h.si j hj hn)
  · rcases List.mem_append.1 hx with hx | hx
    · rcases h.qr x hx with ⟨j, h1, h2, h3⟩ | h1
      · exact .inl ⟨j, h1, h2, hnz j h3⟩
      · exact .inr h1
    · rw [List.mem_singleton.1 hx]
      exact .inl ⟨i, hi, rfl, by rw [hg, if_pos rfl]; exact hv0⟩
  · refine List.nodup_append.2 ⟨h.nd, by simp, fun a ha b hb => ?_⟩
    rw [List.mem_singleton.1 hb]
    rintro rfl
    rcases h.qr _ ha with ⟨j, h1, h2, h3⟩ | ⟨k, h1, h2, h3⟩
    · obtain rfl : i = j := by omega
      exact h3 h0
    · omega
theorem BOk.addE {s : MS} {fI fE qu : List Int} (h : BOk is es af bf s fI fE qu) {k x t' : Nat} (hk : k < es.length) (h0 : fE.getD k 0 = 0) (hx : x < is.length) (hin : InM is es af bf x k) (ht : t' < qu.length) (hq : qu.getD t' 0 = x) :
    BOk is es af bf s fI (fE.set k ((x : Int) + 1)) (qu ++ [(is.length : Int) + k]) := by
  have hg : ∀ j, (fE.set k ((x : Int) + 1)).getD j 0 = if k = j then (x : Int) + 1 else fE.getD j 0 := fun j => by
    rw [mgetD_set]
    by_cases e : k = j
    · rw [if_pos ⟨e, by rw [h.el]; exact hk⟩, if_pos e]
    · rw [if_neg (fun q => e q.1), if_neg e]
  have hnz : ∀ j, fE.getD j 0 ≠ 0 → (fE.set k ((x : Int) + 1)).getD j 0 ≠ 0 := fun j hj => by
    rw [hg]
    split
    · omega
    · exact hj
  refine ⟨h.il, by rw [List.length_set]; exact h.el, fun j hj => ?_, fun j hj => ?_, fun j hj hn => List.mem_append_left _ (h.si j hj hn), fun j hj hn => ?_, fun y hy => ?_, ?_⟩
  · rcases h.fi j hj with h1 | h1 | ⟨k, t, t', h1, h2, h3, h4, h5, h6, h7⟩
    · exact .inl h1
    · exact .inr (.inl h1)
    · exact .inr (.inr ⟨k, t, t', h1, h2, h3, h4, by simp; omega, by rw [getD_app h5]; exact h6, by rw [getD_app (by omega)]; exact h7⟩)
  · rw [hg]
    by_cases e : k = j
    · subst e
      rw [if_pos rfl]
      exact .inr ⟨x, qu.length, t', hx, rfl, hin, ht, by simp, getD_new, by rw [getD_app ht]; exact hq⟩
    · rw [if_neg e]
      rcases h.fe j hj with h1 | ⟨x, t, t', h1, h2, h3, h4, h5, h6, h7⟩
      · exact .inl h1
      · exact .inr ⟨x, t, t', h1, h2, h3, h4, by simp; omega, by rw [getD_app h5]; exact h6, by rw [getD_app (by omega)]; exact h7⟩
  · by_cases e : k = j
    · subst e; simp
    · rw [hg, if_neg e] at hn
      exact List.mem_append_left _ (h.se j hj hn)
  · rcases List.mem_append.1 hy with hy | hy
    · rcases h.qr y hy with h1 | ⟨j, h1, h2, h3⟩
      · exact .inl h1
      · exact .inr ⟨j, h1, h2, hnz j h3⟩
    · rw [List.mem_singleton.1 hy]
      exact .inr ⟨k, hk, rfl, by rw [hg, if_pos rfl]; omega⟩
  · refine List.nodup_append.2 ⟨h.nd, by simp, fun a ha b hb => ?_⟩
    rw [List.mem_singleton.1 hb]
    rintro rfl
    rcases h.qr _ ha with ⟨j, h1, h2, h3⟩ | ⟨j, h1, h2, h3⟩
    · omega
    · obtain rfl : k = j := by omega
      exact h3 h0
theorem set_nz {l : List Int} {i : Nat} {v : Int} (hv : v ≠ 0) {j : Nat} (hj : l.getD j 0 ≠ 0) : (l.set i v).getD j 0 ≠ 0 := by
  rw [mgetD_set]
  split
  · exact hv
  · exact hj
theorem PrOk.grow {s : MS} {fI fE qu fI' fE' : List Int} {q : Nat} (h : PrOk is es af bf s fI fE qu q) (hq : q ≤ qu.length) (x : Int) (h1 : ∀ j, fI.getD j 0 ≠ 0 → fI'.getD j 0 ≠ 0) (h2 : ∀ j, fE.getD j 0 ≠ 0 → fE'.getD j 0 ≠ 0) : PrOk is es af bf s fI' fE' (qu ++ [x]) q :=
  ⟨fun t ht y hy he k hk hin => h2 k (h.im t ht y hy (by rwa [getD_app (by omega)] at he) k hk hin), fun t ht k hk he => by
    rw [getD_app (by omega)] at he
    obtain ⟨q1, q2⟩ := h.ex t ht k hk he
    exact ⟨q1, fun i hi hf => h1 i (q2 i hi hf)⟩⟩
theorem most_cut {s : MS} {T : Int} {fI fE qu : List Int} (hM : MOk is es af bf s T) (hB : BOk is es af bf s fI fE qu) (hA : ∀ i, i < is.length → 0 < s.hv.getD i 0 → fI.getD i 0 ≠ 0) (hP : PrOk is es af bf s fI fE qu qu.length) {L : List Mt} (hL : Best is es af bf L) : T = totM L := by
  have hT : T = sN is.length (fun i => sN es.length (s.F i)) := by
    rw [hM.tot]
    exact sN_congr _ fun i hi => (hM.row i hi).symm
  have hb : ∀ x ∈ L, 0 ≤ x.b ∧ x.b < es.length := fun x hx => ⟨(hL.dom x hx).2.2.1, (hL.dom x hx).2.2.2.1⟩
  have ha : ∀ x ∈ L, 0 ≤ x.a ∧ x.a < is.length := fun x hx => ⟨(hL.dom x hx).1, (hL.dom x hx).2.1⟩
  have hq : ∀ x ∈ L, 1 ≤ x.q := fun x hx => (hL.dom x hx).2.2.2.2.1
  have h1 : T ≤ totM L := by
    rw [hT]
    exact hL.best s.F hM.f0 hM.fW (fun i hi => by rw [hM.row i hi]; have := hM.h0 i hi; omega) (fun k hk => by rw [hM.col k hk]; have := hM.l0 k hk; omega)
  have h2 : totM L ≤ T := by
    have e : sN is.length (fun i => sN es.length (flM L i)) = totM L := by
      rw [sN_congr is.length fun i _ => fl_row hb i]
      exact in_tot ha
    rw [← e, hT]
    refine cut_le is.length es.length (flM L) s.F (fun i => (is.getD i default).q) (fun k => (es.getD k default).q) (InM is es af bf) (fun i => fI.getD i 0 ≠ 0) (fun k => fE.getD k 0 ≠ 0)
      (fun i _ k _ => (fl_nn hq i k).1) (fun i hi k hk hp => ?_) (fun i hi => by rw [fl_row hb]; exact hL.rows i hi) (fun k hk => by rw [fl_col ha]; exact hL.cols k hk) hM.f0 (fun i hi hn => ?_) (fun k hk hE => ?_) (fun i hi k hk hI hin => ?_) (fun i hi k hk hE hf => ?_)
    · obtain ⟨x, hx, e1, e2⟩ := (fl_nn hq i k).2 hp
      have := (hL.dom x hx).2.2.2.2.2
      rwa [e1, e2, Int.toNat_natCast, Int.toNat_natCast] at this
    · have h3 := hM.h0 i hi
      have h4 : ¬ 0 < s.hv.getD i 0 := fun h => hn (hA i hi h)
      rw [hM.row i hi]
      omega
    · obtain ⟨t, ht, e⟩ := mem_getD (hB.se k hk hE)
      have := (hP.ex t ht k hk e).1
      rw [hM.col k hk]
      omega
    · obtain ⟨t, ht, e⟩ := mem_getD (hB.si i hi hI)
      exact hP.im t ht i hi e k hk hin
    · obtain ⟨t, ht, e⟩ := mem_getD (hB.se k hk hE)
      exact (hP.ex t ht k hk e).2 i hi hf
  omega
inductive PB (m : Nat) (fI fE qu hv : List Int) (F : Fw) (N : Int) : Nat → Nat → Prop
  | last {t k s i : Nat} (hi : fE.getD k 0 = (i : Int) + 1) (him : i < m) (hs : s < t) (hq : qu.getD s 0 = i) (h1 : fI.getD i 0 = -1) (hb : N ≤ hv.getD i 0) : PB m fI fE qu hv F N t k
  | step {t k s i s' k' : Nat} (hi : fE.getD k 0 = (i : Int) + 1) (him : i < m) (hs : s < t) (hq : qu.getD s 0 = i) (h1 : fI.getD i 0 = (k' : Int) + 1) (hs' : s' < s) (hq' : qu.getD s' 0 = (m : Int) + k') (hb : N ≤ F i k') (h : PB m fI fE qu hv F N s' k') : PB m fI fE qu hv F N t k
theorem PB.keep {m : Nat} {fI fE qu hv : List Int} {F F' : Fw} {N : Int} {t k : Nat} (h : PB m fI fE qu hv F N t k) (hF : ∀ (i s : Nat), s < t → qu.getD s 0 = (i : Int) → ∀ b, F' i b = F i b) : PB m fI fE qu hv F' N t k := by
  induction h with
  | last hi him hs hq h1 hb => exact .last hi him hs hq h1 hb
  | step hi him hs hq h1 hs' hq' hb h ih => exact .step hi him hs hq h1 hs' hq' (by rw [hF _ _ hs hq]; exact hb) (ih fun i s hs2 => hF i s (by omega))
structure MvOk (s : MS) (N : Int) (k : Nat) : Prop where
  hl : s.hv.length = is.length
  ll : s.lv.length = es.length
  h0 : ∀ i, i < is.length → 0 ≤ s.hv.getD i 0
  l0 : ∀ k, k < es.length → 0 ≤ s.lv.getD k 0
  f0 : ∀ i, i < is.length → ∀ k, k < es.length → 0 ≤ s.F i k
  fW : ∀ i, i < is.length → ∀ k, k < es.length → 0 < s.F i k → InM is es af bf i k
  row : ∀ i, i < is.length → sN es.length (s.F i) = (is.getD i default).q - s.hv.getD i 0
  col : ∀ b, b < es.length → sN is.length (fun i => s.F i b) = (es.getD b default).q - s.lv.getD b 0 - if b = k then N else 0
theorem MOk.move {s : MS} {T N : Int} (h : MOk is es af bf s T) {k : Nat} (hk : k < es.length) (hN : N ≤ s.lv.getD k 0) : MvOk (is := is) (es := es) (af := af) (bf := bf) ⟨s.hv, s.lv.set k (s.lv.getD k 0 - N), s.F⟩ N k := by
  have hg : ∀ b, (s.lv.set k (s.lv.getD k 0 - N)).getD b 0 = if k = b then s.lv.getD k 0 - N else s.lv.getD b 0 := fun b => by
    rw [mgetD_set]
    by_cases e : k = b
    · rw [if_pos ⟨e, by rw [h.ll]; exact hk⟩, if_pos e]
    · rw [if_neg (fun q => e q.1), if_neg e]
  refine ⟨h.hl, by simp only [List.length_set]; exact h.ll, h.h0, fun b hb => ?_, h.f0, h.fW, h.row, fun b hb => ?_⟩
  · simp only [hg]
    split
    · omega
    · exact h.l0 b hb
  · simp only [hg]
    have := h.col b hb
    by_cases e : k = b
    · subst e
      rw [if_pos rfl, if_pos rfl, this]
      omega
    · rw [if_neg e, if_neg (fun q => e q.symm), this]
      omega
theorem MvOk.step {s : MS} {N : Int} {k : Nat} (h : MvOk (is := is) (es := es) (af := af) (bf := bf) s N k) (hN : 0 ≤ N) (hk : k < es.length) {i k' : Nat} (hi : i < is.length) (hk' : k' < es.length) (hne : k' ≠ k) (hin : InM is es af bf i k) (hb : N ≤ s.F i k') :
    MvOk (is := is) (es := es) (af := af) (bf := bf) ⟨s.hv, s.lv, updF (updF s.F i k N) i k' (-N)⟩ N k' := by
  have hv : ∀ a b, updF (updF s.F i k N) i k' (-N) a b = if a = i ∧ b = k' then s.F a b - N else if a = i ∧ b = k then s.F a b + N else s.F a b := fun a b => by
    unfold updF
    by_cases e : a = i ∧ b = k'
    · rw [if_pos e, if_pos e, if_neg (fun q => hne (e.2.symm.trans q.2))]
      omega
    · rw [if_neg e, if_neg e]
  refine ⟨h.hl, h.ll, h.h0, h.l0, fun a ha b hb2 => ?_, fun a ha b hb2 hp => ?_, fun a ha => ?_, fun b hb2 => ?_⟩
  · simp only [hv]
    have := h.f0 a ha b hb2
    split
    · rename_i e
      rw [e.1, e.2]
      omega
    · split <;> omega
  · simp only [hv] at hp
    split at hp
    · exact h.fW a ha b hb2 (by omega)
    · split at hp
      · rename_i e
        rw [e.1, e.2]
        exact hin
      · exact h.fW a ha b hb2 hp
  · simp only
    rw [updF_row _ _ _ _ hk', updF_row _ _ _ _ hk, h.row a ha]
    split <;> omega
  · simp only
    rw [updF_col _ _ _ _ hi, updF_col _ _ _ _ hi, h.col b hb2]
    by_cases e1 : b = k
    · have e2 : ¬ b = k' := fun q => hne (q.symm.trans e1)
      simp only [if_pos e1, if_neg e2]
      omega
    · by_cases e2 : b = k'
      · simp only [if_neg e1, if_pos e2]
        omega
      · simp only [if_neg e1, if_neg e2]
        omega
theorem MvOk.last {s : MS} {N : Int} {k : Nat} (h : MvOk (is := is) (es := es) (af := af) (bf := bf) s N k) (hN : 0 ≤ N) (hk : k < es.length) {i : Nat} (hi : i < is.length) (hin : InM is es af bf i k) (hb : N ≤ s.hv.getD i 0) {T : Int} (hT : T = sN is.length (fun i => (is.getD i default).q - s.hv.getD i 0)) :
    MOk is es af bf ⟨s.hv.set i (s.hv.getD i 0 - N), s.lv, updF s.F i k N⟩ (T + N) := by
  have hg : ∀ b, (s.hv.set i (s.hv.getD i 0 - N)).getD b 0 = if i = b then s.hv.getD i 0 - N else s.hv.getD b 0 := fun b => by
    rw [mgetD_set]
    by_cases e : i = b
    · rw [if_pos ⟨e, by rw [h.hl]; exact hi⟩, if_pos e]
    · rw [if_neg (fun q => e q.1), if_neg e]
  refine ⟨by simp only [List.length_set]; exact h.hl, h.ll, fun a ha => ?_, h.l0, fun a ha b hb2 => ?_, fun a ha b hb2 hp => ?_, fun a ha => ?_, fun b hb2 => ?_, ?_⟩
  · simp only [hg]
    split
    · omega
    · exact h.h0 a ha
  · have := h.f0 a ha b hb2
    simp only [updF]
    split <;> omega
  · simp only [updF] at hp
    split at hp
    · rename_i e
      rw [e.1, e.2]
      exact hin
    · exact h.fW a ha b hb2 hp
  · simp only [hg]
    rw [updF_row _ _ _ _ hk, h.row a ha]
    by_cases e : a = i
    · subst e
      rw [if_pos rfl, if_pos rfl]
      omega
    · rw [if_neg e, if_neg (fun q => e q.symm)]
      omega
  · simp only
    rw [updF_col _ _ _ _ hi, h.col b hb2]
    split <;> omega
  · simp only [hg]
    rw [hT, ← sN_upd is.length (fun i => (is.getD i default).q - s.hv.getD i 0) i N hi]
    refine sN_congr _ fun a _ => ?_
    by_cases e : a = i
    · subst e
      rw [if_pos rfl, if_pos rfl]
      omega
    · rw [if_neg e, if_neg (fun q => e q.symm)]
end Go.Proofs.Ytoeghejbgibioaa
