/- Yields: which recipe makes a code (plain). -/
import Derived.Test.YtoeghejbgibioaaY4
namespace Go.Proofs.Ytoeghejbgibioaa
open Go Go.RowKit
set_option linter.unusedVariables false
set_option linter.unusedSimpArgs false
set_option maxRecDepth 100000

def hasC (us : List Nd) (c : ByteArray) : Bool := us.any fun x => decide (x.c = c)
def mk (rs : List Rc) (c : ByteArray) : Nat := rs.findIdx fun r => hasC r.outs c
def mkOne (k : Int) (us : List Nd) (L : ML) : ML := us.foldl (fun L x => if hasM L x.c then L else putM L x.c k) L
def mkT (rs : List Rc) : Nat → ML
  | 0 => []
  | n + 1 => mkOne n (rs.getD n default).outs (mkT rs n)
theorem mkOne_snoc (k : Int) (us : List Nd) (x : Nd) (L : ML) : mkOne k (us ++ [x]) L = if hasM (mkOne k us L) x.c then mkOne k us L else putM (mkOne k us L) x.c k := by unfold mkOne; rw [List.foldl_append]; rfl
theorem hasM_put (L : ML) (s t : ByteArray) (v : Int) : hasM (putM L s v) t = (decide (s = t) || hasM L t) := by
  unfold hasM putM
  rw [List.any_cons]
  by_cases h : s = t
  · simp [h]
  · simp only [h, decide_false, Bool.false_or]
    rw [List.any_filter]
    congr 1
    funext p
    by_cases hp : p.1 = t
    · subst hp
      simp [Ne.symm h]
    · simp [hp]
theorem getM_no {L : ML} {c : ByteArray} (h : hasM L c = false) : getM L c = 0 := by
  unfold hasM at h
  unfold getM
  rw [List.find?_eq_none.2 fun p hp => by
    have := List.any_eq_false.1 h p hp
    simpa using this]
theorem hasC_snoc (us : List Nd) (x : Nd) (c : ByteArray) : hasC (us ++ [x]) c = (hasC us c || decide (x.c = c)) := by simp [hasC]
theorem mkOne_has (k : Int) (L : ML) (c : ByteArray) (us : List Nd) : hasM (mkOne k us L) c = (hasM L c || hasC us c) := by
  refine rev_ind (P := fun us : List Nd => hasM (mkOne k us L) c = (hasM L c || hasC us c)) (by simp [mkOne, hasC]) (fun us x ih => ?_) us
  rw [mkOne_snoc, hasC_snoc]
  by_cases h : hasM (mkOne k us L) x.c = true
  · rw [if_pos h, ih]
    by_cases hc : x.c = c
    · subst hc
      rw [ih] at h
      rw [h]
      simp
    · simp [hc]
  · rw [if_neg h, hasM_put, ih]
    cases hasM L c <;> cases hasC us c <;> by_cases hc : x.c = c <;> simp [hc]
theorem mkOne_get (k : Int) (L : ML) (c : ByteArray) (us : List Nd) : getM (mkOne k us L) c = if hasM L c then getM L c else if hasC us c then k else 0 := by
  refine rev_ind (P := fun us : List Nd => getM (mkOne k us L) c = if hasM L c then getM L c else if hasC us c then k else 0) ?_ (fun us x ih => ?_) us
  · by_cases h : hasM L c = true
    · simp [mkOne, h]
    · have h' : hasM L c = false := by simpa using h
      simp [mkOne, hasC, h', getM_no h']
  · rw [mkOne_snoc, hasC_snoc]
    by_cases h : hasM (mkOne k us L) x.c = true
    · rw [if_pos h, ih]
      by_cases hc : x.c = c
      · subst hc
        rw [mkOne_has] at h
        cases h1 : hasM L x.c <;> cases h2 : hasC us x.c <;> simp_all
      · simp [hc]
    · rw [if_neg h, getM_put]
      rw [mkOne_has] at h
      by_cases hc : x.c = c
      · subst hc
        cases h1 : hasM L x.c <;> cases h2 : hasC us x.c <;> simp_all
      · rw [if_neg hc, ih]
        simp [hc]
theorem len_mkOne (k : Int) (L : ML) (us : List Nd) : (mkOne k us L).length ≤ L.length + us.length := by
  refine rev_ind (P := fun us : List Nd => (mkOne k us L).length ≤ L.length + us.length) (by simp [mkOne]) (fun us x ih => ?_) us
  rw [mkOne_snoc, List.length_append, List.length_singleton]
  split
  · omega
  · have := len_put (mkOne k us L) x.c k
    omega
theorem len_mkT (rs : List Rc) (h : ∀ r ∈ rs, r.outs.length ≤ 8) : ∀ n, n ≤ rs.length → (mkT rs n).length ≤ 8 * n
  | 0, _ => by simp [mkT]
  | n + 1, hn => by
    have ih := len_mkT rs h n (by omega)
    have h1 := len_mkOne n (mkT rs n) (rs.getD n default).outs
    have h2 := h (rs.getD n default) (ygetD_in (by omega))
    show (mkOne n (rs.getD n default).outs (mkT rs n)).length ≤ _
    omega
theorem mk_step (rs : List Rc) (c : ByteArray) {n : Nat} (hn : n < rs.length) (h : n ≤ mk rs c) : hasC (rs.getD n default).outs c = decide (mk rs c = n) := by
  rw [List.getD_eq_getElem?_getD, List.getElem?_eq_getElem hn, Option.getD_some]
  by_cases h1 : mk rs c = n
  · have h2 : mk rs c < rs.length := by omega
    have h3 := List.findIdx_getElem (xs := rs) (p := fun (r : Rc) => hasC r.outs c) (w := h2)
    have e : rs.findIdx (fun r => hasC r.outs c) = n := h1
    simp only [e] at h3
    rw [h3]
    simp [h1]
  · have h2 : n < rs.findIdx (fun r => hasC r.outs c) := by
      have e : rs.findIdx (fun r => hasC r.outs c) = mk rs c := rfl
      omega
    have h3 := List.not_of_lt_findIdx h2
    simp only [h1, decide_false]
    simpa using h3
theorem mkT_has (rs : List Rc) (c : ByteArray) : ∀ n, n ≤ rs.length → hasM (mkT rs n) c = decide (mk rs c < n)
  | 0, _ => by simp [mkT, hasM]
  | n + 1, hn => by
    have ih := mkT_has rs c n (by omega)
    show hasM (mkOne n (rs.getD n default).outs (mkT rs n)) c = _
    rw [mkOne_has, ih]
    by_cases h : mk rs c < n
    · simp [h, show mk rs c < n + 1 by omega]
    · rw [mk_step rs c (by omega) (by omega)]
      by_cases h1 : mk rs c = n
      · simp [h1]
      · simp [h, h1, show ¬ mk rs c < n + 1 by omega]
theorem mkT_get (rs : List Rc) (c : ByteArray) : ∀ n, n ≤ rs.length → getM (mkT rs n) c = if mk rs c < n then (mk rs c : Int) else 0
  | 0, _ => by simp [mkT, getM]
  | n + 1, hn => by
    have ih := mkT_get rs c n (by omega)
    show getM (mkOne n (rs.getD n default).outs (mkT rs n)) c = _
    rw [mkOne_get, mkT_has rs c n (by omega), ih]
    by_cases h : mk rs c < n
    · simp [h, show mk rs c < n + 1 by omega]
    · rw [mk_step rs c (by omega) (by omega)]
      by_cases h1 : mk rs c = n
      · simp [h1]
      · simp [h, h1, show ¬ mk rs c < n + 1 by omega]
abbrev VS := List Int × List Int
def visL (f : ByteArray → VS → Bool × VS) : List Nd → VS → Bool × VS
  | [], s => (true, s)
  | x :: l, s => match f x.c s with
    | (true, s') => visL f l s'
    | (false, s') => (false, s')
def visF (rs : List Rc) : Nat → ByteArray → VS → Bool × VS
  | 0, _, s => (true, s)
  | m + 1, c, s =>
    if ¬ mk rs c < rs.length ∨ s.1.getD (mk rs c) 0 = 2 then (true, s)
    else if s.1.getD (mk rs c) 0 = 1 then (false, s)
    else match visL (visF rs m) (rs.getD (mk rs c) default).ins (s.1.set (mk rs c) 1, s.2) with
      | (true, s') => (true, (s'.1.set (mk rs c) 2, s'.2 ++ [(mk rs c : Int)]))
      | (false, s') => (false, s')
def fresh (l : List Int) : Nat := l.countP fun x => decide (x = 0)
def VG (n : Nat) (s : VS) : Prop := s.1.length = n ∧ ∀ k, s.1.getD k 0 = 0 ∨ s.1.getD k 0 = 1 ∨ s.1.getD k 0 = 2
structure VOk (n : Nat) (s s' : VS) : Prop where
  good : VG n s'
  keep : ∀ k, s.1.getD k 0 ≠ 0 → s'.1.getD k 0 = s.1.getD k 0
  ord : s'.2.length + fresh s'.1 ≤ s.2.length + fresh s.1
  fr : fresh s'.1 ≤ fresh s.1
theorem VOk.refl {n : Nat} {s : VS} (h : VG n s) : VOk n s s := ⟨h, fun _ _ => rfl, Nat.le_refl _, Nat.le_refl _⟩
theorem VOk.trans {n : Nat} {s t u : VS} (h : VOk n s t) (k : VOk n t u) : VOk n s u := ⟨k.good, fun j hj => by rw [k.keep j (by rw [h.keep j hj]; exact hj), h.keep j hj], Nat.le_trans k.ord h.ord, Nat.le_trans k.fr h.fr⟩
theorem visL_ok {n : Nat} {f : ByteArray → VS → Bool × VS} (hf : ∀ c s, VG n s → VOk n s (f c s).2) : ∀ (l : List Nd) (s : VS), VG n s → VOk n s (visL f l s).2
  | [], s, hs => VOk.refl hs
  | x :: l, s, hs => by
    have h := hf x.c s hs
    unfold visL
    cases hq : f x.c s with
    | mk b s' =>
      rw [hq] at h
      cases b with
      | true => exact h.trans (visL_ok hf l s' h.good)
      | false => exact h
theorem fresh_set {l : List Int} {k : Nat} (hk : k < l.length) (h0 : l.getD k 0 = 0) {v : Int} (hv : v ≠ 0) : fresh (l.set k v) + 1 = fresh l := by
  unfold fresh
  rw [List.countP_set hk]
  rw [List.getD_eq_getElem?_getD, List.getElem?_eq_getElem hk, Option.getD_some] at h0
  have h1 : 0 < l.countP fun x => decide (x = 0) := List.countP_pos_iff.2 ⟨l[k], List.getElem_mem hk, by simp [h0]⟩
  simp only [h0, hv, decide_true, decide_false, if_true, if_false, Bool.false_eq_true]
  omega
theorem getD_set (l : List Int) (k j : Nat) (v : Int) : (l.set k v).getD j 0 = if k = j ∧ j < l.length then v else l.getD j 0 := by
  rw [List.getD_eq_getElem?_getD, List.getD_eq_getElem?_getD, List.getElem?_set]
  by_cases h : k = j
  · subst h
    by_cases h1 : k < l.length
    · simp [h1]
    · simp [h1]
  · simp [h]
theorem VG.set {n : Nat} {s : VS} (h : VG n s) (k : Nat) {v : Int} (hv : v = 1 ∨ v = 2) (od : List Int) : VG n (s.1.set k v, od) := by
  refine ⟨by simpa using h.1, fun j => ?_⟩
  show (s.1.set k v).getD j 0 = 0 ∨ (s.1.set k v).getD j 0 = 1 ∨ (s.1.set k v).getD j 0 = 2
  rw [getD_set]
  split
  · exact .inr hv
  · exact h.2 j
theorem visF_ok (rs : List Rc) : ∀ (m : Nat) (c : ByteArray) (s : VS), VG rs.length s → VOk rs.length s (visF rs m c s).2
  | 0, _, s, h => VOk.refl h
  | m + 1, c, s, hs => by
    unfold visF
    split
    · exact VOk.refl hs
    rename_i h1
    split
    · exact VOk.refl hs
    rename_i h2
    have hk : mk rs c < s.1.length := by
      rw [hs.1]
      by_cases h : mk rs c < rs.length
      · exact h
      · exact absurd (.inl h) h1
    have h0 : s.1.getD (mk rs c) 0 = 0 := by
      rcases hs.2 (mk rs c) with h | h | h
      · exact h
      · exact absurd h h2
      · exact absurd (.inr h) h1
    have h3 := visL_ok (visF_ok rs m) (rs.getD (mk rs c) default).ins (s.1.set (mk rs c) 1, s.2) (hs.set _ (.inl rfl) _)
    generalize mk rs c = k at *
    have hf := fresh_set hk h0 (v := 1) (by decide)
    cases hq : visL (visF rs m) (rs.getD k default).ins (s.1.set k 1, s.2) with
    | mk b s' =>
      rw [hq] at h3
      obtain ⟨a1, a2, a4, a5⟩ := h3
      simp only at a4 a5
      have a2' : ∀ j, s.1.getD j 0 ≠ 0 → k ≠ j → s'.1.getD j 0 = s.1.getD j 0 := fun j hj hkj => by
        have := a2 j (by show (s.1.set k 1).getD j 0 ≠ 0; rw [getD_set, if_neg (fun h => hkj h.1)]; exact hj)
        rw [this]
        show (s.1.set k 1).getD j 0 = _
        rw [getD_set, if_neg (fun h => hkj h.1)]
      have ak : s'.1.getD k 0 = 1 := by
        have := a2 k (by show (s.1.set k 1).getD k 0 ≠ 0; rw [getD_set, if_pos ⟨rfl, hk⟩]; decide)
        rw [this]
        show (s.1.set k 1).getD k 0 = _
        rw [getD_set, if_pos ⟨rfl, hk⟩]
      cases b with
      | true =>
        have hl : k < s'.1.length := by rw [a1.1, ← hs.1]; exact hk
        have hfr : fresh (s'.1.set k 2) = fresh s'.1 := by
          unfold fresh
          rw [List.countP_set hl]
          have e : s'.1[k] = 1 := by
            rw [List.getD_eq_getElem?_getD, List.getElem?_eq_getElem hl, Option.getD_some] at ak
            exact ak
          simp [e]
        refine ⟨a1.set k (.inr rfl) _, fun j hj => ?_, ?_, ?_⟩
        · have hkj : k ≠ j := fun e => by subst e; exact hj h0
          show (s'.1.set k 2).getD j 0 = _
          rw [getD_set, if_neg (fun h => hkj h.1)]
          exact a2' j hj hkj
        · show (s'.2 ++ [(k : Int)]).length + fresh (s'.1.set k 2) ≤ _
          rw [hfr, List.length_append, List.length_singleton]
          omega
        · show fresh (s'.1.set k 2) ≤ _
          omega
      | false =>
        refine ⟨a1, fun j hj => a2' j hj fun e => by subst e; exact hj h0, ?_, ?_⟩
        · show s'.2.length + fresh s'.1 ≤ _
          omega
        · show fresh s'.1 ≤ _
          omega
end Go.Proofs.Ytoeghejbgibioaa
