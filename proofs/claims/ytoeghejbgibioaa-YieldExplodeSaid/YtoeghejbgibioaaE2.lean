/- Recipes that are run: what is wanted of each code, how often each recipe is run (plain). -/
import Derived.Test.YtoeghejbgibioaaE1
namespace Go.Proofs.Ytoeghejbgibioaa
open Go Go.RowKit
set_option linter.unusedVariables false
set_option linter.unusedSimpArgs false
set_option maxRecDepth 100000

def useQ (rs : List Rc) (k : Nat) (x : ByteArray) : Int := qtyS (rs.getD k default).ins x
def rnIi (b : Int) (L : ML) (us : List Nd) : ML := us.foldl (rnP b) L
def rnKi (rs : List Rc) (k : Nat) (s : ML × List Int) : ML × List Int :=
  (rnIi (rnO rs k s.1 (s.2.getD k 0) (rs.getD k default).outs) s.1 (rs.getD k default).ins, s.2.set k (rnO rs k s.1 (s.2.getD k 0) (rs.getD k default).outs))
def rnFi (rs : List Rc) (od : List Int) (s : ML × List Int) : ML × List Int := od.foldl (fun s k => rnKi rs k.toNat s) s
theorem get_rnIi (b : Int) (L : ML) (c : ByteArray) (us : List Nd) : getM (rnIi b L us) c = getM L c + b * qtyS us c := by
  refine rev_ind (P := fun us : List Nd => getM (rnIi b L us) c = getM L c + b * qtyS us c) (by simp [rnIi, qtyS]) (fun us x ih => ?_) us
  have e : rnIi b L (us ++ [x]) = rnP b (rnIi b L us) x := by unfold rnIi; rw [List.foldl_append]; rfl
  rw [e, qtyS_snoc]
  unfold rnP
  rw [getM_put]
  by_cases hx : x.c = c
  · subst hx
    rw [if_pos rfl, if_pos rfl, ih, Int.mul_add]
    omega
  · rw [if_neg hx, if_neg hx, ih, Int.add_zero]
theorem qtyS_nn (us : List Nd) (h : ∀ x ∈ us, 1 ≤ x.q) (c : ByteArray) : 0 ≤ qtyS us c := by
  revert h
  refine rev_ind (P := fun us : List Nd => (∀ x ∈ us, 1 ≤ x.q) → 0 ≤ qtyS us c) (fun _ => by simp [qtyS]) (fun us x ih h => ?_) us
  rw [qtyS_snoc]
  have := ih fun y hy => h y (by simp [hy])
  have := h x (by simp)
  split <;> omega
theorem qtyS_pos (us : List Nd) (c : ByteArray) (h : qtyS us c ≠ 0) : ∃ x ∈ us, x.c = c := by
  by_cases h1 : ∃ x ∈ us, x.c = c
  · exact h1
  · exact absurd (qty_none us c fun x hx hc => h1 ⟨x, hx, hc⟩).1 h
theorem qtyS_one {us : List Nd} {lo hi : Int} (h : ascOk us lo hi) {x : Nd} (hx : x ∈ us) : qtyS us x.c = x.q := by
  have h1 := qty_eq us x.c fun i j hi hj e => asc_ne h hi hj e
  rw [← h1]
  clear h1
  have h2 : ∀ (us : List Nd), (∀ i j, i < us.length → j < us.length → (us.getD i default).c = (us.getD j default).c → i = j) → x ∈ us → getM (stM us) x.c = x.q := fun us => by
    refine rev_ind (P := fun us : List Nd => (∀ i j, i < us.length → j < us.length → (us.getD i default).c = (us.getD j default).c → i = j) → x ∈ us → getM (stM us) x.c = x.q) (fun _ h => absurd h (by simp)) (fun us y ih h hx => ?_) us
    rw [stM_snoc, getM_put]
    rcases List.mem_append.1 hx with hx | hx
    · obtain ⟨i, hi, rfl⟩ := List.getElem_of_mem hx
      by_cases hy : y.c = us[i].c
      · have := h i us.length (by simp; omega) (by simp) (by simp [List.getD_eq_getElem?_getD, List.getElem?_append, hi, hy])
        omega
      · rw [if_neg hy]
        exact ih (fun a b ha hb e => h a b (by simp; omega) (by simp; omega) (by simpa [List.getD_eq_getElem?_getD, List.getElem?_append, ha, hb] using e)) hx
    · rw [List.mem_singleton] at hx
      subst hx
      rw [if_pos rfl]
  exact h2 us (fun i j hi hj e => asc_ne h hi hj e) hx
theorem rnB_le (rs : List Rc) (k : Nat) (L : ML) (b : Int) (x : Nd) : b ≤ rnB rs k L b x := by
  unfold rnB
  split
  · split <;> omega
  · exact Int.le_refl _
theorem rnO_le (rs : List Rc) (k : Nat) (L : ML) : ∀ (us : List Nd) (b : Int), b ≤ rnO rs k L b us
  | [], b => Int.le_refl _
  | x :: l, b => Int.le_trans (rnB_le rs k L b x) (rnO_le rs k L l _)
theorem rnO_ge (rs : List Rc) (k : Nat) (L : ML) : ∀ (us : List Nd) (b : Int) (x : Nd), x ∈ us → mk rs x.c = k → ceilV L x ≤ rnO rs k L b us
  | [], b, x, h, _ => absurd h (by simp)
  | y :: l, b, x, h, hk => by
    rcases List.mem_cons.1 h with rfl | h
    · refine Int.le_trans ?_ (rnO_le rs k L l _)
      unfold rnB
      rw [if_pos hk]
      split <;> omega
    · exact rnO_ge rs k L l _ x h hk
theorem rnO_one (rs : List Rc) (k : Nat) (L : ML) : ∀ (us : List Nd) (b : Int), rnO rs k L b us = b ∨ ∃ x ∈ us, mk rs x.c = k ∧ rnO rs k L b us = ceilV L x
  | [], b => .inl rfl
  | y :: l, b => by
    have e : rnO rs k L b (y :: l) = rnO rs k L (rnB rs k L b y) l := rfl
    rw [e]
    rcases rnO_one rs k L l (rnB rs k L b y) with h | ⟨x, hx, hk, h⟩
    · rw [h]
      unfold rnB
      split
      · rename_i hk
        split
        · exact .inr ⟨y, by simp, hk, rfl⟩
        · exact .inl rfl
      · exact .inl rfl
    · exact .inr ⟨x, by simp [hx], hk, h⟩
theorem rnO_congr (rs : List Rc) (k : Nat) (L L' : ML) : ∀ (us : List Nd) (b : Int), (∀ x ∈ us, mk rs x.c = k → getM L x.c = getM L' x.c) → rnO rs k L b us = rnO rs k L' b us
  | [], b, _ => rfl
  | y :: l, b, h => by
    have e : ∀ L, rnO rs k L b (y :: l) = rnO rs k L (rnB rs k L b y) l := fun _ => rfl
    have e2 : rnB rs k L b y = rnB rs k L' b y := by
      unfold rnB ceilV
      by_cases hk : mk rs y.c = k
      · rw [h y (by simp) hk]
      · rw [if_neg hk, if_neg hk]
    rw [e, e, e2]
    exact rnO_congr rs k L L' l _ fun x hx => h x (by simp [hx])
theorem ceil_mul {n q : Int} (hq : 1 ≤ q) : n ≤ (n + q - 1) / q * q := by
  have h1 := Int.mul_ediv_add_emod (n + q - 1) q
  have h2 := Int.emod_lt_of_pos (n + q - 1) (show 0 < q by omega)
  rw [Int.mul_comm] at h1
  omega
def sumU (rs : List Rc) (B : List Int) (x : ByteArray) (od : List Int) : Int := (od.map fun k => B.getD k.toNat 0 * useQ rs k.toNat x).sum
theorem sumU_snoc (rs : List Rc) (B : List Int) (x : ByteArray) (od : List Int) (k : Int) : sumU rs B x (od ++ [k]) = sumU rs B x od + B.getD k.toNat 0 * useQ rs k.toNat x := by
  unfold sumU
  rw [List.map_append, List.sum_append]
  simp
theorem sumU_congr (rs : List Rc) (B B' : List Int) (x : ByteArray) (od : List Int) (h : ∀ k ∈ od, B.getD k.toNat 0 = B'.getD k.toNat 0) : sumU rs B x od = sumU rs B' x od := by
  unfold sumU
  congr 1
  exact List.map_congr_left fun k hk => by rw [h k hk]
theorem sumU_zero (rs : List Rc) (B : List Int) (x : ByteArray) (od : List Int) (h : sumU rs B x od ≠ 0) : ∃ k ∈ od, B.getD k.toNat 0 ≠ 0 ∧ useQ rs k.toNat x ≠ 0 := by
  by_cases h1 : ∃ k ∈ od, B.getD k.toNat 0 ≠ 0 ∧ useQ rs k.toNat x ≠ 0
  · exact h1
  · refine absurd ?_ h
    unfold sumU
    have : (od.map fun k => B.getD k.toNat 0 * useQ rs k.toNat x) = od.map fun _ => 0 := List.map_congr_left fun k hk => by
      by_cases h2 : B.getD k.toNat 0 = 0
      · rw [h2, Int.zero_mul]
      · by_cases h3 : useQ rs k.toNat x = 0
        · rw [h3, Int.mul_zero]
        · exact absurd ⟨k, hk, h2, h3⟩ h1
    rw [this]
    clear this h h1
    induction od with
    | nil => rfl
    | cons a l ih => rw [List.map_cons, List.sum_cons, ih]; rfl
structure IdS (rs : List Rc) (od : List Int) (c : ByteArray) (q : Int) (L : ML) (B : List Int) : Prop where
  e1 : ∀ x, getM L x = (if x = c then q else 0) + sumU rs B x od
  e2 : ∀ k ∈ od, B.getD k.toNat 0 = rnO rs k.toNat L 0 (rs.getD k.toNat default).outs
  e3 : ∀ k : Nat, (k : Int) ∉ od → B.getD k 0 = 0
  len : B.length = rs.length
  nn : ∀ k, 0 ≤ B.getD k 0
theorem rnFi_snoc (rs : List Rc) (od : List Int) (k : Int) (s : ML × List Int) : rnFi rs (od ++ [k]) s = rnKi rs k.toNat (rnFi rs od s) := by unfold rnFi; rw [List.foldl_append]; rfl
theorem getD_app_lt {od : List Int} {k : Int} {j : Nat} (h : j < od.length) : (od ++ [k]).getD j 0 = od.getD j 0 := by rw [List.getD_eq_getElem?_getD, List.getD_eq_getElem?_getD, List.getElem?_append_left h]
def rn0 (rs : List Rc) (c : ByteArray) (q : Int) : ML × List Int := (putM [] c q, List.replicate rs.length 0)
theorem ids_of {rs : List Rc} (h : rcsOk rs) (c : ByteArray) (q : Int) : ∀ od : List Int, od.Nodup → (∀ x ∈ od, 0 ≤ x ∧ x < (rs.length : Int)) → (∀ i j, i ≤ j → j < od.length → ∀ x ∈ (rs.getD (od.getD j 0).toNat default).ins, (mk rs x.c : Int) ≠ od.getD i 0) →
    IdS rs od c q (rnFi rs od (rn0 rs c q)).1 (rnFi rs od (rn0 rs c q)).2 := by
  intro od
  have hz : ∀ k, (List.replicate rs.length (0 : Int)).getD k 0 = 0 := fun k => by
    rw [List.getD_eq_getElem?_getD, List.getElem?_replicate]
    split <;> rfl
  refine rev_ind (P := fun od : List Int => od.Nodup → (∀ x ∈ od, 0 ≤ x ∧ x < (rs.length : Int)) → (∀ i j, i ≤ j → j < od.length → ∀ x ∈ (rs.getD (od.getD j 0).toNat default).ins, (mk rs x.c : Int) ≠ od.getD i 0) →
    IdS rs od c q (rnFi rs od (rn0 rs c q)).1 (rnFi rs od (rn0 rs c q)).2) ?_ ?_ od
  · intro _ _ _
    refine ⟨fun x => ?_, fun k hk => absurd hk (by simp), fun k _ => hz k, by simp [rnFi, rn0], fun k => ?_⟩
    · show getM (putM [] c q) x = _
      rw [getM_put]
      by_cases hx : x = c
      · subst hx; simp [sumU]
      · rw [if_neg hx, if_neg (Ne.symm hx)]; rfl
    · show 0 ≤ (List.replicate rs.length (0 : Int)).getD k 0
      rw [hz]
      exact Int.le_refl _
  · intro od k ih hnd hr hb
    have hnd' := List.nodup_append.1 hnd
    have hkn : k ∉ od := fun hh => (hnd'.2.2 k hh k (by simp)) rfl
    have hk := hr k (by simp)
    have I := ih hnd'.1 (fun x hx => hr x (by simp [hx])) (fun i j hij hj x hx he => hb i j hij (by rw [List.length_append]; omega) x (by rw [getD_app_lt hj]; exact hx) (by rw [getD_app_lt (by omega)]; exact he))
    obtain ⟨n, rfl⟩ : ∃ n : Nat, k = (n : Int) := ⟨k.toNat, by omega⟩
    have hnl : n < rs.length := by omega
    rw [rnFi_snoc]
    generalize rnFi rs od (rn0 rs c q) = s at *
    obtain ⟨L, B⟩ := s
    have hB0 : B.getD n 0 = 0 := I.e3 n hkn
    have hBl : B.length = rs.length := I.len
    have eK : rnKi rs (n : Int).toNat (L, B) = (rnIi (rnO rs n L 0 (rs.getD n default).outs) L (rs.getD n default).ins, B.set n (rnO rs n L 0 (rs.getD n default).outs)) := by
      rw [Int.toNat_natCast]
      unfold rnKi
      simp only [hB0]
    rw [eK]
    have hge : 0 ≤ rnO rs n L 0 (rs.getD n default).outs := rnO_le ..
    have hbk : ∀ k' ∈ od ++ [(n : Int)], ∀ x ∈ (rs.getD n default).ins, (mk rs x.c : Int) ≠ k' := fun k' hk' x hx he => by
      obtain ⟨i, hi, rfl⟩ := List.getElem_of_mem hk'
      have hi' : i ≤ od.length := by rw [List.length_append, List.length_singleton] at hi; omega
      refine hb i od.length hi' (by simp) x (by simpa [List.getD_eq_getElem?_getD] using hx) (by rw [he, List.getD_eq_getElem?_getD, List.getElem?_eq_getElem hi]; rfl)
    obtain ⟨b, hbd⟩ : ∃ b, b = rnO rs n L 0 (rs.getD n default).outs := ⟨_, rfl⟩
    rw [← hbd] at hge ⊢
    have hset : ∀ j : Int, 0 ≤ j → j ∈ od → (B.set n b).getD j.toNat 0 = B.getD j.toNat 0 := fun j hj hjm => by
      rw [getD_set, if_neg]
      rintro ⟨e, _⟩
      have : j = (n : Int) := by omega
      subst this
      exact hkn hjm
    have hsame : ∀ k' ∈ od ++ [(n : Int)], ∀ x ∈ (rs.getD k'.toNat default).outs, mk rs x.c = k'.toNat → getM (rnIi b L (rs.getD n default).ins) x.c = getM L x.c := fun k' hk' x hx hm => by
      rw [get_rnIi]
      have : qtyS (rs.getD n default).ins x.c = 0 := by
        by_cases h0 : qtyS (rs.getD n default).ins x.c = 0
        · exact h0
        · obtain ⟨y, hy, e⟩ := qtyS_pos _ _ h0
          have h1 := hbk k' hk' y hy
          have h2 := hr k' hk'
          rw [e, hm] at h1
          exact absurd (by omega) h1
      rw [this, Int.mul_zero, Int.add_zero]
    refine ⟨fun x => ?_, fun k' hk' => ?_, fun k' hk' => ?_, by simpa using hBl, fun k' => ?_⟩
    · show getM (rnIi b L (rs.getD n default).ins) x = _ + sumU rs (B.set n b) x (od ++ [(n : Int)])
      have eB : (B.set n b).getD n 0 = b := by rw [getD_set, if_pos ⟨rfl, by omega⟩]
      rw [get_rnIi, sumU_snoc, Int.toNat_natCast, eB]
      have := I.e1 x
      have e2 : sumU rs (B.set n b) x od = sumU rs B x od := sumU_congr _ _ _ _ _ fun k' hk' => hset k' (hr k' (by simp [hk'])).1 hk'
      rw [e2]
      unfold useQ
      simp only at this
      omega
    · show (B.set n b).getD k'.toNat 0 = rnO rs k'.toNat (rnIi b L (rs.getD n default).ins) 0 (rs.getD k'.toNat default).outs
      rw [rnO_congr rs k'.toNat (rnIi b L (rs.getD n default).ins) L _ 0 (hsame k' hk')]
      rcases List.mem_append.1 hk' with h1 | h1
      · rw [hset k' (hr k' hk').1 h1]
        exact I.e2 k' h1
      · rw [List.mem_singleton] at h1
        subst h1
        rw [Int.toNat_natCast, getD_set, if_pos ⟨rfl, by omega⟩]
        exact hbd
    · show (B.set n b).getD k' 0 = 0
      rw [getD_set, if_neg]
      · exact I.e3 k' fun hh => hk' (by simp [hh])
      · rintro ⟨rfl, _⟩
        exact hk' (by simp)
    · show 0 ≤ (B.set n b).getD k' 0
      rw [getD_set]
      split
      · exact hge
      · exact I.nn k'
def mx : Int := 1000000000000
theorem rnI_some {b : Int} : ∀ (us : List Nd) (L L' : ML), rnI b L us = some L' → L' = rnIi b L us
  | [], L, L', e => by cases e; rfl
  | x :: l, L, L', e => by
    unfold rnI at e
    split at e
    · cases e
    · exact rnI_some l _ L' e
theorem rnI_none {b : Int} (hb : 0 ≤ b) : ∀ (us : List Nd) (L : ML), (∀ x ∈ us, 1 ≤ x.q) → rnI b L us = none → ∃ c, mx < getM (rnIi b L us) c
  | [], L, _, e => by cases e
  | x :: l, L, hu, e => by
    unfold rnI at e
    have hl := qtyS_nn l (fun y hy => hu y (by simp [hy]))
    split at e
    · rename_i h
      refine ⟨x.c, ?_⟩
      show mx < getM (rnIi b (rnP b L x) l) x.c
      rw [get_rnIi]
      have h1 : getM (rnP b L x) x.c = getM L x.c + b * x.q := by unfold rnP; rw [getM_put, if_pos rfl]
      rw [h1]
      have h2 := Int.mul_nonneg hb (hl x.c)
      have h3 := (Int.ediv_lt_iff_lt_mul (show 0 < x.q by have := hu x (by simp); omega)).1 h
      unfold mx
      omega
    · exact rnI_none hb l _ (fun y hy => hu y (by simp [hy])) e
theorem rnFi_grow {rs : List Rc} (h : rcsOk rs) (c : ByteArray) : ∀ (od : List Int) (s : ML × List Int), (∀ x ∈ od, 0 ≤ x ∧ x < (rs.length : Int)) → (∀ k, 0 ≤ s.2.getD k 0) → getM s.1 c ≤ getM (rnFi rs od s).1 c
  | [], s, _, _ => Int.le_refl _
  | k :: l, s, hr, hs => by
    have hk := hr k (by simp)
    have hb : 0 ≤ rnO rs k.toNat s.1 (s.2.getD k.toNat 0) (rs.getD k.toNat default).outs := Int.le_trans (hs _) (rnO_le ..)
    have h1 := rnFi_grow h c l (rnKi rs k.toNat s) (fun x hx => hr x (by simp [hx])) (fun j => by
      show 0 ≤ (s.2.set k.toNat _).getD j 0
      rw [getD_set]
      split
      · exact hb
      · exact hs j)
    refine Int.le_trans ?_ h1
    show _ ≤ getM (rnIi _ s.1 (rs.getD k.toNat default).ins) c
    rw [get_rnIi]
    have h2 := qtyS_nn (rs.getD k.toNat default).ins (fun x hx => by
      obtain ⟨a1, _, _, _⟩ := h.at (k := k.toNat) (by omega)
      exact (asc_q a1 x hx).1) c
    have := Int.mul_nonneg hb h2
    omega
theorem rnF_some {rs : List Rc} : ∀ (od : List Int) (s s' : ML × List Int), rnF rs od s = some s' → s' = rnFi rs od s
  | [], s, s', e => by cases e; rfl
  | k :: l, s, s', e => by
    unfold rnF at e
    split at e
    · cases e
    · rename_i s1 h1
      have := rnF_some l s1 s' e
      unfold rnK at h1
      split at h1
      · cases h1
      · rename_i L h2
        cases h1
        rw [this, rnI_some _ _ _ h2]
        rfl
theorem rnF_none {rs : List Rc} (h : rcsOk rs) : ∀ (od : List Int) (s : ML × List Int), (∀ x ∈ od, 0 ≤ x ∧ x < (rs.length : Int)) → (∀ k, 0 ≤ s.2.getD k 0) → rnF rs od s = none → ∃ c, mx < getM (rnFi rs od s).1 c
  | [], s, _, _, e => by cases e
  | k :: l, s, hr, hs, e => by
    have hk := hr k (by simp)
    have hb : 0 ≤ rnO rs k.toNat s.1 (s.2.getD k.toNat 0) (rs.getD k.toNat default).outs := Int.le_trans (hs _) (rnO_le ..)
    have hs' : ∀ j, 0 ≤ (rnKi rs k.toNat s).2.getD j 0 := fun j => by
      show 0 ≤ (s.2.set k.toNat _).getD j 0
      rw [getD_set]
      split
      · exact hb
      · exact hs j
    unfold rnF at e
    split at e
    · rename_i h1
      unfold rnK at h1
      split at h1
      · rename_i h2
        obtain ⟨c, hc⟩ := rnI_none hb _ _ (fun x hx => by
          obtain ⟨a1, _, _, _⟩ := h.at (k := k.toNat) (by omega)
          exact (asc_q a1 x hx).1) h2
        exact ⟨c, Int.lt_of_lt_of_le hc (rnFi_grow h c l (rnKi rs k.toNat s) (fun x hx => hr x (by simp [hx])) hs')⟩
      · cases h1
    · rename_i s1 h1
      have e1 : s1 = rnKi rs k.toNat s := by
        unfold rnK at h1
        split at h1
        · cases h1
        · rename_i L h2
          cases h1
          rw [rnI_some _ _ _ h2]
          rfl
      subst e1
      exact rnF_none h l _ (fun x hx => hr x (by simp [hx])) hs' e
theorem rnF_ok {rs : List Rc} (h : rcsOk rs) : ∀ (od : List Int) (s s' : ML × List Int) (m : Nat), (∀ x ∈ od, 0 ≤ x ∧ x < (rs.length : Int)) → LOk m s.1 → BOk rs.length s.2 → rnF rs od s = some s' → LOk (m + 8 * od.length) s'.1 ∧ BOk rs.length s'.2
  | [], s, s', m, _, h1, h2, e => by cases e; exact ⟨h1, h2⟩
  | k :: l, s, s', m, hr, h1, h2, e => by
    have hk := hr k (by simp)
    obtain ⟨a1, a2, a3, a4⟩ := h.at (k := k.toNat) (by omega)
    have hb := rnO_rng (rs := rs) (k := k.toNat) h1 (rs.getD k.toNat default).outs (s.2.getD k.toNat 0) (fun y hy => (asc_q a3 y hy).1) (h2.2 _)
    unfold rnF at e
    split at e
    · cases e
    · rename_i s1 hq
      unfold rnK at hq
      split at hq
      · cases hq
      · rename_i L hL
        cases hq
        have h3 := rnI_ok hb.1 _ _ m L h1 (fun y hy => (asc_q a1 y hy).1) hL
        have h4 := rnF_ok h l _ s' (m + 8) (fun x hx => hr x (by simp [hx])) ⟨h3.1, by have := h3.2; simp only; omega⟩ (h2.set k.toNat hb) e
        rw [List.length_cons]
        rw [show m + 8 * (l.length + 1) = m + 8 + 8 * l.length by omega]
        exact h4
end Go.Proofs.Ytoeghejbgibioaa
