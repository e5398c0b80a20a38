/- Shares by the largest remainder, plain law: those that come first in the order of remainders get one more. -/
import Derived.Test.YtleknjngglhmaaaGreatS7
import Derived.Test.YtleknjngglhmaaaGreatU1
namespace Go.Proofs.YtleknjngglhmaaaGreat
open Go Go.RowKit
set_option linter.unusedVariables false
set_option linter.unusedSimpArgs false

theorem cmpI_lt (a b : Int) : cmpI a b < 0 ↔ a < b := by unfold cmpI; split <;> (try split) <;> omega
theorem cmpI_ne (a b : Int) : cmpI a b ≠ 0 ↔ a ≠ b := by unfold cmpI; split <;> (try split) <;> omega
def cfP (R : Nat → Int) (i j : Nat) : Int := if cmpI (R j) (R i) ≠ 0 then cmpI (R j) (R i) else cmpI i j
theorem cfP_neg (R : Nat → Int) (i j : Nat) : cfP R i j < 0 ↔ (R j < R i ∨ (R j = R i ∧ i < j)) := by
  unfold cfP
  by_cases h : R j = R i
  · rw [if_neg (by rw [cmpI_ne]; simpa using h), cmpI_lt]; omega
  · rw [if_pos ((cmpI_ne _ _).2 h), cmpI_lt]; omega
theorem cfP_swo (R : Nat → Int) : Go.Sort.SWO (ltOf (cfP R)) := by
  refine ⟨fun x => ?_, fun x y z => ?_, fun x y z => ?_⟩ <;> unfold ltOf <;> simp only [cfP_neg, decide_eq_true_eq, decide_eq_false_iff_not] <;> omega
def among (n : Nat) (R : Nat → Int) (k : Nat) (j : Nat) : Bool := (List.range (min k n)).any fun i => Nat.beq (sortAt n (cfP R) i) j
theorem among_iff {n : Nat} {R : Nat → Int} {k j : Nat} : among n R k j = true ↔ ∃ i, i < k ∧ i < n ∧ sortAt n (cfP R) i = j := by
  unfold among
  rw [List.any_eq_true]
  constructor
  · rintro ⟨i, hi, he⟩
    have := List.mem_range.1 hi
    exact ⟨i, by omega, by omega, Nat.eq_of_beq_eq_true he⟩
  · rintro ⟨i, h1, h2, rfl⟩
    exact ⟨i, List.mem_range.2 (by omega), Nat.beq_refl _⟩
theorem among_succ {n : Nat} {R : Nat → Int} {k j : Nat} (hk : k < n) : among n R (k + 1) j = (among n R k j || Nat.beq (sortAt n (cfP R) k) j) := by
  rw [Bool.eq_iff_iff, Bool.or_eq_true, among_iff, among_iff]
  constructor
  · rintro ⟨i, h1, h2, h3⟩
    rcases Nat.lt_or_ge i k with h | h
    · exact .inl ⟨i, h, h2, h3⟩
    · obtain rfl : i = k := by omega
      right
      rw [h3, Nat.beq_refl]
  · rintro (⟨i, h1, h2, h3⟩ | h)
    · exact ⟨i, by omega, h2, h3⟩
    · exact ⟨k, by omega, hk, Nat.eq_of_beq_eq_true h⟩
theorem among_at {n : Nat} {R : Nat → Int} {k i : Nat} (hi : i < n) : among n R k (sortAt n (cfP R) i) = decide (i < k) := by
  rw [Bool.eq_iff_iff, among_iff, decide_eq_true_eq]
  constructor
  · rintro ⟨i', h1, h2, h3⟩
    have := sortAt_inj (cfP_swo R) h2 hi h3
    omega
  · intro h; exact ⟨i, h, hi, rfl⟩
theorem next_least {n : Nat} {R : Nat → Int} {k j : Nat} (hk : k < n) (hj : j < n) (ha : among n R k j = false) : j = sortAt n (cfP R) k ∨ cfP R (sortAt n (cfP R) k) j < 0 := by
  have hS := cfP_swo R
  obtain ⟨i, hi, rfl⟩ := sortAt_sur hS hj
  rw [among_at hi, decide_eq_false_iff_not] at ha
  by_cases hik : i = k
  · subst hik; exact .inl rfl
  · right
    have h1 := sortAt_le hS (i := k) (j := i) (by omega) hi
    have h2 : sortAt n (cfP R) i ≠ sortAt n (cfP R) k := fun e => hik (sortAt_inj hS hi hk e)
    rw [cfP_neg] at h1 ⊢
    omega
theorem among_full {n : Nat} {R : Nat → Int} {k j : Nat} (hk : n ≤ k) (hj : j < n) : among n R k j = true := by
  obtain ⟨i, hi, rfl⟩ := sortAt_sur (cfP_swo R) hj
  rw [among_at hi]
  exact decide_eq_true (by omega)

def shQ (t : Int) (ws : List Int) (i : Nat) : Int := t * ws.getD i 0 / ws.sum
def shR (t : Int) (ws : List Int) (i : Nat) : Int := t * ws.getD i 0 % ws.sum
def sumQ (t : Int) (ws : List Int) (k : Nat) : Int := ((List.range k).map (shQ t ws)).sum
def leftQ (t : Int) (ws : List Int) : Int := t - sumQ t ws ws.length
def shV (t : Int) (ws : List Int) (k j : Nat) : Int := shQ t ws j + (if among ws.length (shR t ws) k j = true then 1 else 0)
def shareL (t : Int) (ws : List Int) : List Int := (List.range ws.length).map (shV t ws (leftQ t ws).toNat)
theorem sumQ_succ (t : Int) (ws : List Int) (k : Nat) : sumQ t ws (k + 1) = sumQ t ws k + shQ t ws k := by unfold sumQ; rw [List.range_succ, List.map_append, List.sum_append]; simp
theorem perm_sum {l l' : List Int} (h : l.Perm l') : l.sum = l'.sum := by
  induction h with
  | nil => rfl
  | cons x _ ih => simp [ih]
  | swap x y l => simp; omega
  | trans _ _ h1 h2 => exact h1.trans h2
def wOk (ws : List Int) : Prop := ∀ w ∈ ws, 1 ≤ w ∧ w ≤ 1000000000000
theorem sum_nonneg {ws : List Int} (h : wOk ws) : (ws.length : Int) ≤ ws.sum := by
  induction ws with
  | nil => simp
  | cons w l ih =>
    have := ih fun x hx => h x (by simp [hx])
    have := h w (by simp)
    simp only [List.length_cons, List.sum_cons]
    omega
theorem sum_le {ws : List Int} (h : wOk ws) : ws.sum ≤ 1000000000000 * (ws.length : Int) := by
  induction ws with
  | nil => simp
  | cons w l ih =>
    have := ih fun x hx => h x (by simp [hx])
    have := h w (by simp)
    simp only [List.length_cons, List.sum_cons]
    omega
theorem getD_mem0 {ws : List Int} {i : Nat} (h : i < ws.length) : ws.getD i 0 ∈ ws := by rw [List.getD_eq_getElem?_getD, List.getElem?_eq_getElem h]; exact List.getElem_mem _
theorem sum_take0 (ws : List Int) (k : Nat) (h : k < ws.length) : (ws.take (k + 1)).sum = (ws.take k).sum + ws.getD k 0 := by
  rw [List.take_succ_eq_append_getElem h, List.sum_append, List.getD_eq_getElem?_getD, List.getElem?_eq_getElem h]
  simp
theorem shQ_rng {t : Int} {ws : List Int} (h : wOk ws) (ht : 0 ≤ t) {i : Nat} (hi : i < ws.length) : 0 ≤ shQ t ws i ∧ shQ t ws i ≤ t := by
  have h1 := sum_nonneg h
  have h2 := h _ (getD_mem0 hi)
  unfold shQ
  refine ⟨Int.ediv_nonneg (Int.mul_nonneg ht (by omega)) (by omega), ?_⟩
  have h3 : ws.getD i 0 ≤ ws.sum := by
    have : ∀ (l : List Int), wOk l → ∀ w ∈ l, w ≤ l.sum := by
      intro l
      induction l with
      | nil => intro _ w hw; simp at hw
      | cons a l ih =>
        intro hl w hw
        have hl' : wOk l := fun x hx => hl x (by simp [hx])
        have h4 := sum_nonneg hl'
        have ha := hl a (by simp)
        rcases List.mem_cons.1 hw with rfl | hw
        · simp; omega
        · have := ih hl' w hw
          simp; omega
    exact this ws h _ (getD_mem0 hi)
  have h4 : t * ws.getD i 0 ≤ t * ws.sum := Int.mul_le_mul_of_nonneg_left h3 ht
  exact Int.ediv_le_of_le_mul (by omega) h4
theorem shR_rng {t : Int} {ws : List Int} (h : wOk ws) {i : Nat} (hi : i < ws.length) : 0 ≤ shR t ws i ∧ shR t ws i < ws.sum := by
  have h1 := sum_nonneg h
  exact ⟨Int.emod_nonneg _ (by omega), Int.emod_lt_of_pos _ (by omega)⟩
theorem left_mul (t : Int) (ws : List Int) : ∀ k, k ≤ ws.length → sumQ t ws k * ws.sum + ((List.range k).map (shR t ws)).sum = t * (ws.take k).sum
  | 0, _ => by simp [sumQ]
  | k + 1, hk => by
    have ih := left_mul t ws k (by omega)
    have e := Int.mul_ediv_add_emod (t * ws.getD k 0) ws.sum
    rw [sumQ_succ, sum_take0 ws k (by omega), List.range_succ, List.map_append, List.sum_append, Int.add_mul, Int.mul_add]
    have e2 : shQ t ws k * ws.sum = ws.sum * (t * ws.getD k 0 / ws.sum) := Int.mul_comm _ _
    have e3 : [k].map (shR t ws) = [t * ws.getD k 0 % ws.sum] := rfl
    rw [e2, e3, List.sum_singleton]
    omega
theorem rest_sum {t : Int} {ws : List Int} (h : wOk ws) : ∀ k, k ≤ ws.length → 0 ≤ ((List.range k).map (shR t ws)).sum ∧ ((List.range k).map (shR t ws)).sum + (k : Int) ≤ (k : Int) * ws.sum
  | 0, _ => by simp
  | k + 1, hk => by
    obtain ⟨h1, h2⟩ := rest_sum (t := t) h k (by omega)
    have h3 := shR_rng (t := t) h (i := k) (by omega)
    rw [List.range_succ, List.map_append, List.sum_append]
    have e3 : [k].map (shR t ws) = [shR t ws k] := rfl
    rw [e3, List.sum_singleton]
    have e4 : ((k + 1 : Nat) : Int) * ws.sum = (k : Int) * ws.sum + ws.sum := by push_cast; rw [Int.add_mul, Int.one_mul]
    rw [e4]
    push_cast
    omega
theorem left_rng {t : Int} {ws : List Int} (h : wOk ws) (ht : 0 ≤ t) (hn : ws = [] → t = 0) : 0 ≤ leftQ t ws ∧ leftQ t ws ≤ ws.length := by
  rcases Nat.eq_zero_or_pos ws.length with h0 | h0
  · have : ws = [] := List.length_eq_zero_iff.1 h0
    subst this
    have := hn rfl
    subst this
    simp [leftQ, sumQ]
  · have h1 := sum_nonneg h
    have hS : 0 < ws.sum := by omega
    have e := left_mul t ws ws.length (Nat.le_refl _)
    rw [List.take_length] at e
    obtain ⟨h2, h3⟩ := rest_sum (t := t) h ws.length (Nat.le_refl _)
    have e2 : leftQ t ws * ws.sum = ((List.range ws.length).map (shR t ws)).sum := by unfold leftQ; rw [Int.sub_mul]; omega
    constructor
    · rcases Int.lt_or_le (leftQ t ws) 0 with hneg | hpos
      · have : leftQ t ws * ws.sum < 0 := Int.mul_neg_of_neg_of_pos hneg hS
        omega
      · exact hpos
    · rcases Int.lt_or_le (ws.length : Int) (leftQ t ws) with hgt | hle
      · have : (ws.length : Int) * ws.sum < leftQ t ws * ws.sum := Int.mul_lt_mul_of_pos_right hgt hS
        omega
      · exact hle
theorem sum_map_add (f g : Nat → Int) (l : List Nat) : (l.map fun i => f i + g i).sum = (l.map f).sum + (l.map g).sum := by
  induction l with
  | nil => rfl
  | cons a l ih => simp [ih]; omega
theorem count_lt (n k : Nat) (h : k ≤ n) : ((List.range n).map fun i => if i < k then (1 : Int) else 0).sum = k := by
  induction n with
  | zero => have : k = 0 := by omega
            subst this; rfl
  | succ n ih =>
    rw [List.range_succ, List.map_append, List.sum_append]
    rcases Nat.lt_or_ge n k with hlt | hge
    · have hk : k = n + 1 := by omega
      subst hk
      have : (List.range n).map (fun i => if i < n + 1 then (1 : Int) else 0) = (List.range n).map fun i => if i < n then (1 : Int) else 0 := by
        apply List.map_congr_left
        intro i hi
        have := List.mem_range.1 hi
        rw [if_pos (by omega), if_pos this]
      rw [this]
      have ih' : ((List.range n).map fun i => if i < n then (1 : Int) else 0).sum = n := by
        clear ih this h hlt
        induction n with
        | zero => rfl
        | succ n ih =>
          rw [List.range_succ, List.map_append, List.sum_append]
          have : (List.range n).map (fun i => if i < n + 1 then (1 : Int) else 0) = (List.range n).map fun i => if i < n then (1 : Int) else 0 := by
            apply List.map_congr_left
            intro i hi
            have := List.mem_range.1 hi
            rw [if_pos (by omega), if_pos this]
          rw [this, ih]
          simp
      rw [ih']
      simp
    · rw [ih hge]
      simp [Nat.not_lt.2 hge]
theorem share_sum {t : Int} {ws : List Int} (h : wOk ws) (ht : 0 ≤ t) (hn : ws = [] → t = 0) : (shareL t ws).sum = t := by
  obtain ⟨h1, h2⟩ := left_rng h ht hn
  unfold shareL shV
  rw [sum_map_add]
  have e : ((List.range ws.length).map fun j => if among ws.length (shR t ws) (leftQ t ws).toNat j = true then (1 : Int) else 0).sum = leftQ t ws := by
    have hp := (sortAt_perm (n := ws.length) (cfP_swo (shR t ws))).map fun j => if among ws.length (shR t ws) (leftQ t ws).toNat j = true then (1 : Int) else 0
    rw [← perm_sum hp, List.map_map]
    have : (List.range ws.length).map ((fun j => if among ws.length (shR t ws) (leftQ t ws).toNat j = true then (1 : Int) else 0) ∘ sortAt ws.length (cfP (shR t ws))) = (List.range ws.length).map fun i => if i < (leftQ t ws).toNat then (1 : Int) else 0 := by
      apply List.map_congr_left
      intro i hi
      have hi := List.mem_range.1 hi
      simp only [Function.comp, among_at hi, decide_eq_true_eq]
    rw [this, count_lt _ _ (by omega)]
    omega
  rw [e]
  unfold leftQ sumQ
  omega
theorem share_le {t : Int} {ws : List Int} (h : wOk ws) (ht : 0 ≤ t) (hs : t ≤ ws.sum) {j : Nat} (hj : j < ws.length) : 0 ≤ shV t ws (leftQ t ws).toNat j ∧ shV t ws (leftQ t ws).toNat j ≤ ws.getD j 0 := by
  have h1 := sum_nonneg h
  have hS : 0 < ws.sum := by omega
  have hw := h _ (getD_mem0 hj)
  have hq := shQ_rng h ht hj
  unfold shV
  refine ⟨by split <;> omega, ?_⟩
  rcases Int.lt_or_le t ws.sum with hlt | hge
  · have : shQ t ws j < ws.getD j 0 := by
      unfold shQ
      apply Int.ediv_lt_of_lt_mul hS
      rw [Int.mul_comm t]
      exact Int.mul_lt_mul_of_pos_left hlt (by omega)
    split <;> omega
  · have e : t = ws.sum := by omega
    have hq2 : ∀ i, i < ws.length → shQ t ws i = ws.getD i 0 := fun i _ => by
      unfold shQ
      rw [e]
      exact Int.mul_ediv_cancel_left _ (by omega)
    have hl : leftQ t ws = 0 := by
      have hr : ∀ k, k ≤ ws.length → sumQ t ws k = (ws.take k).sum := by
        intro k
        induction k with
        | zero => intro _; simp [sumQ]
        | succ k ih => intro hk; rw [sumQ_succ, ih (by omega), hq2 k (by omega), sum_take0 ws k (by omega)]
      unfold leftQ
      rw [hr _ (Nat.le_refl _), List.take_length]
      omega
    rw [hl, hq2 j hj]
    have : among ws.length (shR t ws) (0 : Int).toNat j = false := by
      cases hb : among ws.length (shR t ws) (0 : Int).toNat j with
      | false => rfl
      | true => obtain ⟨i, hi, _⟩ := among_iff.1 hb; simp at hi
    rw [this]
    simp
def lensL (us : List Sl) : List Int := us.map lenS
theorem lens_sum (us : List Sl) : (lensL us).sum = cnt us := rfl
theorem lens_ok {us : List Sl} (h : ∀ y ∈ us, slOk y) : wOk (lensL us) := fun w hw => by
  obtain ⟨x, hx, rfl⟩ := List.mem_map.1 hw
  have := h x hx
  unfold slOk at this
  unfold lenS
  omega
theorem fits_of {us : List Sl} {ks : List Int} (hl : ks.length = us.length) (h : ∀ i, i < us.length → 0 ≤ ks.getD i 0 ∧ ks.getD i 0 ≤ lenS (us.getD i default)) : fits us ks := by
  induction us generalizing ks with
  | nil => cases ks with
    | nil => trivial
    | cons k ks => simp at hl
  | cons x l ih =>
    cases ks with
    | nil => simp at hl
    | cons k ks =>
      refine ⟨by simpa using h 0 (by simp), ih (by simpa using hl) fun i hi => by simpa using h (i + 1) (by simp; omega)⟩
theorem share_fits {us : List Sl} {u : Int} (h : ∀ y ∈ us, slOk y) (hu : 0 ≤ u) (hc : u ≤ cnt us) : fits us (shareL u (lensL us)) := by
  refine fits_of (by simp [shareL, lensL]) fun i hi => ?_
  have hk := share_le (lens_ok h) hu (by rw [lens_sum]; exact hc) (j := i) (by simpa [lensL] using hi)
  have e1 : (shareL u (lensL us)).getD i 0 = shV u (lensL us) (leftQ u (lensL us)).toNat i := by
    unfold shareL
    have : i < (lensL us).length := by simpa [lensL] using hi
    simp [this]
  have e2 : (lensL us).getD i 0 = lenS (us.getD i default) := by
    unfold lensL
    simp [hi]
  rw [e1, ← e2]
  exact hk

end Go.Proofs.YtleknjngglhmaaaGreat
