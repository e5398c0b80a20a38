/- What is dealt out one after another is what lies between two places (plain). -/
import Derived.Test.YtacpjihbbmoolaaGreatP4
namespace Go.Proofs.YtacpjihbbmoolaaGreat
open Go Go.RowKit
set_option linter.unusedVariables false
set_option linter.unusedSimpArgs false

def pX : List Sl → Int → Int → List Sl
  | [], _, _ => []
  | x :: r, f, t => (if (if 0 > f then 0 else f) < (if x.e - x.s < t then x.e - x.s else t) then [⟨x.m, x.s + (if 0 > f then 0 else f), x.s + (if x.e - x.s < t then x.e - x.s else t)⟩] else []) ++ pX r (f - (x.e - x.s)) (t - (x.e - x.s))
theorem pcnt_cons (x : Sl) (r : List Sl) : cnt (x :: r) = (x.e - x.s) + cnt r := by simp [cnt, lenS]
theorem pcAt_cons (x : Sl) (r : List Sl) (f t : Int) (k : Nat) : pcAt (x :: r) f t (k + 1) = pcAt r (f - (x.e - x.s)) (t - (x.e - x.s)) k := by
  have e1 : (x :: r).getD (k + 1) default = r.getD k default := by simp
  have e2 : btA (x :: r) f (k + 1) = btA r (f - (x.e - x.s)) k := by unfold btA; rw [List.take_succ_cons, pcnt_cons, show f - (x.e - x.s + cnt (r.take k)) = f - (x.e - x.s) - cnt (r.take k) by omega]
  have e3 : btB (x :: r) t (k + 1) = btB r (t - (x.e - x.s)) k := by unfold btB; rw [e1, List.take_succ_cons, pcnt_cons, show t - (x.e - x.s + cnt (r.take k)) = t - (x.e - x.s) - cnt (r.take k) by omega]
  unfold pcAt
  rw [e1, e2, e3]
theorem pcs_pX : ∀ (us : List Sl) (f t : Int), pcs us f t us.length = pX us f t
  | [], _, _ => rfl
  | x :: r, f, t => by
    have ih := pcs_pX r (f - (x.e - x.s)) (t - (x.e - x.s))
    unfold pX
    rw [← ih]
    unfold pcs
    rw [List.length_cons, List.range_succ_eq_map, List.flatMap_cons, List.flatMap_map]
    congr 1
    · unfold pcAt btA btB
      simp [cnt]
    · rw [List.flatMap_def, List.flatMap_def]
      exact congrArg List.flatten (List.map_congr_left fun k _ => pcAt_cons x r f t k)
def dropU : Int → List Sl → List Sl
  | _, [] => []
  | u, x :: t => if u ≤ 0 then x :: t else if u < x.e - x.s then ⟨x.m, x.s + u, x.e⟩ :: t else dropU (u - (x.e - x.s)) t
def takeU : Int → List Sl → List Sl
  | _, [] => []
  | u, x :: t => if u ≤ 0 then [] else if u < x.e - x.s then [⟨x.m, x.s, x.s + u⟩] else ⟨x.m, x.s, x.e⟩ :: takeU (u - (x.e - x.s)) t
theorem dlF_eq : ∀ (al g l : List Sl) (u : Int), (dlF u g al l).2 = (dropU u al, (takeU u al).foldl extR l)
  | [], g, l, u => rfl
  | x :: t, g, l, u => by
    unfold dlF dropU takeU
    split
    · rfl
    · split
      · rfl
      · rw [dlF_eq t]; rfl
def lnOk (y : Sl) : Prop := y.s < y.e
theorem pX_no : ∀ (us : List Sl) (f t : Int), t ≤ 0 → (∀ y ∈ us, lnOk y) → pX us f t = []
  | [], _, _, _, _ => rfl
  | x :: r, f, t, ht, hv => by
    have hx : x.s < x.e := hv x (List.mem_cons_self ..)
    have ih := pX_no r (f - (x.e - x.s)) (t - (x.e - x.s)) (by omega) (fun y hy => hv y (List.mem_cons_of_mem _ hy))
    unfold pX
    rw [ih, if_neg (by split <;> split <;> omega)]
    rfl
theorem pX_front : ∀ (us : List Sl) (f t : Int), f ≤ 0 → (∀ y ∈ us, lnOk y) → pX us f t = takeU t us
  | [], _, _, _, _ => rfl
  | x :: r, f, t, hf, hv => by
    have hx : x.s < x.e := hv x (List.mem_cons_self ..)
    have hr : ∀ y ∈ r, lnOk y := fun y hy => hv y (List.mem_cons_of_mem _ hy)
    have ih := pX_front r (f - (x.e - x.s)) (t - (x.e - x.s)) (by omega) hr
    have hn := pX_no r (f - (x.e - x.s)) (t - (x.e - x.s))
    have hz : (if 0 > f then 0 else f) = 0 := by split <;> omega
    unfold pX takeU
    rw [hz]
    by_cases h0 : t ≤ 0
    · rw [if_pos h0, hn (by omega) hr, if_neg (by split <;> omega)]; rfl
    rw [if_neg h0, if_pos (by split <;> omega)]
    by_cases h1 : t < x.e - x.s
    · rw [if_pos h1, hn (by omega) hr, if_neg (by omega), Int.add_zero]; rfl
    · rw [if_neg h1, ih, Int.add_zero, show x.s + (if x.e - x.s < t then x.e - x.s else t) = x.e by split <;> omega]; rfl
theorem pX_eq : ∀ (us : List Sl) (f t : Int), 0 ≤ f → f ≤ t → (∀ y ∈ us, lnOk y) → pX us f t = takeU (t - f) (dropU f us)
  | [], _, _, _, _, _ => rfl
  | x :: r, f, t, hf, ht, hv => by
    have hx : x.s < x.e := hv x (List.mem_cons_self ..)
    have hr : ∀ y ∈ r, lnOk y := fun y hy => hv y (List.mem_cons_of_mem _ hy)
    by_cases h0 : f ≤ 0
    · obtain rfl : f = 0 := by omega
      rw [pX_front _ _ _ (by omega) hv, show dropU 0 (x :: r) = x :: r from if_pos (Int.le_refl _), Int.sub_zero]
    have hz : (if 0 > f then 0 else f) = f := by split <;> omega
    by_cases h1 : f < x.e - x.s
    · have e : dropU f (x :: r) = ⟨x.m, x.s + f, x.e⟩ :: r := by unfold dropU; rw [if_neg h0, if_pos h1]
      rw [e]
      have hn := pX_no r (f - (x.e - x.s)) (t - (x.e - x.s))
      have ih := pX_front r (f - (x.e - x.s)) (t - (x.e - x.s)) (by omega) hr
      unfold pX takeU
      rw [hz]
      dsimp only
      by_cases h2 : t - f ≤ 0
      · rw [if_pos h2, hn (by omega) hr, if_neg (by split <;> omega)]; rfl
      rw [if_neg h2, if_pos (by split <;> omega)]
      by_cases h3 : t - f < x.e - (x.s + f)
      · rw [if_pos h3, hn (by omega) hr, if_neg (by omega), show x.s + f + (t - f) = x.s + t by omega]; rfl
      · rw [if_neg h3, ih, show x.s + (if x.e - x.s < t then x.e - x.s else t) = x.e by split <;> omega, show t - f - (x.e - (x.s + f)) = t - (x.e - x.s) by omega]; rfl
    · have e : dropU f (x :: r) = dropU (f - (x.e - x.s)) r := by rw [dropU, if_neg h0, if_neg h1]
      have ih := pX_eq r (f - (x.e - x.s)) (t - (x.e - x.s)) (by omega) (by omega) hr
      rw [e]
      unfold pX
      rw [hz, ih, if_neg (by split <;> omega), show t - (x.e - x.s) - (f - (x.e - x.s)) = t - f by omega]
      rfl
theorem takeU_btw (us : List Sl) (f t : Int) (hf : 0 ≤ f) (ht : f ≤ t) (hv : ∀ y ∈ us, lnOk y) : (takeU (t - f) (dropU f us)).foldl extR [] = btwL us f t := by
  unfold btwL btwR
  rw [pcs_pX, pX_eq us f t hf ht hv]
theorem dropU_ok : ∀ (us : List Sl) (f : Int), (∀ y ∈ us, duOk y) → ∀ y ∈ dropU f us, duOk y
  | [], _, _ => fun y hy => by cases hy
  | x :: r, f, hv => fun y hy => by
    have hx := hv x (List.mem_cons_self ..)
    unfold dropU at hy
    split at hy
    · exact hv y hy
    · split at hy
      · rcases List.mem_cons.1 hy with h | h
        · subst h; unfold duOk at *; simp only; omega
        · exact hv y (List.mem_cons_of_mem _ h)
      · exact dropU_ok r _ (fun y hy => hv y (List.mem_cons_of_mem _ hy)) y hy
theorem dropU_add : ∀ (us : List Sl) (a b : Int), 0 ≤ a → 0 ≤ b → (∀ y ∈ us, lnOk y) → dropU a (dropU b us) = dropU (a + b) us
  | [], _, _, _, _, _ => rfl
  | x :: r, a, b, ha, hb, hv => by
    have hx : x.s < x.e := hv x (List.mem_cons_self ..)
    have hr : ∀ y ∈ r, lnOk y := fun y hy => hv y (List.mem_cons_of_mem _ hy)
    by_cases h0 : b ≤ 0
    · obtain rfl : b = 0 := by omega
      rw [show dropU 0 (x :: r) = x :: r from if_pos (Int.le_refl _), Int.add_zero]
    by_cases h1 : b < x.e - x.s
    · have e : dropU b (x :: r) = ⟨x.m, x.s + b, x.e⟩ :: r := by rw [dropU, if_neg h0, if_pos h1]
      rw [e]
      unfold dropU
      dsimp only
      by_cases h2 : a ≤ 0
      · obtain rfl : a = 0 := by omega
        rw [if_pos h2, if_neg (by omega), if_pos (by omega), Int.zero_add]
      rw [if_neg h2, if_neg (show ¬ a + b ≤ 0 by omega)]
      by_cases h3 : a < x.e - (x.s + b)
      · rw [if_pos h3, if_pos (show a + b < x.e - x.s by omega), show x.s + b + a = x.s + (a + b) by omega]
      · rw [if_neg h3, if_neg (show ¬ a + b < x.e - x.s by omega), show a - (x.e - (x.s + b)) = a + b - (x.e - x.s) by omega]
    · have e : dropU b (x :: r) = dropU (b - (x.e - x.s)) r := by rw [dropU, if_neg h0, if_neg h1]
      rw [e, dropU_add r a (b - (x.e - x.s)) ha (by omega) hr]
      rw [dropU, if_neg (by omega), if_neg (by omega), show a + (b - (x.e - x.s)) = a + b - (x.e - x.s) by omega]
end Go.Proofs.YtacpjihbbmoolaaGreat
