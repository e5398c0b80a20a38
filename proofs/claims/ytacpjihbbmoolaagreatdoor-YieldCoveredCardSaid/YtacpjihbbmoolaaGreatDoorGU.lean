/- Units of slices, plain law: lists of slices joined, cut, taken; what units they have. Shares by the largest remainder, plain law: those that come first in the order of remainders get one more. -/
import Derived.Test.YtacpjihbbmoolaaGreatDoorFS

namespace Go.Proofs.YtacpjihbbmoolaaGreatDoor
open Go Go.RowKit
set_option linter.unusedVariables false
set_option linter.unusedSimpArgs false

def lastS (l : List Sl) : Sl := l.getD (l.length - 1) default
def glues (l : List Sl) (x : Sl) : Prop := 0 < l.length ∧ (lastS l).m = x.m ∧ (lastS l).e = x.s
instance (l : List Sl) (x : Sl) : Decidable (glues l x) := by unfold glues; exact inferInstance
def extR (l : List Sl) (x : Sl) : List Sl := if glues l x then l.set (l.length - 1) ⟨(lastS l).m, (lastS l).s, x.e⟩ else l ++ [x]
def extL (l : List Sl) (x : Sl) : List Sl := if x.s = x.e then l else extR l x
def joinL (us : List Sl) : List Sl := us.foldl extL []
def nz (x : Sl) : Bool := decide (x.s ≠ x.e)
theorem foldl_extL (us : List Sl) : ∀ l, us.foldl extL l = (us.filter nz).foldl extR l := by
  induction us with
  | nil => intro l; rfl
  | cons x us ih =>
    intro l
    rw [List.foldl_cons, ih]
    unfold extL nz
    by_cases h : x.s = x.e
    · rw [if_pos h, List.filter_cons_of_neg (by simp [h])]
    · rw [if_neg h, List.filter_cons_of_pos (by simp [h])]
      rfl
theorem filter_nz {us : List Sl} (h : ∀ x ∈ us, x.s < x.e) : us.filter nz = us := List.filter_eq_self.2 fun x hx => by have := h x hx; unfold nz; simp; omega
theorem joinR_eq {us : List Sl} (h : ∀ x ∈ us, x.s < x.e) : us.foldl extR [] = joinL us := by unfold joinL; rw [foldl_extL, filter_nz h]
theorem lastS_concat (l : List Sl) (x : Sl) : lastS (l ++ [x]) = x := by unfold lastS; simp
theorem list_cases (l : List Sl) : l = [] ∨ ∃ l' y, l = l' ++ [y] := by
  rcases List.eq_nil_or_concat l with h|⟨l', y, h⟩
  · exact .inl h
  · exact .inr ⟨l', y, by simpa using h⟩
theorem extR_concat (l : List Sl) (y x : Sl) : extR (l ++ [y]) x = if y.m = x.m ∧ y.e = x.s then l ++ [⟨y.m, y.s, x.e⟩] else l ++ [y] ++ [x] := by
  have hg : glues (l ++ [y]) x ↔ (y.m = x.m ∧ y.e = x.s) := by
    unfold glues
    rw [lastS_concat]
    simp
  unfold extR
  by_cases h : y.m = x.m ∧ y.e = x.s
  · rw [if_pos h, if_pos (hg.2 h), lastS_concat]
    simp only [List.length_append, List.length_singleton, Nat.add_sub_cancel]
    rw [List.set_append_right _ _ (Nat.le_refl _)]
    simp
  · rw [if_neg h, if_neg (fun hh => h (hg.1 hh))]
theorem extR_nil (x : Sl) : extR [] x = [x] := by unfold extR glues; simp
theorem extR_len (l : List Sl) (x : Sl) : (extR l x).length ≤ l.length + 1 := by unfold extR; split <;> simp
theorem extL_len (l : List Sl) (x : Sl) : (extL l x).length ≤ l.length + 1 := by
  unfold extL
  split
  · omega
  · exact extR_len l x
theorem foldl_extL_len (us : List Sl) : ∀ l, (us.foldl extL l).length ≤ l.length + us.length := by
  induction us with
  | nil => intro l; simp
  | cons x us ih =>
    intro l
    have h1 := ih (extL l x)
    have h2 := extL_len l x
    simp only [List.foldl_cons, List.length_cons]
    omega
theorem joinL_len (us : List Sl) : (joinL us).length ≤ us.length := by have := foldl_extL_len us []; unfold joinL; simpa using this
theorem extR_ok {p : Int → Prop} {l : List Sl} {x : Sl} (hl : ∀ y ∈ l, p y.m ∧ 0 ≤ y.s ∧ y.s < y.e ∧ y.e ≤ 1000000000) (hx : p x.m ∧ 0 ≤ x.s ∧ x.s < x.e ∧ x.e ≤ 1000000000) : ∀ y ∈ extR l x, p y.m ∧ 0 ≤ y.s ∧ y.s < y.e ∧ y.e ≤ 1000000000 := by
  rcases list_cases l with rfl|⟨l, z, rfl⟩
  · rw [extR_nil]; simpa using hx
  · rw [extR_concat]
    have hz := hl z (by simp)
    split
    · rename_i hc
      intro y hy
      rcases List.mem_append.1 hy with hy|hy
      · exact hl y (by simp [hy])
      · simp at hy; subst hy; exact ⟨hz.1, hz.2.1, by show z.s < x.e; omega, hx.2.2.2⟩
    · intro y hy
      rcases List.mem_append.1 hy with hy|hy
      · exact hl y hy
      · simp at hy; subst hy; exact hx
theorem foldl_extR_ok {p : Int → Prop} : ∀ (us l : List Sl), (∀ y ∈ l, p y.m ∧ 0 ≤ y.s ∧ y.s < y.e ∧ y.e ≤ 1000000000) → (∀ y ∈ us, p y.m ∧ 0 ≤ y.s ∧ y.s < y.e ∧ y.e ≤ 1000000000) → ∀ y ∈ us.foldl extR l, p y.m ∧ 0 ≤ y.s ∧ y.s < y.e ∧ y.e ≤ 1000000000
  | [], l, hl, _ => hl
  | x :: us, l, hl, hu => foldl_extR_ok us (extR l x) (extR_ok hl (hu x (by simp))) fun y hy => hu y (by simp [hy])
theorem slOk_iff (x : Sl) : slOk x ↔ ((1 ≤ x.m ∧ x.m ≤ 1000000) ∧ 0 ≤ x.s ∧ x.s < x.e ∧ x.e ≤ 1000000000) := by unfold slOk; omega
theorem joinR_ok {us : List Sl} (h : ∀ y ∈ us, slOk y) : ∀ y ∈ us.foldl extR [], slOk y := fun y hy => (slOk_iff y).2 (foldl_extR_ok (p := fun m => 1 ≤ m ∧ m ≤ 1000000) us [] (by simp) (fun y hy => (slOk_iff y).1 (h y hy)) y hy)
theorem joinL_ok {us : List Sl} (h : ∀ y ∈ us, slOk y) : ∀ y ∈ joinL us, slOk y := by
  rw [← joinR_eq fun x hx => by have := h x hx; unfold slOk at this; omega]
  exact joinR_ok h

def unitsOf (x : Sl) : List (Int × Int) := (List.range (x.e - x.s).toNat).map fun (i : Nat) => (x.m, x.s + (i : Int))
def expand (us : List Sl) : List (Int × Int) := us.flatMap unitsOf
theorem expand_nil : expand [] = [] := rfl
theorem expand_app (a b : List Sl) : expand (a ++ b) = expand a ++ expand b := by unfold expand; exact List.flatMap_append
theorem expand_one (x : Sl) : expand [x] = unitsOf x := by unfold expand; simp
theorem expand_cons (x : Sl) (l : List Sl) : expand (x :: l) = unitsOf x ++ expand l := by unfold expand; simp
theorem units_cat {m a b c : Int} (h1 : a ≤ b) (h2 : b ≤ c) : unitsOf ⟨m, a, b⟩ ++ unitsOf ⟨m, b, c⟩ = unitsOf ⟨m, a, c⟩ := by
  unfold unitsOf
  have e : (c - a).toNat = (b - a).toNat + (c - b).toNat := by omega
  simp only
  rw [e, List.range_add, List.map_append, List.map_map]
  congr 1
  apply List.map_congr_left
  intro i _
  simp only [Function.comp]
  congr 1
  omega
theorem units_zero {x : Sl} (h : x.s = x.e) : unitsOf x = [] := by unfold unitsOf; rw [h]; simp
theorem units_len (x : Sl) : (unitsOf x).length = (x.e - x.s).toNat := by unfold unitsOf; simp
theorem expand_extR {l : List Sl} {x : Sl} (hl : ∀ y ∈ l, y.s ≤ y.e) (hx : x.s ≤ x.e) : expand (extR l x) = expand l ++ unitsOf x := by
  rcases list_cases l with rfl|⟨l, y, rfl⟩
  · rw [extR_nil, expand_one]; rfl
  · rw [extR_concat]
    split
    · rename_i h
      have hy := hl y (by simp)
      obtain ⟨ym, ys, ye⟩ := y
      obtain ⟨xm, xs, xe⟩ := x
      simp only at h hy hx ⊢
      obtain ⟨rfl, rfl⟩ := h
      rw [expand_app, expand_app, expand_one, expand_one, List.append_assoc, units_cat hy hx]
    · rw [expand_app, expand_one]
theorem extR_le {l : List Sl} {x : Sl} (hl : ∀ y ∈ l, y.s < y.e) (hx : x.s < x.e) : ∀ y ∈ extR l x, y.s < y.e := by
  rcases list_cases l with rfl|⟨l, z, rfl⟩
  · rw [extR_nil]; simpa using hx
  · rw [extR_concat]
    have hz := hl z (by simp)
    split
    · intro y hy
      rcases List.mem_append.1 hy with hy|hy
      · exact hl y (by simp [hy])
      · simp at hy; subst hy; show z.s < x.e; omega
    · intro y hy
      rcases List.mem_append.1 hy with hy|hy
      · exact hl y hy
      · simp at hy; subst hy; exact hx
theorem expand_foldl : ∀ (us l : List Sl), (∀ y ∈ l, y.s < y.e) → (∀ y ∈ us, y.s ≤ y.e) → expand (us.foldl extL l) = expand l ++ expand us ∧ ∀ y ∈ us.foldl extL l, y.s < y.e
  | [], l, hl, _ => ⟨by simp [expand_nil], hl⟩
  | x :: us, l, hl, hu => by
    have hx := hu x (by simp)
    have hus : ∀ y ∈ us, y.s ≤ y.e := fun y hy => hu y (by simp [hy])
    rw [List.foldl_cons]
    by_cases h : x.s = x.e
    · have e : extL l x = l := by unfold extL; rw [if_pos h]
      rw [e]
      obtain ⟨h1, h2⟩ := expand_foldl us l hl hus
      exact ⟨by rw [h1, expand_cons, units_zero h, List.nil_append], h2⟩
    · have e : extL l x = extR l x := by unfold extL; rw [if_neg h]
      rw [e]
      obtain ⟨h1, h2⟩ := expand_foldl us (extR l x) (extR_le hl (by omega)) hus
      exact ⟨by rw [h1, expand_extR (fun y hy => by have := hl y hy; omega) hx, expand_cons, List.append_assoc], h2⟩
theorem expand_join {us : List Sl} (h : ∀ y ∈ us, y.s ≤ y.e) : expand (joinL us) = expand us := by
  have := (expand_foldl us [] (by simp) h).1
  unfold joinL
  simpa [expand_nil] using this
theorem join_lt {us : List Sl} (h : ∀ y ∈ us, y.s ≤ y.e) : ∀ y ∈ joinL us, y.s < y.e := (expand_foldl us [] (by simp) h).2

def cmpct : List Sl → Prop
  | [] => True
  | [x] => x.s < x.e
  | x :: y :: l => x.s < x.e ∧ ¬ (x.m = y.m ∧ x.e = y.s) ∧ cmpct (y :: l)
theorem cmpct_concat : ∀ (l : List Sl) (y x : Sl), cmpct (l ++ [y]) → x.s < x.e → ¬ (y.m = x.m ∧ y.e = x.s) → cmpct (l ++ [y] ++ [x])
  | [], y, x, h, hx, hn => ⟨h, hn, hx⟩
  | [a], y, x, h, hx, hn => ⟨h.1, h.2.1, cmpct_concat [] y x h.2.2 hx hn⟩
  | a :: b :: l, y, x, h, hx, hn => ⟨h.1, h.2.1, cmpct_concat (b :: l) y x h.2.2 hx hn⟩
theorem cmpct_glue : ∀ (l : List Sl) (y : Sl) (e : Int), cmpct (l ++ [y]) → y.s < e → cmpct (l ++ [⟨y.m, y.s, e⟩])
  | [], y, e, h, he => he
  | [a], y, e, h, he => ⟨h.1, h.2.1, he⟩
  | a :: b :: l, y, e, h, he => ⟨h.1, h.2.1, cmpct_glue (b :: l) y e h.2.2 he⟩
theorem cmpct_lt : ∀ {l : List Sl}, cmpct l → ∀ y ∈ l, y.s < y.e
  | [], _, y, hy => by simp at hy
  | [x], h, y, hy => by simp at hy; subst hy; exact h
  | x :: z :: l, h, y, hy => by
    rcases List.mem_cons.1 hy with rfl|hy
    · exact h.1
    · exact cmpct_lt h.2.2 y hy
theorem cmpct_extR {l : List Sl} {x : Sl} (h : cmpct l) (hx : x.s < x.e) : cmpct (extR l x) := by
  rcases list_cases l with rfl|⟨l, y, rfl⟩
  · rw [extR_nil]; exact hx
  · rw [extR_concat]
    split
    · rename_i hc
      have hy := cmpct_lt h y (by simp)
      exact cmpct_glue l y x.e h (by omega)
    · rename_i hc; exact cmpct_concat l y x h hx hc
theorem cmpct_foldl : ∀ (us l : List Sl), cmpct l → (∀ y ∈ us, y.s ≤ y.e) → cmpct (us.foldl extL l)
  | [], l, hl, _ => hl
  | x :: us, l, hl, hu => by
    have hx := hu x (by simp)
    rw [List.foldl_cons]
    refine cmpct_foldl us _ ?_ fun y hy => hu y (by simp [hy])
    unfold extL
    split
    · exact hl
    · exact cmpct_extR hl (by omega)
theorem cmpct_join {us : List Sl} (h : ∀ y ∈ us, y.s ≤ y.e) : cmpct (joinL us) := cmpct_foldl us [] trivial h
theorem units_head {x : Sl} (h : x.s < x.e) : unitsOf x = (x.m, x.s) :: unitsOf ⟨x.m, x.s + 1, x.e⟩ := by
  have e := units_cat (m := x.m) (a := x.s) (b := x.s + 1) (c := x.e) (by omega) (by omega)
  have e1 : unitsOf ⟨x.m, x.s, x.s + 1⟩ = [(x.m, x.s)] := by
    unfold unitsOf
    have : (x.s + 1 - x.s).toNat = 1 := by omega
    simp only [this]
    simp
  rw [e1] at e
  exact e.symm
theorem expand_eq_nil {l : List Sl} (h : cmpct l) (he : expand l = []) : l = [] := by
  cases l with
  | nil => rfl
  | cons x l =>
    have hx := cmpct_lt h x (by simp)
    rw [expand_cons, units_head hx] at he
    cases he
theorem next_ne {x : Sl} {l : List Sl} (h : cmpct (x :: l)) : (expand l).head? ≠ some (x.m, x.e) := by
  cases l with
  | nil => simp [expand_nil]
  | cons y l =>
    have hy := cmpct_lt h.2.2 y (by simp)
    rw [expand_cons, units_head hy]
    intro he
    simp at he
    exact h.2.1 ⟨he.1.symm, he.2.symm⟩
theorem cmpct_tail {x : Sl} {l : List Sl} (h : cmpct (x :: l)) : cmpct l := by
  cases l with
  | nil => trivial
  | cons y l => exact h.2.2
theorem canon : ∀ {a b : List Sl}, cmpct a → cmpct b → expand a = expand b → a = b
  | [], b, ha, hb, h => (expand_eq_nil hb (by rw [← h]; rfl)).symm
  | x :: a, [], ha, hb, h => expand_eq_nil ha (by rw [h]; rfl)
  | x :: a, y :: b, ha, hb, h => by
    have hx := cmpct_lt ha x (by simp)
    have hy := cmpct_lt hb y (by simp)
    rw [expand_cons, expand_cons] at h
    have h0 := h
    rw [units_head hx, units_head hy] at h0
    simp only [List.cons_append, List.cons.injEq, Prod.mk.injEq] at h0
    obtain ⟨⟨e1, e2⟩, _⟩ := h0
    obtain ⟨xm, xs, xe⟩ := x
    obtain ⟨ym, ys, ye⟩ := y
    simp only at e1 e2 hx hy
    subst e1 e2
    have key : ∀ {p q : Int} {A B : List Sl}, xs < p → p < q → unitsOf ⟨xm, xs, p⟩ ++ expand A = unitsOf ⟨xm, xs, q⟩ ++ expand B → (expand A).head? = some (xm, p) := by
      intro p q A B h1 h2 h3
      rw [← units_cat (m := xm) (a := xs) (b := p) (c := q) (by omega) (by omega), List.append_assoc] at h3
      have h4 := List.append_cancel_left h3
      rw [h4, units_head (by show p < q; exact h2)]
      rfl
    rcases Int.lt_trichotomy xe ye with hlt|heq|hgt
    · exact absurd (key hx hlt h) (next_ne ha)
    · subst heq
      rw [canon (cmpct_tail ha) (cmpct_tail hb) (List.append_cancel_left h)]
    · exact absurd (key hy hgt h.symm) (next_ne hb)
theorem join_self {l : List Sl} (h : cmpct l) : joinL l = l := canon (cmpct_join fun y hy => by have := cmpct_lt h y hy; omega) h (expand_join fun y hy => by have := cmpct_lt h y hy; omega)

def lenS (x : Sl) : Int := x.e - x.s
def cnt (us : List Sl) : Int := (us.map lenS).sum
theorem cnt_nil : cnt [] = 0 := rfl
theorem cnt_cons (x : Sl) (l : List Sl) : cnt (x :: l) = lenS x + cnt l := by unfold cnt; simp
theorem cnt_app (a b : List Sl) : cnt (a ++ b) = cnt a + cnt b := by unfold cnt; rw [List.map_append, List.sum_append]
theorem cnt_expand {us : List Sl} (h : ∀ y ∈ us, y.s ≤ y.e) : cnt us = (expand us).length := by
  induction us with
  | nil => rfl
  | cons x l ih =>
    have hx := h x (by simp)
    rw [cnt_cons, expand_cons, List.length_append, units_len, ih fun y hy => h y (by simp [hy])]
    unfold lenS
    push_cast
    omega
theorem cnt_nonneg {us : List Sl} (h : ∀ y ∈ us, y.s ≤ y.e) : 0 ≤ cnt us := by rw [cnt_expand h]; omega
theorem cnt_join {us : List Sl} (h : ∀ y ∈ us, y.s ≤ y.e) : cnt (joinL us) = cnt us := by
  rw [cnt_expand fun y hy => Int.le_of_lt (join_lt h y hy), cnt_expand h, expand_join h]
theorem cnt_le {us : List Sl} (h : ∀ y ∈ us, slOk y) : cnt us ≤ 1000000000 * (us.length : Int) := by
  induction us with
  | nil => simp [cnt]
  | cons x l ih =>
    have hx := h x (by simp)
    have := ih fun y hy => h y (by simp [hy])
    rw [cnt_cons, List.length_cons]
    unfold slOk at hx
    unfold lenS
    push_cast
    omega
theorem cnt_take (us : List Sl) (k : Nat) (h : k < us.length) : cnt (us.take (k + 1)) = cnt (us.take k) + lenS (us.getD k default) := by
  rw [List.take_succ_eq_append_getElem h, cnt_app, List.getD_eq_getElem?_getD, List.getElem?_eq_getElem h, cnt_cons, cnt_nil]
  simp

def fstP (x : Sl) (k : Int) : Sl := ⟨x.m, x.s, x.s + k⟩
def sndP (x : Sl) (k : Int) : Sl := ⟨x.m, x.s + k, x.e⟩
def cutA (us : List Sl) (ks : List Int) : List Sl := (List.zipWith fstP us ks).foldl extL []
def cutB (us : List Sl) (ks : List Int) : List Sl := (List.zipWith sndP us ks).foldl extL []
def shL : List Sl → Int → List Int
  | [], _ => []
  | x :: l, u => min u (lenS x) :: shL l (u - min u (lenS x))
theorem shL_len : ∀ (us : List Sl) (u : Int), (shL us u).length = us.length
  | [], _ => rfl
  | x :: l, u => by simp [shL, shL_len l]
def fits : List Sl → List Int → Prop
  | [], [] => True
  | x :: l, k :: ks => (0 ≤ k ∧ k ≤ lenS x) ∧ fits l ks
  | _, _ => False
theorem fits_len : ∀ {us : List Sl} {ks : List Int}, fits us ks → ks.length = us.length
  | [], [], _ => rfl
  | x :: l, k :: ks, h => by simp [fits_len h.2]
  | [], _ :: _, h => h.elim
  | _ :: _, [], h => h.elim
theorem fits_shL : ∀ {us : List Sl} {u : Int}, (∀ y ∈ us, y.s ≤ y.e) → 0 ≤ u → fits us (shL us u)
  | [], _, _, _ => trivial
  | x :: l, u, h, hu => by
    have hx := h x (by simp)
    refine ⟨by unfold lenS; omega, fits_shL (fun y hy => h y (by simp [hy])) (by omega)⟩
theorem fits_mem {us : List Sl} {ks : List Int} (h : fits us ks) (hu : ∀ y ∈ us, y.s ≤ y.e) : (∀ y ∈ List.zipWith fstP us ks, y.s ≤ y.e) ∧ ∀ y ∈ List.zipWith sndP us ks, y.s ≤ y.e := by
  induction us generalizing ks with
  | nil => simp
  | cons x l ih =>
    cases ks with
    | nil => exact h.elim
    | cons k ks =>
      obtain ⟨h1, h2⟩ := ih h.2 fun y hy => hu y (by simp [hy])
      have hk := h.1
      unfold lenS at hk
      simp only [List.zipWith_cons_cons, List.mem_cons, forall_eq_or_imp]
      exact ⟨⟨by unfold fstP; simp; omega, h1⟩, ⟨by unfold sndP; simp; omega, h2⟩⟩
theorem fits_ok {us : List Sl} {ks : List Int} (h : fits us ks) (hu : ∀ y ∈ us, slOk y) : (∀ y ∈ (List.zipWith fstP us ks).filter nz, slOk y) ∧ ∀ y ∈ (List.zipWith sndP us ks).filter nz, slOk y := by
  induction us generalizing ks with
  | nil => simp
  | cons x l ih =>
    cases ks with
    | nil => exact h.elim
    | cons k ks =>
      obtain ⟨h1, h2⟩ := ih h.2 fun y hy => hu y (by simp [hy])
      have hk := h.1
      have hx := hu x (by simp)
      unfold lenS at hk
      unfold slOk at hx
      simp only [List.zipWith_cons_cons]
      constructor
      · intro y hy
        rcases List.mem_filter.1 hy with ⟨hy1, hy2⟩
        rcases List.mem_cons.1 hy1 with rfl|hy1
        · unfold nz fstP at hy2; unfold slOk fstP; simp at hy2 ⊢; omega
        · exact h1 y (List.mem_filter.2 ⟨hy1, hy2⟩)
      · intro y hy
        rcases List.mem_filter.1 hy with ⟨hy1, hy2⟩
        rcases List.mem_cons.1 hy1 with rfl|hy1
        · unfold nz sndP at hy2; unfold slOk sndP; simp at hy2 ⊢; omega
        · exact h2 y (List.mem_filter.2 ⟨hy1, hy2⟩)
theorem cutA_ok {us : List Sl} {ks : List Int} (h : fits us ks) (hu : ∀ y ∈ us, slOk y) : ∀ y ∈ cutA us ks, slOk y := by
  unfold cutA; rw [foldl_extL]; exact joinR_ok (fits_ok h hu).1
theorem cutB_ok {us : List Sl} {ks : List Int} (h : fits us ks) (hu : ∀ y ∈ us, slOk y) : ∀ y ∈ cutB us ks, slOk y := by
  unfold cutB; rw [foldl_extL]; exact joinR_ok (fits_ok h hu).2
theorem cutA_cmpct {us : List Sl} {ks : List Int} (h : fits us ks) (hu : ∀ y ∈ us, y.s ≤ y.e) : cmpct (cutA us ks) := cmpct_foldl _ [] trivial (fits_mem h hu).1
theorem cutB_cmpct {us : List Sl} {ks : List Int} (h : fits us ks) (hu : ∀ y ∈ us, y.s ≤ y.e) : cmpct (cutB us ks) := cmpct_foldl _ [] trivial (fits_mem h hu).2
theorem cutA_len (us : List Sl) (ks : List Int) : (cutA us ks).length ≤ us.length := by
  have := foldl_extL_len (List.zipWith fstP us ks) []
  unfold cutA
  simp at this ⊢
  omega
theorem cutB_len (us : List Sl) (ks : List Int) : (cutB us ks).length ≤ us.length := by
  have := foldl_extL_len (List.zipWith sndP us ks) []
  unfold cutB
  simp at this ⊢
  omega
end Go.Proofs.YtacpjihbbmoolaaGreatDoor

namespace Go.Proofs.YtacpjihbbmoolaaGreatDoor
open Go Go.RowKit
set_option linter.unusedVariables false
set_option linter.unusedSimpArgs false

theorem cmpI_lt (a b : Int) : cmpI a b < 0 ↔ a < b := by unfold cmpI; split <;> (try split) <;> omega
theorem cmpI_ne (a b : Int) : cmpI a b ≠ 0 ↔ a ≠ b := by unfold cmpI; split <;> (try split) <;> omega
def cfP (R : Nat → Int) (i j : Nat) : Int := if cmpI (R j) (R i) ≠ 0 then cmpI (R j) (R i) else cmpI i j
theorem cfP_neg (R : Nat → Int) (i j : Nat) : cfP R i j < 0 ↔ (R j < R i ∨ (R j = R i ∧ i < j)) := by
  unfold cfP
  by_cases h : R j = R i
  · rw [if_neg (by rw [cmpI_ne]; simpa using h), cmpI_lt]; omega
  · rw [if_pos ((cmpI_ne _ _).2 h), cmpI_lt]; omega
theorem cfP_swo (R : Nat → Int) : Go.Sort.SWO (ltOf (cfP R)) := by
  refine ⟨fun x => ?_, fun x y z => ?_, fun x y z => ?_⟩ <;> unfold ltOf <;> simp only [cfP_neg, decide_eq_true_eq, decide_eq_false_iff_not] <;> omega
def among (n : Nat) (R : Nat → Int) (k : Nat) (j : Nat) : Bool := (List.range (min k n)).any fun i => Nat.beq (sortAt n (cfP R) i) j
theorem among_iff {n : Nat} {R : Nat → Int} {k j : Nat} : among n R k j = true ↔ ∃ i, i < k ∧ i < n ∧ sortAt n (cfP R) i = j := by
  unfold among
  rw [List.any_eq_true]
  constructor
  · rintro ⟨i, hi, he⟩
    have := List.mem_range.1 hi
    exact ⟨i, by omega, by omega, Nat.eq_of_beq_eq_true he⟩
  · rintro ⟨i, h1, h2, rfl⟩
    exact ⟨i, List.mem_range.2 (by omega), Nat.beq_refl _⟩
theorem among_succ {n : Nat} {R : Nat → Int} {k j : Nat} (hk : k < n) : among n R (k + 1) j = (among n R k j || Nat.beq (sortAt n (cfP R) k) j) := by
  rw [Bool.eq_iff_iff, Bool.or_eq_true, among_iff, among_iff]
  constructor
  · rintro ⟨i, h1, h2, h3⟩
    rcases Nat.lt_or_ge i k with h|h
    · exact .inl ⟨i, h, h2, h3⟩
    · obtain rfl : i = k := by omega
      right
      rw [h3, Nat.beq_refl]
  · rintro (⟨i, h1, h2, h3⟩|h)
    · exact ⟨i, by omega, h2, h3⟩
    · exact ⟨k, by omega, hk, Nat.eq_of_beq_eq_true h⟩
theorem among_at {n : Nat} {R : Nat → Int} {k i : Nat} (hi : i < n) : among n R k (sortAt n (cfP R) i) = decide (i < k) := by
  rw [Bool.eq_iff_iff, among_iff, decide_eq_true_eq]
  constructor
  · rintro ⟨i', h1, h2, h3⟩
    have := sortAt_inj (cfP_swo R) h2 hi h3
    omega
  · intro h; exact ⟨i, h, hi, rfl⟩
theorem next_least {n : Nat} {R : Nat → Int} {k j : Nat} (hk : k < n) (hj : j < n) (ha : among n R k j = false) : j = sortAt n (cfP R) k ∨ cfP R (sortAt n (cfP R) k) j < 0 := by
  have hS := cfP_swo R
  obtain ⟨i, hi, rfl⟩ := sortAt_sur hS hj
  rw [among_at hi, decide_eq_false_iff_not] at ha
  by_cases hik : i = k
  · subst hik; exact .inl rfl
  · right
    have h1 := sortAt_le hS (i := k) (j := i) (by omega) hi
    have h2 : sortAt n (cfP R) i ≠ sortAt n (cfP R) k := fun e => hik (sortAt_inj hS hi hk e)
    rw [cfP_neg] at h1 ⊢
    omega
theorem among_full {n : Nat} {R : Nat → Int} {k j : Nat} (hk : n ≤ k) (hj : j < n) : among n R k j = true := by
  obtain ⟨i, hi, rfl⟩ := sortAt_sur (cfP_swo R) hj
  rw [among_at hi]
  exact decide_eq_true (by omega)

def shQ (t : Int) (ws : List Int) (i : Nat) : Int := t * ws.getD i 0 / ws.sum
def shR (t : Int) (ws : List Int) (i : Nat) : Int := t * ws.getD i 0 % ws.sum
def sumQ (t : Int) (ws : List Int) (k : Nat) : Int := ((List.range k).map (shQ t ws)).sum
def leftQ (t : Int) (ws : List Int) : Int := t - sumQ t ws ws.length
def shV (t : Int) (ws : List Int) (k j : Nat) : Int := shQ t ws j + (if among ws.length (shR t ws) k j = true then 1 else 0)
def shareL (t : Int) (ws : List Int) : List Int := (List.range ws.length).map (shV t ws (leftQ t ws).toNat)
theorem sumQ_succ (t : Int) (ws : List Int) (k : Nat) : sumQ t ws (k + 1) = sumQ t ws k + shQ t ws k := by unfold sumQ; rw [List.range_succ, List.map_append, List.sum_append]; simp
theorem perm_sum {l l' : List Int} (h : l.Perm l') : l.sum = l'.sum := by
  induction h with
  | nil => rfl
  | cons x _ ih => simp [ih]
  | swap x y l => simp; omega
  | trans _ _ h1 h2 => exact h1.trans h2
def wOk (ws : List Int) : Prop := ∀ w ∈ ws, 1 ≤ w ∧ w ≤ 1000000000000
theorem sum_nonneg {ws : List Int} (h : wOk ws) : (ws.length : Int) ≤ ws.sum := by
  induction ws with
  | nil => simp
  | cons w l ih =>
    have := ih fun x hx => h x (by simp [hx])
    have := h w (by simp)
    simp only [List.length_cons, List.sum_cons]
    omega
theorem sum_le {ws : List Int} (h : wOk ws) : ws.sum ≤ 1000000000000 * (ws.length : Int) := by
  induction ws with
  | nil => simp
  | cons w l ih =>
    have := ih fun x hx => h x (by simp [hx])
    have := h w (by simp)
    simp only [List.length_cons, List.sum_cons]
    omega
theorem getD_mem0 {ws : List Int} {i : Nat} (h : i < ws.length) : ws.getD i 0 ∈ ws := by rw [List.getD_eq_getElem?_getD, List.getElem?_eq_getElem h]; exact List.getElem_mem _
theorem sum_take0 (ws : List Int) (k : Nat) (h : k < ws.length) : (ws.take (k + 1)).sum = (ws.take k).sum + ws.getD k 0 := by
  rw [List.take_succ_eq_append_getElem h, List.sum_append, List.getD_eq_getElem?_getD, List.getElem?_eq_getElem h]
  simp
theorem shQ_rng {t : Int} {ws : List Int} (h : wOk ws) (ht : 0 ≤ t) {i : Nat} (hi : i < ws.length) : 0 ≤ shQ t ws i ∧ shQ t ws i ≤ t := by
  have h1 := sum_nonneg h
  have h2 := h _ (getD_mem0 hi)
  unfold shQ
  refine ⟨Int.ediv_nonneg (Int.mul_nonneg ht (by omega)) (by omega), ?_⟩
  have h3 : ws.getD i 0 ≤ ws.sum := by
    have : ∀ (l : List Int), wOk l → ∀ w ∈ l, w ≤ l.sum := by
      intro l
      induction l with
      | nil => intro _ w hw; simp at hw
      | cons a l ih =>
        intro hl w hw
        have hl' : wOk l := fun x hx => hl x (by simp [hx])
        have h4 := sum_nonneg hl'
        have ha := hl a (by simp)
        rcases List.mem_cons.1 hw with rfl|hw
        · simp; omega
        · have := ih hl' w hw
          simp; omega
    exact this ws h _ (getD_mem0 hi)
  have h4 : t * ws.getD i 0 ≤ t * ws.sum := Int.mul_le_mul_of_nonneg_left h3 ht
  exact Int.ediv_le_of_le_mul (by omega) h4
theorem shR_rng {t : Int} {ws : List Int} (h : wOk ws) {i : Nat} (hi : i < ws.length) : 0 ≤ shR t ws i ∧ shR t ws i < ws.sum := by
  have h1 := sum_nonneg h
  exact ⟨Int.emod_nonneg _ (by omega), Int.emod_lt_of_pos _ (by omega)⟩
theorem left_mul (t : Int) (ws : List Int) : ∀ k, k ≤ ws.length → sumQ t ws k * ws.sum + ((List.range k).map (shR t ws)).sum = t * (ws.take k).sum
  | 0, _ => by simp [sumQ]
  | k + 1, hk => by
    have ih := left_mul t ws k (by omega)
    have e := Int.mul_ediv_add_emod (t * ws.getD k 0) ws.sum
    rw [sumQ_succ, sum_take0 ws k (by omega), List.range_succ, List.map_append, List.sum_append, Int.add_mul, Int.mul_add]
    have e2 : shQ t ws k * ws.sum = ws.sum * (t * ws.getD k 0 / ws.sum) := Int.mul_comm _ _
    have e3 : [k].map (shR t ws) = [t * ws.getD k 0 % ws.sum] := rfl
    rw [e2, e3, List.sum_singleton]
    omega
theorem rest_sum {t : Int} {ws : List Int} (h : wOk ws) : ∀ k, k ≤ ws.length → 0 ≤ ((List.range k).map (shR t ws)).sum ∧ ((List.range k).map (shR t ws)).sum + (k : Int) ≤ (k : Int) * ws.sum
  | 0, _ => by simp
  | k + 1, hk => by
    obtain ⟨h1, h2⟩ := rest_sum (t := t) h k (by omega)
    have h3 := shR_rng (t := t) h (i := k) (by omega)
    rw [List.range_succ, List.map_append, List.sum_append]
    have e3 : [k].map (shR t ws) = [shR t ws k] := rfl
    rw [e3, List.sum_singleton]
    have e4 : ((k + 1 : Nat) : Int) * ws.sum = (k : Int) * ws.sum + ws.sum := by push_cast; rw [Int.add_mul, Int.one_mul]
    rw [e4]
    push_cast
    omega
theorem left_rng {t : Int} {ws : List Int} (h : wOk ws) (ht : 0 ≤ t) (hn : ws = [] → t = 0) : 0 ≤ leftQ t ws ∧ leftQ t ws ≤ ws.length := by
  rcases Nat.eq_zero_or_pos ws.length with h0|h0
  · have : ws = [] := List.length_eq_zero_iff.1 h0
    subst this
    have := hn rfl
    subst this
    simp [leftQ, sumQ]
  · have h1 := sum_nonneg h
    have hS : 0 < ws.sum := by omega
    have e := left_mul t ws ws.length (Nat.le_refl _)
    rw [List.take_length] at e
    obtain ⟨h2, h3⟩ := rest_sum (t := t) h ws.length (Nat.le_refl _)
    have e2 : leftQ t ws * ws.sum = ((List.range ws.length).map (shR t ws)).sum := by unfold leftQ; rw [Int.sub_mul]; omega
    constructor
    · rcases Int.lt_or_le (leftQ t ws) 0 with hneg|hpos
      · have : leftQ t ws * ws.sum < 0 := Int.mul_neg_of_neg_of_pos hneg hS
        omega
      · exact hpos
    · rcases Int.lt_or_le (ws.length : Int) (leftQ t ws) with hgt|hle
      · have : (ws.length : Int) * ws.sum < leftQ t ws * ws.sum := Int.mul_lt_mul_of_pos_right hgt hS
        omega
      · exact hle
theorem sum_map_add (f g : Nat → Int) (l : List Nat) : (l.map fun i => f i + g i).sum = (l.map f).sum + (l.map g).sum := by
  induction l with
  | nil => rfl
  | cons a l ih => simp [ih]; omega
theorem count_lt (n k : Nat) (h : k ≤ n) : ((List.range n).map fun i => if i < k then (1 : Int) else 0).sum = k := by
  induction n with
  | zero => have : k = 0 := by omega
            subst this; rfl
  | succ n ih =>
    rw [List.range_succ, List.map_append, List.sum_append]
    rcases Nat.lt_or_ge n k with hlt|hge
    · have hk : k = n + 1 := by omega
      subst hk
      have : (List.range n).map (fun i => if i < n + 1 then (1 : Int) else 0) = (List.range n).map fun i => if i < n then (1 : Int) else 0 := by
        apply List.map_congr_left
        intro i hi
        have := List.mem_range.1 hi
        rw [if_pos (by omega), if_pos this]
      rw [this]
      have ih' : ((List.range n).map fun i => if i < n then (1 : Int) else 0).sum = n := by
        clear ih this h hlt
        induction n with
        | zero => rfl
        | succ n ih =>
          rw [List.range_succ, List.map_append, List.sum_append]
          have : (List.range n).map (fun i => if i < n + 1 then (1 : Int) else 0) = (List.range n).map fun i => if i < n then (1 : Int) else 0 := by
            apply List.map_congr_left
            intro i hi
            have := List.mem_range.1 hi
            rw [if_pos (by omega), if_pos this]
          rw [this, ih]
          simp
      rw [ih']
      simp
    · rw [ih hge]
      simp [Nat.not_lt.2 hge]
theorem share_sum {t : Int} {ws : List Int} (h : wOk ws) (ht : 0 ≤ t) (hn : ws = [] → t = 0) : (shareL t ws).sum = t := by
  obtain ⟨h1, h2⟩ := left_rng h ht hn
  unfold shareL shV
  rw [sum_map_add]
  have e : ((List.range ws.length).map fun j => if among ws.length (shR t ws) (leftQ t ws).toNat j = true then (1 : Int) else 0).sum = leftQ t ws := by
    have hp := (sortAt_perm (n := ws.length) (cfP_swo (shR t ws))).map fun j => if among ws.length (shR t ws) (leftQ t ws).toNat j = true then (1 : Int) else 0
    rw [← perm_sum hp, List.map_map]
    have : (List.range ws.length).map ((fun j => if among ws.length (shR t ws) (leftQ t ws).toNat j = true then (1 : Int) else 0) ∘ sortAt ws.length (cfP (shR t ws))) = (List.range ws.length).map fun i => if i < (leftQ t ws).toNat then (1 : Int) else 0 := by
      apply List.map_congr_left
      intro i hi
      have hi := List.mem_range.1 hi
      simp only [Function.comp, among_at hi, decide_eq_true_eq]
    rw [this, count_lt _ _ (by omega)]
    omega
  rw [e]
  unfold leftQ sumQ
  omega
theorem share_le {t : Int} {ws : List Int} (h : wOk ws) (ht : 0 ≤ t) (hs : t ≤ ws.sum) {j : Nat} (hj : j < ws.length) : 0 ≤ shV t ws (leftQ t ws).toNat j ∧ shV t ws (leftQ t ws).toNat j ≤ ws.getD j 0 := by
  have h1 := sum_nonneg h
  have hS : 0 < ws.sum := by omega
  have hw := h _ (getD_mem0 hj)
  have hq := shQ_rng h ht hj
  unfold shV
  refine ⟨by split <;> omega, ?_⟩
  rcases Int.lt_or_le t ws.sum with hlt|hge
  · have : shQ t ws j < ws.getD j 0 := by
      unfold shQ
      apply Int.ediv_lt_of_lt_mul hS
      rw [Int.mul_comm t]
      exact Int.mul_lt_mul_of_pos_left hlt (by omega)
    split <;> omega
  · have e : t = ws.sum := by omega
    have hq2 : ∀ i, i < ws.length → shQ t ws i = ws.getD i 0 := fun i _ => by
      unfold shQ
      rw [e]
      exact Int.mul_ediv_cancel_left _ (by omega)
    have hl : leftQ t ws = 0 := by
      have hr : ∀ k, k ≤ ws.length → sumQ t ws k = (ws.take k).sum := by
        intro k
        induction k with
        | zero => intro _; simp [sumQ]
        | succ k ih => intro hk; rw [sumQ_succ, ih (by omega), hq2 k (by omega), sum_take0 ws k (by omega)]
      unfold leftQ
      rw [hr _ (Nat.le_refl _), List.take_length]
      omega
    rw [hl, hq2 j hj]
    have : among ws.length (shR t ws) (0 : Int).toNat j = false := by
      cases hb : among ws.length (shR t ws) (0 : Int).toNat j with
      | false => rfl
      | true => obtain ⟨i, hi, _⟩ := among_iff.1 hb; simp at hi
    rw [this]
    simp
def lensL (us : List Sl) : List Int := us.map lenS
theorem lens_sum (us : List Sl) : (lensL us).sum = cnt us := rfl
theorem lens_ok {us : List Sl} (h : ∀ y ∈ us, slOk y) : wOk (lensL us) := fun w hw => by
  obtain ⟨x, hx, rfl⟩ := List.mem_map.1 hw
  have := h x hx
  unfold slOk at this
  unfold lenS
  omega
theorem fits_of {us : List Sl} {ks : List Int} (hl : ks.length = us.length) (h : ∀ i, i < us.length → 0 ≤ ks.getD i 0 ∧ ks.getD i 0 ≤ lenS (us.getD i default)) : fits us ks := by
  induction us generalizing ks with
  | nil => cases ks with
    | nil => trivial
    | cons k ks => simp at hl
  | cons x l ih =>
    cases ks with
    | nil => simp at hl
    | cons k ks =>
      refine ⟨by simpa using h 0 (by simp), ih (by simpa using hl) fun i hi => by simpa using h (i + 1) (by simp; omega)⟩
theorem share_fits {us : List Sl} {u : Int} (h : ∀ y ∈ us, slOk y) (hu : 0 ≤ u) (hc : u ≤ cnt us) : fits us (shareL u (lensL us)) := by
  refine fits_of (by simp [shareL, lensL]) fun i hi => ?_
  have hk := share_le (lens_ok h) hu (by rw [lens_sum]; exact hc) (j := i) (by simpa [lensL] using hi)
  have e1 : (shareL u (lensL us)).getD i 0 = shV u (lensL us) (leftQ u (lensL us)).toNat i := by
    unfold shareL
    have : i < (lensL us).length := by simpa [lensL] using hi
    simp [this]
  have e2 : (lensL us).getD i 0 = lenS (us.getD i default) := by
    unfold lensL
    simp [hi]
  rw [e1, ← e2]
  exact hk

end Go.Proofs.YtacpjihbbmoolaaGreatDoor
