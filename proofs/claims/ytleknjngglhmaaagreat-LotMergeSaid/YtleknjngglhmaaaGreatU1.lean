/- Units of slices, plain law: lists of slices joined, cut, taken; what units they have. -/
import Derived.Test.YtleknjngglhmaaaGreatS1
namespace Go.Proofs.YtleknjngglhmaaaGreat
open Go Go.RowKit
set_option linter.unusedVariables false
set_option linter.unusedSimpArgs false

def lastS (l : List Sl) : Sl := l.getD (l.length - 1) default
def glues (l : List Sl) (x : Sl) : Prop := 0 < l.length ∧ (lastS l).m = x.m ∧ (lastS l).e = x.s
instance (l : List Sl) (x : Sl) : Decidable (glues l x) := by unfold glues; exact inferInstance
def extR (l : List Sl) (x : Sl) : List Sl := if glues l x then l.set (l.length - 1) ⟨(lastS l).m, (lastS l).s, x.e⟩ else l ++ [x]
def extL (l : List Sl) (x : Sl) : List Sl := if x.s = x.e then l else extR l x
def joinL (us : List Sl) : List Sl := us.foldl extL []
def nz (x : Sl) : Bool := decide (x.s ≠ x.e)
theorem foldl_extL (us : List Sl) : ∀ l, us.foldl extL l = (us.filter nz).foldl extR l := by
  induction us with
  | nil => intro l; rfl
  | cons x us ih =>
    intro l
    rw [List.foldl_cons, ih]
    unfold extL nz
    by_cases h : x.s = x.e
    · rw [if_pos h, List.filter_cons_of_neg (by simp [h])]
    · rw [if_neg h, List.filter_cons_of_pos (by simp [h])]
      rfl
theorem filter_nz {us : List Sl} (h : ∀ x ∈ us, x.s < x.e) : us.filter nz = us := List.filter_eq_self.2 fun x hx => by have := h x hx; unfold nz; simp; omega
theorem joinR_eq {us : List Sl} (h : ∀ x ∈ us, x.s < x.e) : us.foldl extR [] = joinL us := by unfold joinL; rw [foldl_extL, filter_nz h]
theorem lastS_concat (l : List Sl) (x : Sl) : lastS (l ++ [x]) = x := by unfold lastS; simp
theorem list_cases (l : List Sl) : l = [] ∨ ∃ l' y, l = l' ++ [y] := by
  rcases List.eq_nil_or_concat l with h | ⟨l', y, h⟩
  · exact .inl h
  · exact .inr ⟨l', y, by simpa using h⟩
theorem extR_concat (l : List Sl) (y x : Sl) : extR (l ++ [y]) x = if y.m = x.m ∧ y.e = x.s then l ++ [⟨y.m, y.s, x.e⟩] else l ++ [y] ++ [x] := by
  have hg : glues (l ++ [y]) x ↔ (y.m = x.m ∧ y.e = x.s) := by
    unfold glues
    rw [lastS_concat]
    simp
  unfold extR
  by_cases h : y.m = x.m ∧ y.e = x.s
  · rw [if_pos h, if_pos (hg.2 h), lastS_concat]
    simp only [List.length_append, List.length_singleton, Nat.add_sub_cancel]
    rw [List.set_append_right _ _ (Nat.le_refl _)]
    simp
  · rw [if_neg h, if_neg (fun hh => h (hg.1 hh))]
theorem extR_nil (x : Sl) : extR [] x = [x] := by unfold extR glues; simp
theorem extR_len (l : List Sl) (x : Sl) : (extR l x).length ≤ l.length + 1 := by unfold extR; split <;> simp
theorem extL_len (l : List Sl) (x : Sl) : (extL l x).length ≤ l.length + 1 := by
  unfold extL
  split
  · omega
  · exact extR_len l x
theorem foldl_extL_len (us : List Sl) : ∀ l, (us.foldl extL l).length ≤ l.length + us.length := by
  induction us with
  | nil => intro l; simp
  | cons x us ih =>
    intro l
    have h1 := ih (extL l x)
    have h2 := extL_len l x
    simp only [List.foldl_cons, List.length_cons]
    omega
theorem joinL_len (us : List Sl) : (joinL us).length ≤ us.length := by have := foldl_extL_len us []; unfold joinL; simpa using this
theorem extR_ok {p : Int → Prop} {l : List Sl} {x : Sl} (hl : ∀ y ∈ l, p y.m ∧ 0 ≤ y.s ∧ y.s < y.e ∧ y.e ≤ 1000000000) (hx : p x.m ∧ 0 ≤ x.s ∧ x.s < x.e ∧ x.e ≤ 1000000000) : ∀ y ∈ extR l x, p y.m ∧ 0 ≤ y.s ∧ y.s < y.e ∧ y.e ≤ 1000000000 := by
  rcases list_cases l with rfl | ⟨l, z, rfl⟩
  · rw [extR_nil]; simpa using hx
  · rw [extR_concat]
    have hz := hl z (by simp)
    split
    · rename_i hc
      intro y hy
      rcases List.mem_append.1 hy with hy | hy
      · exact hl y (by simp [hy])
      · simp at hy; subst hy; exact ⟨hz.1, hz.2.1, by show z.s < x.e; omega, hx.2.2.2⟩
    · intro y hy
      rcases List.mem_append.1 hy with hy | hy
      · exact hl y hy
      · simp at hy; subst hy; exact hx
theorem foldl_extR_ok {p : Int → Prop} : ∀ (us l : List Sl), (∀ y ∈ l, p y.m ∧ 0 ≤ y.s ∧ y.s < y.e ∧ y.e ≤ 1000000000) → (∀ y ∈ us, p y.m ∧ 0 ≤ y.s ∧ y.s < y.e ∧ y.e ≤ 1000000000) → ∀ y ∈ us.foldl extR l, p y.m ∧ 0 ≤ y.s ∧ y.s < y.e ∧ y.e ≤ 1000000000
  | [], l, hl, _ => hl
  | x :: us, l, hl, hu => foldl_extR_ok us (extR l x) (extR_ok hl (hu x (by simp))) fun y hy => hu y (by simp [hy])
theorem slOk_iff (x : Sl) : slOk x ↔ ((1 ≤ x.m ∧ x.m ≤ 1000000) ∧ 0 ≤ x.s ∧ x.s < x.e ∧ x.e ≤ 1000000000) := by unfold slOk; omega
theorem joinR_ok {us : List Sl} (h : ∀ y ∈ us, slOk y) : ∀ y ∈ us.foldl extR [], slOk y := fun y hy => (slOk_iff y).2 (foldl_extR_ok (p := fun m => 1 ≤ m ∧ m ≤ 1000000) us [] (by simp) (fun y hy => (slOk_iff y).1 (h y hy)) y hy)
theorem joinL_ok {us : List Sl} (h : ∀ y ∈ us, slOk y) : ∀ y ∈ joinL us, slOk y := by
  rw [← joinR_eq fun x hx => by have := h x hx; unfold slOk at this; omega]
  exact joinR_ok h

def unitsOf (x : Sl) : List (Int × Int) := (List.range (x.e - x.s).toNat).map fun (i : Nat) => (x.m, x.s + (i : Int))
def expand (us : List Sl) : List (Int × Int) := us.flatMap unitsOf
theorem expand_nil : expand [] = [] := rfl
theorem expand_app (a b : List Sl) : expand (a ++ b) = expand a ++ expand b := by unfold expand; exact List.flatMap_append
theorem expand_one (x : Sl) : expand [x] = unitsOf x := by unfold expand; simp
theorem expand_cons (x : Sl) (l : List Sl) : expand (x :: l) = unitsOf x ++ expand l := by unfold expand; simp
theorem units_cat {m a b c : Int} (h1 : a ≤ b) (h2 : b ≤ c) : unitsOf ⟨m, a, b⟩ ++ unitsOf ⟨m, b, c⟩ = unitsOf ⟨m, a, c⟩ := by
  unfold unitsOf
  have e : (c - a).toNat = (b - a).toNat + (c - b).toNat := by omega
  simp only
  rw [e, List.range_add, List.map_append, List.map_map]
  congr 1
  apply List.map_congr_left
  intro i _
  simp only [Function.comp]
  congr 1
  omega
theorem units_zero {x : Sl} (h : x.s = x.e) : unitsOf x = [] := by unfold unitsOf; rw [h]; simp
theorem units_len (x : Sl) : (unitsOf x).length = (x.e - x.s).toNat := by unfold unitsOf; simp
theorem expand_extR {l : List Sl} {x : Sl} (hl : ∀ y ∈ l, y.s ≤ y.e) (hx : x.s ≤ x.e) : expand (extR l x) = expand l ++ unitsOf x := by
  rcases list_cases l with rfl | ⟨l, y, rfl⟩
  · rw [extR_nil, expand_one]; rfl
  · rw [extR_concat]
    split
    · rename_i h
      have hy := hl y (by simp)
      obtain ⟨ym, ys, ye⟩ := y
      obtain ⟨xm, xs, xe⟩ := x
      simp only at h hy hx ⊢
      obtain ⟨rfl, rfl⟩ := h
      rw [expand_app, expand_app, expand_one, expand_one, List.append_assoc, units_cat hy hx]
    · rw [expand_app, expand_one]
theorem extR_le {l : List Sl} {x : Sl} (hl : ∀ y ∈ l, y.s < y.e) (hx : x.s < x.e) : ∀ y ∈ extR l x, y.s < y.e := by
  rcases list_cases l with rfl | ⟨l, z, rfl⟩
  · rw [extR_nil]; simpa using hx
  · rw [extR_concat]
    have hz := hl z (by simp)
    split
    · intro y hy
      rcases List.mem_append.1 hy with hy | hy
      · exact hl y (by simp [hy])
      · simp at hy; subst hy; show z.s < x.e; omega
    · intro y hy
      rcases List.mem_append.1 hy with hy | hy
      · exact hl y hy
      · simp at hy; subst hy; exact hx
theorem expand_foldl : ∀ (us l : List Sl), (∀ y ∈ l, y.s < y.e) → (∀ y ∈ us, y.s ≤ y.e) → expand (us.foldl extL l) = expand l ++ expand us ∧ ∀ y ∈ us.foldl extL l, y.s < y.e
  | [], l, hl, _ => ⟨by simp [expand_nil], hl⟩
  | x :: us, l, hl, hu => by
    have hx := hu x (by simp)
    have hus : ∀ y ∈ us, y.s ≤ y.e := fun y hy => hu y (by simp [hy])
    rw [List.foldl_cons]
    by_cases h : x.s = x.e
    · have e : extL l x = l := by unfold extL; rw [if_pos h]
      rw [e]
      obtain ⟨h1, h2⟩ := expand_foldl us l hl hus
      exact ⟨by rw [h1, expand_cons, units_zero h, List.nil_append], h2⟩
    · have e : extL l x = extR l x := by unfold extL; rw [if_neg h]
      rw [e]
      obtain ⟨h1, h2⟩ := expand_foldl us (extR l x) (extR_le hl (by omega)) hus
      exact ⟨by rw [h1, expand_extR (fun y hy => by have := hl y hy; omega) hx, expand_cons, List.append_assoc], h2⟩
theorem expand_join {us : List Sl} (h : ∀ y ∈ us, y.s ≤ y.e) : expand (joinL us) = expand us := by
  have := (expand_foldl us [] (by simp) h).1
  unfold joinL
  simpa [expand_nil] using this
theorem join_lt {us : List Sl} (h : ∀ y ∈ us, y.s ≤ y.e) : ∀ y ∈ joinL us, y.s < y.e := (expand_foldl us [] (by simp) h).2

def cmpct : List Sl → Prop
  | [] => True
  | [x] => x.s < x.e
  | x :: y :: l => x.s < x.e ∧ ¬ (x.m = y.m ∧ x.e = y.s) ∧ cmpct (y :: l)
theorem cmpct_concat : ∀ (l : List Sl) (y x : Sl), cmpct (l ++ [y]) → x.s < x.e → ¬ (y.m = x.m ∧ y.e = x.s) → cmpct (l ++ [y] ++ [x])
  | [], y, x, h, hx, hn => ⟨h, hn, hx⟩
  | [a], y, x, h, hx, hn => ⟨h.1, h.2.1, cmpct_concat [] y x h.2.2 hx hn⟩
  | a :: b :: l, y, x, h, hx, hn => ⟨h.1, h.2.1, cmpct_concat (b :: l) y x h.2.2 hx hn⟩
theorem cmpct_glue : ∀ (l : List Sl) (y : Sl) (e : Int), cmpct (l ++ [y]) → y.s < e → cmpct (l ++ [⟨y.m, y.s, e⟩])
  | [], y, e, h, he => he
  | [a], y, e, h, he => ⟨h.1, h.2.1, he⟩
  | a :: b :: l, y, e, h, he => ⟨h.1, h.2.1, cmpct_glue (b :: l) y e h.2.2 he⟩
theorem cmpct_lt : ∀ {l : List Sl}, cmpct l → ∀ y ∈ l, y.s < y.e
  | [], _, y, hy => by simp at hy
  | [x], h, y, hy => by simp at hy; subst hy; exact h
  | x :: z :: l, h, y, hy => by
    rcases List.mem_cons.1 hy with rfl | hy
    · exact h.1
    · exact cmpct_lt h.2.2 y hy
theorem cmpct_extR {l : List Sl} {x : Sl} (h : cmpct l) (hx : x.s < x.e) : cmpct (extR l x) := by
  rcases list_cases l with rfl | ⟨l, y, rfl⟩
  · rw [extR_nil]; exact hx
  · rw [extR_concat]
    split
    · rename_i hc
      have hy := cmpct_lt h y (by simp)
      exact cmpct_glue l y x.e h (by omega)
    · rename_i hc; exact cmpct_concat l y x h hx hc
theorem cmpct_foldl : ∀ (us l : List Sl), cmpct l → (∀ y ∈ us, y.s ≤ y.e) → cmpct (us.foldl extL l)
  | [], l, hl, _ => hl
  | x :: us, l, hl, hu => by
    have hx := hu x (by simp)
    rw [List.foldl_cons]
    refine cmpct_foldl us _ ?_ fun y hy => hu y (by simp [hy])
    unfold extL
    split
    · exact hl
    · exact cmpct_extR hl (by omega)
theorem cmpct_join {us : List Sl} (h : ∀ y ∈ us, y.s ≤ y.e) : cmpct (joinL us) := cmpct_foldl us [] trivial h
theorem units_head {x : Sl} (h : x.s < x.e) : unitsOf x = (x.m, x.s) :: unitsOf ⟨x.m, x.s + 1, x.e⟩ := by
  have e := units_cat (m := x.m) (a := x.s) (b := x.s + 1) (c := x.e) (by omega) (by omega)
  have e1 : unitsOf ⟨x.m, x.s, x.s + 1⟩ = [(x.m, x.s)] := by
    unfold unitsOf
    have : (x.s + 1 - x.s).toNat = 1 := by omega
    simp only [this]
    simp
  rw [e1] at e
  exact e.symm
theorem expand_eq_nil {l : List Sl} (h : cmpct l) (he : expand l = []) : l = [] := by
  cases l with
  | nil => rfl
  | cons x l =>
    have hx := cmpct_lt h x (by simp)
    rw [expand_cons, units_head hx] at he
    cases he
theorem next_ne {x : Sl} {l : List Sl} (h : cmpct (x :: l)) : (expand l).head? ≠ some (x.m, x.e) := by
  cases l with
  | nil => simp [expand_nil]
  | cons y l =>
    have hy := cmpct_lt h.2.2 y (by simp)
    rw [expand_cons, units_head hy]
    intro he
    simp at he
    exact h.2.1 ⟨he.1.symm, he.2.symm⟩
theorem cmpct_tail {x : Sl} {l : List Sl} (h : cmpct (x :: l)) : cmpct l := by
  cases l with
  | nil => trivial
  | cons y l => exact h.2.2
theorem canon : ∀ {a b : List Sl}, cmpct a → cmpct b → expand a = expand b → a = b
  | [], b, ha, hb, h => (expand_eq_nil hb (by rw [← h]; rfl)).symm
  | x :: a, [], ha, hb, h => expand_eq_nil ha (by rw [h]; rfl)
  | x :: a, y :: b, ha, hb, h => by
    have hx := cmpct_lt ha x (by simp)
    have hy := cmpct_lt hb y (by simp)
    rw [expand_cons, expand_cons] at h
    have h0 := h
    rw [units_head hx, units_head hy] at h0
    simp only [List.cons_append, List.cons.injEq, Prod.mk.injEq] at h0
    obtain ⟨⟨e1, e2⟩, _⟩ := h0
    obtain ⟨xm, xs, xe⟩ := x
    obtain ⟨ym, ys, ye⟩ := y
    simp only at e1 e2 hx hy
    subst e1 e2
    have key : ∀ {p q : Int} {A B : List Sl}, xs < p → p < q → unitsOf ⟨xm, xs, p⟩ ++ expand A = unitsOf ⟨xm, xs, q⟩ ++ expand B → (expand A).head? = some (xm, p) := by
      intro p q A B h1 h2 h3
      rw [← units_cat (m := xm) (a := xs) (b := p) (c := q) (by omega) (by omega), List.append_assoc] at h3
      have h4 := List.append_cancel_left h3
      rw [h4, units_head (by show p < q; exact h2)]
      rfl
    rcases Int.lt_trichotomy xe ye with hlt | heq | hgt
    · exact absurd (key hx hlt h) (next_ne ha)
    · subst heq
      rw [canon (cmpct_tail ha) (cmpct_tail hb) (List.append_cancel_left h)]
    · exact absurd (key hy hgt h.symm) (next_ne hb)
theorem join_self {l : List Sl} (h : cmpct l) : joinL l = l := canon (cmpct_join fun y hy => by have := cmpct_lt h y hy; omega) h (expand_join fun y hy => by have := cmpct_lt h y hy; omega)

def lenS (x : Sl) : Int := x.e - x.s
def cnt (us : List Sl) : Int := (us.map lenS).sum
theorem cnt_nil : cnt [] = 0 := rfl
theorem cnt_cons (x : Sl) (l : List Sl) : cnt (x :: l) = lenS x + cnt l := by unfold cnt; simp
theorem cnt_app (a b : List Sl) : cnt (a ++ b) = cnt a + cnt b := by unfold cnt; rw [List.map_append, List.sum_append]
theorem cnt_expand {us : List Sl} (h : ∀ y ∈ us, y.s ≤ y.e) : cnt us = (expand us).length := by
  induction us with
  | nil => rfl
  | cons x l ih =>
    have hx := h x (by simp)
    rw [cnt_cons, expand_cons, List.length_append, units_len, ih fun y hy => h y (by simp [hy])]
    unfold lenS
    push_cast
    omega
theorem cnt_nonneg {us : List Sl} (h : ∀ y ∈ us, y.s ≤ y.e) : 0 ≤ cnt us := by rw [cnt_expand h]; omega
theorem cnt_join {us : List Sl} (h : ∀ y ∈ us, y.s ≤ y.e) : cnt (joinL us) = cnt us := by
  rw [cnt_expand fun y hy => Int.le_of_lt (join_lt h y hy), cnt_expand h, expand_join h]
theorem cnt_le {us : List Sl} (h : ∀ y ∈ us, slOk y) : cnt us ≤ 1000000000 * (us.length : Int) := by
  induction us with
  | nil => simp [cnt]
  | cons x l ih =>
    have hx := h x (by simp)
    have := ih fun y hy => h y (by simp [hy])
    rw [cnt_cons, List.length_cons]
    unfold slOk at hx
    unfold lenS
    push_cast
    omega
theorem cnt_take (us : List Sl) (k : Nat) (h : k < us.length) : cnt (us.take (k + 1)) = cnt (us.take k) + lenS (us.getD k default) := by
  rw [List.take_succ_eq_append_getElem h, cnt_app, List.getD_eq_getElem?_getD, List.getElem?_eq_getElem h, cnt_cons, cnt_nil]
  simp

def fstP (x : Sl) (k : Int) : Sl := ⟨x.m, x.s, x.s + k⟩
def sndP (x : Sl) (k : Int) : Sl := ⟨x.m, x.s + k, x.e⟩
def cutA (us : List Sl) (ks : List Int) : List Sl := (List.zipWith fstP us ks).foldl extL []
def cutB (us : List Sl) (ks : List Int) : List Sl := (List.zipWith sndP us ks).foldl extL []
def shL : List Sl → Int → List Int
  | [], _ => []
  | x :: l, u => min u (lenS x) :: shL l (u - min u (lenS x))
theorem shL_len : ∀ (us : List Sl) (u : Int), (shL us u).length = us.length
  | [], _ => rfl
  | x :: l, u => by simp [shL, shL_len l]
def fits : List Sl → List Int → Prop
  | [], [] => True
  | x :: l, k :: ks => (0 ≤ k ∧ k ≤ lenS x) ∧ fits l ks
  | _, _ => False
theorem fits_len : ∀ {us : List Sl} {ks : List Int}, fits us ks → ks.length = us.length
  | [], [], _ => rfl
  | x :: l, k :: ks, h => by simp [fits_len h.2]
  | [], _ :: _, h => h.elim
  | _ :: _, [], h => h.elim
theorem fits_shL : ∀ {us : List Sl} {u : Int}, (∀ y ∈ us, y.s ≤ y.e) → 0 ≤ u → fits us (shL us u)
  | [], _, _, _ => trivial
  | x :: l, u, h, hu => by
    have hx := h x (by simp)
    refine ⟨by unfold lenS; omega, fits_shL (fun y hy => h y (by simp [hy])) (by omega)⟩
theorem fits_mem {us : List Sl} {ks : List Int} (h : fits us ks) (hu : ∀ y ∈ us, y.s ≤ y.e) : (∀ y ∈ List.zipWith fstP us ks, y.s ≤ y.e) ∧ ∀ y ∈ List.zipWith sndP us ks, y.s ≤ y.e := by
  induction us generalizing ks with
  | nil => simp
  | cons x l ih =>
    cases ks with
    | nil => exact h.elim
    | cons k ks =>
      obtain ⟨h1, h2⟩ := ih h.2 fun y hy => hu y (by simp [hy])
      have hk := h.1
      unfold lenS at hk
      simp only [List.zipWith_cons_cons, List.mem_cons, forall_eq_or_imp]
      exact ⟨⟨by unfold fstP; simp; omega, h1⟩, ⟨by unfold sndP; simp; omega, h2⟩⟩
theorem fits_ok {us : List Sl} {ks : List Int} (h : fits us ks) (hu : ∀ y ∈ us, slOk y) : (∀ y ∈ (List.zipWith fstP us ks).filter nz, slOk y) ∧ ∀ y ∈ (List.zipWith sndP us ks).filter nz, slOk y := by
  induction us generalizing ks with
  | nil => simp
  | cons x l ih =>
    cases ks with
    | nil => exact h.elim
    | cons k ks =>
      obtain ⟨h1, h2⟩ := ih h.2 fun y hy => hu y (by simp [hy])
      have hk := h.1
      have hx := hu x (by simp)
      unfold lenS at hk
      unfold slOk at hx
      simp only [List.zipWith_cons_cons]
      constructor
      · intro y hy
        rcases List.mem_filter.1 hy with ⟨hy1, hy2⟩
        rcases List.mem_cons.1 hy1 with rfl | hy1
        · unfold nz fstP at hy2; unfold slOk fstP; simp at hy2 ⊢; omega
        · exact h1 y (List.mem_filter.2 ⟨hy1, hy2⟩)
      · intro y hy
        rcases List.mem_filter.1 hy with ⟨hy1, hy2⟩
        rcases List.mem_cons.1 hy1 with rfl | hy1
        · unfold nz sndP at hy2; unfold slOk sndP; simp at hy2 ⊢; omega
        · exact h2 y (List.mem_filter.2 ⟨hy1, hy2⟩)
theorem cutA_ok {us : List Sl} {ks : List Int} (h : fits us ks) (hu : ∀ y ∈ us, slOk y) : ∀ y ∈ cutA us ks, slOk y := by
  unfold cutA; rw [foldl_extL]; exact joinR_ok (fits_ok h hu).1
theorem cutB_ok {us : List Sl} {ks : List Int} (h : fits us ks) (hu : ∀ y ∈ us, slOk y) : ∀ y ∈ cutB us ks, slOk y := by
  unfold cutB; rw [foldl_extL]; exact joinR_ok (fits_ok h hu).2
theorem cutA_cmpct {us : List Sl} {ks : List Int} (h : fits us ks) (hu : ∀ y ∈ us, y.s ≤ y.e) : cmpct (cutA us ks) := cmpct_foldl _ [] trivial (fits_mem h hu).1
theorem cutB_cmpct {us : List Sl} {ks : List Int} (h : fits us ks) (hu : ∀ y ∈ us, y.s ≤ y.e) : cmpct (cutB us ks) := cmpct_foldl _ [] trivial (fits_mem h hu).2
theorem cutA_len (us : List Sl) (ks : List Int) : (cutA us ks).length ≤ us.length := by
  have := foldl_extL_len (List.zipWith fstP us ks) []
  unfold cutA
  simp at this ⊢
  omega
theorem cutB_len (us : List Sl) (ks : List Int) : (cutB us ks).length ≤ us.length := by
  have := foldl_extL_len (List.zipWith sndP us ks) []
  unfold cutB
  simp at this ⊢
  omega
theorem expand_sh : ∀ {us : List Sl} {u : Int}, (∀ y ∈ us, y.s ≤ y.e) → 0 ≤ u → expand (List.zipWith fstP us (shL us u)) = (expand us).take u.toNat ∧ expand (List.zipWith sndP us (shL us u)) = (expand us).drop u.toNat
  | [], u, _, _ => by simp [shL, expand]
  | x :: l, u, h, hu => by
    have hx := h x (by simp)
    obtain ⟨h1, h2⟩ := expand_sh (us := l) (u := u - min u (lenS x)) (fun y hy => h y (by simp [hy])) (by omega)
    simp only [shL, List.zipWith_cons_cons, expand_cons, h1, h2]
    have hc := units_cat (m := x.m) (a := x.s) (b := x.s + min u (lenS x)) (c := x.e) (by unfold lenS; omega) (by unfold lenS; omega)
    have hlen : (unitsOf (fstP x (min u (lenS x)))).length = (min u (lenS x)).toNat := by rw [units_len]; unfold fstP; simp only; congr 1; omega
    have hlen2 := units_len x
    have e : unitsOf x = unitsOf (fstP x (min u (lenS x))) ++ unitsOf (sndP x (min u (lenS x))) := hc.symm
    by_cases hc : u ≤ lenS x
    · have e1 : min u (lenS x) = u := by omega
      rw [e1] at hlen e ⊢
      have e2 : (u - u).toNat = 0 := by omega
      rw [e2, List.take_zero, List.drop_zero, List.append_nil]
      rw [e, List.append_assoc, List.take_append, List.drop_append, hlen, Nat.sub_self, List.take_zero, List.drop_zero, List.append_nil, List.take_of_length_le (by omega), List.drop_of_length_le (by omega), List.nil_append]
      exact ⟨rfl, rfl⟩
    · have e1 : min u (lenS x) = lenS x := by omega
      have e3 : sndP x (lenS x) = ⟨x.m, x.e, x.e⟩ := by unfold sndP lenS; congr 1; omega
      have e4 : unitsOf (sndP x (lenS x)) = [] := by rw [e3]; exact units_zero rfl
      rw [e1, e4, List.append_nil] at e
      rw [e1, e4, ← e, List.take_append, List.drop_append, hlen2, List.take_of_length_le (l := unitsOf x) (by rw [hlen2]; unfold lenS at hc; omega), List.drop_of_length_le (l := unitsOf x) (by rw [hlen2]; unfold lenS at hc; omega)]
      have e5 : (u - lenS x).toNat = u.toNat - (x.e - x.s).toNat := by unfold lenS at hc ⊢; omega
      rw [e5]
      exact ⟨rfl, rfl⟩
theorem cut_sh {us : List Sl} {u : Int} (h : ∀ y ∈ us, y.s ≤ y.e) (hu : 0 ≤ u) : expand (cutA us (shL us u)) = (expand us).take u.toNat ∧ expand (cutB us (shL us u)) = (expand us).drop u.toNat := by
  obtain ⟨h1, h2⟩ := expand_sh h hu
  obtain ⟨f1, f2⟩ := fits_mem (fits_shL h hu) h
  refine ⟨?_, ?_⟩
  · rw [← h1, ← expand_join f1]; rfl
  · rw [← h2, ← expand_join f2]; rfl

end Go.Proofs.YtleknjngglhmaaaGreat
