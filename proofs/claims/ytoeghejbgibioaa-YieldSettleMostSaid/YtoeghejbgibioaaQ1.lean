/- Settling, plain law: no way of matching is greater than what Settle finds. -/
import Derived.Test.YtoeghejbgibioaaQ0
namespace Go.Proofs.Ytoeghejbgibioaa
open Go Go.RowKit
set_option linter.unusedVariables false
set_option linter.unusedSimpArgs false

def inA (L : List Mt) (i : Nat) : Int := (L.map fun x : Mt => if x.a = (i : Int) then x.q else 0).sum
def inB (L : List Mt) (k : Nat) : Int := (L.map fun x : Mt => if x.b = (k : Int) then x.q else 0).sum
def flM (L : List Mt) (i k : Nat) : Int := (L.map fun x : Mt => if x.a = (i : Int) ∧ x.b = (k : Int) then x.q else 0).sum
def totM (L : List Mt) : Int := (L.map Mt.q).sum
theorem inA_snoc (L : List Mt) (x : Mt) (i : Nat) : inA (L ++ [x]) i = inA L i + if x.a = i then x.q else 0 := by simp [inA]
theorem inB_snoc (L : List Mt) (x : Mt) (i : Nat) : inB (L ++ [x]) i = inB L i + if x.b = i then x.q else 0 := by simp [inB]
theorem flM_snoc (L : List Mt) (x : Mt) (i k : Nat) : flM (L ++ [x]) i k = flM L i k + if x.a = i ∧ x.b = k then x.q else 0 := by simp [flM]
theorem totM_snoc (L : List Mt) (x : Mt) : totM (L ++ [x]) = totM L + x.q := by simp [totM]
theorem mrev_ind {P : List Mt → Prop} (h0 : P []) (h1 : ∀ l x, P l → P (l ++ [x])) (l : List Mt) : P l := by
  have : ∀ n, ∀ l : List Mt, l.length = n → P l := by
    intro n
    induction n with
    | zero => intro l hl; rw [List.eq_nil_of_length_eq_zero hl]; exact h0
    | succ n ih =>
      intro l hl
      rcases List.eq_nil_or_concat l with rfl | ⟨l', x, rfl⟩
      · exact h0
      · rw [List.concat_eq_append]
        exact h1 l' x (ih l' (by simpa using hl))
  exact this _ l rfl
theorem sN_one {n : Nat} {v : Int} {b : Int} (h0 : 0 ≤ b) (h1 : b < n) : sN n (fun k => if b = (k : Int) then v else 0) = v := by
  obtain ⟨k, rfl⟩ : ∃ k : Nat, b = k := ⟨b.toNat, by omega⟩
  have h := sN_upd n (fun _ => 0) k v (by omega)
  rw [sN_zero, Int.zero_add] at h
  refine Eq.trans (sN_congr n fun i _ => ?_) h
  by_cases e : i = k
  · subst e; rw [if_pos rfl, if_pos rfl]
  · rw [if_neg (by omega), if_neg e]
theorem fl_row {n : Nat} {L : List Mt} (h : ∀ x ∈ L, 0 ≤ x.b ∧ x.b < n) (i : Nat) : sN n (flM L i) = inA L i := by
  refine mrev_ind (P := fun L => (∀ x ∈ L, 0 ≤ x.b ∧ x.b < n) → sN n (flM L i) = inA L i) (fun _ => sN_zero n) (fun L x ih h => ?_) L h
  have e : flM (L ++ [x]) i = fun k => flM L i k + if x.a = i ∧ x.b = k then x.q else 0 := by funext k; exact flM_snoc L x i k
  rw [e, sN_add, ih fun y hy => h y (by simp [hy]), inA_snoc]
  congr 1
  obtain ⟨h1, h2⟩ := h x (by simp)
  by_cases hx : x.a = i
  · simp only [hx, true_and, if_true]
    exact sN_one h1 h2
  · simp only [hx, false_and, if_false]
    exact sN_zero n
theorem fl_col {m : Nat} {L : List Mt} (h : ∀ x ∈ L, 0 ≤ x.a ∧ x.a < m) (k : Nat) : sN m (fun i => flM L i k) = inB L k := by
  refine mrev_ind (P := fun L => (∀ x ∈ L, 0 ≤ x.a ∧ x.a < m) → sN m (fun i => flM L i k) = inB L k) (fun _ => sN_zero m) (fun L x ih h => ?_) L h
  have e : (fun i => flM (L ++ [x]) i k) = fun i => flM L i k + if x.a = i ∧ x.b = k then x.q else 0 := by funext i; exact flM_snoc L x i k
  rw [e, sN_add, ih fun y hy => h y (by simp [hy]), inB_snoc]
  congr 1
  obtain ⟨h1, h2⟩ := h x (by simp)
  by_cases hx : x.b = k
  · simp only [hx, and_true, if_true]
    exact sN_one h1 h2
  · simp only [hx, and_false, if_false]
    exact sN_zero m
theorem in_tot {m : Nat} {L : List Mt} (h : ∀ x ∈ L, 0 ≤ x.a ∧ x.a < m) : sN m (inA L) = totM L := by
  refine mrev_ind (P := fun L => (∀ x ∈ L, 0 ≤ x.a ∧ x.a < m) → sN m (inA L) = totM L) (fun _ => sN_zero m) (fun L x ih h => ?_) L h
  have e : inA (L ++ [x]) = fun i => inA L i + if x.a = (i : Int) then x.q else 0 := by funext i; exact inA_snoc L x i
  rw [e, sN_add, ih fun y hy => h y (by simp [hy]), totM_snoc]
  congr 1
  obtain ⟨h1, h2⟩ := h x (by simp)
  exact sN_one h1 h2
theorem fl_nn {L : List Mt} (h : ∀ x ∈ L, 1 ≤ x.q) (i k : Nat) : 0 ≤ flM L i k ∧ (0 < flM L i k → ∃ x ∈ L, x.a = i ∧ x.b = k) := by
  refine mrev_ind (P := fun L => (∀ x ∈ L, 1 ≤ x.q) → 0 ≤ flM L i k ∧ (0 < flM L i k → ∃ x ∈ L, x.a = i ∧ x.b = k)) (fun _ => by simp [flM]) (fun L x ih h => ?_) L h
  have h1 := ih fun y hy => h y (by simp [hy])
  have h2 := h x (by simp)
  rw [flM_snoc]
  by_cases hx : x.a = i ∧ x.b = k
  · rw [if_pos hx]
    exact ⟨by omega, fun _ => ⟨x, by simp, hx⟩⟩
  · rw [if_neg hx]
    refine ⟨by omega, fun h3 => ?_⟩
    obtain ⟨y, hy, h4⟩ := h1.2 (by omega)
    exact ⟨y, by simp [hy], h4⟩
theorem inA_none {L : List Mt} {i : Nat} (h : ∀ x ∈ L, x.a ≠ i) : inA L i = 0 := by
  refine mrev_ind (P := fun L => (∀ x ∈ L, x.a ≠ (i : Int)) → inA L i = 0) (fun _ => rfl) (fun L x ih h => ?_) L h
  rw [inA_snoc, if_neg (h x (by simp)), ih fun y hy => h y (by simp [hy])]
  rfl
def FlS (S : List Int × List Mt) (i0 : Int) (k : Nat) : Prop := S.1.getD k 0 = 0 ∧ ∀ y ∈ S.2, y.b = k → y.a ≤ i0
structure GI (is es : List Dt) (af bf : Int) (i j : Nat) (s : SS) : Prop where
  dom : ∀ x ∈ s.2.2, 0 ≤ x.a ∧ x.a ≤ i ∧ 0 ≤ x.b ∧ x.b < es.length ∧ 1 ≤ x.q ∧ inW (is.getD x.a.toNat default) (es.getD x.b.toNat default) af bf ∧ (x.a = i → x.b < j)
  op : ∀ k, k < es.length → s.2.1.getD k 0 = (es.getD k default).q - inB s.2.2 k
  lft : s.1 = (is.getD i default).q - inA s.2.2 i
  old : ∀ i', i' < i → inA s.2.2 i' ≤ (is.getD i' default).q
  f1 : ∀ i', i' < i → inA s.2.2 i' < (is.getD i' default).q → ∀ k, k < es.length → inW (is.getD i' default) (es.getD k default) af bf → FlS s.2 i' k
  f1c : 0 < s.1 → ∀ k, k < j → inW (is.getD i default) (es.getD k default) af bf → FlS s.2 i k
  f2 : ∀ x ∈ s.2.2, ∀ k : Nat, (k : Int) < x.b → inW (is.getD x.a.toNat default) (es.getD k default) af bf → FlS s.2 x.a k
theorem mgetD_set (B : List Int) (k : Nat) (v : Int) (j : Nat) : (B.set k v).getD j 0 = if k = j ∧ k < B.length then v else B.getD j 0 := by
  rw [List.getD_eq_getElem?_getD, List.getD_eq_getElem?_getD, List.getElem?_set]
  by_cases h : k = j
  · subst h
    rw [if_pos rfl]
    by_cases h2 : k < B.length
    · rw [if_pos h2, if_pos ⟨rfl, h2⟩]; rfl
    · rw [if_neg h2, if_neg (fun h => h2 h.2), List.getElem?_eq_none (by omega)]
  · rw [if_neg h, if_neg (fun h2 => h h2.1)]
theorem GI.step {is es : List Dt} {af bf : Int} {i j n : Nat} {s : SS} (h : GI is es af bf i j s) (hs : SOk es.length n s) (hj : j < es.length) : GI is es af bf i (j + 1) (seStep (is.getD i default) i es af bf s j) := by
  have h1 := hs.left
  have h2 := seN_rng hs j
  have h3 := hs.len
  have h4 := hs.op j
  by_cases hw : inW (is.getD i default) (es.getD j default) af bf ∧ 0 < seN s j
  · have e : seStep (is.getD i default) i es af bf s j = (s.1 - seN s j, s.2.1.set j (s.2.1.getD j 0 - seN s j), s.2.2 ++ [⟨i, j, seN s j⟩]) := if_pos hw
    rw [e]
    have hn : seN s j = s.2.1.getD j 0 ∨ seN s j = s.1 := by unfold seN; split <;> simp
    have hget : ∀ k, (s.2.1.set j (s.2.1.getD j 0 - seN s j)).getD k 0 = if j = k then s.2.1.getD j 0 - seN s j else s.2.1.getD k 0 := fun k => by
      rw [mgetD_set]
      by_cases hk : j = k
      · rw [if_pos ⟨hk, by omega⟩, if_pos hk]
      · rw [if_neg (fun h => hk h.1), if_neg hk]
    have hmono : ∀ i0 k, FlS s.2 i0 k → FlS (s.2.1.set j (s.2.1.getD j 0 - seN s j), s.2.2 ++ [⟨i, j, seN s j⟩]) i0 k := fun i0 k ⟨q1, q2⟩ => by
      have hk : j ≠ k := fun e => by subst e; omega
      refine ⟨by show (s.2.1.set j _).getD k 0 = 0; rw [hget, if_neg hk]; exact q1, fun y hy hb => ?_⟩
      rcases List.mem_append.1 hy with hy | hy
      · exact q2 y hy hb
      · rw [List.mem_singleton.1 hy] at hb
        exact absurd hb (by simp only; omega)
    have hcur : 0 < s.1 - seN s j → FlS (s.2.1.set j (s.2.1.getD j 0 - seN s j), s.2.2 ++ [⟨i, j, seN s j⟩]) i j := fun hl => by
      refine ⟨by show (s.2.1.set j _).getD j 0 = 0; rw [hget, if_pos rfl]; omega, fun y hy hb => ?_⟩
      rcases List.mem_append.1 hy with hy | hy
      · exact (h.dom y hy).2.1
      · rw [List.mem_singleton.1 hy]
        exact Int.le_refl _
    have hA : ∀ i', inA (s.2.2 ++ [⟨i, j, seN s j⟩]) i' = inA s.2.2 i' + if (i : Int) = i' then seN s j else 0 := fun i' => inA_snoc _ _ _
    refine ⟨fun x hx => ?_, fun k hk => ?_, ?_, fun i' hi' => ?_, fun i' hi' hl k hk hin => ?_, fun hl k hk hin => ?_, fun x hx k hk hin => ?_⟩
    · rcases List.mem_append.1 hx with hx | hx
      · obtain ⟨d1, d2, d3, d4, d5, d6, d7⟩ := h.dom x hx
        exact ⟨d1, d2, d3, d4, d5, d6, fun e => by have := d7 e; omega⟩
      · rw [List.mem_singleton.1 hx]
        refine ⟨by simp only; omega, by simp only; omega, by simp only; omega, by simp only; omega, by simp only; omega, ?_, fun _ => by simp only; omega⟩
        simp only [Int.toNat_natCast]
        exact hw.1
    · show (s.2.1.set j _).getD k 0 = _ - inB (s.2.2 ++ [⟨i, j, seN s j⟩]) k
      rw [hget, inB_snoc]
      have := h.op k hk
      by_cases hjk : j = k
      · subst hjk
        rw [if_pos rfl, if_pos rfl]
        simp only
        omega
      · rw [if_neg hjk, if_neg (by simp only; omega)]
        omega
    · show s.1 - seN s j = _ - inA (s.2.2 ++ [⟨i, j, seN s j⟩]) i
      rw [hA, if_pos rfl]
      have := h.lft
      omega
    · show inA (s.2.2 ++ [⟨i, j, seN s j⟩]) i' ≤ _
      rw [hA, if_neg (by omega), Int.add_zero]
      exact h.old i' hi'
    · have hl : inA (s.2.2 ++ [⟨i, j, seN s j⟩]) i' < (is.getD i' default).q := hl
      rw [hA, if_neg (by omega), Int.add_zero] at hl
      exact hmono _ _ (h.f1 i' hi' hl k hk hin)
    · have hl : 0 < s.1 - seN s j := hl
      by_cases hkj : k = j
      · subst hkj; exact hcur hl
      · exact hmono _ _ (h.f1c (by omega) k (by omega) hin)
    · rcases List.mem_append.1 hx with hx | hx
      · exact hmono _ _ (h.f2 x hx k hk hin)
      · rw [List.mem_singleton.1 hx] at hk hin ⊢
        simp only [Int.toNat_natCast] at hk hin ⊢
        exact hmono _ _ (h.f1c (by omega) k (by omega) hin)
  · have e : seStep (is.getD i default) i es af bf s j = s := if_neg hw
    rw [e]
    refine ⟨fun x hx => ?_, h.op, h.lft, h.old, h.f1, fun hl k hk hin => ?_, h.f2⟩
    · obtain ⟨d1, d2, d3, d4, d5, d6, d7⟩ := h.dom x hx
      exact ⟨d1, d2, d3, d4, d5, d6, fun e => by have := d7 e; omega⟩
    · by_cases hkj : k = j
      · subst hkj
        have hn : ¬ 0 < seN s k := fun h0 => hw ⟨hin, h0⟩
        refine ⟨?_, fun y hy _ => (h.dom y hy).2.1⟩
        unfold seN at hn
        split at hn <;> omega
      · exact h.f1c hl k (by omega) hin
theorem GI.all {is es : List Dt} {af bf : Int} {i n : Nat} {s : SS} (h : GI is es af bf i 0 s) (hs : SOk es.length n s) : ∀ j, j ≤ es.length → GI is es af bf i j (seJ (is.getD i default) i es af bf s j)
  | 0, _ => h
  | j + 1, hj => (GI.all h hs j (by omega)).step (hs.all (is.getD i default) i es af bf j) (by omega)
theorem GI.next {is es : List Dt} {af bf : Int} {i : Nat} {s : SS} (h : GI is es af bf i es.length s) (h0 : 0 ≤ s.1) : GI is es af bf (i + 1) 0 ((is.getD (i + 1) default).q, s.2) := by
  have hl := h.lft
  refine ⟨fun x hx => ?_, h.op, ?_, fun i' hi' => ?_, fun i' hi' hlt k hk hin => ?_, fun _ k hk => absurd hk (by omega), h.f2⟩
  · obtain ⟨d1, d2, d3, d4, d5, d6, d7⟩ := h.dom x hx
    exact ⟨d1, by push_cast; omega, d3, d4, d5, d6, fun e => by push_cast at e; omega⟩
  · show _ = _ - inA s.2.2 (i + 1)
    rw [inA_none fun x hx e => by have := (h.dom x hx).2.1; push_cast at e; omega]
    omega
  · by_cases hi : i' = i
    · subst hi
      show inA s.2.2 i' ≤ _
      omega
    · exact h.old i' (by omega)
  · by_cases hi : i' = i
    · subst hi
      have hlt : inA s.2.2 i' < (is.getD i' default).q := hlt
      exact h.f1c (by omega) k hk hin
    · exact h.f1 i' (by omega) hlt k hk hin
theorem seI_gi {is es : List Dt} (h1 : dtErr is = 0) (h2 : dtErr es = 0) (af bf : Int) : ∀ i, GI is es af bf i 0 ((is.getD i default).q, seI is es af bf i)
  | 0 => by
    refine ⟨fun x hx => (by cases (show x ∈ ([] : List Mt) from hx)), fun k hk => ?_, ?_, fun i' hi' => absurd hi' (by omega), fun i' hi' => absurd hi' (by omega), fun _ k hk => absurd hk (by omega), fun x hx => (by cases (show x ∈ ([] : List Mt) from hx))⟩
    · show (es.map Dt.q).getD k 0 = (es.getD k default).q - inB [] k
      simp [inB, List.getD_eq_getElem?_getD, hk]
    · show _ = _ - inA [] 0
      simp [inA]
  | i + 1 => by
    have ih := seI_gi h1 h2 af bf i
    have hx := dtErr_getD h1 i
    have h3 := seI_ok h1 h2 af bf i
    have h4 : SOk es.length (es.length * i) ((is.getD i default).q, seI is es af bf i) := ⟨by simp only; omega, h3.len, h3.op, h3.out⟩
    have h5 := ih.all h4 es.length (Nat.le_refl _)
    exact h5.next (h4.all (is.getD i default) i es af bf es.length).left.1
theorem dt_asc {ds : List Dt} (h : dtErr ds = 0) {i : Nat} : ∀ {j : Nat}, i ≤ j → j < ds.length → (ds.getD i default).d ≤ (ds.getD j default).d
  | 0, hij, _ => by
    obtain rfl : i = 0 := by omega
    exact Int.le_refl _
  | j + 1, hij, hj => by
    by_cases e : i = j + 1
    · subst e; exact Int.le_refl _
    · have h1 := dt_asc h (i := i) (j := j) (by omega) (by omega)
      have h2 := (dtErr_zero h hj).2 (by omega)
      rw [Nat.add_sub_cancel] at h2
      omega
structure Best (is es : List Dt) (af bf : Int) (L : List Mt) : Prop where
  dom : ∀ x ∈ L, 0 ≤ x.a ∧ x.a < is.length ∧ 0 ≤ x.b ∧ x.b < es.length ∧ 1 ≤ x.q ∧ inW (is.getD x.a.toNat default) (es.getD x.b.toNat default) af bf
  rows : ∀ i, i < is.length → inA L i ≤ (is.getD i default).q
  cols : ∀ k, k < es.length → inB L k ≤ (es.getD k default).q
  best : ∀ g : Nat → Nat → Int, (∀ i, i < is.length → ∀ k, k < es.length → 0 ≤ g i k) → (∀ i, i < is.length → ∀ k, k < es.length → 0 < g i k → inW (is.getD i default) (es.getD k default) af bf) →
    (∀ i, i < is.length → sN es.length (g i) ≤ (is.getD i default).q) → (∀ k, k < es.length → sN is.length (fun i => g i k) ≤ (es.getD k default).q) → sN is.length (fun i => sN es.length (g i)) ≤ totM L
theorem settle_best {is es : List Dt} (h1 : dtErr is = 0) (h2 : dtErr es = 0) (af bf : Int) : Best is es af bf (seI is es af bf is.length).2 := by
  have hg := seI_gi h1 h2 af bf is.length
  have hs := seI_ok h1 h2 af bf is.length
  generalize seI is es af bf is.length = S at *
  have hdom : ∀ x ∈ S.2, 0 ≤ x.a ∧ x.a < is.length ∧ 0 ≤ x.b ∧ x.b < es.length ∧ 1 ≤ x.q ∧ inW (is.getD x.a.toNat default) (es.getD x.b.toNat default) af bf := fun x hx => by
    obtain ⟨d1, d2, d3, d4, d5, d6, d7⟩ := hg.dom x hx
    refine ⟨d1, ?_, d3, d4, d5, d6⟩
    by_cases e : x.a = is.length
    · have := d7 e
      omega
    · have d2 : x.a ≤ is.length := d2
      omega
  have hcol : ∀ k, k < es.length → inB S.2 k = (es.getD k default).q - S.1.getD k 0 := fun k hk => by have := hg.op k hk; simp only at this; omega
  refine ⟨hdom, fun i hi => hg.old i hi, fun k hk => by have := hcol k hk; have := (hs.op k).1; simp only at this; omega, fun g g0 gW gp gq => ?_⟩
  have hb : ∀ x ∈ S.2, 0 ≤ x.b ∧ x.b < es.length := fun x hx => ⟨(hdom x hx).2.2.1, (hdom x hx).2.2.2.1⟩
  have ha : ∀ x ∈ S.2, 0 ≤ x.a ∧ x.a < is.length := fun x hx => ⟨(hdom x hx).1, (hdom x hx).2.1⟩
  have hq : ∀ x ∈ S.2, 1 ≤ x.q := fun x hx => (hdom x hx).2.2.2.2.1
  let Q : Nat → Nat → Prop := fun i0 k => (es.getD k default).d ≤ (is.getD i0 default).d + af ∧ ∀ k', k ≤ k' → k' < es.length → (es.getD k' default).d ≤ (is.getD i0 default).d + af → FlS S i0 k'
  let Lo : Nat → Prop := fun i0 => i0 < is.length ∧ inA S.2 i0 < (is.getD i0 default).q
  have hmain := cut_le is.length es.length g (flM S.2) (fun i => (is.getD i default).q) (fun k => (es.getD k default).q) (fun i k => inW (is.getD i default) (es.getD k default) af bf)
    (fun i => ∃ i0, Lo i0 ∧ i ≤ i0 ∧ ∀ k, k < es.length → inW (is.getD i default) (es.getD k default) af bf → Q i0 k) (fun k => ∃ i0, Lo i0 ∧ Q i0 k) g0 gW gp gq (fun i _ k _ => (fl_nn hq i k).1) ?_ ?_ ?_ ?_
  · have e : sN is.length (fun i => sN es.length (flM S.2 i)) = totM S.2 := by
      rw [sN_congr is.length fun i _ => fl_row hb i]
      exact in_tot ha
    rw [e] at hmain
    exact hmain
  · intro i hi hn
    rw [fl_row hb]
    have h3 := hg.old i hi
    simp only at h3
    by_cases hl : inA S.2 i < (is.getD i default).q
    · refine absurd ⟨i, ⟨hi, hl⟩, Nat.le_refl _, fun k hk hin => ⟨hin.2, fun k' hk' hk2 hd => hg.f1 i hi hl k' hk2 ⟨?_, hd⟩⟩⟩ hn
      have := dt_asc h2 hk' hk2
      have := hin.1
      omega
    · omega
  · rintro k hk ⟨i0, hl, hQ⟩
    rw [fl_col ha, hcol k hk, (hQ.2 k (Nat.le_refl _) hk hQ.1).1]
    omega
  · rintro i hi k hk ⟨i0, hl, hle, hQ⟩ hin
    exact ⟨i0, hl, hQ k hk hin⟩
  · rintro i hi k hk ⟨i0, hl, hQ⟩ hp
    obtain ⟨x, hx, e1, e2⟩ := (fl_nn hq i k).2 hp
    have hle : i ≤ i0 := by
      have := (hQ.2 k (Nat.le_refl _) hk hQ.1).2 x hx e2
      omega
    have hd := dt_asc h1 hle hl.1
    refine ⟨i0, hl, hle, fun k' hk' hin => ⟨by have := hin.2; omega, fun k2 hk2 hk3 hd2 => ?_⟩⟩
    by_cases hc : k ≤ k2
    · exact hQ.2 k2 hc hk3 hd2
    · have h5 := dt_asc h2 hk2 hk3
      have h6 := dt_asc h2 (show k2 ≤ k by omega) hk
      have h7 := (hdom x hx).2.2.2.2.2
      rw [e1, e2, Int.toNat_natCast, Int.toNat_natCast] at h7
      have h8 := hg.f2 x hx k2 (by omega) (by
        rw [e1, Int.toNat_natCast]
        have := hin.1
        have := h7.2
        exact ⟨by omega, by omega⟩)
      rw [e1] at h8
      exact ⟨h8.1, fun y hy hb2 => by have := h8.2 y hy hb2; omega⟩
end Go.Proofs.Ytoeghejbgibioaa
