/- What is exploded suffices (plain). -/
import Derived.Test.YtoeghejbgibioaaZ8
namespace Go.Proofs.Ytoeghejbgibioaa
open Go Go.RowKit
set_option linter.unusedVariables false
set_option linter.unusedSimpArgs false
set_option maxRecDepth 100000

def sumN (f : Nat → Int) : Nat → Int
  | 0 => 0
  | n + 1 => sumN f n + f n
theorem sumN_congr {f g : Nat → Int} : ∀ n, (∀ i, i < n → f i = g i) → sumN f n = sumN g n
  | 0, _ => rfl
  | n + 1, h => by
    unfold sumN
    rw [sumN_congr n fun i hi => h i (by omega), h n (by omega)]
theorem sumN_upd {f g : Nat → Int} {k : Nat} (h : ∀ i, i ≠ k → f i = g i) : ∀ n, k < n → sumN f n = sumN g n + (f k - g k)
  | 0, hk => absurd hk (by omega)
  | n + 1, hk => by
    unfold sumN
    by_cases h1 : k = n
    · subst h1
      rw [sumN_congr k fun i hi => h i (by omega)]
      omega
    · rw [sumN_upd h n (by omega), h n (fun e => h1 e.symm)]
      omega
theorem sumN_nn {f : Nat → Int} : ∀ n, (∀ i, i < n → 0 ≤ f i) → 0 ≤ sumN f n
  | 0, _ => Int.le_refl _
  | n + 1, h => by
    unfold sumN
    have := sumN_nn n fun i hi => h i (by omega)
    have := h n (by omega)
    omega
theorem sumN_one {f : Nat → Int} : ∀ n k, k < n → (∀ i, i < n → 0 ≤ f i) → f k ≤ sumN f n
  | 0, k, hk, _ => absurd hk (by omega)
  | n + 1, k, hk, h => by
    unfold sumN
    have h1 := h n (by omega)
    have h2 := sumN_nn n fun i hi => h i (by omega)
    by_cases e : k = n
    · subst e; omega
    · have := sumN_one n k (by omega) fun i hi => h i (by omega)
      omega
theorem sumN_bnd {f : Nat → Int} {m : Int} : ∀ n, (∀ i, i < n → 0 ≤ f i ∧ f i ≤ m) → 0 ≤ sumN f n ∧ sumN f n ≤ n * m
  | 0, _ => ⟨Int.le_refl _, by simp [sumN]⟩
  | n + 1, h => by
    unfold sumN
    have h1 := sumN_bnd n fun i hi => h i (by omega)
    have h2 := h n (by omega)
    have : ((n + 1 : Nat) : Int) * m = n * m + m := by push_cast; rw [Int.add_mul, Int.one_mul]
    omega
theorem sumU_all (rs : List Rc) (B : List Int) (x : ByteArray) (n : Nat) : ∀ od : List Int, od.Nodup → (∀ k ∈ od, 0 ≤ k ∧ k < (n : Int)) →
    sumU rs B x od = sumN (fun i => if (i : Int) ∈ od then B.getD i 0 * useQ rs i x else 0) n
  | [], _, _ => by
    have : sumN (fun i => if (i : Int) ∈ ([] : List Int) then B.getD i 0 * useQ rs i x else 0) n = sumN (fun _ => 0) n := sumN_congr n fun i _ => by simp
    rw [this]
    have : ∀ n, sumN (fun _ => 0) n = 0 := fun n => by
      induction n with
      | zero => rfl
      | succ n ih => unfold sumN; rw [ih]; rfl
    rw [this]
    rfl
  | k :: l, hn, hr => by
    have hn' := List.nodup_cons.1 hn
    have ih := sumU_all rs B x n l hn'.2 fun j hj => hr j (by simp [hj])
    have hk := hr k (by simp)
    obtain ⟨m, rfl⟩ : ∃ m : Nat, k = (m : Int) := ⟨k.toNat, by omega⟩
    have e : sumU rs B x ((m : Int) :: l) = B.getD m 0 * useQ rs m x + sumU rs B x l := by unfold sumU; rw [List.map_cons, List.sum_cons, Int.toNat_natCast]
    rw [e, ih, sumN_upd (f := fun i => if (i : Int) ∈ (m : Int) :: l then B.getD i 0 * useQ rs i x else 0) (g := fun i => if (i : Int) ∈ l then B.getD i 0 * useQ rs i x else 0) (k := m) (fun i hi => by
      have : (i : Int) ≠ m := by omega
      simp [this]) n (by omega)]
    simp only [List.mem_cons, true_or, if_true, if_neg hn'.1]
    omega
theorem qtyS_ge {us : List Nd} (h : ∀ x ∈ us, 0 ≤ x.q) {x : Nd} (hx : x ∈ us) : x.q ≤ qtyS us x.c := by
  have hnn : ∀ us : List Nd, (∀ x ∈ us, 0 ≤ x.q) → ∀ c, 0 ≤ qtyS us c := fun us => by
    induction us with
    | nil => intro _ c; simp [qtyS]
    | cons a l ih =>
      intro h c
      have h1 := ih (fun y hy => h y (by simp [hy])) c
      have h2 := h a (by simp)
      show 0 ≤ ((if a.c = c then a.q else 0) :: l.map fun x => if x.c = c then x.q else 0).sum
      rw [List.sum_cons]
      have h3 : 0 ≤ (l.map fun x => if x.c = c then x.q else 0).sum := h1
      split <;> omega
  induction us with
  | nil => cases hx
  | cons a l ih =>
    have h2 := h a (by simp)
    have h3 : 0 ≤ (l.map fun y => if y.c = x.c then y.q else 0).sum := hnn l (fun y hy => h y (by simp [hy])) x.c
    show x.q ≤ ((if a.c = x.c then a.q else 0) :: l.map fun y => if y.c = x.c then y.q else 0).sum
    rw [List.sum_cons]
    rcases List.mem_cons.1 hx with rfl | hx
    · rw [if_pos rfl]; omega
    · have h4 : x.q ≤ (l.map fun y => if y.c = x.c then y.q else 0).sum := ih (fun y hy => h y (by simp [hy])) hx
      split <;> omega
def mdA (rs : List Rc) (B : List Int) (c : ByteArray) (n : Nat) : Int := sumN (fun i => B.getD i 0 * qtyS (rs.getD i default).outs c) n
def mdU (rs : List Rc) (B : List Int) (c : ByteArray) (n : Nat) : Int := sumN (fun i => B.getD i 0 * qtyS (rs.getD i default).ins c) n
structure Eno (rs : List Rc) (c0 : ByteArray) (q : Int) (L : ML) (B : List Int) : Prop where
  len : B.length = rs.length
  rng : ∀ i, 0 ≤ B.getD i 0 ∧ B.getD i 0 ≤ 1000000000000
  ins : ∀ i, i < rs.length → ∀ x ∈ (rs.getD i default).ins, 0 ≤ B.getD i 0 * x.q ∧ B.getD i 0 * x.q ≤ 1000000000000
  ok : LOk 257 L
  nd : (L.map Prod.fst).Nodup
  all : ∀ c, mdU rs B c rs.length + (if c = c0 then q else 0) ≤ mdA rs B c rs.length + qtyS (sortN (ndsOf rs L)) c
theorem eno_of {rs : List Rc} (h : rcsOk rs) {c0 : ByteArray} {q : Int} (hq : 0 ≤ q ∧ q ≤ 1000000000) (ho : (ordR rs c0).1 = true) {L : ML} {B : List Int} (hrn : rnAll rs (ordL rs c0) c0 q = some (L, B)) : Eno rs c0 q L B := by
  have hod := ord_of ho
  have hs := rnF_some _ _ _ hrn
  have hI := ids_of h c0 q (ordL rs c0) hod.nd hod.rng hod.back
  have e1 : (rnFi rs (ordL rs c0) (rn0 rs c0 q)).1 = L := by
    have : (L, B) = rnFi rs (ordL rs c0) (rn0 rs c0 q) := hs
    rw [← this]
  have e2 : (rnFi rs (ordL rs c0) (rn0 rs c0 q)).2 = B := by
    have : (L, B) = rnFi rs (ordL rs c0) (rn0 rs c0 q) := hs
    rw [← this]
  have hnd : (L.map Prod.fst).Nodup := by rw [← e1]; exact rnFi_nd _ _ _ (putM_nd (L := []) (by simp) _ _)
  rw [e1, e2] at hI
  have h0 : LOk 1 (putM [] c0 q) := ⟨fun x => by rw [getM_put]; split <;> first | omega | (show 0 ≤ (0 : Int) ∧ (0 : Int) ≤ 1000000000000; omega), len_put [] c0 q⟩
  have h1 : BOk rs.length (List.replicate rs.length (0 : Int)) := ⟨by simp, fun k => by rw [List.getD_eq_getElem?_getD, List.getElem?_replicate]; split <;> simp⟩
  have hk := rnF_ok h _ _ _ 1 hod.rng h0 h1 hrn
  simp only at hk
  have hol := ordL_len rs c0
  have h32 := h.1
  have hL : LOk 257 L := ⟨hk.1.1, by have := hk.1.2; omega⟩
  have hU : ∀ x, mdU rs B x rs.length = sumU rs B x (ordL rs c0) := fun x => by
    rw [sumU_all rs B x rs.length (ordL rs c0) hod.nd hod.rng]
    refine sumN_congr _ fun i hi => ?_
    by_cases hm : (i : Int) ∈ ordL rs c0
    · rw [if_pos hm]; rfl
    · rw [if_neg hm, hI.e3 i hm, Int.zero_mul]
  have hUt : ∀ x i, i < rs.length → 0 ≤ B.getD i 0 * useQ rs i x := fun x i hi => Int.mul_nonneg (hI.nn i) (useQ_nn h hi x)
  refine ⟨hI.len, fun i => hk.2.2 i, fun i hi x hx => ?_, hL, hnd, fun c => ?_⟩
  · have hu := useQ_pos h hi hx
    have h2 := hUt x.c i hi
    rw [hu.2] at h2
    refine ⟨h2, ?_⟩
    have h3 : B.getD i 0 * useQ rs i x.c ≤ mdU rs B x.c rs.length := sumN_one (f := fun i => B.getD i 0 * useQ rs i x.c) _ i hi fun j hj => hUt x.c j hj
    rw [hU, hu.2] at h3
    have h4 := hI.e1 x.c
    have h5 := (hL.1 x.c).2
    have h6 : 0 ≤ (if x.c = c0 then q else 0) := by split <;> omega
    omega
  · have h4 := hI.e1 c
    rw [hU]
    have hAt : ∀ i, i < rs.length → 0 ≤ B.getD i 0 * qtyS (rs.getD i default).outs c := fun i hi => by
      obtain ⟨_, _, a3, _⟩ := h.at hi
      exact Int.mul_nonneg (hI.nn i) (qtyS_nn _ (fun y hy => (asc_q a3 y hy).1) c)
    have hA0 : 0 ≤ mdA rs B c rs.length := sumN_nn _ hAt
    have hnq : ∀ x ∈ sortN (ndsOf rs L), 0 ≤ x.q := fun x hx => by
      have hx' := (sortN_perm (ndsOf rs L)).mem_iff.1 hx
      unfold ndsOf at hx'
      obtain ⟨p, hp, rfl⟩ := List.mem_map.1 hx'
      have := (List.mem_filter.1 hp).2
      unfold ndP at this
      simp only [Bool.and_eq_true, decide_eq_true_eq] at this
      simp only; omega
    have hq0 : 0 ≤ qtyS (sortN (ndsOf rs L)) c := by
      have := qty_bnd (sortN (ndsOf rs L)) c 9223372036854775807000000 (by omega) (fun x hx => ⟨hnq x hx, ?_⟩)
      · exact this.1
      · have hx' := (sortN_perm (ndsOf rs L)).mem_iff.1 hx
        unfold ndsOf at hx'
        obtain ⟨p, hp, rfl⟩ := List.mem_map.1 hx'
        have hpL := (List.mem_filter.1 hp).1
        have := getM_in hnd hpL
        have := (hL.1 p.1).2
        simp only; omega
    by_cases hD : getM L c = 0
    · omega
    have hr : Rch rs c0 c := by
      by_cases hc : c = c0
      · rw [hc]; exact .refl
      · rw [if_neg hc, Int.zero_add] at h4
        rw [h4] at hD
        obtain ⟨k, hk, _, hu⟩ := sumU_zero _ _ _ _ hD
        obtain ⟨b, hb, hbk, rfl⟩ := ord_from k hk
        rw [Int.toNat_natCast] at hu
        obtain ⟨y, hy, e⟩ := qtyS_pos _ _ hu
        rw [← e]
        exact .step hb hbk hy
    by_cases hm : mk rs c < rs.length
    · have h5 := B_ge h hod hI hr hm
      have h6 := outQ_pos h hm
      have h7 : getM L c ≤ ceilD (getM L c) (outQ rs (mk rs c) c) * outQ rs (mk rs c) c := ceil_mul h6.1
      have h8 := Int.mul_le_mul_of_nonneg_right h5 (show 0 ≤ outQ rs (mk rs c) c by omega)
      have h9 : B.getD (mk rs c) 0 * outQ rs (mk rs c) c ≤ mdA rs B c rs.length := sumN_one (f := fun i => B.getD i 0 * qtyS (rs.getD i default).outs c) _ _ hm hAt
      omega
    · have hp : (⟨c, getM L c⟩ : Nd) ∈ sortN (ndsOf rs L) := (sortN_perm _).mem_iff.2 (by
        unfold ndsOf
        refine List.mem_map.2 ⟨(c, getM L c), List.mem_filter.2 ⟨getM_ne hD, ?_⟩, rfl⟩
        have := (hL.1 c).1
        unfold ndP
        simp only [decide_eq_false hm, Bool.not_false, Bool.true_and, decide_eq_true_eq]
        omega)
      have := qtyS_ge hnq hp
      simp only at this
      omega
end Go.Proofs.Ytoeghejbgibioaa
