/- The greatest flow by paths, plain law: matches, summed up. -/
import Derived.Test.YtoeghejbgibioaaQ3
namespace Go.Proofs.Ytoeghejbgibioaa
open Go Go.RowKit
set_option linter.unusedVariables false
set_option linter.unusedSimpArgs false
variable {is es : List Dt} {af bf : Int}
theorem isum_take : ∀ (l : List Int) (k : Nat), (∀ x ∈ l, 0 ≤ x) → 0 ≤ (l.take k).sum ∧ (l.take k).sum ≤ l.sum
  | [], k, _ => by simp
  | x :: l, 0, h => by
    have h1 := (isum_take l 0 fun y hy => h y (List.mem_cons_of_mem _ hy)).2
    have h2 := h x List.mem_cons_self
    simp only [List.take_zero, List.sum_nil, List.sum_cons] at h1 ⊢
    omega
  | x :: l, k + 1, h => by
    have h1 := isum_take l k fun y hy => h y (List.mem_cons_of_mem _ hy)
    have h2 := h x List.mem_cons_self
    simp only [List.take_succ_cons, List.sum_cons]
    omega
theorem mtake_snoc {L : List Mt} {k : Nat} (h : k < L.length) : L.take (k + 1) = L.take k ++ [L.getD k default] := by
  rw [List.take_add_one, List.getD_eq_getElem?_getD, List.getElem?_eq_getElem h]
  rfl
theorem inA_take {L : List Mt} (h : ∀ x ∈ L, 1 ≤ x.q) (k i : Nat) : 0 ≤ inA (L.take k) i ∧ inA (L.take k) i ≤ inA L i := by
  unfold inA
  rw [List.map_take]
  refine isum_take _ k fun v hv => ?_
  obtain ⟨x, hx, rfl⟩ := List.mem_map.1 hv
  have := h x hx
  split <;> omega
theorem inB_take {L : List Mt} (h : ∀ x ∈ L, 1 ≤ x.q) (k i : Nat) : 0 ≤ inB (L.take k) i ∧ inB (L.take k) i ≤ inB L i := by
  unfold inB
  rw [List.map_take]
  refine isum_take _ k fun v hv => ?_
  obtain ⟨x, hx, rfl⟩ := List.mem_map.1 hv
  have := h x hx
  split <;> omega
theorem tot_take {L : List Mt} (h : ∀ x ∈ L, 1 ≤ x.q) (k : Nat) : 0 ≤ totM (L.take k) ∧ totM (L.take k) ≤ totM L := by
  unfold totM
  rw [List.map_take]
  refine isum_take _ k fun v hv => ?_
  obtain ⟨x, hx, rfl⟩ := List.mem_map.1 hv
  have := h x hx
  omega
theorem Best.tle {L : List Mt} (h : Best is es af bf L) (h1 : dtErr is = 0) : totM L ≤ is.length * 1000000000 := by
  rw [← in_tot (m := is.length) fun x hx => ⟨(h.dom x hx).1, (h.dom x hx).2.1⟩, ← sN_cst]
  refine sN_le _ fun i hi => ?_
  have := h.rows i hi
  have := dtErr_getD h1 i
  omega
structure SmOk (is es : List Dt) (L : List Mt) (k : Nat) (hv lv : List Int) (S : Int) : Prop where
  hl : hv.length = is.length
  ll : lv.length = es.length
  he : ∀ i, i < is.length → hv.getD i 0 = inA (L.take k) i
  le : ∀ i, i < es.length → lv.getD i 0 = inB (L.take k) i
  st : S = totM (L.take k)
theorem SmOk.nil (L : List Mt) : SmOk is es L 0 (List.replicate is.length 0) (List.replicate es.length 0) 0 := by
  have h0 : ∀ (n i : Nat), (List.replicate n (0 : Int)).getD i 0 = 0 := fun n i => by
    rw [List.getD_eq_getElem?_getD, List.getElem?_replicate]
    split <;> rfl
  exact ⟨by simp, by simp, fun i _ => by rw [h0]; rfl, fun i _ => by rw [h0]; rfl, rfl⟩
theorem mt_mem {L : List Mt} {k : Nat} (h : k < L.length) : L.getD k default ∈ L := by
  rw [List.getD_eq_getElem?_getD, List.getElem?_eq_getElem h]
  exact List.getElem_mem h
theorem SmOk.step {L : List Mt} {k : Nat} {hv lv : List Int} {S : Int} (h : SmOk is es L k hv lv S) (hL : Best is es af bf L) (hk : k < L.length) :
    SmOk is es L (k + 1) (hv.set (L.getD k default).a.toNat (hv.getD (L.getD k default).a.toNat 0 + (L.getD k default).q)) (lv.set (L.getD k default).b.toNat (lv.getD (L.getD k default).b.toNat 0 + (L.getD k default).q)) (S + (L.getD k default).q) := by
  have hd := hL.dom _ (mt_mem hk)
  have e := mtake_snoc hk
  generalize L.getD k default = x at *
  refine ⟨by rw [List.length_set]; exact h.hl, by rw [List.length_set]; exact h.ll, fun i hi => ?_, fun i hi => ?_, by rw [e, totM_snoc, h.st]⟩
  · rw [e, inA_snoc, mgetD_set, h.hl]
    by_cases hx : x.a.toNat = i
    · rw [if_pos ⟨hx, by omega⟩, if_pos (by omega), hx, h.he i hi]
    · rw [if_neg (fun q => hx q.1), if_neg (by omega), h.he i hi, Int.add_zero]
  · rw [e, inB_snoc, mgetD_set, h.ll]
    by_cases hx : x.b.toNat = i
    · rw [if_pos ⟨hx, by omega⟩, if_pos (by omega), hx, h.le i hi]
    · rw [if_neg (fun q => hx q.1), if_neg (by omega), h.le i hi, Int.add_zero]
theorem SmOk.rng {L : List Mt} {k : Nat} {hv lv : List Int} {S : Int} (h : SmOk is es L k hv lv S) (hL : Best is es af bf L) (h1 : dtErr is = 0) (h2 : dtErr es = 0) (hk : k < L.length) :
    (0 ≤ hv.getD (L.getD k default).a.toNat 0 ∧ hv.getD (L.getD k default).a.toNat 0 + (L.getD k default).q ≤ 1000000000) ∧ (0 ≤ lv.getD (L.getD k default).b.toNat 0 ∧ lv.getD (L.getD k default).b.toNat 0 + (L.getD k default).q ≤ 1000000000) ∧ 0 ≤ S ∧ S + (L.getD k default).q ≤ is.length * 1000000000 := by
  have hq : ∀ x ∈ L, 1 ≤ x.q := fun x hx => (hL.dom x hx).2.2.2.2.1
  have hs := h.step hL hk
  have hd := hL.dom _ (mt_mem hk)
  have t1 := tot_take hq k
  have t2 := tot_take hq (k + 1)
  have t3 := hL.tle h1
  have a1 := hs.he (L.getD k default).a.toNat (by omega)
  have a2 := h.he (L.getD k default).a.toNat (by omega)
  have a3 := inA_take hq (k + 1) (L.getD k default).a.toNat
  have a4 := inA_take hq k (L.getD k default).a.toNat
  have a5 := hL.rows (L.getD k default).a.toNat (by omega)
  have a6 := dtErr_getD h1 (L.getD k default).a.toNat
  have b1 := hs.le (L.getD k default).b.toNat (by omega)
  have b2 := h.le (L.getD k default).b.toNat (by omega)
  have b3 := inB_take hq (k + 1) (L.getD k default).b.toNat
  have b4 := inB_take hq k (L.getD k default).b.toNat
  have b5 := hL.cols (L.getD k default).b.toNat (by omega)
  have b6 := dtErr_getD h2 (L.getD k default).b.toNat
  have s1 := hs.st
  have s2 := h.st
  rw [mgetD_set, if_pos ⟨rfl, by rw [h.hl]; omega⟩] at a1
  rw [mgetD_set, if_pos ⟨rfl, by rw [h.ll]; omega⟩] at b1
  refine ⟨⟨by omega, by omega⟩, ⟨by omega, by omega⟩, by omega, by omega⟩
theorem SmOk.all {L : List Mt} {hv lv : List Int} {S : Int} (h : SmOk is es L L.length hv lv S) (hL : Best is es af bf L) : (∀ i, i < is.length → hv.getD i 0 ≤ (is.getD i default).q) ∧ (∀ i, i < es.length → lv.getD i 0 ≤ (es.getD i default).q) ∧ S = totM L := by
  have e : L.take L.length = L := List.take_length
  refine ⟨fun i hi => ?_, fun i hi => ?_, by rw [h.st, e]⟩
  · rw [h.he i hi, e]; exact hL.rows i hi
  · rw [h.le i hi, e]; exact hL.cols i hi
end Go.Proofs.Ytoeghejbgibioaa
