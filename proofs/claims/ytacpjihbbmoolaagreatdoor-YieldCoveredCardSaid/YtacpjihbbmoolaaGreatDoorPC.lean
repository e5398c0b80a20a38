/- A lot presented, moved and processed by a recipe with two outputs: plain law. -/
import Derived.Test.YtacpjihbbmoolaaGreatDoorP8
import Derived.Test.YtacpjihbbmoolaaGreatDoorCZ

namespace Go.Proofs.YtacpjihbbmoolaaGreatDoor
open Go Go.RowKit
set_option linter.unusedVariables false
set_option linter.unusedSimpArgs false
set_option maxRecDepth 100000

def c77 : ByteArray := ⟨#[55, 55, 48, 48, 48, 48, 48, 48]⟩
def c78 : ByteArray := ⟨#[55, 56, 48, 48, 48, 48, 48, 48]⟩
def c79 : ByteArray := ⟨#[55, 57, 48, 48, 48, 48, 48, 48]⟩
theorem c77_ok : codeOk c77 := ⟨rfl, fun i hi => by
  rcases i with _|_|_|_|_|_|_|_|i
  all_goals first|(exfalso; omega)|decide⟩
theorem c78_ok : codeOk c78 := ⟨rfl, fun i hi => by
  rcases i with _|_|_|_|_|_|_|_|i
  all_goals first|(exfalso; omega)|decide⟩
theorem c79_ok : codeOk c79 := ⟨rfl, fun i hi => by
  rcases i with _|_|_|_|_|_|_|_|i
  all_goals first|(exfalso; omega)|decide⟩
def rP (q A B : Int) : Rc := ⟨1, [⟨c77, q⟩], [⟨c78, 3⟩, ⟨c79, 1⟩], [A, B]⟩
theorem rP_ok {q A B : Int} (hq : 1 ≤ q ∧ q ≤ 50) (hA : 0 ≤ A ∧ A ≤ 4) (hB : 1 ≤ B ∧ B ≤ 5) : rcOk (rP q A B) := by
  refine ⟨by show (1 : Int) ≤ 1 ∧ (1 : Int) ≤ 1000000; decide, ⟨by show 1 ≤ 1 ∧ 1 ≤ 8; decide, fun x hx => ?_, fun i hi => absurd hi (by show ¬ i + 1 < 1; omega)⟩, ⟨by show 1 ≤ 2 ∧ 2 ≤ 8; decide, fun x hx => ?_, fun i hi => ?_⟩, rfl, fun x hx => ?_, by show A + (B + 0) ≠ 0; omega⟩
  · rw [List.mem_singleton.1 hx]
    exact ⟨c77_ok, by show 1 ≤ q ∧ q ≤ 1000000000; omega⟩
  · rcases List.mem_cons.1 hx with rfl|hx
    · exact ⟨c78_ok, by show (1 : Int) ≤ 3 ∧ (3 : Int) ≤ 1000000000; decide⟩
    · rw [List.mem_singleton.1 hx]
      exact ⟨c79_ok, by show (1 : Int) ≤ 1 ∧ (1 : Int) ≤ 1000000000; decide⟩
  · have hi : i + 1 < 2 := hi
    obtain rfl : i = 0 := by omega
    show ¬ leS c79 c78
    unfold leS
    decide +kernel
  · rcases List.mem_cons.1 hx with rfl|hx
    · omega
    · rw [List.mem_singleton.1 hx]
      omega
theorem est_pre {ss : List Lt} {cs : List Ch} {f : Int} (h : EstOk ss cs f) {c : ByteArray} {q : Int} (hq : 1 ≤ q ∧ q ≤ 1000000) (he : preE ss f c q = 0) : EstOk (preL ss f c q) (cs ++ [⟨f, q, 0⟩]) (f + 1) := by
  obtain ⟨s1, s2, s3⟩ := pre_stk he
  refine ⟨s1, fun x hx => ?_, ?_, ?_, fun c hc => ?_, by have := h.f; omega⟩
  · rcases (s3 x).1 hx with hx|rfl
    · have := h.id x hx; exact ⟨by omega, this.2⟩
    · exact ⟨by show f < f + 1; omega, by show (1 : Int) ≠ 13; omega⟩
  · refine s2.trans ?_
    unfold chU
    rw [List.flatMap_append, List.flatMap_cons, List.flatMap_nil, List.append_nil]
    exact h.cov.append_right _
  · rw [List.pairwise_append]
    refine ⟨h.chs, List.pairwise_singleton .., fun a ha b hb => ?_⟩
    rw [List.mem_singleton.1 hb]
    exact (h.chr a ha).2.1
  · rcases List.mem_append.1 hc with hc|hc
    · have := h.chr c hc; exact ⟨this.1, by omega, this.2.2⟩
    · rw [List.mem_singleton.1 hc]
      have := h.f
      exact ⟨this, by show f < f + 1; omega, hq.1, hq.2, rfl⟩
theorem est_not {ss : List Lt} {cs : List Ch} {f : Int} (h : EstOk ss cs f) {i : Int} (hi : f ≤ i) : ¬ takenP ss i := by
  rintro ⟨x, hx, e|⟨s, hs, e⟩⟩
  · have := (h.id x hx).1; omega
  · have := (est_src h hx hs).1; omega
def slR (f s e : Int) : List Sl := if s < e then [⟨f, s, e⟩] else []
theorem btw_one (f : Int) {u s e : Int} (h0 : 0 ≤ s) (h1 : s ≤ e) (h2 : e ≤ u) : btwL [⟨f, 0, u⟩] s e = slR f s e := by
  have hc : cnt (List.take 0 [(⟨f, 0, u⟩ : Sl)]) = 0 := rfl
  have hA : btA [⟨f, 0, u⟩] s 0 = s := by
    unfold btA
    rw [hc, Int.sub_zero]
    split <;> omega
  have hB : btB [⟨f, 0, u⟩] e 0 = e := by
    unfold btB
    rw [hc, Int.sub_zero]
    show (if u - 0 < e then u - 0 else e) = e
    split <;> omega
  have hp : pcs [⟨f, 0, u⟩] s e 1 = slR f s e := by
    unfold pcs
    show (List.flatMap (pcAt [⟨f, 0, u⟩] s e) [0]) = _
    rw [List.flatMap_cons, List.flatMap_nil, List.append_nil]
    unfold pcAt slR
    rw [hA, hB]
    show (if s < e then [(⟨f, 0 + s, 0 + e⟩ : Sl)] else []) = _
    rw [Int.zero_add, Int.zero_add]
  show (pcs [⟨f, 0, u⟩] s e 1).foldl extR [] = _
  rw [hp]
  unfold slR
  split
  · show extR [] ⟨f, s, e⟩ = _
    unfold extR
    rw [if_neg (fun h => absurd h.1 (by decide))]
    rfl
  · rfl
theorem slR_cnt {f s e : Int} (h : s ≤ e) : cnt (slR f s e) = e - s := by
  unfold slR
  split
  · simp [cnt, lenS]
  · simp [cnt]; omega
structure PzOk (ss : List Lt) (cs : List Ch) (f q k A B a p : Int) : Prop where
  e1 : preE ss f c77 (q * k) = 0
  e2 : movE (preL ss f c77 (q * k)) f a = 0
  e3 : proE (movL (preL ss f c77 (q * k)) f a) (rP q A B) k [f] [f + 1, f + 2] = 0
  l1 : (preL ss f c77 (q * k)).length ≤ 64
  l2 : (movL (preL ss f c77 (q * k)) f a).length ≤ 64
  est : EstOk (proL (movL (preL ss f c77 (q * k)) f a) (rP q A B) k [f] [f + 1, f + 2]) (cs ++ [⟨f, q * k, 0⟩]) (f + 3)
  h1 : hasI (proL (movL (preL ss f c77 (q * k)) f a) (rP q A B) k [f] [f + 1, f + 2]) (f + 1)
  v1 : findV (proL (movL (preL ss f c77 (q * k)) f a) (rP q A B) k [f] [f + 1, f + 2]) (f + 1) = ⟨f + 1, c78, k * 3, p, slR f 0 (q * k * A / (A + B))⟩
  h2 : hasI (proL (movL (preL ss f c77 (q * k)) f a) (rP q A B) k [f] [f + 1, f + 2]) (f + 2)
  v2 : findV (proL (movL (preL ss f c77 (q * k)) f a) (rP q A B) k [f] [f + 1, f + 2]) (f + 2) = ⟨f + 2, c79, k * 1, p, slR f (q * k * A / (A + B)) (q * k)⟩
theorem bd_rng {u A W : Int} (hu : 0 ≤ u) (hA : 0 ≤ A) (hW : A ≤ W) (h0 : 0 < W) : 0 ≤ u * A / W ∧ u * A / W ≤ u := by
  constructor
  · exact Int.ediv_nonneg (Int.mul_nonneg hu hA) (by omega)
  · have h1 : u * A ≤ u * W := Int.mul_le_mul_of_nonneg_left hW hu
    have h2 := Int.ediv_le_ediv h0 h1
    rwa [Int.mul_ediv_cancel _ (by omega)] at h2
theorem pz_ok {ss : List Lt} {cs : List Ch} {f : Int} (hE : EstOk ss cs f) (hl : ss.length ≤ 25) (hf : f ≤ 1000) {q k A B a p : Int} (hq : 1 ≤ q ∧ q ≤ 50) (hk : 1 ≤ k ∧ k ≤ 9) (hA : 0 ≤ A ∧ A ≤ 4) (hB : 1 ≤ B ∧ B ≤ 5) (ha : (a = 6 ∧ p = 4) ∨ (a = 8 ∧ p = 6)) : PzOk ss cs f q k A B a p := by
  have hf1 := hE.f
  have hu : 1 ≤ q * k ∧ q * k ≤ 450 := by
    have h1 : 1 * 1 ≤ q * k := Int.mul_le_mul hq.1 hk.1 (by omega) (by omega)
    have h2 : q * k ≤ 50 * 9 := Int.mul_le_mul hq.2 hk.2 (by omega) (by omega)
    omega
  have e1 : preE ss f c77 (q * k) = 0 := by
    unfold preE
    rw [if_neg (by rw [stkErr_zero hE.stk]; decide), if_neg (fun h => h ⟨by unfold idOk; omega, c77_ok, by unfold qOk; omega⟩), if_neg (est_not hE (Int.le_refl _)), if_neg (by omega)]
  have E1 := est_pre hE (by omega) e1
  obtain ⟨-, -, -, -, hpl⟩ := preE_inv e1
  obtain ⟨-, -, p3⟩ := pre_stk e1
  have hl1 : (preL ss f c77 (q * k)).length = ss.length + 1 := by
    rw [hpl, (repl_perm _ _ _).length_eq, keep_nil, List.length_append]
    rfl
  have hn1 : newLt f c77 (q * k) ∈ preL ss f c77 (q * k) := (p3 _).2 (.inr rfl)
  generalize hs1 : preL ss f c77 (q * k) = s1 at *
  have hv1 : findV s1 f = newLt f c77 (q * k) := find_self (x := newLt f c77 (q * k)) (asc_of E1.stk.asc) hn1
  have hh1 : hasI s1 f := ⟨_, hn1, rfl⟩
  have e2 : movE s1 f a = 0 := by
    unfold movE
    rw [if_neg (by rw [stkErr_zero E1.stk]; decide), if_neg (fun h => h hh1), hv1]
    show nxE 1 a = 0
    rcases ha with ⟨rfl, -⟩|⟨rfl, -⟩ <;> decide
  have E2 := (est_step E1 (Step.mov f a (by omega) e2)).1
  obtain ⟨-, -, -, hml⟩ := movE_inv e2
  obtain ⟨k0, b1, b2, -, -, -⟩ := findI_ex hh1
  rw [hv1, b2] at hml
  have hy : (⟨f, c77, q * k, p, [⟨f, 0, q * k⟩]⟩ : Lt) ∈ movL s1 f a := by
    rw [hml]
    have e : (⟨(newLt f c77 (q * k)).id, (newLt f c77 (q * k)).c, (newLt f c77 (q * k)).q, nxR (newLt f c77 (q * k)).p a, (newLt f c77 (q * k)).us⟩ : Lt) = ⟨f, c77, q * k, p, [⟨f, 0, q * k⟩]⟩ := by
      show (⟨f, c77, q * k, nxR 1 a, [⟨f, 0, q * k⟩]⟩ : Lt) = _
      rcases ha with ⟨rfl, rfl⟩|⟨rfl, rfl⟩ <;> rfl
    rw [e]
    exact List.mem_set b1 _
  have hl2 : (movL s1 f a).length = s1.length := by rw [hml, List.length_set]
  generalize hs2 : movL s1 f a = s2 at *
  have hv2 : findV s2 f = ⟨f, c77, q * k, p, [⟨f, 0, q * k⟩]⟩ := find_self (x := ⟨f, c77, q * k, p, [⟨f, 0, q * k⟩]⟩) (asc_of E2.stk.asc) hy
  have hh2 : hasI s2 f := ⟨_, hy, rfl⟩
  have hW : 0 < A + B := by omega
  have hbd := bd_rng (u := q * k) (A := A) (W := A + B) (by omega) hA.1 (by omega) hW
  have hmg : mgU s2 [f] = [⟨f, 0, q * k⟩] := by
    unfold mgU
    simp only [List.map_cons, List.map_nil, hv2, List.flatten_cons, List.flatten_nil, List.append_nil]
  have hcn : cnt (mgU s2 [f]) = q * k := by rw [hmg]; simp [cnt, lenS]
  have hb0 : prBd s2 (rP q A B) [f] 0 = 0 := by
    show cnt (mgU s2 [f]) * (List.take 0 [A, B]).sum / ([A, B] : List Int).sum = 0
    simp
  have hb1 : prBd s2 (rP q A B) [f] 1 = q * k * A / (A + B) := by
    show cnt (mgU s2 [f]) * (List.take 1 [A, B]).sum / ([A, B] : List Int).sum = _
    rw [hcn]
    simp
  have hb2 : prBd s2 (rP q A B) [f] 2 = q * k := by
    show cnt (mgU s2 [f]) * (List.take 2 [A, B]).sum / ([A, B] : List Int).sum = _
    rw [hcn]
    show q * k * (A + (B + 0)) / (A + (B + 0)) = _
    exact Int.mul_ediv_cancel _ (by omega)
  have hpp : prP s2 [f] = p := by
    show (findV s2 f).p = p
    rw [hv2]
  have hp0 : prPart s2 (rP q A B) k [f] [f + 1, f + 2] 0 = ⟨f + 1, c78, k * 3, p, slR f 0 (q * k * A / (A + B))⟩ := by
    unfold prPart
    rw [hb0, hb1, hmg, hpp, btw_one f (Int.le_refl _) hbd.1 hbd.2]
    rfl
  have hp1 : prPart s2 (rP q A B) k [f] [f + 1, f + 2] 1 = ⟨f + 2, c79, k * 1, p, slR f (q * k * A / (A + B)) (q * k)⟩ := by
    unfold prPart
    rw [hb1, hb2, hmg, hpp, btw_one f hbd.1 hbd.2 (Int.le_refl _)]
    rfl
  have hsl : ∀ s e, (slR f s e).length ≤ 1 := fun s e => by unfold slR; split <;> simp
  have hmv : mvP p := by unfold mvP; omega
  have hself : ∀ c : ByteArray, strEq c c = true := fun c => (strEq_iff c c).2 rfl
  have e3 : proE s2 (rP q A B) k [f] [f + 1, f + 2] = 0 := by
    have q1 : ∀ x ∈ (rP q A B).ins, qtyN (prH s2 [f]) x.c = k * x.q := fun x hx => by
      rw [List.mem_singleton.1 hx]
      have : prH s2 [f] = [⟨c77, q * k⟩] := by
        unfold prH
        simp only [List.map_cons, List.map_nil, hv2]
        rfl
      rw [this]
      show qtyN [⟨c77, q * k⟩] c77 = k * q
      simp [qtyN, hself]
      exact Int.mul_comm _ _
    have q2 : ∀ i ∈ ([f] : List Int), (findV s2 i).p = prP s2 [f] ∧ qtyN (rP q A B).ins (findV s2 i).c ≠ 0 := fun i hi => by
      rw [List.mem_singleton.1 hi, hpp, hv2]
      refine ⟨rfl, ?_⟩
      show qtyN [⟨c77, q⟩] c77 ≠ 0
      simp [qtyN, hself]
      omega
    have q3 : ∀ x ∈ (rP q A B).outs, k * x.q ≤ 1000000000 := fun x hx => by
      rcases List.mem_cons.1 hx with rfl|hx
      · show k * 3 ≤ _; omega
      · rw [List.mem_singleton.1 hx]; show k * 1 ≤ _; omega
    have q4 : ∀ j, j < ([f + 1, f + 2] : List Int).length → (prPart s2 (rP q A B) k [f] [f + 1, f + 2] j).us.length ≤ 64 := fun j hj => by
      rcases j with _|_|j
      · rw [hp0]; exact Nat.le_trans (hsl _ _) (by decide)
      · rw [hp1]; exact Nat.le_trans (hsl _ _) (by decide)
      · exact absurd hj (by simp)
    have q5 : ∀ o ∈ ([f + 1, f + 2] : List Int), idOk o ∧ ¬ takenP s2 o := fun o ho => by
      rcases List.mem_cons.1 ho with rfl|ho
      · exact ⟨by unfold idOk; omega, est_not E2 (by omega)⟩
      · rw [List.mem_singleton.1 ho]
        exact ⟨by unfold idOk; omega, est_not E2 (by omega)⟩
    unfold proE
    rw [if_neg (show ¬ stkErr s2 ≠ 0 by rw [stkErr_zero E2.stk]; decide), ifnn (rP_ok hq hA hB),
      if_neg (show ¬ (k < 1 ∨ 1000 < k ∨ ([f] : List Int).length < 1 ∨ 16 < ([f] : List Int).length ∨ ([f + 1, f + 2] : List Int).length ≠ (rP q A B).outs.length) from fun h => by
        have h1 : ([f] : List Int).length = 1 := rfl
        have h2 : ([f + 1, f + 2] : List Int).length = 2 := rfl
        have h3 : (rP q A B).outs.length = 2 := rfl
        omega),
      ifnn (show ∀ o ∈ ([f + 1, f + 2] : List Int), idOk o from fun o ho => (q5 o ho).1), ifnn (show ∀ i ∈ ([f] : List Int), hasI s2 i from fun i hi => by rw [List.mem_singleton.1 hi]; exact hh2),
      if_neg (show ¬ twiceP [f] from not_twice.2 (by simp)), if_neg (show ¬ (twiceP [f + 1, f + 2] ∨ ∃ o ∈ ([f + 1, f + 2] : List Int), takenP s2 o) from fun h => h.elim (not_twice.2 (by simp)) fun ⟨o, ho, ht⟩ => (q5 o ho).2 ht),
      ifnn (show ∀ i ∈ ([f] : List Int), mvP (findV s2 i).p from fun i hi => by rw [List.mem_singleton.1 hi, hv2]; exact hmv), ifnn q2, ifnn q1, ifnn q3,
      if_neg (show ¬ (64 < (s2.length : Int) - ([f] : List Int).length + ([f + 1, f + 2] : List Int).length) by
        have h1 : ([f] : List Int).length = 1 := rfl
        have h2 : ([f + 1, f + 2] : List Int).length = 2 := rfl
        omega), ifnn q4]
  obtain ⟨t1, t2, t3, t4⟩ := pro_stk e3
  have hpt : prParts s2 (rP q A B) k [f] [f + 1, f + 2] ([f + 1, f + 2] : List Int).length = [⟨f + 1, c78, k * 3, p, slR f 0 (q * k * A / (A + B))⟩, ⟨f + 2, c79, k * 1, p, slR f (q * k * A / (A + B)) (q * k)⟩] := by
    show [prPart s2 (rP q A B) k [f] [f + 1, f + 2] 0, prPart s2 (rP q A B) k [f] [f + 1, f + 2] 1] = _
    rw [hp0, hp1]
  rw [hpt] at t4
  have m1 := (t4 ⟨f + 1, c78, k * 3, p, slR f 0 (q * k * A / (A + B))⟩).2 (.inr (by simp))
  have m2 := (t4 ⟨f + 2, c79, k * 1, p, slR f (q * k * A / (A + B)) (q * k)⟩).2 (.inr (by simp))
  have E3 : EstOk (proL s2 (rP q A B) k [f] [f + 1, f + 2]) (cs ++ [⟨f, q * k, 0⟩]) (f + 3) := by
    refine ⟨t1, fun z hz => ?_, t2.trans E2.cov, E2.chs, fun c hc => ?_, by omega⟩
    · rcases (t4 z).1 hz with hz|hz
      · have := E2.id z (keep_mem hz).1; exact ⟨by omega, this.2⟩
      · unfold mvP at hmv
        rcases List.mem_cons.1 hz with rfl|hz
        · exact ⟨by show f + 1 < f + 3; omega, by show p ≠ 13; omega⟩
        · rw [List.mem_singleton.1 hz]
          exact ⟨by show f + 2 < f + 3; omega, by show p ≠ 13; omega⟩
    · have := E2.chr c hc; exact ⟨this.1, by omega, this.2.2⟩
  have hasc := asc_of t1.asc
  subst hs2
  subst hs1
  exact ⟨e1, e2, e3, by omega, by omega, E3, ⟨_, m1, rfl⟩, find_self (x := ⟨f + 1, c78, k * 3, p, slR f 0 (q * k * A / (A + B))⟩) hasc m1, ⟨_, m2, rfl⟩, find_self (x := ⟨f + 2, c79, k * 1, p, slR f (q * k * A / (A + B)) (q * k)⟩) hasc m2⟩
theorem slR_err {f s e : Int} (hf : idOk f) (h0 : 0 ≤ s) (h1 : s ≤ e) (h2 : e ≤ 1000000000) : lotErr (slR f s e) = 0 := by
  rw [lotErr_iff]
  unfold slR
  split
  · refine ⟨by simp, fun y hy => ?_, ?_⟩
    · rw [List.mem_singleton.1 hy]
      unfold idOk at hf
      unfold slOk
      dsimp only
      omega
    · rw [expand_one]
      exact nodup_units _
  · simp [expand]
theorem a_rP (q A B : Int) : AVle (.agg [iA 1, .dat (.lst 2 1 fun i j => pickF (tabB 1 2) [.val (.string c77), .val (.int .i64 q)] (i * 2 + j)), .dat (.lst 2 2 fun i j => pickF (tabB 2 2) [.val (.string c78), .val (.int .i64 3), .val (.string c79), .val (.int .i64 1)] (i * 2 + j)), .dat (.lst 1 2 fun i j => pickF (tabB 2 1) [.val (.int .i64 A), .val (.int .i64 B)] (i * 1 + j))]) (rcA (rP q A B)) :=
  AVle.agg ⟨AVle.refl _, AVle.dat (Dle.lst rfl fun i hi j hj => by
    rcases i with _|i <;> rcases j with _|_|j <;> first|exact Dle.refl _|omega), AVle.dat (Dle.lst rfl fun i hi j hj => by
    rcases i with _|_|i <;> rcases j with _|_|j <;> first|exact Dle.refl _|omega), two_ints A B, trivial⟩
theorem ACalls.pargs {X : Cx} {f : FuncId} {cs ds : List AV} {r : AV} (h : ACalls X f ds r) (hle : AVsLe cs ds) : ACalls X f cs r := by
  obtain ⟨h1, h2⟩ := AVsLe_at hle
  exact ⟨h.fn, fun M w vs hg hp hl hd => h.out M w vs hg hp (by omega) fun i d v e1 e2 => by
    obtain ⟨c, e3, e4⟩ := h2 i d e1
    unfold AVle at e4
    exact fun ρ => e4 ρ M v (hd i c v e3 e2 ρ)⟩
end Go.Proofs.YtacpjihbbmoolaaGreatDoor
