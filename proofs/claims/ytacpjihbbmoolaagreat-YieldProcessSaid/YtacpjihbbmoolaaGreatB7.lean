/- What is taken and what is left, with each method; lots split: plain definitions and their bounds. -/
import Derived.Test.YtacpjihbbmoolaaGreatB6
namespace Go.Proofs.YtacpjihbbmoolaaGreat
open Go Go.RowKit
set_option linter.unusedVariables false
set_option linter.unusedSimpArgs false
set_option maxRecDepth 100000
set_option maxHeartbeats 4000000

theorem cnt_foldl {us : List Sl} (h : ∀ y ∈ us, y.s ≤ y.e) : cnt (us.foldl extL []) = cnt us := cnt_join h
theorem cnt_zip {us : List Sl} {ks : List Int} (h : fits us ks) : cnt (List.zipWith fstP us ks) = ks.sum ∧ cnt (List.zipWith sndP us ks) = cnt us - ks.sum := by
  induction us generalizing ks with
  | nil => cases ks with
    | nil => simp [cnt]
    | cons => exact h.elim
  | cons x l ih =>
    cases ks with
    | nil => exact h.elim
    | cons k ks =>
      obtain ⟨h1, h2⟩ := ih h.2
      simp only [List.zipWith_cons_cons, cnt_cons, h1, h2, List.sum_cons]
      unfold lenS fstP sndP
      constructor <;> simp only <;> omega
theorem cnt_cut {us : List Sl} {ks : List Int} (h : fits us ks) (hu : ∀ y ∈ us, y.s ≤ y.e) : cnt (cutA us ks) = ks.sum ∧ cnt (cutB us ks) = cnt us - ks.sum := by
  obtain ⟨f1, f2⟩ := fits_mem h hu
  obtain ⟨z1, z2⟩ := cnt_zip h
  exact ⟨(cnt_foldl f1).trans z1, (cnt_foldl f2).trans z2⟩
theorem shL_sum : ∀ {us : List Sl} {u : Int}, (∀ y ∈ us, y.s ≤ y.e) → 0 ≤ u → u ≤ cnt us → (shL us u).sum = u
  | [], u, _, h0, h => by simp [cnt] at h; simp [shL]; omega
  | x :: l, u, h, h0, hu => by
    have hx := h x (by simp)
    rw [cnt_cons] at hu
    have hl := cnt_nonneg (us := l) fun y hy => h y (by simp [hy])
    have := shL_sum (us := l) (u := u - min u (lenS x)) (fun y hy => h y (by simp [hy])) (by omega) (by unfold lenS at *; omega)
    simp only [shL, List.sum_cons, this]
    omega
def ksM (m : Int) (us : List Sl) (u : Int) : List Int := if m = 3 then shareL u (lensL us) else shL us u
def divA (m : Int) (us : List Sl) (u : Int) : List Sl := if m = 2 then frB us (cnt us - u) else cutA us (ksM m us u)
def divB (m : Int) (us : List Sl) (u : Int) : List Sl := if m = 2 then frA us (cnt us - u) else cutB us (ksM m us u)
theorem cnt_zero_nil {us : List Sl} (h : ∀ y ∈ us, slOk y) (hc : cnt us = 0) : us = [] := by
  cases us with
  | nil => rfl
  | cons x l =>
    have hx := h x (by simp)
    have hl := cnt_nonneg (us := l) fun y hy => by have := h y (by simp [hy]); unfold slOk at this; omega
    rw [cnt_cons] at hc
    unfold slOk at hx
    unfold lenS at hc
    omega
theorem ksM_ok {m : Int} {us : List Sl} {u : Int} (h : ∀ y ∈ us, slOk y) (hu : 0 ≤ u ∧ u ≤ cnt us) : fits us (ksM m us u) ∧ (ksM m us u).sum = u := by
  have hle : ∀ y ∈ us, y.s ≤ y.e := fun y hy => by have := h y hy; unfold slOk at this; omega
  unfold ksM
  split
  · refine ⟨share_fits h hu.1 hu.2, share_sum (lens_ok h) hu.1 fun he => ?_⟩
    have : us = [] := by cases us with
      | nil => rfl
      | cons x l => simp [lensL] at he
    subst this
    simp [cnt] at hu
    omega
  · exact ⟨fits_shL hle hu.1, shL_sum hle hu.1 hu.2⟩
structure DivR (m : Int) (us : List Sl) (u : Int) : Prop where
  cA : cnt (divA m us u) = u
  cB : cnt (divB m us u) = cnt us - u
  oA : ∀ y ∈ divA m us u, slOk y
  oB : ∀ y ∈ divB m us u, slOk y
  lA : (divA m us u).length ≤ us.length
  lB : (divB m us u).length ≤ us.length
  pA : cmpct (divA m us u)
  pB : cmpct (divB m us u)
theorem divR {m : Int} {us : List Sl} {u : Int} (h : ∀ y ∈ us, slOk y) (hu : 0 ≤ u ∧ u ≤ cnt us) : DivR m us u := by
  have hle : ∀ y ∈ us, y.s ≤ y.e := fun y hy => by have := h y hy; unfold slOk at this; omega
  by_cases hm : m = 2
  · have hf := fits_shL (u := cnt us - u) hle (by omega)
    have hs := shL_sum (u := cnt us - u) hle (by omega) (by omega)
    obtain ⟨c1, c2⟩ := cnt_cut hf hle
    refine ⟨?_, ?_, ?_, ?_, ?_, ?_, ?_, ?_⟩ <;> (first | unfold divA frB | unfold divB frA) <;> rw [if_pos hm]
    · rw [c2, hs]; omega
    · rw [c1, hs]
    · exact cutB_ok hf h
    · exact cutA_ok hf h
    · exact cutB_len ..
    · exact cutA_len ..
    · exact cutB_cmpct hf hle
    · exact cutA_cmpct hf hle
  · obtain ⟨hf, hs⟩ := ksM_ok (m := m) h hu
    obtain ⟨c1, c2⟩ := cnt_cut hf hle
    refine ⟨?_, ?_, ?_, ?_, ?_, ?_, ?_, ?_⟩ <;> (first | unfold divA | unfold divB) <;> rw [if_neg hm]
    · rw [c1, hs]
    · rw [c2, hs]
    · exact cutA_ok hf h
    · exact cutB_ok hf h
    · exact cutA_len ..
    · exact cutB_len ..
    · exact cutA_cmpct hf hle
    · exact cutB_cmpct hf hle

structure Pt where
  id : Int
  q : Int
  deriving Inhabited
def sumP (ps : List Pt) (k : Nat) : Int := ((ps.take k).map Pt.q).sum
def bdP (x : Lt) (ps : List Pt) (k : Nat) : Int := cnt x.us * sumP ps k / x.q
def restP (m : Int) (x : Lt) (ps : List Pt) : Nat → List Sl
  | 0 => x.us
  | k + 1 => divB m (restP m x ps k) (bdP x ps (k + 1) - bdP x ps k)
def partP (m : Int) (x : Lt) (ps : List Pt) (k : Nat) : Lt := ⟨(ps.getD k default).id, x.c, (ps.getD k default).q, x.p, divA m (restP m x ps k) (bdP x ps (k + 1) - bdP x ps k)⟩
def partsP (m : Int) (x : Lt) (ps : List Pt) (k : Nat) : List Lt := (List.range k).map (partP m x ps)
theorem partsP_succ (m : Int) (x : Lt) (ps : List Pt) (k : Nat) : partsP m x ps (k + 1) = partsP m x ps k ++ [partP m x ps k] := by unfold partsP; rw [List.range_succ, List.map_append]; rfl
theorem partsP_len (m : Int) (x : Lt) (ps : List Pt) (k : Nat) : (partsP m x ps k).length = k := by simp [partsP]
theorem sumP_succ (ps : List Pt) (k : Nat) (h : k < ps.length) : sumP ps (k + 1) = sumP ps k + (ps.getD k default).q := by
  unfold sumP
  rw [take_snoc ps k h, List.map_append, List.sum_append]
  simp
structure PtsOk (x : Lt) (ps : List Pt) : Prop where
  q : 1 ≤ x.q ∧ x.q ≤ 1000000000
  us : ∀ y ∈ x.us, slOk y
  len : x.us.length ≤ 64
  pq : ∀ p ∈ ps, qOk p.q
  n : ps.length ≤ 16
  sum : sumP ps ps.length = x.q
theorem sumP_rng {x : Lt} {ps : List Pt} (h : PtsOk x ps) : ∀ k, k ≤ ps.length → 0 ≤ sumP ps k ∧ sumP ps k ≤ 1000000000 * k ∧ sumP ps k ≤ x.q := by
  have h1 : ∀ k, k ≤ ps.length → 0 ≤ sumP ps k ∧ sumP ps k ≤ 1000000000 * k := by
    intro k
    induction k with
    | zero => intro _; simp [sumP]
    | succ k ih =>
      intro hk
      have := ih (by omega)
      have hp := h.pq _ (getD_in (k := k) (by omega))
      rw [sumP_succ ps k (by omega)]
      unfold qOk at hp
      push_cast
      omega
  have h2 : ∀ k, k ≤ ps.length → sumP ps (ps.length - k) ≤ x.q := by
    intro k
    induction k with
    | zero => intro _; rw [Nat.sub_zero, h.sum]; omega
    | succ k ih =>
      intro hk
      have := ih (by omega)
      have hp := h.pq _ (getD_in (k := ps.length - (k + 1)) (by omega))
      have hs := sumP_succ ps (ps.length - (k + 1)) (by omega)
      rw [show ps.length - (k + 1) + 1 = ps.length - k by omega] at hs
      unfold qOk at hp
      omega
  intro k hk
  obtain ⟨a, b⟩ := h1 k hk
  have c := h2 (ps.length - k) (by omega)
  rw [show ps.length - (ps.length - k) = k by omega] at c
  exact ⟨a, b, c⟩
theorem bdP_rng {x : Lt} {ps : List Pt} (h : PtsOk x ps) (k : Nat) (hk : k ≤ ps.length) : 0 ≤ bdP x ps k ∧ bdP x ps k ≤ cnt x.us := by
  obtain ⟨a, b, c⟩ := sumP_rng h k hk
  have hc := cnt_nonneg (us := x.us) fun y hy => by have := h.us y hy; unfold slOk at this; omega
  have hq := h.q
  unfold bdP
  refine ⟨Int.ediv_nonneg (Int.mul_nonneg hc a) (by omega), ?_⟩
  exact Int.ediv_le_of_le_mul (by omega) (Int.mul_le_mul_of_nonneg_left c hc)
theorem bdP_mono {x : Lt} {ps : List Pt} (h : PtsOk x ps) (k : Nat) (hk : k < ps.length) : bdP x ps k ≤ bdP x ps (k + 1) := by
  have hc := cnt_nonneg (us := x.us) fun y hy => by have := h.us y hy; unfold slOk at this; omega
  have hp := h.pq _ (getD_in hk)
  have hs := sumP_succ ps k hk
  have hq := h.q
  unfold qOk at hp
  unfold bdP
  exact Int.ediv_le_ediv (by omega) (Int.mul_le_mul_of_nonneg_left (by omega) hc)
theorem restP_ok {m : Int} {x : Lt} {ps : List Pt} (h : PtsOk x ps) : ∀ k, k ≤ ps.length → cnt (restP m x ps k) = cnt x.us - bdP x ps k ∧ (∀ y ∈ restP m x ps k, slOk y) ∧ (restP m x ps k).length ≤ 64
  | 0, _ => by
    refine ⟨?_, h.us, h.len⟩
    unfold restP bdP
    simp [sumP]
  | k + 1, hk => by
    obtain ⟨a, b, c⟩ := restP_ok h k (by omega)
    have r1 := bdP_rng h k (by omega)
    have r2 := bdP_rng h (k + 1) hk
    have r3 := bdP_mono h k (by omega)
    have d := divR (m := m) (u := bdP x ps (k + 1) - bdP x ps k) b (by omega)
    refine ⟨?_, d.oB, by have := d.lB; unfold restP; omega⟩
    show cnt (divB m (restP m x ps k) _) = _
    rw [d.cB]
    omega
theorem partP_rng {m : Int} {x : Lt} {ps : List Pt} (h : PtsOk x ps) (k : Nat) (hk : k < ps.length) : 0 ≤ bdP x ps (k + 1) - bdP x ps k ∧ bdP x ps (k + 1) - bdP x ps k ≤ cnt (restP m x ps k) := by
  obtain ⟨a, b, c⟩ := restP_ok (m := m) h k (by omega)
  have r1 := bdP_rng h k (by omega)
  have r2 := bdP_rng h (k + 1) hk
  have r3 := bdP_mono h k (by omega)
  omega
def mOk (m : Int) : Prop := m = 1 ∨ m = 2 ∨ m = 3
instance (m : Int) : Decidable (mOk m) := by unfold mOk; exact inferInstance
noncomputable def chkE (ss : List Lt) (q : Int) (ps : List Pt) (m : Int) : Int := if ps.length < 2 ∨ 16 < ps.length ∨ ¬ mOk m then 2 else if ¬ (∀ p ∈ ps, idOk p.id ∧ qOk p.q) then 2 else if twiceP (ps.map Pt.id) then 13 else if ∃ p ∈ ps, takenP ss p.id then 13 else if sumP ps ps.length ≠ q then 14 else 0
noncomputable def splE (ss : List Lt) (id : Int) (ps : List Pt) (m : Int) : Int := if stkErr ss ≠ 0 then stkErr ss else if ¬ hasI ss id then 6 else if ¬ rests (findV ss id).p then 17 else if chkE ss (findV ss id).q ps m ≠ 0 then chkE ss (findV ss id).q ps m else if 64 < ss.length - 1 + ps.length then 8 else 0
noncomputable def splL (ss : List Lt) (id : Int) (ps : List Pt) (m : Int) : List Lt := if splE ss id ps m = 0 then replL ss [id] (partsP m (findV ss id) ps ps.length) else []
noncomputable def preE (ss : List Lt) (id : Int) (c : ByteArray) (q : Int) : Int := if stkErr ss ≠ 0 then stkErr ss else if ¬ (idOk id ∧ codeOk c ∧ qOk q) then 2 else if takenP ss id then 13 else if 64 ≤ ss.length then 8 else 0
noncomputable def preL (ss : List Lt) (id : Int) (c : ByteArray) (q : Int) : List Lt := if preE ss id c q = 0 then replL ss [] [⟨id, c, q, 1, [⟨id, 0, q⟩]⟩] else []

end Go.Proofs.YtacpjihbbmoolaaGreat
