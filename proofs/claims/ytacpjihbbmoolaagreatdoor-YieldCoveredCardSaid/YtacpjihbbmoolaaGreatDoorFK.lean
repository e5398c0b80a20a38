/- What is taken and what is left, with each method; lots split: plain definitions and their bounds. Lots presented and split. The order of lots by IDs; whether the law's package is awake. Units, plain law: lists that have each unit once; what cuts do to them. -/
import Derived.Test.YtacpjihbbmoolaaGreatDoorB6

namespace Go.Proofs.YtacpjihbbmoolaaGreatDoor
open Go Go.RowKit
set_option linter.unusedVariables false
set_option linter.unusedSimpArgs false
set_option maxRecDepth 100000
set_option maxHeartbeats 4000000

theorem cnt_foldl {us : List Sl} (h : ∀ y ∈ us, y.s ≤ y.e) : cnt (us.foldl extL []) = cnt us := cnt_join h
theorem cnt_zip {us : List Sl} {ks : List Int} (h : fits us ks) : cnt (List.zipWith fstP us ks) = ks.sum ∧ cnt (List.zipWith sndP us ks) = cnt us - ks.sum := by
  induction us generalizing ks with
  | nil => cases ks with
    | nil => simp [cnt]
    | cons => exact h.elim
  | cons x l ih =>
    cases ks with
    | nil => exact h.elim
    | cons k ks =>
      obtain ⟨h1, h2⟩ := ih h.2
      simp only [List.zipWith_cons_cons, cnt_cons, h1, h2, List.sum_cons]
      unfold lenS fstP sndP
      constructor <;> simp only <;> omega
theorem cnt_cut {us : List Sl} {ks : List Int} (h : fits us ks) (hu : ∀ y ∈ us, y.s ≤ y.e) : cnt (cutA us ks) = ks.sum ∧ cnt (cutB us ks) = cnt us - ks.sum := by
  obtain ⟨f1, f2⟩ := fits_mem h hu
  obtain ⟨z1, z2⟩ := cnt_zip h
  exact ⟨(cnt_foldl f1).trans z1, (cnt_foldl f2).trans z2⟩
theorem shL_sum : ∀ {us : List Sl} {u : Int}, (∀ y ∈ us, y.s ≤ y.e) → 0 ≤ u → u ≤ cnt us → (shL us u).sum = u
  | [], u, _, h0, h => by simp [cnt] at h; simp [shL]; omega
  | x :: l, u, h, h0, hu => by
    have hx := h x (by simp)
    rw [cnt_cons] at hu
    have hl := cnt_nonneg (us := l) fun y hy => h y (by simp [hy])
    have := shL_sum (us := l) (u := u - min u (lenS x)) (fun y hy => h y (by simp [hy])) (by omega) (by unfold lenS at *; omega)
    simp only [shL, List.sum_cons, this]
    omega
def ksM (m : Int) (us : List Sl) (u : Int) : List Int := if m = 3 then shareL u (lensL us) else shL us u
def divA (m : Int) (us : List Sl) (u : Int) : List Sl := if m = 2 then frB us (cnt us - u) else cutA us (ksM m us u)
def divB (m : Int) (us : List Sl) (u : Int) : List Sl := if m = 2 then frA us (cnt us - u) else cutB us (ksM m us u)
theorem cnt_zero_nil {us : List Sl} (h : ∀ y ∈ us, slOk y) (hc : cnt us = 0) : us = [] := by
  cases us with
  | nil => rfl
  | cons x l =>
    have hx := h x (by simp)
    have hl := cnt_nonneg (us := l) fun y hy => by have := h y (by simp [hy]); unfold slOk at this; omega
    rw [cnt_cons] at hc
    unfold slOk at hx
    unfold lenS at hc
    omega
theorem ksM_ok {m : Int} {us : List Sl} {u : Int} (h : ∀ y ∈ us, slOk y) (hu : 0 ≤ u ∧ u ≤ cnt us) : fits us (ksM m us u) ∧ (ksM m us u).sum = u := by
  have hle : ∀ y ∈ us, y.s ≤ y.e := fun y hy => by have := h y hy; unfold slOk at this; omega
  unfold ksM
  split
  · refine ⟨share_fits h hu.1 hu.2, share_sum (lens_ok h) hu.1 fun he => ?_⟩
    have : us = [] := by cases us with
      | nil => rfl
      | cons x l => simp [lensL] at he
    subst this
    simp [cnt] at hu
    omega
  · exact ⟨fits_shL hle hu.1, shL_sum hle hu.1 hu.2⟩
structure DivR (m : Int) (us : List Sl) (u : Int) : Prop where
  cA : cnt (divA m us u) = u
  cB : cnt (divB m us u) = cnt us - u
  oA : ∀ y ∈ divA m us u, slOk y
  oB : ∀ y ∈ divB m us u, slOk y
  lA : (divA m us u).length ≤ us.length
  lB : (divB m us u).length ≤ us.length
  pA : cmpct (divA m us u)
  pB : cmpct (divB m us u)
theorem divR {m : Int} {us : List Sl} {u : Int} (h : ∀ y ∈ us, slOk y) (hu : 0 ≤ u ∧ u ≤ cnt us) : DivR m us u := by
  have hle : ∀ y ∈ us, y.s ≤ y.e := fun y hy => by have := h y hy; unfold slOk at this; omega
  by_cases hm : m = 2
  · have hf := fits_shL (u := cnt us - u) hle (by omega)
    have hs := shL_sum (u := cnt us - u) hle (by omega) (by omega)
    obtain ⟨c1, c2⟩ := cnt_cut hf hle
    refine ⟨?_, ?_, ?_, ?_, ?_, ?_, ?_, ?_⟩ <;> (first|unfold divA frB|unfold divB frA) <;> rw [if_pos hm]
    · rw [c2, hs]; omega
    · rw [c1, hs]
    · exact cutB_ok hf h
    · exact cutA_ok hf h
    · exact cutB_len ..
    · exact cutA_len ..
    · exact cutB_cmpct hf hle
    · exact cutA_cmpct hf hle
  · obtain ⟨hf, hs⟩ := ksM_ok (m := m) h hu
    obtain ⟨c1, c2⟩ := cnt_cut hf hle
    refine ⟨?_, ?_, ?_, ?_, ?_, ?_, ?_, ?_⟩ <;> (first|unfold divA|unfold divB) <;> rw [if_neg hm]
    · rw [c1, hs]
    · rw [c2, hs]
    · exact cutA_ok hf h
    · exact cutB_ok hf h
    · exact cutA_len ..
    · exact cutB_len ..
    · exact cutA_cmpct hf hle
    · exact cutB_cmpct hf hle

structure Pt where
  id : Int
  q : Int
  deriving Inhabited
def sumP (ps : List Pt) (k : Nat) : Int := ((ps.take k).map Pt.q).sum
def bdP (x : Lt) (ps : List Pt) (k : Nat) : Int := cnt x.us * sumP ps k / x.q
def restP (m : Int) (x : Lt) (ps : List Pt) : Nat → List Sl
  | 0 => x.us
  | k + 1 => divB m (restP m x ps k) (bdP x ps (k + 1) - bdP x ps k)
def partP (m : Int) (x : Lt) (ps : List Pt) (k : Nat) : Lt := ⟨(ps.getD k default).id, x.c, (ps.getD k default).q, x.p, divA m (restP m x ps k) (bdP x ps (k + 1) - bdP x ps k)⟩
def partsP (m : Int) (x : Lt) (ps : List Pt) (k : Nat) : List Lt := (List.range k).map (partP m x ps)
theorem partsP_succ (m : Int) (x : Lt) (ps : List Pt) (k : Nat) : partsP m x ps (k + 1) = partsP m x ps k ++ [partP m x ps k] := by unfold partsP; rw [List.range_succ, List.map_append]; rfl
theorem partsP_len (m : Int) (x : Lt) (ps : List Pt) (k : Nat) : (partsP m x ps k).length = k := by simp [partsP]
theorem sumP_succ (ps : List Pt) (k : Nat) (h : k < ps.length) : sumP ps (k + 1) = sumP ps k + (ps.getD k default).q := by
  unfold sumP
  rw [take_snoc ps k h, List.map_append, List.sum_append]
  simp
structure PtsOk (x : Lt) (ps : List Pt) : Prop where
  q : 1 ≤ x.q ∧ x.q ≤ 1000000000
  us : ∀ y ∈ x.us, slOk y
  len : x.us.length ≤ 64
  pq : ∀ p ∈ ps, qOk p.q
  n : ps.length ≤ 16
  sum : sumP ps ps.length = x.q
theorem sumP_rng {x : Lt} {ps : List Pt} (h : PtsOk x ps) : ∀ k, k ≤ ps.length → 0 ≤ sumP ps k ∧ sumP ps k ≤ 1000000000 * k ∧ sumP ps k ≤ x.q := by
  have h1 : ∀ k, k ≤ ps.length → 0 ≤ sumP ps k ∧ sumP ps k ≤ 1000000000 * k := by
    intro k
    induction k with
    | zero => intro _; simp [sumP]
    | succ k ih =>
      intro hk
      have := ih (by omega)
      have hp := h.pq _ (getD_in (k := k) (by omega))
      rw [sumP_succ ps k (by omega)]
      unfold qOk at hp
      push_cast
      omega
  have h2 : ∀ k, k ≤ ps.length → sumP ps (ps.length - k) ≤ x.q := by
    intro k
    induction k with
    | zero => intro _; rw [Nat.sub_zero, h.sum]; omega
    | succ k ih =>
      intro hk
      have := ih (by omega)
      have hp := h.pq _ (getD_in (k := ps.length - (k + 1)) (by omega))
      have hs := sumP_succ ps (ps.length - (k + 1)) (by omega)
      rw [show ps.length - (k + 1) + 1 = ps.length - k by omega] at hs
      unfold qOk at hp
      omega
  intro k hk
  obtain ⟨a, b⟩ := h1 k hk
  have c := h2 (ps.length - k) (by omega)
  rw [show ps.length - (ps.length - k) = k by omega] at c
  exact ⟨a, b, c⟩
theorem bdP_rng {x : Lt} {ps : List Pt} (h : PtsOk x ps) (k : Nat) (hk : k ≤ ps.length) : 0 ≤ bdP x ps k ∧ bdP x ps k ≤ cnt x.us := by
  obtain ⟨a, b, c⟩ := sumP_rng h k hk
  have hc := cnt_nonneg (us := x.us) fun y hy => by have := h.us y hy; unfold slOk at this; omega
  have hq := h.q
  unfold bdP
  refine ⟨Int.ediv_nonneg (Int.mul_nonneg hc a) (by omega), ?_⟩
  exact Int.ediv_le_of_le_mul (by omega) (Int.mul_le_mul_of_nonneg_left c hc)
theorem bdP_mono {x : Lt} {ps : List Pt} (h : PtsOk x ps) (k : Nat) (hk : k < ps.length) : bdP x ps k ≤ bdP x ps (k + 1) := by
  have hc := cnt_nonneg (us := x.us) fun y hy => by have := h.us y hy; unfold slOk at this; omega
  have hp := h.pq _ (getD_in hk)
  have hs := sumP_succ ps k hk
  have hq := h.q
  unfold qOk at hp
  unfold bdP
  exact Int.ediv_le_ediv (by omega) (Int.mul_le_mul_of_nonneg_left (by omega) hc)
theorem restP_ok {m : Int} {x : Lt} {ps : List Pt} (h : PtsOk x ps) : ∀ k, k ≤ ps.length → cnt (restP m x ps k) = cnt x.us - bdP x ps k ∧ (∀ y ∈ restP m x ps k, slOk y) ∧ (restP m x ps k).length ≤ 64
  | 0, _ => by
    refine ⟨?_, h.us, h.len⟩
    unfold restP bdP
    simp [sumP]
  | k + 1, hk => by
    obtain ⟨a, b, c⟩ := restP_ok h k (by omega)
    have r1 := bdP_rng h k (by omega)
    have r2 := bdP_rng h (k + 1) hk
    have r3 := bdP_mono h k (by omega)
    have d := divR (m := m) (u := bdP x ps (k + 1) - bdP x ps k) b (by omega)
    refine ⟨?_, d.oB, by have := d.lB; unfold restP; omega⟩
    show cnt (divB m (restP m x ps k) _) = _
    rw [d.cB]
    omega
theorem partP_rng {m : Int} {x : Lt} {ps : List Pt} (h : PtsOk x ps) (k : Nat) (hk : k < ps.length) : 0 ≤ bdP x ps (k + 1) - bdP x ps k ∧ bdP x ps (k + 1) - bdP x ps k ≤ cnt (restP m x ps k) := by
  obtain ⟨a, b, c⟩ := restP_ok (m := m) h k (by omega)
  have r1 := bdP_rng h k (by omega)
  have r2 := bdP_rng h (k + 1) hk
  have r3 := bdP_mono h k (by omega)
  omega
def mOk (m : Int) : Prop := m = 1 ∨ m = 2 ∨ m = 3
instance (m : Int) : Decidable (mOk m) := by unfold mOk; exact inferInstance
noncomputable def chkE (ss : List Lt) (q : Int) (ps : List Pt) (m : Int) : Int := if ps.length < 2 ∨ 16 < ps.length ∨ ¬ mOk m then 2 else if ¬ (∀ p ∈ ps, idOk p.id ∧ qOk p.q) then 2 else if twiceP (ps.map Pt.id) then 13 else if ∃ p ∈ ps, takenP ss p.id then 13 else if sumP ps ps.length ≠ q then 14 else 0
noncomputable def splE (ss : List Lt) (id : Int) (ps : List Pt) (m : Int) : Int := if stkErr ss ≠ 0 then stkErr ss else if ¬ hasI ss id then 6 else if ¬ rests (findV ss id).p then 17 else if chkE ss (findV ss id).q ps m ≠ 0 then chkE ss (findV ss id).q ps m else if 64 < ss.length - 1 + ps.length then 8 else 0
noncomputable def splL (ss : List Lt) (id : Int) (ps : List Pt) (m : Int) : List Lt := if splE ss id ps m = 0 then replL ss [id] (partsP m (findV ss id) ps ps.length) else []
noncomputable def preE (ss : List Lt) (id : Int) (c : ByteArray) (q : Int) : Int := if stkErr ss ≠ 0 then stkErr ss else if ¬ (idOk id ∧ codeOk c ∧ qOk q) then 2 else if takenP ss id then 13 else if 64 ≤ ss.length then 8 else 0
noncomputable def preL (ss : List Lt) (id : Int) (c : ByteArray) (q : Int) : List Lt := if preE ss id c q = 0 then replL ss [] [⟨id, c, q, 1, [⟨id, 0, q⟩]⟩] else []

end Go.Proofs.YtacpjihbbmoolaaGreatDoor

namespace Go.Proofs.YtacpjihbbmoolaaGreatDoor
open Go Go.RowKit
set_option linter.unusedVariables false
set_option linter.unusedSimpArgs false
set_option maxRecDepth 100000
set_option maxHeartbeats 4000000
attribute [local irreducible] ResLe AVle ArgLe ArgP EntLe Dle ResH ArgQ

theorem ACalls.args2 {X : Cx} {f : FuncId} {a a' b b' r : AV} (h : ACalls X f [a', b'] r) (ha : AVle a a') (hb : AVle b b') : ACalls X f [a, b] r := h.args ⟨ha, hb, trivial⟩
theorem ACalls.args3 {X : Cx} {f : FuncId} {a a' b b' c c' r : AV} (h : ACalls X f [a', b', c'] r) (ha : AVle a a') (hb : AVle b b') (hc : AVle c c') : ACalls X f [a, b, c] r := h.args ⟨ha, hb, hc, trivial⟩
theorem one_le (s : Nat) {α : Type} [Inhabited α] (enc : α → Nat → D) (x : α) (ds : List D) (h : ∀ j, j < s → Dle (pickF (tabB 1 s) ds (0 * s + j)) (enc x j)) : AVle (.dat (.lst s 1 fun i j => pickF (tabB 1 s) ds (i * s + j))) (.dat (.lst s [x].length (rowF enc [x]))) := AVle.dat (Dle.lst rfl fun i hi j hj => by
  obtain rfl : i = 0 := by omega
  exact h j hj)
theorem one_int (v : Int) : AVle (.dat (.lst 1 1 fun i j => pickF (tabB 1 1) [.val (.int .i64 v)] (i * 1 + j))) (.dat (iD [v])) := one_le 1 iE v _ fun j hj => by
  obtain rfl : j = 0 := by omega
  exact Dle.refl _
abbrev newLt (id : Int) (c : ByteArray) (q : Int) : Lt := ⟨id, c, q, 1, [⟨id, 0, q⟩]⟩
theorem one_new (id : Int) (c : ByteArray) (q : Int) : AVle (.dat (.lst 5 1 fun i j => pickF (tabB 1 5) [.val (.int .i64 id), .val (.string c), .val (.int .i64 q), .val (.int .i64 1), .lst 3 1 fun i j => pickF (tabB 1 3) [.val (.int .i64 id), .val (.int .i64 0), .val (.int .i64 q)] (i * 3 + j)] (i * 5 + j))) (.dat (ltD [newLt id c q])) := one_le 5 ltE (newLt id c q) _ fun j hj => by
  rcases j with _|_|_|_|_|j
  · exact Dle.refl _
  · exact Dle.refl _
  · exact Dle.refl _
  · exact Dle.refl _
  · refine Dle.lst rfl fun i hi j hj => ?_
    obtain rfl : i = 0 := by omega
    rcases j with _|_|_|j
    all_goals first|exact Dle.refl _|omega
  · omega
theorem nilInts : AVle (.dat (.val (.slice none 0 0))) (.dat (iD [])) := AVle.dat (Dle.nil _ _)
theorem present_t (ss : List Lt) (id : Int) (c : ByteArray) (q : Int) (hL : ss.length ≤ 9223372036854775807) : ACalls XX 7 [.dat (ltD ss), iA id, sA c, iA q] (.tup [.dat (ltD (preL ss id c q)), iA (preE ss id c q)]) := by
  have h1 := validate_t ss hL
  have h2 := validID_t id
  have h3 := validCode_t c
  have h4 := validQ_t q
  by_cases e1 : stkErr ss = 0
  · have hO := stkErr_ok e1
    have hlen := hO.len
    have h5 := taken_t ss id (by omega) (fun x hx => by have := hO.us x hx; omega)
    have h6 := (replace_t ss [] [newLt id c q] (by omega) (by simp) (by simp) (fun x hx => by have := hO.us x hx; omega) (by simp)).args3 (AVle.refl _) nilInts (one_new id c q)
    rw [e1] at h1
    have hE : preE ss id c q = if ¬ (idOk id ∧ codeOk c ∧ qOk q) then 2 else if takenP ss id then 13 else if 64 ≤ ss.length then 8 else 0 := by unfold preE; rw [if_neg (by simpa using e1)]
    have hP : preL ss id c q = if preE ss id c q = 0 then replL ss [] [newLt id c q] else [] := rfl
    by_cases e2 : idOk id ∧ codeOk c ∧ qOk q
    · rw [if_neg (by simpa using e2)] at hE
      obtain ⟨f1, f2, f3⟩ := e2
      rw [decide_eq_true f1] at h2
      rw [decide_eq_true f2] at h3
      rw [decide_eq_true f3] at h4
      by_cases e3 : takenP ss id
      · rw [if_pos e3] at hE
        rw [decide_eq_true e3] at h5
        rw [hE, if_neg (by omega)] at hP
        rw [hP, hE]
        refine ACalls.of (n := Tryz.f7.ntmps) XX_ok Tryz.func7 rfl (by kernel_rfl) rfl rfl (Nat.le_of_ble_eq_true rfl) ?_
        (repeat' (first|((first|refine Zg ?_|refine Zn ?_|refine Zc ?_|refine Zu fun b hb=>?_|refine Zy h1 ?_|refine Zy h2 ?_|refine Zy h3 ?_|refine Zy h4 ?_|refine Zy h5 ?_);conv=>whnf)|(refine Zb ?_ ?_<;>(intro h;first|exact Zx|conv=>whnf))))
        all_goals exact Zrz
      rw [if_neg e3] at hE
      rw [decide_eq_false e3] at h5
      by_cases e4 : 64 ≤ ss.length
      · rw [if_pos e4] at hE
        rw [hE, if_neg (by omega)] at hP
        rw [hP, hE]
        refine ACalls.of (n := Tryz.f7.ntmps) XX_ok Tryz.func7 rfl (by kernel_rfl) rfl rfl (Nat.le_of_ble_eq_true rfl) ?_
        (repeat' (first|((first|refine Zg ?_|refine Zn ?_|refine Zc ?_|refine Zu fun b hb=>?_|refine Zy h1 ?_|refine Zy h2 ?_|refine Zy h3 ?_|refine Zy h4 ?_|refine Zy h5 ?_);conv=>whnf)|(refine Zb ?_ ?_<;>(intro h;first|exact Zx|conv=>whnf))))
        all_goals exact Zrz
      rw [if_neg e4] at hE
      rw [hE, if_pos rfl] at hP
      rw [hP, hE]
      refine ACalls.of (n := Tryz.f7.ntmps) XX_ok Tryz.func7 rfl (by kernel_rfl) rfl rfl (Nat.le_of_ble_eq_true rfl) ?_
      refine W.pb [40, 48] ?_
      (repeat' (first|((first|refine Zg ?_|refine Zn ?_|refine Zc ?_|refine Zu fun b hb=>?_|refine Zy (ACalls.at (h1)) ?_|refine Zy (ACalls.at (h2)) ?_|refine Zy (ACalls.at (h3)) ?_|refine Zy (ACalls.at (h4)) ?_|refine Zy (ACalls.at (h5)) ?_|refine Zy (ACalls.at (h6)) ?_);conv=>whnf)|(refine Zb ?_ ?_<;>(intro h;first|exact Zx|conv=>whnf))))
      all_goals exact Zrz
    · rw [if_pos e2] at hE
      rw [hE, if_neg (by omega)] at hP
      rw [hP, hE]
      by_cases f1 : idOk id
      · by_cases f2 : codeOk c
        · have f3 : ¬ qOk q := fun h => e2 ⟨f1, f2, h⟩
          rw [decide_eq_true f1] at h2
          rw [decide_eq_true f2] at h3
          rw [decide_eq_false f3] at h4
          refine ACalls.of (n := Tryz.f7.ntmps) XX_ok Tryz.func7 rfl (by kernel_rfl) rfl rfl (Nat.le_of_ble_eq_true rfl) ?_
          (repeat' (first|((first|refine Zg ?_|refine Zn ?_|refine Zc ?_|refine Zu fun b hb=>?_|refine Zy h1 ?_|refine Zy h2 ?_|refine Zy h3 ?_|refine Zy h4 ?_);conv=>whnf)|(refine Zb ?_ ?_<;>(intro h;first|exact Zx|conv=>whnf))))
          all_goals exact Zrz
        · rw [decide_eq_true f1] at h2
          rw [decide_eq_false f2] at h3
          refine ACalls.of (n := Tryz.f7.ntmps) XX_ok Tryz.func7 rfl (by kernel_rfl) rfl rfl (Nat.le_of_ble_eq_true rfl) ?_
          (repeat' (first|((first|refine Zg ?_|refine Zn ?_|refine Zc ?_|refine Zu fun b hb=>?_|refine Zy h1 ?_|refine Zy h2 ?_|refine Zy h3 ?_);conv=>whnf)|(refine Zb ?_ ?_<;>(intro h;first|exact Zx|conv=>whnf))))
          all_goals exact Zrz
      · rw [decide_eq_false f1] at h2
        refine ACalls.of (n := Tryz.f7.ntmps) XX_ok Tryz.func7 rfl (by kernel_rfl) rfl rfl (Nat.le_of_ble_eq_true rfl) ?_
        (repeat' (first|((first|refine Zg ?_|refine Zn ?_|refine Zc ?_|refine Zu fun b hb=>?_|refine Zy h1 ?_|refine Zy h2 ?_);conv=>whnf)|(refine Zb ?_ ?_<;>(intro h;first|exact Zx|conv=>whnf))))
        all_goals exact Zrz
  · have hE : preE ss id c q = stkErr ss := by unfold preE; rw [if_pos e1]
    have hP : preL ss id c q = [] := by unfold preL; rw [hE, if_neg e1]
    rw [hP, hE]
    refine ACalls.of (n := Tryz.f7.ntmps) XX_ok Tryz.func7 rfl (by kernel_rfl) rfl rfl (Nat.le_of_ble_eq_true rfl) ?_
    (repeat' (first|((first|refine Zg ?_|refine Zn ?_|refine Zc ?_|refine Zu fun b hb=>?_|refine Zy h1 ?_);conv=>whnf)|(refine Zb ?_ ?_<;>(intro h;first|exact Zx|conv=>whnf))))
    all_goals exact Zrz

def ptE (x : Pt) (j : Nat) : D := match j with
  | 0 => .val (.int .i64 x.id)
  | _ => .val (.int .i64 x.q)
abbrev ptD (ps : List Pt) : D := .lst 2 ps.length (rowF ptE ps)
theorem findV_mem {ss : List Lt} {id : Int} (h : hasI ss id) : findV ss id ∈ ss ∧ (findV ss id).id = id := by
  obtain ⟨x, hx, he⟩ := h
  unfold findV
  cases hf : ss.find? (fun x => decide (x.id = id)) with
  | none => exact absurd he (by have := List.find?_eq_none.1 hf x hx; simpa using this)
  | some y => exact ⟨List.mem_of_find?_eq_some hf, by have := List.find?_some hf; simpa using this⟩
end Go.Proofs.YtacpjihbbmoolaaGreatDoor

namespace Go.Proofs.YtacpjihbbmoolaaGreatDoor
open Go Go.RowKit
set_option linter.unusedVariables false
set_option linter.unusedSimpArgs false
set_option maxRecDepth 100000
set_option maxHeartbeats 4000000
attribute [local irreducible] ResLe AVle ArgLe ArgP EntLe Dle ResH ArgQ

theorem range_getD {α : Type} [Inhabited α] (l : List α) : (List.range l.length).map (fun i => l.getD i default) = l := by
  apply List.ext_getElem?
  intro i
  by_cases h : i < l.length
  · simp [h]
  · simp [h]
theorem sortLt_perm (us : List Lt) : (sortLt us).Perm us := by
  have h := (sortAt_perm (n := us.length) (cfI_swo us)).map fun i => us.getD i default
  rw [List.map_map, range_getD] at h
  exact h
theorem sortLt_le (us : List Lt) : (sortLt us).Pairwise fun a b => a.id ≤ b.id := by
  unfold sortLt
  rw [List.pairwise_map]
  refine List.pairwise_iff_getElem.2 fun i j hi hj hij => ?_
  simp only [List.getElem_range, List.length_range] at hi hj ⊢
  have h : ¬ cmpI (us.getD (sortAt us.length (cfI us) j) default).id (us.getD (sortAt us.length (cfI us) i) default).id < 0 := sortAt_le (cfI_swo us) hij hj
  rw [cmpI_lt'] at h
  omega
theorem sort_unique {us vs : List Lt} (hp : us.Perm vs) (hs : vs.Pairwise fun a b => a.id < b.id) : sortLt us = vs := by
  have hle : vs.Pairwise fun a b => a.id ≤ b.id := hs.imp fun h => Int.le_of_lt h
  refine List.Perm.eq_of_pairwise (le := fun a b : Lt => a.id ≤ b.id) (fun a b ha hb h1 h2 => ?_) (sortLt_le us) hle ((sortLt_perm us).trans hp)
  have ha' : a ∈ vs := hp.mem_iff.1 ((sortLt_perm us).mem_iff.1 ha)
  obtain ⟨i, hi, rfl⟩ := List.getElem_of_mem ha'
  obtain ⟨j, hj, rfl⟩ := List.getElem_of_mem hb
  have hq := List.pairwise_iff_getElem.1 hs
  rcases Nat.lt_trichotomy i j with h|h|h
  · have := hq i j hi hj h; omega
  · subst h; rfl
  · have := hq j i hj hi h; omega

abbrev code0 : ByteArray := ⟨#[49, 48, 48, 48, 48, 48, 48, 48]⟩
abbrev s1 : List Lt := [newLt 1 code0 10]
abbrev s2 : List Lt := [⟨2, code0, 4, 1, [⟨1, 0, 4⟩]⟩, ⟨3, code0, 6, 1, [⟨1, 4, 10⟩]⟩]
theorem stk_nil : StkOk [] := ⟨by simp, by simp, by simp, by simp, fun i hi => by simp at hi, fun h => by
  rcases h with ⟨x, hx, _⟩|⟨i, hi, _⟩
  · simp at hx
  · simp [here] at hi⟩
end Go.Proofs.YtacpjihbbmoolaaGreatDoor

namespace Go.Proofs.YtacpjihbbmoolaaGreatDoor
open Go Go.RowKit
set_option linter.unusedVariables false
set_option linter.unusedSimpArgs false

theorem mem_units {x : Sl} {m u : Int} : (m, u) ∈ unitsOf x ↔ (m = x.m ∧ x.s ≤ u ∧ u < x.e) := by
  unfold unitsOf
  rw [List.mem_map]
  constructor
  · rintro ⟨i, hi, he⟩
    have := List.mem_range.1 hi
    simp only [Prod.mk.injEq] at he
    omega
  · rintro ⟨rfl, h1, h2⟩
    exact ⟨(u - x.s).toNat, List.mem_range.2 (by omega), by simp only [Prod.mk.injEq, true_and]; omega⟩
theorem nodup_units (x : Sl) : (unitsOf x).Nodup := by
  unfold unitsOf
  rw [List.nodup_iff_pairwise_ne, List.pairwise_map]
  refine List.Pairwise.imp ?_ List.nodup_range
  intro a b hab he
  simp only [Prod.mk.injEq, true_and] at he
  exact hab (by omega)
theorem mem_expand {us : List Sl} {m u : Int} : (m, u) ∈ expand us ↔ ∃ x ∈ us, m = x.m ∧ x.s ≤ u ∧ u < x.e := by
  unfold expand
  rw [List.mem_flatMap]
  exact ⟨fun ⟨x, hx, h⟩ => ⟨x, hx, mem_units.1 h⟩, fun ⟨x, hx, h⟩ => ⟨x, hx, mem_units.2 h⟩⟩
theorem meets_units {x y : Sl} (hx : x.s < x.e) (hy : y.s < y.e) : meets x y ↔ ∃ p, p ∈ unitsOf x ∧ p ∈ unitsOf y := by
  unfold meets
  constructor
  · rintro ⟨h1, h2, h3⟩
    rcases Int.le_total x.s y.s with h|h
    · exact ⟨(x.m, y.s), mem_units.2 (by omega), mem_units.2 (by omega)⟩
    · exact ⟨(x.m, x.s), mem_units.2 (by omega), mem_units.2 (by omega)⟩
  · rintro ⟨⟨m, u⟩, h1, h2⟩
    have := mem_units.1 h1
    have := mem_units.1 h2
    omega
theorem anyMeet_cons {x : Sl} {l : List Sl} : anyMeet (x :: l) ↔ (∃ y ∈ l, meets x y) ∨ anyMeet l := by
  constructor
  · rintro ⟨i, j, h1, h2, h3⟩
    cases i with
    | zero =>
      cases j with
      | zero => omega
      | succ j =>
        simp only [List.length_cons] at h2
        exact .inl ⟨_, getD_in (k := j) (by omega), by simpa using h3⟩
    | succ i =>
      cases j with
      | zero => omega
      | succ j => exact .inr ⟨i, j, by omega, by simpa using h2, by simpa using h3⟩
  · rintro (⟨y, hy, h⟩|⟨i, j, h1, h2, h3⟩)
    · obtain ⟨j, hj, rfl⟩ := List.getElem_of_mem hy
      exact ⟨0, j + 1, by omega, by simpa using hj, by simpa [hj] using h⟩
    · exact ⟨i + 1, j + 1, by omega, by simpa using h2, by simpa using h3⟩
theorem nodup_iff : ∀ {us : List Sl}, (∀ y ∈ us, y.s < y.e) → ((expand us).Nodup ↔ ¬ anyMeet us)
  | [], _ => by simp [expand, anyMeet]
  | x :: l, h => by
    have hx := h x (by simp)
    have hl : ∀ y ∈ l, y.s < y.e := fun y hy => h y (by simp [hy])
    rw [expand_cons, List.nodup_append, anyMeet_cons, nodup_iff hl]
    constructor
    · rintro ⟨_, h2, h3⟩ (⟨y, hy, hm⟩|hm)
      · obtain ⟨p, p1, p2⟩ := (meets_units hx (hl y hy)).1 hm
        exact h3 p p1 p (by unfold expand; exact List.mem_flatMap.2 ⟨y, hy, p2⟩) rfl
      · exact h2 hm
    · intro hn
      refine ⟨nodup_units x, fun hm => hn (.inr hm), fun a ha b hb hab => ?_⟩
      subst hab
      unfold expand at hb
      obtain ⟨y, hy, hy2⟩ := List.mem_flatMap.1 hb
      exact hn (.inl ⟨y, hy, (meets_units hx (hl y hy)).2 ⟨a, ha, hy2⟩⟩)
theorem slOk_lt {us : List Sl} (h : ∀ y ∈ us, slOk y) : ∀ y ∈ us, y.s < y.e := fun y hy => by have := h y hy; unfold slOk at this; omega
theorem lotErr_iff {us : List Sl} : lotErr us = 0 ↔ (us.length ≤ 64 ∧ (∀ y ∈ us, slOk y) ∧ (expand us).Nodup) := by
  constructor
  · intro h
    obtain ⟨h1, h2, h3⟩ := lotErr_ok h
    rw [ovl_iff us h2] at h3
    exact ⟨h1, h2, (nodup_iff (slOk_lt h2)).2 h3⟩
  · rintro ⟨h1, h2, h3⟩
    have h4 := (nodup_iff (slOk_lt h2)).1 h3
    unfold lotErr
    rw [if_neg (by omega), if_neg (by simpa using h2), if_neg (by rw [ovl_iff us h2]; exact h4)]
theorem cut_perm {us : List Sl} {ks : List Int} (h : fits us ks) : (expand (List.zipWith fstP us ks) ++ expand (List.zipWith sndP us ks)).Perm (expand us) := by
  induction us generalizing ks with
  | nil => cases ks with
    | nil => simp [expand]
    | cons => exact h.elim
  | cons x l ih =>
    cases ks with
    | nil => exact h.elim
    | cons k ks =>
      have hk := h.1
      unfold lenS at hk
      have e : unitsOf (fstP x k) ++ unitsOf (sndP x k) = unitsOf x := units_cat (m := x.m) (a := x.s) (b := x.s + k) (c := x.e) (by omega) (by omega)
      have ih := ih h.2
      simp only [List.zipWith_cons_cons, expand_cons]
      rw [← e, List.append_assoc, List.append_assoc]
      refine List.Perm.append_left _ ?_
      refine List.Perm.trans ?_ (List.Perm.append_left _ ih)
      rw [← List.append_assoc, ← List.append_assoc]
      exact List.Perm.append_right _ List.perm_append_comm
theorem cutAB_perm {us : List Sl} {ks : List Int} (h : fits us ks) (hu : ∀ y ∈ us, y.s ≤ y.e) : (expand (cutA us ks) ++ expand (cutB us ks)).Perm (expand us) := by
  obtain ⟨f1, f2⟩ := fits_mem h hu
  have e1 : expand (cutA us ks) = expand (List.zipWith fstP us ks) := expand_join f1
  have e2 : expand (cutB us ks) = expand (List.zipWith sndP us ks) := expand_join f2
  rw [e1, e2]
  exact cut_perm h
theorem div_perm {m : Int} {us : List Sl} {u : Int} (h : ∀ y ∈ us, slOk y) (hu : 0 ≤ u ∧ u ≤ cnt us) : (expand (divA m us u) ++ expand (divB m us u)).Perm (expand us) := by
  have hle := slOk_le h
  unfold divA divB
  by_cases hm : m = 2
  · rw [if_pos hm, if_pos hm]
    unfold frA frB
    exact List.perm_append_comm.trans (cutAB_perm (fits_shL hle (by omega)) hle)
  · rw [if_neg hm, if_neg hm]
    exact cutAB_perm (ksM_ok h hu).1 hle
theorem div_valid {m : Int} {us : List Sl} {u : Int} (h : ∀ y ∈ us, slOk y) (hl : us.length ≤ 64) (hd : (expand us).Nodup) (hu : 0 ≤ u ∧ u ≤ cnt us) : lotErr (divA m us u) = 0 ∧ lotErr (divB m us u) = 0 := by
  have hR := divR (m := m) h hu
  have hp := div_perm (m := m) h hu
  have hn := hp.nodup_iff.2 hd
  rw [List.nodup_append] at hn
  exact ⟨lotErr_iff.2 ⟨by have := hR.lA; omega, hR.oA, hn.1⟩, lotErr_iff.2 ⟨by have := hR.lB; omega, hR.oB, hn.2.1⟩⟩
theorem join_valid {us : List Sl} (h : lotErr us = 0) : lotErr (joinL us) = 0 := by
  obtain ⟨h1, h2, h3⟩ := lotErr_iff.1 h
  refine lotErr_iff.2 ⟨by have := joinL_len us; omega, joinL_ok h2, ?_⟩
  rw [expand_join (slOk_le h2)]
  exact h3
end Go.Proofs.YtacpjihbbmoolaaGreatDoor
