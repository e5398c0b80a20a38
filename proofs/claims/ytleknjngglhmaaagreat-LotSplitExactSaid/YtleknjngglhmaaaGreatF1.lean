/- What a made stock comes to when a lot is divided in two, and when the parts are united again. -/
import Derived.Test.YtleknjngglhmaaaGreatCZ
namespace Go.Proofs.YtleknjngglhmaaaGreat
open Go Go.RowKit
set_option linter.unusedVariables false
set_option linter.unusedSimpArgs false
set_option maxRecDepth 100000

abbrev twoP (f a q : Int) : List Pt := [⟨f, a⟩, ⟨f + 1, q - a⟩]
theorem est_free {ss : List Lt} {cs : List Ch} {f : Int} (h : EstOk ss cs f) {i : Int} (hi : f ≤ i) : ¬ takenP ss i := by
  rintro ⟨x, hx, hc⟩
  rcases hc with e | ⟨s, hs, e⟩
  · have := (h.id x hx).1; omega
  · have := (est_src h hx hs).1; omega
theorem spl_two {ss : List Lt} {cs : List Ch} {f : Int} (h : EstOk ss cs f) (hf : f ≤ 1000) (hl : ss.length ≤ 63) {y : Lt} (hy : y ∈ ss) (hr : rests y.p) {a m : Int} (ha : 1 ≤ a) (ha2 : a < y.q) (hm : mOk m) : splE ss y.id (twoP f a y.q) m = 0 := by
  have hO := h.stk
  have hf1 := h.f
  have hy' := find_self (asc_of hO.asc) hy
  have hq := (hO.ok y hy).2.2.1
  unfold qOk at hq
  have two : ∀ {P : Pt → Prop}, P ⟨f, a⟩ → P ⟨f + 1, y.q - a⟩ → ∀ p ∈ twoP f a y.q, P p := fun h1 h2 p hp => by
    simp only [twoP, List.mem_cons, List.not_mem_nil, or_false] at hp
    rcases hp with rfl | rfl
    · exact h1
    · exact h2
  have k1 : ∀ p ∈ twoP f a y.q, idOk p.id ∧ qOk p.q := two (by unfold idOk qOk; dsimp only; omega) (by unfold idOk qOk; dsimp only; omega)
  have k2 : ∀ p ∈ twoP f a y.q, ¬ takenP ss p.id := two (est_free h (by dsimp only; omega)) (est_free h (by dsimp only; omega))
  have hck : chkE ss y.q (twoP f a y.q) m = 0 := by
    unfold chkE
    rw [if_neg (by simp [hm]), if_neg (fun hn => hn k1), if_neg (not_twice.2 (by simp; omega)), if_neg (fun ⟨p, hp, ht⟩ => k2 p hp ht), if_neg (by simp [sumP]; omega)]
  unfold splE
  rw [hy', if_neg (by simpa using stkErr_zero hO), if_neg (fun hn => hn ⟨y, hy, rfl⟩), if_neg (fun hn => hn hr), if_neg (by simp [hck]), if_neg (by show ¬ 64 < ss.length - 1 + 2; omega)]
abbrev ptA (m : Int) (y : Lt) (f a : Int) : Lt := ⟨f, y.c, a, y.p, divA m y.us (cnt y.us * a / y.q)⟩
abbrev ptB (m : Int) (y : Lt) (f a : Int) : Lt := ⟨f + 1, y.c, y.q - a, y.p, divA m (divB m y.us (cnt y.us * a / y.q)) (cnt y.us - cnt y.us * a / y.q)⟩
theorem parts_two {m : Int} {y : Lt} {f a : Int} (hq : 1 ≤ y.q) : partsP m y (twoP f a y.q) 2 = [ptA m y f a, ptB m y f a] := by
  have e0 : bdP y (twoP f a y.q) 0 = 0 := by simp [bdP, sumP]
  have e1 : bdP y (twoP f a y.q) 1 = cnt y.us * a / y.q := by simp [bdP, sumP]
  have e2 : bdP y (twoP f a y.q) 2 = cnt y.us := by
    have : sumP (twoP f a y.q) 2 = y.q := by simp [sumP]; omega
    unfold bdP
    rw [this, Int.mul_ediv_cancel _ (by omega)]
  show [partP m y (twoP f a y.q) 0, partP m y (twoP f a y.q) 1] = _
  unfold partP
  rw [show (0 + 1) = 1 from rfl, show (1 + 1) = 2 from rfl, e0, e1, e2]
  show [(⟨f, y.c, a, y.p, divA m y.us (cnt y.us * a / y.q - 0)⟩ : Lt), ⟨f + 1, y.c, y.q - a, y.p, divA m (divB m y.us (bdP y (twoP f a y.q) 1 - bdP y (twoP f a y.q) 0)) (cnt y.us - cnt y.us * a / y.q)⟩] = _
  rw [e0, e1, Int.sub_zero]
def totQ (ss : List Lt) : Int := (ss.map Lt.q).sum
def totN (ss : List Lt) : Int := (ss.map fun x => cnt x.us).sum
theorem tot_perm {a b : List Lt} (h : a.Perm b) : totQ a = totQ b ∧ totN a = totN b := ⟨perm_sum (h.map _), perm_sum (h.map _)⟩
theorem tot_app (a b : List Lt) : totQ (a ++ b) = totQ a + totQ b ∧ totN (a ++ b) = totN a + totN b := by
  unfold totQ totN
  simp [List.map_append, List.sum_append]
structure TwoR (ss S : List Lt) (y A B : Lt) : Prop where
  stk : StkOk S
  inA : A ∈ S
  inB : B ∈ S
  old : ¬ hasI S y.id
  tq : totQ S = totQ ss
  tn : totN S = totN ss
  kA : 0 ≤ cnt A.us
  kB : cnt A.us + cnt B.us = cnt y.us
  sh : cnt A.us = cnt y.us * A.q / y.q
theorem two_r {ss : List Lt} {cs : List Ch} {f : Int} (h : EstOk ss cs f) (hf : f ≤ 1000) (hl : ss.length ≤ 63) {y : Lt} (hy : y ∈ ss) (hr : rests y.p) {a m : Int} (ha : 1 ≤ a) (ha2 : a < y.q) (hm : mOk m) :
    TwoR ss (splL ss y.id (twoP f a y.q) m) y (ptA m y f a) (ptB m y f a) ∧ EstOk (splL ss y.id (twoP f a y.q) m) cs (f + 2) := by
  have hO := h.stk
  have hz := spl_two h hf hl hy hr ha ha2 hm
  have hE := (est_step h (Step.spl y.id a (y.q - a) m hz)).1
  obtain ⟨s1, s2, s3⟩ := spl_stk hz
  obtain ⟨_, hh, _, hc, _, he⟩ := splE_inv hz
  have hy' := find_self (asc_of hO.asc) hy
  have hq := (hO.ok y hy).2.2.1
  unfold qOk at hq
  have hus := slOk_le (hO.ok y hy).2.2.2.2
  have hn0 := cnt_nonneg hus
  have hb : 0 ≤ cnt y.us * a / y.q ∧ cnt y.us * a / y.q ≤ cnt y.us := ⟨Int.ediv_nonneg (Int.mul_nonneg hn0 (by omega)) (by omega), Int.ediv_le_of_le_mul (by omega) (Int.mul_le_mul_of_nonneg_left (by omega) hn0)⟩
  have d1 := divR (m := m) (hO.ok y hy).2.2.2.2 hb
  have d2 := divR (m := m) (u := cnt y.us - cnt y.us * a / y.q) d1.oB (by rw [d1.cB]; omega)
  rw [hy'] at he
  have e2 : partsP m y (twoP f a y.q) (twoP f a y.q).length = [ptA m y f a, ptB m y f a] := parts_two hq.1
  rw [e2] at he
  have hp : (splL ss y.id (twoP f a y.q) m).Perm (keepI ss [y.id] ++ [ptA m y f a, ptB m y f a]) := by
    rw [he]; exact repl_perm _ _ _
  have hk : ss.Perm (keepI ss [y.id] ++ [y]) := by
    have := rem_perm (asc_of hO.asc) (ids := [y.id]) (fun i hi => by rw [List.mem_singleton.1 hi]; exact hh) (by simp)
    rw [List.map_cons, List.map_nil, hy'] at this
    exact this
  have hid := (h.id y hy).1
  obtain ⟨t1, t2⟩ := tot_perm hp
  obtain ⟨t3, t4⟩ := tot_perm hk
  rw [(tot_app _ _).1] at t1 t3
  rw [(tot_app _ _).2] at t2 t4
  have q1 : totQ [ptA m y f a, ptB m y f a] = a + (y.q - a) := by simp [totQ]
  have q2 : totN [ptA m y f a, ptB m y f a] = cnt y.us := by
    have : totN [ptA m y f a, ptB m y f a] = cnt (divA m y.us (cnt y.us * a / y.q)) + cnt (divA m (divB m y.us (cnt y.us * a / y.q)) (cnt y.us - cnt y.us * a / y.q)) := by simp [totN]
    rw [this, d1.cA, d2.cA]
    omega
  have q3 : totQ [y] = y.q := by simp [totQ]
  have q4 : totN [y] = cnt y.us := by simp [totN]
  refine ⟨⟨s1, hp.mem_iff.2 (by simp), hp.mem_iff.2 (by simp), ?_, by omega, by omega, by rw [d1.cA]; exact hb.1, by rw [d1.cA, d2.cA]; omega, d1.cA⟩, hE⟩
  rintro ⟨x, hx, e⟩
  rcases List.mem_append.1 (hp.mem_iff.1 hx) with hx | hx
  · have := (keep_mem hx).2
    rw [e] at this
    simp at this
  · simp only [List.mem_cons, List.not_mem_nil, or_false] at hx
    rcases hx with rfl | rfl
    · dsimp only at e; omega
    · dsimp only at e; omega

theorem front_again {us : List Sl} (h : ∀ y ∈ us, slOk y) (hc : cmpct us) {u : Int} (hu : 0 ≤ u ∧ u ≤ cnt us) : joinL (divA 1 us u ++ divA 1 (divB 1 us u) (cnt us - u)) = us := by
  have d1 := divR (m := 1) h hu
  have d2 := divR (m := 1) (u := cnt us - u) d1.oB (by rw [d1.cB]; omega)
  have e1 : expand (divA 1 us u) = (expand us).take u.toNat ∧ expand (divB 1 us u) = (expand us).drop u.toNat := cut_sh (slOk_le h) hu.1
  have e2 : expand (divA 1 (divB 1 us u) (cnt us - u)) = (expand (divB 1 us u)).take (cnt us - u).toNat := (cut_sh (slOk_le d1.oB) (by omega)).1
  have hle : ∀ y ∈ divA 1 us u ++ divA 1 (divB 1 us u) (cnt us - u), y.s ≤ y.e := fun y hy => by
    rcases List.mem_append.1 hy with hy | hy
    · exact slOk_le d1.oA y hy
    · exact slOk_le d2.oA y hy
  refine canon (cmpct_join hle) hc ?_
  rw [expand_join hle, expand_app, e2, e1.1, e1.2]
  have hn := cnt_expand (slOk_le h)
  rw [List.take_of_length_le (i := (cnt us - u).toNat) (by rw [List.length_drop]; omega), List.take_append_drop]
theorem mer_two {ss : List Lt} {cs : List Ch} {f : Int} (h : EstOk ss cs f) (hf : f ≤ 1000) (hl : ss.length ≤ 62) {y : Lt} (hy : y ∈ ss) (hr : rests y.p) {a : Int} (ha : 1 ≤ a) (ha2 : a < y.q) :
    merE (splL ss y.id (twoP f a y.q) 1) [f, f + 1] (f + 2) = 0 ∧ hasI (merL (splL ss y.id (twoP f a y.q) 1) [f, f + 1] (f + 2)) (f + 2) ∧ findV (merL (splL ss y.id (twoP f a y.q) 1) [f, f + 1] (f + 2)) (f + 2) = ⟨f + 2, y.c, y.q, y.p, y.us⟩ := by
  have hO := h.stk
  obtain ⟨hT, hE⟩ := two_r h hf (by omega) hy hr ha ha2 (m := 1) (.inl rfl)
  have hf1 := h.f
  have hq := (hO.ok y hy).2.2.1
  unfold qOk at hq
  generalize hS : splL ss y.id (twoP f a y.q) 1 = S at *
  have hA : findV S f = ptA 1 y f a := find_self (asc_of hT.stk.asc) hT.inA
  have hB : findV S (f + 1) = ptB 1 y f a := find_self (asc_of hT.stk.asc) hT.inB
  have hhA : hasI S f := ⟨_, hT.inA, rfl⟩
  have hhB : hasI S (f + 1) := ⟨_, hT.inB, rfl⟩
  have hus := (hO.ok y hy).2.2.2.2
  have hn0 := cnt_nonneg (slOk_le hus)
  have hb : 0 ≤ cnt y.us * a / y.q ∧ cnt y.us * a / y.q ≤ cnt y.us := ⟨Int.ediv_nonneg (Int.mul_nonneg hn0 (by omega)) (by omega), Int.ediv_le_of_le_mul (by omega) (Int.mul_le_mul_of_nonneg_left (by omega) hn0)⟩
  have hU : mgU S [f, f + 1] = divA 1 y.us (cnt y.us * a / y.q) ++ divA 1 (divB 1 y.us (cnt y.us * a / y.q)) (cnt y.us - cnt y.us * a / y.q) := by
    unfold mgU
    rw [List.map_cons, List.map_cons, List.map_nil, hA, hB]
    simp
  have hJ : joinL (mgU S [f, f + 1]) = y.us := by rw [hU]; exact front_again hus (stk_cmpct hO hy) hb
  have hQ : mgQ S [f, f + 1] = y.q := by
    unfold mgQ
    rw [List.map_cons, List.map_cons, List.map_nil, hA, hB]
    simp
    omega
  have h0 : mg0 S [f, f + 1] = ptA 1 y f a := by unfold mg0; exact hA
  have hV : mgV S [f, f + 1] (f + 2) = ⟨f + 2, y.c, y.q, y.p, y.us⟩ := by unfold mgV; rw [h0, hQ, hJ]
  have two : ∀ {P : Int → Prop}, P f → P (f + 1) → ∀ i ∈ [f, f + 1], P i := fun h1 h2 i hi => by
    simp only [List.mem_cons, List.not_mem_nil, or_false] at hi
    rcases hi with rfl | rfl
    · exact h1
    · exact h2
  have hz : merE S [f, f + 1] (f + 2) = 0 := by
    unfold merE
    rw [hJ, hQ, if_neg (by simpa using stkErr_zero hT.stk), if_neg (by unfold idOk; simp; omega), if_neg (fun hn => hn (two hhA hhB)), if_neg (fun hn => ?_), if_neg (fun hn => hn (two (by rw [hA]; exact hr) (by rw [hB]; exact hr))), if_neg (fun hn => hn (two (by rw [hA, h0]; exact ⟨strEq_self _, rfl⟩) (by rw [hB, h0]; exact ⟨strEq_self _, rfl⟩))), if_neg (by omega), if_neg (by have := hO.us y hy; omega)]
    rcases hn with hn | hn
    · exact not_twice.2 (by simp; omega) hn
    · exact est_free hE (by omega) hn
  obtain ⟨m1, m2, m3, m4⟩ := mer_stk hz
  have hin := (m4 (mgV S [f, f + 1] (f + 2))).2 (.inr rfl)
  refine ⟨hz, ⟨_, hin, rfl⟩, ?_⟩
  rw [← hV]
  exact find_self (asc_of m1.asc) hin

theorem totN_units {ss : List Lt} (h : StkOk ss) (h13 : ∀ x ∈ ss, x.p ≠ 13) : totN ss = (unitsL ss).length := by
  rw [unitsL_all h13]
  have key : ∀ l : List Lt, (∀ x ∈ l, x ∈ ss) → totN l = (l.flatMap fun x => expand x.us).length := by
    intro l
    induction l with
    | nil => intro _; rfl
    | cons x l ih =>
      intro hl
      have h1 := ih fun z hz => hl z (by simp [hz])
      have h2 := cnt_expand (slOk_le (h.ok x (hl x (by simp))).2.2.2.2)
      have h3 : totN (x :: l) = cnt x.us + totN l := by simp [totN]
      rw [h3, List.flatMap_cons, List.length_append, h1, h2]
      push_cast
      rfl
  exact key ss fun x hx => hx
theorem chU_len {cs : List Ch} : (∀ c ∈ cs, 1 ≤ c.u ∧ c.u ≤ 1000000) → ((chU cs).length : Int) ≤ 1000000 * cs.length := by
  induction cs with
  | nil => intro _; simp [chU]
  | cons c l ih =>
    intro h
    have h1 := ih fun z hz => h z (by simp [hz])
    have h2 := h c (by simp)
    unfold chU at h1 ⊢
    rw [List.flatMap_cons, List.length_append, units_len, List.length_cons]
    push_cast
    show ((c.u - 0).toNat : Int) + _ ≤ _
    omega
theorem est_cnt {ss : List Lt} {cs : List Ch} {f : Int} (h : EstOk ss cs f) : totN ss ≤ 1000000 * cs.length := by
  rw [totN_units h.stk fun x hx => (h.id x hx).2, h.cov.length_eq]
  exact chU_len fun c hc => by have := h.chr c hc; omega
theorem tot_rng {ss : List Lt} (h : StkOk ss) : ∀ k, k ≤ ss.length → (0 ≤ totQ (ss.take k) ∧ totQ (ss.take k) ≤ 1000000000 * k) ∧ 0 ≤ totN (ss.take k) ∧ totN (ss.take k) ≤ 64000000000 * k := by
  intro k
  induction k with
  | zero => intro _; simp [totQ, totN]
  | succ k ih =>
    intro hk
    have h1 := ih (by omega)
    have hx := h.ok _ (getD_in (k := k) (by omega))
    have hu := h.us _ (getD_in (k := k) (by omega))
    have hc := cnt_nonneg (slOk_le hx.2.2.2.2)
    have hc2 := cnt_le hx.2.2.2.2
    have hq := hx.2.2.1
    unfold qOk at hq
    rw [take_snoc ss k (by omega), (tot_app _ _).1, (tot_app _ _).2]
    have e1 : totQ [ss.getD k default] = (ss.getD k default).q := by simp [totQ]
    have e2 : totN [ss.getD k default] = cnt (ss.getD k default).us := by simp [totN]
    rw [e1, e2]
    push_cast
    omega
theorem cnt_in {ss : List Lt} (h : StkOk ss) {y : Lt} (hy : y ∈ ss) : cnt y.us ≤ totN ss := by
  obtain ⟨a, b, e⟩ := List.append_of_mem hy
  have h1 := (tot_app a (y :: b)).2
  have h2 := (tot_app [y] b).2
  have pos : ∀ l : List Lt, (∀ x ∈ l, x ∈ ss) → 0 ≤ totN l := by
    intro l
    induction l with
    | nil => intro _; simp [totN]
    | cons x l ih =>
      intro hl
      have h1 := ih fun z hz => hl z (by simp [hz])
      have h2 := cnt_nonneg (slOk_le (h.ok x (hl x (by simp))).2.2.2.2)
      have h3 : totN (x :: l) = cnt x.us + totN l := by simp [totN]
      omega
  have p1 := pos a fun x hx => by rw [e]; simp [hx]
  have p2 := pos b fun x hx => by rw [e]; simp [hx]
  have h3 : totN [y] = cnt y.us := by simp [totN]
  have h4 : totN ss = totN a + totN (y :: b) := by rw [e]; exact h1
  have h5 : totN (y :: b) = totN [y] + totN b := h2
  omega
end Go.Proofs.YtleknjngglhmaaaGreat
