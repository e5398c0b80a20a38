/- yield.Process, plain law: what it answers is what the document's answer is. -/
import Derived.Test.YtacpjihbbmoolaaGreatDoorP7

namespace Go.Proofs.YtacpjihbbmoolaaGreatDoor
open Go Go.RowKit
set_option linter.unusedVariables false
set_option linter.unusedSimpArgs false

theorem nd_le {α : Type} [DecidableEq α] : ∀ {C K : List α}, C.Nodup → (∀ c ∈ C, c ∈ K) → C.length ≤ K.length
  | [], K, _, _ => Nat.zero_le _
  | c :: C, K, h, hs => by
    have h1 := List.nodup_cons.1 h
    have h2 := nd_le (C := C) (K := K.erase c) h1.2 (fun x hx => (List.mem_erase_of_ne (fun e : x = c => h1.1 (e ▸ hx))).2 (hs x (List.mem_cons_of_mem _ hx)))
    have h3 := hs c List.mem_cons_self
    rw [List.length_erase_of_mem h3] at h2
    have h4 := List.length_pos_of_mem h3
    simp only [List.length_cons]
    omega
theorem nd_sub {α : Type} [DecidableEq α] {C K : List α} (h : C.Nodup) (hs : ∀ c ∈ C, c ∈ K) (hl : K.length ≤ C.length) : ∀ k ∈ K, k ∈ C := fun k hk => by
  by_cases hc : k ∈ C
  · exact hc
  · have := nd_le (C := k :: C) (K := K) (List.nodup_cons.2 ⟨hc, h⟩) (fun c hc => by
      rcases List.mem_cons.1 hc with rfl|h
      · exact hk
      · exact hs c h)
    simp only [List.length_cons] at this
    omega
theorem prev_ind {α : Type} {P : List α → Prop} (h0 : P []) (h1 : ∀ l x, P l → P (l ++ [x])) (l : List α) : P l := by
  have : ∀ n, ∀ l : List α, l.length = n → P l := by
    intro n
    induction n with
    | zero => intro l hl; rw [List.eq_nil_of_length_eq_zero hl]; exact h0
    | succ n ih =>
      intro l hl
      rcases List.eq_nil_or_concat l with rfl|⟨l', x, rfl⟩
      · exact h0
      · rw [List.concat_eq_append]
        exact h1 l' x (ih l' (by simpa using hl))
  exact this _ l rfl
theorem putM_keys (L : ML) (c : ByteArray) (v : Int) (x : ByteArray) : x ∈ (putM L c v).map Prod.fst ↔ x = c ∨ x ∈ L.map Prod.fst := by
  unfold putM
  simp only [List.map_cons, List.mem_cons, List.mem_map, List.mem_filter, Bool.not_eq_true', decide_eq_false_iff_not]
  constructor
  · rintro (h|⟨p, ⟨h1, h2⟩, h3⟩)
    · exact .inl h
    · exact .inr ⟨p, h1, h3⟩
  · rintro (h|⟨p, h1, h3⟩)
    · exact .inl h
    · by_cases h : x = c
      · exact .inl h
      · exact .inr ⟨p, ⟨h1, fun e => h (h3 ▸ e)⟩, h3⟩
theorem putM_ndk {L : ML} (h : (L.map Prod.fst).Nodup) (c : ByteArray) (v : Int) : ((putM L c v).map Prod.fst).Nodup := by
  unfold putM
  rw [List.map_cons]
  refine List.nodup_cons.2 ⟨fun hc => ?_, (List.Sublist.map Prod.fst List.filter_sublist).nodup h⟩
  obtain ⟨p, hp, h2⟩ := List.mem_map.1 hc
  have := (List.mem_filter.1 hp).2
  simp only [Bool.not_eq_true', decide_eq_false_iff_not] at this
  exact this h2
theorem haM_keys (xs : List Lt) : ((haM xs).map Prod.fst).Nodup ∧ ∀ c, c ∈ (haM xs).map Prod.fst ↔ ∃ x ∈ xs, x.c = c := by
  refine prev_ind (P := fun xs : List Lt => ((haM xs).map Prod.fst).Nodup ∧ ∀ c, c ∈ (haM xs).map Prod.fst ↔ ∃ x ∈ xs, x.c = c) ⟨by simp [haM], fun c => by simp [haM]⟩ (fun xs x ih => ?_) xs
  rw [haM_snoc]
  refine ⟨putM_ndk ih.1 _ _, fun c => ?_⟩
  rw [putM_keys, ih.2]
  constructor
  · rintro (rfl|⟨y, hy, h⟩)
    · exact ⟨x, by simp, rfl⟩
    · exact ⟨y, by simp [hy], h⟩
  · rintro ⟨y, hy, h⟩
    rcases List.mem_append.1 hy with hy|hy
    · exact .inr ⟨y, hy, h⟩
    · rw [List.mem_singleton.1 hy] at h
      exact .inl h.symm
theorem qtyN_app (us : List Nd) (x : Nd) (c : ByteArray) : qtyN (us ++ [x]) c = qtyN us c + if x.c = c then x.q else 0 := by
  unfold qtyN
  rw [List.filter_append, List.map_append, List.sum_append]
  congr 1
  by_cases h : x.c = c
  · have e : strEq x.c c = true := (strEq_iff _ _).2 h
    rw [if_pos h]
    simp [List.filter, e]
  · have e : strEq x.c c = false := by
      cases e : strEq x.c c
      · rfl
      · exact absurd ((strEq_iff _ _).1 e) h
    rw [if_neg h]
    simp [List.filter, e]
theorem ifnn {p : Prop} {d : Decidable (¬ p)} {α : Type} {a b : α} (h : p) : (if ¬ p then a else b) = b := if_neg fun k => k h
theorem haM_get (xs : List Lt) (c : ByteArray) : getM (haM xs) c = qtyN (xs.map ndOf) c := by
  refine prev_ind (P := fun xs : List Lt => ∀ c, getM (haM xs) c = qtyN (xs.map ndOf) c) (fun c => by simp [haM, getM, qtyN]) (fun xs x ih c => ?_) xs c
  rw [haM_snoc, getM_put, List.map_append, List.map_singleton, qtyN_app, ih, ih]
  show _ = _ + if x.c = c then x.q else 0
  by_cases h : x.c = c
  · rw [if_pos h, if_pos h, h]
  · rw [if_neg h, if_neg h]; omega
theorem qtyN_none {ns : List Nd} {c : ByteArray} (h : ∀ x ∈ ns, x.c ≠ c) : qtyN ns c = 0 := by
  unfold qtyN
  rw [List.filter_eq_nil_iff.2 fun x hx e => h x hx ((strEq_iff _ _).1 e)]
  rfl
theorem qtyN_some {ns : List Nd} (hq : ∀ x ∈ ns, 1 ≤ x.q) {c : ByteArray} (h : ∃ x ∈ ns, x.c = c) : 1 ≤ qtyN ns c := by
  refine prev_ind (P := fun ns : List Nd => (∀ x ∈ ns, 1 ≤ x.q) → 0 ≤ qtyN ns c ∧ ((∃ x ∈ ns, x.c = c) → 1 ≤ qtyN ns c)) (fun _ => by simp [qtyN]) (fun ns x ih hq => ?_) ns hq |>.2 h
  have h1 := ih fun y hy => hq y (by simp [hy])
  have h2 := hq x (by simp)
  rw [qtyN_app]
  refine ⟨by split <;> omega, fun ⟨y, hy, hc⟩ => ?_⟩
  rcases List.mem_append.1 hy with hy|hy
  · have := h1.2 ⟨y, hy, hc⟩
    split <;> omega
  · rw [List.mem_singleton.1 hy] at hc
    rw [if_pos hc]
    omega
theorem nds_iff (ns : List Nd) : needsP ns ↔ ndsOk ns := by
  unfold needsP ndsOk
  constructor
  · rintro ⟨⟨h1, h2⟩, h3, h4⟩
    refine ⟨fun i hi => ?_, h1, h2⟩
    have h5 := h3 _ (getD_in hi)
    refine ⟨h5.1, h5.2.1, h5.2.2, fun h0 => ?_⟩
    have h6 := h4 (i - 1) (by omega)
    unfold leS at h6
    rw [show i - 1 + 1 = i by omega] at h6
    simpa using h6
  · rintro ⟨h1, h2, h3⟩
    refine ⟨⟨h2, h3⟩, all_getD.2 fun i hi => ⟨(h1 i hi).1, (h1 i hi).2.1, (h1 i hi).2.2.1⟩, fun i hi => ?_⟩
    have h4 := (h1 (i + 1) hi).2.2.2 (by omega)
    unfold leS
    simpa using h4
theorem rc_iff (r : Rc) : rcOk r ↔ yrOk r := by
  unfold rcOk yrOk
  rw [nds_iff, nds_iff]
  have : scOk r.sc ↔ shOk r.sc := all_getD
  rw [this]
  rfl
theorem asc_nd {ns : List Nd} (h : ndsOk ns) : (ns.map Nd.c).Nodup := by
  rw [List.nodup_iff_pairwise_ne, List.pairwise_iff_getElem]
  intro i j hi hj hij he
  rw [List.length_map] at hi hj
  rw [List.getElem_map, List.getElem_map] at he
  have := asc_ne h.1 hi hj (by simpa [hi, hj] using he)
  omega
theorem alU_mg (ss : List Lt) (ins : List Int) : alU (ltsY ss ins) = mgU ss ins := by
  unfold alU ltsY mgU
  rw [List.flatMap_def, List.map_map]
  rfl
theorem dlY_at (ss : List Lt) (r : Rc) (b : Int) (ins outs : List Int) {k : Nat} (hk : k < r.sc.length) : (dlY ss r ins).getD k [] = (prPart ss r b ins outs k).us := by
  unfold dlY dealL
  rw [alU_mg, List.getD_eq_getElem?_getD, List.getElem?_map, List.getElem?_range hk]
  rfl
theorem lts0 (ss : List Lt) {ins : List Int} (h : 1 ≤ ins.length) : (ltsY ss ins).getD 0 default = findV ss (ins.getD 0 default) := by
  unfold ltsY
  cases ins with
  | nil => simp at h
  | cons a l => rfl
theorem ptY_eq (ss : List Lt) (r : Rc) (b : Int) (ins outs : List Int) (h : 1 ≤ ins.length) {k : Nat} (hk : k < r.sc.length) (hk2 : k < r.outs.length) : ptY ss r b ins outs k = prPart ss r b ins outs k := by
  unfold ptY
  rw [dlY_at ss r b ins outs hk, lts0 ss h, tmL_at _ _ hk2]
  unfold prPart prP tmN
  simp only [Lt.mk.injEq, true_and, and_true]
  rw [Int.mul_comm]
theorem tkn_iff (ss : List Lt) (outs : List Int) : tknL ss outs ↔ ∃ o ∈ outs, takenP ss o := by
  unfold tknL takenP
  constructor
  · rintro ⟨x, hx, h|⟨s, hs, h⟩⟩
    · exact ⟨_, h, x, hx, .inl rfl⟩
    · exact ⟨_, h, x, hx, .inr ⟨s, hs, rfl⟩⟩
  · rintro ⟨o, ho, x, hx, h|⟨s, hs, h⟩⟩
    · exact ⟨x, hx, .inl (h ▸ ho)⟩
    · exact ⟨x, hx, .inr ⟨s, hs, h ▸ ho⟩⟩
theorem cl_iff (xs : List Lt) (ns : List Nd) (b : Int) (hb : 1 ≤ b) (hn : ndsOk ns) :
    ((haM xs).length = (tmL ns b).length ∧ ∀ x ∈ tmL ns b, getM (haM xs) x.c = x.q) ↔ ((∀ x ∈ xs, qtyN ns x.c ≠ 0) ∧ ∀ x ∈ ns, qtyN (xs.map ndOf) x.c = b * x.q) := by
  have hq : ∀ x ∈ ns, 1 ≤ x.q := fun x hx => (asc_q hn.1 x hx).1
  have hg : (∀ x ∈ tmL ns b, getM (haM xs) x.c = x.q) ↔ ∀ x ∈ ns, qtyN (xs.map ndOf) x.c = b * x.q := by
    unfold tmL
    rw [List.forall_mem_map]
    refine forall_congr' fun x => forall_congr' fun _ => ?_
    rw [haM_get]
    show qtyN _ x.c = x.q * b ↔ _
    rw [Int.mul_comm]
  rw [hg]
  refine and_congr_left fun h3 => ?_
  obtain ⟨k1, k2⟩ := haM_keys xs
  have c1 := asc_nd hn
  have hl : (tmL ns b).length = (ns.map Nd.c).length := by rw [tmL_len, List.length_map]
  have hs : ∀ c ∈ ns.map Nd.c, c ∈ (haM xs).map Prod.fst := fun c hc => by
    obtain ⟨x, hx, rfl⟩ := List.mem_map.1 hc
    refine (k2 _).2 ?_
    by_cases he : ∃ y ∈ xs, y.c = x.c
    · exact he
    · have h4 := h3 x hx
      rw [qtyN_none (fun y hy e => by
        obtain ⟨z, hz, rfl⟩ := List.mem_map.1 hy
        exact he ⟨z, hz, e⟩)] at h4
      have h5 := Int.mul_pos (show 0 < b by omega) (show 0 < x.q by have := hq x hx; omega)
      omega
  have hk : (haM xs).length = ((haM xs).map Prod.fst).length := List.length_map (f := Prod.fst) |>.symm
  rw [hl, hk]
  constructor
  · intro he x hx h0
    have h6 := nd_sub c1 hs (Nat.le_of_eq he) x.c ((k2 _).2 ⟨x, hx, rfl⟩)
    obtain ⟨y, hy, h7⟩ := List.mem_map.1 h6
    have := qtyN_some hq ⟨y, hy, h7⟩
    omega
  · intro hz
    refine Nat.le_antisymm (nd_le k1 fun c hc => ?_) (nd_le c1 hs)
    obtain ⟨x, hx, rfl⟩ := (k2 _).1 hc
    by_cases he : ∃ y ∈ ns, y.c = x.c
    · exact List.mem_map.2 he
    · exact absurd (qtyN_none fun y hy e => he ⟨y, hy, e⟩) (hz x hx)
theorem yE_pro (ss : List Lt) (r : Rc) (b : Int) (ins outs : List Int) : yE ss r b ins outs = proE ss r b ins outs := by
  unfold yE proE
  by_cases e1 : stkErr ss ≠ 0
  · rw [if_pos e1, if_pos e1]
  rw [if_neg e1, if_neg e1]
  by_cases e2 : yrOk r
  rotate_left
  · rw [if_pos e2, if_pos (fun h => e2 ((rc_iff r).1 h))]
  rw [ifnn e2, ifnn ((rc_iff r).2 e2)]
  by_cases e3 : 1 ≤ b ∧ b ≤ 1000
  rotate_left
  · rw [if_pos e3, if_pos (by omega)]
  rw [ifnn e3, tmL_len]
  by_cases e4 : ins.length < 1 ∨ 16 < ins.length ∨ outs.length ≠ r.outs.length
  · rw [show ynE r.outs.length ins outs = 2 by unfold ynE; rw [if_pos e4], if_pos (by decide), if_pos (by omega)]
  rw [if_neg (show ¬ (b < 1 ∨ 1000 < b ∨ ins.length < 1 ∨ 16 < ins.length ∨ outs.length ≠ r.outs.length) by omega)]
  by_cases e5 : ∀ o ∈ outs, idOk o
  rotate_left
  · rw [show ynE r.outs.length ins outs = 2 by unfold ynE; rw [if_neg e4, if_pos e5], if_pos (by decide), if_pos e5]
  rw [show ynE r.outs.length ins outs = 0 by unfold ynE; rw [if_neg e4, ifnn e5], if_neg (by decide), ifnn e5]
  by_cases e6 : ∀ i ∈ ins, hasI ss i
  rotate_left
  · rw [if_pos e6, if_pos e6]
  rw [ifnn e6, ifnn e6]
  by_cases e7 : twiceP ins
  · rw [if_pos (show twiceP ins ∨ twiceP outs ∨ tknL ss outs from .inl e7), if_pos e7]
  rw [if_neg e7]
  by_cases e8 : twiceP outs ∨ ∃ o ∈ outs, takenP ss o
  · rw [if_pos (show twiceP ins ∨ twiceP outs ∨ tknL ss outs from .inr (e8.imp_right (tkn_iff ss outs).2)), if_pos e8]
  rw [if_neg (show ¬ (twiceP ins ∨ twiceP outs ∨ tknL ss outs) from fun h => h.elim e7 fun h => e8 (h.imp_right (tkn_iff ss outs).1)), if_neg e8]
  have m1 : (∀ x ∈ ltsY ss ins, mvP x.p) ↔ ∀ i ∈ ins, mvP (findV ss i).p := List.forall_mem_map
  by_cases e9 : ∀ i ∈ ins, mvP (findV ss i).p
  rotate_left
  · rw [show clE (ltsY ss ins) (tmL r.ins b) = 17 by unfold clE; rw [if_pos (fun h => e9 (m1.1 h))], if_pos (by decide), if_pos e9]
  rw [ifnn e9]
  have hc : clE (ltsY ss ins) (tmL r.ins b) = open Classical in if ¬ ∀ x ∈ ltsY ss ins, x.p = ((ltsY ss ins).getD 0 default).p then 14 else if (haM (ltsY ss ins)).length ≠ (tmL r.ins b).length then 14 else if ¬ ∀ x ∈ tmL r.ins b, getM (haM (ltsY ss ins)) x.c = x.q then 14 else 0 := by
    unfold clE
    rw [ifnn (m1.2 e9)]
  have m2 : (∀ x ∈ ltsY ss ins, x.p = ((ltsY ss ins).getD 0 default).p) ↔ ∀ i ∈ ins, (findV ss i).p = prP ss ins := by
    rw [lts0 ss (by omega)]
    exact List.forall_mem_map
  have m3 := cl_iff (ltsY ss ins) r.ins b e3.1 e2.2.1
  have m4 : (∀ x ∈ ltsY ss ins, qtyN r.ins x.c ≠ 0) ↔ ∀ i ∈ ins, qtyN r.ins (findV ss i).c ≠ 0 := List.forall_mem_map
  have m5 : (ltsY ss ins).map ndOf = prH ss ins := by unfold ltsY prH; rw [List.map_map]; rfl
  rw [m4, m5] at m3
  by_cases e10 : ∀ i ∈ ins, (findV ss i).p = prP ss ins
  rotate_left
  · rw [hc, if_pos (fun h => e10 (m2.1 h)), if_pos (by decide), if_pos (fun h => e10 fun i hi => (h i hi).1)]
  rw [ifnn (m2.2 e10)] at hc
  by_cases e11 : (∀ i ∈ ins, qtyN r.ins (findV ss i).c ≠ 0) ∧ ∀ x ∈ r.ins, qtyN (prH ss ins) x.c = b * x.q
  rotate_left
  · have h14 : clE (ltsY ss ins) (tmL r.ins b) = 14 := by
      rw [hc]
      by_cases h1 : (haM (ltsY ss ins)).length ≠ (tmL r.ins b).length
      · rw [if_pos h1]
      · rw [if_neg h1, if_pos (fun h2 => e11 (m3.1 ⟨by simpa using h1, h2⟩))]
    rw [h14, if_pos (by decide)]
    by_cases h1 : ∀ i ∈ ins, qtyN r.ins (findV ss i).c ≠ 0
    · rw [ifnn (show ∀ i ∈ ins, (findV ss i).p = prP ss ins ∧ qtyN r.ins (findV ss i).c ≠ 0 from fun i hi => ⟨e10 i hi, h1 i hi⟩), if_pos (fun h => e11 ⟨h1, h⟩)]
    · rw [if_pos (fun h => h1 fun i hi => (h i hi).2)]
  have h12 := m3.2 e11
  rw [if_neg (by rw [h12.1]; simp), ifnn (h12.2)] at hc
  rw [hc, if_neg (by decide), ifnn (show ∀ i ∈ ins, (findV ss i).p = prP ss ins ∧ qtyN r.ins (findV ss i).c ≠ 0 from fun i hi => ⟨e10 i hi, e11.1 i hi⟩), ifnn (e11.2)]
  have m6 : (∀ x ∈ tmL r.outs b, x.q ≤ 1000000000) ↔ ∀ x ∈ r.outs, b * x.q ≤ 1000000000 := by
    unfold tmL
    rw [List.forall_mem_map]
    refine forall_congr' fun x => forall_congr' fun _ => ?_
    show x.q * b ≤ _ ↔ _
    rw [Int.mul_comm]
  by_cases e13 : ∀ x ∈ r.outs, b * x.q ≤ 1000000000
  rotate_left
  · rw [if_pos (fun h => e13 (m6.1 h)), if_pos e13]
  rw [ifnn (m6.2 e13), ifnn e13]
  by_cases e14 : 64 < (ss.length : Int) - ins.length + outs.length
  · rw [if_pos e14, if_pos e14]
  rw [if_neg e14, if_neg e14]
  have m7 : (∀ k, k < outs.length → ((dlY ss r ins).getD k []).length ≤ 64) ↔ ∀ k, k < outs.length → (prPart ss r b ins outs k).us.length ≤ 64 := by
    refine forall_congr' fun k => forall_congr' fun hk => ?_
    rw [dlY_at ss r b ins outs (by have := e2.2.2.2.1; omega)]
  by_cases e15 : ∀ k, k < outs.length → (prPart ss r b ins outs k).us.length ≤ 64
  · rw [ifnn (m7.2 e15), ifnn e15]
  · rw [if_pos (fun h => e15 (m7.1 h)), if_pos e15]
theorem yL_pro (ss : List Lt) (r : Rc) (b : Int) (ins outs : List Int) : yL ss r b ins outs = proL ss r b ins outs := by
  unfold yL proL
  rw [yE_pro]
  by_cases h : proE ss r b ins outs = 0
  rotate_left
  · rw [if_neg h, if_neg h]
  rw [if_pos h, if_pos h]
  unfold proE at h
  have z1 : ∀ {p : Prop} [Decidable p] {a x : Int}, (if p then a else x) = 0 → a ≠ 0 → ¬ p ∧ x = 0 := fun {p _ a x} h ha => by
    by_cases hp : p
    · rw [if_pos hp] at h; exact absurd h ha
    · rw [if_neg hp] at h; exact ⟨hp, h⟩
  have h1 : ¬ stkErr ss ≠ 0 := fun e => by rw [if_pos e] at h; exact e h
  rw [if_neg h1] at h
  obtain ⟨h2, h⟩ := z1 h (by decide)
  obtain ⟨h3, h⟩ := z1 h (by decide)
  have h2 : rcOk r := by
    by_cases h4 : rcOk r
    · exact h4
    · exact absurd h4 h2
  have h4 := ((rc_iff r).1 h2).2.2.2.1
  have hp : ptsY ss r b ins outs outs.length = prParts ss r b ins outs outs.length := by
    unfold ptsY prParts
    refine List.map_congr_left fun k hk => ?_
    have := List.mem_range.1 hk
    exact ptY_eq ss r b ins outs (by omega) (by omega) (by omega)
  rw [hp]
  rfl
end Go.Proofs.YtacpjihbbmoolaaGreatDoor
