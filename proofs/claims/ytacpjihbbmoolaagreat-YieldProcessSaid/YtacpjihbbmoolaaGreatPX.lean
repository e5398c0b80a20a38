/- yield.Process, plain law: what it answers is what the document's answer is. Yields: the law's package is awake; each function at the one recipe of the law, its loops as far as they go. The law of processing: yield.Process answers what the document says. -/
import Derived.Test.YtacpjihbbmoolaaGreatP7
import Derived.Test.YtacpjihbbmoolaaGreatY4
import Derived.Test.YtacpjihbbmoolaaGreatVt
import Derived.Test.YtacpjihbbmoolaaGreatShelf
import Derived.Test.YtacpjihbbmoolaaGreatLays
import Derived.Test.YtacpjihbbmoolaaGreatCZ

namespace Go.Proofs.YtacpjihbbmoolaaGreat
open Go Go.RowKit
set_option linter.unusedVariables false
set_option linter.unusedSimpArgs false

theorem nd_le {α : Type} [DecidableEq α] : ∀ {C K : List α}, C.Nodup → (∀ c ∈ C, c ∈ K) → C.length ≤ K.length
  | [], K, _, _ => Nat.zero_le _
  | c :: C, K, h, hs => by
    have h1 := List.nodup_cons.1 h
    have h2 := nd_le (C := C) (K := K.erase c) h1.2 (fun x hx => (List.mem_erase_of_ne (fun e : x = c => h1.1 (e ▸ hx))).2 (hs x (List.mem_cons_of_mem _ hx)))
    have h3 := hs c List.mem_cons_self
    rw [List.length_erase_of_mem h3] at h2
    have h4 := List.length_pos_of_mem h3
    simp only [List.length_cons]
    omega
theorem nd_sub {α : Type} [DecidableEq α] {C K : List α} (h : C.Nodup) (hs : ∀ c ∈ C, c ∈ K) (hl : K.length ≤ C.length) : ∀ k ∈ K, k ∈ C := fun k hk => by
  by_cases hc : k ∈ C
  · exact hc
  · have := nd_le (C := k :: C) (K := K) (List.nodup_cons.2 ⟨hc, h⟩) (fun c hc => by
      rcases List.mem_cons.1 hc with rfl | h
      · exact hk
      · exact hs c h)
    simp only [List.length_cons] at this
    omega
theorem prev_ind {α : Type} {P : List α → Prop} (h0 : P []) (h1 : ∀ l x, P l → P (l ++ [x])) (l : List α) : P l := by
  have : ∀ n, ∀ l : List α, l.length = n → P l := by
    intro n
    induction n with
    | zero => intro l hl; rw [List.eq_nil_of_length_eq_zero hl]; exact h0
    | succ n ih =>
      intro l hl
      rcases List.eq_nil_or_concat l with rfl | ⟨l', x, rfl⟩
      · exact h0
      · rw [List.concat_eq_append]
        exact h1 l' x (ih l' (by simpa using hl))
  exact this _ l rfl
theorem putM_keys (L : ML) (c : ByteArray) (v : Int) (x : ByteArray) : x ∈ (putM L c v).map Prod.fst ↔ x = c ∨ x ∈ L.map Prod.fst := by
  unfold putM
  simp only [List.map_cons, List.mem_cons, List.mem_map, List.mem_filter, Bool.not_eq_true', decide_eq_false_iff_not]
  constructor
  · rintro (h | ⟨p, ⟨h1, h2⟩, h3⟩)
    · exact .inl h
    · exact .inr ⟨p, h1, h3⟩
  · rintro (h | ⟨p, h1, h3⟩)
    · exact .inl h
    · by_cases h : x = c
      · exact .inl h
      · exact .inr ⟨p, ⟨h1, fun e => h (h3 ▸ e)⟩, h3⟩
theorem putM_ndk {L : ML} (h : (L.map Prod.fst).Nodup) (c : ByteArray) (v : Int) : ((putM L c v).map Prod.fst).Nodup := by
  unfold putM
  rw [List.map_cons]
  refine List.nodup_cons.2 ⟨fun hc => ?_, (List.Sublist.map Prod.fst List.filter_sublist).nodup h⟩
  obtain ⟨p, hp, h2⟩ := List.mem_map.1 hc
  have := (List.mem_filter.1 hp).2
  simp only [Bool.not_eq_true', decide_eq_false_iff_not] at this
  exact this h2
theorem haM_keys (xs : List Lt) : ((haM xs).map Prod.fst).Nodup ∧ ∀ c, c ∈ (haM xs).map Prod.fst ↔ ∃ x ∈ xs, x.c = c := by
  refine prev_ind (P := fun xs : List Lt => ((haM xs).map Prod.fst).Nodup ∧ ∀ c, c ∈ (haM xs).map Prod.fst ↔ ∃ x ∈ xs, x.c = c) ⟨by simp [haM], fun c => by simp [haM]⟩ (fun xs x ih => ?_) xs
  rw [haM_snoc]
  refine ⟨putM_ndk ih.1 _ _, fun c => ?_⟩
  rw [putM_keys, ih.2]
  constructor
  · rintro (rfl | ⟨y, hy, h⟩)
    · exact ⟨x, by simp, rfl⟩
    · exact ⟨y, by simp [hy], h⟩
  · rintro ⟨y, hy, h⟩
    rcases List.mem_append.1 hy with hy | hy
    · exact .inr ⟨y, hy, h⟩
    · rw [List.mem_singleton.1 hy] at h
      exact .inl h.symm
theorem qtyN_app (us : List Nd) (x : Nd) (c : ByteArray) : qtyN (us ++ [x]) c = qtyN us c + if x.c = c then x.q else 0 := by
  unfold qtyN
  rw [List.filter_append, List.map_append, List.sum_append]
  congr 1
  by_cases h : x.c = c
  · have e : strEq x.c c = true := (strEq_iff _ _).2 h
    rw [if_pos h]
    simp [List.filter, e]
  · have e : strEq x.c c = false := by
      cases e : strEq x.c c
      · rfl
      · exact absurd ((strEq_iff _ _).1 e) h
    rw [if_neg h]
    simp [List.filter, e]
theorem ifnn {p : Prop} {d : Decidable (¬ p)} {α : Type} {a b : α} (h : p) : (if ¬ p then a else b) = b := if_neg fun k => k h
theorem haM_get (xs : List Lt) (c : ByteArray) : getM (haM xs) c = qtyN (xs.map ndOf) c := by
  refine prev_ind (P := fun xs : List Lt => ∀ c, getM (haM xs) c = qtyN (xs.map ndOf) c) (fun c => by simp [haM, getM, qtyN]) (fun xs x ih c => ?_) xs c
  rw [haM_snoc, getM_put, List.map_append, List.map_singleton, qtyN_app, ih, ih]
  show _ = _ + if x.c = c then x.q else 0
  by_cases h : x.c = c
  · rw [if_pos h, if_pos h, h]
  · rw [if_neg h, if_neg h]; omega
theorem qtyN_none {ns : List Nd} {c : ByteArray} (h : ∀ x ∈ ns, x.c ≠ c) : qtyN ns c = 0 := by
  unfold qtyN
  rw [List.filter_eq_nil_iff.2 fun x hx e => h x hx ((strEq_iff _ _).1 e)]
  rfl
theorem qtyN_some {ns : List Nd} (hq : ∀ x ∈ ns, 1 ≤ x.q) {c : ByteArray} (h : ∃ x ∈ ns, x.c = c) : 1 ≤ qtyN ns c := by
  refine prev_ind (P := fun ns : List Nd => (∀ x ∈ ns, 1 ≤ x.q) → 0 ≤ qtyN ns c ∧ ((∃ x ∈ ns, x.c = c) → 1 ≤ qtyN ns c)) (fun _ => by simp [qtyN]) (fun ns x ih hq => ?_) ns hq |>.2 h
  have h1 := ih fun y hy => hq y (by simp [hy])
  have h2 := hq x (by simp)
  rw [qtyN_app]
  refine ⟨by split <;> omega, fun ⟨y, hy, hc⟩ => ?_⟩
  rcases List.mem_append.1 hy with hy | hy
  · have := h1.2 ⟨y, hy, hc⟩
    split <;> omega
  · rw [List.mem_singleton.1 hy] at hc
    rw [if_pos hc]
    omega
theorem nds_iff (ns : List Nd) : needsP ns ↔ ndsOk ns := by
  unfold needsP ndsOk
  constructor
  · rintro ⟨⟨h1, h2⟩, h3, h4⟩
    refine ⟨fun i hi => ?_, h1, h2⟩
    have h5 := h3 _ (getD_in hi)
    refine ⟨h5.1, h5.2.1, h5.2.2, fun h0 => ?_⟩
    have h6 := h4 (i - 1) (by omega)
    unfold leS at h6
    rw [show i - 1 + 1 = i by omega] at h6
    simpa using h6
  · rintro ⟨h1, h2, h3⟩
    refine ⟨⟨h2, h3⟩, all_getD.2 fun i hi => ⟨(h1 i hi).1, (h1 i hi).2.1, (h1 i hi).2.2.1⟩, fun i hi => ?_⟩
    have h4 := (h1 (i + 1) hi).2.2.2 (by omega)
    unfold leS
    simpa using h4
theorem rc_iff (r : Rc) : rcOk r ↔ yrOk r := by
  unfold rcOk yrOk
  rw [nds_iff, nds_iff]
  have : scOk r.sc ↔ shOk r.sc := all_getD
  rw [this]
  rfl
theorem asc_nd {ns : List Nd} (h : ndsOk ns) : (ns.map Nd.c).Nodup := by
  rw [List.nodup_iff_pairwise_ne, List.pairwise_iff_getElem]
  intro i j hi hj hij he
  rw [List.length_map] at hi hj
  rw [List.getElem_map, List.getElem_map] at he
  have := asc_ne h.1 hi hj (by simpa [hi, hj] using he)
  omega
theorem alU_mg (ss : List Lt) (ins : List Int) : alU (ltsY ss ins) = mgU ss ins := by
  unfold alU ltsY mgU
  rw [List.flatMap_def, List.map_map]
  rfl
theorem dlY_at (ss : List Lt) (r : Rc) (b : Int) (ins outs : List Int) {k : Nat} (hk : k < r.sc.length) : (dlY ss r ins).getD k [] = (prPart ss r b ins outs k).us := by
  unfold dlY dealL
  rw [alU_mg, List.getD_eq_getElem?_getD, List.getElem?_map, List.getElem?_range hk]
  rfl
theorem lts0 (ss : List Lt) {ins : List Int} (h : 1 ≤ ins.length) : (ltsY ss ins).getD 0 default = findV ss (ins.getD 0 default) := by
  unfold ltsY
  cases ins with
  | nil => simp at h
  | cons a l => rfl
theorem ptY_eq (ss : List Lt) (r : Rc) (b : Int) (ins outs : List Int) (h : 1 ≤ ins.length) {k : Nat} (hk : k < r.sc.length) (hk2 : k < r.outs.length) : ptY ss r b ins outs k = prPart ss r b ins outs k := by
  unfold ptY
  rw [dlY_at ss r b ins outs hk, lts0 ss h, tmL_at _ _ hk2]
  unfold prPart prP tmN
  simp only [Lt.mk.injEq, true_and, and_true]
  rw [Int.mul_comm]
theorem tkn_iff (ss : List Lt) (outs : List Int) : tknL ss outs ↔ ∃ o ∈ outs, takenP ss o := by
  unfold tknL takenP
  constructor
  · rintro ⟨x, hx, h | ⟨s, hs, h⟩⟩
    · exact ⟨_, h, x, hx, .inl rfl⟩
    · exact ⟨_, h, x, hx, .inr ⟨s, hs, rfl⟩⟩
  · rintro ⟨o, ho, x, hx, h | ⟨s, hs, h⟩⟩
    · exact ⟨x, hx, .inl (h ▸ ho)⟩
    · exact ⟨x, hx, .inr ⟨s, hs, h ▸ ho⟩⟩
theorem cl_iff (xs : List Lt) (ns : List Nd) (b : Int) (hb : 1 ≤ b) (hn : ndsOk ns) :
    ((haM xs).length = (tmL ns b).length ∧ ∀ x ∈ tmL ns b, getM (haM xs) x.c = x.q) ↔ ((∀ x ∈ xs, qtyN ns x.c ≠ 0) ∧ ∀ x ∈ ns, qtyN (xs.map ndOf) x.c = b * x.q) := by
  have hq : ∀ x ∈ ns, 1 ≤ x.q := fun x hx => (asc_q hn.1 x hx).1
  have hg : (∀ x ∈ tmL ns b, getM (haM xs) x.c = x.q) ↔ ∀ x ∈ ns, qtyN (xs.map ndOf) x.c = b * x.q := by
    unfold tmL
    rw [List.forall_mem_map]
    refine forall_congr' fun x => forall_congr' fun _ => ?_
    rw [haM_get]
    show qtyN _ x.c = x.q * b ↔ _
    rw [Int.mul_comm]
  rw [hg]
  refine and_congr_left fun h3 => ?_
  obtain ⟨k1, k2⟩ := haM_keys xs
  have c1 := asc_nd hn
  have hl : (tmL ns b).length = (ns.map Nd.c).length := by rw [tmL_len, List.length_map]
  have hs : ∀ c ∈ ns.map Nd.c, c ∈ (haM xs).map Prod.fst := fun c hc => by
    obtain ⟨x, hx, rfl⟩ := List.mem_map.1 hc
    refine (k2 _).2 ?_
    by_cases he : ∃ y ∈ xs, y.c = x.c
    · exact he
    · have h4 := h3 x hx
      rw [qtyN_none (fun y hy e => by
        obtain ⟨z, hz, rfl⟩ := List.mem_map.1 hy
        exact he ⟨z, hz, e⟩)] at h4
      have h5 := Int.mul_pos (show 0 < b by omega) (show 0 < x.q by have := hq x hx; omega)
      omega
  have hk : (haM xs).length = ((haM xs).map Prod.fst).length := List.length_map (f := Prod.fst) |>.symm
  rw [hl, hk]
  constructor
  · intro he x hx h0
    have h6 := nd_sub c1 hs (Nat.le_of_eq he) x.c ((k2 _).2 ⟨x, hx, rfl⟩)
    obtain ⟨y, hy, h7⟩ := List.mem_map.1 h6
    have := qtyN_some hq ⟨y, hy, h7⟩
    omega
  · intro hz
    refine Nat.le_antisymm (nd_le k1 fun c hc => ?_) (nd_le c1 hs)
    obtain ⟨x, hx, rfl⟩ := (k2 _).1 hc
    by_cases he : ∃ y ∈ ns, y.c = x.c
    · exact List.mem_map.2 he
    · exact absurd (qtyN_none fun y hy e => he ⟨y, hy, e⟩) (hz x hx)
theorem yE_pro (ss : List Lt) (r : Rc) (b : Int) (ins outs : List Int) : yE ss r b ins outs = proE ss r b ins outs := by
  unfold yE proE
  by_cases e1 : stkErr ss ≠ 0
  · rw [if_pos e1, if_pos e1]
  rw [if_neg e1, if_neg e1]
  by_cases e2 : yrOk r
  rotate_left
  · rw [if_pos e2, if_pos (fun h => e2 ((rc_iff r).1 h))]
  rw [ifnn e2, ifnn ((rc_iff r).2 e2)]
  by_cases e3 : 1 ≤ b ∧ b ≤ 1000
  rotate_left
  · rw [if_pos e3, if_pos (by omega)]
  rw [ifnn e3, tmL_len]
  by_cases e4 : ins.length < 1 ∨ 16 < ins.length ∨ outs.length ≠ r.outs.length
  · rw [show ynE r.outs.length ins outs = 2 by unfold ynE; rw [if_pos e4], if_pos (by decide), if_pos (by omega)]
  rw [if_neg (show ¬ (b < 1 ∨ 1000 < b ∨ ins.length < 1 ∨ 16 < ins.length ∨ outs.length ≠ r.outs.length) by omega)]
  by_cases e5 : ∀ o ∈ outs, idOk o
  rotate_left
  · rw [show ynE r.outs.length ins outs = 2 by unfold ynE; rw [if_neg e4, if_pos e5], if_pos (by decide), if_pos e5]
  rw [show ynE r.outs.length ins outs = 0 by unfold ynE; rw [if_neg e4, ifnn e5], if_neg (by decide), ifnn e5]
  by_cases e6 : ∀ i ∈ ins, hasI ss i
  rotate_left
  · rw [if_pos e6, if_pos e6]
  rw [ifnn e6, ifnn e6]
  by_cases e7 : twiceP ins
  · rw [if_pos (show twiceP ins ∨ twiceP outs ∨ tknL ss outs from .inl e7), if_pos e7]
  rw [if_neg e7]
  by_cases e8 : twiceP outs ∨ ∃ o ∈ outs, takenP ss o
  · rw [if_pos (show twiceP ins ∨ twiceP outs ∨ tknL ss outs from .inr (e8.imp_right (tkn_iff ss outs).2)), if_pos e8]
  rw [if_neg (show ¬ (twiceP ins ∨ twiceP outs ∨ tknL ss outs) from fun h => h.elim e7 fun h => e8 (h.imp_right (tkn_iff ss outs).1)), if_neg e8]
  have m1 : (∀ x ∈ ltsY ss ins, mvP x.p) ↔ ∀ i ∈ ins, mvP (findV ss i).p := List.forall_mem_map
  by_cases e9 : ∀ i ∈ ins, mvP (findV ss i).p
  rotate_left
  · rw [show clE (ltsY ss ins) (tmL r.ins b) = 17 by unfold clE; rw [if_pos (fun h => e9 (m1.1 h))], if_pos (by decide), if_pos e9]
  rw [ifnn e9]
  have hc : clE (ltsY ss ins) (tmL r.ins b) = open Classical in if ¬ ∀ x ∈ ltsY ss ins, x.p = ((ltsY ss ins).getD 0 default).p then 14 else if (haM (ltsY ss ins)).length ≠ (tmL r.ins b).length then 14 else if ¬ ∀ x ∈ tmL r.ins b, getM (haM (ltsY ss ins)) x.c = x.q then 14 else 0 := by
    unfold clE
    rw [ifnn (m1.2 e9)]
  have m2 : (∀ x ∈ ltsY ss ins, x.p = ((ltsY ss ins).getD 0 default).p) ↔ ∀ i ∈ ins, (findV ss i).p = prP ss ins := by
    rw [lts0 ss (by omega)]
    exact List.forall_mem_map
  have m3 := cl_iff (ltsY ss ins) r.ins b e3.1 e2.2.1
  have m4 : (∀ x ∈ ltsY ss ins, qtyN r.ins x.c ≠ 0) ↔ ∀ i ∈ ins, qtyN r.ins (findV ss i).c ≠ 0 := List.forall_mem_map
  have m5 : (ltsY ss ins).map ndOf = prH ss ins := by unfold ltsY prH; rw [List.map_map]; rfl
  rw [m4, m5] at m3
  by_cases e10 : ∀ i ∈ ins, (findV ss i).p = prP ss ins
  rotate_left
  · rw [hc, if_pos (fun h => e10 (m2.1 h)), if_pos (by decide), if_pos (fun h => e10 fun i hi => (h i hi).1)]
  rw [ifnn (m2.2 e10)] at hc
  by_cases e11 : (∀ i ∈ ins, qtyN r.ins (findV ss i).c ≠ 0) ∧ ∀ x ∈ r.ins, qtyN (prH ss ins) x.c = b * x.q
  rotate_left
  · have h14 : clE (ltsY ss ins) (tmL r.ins b) = 14 := by
      rw [hc]
      by_cases h1 : (haM (ltsY ss ins)).length ≠ (tmL r.ins b).length
      · rw [if_pos h1]
      · rw [if_neg h1, if_pos (fun h2 => e11 (m3.1 ⟨by simpa using h1, h2⟩))]
    rw [h14, if_pos (by decide)]
    by_cases h1 : ∀ i ∈ ins, qtyN r.ins (findV ss i).c ≠ 0
    · rw [ifnn (show ∀ i ∈ ins, (findV ss i).p = prP ss ins ∧ qtyN r.ins (findV ss i).c ≠ 0 from fun i hi => ⟨e10 i hi, h1 i hi⟩), if_pos (fun h => e11 ⟨h1, h⟩)]
    · rw [if_pos (fun h => h1 fun i hi => (h i hi).2)]
  have h12 := m3.2 e11
  rw [if_neg (by rw [h12.1]; simp), ifnn (h12.2)] at hc
  rw [hc, if_neg (by decide), ifnn (show ∀ i ∈ ins, (findV ss i).p = prP ss ins ∧ qtyN r.ins (findV ss i).c ≠ 0 from fun i hi => ⟨e10 i hi, e11.1 i hi⟩), ifnn (e11.2)]
  have m6 : (∀ x ∈ tmL r.outs b, x.q ≤ 1000000000) ↔ ∀ x ∈ r.outs, b * x.q ≤ 1000000000 := by
    unfold tmL
    rw [List.forall_mem_map]
    refine forall_congr' fun x => forall_congr' fun _ => ?_
    show x.q * b ≤ _ ↔ _
    rw [Int.mul_comm]
  by_cases e13 : ∀ x ∈ r.outs, b * x.q ≤ 1000000000
  rotate_left
  · rw [if_pos (fun h => e13 (m6.1 h)), if_pos e13]
  rw [ifnn (m6.2 e13), ifnn e13]
  by_cases e14 : 64 < (ss.length : Int) - ins.length + outs.length
  · rw [if_pos e14, if_pos e14]
  rw [if_neg e14, if_neg e14]
  have m7 : (∀ k, k < outs.length → ((dlY ss r ins).getD k []).length ≤ 64) ↔ ∀ k, k < outs.length → (prPart ss r b ins outs k).us.length ≤ 64 := by
    refine forall_congr' fun k => forall_congr' fun hk => ?_
    rw [dlY_at ss r b ins outs (by have := e2.2.2.2.1; omega)]
  by_cases e15 : ∀ k, k < outs.length → (prPart ss r b ins outs k).us.length ≤ 64
  · rw [ifnn (m7.2 e15), ifnn e15]
  · rw [if_pos (fun h => e15 (m7.1 h)), if_pos e15]
theorem yL_pro (ss : List Lt) (r : Rc) (b : Int) (ins outs : List Int) : yL ss r b ins outs = proL ss r b ins outs := by
  unfold yL proL
  rw [yE_pro]
  by_cases h : proE ss r b ins outs = 0
  rotate_left
  · rw [if_neg h, if_neg h]
  rw [if_pos h, if_pos h]
  unfold proE at h
  have z1 : ∀ {p : Prop} [Decidable p] {a x : Int}, (if p then a else x) = 0 → a ≠ 0 → ¬ p ∧ x = 0 := fun {p _ a x} h ha => by
    by_cases hp : p
    · rw [if_pos hp] at h; exact absurd h ha
    · rw [if_neg hp] at h; exact ⟨hp, h⟩
  have h1 : ¬ stkErr ss ≠ 0 := fun e => by rw [if_pos e] at h; exact e h
  rw [if_neg h1] at h
  obtain ⟨h2, h⟩ := z1 h (by decide)
  obtain ⟨h3, h⟩ := z1 h (by decide)
  have h2 : rcOk r := by
    by_cases h4 : rcOk r
    · exact h4
    · exact absurd h4 h2
  have h4 := ((rc_iff r).1 h2).2.2.2.1
  have hp : ptsY ss r b ins outs outs.length = prParts ss r b ins outs outs.length := by
    unfold ptsY prParts
    refine List.map_congr_left fun k hk => ?_
    have := List.mem_range.1 hk
    exact ptY_eq ss r b ins outs (by omega) (by omega) (by omega)
  rw [hp]
  rfl
end Go.Proofs.YtacpjihbbmoolaaGreat

namespace Go.Proofs.YtacpjihbbmoolaaGreat
open Go Go.RowKit Go.Lib Go.Sort
set_option linter.unusedVariables false
set_option linter.unusedSimpArgs false
set_option maxRecDepth 100000
set_option maxHeartbeats 4000000
attribute [local irreducible] ResLe AVle ArgLe ArgP EntLe Dle ResH ArgQ strEq strLt

structure LoopW (X : Cx) (n : Nat) (c : Code) (st : St) (Q : Exit → St → Prop) : Prop where
  out : X.ok → ∀ R : Run, R.n = n → ∀ ρ M a w, Sim X R ρ M st a w → ∀ b k cs, ∃ e a' w', (∃ st' ρ' M', Q e st' ∧ Sim X R ρ' M' st' a' w') ∧ Arrives X.P (lone (b.at a (.code c :: .inLoop c :: k)) cs w) b k cs e a' w'
theorem LoopW.mk1 {X : Cx} {n : Nat} {c : Code} {st : St} {Q : Exit → St → Prop} (h : W X n c st (fun e st' => match e with
    | .normal => LoopW X n c st' Q
    | e => Q e st')) : LoopW X n c st Q := ⟨fun hX R hn ρ M a w hs b k cs => by
  obtain ⟨e, a₁, w₁, ⟨st', ρ', M', hq, hs'⟩, harr⟩ := h.out hX R hn ρ M a w hs b (.inLoop c :: k) cs
  cases e with
  | normal =>
    obtain ⟨e₂, a₂, w₂, hq₂, harr₂⟩ := hq.out hX R hn ρ' M' a₁ w₁ hs' b k cs
    exact ⟨e₂, a₂, w₂, hq₂, .of_steps (Steps.trans harr (.one step_inLoop)) harr₂⟩
  | exit id => exact ⟨_, a₁, w₁, ⟨st', ρ', M', hq, hs'⟩, .pass (x := .inLoop c) rfl (fun _ _ => .inl (by simp)) harr⟩
  | goto l => exact ⟨_, a₁, w₁, ⟨st', ρ', M', hq, hs'⟩, .pass (x := .inLoop c) rfl (fun _ _ => .inl (by simp)) harr⟩
  | ret => exact ⟨_, a₁, w₁, ⟨st', ρ', M', hq, hs'⟩, .pass (x := .inLoop c) rfl (fun _ _ => .inl (by simp)) harr⟩
  | panic ch => exact ⟨_, a₁, w₁, ⟨st', ρ', M', hq, hs'⟩, .pass (x := .inLoop c) rfl (fun _ _ => .inl (by simp)) harr⟩
  | outgrown => exact ⟨_, a₁, w₁, ⟨st', ρ', M', hq, hs'⟩, .pass (x := .inLoop c) rfl (fun _ _ => .inl (by simp)) harr⟩⟩
theorem LoopW.mkK {X : Cx} {n : Nat} {c : Code} {st : St} {Q : Exit → St → Prop} (live lrefs : List Nat) (h : keepFK st live fun lf => keepHK st lrefs fun lh => W X n c ⟨lf, lh⟩ (fun e st' => match e with
    | .normal => LoopW X n c st' Q
    | e => Q e st')) : LoopW X n c st Q := by
  rw [keepFK_eq, keepHK_eq] at h
  exact LoopW.mk1 (W.weak ⟨keepF st live, keepH st lrefs⟩ (leF_keep st live) (leH_keep st lrefs) h)
theorem W.unroll {X : Cx} {n : Nat} {c : Code} {st : St} {Q : Exit → St → Prop} (h : LoopW X n c st Q) : W X n (.loop c) st Q := ⟨fun hX R hn ρ M a w hs b k cs => by
  obtain ⟨e, a', w', hq, harr⟩ := h.out hX R hn ρ M a w hs b k cs
  exact ⟨e, a', w', hq, .of_steps (.one step_loop) harr⟩⟩

def c1 : ByteArray := ⟨#[49, 48, 48, 48, 48, 48, 48, 48]⟩
def c2 : ByteArray := ⟨#[50, 48, 48, 48, 48, 48, 48, 48]⟩
def ndF1 (_ j : Nat) : D := match j with
  | 0 => .val (.string c1)
  | _ => .val (.int .i64 5)
def ndF2 (_ j : Nat) : D := match j with
  | 0 => .val (.string c2)
  | _ => .val (.int .i64 2)
def rcF0 (_ j : Nat) : D := match j with
  | 0 => .val (.int .i64 1)
  | 1 => .lst 2 1 ndF1
  | 2 => .lst 2 1 ndF2
  | _ => .lst 1 1 fun _ _ => .val (.int .i64 1)
abbrev rcL : D := .lst 4 1 rcF0
def mkL : ML := putM [] c2 0
theorem c1_sz : c1.size ≤ maxLen := Nat.le_trans (show c1.size ≤ 1000 by decide) (by decide)
theorem c2_sz : c2.size ≤ maxLen := Nat.le_trans (show c2.size ≤ 1000 by decide) (by decide)
theorem sm_makers : HC XX 48 [.dat rcL] [] (.mp 10) [(10, .mp XX.P 9 3 mkL)] (some 10) := by
  have s1 := c2_sz
  have s2 : ([] : ML).length < maxLen := Nat.lt_of_lt_of_le (show 0 < 1 by decide) (by decide)
  have s3 : -9223372036854775808 ≤ (0 : Int) ∧ (0 : Int) ≤ 9223372036854775807 := by decide
  refine HC.of (n := Tryz.f48.ntmps) XX_ok Tryz.func48 rfl (by kernel_rfl) rfl rfl (Nat.le_of_ble_eq_true rfl) rfl rfl ?_
  (repeat' (first | ((first | refine Zv 9 ?_ | refine Zn ?_ | refine Zc ?_ | refine Zu fun b hb => ?_ | refine W.unroll (LoopW.mk1 ?_) | refine LoopW.mk1 ?_ | refine Zc ?_ ⟨rfl, rfl, rfl, s1⟩); conv => whnf) | (refine Zb (fun h => ?_) (fun h => ?_) <;> first | exact Zx | (conv => whnf))))
  rw [show hasM ([] : ML) c2 = false by decide]
  conv => whnf
  (repeat' (first | ((first | refine Zg ?_ | refine Zn ?_ | refine Zc ?_ | refine Zu fun b hb => ?_ | refine LoopW.mk1 ?_ | refine Zc ?_ ⟨rfl, rfl, rfl, s1, s2, s3⟩); conv => whnf) | (refine Zb (fun h => ?_) (fun h => ?_) <;> first | exact Zx | (conv => whnf))))
  (conv => whnf); (repeat' (first | exact Zhq | refine ResH.agg ?_ | refine ⟨_, rfl, EntLe.blk ?_, rfl⟩ | refine ⟨_, rfl, EntLe.row (by first | rfl | omega) ?_, rfl⟩ | refine And.intro ?_ ?_ | ((conv => whnf); first | exact Zhq | refine ResH.agg ?_)))
noncomputable abbrev visH (st od : List Int) : List (Nat × Ent) :=
  [(5000, .blk 102 [.mp 5005]), (5005, .mp XX.P 9 3 mkL), (5001, .blk 22 [.own 5006 1 0 1]), (5006, .row 3 1 1 (rowF iE st)), (5002, .blk 34 [.dat rcL]),
   (5003, .blk 101 [.clo 80 [.ptr 5000 0, .ptr 5001 0, .ptr 5002 0, .ptr 5003 0, .ptr 5004 0]]), (5004, .blk 22 [.own 1000000 1 0 od.length]), (1000000, .row 3 1 od.length (rowF iE od))]
theorem sm_visit1 (st od : List Int) : HC XX 80 [sY c1, .ptr 5000 0, .ptr 5001 0, .ptr 5002 0, .ptr 5003 0, .ptr 5004 0] (visH st od) (bA true) (visH st od) (some 1000000) := by
  have s1 := c1_sz
  refine HC.of (n := Tryz.f80.ntmps) XX_ok Tryz.func80 rfl (by kernel_rfl) rfl rfl (Nat.le_of_ble_eq_true rfl) rfl rfl ?_
  (repeat' (first | ((first | refine Zv 2 ?_ | refine Zn ?_ | refine Zc ?_ | refine Zu fun b hb => ?_ | refine Zc ?_ ⟨rfl, rfl, rfl, s1⟩); conv => whnf) | (refine Zb (fun h => ?_) (fun h => ?_) <;> first | exact Zx | (conv => whnf))))
  conv => whnf
  rw [show hasM mkL c1 = false by decide]
  conv => whnf
  (repeat' (first | ((first | refine Zg ?_ | refine Zn ?_ | refine Zc ?_ | refine Zu fun b hb => ?_); conv => whnf) | (refine Zb (fun h => ?_) (fun h => ?_) <;> first | exact Zx | (conv => whnf))))
  all_goals first | ((conv => whnf); (repeat' (first | exact Zhq | refine ResH.agg ?_ | refine ⟨_, rfl, EntLe.blk ?_, rfl⟩ | refine ⟨_, rfl, EntLe.row (by first | rfl | omega) ?_, rfl⟩ | refine And.intro ?_ ?_ | ((conv => whnf); first | exact Zhq | refine ResH.agg ?_))); done) | (exfalso; omega)
theorem sm_visit2 : HC XX 80 [sY c2, .ptr 5000 0, .ptr 5001 0, .ptr 5002 0, .ptr 5003 0, .ptr 5004 0] (visH [0] []) (bA true) (visH [2] [0]) (some 1000000) := by
  have s1 := c2_sz
  have k1 := sm_visit1 [1] []
  refine HC.of (n := Tryz.f80.ntmps) XX_ok Tryz.func80 rfl (by kernel_rfl) rfl rfl (Nat.le_of_ble_eq_true rfl) rfl rfl ?_
  (repeat' (first | ((first | refine Zv 2 ?_ | refine Zn ?_ | refine Zc ?_ | refine Zu fun b hb => ?_ | refine Zc ?_ ⟨rfl, rfl, rfl, s1⟩); conv => whnf) | (refine Zb (fun h => ?_) (fun h => ?_) <;> first | exact Zx | (conv => whnf))))
  conv => whnf
  rw [show hasM mkL c2 = true by decide, show getM mkL c2 = 0 by decide]
  conv => whnf
  (repeat' (first | ((first | refine Zg ?_ | refine Zn ?_ | refine Zc ?_ | refine Zu fun b hb => ?_); conv => whnf) | (refine Zb (fun h => ?_) (fun h => ?_) <;> first | exact Zx | (conv => whnf))))
  all_goals first | (exfalso; exact absurd h (by decide)) | skip
  refine (W.weak ⟨[(1, .ptr 5000 0), (2, .ptr 5001 0), (3, .ptr 5002 0), (4, .ptr 5003 0), (5, .ptr 5004 0), (8, iA 0), (39, .dat (.lst 2 1 ndF1)), (40, iA 1), (41, iA 0)], visH [1] []⟩ ?_ ?_ ?_)
  · exact Yz
  · (repeat' (first | exact Yq | refine ⟨_, rfl, Yb ?_, rfl⟩ | refine ⟨_, rfl, Yw (by first | rfl | omega) ?_, rfl⟩ | refine And.intro ?_ ?_))
    intro i hi j hj
    obtain rfl : i = 0 := by omega
    obtain rfl : j = 0 := by omega
    exact Dle.refl _
  conv => whnf
  (repeat' (first | ((first | refine Zg ?_ | refine Zn ?_ | refine Zc ?_ | refine Zu fun b hb => ?_ | refine W.unroll (LoopW.mk1 ?_) | refine LoopW.mk1 ?_ | refine ExCall.h [(5000, 5000), (5005, 5005), (5001, 5001), (5006, 5006), (5002, 5002), (5003, 5003), (5004, 5004), (1000000, 1000000)] rfl k1 rfl ⟨rfl, rfl, rfl, rfl, rfl, rfl, rfl, rfl, trivial⟩ ?_); conv => whnf) | (refine Zb (fun h => ?_) (fun h => ?_) <;> first | exact Zx | (conv => whnf))))
  (conv => whnf); (repeat' (first | exact Zhq | refine ResH.agg ?_ | refine ⟨_, rfl, EntLe.blk ?_, rfl⟩ | refine ⟨_, rfl, EntLe.row (by first | rfl | omega) ?_, rfl⟩ | refine And.intro ?_ ?_ | ((conv => whnf); first | exact Zhq | refine ResH.agg ?_)))
  all_goals (intro i hi j hj)
  all_goals (obtain rfl : i = 0 := by first | omega | (simp at hi; omega))
  all_goals (obtain rfl : j = 0 := by omega)
  all_goals exact Dle.refl _
theorem reverse_h (l : List Int) (hl : l.length ≤ 1000) : HC XX 81 [.own 5000 1 0 l.length] [(5000, .row 3 1 l.length (rowF iE l))] (.tup []) [(5000, .row 3 1 l.length (rowF iE l.reverse))] none := by
  refine ⟨⟨_, Tryz.func81, rfl, rfl⟩, fun M w ρ vs hgl hp hlen ha hH => ?_⟩
  obtain ⟨v0, rfl⟩ : ∃ v0, vs = [v0] := by
    match vs, hlen with
    | [a], _ => exact ⟨a, rfl⟩
  have h0 := own_of (ha 0 _ v0 rfl rfl)
  rw [partOf_zero, Nat.sub_zero] at h0
  subst h0
  obtain ⟨xs, hown, hx⟩ := hH.ents 5000 _ rfl
  have hden0 : ∀ M', DenA ρ M' (.tup []) (.tuple #[]) := fun M' => .tup [] [] rfl fun i c v h => by simp at h
  have hx1 : ∀ i, i < l.length → xs[i]? = some (.int .i64 (l.getD i 0)) := fun i hi => by
    obtain ⟨u, h1, h2, h3⟩ := hx i hi 0 (by omega)
    rw [Nat.mul_one, Nat.add_zero] at h1
    have h4 : u = .int .i64 (l.getD i default) := val_of (DenA.dat (ρ := ρ) h2)
    rw [h1, h4]
    rfl
  by_cases hn0 : l.length = 0
  · rw [hn0]
    refine (Tryz.slices_Reverse_int_empty (addrOf (ρ 5000).1) (ρ 5000).2 w).mono fun e w' ⟨he, hw⟩ => ⟨_, ρ, M, he, ?_⟩
    subst hw
    rw [hn0] at hown
    refine ⟨hden0 M, Mem.le_refl _, fun _ _ h => .inl h, hp, Chg.refl _ _, ⟨fun k' e hk => ?_, fun k' k'' e e' hk hk' _ _ hne => ?_, fun k' e g' p v hk ho => ?_⟩, fun k' e g' hk ho hg => ?_, fun _ _ => rfl, fun _ => Nat.le_refl _⟩
    · simp only [lk_cons] at hk
      split at hk
      · rename_i e0; cases hk; subst e0
        exact ⟨xs, hown, fun i hi => absurd hi (by omega)⟩
      · cases hk
    · simp only [lk_cons] at hk hk'
      split at hk <;> split at hk'
      · rename_i e0 e1; exact absurd (e0.symm.trans e1) hne
      · cases hk'
      · cases hk
      · cases hk
    · simp only [lk_cons] at hk
      split at hk
      · rename_i e0; subst e0; exact hH.sep 5000 _ g' p v rfl rfl
      · cases hk
    · simp only [lk_cons] at hk
      split at hk
      · rename_i e0; subst e0; exact .inr (blkOf_of (e := .row 3 1 0 (rowF iE l)) rfl rfl hg)
      · cases hk
  have hn1 : 0 < l.length := by omega
  obtain ⟨hl', ⟨e0, e1⟩ | ⟨gb, cap, cur, e0, _, hg, hnc, hcm, hcs, hct⟩⟩ := hown
  · exact absurd e1 hn0
  rw [Nat.mul_one] at hl' hct
  have hg1 : (ρ 5000).1 = some gb := by
    cases hq : (ρ 5000).1 with
    | none => rw [hq] at e0; simp [addrOf] at e0
    | some g1 => rw [hq] at e0; simp [addrOf] at e0; rw [e0.1]
  have hg2 : (ρ 5000).2 = cap := by injection e0
  rw [hg2, hg1]
  have hblk : gb < w.heap.size := by
    rcases Nat.lt_or_ge gb w.heap.size with h' | h'
    · exact h'
    · rw [Array.getElem?_eq_none h'] at hg; cases hg
  have hholds : Holds (Value.int .i64) w gb 0 l.toArray := fun t ht => by
    have ht' : t < l.length := by simpa using ht
    refine ⟨?_, by simp [World.frozen?, hg]⟩
    have h5 : xs[t]? = cur[t]? := by
      rw [← hct, List.getElem?_take, if_pos ht', Array.getElem?_toList]
    simp only [World.cell?, hg, Nat.zero_add, Option.isSome_none, Bool.false_eq_true, if_false, id]
    rw [← h5, hx1 t ht']
    have : l.toArray[t]! = l.getD t 0 := by simp [getElem!_pos, ht', List.getD_eq_getElem?_getD]
    rw [this]
  have hpub : ∀ m d, PubOk M (putRow (Value.int .i64) (Sort.ahead w m) gb 0 d) := fun m d p v hpv => by
    obtain ⟨c1, c2⟩ := hp p v hpv
    have hb : p.block < w.heap.size := cell_lt c1
    have hne : p.block ≠ gb := hH.sep 5000 _ gb p v rfl rfl hg1 hpv
    refine ⟨?_, c2⟩
    rw [← c1]
    unfold World.cell?
    have : (putRow (Value.int .i64) (Sort.ahead w m) gb 0 d).heap[p.block]? = w.heap[p.block]? := by
      simp [putRow, mapBlock, Sort.ahead, Array.getElem?_modify, Ne.symm hne]
    rw [this]
  refine (Tryz.slices_Reverse_int gb 0 cap l w hholds (by omega)).mono fun e w' ⟨he, m, hw⟩ => ⟨_, ρ, M, he, ?_⟩
  have hbn : blkOf ρ [(5000, Ent.row 3 1 l.length (rowF iE l))] 5000 = some gb := blkOf_of (e := .row 3 1 l.length (rowF iE l)) rfl rfl hg1
  refine ⟨hden0 M, Mem.le_refl _, fun _ _ h => .inl h, hw ▸ hpub m _, ?_, ⟨fun k' e hk => ?_, fun k' k'' e e' hk hk' _ _ hne => ?_, fun k' e g' p v hk ho => ?_⟩, fun k' e g' hk ho hg => ?_, fun _ _ => rfl, fun _ => ?_⟩
  · rw [hw]
    refine ⟨rfl, rfl, rfl, by simp [putRow, mapBlock, Sort.ahead], fun q hq hne => ?_⟩
    have : gb ≠ q := fun e => hne (e ▸ blkOf_mem hbn)
    simp [putRow, mapBlock, Sort.ahead, Array.getElem?_modify, this]
  · simp only [lk_cons] at hk
    split at hk
    · rename_i e0; cases hk; subst e0
      refine ⟨(l.reverse.map (Value.int .i64)), ⟨by simp, .inr ⟨gb, cap, putCells (Value.int .i64) 0 l.reverse.toArray cur, by rw [hg1, hg2]; rfl, Nat.zero_le _, ?_, hnc, hcm, by simpa [putCells] using hcs, ?_⟩⟩, fun i hi j hj => ?_⟩
      · rw [hw]
        simp [putRow, mapBlock, Sort.ahead, Array.getElem?_modify, hg, onCells]
      · rw [Nat.mul_one]
        apply List.ext_getElem?
        intro t
        rw [List.getElem?_take, Array.getElem?_toList]
        by_cases ht : t < l.length
        · rw [if_pos ht]
          simp only [putCells, Array.getElem?_mapIdx, Array.getElem?_eq_getElem (show t < cur.size by omega), Option.map_some]
          rw [if_pos (by simp; omega)]
          simp [getElem!_pos, ht]
        · rw [if_neg ht, List.getElem?_eq_none (by simp; omega)]
      · obtain rfl : j = 0 := by omega
        refine ⟨.int .i64 (l.reverse.getD i 0), ?_, ?_, rfl⟩
        · have : i < l.reverse.length := by simpa using hi
          simp only [Nat.mul_one, Nat.add_zero, List.getElem?_map, List.getD_eq_getElem?_getD]
          rw [List.getElem?_eq_getElem this]
          rfl
        · show DenD M (.val (.int .i64 (l.reverse.getD i 0))) _
          exact .val _
    · cases hk
  · simp only [lk_cons] at hk hk'
    split at hk <;> split at hk'
    · rename_i e0 e1; exact absurd (e0.symm.trans e1) hne
    · cases hk'
    · cases hk
    · cases hk
  · simp only [lk_cons] at hk
    split at hk
    · rename_i e0; subst e0; exact hH.sep 5000 _ g' p v rfl rfl
    · cases hk
  · simp only [lk_cons] at hk
    split at hk
    · rename_i e0; subst e0; exact .inr (blkOf_of (e := .row 3 1 l.length (rowF iE l)) rfl rfl hg)
    · cases hk
  · rw [hw]; exact Nat.le_add_right _ _
theorem sm_order : HC XX 49 [.dat rcL, .mp 5000, sY c2] [(5000, .mp XX.P 9 3 mkL)] (.tup [.dat (iD [0]), bA true]) [(5000, .mp XX.P 9 3 mkL)] none := by
  have k1 := sm_visit2
  have k2 := reverse_h [0] (by decide)
  refine HC.of (n := Tryz.f49.ntmps) XX_ok Tryz.func49 rfl (by kernel_rfl) rfl rfl (Nat.le_of_ble_eq_true rfl) rfl rfl ?_
  (repeat' (first | ((first | refine Zv 5 ?_ | refine Zn ?_ | refine Zc ?_ | refine Zu fun b hb => ?_); conv => whnf) | (refine Zb (fun h => ?_) (fun h => ?_) <;> first | exact Zx | (conv => whnf))))
  all_goals (conv => whnf)
  refine (W.adoptB 9 0 18 3 1 (rowF iE []) rfl rfl rfl rfl rfl rfl ?_); conv => whnf
  refine (W.weak ⟨[(2, sY c2), (9, .ptr 9 0), (10, .ptr 10 0)], [(4, .blk 102 [.mp 5000]), (5000, .mp XX.P 9 3 mkL), (8, .blk 22 [.own 13 1 0 1]), (13, .row 3 1 1 (rowF iE [0])), (3, .blk 34 [.dat rcL]),
    (10, .blk 101 [.clo 80 [.ptr 4 0, .ptr 8 0, .ptr 3 0, .ptr 10 0, .ptr 9 0]]), (9, .blk 22 [.own 18 1 0 0]), (18, .row 3 1 0 (rowF iE []))]⟩ ?_ ?_ ?_)
  · exact Yz
  · (repeat' (first | exact Yq | refine ⟨_, rfl, Yb ?_, rfl⟩ | refine ⟨_, rfl, Yw (by first | rfl | omega) ?_, rfl⟩ | refine And.intro ?_ ?_))
    intro i hi j hj
    obtain rfl : i = 0 := by omega
    obtain rfl : j = 0 := by omega
    exact Dle.refl _
  conv => whnf
  (repeat' (first | ((first | refine Zg ?_ | refine Zn ?_ | refine Zc ?_ | refine Zu fun b hb => ?_ | refine ExCall.h [(5000, 4), (5005, 5000), (5001, 8), (5006, 13), (5002, 3), (5003, 10), (5004, 9), (1000000, 18)] rfl k1 rfl ⟨rfl, rfl, rfl, rfl, rfl, rfl, rfl, rfl, trivial⟩ ?_ | refine ExCall.h [(5000, 18)] rfl k2 rfl ⟨rfl, trivial⟩ ?_); conv => whnf) | (refine Zb (fun h => ?_) (fun h => ?_) <;> first | exact Zx | (conv => whnf))))
  all_goals first | (exfalso; omega) | skip
  (conv => whnf); (repeat' (first | exact Zhq | refine ResH.agg ?_ | refine ⟨_, rfl, EntLe.blk ?_, rfl⟩ | refine ⟨_, rfl, EntLe.row (by first | rfl | omega) ?_, rfl⟩ | refine And.intro ?_ ?_ | ((conv => whnf); first | exact Zhq | refine ResH.agg ?_)))
  all_goals (conv => whnf)
  all_goals exact ResH.row0 rfl rfl rfl
abbrev dmL : ML := [(c1, 10), (c2, 3)]
abbrev zL : D := .lst 1 1 fun _ _ => .val (.int .i64 0)
abbrev twL : D := .lst 1 1 fun _ _ => .val (.int .i64 2)
theorem sm_run : HC XX 50 [.dat rcL, .mp 5000, .dat zL, .agg [sY c2, iA 3]] [(5000, .mp XX.P 9 3 mkL)] (.tup [.mp 19, .dat twL, iA 0]) [(5000, .mp XX.P 9 3 mkL), (19, .mp XX.P 9 3 dmL)] (some 19) := by
  have s1 := c2_sz
  have s1' := c1_sz
  have s2 : ([] : ML).length < maxLen := Nat.lt_of_lt_of_le (show 0 < 1 by decide) (by decide)
  have s3 : -9223372036854775808 ≤ (3 : Int) ∧ (3 : Int) ≤ 9223372036854775807 := by decide
  have g1 : getM mkL c2 = 0 := by decide
  have g2 : getM (putM [] c2 3) c2 = 3 := by decide
  have g3 : getM (putM [] c2 3) c1 = 0 := by decide
  refine HC.of (n := Tryz.f50.ntmps) XX_ok Tryz.func50 rfl (by kernel_rfl) rfl rfl (Nat.le_of_ble_eq_true rfl) rfl rfl ?_
  (repeat' (first | ((first | refine Zv 12 ?_ | refine Zt dr50 ?_ | refine Zn ?_ | refine Zc ?_ | refine Zu fun b hb => ?_ | refine W.unroll (LoopW.mk1 ?_) | refine LoopW.mk1 ?_ | refine Zc ?_ ⟨rfl, rfl, rfl, s1⟩ | refine Zc ?_ ⟨rfl, rfl, rfl, s1, s2, s3⟩); conv => whnf) | (refine Zb (fun h => ?_) (fun h => ?_) <;> first | exact Zx | (conv => whnf))))
  refine (W.weak ⟨[(0, .dat rcL), (1, .mp 5000), (11, .mp 19), (12, .own 27 1 0 1), (14, iA 0), (28, .dat zL), (29, iA 1), (30, iA 0)], [(5000, .mp XX.P 9 3 mkL), (19, .mp XX.P 9 3 (putM [] c2 3)), (27, .row 3 1 1 fun _ _ => .val (.int .i64 2))]⟩ ?_ ?_ ?_)
  · exact Yz
  · (repeat' (first | exact Yq | refine ⟨_, rfl, Yb ?_, rfl⟩ | refine ⟨_, rfl, Yw (by first | rfl | omega) ?_, rfl⟩ | refine And.intro ?_ ?_))
    intro i hi j hj
    obtain rfl : i = 0 := by omega
    obtain rfl : j = 0 := by omega
    refine Dle.of_eq ?_
    show D.val (.int .i64 (if (getM (putM [] c2 3) c2 + 2 - 1) / 2 > 0 then (getM (putM [] c2 3) c2 + 2 - 1) / 2 else 0)) = _
    rw [g2]
    rfl
  conv => whnf
  have s5 : (putM ([] : ML) c2 3).length < maxLen := Nat.lt_of_lt_of_le (show 1 < 2 by decide) (by decide)
  have s6 : -9223372036854775808 ≤ getM (putM [] c2 3) c1 + 2 * 5 ∧ getM (putM [] c2 3) c1 + 2 * 5 ≤ 9223372036854775807 := by rw [g3]; decide
  (repeat' (first | ((first | refine Zg ?_ | refine Zt dr50 ?_ | refine Zn ?_ | refine Zc ?_ | refine Zu fun b hb => ?_ | refine W.unroll (LoopW.mk1 ?_) | refine LoopW.mk1 ?_ | refine Zc ?_ ⟨rfl, rfl, rfl, s1'⟩ | refine Zc ?_ ⟨rfl, rfl, rfl, s1', s5, s6⟩); conv => whnf) | (refine Zb (fun h => ?_) (fun h => ?_) <;> first | exact Zx | (conv => whnf))))
  all_goals first | (exfalso; omega) | skip
  rw [show putM (putM ([] : ML) c2 3) c1 (getM (putM [] c2 3) c1 + 2 * 5) = dmL by decide]
  (conv => whnf); (repeat' (first | exact Zhq | refine ResH.agg ?_ | refine ⟨_, rfl, EntLe.blk ?_, rfl⟩ | refine ⟨_, rfl, EntLe.row (by first | rfl | omega) ?_, rfl⟩ | refine And.intro ?_ ?_ | ((conv => whnf); first | exact Zhq | refine ResH.agg ?_)))
  all_goals (conv => whnf)
  all_goals exact ResH.row0 rfl rfl rfl
theorem sm_nan (a : ByteArray) : ACalls XD 84 [sY a] (bA false) := by
  have h : strEq a a = true := (strEq_iff a a).2 rfl
  refine ACalls.of (n := Tryz.f84.ntmps) XD_ok Tryz.func84 rfl (by kernel_rfl) rfl rfl (Nat.le_of_ble_eq_true rfl) ?_
  (repeat' (first | ((first | refine Zg ?_ | refine Zn ?_ | refine Zc ?_ | refine Zu fun b hb => ?_); conv => whnf) | (refine Zb (fun h => ?_) (fun h => ?_) <;> first | exact Zx | (conv => whnf))))
  all_goals (repeat' (first | exact Zrq | exact Zi (by simp [h]) | exact Zo (h := by simp [h]) | refine ResLe.agg ?_ | refine And.intro ?_ ?_ | ((conv => whnf); first | exact Zrq | exact Zi (by simp [h]) | exact Zo (h := by simp [h]) | refine ResLe.agg ?_ | refine And.intro ?_ ?_)))
theorem sm_cmp (a : ByteArray) : ACalls XD 53 [sY a, sY a] (iA 0) := by
  have h0 := sm_nan
  have q1 := strLt_irr a
  have q2 : strEq a a = true := (strEq_iff a a).2 rfl
  refine ACalls.of (n := Tryz.f53.ntmps) XD_ok Tryz.func53 rfl (by kernel_rfl) rfl rfl (Nat.le_of_ble_eq_true rfl) ?_
  (repeat' (first | ((first | refine Zg ?_ | refine Zn ?_ | refine Zc ?_ | refine Zu fun b hb => ?_ | refine Zy (h0 _) ?_); conv => whnf) | (refine Zb (fun h => ?_) (fun h => ?_) <;> first | exact Zx | (conv => whnf))))
  all_goals (repeat' (first | exact Zrq | exact Zi (by simp_all) | exact Zo (h := by simp_all) | refine ResLe.agg ?_ | refine And.intro ?_ ?_ | ((conv => whnf); first | exact Zrq | exact Zi (by simp_all) | exact Zo (h := by simp_all) | refine ResLe.agg ?_ | refine And.intro ?_ ?_)))
theorem sm_less (x : Nd) : ACalls XD 52 [(.agg [sY x.c, iA x.q]), (.agg [sY x.c, iA x.q])] (iA 0) := by
  refine ACalls.of (n := Tryz.f52.ntmps) XD_ok Tryz.func52 rfl (by kernel_rfl) rfl rfl (Nat.le_of_ble_eq_true rfl) ?_
  (repeat' (first | ((first | refine Zg ?_ | refine Zn ?_ | refine Zc ?_ | refine Zu fun b hb => ?_ | refine Zy (sm_cmp _) ?_); conv => whnf) | (refine Zb (fun h => ?_) (fun h => ?_) <;> first | exact Zx | (conv => whnf))))
  all_goals exact Zrz
theorem sm_swo : SWO (ltOf (fun _ _ => 0 : Nat → Nat → Int)) := ⟨fun _ => rfl, fun _ _ _ h => (by cases (show false = true from h)), fun _ _ _ _ _ => rfl⟩
theorem sm_sort (us : List Nd) (hn : us.length = 1) :
    HC XX 51 [.own 5000 2 0 us.length, .dat (.val (.func (.func 52) #[] #[]))] [(5000, .row 41 2 us.length (rowF ndE us))] (.tup []) [(5000, .row 41 2 us.length fun i j => rowF ndE us (sortAt us.length (fun _ _ => 0) i) j)] none :=
  sort_h (X := XX) (cf := fun _ _ => 0) Tryz.sort51 rfl ⟨_, Tryz.func51, rfl, rfl⟩ Tryz.isAgg41 Tryz.sizeOf41
    (enters_of Tryz.func52 (by kernel_rfl) rfl) sm_swo (by omega) (by omega) (fun i j hi hj => by
      obtain rfl : i = 0 := by omega
      obtain rfl : j = 0 := by omega
      exact sm_less (us.getD 0 default))
theorem next_two {x y : ByteArray × Int} {A : Prop} {B : ByteArray × Int → ML → Prop} (h1 : B x [y]) (h2 : B y [x]) : NextK [x, y] A B := ⟨fun h => (by cases h), fun p l h => by
  have hp : p ∈ [x, y] := h.symm.subset List.mem_cons_self
  rcases List.mem_cons.1 hp with rfl | hp
  · obtain rfl := List.perm_singleton.1 (List.Perm.cons_inv h).symm
    exact h1
  · obtain rfl := List.mem_singleton.1 hp
    obtain rfl := List.perm_singleton.1 (List.Perm.cons_inv ((List.Perm.swap x p []).trans h)).symm
    exact h2⟩
theorem next_one {x : ByteArray × Int} {A : Prop} {B : ByteArray × Int → ML → Prop} (h1 : B x []) : NextK [x] A B := ⟨fun h => (by cases h), fun p l h => by
  have h2 := List.singleton_perm.1 h
  injection h2 with h2 h3
  subst h2
  subst h3
  exact h1⟩
theorem next_nil {A : Prop} {B : ByteArray × Int → ML → Prop} (h1 : A) : NextK [] A B := ⟨fun _ => h1, fun p l h => (by cases List.nil_perm.1 h)⟩
theorem ACalls.yargs {X : Cx} {f : FuncId} {cs ds : List AV} {r : AV} (h : ACalls X f ds r) (hle : AVsLe cs ds) : ACalls X f cs r := by
  obtain ⟨h1, h2⟩ := AVsLe_at hle
  exact ⟨h.fn, fun M w vs hg hp hl hd => h.out M w vs hg hp (by omega) fun i d v e1 e2 => by
    obtain ⟨c, e3, e4⟩ := h2 i d e1
    unfold AVle at e4
    exact fun ρ => e4 ρ M v (hd i c v e3 e2 ρ)⟩
theorem c1_ok : cOk c1 := ⟨rfl, fun i hi => by
  rcases i with _ | _ | _ | _ | _ | _ | _ | _ | i
  all_goals first | (exfalso; omega) | decide⟩
theorem c2_ok : cOk c2 := ⟨rfl, fun i hi => by
  rcases i with _ | _ | _ | _ | _ | _ | _ | _ | i
  all_goals first | (exfalso; omega) | decide⟩
theorem asc_one {x : Nd} {lo hi : Int} (h : cOk x.c) (h1 : lo ≤ x.q) (h2 : x.q ≤ hi) : ascOk [x] lo hi := fun i hi => by
  obtain rfl : i = 0 := by simpa using hi
  exact ⟨h, h1, h2, fun h => absurd h (by omega)⟩
def r0 : Rc := ⟨1, [⟨c1, 5⟩], [⟨c2, 2⟩], [1]⟩
theorem r0_ok : yrOk r0 := ⟨by decide, ⟨asc_one c1_ok (by decide) (by decide), by decide, by decide⟩, ⟨asc_one c2_ok (by decide) (by decide), by decide, by decide⟩, rfl, fun i hi => by
  obtain rfl : i = 0 := by
    have : i < 1 := hi
    omega
  decide, by decide⟩
abbrev rcV : AV := .agg [iA 1, .dat (.lst 2 1 ndF1), .dat (.lst 2 1 ndF2), .dat (.lst 1 1 fun _ _ => .val (.int .i64 1))]
theorem lst_one {s : Nat} {f g : Nat → Nat → D} {n : Nat} (hn : 1 = n) (h : ∀ j, j < s → Dle (f 0 j) (g 0 j)) : AVle (.dat (.lst s 1 f)) (.dat (.lst s n g)) := AVle.dat (Dle.lst hn fun i hi j hj => by
  obtain rfl : i = 0 := by omega
  exact h j hj)
theorem sm_valid : ACalls XX 46 [rcV] (iA 0) := by
  have h := yvalidate_t r0 (by decide) (by decide) (by decide)
  rw [show yrErr r0 = 0 from if_pos r0_ok] at h
  exact h.yargs ⟨AVle.agg ⟨AVle.refl _, lst_one rfl fun j hj => by rcases j with _ | _ | j <;> first | exact Dle.refl _ | omega, lst_one rfl fun j hj => by rcases j with _ | _ | j <;> first | exact Dle.refl _ | omega, lst_one rfl fun j hj => by rcases j with _ | j <;> first | exact Dle.refl _ | omega, trivial⟩, trivial⟩
abbrev ten : List Nd := [⟨c1, 10⟩]
theorem sm_explode : ACalls XX 16 [.dat rcL, sY c2, iA 3] (.tup [.dat (ndD ten), .dat twL, iA 0]) := by
  have s1 := c2_sz
  have s1' := c1_sz
  have k0 := sm_valid
  have k1 := yvalidCode_t c2
  rw [decide_eq_true c2_ok] at k1
  have k2 := sm_makers
  have k3 := sm_order
  have k4 := sm_run.argsLe (ls := [.dat rcL, .mp 5000, .dat (iD [0]), .agg [sY c2, iA 3]]) ⟨AVle.refl _, AVle.refl _, lst_one rfl fun j hj => by rcases j with _ | j <;> first | exact Dle.refl _ | omega, AVle.refl _, trivial⟩
  have n1 : ¬ hasM mkL c1 = true := by decide
  have n2 : ¬ hasM mkL c2 = false := by decide
  have hso := sm_sort ten rfl
  refine ACalls.of (n := Tryz.f16.ntmps) XX_ok Tryz.func16 rfl (by kernel_rfl) rfl rfl (Nat.le_of_ble_eq_true rfl) ?_
  (repeat' (first | ((first | refine Zv 22 ?_ | refine Zt dr16 ?_ | refine Zn ?_ | refine Zc ?_ | refine Zu fun b hb => ?_ | refine W.unroll (LoopW.mk1 ?_) | refine LoopW.mk1 ?_ | refine Zy k0 ?_ | refine Zz k0 ?_ | refine Zy k1 ?_ | refine Zz k1 ?_ | refine ExCall.h [(10, 64)] rfl k2 rfl trivial ?_ | refine ExCall.h [(5000, 64)] rfl k3 rfl ⟨rfl, trivial⟩ ?_ | refine CallK.h [(5000, 64)] rfl k3 rfl rfl ⟨rfl, trivial⟩ rfl rfl ?_ | refine ExCall.h [(5000, 64), (19, 81)] rfl k4 rfl ⟨rfl, trivial⟩ ?_); conv => whnf) | (refine Zb (fun h => ?_) (fun h => ?_) <;> first | exact Zx | (conv => whnf))))
  all_goals first | (exfalso; omega) | skip
  refine W.openM 81 rfl fun es clock gm => ?_
  conv => whnf
  (repeat' (first | ((first | refine Zg ?_ | refine Zt dr16 ?_ | refine Zn ?_ | refine Zc ?_ | refine Zu fun b hb => ?_); conv => whnf) | (refine Zb (fun h => ?_) (fun h => ?_) <;> first | exact Zx | (conv => whnf))))
  refine (W.adopt 18 112 41 2 (rowF ndE []) rfl rfl rfl rfl ?_)
  conv => whnf
  (repeat' (first | ((first | refine Zv 28 ?_ | refine Zt dr16 ?_ | refine Zn ?_ | refine Zc ?_ | refine Zu fun b hb => ?_ | refine W.unroll (LoopW.mk1 ?_) | refine LoopW.mk1 ?_ | refine next_two ?_ ?_ | refine next_one ?_ | refine next_nil ?_ | refine Zc ?_ ⟨rfl, rfl, rfl, s1⟩ | refine Zc ?_ ⟨rfl, rfl, rfl, s1'⟩); conv => whnf) | (refine Zb (fun h => ?_) (fun h => ?_) <;> first | exact Zx | (conv => whnf))))
  all_goals first | (exfalso; omega) | skip
  all_goals refine (W.weak ⟨[(16, .dat twL), (18, .own 112 2 0 ten.length)], [(112, .row 41 2 ten.length (rowF ndE ten))]⟩ ?_ ?_ ?_)
  all_goals (try (repeat' (first | exact Yq | refine ⟨_, rfl, Yb ?_, rfl⟩ | refine ⟨_, rfl, Yw (by first | rfl | omega) ?_, rfl⟩ | refine And.intro ?_ ?_)))
  all_goals first
    | (intro i hi j hj
       obtain rfl : i = 0 := by first | omega | (simp at hi; omega)
       rcases j with _ | _ | j <;> first | exact Dle.refl _ | omega)
    | skip
  all_goals (conv => whnf)
  all_goals (repeat' (first | ((first | refine Zg ?_ | refine Zt dr16 ?_ | refine Zn ?_ | refine Zc ?_ | refine Zu fun b hb => ?_ | refine ExCall.h [(5000, 112)] rfl hso rfl ⟨rfl, trivial⟩ ?_ | refine CallK.h [(5000, 112)] rfl hso rfl rfl ⟨rfl, trivial⟩ rfl rfl ?_); conv => whnf) | (refine Zb (fun h => ?_) (fun h => ?_) <;> first | exact Zx | (conv => whnf))))
  all_goals (repeat' (first | exact Zrq | refine ResLe.agg ?_ | refine And.intro ?_ ?_ | ((conv => whnf); first | exact Zrq | refine ResLe.agg ?_ | refine And.intro ?_ ?_)))
  all_goals refine RowIs.res (enc := ndE) (us := ten) rfl ⟨rfl, fun i hi j hj => ?_⟩ rfl
  all_goals (have h1 : ten.length = 1 := rfl)
  all_goals (have h2 := sortAt_lt sm_swo hi)
  all_goals (rw [show sortAt ten.length (fun _ _ => 0) i = i by omega])
  all_goals exact Dle.refl _
abbrev dI : D := .lst 2 1 fun _ j => match j with
  | 0 => .val (.int .i64 10)
  | _ => .val (.int .i64 5)
abbrev dE : D := .lst 2 2 fun i j => match i with
  | 0 => match j with
    | 0 => .val (.int .i64 8)
    | _ => .val (.int .i64 3)
  | _ => match j with
    | 0 => .val (.int .i64 12)
    | _ => .val (.int .i64 4)
theorem sm_dI : ACalls XX 54 [.dat dI] (iA 0) := by
  refine ACalls.of (n := Tryz.f54.ntmps) XX_ok Tryz.func54 rfl (by kernel_rfl) rfl rfl (Nat.le_of_ble_eq_true rfl) ?_
  (repeat' (first | ((first | refine Zg ?_ | refine Zt dr54 ?_ | refine Zn ?_ | refine Zc ?_ | refine Zu fun b hb => ?_ | refine W.unroll (LoopW.mk1 ?_) | refine LoopW.mk1 ?_); conv => whnf) | (refine Zb (fun h => ?_) (fun h => ?_) <;> first | exact Zx | (conv => whnf))))
  all_goals first | exact Zrz | (exfalso; omega)
theorem sm_dE : ACalls XX 54 [.dat dE] (iA 0) := by
  refine ACalls.of (n := Tryz.f54.ntmps) XX_ok Tryz.func54 rfl (by kernel_rfl) rfl rfl (Nat.le_of_ble_eq_true rfl) ?_
  (repeat' (first | ((first | refine Zg ?_ | refine Zt dr54 ?_ | refine Zn ?_ | refine Zc ?_ | refine Zu fun b hb => ?_ | refine W.unroll (LoopW.mk1 ?_) | refine LoopW.mkK [0, 2, 5, 6, 7] [] ?_); conv => whnf) | (refine Zb (fun h => ?_) (fun h => ?_) <;> first | exact Zx | (conv => whnf))))
  all_goals first | exact Zrz | (exfalso; omega)
def opS (i _ : Nat) : D := match i with
  | 0 => .val (.int .i64 3)
  | _ => .val (.int .i64 4)
def mtS (_ : Unit) (j : Nat) : D := match j with
  | 0 => .val (.int .i64 0)
  | 1 => .val (.int .i64 1)
  | _ => .val (.int .i64 4)
abbrev mtO : D := .lst 3 1 (rowF mtS [()])
theorem sm_settle : ACalls XX 17 [.dat dI, .dat dE, iA 2, iA 1] (.tup [.dat mtO, iA 0]) := by
  have k1 := sm_dI
  have k2 := sm_dE
  refine ACalls.of (n := Tryz.f17.ntmps) XX_ok Tryz.func17 rfl (by kernel_rfl) rfl rfl (Nat.le_of_ble_eq_true rfl) ?_
  (repeat' (first | ((first | refine Zv 18 ?_ | refine Zn ?_ | refine Zc ?_ | refine Zu fun b hb => ?_ | refine Zy k1 ?_ | refine Zy k2 ?_ | refine W.unroll (LoopW.mk1 ?_) | refine LoopW.mkK [0, 1, 2, 3, 12, 57, 58, 59] [56] ?_); conv => whnf) | (refine Zb (fun h => ?_) (fun h => ?_) <;> first | exact Zx | (conv => whnf))))
  all_goals first | (exfalso; omega) | skip
  all_goals (conv => whnf)
  refine (W.adopt 15 126 62 3 (fun _ _ => .val undef) rfl rfl rfl rfl ?_)
  conv => whnf
  refine (W.weak ⟨[(0, .dat dI), (1, .dat dE), (2, iA 2), (3, iA 1), (12, .own 56 1 0 2), (15, .own 126 3 0 0)], [(126, .row 62 3 0 fun _ _ => .val undef), (56, .row 3 1 2 opS)]⟩ ?_ ?_ ?_)
  · exact Yz
  · (repeat' (first | exact Yq | refine ⟨_, rfl, Yb ?_, rfl⟩ | refine ⟨_, rfl, Yw (by first | rfl | omega) ?_, rfl⟩ | refine And.intro ?_ ?_))
    intro i hi j hj
    obtain rfl : j = 0 := by omega
    rcases i with _ | _ | i
    · exact Dle.refl _
    · exact Dle.refl _
    · omega
  conv => whnf
  (repeat' (first | ((first | refine Zg ?_ | refine Zn ?_ | refine Zc ?_ | refine Zu fun b hb => ?_ | refine W.unroll (LoopW.mk1 ?_) | refine LoopW.mkK [0, 1, 2, 3, 12, 15, 16, 17, 18, 70, 71, 72, 79, 80, 81] [17, 56, 126] ?_); conv => whnf) | (refine Zb (fun h => ?_) (fun h => ?_) <;> first | exact Zx | (conv => whnf))))
  all_goals first | (exfalso; omega) | skip
  (repeat' (first | exact Zrq | refine ResLe.agg ?_ | refine And.intro ?_ ?_ | ((conv => whnf); first | exact Zrq | refine ResLe.agg ?_ | refine And.intro ?_ ?_)))
  refine RowIs.res (enc := mtS) (us := [()]) rfl ⟨rfl, fun i hi j hj => ?_⟩ rfl
  obtain rfl : i = 0 := by omega
  rcases j with _ | _ | _ | j
  all_goals first | exact Dle.of_eq rfl | omega
abbrev fourL : D := .lst 2 1 fun _ j => match j with
  | 0 => .val (.string c1)
  | _ => .val (.int .i64 14)
theorem sm_asc : ACalls XX 55 [.dat fourL, iA 0, iA 1000000000000] (bA true) := by
  have h := yasc_t [⟨c1, 14⟩] 0 1000000000000 (by decide)
  rw [decide_eq_true (asc_one c1_ok (by decide) (by decide))] at h
  exact h.yargs ⟨lst_one rfl fun j hj => by rcases j with _ | _ | j <;> first | exact Dle.refl _ | omega, AVle.refl _, AVle.refl _, trivial⟩
theorem sm_batches : ACalls XX 18 [rcV, .dat fourL] (iA 2) := by
  have s1 := c1_sz
  have s2 : ([] : ML).length < maxLen := Nat.lt_of_lt_of_le (show 0 < 1 by decide) (by decide)
  have s3 : -9223372036854775808 ≤ (14 : Int) ∧ (14 : Int) ≤ 9223372036854775807 := by decide
  have g1 : getM (putM [] c1 14) c1 = 14 := by decide
  have k0 := sm_valid
  have k1 := sm_asc
  refine ACalls.of (n := Tryz.f18.ntmps) XX_ok Tryz.func18 rfl (by kernel_rfl) rfl rfl (Nat.le_of_ble_eq_true rfl) ?_
  (repeat' (first | ((first | refine Zg ?_ | refine Zn ?_ | refine Zc ?_ | refine Zu fun b hb => ?_ | refine Zy k0 ?_ | refine Zy k1 ?_ | refine W.unroll (LoopW.mk1 ?_) | refine LoopW.mk1 ?_ | refine Zc ?_ ⟨rfl, rfl, rfl, s1⟩ | refine Zc ?_ ⟨rfl, rfl, rfl, s1, s2, s3⟩); conv => whnf) | (refine Zb (fun h => ?_) (fun h => ?_) <;> first | exact Zx | (conv => whnf))))
  all_goals first | (exfalso; omega) | skip
  rw [g1]
  (repeat' (first | exact Zrq | refine ResLe.agg ?_ | refine And.intro ?_ ?_ | ((conv => whnf); first | exact Zrq | refine ResLe.agg ?_ | refine And.intro ?_ ?_)))
theorem Dle.one {s : Nat} {f g : Nat → Nat → D} (h : ∀ j, j < s → Dle (f 0 j) (g 0 j)) : Dle (.lst s 1 f) (.lst s 1 g) := Dle.lst rfl fun i hi j hj => by
  obtain rfl : i = 0 := by omega
  exact h j hj
theorem a_n1 : Dle (.lst 2 1 fun i j => pickF (tabB 1 2) [.val (.string c1), .val (.int .i64 5)] (i * 2 + j)) (.lst 2 1 ndF1) := Dle.one fun j hj => by rcases j with _ | _ | j <;> first | exact Dle.refl _ | omega
theorem a_n2 : Dle (.lst 2 1 fun i j => pickF (tabB 1 2) [.val (.string c2), .val (.int .i64 2)] (i * 2 + j)) (.lst 2 1 ndF2) := Dle.one fun j hj => by rcases j with _ | _ | j <;> first | exact Dle.refl _ | omega
theorem a_i1 : Dle (.lst 1 1 fun i j => pickF (tabB 1 1) [.val (.int .i64 1)] (i * 1 + j)) (.lst 1 1 fun _ _ => .val (.int .i64 1)) := Dle.one fun j hj => by rcases j with _ | j <;> first | exact Dle.refl _ | omega
theorem a_rc : AVle (.dat (.lst 4 1 fun i j => pickF (tabB 1 4) [.val (.int .i64 1), .lst 2 1 fun i j => pickF (tabB 1 2) [.val (.string c1), .val (.int .i64 5)] (i * 2 + j), .lst 2 1 fun i j => pickF (tabB 1 2) [.val (.string c2), .val (.int .i64 2)] (i * 2 + j), .lst 1 1 fun i j => pickF (tabB 1 1) [.val (.int .i64 1)] (i * 1 + j)] (i * 4 + j))) (.dat rcL) := AVle.dat (Dle.one fun j hj => by
  rcases j with _ | _ | _ | _ | j
  · exact Dle.refl _
  · exact a_n1
  · exact a_n2
  · exact a_i1
  · omega)
theorem a_rv : AVle (.agg [iA 1, .dat (.lst 2 1 fun i j => pickF (tabB 1 2) [.val (.string c1), .val (.int .i64 5)] (i * 2 + j)), .dat (.lst 2 1 fun i j => pickF (tabB 1 2) [.val (.string c2), .val (.int .i64 2)] (i * 2 + j)), .dat (.lst 1 1 fun i j => pickF (tabB 1 1) [.val (.int .i64 1)] (i * 1 + j))]) rcV := AVle.agg ⟨AVle.refl _, AVle.dat a_n1, AVle.dat a_n2, AVle.dat a_i1, trivial⟩
theorem a_dI : AVle (.dat (.lst 2 1 fun i j => pickF (tabB 1 2) [.val (.int .i64 10), .val (.int .i64 5)] (i * 2 + j))) (.dat dI) := AVle.dat (Dle.one fun j hj => by rcases j with _ | _ | j <;> first | exact Dle.refl _ | omega)
theorem a_dE : AVle (.dat (.lst 2 2 fun i j => pickF (tabB 2 2) [.val (.int .i64 8), .val (.int .i64 3), .val (.int .i64 12), .val (.int .i64 4)] (i * 2 + j))) (.dat dE) := AVle.dat (Dle.lst rfl fun i hi j hj => by
  rcases i with _ | _ | i <;> rcases j with _ | _ | j <;> first | exact Dle.refl _ | omega)
theorem a_fo : AVle (.dat (.lst 2 1 fun i j => pickF (tabB 1 2) [.val (.string c1), .val (.int .i64 14)] (i * 2 + j))) (.dat fourL) := AVle.dat (Dle.one fun j hj => by rcases j with _ | _ | j <;> first | exact Dle.refl _ | omega)
theorem sm_awake : ACalls XX 7 [] (bA true) := by
  have p1 := sm_explode.yargs (cs := [_, _, _]) ⟨a_rc, AVle.refl _, AVle.refl _, trivial⟩
  have p2 := sm_settle.yargs (cs := [_, _, _, _]) ⟨a_dI, a_dE, AVle.refl _, AVle.refl _, trivial⟩
  have p3 := sm_batches.yargs (cs := [_, _]) ⟨a_rv, a_fo, trivial⟩
  have he : EqS Tryz.prog 62 3 := eqS_mk Tryz.eqGuardType62 Tryz.underlying62 Tryz.stoodInHeld62 (by kernel_rfl) rfl
  refine ACalls.of (n := Tryz.f7.ntmps) XX_ok Tryz.func7 rfl (by kernel_rfl) rfl rfl (Nat.le_of_ble_eq_true rfl) ?_
  refine W.pb [8, 10, 11, 15, 22, 25, 73] ?_
  (repeat' (first | ((first | refine Zg ?_ | refine Zn ?_ | refine Zc ?_ | refine Zu fun b hb => ?_ | refine Zy (ACalls.at (p1)) ?_ | refine Zy (ACalls.at (p2)) ?_ | refine Zy (ACalls.at (p3)) ?_); conv => whnf) | (refine Zb (fun h => ?_) (fun h => ?_) <;> first | exact Zx | (conv => whnf))))
  all_goals first | ((repeat' (first | exact Zrq | exact Zi (by first | rfl | decide) | exact Zo (h := by first | rfl | decide) | refine ResLe.agg ?_ | refine And.intro ?_ ?_ | ((conv => whnf); first | exact Zrq | exact Zi (by first | rfl | decide) | exact Zo (h := by first | rfl | decide) | refine ResLe.agg ?_ | refine And.intro ?_ ?_))); done) | (exfalso; exact h rfl) | (exfalso; exact h (by decide)) | (exfalso; exact h trivial)
end Go.Proofs.YtacpjihbbmoolaaGreat

namespace Go.Proofs.YtacpjihbbmoolaaGreat
open Go Go.RowKit
set_option linter.unusedVariables false
set_option linter.unusedSimpArgs false
set_option maxRecDepth 100000
set_option maxHeartbeats 4000000
attribute [local irreducible] ResLe AVle ArgLe ArgP EntLe Dle ResH ArgQ strEq strLt

theorem W.share {X : Cx} {n : Nat} {c : Code} {Q : Exit → St → Prop} {G : Prop} {α : Type} (S : α → St) (P : α → Prop) (main : (∀ a, P a → W X n c (S a) Q) → G) (tail : ∀ a, P a → W X n c (S a) Q) : G := main tail
theorem W.join {X : Cx} {n : Nat} {c : Code} {Q : Exit → St → Prop} {α : Type} {S : α → St} {P : α → Prop} {st : St} (H : ∀ a, P a → W X n c (S a) Q) (a : α) (ha : P a) (hf : leF st (S a).fr) (hh : leH st (S a).hp) : W X n c st Q := W.weak (S a) hf hh (H a ha)
def nWp (ss : List Lt) : Nat → Int
  | 0 => 0
  | k + 1 => IntKind.i64.wrap (nWp ss k + ((ss.getD k default).us.length : Int))
theorem proL_len (ss : List Lt) (r : Rc) (b : Int) (ins outs : List Int) (ho : outs.length ≤ 1000) : (proL ss r b ins outs).length ≤ 2000 ∧ ∀ x ∈ proL ss r b ins outs, x.us.length ≤ 64 := by
  unfold proL
  by_cases h : proE ss r b ins outs = 0
  rotate_left
  · rw [if_neg h]
    simp
  rw [if_pos h]
  have hi := proE_inv h
  have hp := repl_perm ss ins (prParts ss r b ins outs outs.length)
  have hk : (keepI ss ins).length ≤ ss.length := List.length_filter_le _ _
  have hl := hi.1.len
  refine ⟨by rw [hp.length_eq, List.length_append, prParts_len]; omega, fun x hx => ?_⟩
  rcases List.mem_append.1 (hp.mem_iff.1 hx) with hx | hx
  · exact hi.1.us x (List.mem_filter.1 hx).1
  · obtain ⟨k, hk, rfl⟩ := List.mem_map.1 hx
    have hk := List.mem_range.1 hk
    exact hi.2.2.2.2.2.2.2.2.2.2.2.2.2.1 k hk
abbrev PLt := List Lt × Rc × Int × List Int × List Int
structure PLc (q : PLt) : Prop where
  s : q.1.length ≤ 9223372036854775807
  c : ∀ x ∈ q.1, x.c.size ≤ 9223372036854775807
  ri : q.2.1.ins.length ≤ 9223372036854775807
  ro : q.2.1.outs.length ≤ 9223372036854775807
  rs : q.2.1.sc.length ≤ 9223372036854775807
  rci : ∀ x ∈ q.2.1.ins, x.c.size ≤ 9223372036854775807
  rco : ∀ x ∈ q.2.1.outs, x.c.size ≤ 9223372036854775807
  i : q.2.2.2.1.length ≤ 9223372036854775807
  o : q.2.2.2.2.length ≤ 9223372036854775807
abbrev PLs (q : PLt) : St := ⟨[(17, .dat (ltD q.1)), (11, .ptr 11 0), (4, iA q.2.2.1), (5, .dat (iD q.2.2.2.1)), (6, .dat (iD q.2.2.2.2))], [(11, .blk 26 [iA q.2.1.id, .dat (ndD q.2.1.ins), .dat (ndD q.2.1.outs), .dat (iD q.2.1.sc)])]⟩
theorem lawProcess_t (x0 x1 : List Int) (sr : List Lt) (rr : Rc) (bb : Int) (Ir Or : List Int) (a7 : Int) (k0 : x0.length ≤ 9223372036854775807) (k1 : x1.length ≤ 9223372036854775807) (hr : PLc (sr, rr, bb, Ir, Or)) :
    ACalls XX 3 [.dat (ilst x0), .dat (ilst x1), .dat (ltD sr), rcA rr, iA bb, .dat (iD Ir), .dat (iD Or), iA a7] (bA true) := by
  have hQ := sm_awake
  obtain ⟨n, ss, cs, f, hn, hA, kM⟩ := make_ex x0 k0
  obtain ⟨hE, hf, hcl⟩ := acts_est hA
  have hf1 := hE.f
  have hlen := hE.stk.len
  have hx2 : ∀ x ∈ ss, x.c.size ≤ 1000 := fun x hx => by
    have h1 := (hE.stk.ok x hx).2.1.1
    omega
  have hyq := fun x hx => (hE.stk.ok x hx).2.2.1
  unfold qOk at hyq
  have hR := recipes_t
  clear hA hE
  refine ACalls.of (n := Tryz.f3.ntmps) XX_ok Tryz.func3 rfl (by kernel_rfl) rfl rfl (Nat.le_of_ble_eq_true rfl) ?_
  apply W.share (X := XX) (n := Tryz.f3.ntmps) PLs PLc
  case main =>
    intro H
    by_cases c1 : andI IntKind.i64 a7 1 = 0
    rotate_left
    · (repeat' (first | ((first | refine Zv 17 ?_ | refine Zt dr3 ?_ | refine Zn ?_ | refine Zc ?_ | refine Zu fun b hb => ?_); conv => whnf) | (refine Zb (fun h => ?_) (fun h => ?_) <;> first | exact Zx | (conv => whnf))))
      all_goals first | (exfalso; omega) | skip
      refine W.join H (sr, rr, bb, Ir, Or) hr ?_ ?_
      · exact Yz
      · exact Yz
    by_cases c2 : 0 < ss.length ∧ andI IntKind.i64 a7 2 = 0
    rotate_left
    · (repeat' (first | ((first | refine Zv 17 ?_ | refine Zt dr3 ?_ | refine Zn ?_ | refine Zc ?_ | refine Zu fun b hb => ?_ | refine Zy kM ?_ | refine Zz kM ?_); conv => whnf) | (refine Zb (fun h => ?_) (fun h => ?_) <;> first | exact Zx | (conv => whnf))))
      all_goals first | (exfalso; omega) | skip
      all_goals refine W.join H (ss, rr, bb, Ir, Or) ⟨by simp only; omega, fun x hx => by have := hx2 x hx; omega, hr.ri, hr.ro, hr.rs, hr.rci, hr.rco, hr.i, hr.o⟩ ?_ ?_
      all_goals exact Yz
    obtain ⟨c2, c3⟩ := c2
    have n0 := next_h x1 0 3 k1 (by omega) (by omega)
    have r0 := nx_rng x1 0 (m := 3) (by omega)
    generalize nx x1 0 3 = v0 at *
    generalize ni x1 0 = i1 at *
    have n1 := next_h x1 i1 ss.length k1 (by omega) (by omega)
    have r1 := nx_rng x1 i1 (m := ss.length) (by omega)
    generalize nx x1 i1 ss.length = v1 at *
    generalize ni x1 i1 = i2 at *
    have n2 := next_h x1 i2 6 k1 (by omega) (by omega)
    have n3 := fun i => next_h x1 i ss.length k1 (by omega) (by omega)
    have r3 := fun i => nx_rng x1 i (m := ss.length) (by omega)
    have n4 := fun i => next_h x1 i 12 k1 (by omega) (by omega)
    have r4 := fun i => nx_rng x1 i (m := 12) (by omega)
    have hmem : rcs.getD v0.toNat default ∈ rcs := getD_in (by show v0.toNat < 3; omega)
    obtain ⟨⟨c4, c5⟩, c6, c7, c8, c9, c10⟩ := rcs_ok _ hmem
    have hkl : (0 : Int) ≤ v0 ∧ v0 < (rcs.length : Int) := ⟨r0.1, by show v0 < 3; omega⟩
    have hy := hyq _ (getD_in (show v1.toNat < ss.length by omega))
    clear hyq
    apply W.share (X := XX) (n := Tryz.f3.ntmps) (fun q : Nat × List Int => ⟨[(17, .dat (ltD ss)), (18, .ptr 18 0), (19, .ptr 46 0), (20, .ptr 20 0), (11, .ptr 11 0), (5, .dat (iD q.2)), (6, .dat (.val (.slice none 0 0)))], [(46, srcE x1 q.1), (18, .blk 29 [.dat (ltD ss), .dat (chD cs), iA f]), (20, .blk 39 [iA (ss.getD v1.toNat default).id, .dat (.val (.string (ss.getD v1.toNat default).c)), iA (ss.getD v1.toNat default).q, iA (ss.getD v1.toNat default).p, .dat (slD (ss.getD v1.toNat default).us)]), (11, .blk 26 [iA (rcs.getD v0.toNat default).id, .dat (ndD (rcs.getD v0.toNat default).ins), .dat (ndD (rcs.getD v0.toNat default).outs), .dat (iD (rcs.getD v0.toNat default).sc)])]⟩) (fun q => q.2.length ≤ 2)
    case main =>
      intro H2
      (repeat' (first | ((first | refine Zv 10 ?_ | refine Zt dr3 ?_ | refine Zn ?_ | refine Zc ?_ | refine Zu fun b hb => ?_ | refine Zy kM ?_ | refine Zz kM ?_ | refine ExCall.h [(5000, 46)] rfl n0 rfl ⟨rfl, trivial⟩ ?_ | refine CallK.h [(5000, 46)] rfl n0 rfl rfl ⟨rfl, trivial⟩ rfl rfl ?_ | refine Zy hR ?_ | refine Zz hR ?_ | refine ExCall.h [(5000, 46)] rfl n1 rfl ⟨rfl, trivial⟩ ?_ | refine CallK.h [(5000, 46)] rfl n1 rfl rfl ⟨rfl, trivial⟩ rfl rfl ?_); conv => whnf) | (refine Zb (fun h => ?_) (fun h => ?_) <;> first | exact Zx | (conv => whnf))))
      all_goals first | (exfalso; omega) | skip
      by_cases hn : (rcs.getD v0.toNat default).ins.length = 1
      · (repeat' (first | ((first | refine Zv 12 ?_ | refine Zt dr3 ?_ | refine Zn ?_ | refine Zc ?_ | refine Zu fun b hb => ?_ | refine ExCall.h [(5000, 46)] rfl n2 rfl ⟨rfl, trivial⟩ ?_ | refine CallK.h [(5000, 46)] rfl n2 rfl rfl ⟨rfl, trivial⟩ rfl rfl ?_ | refine ExCall.h [(5000, 46)] rfl (n3 _) rfl ⟨rfl, trivial⟩ ?_ | refine CallK.h [(5000, 46)] rfl (n3 _) rfl rfl ⟨rfl, trivial⟩ rfl rfl ?_ | refine Zc ?_ (r3 _)); conv => whnf) | (refine Zb (fun h => ?_) (fun h => ?_) <;> first | exact Zx | (conv => whnf))))
        all_goals first | (exfalso; omega) | skip
        all_goals refine (W.pubD 5 61 rfl rfl ?_)
        all_goals (conv => whnf)
        · refine W.join H2 (ni x1 (ni x1 i2), [(ss.getD v1.toNat default).id, (ss.getD (nx x1 (ni x1 i2) ss.length).toNat default).id]) (Nat.le_refl 2) ?_ ?_
          · (repeat' (first | exact Yq | refine ⟨_, rfl, Yb ?_, rfl⟩ | refine ⟨_, rfl, Yw (by first | rfl | omega) ?_, rfl⟩ | refine And.intro ?_ ?_))
            refine two_app (fun j hj => ?_) (fun j hj => ?_)
            all_goals (obtain rfl : j = 0 := by omega)
            all_goals exact Dle.refl _
          · exact Yz
        · refine W.join H2 (ni x1 i2, [(ss.getD v1.toNat default).id]) (Nat.le_succ 1) ?_ ?_
          · (repeat' (first | exact Yq | refine ⟨_, rfl, Yb ?_, rfl⟩ | refine ⟨_, rfl, Yw (by first | rfl | omega) ?_, rfl⟩ | refine And.intro ?_ ?_))
            exact one_int _
          · exact Yz
      · have hn2 : (rcs.getD v0.toNat default).ins.length = 2 := by omega
        (repeat' (first | ((first | refine Zv 12 ?_ | refine Zt dr3 ?_ | refine Zn ?_ | refine Zc ?_ | refine Zu fun b hb => ?_ | refine ExCall.h [(5000, 46)] rfl (n3 _) rfl ⟨rfl, trivial⟩ ?_ | refine CallK.h [(5000, 46)] rfl (n3 _) rfl rfl ⟨rfl, trivial⟩ rfl rfl ?_ | refine Zc ?_ (r3 _)); conv => whnf) | (refine Zb (fun h => ?_) (fun h => ?_) <;> first | exact Zx | (conv => whnf))))
        all_goals first | (exfalso; omega) | skip
        refine (W.pubD 5 61 rfl rfl ?_)
        conv => whnf
        refine W.join H2 (ni x1 i2, [(ss.getD v1.toNat default).id, (ss.getD (nx x1 i2 ss.length).toNat default).id]) (Nat.le_refl 2) ?_ ?_
        · (repeat' (first | exact Yq | refine ⟨_, rfl, Yb ?_, rfl⟩ | refine ⟨_, rfl, Yw (by first | rfl | omega) ?_, rfl⟩ | refine And.intro ?_ ?_))
          refine two_app (fun j hj => ?_) (fun j hj => ?_)
          all_goals (obtain rfl : j = 0 := by omega)
          all_goals exact Dle.refl _
        · exact Yz
    case tail =>
      intro ⟨i, I⟩ hI
      dsimp only at hI ⊢
      (repeat' (first | ((first | refine Zg ?_ | refine Zt dr3 ?_ | refine Zn ?_ | refine Zc ?_ | refine Zu fun b hb => ?_); conv => whnf) | (refine Zb (fun h => ?_) (fun h => ?_) <;> first | exact Zx | (conv => whnf))))
      refine (W.adopt 6 99 3 1 (rowF iE []) rfl rfl rfl rfl ?_)
      conv => whnf
      refine (W.loopK (ι := Nat × List Int) [17, 18, 19, 20, 11, 5] [18, 20, 11] (fun q => [(21, iA q.2.length), (6, .own 99 1 0 q.2.length)]) (fun q => [(46, srcE x1 q.1), (99, .row 3 1 q.2.length (rowF iE q.2))]) (fun q => q.2.length ≤ (rcs.getD v0.toNat default).outs.length) (fun q => (rcs.getD v0.toNat default).outs.length - q.2.length) (i, []) (Nat.zero_le _) ?_ ?_ ?_)
      · exact Yz
      · exact Yz
      conv => whnf
      intro ⟨i, O⟩ hO
      dsimp only at hO ⊢
      by_cases hO' : O.length < (rcs.getD v0.toNat default).outs.length
      · have n5 := n4 i
        have r5 := r4 i
        generalize nx x1 i 12 = v at *
        clear H
        (repeat' (first | ((first | refine Zg ?_ | refine Zt dr3 ?_ | refine Zn ?_ | refine Zc ?_ | refine Zu fun b hb => ?_ | refine ExCall.h [(5000, 46)] rfl n5 rfl ⟨rfl, trivial⟩ ?_ | refine CallK.h [(5000, 46)] rfl n5 rfl rfl ⟨rfl, trivial⟩ rfl rfl ?_); conv => whnf) | (refine Zb (fun h => ?_) (fun h => ?_) <;> first | exact Zx | (conv => whnf))))
        all_goals first | (exfalso; omega) | skip
        have hap : (O ++ [f + (O.length : Int) - v / 11]).length = O.length + 1 := by simp
        refine ⟨(ni x1 i, O ++ [f + (O.length : Int) - v / 11]), by dsimp only; omega, by dsimp only; omega, ?_, ?_, ?_, ?_⟩
        all_goals (try dsimp only)
        all_goals (repeat' (first | exact Yq | refine ⟨_, rfl, Yb ?_, rfl⟩ | refine ⟨_, rfl, Yw (by first | rfl | omega) ?_, rfl⟩ | refine And.intro ?_ ?_))
        all_goals first | (rw [hap]; exact Yq) | skip
        refine rowF_snoc rfl fun j hj => ?_
        obtain rfl : j = 0 := by omega
        exact Dle.refl _
      have hOl : O.length ≤ 2 := by omega
      (repeat' (first | ((first | refine Zg ?_ | refine Zn ?_ | refine Zc ?_ | refine Zu fun b hb => ?_); conv => whnf) | (refine Zb (fun h => ?_) (fun h => ?_) <;> first | exact Zx | (conv => whnf))))
      all_goals first | (exfalso; omega) | skip
      refine (W.pubD 6 99 rfl rfl ?_)
      conv => whnf
      have c8' : 0 < ((rcs.getD v0.toNat default).ins.getD (Int.toNat 0) default).q := c8
      (repeat' (first | ((first | refine Zv 17 ?_ | refine Zt dr3 ?_ | refine Zn ?_ | refine Zc ?_ | refine Zu fun b hb => ?_); conv => whnf) | (refine Zb (fun h => ?_) (fun h => ?_) <;> first | exact Zx | (conv => whnf))))
      all_goals first | (exfalso; omega) | skip
      refine W.join H (ss, rcs.getD v0.toNat default, (ss.getD v1.toNat default).q / ((rcs.getD v0.toNat default).ins.getD 0 default).q, I, O) ⟨by simp only; omega, fun x hx => by have := hx2 x hx; omega, by simp only; omega, by simp only; omega, by simp only; omega, fun x hx => by have := c9 x hx; omega, fun x hx => by have := c10 x hx; omega, by simp only; omega, by simp only; omega⟩ ?_ ?_
      · exact Yz
      · exact Yz
  case tail =>
    intro ⟨S, r, b, I, O⟩ ⟨q1, q2, q3, q4, q5, q6, q7, q8, q9⟩
    dsimp only at q1 q2 q3 q4 q5 q6 q7 q8 q9 ⊢
    (repeat' (first | ((first | refine Zg ?_ | refine Zt dr3 ?_ | refine Zn ?_ | refine Zc ?_ | refine Zu fun b hb => ?_); conv => whnf) | (refine Zb (fun h => ?_) (fun h => ?_) <;> first | exact Zx | (conv => whnf))))
    refine (W.loopK (ι := Nat) [17, 11, 4, 5, 6] [11] (fun k => [(23, iA k), (22, iA (nWp S k))]) (fun _ => []) (fun k => k ≤ S.length ∧ ∀ i, i < k → i < 80 ∧ nWp S (i + 1) ≤ 300) (fun k => S.length - k) 0 ⟨Nat.zero_le _, fun i hi => absurd hi (by omega)⟩ ?_ ?_ ?_)
    · exact Yz
    · exact Yz
    conv => whnf
    intro k ⟨hk, hz⟩
    by_cases hk' : k < S.length
    · by_cases hok : k < 80 ∧ nWp S (k + 1) ≤ 300
      · (repeat' (first | ((first | refine Zg ?_ | refine Zt dr3 ?_ | refine Zn ?_ | refine Zc ?_ | refine Zu fun b hb => ?_); conv => whnf) | (refine Zb (fun h => ?_) (fun h => ?_) <;> first | exact Zx | (conv => whnf))))
        refine NumK.as (nWp S (k + 1)) rfl ?_
        conv => whnf
        (repeat' (first | ((first | refine Zg ?_ | refine Zt dr3 ?_ | refine Zn ?_ | refine Zc ?_ | refine Zu fun b hb => ?_); conv => whnf) | (refine Zb (fun h => ?_) (fun h => ?_) <;> first | exact Zx | (conv => whnf))))
        all_goals first | (exfalso; omega) | skip
        refine ⟨k + 1, ⟨by omega, fun i hi => ?_⟩, by omega, ?_, ?_, ?_, ?_⟩
        · by_cases hik : i = k
          · subst hik; exact hok
          · exact hz i (by omega)
        all_goals exact Yz
      · (repeat' (first | ((first | refine Zg ?_ | refine Zt dr3 ?_ | refine Zn ?_ | refine Zc ?_ | refine Zu fun b hb => ?_); conv => whnf) | (refine Zb (fun h => ?_) (fun h => ?_) <;> first | exact Zx | (conv => whnf))))
        refine NumK.as (nWp S (k + 1)) rfl ?_
        conv => whnf
        (repeat' (first | ((first | refine Zg ?_ | refine Zt dr3 ?_ | refine Zn ?_ | refine Zc ?_ | refine Zu fun b hb => ?_ | refine Zy hQ ?_ | refine Zz hQ ?_); conv => whnf) | (refine Zb (fun h => ?_) (fun h => ?_) <;> first | exact Zx | (conv => whnf))))
        all_goals first | exact Zrz | (exfalso; omega)
    have hl80 : S.length ≤ 80 := by
      by_cases h81 : S.length ≤ 80
      · exact h81
      · have := (hz 80 (by omega)).1; omega
    clear hz
    by_cases h40 : I.length ≤ 40 ∧ O.length ≤ 40
    rotate_left
    · (repeat' (first | ((first | refine Zg ?_ | refine Zt dr3 ?_ | refine Zn ?_ | refine Zc ?_ | refine Zu fun b hb => ?_ | refine Zy hQ ?_ | refine Zz hQ ?_); conv => whnf) | (refine Zb (fun h => ?_) (fun h => ?_) <;> first | exact Zx | (conv => whnf))))
      all_goals first | exact Zrz | (exfalso; omega)
    have d1 := yprocess_t S r b I O (by omega) q2 q3 q4 q5 (by omega) (by omega)
    have d2 := rprocess_t S r b I O (by omega) q2 q3 q4 q5 q6 q7 (by omega) (by omega)
    obtain ⟨e1, e2⟩ := proL_len S r b I O (by omega)
    have d3 := rsameStock_t (proL S r b I O) (by omega) (fun x hx => by have := e2 x hx; omega)
    rw [yE_pro, yL_pro] at d1
    clear e1 e2
    generalize proL S r b I O = PL at *
    generalize proE S r b I O = PE at *
    (repeat' (first | ((first | refine Zg ?_ | refine Zt dr3 ?_ | refine Zn ?_ | refine Zc ?_ | refine Zu fun b hb => ?_ | refine Zy d1 ?_ | refine Zz d1 ?_ | refine Zy d2 ?_ | refine Zz d2 ?_ | refine Zy d3 ?_ | refine Zz d3 ?_ | refine Zy hQ ?_ | refine Zz hQ ?_); conv => whnf) | (refine Zb (fun h => ?_) (fun h => ?_) <;> first | exact Zx | (conv => whnf))))
    all_goals first | exact Zrz | (exfalso; omega) | (exfalso; simp_all; done)
end Go.Proofs.YtacpjihbbmoolaaGreat
