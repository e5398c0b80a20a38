/- Setting a reservation. -/
import Derived.Test.YteilknlokjfelaaGua2
import Derived.Test.YteilknlokjfelaaGua4
namespace Go.Proofs.Yteilknlokjfelaa
open Go.RowKit Go.Sort
set_option linter.unusedVariables false
set_option linter.unusedSimpArgs false

/-- The uses of a guarantee that comes in. -/
structure GuIn (w : World) (A : Option Addr) (c : Nat) (us : List Rv) : Prop where
  rd : Rvs w w.heap.size A us
  le : us.length ≤ c
  cap : c ≤ maxLen
  nil : A = none → c = 0
theorem GuIn.ext {w w' : World} {A : Option Addr} {c : Nat} {us : List Rv} (h : GuIn w A c us) (hb : Below w.heap.size w w') : GuIn w' A c us := ⟨RowsW.ext h.rd hb, h.le, h.cap, h.nil⟩

def setL (us : List Rv) (mv need : Int) (i : Nat) : List Rv := us.take i ++ ([⟨mv, need⟩] ++ us.drop (if foundB us mv i then i + 1 else i))
def rngOk (mv a : Int) : Prop := 1 ≤ mv ∧ mv ≤ 1000000 ∧ 0 ≤ a ∧ a ≤ 1000000000000
instance (mv a : Int) : Decidable (rngOk mv a) := by unfold rngOk; exact inferInstance
/-- The error of Set (P23.3). -/
def setE (id rf lv : Int) (us : List Rv) (mv a : Int) (i : Nat) : Int :=
  if guE id rf lv us ≠ 0 then guE id rf lv us else if ¬ rngOk mv a then 2 else if foundB us mv i = false ∧ 64 ≤ us.length then 8 else if rf < sumA (setL us mv (reqS lv a).1 i) then 16 else 0

def zeroG : Value := gv 0 0 0 none 0 0
def SetErr (w : World) (E : Int) (e : Ending) (w' : World) : Prop := e = .returned (.tuple #[zeroG, .int .i64 E]) ∧ Below w.heap.size w w'
def SetOk (w : World) (id rf lv : Int) (l : List Rv) (e : Ending) (w' : World) : Prop := (∃ A c, e = .returned (.tuple #[gv id rf lv A l.length c, .int .i64 0]) ∧ GuIn w' A c l) ∧ Below w.heap.size w w'

theorem asc_of {us : List Rv} (h : ∀ k, k < us.length - 1 → oErr us k = 0) : Asc us := by
  have step : ∀ k (hk : k + 1 < us.length), us[k].m < us[k + 1].m := by
    intro k hk
    have h0 := h k (by omega)
    rw [oErr_at us us[k] us[k + 1] k (List.getElem?_eq_getElem _) (List.getElem?_eq_getElem _)] at h0
    by_cases hm : us[k].m < us[k + 1].m
    · exact hm
    · rw [if_neg hm] at h0; cases h0
  intro j k hj hk hjk
  obtain ⟨d, rfl⟩ : ∃ d, k = j + 1 + d := ⟨k - j - 1, by omega⟩
  induction d with
  | zero => exact step j hk
  | succ d ih =>
    have := ih (by omega) (by omega)
    have := step (j + 1 + d) (by omega)
    show us[j].m < us[j + 1 + d + 1].m
    omega

set_option maxRecDepth 100000 in
set_option maxHeartbeats 1000000 in
theorem set_bad (w : World) (id rf lv mv a : Int) (A : Option Addr) (c : Nat) (us : List Rv) (hG : GuIn w A c us) (hn : us.length ≤ maxLen) (h : guE id rf lv us ≠ 0) :
    Calls Try.prog 19 #[gv id rf lv A us.length c, .int .i64 mv, .int .i64 a] w (SetErr w (guE id rf lv us)) := by
  have hV := fun W (h : Rvs W W.heap.size A us) => guValidate_any W id rf lv A c us h hn
  unfold gv at hV ⊢
  have HV := Lib.hid hV
  have hA2 : Rvs ((w.alloc (.cells #[.int .i64 id, .int .i64 rf, .int .i64 lv, .slice A us.length c] 25)).alloc (.cells #[.int .i64 0, .int .i64 0, .int .i64 0, .slice none 0 0] 25)) _ A us := (hG.ext (by repeat (first | exact Below.refl _ _ | assumption | refine ext_alloc ?_ _ | refine Below.drew ?_ | refine drewN_below ?_ _ | refine ext_trans ?_ (by assumption) | refine Below.alloc ?_ ?_ _ | refine Below.setCell ?_ ?_ _ | omega | (simp <;> omega)))).rd
  have hb : (guE id rf lv us != 0) = true := by simpa using h
  clear hV h
  go_enter Try.func19, Try.ntmps19
  (go_wp2_with fail; refine (HV.out _ hA2).mono ?_; rintro e w1 ⟨rfl, hb1⟩; obtain ⟨hc1, hf1⟩ := bcell hb1; have z1_w_0 : w.heap.size < w1.heap.size := (by have zz := hb1.size; (try simp at zz); omega); have z1_w_1 : w.heap.size + 1 < w1.heap.size := (by have zz := hb1.size; (try simp at zz); omega))
  go_wp2_with fail
  refine bodyPost_ret (v := .tuple #[zeroG, .int .i64 (guE id rf lv us)]) (by simp [results, Try.results19, go_sem, hc1, zeroG, gv] <;> first | assumption | omega) rfl ?_
  exact ⟨rfl, (by repeat (first | exact Below.refl _ _ | assumption | refine ext_alloc ?_ _ | refine Below.drew ?_ | refine drewN_below ?_ _ | refine ext_trans ?_ (by assumption) | refine Below.alloc ?_ ?_ _ | refine Below.setCell ?_ ?_ _ | omega | (simp <;> omega)))⟩

set_option maxRecDepth 100000 in
set_option maxHeartbeats 1000000 in
theorem set_rng (w : World) (id rf lv mv a : Int) (A : Option Addr) (c : Nat) (us : List Rv) (hG : GuIn w A c us) (hn : us.length ≤ maxLen) (h : guE id rf lv us = 0) (hr : ¬ rngOk mv a) :
    Calls Try.prog 19 #[gv id rf lv A us.length c, .int .i64 mv, .int .i64 a] w (SetErr w 2) := by
  have hV := fun W (h : Rvs W W.heap.size A us) => guValidate_any W id rf lv A c us h hn
  unfold gv at hV ⊢
  rw [h] at hV
  have HV := Lib.hid hV
  have hA2 : Rvs ((w.alloc (.cells #[.int .i64 id, .int .i64 rf, .int .i64 lv, .slice A us.length c] 25)).alloc (.cells #[.int .i64 0, .int .i64 0, .int .i64 0, .slice none 0 0] 25)) _ A us := (hG.ext (by repeat (first | exact Below.refl _ _ | assumption | refine ext_alloc ?_ _ | refine Below.drew ?_ | refine drewN_below ?_ _ | refine ext_trans ?_ (by assumption) | refine Below.alloc ?_ ?_ _ | refine Below.setCell ?_ ?_ _ | omega | (simp <;> omega)))).rd
  clear hV h
  unfold rngOk at hr
  go_enter Try.func19, Try.ntmps19
  (go_wp2_with fail; refine (HV.out _ hA2).mono ?_; rintro e w1 ⟨rfl, hb1⟩; obtain ⟨hc1, hf1⟩ := bcell hb1; have z1_w_0 : w.heap.size < w1.heap.size := (by have zz := hb1.size; (try simp at zz); omega); have z1_w_1 : w.heap.size + 1 < w1.heap.size := (by have zz := hb1.size; (try simp at zz); omega))
  go_wp2_with fail
  all_goals
    refine bodyPost_ret (v := .tuple #[zeroG, .int .i64 2]) (by simp [results, Try.results19, go_sem, hc1, zeroG, gv] <;> first | assumption | omega) rfl ?_
    exact ⟨rfl, (by repeat (first | exact Below.refl _ _ | assumption | refine ext_alloc ?_ _ | refine Below.drew ?_ | refine drewN_below ?_ _ | refine ext_trans ?_ (by assumption) | refine Below.alloc ?_ ?_ _ | refine Below.setCell ?_ ?_ _ | omega | (simp <;> omega)))⟩

theorem OwnR.gua {w : World} {B : Nat} {v : Value} {l : List Rv} (h : OwnR w B 39 2 v (l.map Rv.cells)) : ∃ A c, v = .slice A l.length c ∧ GuIn w A c l := by
  rcases h.2 with ⟨rfl, h0⟩ | ⟨g, cap, cur, hv, _⟩
  · have : l = [] := List.eq_nil_of_length_eq_zero (by simpa using h0)
    subst this
    exact ⟨none, 0, rfl, RowsW.nil, by simp, by simp [maxLen], fun _ => rfl⟩
  · obtain ⟨A, c, rfl, h1, h2, h3, _⟩ := OwnR.reads h (by simp [Rv.cells])
    rw [List.length_map] at h1 hv ⊢
    refine ⟨A, c, rfl, h3, h1, h2, fun e => ?_⟩
    subst e
    injection hv with e1
    cases e1
theorem Reads.one {w : World} {g : Nat} {t : TypeId} {x : Rv} (h : Blk w g t #[.int .i64 x.m, .int .i64 x.a]) : Reads w w.heap.size 2 (some ⟨g, 0, none⟩) 1 (([x].map Rv.cells).flatten) := by
  refine ⟨rfl, fun _ => ⟨_, rfl, h.lt, fun j u hu => ?_⟩⟩
  rw [addr_plain, h.cell j]
  match j, hu with
  | 0, hu => exact hu
  | 1, hu => exact hu
  | j + 2, hu => simp [Rv.cells] at hu
theorem rvSum_set (us : List Rv) (mv need : Int) (i : Nat) (h : ∀ x ∈ us, RvIn x) (hn : 0 ≤ need ∧ need ≤ 1000000000000) : ∀ x ∈ setL us mv need i, 0 ≤ x.a ∧ x.a ≤ 1000000000000 := by
  intro x hx
  unfold setL at hx
  simp only [List.mem_append, List.mem_singleton] at hx
  rcases hx with hx | hx | hx
  · exact ⟨(h x (List.mem_of_mem_take hx)).2.2.1, (h x (List.mem_of_mem_take hx)).2.2.2⟩
  · subst hx; exact hn
  · exact ⟨(h x (List.mem_of_mem_drop hx)).2.2.1, (h x (List.mem_of_mem_drop hx)).2.2.2⟩
theorem found_lt {us : List Rv} {mv : Int} {i : Nat} (h : foundB us mv i = true) : i < us.length := by
  rcases Nat.lt_or_ge i us.length with h1 | h1
  · exact h1
  · unfold foundB at h; rw [List.getElem?_eq_none h1] at h; cases h
theorem reqS_rng (lv a : Int) (hl : 0 ≤ lv ∧ lv ≤ 1000000) (ha : 0 ≤ a ∧ a ≤ 1000000000000) : (reqS lv a).2 = 0 ∧ 0 ≤ (reqS lv a).1 ∧ (reqS lv a).1 ≤ 1000000000000 := by
  rw [reqS_ok lv a (by omega)]
  have h1 : 0 ≤ a * lv := Int.mul_nonneg ha.1 hl.1
  have h2 : a * lv ≤ 1000000000000 * 1000000 := Int.mul_le_mul ha.2 hl.2 hl.1 (by omega)
  refine ⟨rfl, ?_, ?_⟩ <;> dsimp only <;> omega

/-- What a good Set comes to. -/
def SetEnd (w : World) (id rf lv : Int) (us : List Rv) (mv a : Int) (e : Ending) (w' : World) : Prop :=
  ∃ i, PlaceIs us mv i ∧ if setE id rf lv us mv a i = 0 then SetOk w id rf lv (setL us mv (reqS lv a).1 i) e w' else SetErr w (setE id rf lv us mv a i) e w'

set_option maxRecDepth 100000 in
set_option maxHeartbeats 2000000 in
theorem set_any (w : World) (id rf lv mv a : Int) (A : Option Addr) (c : Nat) (us : List Rv) (hG : GuIn w A c us) (h : guE id rf lv us = 0) (hr : rngOk mv a) :
    Calls Try.prog 19 #[gv id rf lv A us.length c, .int .i64 mv, .int .i64 a] w (SetEnd w id rf lv us mv a) := by
  obtain ⟨hh, hl, hin, hord, hsum⟩ := guE_zero h
  have hn : us.length ≤ maxLen := by unfold maxLen; omega
  have hV := fun W (h : Rvs W W.heap.size A us) => guValidate_any W id rf lv A c us h hn
  have hS := fun W (h : Rvs W W.heap.size A us) => search_any W A c us mv h (by omega) (asc_of hord)
  have hQ := required_any id rf lv a A us.length c
  obtain ⟨q1, q2, q3⟩ := reqS_rng lv a ⟨hh.2.2.2.2.1, hh.2.2.2.2.2⟩ ⟨hr.2.2.1, hr.2.2.2⟩
  have HE := Lib.hid fun i => show setE id rf lv us mv a i = if foundB us mv i = false ∧ 64 ≤ us.length then 8 else if rf < sumA (setL us mv (reqS lv a).1 i) then 16 else 0 by
    unfold setE; rw [if_neg (by simp [h]), if_neg (by simpa using hr)]
  have HL := Lib.hid fun i => rvSum_set us mv (reqS lv a).1 i hin ⟨q2, q3⟩
  unfold pairV_ at hQ
  rw [q1] at hQ
  unfold gv at hV hQ ⊢
  rw [h] at hV
  have HV := Lib.hid hV
  have HS := Lib.hid hS
  have HQ := Lib.hid hQ
  have HG := Lib.hid hG
  have hA2 : GuIn ((w.alloc (.cells #[.int .i64 id, .int .i64 rf, .int .i64 lv, .slice A us.length c] 25)).alloc (.cells #[.int .i64 0, .int .i64 0, .int .i64 0, .slice none 0 0] 25)) A c us := hG.ext (by repeat (first | exact Below.refl _ _ | assumption | refine ext_alloc ?_ _ | refine Below.drew ?_ | refine drewN_below ?_ _ | refine ext_trans ?_ (by assumption) | refine Below.alloc ?_ ?_ _ | refine Below.setCell ?_ ?_ _ | omega | (simp <;> omega)))
  have kb : Blk ((w.alloc (.cells #[.int .i64 id, .int .i64 rf, .int .i64 lv, .slice A us.length c] 25)).alloc (.cells #[.int .i64 0, .int .i64 0, .int .i64 0, .slice none 0 0] 25)) w.heap.size 25 #[.int .i64 id, .int .i64 rf, .int .i64 lv, .slice A us.length c] := (Blk.new w _ _).alloc _
  have kz : Blk ((w.alloc (.cells #[.int .i64 id, .int .i64 rf, .int .i64 lv, .slice A us.length c] 25)).alloc (.cells #[.int .i64 0, .int .i64 0, .int .i64 0, .slice none 0 0] 25)) (w.heap.size + 1) 25 #[.int .i64 0, .int .i64 0, .int .i64 0, .slice none 0 0] := Blk.newAt (by simp)
  have HA2 := Lib.hid hA2
  have HB := Lib.hid kb
  have HZ := Lib.hid kz
  obtain ⟨r1, r2, r3, r4⟩ := hr
  clear hV hS hQ hG hA2 kb kz hin hord h q1 hh
  go_enter Try.func19, Try.ntmps19
  (go_wp2_with fail; refine (HV.out _ HA2.out.rd).mono ?_; rintro e w1 ⟨rfl, hb1⟩; obtain ⟨hc1, hf1⟩ := bcell hb1; have z1_w_0 : w.heap.size < w1.heap.size := (by have zz := hb1.size; (try simp at zz); omega); have z1_w_1 : w.heap.size + 1 < w1.heap.size := (by have zz := hb1.size; (try simp at zz); omega))
  go_wp2_with fail
  refine (HS.out _ (HA2.out.ext hb1).rd).mono ?_
  rintro e w2 ⟨⟨i, hi, rfl⟩, hb2⟩
  have HI := Lib.hid hi
  clear hi
  obtain ⟨hc2, hf2⟩ := bcell hb2
  have z2_0 : w.heap.size < w2.heap.size := by have := hb1.size; have := hb2.size; simp at *; omega
  have z2_1 : w.heap.size + 1 < w2.heap.size := by have := hb1.size; have := hb2.size; simp at *; omega
  by_cases hlim : foundB us mv i = false ∧ 64 ≤ us.length
  · have HX : Hid (setE id rf lv us mv a i = 8) := by show setE _ _ _ _ _ _ _ = _; rw [HE.out, if_pos hlim]
    obtain ⟨l1, l2⟩ := hlim
    have l3 : (64 : Int) ≤ us.length := by omega
    go_wp2_with fail
    refine bodyPost_ret (v := .tuple #[zeroG, .int .i64 8]) (by simp [results, Try.results19, go_sem, hc1, hc2, z1_w_0, z1_w_1, zeroG, gv] <;> first | assumption | omega) rfl ?_
    refine ⟨i, HI.out, ?_⟩
    rw [HX.out, if_neg (by decide)]
    exact ⟨rfl, (by repeat (first | exact Below.refl _ _ | assumption | refine ext_alloc ?_ _ | refine Below.drew ?_ | refine drewN_below ?_ _ | refine ext_trans ?_ (by assumption) | refine Below.alloc ?_ ?_ _ | refine Below.setCell ?_ ?_ _ | omega | (simp <;> omega)))⟩
  · have HX := Lib.hid (show setE id rf lv us mv a i = if rf < sumA (setL us mv (reqS lv a).1 i) then 16 else 0 by rw [HE.out, if_neg hlim])
    obtain ⟨t, ht⟩ : ∃ t, t = if foundB us mv i = true then i + 1 else i := ⟨_, rfl⟩
    have htl : t ≤ us.length := by
      rw [ht]; split
      · have := found_lt ‹_›; omega
      · exact HI.out.1
    have hil := HI.out.1
    have hset : setL us mv (reqS lv a).1 i = us.take i ++ ([⟨mv, (reqS lv a).1⟩] ++ us.drop t) := by rw [ht]; rfl
    have HSl := Lib.hid hset
    have HLi := Lib.hid (HL.out i)
    have lenL : (setL us mv (reqS lv a).1 i).length ≤ 1000 := by rw [hset]; simp; omega
    have hlim2 : foundB us mv i = false → ¬ (64 : Int) ≤ us.length := fun h h2 => hlim ⟨h, by omega⟩
    generalize hneed : (reqS lv a).1 = need at *
    have HN := Lib.hid hneed
    clear hneed
    clear hset hlim
    have HT := Lib.hid ht
    cases hf : foundB us mv i
    · have hl3 := hlim2 hf
      rw [hf] at HT
      obtain rfl : i = t := HT.out.symm
      clear hlim2 HT ht
      (go_wp2_with fail; refine (HQ.out _).mono ?_; rintro e w3 ⟨rfl, hb3⟩; obtain ⟨hc3, hf3⟩ := bcell hb3)
      have hbW3 : Below w.heap.size w w3 := (by repeat (first | exact Below.refl _ _ | assumption | refine ext_alloc ?_ _ | refine Below.drew ?_ | refine drewN_below ?_ _ | refine ext_trans ?_ (by assumption) | refine Below.alloc ?_ ?_ _ | refine Below.setCell ?_ ?_ _ | omega | (simp <;> omega)))
      have hX3 : Blk (w3.alloc (Obj.cells #[.int .i64 mv, .int .i64 need] 39)) w3.heap.size 39 #[.int .i64 mv, .int .i64 need] := Blk.new _ _ _
      have hG3 := ((((HA2.out.ext hb1).ext hb2).ext hb3).ext (below_alloc_refl w3 (Obj.cells #[.int .i64 mv, .int .i64 need] 39)))
      have hSp := splice_any _ A _ c 1 us [⟨mv, need⟩] i i hG3.rd (Reads.one (x := ⟨mv, need⟩) hX3) (by omega) (by simp) hG3.le hG3.cap hil htl hG3.nil
      rw [← HSl.out] at hSp
      have HSp := Lib.hid hSp
      have kb3 := ((((HB.out.ext hb1).ext hb2).ext hb3).ext (below_alloc_refl w3 (Obj.cells #[.int .i64 mv, .int .i64 need] 39)))
      have kz3 := ((((HZ.out.ext hb1).ext hb2).ext hb3).ext (below_alloc_refl w3 (Obj.cells #[.int .i64 mv, .int .i64 need] 39)))
      have HB3 := Lib.hid kb3
      have HZ3 := Lib.hid kz3
      clear hSp kb3 kz3 hX3 hG3
      go_wp2_with fail
      refine HSp.out.mono ?_
      rintro e w4 ⟨⟨v, rfl, hown⟩, hb4⟩
      have kb4 := HB3.out.ext hb4
      have kz4 := HZ3.out.ext hb4
      have hb4' := hbW3.alloc hbW3.size (Obj.cells #[.int .i64 mv, .int .i64 need] 39)
      have hbW4 : Below w.heap.size w w4 := ext_trans hb4' hb4
      have HO := Lib.hid hown
      have x3 := kb4.cell 3
      have xf := kb4.frozen 3
      simp only [List.getElem?_toArray, List.getElem?_cons_zero, List.getElem?_cons_succ] at x3
      obtain ⟨A', c', rfl, _⟩ := OwnR.gua hown
      have HB4 := Lib.hid kb4
      have HZ4 := Lib.hid kz4
      clear hown kb4 kz4 hb4' hc1 hc2 hc3 hf1 hf2 hf3
      go_wp2_with fail
      refine wp_name (fun W => Blk W w.heap.size 25 #[.int .i64 id, .int .i64 rf, .int .i64 lv, .slice A' (setL us mv need i).length c'] ∧ Blk W (w.heap.size + 1) 25 #[.int .i64 0, .int .i64 0, .int .i64 0, .slice none 0 0] ∧ Below w.heap.size w W ∧ OwnR W (w3.heap.size + 1) 39 2 (.slice A' (setL us mv need i).length c') ((setL us mv need i).map Rv.cells)) ⟨HB4.out.set_ 3 _, HZ4.out.far (by show _ ≠ _; simp) _, hbW4.setCell (Nat.le_refl _) _, ?_⟩ ?_
      · have ho := OwnR.kept HO.out (only_setCell (g := w.heap.size) (only_refl w4 _) (p := ⟨w.heap.size, 3, none⟩) (.inl rfl) (.slice A' (setL us mv need i).length c')) (.inr (OwnR.ne HO.out HB4.out (by decide)))
        rwa [World.size_alloc] at ho
      rintro W ⟨kbW, kzW, hbW, hoW⟩
      have HOW := Lib.hid hoW
      have hgW : GuIn W A' c' (setL us mv need i) := by
        obtain ⟨A2, c2, hv, hg⟩ := OwnR.gua hoW
        injection hv with e1 e2 e3
        subst e1 e3
        exact hg
      have HBW := Lib.hid kbW
      have HZW := Lib.hid kzW
      have y1 := kbW.cell 1
      have y3 := kbW.cell 3
      simp only [List.getElem?_toArray, List.getElem?_cons_zero, List.getElem?_cons_succ] at y1 y3
      have z1 := cell_regrown y1
      have z3 := cell_regrown y3
      have C2 := Lib.hid fun d os => Calls.regrown_of (reserved_any (grow (redrawn W d) os) A' c' (setL us mv need i) (RowsW.ext hgW.rd (below_regrown W d os)) lenL HLi.out)
      have HGW := Lib.hid hgW
      clear y1 y3 kbW kzW hgW hoW x3 xf
      generalize hll : setL us mv need i = l at *
      have HLl := Lib.hid hll
      clear hll
      by_cases hs : rf < sumA l
      · have HX2 : Hid (setE id rf lv us mv a i = 16) := by show setE _ _ _ _ _ _ _ = _; rw [HX.out, if_pos hs]
        (refine wp_region_quiet_below (by kernel_rfl) (by kernel_rfl) ?_; (repeat (first | go_big_quiet_step ((exact C2.out _ _)) | quiet_step ((exact C2.out _ _)))); refine wpQuiet_nil ?_; intro _ hwq; obtain ⟨⟨dq, osq⟩, hwq'⟩ := hwq; subst hwq')
        have hq := below_regrown W dq osq
        generalize grow (redrawn W dq) osq = W5 at *
        have k5 := HZW.out.ext hq
        have y0 := k5.cell 0
        have y1 := k5.cell 1
        have y2 := k5.cell 2
        have y3 := k5.cell 3
        simp only [List.getElem?_toArray, List.getElem?_cons_zero, List.getElem?_cons_succ] at y0 y1 y2 y3
        have yf : ∀ j, W5.frozen? ⟨w.heap.size + 1, j, none⟩ = false := fun j => k5.frozen j
        go_wp2_with fail
        refine bodyPost_ret (v := .tuple #[zeroG, .int .i64 16]) (by simp [results, Try.results19, go_sem, y0, y1, y2, y3, yf, zeroG, gv] <;> first | assumption | omega) rfl ?_
        refine ⟨i, HI.out, ?_⟩
        rw [HX2.out, if_neg (by decide)]
        exact ⟨rfl, (by repeat (first | exact Below.refl _ _ | assumption | refine ext_alloc ?_ _ | refine Below.drew ?_ | refine drewN_below ?_ _ | refine ext_trans ?_ (by assumption) | refine Below.alloc ?_ ?_ _ | refine Below.setCell ?_ ?_ _ | omega | (simp <;> omega)))⟩
      · have HX2 : Hid (setE id rf lv us mv a i = 0) := by show setE _ _ _ _ _ _ _ = _; rw [HX.out, if_neg hs]
        (refine wp_region_quiet_below (by kernel_rfl) (by kernel_rfl) ?_; (repeat (first | go_big_quiet_step ((exact C2.out _ _)) | quiet_step ((exact C2.out _ _)))); refine wpQuiet_nil ?_; intro _ hwq; obtain ⟨⟨dq, osq⟩, hwq'⟩ := hwq; subst hwq')
        have hq := below_regrown W dq osq
        generalize grow (redrawn W dq) osq = W5 at *
        have k5 := HZW.out.ext hq
        have k6 := HBW.out.ext hq
        have y0 := k5.cell 0
        have y1 := k5.cell 1
        have y2 := k5.cell 2
        have y3 := k5.cell 3
        have x0 := k6.cell 0
        have x1 := k6.cell 1
        have x2 := k6.cell 2
        have x3 := k6.cell 3
        simp only [List.getElem?_toArray, List.getElem?_cons_zero, List.getElem?_cons_succ] at y0 y1 y2 y3 x0 x1 x2 x3
        have yf : ∀ j, W5.frozen? ⟨w.heap.size + 1, j, none⟩ = false := fun j => k5.frozen j
        go_wp2_with fail
        refine bodyPost_ret (v := .tuple #[gv id rf lv A' l.length c', .int .i64 0]) (by simp [results, Try.results19, go_sem, y0, y1, y2, y3, yf, gv] <;> first | assumption | omega) rfl ?_
        refine ⟨i, HI.out, ?_⟩
        rw [HX2.out, if_pos rfl, HN.out, HLl.out]
        have ho5 := OwnR.ext HOW.out hq
        have ho6 := OwnR.kept ho5 (only_setCell (g := w.heap.size + 1) (only_setCell (g := w.heap.size + 1) (only_setCell (g := w.heap.size + 1) (only_setCell (g := w.heap.size + 1) (only_refl W5 _) (p := ⟨w.heap.size + 1, 0, none⟩) (.inl rfl) (.int .i64 id)) (p := ⟨w.heap.size + 1, 1, none⟩) (.inl rfl) (.int .i64 rf)) (p := ⟨w.heap.size + 1, 2, none⟩) (.inl rfl) (.int .i64 lv)) (p := ⟨w.heap.size + 1, 3, none⟩) (.inl rfl) (.slice A' l.length c')) (.inr (OwnR.ne ho5 (HZW.out.ext hq) (by decide)))
        obtain ⟨A2, c2, hv, hg⟩ := OwnR.gua ho6
        injection hv with e1 e2 e3
        subst e1 e3
        exact ⟨⟨_, _, rfl, hg⟩, (by repeat (first | exact Below.refl _ _ | assumption | refine ext_alloc ?_ _ | refine Below.drew ?_ | refine drewN_below ?_ _ | refine ext_trans ?_ (by assumption) | refine Below.alloc ?_ ?_ _ | refine Below.setCell ?_ ?_ _ | omega | (simp <;> omega)))⟩
    · rw [hf] at HT
      obtain rfl : t = i + 1 := HT.out
      clear hlim2 HT ht
      (go_wp2_with fail; refine (HQ.out _).mono ?_; rintro e w3 ⟨rfl, hb3⟩; obtain ⟨hc3, hf3⟩ := bcell hb3)
      have hbW3 : Below w.heap.size w w3 := (by repeat (first | exact Below.refl _ _ | assumption | refine ext_alloc ?_ _ | refine Below.drew ?_ | refine drewN_below ?_ _ | refine ext_trans ?_ (by assumption) | refine Below.alloc ?_ ?_ _ | refine Below.setCell ?_ ?_ _ | omega | (simp <;> omega)))
      have hX3 : Blk (w3.alloc (Obj.cells #[.int .i64 mv, .int .i64 need] 39)) w3.heap.size 39 #[.int .i64 mv, .int .i64 need] := Blk.new _ _ _
      have hG3 := ((((HA2.out.ext hb1).ext hb2).ext hb3).ext (below_alloc_refl w3 (Obj.cells #[.int .i64 mv, .int .i64 need] 39)))
      have hSp := splice_any _ A _ c 1 us [⟨mv, need⟩] i (i + 1) hG3.rd (Reads.one (x := ⟨mv, need⟩) hX3) (by omega) (by simp) hG3.le hG3.cap hil htl hG3.nil
      rw [← HSl.out] at hSp
      simp only [Int.natCast_add, Int.cast_ofNat_Int] at hSp
      have HSp := Lib.hid hSp
      have kb3 := ((((HB.out.ext hb1).ext hb2).ext hb3).ext (below_alloc_refl w3 (Obj.cells #[.int .i64 mv, .int .i64 need] 39)))
      have kz3 := ((((HZ.out.ext hb1).ext hb2).ext hb3).ext (below_alloc_refl w3 (Obj.cells #[.int .i64 mv, .int .i64 need] 39)))
      have HB3 := Lib.hid kb3
      have HZ3 := Lib.hid kz3
      clear hSp kb3 kz3 hX3 hG3
      go_wp2_with fail
      refine HSp.out.mono ?_
      rintro e w4 ⟨⟨v, rfl, hown⟩, hb4⟩
      have kb4 := HB3.out.ext hb4
      have kz4 := HZ3.out.ext hb4
      have hb4' := hbW3.alloc hbW3.size (Obj.cells #[.int .i64 mv, .int .i64 need] 39)
      have hbW4 : Below w.heap.size w w4 := ext_trans hb4' hb4
      have HO := Lib.hid hown
      have x3 := kb4.cell 3
      have xf := kb4.frozen 3
      simp only [List.getElem?_toArray, List.getElem?_cons_zero, List.getElem?_cons_succ] at x3
      obtain ⟨A', c', rfl, _⟩ := OwnR.gua hown
      have HB4 := Lib.hid kb4
      have HZ4 := Lib.hid kz4
      clear hown kb4 kz4 hb4' hc1 hc2 hc3 hf1 hf2 hf3
      go_wp2_with fail
      refine wp_name (fun W => Blk W w.heap.size 25 #[.int .i64 id, .int .i64 rf, .int .i64 lv, .slice A' (setL us mv need i).length c'] ∧ Blk W (w.heap.size + 1) 25 #[.int .i64 0, .int .i64 0, .int .i64 0, .slice none 0 0] ∧ Below w.heap.size w W ∧ OwnR W (w3.heap.size + 1) 39 2 (.slice A' (setL us mv need i).length c') ((setL us mv need i).map Rv.cells)) ⟨HB4.out.set_ 3 _, HZ4.out.far (by show _ ≠ _; simp) _, hbW4.setCell (Nat.le_refl _) _, ?_⟩ ?_
      · have ho := OwnR.kept HO.out (only_setCell (g := w.heap.size) (only_refl w4 _) (p := ⟨w.heap.size, 3, none⟩) (.inl rfl) (.slice A' (setL us mv need i).length c')) (.inr (OwnR.ne HO.out HB4.out (by decide)))
        rwa [World.size_alloc] at ho
      rintro W ⟨kbW, kzW, hbW, hoW⟩
      have HOW := Lib.hid hoW
      have hgW : GuIn W A' c' (setL us mv need i) := by
        obtain ⟨A2, c2, hv, hg⟩ := OwnR.gua hoW
        injection hv with e1 e2 e3
        subst e1 e3
        exact hg
      have HBW := Lib.hid kbW
      have HZW := Lib.hid kzW
      have y1 := kbW.cell 1
      have y3 := kbW.cell 3
      simp only [List.getElem?_toArray, List.getElem?_cons_zero, List.getElem?_cons_succ] at y1 y3
      have z1 := cell_regrown y1
      have z3 := cell_regrown y3
      have C2 := Lib.hid fun d os => Calls.regrown_of (reserved_any (grow (redrawn W d) os) A' c' (setL us mv need i) (RowsW.ext hgW.rd (below_regrown W d os)) lenL HLi.out)
      have HGW := Lib.hid hgW
      clear y1 y3 kbW kzW hgW hoW x3 xf
      generalize hll : setL us mv need i = l at *
      have HLl := Lib.hid hll
      clear hll
      by_cases hs : rf < sumA l
      · have HX2 : Hid (setE id rf lv us mv a i = 16) := by show setE _ _ _ _ _ _ _ = _; rw [HX.out, if_pos hs]
        (refine wp_region_quiet_below (by kernel_rfl) (by kernel_rfl) ?_; (repeat (first | go_big_quiet_step ((exact C2.out _ _)) | quiet_step ((exact C2.out _ _)))); refine wpQuiet_nil ?_; intro _ hwq; obtain ⟨⟨dq, osq⟩, hwq'⟩ := hwq; subst hwq')
        have hq := below_regrown W dq osq
        generalize grow (redrawn W dq) osq = W5 at *
        have k5 := HZW.out.ext hq
        have y0 := k5.cell 0
        have y1 := k5.cell 1
        have y2 := k5.cell 2
        have y3 := k5.cell 3
        simp only [List.getElem?_toArray, List.getElem?_cons_zero, List.getElem?_cons_succ] at y0 y1 y2 y3
        have yf : ∀ j, W5.frozen? ⟨w.heap.size + 1, j, none⟩ = false := fun j => k5.frozen j
        go_wp2_with fail
        refine bodyPost_ret (v := .tuple #[zeroG, .int .i64 16]) (by simp [results, Try.results19, go_sem, y0, y1, y2, y3, yf, zeroG, gv] <;> first | assumption | omega) rfl ?_
        refine ⟨i, HI.out, ?_⟩
        rw [HX2.out, if_neg (by decide)]
        exact ⟨rfl, (by repeat (first | exact Below.refl _ _ | assumption | refine ext_alloc ?_ _ | refine Below.drew ?_ | refine drewN_below ?_ _ | refine ext_trans ?_ (by assumption) | refine Below.alloc ?_ ?_ _ | refine Below.setCell ?_ ?_ _ | omega | (simp <;> omega)))⟩
      · have HX2 : Hid (setE id rf lv us mv a i = 0) := by show setE _ _ _ _ _ _ _ = _; rw [HX.out, if_neg hs]
        (refine wp_region_quiet_below (by kernel_rfl) (by kernel_rfl) ?_; (repeat (first | go_big_quiet_step ((exact C2.out _ _)) | quiet_step ((exact C2.out _ _)))); refine wpQuiet_nil ?_; intro _ hwq; obtain ⟨⟨dq, osq⟩, hwq'⟩ := hwq; subst hwq')
        have hq := below_regrown W dq osq
        generalize grow (redrawn W dq) osq = W5 at *
        have k5 := HZW.out.ext hq
        have k6 := HBW.out.ext hq
        have y0 := k5.cell 0
        have y1 := k5.cell 1
        have y2 := k5.cell 2
        have y3 := k5.cell 3
        have x0 := k6.cell 0
        have x1 := k6.cell 1
        have x2 := k6.cell 2
        have x3 := k6.cell 3
        simp only [List.getElem?_toArray, List.getElem?_cons_zero, List.getElem?_cons_succ] at y0 y1 y2 y3 x0 x1 x2 x3
        have yf : ∀ j, W5.frozen? ⟨w.heap.size + 1, j, none⟩ = false := fun j => k5.frozen j
        go_wp2_with fail
        refine bodyPost_ret (v := .tuple #[gv id rf lv A' l.length c', .int .i64 0]) (by simp [results, Try.results19, go_sem, y0, y1, y2, y3, yf, gv] <;> first | assumption | omega) rfl ?_
        refine ⟨i, HI.out, ?_⟩
        rw [HX2.out, if_pos rfl, HN.out, HLl.out]
        have ho5 := OwnR.ext HOW.out hq
        have ho6 := OwnR.kept ho5 (only_setCell (g := w.heap.size + 1) (only_setCell (g := w.heap.size + 1) (only_setCell (g := w.heap.size + 1) (only_setCell (g := w.heap.size + 1) (only_refl W5 _) (p := ⟨w.heap.size + 1, 0, none⟩) (.inl rfl) (.int .i64 id)) (p := ⟨w.heap.size + 1, 1, none⟩) (.inl rfl) (.int .i64 rf)) (p := ⟨w.heap.size + 1, 2, none⟩) (.inl rfl) (.int .i64 lv)) (p := ⟨w.heap.size + 1, 3, none⟩) (.inl rfl) (.slice A' l.length c')) (.inr (OwnR.ne ho5 (HZW.out.ext hq) (by decide)))
        obtain ⟨A2, c2, hv, hg⟩ := OwnR.gua ho6
        injection hv with e1 e2 e3
        subst e1 e3
        exact ⟨⟨_, _, rfl, hg⟩, (by repeat (first | exact Below.refl _ _ | assumption | refine ext_alloc ?_ _ | refine Below.drew ?_ | refine drewN_below ?_ _ | refine ext_trans ?_ (by assumption) | refine Below.alloc ?_ ?_ _ | refine Below.setCell ?_ ?_ _ | omega | (simp <;> omega)))⟩

end Go.Proofs.Yteilknlokjfelaa
