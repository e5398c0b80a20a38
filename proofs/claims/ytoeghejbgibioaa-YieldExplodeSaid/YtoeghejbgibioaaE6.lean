/- The reference's rounds (plain). -/
import Derived.Test.YtoeghejbgibioaaE5
import Derived.Test.YtoeghejbgibioaaZ8
namespace Go.Proofs.Ytoeghejbgibioaa
open Go Go.RowKit
set_option linter.unusedVariables false
set_option linter.unusedSimpArgs false
set_option maxRecDepth 100000

theorem nd_len {α : Type} [DecidableEq α] : ∀ (l m : List α), l.Nodup → (∀ x ∈ l, x ∈ m) → l.length ≤ m.length
  | [], _, _, _ => Nat.zero_le _
  | a :: l, m, h, hs => by
    have h' := List.nodup_cons.1 h
    have ha := hs a (by simp)
    have h1 := nd_len l (m.erase a) h'.2 fun x hx => (List.mem_erase_of_ne (fun e => h'.1 (by rw [← e]; exact hx))).2 (hs x (by simp [hx]))
    have h2 := List.length_erase_of_mem ha
    have h3 : 0 < m.length := List.length_pos_of_mem ha
    rw [List.length_cons]
    omega
def allC (rs : List Rc) (c : ByteArray) : List ByteArray := c :: rs.flatMap fun r => r.ins.map Nd.c
theorem allC_len {rs : List Rc} (h : rcsOk rs) (c : ByteArray) : (allC rs c).length ≤ 257 := by
  have : ∀ l : List Rc, (∀ r ∈ l, r.ins.length ≤ 8) → (l.flatMap fun r => r.ins.map Nd.c).length ≤ 8 * l.length := fun l => by
    induction l with
    | nil => intro _; simp
    | cons a l ih =>
      intro hl
      have h1 := ih fun r hr => hl r (by simp [hr])
      have h2 := hl a (by simp)
      rw [List.flatMap_cons, List.length_append, List.length_map, List.length_cons]
      omega
  have h1 := this rs fun r hr => (h.2 r hr).2.1.2.2
  have h2 := h.1
  unfold allC
  rw [List.length_cons]
  omega
theorem rch_all {rs : List Rc} {c x : ByteArray} (h : Rch rs c x) : x ∈ allC rs c := by
  unfold allC
  cases h with
  | refl => simp
  | step _ hk hx => exact List.mem_cons_of_mem _ (List.mem_flatMap.2 ⟨_, ygetD_in hk, List.mem_map.2 ⟨_, hx, rfl⟩⟩)
structure CI (rs : List Rc) (c : ByteArray) (i : Nat) (cs : List ByteArray) : Prop where
  ci ::
  nd : cs.Nodup
  hd : cs.getD 0 default = c
  pos : 0 < cs.length
  rch : ∀ x ∈ cs, Rch rs c x
  clo : ∀ t, t < i → mk rs (cs.getD t default) < rs.length → ∀ x ∈ (rs.getD (mk rs (cs.getD t default)) default).ins, x.c ∈ cs
theorem CI.len {rs : List Rc} (hr : rcsOk rs) {c : ByteArray} {i : Nat} {cs : List ByteArray} (h : CI rs c i cs) : cs.length ≤ 257 := by
  have := nd_len cs (allC rs c) h.nd fun x hx => rch_all (h.rch x hx)
  have := allC_len hr c
  omega
theorem CI.start (rs : List Rc) (c : ByteArray) : CI rs c 0 [c] := ⟨by simp, rfl, by simp, fun x hx => by rw [List.mem_singleton] at hx; rw [hx]; exact .refl, fun t ht => absurd ht (by omega)⟩
theorem CI.add {rs : List Rc} {c : ByteArray} {i : Nat} {cs : List ByteArray} (h : CI rs c i cs) {x : ByteArray} (hx : x ∉ cs) (hr : Rch rs c x) (hi : i ≤ cs.length) : CI rs c i (cs ++ [x]) := by
  have e0 : ∀ t, t < cs.length → (cs ++ [x]).getD t default = cs.getD t default := fun t ht => by
    rw [List.getD_eq_getElem?_getD, List.getD_eq_getElem?_getD, List.getElem?_append_left ht]
  refine ⟨?_, by rw [e0 0 h.pos]; exact h.hd, by simp, fun y hy => ?_, fun t ht hk y hy => ?_⟩
  · rw [List.nodup_append]
    refine ⟨h.nd, by simp, fun a ha b hb => ?_⟩
    rw [List.mem_singleton] at hb
    subst hb
    exact fun e => hx (e ▸ ha)
  · rcases List.mem_append.1 hy with hy | hy
    · exact h.rch y hy
    · rw [List.mem_singleton] at hy; rw [hy]; exact hr
  · rw [e0 t (by omega)] at hk hy
    exact List.mem_append_left _ (h.clo t ht hk y hy)
theorem CI.next {rs : List Rc} {c : ByteArray} {i : Nat} {cs : List ByteArray} (h : CI rs c i cs) (hd : mk rs (cs.getD i default) < rs.length → ∀ x ∈ (rs.getD (mk rs (cs.getD i default)) default).ins, x.c ∈ cs) : CI rs c (i + 1) cs :=
  ⟨h.nd, h.hd, h.pos, h.rch, fun t ht => by
    by_cases e : t = i
    · subst e; exact hd
    · exact h.clo t (by omega)⟩
theorem CI.done {rs : List Rc} {c : ByteArray} {cs : List ByteArray} (h : CI rs c cs.length cs) : Cds rs c cs :=
  ⟨h.nd, h.hd, h.pos, h.rch, fun b hb hk x hx => by
    obtain ⟨t, ht, e⟩ := List.getElem_of_mem hb
    have e' : cs.getD t default = b := by rw [ygetD_of ht]; exact e
    rw [← e'] at hk hx
    exact h.clo t ht hk x hx⟩
structure R4 where
  dem : List Int
  bat : List Int
  gone : List Bool
  over : Bool
def rdL (cs : List ByteArray) (more : Int) : List Nd → List Int → Bool × List Int
  | [], dem => (false, dem)
  | x :: l, dem => if mx / x.q < more ∨ mx - more * x.q < dem.getD (idxN cs x.c) 0 then (true, dem) else rdL cs more l (dem.set (idxN cs x.c) (dem.getD (idxN cs x.c) 0 + more * x.q))
def rdN (rs : List Rc) (cs : List ByteArray) (a : Nat) (s : R4) : Int := ceilD (s.dem.getD a 0) (outQ rs (mk rs (cs.getD a default)) (cs.getD a default))
def rdM (rs : List Rc) (cs : List ByteArray) (a : Nat) (s : R4) : Int := rdN rs cs a s - s.bat.getD (mk rs (cs.getD a default)) 0
def rdX (rs : List Rc) (cs : List ByteArray) (a : Nat) (s : R4) : Bool × List Int := if 0 < rdM rs cs a s then rdL cs (rdM rs cs a s) (rs.getD (mk rs (cs.getD a default)) default).ins s.dem else (false, s.dem)
def rdB (rs : List Rc) (cs : List ByteArray) (a : Nat) (s : R4) : List Int := s.bat.set (mk rs (cs.getD a default)) (if s.bat.getD (mk rs (cs.getD a default)) 0 < rdN rs cs a s then rdN rs cs a s else s.bat.getD (mk rs (cs.getD a default)) 0)
def rdS (rs : List Rc) (cs : List ByteArray) (a : Nat) (s : R4) : R4 :=
  if ¬ mk rs (cs.getD a default) < rs.length ∨ s.over = true then ⟨s.dem, s.bat, s.gone.set a true, s.over⟩
  else ⟨(rdX rs cs a s).2, rdB rs cs a s, s.gone.set a true, (rdX rs cs a s).1⟩
structure RB (rs : List Rc) (cs : List ByteArray) (s : R4) : Prop where
  rb0 ::
  dl : s.dem.length = cs.length
  bl : s.bat.length = rs.length
  gl : s.gone.length = cs.length
  dr : ∀ i, 0 ≤ s.dem.getD i 0 ∧ s.dem.getD i 0 ≤ mx
  br : ∀ i, 0 ≤ s.bat.getD i 0 ∧ s.bat.getD i 0 ≤ mx
theorem rdL_ok {cs : List ByteArray} {more : Int} (hm : 0 ≤ more) : ∀ (us : List Nd) (dem : List Int), (∀ x ∈ us, 1 ≤ x.q) → (∀ i, 0 ≤ dem.getD i 0 ∧ dem.getD i 0 ≤ mx) → (rdL cs more us dem).2.length = dem.length ∧ ∀ i, 0 ≤ (rdL cs more us dem).2.getD i 0 ∧ (rdL cs more us dem).2.getD i 0 ≤ mx
  | [], dem, _, h => ⟨rfl, h⟩
  | x :: l, dem, hu, h => by
    unfold rdL
    split
    · exact ⟨rfl, h⟩
    · rename_i hc
      have hq := hu x (by simp)
      have h1 := h (idxN cs x.c)
      have h2 := Int.mul_nonneg hm (show 0 ≤ x.q by omega)
      have ih := rdL_ok (cs := cs) hm l (dem.set (idxN cs x.c) (dem.getD (idxN cs x.c) 0 + more * x.q)) (fun y hy => hu y (by simp [hy])) fun i => by
        rw [getD_set]
        split
        · omega
        · exact h i
      rw [List.length_set] at ih
      exact ih
theorem ceilD_rng {n q : Int} (hn : 0 ≤ n ∧ n ≤ mx) (hq : 1 ≤ q) : 0 ≤ ceilD n q ∧ ceilD n q ≤ mx := by
  unfold ceilD mx at *
  constructor
  · exact Int.ediv_nonneg (by omega) (by omega)
  · have h2 : n + q - 1 ≤ 1000000000000 * q + (q - 1) := by
      have : n * 1 ≤ 1000000000000 * q := Int.mul_le_mul hn.2 hq (by omega) (by omega)
      omega
    have h3 : (1000000000000 * q + (q - 1)) / q = 1000000000000 := by
      rw [Int.add_comm, Int.mul_comm, Int.add_mul_ediv_left _ _ (by omega), Int.ediv_eq_zero_of_lt (by omega) (by omega)]
      omega
    exact h3 ▸ Int.ediv_le_ediv (by omega) h2
theorem RB.step {rs : List Rc} (h : rcsOk rs) {cs : List ByteArray} {s : R4} (hs : RB rs cs s) (a : Nat) : RB rs cs (rdS rs cs a s) := by
  unfold rdS
  split
  · exact ⟨hs.dl, hs.bl, by rw [List.length_set]; exact hs.gl, hs.dr, hs.br⟩
  · rename_i hc
    have hk : mk rs (cs.getD a default) < rs.length := by
      by_cases hh : mk rs (cs.getD a default) < rs.length
      · exact hh
      · exact absurd (.inl hh) hc
    obtain ⟨a1, _, _, _⟩ := h.at hk
    have hx : (rdX rs cs a s).2.length = s.dem.length ∧ ∀ i, 0 ≤ (rdX rs cs a s).2.getD i 0 ∧ (rdX rs cs a s).2.getD i 0 ≤ mx := by
      unfold rdX
      split
      · exact rdL_ok (by omega) _ _ (fun x hx => (asc_q a1 x hx).1) hs.dr
      · exact ⟨rfl, hs.dr⟩
    refine ⟨hx.1.trans hs.dl, by unfold rdB; rw [List.length_set]; exact hs.bl, by rw [List.length_set]; exact hs.gl, hx.2, fun i => ?_⟩
    show 0 ≤ (rdB rs cs a s).getD i 0 ∧ (rdB rs cs a s).getD i 0 ≤ mx
    unfold rdB
    rw [getD_set]
    have h1 := ceilD_rng (hs.dr a) (outQ_pos h hk).1
    have h2 := hs.br (mk rs (cs.getD a default))
    have h3 : 0 ≤ rdN rs cs a s ∧ rdN rs cs a s ≤ mx := h1
    split
    · split
      · exact h3
      · exact h2
    · exact hs.br i
theorem qtyS_cons (x : Nd) (l : List Nd) (c : ByteArray) : qtyS (x :: l) c = (if x.c = c then x.q else 0) + qtyS l c := by unfold qtyS; rw [List.map_cons, List.sum_cons]
theorem rd_set {cs : List ByteArray} (hn : cs.Nodup) {dem : List Int} (hl : dem.length = cs.length) {x : Nd} (hx : x.c ∈ cs) (v : Int) {i : Nat} (hi : i < cs.length) : (dem.set (idxN cs x.c) (dem.getD (idxN cs x.c) 0 + v)).getD i 0 = dem.getD i 0 + (if x.c = cs.getD i default then v else 0) := by
  rw [getD_set]
  have h1 := idxN_in hx
  by_cases h : x.c = cs.getD i default
  · have : idxN cs x.c = i := by rw [h]; exact idxN_of hn hi
    rw [if_pos h, if_pos ⟨this, by omega⟩, this]
  · rw [if_neg h, if_neg, Int.add_zero]
    rintro ⟨e, _⟩
    have := idxN_at h1
    rw [e] at this
    exact h this.symm
theorem rdL_no {cs : List ByteArray} (hn : cs.Nodup) {more : Int} : ∀ (us : List Nd) (dem dem' : List Int), dem.length = cs.length → (∀ x ∈ us, x.c ∈ cs) → rdL cs more us dem = (false, dem') → ∀ i, i < cs.length → dem'.getD i 0 = dem.getD i 0 + more * qtyS us (cs.getD i default)
  | [], dem, dem', _, _, e, i, _ => by
    have e' : (false, dem) = (false, dem') := e
    injection e' with _ e'
    subst e'
    simp [qtyS]
  | x :: l, dem, dem', hl, hu, e, i, hi => by
    unfold rdL at e
    split at e
    · injection e with e _; cases e
    · have ih := rdL_no hn l _ dem' (by rw [List.length_set]; exact hl) (fun y hy => hu y (by simp [hy])) e i hi
      rw [rd_set hn hl (hu x (by simp)) _ hi] at ih
      rw [ih, qtyS_cons, Int.mul_add]
      split <;> simp <;> omega
theorem rdL_yes {cs : List ByteArray} (hn : cs.Nodup) {more : Int} (hm : 0 ≤ more) : ∀ (us : List Nd) (dem dem' : List Int), dem.length = cs.length → (∀ x ∈ us, x.c ∈ cs ∧ 1 ≤ x.q) → (∀ i, 0 ≤ dem.getD i 0 ∧ dem.getD i 0 ≤ mx) → rdL cs more us dem = (true, dem') → ∃ i, i < cs.length ∧ mx < dem.getD i 0 + more * qtyS us (cs.getD i default)
  | [], dem, dem', _, _, _, e => by
    have e' : (false, dem) = (true, dem') := e
    injection e' with e' _
    cases e'
  | x :: l, dem, dem', hl, hu, hd, e => by
    have hx := hu x (by simp)
    have hlq := qtyS_nn l (fun y hy => (hu y (by simp [hy])).2) (cs.getD (idxN cs x.c) default)
    have h1 := idxN_in hx.1
    have h2 := idxN_at h1
    have h3 := hd (idxN cs x.c)
    have h4 := Int.mul_nonneg hm (show 0 ≤ x.q by omega)
    unfold rdL at e
    split at e
    · rename_i hc
      refine ⟨idxN cs x.c, h1, ?_⟩
      rw [qtyS_cons, h2, if_pos rfl, Int.mul_add]
      rw [h2] at hlq
      have h5 := Int.mul_nonneg hm hlq
      rcases hc with hc | hc
      · have := (Int.ediv_lt_iff_lt_mul (show 0 < x.q by omega)).1 hc
        omega
      · omega
    · rename_i hc
      obtain ⟨i, hi, h5⟩ := rdL_yes hn hm l _ dem' (by rw [List.length_set]; exact hl) (fun y hy => hu y (by simp [hy])) (fun i => by
        rw [getD_set]
        split
        · omega
        · exact hd i) e
      refine ⟨i, hi, ?_⟩
      rw [rd_set hn hl hx.1 _ hi] at h5
      rw [qtyS_cons, Int.mul_add]
      split at h5 <;> rename_i hh
      · rw [if_pos hh]; omega
      · rw [if_neg hh]; simp at h5 ⊢; omega
structure KO (rs : List Rc) (c : ByteArray) (q : Int) (cs : List ByteArray) (L : ML) (B : List Int) (s : R4) : Prop where
  ko ::
  rb : RB rs cs s
  no : s.over = false → RI rs c q cs (ordL rs c) L B s.dem s.bat s.gone
  yes : s.over = true → ∃ x, mx < getM L x
theorem KO.step {rs : List Rc} (h : rcsOk rs) {c : ByteArray} {q : Int} (hq : 0 ≤ q) (ho : (ordR rs c).1 = true) {L : ML} {B : List Int} (hI : IdS rs (ordL rs c) c q L B) {cs : List ByteArray} (hc : Cds rs c cs) {s : R4} (hs : KO rs c q cs L B s) {a : Nat} (ha : a < cs.length) (hg : s.gone.getD a false = false) (hu : ¬ usedP rs cs s.gone (cs.getD a default)) : KO rs c q cs L B (rdS rs cs a s) := by
  have hod := ord_of ho
  have hfrom := fun k hk => ord_from (rs := rs) (c := c) k hk
  refine ⟨hs.rb.step h a, ?_, ?_⟩
  · intro hov
    unfold rdS at hov ⊢
    split at hov
    · rename_i h1
      rw [if_pos h1]
      have hR := hs.no hov
      refine hR.take h hq hod hI hc hfrom ha hu fun hk => ?_
      rcases h1 with h1 | h1
      · exact absurd hk h1
      · simp only at hov; rw [h1] at hov; cases hov
    · rename_i h1
      rw [if_neg h1]
      have hk : mk rs (cs.getD a default) < rs.length := by
        by_cases hh : mk rs (cs.getD a default) < rs.length
        · exact hh
        · exact absurd (.inl hh) h1
      have hso : s.over = false := by
        cases hh : s.over with
        | false => rfl
        | true => exact absurd (.inr hh) h1
      have hR := hs.no hso
      show RI rs c q cs (ordL rs c) L B (rdX rs cs a s).2 (rdB rs cs a s) (s.gone.set a true)
      have hov' : (rdX rs cs a s).1 = false := hov
      by_cases hm : 0 < rdM rs cs a s
      · have eX : rdX rs cs a s = rdL cs (rdM rs cs a s) (rs.getD (mk rs (cs.getD a default)) default).ins s.dem := if_pos hm
        obtain ⟨a1, _, _, _⟩ := h.at hk
        have hin : ∀ x ∈ (rs.getD (mk rs (cs.getD a default)) default).ins, x.c ∈ cs := hc.clo _ (ygetD_in ha) hk
        have hno := rdL_no hc.nd (more := rdM rs cs a s) (rs.getD (mk rs (cs.getD a default)) default).ins s.dem (rdX rs cs a s).2 hs.rb.dl hin (by rw [← eX, ← hov'])
        have hlt : s.bat.getD (mk rs (cs.getD a default)) 0 < rdN rs cs a s := by unfold rdM at hm; omega
        have eB : rdB rs cs a s = s.bat.set (mk rs (cs.getD a default)) (rdN rs cs a s) := by unfold rdB; rw [if_pos hlt]
        rw [eB]
        refine hR.more h hq hod hI hc hfrom ha hu hg hk hlt ?_ fun i hi => ?_
        · have := rdL_ok (cs := cs) (more := rdM rs cs a s) (by omega) (rs.getD (mk rs (cs.getD a default)) default).ins s.dem (fun x hx => (asc_q a1 x hx).1) hs.rb.dr
          rw [eX]
          exact this.1.trans hs.rb.dl
        · exact hno i hi
      · have eX : rdX rs cs a s = (false, s.dem) := if_neg hm
        have hle : rdN rs cs a s ≤ s.bat.getD (mk rs (cs.getD a default)) 0 := by unfold rdM at hm; omega
        have eB : rdB rs cs a s = s.bat := by
          unfold rdB
          rw [if_neg (by omega)]
          exact set_self _ _
        rw [eX, eB]
        exact hR.take h hq hod hI hc hfrom ha hu fun _ => hle
  · intro hov
    unfold rdS at hov
    split at hov
    · exact hs.yes hov
    · rename_i h1
      have hk : mk rs (cs.getD a default) < rs.length := by
        by_cases hh : mk rs (cs.getD a default) < rs.length
        · exact hh
        · exact absurd (.inl hh) h1
      have hso : s.over = false := by
        cases hh : s.over with
        | false => rfl
        | true => exact absurd (.inr hh) h1
      have hR := hs.no hso
      have hov' : (rdX rs cs a s).1 = true := hov
      by_cases hm : 0 < rdM rs cs a s
      · have eX : rdX rs cs a s = rdL cs (rdM rs cs a s) (rs.getD (mk rs (cs.getD a default)) default).ins s.dem := if_pos hm
        obtain ⟨a1, _, _, _⟩ := h.at hk
        have hin : ∀ x ∈ (rs.getD (mk rs (cs.getD a default)) default).ins, x.c ∈ cs := hc.clo _ (ygetD_in ha) hk
        obtain ⟨i, hi, hlt⟩ := rdL_yes hc.nd (more := rdM rs cs a s) (by omega) _ _ (rdX rs cs a s).2 hs.rb.dl (fun x hx => ⟨hin x hx, (asc_q a1 x hx).1⟩) hs.rb.dr (by rw [← eX, ← hov'])
        exact hR.over h hq hod hI hc hfrom ha hu hk i hi hlt
      · have eX : rdX rs cs a s = (false, s.dem) := if_neg hm
        rw [eX] at hov'
        cases hov'
structure KC (rs : List Rc) (cs : List ByteArray) (S : ByteArray → Prop) (s : R4) : Prop where
  kc ::
  rb : RB rs cs s
  st : ∀ i, i < cs.length → S (cs.getD i default) → s.gone.getD i false = false
theorem KC.step {rs : List Rc} (h : rcsOk rs) {c : ByteArray} {cs : List ByteArray} (hc : Cds rs c cs) {S : ByteArray → Prop} (hS : ∀ e, S e → Rch rs c e) (hP : ∀ e, S e → ∃ b, S b ∧ mk rs b < rs.length ∧ ∃ x ∈ (rs.getD (mk rs b) default).ins, x.c = e) {s : R4} (hs : KC rs cs S s) {a : Nat} (ha : a < cs.length) (hu : ¬ usedP rs cs s.gone (cs.getD a default)) : KC rs cs S (rdS rs cs a s) := by
  have hg : (rdS rs cs a s).gone = s.gone.set a true := by unfold rdS; split <;> rfl
  refine ⟨hs.rb.step h a, fun i hi hSi => ?_⟩
  rw [hg]
  have h1 := hs.st i hi hSi
  by_cases hia : i = a
  · subst hia
    obtain ⟨b, hb, hbk, x, hx, e⟩ := hP _ hSi
    obtain ⟨j, hj, ej⟩ := List.getElem_of_mem (hc.all (hS b hb))
    have ej' : cs.getD j default = b := by rw [ygetD_of hj]; exact ej
    refine absurd ⟨j, hj, hs.st j hj (by rw [ej']; exact hb), by rw [ej']; exact hbk, ?_⟩ hu
    rw [ej', ← e]
    have := (useQ_pos h hbk hx).1
    omega
  · rw [List.getD_eq_getElem?_getD, List.getElem?_set, if_neg (fun e => hia e.symm), ← List.getD_eq_getElem?_getD]
    exact h1
def unG (l : List Bool) : Nat := l.countP fun b => !b
theorem unG_set {l : List Bool} {a : Nat} (ha : a < l.length) (h : l.getD a false = false) : unG (l.set a true) + 1 = unG l := by
  unfold unG
  rw [List.countP_set ha]
  rw [List.getD_eq_getElem?_getD, List.getElem?_eq_getElem ha, Option.getD_some] at h
  have h1 : 0 < l.countP fun b => !b := List.countP_pos_iff.2 ⟨l[a], List.getElem_mem ha, by simp [h]⟩
  simp only [h, Bool.not_false, if_true, Bool.not_true, if_false, Bool.false_eq_true]
  omega
theorem unG_zero {l : List Bool} (h : unG l = 0) : ∀ i, i < l.length → l.getD i false = true := fun i hi => by
  unfold unG at h
  rw [List.countP_eq_zero] at h
  have := h l[i] (List.getElem_mem hi)
  rw [List.getD_eq_getElem?_getD, List.getElem?_eq_getElem hi, Option.getD_some]
  simpa using this
theorem unG_pos {l : List Bool} (h : 0 < unG l) : ∃ i, i < l.length ∧ l.getD i false = false := by
  unfold unG at h
  obtain ⟨b, hb, hf⟩ := List.countP_pos_iff.1 h
  obtain ⟨i, hi, e⟩ := List.getElem_of_mem hb
  refine ⟨i, hi, ?_⟩
  rw [List.getD_eq_getElem?_getD, List.getElem?_eq_getElem hi, Option.getD_some, e]
  simpa using hf
theorem rdS_gone (rs : List Rc) (cs : List ByteArray) (a : Nat) (s : R4) : (rdS rs cs a s).gone = s.gone.set a true := by unfold rdS; split <;> rfl
def ndQ (rs : List Rc) (cs : List ByteArray) (dem : List Int) (i : Nat) : Bool := !decide (mk rs (cs.getD i default) < rs.length) && !decide (dem.getD i 0 = 0)
def ndT (rs : List Rc) (cs : List ByteArray) (dem : List Int) (k : Nat) : List Nd := ((List.range k).filter (ndQ rs cs dem)).map fun i => ⟨cs.getD i default, dem.getD i 0⟩
theorem ndT_succ (rs : List Rc) (cs : List ByteArray) (dem : List Int) (k : Nat) : ndT rs cs dem (k + 1) = if ndQ rs cs dem k then ndT rs cs dem k ++ [⟨cs.getD k default, dem.getD k 0⟩] else ndT rs cs dem k := by
  unfold ndT
  rw [List.range_succ, List.filter_append, List.map_append]
  by_cases h : ndQ rs cs dem k = true
  · simp [h]
  · simp [h]
theorem ndT_codes (rs : List Rc) {cs : List ByteArray} (hn : cs.Nodup) (dem : List Int) {k : Nat} (hk : k < cs.length) : ∀ y ∈ ndT rs cs dem k, y.c ≠ cs.getD k default := fun y hy e => by
  unfold ndT at hy
  obtain ⟨i, hi, rfl⟩ := List.mem_map.1 hy
  have h1 := List.mem_range.1 (List.mem_filter.1 hi).1
  simp only at e
  rw [ygetD_of (by omega), ygetD_of hk] at e
  have := nd_at hn e
  omega
theorem ndT_all (rs : List Rc) (L : ML) (cs : List ByteArray) (dem : List Int) (h : ∀ i, i < cs.length → dem.getD i 0 = getM L (cs.getD i default)) : ndT rs cs dem cs.length = rdsOf rs L cs := by
  have h1 : ∀ n, n ≤ cs.length → ndT rs cs dem n = rdsOf rs L (cs.take n) := fun n => by
    induction n with
    | zero => intro _; rfl
    | succ n ih =>
      intro hn
      rw [ndT_succ, ih (by omega), take_snoc cs (by omega)]
      have e : ndQ rs cs dem n = rdP rs L (cs.getD n default) := by unfold ndQ rdP; rw [h n (by omega)]
      rw [e, h n (by omega)]
      unfold rdsOf
      rw [List.filter_append, List.map_append]
      clear e h ih
      generalize cs.getD n default = y
      by_cases hp : rdP rs L y = true
      · simp [List.filter_cons, hp]
      · simp [List.filter_cons, hp]
  have := h1 cs.length (Nat.le_refl _)
  rwa [List.take_length] at this
def r40 (rs : List Rc) (cs : List ByteArray) (q : Int) : R4 := ⟨(List.replicate cs.length 0).set 0 q, List.replicate rs.length 0, List.replicate cs.length false, false⟩
structure KH (rs : List Rc) (c : ByteArray) (q : Int) (cs : List ByteArray) (K : R4 → Prop) : Prop where
  kh ::
  rb : ∀ s, K s → RB rs cs s
  k0 : K (r40 rs cs q)
  k1 : ∀ s, K s → ∀ i, i < cs.length → s.gone.getD i false = false → (∀ j, j < cs.length → s.gone.getD j false = false → usedP rs cs s.gone (cs.getD j default)) → exE rs c q = 19
  k2 : ∀ s, K s → ∀ a, a < cs.length → s.gone.getD a false = false → ¬ usedP rs cs s.gone (cs.getD a default) → K (rdS rs cs a s)
  k3 : ∀ s, K s → (∀ i, i < cs.length → s.gone.getD i false = true) → s.over = true → exE rs c q = 16
  k4 : ∀ s, K s → (∀ i, i < cs.length → s.gone.getD i false = true) → s.over = false → exE rs c q = 0 ∧ exB rs c q = s.bat ∧ ∀ us : List Nd, us.Pairwise (fun a b => strLt a.c b.c = true) → us.Perm (ndT rs cs s.dem cs.length) → exN rs c q = us
theorem rep_zero (n k : Nat) : (List.replicate n (0 : Int)).getD k 0 = 0 := by
  rw [List.getD_eq_getElem?_getD, List.getElem?_replicate]
  split <;> rfl
theorem rep_false (n k : Nat) : (List.replicate n false).getD k false = false := by
  rw [List.getD_eq_getElem?_getD, List.getElem?_replicate]
  split <;> rfl
theorem rb_start (rs : List Rc) (cs : List ByteArray) {q : Int} (hq : 0 ≤ q ∧ q ≤ mx) : RB rs cs (r40 rs cs q) := by
  refine ⟨by simp [r40], by simp [r40], by simp [r40], fun i => ?_, fun i => ?_⟩
  · show 0 ≤ ((List.replicate cs.length (0 : Int)).set 0 q).getD i 0 ∧ ((List.replicate cs.length (0 : Int)).set 0 q).getD i 0 ≤ mx
    rw [getD_set]
    split
    · exact hq
    · rw [rep_zero]; unfold mx; omega
  · show 0 ≤ (List.replicate rs.length (0 : Int)).getD i 0 ∧ (List.replicate rs.length (0 : Int)).getD i 0 ≤ mx
    rw [rep_zero]; unfold mx; omega
theorem kh_of {rs : List Rc} (h : rcsOk rs) {c : ByteArray} {q : Int} (hc1 : cOk c) (hq1 : 1 ≤ q ∧ q ≤ 1000000000) (hF : exErr rs = 0) {cs : List ByteArray} (hc : Cds rs c cs) : ∃ K, KH rs c q cs K := by
  have h32 := h.1
  have hE : exE rs c q = if (ordR rs c).1 = false then 19 else match rnAll rs (ordL rs c) c q with
      | none => 16
      | some _ => 0 := by
    unfold exE
    rw [if_neg (by omega), if_neg (by simpa using hF), if_neg (fun hh => hh ⟨hc1, hq1.1, hq1.2⟩)]
    rfl
  have hqm : 0 ≤ q ∧ q ≤ mx := by unfold mx; omega
  by_cases ho : (ordR rs c).1 = true
  · rw [if_neg (by rw [ho]; decide)] at hE
    have hod := ord_of ho
    have hfrom := fun k hk => ord_from (rs := rs) (c := c) k hk
    have hI := ids_of h c q (ordL rs c) hod.nd hod.rng hod.back
    have hnd : ((rnFi rs (ordL rs c) (rn0 rs c q)).1.map Prod.fst).Nodup := rnFi_nd _ _ _ (putM_nd (L := []) (by simp) _ _)
    have h0 : LOk 1 (putM [] c q) := ⟨fun x => by rw [getM_put]; split <;> first | omega | (show 0 ≤ (0 : Int) ∧ (0 : Int) ≤ 1000000000000; omega), len_put [] c q⟩
    have h1 : BOk rs.length (List.replicate rs.length (0 : Int)) := ⟨by simp, fun k => by rw [rep_zero]; omega⟩
    have hsome : ∀ s, rnAll rs (ordL rs c) c q = some s → s = rnFi rs (ordL rs c) (rn0 rs c q) ∧ ∀ x, getM (rnFi rs (ordL rs c) (rn0 rs c q)).1 x ≤ mx := fun s hs => by
      have e := rnF_some _ _ _ hs
      have hk := (rnF_ok h _ _ _ 1 hod.rng h0 h1 hs).1.1
      have e' : s = rnFi rs (ordL rs c) (rn0 rs c q) := e
      rw [e'] at hk
      exact ⟨e', fun x => (hk x).2⟩
    have hnone : rnAll rs (ordL rs c) c q = none → ∃ x, mx < getM (rnFi rs (ordL rs c) (rn0 rs c q)).1 x := fun hs => rnF_none h _ _ hod.rng (fun k => by show 0 ≤ (List.replicate rs.length (0 : Int)).getD k 0; rw [rep_zero]; exact Int.le_refl _) hs
    generalize (rnFi rs (ordL rs c) (rn0 rs c q)) = LB at *
    obtain ⟨L, B⟩ := LB
    dsimp only at *
    refine ⟨KO rs c q cs L B, fun s hs => hs.rb, ⟨rb_start rs cs hqm, fun _ => ?_, fun hh => by cases hh⟩, fun s hs i hi hg hall => ?_, fun s hs a ha hg hu => hs.step h (by omega) ho hI hc ha hg hu, fun s hs hg hov => ?_, fun s hs hg hov => ?_⟩
    · refine ⟨by simp [r40], by simp [r40], by simp [r40], fun i _ hg => ?_, fun i _ hg => ?_, fun i _ hg => ?_, fun k => .inl (rep_zero _ _), fun i hi => ?_⟩
      · have : (List.replicate cs.length false).getD i false = true := hg
        rw [rep_false] at this; cases this
      · have : (List.replicate cs.length false).getD i false = true := hg
        rw [rep_false] at this; cases this
      · have : (List.replicate cs.length false).getD i false = true := hg
        rw [rep_false] at this; cases this
      · show ((List.replicate cs.length (0 : Int)).set 0 q).getD i 0 = _ + sumU rs (List.replicate rs.length (0 : Int)) (cs.getD i default) (ordL rs c)
        have e0 : sumU rs (List.replicate rs.length (0 : Int)) (cs.getD i default) (ordL rs c) = 0 := by
          by_cases hz : sumU rs (List.replicate rs.length (0 : Int)) (cs.getD i default) (ordL rs c) = 0
          · exact hz
          · obtain ⟨k, _, hb, _⟩ := sumU_zero _ _ _ _ hz
            rw [rep_zero] at hb
            exact absurd rfl hb
        rw [e0, Int.add_zero, getD_set, List.length_replicate]
        by_cases hi0 : i = 0
        · subst hi0
          rw [if_pos ⟨rfl, hi⟩, if_pos rfl]
        · rw [if_neg (fun hh => hi0 hh.1.symm), if_neg hi0, rep_zero]
    · obtain ⟨j, hj, hgj, huj⟩ := one_free h hod hc s.gone hi hg
      exact absurd (hall j hj hgj) huj
    · obtain ⟨x, hx⟩ := hs.yes hov
      cases hr : rnAll rs (ordL rs c) c q with
      | none => rw [hr] at hE; exact hE
      | some s' =>
        have := (hsome s' hr).2 x
        omega
    · have hR := hs.no hov
      obtain ⟨e1, e2⟩ := hR.done h (by omega) hod hI hc hfrom hg
      cases hr : rnAll rs (ordL rs c) c q with
      | none =>
        obtain ⟨x, hx⟩ := hnone hr
        have hxin := D_in hI hc hfrom (x := x) (by unfold mx at hx; omega)
        obtain ⟨i, hi, ei⟩ := List.getElem_of_mem hxin
        have e3 := e2 i hi
        rw [ygetD_of hi, ei] at e3
        have := (hs.rb.dr i).2
        omega
      | some s' =>
        obtain ⟨es, hL⟩ := hsome s' hr
        rw [hr] at hE
        have hE0 : exE rs c q = 0 := hE
        refine ⟨hE0, ?_, fun us hus hp => ?_⟩
        · unfold exB
          rw [if_pos hE0, hr]
          show s'.2 = s.bat
          rw [es, e1]
        · unfold exN
          rw [if_pos hE0, hr]
          show sortN (ndsOf rs s'.1) = us
          rw [es]
          refine sortN_unique ?_ hus
          rw [ndT_all rs L cs s.dem e2] at hp
          exact (nds_perm hnd (D_nn h (by omega) hod hI) hc.nd fun x hx => D_in hI hc hfrom hx).trans hp.symm
  · have ho' : (ordR rs c).1 = false := by simpa using ho
    rw [if_pos ho'] at hE
    obtain ⟨S, ⟨d, hd⟩, hS, hP⟩ := cyc_of ho'
    obtain ⟨j, hj, ej⟩ := List.getElem_of_mem (hc.all (hS d hd))
    have ej' : cs.getD j default = d := by rw [ygetD_of hj]; exact ej
    refine ⟨KC rs cs S, fun s hs => hs.rb, ⟨rb_start rs cs hqm, fun i _ _ => rep_false _ _⟩, fun s hs i hi hg hall => hE, fun s hs a ha hg hu => hs.step h hc hS hP ha hu, fun s hs hg hov => ?_, fun s hs hg hov => ?_⟩
    · have h1 := hs.st j hj (by rw [ej']; exact hd)
      rw [hg j hj] at h1
      cases h1
    · have h1 := hs.st j hj (by rw [ej']; exact hd)
      rw [hg j hj] at h1
      cases h1
end Go.Proofs.Ytoeghejbgibioaa
