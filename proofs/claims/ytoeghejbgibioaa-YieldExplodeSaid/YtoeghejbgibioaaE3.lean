/- The reference's way through the codes (plain). -/
import Derived.Test.YtoeghejbgibioaaE2
namespace Go.Proofs.Ytoeghejbgibioaa
open Go Go.RowKit
set_option linter.unusedVariables false
set_option linter.unusedSimpArgs false
set_option maxRecDepth 100000

theorem mk_hasC {rs : List Rc} {c : ByteArray} (h : mk rs c < rs.length) : hasC (rs.getD (mk rs c) default).outs c = true := by
  have h1 := mk_step rs c h (Nat.le_refl _)
  rw [h1]
  simp
theorem mk_out {rs : List Rc} {c : ByteArray} (h : mk rs c < rs.length) : ∃ x ∈ (rs.getD (mk rs c) default).outs, x.c = c := by
  have h1 := mk_hasC h
  unfold hasC at h1
  obtain ⟨x, hx, e⟩ := List.any_eq_true.1 h1
  exact ⟨x, hx, of_decide_eq_true e⟩
def outQ (rs : List Rc) (k : Nat) (x : ByteArray) : Int := qtyS (rs.getD k default).outs x
theorem outQ_pos {rs : List Rc} (h : rcsOk rs) {c : ByteArray} (hk : mk rs c < rs.length) : 1 ≤ outQ rs (mk rs c) c ∧ outQ rs (mk rs c) c ≤ 1000000000 := by
  obtain ⟨x, hx, rfl⟩ := mk_out hk
  obtain ⟨_, _, a3, _⟩ := h.at hk
  unfold outQ
  rw [qtyS_one a3 hx]
  exact asc_q a3 x hx
def ceilD (n q : Int) : Int := (n + q - 1) / q
theorem ceilD_zero {q : Int} (h : 1 ≤ q) : ceilD 0 q = 0 := by
  unfold ceilD
  exact Int.ediv_eq_zero_of_lt (by omega) (by omega)
theorem ceilV_eq {rs : List Rc} (h : rcsOk rs) {k : Nat} (hk : k < rs.length) (L : ML) {x : Nd} (hx : x ∈ (rs.getD k default).outs) : ceilV L x = ceilD (getM L x.c) (outQ rs k x.c) := by
  obtain ⟨_, _, a3, _⟩ := h.at hk
  unfold ceilV ceilD outQ
  rw [qtyS_one a3 hx]
structure Cds (rs : List Rc) (c : ByteArray) (cs : List ByteArray) : Prop where
  nd : cs.Nodup
  hd : cs.getD 0 default = c
  pos : 0 < cs.length
  rch : ∀ x ∈ cs, Rch rs c x
  clo : ∀ b ∈ cs, mk rs b < rs.length → ∀ x ∈ (rs.getD (mk rs b) default).ins, x.c ∈ cs
theorem Cds.all {rs : List Rc} {c : ByteArray} {cs : List ByteArray} (h : Cds rs c cs) {x : ByteArray} (hx : Rch rs c x) : x ∈ cs := by
  induction hx with
  | refl =>
    have := h.hd
    rw [← this, List.getD_eq_getElem?_getD, List.getElem?_eq_getElem h.pos]
    exact List.getElem_mem _
  | step _ hk hx ih => exact h.clo _ ih hk _ hx
def usedP (rs : List Rc) (cs : List ByteArray) (gone : List Bool) (x : ByteArray) : Prop := ∃ i, i < cs.length ∧ gone.getD i false = false ∧ mk rs (cs.getD i default) < rs.length ∧ 0 < useQ rs (mk rs (cs.getD i default)) x
noncomputable instance (rs : List Rc) (cs : List ByteArray) (gone : List Bool) (x : ByteArray) : Decidable (usedP rs cs gone x) := Classical.propDecidable _
theorem useQ_pos {rs : List Rc} (h : rcsOk rs) {k : Nat} (hk : k < rs.length) {x : Nd} (hx : x ∈ (rs.getD k default).ins) : 1 ≤ useQ rs k x.c ∧ useQ rs k x.c = x.q := by
  obtain ⟨a1, _, _, _⟩ := h.at hk
  unfold useQ
  rw [qtyS_one a1 hx]
  exact ⟨(asc_q a1 x hx).1, rfl⟩
theorem useQ_nn {rs : List Rc} (h : rcsOk rs) {k : Nat} (hk : k < rs.length) (x : ByteArray) : 0 ≤ useQ rs k x := by
  obtain ⟨a1, _, _, _⟩ := h.at hk
  exact qtyS_nn _ (fun y hy => (asc_q a1 y hy).1) x
theorem one_free {rs : List Rc} (h : rcsOk rs) {c : ByteArray} {od : List Int} (ho : Ord rs c od) {cs : List ByteArray} (hc : Cds rs c cs) (gone : List Bool) {i : Nat} (hi : i < cs.length) (hg : gone.getD i false = false) :
    ∃ i, i < cs.length ∧ gone.getD i false = false ∧ ¬ usedP rs cs gone (cs.getD i default) := by
  obtain ⟨r, hr⟩ := ho.only
  have key : ∀ n i, i < cs.length → gone.getD i false = false → (∀ j, j < cs.length → gone.getD j false = false → r (cs.getD j default) ≤ n + r (cs.getD i default)) → ∃ i, i < cs.length ∧ gone.getD i false = false ∧ ¬ usedP rs cs gone (cs.getD i default) := by
    intro n
    induction n with
    | zero =>
      intro i hi hg hm
      refine ⟨i, hi, hg, ?_⟩
      rintro ⟨j, hj, hgj, hk, hu⟩
      obtain ⟨x, hx, e⟩ := qtyS_pos _ _ (show qtyS (rs.getD (mk rs (cs.getD j default)) default).ins (cs.getD i default) ≠ 0 by unfold useQ at hu; omega)
      have h1 := hr (cs.getD j default) x (hc.rch _ (ygetD_in hj)) hk hx
      have h2 := hm j hj hgj
      rw [e] at h1
      omega
    | succ n ih =>
      intro i hi hg hm
      by_cases hu : usedP rs cs gone (cs.getD i default)
      · obtain ⟨j, hj, hgj, hk, hu⟩ := hu
        obtain ⟨x, hx, e⟩ := qtyS_pos _ _ (show qtyS (rs.getD (mk rs (cs.getD j default)) default).ins (cs.getD i default) ≠ 0 by unfold useQ at hu; omega)
        have h1 := hr (cs.getD j default) x (hc.rch _ (ygetD_in hj)) hk hx
        rw [e] at h1
        exact ih j hj hgj fun t ht hgt => by have := hm t ht hgt; omega
      · exact ⟨i, hi, hg, hu⟩
  obtain ⟨n, hn⟩ : ∃ n, ∀ j, j < cs.length → r (cs.getD j default) ≤ n := by
    have : ∀ m, m ≤ cs.length → ∃ n, ∀ j, j < m → r (cs.getD j default) ≤ n := by
      intro m
      induction m with
      | zero => exact fun _ => ⟨0, fun j hj => absurd hj (by omega)⟩
      | succ m ih =>
        intro hm
        obtain ⟨n, hn⟩ := ih (by omega)
        refine ⟨n + r (cs.getD m default), fun j hj => ?_⟩
        by_cases h1 : j = m
        · subst h1; omega
        · have := hn j (by omega); omega
    exact this cs.length (Nat.le_refl _)
  exact key n i hi hg fun j hj _ => by have := hn j hj; omega
structure RI (rs : List Rc) (c : ByteArray) (q : Int) (cs : List ByteArray) (od : List Int) (L : ML) (B : List Int) (dem bat : List Int) (gone : List Bool) : Prop where
  ri ::
  dl : dem.length = cs.length
  bl : bat.length = rs.length
  gl : gone.length = cs.length
  fin : ∀ i, i < cs.length → gone.getD i false = true → dem.getD i 0 = getM L (cs.getD i default)
  free : ∀ i, i < cs.length → gone.getD i false = true → ¬ usedP rs cs gone (cs.getD i default)
  ge : ∀ i, i < cs.length → gone.getD i false = true → mk rs (cs.getD i default) < rs.length → ceilD (getM L (cs.getD i default)) (outQ rs (mk rs (cs.getD i default)) (cs.getD i default)) ≤ bat.getD (mk rs (cs.getD i default)) 0
  one : ∀ k, bat.getD k 0 = 0 ∨ ∃ i, i < cs.length ∧ gone.getD i false = true ∧ mk rs (cs.getD i default) = k ∧ k < rs.length ∧ bat.getD k 0 = ceilD (getM L (cs.getD i default)) (outQ rs k (cs.getD i default))
  sum : ∀ i, i < cs.length → dem.getD i 0 = (if i = 0 then q else 0) + sumU rs bat (cs.getD i default) od
section
variable {rs : List Rc} (h : rcsOk rs) {c : ByteArray} {q : Int} (hq : 0 ≤ q) {od : List Int} (ho : Ord rs c od) {L : ML} {B : List Int} (hI : IdS rs od c q L B) {cs : List ByteArray} (hc : Cds rs c cs)
include h hI hq ho in
theorem D_nn (x : ByteArray) : 0 ≤ getM L x := by
  rw [hI.e1 x]
  have : 0 ≤ sumU rs B x od := by
    unfold sumU
    have : ∀ l : List Int, (∀ y ∈ l, y ∈ od) → 0 ≤ (l.map fun k => B.getD k.toNat 0 * useQ rs k.toNat x).sum := by
      intro l
      induction l with
      | nil => intro _; simp
      | cons a l ih =>
        intro hl
        rw [List.map_cons, List.sum_cons]
        have h1 := ih fun y hy => hl y (by simp [hy])
        have h2 := ho.rng a (hl a (by simp))
        have h3 := Int.mul_nonneg (hI.nn a.toNat) (useQ_nn h (k := a.toNat) (by omega) x)
        omega
    exact this od fun _ h => h
  split <;> omega
include hI hc in
theorem D_in (hod : ∀ k ∈ od, ∃ b, Rch rs c b ∧ mk rs b < rs.length ∧ k = (mk rs b : Int)) {x : ByteArray} (hx : getM L x ≠ 0) : x ∈ cs := by
  rw [hI.e1 x] at hx
  by_cases hxc : x = c
  · rw [hxc]; exact hc.all .refl
  rw [if_neg hxc, Int.zero_add] at hx
  obtain ⟨k, hk, _, hu⟩ := sumU_zero _ _ _ _ hx
  obtain ⟨b, hb, hbk, rfl⟩ := hod k hk
  rw [Int.toNat_natCast] at hu
  obtain ⟨y, hy, e⟩ := qtyS_pos _ _ hu
  rw [← e]
  exact hc.all (.step hb hbk hy)
include hI ho h in
theorem B_ge {x : ByteArray} (hr : Rch rs c x) (hx : mk rs x < rs.length) : ceilD (getM L x) (outQ rs (mk rs x) x) ≤ B.getD (mk rs x) 0 := by
  obtain ⟨y, hy, rfl⟩ := mk_out hx
  have h1 := hI.e2 _ (ho.all _ hr hx)
  rw [Int.toNat_natCast] at h1
  rw [h1, ← ceilV_eq h hx L hy]
  exact rnO_ge rs _ L _ 0 y hy rfl
include hI ho h in
theorem B_one (k : Nat) : B.getD k 0 = 0 ∨ ∃ x : ByteArray, mk rs x = k ∧ k < rs.length ∧ (∃ y ∈ (rs.getD k default).outs, y.c = x) ∧ B.getD k 0 = ceilD (getM L x) (outQ rs k x) := by
  by_cases hk : (k : Int) ∈ od
  · have h1 := hI.e2 _ hk
    have hkl := ho.rng _ hk
    rw [Int.toNat_natCast] at h1
    rcases rnO_one rs k L (rs.getD k default).outs 0 with h2 | ⟨y, hy, hm, h2⟩
    · rw [h2] at h1; exact .inl h1
    · refine .inr ⟨y.c, hm, by omega, ⟨y, hy, rfl⟩, ?_⟩
      rw [h1, h2]
      exact ceilV_eq h (by omega) L hy
  · exact .inl (hI.e3 k hk)
include h hq ho hI hc in
theorem RI.le {dem bat : List Int} {gone : List Bool} (hR : RI rs c q cs od L B dem bat gone) (k : Nat) : 0 ≤ bat.getD k 0 ∧ bat.getD k 0 ≤ B.getD k 0 := by
  rcases hR.one k with h1 | ⟨i, hi, hg, hm, hk, h1⟩
  · rw [h1]; exact ⟨Int.le_refl _, hI.nn k⟩
  · rw [h1]
    subst hm
    refine ⟨?_, B_ge h ho hI (hc.rch _ (ygetD_in hi)) hk⟩
    unfold ceilD
    have h2 := outQ_pos h hk
    have h3 := D_nn h hq ho hI (cs.getD i default)
    exact Int.ediv_nonneg (by omega) (by omega)
include h hq ho hI hc in
theorem RI.full (hod : ∀ k ∈ od, ∃ b, Rch rs c b ∧ mk rs b < rs.length ∧ k = (mk rs b : Int)) {dem bat : List Int} {gone : List Bool} (hR : RI rs c q cs od L B dem bat gone) {k : Nat} (hk : ∀ i, i < cs.length → mk rs (cs.getD i default) = k → k < rs.length → gone.getD i false = true) : bat.getD k 0 = B.getD k 0 := by
  have h1 := hR.le h hq ho hI hc k
  refine Int.le_antisymm h1.2 ?_
  rcases B_one h ho hI k with h2 | ⟨x, hx, hkl, ⟨y, hy, hyx⟩, h2⟩
  · rw [h2]; exact h1.1
  · rw [h2]
    by_cases h3 : getM L x = 0
    · rw [h3, ceilD_zero]
      · exact h1.1
      · subst hx; exact (outQ_pos h hkl).1
    · obtain ⟨i, hi, he⟩ := List.getElem_of_mem (D_in hI hc hod h3)
      have he' : cs.getD i default = x := by rw [ygetD_of hi]; exact he
      subst hx
      rw [← he'] at hk hkl ⊢
      exact hR.ge i hi (hk i hi rfl hkl) hkl
include h hq ho hI hc in
theorem RI.dem_free (hod : ∀ k ∈ od, ∃ b, Rch rs c b ∧ mk rs b < rs.length ∧ k = (mk rs b : Int)) {dem bat : List Int} {gone : List Bool} (hR : RI rs c q cs od L B dem bat gone) {i : Nat} (hi : i < cs.length) (hu : ¬ usedP rs cs gone (cs.getD i default)) : dem.getD i 0 = getM L (cs.getD i default) := by
  rw [hR.sum i hi, hI.e1]
  have e0 : (if i = 0 then q else 0) = if cs.getD i default = c then q else 0 := by
    by_cases h0 : i = 0
    · subst h0
      rw [if_pos rfl, if_pos hc.hd]
    · rw [if_neg h0, if_neg]
      intro e
      have h1 : cs[i] = cs[0]'hc.pos := by
        have e1 := hc.hd
        rw [← e1, ygetD_of hi, ygetD_of hc.pos] at e
        exact e
      exact h0 (nd_at hc.nd h1)
  rw [e0]
  congr 1
  unfold sumU
  congr 1
  refine List.map_congr_left fun k hk => ?_
  by_cases h0 : useQ rs k.toNat (cs.getD i default) = 0
  · rw [h0, Int.mul_zero, Int.mul_zero]
  · have hkr := ho.rng k hk
    congr 1
    refine hR.full h hq ho hI hc hod fun j hj hm hkl => ?_
    cases hg : gone.getD j false with
    | true => rfl
    | false =>
      have h2 := useQ_nn h (k := k.toNat) (by omega) (cs.getD i default)
      exact absurd ⟨j, hj, hg, by rw [hm]; exact hkl, by rw [hm]; omega⟩ hu
theorem usedP_mono {gone : List Bool} {a : Nat} {x : ByteArray} (hu : usedP rs cs (gone.set a true) x) : usedP rs cs gone x := by
  obtain ⟨i, hi, hg, hk⟩ := hu
  refine ⟨i, hi, ?_, hk⟩
  rw [List.getD_eq_getElem?_getD, List.getElem?_set] at hg
  rw [List.getD_eq_getElem?_getD]
  split at hg
  · split at hg
    · cases hg
    · rename_i h1 h2
      subst h1
      rw [List.getElem?_eq_none (by omega)]
      rfl
  · exact hg
theorem gone_set {gone : List Bool} {a i : Nat} (ha : a < gone.length) (hg : (gone.set a true).getD i false = true) : i = a ∨ gone.getD i false = true := by
  rw [List.getD_eq_getElem?_getD, List.getElem?_set] at hg
  split at hg
  · rename_i h1; exact .inl h1.symm
  · rw [List.getD_eq_getElem?_getD]; exact .inr hg
theorem gone_old {gone : List Bool} {a i : Nat} (hg : gone.getD i false = true) : (gone.set a true).getD i false = true := by
  rw [List.getD_eq_getElem?_getD] at hg ⊢
  rw [List.getElem?_set]
  split
  · rename_i h1
    subst h1
    split
    · rfl
    · rename_i h2
      rw [List.getElem?_eq_none (by omega)] at hg
      cases hg
  · exact hg
theorem gone_new {gone : List Bool} {a : Nat} (ha : a < gone.length) : (gone.set a true).getD a false = true := by
  rw [List.getD_eq_getElem?_getD, List.getElem?_set, if_pos rfl, if_pos ha]
  rfl
include h hq ho hI hc in
theorem RI.take (hod : ∀ k ∈ od, ∃ b, Rch rs c b ∧ mk rs b < rs.length ∧ k = (mk rs b : Int)) {dem bat : List Int} {gone : List Bool} (hR : RI rs c q cs od L B dem bat gone) {a : Nat} (ha : a < cs.length) (hu : ¬ usedP rs cs gone (cs.getD a default))
    (hk : mk rs (cs.getD a default) < rs.length → ceilD (dem.getD a 0) (outQ rs (mk rs (cs.getD a default)) (cs.getD a default)) ≤ bat.getD (mk rs (cs.getD a default)) 0) : RI rs c q cs od L B dem bat (gone.set a true) := by
  have hd := hR.dem_free h hq ho hI hc hod ha hu
  have hag : a < gone.length := by rw [hR.gl]; exact ha
  rw [hd] at hk
  refine ⟨hR.dl, hR.bl, by rw [List.length_set]; exact hR.gl, fun i hi hg => ?_, fun i hi hg hu' => ?_, fun i hi hg hm => ?_, fun k => ?_, hR.sum⟩
  · rcases gone_set hag hg with rfl | h1
    · exact hd
    · exact hR.fin i hi h1
  · rcases gone_set hag hg with rfl | h1
    · exact hu (usedP_mono hu')
    · exact hR.free i hi h1 (usedP_mono hu')
  · rcases gone_set hag hg with rfl | h1
    · exact hk hm
    · exact hR.ge i hi h1 hm
  · rcases hR.one k with h1 | ⟨i, hi, hg, h1⟩
    · exact .inl h1
    · exact .inr ⟨i, hi, gone_old hg, h1⟩
theorem sumU_set {bat : List Int} {k : Nat} (v : Int) (x : ByteArray) : ∀ od : List Int, od.Nodup → (∀ y ∈ od, 0 ≤ y) → (k : Int) ∈ od → k < bat.length → sumU rs (bat.set k v) x od = sumU rs bat x od + (v - bat.getD k 0) * useQ rs k x
  | [], _, _, hk, _ => absurd hk (by simp)
  | a :: l, hn, hr, hk, hl => by
    have hn' := List.nodup_cons.1 hn
    have e : ∀ b, sumU rs b x (a :: l) = b.getD a.toNat 0 * useQ rs a.toNat x + sumU rs b x l := fun b => by unfold sumU; rw [List.map_cons, List.sum_cons]
    rw [e, e]
    rcases List.mem_cons.1 hk with rfl | hk2
    · have h1 : sumU rs (bat.set k v) x l = sumU rs bat x l := sumU_congr _ _ _ _ _ fun y hy => by
        rw [getD_set, if_neg]
        rintro ⟨e1, _⟩
        have := hr y (by simp [hy])
        have : y = (k : Int) := by omega
        subst this
        exact hn'.1 hy
      rw [h1, Int.toNat_natCast, getD_set, if_pos ⟨rfl, hl⟩, Int.sub_mul]
      omega
    · have ih := sumU_set v x l hn'.2 (fun y hy => hr y (by simp [hy])) hk2 hl
      have h1 : (bat.set k v).getD a.toNat 0 = bat.getD a.toNat 0 := by
        rw [getD_set, if_neg]
        rintro ⟨e1, _⟩
        have := hr a (by simp)
        have : a = (k : Int) := by omega
        subst this
        exact hn'.1 hk2
      rw [ih, h1]
      omega
include h hq ho hI hc in
theorem RI.more (hod : ∀ k ∈ od, ∃ b, Rch rs c b ∧ mk rs b < rs.length ∧ k = (mk rs b : Int)) {dem bat dem' : List Int} {gone : List Bool} (hR : RI rs c q cs od L B dem bat gone) {a : Nat} (ha : a < cs.length) (hu : ¬ usedP rs cs gone (cs.getD a default))
    (hg0 : gone.getD a false = false) (hk : mk rs (cs.getD a default) < rs.length) (hm : bat.getD (mk rs (cs.getD a default)) 0 < ceilD (dem.getD a 0) (outQ rs (mk rs (cs.getD a default)) (cs.getD a default)))
    (hl' : dem'.length = cs.length) (hd' : ∀ i, i < cs.length → dem'.getD i 0 = dem.getD i 0 + (ceilD (dem.getD a 0) (outQ rs (mk rs (cs.getD a default)) (cs.getD a default)) - bat.getD (mk rs (cs.getD a default)) 0) * useQ rs (mk rs (cs.getD a default)) (cs.getD i default)) :
    RI rs c q cs od L B dem' (bat.set (mk rs (cs.getD a default)) (ceilD (dem.getD a 0) (outQ rs (mk rs (cs.getD a default)) (cs.getD a default)))) (gone.set a true) := by
  have hd := hR.dem_free h hq ho hI hc hod ha hu
  have hag : a < gone.length := by rw [hR.gl]; exact ha
  have hkod := ho.all _ (hc.rch _ (ygetD_in ha)) hk
  have hbl : mk rs (cs.getD a default) < bat.length := by rw [hR.bl]; exact hk
  obtain ⟨v, hv⟩ : ∃ v, v = ceilD (dem.getD a 0) (outQ rs (mk rs (cs.getD a default)) (cs.getD a default)) := ⟨_, rfl⟩
  rw [← hv] at hm hd' ⊢
  have hv' : v = ceilD (getM L (cs.getD a default)) (outQ rs (mk rs (cs.getD a default)) (cs.getD a default)) := by rw [hv, hd]
  have h0 : ∀ i, i < cs.length → (i = a ∨ gone.getD i false = true) → useQ rs (mk rs (cs.getD a default)) (cs.getD i default) = 0 := fun i hi hi' => by
    by_cases h0 : useQ rs (mk rs (cs.getD a default)) (cs.getD i default) = 0
    · exact h0
    · have h1 := useQ_nn h hk (cs.getD i default)
      have h2 : usedP rs cs gone (cs.getD i default) := ⟨a, ha, hg0, hk, by omega⟩
      rcases hi' with rfl | hi'
      · exact absurd h2 hu
      · exact absurd h2 (hR.free i hi hi')
  have hdd : ∀ i, i < cs.length → (i = a ∨ gone.getD i false = true) → dem'.getD i 0 = dem.getD i 0 := fun i hi hi' => by rw [hd' i hi, h0 i hi hi', Int.mul_zero, Int.add_zero]
  refine ⟨hl', by rw [List.length_set]; exact hR.bl, by rw [List.length_set]; exact hR.gl, fun i hi hg => ?_, fun i hi hg hu' => ?_, fun i hi hg hmk => ?_, fun k => ?_, fun i hi => ?_⟩
  · rcases gone_set hag hg with rfl | h1
    · rw [hdd i hi (.inl rfl)]; exact hd
    · rw [hdd i hi (.inr h1)]; exact hR.fin i hi h1
  · rcases gone_set hag hg with rfl | h1
    · exact hu (usedP_mono hu')
    · exact hR.free i hi h1 (usedP_mono hu')
  · rw [getD_set]
    rcases gone_set hag hg with rfl | h1
    · rw [if_pos ⟨rfl, hbl⟩, hv']
      exact Int.le_refl _
    · have h2 := hR.ge i hi h1 hmk
      split
      · rename_i h3
        rw [← h3.1] at h2 ⊢
        omega
      · exact h2
  · rw [getD_set]
    split
    · rename_i h3
      refine .inr ⟨a, ha, gone_new hag, h3.1, by rw [← h3.1]; exact hk, ?_⟩
      rw [← h3.1]
      exact hv'
    · rcases hR.one k with h1 | ⟨i, hi, hg, h1⟩
      · exact .inl h1
      · exact .inr ⟨i, hi, gone_old hg, h1⟩
  · rw [hd' i hi, hR.sum i hi, sumU_set v _ od ho.nd (fun y hy => (ho.rng y hy).1) hkod hbl]
    omega
include h hq ho hI hc in
theorem RI.over (hod : ∀ k ∈ od, ∃ b, Rch rs c b ∧ mk rs b < rs.length ∧ k = (mk rs b : Int)) {dem bat : List Int} {gone : List Bool} (hR : RI rs c q cs od L B dem bat gone) {a : Nat} (ha : a < cs.length) (hu : ¬ usedP rs cs gone (cs.getD a default))
    (hk : mk rs (cs.getD a default) < rs.length) (i : Nat) (hi : i < cs.length)
    (hm : mx < dem.getD i 0 + (ceilD (dem.getD a 0) (outQ rs (mk rs (cs.getD a default)) (cs.getD a default)) - bat.getD (mk rs (cs.getD a default)) 0) * useQ rs (mk rs (cs.getD a default)) (cs.getD i default)) : ∃ x, mx < getM L x := by
  refine ⟨cs.getD i default, Int.lt_of_lt_of_le hm ?_⟩
  have hd := hR.dem_free h hq ho hI hc hod ha hu
  have hkod := ho.all _ (hc.rch _ (ygetD_in ha)) hk
  have hbl : mk rs (cs.getD a default) < bat.length := by rw [hR.bl]; exact hk
  have hB := B_ge h ho hI (hc.rch _ (ygetD_in ha)) hk
  rw [hd]
  rw [hR.sum i hi, hI.e1 (cs.getD i default)]
  have e0 : (if i = 0 then q else 0) = if cs.getD i default = c then q else 0 := by
    by_cases h0 : i = 0
    · subst h0
      rw [if_pos rfl, if_pos hc.hd]
    · rw [if_neg h0, if_neg]
      intro e
      have h1 : cs[i] = cs[0]'hc.pos := by
        have e1 := hc.hd
        rw [← e1, ygetD_of hi, ygetD_of hc.pos] at e
        exact e
      exact h0 (nd_at hc.nd h1)
  rw [e0]
  have h1 := sumU_set (rs := rs) (bat := bat) (ceilD (getM L (cs.getD a default)) (outQ rs (mk rs (cs.getD a default)) (cs.getD a default))) (cs.getD i default) od ho.nd (fun y hy => (ho.rng y hy).1) hkod hbl
  have h2 : sumU rs (bat.set (mk rs (cs.getD a default)) (ceilD (getM L (cs.getD a default)) (outQ rs (mk rs (cs.getD a default)) (cs.getD a default)))) (cs.getD i default) od ≤ sumU rs B (cs.getD i default) od := by
    have : ∀ (b : List Int) (l : List Int), (∀ y ∈ l, y ∈ od) → (∀ j, b.getD j 0 ≤ B.getD j 0) → sumU rs b (cs.getD i default) l ≤ sumU rs B (cs.getD i default) l := by
      intro b l
      induction l with
      | nil => intro _ _; exact Int.le_refl _
      | cons y l ih =>
        intro hl hb
        have e : ∀ b, sumU rs b (cs.getD i default) (y :: l) = b.getD y.toNat 0 * useQ rs y.toNat (cs.getD i default) + sumU rs b (cs.getD i default) l := fun b => by unfold sumU; rw [List.map_cons, List.sum_cons]
        rw [e, e]
        have h3 := ih (fun z hz => hl z (by simp [hz])) hb
        have h4 := ho.rng y (hl y (by simp))
        have h5 := Int.mul_le_mul_of_nonneg_right (hb y.toNat) (useQ_nn h (k := y.toNat) (by omega) (cs.getD i default))
        omega
    refine this _ od (fun _ h => h) fun j => ?_
    rw [getD_set]
    split
    · rename_i h3
      rw [← h3.1]
      exact hB
    · exact (hR.le h hq ho hI hc j).2
  omega
include h hq ho hI hc in
theorem RI.done (hod : ∀ k ∈ od, ∃ b, Rch rs c b ∧ mk rs b < rs.length ∧ k = (mk rs b : Int)) {dem bat : List Int} {gone : List Bool} (hR : RI rs c q cs od L B dem bat gone) (hg : ∀ i, i < cs.length → gone.getD i false = true) : bat = B ∧ ∀ i, i < cs.length → dem.getD i 0 = getM L (cs.getD i default) := by
  refine ⟨?_, fun i hi => hR.fin i hi (hg i hi)⟩
  apply List.ext_getElem?
  intro t
  have h1 := hR.full h hq ho hI hc hod (k := t) fun i hi _ _ => hg i hi
  by_cases ht : t < rs.length
  · rw [List.getD_eq_getElem?_getD, List.getD_eq_getElem?_getD, List.getElem?_eq_getElem (by rw [hR.bl]; exact ht), List.getElem?_eq_getElem (by rw [hI.len]; exact ht)] at h1
    rw [List.getElem?_eq_getElem (by rw [hR.bl]; exact ht), List.getElem?_eq_getElem (by rw [hI.len]; exact ht)]
    exact congrArg some h1
  · rw [List.getElem?_eq_none (by rw [hR.bl]; omega), List.getElem?_eq_none (by rw [hI.len]; omega)]
end
end Go.Proofs.Ytoeghejbgibioaa
