/- Recipes of a mill. -/
import Derived.Test.YtoeghejbgibioaaH5
namespace Go.Proofs.Ytoeghejbgibioaa
open Go Go.RowKit
set_option linter.unusedVariables false
set_option linter.unusedSimpArgs false
set_option maxRecDepth 100000
set_option maxHeartbeats 4000000
attribute [local irreducible] ResLe AVle ArgLe ArgP EntLe Dle ResH ArgQ strEq strLt

theorem W.pubC {X : Cx} {n : Nat} {st : St} {Q : Exit → St → Prop} {c : Code} (b j r : Nat) {s m : Nat} {E : TypeId} {f : Nat → Nat → D} {T : TypeId} {cs : List AV} (hb : st.ent b = some (.blk T cs)) (hj : cs[j]? = some (.own r s 0 m)) (he : st.ent r = some (.row E s m f)) (hbr : Nat.beq r b = false)
    (h : St.un st fun fr hp => W X n c ⟨fr, (b, .blk T (cs.set j (.dat (.lst s m f)))) :: (r, .pub s m f) :: hp⟩ Q) (hr : r < 5000 := by exact Nat.le_of_ble_eq_true rfl) : W X n c st Q := ⟨fun hX R hn ρ M a w hs => by
  obtain ⟨M', _, hs'⟩ := hs.publish he hr
  have h' : W X n c ⟨st.fr, (b, .blk T (cs.set j (.dat (.lst s m f)))) :: (r, .pub s m f) :: st.hp⟩ Q := h
  have hne : r ≠ b := fun e => by subst e; rw [Nat.beq_refl] at hbr; cases hbr
  have hb' : (⟨st.fr, (r, .pub s m f) :: st.hp⟩ : St).ent b = some (.blk T cs) := by
    show lk b _ = _
    rw [lk_cons, if_neg hne]
    exact hb
  have h3 : EntOk ρ M' w r (.pub s m f) := hs'.ents r _ (by show lk r _ = _; rw [lk_cons, if_pos rfl])
  obtain ⟨g, vs, g1, g2, g3, g4⟩ := hs'.ents b _ hb'
  refine h'.out hX R hn ρ M' a w (hs'.swap hb' rfl ⟨g, vs, g1, g2, by rw [List.length_set]; exact g3, fun i c v hc hv => ?_⟩)
  rw [List.getElem?_set] at hc
  split at hc
  · rename_i hij
    subst hij
    split at hc
    · cases hc
      have h5 := g4 j _ v hj hv
      rw [own_of h5, partOf_zero, Nat.sub_zero]
      exact .dat h3
    · cases hc
  · exact g4 i c v hc hv⟩
abbrev mc0 : ByteArray := ⟨#[48, 48, 48, 48, 48, 48, 48, 48]⟩
abbrev mc1 : ByteArray := ⟨#[48, 48, 48, 48, 48, 48, 48, 49]⟩
abbrev mc2 : ByteArray := ⟨#[48, 48, 48, 48, 48, 48, 48, 50]⟩
abbrev mc3 : ByteArray := ⟨#[48, 48, 48, 48, 48, 48, 48, 51]⟩
abbrev mc4 : ByteArray := ⟨#[48, 48, 48, 48, 48, 48, 48, 52]⟩
abbrev mc5 : ByteArray := ⟨#[48, 48, 48, 48, 48, 48, 48, 53]⟩
abbrev mc6 : ByteArray := ⟨#[48, 48, 48, 48, 48, 48, 48, 54]⟩
abbrev mc7 : ByteArray := ⟨#[48, 48, 48, 48, 48, 48, 48, 55]⟩
abbrev mc9 : ByteArray := ⟨#[48, 48, 48, 48, 48, 48, 48, 57]⟩
def mcs : List ByteArray := [mc0, mc1, mc2, mc3, mc4, mc5, mc6, mc7]
def mco (i : Nat) : ByteArray := mcs.getD i default
theorem mco_ok : ∀ i, i < 8 → cOk (mco i) := fun i hi => by
  rcases i with _ | _ | _ | _ | _ | _ | _ | _ | i
  all_goals first | (exfalso; omega) | skip
  all_goals (refine ⟨rfl, fun j hj => ?_⟩)
  all_goals (rcases j with _ | _ | _ | _ | _ | _ | _ | _ | j)
  all_goals first | (exfalso; omega) | decide
theorem mco_lt : ∀ i, i < 8 → ∀ j, j < i → strLt (mco i) (mco j) = false ∧ strEq (mco i) (mco j) = false := by
  decide +kernel
theorem mc9_ok : cOk mc9 := by
  refine ⟨rfl, fun j hj => ?_⟩
  rcases j with _ | _ | _ | _ | _ | _ | _ | _ | j
  all_goals first | (exfalso; omega) | decide
abbrev MO := List Nd × List Int × Nat
def mlO (L : List Int) (i : Nat) : MO :=
  if nx L (ni L (ni L i)) 3 = 0 then ([⟨mco (nx L i 6).toNat, 1 + nx L (ni L i) 4⟩, ⟨mco ((nx L i 6).toNat + 1), 1 + nx L (ni L (ni L (ni L i))) 3⟩], [1, nx L (ni L (ni L (ni L (ni L i)))) 2], ni L (ni L (ni L (ni L (ni L i)))))
  else ([⟨mco (nx L i 6).toNat, 1 + nx L (ni L i) 4⟩], [1], ni L (ni L (ni L i)))
def mlF (L : List Int) (k : Int) (i : Nat) : Int × Nat := if nx L (ni L i) 12 = 0 then (nx L (ni L (ni L i)) 3, ni L (ni L (ni L i))) else (k + 1 + nx L i 2, ni L (ni L i))
abbrev MI := Nat × Int × List Nd
def mlI (L : List Int) : Nat → MI → Nat × List Nd
  | 0, s => (s.1, s.2.2)
  | m + 1, s => if s.2.1 < 8 ∧ s.2.2.length < 3 then mlI L m (ni L (ni L (ni L s.1)), s.2.1 + 1 + nx L (ni L (ni L s.1)) 3, s.2.2 ++ [⟨mco s.2.1.toNat, 1 + sx L s.1 4 1000000000⟩]) else (s.1, s.2.2)
def mlE (us : List Nd) : List Nd := if us.length = 0 then [⟨mc9, 1⟩] else us
abbrev MS := Nat × Int × List Rc
def mlJ (L : List Int) (s : MS) : Nat × List Nd := mlI L 3 ((mlF L (nx L s.1 6) (mlO L s.1).2.2).2, (mlF L (nx L s.1 6) (mlO L s.1).2.2).1, [])
def mlS (L : List Int) (s : MS) : MS := (ni L (mlJ L s).1, s.2.1 + 1 + nx L (mlJ L s).1 2, s.2.2 ++ [⟨s.2.1, mlE (mlJ L s).2, (mlO L s.1).1, (mlO L s.1).2.1⟩])
def mlR (L : List Int) : Nat → MS → List Rc
  | 0, s => s.2.2
  | m + 1, s => if s.1 < L.length ∧ s.2.2.length < 8 then mlR L m (mlS L s) else s.2.2
theorem mlI_ok (L : List Int) : ∀ (m : Nat) (s : MI), 0 ≤ s.2.1 → ascOk s.2.2 1 1000000000 → (∀ x ∈ s.2.2, ∃ j : Nat, (j : Int) < s.2.1 ∧ j < 8 ∧ x.c = mco j) → s.2.2.length ≤ 3 → s.1 ≤ L.length →
    ascOk (mlI L m s).2 1 1000000000 ∧ (mlI L m s).2.length ≤ 3 ∧ s.1 ≤ (mlI L m s).1 ∧ (mlI L m s).1 ≤ L.length
  | 0, s, _, h1, _, h3, h4 => ⟨h1, h3, Nat.le_refl _, h4⟩
  | m + 1, s, h0, h1, h2, h3, h4 => by
    unfold mlI
    split
    · rename_i hc
      have q := sx_rng L s.1 (few := 4) (n := 1000000000) (by decide) (by decide)
      have n1 := ni_le L s.1 h4
      have n2 := ni_le L _ n1.2.1
      have n3 := ni_le L _ n2.2.1
      have x1 := nx_rng L (ni L (ni L s.1)) (m := 3) (by decide)
      obtain ⟨p, hp⟩ : ∃ p : Nat, s.2.1 = p := ⟨s.2.1.toNat, by omega⟩
      obtain ⟨r1, r2, r3, r4⟩ := mlI_ok L m (ni L (ni L (ni L s.1)), s.2.1 + 1 + nx L (ni L (ni L s.1)) 3, s.2.2 ++ [⟨mco s.2.1.toNat, 1 + sx L s.1 4 1000000000⟩]) (by simp only; omega)
        (asc_snoc h1 (mco_ok _ (by omega)) (by simp only; omega) (by simp only; omega) fun y hy => by
          obtain ⟨j, hj, hj8, e⟩ := h2 y hy
          rw [e]
          exact mco_lt _ (by omega) j (by omega))
        (fun x hx => by
          rcases List.mem_append.1 hx with hx | hx
          · obtain ⟨j, hj, hj8, e⟩ := h2 x hx
            exact ⟨j, by simp only; omega, hj8, e⟩
          · rw [List.mem_singleton] at hx
            subst hx
            exact ⟨s.2.1.toNat, by simp only; omega, by omega, rfl⟩)
        (by simp; omega) n3.2.1
      exact ⟨r1, r2, by omega, r4⟩
    · exact ⟨h1, h3, Nat.le_refl _, h4⟩
structure MlOk (L : List Int) (s : MS) : Prop where
  i : s.1 ≤ L.length
  len : s.2.2.length ≤ 8
  id1 : 1 ≤ s.2.1
  id2 : s.2.1 ≤ 1 + 2 * s.2.2.length
  ok : ∀ r ∈ s.2.2, yrOk r ∧ r.id < s.2.1 ∧ ∀ x ∈ r.outs, x.q ≤ 4
  ord : ∀ i, i < s.2.2.length → exA s.2.2 i = 0
theorem mlO_ok (L : List Int) (i : Nat) (hi : i ≤ L.length) : ndsOk (mlO L i).1 ∧ (mlO L i).2.1.length = (mlO L i).1.length ∧ shOk (mlO L i).2.1 ∧ (mlO L i).2.1.sum ≠ 0 ∧ (∀ x ∈ (mlO L i).1, x.q ≤ 4) ∧ i ≤ (mlO L i).2.2 ∧ (i < L.length → i < (mlO L i).2.2) ∧ (mlO L i).2.2 ≤ L.length := by
  have x0 := nx_rng L i (m := 6) (by decide)
  have x1 := nx_rng L (ni L i) (m := 4) (by decide)
  have x2 := nx_rng L (ni L (ni L (ni L i))) (m := 3) (by decide)
  have x3 := nx_rng L (ni L (ni L (ni L (ni L i)))) (m := 2) (by decide)
  have n1 := ni_le L i hi
  have n2 := ni_le L _ n1.2.1
  have n3 := ni_le L _ n2.2.1
  have n4 := ni_le L _ n3.2.1
  have n5 := ni_le L _ n4.2.1
  have hk : (nx L i 6).toNat < 6 := by omega
  have h1 : ascOk [(⟨mco (nx L i 6).toNat, 1 + nx L (ni L i) 4⟩ : Nd)] 1 1000000000 := asc_one (mco_ok _ (by omega)) (by simp only; omega) (by simp only; omega)
  unfold mlO
  split
  · refine ⟨⟨asc_snoc h1 (mco_ok _ (by omega)) (by simp only; omega) (by simp only; omega) fun y hy => ?_, by simp, by simp⟩, rfl, fun j hj => ?_, ?_, fun x hx => ?_, by simp only; omega, fun h => by have := n1.2.2 h; simp only; omega, by simp only; omega⟩
    · rw [List.mem_singleton] at hy
      subst hy
      exact mco_lt _ (by omega) _ (by omega)
    · have hj' : j < 2 := hj
      rcases j with _ | _ | j
      · show 0 ≤ (1 : Int) ∧ (1 : Int) ≤ 1000000
        decide
      · show 0 ≤ nx L (ni L (ni L (ni L (ni L i)))) 2 ∧ nx L (ni L (ni L (ni L (ni L i)))) 2 ≤ 1000000
        omega
      · omega
    · show ([1, nx L (ni L (ni L (ni L (ni L i)))) 2] : List Int).sum ≠ 0
      simp only [List.sum_cons, List.sum_nil]
      omega
    · rcases List.mem_cons.1 hx with rfl | hx
      · simp only; omega
      · rw [List.mem_singleton] at hx; subst hx; simp only; omega
  · refine ⟨⟨h1, by simp, by simp⟩, rfl, fun j hj => ?_, (by show ([1] : List Int).sum ≠ 0; decide), fun x hx => ?_, by simp only; omega, fun h => by have := n1.2.2 h; simp only; omega, by simp only; omega⟩
    · have hj' : j < 1 := hj
      obtain rfl : j = 0 := by omega
      show 0 ≤ (1 : Int) ∧ (1 : Int) ≤ 1000000
      decide
    · rw [List.mem_singleton] at hx; subst hx; simp only; omega
theorem mlF_ok (L : List Int) {k : Int} (hk : 0 ≤ k) (i : Nat) (hi : i ≤ L.length) : 0 ≤ (mlF L k i).1 ∧ i ≤ (mlF L k i).2 ∧ (mlF L k i).2 ≤ L.length := by
  have x0 := nx_rng L i (m := 2) (by decide)
  have x1 := nx_rng L (ni L (ni L i)) (m := 3) (by decide)
  have n1 := ni_le L i hi
  have n2 := ni_le L _ n1.2.1
  have n3 := ni_le L _ n2.2.1
  unfold mlF
  split
  · simp only; omega
  · simp only; omega
theorem MlOk.step {L : List Int} {s : MS} (h : MlOk L s) (hl : s.2.2.length < 8) : MlOk L (mlS L s) ∧ s.1 ≤ (mlS L s).1 ∧ (s.1 < L.length → s.1 < (mlS L s).1) := by
  obtain ⟨o1, o2, o3, o4, o5, o6, o7, o8⟩ := mlO_ok L s.1 h.i
  have x0 := nx_rng L s.1 (m := 6) (by decide)
  obtain ⟨f1, f2, f3⟩ := mlF_ok L (k := nx L s.1 6) x0.1 (mlO L s.1).2.2 o8
  obtain ⟨j1, j2, j3, j4⟩ := mlI_ok L 3 ((mlF L (nx L s.1 6) (mlO L s.1).2.2).2, (mlF L (nx L s.1 6) (mlO L s.1).2.2).1, []) f1 (fun i hi => absurd hi (by simp)) (fun x hx => by cases hx) (by simp) f3
  have eJ : mlI L 3 ((mlF L (nx L s.1 6) (mlO L s.1).2.2).2, (mlF L (nx L s.1 6) (mlO L s.1).2.2).1, []) = mlJ L s := rfl
  rw [eJ] at j1 j2 j3 j4
  simp only at j3
  have n1 := ni_le L _ j4
  have x2 := nx_rng L (mlJ L s).1 (m := 2) (by decide)
  have i1 := h.id1
  have i2 := h.id2
  have hE : ndsOk (mlE (mlJ L s).2) := by
    unfold mlE
    split
    · exact ⟨asc_one mc9_ok (by decide) (by decide), by decide, by decide⟩
    · exact ⟨j1, by omega, by omega⟩
  have hY : yrOk ⟨s.2.1, mlE (mlJ L s).2, (mlO L s.1).1, (mlO L s.1).2.1⟩ := ⟨by simp only; omega, hE, o1, o2, o3, o4⟩
  have e0 : ∀ j, j < s.2.2.length → (s.2.2 ++ [(⟨s.2.1, mlE (mlJ L s).2, (mlO L s.1).1, (mlO L s.1).2.1⟩ : Rc)]).getD j default = s.2.2.getD j default := fun j hj => by
    rw [List.getD_eq_getElem?_getD, List.getD_eq_getElem?_getD, List.getElem?_append_left hj]
  have e1 : (s.2.2 ++ [(⟨s.2.1, mlE (mlJ L s).2, (mlO L s.1).1, (mlO L s.1).2.1⟩ : Rc)]).getD s.2.2.length default = ⟨s.2.1, mlE (mlJ L s).2, (mlO L s.1).1, (mlO L s.1).2.1⟩ := by simp [List.getD_eq_getElem?_getD]
  refine ⟨⟨n1.2.1, by unfold mlS; simp; omega, by unfold mlS; simp only; omega, by unfold mlS; simp only [List.length_append, List.length_singleton]; push_cast; omega, fun r hr => ?_, fun i hi => ?_⟩, ?_, fun hlt => ?_⟩
  · have hr' : r ∈ s.2.2 ++ [(⟨s.2.1, mlE (mlJ L s).2, (mlO L s.1).1, (mlO L s.1).2.1⟩ : Rc)] := hr
    show yrOk r ∧ r.id < s.2.1 + 1 + nx L (mlJ L s).1 2 ∧ _
    rcases List.mem_append.1 hr' with hr' | hr'
    · obtain ⟨a1, a2, a3⟩ := h.ok r hr'
      exact ⟨a1, by omega, a3⟩
    · rw [List.mem_singleton] at hr'
      subst hr'
      exact ⟨hY, by simp only; omega, o5⟩
  · have hi' : i < (s.2.2 ++ [(⟨s.2.1, mlE (mlJ L s).2, (mlO L s.1).1, (mlO L s.1).2.1⟩ : Rc)]).length := hi
    rw [List.length_append, List.length_singleton] at hi'
    show exA (s.2.2 ++ [(⟨s.2.1, mlE (mlJ L s).2, (mlO L s.1).1, (mlO L s.1).2.1⟩ : Rc)]) i = 0
    by_cases hil : i < s.2.2.length
    · have := h.ord i hil
      unfold exA at this ⊢
      rw [e0 i hil, e0 (i - 1) (by omega)]
      exact this
    · obtain rfl : i = s.2.2.length := by omega
      unfold exA
      rw [e1, if_neg (by simpa using hY), if_neg]
      rintro ⟨q1, q2⟩
      rw [e0 _ (by omega)] at q2
      have := (h.ok _ (ygetD_in (us := s.2.2) (k := s.2.2.length - 1) (by omega))).2.1
      simp only at q2
      omega
  · show s.1 ≤ ni L (mlJ L s).1
    omega
  · have := o7 hlt
    show s.1 < ni L (mlJ L s).1
    omega
theorem mlR_ok (L : List Int) : ∀ (m : Nat) (s : MS), MlOk L s → ∃ t, MlOk L t ∧ mlR L m s = t.2.2
  | 0, s, h => ⟨s, h, rfl⟩
  | m + 1, s, h => by
    unfold mlR
    split
    · rename_i hc
      exact mlR_ok L m (mlS L s) (h.step hc.2).1
    · exact ⟨s, h, rfl⟩
theorem exF_of (rs : List Rc) (h : ∀ i, i < rs.length → exA rs i = 0) : ∀ m i, i + m ≤ rs.length → exF rs m i = 0
  | 0, _, _ => rfl
  | m + 1, i, hi => by
    unfold exF
    rw [if_neg (by rw [h i (by omega)]; decide)]
    exact exF_of rs h m (i + 1) (by omega)
end Go.Proofs.Ytoeghejbgibioaa
