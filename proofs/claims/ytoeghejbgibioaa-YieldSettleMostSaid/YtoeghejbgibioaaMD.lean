/- Dated quantities that are made. -/
import Derived.Test.YtoeghejbgibioaaY7
namespace Go.Proofs.Ytoeghejbgibioaa
open Go Go.RowKit
set_option linter.unusedVariables false
set_option linter.unusedSimpArgs false
set_option maxRecDepth 100000
set_option maxHeartbeats 4000000
attribute [local irreducible] ResLe AVle ArgLe ArgP EntLe Dle ResH ArgQ strEq strLt

abbrev DS := Nat × Int × List Dt
def dsS (L : List Int) (s : DS) : DS := (ni L (ni L s.1), s.2.1 + nx L s.1 4, s.2.2 ++ [⟨s.2.1 + nx L s.1 4, nx L (ni L s.1) 9⟩])
def dsR (L : List Int) : Nat → DS → List Dt
  | 0, s => s.2.2
  | m + 1, s => if s.1 < L.length then dsR L m (dsS L s) else s.2.2
structure DsOk (ds : List Dt) (day : Int) : Prop where
  at0 : ∀ i, i < ds.length → dtA ds i = 0
  le : ∀ x ∈ ds, x.d ≤ day
  lo : 5 ≤ day
  hi : day ≤ 5 + 3 * ds.length
  qs : ∀ x ∈ ds, 0 ≤ x.q ∧ x.q ≤ 8
theorem dtF_of (ds : List Dt) (h : ∀ i, i < ds.length → dtA ds i = 0) : ∀ m i, i + m ≤ ds.length → dtF ds m i = 0
  | 0, _, _ => rfl
  | m + 1, i, hi => by
    unfold dtF
    rw [if_neg (by rw [h i (by omega)]; decide)]
    exact dtF_of ds h m (i + 1) (by omega)
theorem DsOk.err {ds : List Dt} {day : Int} (h : DsOk ds day) : dtErr ds = 0 := dtF_of ds h.at0 _ 0 (by omega)
theorem DsOk.step {ds : List Dt} {day : Int} (h : DsOk ds day) {a q : Int} (ha : 0 ≤ a ∧ a < 4) (hq : 0 ≤ q ∧ q < 9) (hl : ds.length ≤ 1000) : DsOk (ds ++ [⟨day + a, q⟩]) (day + a) := by
  have h1 := h.lo
  have h2 := h.hi
  refine ⟨fun i hi => ?_, fun x hx => ?_, by omega, by rw [List.length_append, List.length_singleton]; push_cast; omega, fun x hx => ?_⟩
  · rw [List.length_append, List.length_singleton] at hi
    have e0 : ∀ j, j < ds.length → (ds ++ [(⟨day + a, q⟩ : Dt)]).getD j default = ds.getD j default := fun j hj => by
      rw [List.getD_eq_getElem?_getD, List.getD_eq_getElem?_getD, List.getElem?_append_left hj]
    by_cases hil : i < ds.length
    · have := h.at0 i hil
      unfold dtA at this ⊢
      rw [e0 i hil, e0 (i - 1) (by omega)]
      exact this
    · obtain rfl : i = ds.length := by omega
      have e1 : (ds ++ [(⟨day + a, q⟩ : Dt)]).getD ds.length default = ⟨day + a, q⟩ := by simp [List.getD_eq_getElem?_getD]
      unfold dtA
      rw [e1, if_neg (by unfold dtR; simp only; omega), if_neg]
      rintro ⟨h3, h4⟩
      rw [e0 _ (by omega)] at h4
      have := h.le _ (ygetD_in (us := ds) (k := ds.length - 1) (by omega))
      simp only at h4
      omega
  · rcases List.mem_append.1 hx with hx | hx
    · have := h.le x hx; omega
    · rw [List.mem_singleton] at hx; subst hx; exact Int.le_refl _
  · rcases List.mem_append.1 hx with hx | hx
    · exact h.qs x hx
    · rw [List.mem_singleton] at hx; subst hx; simp only; omega
theorem dsR_ok (L : List Int) (hL : L.length ≤ 40) : ∀ (m : Nat) (s : DS), DsOk s.2.2 s.2.1 → s.2.2.length ≤ s.1 → s.1 ≤ L.length → (∃ day, DsOk (dsR L m s) day) ∧ (dsR L m s).length ≤ L.length
  | 0, s, h, h1, h2 => ⟨⟨_, h⟩, by unfold dsR; omega⟩
  | m + 1, s, h, h1, h2 => by
    unfold dsR
    split
    · rename_i hs
      have n1 := ni_le L s.1 h2
      have n2 := ni_le L (ni L s.1) n1.2.1
      refine dsR_ok L hL m (dsS L s) (h.step (nx_rng L s.1 (by decide)) (nx_rng L _ (by decide)) (by omega)) ?_ n2.2.1
      show (s.2.2 ++ [_]).length ≤ ni L (ni L s.1)
      rw [List.length_append, List.length_singleton]
      have := n1.2.2 hs
      omega
    · exact ⟨⟨_, h⟩, by omega⟩
theorem dates_t (l : List Int) (hl : l.length ≤ 9223372036854775807) : ∃ ds day, DsOk ds day ∧ ds.length ≤ 40 ∧ ACalls XX 20 [.dat (ilst l)] (.dat (dtD ds)) := by
  obtain ⟨L, hLe⟩ : ∃ L, L = l.take 40 := ⟨_, rfl⟩
  have hL : L.length ≤ 40 := by rw [hLe, List.length_take]; omega
  have h0 : DsOk [] 5 := ⟨fun i hi => absurd hi (by simp), fun x hx => (by cases hx), by omega, by simp, fun x hx => (by cases hx)⟩
  obtain ⟨⟨day, h1⟩, h2⟩ := dsR_ok L hL L.length (0, 5, []) h0 (Nat.le_refl _) (Nat.zero_le _)
  refine ⟨dsR L L.length (0, 5, []), day, h1, by omega, ?_⟩
  obtain ⟨R, hR⟩ : ∃ R, dsR L L.length (0, 5, []) = R := ⟨_, rfl⟩
  rw [hR]
  clear h1 h2
  have kc := cut_t l 40 (by decide) hl
  rw [show (40 : Int).toNat = 40 from rfl, ← hLe] at kc
  clear hLe
  refine ACalls.of (n := Try.f20.ntmps) XX_ok Try.func20 rfl (by kernel_rfl) rfl rfl (Nat.le_of_ble_eq_true rfl) ?_
  (repeat' (first | ((first | refine Zg ?_ | refine Zn ?_ | refine Zc ?_ | refine Zu fun b hb => ?_ | refine Zy kc ?_); conv => whnf) | (refine Zb (fun h => ?_) (fun h => ?_) <;> first | exact Zx | (conv => whnf))))
  refine (W.adopt 5 22 58 2 (rowF dtE []) rfl rfl rfl rfl ?_)
  conv => whnf
  refine (W.loopK (ι := Nat × DS) [3] [] (fun s => [(4, iA s.2.2.1), (5, .own 22 2 0 s.2.2.2.length)]) (fun s => [(9, srcE L s.2.1), (22, .row 58 2 s.2.2.2.length (rowF dtE s.2.2.2))]) (fun s => dsR L s.1 s.2 = R ∧ L.length ≤ s.2.1 + s.1 ∧ s.2.1 ≤ L.length ∧ s.2.2.2.length ≤ s.2.1 ∧ 0 ≤ s.2.2.1 ∧ s.2.2.1 ≤ 5 + 3 * s.2.2.2.length) (fun s => s.1) (L.length, 0, 5, []) ⟨hR, by simp, Nat.zero_le _, Nat.le_refl _, by simp, by simp⟩ ?_ ?_ ?_)
  · exact Yz
  · exact Yz
  conv => whnf
  intro ⟨m, i, d, us⟩ ⟨p1, p2, p3, p4, p5, p6⟩
  dsimp only at p1 p2 p3 p4 p5 p6 ⊢
  have hlt := left_h L i
  have n1 := ni_le L i p3
  have n2 := ni_le L (ni L i) n1.2.1
  have x1 := nx_rng L i (m := 4) (by decide)
  have x2 := nx_rng L (ni L i) (m := 9) (by decide)
  have k1 := next_h L i 4 (by omega) (by decide) (by decide)
  have k2 := next_h L (ni L i) 9 (by omega) (by decide) (by decide)
  by_cases hi : i < L.length
  · rw [decide_eq_true hi] at hlt
    obtain ⟨m, rfl⟩ : ∃ m', m = m' + 1 := ⟨m - 1, by omega⟩
    unfold dsR at p1
    rw [if_pos (by exact hi)] at p1
    unfold dsS at p1
    dsimp only at p1
    have n3 := n1.2.2 hi
    generalize nx L (ni L i) 9 = q at *
    generalize nx L i 4 = a at *
    generalize ni L (ni L i) = i2 at *
    generalize ni L i = i1 at *
    (repeat' (first | ((first | refine Zg ?_ | refine Zn ?_ | refine Zc ?_ | refine Zu fun b hb => ?_ | refine ExCall.h [(5000, 9)] rfl hlt rfl ⟨rfl, trivial⟩ ?_ | refine ExCall.h [(5000, 9)] rfl k1 rfl ⟨rfl, trivial⟩ ?_ | refine ExCall.h [(5000, 9)] rfl k2 rfl ⟨rfl, trivial⟩ ?_); conv => whnf) | (refine Zb (fun h => ?_) (fun h => ?_) <;> first | exact Zx | (conv => whnf))))
    all_goals first | (exfalso; omega) | skip
    refine ⟨(m, i2, d + a, us ++ [⟨d + a, q⟩]), ⟨p1, ?_, ?_, ?_, ?_, ?_⟩, ?_, ?_, ?_, ?_, ?_⟩
    all_goals (try dsimp only)
    all_goals first | omega | (simp; omega) | skip
    all_goals (repeat' (first | exact Yq | exact Yi (by first | rfl | (simp; done) | omega) | exact Yo (by first | rfl | (simp; done) | omega) | exact Ye (by first | rfl | (simp; done) | omega) | refine ⟨_, rfl, Yb ?_, rfl⟩ | refine ⟨_, rfl, Yw (by first | rfl | (simp; done) | omega) ?_, rfl⟩ | refine And.intro ?_ ?_))
    refine rowF_snoc rfl fun j hj => ?_
    rcases j with _ | _ | j
    all_goals first | exact Dle.refl _ | omega
  · rw [decide_eq_false hi] at hlt
    have p1' : us = R := by
      cases m with
      | zero => exact p1
      | succ m =>
        unfold dsR at p1
        rw [if_neg (by exact hi)] at p1
        exact p1
    subst p1'
    (repeat' (first | ((first | refine Zg ?_ | refine Zn ?_ | refine Zc ?_ | refine Zu fun b hb => ?_ | refine ExCall.h [(5000, 9)] rfl hlt rfl ⟨rfl, trivial⟩ ?_); conv => whnf) | (refine Zb (fun h => ?_) (fun h => ?_) <;> first | exact Zx | (conv => whnf))))
    all_goals exact Zrz
end Go.Proofs.Ytoeghejbgibioaa
