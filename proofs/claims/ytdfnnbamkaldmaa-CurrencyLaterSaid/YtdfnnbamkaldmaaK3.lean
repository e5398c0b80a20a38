/- Currency, by descriptions: tables that are made from numbers. -/
import Derived.Test.YtdfnnbamkaldmaaK2
namespace Go.Proofs.Ytdfnnbamkaldmaa
open Go Go.RowKit
set_option linter.unusedVariables false
set_option linter.unusedSimpArgs false
set_option maxRecDepth 100000
set_option maxHeartbeats 4000000
attribute [local irreducible] ResLe AVle ArgLe ArgP EntLe Dle ResH ArgQ strEq strLt

abbrev chf : ByteArray := ⟨#[67, 72, 70]⟩
abbrev gbp : ByteArray := ⟨#[71, 66, 80]⟩
abbrev xxx : ByteArray := ⟨#[88, 88, 88]⟩
def cur3 : List ByteArray := [chf, gbp, usd]
def cur5 : List ByteArray := [chf, gbp, usd, eur, xxx]
def ksE (x : ByteArray) (_ : Nat) : D := .val (.string x)
instance : Inhabited ByteArray := ⟨⟨#[]⟩⟩
theorem cur3_t : ACalls XX 10 [] (.dat (.lst 1 3 (rowF ksE cur3))) := by
  refine ACalls.of (n := Try.f10.ntmps) XX_ok Try.func10 rfl (by kernel_rfl) rfl rfl (Nat.le_of_ble_eq_true rfl) ?_
  (repeat' (first | refine Zs ?_ | refine Zk ?_ | ((first | refine Za ?_ | refine Zr ?_ | refine Zp ?_ | refine Ze ?_ | refine Zd ?_ | refine Zn ?_ | refine Zc ?_ | refine UnK.mk (fun b hb => ?_)); conv => whnf) | (refine Zb (fun h => ?_) (fun h => ?_) <;> first | exact Zx | (conv => whnf))))
  refine ResLe.own rfl (by omega) fun i hi j hj => ?_
  obtain rfl : j = 0 := by omega
  rcases (show i = 0 ∨ i = 1 ∨ i = 2 by omega) with rfl | rfl | rfl <;> exact Dle.of_eq rfl
theorem cur5_t (x : Int) : ACalls XX 7 [iA x] (sK (cur5.getD (x % 5).toNat default)) := by
  have k1 := within_t x 5 (by omega) (by omega)
  have h := Int.emod_nonneg x (show (5 : Int) ≠ 0 by omega)
  have h2 := Int.emod_lt_of_pos x (show (0 : Int) < 5 by omega)
  generalize x % 5 = y at *
  rcases (show y = 0 ∨ y = 1 ∨ y = 2 ∨ y = 3 ∨ y = 4 by omega) with rfl | rfl | rfl | rfl | rfl
  all_goals
    refine ACalls.of (n := Try.f7.ntmps) XX_ok Try.func7 rfl (by kernel_rfl) rfl rfl (Nat.le_of_ble_eq_true rfl) ?_
    (repeat' (first | refine Zs ?_ | refine Zk ?_ | ((first | refine Za ?_ | refine Zr ?_ | refine Zp ?_ | refine Ze ?_ | refine Zd ?_ | refine Zn ?_ | refine Zc ?_ | refine UnK.mk (fun b hb => ?_) | refine Zy k1 ?_); conv => whnf) | (refine Zb (fun h => ?_) (fun h => ?_) <;> first | exact Zx | (conv => whnf))))
    exact ResLe.pure (AVle.refl _) rfl
def tabI (L : List Int) (c : ByteArray) : Nat → Nat → Int → List Xc → Nat × List Xc
  | 0, i, _, us => (i, us)
  | n + 1, i, d, us => tabI L c n (ni L (ni L i)) (d + 1 + nx L (ni L i) 20) (us ++ [⟨c, d, 1 + nx L i 1000000000⟩])
def tabS (L : List Int) : Nat → Nat × List Xc
  | 0 => (0, [])
  | k + 1 => tabI L (cur3.getD k default) (nx L (ni L (tabS L k).1) 4).toNat (ni L (ni L (tabS L k).1)) (nx L (tabS L k).1 20) (tabS L k).2
def TOk (x : Xc) : Prop := x.c ∈ cur3 ∧ 0 ≤ x.f ∧ x.f ≤ 100
theorem tabI_ok (L : List Int) (c : ByteArray) (hc : c ∈ cur3) : ∀ (n i : Nat) (d : Int) (us : List Xc), i ≤ L.length → 0 ≤ d → d + 21 * n ≤ 100 → (∀ x ∈ us, TOk x) → (tabI L c n i d us).1 ≤ L.length ∧ (tabI L c n i d us).2.length = us.length + n ∧ ∀ x ∈ (tabI L c n i d us).2, TOk x
  | 0, i, d, us, h1, _, _, h => ⟨h1, rfl, h⟩
  | n + 1, i, d, us, h1, h2, h3, h => by
    have k1 := ni_le L i h1
    have k2 := ni_le L (ni L i) k1.2.1
    have n1 := nx_rng L (ni L i) (m := 20) (by omega)
    obtain ⟨a, b, c'⟩ := tabI_ok L c hc n (ni L (ni L i)) (d + 1 + nx L (ni L i) 20) (us ++ [⟨c, d, 1 + nx L i 1000000000⟩]) k2.2.1 (by omega) (by push_cast at h3; omega) (fun x hx => by
      rcases List.mem_append.1 hx with hx | hx
      · exact h x hx
      · obtain rfl := List.mem_singleton.1 hx
        exact ⟨hc, h2, by show d ≤ 100; omega⟩)
    exact ⟨a, by show (tabI L c n _ _ _).2.length = _; rw [b, List.length_append, List.length_singleton]; omega, c'⟩
theorem tabS_ok (L : List Int) : ∀ k, k ≤ 3 → (tabS L k).1 ≤ L.length ∧ (tabS L k).2.length ≤ 3 * k ∧ ∀ x ∈ (tabS L k).2, TOk x
  | 0, _ => ⟨Nat.zero_le _, Nat.le_refl _, fun x hx => by cases hx⟩
  | k + 1, hk => by
    obtain ⟨a, b, c⟩ := tabS_ok L k (by omega)
    have k1 := ni_le L _ a
    have k2 := ni_le L _ k1.2.1
    have n1 := nx_rng L (tabS L k).1 (m := 20) (by omega)
    have n2 := nx_rng L (ni L (tabS L k).1) (m := 4) (by omega)
    obtain ⟨a', b', c'⟩ := tabI_ok L (cur3.getD k default) (kgetD_in (by show k < 3; omega)) (nx L (ni L (tabS L k).1) 4).toNat (ni L (ni L (tabS L k).1)) (nx L (tabS L k).1 20) (tabS L k).2 k2.2.1 n1.1 (by omega) c
    exact ⟨a', by show (tabI L _ _ _ _ _).2.length ≤ _; rw [b']; omega, c'⟩
structure TS where
  n : Nat
  i : Nat
  d : Int
  us : List Xc
theorem table_t (l : List Int) (hl : l.length ≤ 9223372036854775807) : ACalls XX 4 [.dat (ilst l)] (.dat (xcD (tabS (l.take 40) 3).2)) := by
  have hcut := cut_t l 40 (by omega) hl
  rw [show (40 : Int).toNat = 40 from rfl] at hcut
  have hL : (l.take 40).length ≤ 40 := by rw [List.length_take]; omega
  generalize l.take 40 = L at *
  have hc3 := cur3_t
  refine ACalls.of (n := Try.f4.ntmps) XX_ok Try.func4 rfl (by kernel_rfl) rfl rfl (Nat.le_of_ble_eq_true rfl) ?_
  (repeat' (first | refine Zs ?_ | refine Zk ?_ | ((first | refine Za ?_ | refine Zr ?_ | refine Zp ?_ | refine Ze ?_ | refine Zd ?_ | refine W.drawT dr4 rfl mixed rfl ?_ | refine Zn ?_ | refine Zc ?_ | refine UnK.mk (fun b hb => ?_) | refine Zy hcut ?_ | refine Zz hcut ?_ | refine Zy hc3 ?_ | refine Zz hc3 ?_); conv => whnf) | (refine Zb (fun h => ?_) (fun h => ?_) <;> first | exact Zx | (conv => whnf))))
  refine (W.adopt 4 39 27 3 (rowF xcE []) rfl rfl rfl rfl ?_)
  conv => whnf
  refine (W.loopK (ι := Nat) [3, 5] [] (fun k => [(6, iA k), (4, .own 39 3 0 (tabS L k).2.length)]) (fun k => [(12, srcE L (tabS L k).1), (39, .row 27 3 (tabS L k).2.length (rowF xcE (tabS L k).2))]) (fun k => k ≤ 3) (fun k => 3 - k) 0 (Nat.zero_le _) ?_ ?_ ?_)
  · exact Yz
  · exact Yz
  conv => whnf
  intro k hk
  by_cases hk' : k < 3
  · obtain ⟨o1, o2, o3⟩ := tabS_ok L k hk
    have k1 := ni_le L _ o1
    have k2 := ni_le L _ k1.2.1
    have n1 := nx_rng L (tabS L k).1 (m := 20) (by omega)
    have n2 := nx_rng L (ni L (tabS L k).1) (m := 4) (by omega)
    have eS : tabI L (cur3.getD k default) (nx L (ni L (tabS L k).1) 4).toNat (ni L (ni L (tabS L k).1)) (nx L (tabS L k).1 20) (tabS L k).2 = tabS L (k + 1) := rfl
    obtain ⟨S', eT⟩ : ∃ S', tabS L (k + 1) = S' := ⟨_, rfl⟩
    rw [eT] at eS
    generalize tabS L k = S at *
    (repeat' (first | refine Zs ?_ | refine Zk ?_ | ((first | refine Za ?_ | refine Zr ?_ | refine Zp ?_ | refine Ze ?_ | refine Zd ?_ | refine W.drawT dr4 rfl mixed rfl ?_ | refine Zn ?_ | refine Zc ?_ | refine UnK.mk (fun b hb => ?_) | refine ExCall.h [(5000, 12)] rfl (next_h L _ _ (by omega) (by omega) (by omega)) rfl ⟨rfl, trivial⟩ ?_ | refine CallK.h [(5000, 12)] rfl (next_h L _ _ (by omega) (by omega) (by omega)) rfl rfl ⟨rfl, trivial⟩ rfl rfl ?_); conv => whnf) | (refine Zb (fun h => ?_) (fun h => ?_) <;> first | exact Zx | (conv => whnf))))
    all_goals first | (exfalso; omega) | skip
    refine (W.loopK (ι := TS) [3, 5, 6] [] (fun s => [(7, iA s.d), (8, iA s.n), (4, .own 39 3 0 s.us.length)]) (fun s => [(12, srcE L s.i), (39, .row 27 3 s.us.length (rowF xcE s.us))]) (fun s => s.i ≤ L.length ∧ 0 ≤ s.d ∧ s.d + 21 * s.n ≤ 100 ∧ s.us.length + s.n ≤ 12 ∧ tabI L (cur3.getD k default) s.n s.i s.d s.us = S') (fun s => s.n) ⟨(nx L (ni L S.1) 4).toNat, ni L (ni L S.1), nx L S.1 20, S.2⟩ ⟨k2.2.1, n1.1, by simp only; omega, by simp only; omega, eS⟩ ?_ ?_ ?_)
    · (repeat' (first | exact trivial | exact Yr | exact Yi (by first | rfl | omega | (simp only; omega)) | exact Yo (by first | rfl | omega | (simp only; omega)) | exact Yd | exact Yn | exact Ye (by first | rfl | omega | (simp only; omega)) | exact ⟨_, rfl, Yf, rfl⟩ | refine ⟨_, rfl, Yb ?_, rfl⟩ | refine ⟨_, rfl, Yw (by first | rfl | omega | (simp only; omega)) ?_, rfl⟩ | refine And.intro ?_ ?_))
    · exact Yz
    conv => whnf
    intro s ⟨h1, h2, h3, h4, h5⟩
    cases hn : s.n with
    | zero =>
      rw [hn] at h5
      have e5 : (s.i, s.us) = S' := h5
      subst e5
      (repeat' (first | refine Zs ?_ | refine Zk ?_ | ((first | refine Za ?_ | refine Zr ?_ | refine Zp ?_ | refine Ze ?_ | refine Zd ?_ | refine W.drawT dr4 rfl mixed rfl ?_ | refine Zn ?_ | refine Zc ?_ | refine UnK.mk (fun b hb => ?_)); conv => whnf) | (refine Zb (fun h => ?_) (fun h => ?_) <;> first | exact Zx | (conv => whnf))))
      all_goals first | (exfalso; omega) | skip
      refine ⟨k + 1, by omega, by omega, ?_, ?_, ?_, ?_⟩
      all_goals (try rw [eT])
      all_goals exact Yz
    | succ m =>
      rw [hn] at h5
      have q1 := ni_le L _ h1
      have q2 := ni_le L _ q1.2.1
      have m1 := nx_rng L s.i (m := 1000000000) (by omega)
      have m2 := nx_rng L (ni L s.i) (m := 20) (by omega)
      (repeat' (first | refine Zs ?_ | refine Zk ?_ | ((first | refine Za ?_ | refine Zr ?_ | refine Zp ?_ | refine Ze ?_ | refine Zd ?_ | refine W.drawT dr4 rfl mixed rfl ?_ | refine Zn ?_ | refine Zc ?_ | refine UnK.mk (fun b hb => ?_) | refine ExCall.h [(5000, 12)] rfl (next_h L _ _ (by omega) (by omega) (by omega)) rfl ⟨rfl, trivial⟩ ?_ | refine CallK.h [(5000, 12)] rfl (next_h L _ _ (by omega) (by omega) (by omega)) rfl rfl ⟨rfl, trivial⟩ rfl rfl ?_); conv => whnf) | (refine Zb (fun h => ?_) (fun h => ?_) <;> first | exact Zx | (conv => whnf))))
      all_goals first | (exfalso; omega) | skip
      all_goals (try dsimp only [Int.toNat_natCast] at *)
      refine ⟨⟨m, ni L (ni L s.i), s.d + 1 + nx L (ni L s.i) 20, s.us ++ [(⟨cur3.getD k default, s.d, 1 + nx L s.i 1000000000⟩ : Xc)]⟩, ⟨q2.2.1, by simp only; omega, by simp only; omega, by simp; omega, h5⟩, by simp only; omega, ?_, ?_, ?_, ?_⟩
      all_goals (repeat' (first | exact trivial | exact Yr | exact Yi (by first | rfl | omega | (simp; done)) | exact Yo (by first | rfl | omega | (simp; done)) | exact Yd | exact Yn | exact Ye (by first | rfl | omega | (simp; done)) | exact ⟨_, rfl, Yf, rfl⟩ | refine ⟨_, rfl, Yb ?_, rfl⟩ | refine ⟨_, rfl, Yw (by first | rfl | omega | (simp; done)) ?_, rfl⟩ | refine And.intro ?_ ?_))
      exact rowF_snoc rfl fun j hj => by
        rcases (show j = 0 ∨ j = 1 ∨ j = 2 by omega) with rfl | rfl | rfl <;> exact Dle.refl _
  · obtain rfl : k = 3 := by omega
    (repeat' (first | refine Zs ?_ | refine Zk ?_ | ((first | refine Za ?_ | refine Zr ?_ | refine Zp ?_ | refine Ze ?_ | refine Zd ?_ | refine W.drawT dr4 rfl mixed rfl ?_ | refine Zn ?_ | refine Zc ?_ | refine UnK.mk (fun b hb => ?_)); conv => whnf) | (refine Zb (fun h => ?_) (fun h => ?_) <;> first | exact Zx | (conv => whnf))))
    all_goals first | (exfalso; omega) | ((repeat' (first | exact trivial | exact Zm | exact Zl | exact ResLe.row0 rfl | exact Zi (by first | rfl | omega) | exact Zo (h := by first | rfl | omega) | exact ResLe.bo rfl rfl Iff.rfl | refine ResLe.agg ?_ | refine And.intro ?_ ?_ | ((conv => whnf); first | exact Zl | exact ResLe.row0 rfl | exact Zi (by first | rfl | omega) | exact Zo (h := by first | rfl | omega) | exact ResLe.bo rfl rfl Iff.rfl | refine ResLe.agg ?_ | refine And.intro ?_ ?_))); done)
end Go.Proofs.Ytdfnnbamkaldmaa
