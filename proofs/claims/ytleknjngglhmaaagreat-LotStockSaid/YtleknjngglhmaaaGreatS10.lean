/- Slices made from numbers; the law of Duty. -/
import Derived.Test.YtleknjngglhmaaaGreatS7
namespace Go.Proofs.YtleknjngglhmaaaGreat
open Go Go.RowKit
set_option linter.unusedVariables false
set_option linter.unusedSimpArgs false
set_option maxRecDepth 100000
set_option maxHeartbeats 4000000
attribute [local irreducible] ResLe AVle ArgLe ArgP EntLe Dle ResH ArgQ

structure MS where
  i : Nat
  e0 : Int
  e1 : Int
  e2 : Int
  e3 : Int
  us : List Sl
def msE (s : MS) (m : Int) : Int := if m = 0 then s.e0 else if m = 1 then s.e1 else if m = 2 then s.e2 else s.e3
def msC (L : List Int) (s : MS) : Prop := s.i < L.length ∧ s.us.length < 20
def msS (L : List Int) (s : MS) : Int := msE s (nx L s.i 4) + nx L (ni L s.i) 3 * nx L (ni L (ni L s.i)) 5
def msT (L : List Int) (s : MS) : Int := msS L s + 1 + nx L (ni L (ni L (ni L s.i))) 9
def msN (L : List Int) (s : MS) : MS :=
  ⟨ni L (ni L (ni L (ni L s.i))), if nx L s.i 4 = 0 then msT L s else s.e0, if nx L s.i 4 = 1 then msT L s else s.e1, if nx L s.i 4 = 2 then msT L s else s.e2, if nx L s.i 4 = 3 then msT L s else s.e3, s.us ++ [⟨1 + nx L s.i 4, msS L s, msT L s⟩]⟩
structure MsI (L : List Int) (s : MS) : Prop where
  i : s.i ≤ L.length
  len : s.us.length ≤ 20
  e0 : 0 ≤ s.e0 ∧ s.e0 ≤ 17 * s.us.length
  e1 : 0 ≤ s.e1 ∧ s.e1 ≤ 17 * s.us.length
  e2 : 0 ≤ s.e2 ∧ s.e2 ≤ 17 * s.us.length
  e3 : 0 ≤ s.e3 ∧ s.e3 ≤ 17 * s.us.length
theorem ms_rng {L : List Int} {s : MS} (h : MsI L s) : 0 ≤ msS L s ∧ msS L s ≤ 17 * s.us.length + 8 ∧ msS L s < msT L s ∧ msT L s ≤ 17 * s.us.length + 17 ∧ 0 ≤ nx L (ni L s.i) 3 * nx L (ni L (ni L s.i)) 5 ∧ nx L (ni L s.i) 3 * nx L (ni L (ni L s.i)) 5 ≤ 8 := by
  have n1 := nx_rng L (ni L s.i) (m := 3) (by omega)
  have n2 := nx_rng L (ni L (ni L s.i)) (m := 5) (by omega)
  have n3 := nx_rng L (ni L (ni L (ni L s.i))) (m := 9) (by omega)
  have a := h.e0; have b := h.e1; have c := h.e2; have d := h.e3
  have hp : 0 ≤ nx L (ni L s.i) 3 * nx L (ni L (ni L s.i)) 5 := Int.mul_nonneg n1.1 n2.1
  have hq : nx L (ni L s.i) 3 * nx L (ni L (ni L s.i)) 5 ≤ 2 * 4 := Int.mul_le_mul (by omega) (by omega) n2.1 (by omega)
  have hm : 0 ≤ msE s (nx L s.i 4) ∧ msE s (nx L s.i 4) ≤ 17 * s.us.length := by
    unfold msE
    split
    · exact a
    · split
      · exact b
      · split
        · exact c
        · exact d
  unfold msT msS
  omega
theorem msI_next {L : List Int} {s : MS} (h : MsI L s) (hc : msC L s) : MsI L (msN L s) ∧ L.length - (msN L s).i < L.length - s.i := by
  obtain ⟨h1, h2⟩ := hc
  have k1 := ni_le L s.i h.i
  have k2 := ni_le L (ni L s.i) k1.2.1
  have k3 := ni_le L (ni L (ni L s.i)) k2.2.1
  have k4 := ni_le L (ni L (ni L (ni L s.i))) k3.2.1
  have r := ms_rng h
  have a := h.e0; have b := h.e1; have c := h.e2; have d := h.e3
  refine ⟨⟨k4.2.1, by simp [msN]; omega, ?_, ?_, ?_, ?_⟩, by simp [msN]; omega⟩ <;> simp only [msN, List.length_append, List.length_singleton] <;> split <;> omega
structure MsV (s : MS) : Prop where
  ok : ∀ x ∈ s.us, slOk x ∧ x.m ≤ 4 ∧ x.e ≤ msE s (x.m - 1)
  nm : ¬ anyMeet s.us
theorem anyMeet_snoc {us : List Sl} {x : Sl} (h : anyMeet (us ++ [x])) : anyMeet us ∨ ∃ y ∈ us, meets y x := by
  obtain ⟨i, j, h1, h2, h3⟩ := h
  simp only [List.length_append, List.length_singleton] at h2
  have e1 : ∀ k, k < us.length → (us ++ [x]).getD k default = us.getD k default := fun k hk => by simp [List.getElem?_append, hk]
  rcases Nat.lt_or_ge j us.length with hj | hj
  · rw [e1 i (by omega), e1 j hj] at h3
    exact .inl ⟨i, j, h1, hj, h3⟩
  · obtain rfl : j = us.length := by omega
    rw [e1 i (by omega)] at h3
    have e2 : (us ++ [x]).getD us.length default = x := by simp
    rw [e2] at h3
    exact .inr ⟨_, getD_in (k := i) (by omega), h3⟩
theorem msE_next (L : List Int) (s : MS) (j : Int) (hj : 0 ≤ j ∧ j < 4) : msE (msN L s) j = if nx L s.i 4 = j then msT L s else msE s j := by
  have n1 := nx_rng L s.i (m := 4) (by omega)
  generalize hk : nx L s.i 4 = k at *
  unfold msE msN
  rw [hk]
  simp only
  rcases (show j = 0 ∨ j = 1 ∨ j = 2 ∨ j = 3 by omega) with rfl | rfl | rfl | rfl <;> simp
theorem msV_next {L : List Int} {s : MS} (h : MsI L s) (hv : MsV s) (hc : msC L s) : MsV (msN L s) := by
  have r := ms_rng h
  have n1 := nx_rng L s.i (m := 4) (by omega)
  have n2 := nx_rng L (ni L s.i) (m := 3) (by omega)
  have n3 := nx_rng L (ni L (ni L s.i)) (m := 5) (by omega)
  have hl := h.len
  have hS : msE s (nx L s.i 4) ≤ msS L s := by unfold msS; omega
  have hu : (msN L s).us = s.us ++ [⟨1 + nx L s.i 4, msS L s, msT L s⟩] := rfl
  refine ⟨fun x hx => ?_, fun hm => ?_⟩
  · rw [hu] at hx
    rcases List.mem_append.1 hx with hx | hx
    · obtain ⟨a, b, c⟩ := hv.ok x hx
      have a' := a
      unfold slOk at a'
      refine ⟨a, b, ?_⟩
      rw [msE_next L s _ (by omega)]
      split
      · rename_i hk
        rw [← hk] at c
        omega
      · exact c
    · obtain rfl := List.mem_singleton.1 hx
      refine ⟨by unfold slOk; simp only; omega, by simp only; omega, ?_⟩
      rw [msE_next L s _ (by simp only; omega), if_pos (by simp only; omega)]
      exact Int.le_refl _
  · rw [hu] at hm
    rcases anyMeet_snoc hm with hm | ⟨y, hy, hm⟩
    · exact hv.nm hm
    · obtain ⟨a, b, c⟩ := hv.ok y hy
      unfold meets at hm
      simp only at hm
      rw [show y.m - 1 = nx L s.i 4 by omega] at c
      omega
theorem slices_t (L0 : List Int) (hL0 : L0.length ≤ 9223372036854775807) : ∃ us : List Sl, us.length ≤ 20 ∧ lotErr us = 0 ∧ ACalls XX 9 [.dat (ilst L0)] (.dat (slD us)) := by
  have hcut := cut_t L0 60 (by omega) hL0
  generalize hLL : L0.take (60 : Int).toNat = L at hcut
  have hL : L.length ≤ 60 := by rw [← hLL]; simp; omega
  obtain ⟨t, ht, ⟨hI, hV⟩, hd⟩ := Ends.of (c := msC L) (step := msN L) (fun s => MsI L s ∧ MsV s) (fun s => L.length - s.i) ⟨0, 0, 0, 0, 0, []⟩ ⟨⟨Nat.zero_le _, by simp, by simp, by simp, by simp, by simp⟩, by simp, fun ⟨i, j, _, h, _⟩ => by simp at h⟩ fun s hs hc => ⟨⟨(msI_next hs.1 hc).1, msV_next hs.1 hs.2 hc⟩, (msI_next hs.1 hc).2⟩
  refine ⟨t.us, hI.len, ?_, ?_⟩
  · have hok : ∀ x ∈ t.us, slOk x := fun x hx => (hV.ok x hx).1
    have hl := hI.len
    unfold lotErr
    rw [if_neg (by omega), if_neg (by simpa using hok), if_neg (by rw [ovl_iff _ hok]; exact hV.nm)]
  clear hV
  clear hLL
  refine ACalls.of (n := Tryz.f9.ntmps) XX_ok Tryz.func9 rfl (by kernel_rfl) rfl rfl (Nat.le_of_ble_eq_true rfl) ?_
  (repeat' (first | refine Zs ?_ | refine Zk ?_ | ((first | refine Za ?_ | refine Zr ?_ | refine Zp ?_ | refine Ze ?_ | refine Zd ?_ | refine W.drawT dr9 rfl mixed rfl ?_ | refine Zn ?_ | refine Zc ?_ | refine UnK.mk (fun b hb => ?_) | refine Zy hcut ?_ | refine Zz hcut ?_); conv => whnf) | (refine Zb (fun h => ?_) (fun h => ?_) <;> first | exact Zx | (conv => whnf))))
  refine (W.adopt 4 47 72 3 (rowF slE []) rfl rfl rfl rfl ?_)
  conv => whnf
  refine (W.loopK (ι := MS) [3, 5] [] (fun s => [(4, .own 47 3 0 s.us.length)]) (fun s => [(12, srcE L s.i), (5, .blk 69 [iA s.e0, iA s.e1, iA s.e2, iA s.e3]), (47, .row 72 3 s.us.length (rowF slE s.us))]) (fun s => MsI L s ∧ Ends (msC L) (msN L) s t) (fun s => L.length - s.i) ⟨0, 0, 0, 0, 0, []⟩ ⟨⟨Nat.zero_le _, by simp, by simp, by simp, by simp, by simp⟩, ht⟩ ?_ ?_ ?_)
  · exact Yz
  · exact Yz
  conv => whnf
  intro s ⟨hs, hE⟩
  have k1 := ni_le L s.i hs.i
  have k2 := ni_le L (ni L s.i) k1.2.1
  have k3 := ni_le L (ni L (ni L s.i)) k2.2.1
  have n1 := nx_rng L s.i (m := 4) (by omega)
  have n2 := nx_rng L (ni L s.i) (m := 3) (by omega)
  have n3 := nx_rng L (ni L (ni L s.i)) (m := 5) (by omega)
  have n4 := nx_rng L (ni L (ni L (ni L s.i))) (m := 9) (by omega)
  have r := ms_rng hs
  have hl := hs.len
  have a := hs.e0; have b := hs.e1; have c := hs.e2; have d := hs.e3
  have hN := next_h L s.i 4 (by omega) (by omega) (by omega)
  rcases (show nx L s.i 4 = 0 ∨ nx L s.i 4 = 1 ∨ nx L s.i 4 = 2 ∨ nx L s.i 4 = 3 by omega) with hm | hm | hm | hm
  all_goals rw [hm] at hN
  all_goals (repeat' (first | refine Zs ?_ | refine Zk ?_ | ((first | refine Za ?_ | refine Zr ?_ | refine Zp ?_ | refine Ze ?_ | refine Zd ?_ | refine W.drawT dr9 rfl mixed rfl ?_ | refine Zn ?_ | refine Zc ?_ | refine UnK.mk (fun b hb => ?_) | refine ExCall.h [(5000, 12)] rfl hN rfl ⟨rfl, trivial⟩ ?_ | refine CallK.h [(5000, 12)] rfl hN rfl rfl ⟨rfl, trivial⟩ rfl rfl ?_ | refine ExCall.h [(5000, 12)] rfl (next_h L _ _ (by omega) (by omega) (by omega)) rfl ⟨rfl, trivial⟩ ?_ | refine CallK.h [(5000, 12)] rfl (next_h L _ _ (by omega) (by omega) (by omega)) rfl rfl ⟨rfl, trivial⟩ rfl rfl ?_ | refine ExCall.h [(5000, 12)] rfl (left_h L _) rfl ⟨rfl, trivial⟩ ?_ | refine CallK.h [(5000, 12)] rfl (left_h L _) rfl rfl ⟨rfl, trivial⟩ rfl rfl ?_); conv => whnf) | (refine Zb (fun h => ?_) (fun h => ?_) <;> first | exact Zx | (conv => whnf))))
  all_goals first | ((have hst : s = t := hE.done (by unfold msC; omega)); subst hst; (repeat' (first | exact trivial | exact Zm | exact Zl | exact ResLe.row0 rfl | exact Zi (by first | rfl | omega) | exact Zo (h := by first | rfl | omega) | exact ResLe.bo rfl rfl Iff.rfl | refine ResLe.agg ?_ | refine And.intro ?_ ?_ | ((conv => whnf); first | exact Zl | exact ResLe.row0 rfl | exact Zi (by first | rfl | omega) | exact Zo (h := by first | rfl | omega) | exact ResLe.bo rfl rfl Iff.rfl | refine ResLe.agg ?_ | refine And.intro ?_ ?_))); done) | skip
  all_goals (have hc : msC L s := ⟨by omega, by omega⟩)
  all_goals (obtain ⟨hI', hlt⟩ := msI_next hs hc)
  all_goals (have hE' := hE.next hc)
  · have eN : msN L s = ⟨ni L (ni L (ni L (ni L s.i))), s.e0 + nx L (ni L s.i) 3 * nx L (ni L (ni L s.i)) 5 + 1 + nx L (ni L (ni L (ni L s.i))) 9, s.e1, s.e2, s.e3, s.us ++ [⟨1 + 0, s.e0 + nx L (ni L s.i) 3 * nx L (ni L (ni L s.i)) 5, s.e0 + nx L (ni L s.i) 3 * nx L (ni L (ni L s.i)) 5 + 1 + nx L (ni L (ni L (ni L s.i))) 9⟩]⟩ := by
      unfold msN msT msS msE; rw [hm]; rfl
    rw [eN] at hI' hE' hlt
    refine ⟨_, ⟨hI', hE'⟩, hlt, ?_, ?_, ?_, ?_⟩
    all_goals (repeat' (first | exact trivial | exact Yr | exact Yi (by first | rfl | (simp; done) | omega) | exact Yo (by first | rfl | (simp; done) | omega) | exact Yd | exact Yn | exact Ye (by first | rfl | (simp; done) | omega) | exact ⟨_, rfl, Yf, rfl⟩ | refine ⟨_, rfl, Yb ?_, rfl⟩ | refine ⟨_, rfl, Yw (by first | rfl | (simp; done) | omega) ?_, rfl⟩ | refine And.intro ?_ ?_))
    refine rowF_snoc rfl fun j hj => ?_
    rcases j with _ | _ | _ | j
    · exact Dle.refl _
    · exact Dle.refl _
    · exact Dle.refl _
    · omega
  · have eN : msN L s = ⟨ni L (ni L (ni L (ni L s.i))), s.e0, s.e1 + nx L (ni L s.i) 3 * nx L (ni L (ni L s.i)) 5 + 1 + nx L (ni L (ni L (ni L s.i))) 9, s.e2, s.e3, s.us ++ [⟨1 + 1, s.e1 + nx L (ni L s.i) 3 * nx L (ni L (ni L s.i)) 5, s.e1 + nx L (ni L s.i) 3 * nx L (ni L (ni L s.i)) 5 + 1 + nx L (ni L (ni L (ni L s.i))) 9⟩]⟩ := by
      unfold msN msT msS msE; rw [hm]; rfl
    rw [eN] at hI' hE' hlt
    refine ⟨_, ⟨hI', hE'⟩, hlt, ?_, ?_, ?_, ?_⟩
    all_goals (repeat' (first | exact trivial | exact Yr | exact Yi (by first | rfl | (simp; done) | omega) | exact Yo (by first | rfl | (simp; done) | omega) | exact Yd | exact Yn | exact Ye (by first | rfl | (simp; done) | omega) | exact ⟨_, rfl, Yf, rfl⟩ | refine ⟨_, rfl, Yb ?_, rfl⟩ | refine ⟨_, rfl, Yw (by first | rfl | (simp; done) | omega) ?_, rfl⟩ | refine And.intro ?_ ?_))
    refine rowF_snoc rfl fun j hj => ?_
    rcases j with _ | _ | _ | j
    · exact Dle.refl _
    · exact Dle.refl _
    · exact Dle.refl _
    · omega
  · have eN : msN L s = ⟨ni L (ni L (ni L (ni L s.i))), s.e0, s.e1, s.e2 + nx L (ni L s.i) 3 * nx L (ni L (ni L s.i)) 5 + 1 + nx L (ni L (ni L (ni L s.i))) 9, s.e3, s.us ++ [⟨1 + 2, s.e2 + nx L (ni L s.i) 3 * nx L (ni L (ni L s.i)) 5, s.e2 + nx L (ni L s.i) 3 * nx L (ni L (ni L s.i)) 5 + 1 + nx L (ni L (ni L (ni L s.i))) 9⟩]⟩ := by
      unfold msN msT msS msE; rw [hm]; rfl
    rw [eN] at hI' hE' hlt
    refine ⟨_, ⟨hI', hE'⟩, hlt, ?_, ?_, ?_, ?_⟩
    all_goals (repeat' (first | exact trivial | exact Yr | exact Yi (by first | rfl | (simp; done) | omega) | exact Yo (by first | rfl | (simp; done) | omega) | exact Yd | exact Yn | exact Ye (by first | rfl | (simp; done) | omega) | exact ⟨_, rfl, Yf, rfl⟩ | refine ⟨_, rfl, Yb ?_, rfl⟩ | refine ⟨_, rfl, Yw (by first | rfl | (simp; done) | omega) ?_, rfl⟩ | refine And.intro ?_ ?_))
    refine rowF_snoc rfl fun j hj => ?_
    rcases j with _ | _ | _ | j
    · exact Dle.refl _
    · exact Dle.refl _
    · exact Dle.refl _
    · omega
  · have eN : msN L s = ⟨ni L (ni L (ni L (ni L s.i))), s.e0, s.e1, s.e2, s.e3 + nx L (ni L s.i) 3 * nx L (ni L (ni L s.i)) 5 + 1 + nx L (ni L (ni L (ni L s.i))) 9, s.us ++ [⟨1 + 3, s.e3 + nx L (ni L s.i) 3 * nx L (ni L (ni L s.i)) 5, s.e3 + nx L (ni L s.i) 3 * nx L (ni L (ni L s.i)) 5 + 1 + nx L (ni L (ni L (ni L s.i))) 9⟩]⟩ := by
      unfold msN msT msS msE; rw [hm]; rfl
    rw [eN] at hI' hE' hlt
    refine ⟨_, ⟨hI', hE'⟩, hlt, ?_, ?_, ?_, ?_⟩
    all_goals (repeat' (first | exact trivial | exact Yr | exact Yi (by first | rfl | (simp; done) | omega) | exact Yo (by first | rfl | (simp; done) | omega) | exact Yd | exact Yn | exact Ye (by first | rfl | (simp; done) | omega) | exact ⟨_, rfl, Yf, rfl⟩ | refine ⟨_, rfl, Yb ?_, rfl⟩ | refine ⟨_, rfl, Yw (by first | rfl | (simp; done) | omega) ?_, rfl⟩ | refine And.intro ?_ ?_))
    refine rowF_snoc rfl fun j hj => ?_
    rcases j with _ | _ | _ | j
    · exact Dle.refl _
    · exact Dle.refl _
    · exact Dle.refl _
    · omega

end Go.Proofs.YtleknjngglhmaaaGreat
