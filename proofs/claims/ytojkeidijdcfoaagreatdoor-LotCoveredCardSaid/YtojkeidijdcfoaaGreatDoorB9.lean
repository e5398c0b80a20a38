/- The order of lots by IDs; whether the law's package is awake. -/
import Derived.Test.YtojkeidijdcfoaaGreatDoorB8
namespace Go.Proofs.YtojkeidijdcfoaaGreatDoor
open Go Go.RowKit
set_option linter.unusedVariables false
set_option linter.unusedSimpArgs false
set_option maxRecDepth 100000
set_option maxHeartbeats 4000000
attribute [local irreducible] ResLe AVle ArgLe ArgP EntLe Dle ResH ArgQ

theorem range_getD {α : Type} [Inhabited α] (l : List α) : (List.range l.length).map (fun i => l.getD i default) = l := by
  apply List.ext_getElem?
  intro i
  by_cases h : i < l.length
  · simp [h]
  · simp [h]
theorem sortLt_perm (us : List Lt) : (sortLt us).Perm us := by
  have h := (sortAt_perm (n := us.length) (cfI_swo us)).map fun i => us.getD i default
  rw [List.map_map, range_getD] at h
  exact h
theorem sortLt_le (us : List Lt) : (sortLt us).Pairwise fun a b => a.id ≤ b.id := by
  unfold sortLt
  rw [List.pairwise_map]
  refine List.pairwise_iff_getElem.2 fun i j hi hj hij => ?_
  simp only [List.getElem_range, List.length_range] at hi hj ⊢
  have h : ¬ cmpI (us.getD (sortAt us.length (cfI us) j) default).id (us.getD (sortAt us.length (cfI us) i) default).id < 0 := sortAt_le (cfI_swo us) hij hj
  rw [cmpI_lt'] at h
  omega
theorem sort_unique {us vs : List Lt} (hp : us.Perm vs) (hs : vs.Pairwise fun a b => a.id < b.id) : sortLt us = vs := by
  have hle : vs.Pairwise fun a b => a.id ≤ b.id := hs.imp fun h => Int.le_of_lt h
  refine List.Perm.eq_of_pairwise (le := fun a b : Lt => a.id ≤ b.id) (fun a b ha hb h1 h2 => ?_) (sortLt_le us) hle ((sortLt_perm us).trans hp)
  have ha' : a ∈ vs := hp.mem_iff.1 ((sortLt_perm us).mem_iff.1 ha)
  obtain ⟨i, hi, rfl⟩ := List.getElem_of_mem ha'
  obtain ⟨j, hj, rfl⟩ := List.getElem_of_mem hb
  have hq := List.pairwise_iff_getElem.1 hs
  rcases Nat.lt_trichotomy i j with h | h | h
  · have := hq i j hi hj h; omega
  · subst h; rfl
  · have := hq j i hj hi h; omega

theorem rsame_t (us : List Sl) (hl : us.length ≤ 1000000) : ACalls XX 28 [.dat (slD us), .dat (slD us)] (bA true) := by
  have he : EqS Tryz.prog 35 3 := eqS_mk Tryz.eqGuardType35 Tryz.underlying35 Tryz.stoodInHeld35 (by kernel_rfl) rfl
  refine ACalls.of (n := Tryz.f28.ntmps) XX_ok Tryz.func28 rfl (by kernel_rfl) rfl rfl (Nat.le_of_ble_eq_true rfl) ?_
  (repeat' (first | refine Zs ?_ | refine Zk ?_ | ((first | refine Za ?_ | refine Zr ?_ | refine Zp ?_ | refine Ze ?_ | refine Zd ?_ | refine W.drawT dr28 rfl mixed rfl ?_ | refine Zn ?_ | refine Zc ?_ | refine UnK.mk (fun b hb => ?_)); conv => whnf) | (refine Zb (fun h => ?_) (fun h => ?_) <;> first | exact Zx | (conv => whnf))))
  refine (W.loopK (ι := Nat) [0, 1] [] (fun k => [(5, iA k)]) (fun _ => []) (fun k => k ≤ us.length) (fun k => us.length - k) 0 (Nat.zero_le _) ⟨AVle.refl _, trivial⟩ trivial ?_)
  conv => whnf
  intro k hk
  (repeat' (first | refine Zs ?_ | refine Zk ?_ | ((first | refine Za ?_ | refine Zr ?_ | refine Zp ?_ | refine Ze ?_ | refine Zd ?_ | refine W.drawT dr28 rfl mixed rfl ?_ | refine Zn ?_ | refine Zc ?_ | refine UnK.mk (fun b hb => ?_)); conv => whnf) | (refine Zb (fun h => ?_) (fun h => ?_) <;> first | exact Zx | (conv => whnf))))
  · (refine ⟨k + 1, by omega, by omega, ?_, ?_, ?_, ?_⟩ <;> (repeat' (first | exact trivial | exact AVle.refl _ | exact AVle.int (by omega) | exact AVle.int (by (try push_cast); omega) | exact ⟨_, rfl, EntLe.refl _, rfl⟩ | refine ⟨?_, ?_⟩)))
  · exact Zrz

abbrev code0 : ByteArray := ⟨#[49, 48, 48, 48, 48, 48, 48, 48]⟩
abbrev s1 : List Lt := [newLt 1 code0 10]
abbrev ps0 : List Pt := [⟨2, 4⟩, ⟨3, 6⟩]
abbrev s2 : List Lt := [⟨2, code0, 4, 1, [⟨1, 0, 4⟩]⟩, ⟨3, code0, 6, 1, [⟨1, 4, 10⟩]⟩]
theorem code0_ok : codeOk code0 := ⟨rfl, by decide⟩
theorem stk_nil : StkOk [] := ⟨by simp, by simp, by simp, by simp, fun i hi => by simp at hi, fun h => by
  rcases h with ⟨x, hx, _⟩ | ⟨i, hi, _⟩
  · simp at hx
  · simp [here] at hi⟩
theorem ovl_one (x : Sl) : ¬ ovl [x] := fun ⟨i, hi, _⟩ => by simp at hi
theorem stk_s1 : StkOk s1 := by
  refine ⟨by simp, by simp, ?_, by simp [joinL, extL, extR, glues], fun i hi => by simp at hi, ?_⟩
  · intro x hx
    obtain rfl := List.mem_singleton.1 hx
    exact ⟨by decide, code0_ok, by decide, by decide, by simp [slOk]⟩
  · rintro (⟨x, hx, h, _⟩ | h)
    · obtain rfl := List.mem_singleton.1 hx
      exact absurd h (by decide)
    · exact ovl_one _ h
theorem stk_s2 : StkOk s2 := by
  have ha : ∀ x ∈ s2, ltOk x := by
    intro x hx
    rcases List.mem_cons.1 hx with rfl | hx
    · exact ⟨by decide, code0_ok, by decide, by decide, by simp [slOk]⟩
    · obtain rfl := List.mem_singleton.1 hx
      exact ⟨by decide, code0_ok, by decide, by decide, by simp [slOk]⟩
  refine ⟨by simp, by simp, ha, by simp [joinL, extL, extR, glues], fun i hi => ?_, ?_⟩
  · obtain rfl : i = 0 := by simp at hi; omega
    decide
  · rintro (⟨x, hx, h, _⟩ | h)
    · rcases List.mem_cons.1 hx with rfl | hx
      · exact absurd h (by decide)
      · obtain rfl := List.mem_singleton.1 hx
        exact absurd h (by decide)
    · have e : (here s2).flatten = [⟨1, 0, 4⟩, ⟨1, 4, 10⟩] := rfl
      rw [e] at h
      rw [ovl_iff _ (by simp [slOk])] at h
      obtain ⟨i, j, h1, h2, h3⟩ := h
      obtain ⟨rfl, rfl⟩ : i = 0 ∧ j = 1 := by simp at h2; omega
      revert h3
      decide
theorem pre0 : preE [] 1 code0 10 = 0 ∧ preL [] 1 code0 10 = s1 := by
  have e : preE [] 1 code0 10 = 0 := by
    unfold preE
    rw [if_neg (by simpa using stkErr_zero stk_nil), if_neg (fun h => h ⟨by decide, code0_ok, by decide⟩), if_neg (fun ⟨x, hx, _⟩ => by simp at hx), if_neg (by simp)]
  refine ⟨e, ?_⟩
  unfold preL
  rw [if_pos e]
  unfold replL
  exact sort_unique (List.Perm.refl _) (List.pairwise_singleton ..)
theorem has1 : hasI s1 1 := ⟨_, List.mem_singleton.2 rfl, rfl⟩
theorem parts0 : partsP 1 (newLt 1 code0 10) ps0 2 = s2 := by rfl
theorem spl0 : splE s1 1 ps0 1 = 0 ∧ splL s1 1 ps0 1 = s2 := by
  have hf : findV s1 1 = newLt 1 code0 10 := rfl
  have hc : chkE s1 (findV s1 1).q ps0 1 = 0 := by
    rw [hf]
    unfold chkE
    rw [if_neg (by decide), if_neg (by decide), if_neg (by decide), if_neg, if_neg (by decide)]
    rintro ⟨p, hp, x, hx, h⟩
    obtain rfl := List.mem_singleton.1 hx
    rcases List.mem_cons.1 hp with rfl | hp
    · revert h; decide
    · obtain rfl := List.mem_singleton.1 hp
      revert h; decide
  have e : splE s1 1 ps0 1 = 0 := by
    unfold splE
    rw [if_neg (by simpa using stkErr_zero stk_s1), if_neg (by simpa using has1), if_neg (by rw [hf]; decide), if_neg (by simpa using hc), if_neg (by decide)]
  refine ⟨e, ?_⟩
  unfold splL
  rw [if_pos e, hf]
  show replL s1 [1] (partsP 1 (newLt 1 code0 10) ps0 2) = s2
  rw [parts0]
  unfold replL
  refine sort_unique (List.Perm.refl _) ?_
  show List.Pairwise _ s2
  simp

end Go.Proofs.YtojkeidijdcfoaaGreatDoor
