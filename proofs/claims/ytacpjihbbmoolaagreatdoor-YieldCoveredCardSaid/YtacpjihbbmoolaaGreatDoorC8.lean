/- The reference's processing. -/
import Derived.Test.YtacpjihbbmoolaaGreatDoorC7

namespace Go.Proofs.YtacpjihbbmoolaaGreatDoor
open Go Go.RowKit
set_option linter.unusedVariables false
set_option linter.unusedSimpArgs false
set_option maxRecDepth 100000
set_option maxHeartbeats 4000000
attribute [local irreducible] ResLe AVle ArgLe ArgP EntLe Dle ResH ArgQ

def prP (ss : List Lt) (ins : List Int) : Int := (findV ss (ins.getD 0 default)).p
def ndOf (x : Lt) : Nd := ⟨x.c, x.q⟩
def prH (ss : List Lt) (ins : List Int) : List Nd := ins.map fun i => ndOf (findV ss i)
def prBd (ss : List Lt) (r : Rc) (ins : List Int) (k : Nat) : Int := cnt (mgU ss ins) * (r.sc.take k).sum / r.sc.sum
def prPart (ss : List Lt) (r : Rc) (b : Int) (ins outs : List Int) (k : Nat) : Lt := ⟨outs.getD k default, (r.outs.getD k default).c, b * (r.outs.getD k default).q, prP ss ins, btwL (mgU ss ins) (prBd ss r ins k) (prBd ss r ins (k + 1))⟩
def prParts (ss : List Lt) (r : Rc) (b : Int) (ins outs : List Int) (k : Nat) : List Lt := (List.range k).map (prPart ss r b ins outs)
def mvP (p : Int) : Prop := p = 4 ∨ p = 6
noncomputable def proE (ss : List Lt) (r : Rc) (b : Int) (ins outs : List Int) : Int :=
  open Classical in
  if stkErr ss ≠ 0 then stkErr ss else if ¬ rcOk r then 1 else if b < 1 ∨ 1000 < b ∨ ins.length < 1 ∨ 16 < ins.length ∨ outs.length ≠ r.outs.length then 2 else if ¬ ∀ o ∈ outs, idOk o then 2
  else if ¬ ∀ i ∈ ins, hasI ss i then 6 else if twiceP ins then 13 else if twiceP outs ∨ ∃ o ∈ outs, takenP ss o then 13 else if ¬ ∀ i ∈ ins, mvP (findV ss i).p then 17
  else if ¬ ∀ i ∈ ins, (findV ss i).p = prP ss ins ∧ qtyN r.ins (findV ss i).c ≠ 0 then 14 else if ¬ ∀ x ∈ r.ins, qtyN (prH ss ins) x.c = b * x.q then 14 else if ¬ ∀ x ∈ r.outs, b * x.q ≤ 1000000000 then 16
  else if 64 < (ss.length : Int) - ins.length + outs.length then 8 else if ¬ ∀ k, k < outs.length → (prPart ss r b ins outs k).us.length ≤ 64 then 8 else 0
noncomputable def proL (ss : List Lt) (r : Rc) (b : Int) (ins outs : List Int) : List Lt := if proE ss r b ins outs = 0 then replL ss ins (prParts ss r b ins outs outs.length) else []
theorem prParts_succ (ss : List Lt) (r : Rc) (b : Int) (ins outs : List Int) (k : Nat) : prParts ss r b ins outs (k + 1) = prParts ss r b ins outs k ++ [prPart ss r b ins outs k] := by unfold prParts; rw [List.range_succ, List.map_append]; rfl
theorem prParts_len (ss : List Lt) (r : Rc) (b : Int) (ins outs : List Int) (k : Nat) : (prParts ss r b ins outs k).length = k := by simp [prParts]
theorem prParts_ids (ss : List Lt) (r : Rc) (b : Int) (ins outs : List Int) : (prParts ss r b ins outs outs.length).map Lt.id = outs := by
  unfold prParts
  rw [List.map_map]
  apply List.ext_getElem?
  intro i
  by_cases h : i < outs.length
  · simp [h, prPart]
  · simp [h]
theorem prH_snoc (ss : List Lt) (ins : List Int) (k : Nat) (h : k < ins.length) : prH ss (ins.take (k + 1)) = prH ss (ins.take k) ++ [ndOf (findV ss (ins.getD k default))] := by
  unfold prH
  rw [take_snoc ins k h, List.map_append]
  rfl
theorem prH_len (ss : List Lt) (ins : List Int) : (prH ss ins).length = ins.length := by simp [prH]
theorem needs_q {ns : List Nd} (h : needsP ns) : ∀ x ∈ ns, 0 ≤ x.q ∧ x.q ≤ 1000000000 := fun x hx => by
  have := (h.2.1 x hx).2
  unfold qOk at this
  omega
theorem rprocess_t (ss : List Lt) (r : Rc) (b : Int) (ins outs : List Int) (hL : ss.length ≤ 9223372036854775807) (hC : ∀ x ∈ ss, x.c.size ≤ 9223372036854775807)
    (hi : r.ins.length ≤ 9223372036854775807) (ho : r.outs.length ≤ 9223372036854775807) (hs : r.sc.length ≤ 9223372036854775807) (hCi : ∀ x ∈ r.ins, x.c.size ≤ 9223372036854775807) (hCo : ∀ x ∈ r.outs, x.c.size ≤ 9223372036854775807)
    (hI : ins.length ≤ 9223372036854775807) (hU : outs.length ≤ 9223372036854775807) :
    ACalls XX 56 [.dat (ltD ss), rcA r, iA b, .dat (iD ins), .dat (iD outs)] (.tup [.dat (ltD (proL ss r b ins outs)), iA (proE ss r b ins outs)]) := by
  have h1 := rstock_t ss hL hC
  have h2 := rrecipe_t r hi ho hs hCi hCo
  have hS : proL ss r b ins outs = if proE ss r b ins outs = 0 then replL ss ins (prParts ss r b ins outs outs.length) else [] := rfl
  have herr : ∀ e : Int, e ≠ 0 → proE ss r b ins outs = e → proL ss r b ins outs = [] := fun e he hc => by rw [hS, hc, if_neg he]
  by_cases e1 : stkErr ss = 0
  rotate_left
  · have hE : proE ss r b ins outs = stkErr ss := by unfold proE; rw [if_pos e1]
    rw [herr _ e1 hE, hE]
    refine ACalls.of (n := Tryz.f56.ntmps) XX_ok Tryz.func56 rfl (by kernel_rfl) rfl rfl (Nat.le_of_ble_eq_true rfl) ?_
    (repeat' (first|((first|refine Zg ?_|refine Zt dr56 ?_|refine Zn ?_|refine Zc ?_|refine Zu fun b hb=>?_|refine Zy h1 ?_|refine Zz h1 ?_);conv=>whnf)|(refine Zb ?_ ?_<;>(intro h;first|exact Zx|conv=>whnf))))
    all_goals exact Zrz
  have hO := stkErr_ok e1
  have hlen := hO.len
  rw [e1] at h1
  by_cases e2 : rcOk r
  rotate_left
  · have hE : proE ss r b ins outs = 1 := by unfold proE; rw [if_neg (by simpa using e1), if_pos e2]
    rw [herr _ (by omega) hE, hE]
    have hr1 : recErr r = 1 := by unfold recErr; rw [if_neg e2]
    rw [hr1] at h2
    refine ACalls.of (n := Tryz.f56.ntmps) XX_ok Tryz.func56 rfl (by kernel_rfl) rfl rfl (Nat.le_of_ble_eq_true rfl) ?_
    (repeat' (first|((first|refine Zg ?_|refine Zt dr56 ?_|refine Zn ?_|refine Zc ?_|refine Zu fun b hb=>?_|refine Zy h1 ?_|refine Zz h1 ?_|refine Zy h2 ?_|refine Zz h2 ?_);conv=>whnf)|(refine Zb ?_ ?_<;>(intro h;first|exact Zx|conv=>whnf))))
    all_goals exact Zrz
  have hr0 : recErr r = 0 := by unfold recErr; rw [if_pos e2]
  rw [hr0] at h2
  obtain ⟨c1, c2, c3, c4, c5, c6⟩ := e2
  have c2' := c2.1
  have c3' := c3.1
  have hq2 := needs_q c2
  have hq3 := needs_q c3
  have hE0 : proE ss r b ins outs = open Classical in if b < 1 ∨ 1000 < b ∨ ins.length < 1 ∨ 16 < ins.length ∨ outs.length ≠ r.outs.length then 2 else if ¬ ∀ o ∈ outs, idOk o then 2
  else if ¬ ∀ i ∈ ins, hasI ss i then 6 else if twiceP ins then 13 else if twiceP outs ∨ ∃ o ∈ outs, takenP ss o then 13 else if ¬ ∀ i ∈ ins, mvP (findV ss i).p then 17
  else if ¬ ∀ i ∈ ins, (findV ss i).p = prP ss ins ∧ qtyN r.ins (findV ss i).c ≠ 0 then 14 else if ¬ ∀ x ∈ r.ins, qtyN (prH ss ins) x.c = b * x.q then 14 else if ¬ ∀ x ∈ r.outs, b * x.q ≤ 1000000000 then 16
  else if 64 < (ss.length : Int) - ins.length + outs.length then 8 else if ¬ ∀ k, k < outs.length → (prPart ss r b ins outs k).us.length ≤ 64 then 8 else 0 := by
    unfold proE
    rw [if_neg (by simpa using e1), if_neg (fun h => h ⟨c1, c2, c3, c4, c5, c6⟩)]
  by_cases e3 : b < 1 ∨ 1000 < b ∨ ins.length < 1 ∨ 16 < ins.length ∨ outs.length ≠ r.outs.length
  · have hE : proE ss r b ins outs = 2 := by rw [hE0, if_pos e3]
    rw [herr _ (by omega) hE, hE]
    refine ACalls.of (n := Tryz.f56.ntmps) XX_ok Tryz.func56 rfl (by kernel_rfl) rfl rfl (Nat.le_of_ble_eq_true rfl) ?_
    (repeat' (first|((first|refine Zg ?_|refine Zt dr56 ?_|refine Zn ?_|refine Zc ?_|refine Zu fun b hb=>?_|refine Zy h1 ?_|refine Zz h1 ?_|refine Zy h2 ?_|refine Zz h2 ?_);conv=>whnf)|(refine Zb ?_ ?_<;>(intro h;first|exact Zx|conv=>whnf))))
    all_goals first|exact Zrz|(exfalso; omega)
  rw [if_neg e3] at hE0
  have n1 : 1 ≤ b ∧ b ≤ 1000 ∧ 1 ≤ ins.length ∧ ins.length ≤ 16 ∧ outs.length = r.outs.length := by omega
  have hat := fun i => rat_t ss i (by omega)
  refine ACalls.of (n := Tryz.f56.ntmps) XX_ok Tryz.func56 rfl (by kernel_rfl) rfl rfl (Nat.le_of_ble_eq_true rfl) ?_
  (repeat' (first|((first|refine Zg ?_|refine Zt dr56 ?_|refine Zn ?_|refine Zc ?_|refine Zu fun b hb=>?_|refine Zy h1 ?_|refine Zz h1 ?_|refine Zy h2 ?_|refine Zz h2 ?_);conv=>whnf)|(refine Zb ?_ ?_<;>(intro h;first|exact Zx|conv=>whnf))))
  all_goals first|(exfalso; omega)|skip
  refine (W.loopK (ι := Nat) [0, 2, 3, 4, 6] [6] (fun k => [(13, iA k)]) (fun _ => []) (fun k => k ≤ outs.length ∧ ∀ i, i < k → idOk (outs.getD i default)) (fun k => outs.length - k) 0 ⟨Nat.zero_le _, fun i hi => absurd hi (by omega)⟩ ?_ ?_ ?_)
  · exact Yz
  · exact Yz
  conv => whnf
  intro k ⟨hk, hz⟩
  by_cases hk' : k < outs.length
  · by_cases hok : idOk (outs.getD k default)
    · have hok' := hok
      unfold idOk at hok'
      (repeat' (first|((first|refine Zg ?_|refine Zt dr56 ?_|refine Zn ?_|refine Zc ?_|refine Zu fun b hb=>?_);conv=>whnf)|(refine Zb ?_ ?_<;>(intro h;first|exact Zx|conv=>whnf))))
      all_goals (try dsimp only [Int.toNat_natCast] at *)
      (repeat' (first|((first|refine Zg ?_|refine Zt dr56 ?_|refine Zn ?_|refine Zc ?_|refine Zu fun b hb=>?_);conv=>whnf)|(refine Zb ?_ ?_<;>(intro h;first|exact Zx|conv=>whnf))))
      all_goals first|(exfalso; omega)|skip
      refine ⟨k + 1, ⟨by omega, fun i hi => ?_⟩, by omega, ?_, ?_, ?_, ?_⟩
      · by_cases hik : i = k
        · subst hik; exact hok
        · exact hz i (by omega)
      all_goals exact Yz
    · have hE : proE ss r b ins outs = 2 := by rw [hE0, if_pos fun ha => hok (ha _ (getD_in hk'))]
      rw [herr _ (by omega) hE, hE]
      unfold idOk at hok
      (repeat' (first|((first|refine Zg ?_|refine Zt dr56 ?_|refine Zn ?_|refine Zc ?_|refine Zu fun b hb=>?_);conv=>whnf)|(refine Zb ?_ ?_<;>(intro h;first|exact Zx|conv=>whnf))))
      all_goals (try dsimp only [Int.toNat_natCast] at *)
      (repeat' (first|((first|refine Zg ?_|refine Zt dr56 ?_|refine Zn ?_|refine Zc ?_|refine Zu fun b hb=>?_);conv=>whnf)|(refine Zb ?_ ?_<;>(intro h;first|exact Zx|conv=>whnf))))
      all_goals first|exact Zrz|(exfalso; omega)
  have hO1 : ∀ o ∈ outs, idOk o := all_getD.2 fun i hi => hz i (by omega)
  clear hz
  rw [if_neg (by simpa using hO1)] at hE0
  (repeat' (first|((first|refine Zg ?_|refine Zt dr56 ?_|refine Zn ?_|refine Zc ?_|refine Zu fun b hb=>?_);conv=>whnf)|(refine Zb ?_ ?_<;>(intro h;first|exact Zx|conv=>whnf))))
  refine (W.loopK (ι := Nat) [0, 2, 3, 4, 6] [6] (fun k => [(14, iA k)]) (fun _ => []) (fun k => k ≤ ins.length ∧ ∀ i, i < k → hasI ss (ins.getD i default)) (fun k => ins.length - k) 0 ⟨Nat.zero_le _, fun i hi => absurd hi (by omega)⟩ ?_ ?_ ?_)
  · exact Yz
  · exact Yz
  conv => whnf
  intro k ⟨hk, hz⟩
  by_cases hk' : k < ins.length
  · have h3 := hat (ins.getD k default)
    by_cases hh : hasI ss (ins.getD k default)
    · obtain ⟨k0, q1, q2, q3, q4, q5⟩ := findI_ex hh
      rw [at_has hh, q2] at h3
      (repeat' (first|((first|refine Zg ?_|refine Zt dr56 ?_|refine Zn ?_|refine Zc ?_|refine Zu fun b hb=>?_);conv=>whnf)|(refine Zb ?_ ?_<;>(intro h;first|exact Zx|conv=>whnf))))
      all_goals (try dsimp only [Int.toNat_natCast] at *)
      (repeat' (first|((first|refine Zg ?_|refine Zt dr56 ?_|refine Zn ?_|refine Zc ?_|refine Zu fun b hb=>?_|refine Zy h3 ?_|refine Zz h3 ?_);conv=>whnf)|(refine Zb ?_ ?_<;>(intro h;first|exact Zx|conv=>whnf))))
      refine ⟨k + 1, ⟨by omega, fun i hi => ?_⟩, by omega, ?_, ?_, ?_, ?_⟩
      · by_cases hik : i = k
        · subst hik; exact hh
        · exact hz i (by omega)
      all_goals exact Yz
    · have hE : proE ss r b ins outs = 6 := by rw [hE0, if_pos fun ha => hh (ha _ (getD_in hk'))]
      rw [herr 6 (by omega) hE, hE]
      rw [at_no hh] at h3
      (repeat' (first|((first|refine Zg ?_|refine Zt dr56 ?_|refine Zn ?_|refine Zc ?_|refine Zu fun b hb=>?_);conv=>whnf)|(refine Zb ?_ ?_<;>(intro h;first|exact Zx|conv=>whnf))))
      all_goals (try dsimp only [Int.toNat_natCast] at *)
      (repeat' (first|((first|refine Zg ?_|refine Zt dr56 ?_|refine Zn ?_|refine Zc ?_|refine Zu fun b hb=>?_|refine Zy h3 ?_|refine Zz h3 ?_);conv=>whnf)|(refine Zb ?_ ?_<;>(intro h;first|exact Zx|conv=>whnf))))
      all_goals exact Zrz
  have hA : ∀ i ∈ ins, hasI ss i := all_getD.2 fun i hi => hz i (by omega)
  clear hz
  rw [if_neg (by simpa using hA)] at hE0
  (repeat' (first|((first|refine Zg ?_|refine Zt dr56 ?_|refine Zn ?_|refine Zc ?_|refine Zu fun b hb=>?_);conv=>whnf)|(refine Zb ?_ ?_<;>(intro h;first|exact Zx|conv=>whnf))))
  refine (W.loopK (ι := Nat) [0, 2, 3, 4, 6] [6] (fun k => [(15, iA k)]) (fun _ => []) (fun k => k ≤ ins.length ∧ ∀ i, i < k → ins.getD i default ∉ ins.take i) (fun k => ins.length - k) 0 ⟨Nat.zero_le _, fun i hi => absurd hi (by omega)⟩ ?_ ?_ ?_)
  · exact Yz
  · exact Yz
  conv => whnf
  intro k ⟨hk, hz⟩
  by_cases hk' : k < ins.length
  · have hc := (rhas_t (ins.take k) (ins.getD k default) (by simp; omega)).args2 (iD_take ins k hk) (AVle.refl _)
    (repeat' (first|((first|refine Zg ?_|refine Zt dr56 ?_|refine Zn ?_|refine Zc ?_|refine Zu fun b hb=>?_);conv=>whnf)|(refine Zb ?_ ?_<;>(intro h;first|exact Zx|conv=>whnf))))
    all_goals (try dsimp only [Int.toNat_natCast] at *)
    (repeat' (first|((first|refine Zg ?_|refine Zt dr56 ?_|refine Zn ?_|refine Zc ?_|refine Zu fun b hb=>?_|refine Zy hc ?_|refine Zz hc ?_);conv=>whnf)|(refine Zb ?_ ?_<;>(intro h;first|exact Zx|conv=>whnf))))
    · have hE : proE ss r b ins outs = 13 := by rw [hE0, if_pos ⟨k, hk', by simp_all⟩]
      rw [herr 13 (by omega) hE, hE]
      (repeat' (first|exact Zrq|refine ResLe.agg ?_|refine And.intro ?_ ?_|((conv=>whnf); first|exact Zrq|refine ResLe.agg ?_|refine And.intro ?_ ?_)))
    · refine ⟨k + 1, ⟨by omega, fun i hi => ?_⟩, by omega, ?_, ?_, ?_, ?_⟩
      · by_cases hik : i = k
        · subst hik; simp_all
        · exact hz i (by omega)
      all_goals exact Yz
  have hT : ¬ twiceP ins := fun ⟨i, hi, he⟩ => hz i (by omega) he
  clear hz
  rw [if_neg hT] at hE0
  (repeat' (first|((first|refine Zg ?_|refine Zt dr56 ?_|refine Zn ?_|refine Zc ?_|refine Zu fun b hb=>?_);conv=>whnf)|(refine Zb ?_ ?_<;>(intro h;first|exact Zx|conv=>whnf))))
  refine (W.loopK (ι := Nat) [0, 2, 3, 4, 6] [6] (fun k => [(16, iA k)]) (fun _ => []) (fun k => k ≤ outs.length ∧ ∀ i, i < k → outs.getD i default ∉ outs.take i ∧ ¬ takenP ss (outs.getD i default)) (fun k => outs.length - k) 0 ⟨Nat.zero_le _, fun i hi => absurd hi (by omega)⟩ ?_ ?_ ?_)
  · exact Yz
  · exact Yz
  conv => whnf
  intro k ⟨hk, hz⟩
  by_cases hk' : k < outs.length
  · have hc := (rhas_t (outs.take k) (outs.getD k default) (by simp; omega)).args2 (iD_take outs k hk) (AVle.refl _)
    have ht := rtaken_t ss (outs.getD k default) (by omega) (fun x hx => by have := hO.us x hx; omega)
    have h13 : (outs.getD k default ∈ outs.take k ∨ takenP ss (outs.getD k default)) → proE ss r b ins outs = 13 ∧ proL ss r b ins outs = [] := fun h => by
      have hE : proE ss r b ins outs = 13 := by
        rw [hE0, if_pos]
        rcases h with h|h
        · exact .inl ⟨k, hk', h⟩
        · exact .inr ⟨_, getD_in hk', h⟩
      exact ⟨hE, herr 13 (by omega) hE⟩
    by_cases g1 : outs.getD k default ∈ outs.take k
    · obtain ⟨b1, b2⟩ := h13 (.inl g1)
      rw [b1, b2]
      rw [decide_eq_true g1] at hc
      (repeat' (first|((first|refine Zg ?_|refine Zt dr56 ?_|refine Zn ?_|refine Zc ?_|refine Zu fun b hb=>?_);conv=>whnf)|(refine Zb ?_ ?_<;>(intro h;first|exact Zx|conv=>whnf))))
      all_goals (try dsimp only [Int.toNat_natCast] at *)
      (repeat' (first|((first|refine Zg ?_|refine Zt dr56 ?_|refine Zn ?_|refine Zc ?_|refine Zu fun b hb=>?_|refine Zy hc ?_|refine Zz hc ?_);conv=>whnf)|(refine Zb ?_ ?_<;>(intro h;first|exact Zx|conv=>whnf))))
      all_goals exact Zrz
    by_cases g2 : takenP ss (outs.getD k default)
    · obtain ⟨b1, b2⟩ := h13 (.inr g2)
      rw [b1, b2]
      rw [decide_eq_false g1] at hc
      rw [decide_eq_true g2] at ht
      (repeat' (first|((first|refine Zg ?_|refine Zt dr56 ?_|refine Zn ?_|refine Zc ?_|refine Zu fun b hb=>?_);conv=>whnf)|(refine Zb ?_ ?_<;>(intro h;first|exact Zx|conv=>whnf))))
      all_goals (try dsimp only [Int.toNat_natCast] at *)
      (repeat' (first|((first|refine Zg ?_|refine Zt dr56 ?_|refine Zn ?_|refine Zc ?_|refine Zu fun b hb=>?_|refine Zy hc ?_|refine Zz hc ?_|refine Zy ht ?_|refine Zz ht ?_);conv=>whnf)|(refine Zb ?_ ?_<;>(intro h;first|exact Zx|conv=>whnf))))
      all_goals (try dsimp only [Int.toNat_natCast] at *)
      (repeat' (first|((first|refine Zg ?_|refine Zt dr56 ?_|refine Zn ?_|refine Zc ?_|refine Zu fun b hb=>?_|refine Zy hc ?_|refine Zz hc ?_|refine Zy ht ?_|refine Zz ht ?_);conv=>whnf)|(refine Zb ?_ ?_<;>(intro h;first|exact Zx|conv=>whnf))))
      all_goals exact Zrz
    rw [decide_eq_false g1] at hc
    rw [decide_eq_false g2] at ht
    (repeat' (first|((first|refine Zg ?_|refine Zt dr56 ?_|refine Zn ?_|refine Zc ?_|refine Zu fun b hb=>?_);conv=>whnf)|(refine Zb ?_ ?_<;>(intro h;first|exact Zx|conv=>whnf))))
    all_goals (try dsimp only [Int.toNat_natCast] at *)
    (repeat' (first|((first|refine Zg ?_|refine Zt dr56 ?_|refine Zn ?_|refine Zc ?_|refine Zu fun b hb=>?_|refine Zy hc ?_|refine Zz hc ?_|refine Zy ht ?_|refine Zz ht ?_);conv=>whnf)|(refine Zb ?_ ?_<;>(intro h;first|exact Zx|conv=>whnf))))
    all_goals (try dsimp only [Int.toNat_natCast] at *)
    (repeat' (first|((first|refine Zg ?_|refine Zt dr56 ?_|refine Zn ?_|refine Zc ?_|refine Zu fun b hb=>?_|refine Zy hc ?_|refine Zz hc ?_|refine Zy ht ?_|refine Zz ht ?_);conv=>whnf)|(refine Zb ?_ ?_<;>(intro h;first|exact Zx|conv=>whnf))))
    refine ⟨k + 1, ⟨by omega, fun i hi => ?_⟩, by omega, ?_, ?_, ?_, ?_⟩
    · by_cases hik : i = k
      · subst hik; exact ⟨g1, g2⟩
      · exact hz i (by omega)
    all_goals exact Yz
  have hT2 : ¬ twiceP outs := fun ⟨i, hi, he⟩ => (hz i (by omega)).1 he
  have hT3 : ¬ ∃ o ∈ outs, takenP ss o := fun ⟨o, ho, ht⟩ => by
    obtain ⟨i, hi, rfl⟩ := List.getElem_of_mem ho
    have := (hz i (by omega)).2
    rw [getD_of hi] at this
    exact this ht
  clear hz
  rw [if_neg (fun h => h.elim hT2 hT3)] at hE0
  have h3 := hat (ins.getD 0 default)
  obtain ⟨k0, q1, q2, q3, q4, q5⟩ := findI_ex (hA _ (getD_in (show 0 < ins.length by omega)))
  rw [at_has (hA _ (getD_in (show 0 < ins.length by omega))), q2] at h3
  have hp0 : prP ss ins = (ss.getD k0 default).p := by unfold prP; rw [← q5]
  (repeat' (first|((first|refine Zg ?_|refine Zt dr56 ?_|refine Zn ?_|refine Zc ?_|refine Zu fun b hb=>?_);conv=>whnf)|(refine Zb ?_ ?_<;>(intro h;first|exact Zx|conv=>whnf))))
  all_goals (try dsimp only [Int.toNat_natCast] at *)
  (repeat' (first|((first|refine Zg ?_|refine Zt dr56 ?_|refine Zn ?_|refine Zc ?_|refine Zu fun b hb=>?_|refine Zy h3 ?_|refine Zz h3 ?_);conv=>whnf)|(refine Zb ?_ ?_<;>(intro h;first|exact Zx|conv=>whnf))))
  all_goals (try dsimp only [Int.toNat_natCast] at *)
  (repeat' (first|((first|refine Zg ?_|refine Zt dr56 ?_|refine Zn ?_|refine Zc ?_|refine Zu fun b hb=>?_|refine Zy h3 ?_|refine Zz h3 ?_);conv=>whnf)|(refine Zb ?_ ?_<;>(intro h;first|exact Zx|conv=>whnf))))
  refine (W.loopK (ι := Nat) [0, 2, 3, 4, 6, 17] [6] (fun k => [(18, iA k)]) (fun _ => []) (fun k => k ≤ ins.length ∧ ∀ i, i < k → mvP (findV ss (ins.getD i default)).p) (fun k => ins.length - k) 0 ⟨Nat.zero_le _, fun i hi => absurd hi (by omega)⟩ ?_ ?_ ?_)
  · exact Yz
  · exact Yz
  conv => whnf
  intro k ⟨hk, hz⟩
  by_cases hk' : k < ins.length
  · have h5 := hat (ins.getD k default)
    have hh1 := hA _ (getD_in hk')
    obtain ⟨k1, p1, p2, p3, p4, p5⟩ := findI_ex hh1
    rw [at_has hh1, p2] at h5
    by_cases hm : mvP (findV ss (ins.getD k default)).p
    · have hm' := hm
      rw [← p5] at hm'
      unfold mvP at hm'
      (repeat' (first|((first|refine Zg ?_|refine Zt dr56 ?_|refine Zn ?_|refine Zc ?_|refine Zu fun b hb=>?_);conv=>whnf)|(refine Zb ?_ ?_<;>(intro h;first|exact Zx|conv=>whnf))))
      all_goals (try dsimp only [Int.toNat_natCast] at *)
      (repeat' (first|((first|refine Zg ?_|refine Zt dr56 ?_|refine Zn ?_|refine Zc ?_|refine Zu fun b hb=>?_|refine Zy h5 ?_|refine Zz h5 ?_);conv=>whnf)|(refine Zb ?_ ?_<;>(intro h;first|exact Zx|conv=>whnf))))
      all_goals (try dsimp only [Int.toNat_natCast] at *)
      (repeat' (first|((first|refine Zg ?_|refine Zt dr56 ?_|refine Zn ?_|refine Zc ?_|refine Zu fun b hb=>?_|refine Zy h5 ?_|refine Zz h5 ?_);conv=>whnf)|(refine Zb ?_ ?_<;>(intro h;first|exact Zx|conv=>whnf))))
      all_goals first|(exfalso; omega)|skip
      all_goals (refine ⟨k + 1, ⟨by omega, fun i hi => ?_⟩, by omega, ?_, ?_, ?_, ?_⟩)
      all_goals first
        | ((repeat' (first|exact Yq|refine ⟨_, rfl, Yb ?_, rfl⟩|refine ⟨_, rfl, Yw (by first|rfl|omega) ?_, rfl⟩|refine And.intro ?_ ?_)); done)
        | (by_cases hik : i = k
           · subst hik; exact hm
           · exact hz i (by omega))
    · have hE : proE ss r b ins outs = 17 := by rw [hE0, if_pos fun ha => hm (ha _ (getD_in hk'))]
      rw [herr 17 (by omega) hE, hE]
      rw [← p5] at hm
      unfold mvP at hm
      (repeat' (first|((first|refine Zg ?_|refine Zt dr56 ?_|refine Zn ?_|refine Zc ?_|refine Zu fun b hb=>?_);conv=>whnf)|(refine Zb ?_ ?_<;>(intro h;first|exact Zx|conv=>whnf))))
      all_goals (try dsimp only [Int.toNat_natCast] at *)
      (repeat' (first|((first|refine Zg ?_|refine Zt dr56 ?_|refine Zn ?_|refine Zc ?_|refine Zu fun b hb=>?_|refine Zy h5 ?_|refine Zz h5 ?_);conv=>whnf)|(refine Zb ?_ ?_<;>(intro h;first|exact Zx|conv=>whnf))))
      all_goals (try dsimp only [Int.toNat_natCast] at *)
      (repeat' (first|((first|refine Zg ?_|refine Zt dr56 ?_|refine Zn ?_|refine Zc ?_|refine Zu fun b hb=>?_|refine Zy h5 ?_|refine Zz h5 ?_);conv=>whnf)|(refine Zb ?_ ?_<;>(intro h;first|exact Zx|conv=>whnf))))
      all_goals first|exact Zrz|(exfalso; omega)
  have hM : ∀ i ∈ ins, mvP (findV ss i).p := all_getD.2 fun i hi => hz i (by omega)
  clear hz
  rw [if_neg (by simpa using hM)] at hE0
  have hrng := mg_rng hO hA
  (repeat' (first|((first|refine Zg ?_|refine Zt dr56 ?_|refine Zn ?_|refine Zc ?_|refine Zu fun b hb=>?_);conv=>whnf)|(refine Zb ?_ ?_<;>(intro h;first|exact Zx|conv=>whnf))))
  refine (W.adopt 20 201 30 2 (rowF ndE []) rfl rfl rfl rfl ?_)
  conv => whnf
  refine (W.adopt 21 205 63 3 (rowF slE []) rfl rfl rfl rfl ?_)
  conv => whnf
  refine (W.loopK (ι := Nat) [0, 2, 3, 4, 6, 17] [6] (fun k => [(22, iA k), (20, .own 201 2 0 (prH ss (ins.take k)).length), (21, .own 205 3 0 (mgU ss (ins.take k)).length)]) (fun k => [(201, .row 30 2 (prH ss (ins.take k)).length (rowF ndE (prH ss (ins.take k)))), (205, .row 63 3 (mgU ss (ins.take k)).length (rowF slE (mgU ss (ins.take k))))]) (fun k => k ≤ ins.length ∧ ∀ i, i < k → (findV ss (ins.getD i default)).p = prP ss ins ∧ qtyN r.ins (findV ss (ins.getD i default)).c ≠ 0) (fun k => ins.length - k) 0 ⟨Nat.zero_le _, fun i hi => absurd hi (by omega)⟩ ?_ ?_ ?_)
  · exact Yz
  · exact Yz
  conv => whnf
  intro k ⟨hk, hz⟩
  obtain ⟨r1, r2, r3⟩ := hrng k hk
  have hpl := prH_len ss (ins.take k)
  have hpl2 := List.length_take_le' k ins
  by_cases hk' : k < ins.length
  · have h5 := hat (ins.getD k default)
    have hh1 := hA _ (getD_in hk')
    obtain ⟨k1, p1, p2, p3, p4, p5⟩ := findI_ex hh1
    rw [at_has hh1, p2] at h5
    have m1 : ss.getD k1 default ∈ ss := getD_in p1
    have hu1 := hO.us _ m1
    have h6 := rqty_t r.ins (ss.getD k1 default).c (by omega) hq2
    have su := mgU_snoc ss ins k hk'
    have sp := prH_snoc ss ins k hk'
    by_cases hm : (findV ss (ins.getD k default)).p = prP ss ins ∧ qtyN r.ins (findV ss (ins.getD k default)).c ≠ 0
    · have hm' := hm
      rw [← p5, hp0] at hm'
      rw [← p5] at su sp
      have hul : (mgU ss (ins.take (k + 1))).length = (mgU ss (ins.take k)).length + (ss.getD k1 default).us.length := by rw [su, List.length_append]
      have hpl3 : (prH ss (ins.take (k + 1))).length = (prH ss (ins.take k)).length + 1 := by rw [sp, List.length_append]; rfl
      (repeat' (first|((first|refine Zg ?_|refine Zt dr56 ?_|refine Zn ?_|refine Zc ?_|refine Zu fun b hb=>?_);conv=>whnf)|(refine Zb ?_ ?_<;>(intro h;first|exact Zx|conv=>whnf))))
      all_goals (try dsimp only [Int.toNat_natCast] at *)
      (repeat' (first|((first|refine Zg ?_|refine Zt dr56 ?_|refine Zn ?_|refine Zc ?_|refine Zu fun b hb=>?_|refine Zy h5 ?_|refine Zz h5 ?_);conv=>whnf)|(refine Zb ?_ ?_<;>(intro h;first|exact Zx|conv=>whnf))))
      all_goals (try dsimp only [Int.toNat_natCast] at *)
      (repeat' (first|((first|refine Zg ?_|refine Zt dr56 ?_|refine Zn ?_|refine Zc ?_|refine Zu fun b hb=>?_|refine Zy h5 ?_|refine Zz h5 ?_|refine Zy h6 ?_|refine Zz h6 ?_);conv=>whnf)|(refine Zb ?_ ?_<;>(intro h;first|exact Zx|conv=>whnf))))
      all_goals first|(exfalso; omega)|skip
      refine ⟨k + 1, ⟨by omega, fun i hi => ?_⟩, by omega, ?_, ?_, ?_, ?_⟩
      · by_cases hik : i = k
        · subst hik; exact hm
        · exact hz i (by omega)
      all_goals (repeat' (first|exact Yq|exact Yi (by first|rfl|exact hul.symm|exact hpl3.symm|omega)|exact Yo (by first|rfl|exact hul.symm|exact hpl3.symm|omega)|exact Ye (by first|rfl|exact hul.symm|exact hpl3.symm|omega)|refine ⟨_, rfl, Yb ?_, rfl⟩|refine ⟨_, rfl, Yw (by first|rfl|exact hul.symm|exact hpl3.symm|omega) ?_, rfl⟩|refine And.intro ?_ ?_))
      · rw [sp]
        refine rowF_snoc rfl fun j hj => ?_
        rcases j with _|_|j
        all_goals first|exact Dle.refl _|omega
      · rw [su]
        exact rowF_app rfl fun i hi j hj => Dle.refl _
    · have hE : proE ss r b ins outs = 14 := by rw [hE0, if_pos fun ha => hm (ha _ (getD_in hk'))]
      rw [herr 14 (by omega) hE, hE]
      rw [← p5, hp0] at hm
      (repeat' (first|((first|refine Zg ?_|refine Zt dr56 ?_|refine Zn ?_|refine Zc ?_|refine Zu fun b hb=>?_);conv=>whnf)|(refine Zb ?_ ?_<;>(intro h;first|exact Zx|conv=>whnf))))
      all_goals (try dsimp only [Int.toNat_natCast] at *)
      (repeat' (first|((first|refine Zg ?_|refine Zt dr56 ?_|refine Zn ?_|refine Zc ?_|refine Zu fun b hb=>?_|refine Zy h5 ?_|refine Zz h5 ?_);conv=>whnf)|(refine Zb ?_ ?_<;>(intro h;first|exact Zx|conv=>whnf))))
      all_goals (try dsimp only [Int.toNat_natCast] at *)
      (repeat' (first|((first|refine Zg ?_|refine Zt dr56 ?_|refine Zn ?_|refine Zc ?_|refine Zu fun b hb=>?_|refine Zy h5 ?_|refine Zz h5 ?_|refine Zy h6 ?_|refine Zz h6 ?_);conv=>whnf)|(refine Zb ?_ ?_<;>(intro h;first|exact Zx|conv=>whnf))))
      all_goals first|exact Zrz|(exfalso; omega)
  obtain rfl : k = ins.length := by omega
  have hQ : ∀ i ∈ ins, (findV ss i).p = prP ss ins ∧ qtyN r.ins (findV ss i).c ≠ 0 := all_getD.2 fun i hi => hz i (by omega)
  clear hz
  rw [if_neg (by simpa using hQ)] at hE0
  rw [List.take_length] at *
  (repeat' (first|((first|refine Zv 45 ?_|refine Zt dr56 ?_|refine Zn ?_|refine Zc ?_|refine Zu fun b hb=>?_);conv=>whnf)|(refine Zb ?_ ?_<;>(intro h;first|exact Zx|conv=>whnf))))
  refine (W.pubD 20 201 rfl rfl ?_)
  conv => whnf
  refine (W.pubD 21 205 rfl rfl ?_)
  conv => whnf
  (repeat' (first|((first|refine Zg ?_|refine Zt dr56 ?_|refine Zn ?_|refine Zc ?_|refine Zu fun b hb=>?_);conv=>whnf)|(refine Zb ?_ ?_<;>(intro h;first|exact Zx|conv=>whnf))))
  obtain ⟨r1', r2', r3'⟩ := hrng ins.length (Nat.le_refl _)
  rw [List.take_length] at r1' r2' r3'
  have hHq : ∀ x ∈ prH ss ins, 0 ≤ x.q ∧ x.q ≤ 1000000000 := fun x hx => by
    unfold prH at hx
    obtain ⟨i, hi, rfl⟩ := List.mem_map.1 hx
    have := (hO.ok _ (findV_mem (hA i hi)).1).2.2.1
    unfold qOk at this
    show 0 ≤ (findV ss i).q ∧ (findV ss i).q ≤ _
    omega
  have hHl := prH_len ss ins
  have hmul : ∀ q : Int, 0 ≤ q ∧ q ≤ 1000000000 → 0 ≤ b * q ∧ b * q ≤ 1000000000000 := fun q hq => by
    have g1 := Int.mul_nonneg (show 0 ≤ b by omega) hq.1
    have g2 := Int.mul_le_mul_of_nonneg_left hq.2 (show 0 ≤ b by omega)
    omega
  refine (W.loopK (ι := Nat) [0, 2, 3, 4, 6, 17, 20, 21] [6] (fun k => [(24, iA k)]) (fun _ => []) (fun k => k ≤ r.ins.length ∧ ∀ i, i < k → qtyN (prH ss ins) (r.ins.getD i default).c = b * (r.ins.getD i default).q) (fun k => r.ins.length - k) 0 ⟨Nat.zero_le _, fun i hi => absurd hi (by omega)⟩ ?_ ?_ ?_)
  · exact Yz
  · exact Yz
  conv => whnf
  intro k ⟨hk, hz⟩
  by_cases hk' : k < r.ins.length
  · have h6 := rqty_t (prH ss ins) (r.ins.getD k default).c (by omega) hHq
    have hbq := hmul _ (hq2 _ (getD_in hk'))
    by_cases hm : qtyN (prH ss ins) (r.ins.getD k default).c = b * (r.ins.getD k default).q
    · (repeat' (first|((first|refine Zg ?_|refine Zt dr56 ?_|refine Zn ?_|refine Zc ?_|refine Zu fun b hb=>?_);conv=>whnf)|(refine Zb ?_ ?_<;>(intro h;first|exact Zx|conv=>whnf))))
      all_goals (try dsimp only [Int.toNat_natCast] at *)
      (repeat' (first|((first|refine Zg ?_|refine Zt dr56 ?_|refine Zn ?_|refine Zc ?_|refine Zu fun b hb=>?_|refine Zy h6 ?_|refine Zz h6 ?_);conv=>whnf)|(refine Zb ?_ ?_<;>(intro h;first|exact Zx|conv=>whnf))))
      all_goals (try dsimp only [Int.toNat_natCast] at *)
      (repeat' (first|((first|refine Zg ?_|refine Zt dr56 ?_|refine Zn ?_|refine Zc ?_|refine Zu fun b hb=>?_|refine Zy h6 ?_|refine Zz h6 ?_);conv=>whnf)|(refine Zb ?_ ?_<;>(intro h;first|exact Zx|conv=>whnf))))
      all_goals first|(exfalso; omega)|skip
      refine ⟨k + 1, ⟨by omega, fun i hi => ?_⟩, by omega, ?_, ?_, ?_, ?_⟩
      · by_cases hik : i = k
        · subst hik; exact hm
        · exact hz i (by omega)
      all_goals exact Yz
    · have hE : proE ss r b ins outs = 14 := by rw [hE0, if_pos fun ha => hm (ha _ (getD_in hk'))]
      rw [herr 14 (by omega) hE, hE]
      (repeat' (first|((first|refine Zg ?_|refine Zt dr56 ?_|refine Zn ?_|refine Zc ?_|refine Zu fun b hb=>?_);conv=>whnf)|(refine Zb ?_ ?_<;>(intro h;first|exact Zx|conv=>whnf))))
      all_goals (try dsimp only [Int.toNat_natCast] at *)
      (repeat' (first|((first|refine Zg ?_|refine Zt dr56 ?_|refine Zn ?_|refine Zc ?_|refine Zu fun b hb=>?_|refine Zy h6 ?_|refine Zz h6 ?_);conv=>whnf)|(refine Zb ?_ ?_<;>(intro h;first|exact Zx|conv=>whnf))))
      all_goals (try dsimp only [Int.toNat_natCast] at *)
      (repeat' (first|((first|refine Zg ?_|refine Zt dr56 ?_|refine Zn ?_|refine Zc ?_|refine Zu fun b hb=>?_|refine Zy h6 ?_|refine Zz h6 ?_);conv=>whnf)|(refine Zb ?_ ?_<;>(intro h;first|exact Zx|conv=>whnf))))
      all_goals first|exact Zrz|(exfalso; omega)
  have hN : ∀ x ∈ r.ins, qtyN (prH ss ins) x.c = b * x.q := all_getD.2 fun i hi => hz i (by omega)
  clear hz
  rw [if_neg (by simpa using hN)] at hE0
  (repeat' (first|((first|refine Zg ?_|refine Zt dr56 ?_|refine Zn ?_|refine Zc ?_|refine Zu fun b hb=>?_);conv=>whnf)|(refine Zb ?_ ?_<;>(intro h;first|exact Zx|conv=>whnf))))
  refine (W.loopK (ι := Nat) [0, 2, 3, 4, 6, 17, 21] [6] (fun k => [(25, iA k)]) (fun _ => []) (fun k => k ≤ r.outs.length ∧ ∀ i, i < k → b * (r.outs.getD i default).q ≤ 1000000000) (fun k => r.outs.length - k) 0 ⟨Nat.zero_le _, fun i hi => absurd hi (by omega)⟩ ?_ ?_ ?_)
  · exact Yz
  · exact Yz
  conv => whnf
  intro k ⟨hk, hz⟩
  by_cases hk' : k < r.outs.length
  · have hbq := hmul _ (hq3 _ (getD_in hk'))
    by_cases hm : b * (r.outs.getD k default).q ≤ 1000000000
    · (repeat' (first|((first|refine Zg ?_|refine Zt dr56 ?_|refine Zn ?_|refine Zc ?_|refine Zu fun b hb=>?_);conv=>whnf)|(refine Zb ?_ ?_<;>(intro h;first|exact Zx|conv=>whnf))))
      all_goals (try dsimp only [Int.toNat_natCast] at *)
      (repeat' (first|((first|refine Zg ?_|refine Zt dr56 ?_|refine Zn ?_|refine Zc ?_|refine Zu fun b hb=>?_);conv=>whnf)|(refine Zb ?_ ?_<;>(intro h;first|exact Zx|conv=>whnf))))
      all_goals (try dsimp only [Int.toNat_natCast] at *)
      (repeat' (first|((first|refine Zg ?_|refine Zt dr56 ?_|refine Zn ?_|refine Zc ?_|refine Zu fun b hb=>?_);conv=>whnf)|(refine Zb ?_ ?_<;>(intro h;first|exact Zx|conv=>whnf))))
      all_goals first|(exfalso; omega)|skip
      refine ⟨k + 1, ⟨by omega, fun i hi => ?_⟩, by omega, ?_, ?_, ?_, ?_⟩
      · by_cases hik : i = k
        · subst hik; exact hm
        · exact hz i (by omega)
      all_goals exact Yz
    · have hE : proE ss r b ins outs = 16 := by rw [hE0, if_pos fun ha => hm (ha _ (getD_in hk'))]
      rw [herr 16 (by omega) hE, hE]
      (repeat' (first|((first|refine Zg ?_|refine Zt dr56 ?_|refine Zn ?_|refine Zc ?_|refine Zu fun b hb=>?_);conv=>whnf)|(refine Zb ?_ ?_<;>(intro h;first|exact Zx|conv=>whnf))))
      all_goals (try dsimp only [Int.toNat_natCast] at *)
      (repeat' (first|((first|refine Zg ?_|refine Zt dr56 ?_|refine Zn ?_|refine Zc ?_|refine Zu fun b hb=>?_);conv=>whnf)|(refine Zb ?_ ?_<;>(intro h;first|exact Zx|conv=>whnf))))
      all_goals (try dsimp only [Int.toNat_natCast] at *)
      (repeat' (first|((first|refine Zg ?_|refine Zt dr56 ?_|refine Zn ?_|refine Zc ?_|refine Zu fun b hb=>?_);conv=>whnf)|(refine Zb ?_ ?_<;>(intro h;first|exact Zx|conv=>whnf))))
      all_goals first|exact Zrz|(exfalso; omega)
  have hX : ∀ x ∈ r.outs, b * x.q ≤ 1000000000 := all_getD.2 fun i hi => hz i (by omega)
  clear hz
  rw [if_neg (by simpa using hX)] at hE0
  by_cases e8 : 64 < (ss.length : Int) - ins.length + outs.length
  · have hE : proE ss r b ins outs = 8 := by rw [hE0, if_pos e8]
    rw [herr 8 (by omega) hE, hE]
    (repeat' (first|((first|refine Zg ?_|refine Zt dr56 ?_|refine Zn ?_|refine Zc ?_|refine Zu fun b hb=>?_);conv=>whnf)|(refine Zb ?_ ?_<;>(intro h;first|exact Zx|conv=>whnf))))
    all_goals first|exact Zrz|(exfalso; omega)
  rw [if_neg e8] at hE0
  have hcl := cnt_le r3'
  have hcn := cnt_nonneg (slOk_le r3')
  (repeat' (first|((first|refine Zg ?_|refine Zt dr56 ?_|refine Zn ?_|refine Zc ?_|refine Zu fun b hb=>?_);conv=>whnf)|(refine Zb ?_ ?_<;>(intro h;first|exact Zx|conv=>whnf))))
  all_goals first|(exfalso; omega)|skip
  refine (W.loopK (ι := Nat) [0, 2, 3, 4, 6, 17, 21] [6] (fun k => [(27, iA k), (26, iA (cnt ((mgU ss ins).take k)))]) (fun _ => []) (fun k => k ≤ (mgU ss ins).length) (fun k => (mgU ss ins).length - k) 0 (Nat.zero_le _) ?_ ?_ ?_)
  · (repeat' (first|exact Yq|exact Yi (by first|rfl|(simp [cnt]; done)|omega)|exact Yo (by first|rfl|(simp [cnt]; done)|omega)|exact Ye (by first|rfl|(simp [cnt]; done)|omega)|refine ⟨_, rfl, Yb ?_, rfl⟩|refine ⟨_, rfl, Yw (by first|rfl|(simp [cnt]; done)|omega) ?_, rfl⟩|refine And.intro ?_ ?_))
  · exact Yz
  conv => whnf
  intro k hk
  have hr := cnt_rng r3' k
  by_cases hk' : k < (mgU ss ins).length
  · have hx := r3' _ (getD_in hk')
    have hct := cnt_take (mgU ss ins) k hk'
    unfold slOk at hx
    unfold lenS at hct
    (repeat' (first|((first|refine Zg ?_|refine Zt dr56 ?_|refine Zn ?_|refine Zc ?_|refine Zu fun b hb=>?_);conv=>whnf)|(refine Zb ?_ ?_<;>(intro h;first|exact Zx|conv=>whnf))))
    all_goals (try dsimp only [Int.toNat_natCast] at *)
    (repeat' (first|((first|refine Zg ?_|refine Zt dr56 ?_|refine Zn ?_|refine Zc ?_|refine Zu fun b hb=>?_);conv=>whnf)|(refine Zb ?_ ?_<;>(intro h;first|exact Zx|conv=>whnf))))
    all_goals (try dsimp only [Int.toNat_natCast] at *)
    (repeat' (first|((first|refine Zg ?_|refine Zt dr56 ?_|refine Zn ?_|refine Zc ?_|refine Zu fun b hb=>?_);conv=>whnf)|(refine Zb ?_ ?_<;>(intro h;first|exact Zx|conv=>whnf))))
    refine ⟨k + 1, by omega, by omega, ?_, ?_, ?_, ?_⟩
    all_goals exact Yz
  obtain rfl : k = (mgU ss ins).length := by omega
  rw [List.take_length] at *
  (repeat' (first|((first|refine Zg ?_|refine Zt dr56 ?_|refine Zn ?_|refine Zc ?_|refine Zu fun b hb=>?_);conv=>whnf)|(refine Zb ?_ ?_<;>(intro h;first|exact Zx|conv=>whnf))))
  have hsr := scSum_rng c5
  refine (W.loopK (ι := Nat) [0, 2, 3, 4, 6, 17, 21, 26, 29, 30] [6] (fun k => [(31, iA k), (28, iA (r.sc.take k).sum)]) (fun _ => []) (fun k => k ≤ r.sc.length) (fun k => r.sc.length - k) 0 (Nat.zero_le _) ?_ ?_ ?_)
  · (repeat' (first|exact Yq|exact Yi (by first|rfl|(simp; done)|omega)|exact Yo (by first|rfl|(simp; done)|omega)|exact Ye (by first|rfl|(simp; done)|omega)|refine ⟨_, rfl, Yb ?_, rfl⟩|refine ⟨_, rfl, Yw (by first|rfl|(simp; done)|omega) ?_, rfl⟩|refine And.intro ?_ ?_))
  · exact Yz
  conv => whnf
  intro k hk
  have hr := hsr k hk
  by_cases hk' : k < r.sc.length
  · have hx := c5 _ (getD_in hk')
    have hsn : (r.sc.take (k + 1)).sum = (r.sc.take k).sum + r.sc.getD k default := sum_take0 r.sc k hk'
    (repeat' (first|((first|refine Zg ?_|refine Zt dr56 ?_|refine Zn ?_|refine Zc ?_|refine Zu fun b hb=>?_);conv=>whnf)|(refine Zb ?_ ?_<;>(intro h;first|exact Zx|conv=>whnf))))
    all_goals (try dsimp only [Int.toNat_natCast] at *)
    (repeat' (first|((first|refine Zg ?_|refine Zt dr56 ?_|refine Zn ?_|refine Zc ?_|refine Zu fun b hb=>?_);conv=>whnf)|(refine Zb ?_ ?_<;>(intro h;first|exact Zx|conv=>whnf))))
    refine ⟨k + 1, by omega, by omega, ?_, ?_, ?_, ?_⟩
    all_goals (repeat' (first|exact Yq|exact Yi (by first|rfl|exact hsn.symm|omega)|exact Yo (by first|rfl|exact hsn.symm|omega)|exact Ye (by first|rfl|exact hsn.symm|omega)|refine ⟨_, rfl, Yb ?_, rfl⟩|refine ⟨_, rfl, Yw (by first|rfl|exact hsn.symm|omega) ?_, rfl⟩|refine And.intro ?_ ?_))
  obtain rfl : k = r.sc.length := by omega
  rw [List.take_length] at *
  have hsum0 : 0 < r.sc.sum ∧ r.sc.sum ≤ 8000000 := by omega
  have hkl := keep_len ss ins
  have h7 := rwithout_t ss ins (by omega) (by omega)
  have h8 := rput_t (keepI ss ins) (prParts ss r b ins outs outs.length) (by omega) (by rw [prParts_len]; omega)
  rw [put_parts hO (fun x hx => by
    have : x.id ∈ (prParts ss r b ins outs outs.length).map Lt.id := List.mem_map.2 ⟨x, hx, rfl⟩
    rw [prParts_ids] at this
    exact fun ht => hT3 ⟨_, this, ht⟩) (by rw [prParts_ids]; exact not_twice.1 hT2) ins] at h8
  have hmono : ∀ k, k ≤ r.sc.length → (r.sc.take k).sum ≤ r.sc.sum := by
    have key : ∀ j, j ≤ r.sc.length → (r.sc.take (r.sc.length - j)).sum ≤ r.sc.sum := by
      intro j
      induction j with
      | zero => intro _; rw [Nat.sub_zero, List.take_length]; exact Int.le_refl _
      | succ j ih =>
        intro hj
        have := ih (by omega)
        have hx := c5 _ (getD_in (k := r.sc.length - (j + 1)) (by omega))
        have hsn : (r.sc.take (r.sc.length - (j + 1) + 1)).sum = (r.sc.take (r.sc.length - (j + 1))).sum + r.sc.getD (r.sc.length - (j + 1)) default := sum_take0 r.sc _ (by omega)
        rw [show r.sc.length - (j + 1) + 1 = r.sc.length - j by omega] at hsn
        omega
    intro k hk
    have := key (r.sc.length - k) (by omega)
    rwa [show r.sc.length - (r.sc.length - k) = k by omega] at this
  have hbd : ∀ k, k ≤ r.sc.length → 0 ≤ prBd ss r ins k ∧ prBd ss r ins k ≤ cnt (mgU ss ins) := fun k hk => by
    have g0 := (hsr k hk).1
    have g1 := hmono k hk
    unfold prBd
    exact ⟨Int.ediv_nonneg (Int.mul_nonneg hcn g0) (by omega), Int.ediv_le_of_le_mul (by omega) (Int.mul_le_mul_of_nonneg_left g1 hcn)⟩
  (repeat' (first|((first|refine Zg ?_|refine Zt dr56 ?_|refine Zn ?_|refine Zc ?_|refine Zu fun b hb=>?_);conv=>whnf)|(refine Zb ?_ ?_<;>(intro h;first|exact Zx|conv=>whnf))))
  refine (W.adopt 32 337 45 5 (rowF ltE []) rfl rfl rfl rfl ?_)
  conv => whnf
  refine (W.loopK (ι := Nat) [0, 2, 3, 4, 6, 17, 21, 26, 28] [6] (fun k => [(33, iA k), (29, iA (r.sc.take k).sum), (30, iA (prBd ss r ins k)), (32, .own 337 5 0 (prParts ss r b ins outs k).length)]) (fun k => [(337, .row 45 5 (prParts ss r b ins outs k).length (rowF ltE (prParts ss r b ins outs k)))]) (fun k => k ≤ outs.length ∧ ∀ i, i < k → (prPart ss r b ins outs i).us.length ≤ 64) (fun k => outs.length - k) 0 ⟨Nat.zero_le _, fun i hi => absurd hi (by omega)⟩ ?_ ?_ ?_)
  · (repeat' (first|exact Yq|exact Yi (by first|rfl|(simp [prBd]; done)|omega)|exact Yo (by first|rfl|(simp [prBd]; done)|omega)|exact Ye (by first|rfl|(simp [prBd]; done)|omega)|refine ⟨_, rfl, Yb ?_, rfl⟩|refine ⟨_, rfl, Yw (by first|rfl|(simp [prBd]; done)|omega) ?_, rfl⟩|refine And.intro ?_ ?_))
  · exact Yz
  conv => whnf
  intro k ⟨hk, hz⟩
  have hpl := prParts_len ss r b ins outs k
  by_cases hk' : k < outs.length
  · have g0 := hsr k (by omega)
    have g1 := hsr (k + 1) (by omega)
    have g2 := hmono (k + 1) (by omega)
    have g3 := hbd k (by omega)
    have g4 := hbd (k + 1) (by omega)
    have hx := c5 _ (getD_in (show k < r.sc.length by omega))
    have hsn : (r.sc.take (k + 1)).sum = (r.sc.take k).sum + r.sc.getD k default := sum_take0 r.sc k (by omega)
    have hbq := hmul _ (hq3 _ (getD_in (show k < r.outs.length by omega)))
    have hdv : cnt (mgU ss ins) / r.sc.sum * (r.sc.take (k + 1)).sum ≤ cnt (mgU ss ins) := by
      have t1 := Int.ediv_nonneg hcn (show 0 ≤ r.sc.sum by omega)
      have t2 := Int.mul_le_mul_of_nonneg_left g2 t1
      have t3 := Int.ediv_mul_le (cnt (mgU ss ins)) (show r.sc.sum ≠ 0 by omega)
      omega
    have hMd := rmulDivI_t (cnt (mgU ss ins)) (r.sc.take (k + 1)).sum r.sc.sum (by omega) (by omega) (by omega) (by omega)
    have hbe : cnt (mgU ss ins) * (r.sc.take (k + 1)).sum / r.sc.sum = prBd ss r ins (k + 1) := rfl
    rw [hbe, hsn] at hMd
    have hB := between_t (mgU ss ins) (prBd ss r ins k) (prBd ss r ins (k + 1)) r3' (by omega) (by omega) (by omega)
    have hbl : (btwL (mgU ss ins) (prBd ss r ins k) (prBd ss r ins (k + 1))).length ≤ (mgU ss ins).length := btw_len _ _ _ _
    have hl1 : (prParts ss r b ins outs k).length + 1 = (prParts ss r b ins outs (k + 1)).length := by rw [prParts_len, prParts_len]
    by_cases hm : (prPart ss r b ins outs k).us.length ≤ 64
    · have hm' : (btwL (mgU ss ins) (prBd ss r ins k) (prBd ss r ins (k + 1))).length ≤ 64 := hm
      (repeat' (first|((first|refine Zg ?_|refine Zt dr56 ?_|refine Zn ?_|refine Zc ?_|refine Zu fun b hb=>?_);conv=>whnf)|(refine Zb ?_ ?_<;>(intro h;first|exact Zx|conv=>whnf))))
      all_goals (try dsimp only [Int.toNat_natCast] at *)
      (repeat' (first|((first|refine Zg ?_|refine Zt dr56 ?_|refine Zn ?_|refine Zc ?_|refine Zu fun b hb=>?_|refine Zy hMd ?_|refine Zz hMd ?_|refine Zy hB ?_|refine Zz hB ?_);conv=>whnf)|(refine Zb ?_ ?_<;>(intro h;first|exact Zx|conv=>whnf))))
      all_goals (try dsimp only [Int.toNat_natCast] at *)
      (repeat' (first|((first|refine Zg ?_|refine Zt dr56 ?_|refine Zn ?_|refine Zc ?_|refine Zu fun b hb=>?_|refine Zy hMd ?_|refine Zz hMd ?_|refine Zy hB ?_|refine Zz hB ?_);conv=>whnf)|(refine Zb ?_ ?_<;>(intro h;first|exact Zx|conv=>whnf))))
      all_goals first|(exfalso; omega)|skip
      refine ⟨k + 1, ⟨by omega, fun i hi => ?_⟩, by omega, ?_, ?_, ?_, ?_⟩
      · by_cases hik : i = k
        · subst hik; exact hm
        · exact hz i (by omega)
      all_goals (repeat' (first|exact Yq|exact Yi (by first|rfl|exact hsn.symm|exact hl1|omega)|exact Yo (by first|rfl|exact hsn.symm|exact hl1|omega)|exact Ye (by first|rfl|exact hsn.symm|exact hl1|omega)|refine ⟨_, rfl, Yb ?_, rfl⟩|refine ⟨_, rfl, Yw (by first|rfl|exact hsn.symm|exact hl1|omega) ?_, rfl⟩|refine And.intro ?_ ?_))
      rw [prParts_succ]
      refine rowF_snoc (us := prParts ss r b ins outs k) (x := prPart ss r b ins outs k) rfl fun j hj => ?_
      rcases j with _|_|_|_|_|j
      all_goals first|exact Dle.refl _|exact Dle.of_eq (congrArg (fun z => D.val (Value.int IntKind.i64 z)) hp0.symm)|omega
    · have hE : proE ss r b ins outs = 8 := by rw [hE0, if_pos fun ha => hm (ha k hk')]
      rw [herr 8 (by omega) hE, hE]
      have hm' : ¬ (btwL (mgU ss ins) (prBd ss r ins k) (prBd ss r ins (k + 1))).length ≤ 64 := hm
      (repeat' (first|((first|refine Zg ?_|refine Zt dr56 ?_|refine Zn ?_|refine Zc ?_|refine Zu fun b hb=>?_);conv=>whnf)|(refine Zb ?_ ?_<;>(intro h;first|exact Zx|conv=>whnf))))
      all_goals (try dsimp only [Int.toNat_natCast] at *)
      (repeat' (first|((first|refine Zg ?_|refine Zt dr56 ?_|refine Zn ?_|refine Zc ?_|refine Zu fun b hb=>?_|refine Zy hMd ?_|refine Zz hMd ?_|refine Zy hB ?_|refine Zz hB ?_);conv=>whnf)|(refine Zb ?_ ?_<;>(intro h;first|exact Zx|conv=>whnf))))
      all_goals (try dsimp only [Int.toNat_natCast] at *)
      (repeat' (first|((first|refine Zg ?_|refine Zt dr56 ?_|refine Zn ?_|refine Zc ?_|refine Zu fun b hb=>?_|refine Zy hMd ?_|refine Zz hMd ?_|refine Zy hB ?_|refine Zz hB ?_);conv=>whnf)|(refine Zb ?_ ?_<;>(intro h;first|exact Zx|conv=>whnf))))
      all_goals first|exact Zrz|(exfalso; omega)
  · obtain rfl : k = outs.length := by omega
    have hE : proE ss r b ins outs = 0 := by rw [hE0, if_neg (by simpa using hz)]
    rw [hE, if_pos rfl] at hS
    rw [hS, hE]
    (repeat' (first|((first|refine Zg ?_|refine Zt dr56 ?_|refine Zn ?_|refine Zc ?_|refine Zu fun b hb=>?_|refine Zy h7 ?_|refine Zz h7 ?_);conv=>whnf)|(refine Zb ?_ ?_<;>(intro h;first|exact Zx|conv=>whnf))))
    refine ExCall.pub 337 rfl ?_
    conv => whnf
    (repeat' (first|((first|refine Zg ?_|refine Zt dr56 ?_|refine Zn ?_|refine Zc ?_|refine Zu fun b hb=>?_|refine Zq h8 ?_|refine Zw h8 ?_);conv=>whnf)|(refine Zb ?_ ?_<;>(intro h;first|exact Zx|conv=>whnf))))
    all_goals exact Zrz

end Go.Proofs.YtacpjihbbmoolaaGreatDoor
