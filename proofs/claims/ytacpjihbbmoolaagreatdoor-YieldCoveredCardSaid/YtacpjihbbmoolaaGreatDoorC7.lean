/- A part of a sequence of units, by the reference. -/
import Derived.Test.YtacpjihbbmoolaaGreatDoorC6

namespace Go.Proofs.YtacpjihbbmoolaaGreatDoor
open Go Go.RowKit
set_option linter.unusedVariables false
set_option linter.unusedSimpArgs false
set_option maxRecDepth 100000
set_option maxHeartbeats 4000000
attribute [local irreducible] ResLe AVle ArgLe ArgP EntLe Dle ResH ArgQ

def btA (us : List Sl) (f : Int) (k : Nat) : Int := if 0 > f - cnt (us.take k) then 0 else f - cnt (us.take k)
def btB (us : List Sl) (t : Int) (k : Nat) : Int := if (us.getD k default).e - (us.getD k default).s < t - cnt (us.take k) then (us.getD k default).e - (us.getD k default).s else t - cnt (us.take k)
def pcAt (us : List Sl) (f t : Int) (k : Nat) : List Sl := if btA us f k < btB us t k then [⟨(us.getD k default).m, (us.getD k default).s + btA us f k, (us.getD k default).s + btB us t k⟩] else []
def pcs (us : List Sl) (f t : Int) (k : Nat) : List Sl := (List.range k).flatMap (pcAt us f t)
def btwR (us : List Sl) (f t : Int) (k : Nat) : List Sl := (pcs us f t k).foldl extR []
def btwL (us : List Sl) (f t : Int) : List Sl := btwR us f t us.length
theorem pcs_succ (us : List Sl) (f t : Int) (k : Nat) : pcs us f t (k + 1) = pcs us f t k ++ pcAt us f t k := by unfold pcs; rw [List.range_succ, List.flatMap_append]; simp
theorem btw_no {us : List Sl} {f t : Int} {k : Nat} (h : ¬ btA us f k < btB us t k) : btwR us f t (k + 1) = btwR us f t k := by
  unfold btwR
  rw [pcs_succ]
  unfold pcAt
  rw [if_neg h, List.append_nil]
theorem btw_yes {us : List Sl} {f t : Int} {k : Nat} (h : btA us f k < btB us t k) : btwR us f t (k + 1) = extR (btwR us f t k) ⟨(us.getD k default).m, (us.getD k default).s + btA us f k, (us.getD k default).s + btB us t k⟩ := by
  unfold btwR
  rw [pcs_succ]
  unfold pcAt
  rw [if_pos h, List.foldl_append]
  rfl
theorem btw_len (us : List Sl) (f t : Int) : ∀ k, (btwR us f t k).length ≤ k := by
  intro k
  induction k with
  | zero => simp [btwR, pcs]
  | succ k ih =>
    by_cases h : btA us f k < btB us t k
    · rw [btw_yes h]
      have := extR_len (btwR us f t k) ⟨(us.getD k default).m, (us.getD k default).s + btA us f k, (us.getD k default).s + btB us t k⟩
      omega
    · rw [btw_no h]; omega
theorem between_t (us : List Sl) (f t : Int) (hv : ∀ y ∈ us, slOk y) (hL : us.length ≤ 100000) (hf : 0 ≤ f ∧ f ≤ 100000000000000) (ht : 0 ≤ t ∧ t ≤ 100000000000000) : ACalls XX 101 [.dat (slD us), iA f, iA t] (.dat (slD (btwL us f t))) := by
  have h0 : btwR us f t 0 = [] := rfl
  refine ACalls.of (n := Tryz.f101.ntmps) XX_ok Tryz.func101 rfl (by kernel_rfl) rfl rfl (Nat.le_of_ble_eq_true rfl) ?_
  (repeat' (first|((first|refine Zg ?_|refine Zt dr101 ?_|refine Zn ?_|refine Zc ?_|refine Zu fun b hb=>?_);conv=>whnf)|(refine Zb ?_ ?_<;>(intro h;first|exact Zx|conv=>whnf))))
  refine (W.adopt 7 103 63 3 (rowF slE []) rfl rfl rfl rfl ?_)
  conv => whnf
  refine (W.loopK (ι := Nat) [0, 1, 2] [] (fun k => [(9, iA k), (8, iA (cnt (us.take k))), (7, .own 103 3 0 (btwR us f t k).length)]) (fun k => [(103, .row 63 3 (btwR us f t k).length (rowF slE (btwR us f t k)))]) (fun k => k ≤ us.length) (fun k => us.length - k) 0 (Nat.zero_le _) ?_ ?_ ?_)
  · exact Yz
  · exact Yz
  conv => whnf
  intro k hk
  have hr := cnt_rng hv k
  have hbl := btw_len us f t k
  by_cases hk' : k < us.length
  · have hx := hv _ (getD_in hk')
    have hct := cnt_take us k hk'
    obtain ⟨a, ha⟩ : ∃ a, (if 0 > f - cnt (us.take k) then 0 else f - cnt (us.take k)) = a := ⟨_, rfl⟩
    obtain ⟨b, hb⟩ : ∃ b, (if (us.getD k default).e - (us.getD k default).s < t - cnt (us.take k) then (us.getD k default).e - (us.getD k default).s else t - cnt (us.take k)) = b := ⟨_, rfl⟩
    have hno := btw_no (us := us) (f := f) (t := t) (k := k)
    have hyes := btw_yes (us := us) (f := f) (t := t) (k := k)
    unfold btA btB at hno hyes
    rw [ha, hb] at hno hyes
    have ha0 : 0 ≤ a ∧ a ≤ 100000000000000 := by rw [← ha]; split <;> omega
    have hb0 : b ≤ (us.getD k default).e - (us.getD k default).s ∧ -1000000000000000 ≤ b := by rw [← hb]; unfold slOk at hx; split <;> omega
    unfold slOk at hx
    unfold lenS at hct
    generalize btwR us f t k = O at *
    have hn : ((O.length : Int) - 1).toNat = O.length - 1 := by omega
    (repeat' (first|((first|refine Zg ?_|refine Zt dr101 ?_|refine Zn ?_|refine Zc ?_|refine Zu fun b hb=>?_);conv=>whnf)|(refine Zb ?_ ?_<;>(intro h;first|exact Zx|conv=>whnf))))
    all_goals (try simp only [Int.toNat_natCast, ha, hb, hn, Nat.zero_add] at *)
    (repeat' (first|((first|refine Zg ?_|refine Zt dr101 ?_|refine Zn ?_|refine Zc ?_|refine Zu fun b hb=>?_);conv=>whnf)|(refine Zb ?_ ?_<;>(intro h;first|exact Zx|conv=>whnf))))
    all_goals (try simp only [Int.toNat_natCast, ha, hb, hn, Nat.zero_add] at *)
    all_goals first
      | (have e := hno (by omega)
         refine ⟨k + 1, by omega, by omega, ?_, ?_, ?_, ?_⟩
         all_goals (repeat' (first|exact Yq|exact Yi (by first|rfl|omega|(rw [e]; done))|exact Yo (by first|rfl|omega|(rw [e]; done))|exact Ye (by first|rfl|omega|(rw [e]; done))|refine ⟨_, rfl, Yb ?_, rfl⟩|refine ⟨_, rfl, Yw (by first|rfl|omega|(rw [e]; done)) ?_, rfl⟩|refine And.intro ?_ ?_))
         all_goals (rw [e]; exact fun _ _ _ _ => Dle.refl _)
         done)
      | (have hg : glues O ⟨(us.getD k default).m, (us.getD k default).s + a, (us.getD k default).s + b⟩ := ⟨by omega, by assumption, by assumption⟩
         have e := hyes (by omega)
         have hrow := glues_row hg _ rfl
         have hlen := extR_glue hg
         rw [← e] at hrow hlen
         refine ⟨k + 1, by omega, by omega, ?_, ?_, ?_, ?_⟩
         all_goals (repeat' (first|exact Yq|exact Yi (by first|rfl|exact hlen.symm|omega)|exact Yo (by first|rfl|exact hlen.symm|omega)|exact Ye (by first|rfl|exact hlen.symm|omega)|refine ⟨_, rfl, Yb ?_, rfl⟩|refine ⟨_, rfl, Yw (by first|rfl|exact hlen.symm|omega) ?_, rfl⟩|refine And.intro ?_ ?_))
         exact hrow
         done)
      | (have hg : ¬ glues O ⟨(us.getD k default).m, (us.getD k default).s + a, (us.getD k default).s + b⟩ := fun hg => by
           unfold glues lastS at hg
           first|omega|(simp_all; done)|(simp_all; omega)
         have e := (hyes (by omega)).trans (extR_snoc hg)
         refine ⟨k + 1, by omega, by omega, ?_, ?_, ?_, ?_⟩
         all_goals (repeat' (first|exact Yq|exact Yi (by first|rfl|(rw [e]; simp; done)|omega)|exact Yo (by first|rfl|(rw [e]; simp; done)|omega)|exact Ye (by first|rfl|(rw [e]; simp; done)|omega)|refine ⟨_, rfl, Yb ?_, rfl⟩|refine ⟨_, rfl, Yw (by first|rfl|(rw [e]; simp; done)|omega) ?_, rfl⟩|refine And.intro ?_ ?_))
         all_goals (rw [e]; refine rowF_snoc rfl fun j hj => ?_)
         all_goals (rcases j with _|_|_|j <;> first|exact Dle.refl _|omega)
         done)
      | skip
  · obtain rfl : k = us.length := by omega
    (repeat' (first|((first|refine Zg ?_|refine Zt dr101 ?_|refine Zn ?_|refine Zc ?_|refine Zu fun b hb=>?_);conv=>whnf)|(refine Zb ?_ ?_<;>(intro h;first|exact Zx|conv=>whnf))))
    all_goals exact Zrz

end Go.Proofs.YtacpjihbbmoolaaGreatDoor
