/- Units taken in proportion; the law that each unit is either taken or left. -/
import Derived.Test.YtojkeidijdcfoaaGreatDoorGB
import Derived.Test.YtojkeidijdcfoaaGreatDoorB12
namespace Go.Proofs.YtojkeidijdcfoaaGreatDoor
open Go Go.RowKit
set_option linter.unusedVariables false
set_option linter.unusedSimpArgs false
set_option maxRecDepth 100000
set_option maxHeartbeats 4000000
attribute [local irreducible] ResLe AVle ArgLe ArgP EntLe Dle ResH ArgQ

theorem divA3 (us : List Sl) (u : Int) : divA 3 us u = cutA us (shareL u (lensL us)) := by unfold divA ksM; rw [if_neg (by decide), if_pos rfl]
theorem divB3 (us : List Sl) (u : Int) : divB 3 us u = cutB us (shareL u (lensL us)) := by unfold divB ksM; rw [if_neg (by decide), if_pos rfl]
theorem divOk3 : DivOk 3 := fun us u hv hL hu => by
  have hc := cntOk hv (by omega)
  have hc2 := cnt_le hv
  obtain ⟨hf, _⟩ := ksM_ok (m := 3) hv hu
  have e3 : ksM 3 us u = shareL u (lensL us) := by unfold ksM; rw [if_pos rfl]
  rw [e3] at hf
  have hll : (lensL us).length = us.length := by simp [lensL]
  have hsl : (shareL u (lensL us)).length = us.length := by simp [shareL, lensL]
  have h1 := (share_t u (lensL us) (lens_ok hv) (by rw [hll]; omega) (by omega) (fun he => by
    have : us.length = 0 := by rw [← hll, he]; rfl
    have : us = [] := List.length_eq_zero_iff.1 this
    subst this
    simp [cnt] at hu
    omega)).args2 (a := iA u) (b := .dat (.lst 1 us.length (rowF iE (lensL us)))) (AVle.refl _) (AVle.dat (Dle.lst hll.symm fun _ _ _ _ => Dle.refl _))
  have h2 := lcut_t us (shareL u (lensL us)) hv (by omega) hf
  rw [divA3, divB3]
  obtain ⟨F, hF⟩ : ∃ F : Nat → Int, F = fun i => (lensL us).getD i 0 := ⟨_, rfl⟩
  have hFk : ∀ k, k < us.length → F k = (us.getD k default).e - (us.getD k default).s := fun k hk => by
    rw [hF]
    simp [lensL, hk, lenS]
  have hfull : fillL F us.length us.length = lensL us := by
    have e := map_getD0 (lensL us)
    rw [hll] at e
    rw [fillL_full, hF, e]
  refine ACalls.of (n := Tryz.f74.ntmps) XX_ok Tryz.func74 rfl (by kernel_rfl) rfl rfl (Nat.le_of_ble_eq_true rfl) ?_
  (repeat' (first | refine Zs ?_ | refine Zk ?_ | ((first | refine Za ?_ | refine Zr ?_ | refine Zp ?_ | refine Ze ?_ | refine Zd ?_ | refine Zn ?_ | refine Zc ?_ | refine UnK.mk (fun b hb => ?_)); conv => whnf) | (refine Zb (fun h => ?_) (fun h => ?_) <;> first | exact Zx | (conv => whnf))))
  all_goals (try dsimp only [Int.toNat_natCast] at *)
  refine (W.loopK (ι := Nat) [0, 1, 10, 36, 37] [] (fun k => [(38, iA k)]) (fun k => [(35, .row 3 1 us.length (rowF iE (fillL F us.length k)))]) (fun k => k ≤ us.length) (fun k => us.length - k) 0 (Nat.zero_le _) ?_ ?_ ?_)
  · exact Yz
  · (repeat' (first | exact trivial | exact Yr | exact Yi (by first | rfl | omega) | exact Yo (by first | rfl | omega) | exact Yd | exact Yn | exact Ye (by first | rfl | omega) | exact ⟨_, rfl, Yf, rfl⟩ | refine ⟨_, rfl, Yb ?_, rfl⟩ | refine ⟨_, rfl, Yw (by first | rfl | omega) ?_, rfl⟩ | refine And.intro ?_ ?_))
    exact fill_zero fun i j hj => by obtain rfl : j = 0 := by omega
                                     rfl
  conv => whnf
  intro k hk
  by_cases hk' : k < us.length
  · have hx := hv _ (getD_in hk')
    unfold slOk at hx
    (repeat' (first | refine Zs ?_ | refine Zk ?_ | ((first | refine Za ?_ | refine Zr ?_ | refine Zp ?_ | refine Ze ?_ | refine Zd ?_ | refine Zn ?_ | refine Zc ?_ | refine UnK.mk (fun b hb => ?_)); conv => whnf) | (refine Zb (fun h => ?_) (fun h => ?_) <;> first | exact Zx | (conv => whnf))))
    all_goals (try dsimp only [Int.toNat_natCast] at *)
    (repeat' (first | refine Zs ?_ | refine Zk ?_ | ((first | refine Za ?_ | refine Zr ?_ | refine Zp ?_ | refine Ze ?_ | refine Zd ?_ | refine Zn ?_ | refine Zc ?_ | refine UnK.mk (fun b hb => ?_)); conv => whnf) | (refine Zb (fun h => ?_) (fun h => ?_) <;> first | exact Zx | (conv => whnf))))
    refine ⟨k + 1, by omega, by omega, ?_, ?_, ?_, ?_⟩ <;> (repeat' (first | exact trivial | exact Yr | exact Yi (by first | rfl | omega) | exact Yo (by first | rfl | omega) | exact Yd | exact Yn | exact Ye (by first | rfl | omega) | exact ⟨_, rfl, Yf, rfl⟩ | refine ⟨_, rfl, Yb ?_, rfl⟩ | refine ⟨_, rfl, Yw (by first | rfl | omega) ?_, rfl⟩ | refine And.intro ?_ ?_))
    simp only [Nat.zero_add, Int.toNat_natCast]
    exact fill_row (hFk k hk').symm
  · obtain rfl : k = us.length := by omega
    rw [hfull]
    (repeat' (first | refine Zs ?_ | refine Zk ?_ | ((first | refine Za ?_ | refine Zr ?_ | refine Zp ?_ | refine Ze ?_ | refine Zd ?_ | refine Zn ?_ | refine Zc ?_ | refine UnK.mk (fun b hb => ?_)); conv => whnf) | (refine Zb (fun h => ?_) (fun h => ?_) <;> first | exact Zx | (conv => whnf))))
    refine ExCall.pub 35 rfl ?_
    conv => whnf
    (repeat' (first | refine Zs ?_ | refine Zk ?_ | ((first | refine Za ?_ | refine Zr ?_ | refine Zp ?_ | refine Ze ?_ | refine Zd ?_ | refine Zn ?_ | refine Zc ?_ | refine UnK.mk (fun b hb => ?_) | refine Zq h1 ?_ | refine Zy h2 ?_); conv => whnf) | (refine Zb (fun h => ?_) (fun h => ?_) <;> first | exact Zx | (conv => whnf))))
    all_goals exact Zrz
theorem divAny {m : Int} (h : mOk m) : DivOk m := by
  rcases h with rfl | rfl | rfl
  · exact divOk1
  · exact divOk2
  · exact divOk3

end Go.Proofs.YtojkeidijdcfoaaGreatDoor
