/- yield's stock: sorted by ID, without some lots. -/
import Derived.Test.YtacpjihbbmoolaaGreatB5
import Derived.Test.YtacpjihbbmoolaaGreatVu
namespace Go.Proofs.YtacpjihbbmoolaaGreat
open Go Go.RowKit
set_option linter.unusedVariables false
set_option linter.unusedSimpArgs false
set_option maxRecDepth 100000
set_option maxHeartbeats 4000000
attribute [local irreducible] ResLe AVle ArgLe ArgP EntLe Dle ResH ArgQ

theorem ysort1_d (x y : Lt) : ACalls XD 67 [ltA x, ltA y] (iA (cmpI x.id y.id)) := by
  refine ACalls.of (n := Tryz.f67.ntmps) XD_ok Tryz.func67 rfl (by kernel_rfl) rfl rfl (Nat.le_of_ble_eq_true rfl) ?_
  (repeat' (first | ((first | refine Zg ?_ | refine Zn ?_ | refine Zc ?_ | refine Zu fun b hb => ?_ | refine Zy (cmp_d _ _) ?_); conv => whnf) | (refine Zb (fun h => ?_) (fun h => ?_) <;> first | exact Zx | (conv => whnf))))
  all_goals exact Zrz
theorem ysortI_h (us : List Lt) (hn1 : 0 < us.length) (hn : us.length ≤ 100000) :
    HC XX 66 [.own 5000 5 0 us.length, .dat (.val (.func (.func 67) #[] #[]))] [(5000, .row 39 5 us.length (rowF ltE us))] (.tup []) [(5000, .row 39 5 us.length fun i j => rowF ltE us (sortAt us.length (cfI us) i) j)] none :=
  (sort_p (X := XX) (cf := cfI us) (F := rowF ltE us) (cc := []) rfl ⟨_, Tryz.func66, rfl, rfl⟩
      (fun enc cfx cb gb cap d w hek h1 hO hc hh hb hs => stk_all 5 _ Tryz.sizeOf39 (enters_of Tryz.func67 (by kernel_rfl) rfl) enc cfx cb gb cap d w hek h1 hO hc hh hb hs)
      (cfI_swo us) (by omega) (by omega) (by omega) (fun i j hi hj => ysort1_d (us.getD i default) (us.getD j default))).argsLe ⟨AVle.refl _, AVle.clo0 _, trivial⟩
theorem sortLt_at (us : List Lt) {i : Nat} (hi : i < us.length) : (sortLt us).getD i default = us.getD (sortAt us.length (cfI us) i) default := by
  unfold sortLt
  rw [List.getD_eq_getElem?_getD, List.getElem?_map, List.getElem?_range hi]
  rfl
theorem sorted_h (us : List Lt) (hn1 : 0 < us.length) (hn : us.length ≤ 100000) :
    HC XX 28 [.own 5000 5 0 us.length] [(5000, .row 39 5 us.length (rowF ltE us))] (.own 5000 5 0 us.length) [(5000, .row 39 5 us.length (rowF ltE (sortLt us)))] none := by
  have hs := ysortI_h us hn1 hn
  refine HC.of (n := Tryz.f28.ntmps) XX_ok Tryz.func28 rfl (by kernel_rfl) rfl rfl (Nat.le_of_ble_eq_true rfl) rfl rfl ?_
  (repeat' (first | ((first | refine Zg ?_ | refine Zn ?_ | refine Zc ?_ | refine Zu fun b hb => ?_ | refine ExCall.h [(5000, 5000)] rfl hs rfl ⟨rfl, trivial⟩ ?_); conv => whnf) | (refine Zb (fun h => ?_) (fun h => ?_) <;> first | exact Zx | (conv => whnf))))
  all_goals (conv => whnf); (repeat' (first | exact Zhq | refine ResH.agg ?_ | refine ⟨_, rfl, EntLe.blk ?_, rfl⟩ | refine ⟨_, rfl, EntLe.row (by first | rfl | omega) ?_, rfl⟩ | refine And.intro ?_ ?_ | ((conv => whnf); first | exact Zhq | refine ResH.agg ?_)))
  all_goals refine fun i hi j hj => ?_
  all_goals have e := sortLt_at us hi
  all_goals unfold rowF
  all_goals rw [e]
  all_goals exact Dle.refl _
theorem without_h (ss : List Lt) (ids : List Int) (hS : ss.length ≤ 1000) (hI : ids.length ≤ 1000000) (hU : ∀ x ∈ ss, x.us.length ≤ 1000000) :
    HC XX 27 [.dat (ltD ss), .dat (iD ids)] [] (.own 27 5 0 (keepI ss ids).length) [(27, .row 39 5 (keepI ss ids).length (rowF ltE (keepI ss ids)))] (some 27) := by
  have hk0 : keepI (ss.take 0) ids = [] := rfl
  refine HC.of (n := Tryz.f27.ntmps) XX_ok Tryz.func27 rfl (by kernel_rfl) rfl rfl (Nat.le_of_ble_eq_true rfl) rfl rfl ?_
  (repeat' (first | ((first | refine Zg ?_ | refine Zn ?_ | refine Zc ?_ | refine Zu fun b hb => ?_); conv => whnf) | (refine Zb (fun h => ?_) (fun h => ?_) <;> first | exact Zx | (conv => whnf))))
  refine (W.adopt 5 27 39 5 (rowF ltE []) rfl rfl rfl rfl ?_)
  conv => whnf
  refine (W.loopK (ι := Nat) [1, 8, 9] [] (fun k => [(10, iA k), (5, .own 27 5 0 (keepI (ss.take k) ids).length)]) (fun k => [(27, .row 39 5 (keepI (ss.take k) ids).length (rowF ltE (keepI (ss.take k) ids)))]) (fun k => k ≤ ss.length) (fun k => ss.length - k) 0 (Nat.zero_le _) ?_ ?_ ?_)
  · exact Yz
  · exact Yz
  conv => whnf
  intro k hk
  have hb := keep_len (ss.take k) ids
  have hb2 : (ss.take k).length ≤ ss.length := List.length_take_le' ..
  by_cases hk' : k < ss.length
  · have hs := keep_snoc ss ids k hk'
    have hc := contains_t ids (ss.getD k default).id hI
    have hd := clone_t (ss.getD k default).us (hU _ (getD_in hk'))
    (repeat' (first | ((first | refine Zg ?_ | refine Zn ?_ | refine Zc ?_ | refine Zu fun b hb => ?_); conv => whnf) | (refine Zb (fun h => ?_) (fun h => ?_) <;> first | exact Zx | (conv => whnf))))
    all_goals (try dsimp only [Int.toNat_natCast] at *)
    (repeat' (first | ((first | refine Zg ?_ | refine Zn ?_ | refine Zc ?_ | refine Zu fun b hb => ?_ | refine Zy hc ?_ | refine Zy hd ?_); conv => whnf) | (refine Zb (fun h => ?_) (fun h => ?_) <;> first | exact Zx | (conv => whnf))))
    · have hp : (ss.getD k default).id ∉ ids := by simp_all
      rw [if_neg hp] at hs
      refine ⟨k + 1, by omega, by omega, ?_, ?_, ?_, ?_⟩
      all_goals (repeat' (first | exact Yq | exact Yi (by first | rfl | (rw [hs]; simp; done) | omega) | exact Yo (by first | rfl | (rw [hs]; simp; done) | omega) | exact Ye (by first | rfl | (rw [hs]; simp; done) | omega) | refine ⟨_, rfl, Yb ?_, rfl⟩ | refine ⟨_, rfl, Yw (by first | rfl | (rw [hs]; simp; done) | omega) ?_, rfl⟩ | refine And.intro ?_ ?_))
      rw [hs]
      refine rowF_snoc rfl fun j hj => ?_
      rcases j with _ | _ | _ | _ | _ | j
      all_goals first | exact Dle.refl _ | omega
    · have hp : (ss.getD k default).id ∈ ids := by simp_all
      rw [if_pos hp] at hs
      refine ⟨k + 1, by omega, by omega, ?_, ?_, ?_, ?_⟩
      all_goals (repeat' (first | exact Yq | exact Yi (by first | rfl | (rw [hs]; done) | omega) | exact Yo (by first | rfl | (rw [hs]; done) | omega) | exact Ye (by first | rfl | (rw [hs]; done) | omega) | refine ⟨_, rfl, Yb ?_, rfl⟩ | refine ⟨_, rfl, Yw (by first | rfl | (rw [hs]; done) | omega) ?_, rfl⟩ | refine And.intro ?_ ?_))
      rw [hs]
      exact fun _ _ _ _ => Dle.refl _
  · obtain rfl : k = ss.length := by omega
    rw [List.take_length] at *
    (repeat' (first | ((first | refine Zg ?_ | refine Zn ?_ | refine Zc ?_ | refine Zu fun b hb => ?_); conv => whnf) | (refine Zb (fun h => ?_) (fun h => ?_) <;> first | exact Zx | (conv => whnf))))
    all_goals (conv => whnf); (repeat' (first | exact Zhq | refine ResH.agg ?_ | refine ⟨_, rfl, EntLe.blk ?_, rfl⟩ | refine ⟨_, rfl, EntLe.row (by first | rfl | omega) ?_, rfl⟩ | refine And.intro ?_ ?_ | ((conv => whnf); first | exact Zhq | refine ResH.agg ?_)))
end Go.Proofs.YtacpjihbbmoolaaGreat
