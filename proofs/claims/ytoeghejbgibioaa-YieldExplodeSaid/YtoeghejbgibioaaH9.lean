/- Recipes of a mill: the walk. -/
import Derived.Test.YtoeghejbgibioaaH8
namespace Go.Proofs.Ytoeghejbgibioaa
open Go Go.RowKit
set_option linter.unusedVariables false
set_option linter.unusedSimpArgs false
set_option maxRecDepth 100000
set_option maxHeartbeats 4000000
attribute [local irreducible] ResLe AVle ArgLe ArgP EntLe Dle ResH ArgQ strEq strLt

def drM : List (Nat × (List Nat × List (Option Nat × Option Nat))) := [(10, [0, 1, 0, 0, 8, 28, 60, 0, 128, 384, 1020, 2044, 4095, 8191, 16383], [(some 45, none), (some 46, none), (some 47, none), (some 48, none), (some 49, none), (some 50, none), (some 51, none), (some 52, none), (some 53, some 14), (some 54, none), (some 55, none), (some 56, some 56), (some 57, some 39), (some 58, none), (none, some 8)]),
  (11, [0, 1, 0, 4, 12, 31, 63, 127], [(some 59, none), (some 60, none), (some 61, none), (some 62, some 14), (some 63, some 63), (some 64, some 40), (some 65, none), (none, some 8)])]
theorem mill_t (l : List Int) (hl : l.length ≤ 9223372036854775807) : ∃ rs, (∃ L s, MlOk L s ∧ rs = s.2.2) ∧ ACalls XX 13 [.dat (ilst l)] (.dat (rcD rs)) := by
  obtain ⟨L, hLe⟩ : ∃ L, L = l.take 80 := ⟨_, rfl⟩
  have hL : L.length ≤ 80 := by rw [hLe, List.length_take]; omega
  have h0 : MlOk L (0, 1, []) := ⟨Nat.zero_le _, by simp, by simp, by simp, fun r hr => (by cases hr), fun i hi => absurd hi (by simp)⟩
  obtain ⟨t, ht, hR⟩ := mlR_ok L L.length (0, 1, []) h0
  refine ⟨t.2.2, ⟨L, t, ht, rfl⟩, ?_⟩
  rw [← hR]
  clear ht hR
  obtain ⟨R, hR⟩ : ∃ R, mlR L L.length (0, 1, []) = R := ⟨_, rfl⟩
  rw [hR]
  have kc := cut_t l 80 (by decide) hl
  rw [show (80 : Int).toNat = 80 from rfl, ← hLe] at kc
  clear hLe
  have hml : mcs.length = 8 := rfl
  refine ACalls.of (n := Try.f13.ntmps) XX_ok Try.func13 rfl (by kernel_rfl) rfl rfl (Nat.le_of_ble_eq_true rfl) ?_
  (repeat' (first | refine Zs ?_ | refine Zk ?_ | ((first | refine Za ?_ | refine Zr ?_ | refine Zp ?_ | refine Ze ?_ | refine Zd ?_ | refine W.drawT dr13 rfl mixed rfl ?_ | refine Zn ?_ | refine Zc ?_ | refine UnK.mk (fun b hb => ?_) | refine Zy kc ?_ | refine Zz kc ?_); conv => whnf) | (refine Zb (fun h => ?_) (fun h => ?_) <;> first | exact Zx | (conv => whnf))))
  refine (W.adopt 5 113 25 4 (rowF rcE []) rfl rfl rfl rfl ?_); conv => whnf
  refine W.pubD 4 15 rfl rfl ?_
  conv => whnf
  refine (W.loopK (ι := Nat × MS) [3] [] (fun s => [(6, iA s.2.2.1), (4, .dat (bsD mcs)), (5, .own 113 4 0 s.2.2.2.length)]) (fun s => [(14, srcE L s.2.1), (113, .row 25 4 s.2.2.2.length (rowF rcE s.2.2.2))]) (fun s => mlR L s.1 s.2 = R ∧ MlOk L s.2 ∧ L.length ≤ s.2.1 + s.1) (fun s => s.1) (L.length, 0, 1, []) ⟨hR, h0, by simp⟩ ?_ ?_ ?_)
  · (repeat' (first | exact trivial | exact Yr | exact Yi (by first | rfl | omega) | exact Yo (by first | rfl | omega) | exact Yd | exact Yn | exact Ye (by first | rfl | omega) | exact ⟨_, rfl, Yf, rfl⟩ | refine ⟨_, rfl, Yb ?_, rfl⟩ | refine ⟨_, rfl, Yw (by first | rfl | omega) ?_, rfl⟩ | refine And.intro ?_ ?_))
    refine AVle.dat (Dle.lst rfl fun i hi j hj => ?_)
    obtain rfl : j = 0 := by omega
    rcases i with _ | _ | _ | _ | _ | _ | _ | _ | i
    all_goals first | exact Dle.refl _ | omega
  · exact Yz
  conv => whnf
  intro ⟨m, i, id, us⟩ ⟨p1, p2, p3⟩
  dsimp only at p1 p2 p3 ⊢
  have hlt := left_h L i
  have hul := p2.len
  have hid := p2.id1
  have hid2 := p2.id2
  have hi := p2.i
  dsimp only at hul hid hid2 hi
  by_cases hc : i < L.length ∧ us.length < 8
  rotate_left
  · have p1' : us = R := by
      cases m with
      | zero => exact p1
      | succ m =>
        unfold mlR at p1
        rw [if_neg (by exact hc)] at p1
        exact p1
    subst p1'
    by_cases hi' : i < L.length
    · rw [decide_eq_true hi'] at hlt
      (repeat' (first | refine Zs ?_ | refine Zk ?_ | ((first | refine Za ?_ | refine Zr ?_ | refine Zp ?_ | refine Ze ?_ | refine Zd ?_ | refine W.drawT dr13 rfl mixed rfl ?_ | refine Zn ?_ | refine Zc ?_ | refine UnK.mk (fun b hb => ?_) | refine ExCall.h [(5000, 14)] rfl hlt rfl ⟨rfl, trivial⟩ ?_ | refine CallK.h [(5000, 14)] rfl hlt rfl rfl ⟨rfl, trivial⟩ rfl rfl ?_); conv => whnf) | (refine Zb (fun h => ?_) (fun h => ?_) <;> first | exact Zx | (conv => whnf))))
      all_goals first | (exfalso; omega) | ((repeat' (first | exact trivial | exact Zm | exact Zl | exact ResLe.row0 rfl | exact Zi (by first | rfl | omega) | exact Zo (h := by first | rfl | omega) | exact ResLe.bo rfl rfl Iff.rfl | refine ResLe.agg ?_ | refine And.intro ?_ ?_ | ((conv => whnf); first | exact Zl | exact ResLe.row0 rfl | exact Zi (by first | rfl | omega) | exact Zo (h := by first | rfl | omega) | exact ResLe.bo rfl rfl Iff.rfl | refine ResLe.agg ?_ | refine And.intro ?_ ?_))); done)
    · rw [decide_eq_false hi'] at hlt
      (repeat' (first | refine Zs ?_ | refine Zk ?_ | ((first | refine Za ?_ | refine Zr ?_ | refine Zp ?_ | refine Ze ?_ | refine Zd ?_ | refine W.drawT dr13 rfl mixed rfl ?_ | refine Zn ?_ | refine Zc ?_ | refine UnK.mk (fun b hb => ?_) | refine ExCall.h [(5000, 14)] rfl hlt rfl ⟨rfl, trivial⟩ ?_ | refine CallK.h [(5000, 14)] rfl hlt rfl rfl ⟨rfl, trivial⟩ rfl rfl ?_); conv => whnf) | (refine Zb (fun h => ?_) (fun h => ?_) <;> first | exact Zx | (conv => whnf))))
      all_goals first | (exfalso; omega) | ((repeat' (first | exact trivial | exact Zm | exact Zl | exact ResLe.row0 rfl | exact Zi (by first | rfl | omega) | exact Zo (h := by first | rfl | omega) | exact ResLe.bo rfl rfl Iff.rfl | refine ResLe.agg ?_ | refine And.intro ?_ ?_ | ((conv => whnf); first | exact Zl | exact ResLe.row0 rfl | exact Zi (by first | rfl | omega) | exact Zo (h := by first | rfl | omega) | exact ResLe.bo rfl rfl Iff.rfl | refine ResLe.agg ?_ | refine And.intro ?_ ?_))); done)
  rw [decide_eq_true hc.1] at hlt
  obtain ⟨m, rfl⟩ : ∃ m', m = m' + 1 := ⟨m - 1, by omega⟩
  unfold mlR at p1
  rw [if_pos (by exact hc)] at p1
  obtain ⟨hst, hge, hgt⟩ := p2.step hc.2
  have hgt := hgt hc.1
  have x0 := nx_rng L i (m := 6) (by decide)
  have x1 := nx_rng L (ni L i) (m := 4) (by decide)
  have x2 := nx_rng L (ni L (ni L i)) (m := 3) (by decide)
  have x3 := nx_rng L (ni L (ni L (ni L i))) (m := 3) (by decide)
  have x4 := nx_rng L (ni L (ni L (ni L (ni L i)))) (m := 2) (by decide)
  have k0 := next_h L i 6 (by omega) (by decide) (by decide)
  have k1 := next_h L (ni L i) 4 (by omega) (by decide) (by decide)
  have k2 := next_h L (ni L (ni L i)) 3 (by omega) (by decide) (by decide)
  have k3 := next_h L (ni L (ni L (ni L i))) 3 (by omega) (by decide) (by decide)
  have k4 := next_h L (ni L (ni L (ni L (ni L i)))) 2 (by omega) (by decide) (by decide)
  (repeat' (first | refine Zs ?_ | refine Zk ?_ | ((first | refine Zas 9 ?_ | refine Zr ?_ | refine Zp ?_ | refine Ze ?_ | refine Zd ?_ | refine W.drawT dr13 rfl mixed rfl ?_ | refine Zn ?_ | refine Zc ?_ | refine UnK.mk (fun b hb => ?_) | refine ExCall.h [(5000, 14)] rfl hlt rfl ⟨rfl, trivial⟩ ?_ | refine CallK.h [(5000, 14)] rfl hlt rfl rfl ⟨rfl, trivial⟩ rfl rfl ?_ | refine ExCall.h [(5000, 14)] rfl k0 rfl ⟨rfl, trivial⟩ ?_ | refine CallK.h [(5000, 14)] rfl k0 rfl rfl ⟨rfl, trivial⟩ rfl rfl ?_ | refine ExCall.h [(5000, 14)] rfl k1 rfl ⟨rfl, trivial⟩ ?_ | refine CallK.h [(5000, 14)] rfl k1 rfl rfl ⟨rfl, trivial⟩ rfl rfl ?_); conv => whnf) | (refine Zb (fun h => ?_) (fun h => ?_) <;> first | exact Zx | (conv => whnf))))
  all_goals first | (exfalso; omega) | skip
  by_cases hd : nx L (ni L (ni L i)) 3 = 0
  · have eO : mlO L i = ([⟨mco (nx L i 6).toNat, 1 + nx L (ni L i) 4⟩, ⟨mco ((nx L i 6).toNat + 1), 1 + nx L (ni L (ni L (ni L i))) 3⟩], [1, nx L (ni L (ni L (ni L (ni L i)))) 2], ni L (ni L (ni L (ni L (ni L i))))) := if_pos hd
    (repeat' (first | refine Zs ?_ | refine Zk ?_ | ((first | refine Za ?_ | refine Zr ?_ | refine Zp ?_ | refine Ze ?_ | refine Zd ?_ | refine Zn ?_ | refine Zc ?_ | refine UnK.mk (fun b hb => ?_) | refine ExCall.h [(5000, 14)] rfl k2 rfl ⟨rfl, trivial⟩ ?_ | refine CallK.h [(5000, 14)] rfl k2 rfl rfl ⟨rfl, trivial⟩ rfl rfl ?_); conv => whnf) | (refine Zb (fun h => ?_) (fun h => ?_) <;> first | exact Zx | (conv => whnf))))
    all_goals first | (exfalso; omega) | skip
    refine W.drawT drM rfl mixed rfl ?_
    conv => whnf
    (repeat' (first | refine Zs ?_ | refine Zk ?_ | ((first | refine Za ?_ | refine Zr ?_ | refine Zp ?_ | refine Ze ?_ | refine Zd ?_ | refine Zn ?_ | refine Zc ?_ | refine UnK.mk (fun b hb => ?_) | refine ExCall.h [(5000, 14)] rfl k3 rfl ⟨rfl, trivial⟩ ?_ | refine CallK.h [(5000, 14)] rfl k3 rfl rfl ⟨rfl, trivial⟩ rfl rfl ?_); conv => whnf) | (refine Zb (fun h => ?_) (fun h => ?_) <;> first | exact Zx | (conv => whnf))))
    refine W.drawT drM rfl mixed rfl ?_
    conv => whnf
    (repeat' (first | refine Zs ?_ | refine Zk ?_ | ((first | refine Zas 12 ?_ | refine Zr ?_ | refine Zp ?_ | refine Ze ?_ | refine Zd ?_ | refine W.drawT dr13 rfl mixed rfl ?_ | refine Zn ?_ | refine Zc ?_ | refine UnK.mk (fun b hb => ?_) | refine ExCall.h [(5000, 14)] rfl k4 rfl ⟨rfl, trivial⟩ ?_ | refine CallK.h [(5000, 14)] rfl k4 rfl rfl ⟨rfl, trivial⟩ rfl rfl ?_); conv => whnf) | (refine Zb (fun h => ?_) (fun h => ?_) <;> first | exact Zx | (conv => whnf))))
    refine (W.weak ⟨[(3, .ptr 14 0), (4, .dat (bsD mcs)), (5, .own 113 4 0 us.length), (6, iA id), (7, iA (nx L i 6)), (8, .ptr 8 0)], [(14, srcE L (mlO L i).2.2), (113, .row 25 4 us.length (rowF rcE us)), (8, .blk 25 [iA id, .dat (.val (.slice none 0 0)), .own 39 2 0 (mlO L i).1.length, .own 40 1 0 (mlO L i).2.1.length]), (39, .row 31 2 (mlO L i).1.length (rowF ndE (mlO L i).1)), (40, .row 3 1 (mlO L i).2.1.length (rowF iE (mlO L i).2.1))]⟩ ?_ ?_ ?_)
    · exact Yz
    · rw [eO]
      (repeat' (first | exact trivial | exact Yr | exact Yi (by first | rfl | omega) | exact Yo (by first | rfl | omega) | exact Yd | exact Yn | exact Ye (by first | rfl | omega) | exact ⟨_, rfl, Yf, rfl⟩ | refine ⟨_, rfl, Yb ?_, rfl⟩ | refine ⟨_, rfl, Yw (by first | rfl | omega) ?_, rfl⟩ | refine And.intro ?_ ?_))
      · intro a ha b hb
        rcases a with _ | _ | a
        · rcases b with _ | _ | b
          all_goals first | exact Dle.refl _ | exact Dle.of_eq rfl | omega
        · rcases b with _ | _ | b
          · exact Dle.of_eq (congrArg (fun n => D.val (Value.string (mcs.getD n default))) (show (nx L i 6 + 1).toNat = (nx L i 6).toNat + 1 by omega))
          · exact Dle.of_eq rfl
          · omega
        · omega
      · intro a ha b hb
        rcases a with _ | _ | a
        all_goals first | (obtain rfl : b = 0 := by omega); exact Dle.of_eq rfl | omega
    conv => whnf
    clear eO hd
    obtain ⟨w1, w2, w3, w4, w5, w6, w7, w8⟩ := mlO_ok L i hi
    have eS : mlS L (i, id, us) = (ni L (mlI L 3 ((mlF L (nx L i 6) (mlO L i).2.2).2, (mlF L (nx L i 6) (mlO L i).2.2).1, [])).1, id + 1 + nx L (mlI L 3 ((mlF L (nx L i 6) (mlO L i).2.2).2, (mlF L (nx L i 6) (mlO L i).2.2).1, [])).1 2, us ++ [⟨id, mlE (mlI L 3 ((mlF L (nx L i 6) (mlO L i).2.2).2, (mlF L (nx L i 6) (mlO L i).2.2).1, [])).2, (mlO L i).1, (mlO L i).2.1⟩]) := rfl
    obtain ⟨s2, hs2⟩ : ∃ s2, mlS L (i, id, us) = s2 := ⟨_, rfl⟩
    rw [hs2] at p1 hst hge hgt eS
    clear hs2 k0 k1 k2 k3 k4 x1 x2 x3 x4
    generalize mlO L i = O at *
    obtain ⟨outs, sc, i5⟩ := O
    dsimp only at *
    generalize nx L i 6 = k at *
    have x5 := nx_rng L i5 (m := 2) (by decide)
    have x6 := nx_rng L (ni L i5) (m := 12) (by decide)
    have x7 := nx_rng L (ni L (ni L i5)) (m := 3) (by decide)
    have k5 := next_h L i5 2 (by omega) (by decide) (by decide)
    have k6 := next_h L (ni L i5) 12 (by omega) (by decide) (by decide)
    have k7 := next_h L (ni L (ni L i5)) 3 (by omega) (by decide) (by decide)
    obtain ⟨f1, f2, f3⟩ := mlF_ok L (k := k) x0.1 i5 w8
    have f4 : (mlF L k i5).1 ≤ 8 := by unfold mlF; split <;> simp only <;> omega
    (repeat' (first | refine Zs ?_ | refine Zk ?_ | ((first | refine Zas 15 ?_ | refine Zr ?_ | refine Zp ?_ | refine Ze ?_ | refine Zd ?_ | refine W.drawT dr13 rfl mixed rfl ?_ | refine Zn ?_ | refine Zc ?_ | refine UnK.mk (fun b hb => ?_) | refine ExCall.h [(5000, 14)] rfl k5 rfl ⟨rfl, trivial⟩ ?_ | refine CallK.h [(5000, 14)] rfl k5 rfl rfl ⟨rfl, trivial⟩ rfl rfl ?_ | refine ExCall.h [(5000, 14)] rfl k6 rfl ⟨rfl, trivial⟩ ?_ | refine CallK.h [(5000, 14)] rfl k6 rfl rfl ⟨rfl, trivial⟩ rfl rfl ?_ | refine ExCall.h [(5000, 14)] rfl k7 rfl ⟨rfl, trivial⟩ ?_ | refine CallK.h [(5000, 14)] rfl k7 rfl rfl ⟨rfl, trivial⟩ rfl rfl ?_); conv => whnf) | (refine Zb (fun h => ?_) (fun h => ?_) <;> first | exact Zx | (conv => whnf))))
    all_goals first | (exfalso; omega) | skip
    · have eF : mlF L k i5 = (nx L (ni L (ni L i5)) 3, ni L (ni L (ni L i5))) := if_pos h
      refine (W.weak ⟨[(3, .ptr 14 0), (4, .dat (bsD mcs)), (5, .own 113 4 0 us.length), (6, iA id), (9, iA (mlF L k i5).1), (8, .ptr 8 0)], [(14, srcE L (mlF L k i5).2), (113, .row 25 4 us.length (rowF rcE us)), (8, .blk 25 [iA id, .dat (.val (.slice none 0 0)), .own 39 2 0 outs.length, .own 40 1 0 sc.length]), (39, .row 31 2 outs.length (rowF ndE outs)), (40, .row 3 1 sc.length (rowF iE sc))]⟩ ?_ ?_ ?_)
      · rw [eF]
        (repeat' (first | exact trivial | exact Yr | exact Yi (by first | rfl | omega) | exact Yo (by first | rfl | omega) | exact Yd | exact Yn | exact Ye (by first | rfl | omega) | exact ⟨_, rfl, Yf, rfl⟩ | refine ⟨_, rfl, Yb ?_, rfl⟩ | refine ⟨_, rfl, Yw (by first | rfl | omega) ?_, rfl⟩ | refine And.intro ?_ ?_))
      · rw [eF]
        (repeat' (first | exact trivial | exact Yr | exact Yi (by first | rfl | omega) | exact Yo (by first | rfl | omega) | exact Yd | exact Yn | exact Ye (by first | rfl | omega) | exact ⟨_, rfl, Yf, rfl⟩ | refine ⟨_, rfl, Yb ?_, rfl⟩ | refine ⟨_, rfl, Yw (by first | rfl | omega) ?_, rfl⟩ | refine And.intro ?_ ?_))
      conv => whnf
      clear eF h
      clear k5 k6 k7 x5 x6 x7
      generalize mlF L k i5 = F at *
      obtain ⟨from1, i6⟩ := F
      dsimp only at *
      obtain ⟨J, hJ⟩ : ∃ J, mlI L 3 (i6, from1, []) = J := ⟨_, rfl⟩
      rw [hJ] at eS
      (repeat' (first | refine Zs ?_ | refine Zk ?_ | ((first | refine Za ?_ | refine Zr ?_ | refine Zp ?_ | refine Ze ?_ | refine Zd ?_ | refine W.drawT dr13 rfl mixed rfl ?_ | refine Zn ?_ | refine Zc ?_ | refine UnK.mk (fun b hb => ?_)); conv => whnf) | (refine Zb (fun h => ?_) (fun h => ?_) <;> first | exact Zx | (conv => whnf))))
      refine (W.adoptB 8 1 101 31 2 (rowF ndE []) rfl rfl rfl rfl rfl rfl ?_); conv => whnf
      refine (W.loopK (ι := Nat × MI) [3, 4, 5, 6, 8] [113, 39, 40] (fun s => [(10, iA s.2.2.1)]) (fun s => [(14, srcE L s.2.1), (8, .blk 25 [iA id, .own 101 2 0 s.2.2.2.length, .own 39 2 0 outs.length, .own 40 1 0 sc.length]), (101, .row 31 2 s.2.2.2.length (rowF ndE s.2.2.2))]) (fun s => mlI L s.1 s.2 = J ∧ s.2.1 ≤ L.length ∧ 0 ≤ s.2.2.1 ∧ s.2.2.1 ≤ 20 ∧ s.2.2.2.length ≤ 3 ∧ 3 ≤ s.2.2.2.length + s.1) (fun s => s.1) (3, i6, from1, []) ⟨hJ, f3, f1, by simp only; omega, by simp, by simp⟩ ?_ ?_ ?_)
      · exact Yz
      · exact Yz
      conv => whnf
      intro ⟨mm, j, p, is⟩ ⟨y1, y2, y3, y4, y5, y6⟩
      dsimp only at y1 y2 y3 y4 y5 y6 ⊢
      by_cases hcj : p < 8 ∧ is.length < 3
      · obtain ⟨mm, rfl⟩ : ∃ m', mm = m' + 1 := ⟨mm - 1, by omega⟩
        unfold mlI at y1
        rw [if_pos (by exact hcj)] at y1
        dsimp only at y1
        have n1 := ni_le L j y2
        have n2 := ni_le L _ n1.2.1
        have n3 := ni_le L _ n2.2.1
        have z1 := sx_rng L j (few := 4) (n := 1000000000) (by decide) (by decide)
        have z2 := nx_rng L (ni L (ni L j)) (m := 3) (by decide)
        have k8 := small_h L j 4 1000000000 (by omega) (by decide) (by decide) (by decide) (by decide)
        have k9 := next_h L (ni L (ni L j)) 3 (by omega) (by decide) (by decide)
        generalize sx L j 4 1000000000 = sv at *
        generalize nx L (ni L (ni L j)) 3 = nv at *
        generalize ni L (ni L (ni L j)) = j3 at *
        generalize ni L (ni L j) = j2 at *
        clear n1 n2 p1 hst eS
        (repeat' (first | refine Zs ?_ | refine Zk ?_ | ((first | refine Za ?_ | refine Zr ?_ | refine Zp ?_ | refine Ze ?_ | refine Zd ?_ | refine W.drawT dr13 rfl mixed rfl ?_ | refine Zn ?_ | refine Zc ?_ | refine UnK.mk (fun b hb => ?_) | refine ExCall.h [(5000, 14)] rfl k8 rfl ⟨rfl, trivial⟩ ?_ | refine CallK.h [(5000, 14)] rfl k8 rfl rfl ⟨rfl, trivial⟩ rfl rfl ?_ | refine ExCall.h [(5000, 14)] rfl k9 rfl ⟨rfl, trivial⟩ ?_ | refine CallK.h [(5000, 14)] rfl k9 rfl rfl ⟨rfl, trivial⟩ rfl rfl ?_); conv => whnf) | (refine Zb (fun h => ?_) (fun h => ?_) <;> first | exact Zx | (conv => whnf))))
        all_goals first | (exfalso; omega) | skip
        refine ⟨(mm, j3, p + 1 + nv, is ++ [⟨mco p.toNat, 1 + sv⟩]), ⟨y1, n3.2.1, by simp only; omega, by simp only; omega, by simp; omega, by simp; omega⟩, by simp only; omega, ?_, ?_, ?_, ?_⟩
        all_goals (try dsimp only)
        all_goals (repeat' (first | exact trivial | exact Yr | exact Yi (by first | rfl | (simp; done) | omega) | exact Yo (by first | rfl | (simp; done) | omega) | exact Yd | exact Yn | exact Ye (by first | rfl | (simp; done) | omega) | exact ⟨_, rfl, Yf, rfl⟩ | refine ⟨_, rfl, Yb ?_, rfl⟩ | refine ⟨_, rfl, Yw (by first | rfl | (simp; done) | omega) ?_, rfl⟩ | refine And.intro ?_ ?_))
        refine rowF_snoc rfl fun b hb => ?_
        rcases b with _ | _ | b
        all_goals first | exact Dle.refl _ | exact Dle.of_eq rfl | omega
      have y1' : J = (j, is) := by
        cases mm with
        | zero => exact y1.symm
        | succ mm =>
          unfold mlI at y1
          rw [if_neg (by exact hcj)] at y1
          exact y1.symm
      subst y1'
      dsimp only at eS
      have k8 := next_h L j 2 (by omega) (by decide) (by decide)
      have z2 := nx_rng L j (m := 2) (by decide)
      clear y1 hJ
      have eS2 : s2.1 = ni L j := by rw [eS]
      have eS3 : s2.2.1 = id + 1 + nx L j 2 := by rw [eS]
      have eS4 : s2.2.2 = us ++ [⟨id, mlE is, outs, sc⟩] := by rw [eS]
      generalize nx L j 2 = nv at *
      clear eS
      by_cases hz : is.length = 0
      · have eE : mlE is = [⟨mc9, 1⟩] := if_pos hz
        (repeat' (first | refine Zs ?_ | refine Zk ?_ | ((first | refine Zas 21 ?_ | refine Zr ?_ | refine Zp ?_ | refine Ze ?_ | refine Zd ?_ | refine W.drawT dr13 rfl mixed rfl ?_ | refine Zn ?_ | refine Zc ?_ | refine UnK.mk (fun b hb => ?_)); conv => whnf) | (refine Zb (fun h => ?_) (fun h => ?_) <;> first | exact Zx | (conv => whnf))))
        all_goals first | (exfalso; omega) | skip
        all_goals (refine W.pubC 8 1 108 rfl rfl rfl rfl ?_; conv => whnf)
        all_goals (refine W.pubC 8 2 39 rfl rfl rfl rfl ?_; conv => whnf)
        all_goals (refine W.pubC 8 3 40 rfl rfl rfl rfl ?_; conv => whnf)
        (repeat' (first | refine Zs ?_ | refine Zk ?_ | ((first | refine Za ?_ | refine Zr ?_ | refine Zp ?_ | refine Ze ?_ | refine Zd ?_ | refine W.drawT dr13 rfl mixed rfl ?_ | refine Zn ?_ | refine Zc ?_ | refine UnK.mk (fun b hb => ?_) | refine ExCall.h [(5000, 14)] rfl k8 rfl ⟨rfl, trivial⟩ ?_ | refine CallK.h [(5000, 14)] rfl k8 rfl rfl ⟨rfl, trivial⟩ rfl rfl ?_); conv => whnf) | (refine Zb (fun h => ?_) (fun h => ?_) <;> first | exact Zx | (conv => whnf))))
        all_goals (refine ⟨(m, s2), ⟨p1, hst, by simp only; omega⟩, by simp only; omega, ?_, ?_, ?_, ?_⟩)
        all_goals (try dsimp only)
        all_goals (try rw [eS2])
        all_goals (try rw [eS3])
        all_goals (try rw [eS4, eE])
        all_goals (repeat' (first | exact trivial | exact Yr | exact Yi (by first | rfl | (simp; done) | omega) | exact Yo (by first | rfl | (simp; done) | omega) | exact Yd | exact Yn | exact Ye (by first | rfl | (simp; done) | omega) | exact ⟨_, rfl, Yf, rfl⟩ | refine ⟨_, rfl, Yb ?_, rfl⟩ | refine ⟨_, rfl, Yw (by first | rfl | (simp; done) | omega) ?_, rfl⟩ | refine And.intro ?_ ?_))
        all_goals (refine rowF_snoc rfl fun b hb => ?_)
        all_goals (rcases b with _ | _ | _ | _ | b)
        all_goals first | exact Dle.refl _ | exact Dle.of_eq rfl | (exact one_nd ⟨mc9, 1⟩) | omega
      · have eE : mlE is = is := if_neg hz
        (repeat' (first | refine Zs ?_ | refine Zk ?_ | ((first | refine Zas 21 ?_ | refine Zr ?_ | refine Zp ?_ | refine Ze ?_ | refine Zd ?_ | refine W.drawT dr13 rfl mixed rfl ?_ | refine Zn ?_ | refine Zc ?_ | refine UnK.mk (fun b hb => ?_)); conv => whnf) | (refine Zb (fun h => ?_) (fun h => ?_) <;> first | exact Zx | (conv => whnf))))
        all_goals first | (exfalso; omega) | skip
        all_goals (refine W.pubC 8 1 101 rfl rfl rfl rfl ?_; conv => whnf)
        all_goals (refine W.pubC 8 2 39 rfl rfl rfl rfl ?_; conv => whnf)
        all_goals (refine W.pubC 8 3 40 rfl rfl rfl rfl ?_; conv => whnf)
        (repeat' (first | refine Zs ?_ | refine Zk ?_ | ((first | refine Za ?_ | refine Zr ?_ | refine Zp ?_ | refine Ze ?_ | refine Zd ?_ | refine W.drawT dr13 rfl mixed rfl ?_ | refine Zn ?_ | refine Zc ?_ | refine UnK.mk (fun b hb => ?_) | refine ExCall.h [(5000, 14)] rfl k8 rfl ⟨rfl, trivial⟩ ?_ | refine CallK.h [(5000, 14)] rfl k8 rfl rfl ⟨rfl, trivial⟩ rfl rfl ?_); conv => whnf) | (refine Zb (fun h => ?_) (fun h => ?_) <;> first | exact Zx | (conv => whnf))))
        all_goals (refine ⟨(m, s2), ⟨p1, hst, by simp only; omega⟩, by simp only; omega, ?_, ?_, ?_, ?_⟩)
        all_goals (try dsimp only)
        all_goals (try rw [eS2])
        all_goals (try rw [eS3])
        all_goals (try rw [eS4, eE])
        all_goals (repeat' (first | exact trivial | exact Yr | exact Yi (by first | rfl | (simp; done) | omega) | exact Yo (by first | rfl | (simp; done) | omega) | exact Yd | exact Yn | exact Ye (by first | rfl | (simp; done) | omega) | exact ⟨_, rfl, Yf, rfl⟩ | refine ⟨_, rfl, Yb ?_, rfl⟩ | refine ⟨_, rfl, Yw (by first | rfl | (simp; done) | omega) ?_, rfl⟩ | refine And.intro ?_ ?_))
        all_goals (refine rowF_snoc rfl fun b hb => ?_)
        all_goals (rcases b with _ | _ | _ | _ | b)
        all_goals first | exact Dle.refl _ | exact Dle.of_eq rfl | omega
    · have eF : mlF L k i5 = (k + 1 + nx L i5 2, ni L (ni L i5)) := if_neg h
      refine (W.weak ⟨[(3, .ptr 14 0), (4, .dat (bsD mcs)), (5, .own 113 4 0 us.length), (6, iA id), (9, iA (mlF L k i5).1), (8, .ptr 8 0)], [(14, srcE L (mlF L k i5).2), (113, .row 25 4 us.length (rowF rcE us)), (8, .blk 25 [iA id, .dat (.val (.slice none 0 0)), .own 39 2 0 outs.length, .own 40 1 0 sc.length]), (39, .row 31 2 outs.length (rowF ndE outs)), (40, .row 3 1 sc.length (rowF iE sc))]⟩ ?_ ?_ ?_)
      · rw [eF]
        (repeat' (first | exact trivial | exact Yr | exact Yi (by first | rfl | omega) | exact Yo (by first | rfl | omega) | exact Yd | exact Yn | exact Ye (by first | rfl | omega) | exact ⟨_, rfl, Yf, rfl⟩ | refine ⟨_, rfl, Yb ?_, rfl⟩ | refine ⟨_, rfl, Yw (by first | rfl | omega) ?_, rfl⟩ | refine And.intro ?_ ?_))
      · rw [eF]
        (repeat' (first | exact trivial | exact Yr | exact Yi (by first | rfl | omega) | exact Yo (by first | rfl | omega) | exact Yd | exact Yn | exact Ye (by first | rfl | omega) | exact ⟨_, rfl, Yf, rfl⟩ | refine ⟨_, rfl, Yb ?_, rfl⟩ | refine ⟨_, rfl, Yw (by first | rfl | omega) ?_, rfl⟩ | refine And.intro ?_ ?_))
      conv => whnf
      clear eF h
      clear k5 k6 k7 x5 x6 x7
      generalize mlF L k i5 = F at *
      obtain ⟨from1, i6⟩ := F
      dsimp only at *
      obtain ⟨J, hJ⟩ : ∃ J, mlI L 3 (i6, from1, []) = J := ⟨_, rfl⟩
      rw [hJ] at eS
      (repeat' (first | refine Zs ?_ | refine Zk ?_ | ((first | refine Za ?_ | refine Zr ?_ | refine Zp ?_ | refine Ze ?_ | refine Zd ?_ | refine W.drawT dr13 rfl mixed rfl ?_ | refine Zn ?_ | refine Zc ?_ | refine UnK.mk (fun b hb => ?_)); conv => whnf) | (refine Zb (fun h => ?_) (fun h => ?_) <;> first | exact Zx | (conv => whnf))))
      refine (W.adoptB 8 1 101 31 2 (rowF ndE []) rfl rfl rfl rfl rfl rfl ?_); conv => whnf
      refine (W.loopK (ι := Nat × MI) [3, 4, 5, 6, 8] [113, 39, 40] (fun s => [(10, iA s.2.2.1)]) (fun s => [(14, srcE L s.2.1), (8, .blk 25 [iA id, .own 101 2 0 s.2.2.2.length, .own 39 2 0 outs.length, .own 40 1 0 sc.length]), (101, .row 31 2 s.2.2.2.length (rowF ndE s.2.2.2))]) (fun s => mlI L s.1 s.2 = J ∧ s.2.1 ≤ L.length ∧ 0 ≤ s.2.2.1 ∧ s.2.2.1 ≤ 20 ∧ s.2.2.2.length ≤ 3 ∧ 3 ≤ s.2.2.2.length + s.1) (fun s => s.1) (3, i6, from1, []) ⟨hJ, f3, f1, by simp only; omega, by simp, by simp⟩ ?_ ?_ ?_)
      · exact Yz
      · exact Yz
      conv => whnf
      intro ⟨mm, j, p, is⟩ ⟨y1, y2, y3, y4, y5, y6⟩
      dsimp only at y1 y2 y3 y4 y5 y6 ⊢
      by_cases hcj : p < 8 ∧ is.length < 3
      · obtain ⟨mm, rfl⟩ : ∃ m', mm = m' + 1 := ⟨mm - 1, by omega⟩
        unfold mlI at y1
        rw [if_pos (by exact hcj)] at y1
        dsimp only at y1
        have n1 := ni_le L j y2
        have n2 := ni_le L _ n1.2.1
        have n3 := ni_le L _ n2.2.1
        have z1 := sx_rng L j (few := 4) (n := 1000000000) (by decide) (by decide)
        have z2 := nx_rng L (ni L (ni L j)) (m := 3) (by decide)
        have k8 := small_h L j 4 1000000000 (by omega) (by decide) (by decide) (by decide) (by decide)
        have k9 := next_h L (ni L (ni L j)) 3 (by omega) (by decide) (by decide)
        generalize sx L j 4 1000000000 = sv at *
        generalize nx L (ni L (ni L j)) 3 = nv at *
        generalize ni L (ni L (ni L j)) = j3 at *
        generalize ni L (ni L j) = j2 at *
        clear n1 n2 p1 hst eS
        (repeat' (first | refine Zs ?_ | refine Zk ?_ | ((first | refine Za ?_ | refine Zr ?_ | refine Zp ?_ | refine Ze ?_ | refine Zd ?_ | refine W.drawT dr13 rfl mixed rfl ?_ | refine Zn ?_ | refine Zc ?_ | refine UnK.mk (fun b hb => ?_) | refine ExCall.h [(5000, 14)] rfl k8 rfl ⟨rfl, trivial⟩ ?_ | refine CallK.h [(5000, 14)] rfl k8 rfl rfl ⟨rfl, trivial⟩ rfl rfl ?_ | refine ExCall.h [(5000, 14)] rfl k9 rfl ⟨rfl, trivial⟩ ?_ | refine CallK.h [(5000, 14)] rfl k9 rfl rfl ⟨rfl, trivial⟩ rfl rfl ?_); conv => whnf) | (refine Zb (fun h => ?_) (fun h => ?_) <;> first | exact Zx | (conv => whnf))))
        all_goals first | (exfalso; omega) | skip
        refine ⟨(mm, j3, p + 1 + nv, is ++ [⟨mco p.toNat, 1 + sv⟩]), ⟨y1, n3.2.1, by simp only; omega, by simp only; omega, by simp; omega, by simp; omega⟩, by simp only; omega, ?_, ?_, ?_, ?_⟩
        all_goals (try dsimp only)
        all_goals (repeat' (first | exact trivial | exact Yr | exact Yi (by first | rfl | (simp; done) | omega) | exact Yo (by first | rfl | (simp; done) | omega) | exact Yd | exact Yn | exact Ye (by first | rfl | (simp; done) | omega) | exact ⟨_, rfl, Yf, rfl⟩ | refine ⟨_, rfl, Yb ?_, rfl⟩ | refine ⟨_, rfl, Yw (by first | rfl | (simp; done) | omega) ?_, rfl⟩ | refine And.intro ?_ ?_))
        refine rowF_snoc rfl fun b hb => ?_
        rcases b with _ | _ | b
        all_goals first | exact Dle.refl _ | exact Dle.of_eq rfl | omega
      have y1' : J = (j, is) := by
        cases mm with
        | zero => exact y1.symm
        | succ mm =>
          unfold mlI at y1
          rw [if_neg (by exact hcj)] at y1
          exact y1.symm
      subst y1'
      dsimp only at eS
      have k8 := next_h L j 2 (by omega) (by decide) (by decide)
      have z2 := nx_rng L j (m := 2) (by decide)
      clear y1 hJ
      have eS2 : s2.1 = ni L j := by rw [eS]
      have eS3 : s2.2.1 = id + 1 + nx L j 2 := by rw [eS]
      have eS4 : s2.2.2 = us ++ [⟨id, mlE is, outs, sc⟩] := by rw [eS]
      generalize nx L j 2 = nv at *
      clear eS
      by_cases hz : is.length = 0
      · have eE : mlE is = [⟨mc9, 1⟩] := if_pos hz
        (repeat' (first | refine Zs ?_ | refine Zk ?_ | ((first | refine Zas 21 ?_ | refine Zr ?_ | refine Zp ?_ | refine Ze ?_ | refine Zd ?_ | refine W.drawT dr13 rfl mixed rfl ?_ | refine Zn ?_ | refine Zc ?_ | refine UnK.mk (fun b hb => ?_)); conv => whnf) | (refine Zb (fun h => ?_) (fun h => ?_) <;> first | exact Zx | (conv => whnf))))
        all_goals first | (exfalso; omega) | skip
        all_goals (refine W.pubC 8 1 108 rfl rfl rfl rfl ?_; conv => whnf)
        all_goals (refine W.pubC 8 2 39 rfl rfl rfl rfl ?_; conv => whnf)
        all_goals (refine W.pubC 8 3 40 rfl rfl rfl rfl ?_; conv => whnf)
        (repeat' (first | refine Zs ?_ | refine Zk ?_ | ((first | refine Za ?_ | refine Zr ?_ | refine Zp ?_ | refine Ze ?_ | refine Zd ?_ | refine W.drawT dr13 rfl mixed rfl ?_ | refine Zn ?_ | refine Zc ?_ | refine UnK.mk (fun b hb => ?_) | refine ExCall.h [(5000, 14)] rfl k8 rfl ⟨rfl, trivial⟩ ?_ | refine CallK.h [(5000, 14)] rfl k8 rfl rfl ⟨rfl, trivial⟩ rfl rfl ?_); conv => whnf) | (refine Zb (fun h => ?_) (fun h => ?_) <;> first | exact Zx | (conv => whnf))))
        all_goals (refine ⟨(m, s2), ⟨p1, hst, by simp only; omega⟩, by simp only; omega, ?_, ?_, ?_, ?_⟩)
        all_goals (try dsimp only)
        all_goals (try rw [eS2])
        all_goals (try rw [eS3])
        all_goals (try rw [eS4, eE])
        all_goals (repeat' (first | exact trivial | exact Yr | exact Yi (by first | rfl | (simp; done) | omega) | exact Yo (by first | rfl | (simp; done) | omega) | exact Yd | exact Yn | exact Ye (by first | rfl | (simp; done) | omega) | exact ⟨_, rfl, Yf, rfl⟩ | refine ⟨_, rfl, Yb ?_, rfl⟩ | refine ⟨_, rfl, Yw (by first | rfl | (simp; done) | omega) ?_, rfl⟩ | refine And.intro ?_ ?_))
        all_goals (refine rowF_snoc rfl fun b hb => ?_)
        all_goals (rcases b with _ | _ | _ | _ | b)
        all_goals first | exact Dle.refl _ | exact Dle.of_eq rfl | (exact one_nd ⟨mc9, 1⟩) | omega
      · have eE : mlE is = is := if_neg hz
        (repeat' (first | refine Zs ?_ | refine Zk ?_ | ((first | refine Zas 21 ?_ | refine Zr ?_ | refine Zp ?_ | refine Ze ?_ | refine Zd ?_ | refine W.drawT dr13 rfl mixed rfl ?_ | refine Zn ?_ | refine Zc ?_ | refine UnK.mk (fun b hb => ?_)); conv => whnf) | (refine Zb (fun h => ?_) (fun h => ?_) <;> first | exact Zx | (conv => whnf))))
        all_goals first | (exfalso; omega) | skip
        all_goals (refine W.pubC 8 1 101 rfl rfl rfl rfl ?_; conv => whnf)
        all_goals (refine W.pubC 8 2 39 rfl rfl rfl rfl ?_; conv => whnf)
        all_goals (refine W.pubC 8 3 40 rfl rfl rfl rfl ?_; conv => whnf)
        (repeat' (first | refine Zs ?_ | refine Zk ?_ | ((first | refine Za ?_ | refine Zr ?_ | refine Zp ?_ | refine Ze ?_ | refine Zd ?_ | refine W.drawT dr13 rfl mixed rfl ?_ | refine Zn ?_ | refine Zc ?_ | refine UnK.mk (fun b hb => ?_) | refine ExCall.h [(5000, 14)] rfl k8 rfl ⟨rfl, trivial⟩ ?_ | refine CallK.h [(5000, 14)] rfl k8 rfl rfl ⟨rfl, trivial⟩ rfl rfl ?_); conv => whnf) | (refine Zb (fun h => ?_) (fun h => ?_) <;> first | exact Zx | (conv => whnf))))
        all_goals (refine ⟨(m, s2), ⟨p1, hst, by simp only; omega⟩, by simp only; omega, ?_, ?_, ?_, ?_⟩)
        all_goals (try dsimp only)
        all_goals (try rw [eS2])
        all_goals (try rw [eS3])
        all_goals (try rw [eS4, eE])
        all_goals (repeat' (first | exact trivial | exact Yr | exact Yi (by first | rfl | (simp; done) | omega) | exact Yo (by first | rfl | (simp; done) | omega) | exact Yd | exact Yn | exact Ye (by first | rfl | (simp; done) | omega) | exact ⟨_, rfl, Yf, rfl⟩ | refine ⟨_, rfl, Yb ?_, rfl⟩ | refine ⟨_, rfl, Yw (by first | rfl | (simp; done) | omega) ?_, rfl⟩ | refine And.intro ?_ ?_))
        all_goals (refine rowF_snoc rfl fun b hb => ?_)
        all_goals (rcases b with _ | _ | _ | _ | b)
        all_goals first | exact Dle.refl _ | exact Dle.of_eq rfl | omega
  · have eO : mlO L i = ([⟨mco (nx L i 6).toNat, 1 + nx L (ni L i) 4⟩], [1], ni L (ni L (ni L i))) := if_neg hd
    (repeat' (first | refine Zs ?_ | refine Zk ?_ | ((first | refine Zas 12 ?_ | refine Zr ?_ | refine Zp ?_ | refine Ze ?_ | refine Zd ?_ | refine W.drawT dr13 rfl mixed rfl ?_ | refine Zn ?_ | refine Zc ?_ | refine UnK.mk (fun b hb => ?_) | refine ExCall.h [(5000, 14)] rfl k2 rfl ⟨rfl, trivial⟩ ?_ | refine CallK.h [(5000, 14)] rfl k2 rfl rfl ⟨rfl, trivial⟩ rfl rfl ?_); conv => whnf) | (refine Zb (fun h => ?_) (fun h => ?_) <;> first | exact Zx | (conv => whnf))))
    all_goals first | (exfalso; omega) | skip
    refine (W.weak ⟨[(3, .ptr 14 0), (4, .dat (bsD mcs)), (5, .own 113 4 0 us.length), (6, iA id), (7, iA (nx L i 6)), (8, .ptr 8 0)], [(14, srcE L (mlO L i).2.2), (113, .row 25 4 us.length (rowF rcE us)), (8, .blk 25 [iA id, .dat (.val (.slice none 0 0)), .own 39 2 0 (mlO L i).1.length, .own 40 1 0 (mlO L i).2.1.length]), (39, .row 31 2 (mlO L i).1.length (rowF ndE (mlO L i).1)), (40, .row 3 1 (mlO L i).2.1.length (rowF iE (mlO L i).2.1))]⟩ ?_ ?_ ?_)
    · exact Yz
    · rw [eO]
      (repeat' (first | exact trivial | exact Yr | exact Yi (by first | rfl | omega) | exact Yo (by first | rfl | omega) | exact Yd | exact Yn | exact Ye (by first | rfl | omega) | exact ⟨_, rfl, Yf, rfl⟩ | refine ⟨_, rfl, Yb ?_, rfl⟩ | refine ⟨_, rfl, Yw (by first | rfl | omega) ?_, rfl⟩ | refine And.intro ?_ ?_))
      · intro a ha b hb
        obtain rfl : a = 0 := by omega
        rcases b with _ | _ | b
        all_goals first | exact Dle.refl _ | exact Dle.of_eq rfl | omega
      · intro a ha b hb
        obtain rfl : a = 0 := by omega
        obtain rfl : b = 0 := by omega
        exact Dle.of_eq rfl
    conv => whnf
    clear eO hd
    obtain ⟨w1, w2, w3, w4, w5, w6, w7, w8⟩ := mlO_ok L i hi
    have eS : mlS L (i, id, us) = (ni L (mlI L 3 ((mlF L (nx L i 6) (mlO L i).2.2).2, (mlF L (nx L i 6) (mlO L i).2.2).1, [])).1, id + 1 + nx L (mlI L 3 ((mlF L (nx L i 6) (mlO L i).2.2).2, (mlF L (nx L i 6) (mlO L i).2.2).1, [])).1 2, us ++ [⟨id, mlE (mlI L 3 ((mlF L (nx L i 6) (mlO L i).2.2).2, (mlF L (nx L i 6) (mlO L i).2.2).1, [])).2, (mlO L i).1, (mlO L i).2.1⟩]) := rfl
    obtain ⟨s2, hs2⟩ : ∃ s2, mlS L (i, id, us) = s2 := ⟨_, rfl⟩
    rw [hs2] at p1 hst hge hgt eS
    clear hs2 k0 k1 k2 k3 k4 x1 x2 x3 x4
    generalize mlO L i = O at *
    obtain ⟨outs, sc, i5⟩ := O
    dsimp only at *
    generalize nx L i 6 = k at *
    have x5 := nx_rng L i5 (m := 2) (by decide)
    have x6 := nx_rng L (ni L i5) (m := 12) (by decide)
    have x7 := nx_rng L (ni L (ni L i5)) (m := 3) (by decide)
    have k5 := next_h L i5 2 (by omega) (by decide) (by decide)
    have k6 := next_h L (ni L i5) 12 (by omega) (by decide) (by decide)
    have k7 := next_h L (ni L (ni L i5)) 3 (by omega) (by decide) (by decide)
    obtain ⟨f1, f2, f3⟩ := mlF_ok L (k := k) x0.1 i5 w8
    have f4 : (mlF L k i5).1 ≤ 8 := by unfold mlF; split <;> simp only <;> omega
    (repeat' (first | refine Zs ?_ | refine Zk ?_ | ((first | refine Zas 15 ?_ | refine Zr ?_ | refine Zp ?_ | refine Ze ?_ | refine Zd ?_ | refine W.drawT dr13 rfl mixed rfl ?_ | refine Zn ?_ | refine Zc ?_ | refine UnK.mk (fun b hb => ?_) | refine ExCall.h [(5000, 14)] rfl k5 rfl ⟨rfl, trivial⟩ ?_ | refine CallK.h [(5000, 14)] rfl k5 rfl rfl ⟨rfl, trivial⟩ rfl rfl ?_ | refine ExCall.h [(5000, 14)] rfl k6 rfl ⟨rfl, trivial⟩ ?_ | refine CallK.h [(5000, 14)] rfl k6 rfl rfl ⟨rfl, trivial⟩ rfl rfl ?_ | refine ExCall.h [(5000, 14)] rfl k7 rfl ⟨rfl, trivial⟩ ?_ | refine CallK.h [(5000, 14)] rfl k7 rfl rfl ⟨rfl, trivial⟩ rfl rfl ?_); conv => whnf) | (refine Zb (fun h => ?_) (fun h => ?_) <;> first | exact Zx | (conv => whnf))))
    all_goals first | (exfalso; omega) | skip
    · have eF : mlF L k i5 = (nx L (ni L (ni L i5)) 3, ni L (ni L (ni L i5))) := if_pos h
      refine (W.weak ⟨[(3, .ptr 14 0), (4, .dat (bsD mcs)), (5, .own 113 4 0 us.length), (6, iA id), (9, iA (mlF L k i5).1), (8, .ptr 8 0)], [(14, srcE L (mlF L k i5).2), (113, .row 25 4 us.length (rowF rcE us)), (8, .blk 25 [iA id, .dat (.val (.slice none 0 0)), .own 39 2 0 outs.length, .own 40 1 0 sc.length]), (39, .row 31 2 outs.length (rowF ndE outs)), (40, .row 3 1 sc.length (rowF iE sc))]⟩ ?_ ?_ ?_)
      · rw [eF]
        (repeat' (first | exact trivial | exact Yr | exact Yi (by first | rfl | omega) | exact Yo (by first | rfl | omega) | exact Yd | exact Yn | exact Ye (by first | rfl | omega) | exact ⟨_, rfl, Yf, rfl⟩ | refine ⟨_, rfl, Yb ?_, rfl⟩ | refine ⟨_, rfl, Yw (by first | rfl | omega) ?_, rfl⟩ | refine And.intro ?_ ?_))
      · rw [eF]
        (repeat' (first | exact trivial | exact Yr | exact Yi (by first | rfl | omega) | exact Yo (by first | rfl | omega) | exact Yd | exact Yn | exact Ye (by first | rfl | omega) | exact ⟨_, rfl, Yf, rfl⟩ | refine ⟨_, rfl, Yb ?_, rfl⟩ | refine ⟨_, rfl, Yw (by first | rfl | omega) ?_, rfl⟩ | refine And.intro ?_ ?_))
      conv => whnf
      clear eF h
      clear k5 k6 k7 x5 x6 x7
      generalize mlF L k i5 = F at *
      obtain ⟨from1, i6⟩ := F
      dsimp only at *
      obtain ⟨J, hJ⟩ : ∃ J, mlI L 3 (i6, from1, []) = J := ⟨_, rfl⟩
      rw [hJ] at eS
      (repeat' (first | refine Zs ?_ | refine Zk ?_ | ((first | refine Za ?_ | refine Zr ?_ | refine Zp ?_ | refine Ze ?_ | refine Zd ?_ | refine W.drawT dr13 rfl mixed rfl ?_ | refine Zn ?_ | refine Zc ?_ | refine UnK.mk (fun b hb => ?_)); conv => whnf) | (refine Zb (fun h => ?_) (fun h => ?_) <;> first | exact Zx | (conv => whnf))))
      refine (W.adoptB 8 1 101 31 2 (rowF ndE []) rfl rfl rfl rfl rfl rfl ?_); conv => whnf
      refine (W.loopK (ι := Nat × MI) [3, 4, 5, 6, 8] [113, 39, 40] (fun s => [(10, iA s.2.2.1)]) (fun s => [(14, srcE L s.2.1), (8, .blk 25 [iA id, .own 101 2 0 s.2.2.2.length, .own 39 2 0 outs.length, .own 40 1 0 sc.length]), (101, .row 31 2 s.2.2.2.length (rowF ndE s.2.2.2))]) (fun s => mlI L s.1 s.2 = J ∧ s.2.1 ≤ L.length ∧ 0 ≤ s.2.2.1 ∧ s.2.2.1 ≤ 20 ∧ s.2.2.2.length ≤ 3 ∧ 3 ≤ s.2.2.2.length + s.1) (fun s => s.1) (3, i6, from1, []) ⟨hJ, f3, f1, by simp only; omega, by simp, by simp⟩ ?_ ?_ ?_)
      · exact Yz
      · exact Yz
      conv => whnf
      intro ⟨mm, j, p, is⟩ ⟨y1, y2, y3, y4, y5, y6⟩
      dsimp only at y1 y2 y3 y4 y5 y6 ⊢
      by_cases hcj : p < 8 ∧ is.length < 3
      · obtain ⟨mm, rfl⟩ : ∃ m', mm = m' + 1 := ⟨mm - 1, by omega⟩
        unfold mlI at y1
        rw [if_pos (by exact hcj)] at y1
        dsimp only at y1
        have n1 := ni_le L j y2
        have n2 := ni_le L _ n1.2.1
        have n3 := ni_le L _ n2.2.1
        have z1 := sx_rng L j (few := 4) (n := 1000000000) (by decide) (by decide)
        have z2 := nx_rng L (ni L (ni L j)) (m := 3) (by decide)
        have k8 := small_h L j 4 1000000000 (by omega) (by decide) (by decide) (by decide) (by decide)
        have k9 := next_h L (ni L (ni L j)) 3 (by omega) (by decide) (by decide)
        generalize sx L j 4 1000000000 = sv at *
        generalize nx L (ni L (ni L j)) 3 = nv at *
        generalize ni L (ni L (ni L j)) = j3 at *
        generalize ni L (ni L j) = j2 at *
        clear n1 n2 p1 hst eS
        (repeat' (first | refine Zs ?_ | refine Zk ?_ | ((first | refine Za ?_ | refine Zr ?_ | refine Zp ?_ | refine Ze ?_ | refine Zd ?_ | refine W.drawT dr13 rfl mixed rfl ?_ | refine Zn ?_ | refine Zc ?_ | refine UnK.mk (fun b hb => ?_) | refine ExCall.h [(5000, 14)] rfl k8 rfl ⟨rfl, trivial⟩ ?_ | refine CallK.h [(5000, 14)] rfl k8 rfl rfl ⟨rfl, trivial⟩ rfl rfl ?_ | refine ExCall.h [(5000, 14)] rfl k9 rfl ⟨rfl, trivial⟩ ?_ | refine CallK.h [(5000, 14)] rfl k9 rfl rfl ⟨rfl, trivial⟩ rfl rfl ?_); conv => whnf) | (refine Zb (fun h => ?_) (fun h => ?_) <;> first | exact Zx | (conv => whnf))))
        all_goals first | (exfalso; omega) | skip
        refine ⟨(mm, j3, p + 1 + nv, is ++ [⟨mco p.toNat, 1 + sv⟩]), ⟨y1, n3.2.1, by simp only; omega, by simp only; omega, by simp; omega, by simp; omega⟩, by simp only; omega, ?_, ?_, ?_, ?_⟩
        all_goals (try dsimp only)
        all_goals (repeat' (first | exact trivial | exact Yr | exact Yi (by first | rfl | (simp; done) | omega) | exact Yo (by first | rfl | (simp; done) | omega) | exact Yd | exact Yn | exact Ye (by first | rfl | (simp; done) | omega) | exact ⟨_, rfl, Yf, rfl⟩ | refine ⟨_, rfl, Yb ?_, rfl⟩ | refine ⟨_, rfl, Yw (by first | rfl | (simp; done) | omega) ?_, rfl⟩ | refine And.intro ?_ ?_))
        refine rowF_snoc rfl fun b hb => ?_
        rcases b with _ | _ | b
        all_goals first | exact Dle.refl _ | exact Dle.of_eq rfl | omega
      have y1' : J = (j, is) := by
        cases mm with
        | zero => exact y1.symm
        | succ mm =>
          unfold mlI at y1
          rw [if_neg (by exact hcj)] at y1
          exact y1.symm
      subst y1'
      dsimp only at eS
      have k8 := next_h L j 2 (by omega) (by decide) (by decide)
      have z2 := nx_rng L j (m := 2) (by decide)
      clear y1 hJ
      have eS2 : s2.1 = ni L j := by rw [eS]
      have eS3 : s2.2.1 = id + 1 + nx L j 2 := by rw [eS]
      have eS4 : s2.2.2 = us ++ [⟨id, mlE is, outs, sc⟩] := by rw [eS]
      generalize nx L j 2 = nv at *
      clear eS
      by_cases hz : is.length = 0
      · have eE : mlE is = [⟨mc9, 1⟩] := if_pos hz
        (repeat' (first | refine Zs ?_ | refine Zk ?_ | ((first | refine Zas 21 ?_ | refine Zr ?_ | refine Zp ?_ | refine Ze ?_ | refine Zd ?_ | refine W.drawT dr13 rfl mixed rfl ?_ | refine Zn ?_ | refine Zc ?_ | refine UnK.mk (fun b hb => ?_)); conv => whnf) | (refine Zb (fun h => ?_) (fun h => ?_) <;> first | exact Zx | (conv => whnf))))
        all_goals first | (exfalso; omega) | skip
        all_goals (refine W.pubC 8 1 108 rfl rfl rfl rfl ?_; conv => whnf)
        all_goals (refine W.pubC 8 2 39 rfl rfl rfl rfl ?_; conv => whnf)
        all_goals (refine W.pubC 8 3 40 rfl rfl rfl rfl ?_; conv => whnf)
        (repeat' (first | refine Zs ?_ | refine Zk ?_ | ((first | refine Za ?_ | refine Zr ?_ | refine Zp ?_ | refine Ze ?_ | refine Zd ?_ | refine W.drawT dr13 rfl mixed rfl ?_ | refine Zn ?_ | refine Zc ?_ | refine UnK.mk (fun b hb => ?_) | refine ExCall.h [(5000, 14)] rfl k8 rfl ⟨rfl, trivial⟩ ?_ | refine CallK.h [(5000, 14)] rfl k8 rfl rfl ⟨rfl, trivial⟩ rfl rfl ?_); conv => whnf) | (refine Zb (fun h => ?_) (fun h => ?_) <;> first | exact Zx | (conv => whnf))))
        all_goals (refine ⟨(m, s2), ⟨p1, hst, by simp only; omega⟩, by simp only; omega, ?_, ?_, ?_, ?_⟩)
        all_goals (try dsimp only)
        all_goals (try rw [eS2])
        all_goals (try rw [eS3])
        all_goals (try rw [eS4, eE])
        all_goals (repeat' (first | exact trivial | exact Yr | exact Yi (by first | rfl | (simp; done) | omega) | exact Yo (by first | rfl | (simp; done) | omega) | exact Yd | exact Yn | exact Ye (by first | rfl | (simp; done) | omega) | exact ⟨_, rfl, Yf, rfl⟩ | refine ⟨_, rfl, Yb ?_, rfl⟩ | refine ⟨_, rfl, Yw (by first | rfl | (simp; done) | omega) ?_, rfl⟩ | refine And.intro ?_ ?_))
        all_goals (refine rowF_snoc rfl fun b hb => ?_)
        all_goals (rcases b with _ | _ | _ | _ | b)
        all_goals first | exact Dle.refl _ | exact Dle.of_eq rfl | (exact one_nd ⟨mc9, 1⟩) | omega
      · have eE : mlE is = is := if_neg hz
        (repeat' (first | refine Zs ?_ | refine Zk ?_ | ((first | refine Zas 21 ?_ | refine Zr ?_ | refine Zp ?_ | refine Ze ?_ | refine Zd ?_ | refine W.drawT dr13 rfl mixed rfl ?_ | refine Zn ?_ | refine Zc ?_ | refine UnK.mk (fun b hb => ?_)); conv => whnf) | (refine Zb (fun h => ?_) (fun h => ?_) <;> first | exact Zx | (conv => whnf))))
        all_goals first | (exfalso; omega) | skip
        all_goals (refine W.pubC 8 1 101 rfl rfl rfl rfl ?_; conv => whnf)
        all_goals (refine W.pubC 8 2 39 rfl rfl rfl rfl ?_; conv => whnf)
        all_goals (refine W.pubC 8 3 40 rfl rfl rfl rfl ?_; conv => whnf)
        (repeat' (first | refine Zs ?_ | refine Zk ?_ | ((first | refine Za ?_ | refine Zr ?_ | refine Zp ?_ | refine Ze ?_ | refine Zd ?_ | refine W.drawT dr13 rfl mixed rfl ?_ | refine Zn ?_ | refine Zc ?_ | refine UnK.mk (fun b hb => ?_) | refine ExCall.h [(5000, 14)] rfl k8 rfl ⟨rfl, trivial⟩ ?_ | refine CallK.h [(5000, 14)] rfl k8 rfl rfl ⟨rfl, trivial⟩ rfl rfl ?_); conv => whnf) | (refine Zb (fun h => ?_) (fun h => ?_) <;> first | exact Zx | (conv => whnf))))
        all_goals (refine ⟨(m, s2), ⟨p1, hst, by simp only; omega⟩, by simp only; omega, ?_, ?_, ?_, ?_⟩)
        all_goals (try dsimp only)
        all_goals (try rw [eS2])
        all_goals (try rw [eS3])
        all_goals (try rw [eS4, eE])
        all_goals (repeat' (first | exact trivial | exact Yr | exact Yi (by first | rfl | (simp; done) | omega) | exact Yo (by first | rfl | (simp; done) | omega) | exact Yd | exact Yn | exact Ye (by first | rfl | (simp; done) | omega) | exact ⟨_, rfl, Yf, rfl⟩ | refine ⟨_, rfl, Yb ?_, rfl⟩ | refine ⟨_, rfl, Yw (by first | rfl | (simp; done) | omega) ?_, rfl⟩ | refine And.intro ?_ ?_))
        all_goals (refine rowF_snoc rfl fun b hb => ?_)
        all_goals (rcases b with _ | _ | _ | _ | b)
        all_goals first | exact Dle.refl _ | exact Dle.of_eq rfl | omega
    · have eF : mlF L k i5 = (k + 1 + nx L i5 2, ni L (ni L i5)) := if_neg h
      refine (W.weak ⟨[(3, .ptr 14 0), (4, .dat (bsD mcs)), (5, .own 113 4 0 us.length), (6, iA id), (9, iA (mlF L k i5).1), (8, .ptr 8 0)], [(14, srcE L (mlF L k i5).2), (113, .row 25 4 us.length (rowF rcE us)), (8, .blk 25 [iA id, .dat (.val (.slice none 0 0)), .own 39 2 0 outs.length, .own 40 1 0 sc.length]), (39, .row 31 2 outs.length (rowF ndE outs)), (40, .row 3 1 sc.length (rowF iE sc))]⟩ ?_ ?_ ?_)
      · rw [eF]
        (repeat' (first | exact trivial | exact Yr | exact Yi (by first | rfl | omega) | exact Yo (by first | rfl | omega) | exact Yd | exact Yn | exact Ye (by first | rfl | omega) | exact ⟨_, rfl, Yf, rfl⟩ | refine ⟨_, rfl, Yb ?_, rfl⟩ | refine ⟨_, rfl, Yw (by first | rfl | omega) ?_, rfl⟩ | refine And.intro ?_ ?_))
      · rw [eF]
        (repeat' (first | exact trivial | exact Yr | exact Yi (by first | rfl | omega) | exact Yo (by first | rfl | omega) | exact Yd | exact Yn | exact Ye (by first | rfl | omega) | exact ⟨_, rfl, Yf, rfl⟩ | refine ⟨_, rfl, Yb ?_, rfl⟩ | refine ⟨_, rfl, Yw (by first | rfl | omega) ?_, rfl⟩ | refine And.intro ?_ ?_))
      conv => whnf
      clear eF h
      clear k5 k6 k7 x5 x6 x7
      generalize mlF L k i5 = F at *
      obtain ⟨from1, i6⟩ := F
      dsimp only at *
      obtain ⟨J, hJ⟩ : ∃ J, mlI L 3 (i6, from1, []) = J := ⟨_, rfl⟩
      rw [hJ] at eS
      (repeat' (first | refine Zs ?_ | refine Zk ?_ | ((first | refine Za ?_ | refine Zr ?_ | refine Zp ?_ | refine Ze ?_ | refine Zd ?_ | refine W.drawT dr13 rfl mixed rfl ?_ | refine Zn ?_ | refine Zc ?_ | refine UnK.mk (fun b hb => ?_)); conv => whnf) | (refine Zb (fun h => ?_) (fun h => ?_) <;> first | exact Zx | (conv => whnf))))
      refine (W.adoptB 8 1 101 31 2 (rowF ndE []) rfl rfl rfl rfl rfl rfl ?_); conv => whnf
      refine (W.loopK (ι := Nat × MI) [3, 4, 5, 6, 8] [113, 39, 40] (fun s => [(10, iA s.2.2.1)]) (fun s => [(14, srcE L s.2.1), (8, .blk 25 [iA id, .own 101 2 0 s.2.2.2.length, .own 39 2 0 outs.length, .own 40 1 0 sc.length]), (101, .row 31 2 s.2.2.2.length (rowF ndE s.2.2.2))]) (fun s => mlI L s.1 s.2 = J ∧ s.2.1 ≤ L.length ∧ 0 ≤ s.2.2.1 ∧ s.2.2.1 ≤ 20 ∧ s.2.2.2.length ≤ 3 ∧ 3 ≤ s.2.2.2.length + s.1) (fun s => s.1) (3, i6, from1, []) ⟨hJ, f3, f1, by simp only; omega, by simp, by simp⟩ ?_ ?_ ?_)
      · exact Yz
      · exact Yz
      conv => whnf
      intro ⟨mm, j, p, is⟩ ⟨y1, y2, y3, y4, y5, y6⟩
      dsimp only at y1 y2 y3 y4 y5 y6 ⊢
      by_cases hcj : p < 8 ∧ is.length < 3
      · obtain ⟨mm, rfl⟩ : ∃ m', mm = m' + 1 := ⟨mm - 1, by omega⟩
        unfold mlI at y1
        rw [if_pos (by exact hcj)] at y1
        dsimp only at y1
        have n1 := ni_le L j y2
        have n2 := ni_le L _ n1.2.1
        have n3 := ni_le L _ n2.2.1
        have z1 := sx_rng L j (few := 4) (n := 1000000000) (by decide) (by decide)
        have z2 := nx_rng L (ni L (ni L j)) (m := 3) (by decide)
        have k8 := small_h L j 4 1000000000 (by omega) (by decide) (by decide) (by decide) (by decide)
        have k9 := next_h L (ni L (ni L j)) 3 (by omega) (by decide) (by decide)
        generalize sx L j 4 1000000000 = sv at *
        generalize nx L (ni L (ni L j)) 3 = nv at *
        generalize ni L (ni L (ni L j)) = j3 at *
        generalize ni L (ni L j) = j2 at *
        clear n1 n2 p1 hst eS
        (repeat' (first | refine Zs ?_ | refine Zk ?_ | ((first | refine Za ?_ | refine Zr ?_ | refine Zp ?_ | refine Ze ?_ | refine Zd ?_ | refine W.drawT dr13 rfl mixed rfl ?_ | refine Zn ?_ | refine Zc ?_ | refine UnK.mk (fun b hb => ?_) | refine ExCall.h [(5000, 14)] rfl k8 rfl ⟨rfl, trivial⟩ ?_ | refine CallK.h [(5000, 14)] rfl k8 rfl rfl ⟨rfl, trivial⟩ rfl rfl ?_ | refine ExCall.h [(5000, 14)] rfl k9 rfl ⟨rfl, trivial⟩ ?_ | refine CallK.h [(5000, 14)] rfl k9 rfl rfl ⟨rfl, trivial⟩ rfl rfl ?_); conv => whnf) | (refine Zb (fun h => ?_) (fun h => ?_) <;> first | exact Zx | (conv => whnf))))
        all_goals first | (exfalso; omega) | skip
        refine ⟨(mm, j3, p + 1 + nv, is ++ [⟨mco p.toNat, 1 + sv⟩]), ⟨y1, n3.2.1, by simp only; omega, by simp only; omega, by simp; omega, by simp; omega⟩, by simp only; omega, ?_, ?_, ?_, ?_⟩
        all_goals (try dsimp only)
        all_goals (repeat' (first | exact trivial | exact Yr | exact Yi (by first | rfl | (simp; done) | omega) | exact Yo (by first | rfl | (simp; done) | omega) | exact Yd | exact Yn | exact Ye (by first | rfl | (simp; done) | omega) | exact ⟨_, rfl, Yf, rfl⟩ | refine ⟨_, rfl, Yb ?_, rfl⟩ | refine ⟨_, rfl, Yw (by first | rfl | (simp; done) | omega) ?_, rfl⟩ | refine And.intro ?_ ?_))
        refine rowF_snoc rfl fun b hb => ?_
        rcases b with _ | _ | b
        all_goals first | exact Dle.refl _ | exact Dle.of_eq rfl | omega
      have y1' : J = (j, is) := by
        cases mm with
        | zero => exact y1.symm
        | succ mm =>
          unfold mlI at y1
          rw [if_neg (by exact hcj)] at y1
          exact y1.symm
      subst y1'
      dsimp only at eS
      have k8 := next_h L j 2 (by omega) (by decide) (by decide)
      have z2 := nx_rng L j (m := 2) (by decide)
      clear y1 hJ
      have eS2 : s2.1 = ni L j := by rw [eS]
      have eS3 : s2.2.1 = id + 1 + nx L j 2 := by rw [eS]
      have eS4 : s2.2.2 = us ++ [⟨id, mlE is, outs, sc⟩] := by rw [eS]
      generalize nx L j 2 = nv at *
      clear eS
      by_cases hz : is.length = 0
      · have eE : mlE is = [⟨mc9, 1⟩] := if_pos hz
        (repeat' (first | refine Zs ?_ | refine Zk ?_ | ((first | refine Zas 21 ?_ | refine Zr ?_ | refine Zp ?_ | refine Ze ?_ | refine Zd ?_ | refine W.drawT dr13 rfl mixed rfl ?_ | refine Zn ?_ | refine Zc ?_ | refine UnK.mk (fun b hb => ?_)); conv => whnf) | (refine Zb (fun h => ?_) (fun h => ?_) <;> first | exact Zx | (conv => whnf))))
        all_goals first | (exfalso; omega) | skip
        all_goals (refine W.pubC 8 1 108 rfl rfl rfl rfl ?_; conv => whnf)
        all_goals (refine W.pubC 8 2 39 rfl rfl rfl rfl ?_; conv => whnf)
        all_goals (refine W.pubC 8 3 40 rfl rfl rfl rfl ?_; conv => whnf)
        (repeat' (first | refine Zs ?_ | refine Zk ?_ | ((first | refine Za ?_ | refine Zr ?_ | refine Zp ?_ | refine Ze ?_ | refine Zd ?_ | refine W.drawT dr13 rfl mixed rfl ?_ | refine Zn ?_ | refine Zc ?_ | refine UnK.mk (fun b hb => ?_) | refine ExCall.h [(5000, 14)] rfl k8 rfl ⟨rfl, trivial⟩ ?_ | refine CallK.h [(5000, 14)] rfl k8 rfl rfl ⟨rfl, trivial⟩ rfl rfl ?_); conv => whnf) | (refine Zb (fun h => ?_) (fun h => ?_) <;> first | exact Zx | (conv => whnf))))
        all_goals (refine ⟨(m, s2), ⟨p1, hst, by simp only; omega⟩, by simp only; omega, ?_, ?_, ?_, ?_⟩)
        all_goals (try dsimp only)
        all_goals (try rw [eS2])
        all_goals (try rw [eS3])
        all_goals (try rw [eS4, eE])
        all_goals (repeat' (first | exact trivial | exact Yr | exact Yi (by first | rfl | (simp; done) | omega) | exact Yo (by first | rfl | (simp; done) | omega) | exact Yd | exact Yn | exact Ye (by first | rfl | (simp; done) | omega) | exact ⟨_, rfl, Yf, rfl⟩ | refine ⟨_, rfl, Yb ?_, rfl⟩ | refine ⟨_, rfl, Yw (by first | rfl | (simp; done) | omega) ?_, rfl⟩ | refine And.intro ?_ ?_))
        all_goals (refine rowF_snoc rfl fun b hb => ?_)
        all_goals (rcases b with _ | _ | _ | _ | b)
        all_goals first | exact Dle.refl _ | exact Dle.of_eq rfl | (exact one_nd ⟨mc9, 1⟩) | omega
      · have eE : mlE is = is := if_neg hz
        (repeat' (first | refine Zs ?_ | refine Zk ?_ | ((first | refine Zas 21 ?_ | refine Zr ?_ | refine Zp ?_ | refine Ze ?_ | refine Zd ?_ | refine W.drawT dr13 rfl mixed rfl ?_ | refine Zn ?_ | refine Zc ?_ | refine UnK.mk (fun b hb => ?_)); conv => whnf) | (refine Zb (fun h => ?_) (fun h => ?_) <;> first | exact Zx | (conv => whnf))))
        all_goals first | (exfalso; omega) | skip
        all_goals (refine W.pubC 8 1 101 rfl rfl rfl rfl ?_; conv => whnf)
        all_goals (refine W.pubC 8 2 39 rfl rfl rfl rfl ?_; conv => whnf)
        all_goals (refine W.pubC 8 3 40 rfl rfl rfl rfl ?_; conv => whnf)
        (repeat' (first | refine Zs ?_ | refine Zk ?_ | ((first | refine Za ?_ | refine Zr ?_ | refine Zp ?_ | refine Ze ?_ | refine Zd ?_ | refine W.drawT dr13 rfl mixed rfl ?_ | refine Zn ?_ | refine Zc ?_ | refine UnK.mk (fun b hb => ?_) | refine ExCall.h [(5000, 14)] rfl k8 rfl ⟨rfl, trivial⟩ ?_ | refine CallK.h [(5000, 14)] rfl k8 rfl rfl ⟨rfl, trivial⟩ rfl rfl ?_); conv => whnf) | (refine Zb (fun h => ?_) (fun h => ?_) <;> first | exact Zx | (conv => whnf))))
        all_goals (refine ⟨(m, s2), ⟨p1, hst, by simp only; omega⟩, by simp only; omega, ?_, ?_, ?_, ?_⟩)
        all_goals (try dsimp only)
        all_goals (try rw [eS2])
        all_goals (try rw [eS3])
        all_goals (try rw [eS4, eE])
        all_goals (repeat' (first | exact trivial | exact Yr | exact Yi (by first | rfl | (simp; done) | omega) | exact Yo (by first | rfl | (simp; done) | omega) | exact Yd | exact Yn | exact Ye (by first | rfl | (simp; done) | omega) | exact ⟨_, rfl, Yf, rfl⟩ | refine ⟨_, rfl, Yb ?_, rfl⟩ | refine ⟨_, rfl, Yw (by first | rfl | (simp; done) | omega) ?_, rfl⟩ | refine And.intro ?_ ?_))
        all_goals (refine rowF_snoc rfl fun b hb => ?_)
        all_goals (rcases b with _ | _ | _ | _ | b)
        all_goals first | exact Dle.refl _ | exact Dle.of_eq rfl | omega
end Go.Proofs.Ytoeghejbgibioaa
