/- Settling reaches the most: the law. -/
import Derived.Test.YtoeghejbgibioaaMB
import Derived.Test.YtoeghejbgibioaaMD
import Derived.Test.YtoeghejbgibioaaQ4
import Derived.Test.YtoeghejbgibioaaS0
namespace Go.Proofs.Ytoeghejbgibioaa
open Go Go.RowKit
set_option linter.unusedVariables false
set_option linter.unusedSimpArgs false
set_option maxRecDepth 100000
set_option maxHeartbeats 4000000
attribute [local irreducible] ResLe AVle ArgLe ArgP EntLe Dle ResH ArgQ strEq strLt

theorem lawMost_t (x0 x1 : List Int) (a2 a3 : Int) (k0 : x0.length ≤ 9223372036854775807) (k1 : x1.length ≤ 9223372036854775807) :
    ACalls XX 7 [.dat (ilst x0), .dat (ilst x1), iA a2, iA a3] (bA true) := by
  obtain ⟨is, d1, o1, li, hd⟩ := dates_t x0 k0
  obtain ⟨es, d2, o2, le, he⟩ := dates_t x1 k1
  have ha := within_t a2 12 (by decide) (by decide)
  have hb := within_t a3 12 (by decide) (by decide)
  have h1 := o1.err
  have h2 := o2.err
  obtain ⟨af, hae⟩ : ∃ af, a2 % 12 = af := ⟨_, rfl⟩
  obtain ⟨bf, hbe⟩ : ∃ bf, a3 % 12 = bf := ⟨_, rfl⟩
  rw [hae] at ha
  rw [hbe] at hb
  have haf : 0 ≤ af ∧ af ≤ 36524 := by omega
  have hbf : 0 ≤ bf ∧ bf ≤ 36524 := by omega
  clear hae hbe o1 o2
  have hL := settle_best h1 h2 af bf
  have k := ysettle_t is es af bf (by omega) (by omega) h1 h2 haf hbf
  have km := most_t is es af bf (by omega) (by omega) h1 h2 haf hbf hL
  have hLl : (seI is es af bf is.length).2.length ≤ 40 * 40 := Nat.le_trans (seI_ok h1 h2 af bf is.length).out (Nat.mul_le_mul le li)
  generalize (seI is es af bf is.length).2 = L at *
  refine ACalls.of (n := Try.f7.ntmps) XX_ok Try.func7 rfl (by kernel_rfl) rfl rfl (Nat.le_of_ble_eq_true rfl) ?_
  (repeat' (first | ((first | refine Zg ?_ | refine Zt dr7 ?_ | refine Zn ?_ | refine Zc ?_ | refine Zu fun b hb => ?_ | refine Zy hd ?_ | refine Zz hd ?_ | refine Zy he ?_ | refine Zz he ?_ | refine Zy ha ?_ | refine Zz ha ?_ | refine Zy hb ?_ | refine Zz hb ?_ | refine Zy k ?_ | refine Zz k ?_); conv => whnf) | (refine Zb (fun h => ?_) (fun h => ?_) <;> first | exact Zx | (conv => whnf))))
  all_goals first | (exfalso; omega) | skip
  refine W.loopK (ι := Nat × List Int × List Int × Int) [2, 3, 9, 10, 11, 13, 14] [] (fun y => [(16, iA y.1), (15, iA y.2.2.2)]) (fun y => [(41, .row 3 1 is.length (rowF iE y.2.1)), (44, .row 3 1 es.length (rowF iE y.2.2.1))])
    (fun y => y.1 ≤ L.length ∧ SmOk is es L y.1 y.2.1 y.2.2.1 y.2.2.2) (fun y => L.length - y.1) (0, List.replicate is.length 0, List.replicate es.length 0, 0) ⟨Nat.zero_le _, SmOk.nil L⟩ ?_ ?_ ?_
  · exact Yz
  · (repeat' (first | exact Yq | refine ⟨_, rfl, Yb ?_, rfl⟩ | refine ⟨_, rfl, Yw (by first | rfl | omega) ?_, rfl⟩ | refine And.intro ?_ ?_))
    · exact row_nil _ fun _ => rfl
    · exact row_nil _ fun _ => rfl
  conv => whnf
  rintro ⟨k, hv, lv, S⟩ ⟨hk, hS⟩
  simp only at hk hS
  by_cases hk' : k < L.length
  · have hdm := hL.dom _ (mt_mem hk')
    have hr := hS.rng hL h1 h2 hk'
    have hs := hS.step hL hk'
    have hl1 := hS.hl
    have hl2 := hS.ll
    (repeat' (first | ((first | refine Zv 12 ?_ | refine Zt dr7 ?_ | refine Zn ?_ | refine Zc ?_ | refine Zu fun b hb => ?_); conv => whnf) | (refine Zb (fun h => ?_) (fun h => ?_) <;> first | exact Zx | (conv => whnf))))
    all_goals (try dsimp only [Int.toNat_natCast] at *)
    (repeat' (first | ((first | refine Zv 12 ?_ | refine Zt dr7 ?_ | refine Zn ?_ | refine Zc ?_ | refine Zu fun b hb => ?_); conv => whnf) | (refine Zb (fun h => ?_) (fun h => ?_) <;> first | exact Zx | (conv => whnf))))
    all_goals first | (exfalso; omega) | skip
    generalize L.getD k default = x at *
    obtain ⟨q1, q2, q3, q4, q5, q6⟩ := hdm
    unfold inW at q6
    have hdi := dtErr_getD h1 x.a.toNat
    have hdk := dtErr_getD h2 x.b.toNat
    have e1 : hv.getD (0 + x.a.toNat) default = hv.getD x.a.toNat 0 := by rw [Nat.zero_add]; rfl
    have e2 : lv.getD (0 + x.b.toNat) default = lv.getD x.b.toNat 0 := by rw [Nat.zero_add]; rfl
    (repeat' (first | ((first | refine Zg ?_ | refine Zt dr7 ?_ | refine Zn ?_ | refine Zc ?_ | refine Zu fun b hb => ?_); conv => whnf) | (refine Zb (fun h => ?_) (fun h => ?_) <;> first | exact Zx | (conv => whnf))))
    all_goals (try dsimp only [Int.toNat_natCast] at *)
    (repeat' (first | ((first | refine Zg ?_ | refine Zt dr7 ?_ | refine Zn ?_ | refine Zc ?_ | refine Zu fun b hb => ?_); conv => whnf) | (refine Zb (fun h => ?_) (fun h => ?_) <;> first | exact Zx | (conv => whnf))))
    all_goals first | (exfalso; omega) | skip
    refine ⟨(k + 1, hv.set x.a.toNat (hv.getD x.a.toNat 0 + x.q), lv.set x.b.toNat (lv.getD x.b.toNat 0 + x.q), S + x.q), ⟨by simp only; omega, hs⟩, by simp only; omega, ?_, ?_, ?_, ?_⟩
    all_goals (repeat' (first | exact Yq | refine ⟨_, rfl, Yb ?_, rfl⟩ | refine ⟨_, rfl, Yw (by first | rfl | omega) ?_, rfl⟩ | refine And.intro ?_ ?_))
    · exact row_set (Nat.zero_add _) (by omega) hl1.symm
    · exact row_set (Nat.zero_add _) (by omega) hl2.symm
  obtain rfl : k = L.length := by omega
  obtain ⟨hr, hc, hT⟩ := hS.all hL
  have hl1 := hS.hl
  have hl2 := hS.ll
  clear hS
  (repeat' (first | ((first | refine Zg ?_ | refine Zt dr7 ?_ | refine Zn ?_ | refine Zc ?_ | refine Zu fun b hb => ?_); conv => whnf) | (refine Zb (fun h => ?_) (fun h => ?_) <;> first | exact Zx | (conv => whnf))))
  all_goals (try dsimp only [Int.toNat_natCast] at *)
  (repeat' (first | ((first | refine Zg ?_ | refine Zt dr7 ?_ | refine Zn ?_ | refine Zc ?_ | refine Zu fun b hb => ?_); conv => whnf) | (refine Zb (fun h => ?_) (fun h => ?_) <;> first | exact Zx | (conv => whnf))))
  all_goals first | (exfalso; omega) | skip
  refine W.loopK (ι := Nat) [2, 3, 9, 10, 13, 14, 15] [41, 44] (fun i => [(19, iA i)]) (fun _ => []) (fun i => i ≤ is.length) (fun i => is.length - i) 0 (Nat.zero_le _) ?_ ?_ ?_
  · exact Yz
  · exact Yz
  conv => whnf
  intro i hi
  by_cases hi' : i < is.length
  · have e1 : hv.getD (0 + i) default ≤ (is.getD i default).q := by rw [Nat.zero_add]; exact hr i hi'
    (repeat' (first | ((first | refine Zg ?_ | refine Zt dr7 ?_ | refine Zn ?_ | refine Zc ?_ | refine Zu fun b hb => ?_); conv => whnf) | (refine Zb (fun h => ?_) (fun h => ?_) <;> first | exact Zx | (conv => whnf))))
    all_goals (try dsimp only [Int.toNat_natCast] at *)
    (repeat' (first | ((first | refine Zg ?_ | refine Zt dr7 ?_ | refine Zn ?_ | refine Zc ?_ | refine Zu fun b hb => ?_); conv => whnf) | (refine Zb (fun h => ?_) (fun h => ?_) <;> first | exact Zx | (conv => whnf))))
    all_goals first | (exfalso; omega) | skip
    refine ⟨i + 1, by omega, by omega, ?_, ?_, ?_, ?_⟩
    all_goals exact Yz
  obtain rfl : i = is.length := by omega
  (repeat' (first | ((first | refine Zg ?_ | refine Zt dr7 ?_ | refine Zn ?_ | refine Zc ?_ | refine Zu fun b hb => ?_); conv => whnf) | (refine Zb (fun h => ?_) (fun h => ?_) <;> first | exact Zx | (conv => whnf))))
  all_goals (try dsimp only [Int.toNat_natCast] at *)
  (repeat' (first | ((first | refine Zg ?_ | refine Zt dr7 ?_ | refine Zn ?_ | refine Zc ?_ | refine Zu fun b hb => ?_); conv => whnf) | (refine Zb (fun h => ?_) (fun h => ?_) <;> first | exact Zx | (conv => whnf))))
  all_goals first | (exfalso; omega) | skip
  refine W.loopK (ι := Nat) [2, 3, 9, 10, 14, 15] [44] (fun i => [(20, iA i)]) (fun _ => []) (fun i => i ≤ es.length) (fun i => es.length - i) 0 (Nat.zero_le _) ?_ ?_ ?_
  · exact Yz
  · exact Yz
  conv => whnf
  intro i hi
  by_cases hi' : i < es.length
  · have e1 : lv.getD (0 + i) default ≤ (es.getD i default).q := by rw [Nat.zero_add]; exact hc i hi'
    (repeat' (first | ((first | refine Zg ?_ | refine Zt dr7 ?_ | refine Zn ?_ | refine Zc ?_ | refine Zu fun b hb => ?_); conv => whnf) | (refine Zb (fun h => ?_) (fun h => ?_) <;> first | exact Zx | (conv => whnf))))
    all_goals (try dsimp only [Int.toNat_natCast] at *)
    (repeat' (first | ((first | refine Zg ?_ | refine Zt dr7 ?_ | refine Zn ?_ | refine Zc ?_ | refine Zu fun b hb => ?_); conv => whnf) | (refine Zb (fun h => ?_) (fun h => ?_) <;> first | exact Zx | (conv => whnf))))
    all_goals first | (exfalso; omega) | skip
    refine ⟨i + 1, by omega, by omega, ?_, ?_, ?_, ?_⟩
    all_goals exact Yz
  obtain rfl : i = es.length := by omega
  subst hT
  (repeat' (first | ((first | refine Zg ?_ | refine Zt dr7 ?_ | refine Zn ?_ | refine Zc ?_ | refine Zu fun b hb => ?_ | refine Zy km ?_ | refine Zz km ?_ | refine Zy sm_awake ?_ | refine Zz sm_awake ?_); conv => whnf) | (refine Zb (fun h => ?_) (fun h => ?_) <;> first | exact Zx | (conv => whnf))))
  all_goals (try dsimp only [Int.toNat_natCast] at *)
  (repeat' (first | ((first | refine Zg ?_ | refine Zt dr7 ?_ | refine Zn ?_ | refine Zc ?_ | refine Zu fun b hb => ?_ | refine Zy km ?_ | refine Zz km ?_ | refine Zy sm_awake ?_ | refine Zz sm_awake ?_); conv => whnf) | (refine Zb (fun h => ?_) (fun h => ?_) <;> first | exact Zx | (conv => whnf))))
  all_goals first | (exfalso; omega) | ((repeat' (first | exact Zrq | refine ResLe.agg ?_ | refine And.intro ?_ ?_ | ((conv => whnf); first | exact Zrq | refine ResLe.agg ?_ | refine And.intro ?_ ?_))); done)
end Go.Proofs.Ytoeghejbgibioaa
